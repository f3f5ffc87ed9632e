/- A part of the proof of ExistenceOne: KN, KP, VO, CK, KQ, KR, KS, KT, CS, KU, SD, SE, SF, ZFC. -/
import Derived.Test.YtdbdoalefmliiaaGreatDoorPkE3
import Derived.Test.YtdbdoalefmliiaaGreatDoorPkE6
import Derived.Test.YtdbdoalefmliiaaGreatDoorPkE5
import Derived.Test.YtdbdoalefmliiaaGreatDoorPkE4
import Derived.Shelf.SlSortCmp.WholeK
import Derived.Test.YtdbdoalefmliiaaGreatDoorChecked
import Derived.Lib.QuietBelow
set_option linter.unusedSimpArgs false
set_option linter.unusedVariables false
set_option maxRecDepth 100000
open Go.IntKind renaming i64 → w6
open Go.QfSy.Con renaming zero → z0c
open Go.QfSy.Loc renaming zero → z0l
noncomputable section
namespace Go.Proofs.YtdbdoalefmliiaaGreatDoor.S
open Go.QfSy Go.RowKit
noncomputable def tl (n d p:Nat):cw:=az (jk (d:Int) (p:Int)) 102 0 n (vv p d).1 [] none
noncomputable def b7 (n d p:Nat):LL:=ab (tl n d p)
theorem NS (n d p:Nat)(hn:1≤n∧n≤8)(hd:0<d∧d≤10000)(hp:2≤p∧p≤2147483647∧p%2≠0)(hl:(b7 n d p).length≤50000):ax Tryz.prog [] 10 [.int .i64 (n:Int),.int .i64 (d:Int),.int .i64 (p:Int)] (iz (b7 n d p)):=by
 have hv:(vv p d).1≤40:=A3 40 p d
 have hcc:bK false (d:Int) (p:Int) 102 0 n (vv p d).1 [] none:=⟨om,om,by show 0+n≤10;omega,fun _=>hn.1,fun c hc=>(nomatch hc),om,om,hl,⟨om,om⟩,fun _=>⟨om,om,by rw[cg];exact hp.2.2⟩⟩
 refine pr (cF (cD (nw false (d:Int) (p:Int) (Al false (d:Int) (p:Int) 102) js) (eE CY))) Tryz.func10 aE ?_
 refine(let y1:List Prop:=[(2:Int)≤↑p∧(0:Int)<↑d∧(↑d:Int)≤2147483647];have u1:ar y1:=(?_:(2:Int)≤↑p∧(0:Int)<↑d∧(↑d:Int)≤2147483647);oe (Option.isNone (az (jk (↑d:Int) (↑p:Int)) (102:Nat) (Int.toNat (0:Int)) n (vv p d).fst (bu none) none)) (fun d1=>lr [true] (let v1:=Int.toNat (0:Int);((b7 n d p).length=0)::(bK false (↑d:Int) (↑p:Int) (102:Nat) v1 n (vv p d).fst [] none∧(fun e n a=>(0:Nat)<n∧n*e≤a) v1 n (vv p d).fst)::((0:Int)=↑v1)::rq (↑n:Int)::rq (↑(vv p d).fst:Int)::rq (↑d:Int)::rq (↑p:Int)::ty d1::y1) ⟨?_,?_,?_,?_,?_,?_,?_,d1,u1⟩)
  (fun d1=>lr [false] (let v1:=Int.toNat (0:Int);let v2:=jk (↑d:Int) (↑p:Int);((ab (az v2 (102:Nat) v1 n (vv p d).fst (bu none) none)).length=(b7 n d p).length∧(ab (az v2 (102:Nat) v1 n (vv p d).fst (bu none) none)).length=(ab (az v2 (102:Nat) v1 n (vv p d).fst (bu none) none)).length∧∀(i:Nat),i<(ab (az v2 (102:Nat) v1 n (vv p d).fst (bu none) none)).length→(fun i=>((b7 n d p).getD i Loc.zero).rvs) i=ae.loc.rvs ((ab (az v2 (102:Nat) v1 n (vv p d).fst (bu none) none)).getD i ae.loc.zero))::(bK false (↑d:Int) (↑p:Int) (102:Nat) v1 n (vv p d).fst [] none∧(fun e n a=>(0:Nat)<n∧n*e≤a) v1 n (vv p d).fst)::((0:Int)=↑v1)::rq (↑n:Int)::rq (↑(vv p d).fst:Int)::rq (↑d:Int)::rq (↑p:Int)::ty d1::y1) ⟨?_,?_,?_,?_,?_,?_,?_,d1,u1⟩))
 all_goals first|(first|exact tv|exact⟨hcc,hn.1,bQ _⟩|exact⟨om,om,om⟩|(show(ab (tl n d p)).length=0;rw[show tl n d p=none from isN d1];rfl)|exact uc)
def Jh (n D:Int)(C:LL):cS:=⟨13,[.agg [vi n,vi D,.lo 1000 C.length]],[(1000,nN C)],1100,none,fun _=>(.agg [vi n,vi D,.lo 1150 C.length],[(1000,nN C),(1150,nN C)],1900)⟩
def Ji (C:LL)(i:AV):List (Nat×AV):=[(1,.ptr 1100 0),(2,.ptr 1101 0),(10,.lo 1103 C.length),(11,vi C.length),(12,i)]
def Bx (n D:Int)(C:LL):List (Nat×ag):=[(1000,nN C),(1100,cN [vi n,vi D,.lo 1103 C.length] 29),(1101,cN [.int .i64 0,.int .i64 0,.nils] 29),(1103,nN C)]
def X8 (n D:Int)(C:LL):aO:=⟨⟨Ji C (.int .i64 0),Bx n D C,1104⟩,none,fun _=>(.exit 0,⟨[(1,.ptr 1100 0),(2,.ptr 1101 0)],Bx n D C,1104⟩)⟩
theorem EX {C:LL}{k:Nat}(hk:k<C.length):C.getD k QfSy.Loc.zero∈C:=by
 rw[ev,gS hk];exact jF hk
theorem N5 {C:LL}{k:Nat}(hk:k<C.length):C.set k ⟨(C.getD k QfSy.Loc.zero).prime,aF (C.getD k QfSy.Loc.zero).list.length fun i=>((C.getD k QfSy.Loc.zero).list.getD i Con.zero).rvs⟩=C:=by
 rw[cb]
 show C.set k (C.getD k QfSy.Loc.zero)=C
 rw[ev,gS hk]
 exact List.set_getElem_self hk
def l7 (C:LL):Prop:=∀l∈C,0<l.list.length∧l.list.length≤1000
theorem Py (n D:Int)(C:LL)(hC:0<C.length∧C.length≤1000)(hL:l7 C):An 1 Tryz.f13 [0,1,0,1,1] (X8 n D C):=by
 refine fj c0 aE (fun(k:Nat)=>(⟨Ji C (vi k),Bx n D C,1104⟩:St)) (fun(k:Nat)=>(C.length-k:Nat)) (fun(k:Nat)=>(k≤C.length:Prop)) ?_ ?_
 ·exact st (0) [rq C.length,rq (↑C.length:Int),(0:Int)=↑(0:Nat),C=C,n=n,D=D,rq C.length,C=C] (by refine⟨?_,?_,?_,?_,?_,?_,?_,(?_:C=C)⟩<;>(first|exact tz|rfl)) (by exact bQ _)
 ·intro k hI
  have ht:k≤C.length:=hI
  have ek:IntKind.i64.wrap ((k:Int)+1)=((k+1:Nat):Int):=by rw[wo];omega
  refine(let q1:List Prop→List Prop:=fun l0=>rq C.length::rq (↑C.length:Int)::(IntKind.i64.wrap ((↑k:Int)+1)=↑(k+1))::(C=C)::(n=n)::(D=D)::rq C.length::l0;oe (decide ((↑k:Int)<↑C.length)) (fun d1=>let y1:List Prop:=[(0:Nat)<(C.getD k ae.loc.zero).list.length,k<C.length,(0:Int)≤↑k∧(↑k:Int)<↑C.length,ty d1];have u1:ar y1:=⟨?_,?_,?_,d1⟩;oe ((C.getD k ae.loc.zero).list.length.beq (0:Nat)) (fun d2=>aH [true,true] (k+1) (q1 (let v1:=C.getD k ae.loc.zero;(C.set k (Loc.mk v1.prime [])=C)::(k<C.length)::((0:Int)≤↑k∧(↑k:Int)<↑C.length)::rq C.length::(∀(i:Nat),i<v1.list.length→(fun i=>(v1.list.getD i Con.zero).rvs) i=(Con.ofR ((fun i=>(v1.list.getD i Con.zero).rvs) i)).rvs)::ty d2::y1)) ?_ ?_ ?_)
   (fun d2=>aH [true,false] (k+1) (q1 (let v1:=C.getD k ae.loc.zero;let v2:=aF v1.list.length fun i=>(v1.list.getD i Con.zero).rvs;(C.set k (Loc.mk v1.prime v2)=C)::(k<C.length)::(v1.list.length=v2.length)::((0:Int)≤↑k∧(↑k:Int)<↑C.length)::rq C.length::((0:Nat)<v1.list.length∧v1.list.length≤1000000)::(∀(i:Nat),i<v1.list.length→(fun i=>(v1.list.getD i Con.zero).rvs) i=(Con.ofR ((fun i=>(v1.list.getD i Con.zero).rvs) i)).rvs)::ty d2::y1)) ?_ ?_ ?_))
   (fun d1=>b9 [false] [C=C,n=n,D=D,rq C.length,C=C,ty d1] ?_))
  all_goals with_reducible repeat' first|exact dA|refine bx ?_ ?_|refine bz ?_
  all_goals((try clear u1);(try clear y1))
  all_goals first|exact Ks|exact KM|exact fu|(first|exact tz|exact ek|(have hk:k<C.length:=iC;have h8:0<(C.getD k ae.loc.zero).list.length∧(C.getD k ae.loc.zero).list.length≤1000:=hL _ (EX hk);first|exact fun _ _=>rfl|omega|(rw[cb];done)|exact N5 hk|exact⟨h8.1,om⟩|(exfalso;have h9:=co d2;omega)))
theorem T7 (n D:Int)(C:LL)(hC:0<C.length∧C.length≤1000)(hL:l7 C):aP Tryz.prog EV.ng (Jh n D C):=by
 have hb:C.length.beq 0=false:=(by cases hq:C.length.beq 0 with
  |false=>rfl
  |true=>have:=co hq;omega)
 refine cT c0 Tryz.func13 (bX (Py n D C hC hL)) ?_
 intro d hd
 cases d
 ·exact Bool.noConfusion (show false=true from hd)
 ·refine lr [false] [n=n,D=D,rq C.length,C=C,C=C,rq C.length,rq (↑C.length:Int),C=C,n=n,D=D,rq C.length,C=C,(0:Nat)<C.length∧C.length≤1000000,rq C.length,aa (C.length.beq (0:Nat)) false] ⟨?_,?_,?_,?_,?_,?_,?_,?_,?_,?_,?_,?_,?_,?_,hb⟩
  all_goals first|(refine a8.mk ?_;((exact(5:Nat))))|(first|exact tz|exact⟨hC.1,om⟩|rfl)
def ef (q:Int):Nat→Int
 |0=>1
 |j+1=>(ef q j*q)%8
def oI (p:Int)(c:Con):Int:=c.dim*(ef (p%8) c.exp.toNat-1)+(bif decide (c.exp%2=1)&&decide (c.sign=-1)then 4 else 0)
def eT (p:Int)(L:LC):Nat→Int
 |0=>0
 |k+1=>eT p L k+oI p (at_ L k)
def lJ (l:QfSy.Loc):Int:=eT l.prime l.list l.list.length%8
theorem wq {q:Int}(hq:0≤q)(ho:q%2=1):∀j,1≤ef q j∧ef q j≤7∧ef q j%2=1
 |0=>by simp[ef]
 |j+1=>by
  obtain⟨h1,h2,h3⟩:=wq hq ho j
  have:(ef q j*q)%2=1:=by rw[Int.mul_emod,h3,ho];rfl
  unfold ef
  omega
def GN:List cq:=[
 ⟨77,[aL],fun A=>match A with
  |[.agg [.int .i64 p,.sl n 5 row]]=>some (.bool (dE p (aF n row)),[(∀i,i<n→row i=(Con.ofR (row i)).rvs)∧n≤1000])
  |_=>none⟩]
theorem Nq:∀e∈GN,cJ Tryz.prog e:=by
 intro e he
 simp only[GN,bC,cU,cY]at he
 subst he
 intro A R ms h hm
 simp only at h
 split at h
 ·cases h
  obtain⟨h1,h2⟩:=aA hm
  exact ax.imp (Ff _ _ j9) (.cons (.agg (.cons .same (.cons (.con h1) .nil))) .nil)
 ·cases h
def rJ (p:Int)(L:LC):List (Nat×ag):=(1000,⟨.plain [vi p,(bg L).av],50,0,false,true⟩)::iW
def xP (L:LC)(e k:AV):List (Nat×AV):=[(1,.ptr 1000 0),(4,e),(12,(bg L).av),(13,vi L.length),(14,k)]
def Cc (c:Con):Nat×ag:=(1010,⟨.plain (RV.avl c.rvs),81,0,false,true⟩)
def Lh (L:LC)(e:Int)(k:Nat)(c:Con)(w j:AV):List (Nat×AV):=xP L (vi e) (vi k)++[(6,.ptr 1010 0),(7,w),(19,vi c.exp),(20,j)]
def IW (p:Int)(L:LC)(e:Int)(k:Nat)(c:Con):aO:=⟨⟨Lh L e k c (.int .i64 1) (.int .i64 0),rJ p L++[Cc c],1101⟩,none,fun _=>(.exit 2,⟨xP L (vi e) (vi k)++[(6,.ptr 1010 0),(7,vi (ef (p%8) c.exp.toNat))],rJ p L++[Cc c],1101⟩)⟩
theorem XQ {p:Int}(hp:2<p)(ho:p.toNat%2≠0)(j:Nat):(w6.wrap (ef (p%8) j*p.tmod 8)).tmod 8=ef (p%8) (j+1):=by
 have h:=wq (q:=p%8) om om j
 rw[iE (a:=p) om]
 have h2:0≤ef (p%8) j*(p%8)∧ef (p%8) j*(p%8)≤49:=by
  refine⟨Int.mul_nonneg om om,?_⟩
  have:=Int.mul_le_mul (a:=ef (p%8) j) (b:=p%8) (c:=7) (d:=7) om om om om
  omega
 show _=(ef (p%8) j*(p%8))%8
 generalize ef (p%8) j*(p%8)=m at h2
 rw[wo,iE om]
theorem Wo (p:Int)(L:LC)(e:Int)(k:Nat)(c:Con)(hp:2<p∧p≤9973∧p.toNat%2≠0)(hc:0≤c.exp∧c.exp≤1000):An 1 Tryz.f42 [0,1,0,1,1,0,0,1,1,0,0,1,0,1,1,1] (IW p L e k c):=by
 refine fj c0 aE (fun(j:Nat)=>(⟨Lh L e k c (vi (ef (p%8) j)) (vi j),rJ p L++[Cc c],1101⟩:St)) (fun(j:Nat)=>(c.exp.toNat-j:Nat)) (fun(j:Nat)=>(j≤c.exp.toNat:Prop)) ?_ ?_
 ·exact st (0) [e=e,lq L,rq (↑L.length:Int),rq (↑k:Int),(1:Int)=ef (p%(8:Int)) (0:Nat),c.exp=c.exp,(0:Int)=↑(0:Nat),p=p,lq L,c.exp=c.exp,c.dim=c.dim,rq c.sign,c.odd=c.odd,rq c.oddity] (by refine⟨?_,?_,?_,?_,?_,?_,?_,?_,?_,?_,?_,?_,?_,(?_:c.oddity=c.oddity)⟩<;>(first|exact tz|rfl)) (by exact bQ _)
 ·intro j hI
  have ht:j≤c.exp.toNat:=hI
  have he:=hc
  have ek:=wk j
  refine(let q1:List Prop→List Prop:=fun l0=>(e=e)::(lq L)::rq (↑L.length:Int)::rq (↑k:Int)::l0;oe (decide ((↑j:Int)<c.exp)) (fun d1=>aH [true] (j+1) (q1 [(w6.wrap (ef (p%(8:Int)) j*p.tmod (8:Int))).tmod (8:Int)=ef (p%(8:Int)) (j+1),c.exp=c.exp,w6.wrap ((↑j:Int)+1)=↑(j+1),p=p,lq L,c.exp=c.exp,c.dim=c.dim,rq c.sign,c.odd=c.odd,rq c.oddity,(8:Int)≠(0:Int),(8:Int)≠(0:Int),ty d1]) ?_ ?_ ?_)
   (fun d1=>b9 [false] (q1 [ef (p%(8:Int)) j=ef (p%(8:Int)) c.exp.toNat,p=p,lq L,c.exp=c.exp,c.dim=c.dim,rq c.sign,c.odd=c.odd,rq c.oddity,ty d1]) ?_))
  all_goals with_reducible repeat' first|exact dA|refine bx ?_ ?_|refine bz ?_
  all_goals first|(refine dO.mk ?_;(have hk:=oT d1;show c.exp.toNat-(j+1)<c.exp.toNat-j;omega))|(refine cL.mk ?_;(have hk:=oT d1;show j+1≤c.exp.toNat;omega))|exact fu|(first|exact tz|exact ek|exact XQ hp.1 hp.2.2 j|(have hk:j=c.exp.toNat:=kJ;subst hk;rfl)|exact ub|exact(5:Nat))
def Wp (p:Int)(L:LC):aO:=⟨⟨xP L (.int .i64 0) (.int .i64 0),rJ p L,1010⟩,none,fun _=>(.exit 0,⟨[(4,vi (eT p L L.length))],rJ p L,1010⟩)⟩
theorem AT {p:Int}(hp:2<p)(ho:p.toNat%2≠0){c:Con}(hc:lC c):0≤c.dim*(ef (p%8) c.exp.toNat-1)∧c.dim*(ef (p%8) c.exp.toNat-1)≤6000:=by
 have h:=wq (q:=p%8) om om c.exp.toNat
 have hd:=hc.2.1
 refine⟨Int.mul_nonneg om om,?_⟩
 have:=Int.mul_le_mul (a:=c.dim) (b:=ef (p%8) c.exp.toNat-1) (c:=1000) (d:=6) om om om om
 omega
theorem wt {p:Int}(hp:2<p)(ho:p.toNat%2≠0){L:LC}(hL:bm L):∀k,k≤L.length→0≤eT p L k∧eT p L k≤6004*k
 |0,_=>by simp[eT]
 |k+1,hk=>by
  obtain⟨h1,h2⟩:=wt hp ho hL k om
  have h3:=AT hp ho (hL.at (k:=k) om)
  show 0≤eT p L k+oI p (at_ L k)∧eT p L k+oI p (at_ L k)≤_
  unfold oI
  cases decide ((at_ L k).exp%2=1)&&decide ((at_ L k).sign=-1)with
  |true=>simp only[aU];omega
  |false=>simp only[bt];omega
theorem Af {L:LC}(hL:bm L)(k:Nat):0≤(at_ L k).exp∧(at_ L k).exp≤1000:=by
 rcases bA k L.length with h|h
 ·exact(hL.at h).1
 ·have:at_ L k=Con.zero:=by simp[at_,h]
  rw[this];decide
theorem IX {p:Int}(hp:2<p)(ho:p.toNat%2≠0){L:LC}(hL:bm L){k:Nat}(hk:k<L.length):w6.wrap (eT p L k+w6.wrap ((at_ L k).dim*w6.wrap (ef (p%8) (at_ L k).exp.toNat-1)))=eT p L k+(at_ L k).dim*(ef (p%8) (at_ L k).exp.toNat-1):=by
 have hl:=hL.1
 have h1:=wt hp ho hL k om
 have h2:=AT hp ho (hL.at hk)
 have h3:=wq (q:=p%8) om om (at_ L k).exp.toNat
 rw[og (n:=ef (p%8) (at_ L k).exp.toNat-1) om om]
 generalize (at_ L k).dim*(ef (p%8) (at_ L k).exp.toNat-1)=m at h2
 rw[og (n:=m) om om]
 exact wo
theorem XR {p:Int}(hp:2<p)(ho:p.toNat%2≠0){L:LC}(hL:bm L){k:Nat}(hk:k<L.length)(h4:((at_ L k).exp.tmod 2==1)=true)(h5:((at_ L k).sign==-1)=true):w6.wrap (w6.wrap (eT p L k+w6.wrap ((at_ L k).dim*w6.wrap (ef (p%8) (at_ L k).exp.toNat-1)))+4)=eT p L (k+1):=by
 have hl:=hL.1
 have h1:=wt hp ho hL k om
 have h2:=AT hp ho (hL.at hk)
 have he:=(Af hL k).1
 rw[IX hp ho hL hk]
 show _=eT p L k+oI p (at_ L k)
 unfold oI
 have e1:=eq_of_beq h4
 rw[iE he]at e1
 rw[show decide ((at_ L k).exp%2=1)=true from bJ e1,show decide ((at_ L k).sign=-1)=true from bJ (eq_of_beq h5)]
 simp only[Bool.and_self,aU]
 rw[wo]
 omega
theorem IY {p:Int}(hp:2<p)(ho:p.toNat%2≠0){L:LC}(hL:bm L){k:Nat}(hk:k<L.length)(h4:((at_ L k).exp.tmod 2==1)=false∨((at_ L k).sign==-1)=false):w6.wrap (eT p L k+w6.wrap ((at_ L k).dim*w6.wrap (ef (p%8) (at_ L k).exp.toNat-1)))=eT p L (k+1):=by
 have he:=(Af hL k).1
 rw[IX hp ho hL hk]
 show _=eT p L k+oI p (at_ L k)
 unfold oI
 rcases h4 with h|h
 ·rw[iE he]at h
  rw[show decide ((at_ L k).exp%2=1)=false from bI (cp.1 h),Bool.false_and,bt];omega
 ·rw[show decide ((at_ L k).sign=-1)=false from bI (cp.1 h),mt9,bt];omega
theorem Td (p:Int)(L:LC)(hv:dE p L=true):An 1 Tryz.f42 [0,1,0,1,1,1] (Wp p L):=by
 have hp:=AK hv
 have hL:=zV hv
 refine tR c0 (fun(k:Nat)=>(⟨xP L (vi (eT p L k)) (vi k),rJ p L,1010⟩:St)) (fun(k:Nat)=>(L.length-k:Nat)) (fun(k:Nat)=>(k≤L.length:Prop)) (fun(k:Nat)=>([([0,1,0,1,1,0,0,1,1,0,0,1,0,1,1,1],IW p L (eT p L k) k (at_ L k))]:List (List Nat×aO))) ?_ ?_ ?_
 ·intro k hI
  exact bX (Wo p L (eT p L k) k (at_ L k) hp (Af hL k))
 ·exact st (0) [(0:Int)=eT p L (0:Nat),lq L,rq (↑L.length:Int),(0:Int)=↑(0:Nat),p=p,lq L] (by refine⟨?_,?_,?_,?_,?_,(?_:lq L)⟩<;>(first|exact tz|rfl)) (by exact bQ _)
 ·intro k hI
  have ht:k≤L.length:=hI
  have hl:=hL.1
  have ek:=wk k
  refine(let q1:List Prop→List Prop:=fun l0=>(w6.wrap (eT p L k+w6.wrap ((at_ L k).dim*w6.wrap (ef (p%(8:Int)) (at_ L k).exp.toNat-1)))=eT p L (k+1))::(lq L)::rq (↑L.length:Int)::(w6.wrap ((↑k:Int)+1)=↑(k+1))::(p=p)::(lq L)::l0;oe (decide ((↑k:Int)<↑L.length)) (fun d1=>let y1:List Prop:=(let v1:=L.getD k Con.zero;[(2:Int)≠(0:Int),rq (eT p L k),lq L,rq (↑L.length:Int),rq (↑k:Int),v1.exp=(at_ L k).exp,p=p,lq L,v1.exp=(at_ L k).exp,v1.dim=(at_ L k).dim,v1.sign=(at_ L k).sign,v1.odd=(at_ L k).odd,v1.oddity=(at_ L k).oddity,(0:Int)≤↑k∧(↑k:Int)<↑L.length,ty d1]);have u1:ar y1:=⟨?_,?_,?_,?_,?_,?_,?_,?_,?_,?_,?_,?_,?_,?_,d1⟩;oe ((at_ L k).exp.tmod (2:Int)==1) (fun d2=>oe ((at_ L k).sign==-1) (fun d3=>aH (tp 111) (k+1) ((w6.wrap (w6.wrap (eT p L k+w6.wrap ((at_ L k).dim*w6.wrap (ef (p%(8:Int)) (at_ L k).exp.toNat-1)))+4)=eT p L (k+1))::(lq L)::rq (↑L.length:Int)::(w6.wrap ((↑k:Int)+1)=↑(k+1))::(p=p)::(lq L)::ty d3::ty d2::y1) ?_ ?_ ?_)
   (fun d3=>aH (tp 112) (k+1) (q1 (ty d3::ty d2::y1)) ?_ ?_ ?_))
   (fun d2=>aH [true,false] (k+1) (q1 (ty d2::y1)) ?_ ?_ ?_))
   (fun d1=>b9 [false] [eT p L k=eT p L L.length,p=p,lq L,ty d1] ?_))
  all_goals with_reducible repeat' first|exact dA|refine bx ?_ ?_|refine bz ?_
  all_goals((try clear u1);(try clear y1))
  all_goals first|exact Kr|exact KK|exact fu|(first|exact tz|exact ek|(have hk:k=L.length:=kJ;subst hk;rfl)|(have hk:k<L.length:=iC;first|omega|exact XR hp.1 hp.2.2 hL hk d2 d3|exact IY hp.1 hp.2.2 hL hk (.inr d3)|exact IY hp.1 hp.2.2 hL hk (.inl d2))|exact(5:Nat))
theorem LW (p:Int)(L:LC)(hn:L.length≤1000)(hv:dE p L=true):ax Tryz.prog [aL] 42 [.agg [.int .i64 p,bg L]] (.tup [.int .i64 (lJ ⟨p,L⟩),.int .i64 0]):=by
 have hz:dE p (aF L.length fun i=>(L.getD i Con.zero).rvs)=true:=by rw[cb];exact hv
 refine pr (cE Nq) Tryz.func42 (bX (Td p L hv)) ?_
 refine lr [false] [(eT p L L.length).tmod (8:Int)=lJ (Loc.mk p L),rq (0:Int),(8:Int)≠(0:Int),lq L,rq (↑L.length:Int),p=p,lq L,aa (!dE p (aF L.length fun i=>(L.getD i Con.zero).rvs)) false,(lz L)∧L.length≤1000] ⟨?_,?_,?_,?_,?_,?_,?_,(dN hz),(?_:(lz L)∧L.length≤1000)⟩
 all_goals first|(first|exact tz|decide|exact pJ|(have hp:=AK hv;have hb:=wt hp.1 hp.2.2 (zV hv) L.length (bp _);exact iE hb.1))
theorem iK.vals (τ:ae){n:Nat}{row:Nat→List RV}(h:∀i,i<n→row i=τ.rvs (τ.of (row i))):iK (.sl n τ.sz row) (dU τ (eX τ n row)):=fun F V k=>FB h k
def GH:List cq:=[
 ⟨39,[aL],fun A=>match A with
  |[.agg [.int .i64 a,.int .i64 b,.sl n 2 row]]=>some (.bool (cr ⟨a,b,cn n row⟩),[(∀i,i<n→row i=ae.loc.rvs (ae.loc.of (row i)))∧n≤1000∧∀l∈cn n row,l.list.length≤1000])
  |_=>none⟩,
 ⟨40,[],fun A=>match A with
  |[.int .i64 d,.int .i64 p]=>some (.int .i64 (dw d.toNat p.toNat),[0<d∧d≤2147483647∧2≤p∧p≤2147483647∧(p=2∨p.toNat%2≠0)])
  |_=>none⟩,
 ⟨41,[],fun A=>match A with
  |[.agg [.int .i64 p,.sl n 5 row]]=>some (.tup [.agg [.int .i64 (bP (gr p (aF n row))),bg (bL (gr p (aF n row)) (tL (aF n row)))],.bool (gr p (aF n row))],[(∀i,i<n→row i=(Con.ofR (row i)).rvs)∧n≤1000])
  |_=>none⟩,
 ⟨42,[aL],fun A=>match A with
  |[.agg [.int .i64 p,.sl n 5 row]]=>some (.tup [.int .i64 (lJ ⟨p,aF n row⟩),.int .i64 0],[(∀i,i<n→row i=(Con.ofR (row i)).rvs)∧n≤1000∧dE p (aF n row)=true])
  |_=>none⟩,
 ⟨43,[],fun A=>match A with
  |[.agg [.int .i64 p,.sl n 5 row]]=>some (.tup [.int .i64 (bO (en p (aF n row)) (aF n row)),.bool (en p (aF n row))],[(∀i,i<n→row i=(Con.ofR (row i)).rvs)∧n≤1000])
  |_=>none⟩]
theorem uK:∀e∈GH,cJ Tryz.prog e:=by
 intro e he
 simp only[GH,bC,cU,cY]at he
 rcases he with rfl|rfl|rfl|rfl|rfl
 all_goals
  intro A R ms h hm
  simp only at h
  split at h
  all_goals first|exact kL|cases h
 ·obtain⟨h1,h2,h3⟩:=aA hm
  exact ax.imp (LX ⟨_,_,cn _ _⟩ BS h3) (.cons (.agg (.cons .same (.cons .same (.cons (iK.vals .loc h1) .nil)))) .nil)
 ·rename_i d p
  obtain⟨h0,hb,hp,hq,ho⟩:=hm _ eB
  have ed:((d.toNat:Nat):Int)=d:=by omega
  have ep:((p.toNat:Nat):Int)=p:=by omega
  by_cases h2:p=2
  ·subst h2
   have:=F4 d.toNat om om
   rw[ed]at this
   exact this
  ·have:=F5 d.toNat p.toNat om om om om om
   rw[ed,ep]at this
   exact this
 ·obtain⟨h1,h2⟩:=aA hm
  exact ax.imp (C3 _ _ j9) (.cons (.agg (.cons .same (.cons (.con h1) .nil))) .nil)
 ·obtain⟨h1,h2,h3⟩:=aA hm
  exact ax.imp (LW _ _ j9 h3) (.cons (.agg (.cons .same (.cons (.con h1) .nil))) .nil)
 ·obtain⟨h1,h2⟩:=aA hm
  exact ax.imp (M9 _ _ j9) (.cons (.agg (.cons .same (.cons (.con h1) .nil))) .nil)
theorem Aa (g:aG):(⟨g.dim,g.det,cn g.locs.length (fun i=>(g.locs.getD i z0l).rvs)⟩:aG)=g:=by rw[lO]
theorem o5 (L:LL):∀i,i<L.length→(fun i=>(L.getD i z0l).rvs) i=ae.loc.rvs (ae.loc.of ((fun i=>(L.getD i z0l).rvs) i)):=fun i _=>(congrArg QfSy.Loc.rvs (Ev (L.getD i z0l))).symm
theorem XG (g:aG)(hn:g.locs.length≤1000)(hL:∀l∈g.locs,l.list.length≤1000)(hs:cr g=false):ax Tryz.prog [aL] 12 [.agg g.rvs] (.int .i64 22):=by
 have hz:cr (aG.mk g.dim g.det (cn g.locs.length fun i=>(g.locs.getD i z0l).rvs))=false:=by rw[Aa];exact hs
 refine pr (cE uK) Tryz.func12 aE ?_
 refine lr [true] [rq (22:Int),aa (!cr (aG.mk g.dim g.det (cn g.locs.length fun i=>(g.locs.getD i z0l).rvs))) true,(∀(i:Nat),i<g.locs.length→(fun i=>(g.locs.getD i z0l).rvs) i=ae.loc.rvs (ae.loc.of ((fun i=>(g.locs.getD i z0l).rvs) i)))∧g.locs.length≤1000∧∀(l:QfSy.Loc),(l∈cn g.locs.length fun i=>(g.locs.getD i z0l).rvs)→l.list.length≤1000] ⟨?_,(dN hz),(?_:(∀(i:Nat),i<g.locs.length→(fun i=>(g.locs.getD i z0l).rvs) i=ae.loc.rvs (ae.loc.of ((fun i=>(g.locs.getD i z0l).rvs) i)))∧g.locs.length≤1000∧∀(l:QfSy.Loc),(l∈cn g.locs.length fun i=>(g.locs.getD i z0l).rvs)→l.list.length≤1000)⟩
 all_goals first|(first|exact tr|exact⟨o5 g.locs,hn,by rw[lO];exact hL⟩)
theorem uZ {dim det:Int}:∀{P:List aN}{L:LL},gm dim det P L=true→∀j,j<P.length→ix dim det (P.getD j aN.zero) (L.getD j z0l)=true
 |[],L,h,j,hj=>by simp at hj
 |q::P,[],h,j,hj=>by cases h
 |q::P,l::L,h,j,hj=>by
  simp only[gm,bj]at h
  cases j with
  |zero=>exact h.1
  |succ j=>exact uZ h.2 j (by simpa using hj)
theorem QO {g:aG}(hs:cr g=true){j:Nat}(hj:j<g.locs.length):fK (ch g j)=true:=by
 obtain⟨a1,a2,a3,a4,a5,a6⟩:=(mO g).1 hs
 have:=uZ a6 j om
 unfold ix at this
 simp only[bj]at this
 exact this.2.1
theorem SZ {g:aG}(hs:cr g=true):1≤g.det∧g.det≤10000:=by
 obtain⟨a1,a2,a3,a4,a5,a6⟩:=(mO g).1 hs
 exact⟨a3,a4⟩
def gn (D:Int):LL→Bool
 |[]=>true
 |l::L=>dD D l.prime l.list&&gn D L
theorem CJ {D:Int}{L:LL}{i:Nat}(hi:i<L.length):gn D (L.drop i)=(dD D (L.getD i z0l).prime (L.getD i z0l).list&&gn D (L.drop (i+1))):=by
 rw[pL hi]
 simp[gn,ev,hi]
theorem Nm {D:Int}{L:LL}{i:Nat}(hi:L.length≤i):gn D (L.drop i)=true:=by
 rw[gT hi];rfl
def mw (g:aG):List (Nat×ag):=(1000,⟨.plain (RV.avl g.rvs),29,0,false,true⟩)::iW
def Ca (p:Int)(C:LC):Nat×ag:=(1020,⟨.plain [vi p,(bg C).av],50,0,false,true⟩)
def xO (g:aG)(j:AV):List (Nat×AV):=[(1,.ptr 1000 0),(21,(iz g.locs).av),(22,vi g.locs.length),(23,j)]
def Ld (g:aG)(j:Nat)(C:LC)(m k:AV):List (Nat×AV):=xO g (vi j)++[(4,.ptr 1020 0),(5,m),(28,(bg C).av),(29,vi C.length),(30,k)]
def IQ (g:aG)(j:Nat)(p:Int)(C:LC):aO:=⟨⟨Ld g j C (.int .i64 1) (.int .i64 0),mw g++[Ca p C],1101⟩,none,fun _=>(.exit 2,⟨xO g (vi j)++[(4,.ptr 1020 0),(5,vi (ez C C.length))],mw g++[Ca p C],1101⟩)⟩
theorem Vy (g:aG)(u:Nat)(p:Int)(C:LC)(hC:C.length≤1000):An 1 Tryz.f12 [0,1,0,1,1,0,0,1,1,0,0,1,0,1,1] (IQ g u p C):=by
 refine fj c0 aE (fun(k:Nat)=>(⟨Ld g u C (vi (ez C k)) (vi k),mw g++[Ca p C],1101⟩:St)) (fun(k:Nat)=>(C.length-k:Nat)) (fun(k:Nat)=>(k≤C.length:Prop)) ?_ ?_
 ·exact st (0) [sl g.locs,rq (↑g.locs.length:Int),rq (↑u:Int),(1:Int)=ez C (0:Nat),lq C,rq (↑C.length:Int),(0:Int)=↑(0:Nat),g.dim=g.dim,g.det=g.det,sl g.locs,p=p,lq C] (by refine⟨?_,?_,?_,?_,?_,?_,?_,?_,?_,?_,?_,(?_:lq C)⟩<;>(first|exact tz|rfl)) (by exact bQ _)
 ·intro k hI
  have ht:k≤C.length:=hI
  have ek:=wk k
  refine(let q1:List Prop→List Prop:=fun l0=>(sl g.locs)::rq (↑g.locs.length:Int)::rq (↑u:Int)::l0;oe (decide ((↑k:Int)<↑C.length)) (fun d1=>aH [true] (k+1) (q1 [w6.wrap (ez C k*(C.getD k z0c).sign)=ez C (k+1),lq C,rq (↑C.length:Int),w6.wrap ((↑k:Int)+1)=↑(k+1),g.dim=g.dim,g.det=g.det,sl g.locs,p=p,lq C,(0:Int)≤↑k∧(↑k:Int)<↑C.length,ty d1]) ⟨?_,?_,?_,?_,?_,?_,?_,?_,?_,?_,?_,?_,?_,d1⟩ ?_ ?_)
   (fun d1=>b9 [false] (q1 [ez C k=ez C C.length,g.dim=g.dim,g.det=g.det,sl g.locs,p=p,lq C,ty d1]) ⟨?_,?_,?_,?_,?_,?_,?_,?_,?_,d1⟩))
  all_goals first|exact Ks|exact KM|exact fu|(first|exact tz|exact ek|(have hk:k=C.length:=kJ;subst hk;rfl)|exact ub|rfl|exact(5:Nat))
def Vz (g:aG):aO:=⟨⟨xO g (.int .i64 0),mw g,1020⟩,some (gn g.det g.locs),fun d=>match d with
 |true=>(.exit 0,⟨[(1,.ptr 1000 0)],mw g,1020⟩)
 |false=>(.ret,⟨[(2,.int .i64 23)],mw g,1020⟩)⟩
theorem S0 (g:aG)(hn:g.locs.length≤1000)(hL:∀l∈g.locs,l.list.length≤1000)(hs:cr g=true):An 1 Tryz.f12 [0,1,0,1,1] (Vz g):=by
 refine pI (cE uK) (fun(j:Nat)=>(⟨xO g (vi j),mw g,1020⟩:St)) (fun(j:Nat)=>(g.locs.length-j:Nat)) (fun(d:Bool)=>fun(j:Nat)=>(j≤g.locs.length∧gn g.det (g.locs.drop j)=gn g.det g.locs∧gn g.det g.locs=d:Prop)) (fun(j:Nat)=>([([0,1,0,1,1,0,0,1,1,0,0,1,0,1,1],IQ g j (ch g j).prime (ch g j).list)]:List (List Nat×aO))) ?_ ?_ ?_
 ·rintro d hd j hI
  exact bX (Vy g j (ch g j).prime (ch g j).list (va hL j))
 ·intro d hd
  exact st (0) [sl g.locs,rq (↑g.locs.length:Int),(0:Int)=↑(0:Nat),g.dim=g.dim,g.det=g.det,sl g.locs] J5 (by exact⟨bQ _,rfl,hd⟩)
 ·rintro d hd j hI
  obtain⟨ht,hf,hd2⟩:=hI
  have ht:j≤g.locs.length:=ht
  have hf:gn g.det (g.locs.drop j)=gn g.det g.locs:=hf
  have ek:=wk j
  refine(let q1:List Prop→List Prop:=fun l0=>(g.dim=g.dim)::(g.det=g.det)::(sl g.locs)::l0;oe (decide ((↑j:Int)<↑g.locs.length)) (fun d1=>let y1:List Prop:=(let v1:=g.locs.getD j z0l;[(0:Int)<g.det∧g.det≤2147483647∧(2:Int)≤(ch g j).prime∧(ch g j).prime≤2147483647∧((ch g j).prime=2∨(ch g j).prime.toNat%(2:Nat)≠(0:Nat)),sl g.locs,rq (↑g.locs.length:Int),rq (↑j:Int),v1.list.length=(ch g j).list.length∧(fun i=>(v1.list.getD i z0c).rvs)=fun i=>((ch g j).list.getD i z0c).rvs,(↑v1.list.length:Int)=(↑(ch g j).list.length:Int),g.dim=g.dim,g.det=g.det,sl g.locs,v1.prime=(ch g j).prime,v1.list.length=(ch g j).list.length∧(fun i=>(v1.list.getD i z0c).rvs)=fun i=>((ch g j).list.getD i z0c).rvs,(0:Int)≤↑j∧(↑j:Int)<↑g.locs.length,ty d1]);have u1:ar y1:=⟨?_,?_,?_,?_,?_,?_,?_,?_,?_,?_,?_,?_,d1⟩;oe (ez (ch g j).list (ch g j).list.length==dw g.det.toNat (ch g j).prime.toNat) (fun d2=>aH [true,false] (j+1) ((sl g.locs)::rq (↑g.locs.length:Int)::(w6.wrap ((↑j:Int)+1)=↑(j+1))::(g.dim=g.dim)::(g.det=g.det)::(sl g.locs)::ty (dN d2)::y1) ⟨?_,?_,?_,?_,?_,?_,(dN d2),u1⟩ ?_ ?_)
   (fun d2=>bH d false [true,true] (q1 (ty (dN d2)::y1)) ⟨?_,?_,?_,(dN d2),u1⟩ ?_))
   (fun d1=>bH d true [false] (q1 [ty d1]) ⟨?_,?_,?_,d1⟩ ?_))
  all_goals first|exact Kj|(refine cL.mk ?_;(have hj:j<g.locs.length:=iC;exact⟨hj,by rw[←hf,CJ hj,(ke_t d2:dD g.det (g.locs.getD j z0l).prime (g.locs.getD j z0l).list=true),oC],hd2⟩))|(refine gu.mk ?_;cases d<;>first|rfl|(exfalso;(first|(have h9:=hf.trans hd2;rw[Nm kJ]at h9;cases h9;done)|(have hj:j<g.locs.length:=iC;have h9:=hf.trans hd2;rw[CJ hj,(ke_t d2:dD g.det (g.locs.getD j z0l).prime (g.locs.getD j z0l).list=false)]at h9;cases h9))))|(first|exact tz|exact ek|exact rfl|(have hj:j<g.locs.length:=iC;first|(have hk:=EY (QO hs hj);have hd:=SZ hs;exact⟨om,om,hk.1,om,hk.2.2⟩)|omega)|exact(5:Nat))
def fe (g:aG)(k:Nat):Int:=g.dim+gO (fun i=>lJ (ch g (i+1))) k
theorem HT (l:QfSy.Loc):0≤lJ l∧lJ l≤7:=by unfold lJ;omega
theorem AR (g:aG):∀k,g.dim≤fe g k∧fe g k≤g.dim+7*k
 |0=>by simp[fe,gO]
 |k+1=>by
  have h:=AR g k
  have:=HT (ch g (k+1))
  unfold fe at*
  simp only[gO]
  omega
theorem VE (g:aG)(k:Nat):fe g (k+1)=fe g k+lJ (ch g (k+1)):=by unfold fe;simp only[gO];omega
def Le (g:aG)(s k:AV):List (Nat×AV):=[(1,.ptr 1000 0),(10,s),(61,.ro (g.locs.length-1) 2 (fun i=>(g.locs.getD (i+1) z0l).rvs)),(62,vi (g.locs.length-1:Nat)),(63,k)]
def XH (g:aG):aO:=⟨⟨Le g (vi g.dim) (.int .i64 0),mw g,1200⟩,none,fun _=>(.exit 4,⟨[(1,.ptr 1000 0),(10,vi (fe g (g.locs.length-1)))],mw g,1200⟩)⟩
theorem S1 {p:Nat}(hp:2≤p):∀(n:Nat),0<n→n≤2147483647→(vv p n).2∣n:=by
 intro n
 induction n using Nat.strongRecOn with
 |_ n ih=>
  intro h0 hb
  by_cases hm:n%p=0
  ·obtain⟨d1,d2⟩:=rW hp h0 hm
   rw[vh hp h0 hb hm]
   exact Nat.dvd_trans (ih (n/p) d2 d1 om) (Nat.div_dvd_of_dvd (ml hm))
  ·rw[zU hm]
   exact Nat.dvd_refl n
theorem Ft {a b:Nat}(h:a∣b)(hb:b%2=1):a%2=1:=by
 obtain⟨c,rfl⟩:=h
 rcases Nat.mod_two_eq_zero_or_one a with e|e
 ·rw[Nat.mul_mod,e]at hb;simp at hb
 ·exact e
theorem OQ:∀(n:Nat),0<n→n≤2147483647→n%2=1→∀q∈ba n,q.prime≠2:=by
 intro n
 induction n using Nat.strongRecOn with
 |_ n ih=>
  intro h0 hb ho q hq
  rcases bA n 2 with h2|h2
  ·rw[zi om]at hq;cases hq
  ·rw[qa h2 hb]at hq
   obtain⟨k1,k2,k3⟩:=sj h2 hb
   obtain⟨r1,r2⟩:=oU h2 hb
   rcases bC.1 hq with e|hq
   ·subst e
    have:=Ft (ml k2) ho
    show((ld n:Nat):Int)≠2
    intro e
    rw[show ld n=2 by omega]at this
    cases this
   ·exact ih _ om r1 om (Ft (S1 k1 n h0 hb) ho) q hq
theorem QQ {d:Int}{j:Nat}(h1:1≤d)(h2:d≤10000)(hj:j+1<(ba (2*d).toNat).length):((ba (2*d).toNat).getD (j+1) aN.zero).prime≠2:=by
 have hn:2≤(2*d).toNat:=by omega
 have hb:(2*d).toNat≤2147483647:=by omega
 have e2:(2*d).toNat%2=0:=by omega
 rw[qa hn hb]at hj⊢
 obtain⟨r1,r2⟩:=oU hn hb
 have hl:ld (2*d).toNat=2:=wE hn hb e2
 have ho:(vv (ld (2*d).toNat) (2*d).toNat).2%2≠0:=by
  have:=(rX (p:=ld (2*d).toNat) om (2*d).toNat om hb).2.2.1
  rw[hl]at this⊢
  exact this
 rw[List.getD_cons_succ]
 simp only[dg]at hj
 rw[ev,gS om]
 exact OQ _ r1 om om _ (jF _)
theorem S2 {g:aG}(hs:cr g=true){j:Nat}(hj:j+1<g.locs.length):dE (ch g (j+1)).prime (ch g (j+1)).list=true:=by
 obtain⟨a1,a2,a3,a4,a5,a6⟩:=(mO g).1 hs
 have h0:=uZ a6 (j+1) om
 unfold ix at h0
 simp only[bj]at h0
 have hk:fK (ch g (j+1))=true:=h0.2.1
 have hp:(ch g (j+1)).prime=((ba (2*g.det).toNat).getD (j+1) aN.zero).prime:=oT h0.1
 have h2:(ch g (j+1)).prime≠2:=by
  rw[hp]
  exact QQ om om om
 unfold fK at hk
 rw[show decide ((ch g (j+1)).prime=2)=false from bI h2]at hk
 exact hk
theorem S3 (g:aG)(hn:g.locs.length≤1000)(hL:∀l∈g.locs,l.list.length≤1000)(hs:cr g=true):An 1 Tryz.f12 [0,1,0,1,1,1,1,1] (XH g):=by
 have hg:=(mO g).1 hs
 refine fj (cE uK) aE (fun(j:Nat)=>(⟨Le g (vi (fe g j)) (vi j),mw g,1200⟩:St)) (fun(j:Nat)=>(g.locs.length-j:Nat)) (fun(j:Nat)=>(j≤g.locs.length-1:Prop)) ?_ ?_
 ·exact st (0) [g.dim=fe g (0:Nat),g.locs.length-1=g.locs.length-1∧(fun i=>(g.locs.getD (i+1) z0l).rvs)=fun i=>(g.locs.getD (i+1) z0l).rvs,rq (↑(g.locs.length-1):Int),(0:Int)=↑(0:Nat),g.dim=g.dim,g.det=g.det,sl g.locs] (by refine⟨?_,?_,?_,?_,?_,?_,(?_:sl g.locs)⟩<;>(first|exact tv|(show g.dim=g.dim+0;omega))) (by exact bQ _)
 ·intro j hI
  have ht:j≤g.locs.length-1:=hI
  have ek:=wk j
  refine oe (decide ((↑j:Int)<↑(g.locs.length-1))) (fun d1=>aH [true] (j+1) (let v1:=g.locs.getD (j+1) z0l;let v2:=aF v1.list.length fun i=>(v1.list.getD i z0c).rvs;let v3:=(↑(g.locs.length-1):Int);[w6.wrap (fe g j+lJ (Loc.mk v1.prime v2))=fe g (j+1),g.locs.length-1=g.locs.length-1∧(fun i=>(g.locs.getD (i+1) z0l).rvs)=fun i=>(g.locs.getD (i+1) z0l).rvs,rq v3,w6.wrap ((↑j:Int)+1)=↑(j+1),g.dim=g.dim,g.det=g.det,sl g.locs,(∀(i:Nat),i<v1.list.length→(fun i=>(v1.list.getD i z0c).rvs) i=(Con.ofR ((fun i=>(v1.list.getD i z0c).rvs) i)).rvs)∧v1.list.length≤1000∧dE v1.prime v2=true,(0:Int)≤↑j∧(↑j:Int)<v3,ty d1]) ⟨?_,?_,?_,?_,?_,?_,?_,?_,?_,d1⟩ ?_ ?_)
   (fun d1=>b9 [false] [fe g j=fe g (g.locs.length-1),g.dim=g.dim,g.det=g.det,sl g.locs,ty d1] ⟨?_,?_,?_,?_,d1⟩)
  all_goals first|exact Kj|(refine cL.mk ?_;(have hk:=oT d1;show j+1≤g.locs.length-1;omega))|exact fu|(first|exact tz|exact ek|exact rfl|(have hj:j<g.locs.length-1:=iC;first|omega|(rw[cb,VE];have h1:=AR g j;have h2:=HT (ch g (j+1));show w6.wrap (fe g j+lJ (ch g (j+1)))=fe g j+lJ (ch g (j+1));exact wo)|exact⟨fun _ _=>rfl,va hL (j+1),by rw[cb];exact S2 hs om⟩)|(have e:j=g.locs.length-1:=kJ;rw[e]))
def cP (g:aG):Int:=bif !cr g then 22 else bif !gn g.det g.locs then 23 else bif !gr (ch g 0).prime (ch g 0).list then 24 else bif decide (fe g (g.locs.length-1)%8=bO (en (ch g 0).prime (ch g 0).list) (ch g 0).list)then 0 else 25
theorem VF {g:aG}(hs:cr g=true)(h2:gn g.det g.locs=false):23=cP g:=by unfold cP;rw[hs,h2];rfl
theorem VK {g:aG}(hs:cr g=true)(h2:gn g.det g.locs=true)(h3:gr (g.locs.getD 0 z0l).prime (aF (g.locs.getD 0 z0l).list.length fun i=>((g.locs.getD 0 z0l).list.getD i z0c).rvs)=false):24=cP g:=by
 rw[cb]at h3
 have h3:gr (ch g 0).prime (ch g 0).list=false:=h3
 unfold cP;rw[hs,h2,h3];rfl
theorem VL {g:aG}(hs:cr g=true)(h2:gn g.det g.locs=true)(h3:gr (g.locs.getD 0 z0l).prime (aF (g.locs.getD 0 z0l).list.length fun i=>((g.locs.getD 0 z0l).list.getD i z0c).rvs)=true){b:Bool}
 (h4:((fe g (g.locs.length-1)).tmod 8==bO (en (g.locs.getD 0 z0l).prime (aF (g.locs.getD 0 z0l).list.length fun i=>((g.locs.getD 0 z0l).list.getD i z0c).rvs)) (aF (g.locs.getD 0 z0l).list.length fun i=>((g.locs.getD 0 z0l).list.getD i z0c).rvs))=b):(bif b then 0 else 25)=cP g:=by
 rw[cb]at h3 h4
 have h3:gr (ch g 0).prime (ch g 0).list=true:=h3
 have h4:((fe g (g.locs.length-1)).tmod 8==bO (en (ch g 0).prime (ch g 0).list) (ch g 0).list)=b:=h4
 have hd:=((mO g).1 hs).1
 have hb:=(AR g (g.locs.length-1)).1
 rw[iE om]at h4
 unfold cP;rw[hs,h2,h3]
 subst h4
 generalize fe g (g.locs.length-1)%8=x
 generalize bO (en (ch g 0).prime (ch g 0).list) (ch g 0).list=y
 by_cases e:x=y
 ·subst e;simp
 ·rw[bI e,cp.2 e];rfl
theorem QS {g:aG}(hs:cr g=true):0<g.locs.length:=by
 obtain⟨a1,a2,a3,a4,a5,a6⟩:=(mO g).1 hs
 rw[←a5,qa om om]
 simp
theorem XI (g:aG)(hn:g.locs.length≤1000)(hL:∀l∈g.locs,l.list.length≤1000)(hs:cr g=true):ax Tryz.prog [aL] 12 [.agg g.rvs] (.int .i64 (cP g)):=by
 have hz:cr (aG.mk g.dim g.det (cn g.locs.length fun i=>(g.locs.getD i z0l).rvs))=true:=by rw[Aa];exact hs
 refine pr (cE uK) Tryz.func12 (D0 (S0 g hn hL hs) (bX (S3 g hn hL hs))) ?_
 refine(let y1:List Prop:=[aa (!cr (aG.mk g.dim g.det (cn g.locs.length fun i=>(g.locs.getD i z0l).rvs))) false,(∀(i:Nat),i<g.locs.length→(fun i=>(g.locs.getD i z0l).rvs) i=ae.loc.rvs (ae.loc.of ((fun i=>(g.locs.getD i z0l).rvs) i)))∧g.locs.length≤1000∧∀(l:QfSy.Loc),(l∈cn g.locs.length fun i=>(g.locs.getD i z0l).rvs)→l.list.length≤1000];have u1:ar y1:=⟨(dN hz),(?_:(∀(i:Nat),i<g.locs.length→(fun i=>(g.locs.getD i z0l).rvs) i=ae.loc.rvs (ae.loc.of ((fun i=>(g.locs.getD i z0l).rvs) i)))∧g.locs.length≤1000∧∀(l:QfSy.Loc),(l∈cn g.locs.length fun i=>(g.locs.getD i z0l).rvs)→l.list.length≤1000)⟩;oe (gn g.det g.locs) (fun d1=>let y2:List Prop:=(let v1:=g.locs.getD (Int.toNat (0:Int)) z0l;((∀(i:Nat),i<v1.list.length→(fun i=>(v1.list.getD i z0c).rvs) i=(Con.ofR ((fun i=>(v1.list.getD i z0c).rvs) i)).rvs)∧v1.list.length≤1000)::((0:Int)≤0∧(0:Int)<↑g.locs.length)::(sl g.locs)::rq (↑g.locs.length:Int)::(g.dim=g.dim)::(g.det=g.det)::(sl g.locs)::ty d1::y1);have u2:ar y2:=⟨?_,?_,?_,?_,?_,?_,?_,d1,u1⟩;oe (gr (g.locs.getD (Int.toNat (0:Int)) z0l).prime (aF (g.locs.getD (Int.toNat (0:Int)) z0l).list.length fun i=>((g.locs.getD (Int.toNat (0:Int)) z0l).list.getD i z0c).rvs)) (fun d2=>let y3:List Prop:=(let v1:=g.locs.getD (Int.toNat (0:Int)) z0l;((8:Int)≠(0:Int))::((∀(i:Nat),i<v1.list.length→(fun i=>(v1.list.getD i z0c).rvs) i=(Con.ofR ((fun i=>(v1.list.getD i z0c).rvs) i)).rvs)∧v1.list.length≤1000)::((0:Int)≤0∧(0:Int)<↑g.locs.length)::(g.dim=g.dim)::(g.locs.length-Int.toNat (1:Int)=g.locs.length-1∧(fun i=>(fun i=>(g.locs.getD i z0l).rvs) (i+Int.toNat (1:Int)))=fun i=>(g.locs.getD (i+1) z0l).rvs)::((↑(g.locs.length-Int.toNat (1:Int)):Int)=↑(g.locs.length-1))::(g.dim=g.dim)::(g.det=g.det)::(sl g.locs)::((0:Int)≤1∧(1:Int)≤↑g.locs.length)::ty (dN d2)::y2);have u3:ar y3:=⟨?_,?_,?_,?_,?_,?_,?_,?_,?_,?_,(dN d2),u2⟩;oe ((fe g (g.locs.length-1)).tmod (8:Int)==bO (en (g.locs.getD (Int.toNat (0:Int)) z0l).prime (aF (g.locs.getD (Int.toNat (0:Int)) z0l).list.length fun i=>((g.locs.getD (Int.toNat (0:Int)) z0l).list.getD i z0c).rvs)) (aF (g.locs.getD (Int.toNat (0:Int)) z0l).list.length fun i=>((g.locs.getD (Int.toNat (0:Int)) z0l).list.getD i z0c).rvs)) (fun d3=>lr (tp 2122) (((0:Int)=cP g)::ty (dN d3)::y3) ⟨?_,(dN d3),u3⟩)
  (fun d3=>lr (tp 2121) (((25:Int)=cP g)::ty (dN d3)::y3) ⟨?_,(dN d3),u3⟩))
  (fun d2=>lr (tp 211) (((24:Int)=cP g)::ty (dN d2)::y2) ⟨?_,(dN d2),u2⟩))
  (fun d1=>lr [false,false] (((23:Int)=cP g)::(sl g.locs)::rq (↑g.locs.length:Int)::(g.dim=g.dim)::(g.det=g.det)::(sl g.locs)::ty d1::y1) ⟨?_,?_,?_,?_,?_,?_,d1,u1⟩))
 all_goals first|(first|exact tz|exact⟨o5 g.locs,hn,by rw[lO];exact hL⟩|exact VF hs d1|exact VK hs d1 d2|exact VL hs d1 d2 d3|exact⟨fun _ _=>rfl,va hL 0⟩|(have:=QS hs;omega)|rfl|decide)
theorem CL (g:aG)(hn:g.locs.length≤1000)(hL:∀l∈g.locs,l.list.length≤1000):ax Tryz.prog [aL] 12 [.agg g.rvs] (.int .i64 (cP g)):=by
 cases hs:cr g with
 |true=>exact XI g hn hL hs
 |false=>
  have e:cP g=22:=by unfold cP;rw[hs];rfl
  rw[e]
  exact XG g hn hL hs
abbrev cB:=Option (List aG)
def aC:cB→List aG
 |none=>[]
 |some X=>X
def eu (n D:Int)(C:LL)(o:cB):cB:=bif decide (cP ⟨n,D,C⟩=0)then some (aC o++[⟨n,D,C⟩])else o
def aK (n D:Int)(Ls:List LL):Nat→Nat→LL×cB→LL×cB
 |0,_=>fun s=>(s.1,eu n D s.1 s.2)
 |r+1,i=>fun s=>(Ls.getD i []).foldl (fun s l=>bif Nat.blt 64 (aC s.2).length then s else aK n D Ls r (i+1) (s.1.set i l,s.2)) s
def gD (n D:Int)(Ls:List LL)(r i:Nat)(s:LL×cB)(l:QfSy.Loc):LL×cB:=bif Nat.blt 64 (aC s.2).length then s else aK n D Ls r (i+1) (s.1.set i l,s.2)
def ft (n D:Int)(Ls:List LL)(r i:Nat)(s:LL×cB)(k:Nat):LL×cB:=((Ls.getD i []).take k).foldl (gD n D Ls r i) s
theorem Uq (n D:Int)(Ls:List LL)(r i:Nat)(s:LL×cB):aK n D Ls (r+1) i s=(Ls.getD i []).foldl (gD n D Ls r i) s:=rfl
def X9 (b:Nat):cB→AV
 |none=>.nils
 |some X=>.lo b X.length
def Ya (b:Nat):cB→List (Nat×ag)
 |none=>[]
 |some X=>[(b,⟨.vals .gen X,29,3,true,true⟩)]
def j6 (n D:Int)(Ls:List LL)(C:LL)(o:cB)(b:Nat):List (Nat×ag):=[(1000,cN [.lo 1001 C.length] 27),(1001,nN C),(1002,cN [vi n] 3),(1003,cN [vi D] 2),(1004,cN [X9 b o] 23),(1005,cN [.lo 1006 Ls.length] 38),(1006,⟨.vals (.list .loc) Ls,27,1,true,true⟩),(1007,cN [.fn 11 [.ptr 1000 0,.ptr 1002 0,.ptr 1003 0,.ptr 1004 0,.ptr 1005 0,.ptr 1007 0]] 45)]++Ya b o++iW
def gt (n D:Int)(Ls:List LL)(r i:Nat)(C:LL)(o:cB):cS:=⟨11,[vi i,.ptr 1000 0,.ptr 1002 0,.ptr 1003 0,.ptr 1004 0,.ptr 1005 0,.ptr 1007 0],j6 n D Ls C o 1010,1100,(match o with
 |none=>some (aK n D Ls r i (C,none)).2.isNone
 |some _=>none),fun t=>match o,t with
 |none,true=>(.tup [],j6 n D Ls (aK n D Ls r i (C,none)).1 none 1150,1900)
 |none,false=>(.tup [],j6 n D Ls (aK n D Ls r i (C,none)).1 (some (aC (aK n D Ls r i (C,none)).2)) 1150,1900)
 |some X,_=>(.tup [],j6 n D Ls (aK n D Ls r i (C,some X)).1 (some (aC (aK n D Ls r i (C,some X)).2)) 1150,1900)⟩
def A6 (C:LL)(i:Nat):Prop:=∀j,j<i→0<(C.getD j QfSy.Loc.zero).list.length∧(C.getD j QfSy.Loc.zero).list.length≤1000
def cu (Ls:List LL)(r i:Nat)(C:LL)(o:cB):Prop:=i+r=C.length∧Ls.length=C.length∧0<C.length∧C.length≤10∧(∀j,l7 (Ls.getD j [])∧(Ls.getD j []).length≤50000)∧A6 C i∧(aC o).length≤64
theorem F8 {C:LL}(h:A6 C C.length):l7 C:=by
 intro l hl
 obtain⟨j,hj,rfl⟩:=ul hl
 have:=h j hj
 rw[ev,gS hj]at this
 exact this
def F9:List cq:=[
 ⟨12,[aL],fun A=>match A with
  |[.agg [.int .i64 a,.int .i64 b,.sl n 2 row]]=>some (.int .i64 (cP ⟨a,b,cn n row⟩),[(∀i,i<n→row i=ae.loc.rvs (ae.loc.of (row i)))∧n≤1000∧∀l∈cn n row,l.list.length≤1000])
  |_=>none⟩]
theorem Dg:∀e∈F9,cJ Tryz.prog e:=by
 intro e he
 simp only[F9,bC,cU,cY]at he
 subst he
 intro A R ms h hm
 simp only at h
 split at h
 ·cases h
  obtain⟨h1,h2,h3⟩:=aA hm
  exact ax.imp (CL ⟨_,_,cn _ _⟩ BS h3) (.cons (.agg (.cons .same (.cons .same (.cons (iK.vals .loc h1) .nil)))) .nil)
 ·cases h
def Hr (m:Tr ag)(b:Nat):Option LL:=match m.get b with
 |some k=>match k.view with
  |.vals .loc C=>some C
  |_=>none
 |none=>none
def In:Nat→List AV→Hs→Option (cS×List Prop):=fun f args H=>bif Nat.beq f 13 then(match args with
 |[.agg [a,b,.lo bl _]]=>match clr a,clr b with
  |.int .i64 n,.int .i64 D=>match Hr H.m bl with
   |none=>none
   |some C=>some (Jh n D C,[(0<C.length∧C.length≤1000)∧l7 C])
  |_,_=>none
 |_=>none)else none
theorem E5:∀f args H A ms,In f args H=some (A,ms)→(∀q∈ms,q)→aP Tryz.prog EV.ng A:=by
 intro f args H A ms hq hm
 unfold In at hq
 replace hq:=(ay hq).2
 split at hq
 ·split at hq
  ·split at hq
   ·cases hq
   ·cases hq
    obtain⟨h1,h2⟩:=aA hm
    exact T7 _ _ _ h1 h2
  ·cases hq
 ·cases hq
theorem By {n D:Int}{C:LL}{b:Bool}(h:(cP (aG.mk n D (cn C.length fun i=>ae.loc.rvs (C.getD i ae.loc.zero)))==0)=b):decide (cP ⟨n,D,C⟩=0)=b:=by
 rw[show(cn C.length fun i=>ae.loc.rvs (C.getD i ae.loc.zero))=C from lO C]at h
 subst h
 by_cases e:cP ⟨n,D,C⟩=0
 ·rw[e];rfl
 ·rw[bI e,cp.2 e]
theorem to {n D:Int}{C:LL}{o:cB}(h:decide (cP ⟨n,D,C⟩=0)=true):eu n D C o=some (aC o++[⟨n,D,C⟩]):=by unfold eu;rw[h];rfl
theorem tt {n D:Int}{C:LL}{o:cB}(h:decide (cP ⟨n,D,C⟩=0)=false):eu n D C o=o:=by unfold eu;rw[h];rfl
abbrev kG (C:LL)(i:Nat):=C.getD i ae.loc.zero
theorem Ur (n D:Int)(Ls:List LL)(i:Nat)(C:LL)(hc:cu Ls 0 i C none):aP Tryz.prog EV.ng (gt n D Ls 0 i C none):=by
 obtain⟨hc1,hc2,hc3,hc4,hc5,hc6,hc7⟩:=hc
 have hz:((i:Int)==(C.length:Int))=true:=by rw[show i=C.length by omega];exact ey _
 have hp:l7 C:=F8 Kz
 have hr:(∀(i:Nat),i<C.length→(fun i=>ae.loc.rvs (C.getD i ae.loc.zero)) i=ae.loc.rvs (ae.loc.of ((fun i=>ae.loc.rvs (C.getD i ae.loc.zero)) i)))∧C.length≤1000∧∀(l:QfSy.Loc),(l∈cn C.length fun i=>ae.loc.rvs (C.getD i ae.loc.zero))→l.list.length≤1000:=⟨o5 C,om,fun l hl=>by rw[show(cn C.length fun i=>ae.loc.rvs (C.getD i ae.loc.zero))=C from lO C]at hl;exact(hp l hl).2⟩
 refine cT (cF (cD E5 (eE Dg))) Tryz.func11 aE ?_
 intro d hd
 cases d
 rotate_right
 have hd:((aK n D Ls 0 i (C,none)).2.isNone)=true:=hd
 refine oe (cP (aG.mk n D (cn C.length fun i=>ae.loc.rvs (kG C i)))==0) (fun d1=>a8.no ?_)
  (fun d1=>lr [true,false] [C.length=(aK n D Ls (0:Nat) i (C,none)).fst.length,C=(aK n D Ls (0:Nat) i (C,none)).fst,n=n,D=D,rq Ls.length,Ls=Ls,ty d1,rq C.length,(∀(i:Nat),i<C.length→(fun i=>ae.loc.rvs (kG C i)) i=ae.loc.rvs (ae.loc.of ((fun i=>ae.loc.rvs (kG C i)) i)))∧C.length≤1000∧∀(l:QfSy.Loc),(l∈cn C.length fun i=>ae.loc.rvs (kG C i))→l.list.length≤1000,aa ((↑i:Int)==↑C.length) true] ⟨?_,?_,?_,?_,?_,?_,d1,?_,?_,hz⟩)
 rotate_right
 have hd:((aK n D Ls 0 i (C,none)).2.isNone)=false:=hd
 refine oe (cP (aG.mk n D (cn C.length fun i=>ae.loc.rvs (kG C i)))==0) (fun d1=>lr [true,true] [C.length=(aK n D Ls (0:Nat) i (C,none)).fst.length,C=(aK n D Ls (0:Nat) i (C,none)).fst,n=n,D=D,(1:Nat)=(aC (aK n D Ls (0:Nat) i (C,none)).snd).length,rq Ls.length,Ls=Ls,[aG.mk n D C]=aC (aK n D Ls (0:Nat) i (C,none)).snd,(0:Nat)<1∧(1:Nat)≤1000000,(1:Nat)=[aG.mk n D C].length,rq C.length,((0:Nat)<C.length∧C.length≤1000)∧l7 C,n=n,D=D,rq C.length,C=C,ty d1,rq C.length,(∀(i:Nat),i<C.length→(fun i=>ae.loc.rvs (kG C i)) i=ae.loc.rvs (ae.loc.of ((fun i=>ae.loc.rvs (kG C i)) i)))∧C.length≤1000∧∀(l:QfSy.Loc),(l∈cn C.length fun i=>ae.loc.rvs (kG C i))→l.list.length≤1000,aa ((↑i:Int)==↑C.length) true] ⟨?_,?_,?_,?_,?_,?_,?_,?_,?_,?_,?_,?_,?_,?_,?_,?_,d1,?_,?_,hz⟩)
  (fun d1=>a8.no ?_)
 all_goals first|exact JP|(first|exact tv|exact hr|exact⟨⟨hc3,om⟩,hp⟩|exact⟨om,om⟩|exact⟨de,de⟩|exact Ku|(have e1:=By d1;first|(show _=(aC (eu n D C none)).length;rw[to e1]<;>rfl)|(show _=aC (eu n D C none);rw[to e1]<;>rfl)|(show _=(aC (eu n D C none)).length;rw[tt e1]<;>rfl)|(show _=aC (eu n D C none);rw[tt e1]<;>rfl)))
theorem Ut (n D:Int)(Ls:List LL)(i:Nat)(C:LL)(X:List aG)(hc:cu Ls 0 i C (some X)):aP Tryz.prog EV.ng (gt n D Ls 0 i C (some X)):=by
 obtain⟨hc1,hc2,hc3,hc4,hc5,hc6,hc7⟩:=hc
 have hz:((i:Int)==(C.length:Int))=true:=by rw[show i=C.length by omega];exact ey _
 have hp:l7 C:=F8 Kz
 have hr:(∀(i:Nat),i<C.length→(fun i=>ae.loc.rvs (C.getD i ae.loc.zero)) i=ae.loc.rvs (ae.loc.of ((fun i=>ae.loc.rvs (C.getD i ae.loc.zero)) i)))∧C.length≤1000∧∀(l:QfSy.Loc),(l∈cn C.length fun i=>ae.loc.rvs (C.getD i ae.loc.zero))→l.list.length≤1000:=⟨o5 C,om,fun l hl=>by rw[show(cn C.length fun i=>ae.loc.rvs (C.getD i ae.loc.zero))=C from lO C]at hl;exact(hp l hl).2⟩
 refine cT (cF (cD E5 (eE Dg))) Tryz.func11 aE ?_
 intro d hd
 cases d
 ·exact Bool.noConfusion (show false=true from hd)
 ·refine(let y1:List Prop:=[rq C.length,(∀(i:Nat),i<C.length→(fun i=>ae.loc.rvs (kG C i)) i=ae.loc.rvs (ae.loc.of ((fun i=>ae.loc.rvs (kG C i)) i)))∧C.length≤1000∧∀(l:QfSy.Loc),(l∈cn C.length fun i=>ae.loc.rvs (kG C i))→l.list.length≤1000,aa ((↑i:Int)==↑C.length) true];have u1:ar y1:=⟨?_,?_,hz⟩;oe (cP (aG.mk n D (cn C.length fun i=>ae.loc.rvs (kG C i)))==0) (fun d1=>lr [true,true] (let v1:=(aK n D Ls (0:Nat) i (C,some X));(C.length=v1.fst.length)::(C=v1.fst)::(n=n)::(D=D)::(X.length+1=(aC v1.snd).length)::rq Ls.length::(Ls=Ls)::(X++[aG.mk n D C]=aC v1.snd)::(X.length=X.length∧X.length+1≤1000000)::((1:Nat)=[aG.mk n D C].length)::rq C.length::rq X.length::(((0:Nat)<C.length∧C.length≤1000)∧l7 C)::(n=n)::(D=D)::rq C.length::(C=C)::ty d1::y1) ⟨?_,?_,?_,?_,?_,?_,?_,?_,?_,?_,?_,?_,?_,?_,?_,?_,?_,d1,u1⟩)
   (fun d1=>lr [true,false] (let v1:=(aK n D Ls (0:Nat) i (C,some X));(C.length=v1.fst.length)::(C=v1.fst)::(n=n)::(D=D)::(X.length=(aC v1.snd).length)::rq Ls.length::(Ls=Ls)::(X=aC v1.snd)::ty d1::y1) ⟨?_,?_,?_,?_,?_,?_,?_,?_,d1,u1⟩))
  all_goals first|exact JP|(first|exact tv|exact hr|exact⟨⟨hc3,om⟩,hp⟩|exact⟨om,om⟩|exact⟨de,de⟩|exact Ku|(have e1:=By d1;first|(show _=(aC (eu n D C (some X))).length;rw[to e1];simp[aC];done)|(show _=aC (eu n D C (some X));rw[to e1]<;>rfl)|(show _=(aC (eu n D C (some X))).length;rw[tt e1]<;>rfl)|(show _=aC (eu n D C (some X));rw[tt e1]<;>rfl)))
section
variable {n D:Int}{Ls:List (List QfSy.Loc)}
theorem G0 {r i:Nat}{s:List QfSy.Loc×cB}{l:QfSy.Loc}(h:64<(aC s.2).length):gD n D Ls r i s l=s:=by
 unfold gD;rw[show Nat.blt 64 (aC s.2).length=true from fW h];rfl
theorem G1 {r i:Nat}{s:List QfSy.Loc×cB}{l:QfSy.Loc}(h:(aC s.2).length≤64):gD n D Ls r i s l=aK n D Ls r (i+1) (s.1.set i l,s.2):=by
 unfold gD
 rw[show Nat.blt 64 (aC s.2).length=false from by
  cases hb:Nat.blt 64 (aC s.2).length with
  |false=>rfl
  |true=>have:=aT hb;omega]
 rfl
theorem Tu {r i:Nat}{s:List QfSy.Loc×cB}{l:QfSy.Loc}:gD n D Ls r i s l=s∨gD n D Ls r i s l=aK n D Ls r (i+1) (s.1.set i l,s.2):=by
 rcases bA 64 (aC s.2).length with h|h
 ·exact .inl (G0 h)
 ·exact .inr (G1 h)
theorem RG (C:List QfSy.Loc)(o:cB):(aC o).length≤(aC (eu n D C o)).length:=by
 unfold eu
 cases decide (cP ⟨n,D,C⟩=0)<;>simp[aC]
theorem sa {r i:Nat}{Q:List QfSy.Loc×cB→List QfSy.Loc×cB→Prop}(hr:∀s,Q s s)(ht:∀a b c,Q a b→Q b c→Q a c)(h:∀s l,Q s (aK n D Ls r (i+1) (s.1.set i l,s.2))):∀(ls:List QfSy.Loc)(s:List QfSy.Loc×cB),Q s (ls.foldl (gD n D Ls r i) s)
 |[],s=>hr s
 |l::ls,s=>by
  rw[oA]
  refine ht _ _ _ ?_ (sa hr ht h ls _)
  rcases Tu (n:=n) (D:=D) (Ls:=Ls) (r:=r) (i:=i) (s:=s) (l:=l)with e|e
  ·rw[e];exact hr s
  ·rw[e];exact h s l
theorem RI:∀(r i:Nat)(s:List QfSy.Loc×cB),(aC s.2).length≤(aC (aK n D Ls r i s).2).length
 |0,i,s=>RG s.1 s.2
 |r+1,i,s=>sa (Q:=fun s t=>(aC s.2).length≤(aC t.2).length) (fun _=>bp _) (fun _ _ _=>cl) (fun s l=>RI r (i+1) (s.1.set i l,s.2)) (Ls.getD i []) s
theorem yW:∀(r i:Nat)(s:List QfSy.Loc×cB),(aK n D Ls r i s).1.length=s.1.length
 |0,i,s=>rfl
 |r+1,i,s=>(sa (Q:=fun s t=>s.1.length=t.1.length) (fun _=>rfl) (fun _ _ _ h k=>h.trans k) (fun s l=>((yW r (i+1) (s.1.set i l,s.2)).trans dZ).symm) (Ls.getD i []) s).symm
theorem DJ:∀(r i:Nat)(s:List QfSy.Loc×cB)(j:Nat),j<i→(aK n D Ls r i s).1.getD j z0l=s.1.getD j z0l
 |0,i,s,j,hj=>rfl
 |r+1,i,s,j,hj=>(sa (Q:=fun s t=>t.1.getD j z0l=s.1.getD j z0l) (fun _=>rfl) (fun _ _ _ h k=>k.trans h) (fun s l=>by
  rw[DJ r (i+1) _ j om]
  show(s.1.set i l).getD j z0l=_
  rw[ev,List.getElem?_set_ne om,←ev]) (Ls.getD i []) s)
theorem FN:∀(r i:Nat)(s:List QfSy.Loc×cB),s.2.isNone=false→(aK n D Ls r i s).2.isNone=false
 |0,i,s,h=>by
  show(eu n D s.1 s.2).isNone=false
  unfold eu
  cases decide (cP ⟨n,D,s.1⟩=0)with
  |true=>rfl
  |false=>exact h
 |r+1,i,s,h=>(sa (Q:=fun s t=>s.2.isNone=false→t.2.isNone=false) (fun _ h=>h) (fun _ _ _ h k g=>k (h g)) (fun s l g=>FN r (i+1) (s.1.set i l,s.2) g) (Ls.getD i []) s) h
variable {r i:Nat}{s:List QfSy.Loc×cB}
theorem Tv {k:Nat}(hk:k<(Ls.getD i []).length):ft n D Ls r i s (k+1)=gD n D Ls r i (ft n D Ls r i s k) ((Ls.getD i []).getD k z0l):=by
 unfold ft
 rw[uk hk,rC,ev (l:=Ls.getD i []),gS hk]
 rfl
theorem Tw {k:Nat}(hk:(Ls.getD i []).length≤k):ft n D Ls r i s k=aK n D Ls (r+1) i s:=by
 unfold ft
 rw[iS hk]
 rfl
theorem Tx (k:Nat):aK n D Ls (r+1) i s=((Ls.getD i []).drop k).foldl (gD n D Ls r i) (ft n D Ls r i s k):=by
 unfold ft
 rw[←rC,ou]
 rfl
theorem EM:∀(ls:List QfSy.Loc)(s:List QfSy.Loc×cB),64<(aC s.2).length→ls.foldl (gD n D Ls r i) s=s
 |[],s,h=>rfl
 |l::ls,s,h=>by rw[oA,G0 h];exact EM ls s h
theorem DK {k:Nat}(h:64<(aC (ft n D Ls r i s k).2).length):aK n D Ls (r+1) i s=ft n D Ls r i s k:=by
 rw[Tx k,EM _ _ h]
end
theorem W6 {x:cB}(h:x.isNone=true):x=none:=by cases x with
 |none=>rfl
 |some a=>cases h
theorem W7 {x:cB}(h:x.isNone=false):x=some (aC x):=by cases x with
 |none=>cases h
 |some a=>rfl
def ga (n D:Int)(Ls:List (List QfSy.Loc))(r i:Nat)(C:List QfSy.Loc)(o:cB)(k:Nat)(C1:List QfSy.Loc)(o1:cB):Prop:=k≤(Ls.getD i []).length∧ft n D Ls r i (C,o) k=(C1,o1)∧C1.length=C.length∧A6 C1 i∧∀j,j<k→(aC (ft n D Ls r i (C,o) j).2).length≤64
section
variable {n D:Int}{Ls:List (List QfSy.Loc)}{r i k:Nat}{C C1:List QfSy.Loc}{o o1:cB}
theorem sH (hc:cu Ls (r+1) i C o):ga n D Ls r i C o 0 C o:=⟨bQ _,rfl,rfl,hc.2.2.2.2.2.1,fun j hj=>absurd hj om⟩
theorem vN (hc:cu Ls (r+1) i C o)(hI:ga n D Ls r i C o k C1 o1)(hk:k<(Ls.getD i []).length)(h:(aC o1).length≤64):cu Ls r (i+1) (C1.set i ((Ls.getD i []).getD k z0l)) o1:=by
 obtain⟨c1,c2,c3,c4,c5,c6,c7⟩:=hc
 obtain⟨i1,i2,i3,i4,i5⟩:=hI
 refine⟨by rw[dZ];omega,by rw[dZ];omega,by rw[dZ];omega,by rw[dZ];omega,c5,fun j hj=>?_,h⟩
 rw[ev]
 rcases bA j i with hji|hji
 ·rw[List.getElem?_set_ne om,←ev]
  exact i4 j hji
 ·have:j=i:=by omega
  subst this
  rw[List.getElem?_set_self om]
  exact(c5 j).1 _ (EX hk)
theorem G2 (hc:cu Ls (r+1) i C o)(hI:ga n D Ls r i C o k C1 o1)(hk:k<(Ls.getD i []).length)(h:(aC o1).length≤64):ga n D Ls r i C o (k+1) (aK n D Ls r (i+1) (C1.set i ((Ls.getD i []).getD k z0l),o1)).1 (aK n D Ls r (i+1) (C1.set i ((Ls.getD i []).getD k z0l),o1)).2:=by
 obtain⟨i1,i2,i3,i4,i5⟩:=hI
 refine⟨hk,by rw[Tv hk,i2,G1 h],by rw[yW];show(C1.set i _).length=_;rw[dZ];exact i3,fun j hj=>?_,fun j hj=>?_⟩
 ·rw[DJ r (i+1) _ j om]
  show 0<((C1.set i _).getD j z0l).list.length∧((C1.set i _).getD j z0l).list.length≤1000
  rw[ev,List.getElem?_set_ne om,←ev]
  exact i4 j hj
 ·rcases bA j k with hjk|hjk
  ·exact i5 j hjk
  ·rw[show j=k by omega,i2];exact h
theorem RJ (hc:cu Ls (r+1) i C o)(hI:ga n D Ls r i C o k C1 o1)(hk:k<(Ls.getD i []).length)(h:(aC o1).length≤64)(hn:(aK n D Ls r (i+1) (C1.set i ((Ls.getD i []).getD k z0l),o1)).2.isNone=true):ga n D Ls r i C o (k+1) (aK n D Ls r (i+1) (C1.set i ((Ls.getD i []).getD k z0l),o1)).1 none:=by
 have:=G2 hc hI hk h
 rw[W6 hn]at this
 exact this
theorem FO (hc:cu Ls (r+1) i C o)(hI:ga n D Ls r i C o k C1 o1)(hk:k<(Ls.getD i []).length)(h:(aC o1).length≤64)(hn:(aK n D Ls r (i+1) (C1.set i ((Ls.getD i []).getD k z0l),o1)).2.isNone=false):ga n D Ls r i C o (k+1) (aK n D Ls r (i+1) (C1.set i ((Ls.getD i []).getD k z0l),o1)).1 (some (aC (aK n D Ls r (i+1) (C1.set i ((Ls.getD i []).getD k z0l),o1)).2)):=by
 have:=G2 hc hI hk h
 rw[W7 hn]at this
 exact this
theorem RK {X:List aG}(hc:cu Ls (r+1) i C o)(hI:ga n D Ls r i C o k C1 (some X))(hk:k<(Ls.getD i []).length)(h:X.length≤64):ga n D Ls r i C o (k+1) (aK n D Ls r (i+1) (C1.set i ((Ls.getD i []).getD k z0l),some X)).1 (some (aC (aK n D Ls r (i+1) (C1.set i ((Ls.getD i []).getD k z0l),some X)).2)):=FO hc hI hk h (FN r (i+1) _ rfl)
theorem G3 (hI:ga n D Ls r i C o k C1 o1)(hk:¬k<(Ls.getD i []).length):aK n D Ls (r+1) i (C,o)=(C1,o1):=by
 rw[←Tw (k:=k) om];exact hI.2.1
theorem G4 (hI:ga n D Ls r i C o k C1 o1)(h:64<(aC o1).length):aK n D Ls (r+1) i (C,o)=(C1,o1):=by
 rw[DK (k:=k) (by rw[hI.2.1];exact h)];exact hI.2.1
end
def rz (Ls:List LL)(i:Nat)(k:AV):List (Nat×AV):=[(0,vi i),(1,.ptr 1000 0),(2,.ptr 1002 0),(3,.ptr 1003 0),(4,.ptr 1004 0),(5,.ptr 1005 0),(6,.ptr 1007 0),(30,(iz (Ls.getD i [])).av),(31,vi (Ls.getD i []).length),(32,k)]
def Be (n D:Int)(Ls:List LL)(i:Nat):Nat×LL×cB→St
 |(k,C,none)=>⟨rz Ls i (vi k),j6 n D Ls C none 2010,2100⟩
 |(k,C,some X)=>⟨rz Ls i (vi k),j6 n D Ls C (some X) 2010,2100⟩
def ID (n D:Int)(Ls:List LL)(i:Nat):Nat×LL×List aG→St
 |(k,C,X)=>⟨rz Ls i (vi k),j6 n D Ls C (some X) 2010,2100⟩
def Yr (m:Tr ag)(u:AV):Option cB:=match u with
 |.nils=>some none
 |.lo b _=>match m.get b with
  |some k=>match k.view with
   |.vals .gen X=>some (some X)
   |_=>none
  |none=>none
 |_=>none
def IE (n D:Int)(Ls:List LL)(r i:Nat):Nat→List AV→Hs→Option (cS×List Prop):=fun f args H=>bif Nat.beq f 11 then(match args with
 |[_,.ptr b0 _,_,_,.ptr b4 _,_,_]=>match kO H.m b0 with
  |some (.lo bl _)=>match Hr H.m bl with
   |none=>none
   |some C=>match kO H.m b4 with
    |none=>none
    |some u=>match Yr H.m u with
     |none=>none
     |some o=>some (gt n D Ls r (i+1) C o,[cu Ls r (i+1) C o])
  |_=>none
 |_=>none)else none
theorem sk {n D:Int}{Ls:List LL}{r i:Nat}(ih:∀C o,cu Ls r (i+1) C o→aP Tryz.prog EV.ng (gt n D Ls r (i+1) C o)):∀f args H A ms,IE n D Ls r i f args H=some (A,ms)→(∀q∈ms,q)→aP Tryz.prog EV.ng A:=by
 intro f args H A ms hq hm
 unfold IE at hq
 replace hq:=(ay hq).2
 split at hq
 ·split at hq
  ·split at hq
   ·cases hq
   ·split at hq
    ·cases hq
    ·split at hq
     ·cases hq
     ·cases hq
      exact ih _ _ (aA hm)
  ·cases hq
 ·cases hq
def Xu (n D:Int)(Ls:List LL)(r i:Nat)(C:LL):aO:=⟨⟨rz Ls i (.int .i64 0),j6 n D Ls C none 1010,1200⟩,none,fun _=>(.exit 0,⟨[],j6 n D Ls (aK n D Ls (r+1) i (C,none)).1 none 2010,2100⟩)⟩
def IF (n D:Int)(Ls:List LL)(r i:Nat)(C:LL)(o:cB):aO:=⟨⟨rz Ls i (.int .i64 0),j6 n D Ls C o 1010,1200⟩,none,fun _=>(.exit 0,⟨[],j6 n D Ls (aK n D Ls (r+1) i (C,o)).1 (some (aC (aK n D Ls (r+1) i (C,o)).2)) 2010,2100⟩)⟩
def IG (n D:Int)(Ls:List LL)(r i:Nat)(C:LL)(o:cB):aO:=⟨⟨rz Ls i (.int .i64 0),j6 n D Ls C o 1010,1200⟩,none,fun _=>(.ret,⟨[],j6 n D Ls (aK n D Ls (r+1) i (C,o)).1 (some (aC (aK n D Ls (r+1) i (C,o)).2)) 2010,2100⟩)⟩
theorem sm (x:QfSy.Loc):(⟨x.prime,eX ae.con x.list.length fun i=>(x.list.getD i z0c).rvs⟩:QfSy.Loc)=x:=by
 show(⟨x.prime,aF x.list.length fun i=>(x.list.getD i z0c).rvs⟩:QfSy.Loc)=x
 rw[cb]
set_option maxHeartbeats 4000000 in
theorem Vf (n D:Int)(Ls:List LL)(r i:Nat)(C:LL)(hc:cu Ls (r+1) i C none)(hz:(aK n D Ls (r+1) i (C,none)).2.isNone=true)(ih:∀C o,cu Ls r (i+1) C o→aP Tryz.prog EV.ng (gt n D Ls r (i+1) C o)):An 7 Tryz.f11 [0,1,1] (Xu n D Ls r i C):=by
 have hcc:=hc
 obtain⟨c1,c2,c3,c4,c5,c6,c7⟩:=hcc
 have c8:=(c5 i).2
 refine fj (cF (cD (sk ih) (cm _ _))) aE (Be n D Ls i) (fun q=>(Ls.getD i []).length-q.1) (fun q=>ga n D Ls r i C none q.1 q.2.1 q.2.2) ?_ ?_
 ·exact st (0,C,none) (let t1:=Ls.getD i [];[rq (↑i:Int),sl t1,rq (↑t1.length:Int),(0:Int)=↑(0:Nat),rq C.length,C=C,n=n,D=D,rq Ls.length,Ls=Ls]) BG (by exact sH hc)
 ·rintro ⟨k,C1,o⟩ hI
  have eK:=sm ((Ls.getD i []).getD k z0l)
  have hI:ga n D Ls r i C none k C1 o:=hI
  have i1:=hI.1
  have i3:=hI.2.2.1
  have ek:=wk k
  have ei:=wk i
  rcases o with _|X
  rotate_right
  refine oe (decide ((↑k:Int)<(↑(Ls.getD i []).length:Int))) (fun d1=>oe (decide ((↑X.length:Int)>64)) (fun d2=>a8.no ?_)
   (fun d2=>aH [true,false] (k+1,(aK n D Ls r (i+1) (C1.set i ((Ls.getD i []).getD k z0l),some X)).1,some (aC (aK n D Ls r (i+1) (C1.set i ((Ls.getD i []).getD k z0l),some X)).2)) (let v6:=Ls.getD i [];let v1:=v6.getD k z0l;let v2:=eX ae.con v1.list.length fun i_1=>(v1.list.getD i_1 z0c).rvs;let v3:=(aK n D Ls r (i+1) (C1.set i (Loc.mk v1.prime v2),some X));let v4:=(aK n D Ls r (i+1) (C1.set i v1,some X));let v5:=C1.set i (Loc.mk v1.prime v2);[rq (↑i:Int),sl v6,rq (↑v6.length:Int),w6.wrap ((↑k:Int)+1)=↑(k+1),v3.fst.length=v4.fst.length,v3.fst=v4.fst,n=n,D=D,(aC v3.snd).length=(aC v4.snd).length,rq Ls.length,Ls=Ls,aC v3.snd=aC v4.snd,cu Ls r (i+1) v5 (some X),w6.wrap ((↑i:Int)+1)=↑(i+1),C1.length=v5.length,rq v5,n=n,D=D,rq X.length,rq Ls.length,Ls=Ls,X=X,i<C1.length,∀(i_1:Nat),i_1<v1.list.length→(fun i_2=>(v1.list.getD i_2 z0c).rvs) i_1=ae.con.rvs (ae.con.of ((fun i_2=>(v1.list.getD i_2 z0c).rvs) i_1)),(0:Int)≤↑i∧(↑i:Int)<↑C1.length,ty d2,(0:Int)≤↑k∧(↑k:Int)<↑v6.length,ty d1]) ?_ ?_ ?_))
   (fun d1=>a8.no ?_)
  all_goals with_reducible repeat' first|exact dA|refine bx ?_ ?_|refine bz ?_
  rotate_right
  refine(let q1:List Prop→List Prop:=fun l0=>(let v5:=Ls.getD i [];let v1:=v5.getD k z0l;let v2:=eX ae.con v1.list.length fun i_1=>(v1.list.getD i_1 z0c).rvs;let v3:=(aK n D Ls r (i+1) (C1.set i (Loc.mk v1.prime v2),none));let v4:=(aK n D Ls r (i+1) (C1.set i v1,none));rq (↑i:Int)::(sl v5)::rq (↑v5.length:Int)::(w6.wrap ((↑k:Int)+1)=↑(k+1))::(v3.fst.length=v4.fst.length)::(v3.fst=v4.fst)::(n=n)::(D=D)::l0);oe (decide ((↑k:Int)<(↑(Ls.getD i []).length:Int))) (fun d1=>let y1:List Prop:=(let v1:=(Ls.getD i []).getD k z0l;[i<C1.length,∀(i_1:Nat),i_1<v1.list.length→(fun i_2=>(v1.list.getD i_2 z0c).rvs) i_1=ae.con.rvs (ae.con.of ((fun i_2=>(v1.list.getD i_2 z0c).rvs) i_1)),(0:Int)≤↑i∧(↑i:Int)<↑C1.length,(0:Int)≤↑k∧(↑k:Int)<(↑(Ls.getD i []).length:Int),ty d1]);have u1:ar y1:=⟨?_,?_,?_,?_,d1⟩;oe (Option.isNone (aK n D Ls r (i+1) (C1.set i (Loc.mk ((Ls.getD i []).getD k z0l).prime (eX ae.con ((Ls.getD i []).getD k z0l).list.length fun i_1=>(((Ls.getD i []).getD k z0l).list.getD i_1 z0c).rvs)),none)).snd) (fun d2=>aH [true,true] (k+1,(aK n D Ls r (i+1) (C1.set i ((Ls.getD i []).getD k z0l),none)).1,none) (q1 (let v1:=eX ae.con ((Ls.getD i []).getD k z0l).list.length fun i_1=>(((Ls.getD i []).getD k z0l).list.getD i_1 z0c).rvs;let v2:=C1.set i (Loc.mk ((Ls.getD i []).getD k z0l).prime v1);rq Ls.length::(Ls=Ls)::(cu Ls r (i+1) v2 none)::(w6.wrap ((↑i:Int)+1)=↑(i+1))::(C1.length=v2.length)::rq v2::(n=n)::(D=D)::rq Ls.length::(Ls=Ls)::ty d2::y1)) ?_ ?_ ?_)
   (fun d2=>aH [true,false] (k+1,(aK n D Ls r (i+1) (C1.set i ((Ls.getD i []).getD k z0l),none)).1,some (aC (aK n D Ls r (i+1) (C1.set i ((Ls.getD i []).getD k z0l),none)).2)) (q1 (let v1:=eX ae.con ((Ls.getD i []).getD k z0l).list.length fun i_1=>(((Ls.getD i []).getD k z0l).list.getD i_1 z0c).rvs;let v2:=Loc.mk ((Ls.getD i []).getD k z0l).prime v1;let v3:=(aK n D Ls r (i+1) (C1.set i ((Ls.getD i []).getD k z0l),none));let v4:=(aK n D Ls r (i+1) (C1.set i v2,none));((aC v4.snd).length=(aC v3.snd).length)::rq Ls.length::(Ls=Ls)::(aC v4.snd=aC v3.snd)::(cu Ls r (i+1) (C1.set i v2) none)::(w6.wrap ((↑i:Int)+1)=↑(i+1))::(C1.length=(C1.set i v2).length)::rq (C1.set i v2)::(n=n)::(D=D)::rq Ls.length::(Ls=Ls)::ty d2::y1)) ?_ ?_ ?_))
   (fun d1=>b9 [false] (let v1:=(aK n D Ls (r+1) i (C,none));[C1.length=v1.fst.length,C1=v1.fst,n=n,D=D,rq Ls.length,Ls=Ls,ty d1]) ?_))
  all_goals with_reducible repeat' first|exact dA|refine bx ?_ ?_|refine bz ?_
  all_goals first|exact tX|exact tT|(refine a8.mk ?_;(first|exact Ka|(have e1:=G4 hI (show 64<(aC (some X)).length from by have:=oT d2;show 64<X.length;omega);rw[e1]at hz;cases hz)))|exact tS
set_option maxHeartbeats 4000000 in
theorem Vg (n D:Int)(Ls:List LL)(r i:Nat)(C:LL)(hc:cu Ls (r+1) i C none)(hz:(aK n D Ls (r+1) i (C,none)).2.isNone=false)(hE:∀j,j<(Ls.getD i []).length→(aC (ft n D Ls r i (C,none) j).2).length≤64)(ih:∀C o,cu Ls r (i+1) C o→aP Tryz.prog EV.ng (gt n D Ls r (i+1) C o)):An 7 Tryz.f11 [0,1,1] (IF n D Ls r i C none):=by
 have hcc:=hc
 obtain⟨c1,c2,c3,c4,c5,c6,c7⟩:=hcc
 have c8:=(c5 i).2
 refine fj (cF (cD (sk ih) (cm _ _))) aE (Be n D Ls i) (fun q=>(Ls.getD i []).length-q.1) (fun q=>ga n D Ls r i C none q.1 q.2.1 q.2.2) ?_ ?_
 ·exact st (0,C,none) (let t1:=Ls.getD i [];[rq (↑i:Int),sl t1,rq (↑t1.length:Int),(0:Int)=↑(0:Nat),rq C.length,C=C,n=n,D=D,rq Ls.length,Ls=Ls]) BG (by exact sH hc)
 ·rintro ⟨k,C1,o⟩ hI
  have eK:=sm ((Ls.getD i []).getD k z0l)
  have hI:ga n D Ls r i C none k C1 o:=hI
  have i1:=hI.1
  have i3:=hI.2.2.1
  have ek:=wk k
  have ei:=wk i
  rcases o with _|X
  rotate_right
  refine oe (decide ((↑k:Int)<(↑(Ls.getD i []).length:Int))) (fun d1=>oe (decide ((↑X.length:Int)>64)) (fun d2=>a8.no ?_)
   (fun d2=>aH [true,false] (k+1,(aK n D Ls r (i+1) (C1.set i ((Ls.getD i []).getD k z0l),some X)).1,some (aC (aK n D Ls r (i+1) (C1.set i ((Ls.getD i []).getD k z0l),some X)).2)) (let v6:=Ls.getD i [];let v1:=v6.getD k z0l;let v2:=eX ae.con v1.list.length fun i_1=>(v1.list.getD i_1 z0c).rvs;let v3:=(aK n D Ls r (i+1) (C1.set i (Loc.mk v1.prime v2),some X));let v4:=(aK n D Ls r (i+1) (C1.set i v1,some X));let v5:=C1.set i (Loc.mk v1.prime v2);[rq (↑i:Int),sl v6,rq (↑v6.length:Int),w6.wrap ((↑k:Int)+1)=↑(k+1),v3.fst.length=v4.fst.length,v3.fst=v4.fst,n=n,D=D,(aC v3.snd).length=(aC v4.snd).length,rq Ls.length,Ls=Ls,aC v3.snd=aC v4.snd,cu Ls r (i+1) v5 (some X),w6.wrap ((↑i:Int)+1)=↑(i+1),C1.length=v5.length,rq v5,n=n,D=D,rq X.length,rq Ls.length,Ls=Ls,X=X,i<C1.length,∀(i_1:Nat),i_1<v1.list.length→(fun i_2=>(v1.list.getD i_2 z0c).rvs) i_1=ae.con.rvs (ae.con.of ((fun i_2=>(v1.list.getD i_2 z0c).rvs) i_1)),(0:Int)≤↑i∧(↑i:Int)<↑C1.length,ty d2,(0:Int)≤↑k∧(↑k:Int)<↑v6.length,ty d1]) ?_ ?_ ?_))
   (fun d1=>b9 [false] (let v1:=(aK n D Ls (r+1) i (C,none));[C1.length=v1.fst.length,C1=v1.fst,n=n,D=D,X.length=(aC v1.snd).length,rq Ls.length,Ls=Ls,X=aC v1.snd,ty d1]) ?_)
  all_goals with_reducible repeat' first|exact dA|refine bx ?_ ?_|refine bz ?_
  rotate_right
  refine(let q1:List Prop→List Prop:=fun l0=>(let v5:=Ls.getD i [];let v1:=v5.getD k z0l;let v2:=eX ae.con v1.list.length fun i_1=>(v1.list.getD i_1 z0c).rvs;let v3:=(aK n D Ls r (i+1) (C1.set i (Loc.mk v1.prime v2),none));let v4:=(aK n D Ls r (i+1) (C1.set i v1,none));rq (↑i:Int)::(sl v5)::rq (↑v5.length:Int)::(w6.wrap ((↑k:Int)+1)=↑(k+1))::(v3.fst.length=v4.fst.length)::(v3.fst=v4.fst)::(n=n)::(D=D)::l0);oe (decide ((↑k:Int)<(↑(Ls.getD i []).length:Int))) (fun d1=>let y1:List Prop:=(let v1:=(Ls.getD i []).getD k z0l;[i<C1.length,∀(i_1:Nat),i_1<v1.list.length→(fun i_2=>(v1.list.getD i_2 z0c).rvs) i_1=ae.con.rvs (ae.con.of ((fun i_2=>(v1.list.getD i_2 z0c).rvs) i_1)),(0:Int)≤↑i∧(↑i:Int)<↑C1.length,(0:Int)≤↑k∧(↑k:Int)<(↑(Ls.getD i []).length:Int),ty d1]);have u1:ar y1:=⟨?_,?_,?_,?_,d1⟩;oe (Option.isNone (aK n D Ls r (i+1) (C1.set i (Loc.mk ((Ls.getD i []).getD k z0l).prime (eX ae.con ((Ls.getD i []).getD k z0l).list.length fun i_1=>(((Ls.getD i []).getD k z0l).list.getD i_1 z0c).rvs)),none)).snd) (fun d2=>aH [true,true] (k+1,(aK n D Ls r (i+1) (C1.set i ((Ls.getD i []).getD k z0l),none)).1,none) (q1 (let v1:=eX ae.con ((Ls.getD i []).getD k z0l).list.length fun i_1=>(((Ls.getD i []).getD k z0l).list.getD i_1 z0c).rvs;let v2:=C1.set i (Loc.mk ((Ls.getD i []).getD k z0l).prime v1);rq Ls.length::(Ls=Ls)::(cu Ls r (i+1) v2 none)::(w6.wrap ((↑i:Int)+1)=↑(i+1))::(C1.length=v2.length)::rq v2::(n=n)::(D=D)::rq Ls.length::(Ls=Ls)::ty d2::y1)) ?_ ?_ ?_)
   (fun d2=>aH [true,false] (k+1,(aK n D Ls r (i+1) (C1.set i ((Ls.getD i []).getD k z0l),none)).1,some (aC (aK n D Ls r (i+1) (C1.set i ((Ls.getD i []).getD k z0l),none)).2)) (q1 (let v1:=eX ae.con ((Ls.getD i []).getD k z0l).list.length fun i_1=>(((Ls.getD i []).getD k z0l).list.getD i_1 z0c).rvs;let v2:=Loc.mk ((Ls.getD i []).getD k z0l).prime v1;let v3:=(aK n D Ls r (i+1) (C1.set i ((Ls.getD i []).getD k z0l),none));let v4:=(aK n D Ls r (i+1) (C1.set i v2,none));((aC v4.snd).length=(aC v3.snd).length)::rq Ls.length::(Ls=Ls)::(aC v4.snd=aC v3.snd)::(cu Ls r (i+1) (C1.set i v2) none)::(w6.wrap ((↑i:Int)+1)=↑(i+1))::(C1.length=(C1.set i v2).length)::rq (C1.set i v2)::(n=n)::(D=D)::rq Ls.length::(Ls=Ls)::ty d2::y1)) ?_ ?_ ?_))
   (fun d1=>a8.no ?_))
  all_goals with_reducible repeat' first|exact dA|refine bx ?_ ?_|refine bz ?_
  all_goals first|exact tX|exact tT|(refine a8.mk ?_;(first|exact Ka|exact K5))|exact tS
set_option maxHeartbeats 4000000 in
theorem Vh (n D:Int)(Ls:List LL)(r i:Nat)(C:LL)(hc:cu Ls (r+1) i C none)(hR:∃j,j<(Ls.getD i []).length∧64<(aC (ft n D Ls r i (C,none) j).2).length)(ih:∀C o,cu Ls r (i+1) C o→aP Tryz.prog EV.ng (gt n D Ls r (i+1) C o)):An 7 Tryz.f11 [0,1,1] (IG n D Ls r i C none):=by
 have hcc:=hc
 obtain⟨c1,c2,c3,c4,c5,c6,c7⟩:=hcc
 have c8:=(c5 i).2
 refine fj (cF (cD (sk ih) (cm _ _))) aE (Be n D Ls i) (fun q=>(Ls.getD i []).length-q.1) (fun q=>ga n D Ls r i C none q.1 q.2.1 q.2.2) ?_ ?_
 ·exact st (0,C,none) (let t1:=Ls.getD i [];[rq (↑i:Int),sl t1,rq (↑t1.length:Int),(0:Int)=↑(0:Nat),rq C.length,C=C,n=n,D=D,rq Ls.length,Ls=Ls]) BG (by exact sH hc)
 ·rintro ⟨k,C1,o⟩ hI
  have eK:=sm ((Ls.getD i []).getD k z0l)
  have hI:ga n D Ls r i C none k C1 o:=hI
  have i1:=hI.1
  have i3:=hI.2.2.1
  have ek:=wk k
  have ei:=wk i
  rcases o with _|X
  rotate_right
  refine oe (decide ((↑k:Int)<(↑(Ls.getD i []).length:Int))) (fun d1=>let y1:List Prop:=[(0:Int)≤↑k∧(↑k:Int)<(↑(Ls.getD i []).length:Int),ty d1];have u1:ar y1:=⟨?_,d1⟩;oe (decide ((↑X.length:Int)>64)) (fun d2=>b9 [true,true] (let v1:=(aK n D Ls (r+1) i (C,none));(C1.length=v1.fst.length)::(C1=v1.fst)::(n=n)::(D=D)::(X.length=(aC v1.snd).length)::rq Ls.length::(Ls=Ls)::(X=aC v1.snd)::ty d2::y1) ?_)
   (fun d2=>aH [true,false] (k+1,(aK n D Ls r (i+1) (C1.set i ((Ls.getD i []).getD k z0l),some X)).1,some (aC (aK n D Ls r (i+1) (C1.set i ((Ls.getD i []).getD k z0l),some X)).2)) (let v6:=Ls.getD i [];let v1:=v6.getD k z0l;let v2:=eX ae.con v1.list.length fun i_1=>(v1.list.getD i_1 z0c).rvs;let v3:=(aK n D Ls r (i+1) (C1.set i (Loc.mk v1.prime v2),some X));let v4:=(aK n D Ls r (i+1) (C1.set i v1,some X));let v5:=C1.set i (Loc.mk v1.prime v2);rq (↑i:Int)::(sl v6)::rq (↑v6.length:Int)::(w6.wrap ((↑k:Int)+1)=↑(k+1))::(v3.fst.length=v4.fst.length)::(v3.fst=v4.fst)::(n=n)::(D=D)::((aC v3.snd).length=(aC v4.snd).length)::rq Ls.length::(Ls=Ls)::(aC v3.snd=aC v4.snd)::(cu Ls r (i+1) v5 (some X))::(w6.wrap ((↑i:Int)+1)=↑(i+1))::(C1.length=v5.length)::rq v5::(n=n)::(D=D)::rq X.length::rq Ls.length::(Ls=Ls)::(X=X)::(i<C1.length)::(∀(i_1:Nat),i_1<v1.list.length→(fun i_2=>(v1.list.getD i_2 z0c).rvs) i_1=ae.con.rvs (ae.con.of ((fun i_2=>(v1.list.getD i_2 z0c).rvs) i_1)))::((0:Int)≤↑i∧(↑i:Int)<↑C1.length)::ty d2::y1) ?_ ?_ ?_))
   (fun d1=>a8.no ?_)
  all_goals with_reducible repeat' first|exact dA|refine bx ?_ ?_|refine bz ?_
  rotate_right
  refine(let q1:List Prop→List Prop:=fun l0=>(let v5:=Ls.getD i [];let v1:=v5.getD k z0l;let v2:=eX ae.con v1.list.length fun i_1=>(v1.list.getD i_1 z0c).rvs;let v3:=(aK n D Ls r (i+1) (C1.set i (Loc.mk v1.prime v2),none));let v4:=(aK n D Ls r (i+1) (C1.set i v1,none));rq (↑i:Int)::(sl v5)::rq (↑v5.length:Int)::(w6.wrap ((↑k:Int)+1)=↑(k+1))::(v3.fst.length=v4.fst.length)::(v3.fst=v4.fst)::(n=n)::(D=D)::l0);oe (decide ((↑k:Int)<(↑(Ls.getD i []).length:Int))) (fun d1=>let y1:List Prop:=(let v1:=(Ls.getD i []).getD k z0l;[i<C1.length,∀(i_1:Nat),i_1<v1.list.length→(fun i_2=>(v1.list.getD i_2 z0c).rvs) i_1=ae.con.rvs (ae.con.of ((fun i_2=>(v1.list.getD i_2 z0c).rvs) i_1)),(0:Int)≤↑i∧(↑i:Int)<↑C1.length,(0:Int)≤↑k∧(↑k:Int)<(↑(Ls.getD i []).length:Int),ty d1]);have u1:ar y1:=⟨?_,?_,?_,?_,d1⟩;oe (Option.isNone (aK n D Ls r (i+1) (C1.set i (Loc.mk ((Ls.getD i []).getD k z0l).prime (eX ae.con ((Ls.getD i []).getD k z0l).list.length fun i_1=>(((Ls.getD i []).getD k z0l).list.getD i_1 z0c).rvs)),none)).snd) (fun d2=>aH [true,true] (k+1,(aK n D Ls r (i+1) (C1.set i ((Ls.getD i []).getD k z0l),none)).1,none) (q1 (let v1:=eX ae.con ((Ls.getD i []).getD k z0l).list.length fun i_1=>(((Ls.getD i []).getD k z0l).list.getD i_1 z0c).rvs;let v2:=C1.set i (Loc.mk ((Ls.getD i []).getD k z0l).prime v1);rq Ls.length::(Ls=Ls)::(cu Ls r (i+1) v2 none)::(w6.wrap ((↑i:Int)+1)=↑(i+1))::(C1.length=v2.length)::rq v2::(n=n)::(D=D)::rq Ls.length::(Ls=Ls)::ty d2::y1)) ?_ ?_ ?_)
   (fun d2=>aH [true,false] (k+1,(aK n D Ls r (i+1) (C1.set i ((Ls.getD i []).getD k z0l),none)).1,some (aC (aK n D Ls r (i+1) (C1.set i ((Ls.getD i []).getD k z0l),none)).2)) (q1 (let v1:=eX ae.con ((Ls.getD i []).getD k z0l).list.length fun i_1=>(((Ls.getD i []).getD k z0l).list.getD i_1 z0c).rvs;let v2:=Loc.mk ((Ls.getD i []).getD k z0l).prime v1;let v3:=(aK n D Ls r (i+1) (C1.set i ((Ls.getD i []).getD k z0l),none));let v4:=(aK n D Ls r (i+1) (C1.set i v2,none));((aC v4.snd).length=(aC v3.snd).length)::rq Ls.length::(Ls=Ls)::(aC v4.snd=aC v3.snd)::(cu Ls r (i+1) (C1.set i v2) none)::(w6.wrap ((↑i:Int)+1)=↑(i+1))::(C1.length=(C1.set i v2).length)::rq (C1.set i v2)::(n=n)::(D=D)::rq Ls.length::(Ls=Ls)::ty d2::y1)) ?_ ?_ ?_))
   (fun d1=>a8.no ?_))
  all_goals with_reducible repeat' first|exact dA|refine bx ?_ ?_|refine bz ?_
  all_goals first|exact tX|exact tT|exact K4|exact tS
set_option maxHeartbeats 4000000 in
theorem SM (n D:Int)(Ls:List LL)(r i:Nat)(C:LL)(X0:List aG)(hc:cu Ls (r+1) i C (some X0))(hE:∀j,j<(Ls.getD i []).length→(aC (ft n D Ls r i (C,(some X0)) j).2).length≤64)(ih:∀C o,cu Ls r (i+1) C o→aP Tryz.prog EV.ng (gt n D Ls r (i+1) C o)):An 7 Tryz.f11 [0,1,1] (IF n D Ls r i C (some X0)):=by
 have hcc:=hc
 obtain⟨c1,c2,c3,c4,c5,c6,c7⟩:=hcc
 have c8:=(c5 i).2
 refine fj (cF (cD (sk ih) (cm _ _))) aE (ID n D Ls i) (fun q=>(Ls.getD i []).length-q.1) (fun q=>ga n D Ls r i C (some X0) q.1 q.2.1 (some q.2.2)) ?_ ?_
 ·exact st (0,C,X0) (let t1:=Ls.getD i [];[rq (↑i:Int),sl t1,rq (↑t1.length:Int),(0:Int)=↑(0:Nat),rq C.length,C=C,n=n,D=D,rq X0.length,rq Ls.length,Ls=Ls,X0=X0]) Kh (by exact sH hc)
 ·rintro ⟨k,C1,X⟩ hI
  have eK:=sm ((Ls.getD i []).getD k z0l)
  have hI:ga n D Ls r i C (some X0) k C1 (some X):=hI
  have i1:=hI.1
  have i3:=hI.2.2.1
  have ek:=wk k
  have ei:=wk i
  refine oe (decide ((↑k:Int)<(↑(Ls.getD i []).length:Int))) (fun d1=>oe (decide ((↑X.length:Int)>64)) (fun d2=>a8.no ?_)
   (fun d2=>aH [true,false] (k+1,(aK n D Ls r (i+1) (C1.set i ((Ls.getD i []).getD k z0l),some X)).1,aC (aK n D Ls r (i+1) (C1.set i ((Ls.getD i []).getD k z0l),some X)).2) (let v6:=Ls.getD i [];let v1:=v6.getD k z0l;let v2:=eX ae.con v1.list.length fun i_1=>(v1.list.getD i_1 z0c).rvs;let v3:=(aK n D Ls r (i+1) (C1.set i (Loc.mk v1.prime v2),some X));let v4:=(aK n D Ls r (i+1) (C1.set i v1,some X));let v5:=C1.set i (Loc.mk v1.prime v2);[rq (↑i:Int),sl v6,rq (↑v6.length:Int),w6.wrap ((↑k:Int)+1)=↑(k+1),v3.fst.length=v4.fst.length,v3.fst=v4.fst,n=n,D=D,(aC v3.snd).length=(aC v4.snd).length,rq Ls.length,Ls=Ls,aC v3.snd=aC v4.snd,cu Ls r (i+1) v5 (some X),w6.wrap ((↑i:Int)+1)=↑(i+1),C1.length=v5.length,rq v5,n=n,D=D,rq X.length,rq Ls.length,Ls=Ls,X=X,i<C1.length,∀(i_1:Nat),i_1<v1.list.length→(fun i_2=>(v1.list.getD i_2 z0c).rvs) i_1=ae.con.rvs (ae.con.of ((fun i_2=>(v1.list.getD i_2 z0c).rvs) i_1)),(0:Int)≤↑i∧(↑i:Int)<↑C1.length,ty d2,(0:Int)≤↑k∧(↑k:Int)<↑v6.length,ty d1]) ?_ ?_ ?_))
   (fun d1=>b9 [false] (let v1:=(aK n D Ls (r+1) i (C,some X0));[C1.length=v1.fst.length,C1=v1.fst,n=n,D=D,X.length=(aC v1.snd).length,rq Ls.length,Ls=Ls,X=aC v1.snd,ty d1]) ?_)
  all_goals with_reducible repeat' first|exact dA|refine bx ?_ ?_|refine bz ?_
  all_goals first|exact tX|exact tT|(refine a8.mk ?_;(first|exact K5))|exact tS
set_option maxHeartbeats 4000000 in
theorem SN (n D:Int)(Ls:List LL)(r i:Nat)(C:LL)(X0:List aG)(hc:cu Ls (r+1) i C (some X0))(hR:∃j,j<(Ls.getD i []).length∧64<(aC (ft n D Ls r i (C,(some X0)) j).2).length)(ih:∀C o,cu Ls r (i+1) C o→aP Tryz.prog EV.ng (gt n D Ls r (i+1) C o)):An 7 Tryz.f11 [0,1,1] (IG n D Ls r i C (some X0)):=by
 have hcc:=hc
 obtain⟨c1,c2,c3,c4,c5,c6,c7⟩:=hcc
 have c8:=(c5 i).2
 refine fj (cF (cD (sk ih) (cm _ _))) aE (ID n D Ls i) (fun q=>(Ls.getD i []).length-q.1) (fun q=>ga n D Ls r i C (some X0) q.1 q.2.1 (some q.2.2)) ?_ ?_
 ·exact st (0,C,X0) (let t1:=Ls.getD i [];[rq (↑i:Int),sl t1,rq (↑t1.length:Int),(0:Int)=↑(0:Nat),rq C.length,C=C,n=n,D=D,rq X0.length,rq Ls.length,Ls=Ls,X0=X0]) Kh (by exact sH hc)
 ·rintro ⟨k,C1,X⟩ hI
  have eK:=sm ((Ls.getD i []).getD k z0l)
  have hI:ga n D Ls r i C (some X0) k C1 (some X):=hI
  have i1:=hI.1
  have i3:=hI.2.2.1
  have ek:=wk k
  have ei:=wk i
  refine oe (decide ((↑k:Int)<(↑(Ls.getD i []).length:Int))) (fun d1=>let y1:List Prop:=[(0:Int)≤↑k∧(↑k:Int)<(↑(Ls.getD i []).length:Int),ty d1];have u1:ar y1:=⟨?_,d1⟩;oe (decide ((↑X.length:Int)>64)) (fun d2=>b9 [true,true] (let v1:=(aK n D Ls (r+1) i (C,some X0));(C1.length=v1.fst.length)::(C1=v1.fst)::(n=n)::(D=D)::(X.length=(aC v1.snd).length)::rq Ls.length::(Ls=Ls)::(X=aC v1.snd)::ty d2::y1) ?_)
   (fun d2=>aH [true,false] (k+1,(aK n D Ls r (i+1) (C1.set i ((Ls.getD i []).getD k z0l),some X)).1,aC (aK n D Ls r (i+1) (C1.set i ((Ls.getD i []).getD k z0l),some X)).2) (let v6:=Ls.getD i [];let v1:=v6.getD k z0l;let v2:=eX ae.con v1.list.length fun i_1=>(v1.list.getD i_1 z0c).rvs;let v3:=(aK n D Ls r (i+1) (C1.set i (Loc.mk v1.prime v2),some X));let v4:=(aK n D Ls r (i+1) (C1.set i v1,some X));let v5:=C1.set i (Loc.mk v1.prime v2);rq (↑i:Int)::(sl v6)::rq (↑v6.length:Int)::(w6.wrap ((↑k:Int)+1)=↑(k+1))::(v3.fst.length=v4.fst.length)::(v3.fst=v4.fst)::(n=n)::(D=D)::((aC v3.snd).length=(aC v4.snd).length)::rq Ls.length::(Ls=Ls)::(aC v3.snd=aC v4.snd)::(cu Ls r (i+1) v5 (some X))::(w6.wrap ((↑i:Int)+1)=↑(i+1))::(C1.length=v5.length)::rq v5::(n=n)::(D=D)::rq X.length::rq Ls.length::(Ls=Ls)::(X=X)::(i<C1.length)::(∀(i_1:Nat),i_1<v1.list.length→(fun i_2=>(v1.list.getD i_2 z0c).rvs) i_1=ae.con.rvs (ae.con.of ((fun i_2=>(v1.list.getD i_2 z0c).rvs) i_1)))::((0:Int)≤↑i∧(↑i:Int)<↑C1.length)::ty d2::y1) ?_ ?_ ?_))
   (fun d1=>a8.no ?_)
  all_goals with_reducible repeat' first|exact dA|refine bx ?_ ?_|refine bz ?_
  all_goals first|exact tX|exact tT|exact K4|exact tS
theorem RQ {n D:Int}{Ls:List LL}{r i:Nat}{C:LL}{o:cB}(hR:∃j,j<(Ls.getD i []).length∧64<(aC (ft n D Ls r i (C,o) j).2).length):(aK n D Ls (r+1) i (C,o)).2.isNone=false:=by
 obtain⟨j,j1,j2⟩:=hR
 rw[DK j2]
 cases h:(ft n D Ls r i (C,o) j).2 with
 |none=>rw[h]at j2;exact absurd j2 de
 |some X=>rfl
theorem DN (n D:Int)(Ls:List LL)(r i:Nat)(C:LL)(o:cB):(∃j,j<(Ls.getD i []).length∧64<(aC (ft n D Ls r i (C,o) j).2).length)∨(∀j,j<(Ls.getD i []).length→(aC (ft n D Ls r i (C,o) j).2).length≤64):=by
 by_cases h:∃j,j<(Ls.getD i []).length∧64<(aC (ft n D Ls r i (C,o) j).2).length
 ·exact .inl h
 ·refine .inr fun j hj=>?_
  rcases bA 64 (aC (ft n D Ls r i (C,o) j).2).length with h1|h1
  ·exact absurd ⟨j,hj,h1⟩ h
  ·exact h1
theorem Ty (n D:Int)(Ls:List LL)(r i:Nat)(C:LL)(hc:cu Ls (r+1) i C none)(hz:(aK n D Ls (r+1) i (C,none)).2.isNone=true)(ih:∀C o,cu Ls r (i+1) C o→aP Tryz.prog EV.ng (gt n D Ls r (i+1) C o)):aP Tryz.prog EV.ng (gt n D Ls (r+1) i C none):=by
 have hcc:=hc
 obtain⟨c1,c2,c3,c4,c5,c6,c7⟩:=hcc
 have hy:((i:Int)==(C.length:Int))=false:=cp.2 om
 refine cT c0 Tryz.func11 (bX (Vf n D Ls r i C hc hz ih)) ?_
 intro d hd
 cases d
 rotate_right
 have hd:((aK n D Ls (r+1) i (C,none)).2.isNone)=true:=hd
 refine lr [false] (let v1:=Ls.getD i ae.loc.list.zero;let v2:=(aK n D Ls (r+1) i (C,none));[rq (v2.fst.length),rq (v2.fst),n=n,D=D,rq Ls.length,Ls=Ls,rq (↑i:Int),List.length v1=(Ls.getD i []).length∧(fun i_1=>ae.rvs ae.loc (List.getD v1 i_1 ae.loc.zero))=fun i_1=>((Ls.getD i []).getD i_1 Loc.zero).rvs,(↑(List.length v1):Int)=(↑(Ls.getD i []).length:Int),rq C.length,C=C,n=n,D=D,rq Ls.length,Ls=Ls,i<Ls.length,(0:Int)≤↑i∧(↑i:Int)<↑Ls.length,aa ((↑i:Int)==↑C.length) false]) ⟨?_,?_,?_,?_,?_,?_,?_,?_,?_,?_,?_,?_,?_,?_,?_,?_,?_,hy⟩
 rotate_right
 have hd:((aK n D Ls (r+1) i (C,none)).2.isNone)=false:=hd
 refine a8.no ?_
 all_goals first|exact tW|exact t8
theorem Tz (n D:Int)(Ls:List LL)(r i:Nat)(C:LL)(hc:cu Ls (r+1) i C none)(hz:(aK n D Ls (r+1) i (C,none)).2.isNone=false)(hE:∀j,j<(Ls.getD i []).length→(aC (ft n D Ls r i (C,none) j).2).length≤64)(ih:∀C o,cu Ls r (i+1) C o→aP Tryz.prog EV.ng (gt n D Ls r (i+1) C o)):aP Tryz.prog EV.ng (gt n D Ls (r+1) i C none):=by
 have hcc:=hc
 obtain⟨c1,c2,c3,c4,c5,c6,c7⟩:=hcc
 have hy:((i:Int)==(C.length:Int))=false:=cp.2 om
 refine cT c0 Tryz.func11 (bX (Vg n D Ls r i C hc hz hE ih)) ?_
 intro d hd
 cases d
 rotate_right
 have hd:((aK n D Ls (r+1) i (C,none)).2.isNone)=true:=hd
 refine a8.no ?_
 rotate_right
 have hd:((aK n D Ls (r+1) i (C,none)).2.isNone)=false:=hd
 refine lr [false] (let v1:=(aK n D Ls (r+1) i (C,none));let v2:=Ls.getD i ae.loc.list.zero;[rq (v1.fst.length),rq (v1.fst),n=n,D=D,rq ((aC v1.snd).length),rq Ls.length,Ls=Ls,rq (aC v1.snd),rq (↑i:Int),List.length v2=(Ls.getD i []).length∧(fun i_1=>ae.rvs ae.loc (List.getD v2 i_1 ae.loc.zero))=fun i_1=>((Ls.getD i []).getD i_1 Loc.zero).rvs,(↑(List.length v2):Int)=(↑(Ls.getD i []).length:Int),rq C.length,C=C,n=n,D=D,rq Ls.length,Ls=Ls,i<Ls.length,(0:Int)≤↑i∧(↑i:Int)<↑Ls.length,aa ((↑i:Int)==↑C.length) false]) ⟨?_,?_,?_,?_,?_,?_,?_,?_,?_,?_,?_,?_,?_,?_,?_,?_,?_,?_,?_,hy⟩
 all_goals first|exact tW|exact t8
theorem TK (n D:Int)(Ls:List LL)(r i:Nat)(C:LL)(hc:cu Ls (r+1) i C none)(hR:∃j,j<(Ls.getD i []).length∧64<(aC (ft n D Ls r i (C,none) j).2).length)(ih:∀C o,cu Ls r (i+1) C o→aP Tryz.prog EV.ng (gt n D Ls r (i+1) C o)):aP Tryz.prog EV.ng (gt n D Ls (r+1) i C none):=by
 have hcc:=hc
 obtain⟨c1,c2,c3,c4,c5,c6,c7⟩:=hcc
 have hy:((i:Int)==(C.length:Int))=false:=cp.2 om
 have hz:(aK n D Ls (r+1) i (C,none)).2.isNone=false:=RQ hR
 refine cT c0 Tryz.func11 (bX (Vh n D Ls r i C hc hR ih)) ?_
 intro d hd
 cases d
 rotate_right
 have hd:((aK n D Ls (r+1) i (C,none)).2.isNone)=true:=hd
 refine a8.no ?_
 rotate_right
 have hd:((aK n D Ls (r+1) i (C,none)).2.isNone)=false:=hd
 refine lr [false] (let v1:=(aK n D Ls (r+1) i (C,none));let v2:=Ls.getD i ae.loc.list.zero;[rq (v1.fst.length),rq (v1.fst),n=n,D=D,rq ((aC v1.snd).length),rq Ls.length,Ls=Ls,rq (aC v1.snd),rq (↑i:Int),List.length v2=(Ls.getD i []).length∧(fun i_1=>ae.rvs ae.loc (List.getD v2 i_1 ae.loc.zero))=fun i_1=>((Ls.getD i []).getD i_1 Loc.zero).rvs,(↑(List.length v2):Int)=(↑(Ls.getD i []).length:Int),rq C.length,C=C,n=n,D=D,rq Ls.length,Ls=Ls,i<Ls.length,(0:Int)≤↑i∧(↑i:Int)<↑Ls.length,aa ((↑i:Int)==↑C.length) false]) ⟨?_,?_,?_,?_,?_,?_,?_,?_,?_,?_,?_,?_,?_,?_,?_,?_,?_,?_,?_,hy⟩
 all_goals first|exact tW|exact t8
theorem RS (n D:Int)(Ls:List LL)(r i:Nat)(C:LL)(X:List aG)(hc:cu Ls (r+1) i C (some X))(hE:∀j,j<(Ls.getD i []).length→(aC (ft n D Ls r i (C,(some X)) j).2).length≤64)(ih:∀C o,cu Ls r (i+1) C o→aP Tryz.prog EV.ng (gt n D Ls r (i+1) C o)):aP Tryz.prog EV.ng (gt n D Ls (r+1) i C (some X)):=by
 have hcc:=hc
 obtain⟨c1,c2,c3,c4,c5,c6,c7⟩:=hcc
 have hy:((i:Int)==(C.length:Int))=false:=cp.2 om
 refine cT c0 Tryz.func11 (bX (SM n D Ls r i C X hc hE ih)) ?_
 intro d hd
 cases d
 ·exact Bool.noConfusion (show false=true from hd)
 ·refine lr [false] (let v1:=(aK n D Ls (r+1) i (C,some X));let v2:=Ls.getD i ae.loc.list.zero;[rq (v1.fst.length),rq (v1.fst),n=n,D=D,rq ((aC v1.snd).length),rq Ls.length,Ls=Ls,rq (aC v1.snd),rq (↑i:Int),List.length v2=(Ls.getD i []).length∧(fun i_1=>ae.rvs ae.loc (List.getD v2 i_1 ae.loc.zero))=fun i_1=>((Ls.getD i []).getD i_1 Loc.zero).rvs,(↑(List.length v2):Int)=(↑(Ls.getD i []).length:Int),rq C.length,C=C,n=n,D=D,rq X.length,rq Ls.length,Ls=Ls,X=X,i<Ls.length,(0:Int)≤↑i∧(↑i:Int)<↑Ls.length,aa ((↑i:Int)==↑C.length) false]) ⟨?_,?_,?_,?_,?_,?_,?_,?_,?_,?_,?_,?_,?_,?_,?_,?_,?_,?_,?_,?_,?_,hy⟩
  all_goals first|exact tW|exact t8
theorem RT (n D:Int)(Ls:List LL)(r i:Nat)(C:LL)(X:List aG)(hc:cu Ls (r+1) i C (some X))(hR:∃j,j<(Ls.getD i []).length∧64<(aC (ft n D Ls r i (C,(some X)) j).2).length)(ih:∀C o,cu Ls r (i+1) C o→aP Tryz.prog EV.ng (gt n D Ls r (i+1) C o)):aP Tryz.prog EV.ng (gt n D Ls (r+1) i C (some X)):=by
 have hcc:=hc
 obtain⟨c1,c2,c3,c4,c5,c6,c7⟩:=hcc
 have hy:((i:Int)==(C.length:Int))=false:=cp.2 om
 refine cT c0 Tryz.func11 (bX (SN n D Ls r i C X hc hR ih)) ?_
 intro d hd
 cases d
 ·exact Bool.noConfusion (show false=true from hd)
 ·refine lr [false] (let v1:=(aK n D Ls (r+1) i (C,some X));let v2:=Ls.getD i ae.loc.list.zero;[rq (v1.fst.length),rq (v1.fst),n=n,D=D,rq ((aC v1.snd).length),rq Ls.length,Ls=Ls,rq (aC v1.snd),rq (↑i:Int),List.length v2=(Ls.getD i []).length∧(fun i_1=>ae.rvs ae.loc (List.getD v2 i_1 ae.loc.zero))=fun i_1=>((Ls.getD i []).getD i_1 Loc.zero).rvs,(↑(List.length v2):Int)=(↑(Ls.getD i []).length:Int),rq C.length,C=C,n=n,D=D,rq X.length,rq Ls.length,Ls=Ls,X=X,i<Ls.length,(0:Int)≤↑i∧(↑i:Int)<↑Ls.length,aa ((↑i:Int)==↑C.length) false]) ⟨?_,?_,?_,?_,?_,?_,?_,?_,?_,?_,?_,?_,?_,?_,?_,?_,?_,?_,?_,?_,?_,hy⟩
  all_goals first|exact tW|exact t8
theorem Am (n D:Int)(Ls:List LL):∀(r i:Nat)(C:LL)(o:cB),cu Ls r i C o→aP Tryz.prog EV.ng (gt n D Ls r i C o)
 |0,i,C,none,hc=>Ur n D Ls i C hc
 |0,i,C,some X,hc=>Ut n D Ls i C X hc
 |r+1,i,C,none,hc=>by
  have ih:=Am n D Ls r (i+1)
  rcases DN n D Ls r i C none with h|h
  ·exact TK n D Ls r i C hc h ih
  ·cases hz:(aK n D Ls (r+1) i (C,none)).2.isNone with
   |true=>exact Ty n D Ls r i C hc hz ih
   |false=>exact Tz n D Ls r i C hc hz h ih
 |r+1,i,C,some X,hc=>by
  have ih:=Am n D Ls r (i+1)
  rcases DN n D Ls r i C (some X)with h|h
  ·exact RT n D Ls r i C X hc h ih
  ·exact RS n D Ls r i C X hc h ih
def bw (a b:Int):Int:=if a<b then-1 else if b<a then 1 else 0
def iq (b:Bool):Int:=bif b then 1 else 0
def cX (a b:Int):Int:=if a=0 then b else a
def ir (c d:Con):Int:=cX (bw c.exp d.exp) (cX (bw c.dim d.dim) (cX (bw c.sign d.sign) (cX (bw (iq c.odd) (iq d.odd)) (bw c.oddity d.oddity))))
theorem Ol (a b:Int):bw b a=-bw a b:=by unfold bw;repeat' split<;>omega
theorem Fb {a b c d:Int}(h1:c=-a)(h2:d=-b):cX c d=-cX a b:=by
 unfold cX;subst h1 h2;split<;>split<;>omega
theorem iI {a b:Int}(h:a=0):cX a b=b:=by unfold cX;rw[if_pos h]
theorem mL {a b:Int}(h:¬a=0):cX a b=a:=by unfold cX;rw[if_neg h]
def f9:LC→LC→Int
 |a::A,b::B=>cX (ir a b) (f9 A B)
 |_,_=>0
def gX (A B:LC):Int:=cX (f9 A B) (bw A.length B.length)
def qI (p:Int)(A:LC)(q:Int)(B:LC):Int:=cX (bw p q) (gX A B)
theorem yn {A B:LC}{k:Nat}(hA:k<A.length)(hB:k<B.length):f9 (A.drop k) (B.drop k)=cX (ir (at_ A k) (at_ B k)) (f9 (A.drop (k+1)) (B.drop (k+1))):=by
 rw[sb hA,sb hB,f9]
theorem yL {A B:LC}{k:Nat}(h:A.length≤k∨B.length≤k):f9 (A.drop k) (B.drop k)=0:=by
 rcases h with h|h
 ·rw[gT h];simp[f9]
 ·rw[gT h];cases A.drop k<;>simp[f9]
theorem LP (a b:Int):ax Tryz.prog [] 49 [.int .i64 a,.int .i64 b] (.int .i64 (bw a b)):=by
 refine pr c0 Tryz.func49 aE ?_
 refine oe (a==a) (fun d1=>oe (b==b) (fun d2=>oe (decide (a<b)) (fun d3=>lr (tp 221) [(-1:Int)=bw a b,ty d3,ty (dN d2),ty (dN d1)] ?_)
  (fun d3=>oe (decide (a>b)) (fun d4=>lr (tp 2221) [(1:Int)=bw a b,ty d4,ty d3,ty (dN d2),ty (dN d1)] ?_)
  (fun d4=>lr (tp 2222) [(0:Int)=bw a b,ty d4,ty d3,ty (dN d2),ty (dN d1)] ?_)))
  (fun d2=>lr [false,true] [(1:Int)=bw a b,ty (dN d2),ty (dN d1)] ?_))
  (fun d1=>oe (b==b) (fun d2=>lr [true,false] [(-1:Int)=bw a b,ty (dN d2),ty (dN d1)] ?_)
  (fun d2=>lr [true,true] [(0:Int)=bw a b,ty (dN d2),ty (dN d1)] ?_))
 all_goals with_reducible repeat' first|exact dA|refine bx ?_ ?_|refine bz ?_
 all_goals first|exact JU
theorem LQ (a b:Int):ax Tryz.prog [] 50 [.int .i64 a,.int .i64 b] (.int .i64 (bw a b)):=by
 refine pr c0 Tryz.func50 aE ?_
 refine oe (a==a) (fun d1=>oe (b==b) (fun d2=>oe (decide (a<b)) (fun d3=>lr (tp 221) [(-1:Int)=bw a b,ty d3,ty (dN d2),ty (dN d1)] ?_)
  (fun d3=>oe (decide (a>b)) (fun d4=>lr (tp 2221) [(1:Int)=bw a b,ty d4,ty d3,ty (dN d2),ty (dN d1)] ?_)
  (fun d4=>lr (tp 2222) [(0:Int)=bw a b,ty d4,ty d3,ty (dN d2),ty (dN d1)] ?_)))
  (fun d2=>lr [false,true] [(1:Int)=bw a b,ty (dN d2),ty (dN d1)] ?_))
  (fun d1=>oe (b==b) (fun d2=>lr [true,false] [(-1:Int)=bw a b,ty (dN d2),ty (dN d1)] ?_)
  (fun d2=>lr [true,true] [(0:Int)=bw a b,ty (dN d2),ty (dN d1)] ?_))
 all_goals with_reducible repeat' first|exact dA|refine bx ?_ ?_|refine bz ?_
 all_goals first|exact JU
theorem Lq (a b:Bool):ax Tryz.prog [] 95 [.bool a,.bool b] (.int .i64 (bw (iq a) (iq b))):=by
 refine pr c0 Tryz.func95 aE ?_
 refine oe (a==b) (fun d1=>lr [true] [(0:Int)=bw (iq a) (iq b),ty d1] ⟨?_,d1⟩)
  (fun d1=>oe (b) (fun d2=>lr [false,true] [(-1:Int)=bw (iq a) (iq b),ty d2,ty d1] ⟨?_,d2,d1⟩)
  (fun d2=>lr [false,false] [(1:Int)=bw (iq a) (iq b),ty d2,ty d1] ⟨?_,d2,d1⟩))
 all_goals first|((cases a<;>cases b<;>first|rfl|(simp at d1;done)|(simp at d2;done)))
def sR:List cq:=[
 ⟨49,[],fun A=>match A with
  |[.int .i64 a,.int .i64 b]=>some (.int .i64 (bw a b),[])
  |_=>none⟩,
 ⟨50,[],fun A=>match A with
  |[.int .i64 a,.int .i64 b]=>some (.int .i64 (bw a b),[])
  |_=>none⟩,
 ⟨95,[],fun A=>match A with
  |[.bool a,.bool b]=>some (.int .i64 (bw (iq a) (iq b)),[])
  |_=>none⟩]
theorem uS:∀e∈sR,cJ Tryz.prog e:=by
 intro e he
 simp only[sR,bC,cU,cY]at he
 rcases he with rfl|rfl|rfl
 all_goals
  intro A R ms h hm
  simp only at h
  split at h
  all_goals first|exact kL|cases h
 ·exact LP _ _
 ·exact LQ _ _
 ·exact Lq _ _
theorem LR (c d:Con):ax Tryz.prog [] 94 [.agg c.rvs,.agg d.rvs] (.int .i64 (ir c d)):=by
 refine pr (cE uS) Tryz.func94 aE ?_
 refine(let y1:List Prop:=[rq d.oddity,rq d.oddity,rq d.oddity,rq d.oddity,rq c.oddity,rq c.oddity,rq c.oddity,rq c.oddity,d.odd=d.odd,d.odd=d.odd,d.odd=d.odd,c.odd=c.odd,c.odd=c.odd,c.odd=c.odd,rq d.sign,rq d.sign,rq c.sign,rq c.sign,d.dim=d.dim,c.dim=c.dim];have u1:ar y1:=⟨?_,?_,?_,?_,?_,?_,?_,?_,?_,?_,?_,?_,?_,?_,?_,?_,?_,?_,?_,(?_:c.dim=c.dim)⟩;oe (bw c.exp d.exp==0) (fun d1=>oe (bw c.dim d.dim==0) (fun d2=>let y2:List Prop:=ty (dN d2)::ty (dN d1)::y1;have u2:ar y2:=⟨(dN d2),(dN d1),u1⟩;oe (bw c.sign d.sign==0) (fun d3=>oe (bw (iq c.odd) (iq d.odd)==0) (fun d4=>oe (bw c.oddity d.oddity==0) (fun d5=>lr (tp 22222) (((0:Int)=ir c d)::ty (dN d5)::ty (dN d4)::ty (dN d3)::y2) ?_)
  (fun d5=>lr (tp 22221) ((bw c.oddity d.oddity=ir c d)::ty (dN d5)::ty (dN d4)::ty (dN d3)::y2) ?_))
  (fun d4=>lr (tp 2221) ((bw (iq c.odd) (iq d.odd)=ir c d)::ty (dN d4)::ty (dN d3)::y2) ?_))
  (fun d3=>lr (tp 221) ((bw c.sign d.sign=ir c d)::ty (dN d3)::y2) ?_))
  (fun d2=>lr [false,true] ((bw c.dim d.dim=ir c d)::ty (dN d2)::ty (dN d1)::y1) ?_))
  (fun d1=>lr [true] ((bw c.exp d.exp=ir c d)::ty (dN d1)::y1) ?_))
 all_goals with_reducible repeat' first|exact dA|refine bx ?_ ?_|refine bz ?_
 all_goals((try clear u2);(try clear y2);(try clear u1);(try clear y1))
 all_goals first|(first|exact tr|(exact⟨de,de⟩)|((try simp only[dx,cp,ne_eq]at*)<;>(unfold ir;simp only[cX, *,fx,iF,not_false_iff,not_true];done)))
def UY:List cq:=sR++[
 ⟨94,[],fun A=>match A with
  |[.agg [.int .i64 e0,.int .i64 d0,.int .i64 s0,.bool o0,.int .i64 t0],.agg [.int .i64 e1,.int .i64 d1,.int .i64 s1,.bool o1,.int .i64 t1]]=>some (.int .i64 (ir ⟨e0,d0,s0,o0,t0⟩ ⟨e1,d1,s1,o1,t1⟩),[])
  |_=>none⟩]
theorem D3:∀e∈UY,cJ Tryz.prog e:=by
 intro e he
 rcases fX.1 he with he|he
 ·exact uS e he
 simp only[bC,cU,cY]at he
 subst he
 intro A R ms h hm
 simp only at h
 split at h
 ·cases h
  exact LR ⟨_,_,_,_,_⟩ ⟨_,_,_,_,_⟩
 ·cases h
def Jz (A B:LC):List (Nat×AV):=[(0,(bg A).av),(1,(bg B).av),(2,.fn 94 []),(11,(bg A).av),(12,vi A.length)]
def gR (A B:LC):Int:=if f9 A B=0 then(if B.length<A.length then 1 else 0)else f9 A B
def UZ (A B:LC):aO:=⟨⟨(13,.int .i64 0)::Jz A B,[],1100⟩,some (gR A B==0),fun d=>match d with
 |true=>(.exit 0,⟨[(0,(bg A).av),(1,(bg B).av)],[],1100⟩)
 |false=>(.ret,⟨[(6,vi (gR A B))],[],1100⟩)⟩
theorem AE {A B:LC}(h:f9 A B=0)(h2:B.length<A.length):gR A B=1:=by unfold gR;rw[if_pos h,if_pos h2]
theorem HH {A B:LC}(h:f9 A B=0)(h2:¬B.length<A.length):gR A B=0:=by unfold gR;rw[if_pos h,if_neg h2]
theorem AF {A B:LC}(h:¬f9 A B=0):gR A B=f9 A B:=by unfold gR;rw[if_neg h]
theorem PS (A B:LC)(hA:A.length≤1000)(hB:B.length≤1000):An 3 Tryz.f93 [0,1,0,1] (UZ A B):=by
 refine iB (cE D3) aE (fun(k:Nat)=>(⟨(13,vi k)::Jz A B,[],1100⟩:St)) (fun(k:Nat)=>(A.length-k:Nat)) (fun(d:Bool)=>fun(k:Nat)=>(k≤A.length∧(k≤B.length∨A.length=0)∧f9 (A.drop k) (B.drop k)=f9 A B∧d=(gR A B==0):Prop)) ?_ ?_
 ·intro d hd
  exact st (0) [(0:Int)=↑(0:Nat),lq A,lq B,lq A,rq (↑A.length:Int)] (by refine⟨?_,?_,?_,?_,(?_:(↑A.length:Int)=↑A.length)⟩<;>(first|rfl|exact⟨rfl,rfl⟩|assumption|omega|simp_all)) (by exact⟨bQ _,.inl (bQ _),rfl,hd.symm⟩)
 ·rintro d hd k hI
  obtain⟨hk,hkB,hs,hD⟩:=hI
  have ek:IntKind.i64.wrap ((k:Int)+1)=((k+1:Nat):Int):=by rw[wo];omega
  refine oe (decide ((↑k:Int)<↑A.length)) (fun d1=>let y1:List Prop:=[(0:Int)≤↑k∧(↑k:Int)<↑A.length,ty d1];have u1:ar y1:=⟨?_,d1⟩;oe (decide ((↑k:Int)≥↑B.length)) (fun d2=>bH d false [true,true] (((1:Int)=gR A B)::ty d2::y1) ⟨?_,d2,u1⟩ ?_)
   (fun d2=>let y2:List Prop:=((0:Int)≤↑k∧(↑k:Int)<↑B.length)::ty d2::y1;have u2:ar y2:=⟨?_,d2,u1⟩;oe (ir (A.getD k Con.zero) (B.getD k Con.zero)==0) (fun d3=>aH (tp 122) (k+1) ((IntKind.i64.wrap ((↑k:Int)+1)=↑(k+1))::(lq A)::(lq B)::(lq A)::rq (↑A.length:Int)::ty (dN d3)::y2) ⟨?_,?_,?_,?_,?_,(dN d3),u2⟩ ?_ ?_)
   (fun d3=>bH d false (tp 121) ((ir (A.getD k Con.zero) (B.getD k Con.zero)=gR A B)::ty (dN d3)::y2) ⟨?_,(dN d3),u2⟩ ?_)))
   (fun d1=>bH d true [false] [lq A,lq B,ty d1] ⟨?_,?_,d1⟩ ?_)
  all_goals((try clear u2);(try clear y2);(try clear u1);(try clear y1))
  all_goals first|exact Kp|(refine cL.mk ?_;(simp only[dT,dF,dx,ge_iff_le]at*;rw[yn om om,iI aS]at hs;exact⟨om,om,hs,hD⟩))|(refine gu.mk ?_;cases d<;>first|rfl|(exfalso;(simp only[cg,dT,dF,dx,cp,ne_eq,ge_iff_le]at*;first|(rw[yL om]at hs;rw[HH hs.symm om]at hD;cases hD;done)|(rw[yL om]at hs;rw[AE hs.symm om]at hD;cases hD;done)|(rw[yn om om,mL aS]at hs;rw[AF xy,←hs]at hD;have:=hD.symm;rw[dx]at this;exact absurd this aS))))|(first|exact tr|exact rt|((try simp only[ek,cg,dT,dF,dx,cp,ne_eq,ge_iff_le]at*)<;>first|omega|(rw[yL om]at hs;rw[AE hs.symm om];done)|(rw[yn om om,mL aS]at hs;rw[AF xy,←hs])))
theorem zS {A B:LC}(h:gR A B=0):f9 A B=0∧¬B.length<A.length:=by
 unfold gR at h
 split at h
 ·rename_i h1
  split at h
  ·omega
  ·exact⟨h1,aS⟩
 ·contradiction
theorem U0 {A B:LC}(h:¬gR A B=0):gR A B=gX A B:=by
 unfold gX
 by_cases h1:f9 A B=0
 ·rw[iI h1]
  by_cases h2:B.length<A.length
  ·rw[AE h1 h2];unfold bw;rw[if_neg om,if_pos om]
  ·exact absurd (HH h1 h2) h
 ·rw[mL h1,AF h1]
theorem U1 {A B:LC}(h:gR A B=0)(h2:A.length<B.length):-1=gX A B:=by
 unfold gX;rw[iI (zS h).1];unfold bw;rw[if_pos om]
theorem U2 {A B:LC}(h:gR A B=0)(h2:¬A.length<B.length):0=gX A B:=by
 have:=(zS h).2
 unfold gX;rw[iI (zS h).1];unfold bw;rw[if_neg om,if_neg om]
theorem PT (A B:LC)(hA:A.length≤1000)(hB:B.length≤1000):ku Tryz.prog [] 93 [94] [bg A,bg B] (.int .i64 (gX A B)):=by
 have rr:=fun(tp:List Bool)(ms:List Prop)h hm=>Da fS (bU fS (eE D3) 8) Tryz.func93 (A:=[bg A,bg B]) (gs:=[94]) (N:=Nat.max 3 Tryz.f93.ntmps) rfl (bX (PS A B hA hB)) rfl rfl rb (tabs:=[]) (R:=.int .i64 (gX A B)) (tp:=tp) (ms:=ms) h hm
 refine oe (gR A B==0) (fun d1=>let y1:List Prop:=[lq A,lq B,lq A,rq (↑A.length:Int),ty d1];have u1:ar y1:=⟨?_,?_,?_,?_,d1⟩;oe (decide ((↑A.length:Int)<↑B.length)) (fun d2=>rr [true,true] (((-1:Int)=gX A B)::ty d2::y1) kr ⟨?_,d2,u1⟩)
  (fun d2=>rr [true,false] (((0:Int)=gX A B)::ty d2::y1) kr ⟨?_,d2,u1⟩))
  (fun d1=>rr [false] [gR A B=gX A B,lq A,lq B,lq A,rq (↑A.length:Int),ty d1] kr ⟨?_,?_,?_,?_,?_,d1⟩)
 all_goals((try clear u1);(try clear y1))
 all_goals first|(first|exact tr|exact rt|((try simp only[dx,cp,ne_eq,dT,dF]at*)<;>first|exact U0 d1|exact U1 d1 om|exact U2 d1 om))
def Bb:List RV→Option (RV×List Prop):=fun A=>match A with
 |[.sl n 5 row,.sl m 5 row']=>some (.int .i64 (gX (aF n row) (aF m row')),[(∀i,i<n→row i=(Con.ofR (row i)).rvs)∧(∀i,i<m→row' i=(Con.ofR (row' i)).rvs)∧n≤1000∧m≤1000])
 |_=>none
theorem ku.imp {P:Program}{tabs:List Tb}{f:Nat}{gs:List Nat}{A A':List RV}{R:RV}(h:ku P tabs f gs A' R)(ha:nL A A'):ku P tabs f gs A R:=
 ⟨h.1,fun w F Args ht hF hr=>h.2 w F Args ht hF (ha F Args hr)⟩
theorem PU:∀A R ms,Bb A=some (R,ms)→(∀p∈ms,p)→ku Tryz.prog [] 93 [94] A R:=by
 intro A R ms h hm
 unfold Bb at h
 split at h
 ·cases h
  obtain⟨h1,h2,h3,h4⟩:=aA hm
  exact ku.imp (PT _ _ t7 BR) (.cons (.con h1) (.cons (.con h2) .nil))
 ·cases h
def U3:bq:=wz EV.ng 93 2 [94] [] Bb (kt EV.ng sR)
theorem Om:bV Tryz.prog EV.ng U3:=E0 PU (eE uS)
theorem MY (p q:Int)(A B:LC)(hA:A.length≤1000)(hB:B.length≤1000):ax Tryz.prog [] 52 [.agg [.int .i64 p,bg A],.agg [.int .i64 q,bg B]] (.int .i64 (qI p A q B)):=by
 refine pr (cF Om) Tryz.func52 aE ?_
 refine oe (bw p q==0) (fun d1=>lr [false] [gX (aF A.length fun i=>(A.getD i Con.zero).rvs) (aF B.length fun i=>(B.getD i Con.zero).rvs)=qI p A q B,(lz A)∧(lz B)∧A.length≤1000∧B.length≤1000,ty (dN d1)] ⟨?_,?_,(dN d1)⟩)
  (fun d1=>lr [true] [bw p q=qI p A q B,ty (dN d1)] ⟨?_,(dN d1)⟩)
 all_goals first|(first|exact tr|exact rt|exact⟨fun _ _=>rfl,fun _ _=>rfl,hA,hB⟩|((try simp only[cb,dx,cp,ne_eq]at*)<;>(unfold qI;first|(rw[mL aS];done)|(rw[iI aS];done))))
def lj (x y:QfSy.Loc):Int:=qI x.prime x.list y.prime y.list
def fR:LL→LL→Int
 |a::A,b::B=>cX (lj a b) (fR A B)
 |_,_=>0
def gY (A B:LL):Int:=cX (fR A B) (bw A.length B.length)
def fh (g h:aG):Int:=cX (bw g.dim h.dim) (cX (bw g.det h.det) (gY g.locs h.locs))
theorem Ek {A:LL}{k:Nat}(h:k<A.length):A.drop k=A.getD k z0l::A.drop (k+1):=by
 rw[pL h,ev,gS h];rfl
theorem yw {A B:LL}{k:Nat}(hA:k<A.length)(hB:k<B.length):fR (A.drop k) (B.drop k)=cX (lj (A.getD k z0l) (B.getD k z0l)) (fR (A.drop (k+1)) (B.drop (k+1))):=by
 rw[Ek hA,Ek hB,fR]
theorem yR {A B:LL}{k:Nat}(h:A.length≤k∨B.length≤k):fR (A.drop k) (B.drop k)=0:=by
 rcases h with h|h
 ·rw[gT h];simp[fR]
 ·rw[gT h];cases A.drop k<;>simp[fR]
def GI:List cq:=[
 ⟨52,[],fun A=>match A with
  |[.agg [.int .i64 p,.sl n 5 row],.agg [.int .i64 q,.sl m 5 row']]=>some (.int .i64 (lj ⟨p,aF n row⟩ ⟨q,aF m row'⟩),[(∀i,i<n→row i=(Con.ofR (row i)).rvs)∧(∀i,i<m→row' i=(Con.ofR (row' i)).rvs)∧n≤1000∧m≤1000])
  |_=>none⟩]
theorem DA:∀e∈GI,cJ Tryz.prog e:=by
 intro e he
 simp only[GI,bC,cU,cY]at he
 subst he
 intro A R ms h hm
 simp only at h
 split at h
 ·cases h
  obtain⟨h1,h2,h3,h4⟩:=aA hm
  exact ax.imp (MY _ _ _ _ t7 BR) (.cons (.agg (.cons .same (.cons (.con h1) .nil))) (.cons (.agg (.cons .same (.cons (.con h2) .nil))) .nil))
 ·cases h
def Lf (A B:LL):List (Nat×AV):=[(0,(iz A).av),(1,(iz B).av),(2,.fn 52 []),(11,(iz A).av),(12,vi A.length)]
def ij (A B:LL):Int:=if fR A B=0 then(if B.length<A.length then 1 else 0)else fR A B
def VY (A B:LL):aO:=⟨⟨(13,.int .i64 0)::Lf A B,[],1100⟩,some (ij A B==0),fun d=>match d with
 |true=>(.exit 0,⟨[(0,(iz A).av),(1,(iz B).av)],[],1100⟩)
 |false=>(.ret,⟨[(6,vi (ij A B))],[],1100⟩)⟩
theorem wc {A B:LL}(h:fR A B=0)(h2:B.length<A.length):ij A B=1:=by unfold ij;rw[if_pos h,if_pos h2]
theorem HU {A B:LL}(h:fR A B=0)(h2:¬B.length<A.length):ij A B=0:=by unfold ij;rw[if_pos h,if_neg h2]
theorem wd {A B:LL}(h:¬fR A B=0):ij A B=fR A B:=by unfold ij;rw[if_neg h]
theorem DB {L:LL}(hL:∀l∈L,l.list.length≤1000)(j:Nat):(L.getD j z0l).list.length≤1000:=by
 rw[ev]
 rcases bA j L.length with h|h
 ·rw[gS h];exact hL _ (jF h)
 ·rw[jD h];exact bQ _
theorem QT (A B:LL)(hA:A.length≤1000)(hB:B.length≤1000)(hAL:∀l∈A,l.list.length≤1000)(hBL:∀l∈B,l.list.length≤1000):An 3 Tryz.f51 [0,1,0,1] (VY A B):=by
 refine iB (cE DA) aE (fun(k:Nat)=>(⟨(13,vi k)::Lf A B,[],1100⟩:St)) (fun(k:Nat)=>(A.length-k:Nat)) (fun(d:Bool)=>fun(k:Nat)=>(k≤A.length∧(k≤B.length∨A.length=0)∧fR (A.drop k) (B.drop k)=fR A B∧d=(ij A B==0):Prop)) ?_ ?_
 ·intro d hd
  exact st (0) [(0:Int)=↑(0:Nat),sl A,sl B,sl A,rq (↑A.length:Int)] (by refine⟨?_,?_,?_,?_,(?_:(↑A.length:Int)=↑A.length)⟩<;>(first|rfl|assumption|exact⟨rfl,rfl⟩|omega|simp_all)) (by exact⟨bQ _,.inl (bQ _),rfl,hd.symm⟩)
 ·rintro d hd k hI
  obtain⟨hk,hkB,hs,hD⟩:=hI
  have ek:IntKind.i64.wrap ((k:Int)+1)=((k+1:Nat):Int):=by rw[wo];omega
  refine oe (decide ((↑k:Int)<↑A.length)) (fun d1=>let y1:List Prop:=[(0:Int)≤↑k∧(↑k:Int)<↑A.length,ty d1];have u1:ar y1:=⟨?_,d1⟩;oe (decide ((↑k:Int)≥↑B.length)) (fun d2=>bH d false [true,true] (((1:Int)=ij A B)::ty d2::y1) ⟨?_,d2,u1⟩ ?_)
   (fun d2=>let y2:List Prop:=(let v1:=A.getD k z0l;let v2:=B.getD k z0l;((∀(i:Nat),i<v1.list.length→(fun i=>(v1.list.getD i Con.zero).rvs) i=(Con.ofR ((fun i=>(v1.list.getD i Con.zero).rvs) i)).rvs)∧(∀(i:Nat),i<v2.list.length→(fun i=>(v2.list.getD i Con.zero).rvs) i=(Con.ofR ((fun i=>(v2.list.getD i Con.zero).rvs) i)).rvs)∧v1.list.length≤1000∧v2.list.length≤1000)::((0:Int)≤↑k∧(↑k:Int)<↑B.length)::ty d2::y1);have u2:ar y2:=⟨?_,?_,d2,u1⟩;oe (lj (Loc.mk (A.getD k z0l).prime (aF (A.getD k z0l).list.length fun i=>((A.getD k z0l).list.getD i Con.zero).rvs)) (Loc.mk (B.getD k z0l).prime (aF (B.getD k z0l).list.length fun i=>((B.getD k z0l).list.getD i Con.zero).rvs))==0) (fun d3=>aH (tp 122) (k+1) ((IntKind.i64.wrap ((↑k:Int)+1)=↑(k+1))::(sl A)::(sl B)::(sl A)::rq (↑A.length:Int)::ty (dN d3)::y2) ⟨?_,?_,?_,?_,?_,(dN d3),u2⟩ ?_ ?_)
   (fun d3=>bH d false (tp 121) (let v1:=A.getD k z0l;let v2:=B.getD k z0l;(lj (Loc.mk v1.prime (aF v1.list.length fun i=>(v1.list.getD i Con.zero).rvs)) (Loc.mk v2.prime (aF v2.list.length fun i=>(v2.list.getD i Con.zero).rvs))=ij A B)::ty (dN d3)::y2) ⟨?_,(dN d3),u2⟩ ?_)))
   (fun d1=>bH d true [false] [sl A,sl B,ty d1] ⟨?_,?_,d1⟩ ?_)
  all_goals((try clear u2);(try clear y2);(try clear u1);(try clear y1))
  all_goals first|exact Kp|(refine cL.mk ?_;(simp only[cb,dT,dF,dx,ge_iff_le]at*;rw[yw om om,iI aS]at hs;exact⟨om,om,hs,hD⟩))|(refine gu.mk ?_;cases d<;>first|rfl|(exfalso;(simp only[cb,cg,dT,dF,dx,cp,ne_eq,ge_iff_le]at*;first|(rw[yR om]at hs;rw[HU hs.symm om]at hD;cases hD;done)|(rw[yR om]at hs;rw[wc hs.symm om]at hD;cases hD;done)|(rw[yw om om,mL aS]at hs;rw[wd xy,←hs]at hD;have:=hD.symm;rw[dx]at this;exact absurd this aS))))|(first|exact tr|exact rt|exact⟨fun _ _=>rfl,fun _ _=>rfl,DB hAL k,DB hBL k⟩|((try simp only[cb,ek,cg,dT,dF,dx,cp,ne_eq,ge_iff_le]at*)<;>first|omega|(rw[yR om]at hs;rw[wc hs.symm om];done)|(rw[yw om om,mL aS]at hs;rw[wd xy,←hs])))
theorem Ab {A B:LL}(h:ij A B=0):fR A B=0∧¬B.length<A.length:=by
 by_cases h1:fR A B=0
 ·refine⟨h1,fun h2=>?_⟩
  rw[wc h1 h2]at h;cases h
 ·rw[wd h1]at h;exact absurd h h1
theorem VZ {A B:LL}(h:¬ij A B=0):ij A B=gY A B:=by
 unfold gY
 by_cases h1:fR A B=0
 ·rw[iI h1]
  by_cases h2:B.length<A.length
  ·rw[wc h1 h2];unfold bw;rw[if_neg om,if_pos om]
  ·exact absurd (HU h1 h2) h
 ·rw[wd h1,mL h1]
theorem V0 {A B:LL}(h:ij A B=0)(h2:A.length<B.length):-1=gY A B:=by
 unfold gY;rw[iI (Ab h).1];unfold bw;rw[if_pos om]
theorem V5 {A B:LL}(h:ij A B=0)(h2:¬A.length<B.length):0=gY A B:=by
 have:=(Ab h).2
 unfold gY;rw[iI (Ab h).1];unfold bw;rw[if_neg om,if_neg om]
theorem QU (A B:LL)(hA:A.length≤1000)(hB:B.length≤1000)(hAL:∀l∈A,l.list.length≤1000)(hBL:∀l∈B,l.list.length≤1000):ku Tryz.prog [] 51 [52] [iz A,iz B] (.int .i64 (gY A B)):=by
 have rr:=fun(tp:List Bool)(ms:List Prop)h hm=>Da fS (bU fS (eE DA) 8) Tryz.func51 (A:=[iz A,iz B]) (gs:=[52]) (N:=Nat.max 3 Tryz.f51.ntmps) rfl (bX (QT A B hA hB hAL hBL)) rfl rfl rb (tabs:=[]) (R:=.int .i64 (gY A B)) (tp:=tp) (ms:=ms) h hm
 refine oe (ij A B==0) (fun d1=>let y1:List Prop:=[sl A,sl B,sl A,rq (↑A.length:Int),ty d1];have u1:ar y1:=⟨?_,?_,?_,?_,d1⟩;oe (decide ((↑A.length:Int)<↑B.length)) (fun d2=>rr [true,true] (((-1:Int)=gY A B)::ty d2::y1) kr ⟨?_,d2,u1⟩)
  (fun d2=>rr [true,false] (((0:Int)=gY A B)::ty d2::y1) kr ⟨?_,d2,u1⟩))
  (fun d1=>rr [false] [ij A B=gY A B,sl A,sl B,sl A,rq (↑A.length:Int),ty d1] kr ⟨?_,?_,?_,?_,?_,d1⟩)
 all_goals((try clear u1);(try clear y1))
 all_goals first|(first|exact tr|exact rt|((try simp only[dx,cp,ne_eq,dT,dF]at*)<;>first|exact VZ d1|exact V0 d1 om|exact V5 d1 om))
def Bl:List RV→Option (RV×List Prop):=fun A=>match A with
 |[.sl n 2 row,.sl m 2 row']=>some (.int .i64 (gY (cn n row) (cn m row')),[(∀i,i<n→row i=ae.loc.rvs (ae.loc.of (row i)))∧(∀i,i<m→row' i=ae.loc.rvs (ae.loc.of (row' i)))∧n≤1000∧m≤1000∧(∀l∈cn n row,l.list.length≤1000)∧∀l∈cn m row',l.list.length≤1000])
 |_=>none
theorem QV:∀A R ms,Bl A=some (R,ms)→(∀p∈ms,p)→ku Tryz.prog [] 51 [52] A R:=by
 intro A R ms h hm
 unfold Bl at h
 split at h
 ·cases h
  obtain⟨h1,h2,h3,h4,h5,h6⟩:=aA hm
  exact ku.imp (QU (cn _ _) (cn _ _) (by simpa [cn]using h3) (by simpa [cn]using h4) h5 h6) (.cons (iK.vals .loc h1) (.cons (iK.vals .loc h2) .nil))
 ·cases h
def V6:bq:=wz EV.ng 51 2 [52] [] Bl (kt EV.ng sR)
theorem OR:bV Tryz.prog EV.ng V6:=E0 QV (eE uS)
theorem DC (g u:aG)(hg:g.locs.length≤1000∧∀l∈g.locs,l.list.length≤1000)(hh:u.locs.length≤1000∧∀l∈u.locs,l.list.length≤1000):ax Tryz.prog [] 15 [.agg g.rvs,.agg u.rvs] (.int .i64 (fh g u)):=by
 refine pr (cF OR) Tryz.func15 aE ?_
 refine(let y1:List Prop:=[u.det=u.det,g.det=g.det];have u1:ar y1:=⟨?_,(?_:g.det=g.det)⟩;oe (bw g.dim u.dim==0) (fun d1=>oe (bw g.det u.det==0) (fun d2=>lr [false,false] (let v1:=(1000:Nat);(gY (cn g.locs.length fun i=>(g.locs.getD i z0l).rvs) (cn u.locs.length fun i=>(u.locs.getD i z0l).rvs)=fh g u)::((∀(i:Nat),i<g.locs.length→(fun i=>(g.locs.getD i z0l).rvs) i=ae.loc.rvs (ae.loc.of ((fun i=>(g.locs.getD i z0l).rvs) i)))∧(∀(i:Nat),i<u.locs.length→(fun i=>(u.locs.getD i z0l).rvs) i=ae.loc.rvs (ae.loc.of ((fun i=>(u.locs.getD i z0l).rvs) i)))∧g.locs.length≤v1∧u.locs.length≤v1∧(∀(l:QfSy.Loc),(l∈cn g.locs.length fun i=>(g.locs.getD i z0l).rvs)→l.list.length≤v1)∧∀(l:QfSy.Loc),(l∈cn u.locs.length fun i=>(u.locs.getD i z0l).rvs)→l.list.length≤v1)::ty (dN d2)::ty (dN d1)::y1) ⟨?_,?_,(dN d2),(dN d1),u1⟩)
  (fun d2=>lr (tp 211) ((bw g.det u.det=fh g u)::ty (dN d2)::ty (dN d2)::ty (dN d1)::y1) ⟨?_,(dN d2),(dN d2),(dN d1),u1⟩))
  (fun d1=>lr [true,true] ((bw g.dim u.dim=fh g u)::ty (dN d1)::ty (dN d1)::y1) ⟨?_,(dN d1),(dN d1),u1⟩))
 all_goals((try clear u1);(try clear y1))
 all_goals first|(first|exact tr|exact rt|exact⟨o5 g.locs,o5 u.locs,hg.1,hh.1,by rw[lO];exact hg.2,by rw[lO];exact hh.2⟩|((try simp only[lO,dx,cp,ne_eq]at*)<;>(unfold fh;first|(rw[iI aS,iI aS];done)|(rw[iI aS,mL aS];done)|(rw[mL aS];done))))
structure lx {α:Type}(c:α→α→Int):Prop where
 neg:∀x y,c y x=-c x y
 tr:∀x y z,c x y≤0→c y z≤0→c x z≤0∧(c x z=0→c x y=0∧c y z=0)
theorem Rl {a b c:Int}(h1:bw a b≤0)(h2:bw b c≤0):bw a c≤0∧(bw a c=0→bw a b=0∧bw b c=0):=by
 have k:∀x y,(x<y∧bw x y=-1)∨(x=y∧bw x y=0)∨(y<x∧bw x y=1):=by
  intro x y;unfold bw;split
  ·omega
  ·split<;>omega
 rcases k a b with⟨p,e⟩|⟨p,e⟩|⟨p,e⟩<;>rcases k b c with⟨q,f⟩|⟨q,f⟩|⟨q,f⟩<;>rcases k a c with⟨r,g⟩|⟨r,g⟩|⟨r,g⟩<;>omega
theorem GP {a b c d e f:Int}(h:a≤0→b≤0→c≤0∧(c=0→a=0∧b=0))(k:d≤0→e≤0→f≤0∧(f=0→d=0∧e=0))(h1:cX a d≤0)(h2:cX b e≤0):cX c f≤0∧(cX c f=0→cX a d=0∧cX b e=0):=by
 unfold cX at*
 split at h1<;>split at h2<;>split<;>omega
theorem ord_key {α:Type}(f:α→Int):lx (fun x y=>bw (f x) (f y)):=⟨fun x y=>Ol _ _,fun x y z h1 h2=>Rl h1 h2⟩
theorem pg {α:Type}{c d:α→α→Int}(h1:lx c)(h2:lx d):lx (fun x y=>cX (c x y) (d x y)):=
 ⟨fun x y=>Fb (h1.neg x y) (h2.neg x y),fun x y z k1 k2=>GP (h1.tr x y z) (h2.tr x y z) k1 k2⟩
theorem GQ {α β:Type}{c:β→β→Int}(h:lx c)(f:α→β):lx (fun x y=>c (f x) (f y)):=⟨fun x y=>h.neg _ _,fun x y z=>h.tr _ _ _⟩
def jZ {α:Type}(c:α→α→Int):List α→List α→Int
 |[],[]=>0
 |[],_::_=>-1
 |_::_,[]=>1
 |a::A,b::B=>cX (c a b) (jZ c A B)
theorem FD {α:Type}{c:α→α→Int}(h:lx c):lx (jZ c):=by
 constructor
 ·intro x
  induction x with
  |nil=>intro y;cases y<;>rfl
  |cons a A ih=>intro y;cases y with
   |nil=>rfl
   |cons b B=>exact Fb (h.neg a b) (ih B)
 ·intro x
  induction x with
  |nil=>
   intro y z h1 h2
   cases y with
   |nil=>exact⟨h2,fun e=>⟨rfl,e⟩⟩
   |cons b B=>cases z with
    |nil=>exact absurd h2 (by simp[jZ])
    |cons e E=>exact⟨by simp[jZ],fun e=>by simp[jZ]at e⟩
  |cons a A ih=>
   intro y z h1 h2
   cases y with
   |nil=>exact absurd h1 (by simp[jZ])
   |cons b B=>cases z with
    |nil=>exact absurd h2 (by simp[jZ])
    |cons e E=>exact GP (h.tr a b e) (ih B E) h1 h2
theorem GR (a b c:Int):cX (cX a b) c=cX a (cX b c):=by
 unfold cX
 by_cases h:a=0
 ·rw[if_pos h,if_pos h]
 ·rw[if_neg h,if_neg h,if_neg h]
theorem H7 (a b:Nat):bw ((a+1:Nat):Int) ((b+1:Nat):Int)=bw (a:Int) (b:Int):=by
 unfold bw;repeat' split<;>omega
theorem H8 (b:Nat):bw ((0:Nat):Int) ((b+1:Nat):Int)=-1:=by unfold bw;rw[if_pos om]
theorem H9 (b:Nat):bw ((b+1:Nat):Int) ((0:Nat):Int)=1:=by unfold bw;rw[if_neg om,if_pos om]
theorem DD:∀A B:List Con,gX A B=jZ ir A B
 |[],[]=>rfl
 |[],b::B=>by unfold gX;exact(iI (by simp[f9])).trans (H8 B.length)
 |a::A,[]=>by unfold gX;exact(iI (by simp[f9])).trans (H9 A.length)
 |a::A,b::B=>by
  have ih:=DD A B
  unfold gX at ih⊢
  rw[f9,jZ,GR,←ih]
  exact congrArg (fun s=>cX (ir a b) (cX (f9 A B) s)) (H7 A.length B.length)
theorem DE:∀A B:List QfSy.Loc,gY A B=jZ lj A B
 |[],[]=>rfl
 |[],b::B=>by unfold gY;exact(iI (by simp[fR])).trans (H8 B.length)
 |a::A,[]=>by unfold gY;exact(iI (by simp[fR])).trans (H9 A.length)
 |a::A,b::B=>by
  have ih:=DE A B
  unfold gY at ih⊢
  rw[fR,jZ,GR,←ih]
  exact congrArg (fun s=>cX (lj a b) (cX (fR A B) s)) (H7 A.length B.length)
theorem Rm:lx ir:=pg (ord_key fun c:Con=>c.exp) (pg (ord_key fun c:Con=>c.dim) (pg (ord_key fun c:Con=>c.sign) (pg (ord_key fun c:Con=>iq c.odd) (ord_key fun c:Con=>c.oddity))))
theorem Rn:lx lj:=by
 have h:=pg (ord_key (fun x:QfSy.Loc=>x.prime)) (GQ (FD Rm) (fun x:QfSy.Loc=>x.list))
 have e:lj=fun x y=>cX (bw x.prime y.prime) (jZ ir x.list y.list):=by
  funext x y;unfold lj qI;rw[DD]
 rw[e];exact h
theorem nA:lx fh:=by
 have h:=pg (ord_key (fun x:aG=>x.dim)) (pg (ord_key (fun x:aG=>x.det)) (GQ (FD Rn) (fun x:aG=>x.locs)))
 have e:fh=fun x y=>cX (bw x.dim y.dim) (cX (bw x.det y.det) (jZ lj x.locs y.locs)):=by
  funext x y;unfold fh;rw[DE]
 rw[e];exact h
def wP (g:aG):List aG→List aG
 |[]=>[g]
 |h::t=>bif decide (fh g h<0)then g::h::t else h::wP g t
def dX:List aG→List aG
 |[]=>[]
 |g::t=>wP g (dX t)
def iP:List aG→Bool
 |[]=>true
 |a::t=>(match t with
  |[]=>true
  |b::_=>decide (fh a b<0))&&iP t
theorem Ez (g:aG):∀L,(wP g L).Perm (g::L)
 |[]=>.refl _
 |h::t=>by
  unfold wP
  cases decide (fh g h<0)with
  |true=>exact .refl _
  |false=>exact((Ez g t).cons h).trans (.swap _ _ _)
theorem o7:∀L,(dX L).Perm L
 |[]=>.refl _
 |g::t=>(Ez g _).trans ((o7 t).cons g)
theorem Ia {x y z:aG}(h1:fh x y<0)(h2:fh y z<0):fh x z<0:=by
 have:=nA.tr x y z om om
 omega
theorem GS:∀{L:List aG},iP L=true→L.Pairwise (fun a b=>fh a b<0)
 |[],_=>.nil
 |[a],_=>by simp
 |a::b::t,h=>by
  simp only[iP,bj,ib]at h
  have ih:=GS (L:=b::t) (by simp only[iP,bj];exact h.2)
  refine List.pairwise_cons.2 ⟨fun c hc=>?_,ih⟩
  rcases bC.1 hc with e|hc
  ·subst e;exact h.1
  ·exact Ia h.1 ((List.pairwise_cons.1 ih).1 c hc)
theorem Ro {X Y:List aG}(ha:iP (dX X)=true)(hp:Y.Perm X)(hs:Y.Pairwise (fun a b=>¬fh b a<0)):Y=dX X:=by
 have hpw:=GS ha
 refine List.Perm.eq_of_pairwise (le:=fun a b=>¬fh b a<0) ?_ hs (hpw.imp fun{a b}h=>?_) (hp.trans (o7 X).symm)
 ·intro a b ha hb h1 h2
  have ha:=(hp.trans (o7 X).symm).subset ha
  obtain⟨i,hi,rfl⟩:=ul ha
  obtain⟨j,hj,rfl⟩:=ul hb
  have k:=List.pairwise_iff_getElem.1 hpw
  rcases uo i j with h|h|h
  ·exact absurd (k i j hi hj h) h2
  ·subst h;rfl
  ·exact absurd (k j i hj hi h) h1
 ·have:=nA.neg a b;omega
end Go.Proofs.YtdbdoalefmliiaaGreatDoor.S
namespace Go.Proofs.YtdbdoalefmliiaaGreatDoor.S
open Go.Shelf
def AU:Go.Shelf.Ren:=⟨fun|6=>14|15=>47|14=>46|28=>89|29=>90|20=>81|21=>82|22=>83|23=>84|24=>85|25=>86|26=>87|27=>88|46=>126|47=>127|48=>128|49=>129|50=>130|57=>154|n=>n,fun|22=>23|24=>29|25=>52|3=>3|39=>101|0=>0|53=>139|55=>114|4=>4|46=>133|45=>132|50=>95|5=>5|9=>9|66=>180|70=>184|76=>205|77=>202|n=>n,fun|n=>n⟩
theorem Wv:Go.Proofs.SlLaysF0.n6 Tryz.prog AU:={
 mixed:=by kernel_rfl
 f6:=⟨Tryz.f14.name,by decide,Tryz.func14.trans (congrArg some (by kernel_rfl))⟩
 f14:=⟨Tryz.f46.name,by decide,Tryz.func46.trans (congrArg some (by kernel_rfl))⟩
 f15:=Tryz.func47.trans (congrArg some (by kernel_rfl))
 f20:=⟨Tryz.f81.name,by decide,Tryz.func81.trans (congrArg some (by kernel_rfl))⟩
 f21:=⟨Tryz.f82.name,by decide,Tryz.func82.trans (congrArg some (by kernel_rfl))⟩
 f22:=⟨Tryz.f83.name,by decide,Tryz.func83.trans (congrArg some (by kernel_rfl))⟩
 f23:=⟨Tryz.f84.name,by decide,Tryz.func84.trans (congrArg some (by kernel_rfl))⟩
 f24:=⟨Tryz.f85.name,by decide,Tryz.func85.trans (congrArg some (by kernel_rfl))⟩
 f25:=⟨Tryz.f86.name,by decide,Tryz.func86.trans (congrArg some (by kernel_rfl))⟩
 f26:=⟨Tryz.f87.name,by decide,Tryz.func87.trans (congrArg some (by kernel_rfl))⟩
 f27:=⟨Tryz.f88.name,by decide,Tryz.func88.trans (congrArg some (by kernel_rfl))⟩
 f28:=Tryz.func89.trans (congrArg some (by kernel_rfl))
 f29:=Tryz.func90.trans (congrArg some (by kernel_rfl))
 f46:=⟨Tryz.f126.name,by decide,Tryz.func126.trans (congrArg some (by kernel_rfl))⟩
 f47:=Tryz.func127.trans (congrArg some (by kernel_rfl))
 f48:=Tryz.func128.trans (congrArg some (by kernel_rfl))
 f49:=⟨Tryz.f129.name,by decide,Tryz.func129.trans (congrArg some (by kernel_rfl))⟩
 f50:=⟨Tryz.f130.name,by decide,Tryz.func130.trans (congrArg some (by kernel_rfl))⟩
 f57:=⟨Tryz.f154.name,by decide,Tryz.func154.trans (congrArg some (by kernel_rfl))⟩
 t0:=Tryz.underlying0
 a0:=Tryz.isAgg0
 z0:=Tryz.sizeOf0
 v0:=Tryz.zeroValue0
 t3:=Tryz.underlying3
 a3:=Tryz.isAgg3
 z3:=Tryz.sizeOf3
 v3:=Tryz.zeroValue3
 t4:=Tryz.underlying4
 a4:=Tryz.isAgg4
 z4:=Tryz.sizeOf4
 v4:=Tryz.zeroValue4
 t5:=Tryz.underlying5
 a5:=Tryz.isAgg5
 z5:=Tryz.sizeOf5
 v5:=Tryz.zeroValue5
 t9:=Tryz.underlying9
 a9:=Tryz.isAgg9
 z9:=Tryz.sizeOf9
 v9:=Tryz.zeroValue9
 t22:=Tryz.underlying23
 a22:=Tryz.isAgg23
 z22:=Tryz.sizeOf23
 v22:=Tryz.zeroValue23
 t25:=Tryz.underlying52
 a25:=Tryz.isAgg52
 z25:=Tryz.sizeOf52
 v25:=Tryz.zeroValue52
 t39:=Tryz.underlying101
 a39:=Tryz.isAgg101
 z39:=Tryz.sizeOf101
 v39:=Tryz.zeroValue101
 t45:=Tryz.underlying132
 a45:=Tryz.isAgg132
 z45:=Tryz.sizeOf132
 v45:=Tryz.zeroValue132
 t46:=Tryz.underlying133
 a46:=Tryz.isAgg133
 z46:=Tryz.sizeOf133
 v46:=Tryz.zeroValue133
 t50:=Tryz.underlying95
 a50:=Tryz.isAgg95
 z50:=Tryz.sizeOf95
 v50:=Tryz.zeroValue95
 t53:=Tryz.underlying139
 a53:=Tryz.isAgg139
 z53:=Tryz.sizeOf139
 v53:=Tryz.zeroValue139
 t55:=Tryz.underlying114
 a55:=Tryz.isAgg114
 z55:=Tryz.sizeOf114
 v55:=Tryz.zeroValue114
 t66:=Tryz.underlying180
 a66:=Tryz.isAgg180
 z66:=Tryz.sizeOf180
 v66:=Tryz.zeroValue180
 t70:=Tryz.underlying184
 a70:=Tryz.isAgg184
 z70:=Tryz.sizeOf184
 v70:=Tryz.zeroValue184
 t76:=Tryz.underlying205
 a76:=Tryz.isAgg205
 z76:=Tryz.sizeOf205
 v76:=Tryz.zeroValue205
 t77:=Tryz.underlying202
 a77:=Tryz.isAgg202
 z77:=Tryz.sizeOf202
 v77:=Tryz.zeroValue202}
end Go.Proofs.YtdbdoalefmliiaaGreatDoor.S
namespace Go.Proofs.YtdbdoalefmliiaaGreatDoor.S
open Go.QfSy Go.RowKit Go.Sort
def bG (g:aG):Prop:=g.locs.length≤1000∧∀l∈g.locs,l.list.length≤1000
structure GC (F:Fz)where
 enc:List Value
 gen:aG
 rel:bY F gen.rvs enc
 bnd:bG gen
theorem GC.three {F:Fz}(x:GC F):∃a b c,x.enc=[a,b,c]∧a.oneCell'=true∧b.oneCell'=true∧c.oneCell'=true:=by
 have h:=x.rel
 generalize x.enc=e at h⊢
 unfold aG.rvs at h
 cases h with|cons h1 h=>cases h with|cons h2 h=>cases h with|cons h3 h=>
 cases h
 refine⟨_,_,_,rfl,?_,?_,?_⟩
 ·cases h1;rfl
 ·cases h2;rfl
 ·unfold iz at h3;cases h3<;>rfl
theorem GC.len {F:Fz}(x:GC F):x.enc.length=3:=by
 obtain⟨a,b,c,h,_⟩:=x.three
 rw[h];rfl
theorem GC.one {F:Fz}(x:GC F):∀v∈x.enc,v.oneCell'=true:=by
 obtain⟨a,b,c,h,h1,h2,h3⟩:=x.three
 rw[h]
 intro v hv
 simp only[bC,cU,cY]at hv
 rcases hv with rfl|rfl|rfl<;>assumption
theorem D8 {γ:Gm}:∀(X:List aG)(cs:List Value),(∀g∈X,bG g)→ap γ (X.flatMap fun c=>RV.avl (ae.gen.rvs c)) cs→∃L:List (GC γ.fz),L.map GC.gen=X∧cs=L.flatMap GC.enc
 |[],cs,_,h=>by cases h;exact⟨[],rfl,rfl⟩
 |g::X,cs,hb,h=>by
  have h:ap γ (RV.avl g.rvs++X.flatMap fun c=>RV.avl (ae.gen.rvs c)) cs:=h
  obtain⟨c1,c2,rfl,h1,h2⟩:=h.split
  obtain⟨L,e1,e2⟩:=D8 X c2 (fun g hg=>hb g (fk _ hg)) h2
  exact⟨⟨c1,g,h1.rvs,hb g eB⟩::L,by rw[jH,e1],by rw[gh,e2]⟩
theorem Fi {γ:Gm}:∀L:List (GC γ.fz),ap γ ((L.map GC.gen).flatMap fun c=>RV.avl (ae.gen.rvs c)) (L.flatMap GC.enc)
 |[]=>.nil
 |x::L=>by
  rw[show(x::L).flatMap GC.enc=x.enc++L.flatMap GC.enc from gh]
  exact ap.append (us:=(L.map GC.gen).flatMap fun c=>RV.avl (ae.gen.rvs c)) x.rel.avl (Fi L)
theorem Gr {α:Type} [Inhabited α]{enc:α→List Value}(hk:∀x,(enc x).length=3):∀(L:List α)(t:Nat),t<L.length*3→(L.flatMap enc)[t]? =(enc (L.toArray[t/3]!))[t%3]?
 |[],t,h=>by simp at h
 |a::L,t,h=>by
  rw[gh]
  rcases bA t 3 with h1|h1
  ·rw[gg (by rw[hk];exact h1),Nat.div_eq_of_lt h1,rD h1];simp
  ·obtain⟨u,rfl⟩:∃u,t=u+3:=⟨t-3,om⟩
   rw[nc (by rw[hk];omega),hk,show u+3-3=u by omega,Gr hk L u (by simp only[dg]at h;omega),show(u+3)/3=u/3+1 by omega,show(u+3)%3=u%3 by omega]
   simp
theorem zj {α:Type} [Inhabited α]{enc:α→List Value}(hk:∀x,(enc x).length=3)(L:List α):flatK enc 3 L.toArray=(L.flatMap enc).toArray:=by
 have hl:(L.flatMap enc).length=L.length*3:=by
  induction L with
  |nil=>rfl
  |cons a L ih=>rw[gh,fV,hk,ih,dg];omega
 refine ext_get! (by simp[hl]) fun t ht=>?_
 have ht:t<L.length*3:=by simpa using ht
 have e:=Gr hk L t ht
 rw[get_flatK enc 3 _ t (by simpa using ht),getElem!_def (L.flatMap enc).toArray,ke,e,getElem!_def (enc _)]
theorem M5 {F:Array Value}{cs ex:List Value}(h:cs.length=F.size):putCells id 0 F (cs++ex).toArray=(F.toList++ex).toArray:=by
 apply Array.ext_getElem?
 intro k
 simp only[putCells,Array.getElem?_mapIdx,ke]
 rcases bA k F.size with h1|h1
 ·rw[gg om,gg (by simpa using h1),gS om]
  simp[h1]
 ·rw[nc om,nc (by simpa using h1),h]
  have:¬(0≤k∧k<0+F.size):=by omega
  simp only[this,iF]
  cases ex[k-F.size]? <;>simp[um]
noncomputable def xA (X:List aG):cS:=⟨14,[.lo 1000 X.length,.fn 15 []],[(1000,⟨.vals .gen X,29,3,true,true⟩)],1100,none,fun _=>(.tup [],[(1000,⟨.vals .gen (dX X),29,3,true,true⟩)],1100)⟩
theorem P9 {F:Fz}:SWO (ltOf fun x y:GC F=>fh x.gen y.gen)where
 irrefl x:=by
  have:=nA.neg x.gen x.gen
  exact bI (show¬fh x.gen x.gen<0 by omega)
 trans x y z h1 h2:=by
  have h1:=ea h1
  have h2:=ea h2
  exact bJ (Ia h1 h2)
 ntrans x y z h1 h2:=by
  have h1:¬fh x.gen y.gen<0:=of_decide_eq_false h1
  have h2:¬fh y.gen z.gen<0:=of_decide_eq_false h2
  refine bI (show¬fh x.gen z.gen<0 from ?_)
  have n1:=nA.neg x.gen y.gen
  have n2:=nA.neg y.gen z.gen
  have n3:=nA.neg x.gen z.gen
  have:=nA.tr z.gen y.gen x.gen om om
  omega
theorem Fj {α:Type} [Inhabited α]{enc:α→List Value}{w:World}{B m:Nat}{dk:Array α}{os:Array Obj}{k:Nat}(hk:k<w.heap.size)(hne:k≠B):(sortWorldK enc 3 w B 0 m dk os).heap[k]? =w.heap[k]? :=by
 unfold sortWorldK grow putRowK putRow mapBlock Go.Sort.ahead
 simp only
 rw[Array.getElem?_append_left (by simpa using hk),Array.getElem?_modify,if_neg (fun e=>hne e.symm)]
theorem Qa {α:Type} [Inhabited α]{enc:α→List Value}{w:World}{B m:Nat}{dk:Array α}{os:Array Obj}:w.heap.size≤(sortWorldK enc 3 w B 0 m dk os).heap.size:=by
 unfold sortWorldK grow putRowK putRow mapBlock Go.Sort.ahead
 simp
theorem SK {α:Type} [Inhabited α]{enc:α→List Value}(hk:∀x,(enc x).length=3){w:World}{B m el:Nat}{cs ex:List Value}(h:w.heap[B]? =some (.cells (cs++ex).toArray el (0,0))){L:List α}(hl:cs.length=L.length*3){os:Array Obj}:(sortWorldK enc 3 w B 0 m L.toArray os).heap[B]? =some (.cells (L.flatMap enc++ex).toArray el (0,0)):=by
 have hB:=(eI.1 h).1
 unfold sortWorldK grow putRowK putRow mapBlock Go.Sort.ahead
 simp only
 rw[Array.getElem?_append_left (by simpa using hB),Array.getElem?_modify,if_pos rfl,h]
 simp only[kU,onCells]
 rw[M5 (by rw[size_flatK];simpa using hl),zj hk]
theorem Yp (w:World):(isAgg (AU.t 24)).run Tryz.prog w=.ok true w:=Tryz.isAgg29 w
theorem Yq (w:World):(Go.sizeOf (AU.t 24)).run Tryz.prog w=.ok 3 w:=Tryz.sizeOf29 w
theorem OB {γ:Gm} [Inhabited (GC γ.fz)]{w:World}(hF:pE γ.fz w){B n:Nat}(hB:γ.fz B=none):CmpLays Tryz.prog 15 #[] (GC.enc (F:=γ.fz)) 3 (fun x y=>fh x.gen y.gen) B 0 n w:=by
 intro m os dk hs x y
 have hp:=DC x.gen y.gen x.bnd y.bnd
 have hV:pE γ.fz (sortWorldK GC.enc 3 w B 0 m dk os):=by
  intro b o hb
  have h1:=hF b o hb
  rw[Fj (eI.1 h1).1 (fun e=>by rw[e,hB]at hb;cases hb)]
  exact h1
 refine(hp.2 _ γ.fz [.agg x.enc.toArray,.agg y.enc.toArray] (fun t ht=>by cases ht) hV (.cons (.agg x.rel) (.cons (.agg y.rel) .nil))).mono ?_
 rintro e w' ⟨V,F',rfl,_,_,_,hR,hb⟩
 cases hR
 obtain⟨p,hp⟩:=regrown_of_below hb.toBelow
 refine⟨rfl,w'.drawn-(sortWorldK GC.enc 3 w B 0 m dk os).drawn,p.os,?_⟩
 have hd:p.d=w'.drawn:=by rw[hp];rfl
 rw[hp,hd]
 unfold grow redrawn World.drewN
 simp only[World.mk.injEq,true_and,and_true]
 have:=hb.drawn
 omega
theorem Ve (X:List aG)(hX:X≠[])(hlen:X.length≤1000)(hb:∀g∈X,bG g)(ha:iP (dX X)=true):aP Tryz.prog EV.ng (xA X):=by
 refine⟨⟨_,Tryz.func14,rfl⟩,?_⟩
 intro d _ γ w Args hr hA0 _
 have hget:(aI (xA X).pre).get 1000=some ⟨.vals .gen X,29,3,true,true⟩:=rfl
 obtain⟨B,x,cs,ex,g1,g2,g3,g4,g5⟩:=hr.blk 1000 _ hget
 obtain⟨L,hL,rfl⟩:=D8 X cs hb g3
 have hne:L≠[]:=by rintro rfl;exact hX hL.symm
 obtain⟨x0,L0,rfl⟩:∃x0 L0,L=x0::L0:=by
  cases L with
  |nil=>exact absurd rfl hne
  |cons a l=>exact⟨a,l,rfl⟩
 letI:Inhabited (GC γ.fz):=⟨x0⟩
 obtain⟨L,hLe⟩:∃L,L=x0::L0:=⟨_,rfl⟩
 rw[←hLe]at hL hne g2 g3
 have hfB:γ.fz B=none:=hr.fzo 1000 _ B x hget rfl g1
 have hBw:B<w.heap.size:=(eI.1 g2).1
 have hn:L.length=X.length:=by rw[←hL,jG]
 have hfl:(L.flatMap GC.enc).length=L.length*3:=by
  have:=congrArg Array.size (zj GC.len L)
  simpa using this.symm
 have hH:HoldsK GC.enc 3 w B 0 L.toArray:=by
  unfold HoldsK
  rw[zj GC.len]
  intro j hj
  have hj:j<(L.flatMap GC.enc).length:=by simpa using hj
  constructor
  ·rw[gF]
   simp only[World.cell?,g2]
   rw[getElem!_pos _ j (by simpa using hj)]
   simp[gg hj]
  ·simp[World.frozen?,g2]
 have hA:ap γ [.lo 1000 X.length,.fn 15 []] Args:=hA0
 clear hA0
 obtain⟨V1,rfl,hV1⟩:∃V1,Args=[V1,.func (.func 15) #[] #[]]∧aj γ (.lo 1000 X.length) V1:=by
  cases hA with|cons p1 hA=>cases hA with|cons p2 hA=>
  cases hA
  cases p2 with|fn _ p3=>
  cases p3
  exact⟨_,rfl,p1⟩
 obtain rfl:V1=.slice (some ⟨B,0,none⟩) X.length (X.length+x):=by
  cases hV1 with|lo _ k1=>
  rw[g1]at k1
  cases k1
  rfl
 have eg:∀args w,(callFunc 15 args).run Tryz.prog w=.ok (.enter 15 args) w:=enters_of Tryz.func15 kr rfl
 have hcon:=AnyQ.slices_SortFunc Wv 3 Yp Yq GC.enc GC.len GC.one (fun x y=>fh x.gen y.gen) P9 15 #[] B 0 (X.length+x) L.toArray w eg (OB (fun b o hb=>hr.fzr b o hb) hfB) hH hBw (by simp only[pO];omega)
 have hcon:Calls Tryz.prog 14 #[.slice (some ⟨B,0,none⟩) L.toArray.size (X.length+x),.func (.func 15) #[] #[]] w _:=hcon
 rw[pO,hn]at hcon
 refine hcon.mono ?_
 rintro e w' ⟨rfl,d',n,os,hp,hs,rfl⟩
 obtain⟨hp1,_,hp3⟩:=hp
 have hsz:d'.size=L.length:=by rw[hp1];simp
 have e1:d'.extract 0 L.length=d':=by rw[←hsz];exact Array.extract_size
 have e2:L.toArray.extract 0 L.length=L.toArray:=by
  simp
 rw[hn]at e1 e2
 rw[e1,e2]at hp3
 have hp3:d'.toList.Perm L:=by simpa using hp3
 have hpm:(d'.toList.map GC.gen).Perm X:=by rw[←hL];exact hp3.map _
 have hpw:(d'.toList.map GC.gen).Pairwise (fun a b=>¬fh b a<0):=by
  rw[List.pairwise_iff_getElem]
  intro i j hi hj hij
  have hi':i<d'.size:=by simpa using hi
  have hj':j<d'.size:=by simpa using hj
  have:=of_decide_eq_false (hs i j (bQ _) hij om)
  rw[getElem!_pos d' i hi',getElem!_pos d' j hj']at this
  simpa using this
 have hsrt:=Ro ha hpm hpw
 have hq:d'.toList.length=L.length:=by simpa using hsz
 have hrow:=SK (m:=n) (os:=os) GC.len g2 (L:=d'.toList) (by rw[hfl,hq])
 rw[Array.toArray_toList]at hrow
 have hother:∀k,k<w.heap.size→k≠B→(sortWorldK GC.enc 3 w B 0 n d' os).heap[k]? =w.heap[k]? :=fun k hk hne=>Fj hk hne
 have hown:∀b k,(aI [(1000,(⟨.vals .gen (dX X),29,3,true,true⟩:ag))]).get b=some k→b=1000∧k=⟨.vals .gen (dX X),29,3,true,true⟩:=by
  intro b k hb
  have:=i7 [(1000,(⟨.vals .gen (dX X),29,3,true,true⟩:ag))] b k rfl hb
  simp only[bC,cU,cY,dh]at this
  exact this
 have himg:eQ γ (aI (xA X).pre).get B:=⟨1000,_,x,hget,rfl,g1⟩
 refine⟨_,γ,rfl,.tup .nil,⟨Gm.le_refl γ,⟨?_,?_,fun b hb=>hr.fresh b hb,?_,?_⟩,Qa,rfl,rfl,rfl,?_,?_,?_,?_,fun _ _ h=>.inl h,?_⟩,fun _ _=>rfl⟩
 ·intro b k hb
  obtain⟨rfl,rfl⟩:=hown b k hb
  refine⟨B,x,d'.toList.flatMap GC.enc,ex,g1,hrow,?_,g4,g5⟩
  have:=Fi (γ:=γ) d'.toList
  rw[hsrt]at this
  exact this
 ·intro b b' k k' B1 x1 x2 q1 q2 _ _
  rw[(hown b k q1).1,(hown b' k' q2).1]
 ·intro B1 o hB1
  rw[hother B1 (eI.1 (hr.fzr B1 o hB1)).1 (fun e=>by rw[e,hfB]at hB1;cases hB1)]
  exact hr.fzr B1 o hB1
 ·intro b k B1 x1 hb hk hg
  obtain⟨rfl,rfl⟩:=hown b k hb
  rw[g1]at hg
  cases hg
  exact hfB
 ·intro k hk hnk
  exact hother k hk (fun e=>hnk (e▸himg))
 ·intro k hk ⟨b,q,x1,q1,q2,q3⟩
  obtain⟨rfl,rfl⟩:=hown b q q1
  rw[g1]at q3
  cases q3
  exact himg
 ·intro b k hb hk
  obtain⟨rfl,rfl⟩:=hown b k hb
  cases hk
 ·intro b k hb
  obtain⟨rfl,rfl⟩:=hown b k hb
  exact .inl ⟨_,hget⟩
 ·show w.drawn≤w.drawn+n
  omega
end Go.Proofs.YtdbdoalefmliiaaGreatDoor.S
namespace Go.QfSy
open Go.RowKit
def At:AV→AV→Option (List Prop)
 |.nils,.ro n _ _=>some [n=0]
 |.slc b 0 n c,.lo b' n'=>bif Nat.beq b b'&&Nat.beq n c then some [n=n']else none
 |x,y=>po x y
theorem NW {γ:Gm}{x y:AV}{ms:List Prop}(h:At x y=some ms)(hm:∀p∈ms,p){V:Value}(hV:aj γ x V):aj γ y V:=by
 unfold At at h
 split at h
 ·cases h
  cases hV
  exact .ro (.sl0 _ _ _ _ (aA hm))
 ·obtain⟨hc,h⟩:=ay h
  cases h
  simp only[bj]at hc
  have e1:=aM hc.1
  have e2:=aM hc.2
  have e3:=aA hm
  subst e1 e2
  rw[←e3]
  cases hV with|slc _ _ _ hg=>exact .lo _ hg
 ·exact rV h hm γ V hV
def qs:List AV→List AV→Option (List Prop)
 |[],[]=>some []
 |v::vs,u::us=>match At v u with
  |none=>none
  |some m1=>match qs vs us with
   |none=>none
   |some m2=>some (m1++m2)
 |_,_=>none
theorem CZ {γ:Gm}:∀{xs ys:List AV}{ms:List Prop},qs xs ys=some ms→(∀p∈ms,p)→∀{Vs:List Value},ap γ xs Vs→ap γ ys Vs
 |[],[],ms,h,hm,Vs,hV=>hV
 |[],_::_,ms,h,hm,Vs,hV=>by simp[qs]at h
 |_::_,[],ms,h,hm,Vs,hV=>by simp[qs]at h
 |v::vs,u::us,ms,h,hm,Vs,hV=>by
  simp only[qs]at h
  split at h
  ·cases h
  ·rename_i m1 h1
   split at h
   ·cases h
   ·rename_i m2 h2
    cases h
    cases hV with|cons a b=>
    exact .cons (NW h1 (fun p hp=>hm p (lE _ hp)) a) (CZ h2 (fun p hp=>hm p (jo _ hp)) b)
noncomputable def vQ:List (Nat×ag)→Tr ag→Option (Tr ag×List Prop)
 |[],m=>some (m,[])
 |(b,k')::l,m=>match m.get b with
  |none=>none
  |some k=>bif k.own&&k'.own&&(!k.opn||(k'.opn&&Nat.beq k.sz k'.sz))&&Nat.beq k.elem k'.elem then(match qs k.cells k'.cells with
   |none=>none
   |some m1=>match m.set b (some k')with
    |none=>none
    |some m'=>match vQ l m' with
     |none=>none
     |some (m2,ms)=>some (m2,m1++ms))else none
theorem DR {γ:Gm}{nx:Nat}{w:World}:∀{l:List (Nat×ag)}{m m':Tr ag}{ms:List Prop},aJ γ m.get nx w→vQ l m=some (m',ms)→(∀p∈ms,p)→be γ m.get w γ m'.get nx w
 |[],m,m',ms,hr,h,hm=>by cases h;exact be.refl hr
 |(b,k')::l,m,m',ms,hr,h,hm=>by
  simp only[vQ]at h
  split at h
  ·cases h
  ·rename_i k hk
   obtain⟨hc,h⟩:=ay h
   simp only[bj,nj,mp]at hc
   split at h
   ·cases h
   ·rename_i m1 h1
    split at h
    ·cases h
    ·rename_i m2 h2
     split at h
     ·cases h
     ·rename_i m3 m4 h3
      cases h
      have s1:=aJ.cast hr hk hc.1.1.1 hc.1.1.2 (hc.1.2.imp id fun h=>⟨h.1,aM h.2⟩) (aM hc.2) (fun cs hcs=>CZ h1 (fun p hp=>hm p (lE _ hp)) hcs)
      rw[←ej h2]at s1
      exact s1.trans (DR s1.rel h3 (fun p hp=>hm p (jo _ hp)))
noncomputable def Ii (g:Nat)(l:List (Nat×ag))(call:bq):bq:=fun f args H=>bif Nat.beq f g then(match vQ l H.m with
 |none=>none
 |some (m',ms)=>call f args ⟨m',H.nx,H.tp,ms++H.ms⟩)else call f args H
theorem sc {P:Program}{ng g:Nat}{l:List (Nat×ag)}{call:bq}(hc:bV P ng call):bV P ng (Ii g l call):=by
 intro f args H v H' hq
 unfold Ii at hq
 cases hb:Nat.beq f g with
 |false=>rw[hb]at hq;exact hc f args H v H' hq
 |true=>
  rw[hb]at hq
  simp only[aU]at hq
  split at hq
  ·cases hq
  ·rename_i m' ms hf
   obtain⟨h1,h2⟩:=hc f args _ v H' hq
   refine⟨fun p hp=>h1 p (jo _ hp),fun hm γ w Args hr hV hg=>?_⟩
   have a1:=DR hr hf (fun p hp=>hm p (h1 p (lE _ hp)))
   obtain⟨q1,q2⟩:=h2 hm γ w Args a1.rel hV hg
   refine⟨q1,q2.mono ?_⟩
   rintro e w' ⟨V,γ2,rfl,k1,k2⟩
   exact⟨V,γ2,rfl,k1,⟨a1.trans k2.stp,k2.nx,k2.keep⟩⟩
end Go.QfSy
end
