/- A part of the proof of ExistenceGenera: KP, VN, TJ, VH, EI, EK, VO, CK, KQ, KR, KS, KT, CS, KU, SD, SE, SF, MQ, MR, MA, MB, MC, MD, ME, MF, MG, MH, MP. -/
import Derived.Test.YtmeljalphfcieaaGreatDoorPkG3
import Derived.Test.YtmeljalphfcieaaGreatDoorPkG5
import Derived.Test.YtmeljalphfcieaaGreatDoorPkG4
import Derived.Shelf.SlSortCmp.WholeK
import Derived.Test.YtmeljalphfcieaaGreatDoorChecked
import Derived.Lib.QuietBelow
import Derived.WalkKit
import Derived.Lib.Hide
import Derived.Laws.Rows
import Derived.WalkMore
import Derived.Below
import Derived.BigQuiet
import Derived.Deep.QuietTactic
import Derived.Deep.RegionWith
import Derived.Deep.RegionHeld3
import Derived.Laws.StructEq
set_option linter.unusedSimpArgs false
set_option linter.unusedVariables false
set_option maxRecDepth 100000
open Go.IntKind renaming i64 → w6
open Go.QfSy.Con renaming zero → z0c
open Go.QfSy.Loc renaming zero → z0l
noncomputable section
namespace Go.Proofs.YtmeljalphfcieaaGreatDoor.S
open Go.QfSy Go.RowKit
def Lc (n D:Int)(C:LL):cg:=⟨13,[.agg [vi n,vi D,.lo 1000 C.length]],[(1000,fw C)],1100,none,fun _=>(.agg [vi n,vi D,.lo 1150 C.length],[(1000,fw C),(1150,fw C)],1900)⟩
def Ld (C:LL)(i:AV):List (Nat×AV):=[(1,.ptr 1100 0),(2,.ptr 1101 0),(10,.lo 1103 C.length),(11,vi C.length),(12,i)]
def BJ (n D:Int)(C:LL):List (Nat×ai):=[(1000,fw C),(1100,dS [vi n,vi D,.lo 1103 C.length] 32),(1101,dS [.int .i64 0,.int .i64 0,.nils] 32),(1103,fw C)]
def cpL (n D:Int)(C:LL):aA:=⟨⟨Ld C (.int .i64 0),BJ n D C,1104⟩,none,fun _=>(.exit 0,⟨[(1,.ptr 1100 0),(2,.ptr 1101 0)],BJ n D C,1104⟩)⟩
theorem FE {C:LL}{k:Nat}(hk:k<C.length):C.getD k QfSy.Loc.zero∈C:=by
 rw[cj,eb hk];exact fp hk
theorem QX {C:LL}{k:Nat}(hk:k<C.length):C.set k ⟨(C.getD k QfSy.Loc.zero).prime,ag (C.getD k QfSy.Loc.zero).list.length fun i=>((C.getD k QfSy.Loc.zero).list.getD i Con.zero).rvs⟩=C:=by
 rw[bn]
 show C.set k (C.getD k QfSy.Loc.zero)=C
 rw[cj,eb hk]
 exact List.set_getElem_self hk
def lE (C:LL):Prop:=∀l∈C,0<l.list.length∧l.list.length≤1000
theorem S7 (n D:Int)(C:LL)(hC:0<C.length∧C.length≤1000)(hL:lE C):An 1 Tryz.f13 [0,1,0,1,1] (cpL n D C):=by
 refine cN c0 aC (fun(k:Nat)=>(⟨Ld C (vi k),BJ n D C,1104⟩:St)) (fun(k:Nat)=>(C.length-k:Nat)) (fun(k:Nat)=>(k≤C.length:Prop)) ?_ ?_
 ·exact st (0) [rq C.length,rq (↑C.length:Int),(0:Int)=↑(0:Nat),C=C,n=n,D=D,rq C.length,C=C] (by refine⟨?_,?_,?_,?_,?_,?_,?_,(?_:C=C)⟩<;>(first|exact tz|rfl)) (by exact aY _)
 ·intro k hI
  have ht:k≤C.length:=hI
  have ek:IntKind.i64.wrap ((k:Int)+1)=((k+1:Nat):Int):=by rw[wo];omega
  refine(let q1:List Prop→List Prop:=fun l0=>rq C.length::rq (↑C.length:Int)::(IntKind.i64.wrap ((↑k:Int)+1)=↑(k+1))::(C=C)::(n=n)::(D=D)::rq C.length::l0;oe (decide ((↑k:Int)<↑C.length)) (fun d1=>let y1:List Prop:=[(0:Nat)<(C.getD k aa.loc.zero).list.length,k<C.length,(0:Int)≤↑k∧(↑k:Int)<↑C.length,ty d1];have u1:ao y1:=⟨?_,?_,?_,d1⟩;oe ((C.getD k aa.loc.zero).list.length.beq (0:Nat)) (fun d2=>aq [true,true] (k+1) (q1 (let v1:=C.getD k aa.loc.zero;(C.set k (Loc.mk v1.prime [])=C)::(k<C.length)::((0:Int)≤↑k∧(↑k:Int)<↑C.length)::rq C.length::(∀(i:Nat),i<v1.list.length→(fun i=>(v1.list.getD i Con.zero).rvs) i=(Con.ofR ((fun i=>(v1.list.getD i Con.zero).rvs) i)).rvs)::ty d2::y1)) ?_ ?_ ?_)
   (fun d2=>aq [true,false] (k+1) (q1 (let v1:=C.getD k aa.loc.zero;let v2:=ag v1.list.length fun i=>(v1.list.getD i Con.zero).rvs;(C.set k (Loc.mk v1.prime v2)=C)::(k<C.length)::(v1.list.length=v2.length)::((0:Int)≤↑k∧(↑k:Int)<↑C.length)::rq C.length::((0:Nat)<v1.list.length∧v1.list.length≤1000000)::(∀(i:Nat),i<v1.list.length→(fun i=>(v1.list.getD i Con.zero).rvs) i=(Con.ofR ((fun i=>(v1.list.getD i Con.zero).rvs) i)).rvs)::ty d2::y1)) ?_ ?_ ?_))
   (fun d1=>br [false] [C=C,n=n,D=D,rq C.length,C=C,ty d1] ?_))
  all_goals with_reducible repeat' first|exact dA|refine bk ?_ ?_|refine bm ?_
  all_goals((try clear u1);(try clear y1))
  all_goals first|exact My|exact Nd|exact cT|(first|exact tz|exact ek|(have hk:k<C.length:=bY;have h8:0<(C.getD k aa.loc.zero).list.length∧(C.getD k aa.loc.zero).list.length≤1000:=hL _ (FE hk);first|exact xz|omega|exact rm|exact QX hk|exact⟨h8.1,om⟩|(exfalso;have h9:=co d2;omega)))
theorem XJ (n D:Int)(C:LL)(hC:0<C.length∧C.length≤1000)(hL:lE C):aJ Tryz.prog EV.ng (Lc n D C):=by
 have hb:C.length.beq 0=false:=(by cases hq:C.length.beq 0 with
  |false=>rfl
  |true=>have:=co hq;omega)
 refine cQ c0 Tryz.func13 (aW (S7 n D C hC hL)) ?_
 intro d hd
 cases d
 ·exact Bool.noConfusion (show false=true from hd)
 ·refine lr [false] [n=n,D=D,rq C.length,C=C,C=C,rq C.length,rq (↑C.length:Int),C=C,n=n,D=D,rq C.length,C=C,(0:Nat)<C.length∧C.length≤1000000,rq C.length,aj (C.length.beq (0:Nat)) false] ⟨?_,?_,?_,?_,?_,?_,?_,?_,?_,?_,?_,?_,?_,?_,hb⟩
  all_goals first|(refine aT.mk ?_;((exact(5:Nat))))|(first|exact tz|exact⟨hC.1,om⟩|rfl)
def px (c:Con)(s last:Int):Bool:=decide (last<c.exp∧c.exp≤60∧1≤c.dim∧c.dim≤8-s∧(c.sign=1∨c.sign=-1)∧c.odd=false∧c.oddity=0)
def jW:LC→Int→Int→Bool
 |[],_,_=>true
 |c::l,s,last=>px c s last&&jW l (s+c.dim) c.exp
def cY (p:Int)(L:LC):Bool:=decide (2<p∧p≤9973)&&Nat.beq (ld p.toNat) p.toNat&&!L.isEmpty&&jW L 0 (-1)
theorem Hw:∀{L:LC}{s last:Int},0≤s→s≤8→-1≤last→jW L s last=true→(∀c∈L,jy c)∧(L.length:Int)≤8-s
 |[],s,last,h0,h1,h2,h=>⟨fun c hc=>by simp at hc,by simp;omega⟩
 |c::L,s,last,h0,h1,h2,h=>by
  simp only[jW,aX]at h
  obtain⟨hc,h⟩:=h
  obtain⟨a1,a2,a3,a4,a5,a6,a7⟩:=oT hc
  obtain⟨i1,i2⟩:=Hw (L:=L) (s:=s+c.dim) (last:=c.exp) om om om h
  refine⟨fun x hx=>?_,by simp only[cR];omega⟩
  rcases bx.1 hx with e|hx
  ·subst e;exact⟨⟨om,om⟩,⟨om,om⟩,a5,om⟩
  ·exact i1 x hx
theorem vp {p:Int}{L:LC}(h:cY p L=true):aL L:=by
 unfold cY at h
 simp only[aX]at h
 obtain⟨h1,h2⟩:=Hw om om om h.2
 exact⟨om,h1⟩
theorem vS {p:Int}{L:LC}(h:cY p L=true):2<p∧p≤9973∧p.toNat%2≠0:=by
 unfold cY at h
 simp only[aX,dT]at h
 obtain⟨⟨⟨h1,h2⟩,h3⟩,h4⟩:=h
 refine⟨h1.1,h1.2,fun e=>?_⟩
 have:=co h2
 rw[tA om om e]at this
 omega
theorem FW {L:LC}{k:Nat}(hk:k<L.length)(s l:Int):jW (L.drop k) s l=(px (at_ L k) s l&&jW (L.drop (k+1)) (s+(at_ L k).dim) (at_ L k).exp):=by
 rw[nh hk];rfl
noncomputable def Y2 (L:LC):aA:=⟨⟨[(3,.int .i64 0),(4,.int .i64 (-1)),(28,(aD L).av),(29,vi L.length),(30,.int .i64 0)],[],1001⟩,some (jW L 0 (-1)),fun d=>match d with
 |true=>(.exit 0,⟨[],[],1001⟩)
 |false=>(.ret,⟨[(2,.bool false)],[],1001⟩)⟩
theorem T7 (L:LC)(hn:L.length≤1000):An 1 Tryz.f70 [0,1,0,1,1,1] (Y2 L):=by
 refine ea c0 aC (u3 fun(k:Nat)(s e:Int)=>(⟨[(3,vi s),(4,vi e),(28,(aD L).av),(29,vi L.length),(30,vi k)],[],1001⟩:St)) (u3 fun(k:Nat)(s e:Int)=>(L.length-k:Nat)) (fun(d:Bool)=>u3 fun(k:Nat)(s e:Int)=>(k≤L.length∧(0≤s∧s≤8)∧jW (L.drop k) s e=d:Prop)) ?_ ?_
 ·intro d hd
  exact st (0,0,-1) [rq (0:Int),rq (-1:Int),lq L,rq (↑L.length:Int),(0:Int)=↑(0:Nat)] xi (by exact⟨aY _,de,hd⟩)
 ·rintro d hd ⟨k,s,e⟩ hI
  obtain⟨hk,hs,hd'⟩:=hI
  have hs:0≤s∧s≤8:=hs
  have hd':jW (L.drop k) s e=_:=hd'
  have hk:k≤L.length:=hk
  have ek:=wk k
  have e8:w6.wrap (8-s)=8-s:=wo
  refine(let q1:List Prop→List Prop:=fun l0=>(w6.wrap (s+(L.getD k z0c).dim)=s+(at_ L k).dim)::((L.getD k z0c).exp=(at_ L k).exp)::(lq L)::rq (↑L.length:Int)::(w6.wrap ((↑k:Int)+1)=↑(k+1))::l0;oe (decide ((↑k:Int)<↑L.length)) (fun d1=>let y1:List Prop:=[(0:Int)≤↑k∧(↑k:Int)<↑L.length,ty d1];have u1:ao y1:=⟨?_,d1⟩;oe (decide ((L.getD k z0c).exp≤e)) (fun d2=>aG d false [true,true] (ty d2::y1) ⟨d2,u1⟩ ?_)
   (fun d2=>let y2:List Prop:=ty d2::y1;have u2:ao y2:=⟨d2,u1⟩;oe (decide ((L.getD k z0c).exp>60)) (fun d3=>aG d false (tp 121) (ty d3::y2) ⟨d3,u2⟩ ?_)
   (fun d3=>let y3:List Prop:=ty d3::y2;have u3:ao y3:=⟨d3,u2⟩;oe (decide ((L.getD k z0c).dim<1)) (fun d4=>aG d false (tp 1221) (ty d4::y3) ⟨d4,u3⟩ ?_)
   (fun d4=>let y4:List Prop:=ty d4::y3;have u4:ao y4:=⟨d4,u3⟩;oe (decide ((L.getD k z0c).dim>w6.wrap ((8:Int)-s))) (fun d5=>aG d false (tp 12221) (ty d5::y4) ⟨d5,u4⟩ ?_)
   (fun d5=>oe ((L.getD k z0c).sign==1) (fun d6=>oe ((L.getD k z0c).odd) (fun d7=>aG d false (tp 1222221) (ty d7::ty (dN d6)::ty d5::y4) ⟨d7,(dN d6),d5,u4⟩ ?_)
   (fun d7=>oe ((L.getD k z0c).oddity==0) (fun d8=>aq (tp 12222222) (k+1,s+(at_ L k).dim,(at_ L k).exp) (q1 (ty (dN d8)::ty d7::ty (dN d6)::ty d5::y4)) ⟨?_,?_,?_,?_,?_,(dN d8),d7,(dN d6),d5,u4⟩ ?_ ?_)
   (fun d8=>aG d false (tp 12222221) (ty (dN d8)::ty d7::ty (dN d6)::ty d5::y4) ⟨(dN d8),d7,(dN d6),d5,u4⟩ ?_)))
   (fun d6=>let y5:List Prop:=ty (dN d6)::ty d5::y4;have u5:ao y5:=⟨(dN d6),d5,u4⟩;oe ((L.getD k z0c).sign==-1) (fun d7=>oe ((L.getD k z0c).odd) (fun d8=>aG d false (tp 12222121) (ty d8::ty (dN d7)::y5) ⟨d8,(dN d7),u5⟩ ?_)
   (fun d8=>oe ((L.getD k z0c).oddity==0) (fun d9=>aq (tp 122221222) (k+1,s+(at_ L k).dim,(at_ L k).exp) (q1 (ty (dN d9)::ty d8::ty (dN d7)::y5)) ⟨?_,?_,?_,?_,?_,(dN d9),d8,(dN d7),u5⟩ ?_ ?_)
   (fun d9=>aG d false (tp 122221221) (ty (dN d9)::ty d8::ty (dN d7)::y5) ⟨(dN d9),d8,(dN d7),u5⟩ ?_)))
   (fun d7=>aG d false (tp 1222211) (ty (dN d7)::y5) ⟨(dN d7),u5⟩ ?_)))))))
   (fun d1=>aG d true [false] [ty d1] d1 ?_))
  all_goals((try clear u5);(try clear y5);(try clear u4);(try clear y4);(try clear u3);(try clear y3);(try clear u2);(try clear y2);(try clear u1);(try clear y1))
  all_goals first|exact nV|(refine bD.mk ?_;(simp only[e8,bt,dT,dF,gM,b6,bJ]at*;rw[FW om,show px (at_ L k) s e=true from bZ ⟨by simp only[at_];omega,by simp only[at_];omega,by simp only[at_];omega,by simp only[at_];omega,by simp only[at_];first|exact .inl aS|exact .inr aS,aS,aS⟩]at hd';exact⟨om,by simp only[at_];omega,hd'⟩))|(refine dq.mk ?_;cases d<;>first|rfl|(exfalso;(simp only[e8,bt,dT,dF,gM,b6,bJ]at*;first|(rw[eL om]at hd';cases hd';done)|(rw[FW om,show px (at_ L k) s e=false from bu (by simp only[at_];rintro⟨a1,a2,a3,a4,a5,a6,a7⟩;first|omega|(simp_all;done))]at hd';cases hd';done))))|exact Mm
theorem Y3 {p:Int}{L:LC}{b:Bool}(h1:¬p≤2)(h2:¬p>9973)(h3:(((ld p.toNat:Nat):Int)==p)=true)(h4:((L.length:Int)==0)=false)(h5:jW L 0 (-1)=b):b=cY p L:=by
 unfold cY
 have e3:=eq_of_beq h3
 rw[show decide (2<p∧p≤9973)=true from bZ ⟨om,om⟩,show Nat.beq (ld p.toNat) p.toNat=true by rw[show ld p.toNat=p.toNat by omega];exact mY _,show L.isEmpty=false by(cases L with|nil=>cases h4|cons a l=>rfl),h5]
 rfl
theorem Y4 {p:Int}{L:LC}(h:p≤2∨p>9973):false=cY p L:=by
 unfold cY
 rw[show decide (2<p∧p≤9973)=false from bu om]
 rfl
theorem Y5 {p:Int}{L:LC}(h1:¬p≤2)(h3:(((ld p.toNat:Nat):Int)==p)=false):false=cY p L:=by
 unfold cY
 cases hb:Nat.beq (ld p.toNat) p.toNat with
 |true=>have:=co hb;rw[this,show((p.toNat:Nat):Int)=p by omega,e9]at h3;cases h3
 |false=>simp
theorem Y6 {p:Int}{L:LC}(h4:((L.length:Int)==0)=true):false=cY p L:=by
 have:=eq_of_beq h4
 have:L=[]:=kT om
 subst this
 unfold cY
 simp
theorem FX (p:Int)(L:LC)(hn:L.length≤1000):ar Tryz.prog [ci] 70 [.agg [.int .i64 p,aD L]] (.bool (cY p L)):=by
 refine pr (cE yA) Tryz.func70 (aW (T7 L hn)) ?_
 refine oe (decide (p≤2)) (fun d1=>lr [true] [false=cY p L,ty d1] ?_)
  (fun d1=>oe (decide (p>9973)) (fun d2=>lr [false,true] [false=cY p L,ty d2,ty d1] ?_)
  (fun d2=>let y1:List Prop:=[ty d2,ty d1];have u1:ao y1:=⟨d2,d1⟩;oe (decide (p≥2)) (fun d3=>oe (decide (p≤2147483647)) (fun d4=>let y2:List Prop:=((2:Int)≤p∧p≤2147483647)::ty d4::ty d3::y1;have u2:ao y2:=⟨?_,d4,d3,u1⟩;oe ((↑(ld p.toNat):Int)==p) (fun d5=>oe ((↑L.length:Int)==0) (fun d6=>lr (tp 221121) ((false=cY p L)::ty d6::ty (dN d5)::y2) ?_)
  (fun d6=>oe (jW L (0:Int) (-1:Int)) (fun d7=>lr (tp 2211221) ((true=cY p L)::(lq L)::rq (↑L.length:Int)::ty d7::ty d6::ty (dN d5)::y2) ?_)
  (fun d7=>lr (tp 2211222) ((false=cY p L)::(lq L)::rq (↑L.length:Int)::ty d7::ty d6::ty (dN d5)::y2) ?_)))
  (fun d5=>lr (tp 22111) ((false=cY p L)::ty (dN d5)::y2) ?_))
  (fun d4=>lr (tp 2212) ((false=cY p L)::ty d4::ty d3::y1) ?_))
  (fun d3=>lr (tp 222) ((false=cY p L)::ty d3::y1) ?_)))
 all_goals with_reducible repeat' first|exact dA|refine bk ?_ ?_|refine bm ?_
 all_goals((try clear u2);(try clear y2);(try clear u1);(try clear y1))
 all_goals first|(first|exact tz|(simp only[dT,dF]at*;first|exact⟨om,om⟩|exact Y4 om|exact Y5 om d5|exact Y6 d6|exact Y3 om om d5 d6 d7))
def fY (f:Nat→Int):Nat→Int
 |0=>0
 |n+1=>fY f n+f n
def eD (c:Con):Int:=c.oddity+(if c.exp%2=1∧c.sign=-1 then 4 else 0)
def jL (L:List Con):Int:=fY (fun k=>eD (at_ L k)) L.length%8
def bO (v:Bool)(L:LC):Int:=bif v then jL L else 0
theorem Ae {L:LC}(hL:aL L)(k:Nat):(0≤(at_ L k).exp∧(at_ L k).exp≤1000)∧(0≤(at_ L k).oddity∧(at_ L k).oddity≤7):=by
 rcases bA k L.length with h|h
 ·exact⟨(hL.at h).1,(hL.at h).2.2.2⟩
 ·have e:at_ L k=z0c:=by simp[at_,cj,gL h]
  rw[e];decide
theorem WE {L:LC}(hL:aL L)(k:Nat):0≤eD (at_ L k)∧eD (at_ L k)≤11:=by
 have:=(Ae hL k).2
 unfold eD
 split<;>omega
theorem sK {L:LC}(hL:aL L):∀{k:Nat},k≤L.length→0≤fY (fun j=>eD (at_ L j)) k∧fY (fun j=>eD (at_ L j)) k≤11*k
 |0,_=>by simp[fY]
 |k+1,h=>by
  have ih:=sK hL (k:=k) om
  have:=WE hL k
  simp only[fY]
  omega
theorem WF {c:Con}(h1:c.exp%2=1)(h2:c.sign=-1):eD c=c.oddity+4:=by unfold eD;rw[if_pos ⟨h1,h2⟩]
theorem WG {c:Con}(h:¬(c.exp%2=1∧c.sign=-1)):eD c=c.oddity:=by unfold eD;rw[if_neg h];omega
noncomputable def I6 (L:LC):aA:=⟨⟨[(4,.int .i64 0),(16,(aD L).av),(17,vi L.length),(18,.int .i64 0)],[],1030⟩,none,fun _=>(.exit 0,⟨[(4,vi (fY (fun j=>eD (at_ L j)) L.length))],[],1030⟩)⟩
noncomputable def HC:List bV:=[
 ⟨75,[],fun A=>match A with
  |[.agg [.int .i64 p,.sl n 5 row]]=>some (.bool (eQ p (ag n row)),[(∀i,i<n→row i=(Con.ofR (row i)).rvs)∧n≤1000])
  |_=>none⟩,
 ⟨72,[],fun A=>match A with
  |[.agg [.int .i64 p,.sl n 5 row]]=>some (.bool (be p (ag n row)),[(∀i,i<n→row i=(Con.ofR (row i)).rvs)∧n≤1000])
  |_=>none⟩]
theorem Ea:∀e∈HC,ch Tryz.prog e:=by
 intro e he
 simp only[HC,bx,cC,cH]at he
 rcases he with rfl|rfl
 all_goals
  intro A R ms h hm
  simp only at h
  split at h
  all_goals first|exact fF|cases h
 ·obtain⟨h1,h2⟩:=ay hm
  exact ar.imp (C0 _ _ fR) (.cons (.agg (.cons .same (.cons (.con h1) .nil))) .nil)
 ·obtain⟨h1,h2⟩:=ay hm
  exact ar.imp (uf _ _ fR) (.cons (.agg (.cons .same (.cons (.con h1) .nil))) .nil)
theorem RM (L:LC)(hL:aL L):An 1 Tryz.f25 [0,1,0,1,1,1] (I6 L):=by
 refine cN c0 aC (u2 fun(k:Nat)(n:Int)=>(⟨[(4,vi n),(16,(aD L).av),(17,vi L.length),(18,vi k)],[],1030⟩:St)) (u2 fun(k:Nat)(n:Int)=>(L.length-k:Nat)) (u2 fun(k:Nat)(n:Int)=>(k≤L.length∧n=fY (fun j=>eD (at_ L j)) k:Prop)) ?_ ?_
 ·exact st (0,0) [rq (0:Int),lq L,rq (↑L.length:Int),(0:Int)=↑(0:Nat)] B6 (by exact⟨aY _,rfl⟩)
 ·rintro ⟨k,n⟩ hI
  obtain⟨hk,hs⟩:=hI
  have hk:k≤L.length:=hk
  have hs:n=fY (fun j=>eD (at_ L j)) k:=hs
  have hl:=hL.1
  have ek:=wk k
  have hb:=sK hL hk
  have hc:=Ae hL k
  have e1:w6.wrap (n+(L.getD k z0c).oddity)=n+(L.getD k z0c).oddity:=by simp only[at_]at hc;rw[hs];exact wo
  refine(let q1:List Prop→List Prop:=fun l0=>(w6.wrap (n+(L.getD k z0c).oddity)=n+eD (at_ L k))::(lq L)::rq (↑L.length:Int)::(w6.wrap ((↑k:Int)+1)=↑(k+1))::l0;oe (decide ((↑k:Int)<↑L.length)) (fun d1=>let y1:List Prop:=[(2:Int)≠(0:Int),(0:Int)≤↑k∧(↑k:Int)<↑L.length,ty d1];have u1:ao y1:=⟨?_,?_,d1⟩;oe ((L.getD k z0c).exp.tmod (2:Int)==1) (fun d2=>oe ((L.getD k z0c).sign==-1) (fun d3=>aq (tp 111) (k+1,n+eD (at_ L k)) ((w6.wrap (w6.wrap (n+(L.getD k z0c).oddity)+4)=n+eD (at_ L k))::(lq L)::rq (↑L.length:Int)::(w6.wrap ((↑k:Int)+1)=↑(k+1))::ty d3::ty d2::y1) ⟨?_,?_,?_,?_,d3,d2,u1⟩ ?_ ?_)
   (fun d3=>aq (tp 112) (k+1,n+eD (at_ L k)) (q1 (ty d3::ty d2::y1)) ⟨?_,?_,?_,?_,d3,d2,u1⟩ ?_ ?_))
   (fun d2=>aq [true,false] (k+1,n+eD (at_ L k)) (q1 (ty d2::y1)) ⟨?_,?_,?_,?_,d2,u1⟩ ?_ ?_))
   (fun d1=>br [false] [n=fY (fun j=>eD (at_ L j)) L.length,ty d1] ⟨?_,d1⟩))
  all_goals((try clear u1);(try clear y1))
  all_goals first|exact nV|exact Nb|exact cT|exact LD
theorem RN (p:Int)(L:LC)(hL:aL L)(hv:dP p L=true):ar Tryz.prog [] 25 [.agg [.int .i64 p,aD L]] (.tup [.int .i64 (jL L),.bool true]):=by
 have hl:=hL.1;have hs:=sK hL (aZ L.length)
 refine pr (cE Ea) Tryz.func25 (aW (RM L hL)) ?_
 refine(let q1:List Prop→List Prop:=fun l0=>((fY (fun j=>eD (at_ L j)) L.length).tmod (8:Int)=jL L)::(true=true)::((8:Int)≠(0:Int))::(lq L)::rq (↑L.length:Int)::l0;let y1:List Prop:=[(lz L)∧L.length≤1000];have u1:ao y1:=(?_:(lz L)∧L.length≤1000);oe (eQ p (ag L.length fun i=>(L.getD i z0c).rvs)) (fun d1=>lr [false] (q1 (ty (dN d1)::y1)) ⟨?_,?_,?_,?_,?_,(dN d1),u1⟩)
  (fun d1=>oe (be p (ag L.length fun i=>(L.getD i z0c).rvs)) (fun d2=>lr [true,false] (q1 (ty (dN d2)::((lz L)∧L.length≤1000)::ty (dN d1)::y1)) ⟨?_,?_,?_,?_,?_,(dN d2),?_,(dN d1),u1⟩)
  (fun d2=>aT.no ?_)))
 all_goals first|exact Ce|exact Ny
theorem Uj (p:Int)(L:LC)(hl:L.length≤1000)(hv:eQ p L=false)(hv2:be p L=false):ar Tryz.prog [] 25 [.agg [.int .i64 p,aD L]] (.tup [.int .i64 0,.bool false]):=by
 have k1:eQ p (ag L.length fun i=>(L.getD i z0c).rvs)=false:=Cx;have k2:be p (ag L.length fun i=>(L.getD i z0c).rvs)=false:=(by rw[bn];exact hv2)
 refine pr (cE Ea) Tryz.func25 aC ?_
 refine lr [true,true] (let v1:=ag L.length fun i=>(L.getD i z0c).rvs;[rq (0:Int),false=false,aj (!be p v1) true,(lz L)∧L.length≤1000,aj (!eQ p v1) true,(lz L)∧L.length≤1000]) ⟨?_,?_,(dN k2),?_,(dN k1),(?_:(lz L)∧L.length≤1000)⟩
 all_goals first|(first|exact tz|exact pv)
theorem PS (p:Int)(L:LC)(hn:L.length≤1000):ar Tryz.prog [] 25 [.agg [.int .i64 p,aD L]] (.tup [.int .i64 (bO (dP p L) L),.bool (dP p L)]):=by
 cases h:dP p L with
 |true=>exact RN p L (Vo h) h
 |false=>
  unfold dP at h
  simp only[Bool.or_eq_false_iff]at h
  exact Uj p L hn h.1 h.2
theorem RO (L:LC)(hL:aL L):An 1 Tryz.f66 [0,1,0,1,1,1] (I6 L):=by
 refine cN c0 aC (u2 fun(k:Nat)(n:Int)=>(⟨[(4,vi n),(16,(aD L).av),(17,vi L.length),(18,vi k)],[],1030⟩:St)) (u2 fun(k:Nat)(n:Int)=>(L.length-k:Nat)) (u2 fun(k:Nat)(n:Int)=>(k≤L.length∧n=fY (fun j=>eD (at_ L j)) k:Prop)) ?_ ?_
 ·exact st (0,0) [rq (0:Int),lq L,rq (↑L.length:Int),(0:Int)=↑(0:Nat)] B6 (by exact⟨aY _,rfl⟩)
 ·rintro ⟨k,n⟩ hI
  obtain⟨hk,hs⟩:=hI
  have hk:k≤L.length:=hk
  have hs:n=fY (fun j=>eD (at_ L j)) k:=hs
  have hl:=hL.1
  have ek:=wk k
  have hb:=sK hL hk
  have hc:=Ae hL k
  have e1:w6.wrap (n+(L.getD k z0c).oddity)=n+(L.getD k z0c).oddity:=by simp only[at_]at hc;rw[hs];exact wo
  refine(let q1:List Prop→List Prop:=fun l0=>(w6.wrap (n+(L.getD k z0c).oddity)=n+eD (at_ L k))::(lq L)::rq (↑L.length:Int)::(w6.wrap ((↑k:Int)+1)=↑(k+1))::l0;oe (decide ((↑k:Int)<↑L.length)) (fun d1=>let y1:List Prop:=[(2:Int)≠(0:Int),(0:Int)≤↑k∧(↑k:Int)<↑L.length,ty d1];have u1:ao y1:=⟨?_,?_,d1⟩;oe ((L.getD k z0c).exp.tmod (2:Int)==1) (fun d2=>oe ((L.getD k z0c).sign==-1) (fun d3=>aq (tp 111) (k+1,n+eD (at_ L k)) ((w6.wrap (w6.wrap (n+(L.getD k z0c).oddity)+4)=n+eD (at_ L k))::(lq L)::rq (↑L.length:Int)::(w6.wrap ((↑k:Int)+1)=↑(k+1))::ty d3::ty d2::y1) ⟨?_,?_,?_,?_,d3,d2,u1⟩ ?_ ?_)
   (fun d3=>aq (tp 112) (k+1,n+eD (at_ L k)) (q1 (ty d3::ty d2::y1)) ⟨?_,?_,?_,?_,d3,d2,u1⟩ ?_ ?_))
   (fun d2=>aq [true,false] (k+1,n+eD (at_ L k)) (q1 (ty d2::y1)) ⟨?_,?_,?_,?_,d2,u1⟩ ?_ ?_))
   (fun d1=>br [false] [n=fY (fun j=>eD (at_ L j)) L.length,ty d1] ⟨?_,d1⟩))
  all_goals((try clear u1);(try clear y1))
  all_goals first|exact nV|exact Nb|exact cT|exact LD
theorem VX {p:Int}{L:List Con}(h:nS p L=true):aL L:=by
 unfold nS at h
 simp only[aX]at h
 have:=oX h.1
 subst this
 exact gn h.1
def eX (L:List Con)(k:Nat):Int:=fY (fun k=>(at_ L k).dim) k
def eY (L:List Con)(k:Nat):Int:=fY (fun k=>(at_ L k).dim*(at_ L k).exp) k
def gX (L:List Con):Int:=eX L L.length
def gY (L:List Con):Int:=eY L L.length
theorem vK {L:List Con}(h:aL L):∀k,k≤L.length→0≤eX L k∧eX L k≤1000*k
 |0,_=>by simp[eX,fY]
 |k+1,hk=>by
  obtain⟨h1,h2⟩:=vK h k om
  have:=(h.at (k:=k) om).2.1
  show 0≤eX L k+(at_ L k).dim∧eX L k+(at_ L k).dim≤_
  omega
theorem zS {a b:Int}(h1:1≤a∧a≤1000)(h2:0≤b∧b≤1000):0≤a*b∧a*b≤1000000:=by
 refine⟨Int.mul_nonneg om h2.1,?_⟩
 have:=Int.mul_le_mul h1.2 h2.2 h2.1 om
 omega
theorem vL {L:List Con}(h:aL L):∀k,k≤L.length→0≤eY L k∧eY L k≤1000000*k
 |0,_=>by simp[eY,fY]
 |k+1,hk=>by
  obtain⟨h1,h2⟩:=vL h k om
  have ha:=h.at (k:=k) om
  have:=zS ha.2.1 ha.1
  show 0≤eY L k+(at_ L k).dim*(at_ L k).exp∧eY L k+(at_ L k).dim*(at_ L k).exp≤_
  omega
def gq (l:QfSy.Loc):Bool:=bif decide (l.prime=2)then nS 2 l.list else cY l.prime l.list
def kQ (dim det:Int)(q:bB)(l:QfSy.Loc):Bool:=decide (l.prime=q.prime)&&(gq l&&(decide (gX l.list=dim)&&decide (((vv l.prime.toNat det.toNat).1:Int)=gY l.list)))
def iu (dim det:Int):List bB→List QfSy.Loc→Bool
 |[],_=>true
 |_::_,[]=>false
 |q::P,l::L=>kQ dim det q l&&iu dim det P L
def cA (g:af):Bool:=decide (1≤g.dim)&&decide (g.dim≤8)&&decide (1≤g.det)&&decide (g.det≤10000)&&(decide ((bz (2*g.det).toNat).length=g.locs.length)&&iu g.dim g.det (bz (2*g.det).toNat) g.locs)
theorem EM {l:QfSy.Loc}(h:gq l=true):aL l.list:=by
 unfold gq at h
 cases hp:decide (l.prime=2)with
 |true=>rw[hp]at h;exact VX h
 |false=>rw[hp]at h;exact vp h
theorem FF {l:QfSy.Loc}(h:gq l=true):2≤l.prime∧l.prime≤9973∧(l.prime=2∨l.prime.toNat%2≠0):=by
 unfold gq at h
 cases hp:decide (l.prime=2)with
 |true=>have:=dE hp;omega
 |false=>rw[hp]at h;have:=vS h;omega
theorem Dd {dim det:Int}{P:List bB}{L:List QfSy.Loc}{i:Nat}(hi:i<P.length)(hl:P.length=L.length):iu dim det (P.drop i) (L.drop i)=(kQ dim det (P.getD i bB.zero) (L.getD i QfSy.Loc.zero)&&iu dim det (P.drop (i+1)) (L.drop (i+1))):=by
 rw[kU hi,kU (by omega:i<L.length)]
 simp[iu,cj,hi,show i<L.length by omega]
theorem Pt {dim det:Int}{P:List bB}{L:List QfSy.Loc}{i:Nat}(hi:P.length≤i):iu dim det (P.drop i) (L.drop i)=true:=by
 rw[eL hi];rfl
def HW:List bV:=[
 ⟨10,[ci],fun A=>match A with
  |[.int .i64 n]=>some (.tup [aI .pow (bz n.toNat),.int .i64 0],[0<n∧n≤2147483647])
  |_=>none⟩,
 ⟨69,[],fun A=>match A with
  |[.agg [.int .i64 p,.sl n 5 row]]=>some (.bool (nS p (ag n row)),[(∀i,i<n→row i=(Con.ofR (row i)).rvs)∧n≤1000])
  |_=>none⟩,
 ⟨70,[ci],fun A=>match A with
  |[.agg [.int .i64 p,.sl n 5 row]]=>some (.bool (cY p (ag n row)),[(∀i,i<n→row i=(Con.ofR (row i)).rvs)∧n≤1000])
  |_=>none⟩,
 ⟨26,[],fun A=>match A with
  |[.int .i64 d,.int .i64 p]=>some (.tup [.int .i64 ((vv p.toNat d.toNat).1:Int),.int .i64 ((vv p.toNat d.toNat).2:Int)],[2≤p∧0<d∧d≤2147483647])
  |_=>none⟩]
theorem rW:∀e∈HW,ch Tryz.prog e:=by
 intro e he
 simp only[HW,bx,cC,cH]at he
 rcases he with rfl|rfl|rfl|rfl
 all_goals
  intro A R ms h hm
  simp only at h
  split at h
  all_goals first|exact fF|cases h
 ·obtain⟨h1,h2⟩:=ay hm
  rename_i n
  have:=Fo n.toNat om om
  rw[show((n.toNat:Nat):Int)=n by omega]at this
  exact this
 ·obtain⟨h1,h2⟩:=ay hm
  exact ar.imp (Og _ _ fR) (.cons (.agg (.cons .same (.cons (.con h1) .nil))) .nil)
 ·obtain⟨h1,h2⟩:=ay hm
  exact ar.imp (FX _ _ fR) (.cons (.agg (.cons .same (.cons (.con h1) .nil))) .nil)
 ·obtain⟨h1,h2,h3⟩:=ay hm
  rename_i d p
  have:=yg d.toNat p.toNat om om om
  rw[show((d.toNat:Nat):Int)=d by omega,show((p.toNat:Nat):Int)=p by omega]at this
  exact this
theorem abU {L:LC}(hL:aL L){k:Nat}(hk:k<L.length):w6.wrap (eX L k+(L.getD k z0c).dim)=eX L (k+1):=by
 have hl:=hL.1
 have hd:=vK hL k om
 have ha:=(hL.at hk).2.1
 show w6.wrap (eX L k+(at_ L k).dim)=eX L k+(at_ L k).dim
 exact wo
theorem abV {L:LC}(hL:aL L){k:Nat}(hk:k<L.length){e:Int}(he:0≤e∧e≤2147483647):w6.wrap (e-eY L k-w6.wrap ((L.getD k z0c).dim*(L.getD k z0c).exp))=e-eY L (k+1):=by
 have hl:=hL.1
 have hd:=vL hL k om
 have ha:=hL.at hk
 have hp:=zS ha.2.1 ha.1
 show w6.wrap (e-eY L k-w6.wrap ((at_ L k).dim*(at_ L k).exp))=e-(eY L k+(at_ L k).dim*(at_ L k).exp)
 generalize (at_ L k).dim*(at_ L k).exp=m at hp
 have e1:w6.wrap m=m:=wo
 rw[e1,wo]
 omega
def ua (g:af):List (Nat×ai):=(1000,⟨.plain (RV.avl g.rvs),32,0,false,true⟩)::jk
def ub (P:List bB)(i:AV):List (Nat×AV):=[(1,.ptr 1000 0),(44,(aI .pow P).av),(45,vi P.length),(46,i)]
def shI (P:List bB)(i:Nat)(e:Int)(L:LC)(s:AV)(k:AV)(m:Int):List (Nat×AV):=ub P (vi i)++[(8,vi (e-m)),(10,s),(88,(aD L).av),(89,vi L.length),(90,k)]
def Kx (g:af)(P:List bB)(i:Nat)(e:Int)(L:LC):aA:=⟨⟨ub P (vi i)++[(8,vi e),(10,.int .i64 0),(88,(aD L).av),(89,vi L.length),(90,.int .i64 0)],ua g,1100⟩,none,fun _=>(.exit 2,⟨ub P (vi i)++[(8,vi (e-gY L)),(10,vi (gX L))],ua g,1100⟩)⟩
theorem aao (g:af)(P:List bB)(u:Nat)(e:Int)(L:LC)(hL:aL L)(he:0≤e∧e≤2147483647):An 1 Tryz.f21 [0,1,0,1,1,1,1,1,1,0,0,1,1,0,0,1,0,1,1,1,1] (Kx g P u e L):=by
 refine cN c0 aC (fun(k:Nat)=>(⟨shI P u e L (vi (eX L k)) (vi k) (eY L k),ua g,1100⟩:St)) (fun(k:Nat)=>(L.length-k:Nat)) (fun(k:Nat)=>(k≤L.length:Prop)) ?_ ?_
 ·exact st (0) [sq aa.pow P,rq (↑P.length:Int),rq (↑u:Int),e=e-eY L (0:Nat),(0:Int)=eX L (0:Nat),lq L,rq (↑L.length:Int),(0:Int)=↑(0:Nat),g.dim=g.dim,g.det=g.det,sl g.locs] (by refine⟨?_,?_,?_,?_,?_,?_,?_,?_,?_,?_,(?_:sl g.locs)⟩<;>(first|exact tv|(show e=e-0;omega))) (by exact aY _)
 ·intro k hI
  have ht:k≤L.length:=hI
  have hl:=hL.1
  have hd:=vK hL k ht
  have hx:=vL hL k ht
  have ek:=wk k
  refine(let q1:List Prop→List Prop:=fun l0=>(sq aa.pow P)::rq (↑P.length:Int)::rq (↑u:Int)::l0;oe (decide ((↑k:Int)<↑L.length)) (fun d1=>aq [true] (k+1) (q1 (let v1:=L.getD k z0c;[w6.wrap (e-eY L k-w6.wrap (v1.dim*v1.exp))=e-eY L (k+1),w6.wrap (eX L k+v1.dim)=eX L (k+1),lq L,rq (↑L.length:Int),w6.wrap ((↑k:Int)+1)=↑(k+1),g.dim=g.dim,g.det=g.det,sl g.locs,(0:Int)≤↑k∧(↑k:Int)<↑L.length,ty d1])) ⟨?_,?_,?_,?_,?_,?_,?_,?_,?_,?_,?_,?_,d1⟩ ?_ ?_)
   (fun d1=>br [false] (q1 [e-eY L k=e-gY L,eX L k=gX L,g.dim=g.dim,g.det=g.det,sl g.locs,ty d1]) ⟨?_,?_,?_,?_,?_,?_,?_,?_,d1⟩))
  all_goals first|exact Mx|exact Nc|exact cT|(first|exact tz|exact ek|exact abU hL bY|exact abV hL bY he|(have hk:k=L.length:=eZ;subst hk;rfl)|exact rl)
def aP (g:af)(i:Nat):QfSy.Loc:=g.locs.getD i z0l
def ot (g:af)(i:Nat):Int:=((vv (aP g i).prime.toNat g.det.toNat).1:Int)
def iz (g:af)(i:Nat):LC:=bif gq (aP g i)then(aP g i).list else []
theorem Jr:∀(f p n:Nat),(vG f p n).1≤f
 |0,p,n=>aZ _
 |f+1,p,n=>by
  unfold vG
  cases Nat.beq (n%p) 0 with
  |true=>exact rA (Jr f p (n/p))
  |false=>exact aY _
theorem aap (g:af)(i:Nat):0≤ot g i∧ot g i≤2147483647:=by
 have:=Jr 40 (aP g i).prime.toNat g.det.toNat
 show 0≤((vG 40 (aP g i).prime.toNat g.det.toNat).1:Int)∧((vG 40 (aP g i).prime.toNat g.det.toNat).1:Int)≤_
 omega
theorem UT (g:af)(i:Nat):aL (iz g i):=by
 unfold iz
 cases h:gq (aP g i)with
 |true=>exact EM h
 |false=>exact⟨si,fun c hc=>by simp at hc⟩
theorem zI {g:af}{i:Nat}(h:gq (aP g i)=true):iz g i=(aP g i).list:=by unfold iz;rw[h];rfl
theorem Ky {l:QfSy.Loc}{b:Bool}(h:(l.prime==2)=true)(hd:nS l.prime (ag l.list.length fun i=>(l.list.getD i z0c).rvs)=b):gq l=b:=by
 have hp:l.prime=2:=eq_of_beq h
 unfold gq
 rw[show decide (l.prime=2)=true from bZ hp]
 rw[bn,hp]at hd
 exact hd
theorem Kz {l:QfSy.Loc}{b:Bool}(h:(l.prime==2)=false)(hd:cY l.prime (ag l.list.length fun i=>(l.list.getD i z0c).rvs)=b):gq l=b:=by
 have hp:l.prime≠2:=by intro e;rw[e]at h;cases h
 unfold gq
 rw[show decide (l.prime=2)=false from bu hp]
 rw[bn]at hd
 exact hd
theorem shB_t {dim det:Int}{q:bB}{l:QfSy.Loc}(h1:(l.prime==q.prime)=true)(h2:gq l=true)(h3:(gX l.list==dim)=true)(h4:(((vv l.prime.toNat det.toNat).1:Int)-gY l.list==0)=true):kQ dim det q l=true:=by
 unfold kQ
 rw[show decide (l.prime=q.prime)=true from bZ (eq_of_beq h1),h2,show decide (gX l.list=dim)=true from bZ (eq_of_beq h3),show decide (((vv l.prime.toNat det.toNat).1:Int)=gY l.list)=true from bZ (by have:=eq_of_beq h4;omega)]
 rfl
theorem aaq {dim det:Int}{q:bB}{l:QfSy.Loc}(h:kQ dim det q l=true):(l.prime==q.prime)=true∧gq l=true∧(gX l.list==dim)=true∧(((vv l.prime.toNat det.toNat).1:Int)-gY l.list==0)=true:=by
 unfold kQ at h
 simp only[aX,dT]at h
 obtain⟨h1,h2,h3,h4⟩:=h
 exact⟨by rw[h1];exact e9 _,h2,by rw[h3];exact e9 _,by rw[h4,Int.sub_self];rfl⟩
theorem sg {g:af}(hL:∀l∈g.locs,l.list.length≤1000)(j:Nat):(g.locs.getD j z0l).list.length≤1000:=by
 rw[cj]
 rcases bA j g.locs.length with h|h
 ·rw[eb h];exact hL _ (fp h)
 ·rw[gL h];exact aY _
def aar (g:af)(P:List bB):aA:=⟨⟨ub P (.int .i64 0),ua g,1020⟩,some (iu g.dim g.det P g.locs),fun d=>match d with
 |true=>(.exit 0,⟨[],[],1020⟩)
 |false=>(.ret,⟨[(2,.bool false)],[],1020⟩)⟩
theorem W2 (g:af)(P:List bB)(hP:P.length≤1000)(hlen:P.length=g.locs.length)(hL:∀l∈g.locs,l.list.length≤1000)(hdet:1≤g.det∧g.det≤10000):An 1 Tryz.f21 [0,1,0,1,1,1,1] (aar g P):=by
 refine jU (cE rW) (fun(j:Nat)=>(⟨ub P (vi j),ua g,1020⟩:St)) (fun(j:Nat)=>(P.length-j:Nat)) (fun(d:Bool)=>fun(j:Nat)=>(j≤P.length∧iu g.dim g.det (P.drop j) (g.locs.drop j)=iu g.dim g.det P g.locs∧iu g.dim g.det P g.locs=d:Prop)) (fun(j:Nat)=>([([0,1,0,1,1,1,1,1,1,0,0,1,1,0,0,1,0,1,1,1,1],Kx g P j (ot g j) (iz g j))]:List (List Nat×aA))) ?_ ?_ ?_
 ·rintro d hd j hI
  exact aW (aao g P j (ot g j) (iz g j) (UT g j) (aap g j))
 ·intro d hd
  exact st (0) [sq aa.pow P,rq (↑P.length:Int),(0:Int)=↑(0:Nat),g.dim=g.dim,g.det=g.det,sl g.locs] B5 (by exact⟨aY _,rfl,hd⟩)
 ·rintro d hd j hI
  obtain⟨ht,hf,hs⟩:=hI
  have ht:j≤P.length:=ht
  have hf:iu g.dim g.det (P.drop j) (g.locs.drop j)=iu g.dim g.det P g.locs:=hf
  have ek:=wk j
  refine(let q1:List Prop→List Prop:=fun l0=>(sq aa.pow P)::rq (↑P.length:Int)::(w6.wrap ((↑j:Int)+1)=↑(j+1))::(g.dim=g.dim)::(g.det=g.det)::(sl g.locs)::l0;oe (decide ((↑j:Int)<↑P.length)) (fun d1=>let y1:List Prop:=[(0:Int)≤↑j∧(↑j:Int)<↑g.locs.length,(0:Int)≤↑j∧(↑j:Int)<↑P.length,ty d1];have u1:ao y1:=⟨?_,?_,d1⟩;oe ((g.locs.getD j z0l).prime==(P.getD j aa.pow.zero).prime) (fun d2=>let y2:List Prop:=ty (dN d2)::y1;have u2:ao y2:=⟨(dN d2),u1⟩;oe ((g.locs.getD j z0l).prime==2) (fun d3=>let y3:List Prop:=(let v1:=g.locs.getD j z0l;((∀(i:Nat),i<v1.list.length→(fun i=>(v1.list.getD i z0c).rvs) i=(Con.ofR ((fun i=>(v1.list.getD i z0c).rvs) i)).rvs)∧v1.list.length≤1000)::ty d3::y2);have u3:ao y3:=⟨?_,d3,u2⟩;oe (nS (g.locs.getD j z0l).prime (ag (g.locs.getD j z0l).list.length fun i=>((g.locs.getD j z0l).list.getD i z0c).rvs)) (fun d4=>let y4:List Prop:=(let v1:=g.locs.getD j z0l;(sq aa.pow P)::rq (↑P.length:Int)::rq (↑j:Int)::((↑(vv v1.prime.toNat g.det.toNat).fst:Int)=ot g j)::(v1.list.length=(iz g j).length∧(fun i=>(v1.list.getD i z0c).rvs)=fun i=>((iz g j).getD i z0c).rvs)::((↑v1.list.length:Int)=(↑(iz g j).length:Int))::(g.dim=g.dim)::(g.det=g.det)::(sl g.locs)::((2:Int)≤v1.prime∧(0:Int)<g.det∧g.det≤2147483647)::ty (dN d3)::ty (dN d4)::y3);have u4:ao y4:=⟨?_,?_,?_,?_,?_,?_,?_,?_,?_,?_,(dN d3),(dN d4),u3⟩;oe (gX (iz g j)==g.dim) (fun d5=>oe (ot g j-gY (iz g j)==0) (fun d6=>aq (tp 1212222) (j+1) (q1 (ty (dN d6)::ty (dN d5)::y4)) ⟨?_,?_,?_,?_,?_,?_,(dN d6),(dN d5),u4⟩ ?_ ?_)
   (fun d6=>aG d false (tp 1212221) (ty (dN d6)::ty (dN d5)::y4) ⟨(dN d6),(dN d5),u4⟩ ?_))
   (fun d5=>aG d false (tp 121221) (ty (dN d5)::y4) ⟨(dN d5),u4⟩ ?_))
   (fun d4=>aG d false (tp 1211) (ty (dN d4)::y3) ⟨(dN d4),u3⟩ ?_))
   (fun d3=>let y3:List Prop:=(let v1:=g.locs.getD j z0l;((∀(i:Nat),i<v1.list.length→(fun i=>(v1.list.getD i z0c).rvs) i=(Con.ofR ((fun i=>(v1.list.getD i z0c).rvs) i)).rvs)∧v1.list.length≤1000)::ty (dN d3)::ty d3::y2);have u3:ao y3:=⟨?_,(dN d3),d3,u2⟩;oe (cY (g.locs.getD j z0l).prime (ag (g.locs.getD j z0l).list.length fun i=>((g.locs.getD j z0l).list.getD i z0c).rvs)) (fun d4=>let y4:List Prop:=(let v1:=g.locs.getD j z0l;(sq aa.pow P)::rq (↑P.length:Int)::rq (↑j:Int)::((↑(vv v1.prime.toNat g.det.toNat).fst:Int)=ot g j)::(v1.list.length=(iz g j).length∧(fun i=>(v1.list.getD i z0c).rvs)=fun i=>((iz g j).getD i z0c).rvs)::((↑v1.list.length:Int)=(↑(iz g j).length:Int))::(g.dim=g.dim)::(g.det=g.det)::(sl g.locs)::((2:Int)≤v1.prime∧(0:Int)<g.det∧g.det≤2147483647)::ty (dN d4)::y3);have u4:ao y4:=⟨?_,?_,?_,?_,?_,?_,?_,?_,?_,?_,(dN d4),u3⟩;oe (gX (iz g j)==g.dim) (fun d5=>oe (ot g j-gY (iz g j)==0) (fun d6=>aq (tp 1221222) (j+1) (q1 (ty (dN d6)::ty (dN d5)::y4)) ⟨?_,?_,?_,?_,?_,?_,(dN d6),(dN d5),u4⟩ ?_ ?_)
   (fun d6=>aG d false (tp 1221221) (ty (dN d6)::ty (dN d5)::y4) ⟨(dN d6),(dN d5),u4⟩ ?_))
   (fun d5=>aG d false (tp 122121) (ty (dN d5)::y4) ⟨(dN d5),u4⟩ ?_))
   (fun d4=>aG d false (tp 12211) (ty (dN d4)::y3) ⟨(dN d4),u3⟩ ?_)))
   (fun d2=>aG d false [true,true] (ty (dN d2)::y1) ⟨(dN d2),u1⟩ ?_))
   (fun d1=>aG d true [false] [ty d1] d1 ?_))
  all_goals first|exact Mw|(refine bD.mk ?_;(have hj:j<P.length:=bY;have hk:gq (aP g j)=true:=M8;have hK:=zI hk;rw[hK]at d5;rw[hK]at d6;exact⟨hj,by rw[←hf,Dd hj hlen,(shB_t d2 hk d5 d6:kQ g.dim g.det (P.getD j bB.zero) (g.locs.getD j z0l)=true),jZ],hs⟩))|(refine dq.mk ?_;cases d<;>first|rfl|(exfalso;(first|(have h9:=hf.trans hs;rw[Pt eZ]at h9;cases h9;done)|(have hj:j<P.length:=bY;have h9:=hf.trans hs;rw[Dd hj hlen]at h9;obtain⟨b1,b2,b3,b4⟩:=aaq (bq h9).1;have hK:iz g j=(aP g j).list:=zI b2;first|exact Bool.noConfusion (b1.symm.trans d2)|exact Bool.noConfusion (b2.symm.trans (Ky d3 d4))|exact Bool.noConfusion (b2.symm.trans (Kz d3 d4))|(rw[hK]at d5;exact Bool.noConfusion (b3.symm.trans d5))|(rw[hK]at d6;exact Bool.noConfusion (b4.symm.trans d6))))))|(first|exact tz|exact ek|exact rfl|exact⟨om,by have:=oT d1;omega⟩|exact CD|(have hk:gq (aP g j)=true:=M8;have hK:=zI hk;first|(rw[hK];done)|(rw[hK];exact⟨rfl,rfl⟩)|(rw[hK];rfl)|(have:=FF hk;exact⟨this.1,om,om⟩)|exact(5:Nat)))
theorem mo (g:af):cA g=true↔(1≤g.dim∧g.dim≤8∧1≤g.det∧g.det≤10000∧(bz (2*g.det).toNat).length=g.locs.length∧iu g.dim g.det (bz (2*g.det).toNat) g.locs=true):=by
 unfold cA
 simp only[aX,dT,and_assoc]
theorem Js {g:af}(h:¬(1≤g.dim∧g.dim≤8∧1≤g.det∧g.det≤10000∧(bz (2*g.det).toNat).length=g.locs.length∧iu g.dim g.det (bz (2*g.det).toNat) g.locs=true)):false=cA g:=by
 cases hb:cA g with
 |false=>rfl
 |true=>exact absurd ((mo g).1 hb) h
theorem wM {a b:Nat}{c:Bool}(h:((a:Int)==(b:Int))=c):decide (a=b)=c:=by
 subst h
 rcases Nat.decEq a b with e|e
 ·rw[bu e]
  cases hb:((a:Int)==(b:Int))with
  |false=>rfl
  |true=>have:=eq_of_beq hb;omega
 ·subst e;rw[e9];exact bZ rfl
theorem abW (g:af)(hn:g.locs.length≤1000)(hL:∀l∈g.locs,l.list.length≤1000)(hdet:1≤g.det∧g.det≤10000)(hlen:(bz (2*g.det).toNat).length=g.locs.length):ar Tryz.prog [ci] 21 [.agg g.rvs] (.bool (cA g)):=by
 have ew:w6.wrap (2*g.det)=2*g.det:=wo
 refine pr (cE rW) Tryz.func21 (aW (W2 g (bz (2*g.det).toNat) om hlen hL hdet)) ?_
 refine oe (decide (g.dim<1)) (fun d1=>lr [true] [false=cA g,ty d1] ?_)
  (fun d1=>oe (decide (g.dim>8)) (fun d2=>lr [false,true] [false=cA g,ty d2,ty d1] ?_)
  (fun d2=>let y1:List Prop:=[ty d2,ty d1];have u1:ao y1:=⟨d2,d1⟩;oe (decide (g.det<1)) (fun d3=>lr (tp 221) ((false=cA g)::ty d3::y1) ?_)
  (fun d3=>oe (decide (g.det>10000)) (fun d4=>lr (tp 2221) ((false=cA g)::ty d4::ty d3::y1) ?_)
  (fun d4=>let y2:List Prop:=((0:Int)<w6.wrap ((2:Int)*g.det)∧w6.wrap ((2:Int)*g.det)≤2147483647)::ty d4::ty d3::y1;have u2:ao y2:=⟨?_,d4,d3,u1⟩;oe ((↑(bz (w6.wrap ((2:Int)*g.det)).toNat).length:Int)==↑g.locs.length) (fun d5=>oe (iu g.dim g.det (bz ((2:Int)*g.det).toNat) g.locs) (fun d6=>lr (tp 222221) (let v1:=bz (w6.wrap ((2:Int)*g.det)).toNat;let v2:=bz ((2:Int)*g.det).toNat;(true=cA g)::(v1.length=v2.length∧(fun i=>aa.pow.rvs (v1.getD i aa.pow.zero))=fun i=>aa.pow.rvs (v2.getD i aa.pow.zero))::((↑v1.length:Int)=↑v2.length)::(g.dim=g.dim)::(g.det=g.det)::(sl g.locs)::ty d6::ty (dN d5)::y2) ?_)
  (fun d6=>lr (tp 222222) (let v1:=bz (w6.wrap ((2:Int)*g.det)).toNat;let v2:=bz ((2:Int)*g.det).toNat;(false=cA g)::(v1.length=v2.length∧(fun i=>aa.pow.rvs (v1.getD i aa.pow.zero))=fun i=>aa.pow.rvs (v2.getD i aa.pow.zero))::((↑v1.length:Int)=↑v2.length)::(g.dim=g.dim)::(g.det=g.det)::(sl g.locs)::ty d6::ty (dN d5)::y2) ?_))
  (fun d5=>lr (tp 22221) ((false=cA g)::ty (dN d5)::y2) ?_)))))
 all_goals with_reducible repeat' first|exact dA|refine bk ?_ ?_|refine bm ?_
 all_goals first|(first|exact tz|(rw[ew];done)|(rw[ew];first|rfl|exact⟨rfl,rfl⟩|omega)|(refine Js ?_;rintro⟨a1,a2,a3,a4,a5,a6⟩;first|exact rl|(have:=oT d2;omega)|(have:=oT d3;omega)|(have:=oT d4;omega)|(rw[ew]at d5;have:=oF (wM d5);omega)|(rw[a6]at d6;cases d6))|(refine((mo g).2 ?_).symm;have e1:=oF d1;have e2:=oF d2;exact⟨om,om,hdet.1,hdet.2,hlen,d6⟩))
theorem abX (g:af)(hdet:1≤g.det∧g.det≤10000)(hne:(bz (2*g.det).toNat).length≠g.locs.length):ar Tryz.prog [ci] 21 [.agg g.rvs] (.bool (cA g)):=by
 have ew:w6.wrap (2*g.det)=2*g.det:=wo
 have hz:((((bz (w6.wrap ((2:Int)*g.det)).toNat).length:Nat):Int)==((g.locs.length:Nat):Int))=false:=(by rw[ew];cases hb:((((bz (2*g.det).toNat).length:Nat):Int)==((g.locs.length:Nat):Int))with
  |false=>rfl
  |true=>have:=oT (wM hb);exact absurd this hne)
 refine pr (cE rW) Tryz.func21 aC ?_
 refine oe (decide (g.dim<1)) (fun d1=>lr [true] [false=cA g,ty d1] ⟨?_,d1⟩)
  (fun d1=>oe (decide (g.dim>8)) (fun d2=>lr [false,true] [false=cA g,ty d2,ty d1] ⟨?_,d2,d1⟩)
  (fun d2=>oe (decide (g.det<1)) (fun d3=>lr (tp 221) [false=cA g,ty d3,ty d2,ty d1] ⟨?_,d3,d2,d1⟩)
  (fun d3=>oe (decide (g.det>10000)) (fun d4=>lr (tp 2221) [false=cA g,ty d4,ty d3,ty d2,ty d1] ⟨?_,d4,d3,d2,d1⟩)
  (fun d4=>lr (tp 22221) (let v1:=(2:Int)*g.det;[false=cA g,aj ((↑(bz (w6.wrap v1).toNat).length:Int)!=(↑g.locs.length:Int)) true,(0:Int)<w6.wrap v1∧w6.wrap v1≤2147483647,ty d4,ty d3,ty d2,ty d1]) ⟨?_,(dN hz),?_,d4,d3,d2,d1⟩))))
 all_goals first|exact BV
theorem abY (g:af)(hdet:g.det<1):ar Tryz.prog [ci] 21 [.agg g.rvs] (.bool (cA g)):=by
 have ew:=hdet
 have hz:decide (g.det<1)=true:=bZ hdet
 refine pr (cE rW) Tryz.func21 aC ?_
 refine oe (decide (g.dim<1)) (fun d1=>lr [true] [false=cA g,ty d1] ⟨?_,d1⟩)
  (fun d1=>oe (decide (g.dim>8)) (fun d2=>lr [false,true] [false=cA g,ty d2,ty d1] ⟨?_,d2,d1⟩)
  (fun d2=>lr (tp 221) [false=cA g,aj (decide (g.det<1)) true,ty d2,ty d1] ⟨?_,hz,d2,d1⟩))
 all_goals first|exact BV
theorem abZ (g:af)(hdet:10000<g.det):ar Tryz.prog [ci] 21 [.agg g.rvs] (.bool (cA g)):=by
 have ew:=hdet
 have hy:decide (g.det<1)=false:=bu om
 have hz:decide (g.det>10000)=true:=bZ hdet
 refine pr (cE rW) Tryz.func21 aC ?_
 refine oe (decide (g.dim<1)) (fun d1=>lr [true] [false=cA g,ty d1] ⟨?_,d1⟩)
  (fun d1=>oe (decide (g.dim>8)) (fun d2=>lr [false,true] [false=cA g,ty d2,ty d1] ⟨?_,d2,d1⟩)
  (fun d2=>lr (tp 2221) [false=cA g,aj (decide (g.det>10000)) true,aj (decide (g.det<1)) false,ty d2,ty d1] ⟨?_,hz,hy,d2,d1⟩))
 all_goals first|exact BV
theorem OC (g:af)(hn:g.locs.length≤1000)(hL:∀l∈g.locs,l.list.length≤1000):ar Tryz.prog [ci] 21 [.agg g.rvs] (.bool (cA g)):=by
 rcases Decidable.em (g.det<1)with h1|h1
 ·exact abY g h1
 rcases Decidable.em (10000<g.det)with h2|h2
 ·exact abZ g h2
 rcases Nat.decEq (bz (2*g.det).toNat).length g.locs.length with h3|h3
 ·exact abX g om h3
 ·exact abW g hn hL om h3
def dW (q:Int):Nat→Int
 |0=>1
 |j+1=>(dW q j*q)%8
def or (p:Int)(c:Con):Int:=c.dim*(dW (p%8) c.exp.toNat-1)+(bif decide (c.exp%2=1)&&decide (c.sign=-1)then 4 else 0)
def eM (p:Int)(L:LC):Nat→Int
 |0=>0
 |k+1=>eM p L k+or p (at_ L k)
def k8 (l:QfSy.Loc):Int:=eM l.prime l.list l.list.length%8
theorem wj {q:Int}(hq:0≤q)(ho:q%2=1):∀j,1≤dW q j∧dW q j≤7∧dW q j%2=1
 |0=>by simp[dW]
 |j+1=>by
  obtain⟨h1,h2,h3⟩:=wj hq ho j
  have:(dW q j*q)%2=1:=by rw[Int.mul_emod,h3,ho];rfl
  unfold dW
  omega
def HU:List bV:=[
 ⟨70,[ci],fun A=>match A with
  |[.agg [.int .i64 p,.sl n 5 row]]=>some (.bool (cY p (ag n row)),[(∀i,i<n→row i=(Con.ofR (row i)).rvs)∧n≤1000])
  |_=>none⟩]
theorem Qa:∀e∈HU,ch Tryz.prog e:=by
 intro e he
 simp only[HU,bx,cC,cH]at he
 subst he
 intro A R ms h hm
 simp only at h
 split at h
 ·cases h
  obtain⟨h1,h2⟩:=ay hm
  exact ar.imp (FX _ _ fR) (.cons (.agg (.cons .same (.cons (.con h1) .nil))) .nil)
 ·cases h
def rJ (p:Int)(L:LC):List (Nat×ai):=(1000,⟨.plain [vi p,(aD L).av],45,0,false,true⟩)::jk
def xU (L:LC)(e k:AV):List (Nat×AV):=[(1,.ptr 1000 0),(4,e),(12,(aD L).av),(13,vi L.length),(14,k)]
def CT (c:Con):Nat×ai:=(1010,⟨.plain (RV.avl c.rvs),53,0,false,true⟩)
def NL (L:LC)(e:Int)(k:Nat)(c:Con)(w j:AV):List (Nat×AV):=xU L (vi e) (vi k)++[(6,.ptr 1010 0),(7,w),(19,vi c.exp),(20,j)]
def Kt (p:Int)(L:LC)(e:Int)(k:Nat)(c:Con):aA:=⟨⟨NL L e k c (.int .i64 1) (.int .i64 0),rJ p L++[CT c],1101⟩,none,fun _=>(.exit 2,⟨xU L (vi e) (vi k)++[(6,.ptr 1010 0),(7,vi (dW (p%8) c.exp.toNat))],rJ p L++[CT c],1101⟩)⟩
theorem abS {p:Int}(hp:2<p)(ho:p.toNat%2≠0)(j:Nat):(w6.wrap (dW (p%8) j*p.tmod 8)).tmod 8=dW (p%8) (j+1):=by
 have h:=wj (q:=p%8) om om j
 rw[gh (a:=p) om]
 have h2:0≤dW (p%8) j*(p%8)∧dW (p%8) j*(p%8)≤49:=by
  refine⟨Int.mul_nonneg om om,?_⟩
  have:=Int.mul_le_mul (a:=dW (p%8) j) (b:=p%8) (c:=7) (d:=7) om om om om
  omega
 show _=(dW (p%8) j*(p%8))%8
 generalize dW (p%8) j*(p%8)=m at h2
 rw[wo,gh om]
theorem aag (p:Int)(L:LC)(e:Int)(k:Nat)(c:Con)(hp:2<p∧p≤9973∧p.toNat%2≠0)(hc:0≤c.exp∧c.exp≤1000):An 1 Tryz.f24 [0,1,0,1,1,0,0,1,1,0,0,1,0,1,1,1] (Kt p L e k c):=by
 refine cN c0 aC (fun(j:Nat)=>(⟨NL L e k c (vi (dW (p%8) j)) (vi j),rJ p L++[CT c],1101⟩:St)) (fun(j:Nat)=>(c.exp.toNat-j:Nat)) (fun(j:Nat)=>(j≤c.exp.toNat:Prop)) ?_ ?_
 ·exact st (0) [e=e,lq L,rq (↑L.length:Int),rq (↑k:Int),(1:Int)=dW (p%(8:Int)) (0:Nat),c.exp=c.exp,(0:Int)=↑(0:Nat),p=p,lq L,c.exp=c.exp,c.dim=c.dim,rq c.sign,c.odd=c.odd,rq c.oddity] (by refine⟨?_,?_,?_,?_,?_,?_,?_,?_,?_,?_,?_,?_,?_,(?_:c.oddity=c.oddity)⟩<;>(first|exact tz|rfl)) (by exact aY _)
 ·intro j hI
  have ht:j≤c.exp.toNat:=hI
  have he:=hc
  have ek:=wk j
  refine(let q1:List Prop→List Prop:=fun l0=>(e=e)::(lq L)::rq (↑L.length:Int)::rq (↑k:Int)::l0;oe (decide ((↑j:Int)<c.exp)) (fun d1=>aq [true] (j+1) (q1 [(w6.wrap (dW (p%(8:Int)) j*p.tmod (8:Int))).tmod (8:Int)=dW (p%(8:Int)) (j+1),c.exp=c.exp,w6.wrap ((↑j:Int)+1)=↑(j+1),p=p,lq L,c.exp=c.exp,c.dim=c.dim,rq c.sign,c.odd=c.odd,rq c.oddity,(8:Int)≠(0:Int),(8:Int)≠(0:Int),ty d1]) ?_ ?_ ?_)
   (fun d1=>br [false] (q1 [dW (p%(8:Int)) j=dW (p%(8:Int)) c.exp.toNat,p=p,lq L,c.exp=c.exp,c.dim=c.dim,rq c.sign,c.odd=c.odd,rq c.oddity,ty d1]) ?_))
  all_goals with_reducible repeat' first|exact dA|refine bk ?_ ?_|refine bm ?_
  all_goals first|(refine cy.mk ?_;(have hk:=oT d1;show c.exp.toNat-(j+1)<c.exp.toNat-j;omega))|(refine bD.mk ?_;(have hk:=oT d1;show j+1≤c.exp.toNat;omega))|exact cT|(first|exact tz|exact ek|exact abS hp.1 hp.2.2 j|(have hk:j=c.exp.toNat:=eZ;subst hk;rfl)|exact rl|exact(5:Nat))
def aah (p:Int)(L:LC):aA:=⟨⟨xU L (.int .i64 0) (.int .i64 0),rJ p L,1010⟩,none,fun _=>(.exit 0,⟨[(4,vi (eM p L L.length))],rJ p L,1010⟩)⟩
theorem A7 {p:Int}(hp:2<p)(ho:p.toNat%2≠0){c:Con}(hc:jy c):0≤c.dim*(dW (p%8) c.exp.toNat-1)∧c.dim*(dW (p%8) c.exp.toNat-1)≤6000:=by
 have h:=wj (q:=p%8) om om c.exp.toNat
 have hd:=hc.2.1
 refine⟨Int.mul_nonneg om om,?_⟩
 have:=Int.mul_le_mul (a:=c.dim) (b:=dW (p%8) c.exp.toNat-1) (c:=1000) (d:=6) om om om om
 omega
theorem wq {p:Int}(hp:2<p)(ho:p.toNat%2≠0){L:LC}(hL:aL L):∀k,k≤L.length→0≤eM p L k∧eM p L k≤6004*k
 |0,_=>by simp[eM]
 |k+1,hk=>by
  obtain⟨h1,h2⟩:=wq hp ho hL k om
  have h3:=A7 hp ho (hL.at (k:=k) om)
  show 0≤eM p L k+or p (at_ L k)∧eM p L k+or p (at_ L k)≤_
  unfold or
  cases decide ((at_ L k).exp%2=1)&&decide ((at_ L k).sign=-1)with
  |true=>simp only[aM];omega
  |false=>simp only[bg];omega
theorem Am {L:LC}(hL:aL L)(k:Nat):0≤(at_ L k).exp∧(at_ L k).exp≤1000:=by
 rcases bA k L.length with h|h
 ·exact(hL.at h).1
 ·have:at_ L k=Con.zero:=by simp[at_,h]
  rw[this];decide
theorem Ku {p:Int}(hp:2<p)(ho:p.toNat%2≠0){L:LC}(hL:aL L){k:Nat}(hk:k<L.length):w6.wrap (eM p L k+w6.wrap ((at_ L k).dim*w6.wrap (dW (p%8) (at_ L k).exp.toNat-1)))=eM p L k+(at_ L k).dim*(dW (p%8) (at_ L k).exp.toNat-1):=by
 have hl:=hL.1
 have h1:=wq hp ho hL k om
 have h2:=A7 hp ho (hL.at hk)
 have h3:=wj (q:=p%8) om om (at_ L k).exp.toNat
 rw[kP (n:=dW (p%8) (at_ L k).exp.toNat-1) om om]
 generalize (at_ L k).dim*(dW (p%8) (at_ L k).exp.toNat-1)=m at h2
 rw[kP (n:=m) om om]
 exact wo
theorem abT {p:Int}(hp:2<p)(ho:p.toNat%2≠0){L:LC}(hL:aL L){k:Nat}(hk:k<L.length)(h4:((at_ L k).exp.tmod 2==1)=true)(h5:((at_ L k).sign==-1)=true):w6.wrap (w6.wrap (eM p L k+w6.wrap ((at_ L k).dim*w6.wrap (dW (p%8) (at_ L k).exp.toNat-1)))+4)=eM p L (k+1):=by
 have hl:=hL.1
 have h1:=wq hp ho hL k om
 have h2:=A7 hp ho (hL.at hk)
 have he:=(Am hL k).1
 rw[Ku hp ho hL hk]
 show _=eM p L k+or p (at_ L k)
 unfold or
 have e1:=eq_of_beq h4
 rw[gh he]at e1
 rw[show decide ((at_ L k).exp%2=1)=true from bZ e1,show decide ((at_ L k).sign=-1)=true from bZ (eq_of_beq h5)]
 simp only[Bool.and_self,aM]
 rw[wo]
 omega
theorem Kv {p:Int}(hp:2<p)(ho:p.toNat%2≠0){L:LC}(hL:aL L){k:Nat}(hk:k<L.length)(h4:((at_ L k).exp.tmod 2==1)=false∨((at_ L k).sign==-1)=false):w6.wrap (eM p L k+w6.wrap ((at_ L k).dim*w6.wrap (dW (p%8) (at_ L k).exp.toNat-1)))=eM p L (k+1):=by
 have he:=(Am hL k).1
 rw[Ku hp ho hL hk]
 show _=eM p L k+or p (at_ L k)
 unfold or
 rcases h4 with h|h
 ·rw[gh he]at h
  rw[show decide ((at_ L k).exp%2=1)=false from bu (bJ.1 h),Bool.false_and,bg];omega
 ·rw[show decide ((at_ L k).sign=-1)=false from bu (bJ.1 h),l3,bg];omega
theorem W0 (p:Int)(L:LC)(hv:cY p L=true):An 1 Tryz.f24 [0,1,0,1,1,1] (aah p L):=by
 have hp:=vS hv
 have hL:=vp hv
 refine mL c0 (fun(k:Nat)=>(⟨xU L (vi (eM p L k)) (vi k),rJ p L,1010⟩:St)) (fun(k:Nat)=>(L.length-k:Nat)) (fun(k:Nat)=>(k≤L.length:Prop)) (fun(k:Nat)=>([([0,1,0,1,1,0,0,1,1,0,0,1,0,1,1,1],Kt p L (eM p L k) k (at_ L k))]:List (List Nat×aA))) ?_ ?_ ?_
 ·intro k hI
  exact aW (aag p L (eM p L k) k (at_ L k) hp (Am hL k))
 ·exact st (0) [(0:Int)=eM p L (0:Nat),lq L,rq (↑L.length:Int),(0:Int)=↑(0:Nat),p=p,lq L] (by refine⟨?_,?_,?_,?_,?_,(?_:lq L)⟩<;>(first|exact tz|rfl)) (by exact aY _)
 ·intro k hI
  have ht:k≤L.length:=hI
  have hl:=hL.1
  have ek:=wk k
  refine(let q1:List Prop→List Prop:=fun l0=>(w6.wrap (eM p L k+w6.wrap ((at_ L k).dim*w6.wrap (dW (p%(8:Int)) (at_ L k).exp.toNat-1)))=eM p L (k+1))::(lq L)::rq (↑L.length:Int)::(w6.wrap ((↑k:Int)+1)=↑(k+1))::(p=p)::(lq L)::l0;oe (decide ((↑k:Int)<↑L.length)) (fun d1=>let y1:List Prop:=(let v1:=L.getD k Con.zero;[(2:Int)≠(0:Int),rq (eM p L k),lq L,rq (↑L.length:Int),rq (↑k:Int),v1.exp=(at_ L k).exp,p=p,lq L,v1.exp=(at_ L k).exp,v1.dim=(at_ L k).dim,v1.sign=(at_ L k).sign,v1.odd=(at_ L k).odd,v1.oddity=(at_ L k).oddity,(0:Int)≤↑k∧(↑k:Int)<↑L.length,ty d1]);have u1:ao y1:=⟨?_,?_,?_,?_,?_,?_,?_,?_,?_,?_,?_,?_,?_,?_,d1⟩;oe ((at_ L k).exp.tmod (2:Int)==1) (fun d2=>oe ((at_ L k).sign==-1) (fun d3=>aq (tp 111) (k+1) ((w6.wrap (w6.wrap (eM p L k+w6.wrap ((at_ L k).dim*w6.wrap (dW (p%(8:Int)) (at_ L k).exp.toNat-1)))+4)=eM p L (k+1))::(lq L)::rq (↑L.length:Int)::(w6.wrap ((↑k:Int)+1)=↑(k+1))::(p=p)::(lq L)::ty d3::ty d2::y1) ?_ ?_ ?_)
   (fun d3=>aq (tp 112) (k+1) (q1 (ty d3::ty d2::y1)) ?_ ?_ ?_))
   (fun d2=>aq [true,false] (k+1) (q1 (ty d2::y1)) ?_ ?_ ?_))
   (fun d1=>br [false] [eM p L k=eM p L L.length,p=p,lq L,ty d1] ?_))
  all_goals with_reducible repeat' first|exact dA|refine bk ?_ ?_|refine bm ?_
  all_goals((try clear u1);(try clear y1))
  all_goals first|exact Mx|exact Nc|exact cT|(first|exact tz|exact ek|(have hk:k=L.length:=eZ;subst hk;rfl)|(have hk:k<L.length:=bY;first|omega|exact abT hp.1 hp.2.2 hL hk d2 d3|exact Kv hp.1 hp.2.2 hL hk (.inr d3)|exact Kv hp.1 hp.2.2 hL hk (.inl d2))|exact(5:Nat))
theorem OB (p:Int)(L:LC)(hn:L.length≤1000)(hv:cY p L=true):ar Tryz.prog [ci] 24 [.agg [.int .i64 p,aD L]] (.tup [.int .i64 (k8 ⟨p,L⟩),.int .i64 0]):=by
 have hz:cY p (ag L.length fun i=>(L.getD i Con.zero).rvs)=true:=by rw[bn];exact hv
 refine pr (cE Qa) Tryz.func24 (aW (W0 p L hv)) ?_
 refine lr [false] [(eM p L L.length).tmod (8:Int)=k8 (Loc.mk p L),rq (0:Int),(8:Int)≠(0:Int),lq L,rq (↑L.length:Int),p=p,lq L,aj (!cY p (ag L.length fun i=>(L.getD i Con.zero).rvs)) false,(lz L)∧L.length≤1000] ⟨?_,?_,?_,?_,?_,?_,?_,(dN hz),(?_:(lz L)∧L.length≤1000)⟩
 all_goals first|(first|exact tz|decide|exact kt|(have hp:=vS hv;have hb:=wq hp.1 hp.2.2 (vp hv) L.length (aZ _);exact gh hb.1))
theorem fN.vals (τ:aa){n:Nat}{row:Nat→List RV}(h:∀i,i<n→row i=τ.rvs (τ.of (row i))):fN (.sl n τ.sz row) (aI τ (cm τ n row)):=fun F V k=>Gk h k
def HO:List bV:=[
 ⟨21,[ci],fun A=>match A with
  |[.agg [.int .i64 a,.int .i64 b,.sl n 2 row]]=>some (.bool (cA ⟨a,b,bb n row⟩),[(∀i,i<n→row i=aa.loc.rvs (aa.loc.of (row i)))∧n≤1000∧∀l∈bb n row,l.list.length≤1000])
  |_=>none⟩,
 ⟨22,[],fun A=>match A with
  |[.int .i64 d,.int .i64 p]=>some (.int .i64 (iP d.toNat p.toNat),[0<d∧d≤2147483647∧2≤p∧p≤2147483647∧(p=2∨p.toNat%2≠0)])
  |_=>none⟩,
 ⟨23,[],fun A=>match A with
  |[.agg [.int .i64 p,.sl n 5 row]]=>some (.tup [.agg [.int .i64 (bP (dJ p (ag n row))),aD (bL (dJ p (ag n row)) (lO (ag n row)))],.bool (dJ p (ag n row))],[(∀i,i<n→row i=(Con.ofR (row i)).rvs)∧n≤1000])
  |_=>none⟩,
 ⟨24,[ci],fun A=>match A with
  |[.agg [.int .i64 p,.sl n 5 row]]=>some (.tup [.int .i64 (k8 ⟨p,ag n row⟩),.int .i64 0],[(∀i,i<n→row i=(Con.ofR (row i)).rvs)∧n≤1000∧cY p (ag n row)=true])
  |_=>none⟩,
 ⟨25,[],fun A=>match A with
  |[.agg [.int .i64 p,.sl n 5 row]]=>some (.tup [.int .i64 (bO (dP p (ag n row)) (ag n row)),.bool (dP p (ag n row))],[(∀i,i<n→row i=(Con.ofR (row i)).rvs)∧n≤1000])
  |_=>none⟩]
theorem uy:∀e∈HO,ch Tryz.prog e:=by
 intro e he
 simp only[HO,bx,cC,cH]at he
 rcases he with rfl|rfl|rfl|rfl|rfl
 all_goals
  intro A R ms h hm
  simp only at h
  split at h
  all_goals first|exact fF|cases h
 ·obtain⟨h1,h2,h3⟩:=ay hm
  exact ar.imp (OC ⟨_,_,bb _ _⟩ xB h3) (.cons (.agg (.cons .same (.cons .same (.cons (fN.vals .loc h1) .nil)))) .nil)
 ·rename_i d p
  obtain⟨h0,hb,hp,hq,ho⟩:=hm _ cZ
  have ed:((d.toNat:Nat):Int)=d:=by omega
  have ep:((p.toNat:Nat):Int)=p:=by omega
  by_cases h2:p=2
  ·subst h2
   have:=G3 d.toNat om om
   rw[ed]at this
   exact this
  ·have:=G4 d.toNat p.toNat om om om om om
   rw[ed,ep]at this
   exact this
 ·obtain⟨h1,h2⟩:=ay hm
  exact ar.imp (DO _ _ fR) (.cons (.agg (.cons .same (.cons (.con h1) .nil))) .nil)
 ·obtain⟨h1,h2,h3⟩:=ay hm
  exact ar.imp (OB _ _ fR h3) (.cons (.agg (.cons .same (.cons (.con h1) .nil))) .nil)
 ·obtain⟨h1,h2⟩:=ay hm
  exact ar.imp (PS _ _ fR) (.cons (.agg (.cons .same (.cons (.con h1) .nil))) .nil)
theorem ia (g:af):(⟨g.dim,g.det,bb g.locs.length (fun i=>(g.locs.getD i z0l).rvs)⟩:af)=g:=by rw[f9]
theorem g8 (L:LL):∀i,i<L.length→(fun i=>(L.getD i z0l).rvs) i=aa.loc.rvs (aa.loc.of ((fun i=>(L.getD i z0l).rvs) i)):=fun i _=>(congrArg QfSy.Loc.rvs (ze (L.getD i z0l))).symm
theorem abJ (g:af)(hn:g.locs.length≤1000)(hL:∀l∈g.locs,l.list.length≤1000)(hs:cA g=false):ar Tryz.prog [ci] 8 [.agg g.rvs] (.int .i64 22):=by
 have hz:cA (af.mk g.dim g.det (bb g.locs.length fun i=>(g.locs.getD i z0l).rvs))=false:=by rw[ia];exact hs
 refine pr (cE uy) Tryz.func8 aC ?_
 refine lr [true] [rq (22:Int),aj (!cA (af.mk g.dim g.det (bb g.locs.length fun i=>(g.locs.getD i z0l).rvs))) true,(∀(i:Nat),i<g.locs.length→(fun i=>(g.locs.getD i z0l).rvs) i=aa.loc.rvs (aa.loc.of ((fun i=>(g.locs.getD i z0l).rvs) i)))∧g.locs.length≤1000∧∀(l:QfSy.Loc),(l∈bb g.locs.length fun i=>(g.locs.getD i z0l).rvs)→l.list.length≤1000] ⟨?_,(dN hz),(?_:(∀(i:Nat),i<g.locs.length→(fun i=>(g.locs.getD i z0l).rvs) i=aa.loc.rvs (aa.loc.of ((fun i=>(g.locs.getD i z0l).rvs) i)))∧g.locs.length≤1000∧∀(l:QfSy.Loc),(l∈bb g.locs.length fun i=>(g.locs.getD i z0l).rvs)→l.list.length≤1000)⟩
 all_goals first|(first|exact tr|exact⟨g8 g.locs,hn,by rw[f9];exact hL⟩)
theorem uL {dim det:Int}:∀{P:List bB}{L:LL},iu dim det P L=true→∀j,j<P.length→kQ dim det (P.getD j bB.zero) (L.getD j z0l)=true
 |[],L,h,j,hj=>by simp at hj
 |q::P,[],h,j,hj=>by cases h
 |q::P,l::L,h,j,hj=>by
  simp only[iu,aX]at h
  cases j with
  |zero=>exact h.1
  |succ j=>exact uL h.2 j (by simpa using hj)
theorem Uy {g:af}(hs:cA g=true){j:Nat}(hj:j<g.locs.length):gq (aP g j)=true:=by
 obtain⟨a1,a2,a3,a4,a5,a6⟩:=(mo g).1 hs
 have:=uL a6 j om
 unfold kQ at this
 simp only[aX]at this
 exact this.2.1
theorem WS {g:af}(hs:cA g=true):1≤g.det∧g.det≤10000:=by
 obtain⟨a1,a2,a3,a4,a5,a6⟩:=(mo g).1 hs
 exact⟨a3,a4⟩
def iJ (D:Int):LL→Bool
 |[]=>true
 |l::L=>gy D l.prime l.list&&iJ D L
theorem Dt {D:Int}{L:LL}{i:Nat}(hi:i<L.length):iJ D (L.drop i)=(gy D (L.getD i z0l).prime (L.getD i z0l).list&&iJ D (L.drop (i+1))):=by
 rw[kU hi]
 simp[iJ,cj,hi]
theorem P5 {D:Int}{L:LL}{i:Nat}(hi:L.length≤i):iJ D (L.drop i)=true:=by
 rw[eL hi];rfl
def l5 (g:af):List (Nat×ai):=(1000,⟨.plain (RV.avl g.rvs),32,0,false,true⟩)::jk
def CQ (p:Int)(C:LC):Nat×ai:=(1020,⟨.plain [vi p,(aD C).av],45,0,false,true⟩)
def xT (g:af)(j:AV):List (Nat×AV):=[(1,.ptr 1000 0),(21,(dR g.locs).av),(22,vi g.locs.length),(23,j)]
def NH (g:af)(j:Nat)(C:LC)(m k:AV):List (Nat×AV):=xT g (vi j)++[(4,.ptr 1020 0),(5,m),(28,(aD C).av),(29,vi C.length),(30,k)]
def Kr (g:af)(j:Nat)(p:Int)(C:LC):aA:=⟨⟨NH g j C (.int .i64 1) (.int .i64 0),l5 g++[CQ p C],1101⟩,none,fun _=>(.exit 2,⟨xT g (vi j)++[(4,.ptr 1020 0),(5,vi (cO C C.length))],l5 g++[CQ p C],1101⟩)⟩
theorem Z1 (g:af)(u:Nat)(p:Int)(C:LC)(hC:C.length≤1000):An 1 Tryz.f8 [0,1,0,1,1,0,0,1,1,0,0,1,0,1,1] (Kr g u p C):=by
 refine cN c0 aC (fun(k:Nat)=>(⟨NH g u C (vi (cO C k)) (vi k),l5 g++[CQ p C],1101⟩:St)) (fun(k:Nat)=>(C.length-k:Nat)) (fun(k:Nat)=>(k≤C.length:Prop)) ?_ ?_
 ·exact st (0) [sl g.locs,rq (↑g.locs.length:Int),rq (↑u:Int),(1:Int)=cO C (0:Nat),lq C,rq (↑C.length:Int),(0:Int)=↑(0:Nat),g.dim=g.dim,g.det=g.det,sl g.locs,p=p,lq C] (by refine⟨?_,?_,?_,?_,?_,?_,?_,?_,?_,?_,?_,(?_:lq C)⟩<;>(first|exact tz|rfl)) (by exact aY _)
 ·intro k hI
  have ht:k≤C.length:=hI
  have ek:=wk k
  refine(let q1:List Prop→List Prop:=fun l0=>(sl g.locs)::rq (↑g.locs.length:Int)::rq (↑u:Int)::l0;oe (decide ((↑k:Int)<↑C.length)) (fun d1=>aq [true] (k+1) (q1 [w6.wrap (cO C k*(C.getD k z0c).sign)=cO C (k+1),lq C,rq (↑C.length:Int),w6.wrap ((↑k:Int)+1)=↑(k+1),g.dim=g.dim,g.det=g.det,sl g.locs,p=p,lq C,(0:Int)≤↑k∧(↑k:Int)<↑C.length,ty d1]) ⟨?_,?_,?_,?_,?_,?_,?_,?_,?_,?_,?_,?_,?_,d1⟩ ?_ ?_)
   (fun d1=>br [false] (q1 [cO C k=cO C C.length,g.dim=g.dim,g.det=g.det,sl g.locs,p=p,lq C,ty d1]) ⟨?_,?_,?_,?_,?_,?_,?_,?_,?_,d1⟩))
  all_goals first|exact My|exact Nd|exact cT|(first|exact tz|exact ek|(have hk:k=C.length:=eZ;subst hk;rfl)|exact rl|rfl|exact(5:Nat))
def Z2 (g:af):aA:=⟨⟨xT g (.int .i64 0),l5 g,1020⟩,some (iJ g.det g.locs),fun d=>match d with
 |true=>(.exit 0,⟨[(1,.ptr 1000 0)],l5 g,1020⟩)
 |false=>(.ret,⟨[(2,.int .i64 23)],l5 g,1020⟩)⟩
theorem WT (g:af)(hn:g.locs.length≤1000)(hL:∀l∈g.locs,l.list.length≤1000)(hs:cA g=true):An 1 Tryz.f8 [0,1,0,1,1] (Z2 g):=by
 refine jU (cE uy) (fun(j:Nat)=>(⟨xT g (vi j),l5 g,1020⟩:St)) (fun(j:Nat)=>(g.locs.length-j:Nat)) (fun(d:Bool)=>fun(j:Nat)=>(j≤g.locs.length∧iJ g.det (g.locs.drop j)=iJ g.det g.locs∧iJ g.det g.locs=d:Prop)) (fun(j:Nat)=>([([0,1,0,1,1,0,0,1,1,0,0,1,0,1,1],Kr g j (aP g j).prime (aP g j).list)]:List (List Nat×aA))) ?_ ?_ ?_
 ·rintro d hd j hI
  exact aW (Z1 g j (aP g j).prime (aP g j).list (sg hL j))
 ·intro d hd
  exact st (0) [sl g.locs,rq (↑g.locs.length:Int),(0:Int)=↑(0:Nat),g.dim=g.dim,g.det=g.det,sl g.locs] B5 (by exact⟨aY _,rfl,hd⟩)
 ·rintro d hd j hI
  obtain⟨ht,hf,hd2⟩:=hI
  have ht:j≤g.locs.length:=ht
  have hf:iJ g.det (g.locs.drop j)=iJ g.det g.locs:=hf
  have ek:=wk j
  refine(let q1:List Prop→List Prop:=fun l0=>(g.dim=g.dim)::(g.det=g.det)::(sl g.locs)::l0;oe (decide ((↑j:Int)<↑g.locs.length)) (fun d1=>let y1:List Prop:=(let v1:=g.locs.getD j z0l;[(0:Int)<g.det∧g.det≤2147483647∧(2:Int)≤(aP g j).prime∧(aP g j).prime≤2147483647∧((aP g j).prime=2∨(aP g j).prime.toNat%(2:Nat)≠(0:Nat)),sl g.locs,rq (↑g.locs.length:Int),rq (↑j:Int),v1.list.length=(aP g j).list.length∧(fun i=>(v1.list.getD i z0c).rvs)=fun i=>((aP g j).list.getD i z0c).rvs,(↑v1.list.length:Int)=(↑(aP g j).list.length:Int),g.dim=g.dim,g.det=g.det,sl g.locs,v1.prime=(aP g j).prime,v1.list.length=(aP g j).list.length∧(fun i=>(v1.list.getD i z0c).rvs)=fun i=>((aP g j).list.getD i z0c).rvs,(0:Int)≤↑j∧(↑j:Int)<↑g.locs.length,ty d1]);have u1:ao y1:=⟨?_,?_,?_,?_,?_,?_,?_,?_,?_,?_,?_,?_,d1⟩;oe (cO (aP g j).list (aP g j).list.length==iP g.det.toNat (aP g j).prime.toNat) (fun d2=>aq [true,false] (j+1) ((sl g.locs)::rq (↑g.locs.length:Int)::(w6.wrap ((↑j:Int)+1)=↑(j+1))::(g.dim=g.dim)::(g.det=g.det)::(sl g.locs)::ty (dN d2)::y1) ⟨?_,?_,?_,?_,?_,?_,(dN d2),u1⟩ ?_ ?_)
   (fun d2=>aG d false [true,true] (q1 (ty (dN d2)::y1)) ⟨?_,?_,?_,(dN d2),u1⟩ ?_))
   (fun d1=>aG d true [false] (q1 [ty d1]) ⟨?_,?_,?_,d1⟩ ?_))
  all_goals first|exact Cd|(refine bD.mk ?_;(have hj:j<g.locs.length:=bY;exact⟨hj,by rw[←hf,Dt hj,(ke_t d2:gy g.det (g.locs.getD j z0l).prime (g.locs.getD j z0l).list=true),jZ],hd2⟩))|(refine dq.mk ?_;cases d<;>first|rfl|(exfalso;(first|(have h9:=hf.trans hd2;rw[P5 eZ]at h9;cases h9;done)|(have hj:j<g.locs.length:=bY;have h9:=hf.trans hd2;rw[Dt hj,(ke_t d2:gy g.det (g.locs.getD j z0l).prime (g.locs.getD j z0l).list=false)]at h9;cases h9))))|(first|exact tz|exact ek|exact rfl|(have hj:j<g.locs.length:=bY;first|(have hk:=FF (Uy hs hj);have hd:=WS hs;exact⟨om,om,hk.1,om,hk.2.2⟩)|omega)|exact(5:Nat))
def gD (g:af)(k:Nat):Int:=g.dim+fY (fun i=>k8 (aP g (i+1))) k
theorem Ji (l:QfSy.Loc):0≤k8 l∧k8 l≤7:=by unfold k8;omega
theorem A5 (g:af):∀k,g.dim≤gD g k∧gD g k≤g.dim+7*k
 |0=>by simp[gD,fY]
 |k+1=>by
  have h:=A5 g k
  have:=Ji (aP g (k+1))
  unfold gD at*
  simp only[fY]
  omega
theorem Z3 (g:af)(k:Nat):gD g (k+1)=gD g k+k8 (aP g (k+1)):=by unfold gD;simp only[fY];omega
def NI (g:af)(s k:AV):List (Nat×AV):=[(1,.ptr 1000 0),(10,s),(61,.ro (g.locs.length-1) 2 (fun i=>(g.locs.getD (i+1) z0l).rvs)),(62,vi (g.locs.length-1:Nat)),(63,k)]
def abK (g:af):aA:=⟨⟨NI g (vi g.dim) (.int .i64 0),l5 g,1200⟩,none,fun _=>(.exit 4,⟨[(1,.ptr 1000 0),(10,vi (gD g (g.locs.length-1)))],l5 g,1200⟩)⟩
theorem WU {p:Nat}(hp:2≤p):∀(n:Nat),0<n→n≤2147483647→(vv p n).2∣n:=by
 intro n
 induction n using Nat.strongRecOn with
 |_ n ih=>
  intro h0 hb
  by_cases hm:n%p=0
  ·obtain⟨d1,d2⟩:=sc hp h0 hm
   rw[uR hp h0 hb hm]
   exact Nat.dvd_trans (ih (n/p) d2 d1 om) (Nat.div_dvd_of_dvd (pD hm))
  ·rw[Aa hm]
   exact Nat.dvd_refl n
theorem Ge {a b:Nat}(h:a∣b)(hb:b%2=1):a%2=1:=by
 obtain⟨c,rfl⟩:=h
 rcases Nat.mod_two_eq_zero_or_one a with e|e
 ·rw[Nat.mul_mod,e]at hb;simp at hb
 ·exact e
theorem R1:∀(n:Nat),0<n→n≤2147483647→n%2=1→∀q∈bz n,q.prime≠2:=by
 intro n
 induction n using Nat.strongRecOn with
 |_ n ih=>
  intro h0 hb ho q hq
  rcases bA n 2 with h2|h2
  ·rw[zD om]at hq;cases hq
  ·rw[oD h2 hb]at hq
   obtain⟨k1,k2,k3⟩:=sw h2 hb
   obtain⟨r1,r2⟩:=oz h2 hb
   rcases bx.1 hq with e|hq
   ·subst e
    have:=Ge (pD k2) ho
    show((ld n:Nat):Int)≠2
    intro e
    rw[show ld n=2 by omega]at this
    cases this
   ·exact ih _ om r1 om (Ge (WU k1 n h0 hb) ho) q hq
theorem Uz {d:Int}{j:Nat}(h1:1≤d)(h2:d≤10000)(hj:j+1<(bz (2*d).toNat).length):((bz (2*d).toNat).getD (j+1) bB.zero).prime≠2:=by
 have hn:2≤(2*d).toNat:=by omega
 have hb:(2*d).toNat≤2147483647:=by omega
 have e2:(2*d).toNat%2=0:=by omega
 rw[oD hn hb]at hj⊢
 obtain⟨r1,r2⟩:=oz hn hb
 have hl:ld (2*d).toNat=2:=tA hn hb e2
 have ho:(vv (ld (2*d).toNat) (2*d).toNat).2%2≠0:=by
  have:=(pX (p:=ld (2*d).toNat) om (2*d).toNat om hb).2.2.1
  rw[hl]at this⊢
  exact this
 rw[List.getD_cons_succ]
 simp only[cR]at hj
 rw[cj,eb om]
 exact R1 _ r1 om om _ (fp _)
theorem WV {g:af}(hs:cA g=true){j:Nat}(hj:j+1<g.locs.length):cY (aP g (j+1)).prime (aP g (j+1)).list=true:=by
 obtain⟨a1,a2,a3,a4,a5,a6⟩:=(mo g).1 hs
 have h0:=uL a6 (j+1) om
 unfold kQ at h0
 simp only[aX]at h0
 have hk:gq (aP g (j+1))=true:=h0.2.1
 have hp:(aP g (j+1)).prime=((bz (2*g.det).toNat).getD (j+1) bB.zero).prime:=oT h0.1
 have h2:(aP g (j+1)).prime≠2:=by
  rw[hp]
  exact Uz om om om
 unfold gq at hk
 rw[show decide ((aP g (j+1)).prime=2)=false from bu h2]at hk
 exact hk
theorem WW (g:af)(hn:g.locs.length≤1000)(hL:∀l∈g.locs,l.list.length≤1000)(hs:cA g=true):An 1 Tryz.f8 [0,1,0,1,1,1,1,1] (abK g):=by
 have hg:=(mo g).1 hs
 refine cN (cE uy) aC (fun(j:Nat)=>(⟨NI g (vi (gD g j)) (vi j),l5 g,1200⟩:St)) (fun(j:Nat)=>(g.locs.length-j:Nat)) (fun(j:Nat)=>(j≤g.locs.length-1:Prop)) ?_ ?_
 ·exact st (0) [g.dim=gD g (0:Nat),g.locs.length-1=g.locs.length-1∧(fun i=>(g.locs.getD (i+1) z0l).rvs)=fun i=>(g.locs.getD (i+1) z0l).rvs,rq (↑(g.locs.length-1):Int),(0:Int)=↑(0:Nat),g.dim=g.dim,g.det=g.det,sl g.locs] (by refine⟨?_,?_,?_,?_,?_,?_,(?_:sl g.locs)⟩<;>(first|exact tv|(show g.dim=g.dim+0;omega))) (by exact aY _)
 ·intro j hI
  have ht:j≤g.locs.length-1:=hI
  have ek:=wk j
  refine oe (decide ((↑j:Int)<↑(g.locs.length-1))) (fun d1=>aq [true] (j+1) (let v1:=g.locs.getD (j+1) z0l;let v2:=ag v1.list.length fun i=>(v1.list.getD i z0c).rvs;let v3:=(↑(g.locs.length-1):Int);[w6.wrap (gD g j+k8 (Loc.mk v1.prime v2))=gD g (j+1),g.locs.length-1=g.locs.length-1∧(fun i=>(g.locs.getD (i+1) z0l).rvs)=fun i=>(g.locs.getD (i+1) z0l).rvs,rq v3,w6.wrap ((↑j:Int)+1)=↑(j+1),g.dim=g.dim,g.det=g.det,sl g.locs,(∀(i:Nat),i<v1.list.length→(fun i=>(v1.list.getD i z0c).rvs) i=(Con.ofR ((fun i=>(v1.list.getD i z0c).rvs) i)).rvs)∧v1.list.length≤1000∧cY v1.prime v2=true,(0:Int)≤↑j∧(↑j:Int)<v3,ty d1]) ⟨?_,?_,?_,?_,?_,?_,?_,?_,?_,d1⟩ ?_ ?_)
   (fun d1=>br [false] [gD g j=gD g (g.locs.length-1),g.dim=g.dim,g.det=g.det,sl g.locs,ty d1] ⟨?_,?_,?_,?_,d1⟩)
  all_goals first|exact Cd|(refine bD.mk ?_;(have hk:=oT d1;show j+1≤g.locs.length-1;omega))|exact cT|(first|exact tz|exact ek|exact rfl|(have hj:j<g.locs.length-1:=bY;first|omega|(rw[bn,Z3];have h1:=A5 g j;have h2:=Ji (aP g (j+1));show w6.wrap (gD g j+k8 (aP g (j+1)))=gD g j+k8 (aP g (j+1));exact wo)|exact⟨fun _ _=>rfl,sg hL (j+1),by rw[bn];exact WV hs om⟩)|(have e:j=g.locs.length-1:=eZ;rw[e]))
def dr (g:af):Int:=bif !cA g then 22 else bif !iJ g.det g.locs then 23 else bif !dJ (aP g 0).prime (aP g 0).list then 24 else bif decide (gD g (g.locs.length-1)%8=bO (dP (aP g 0).prime (aP g 0).list) (aP g 0).list)then 0 else 25
theorem Z4 {g:af}(hs:cA g=true)(h2:iJ g.det g.locs=false):23=dr g:=by unfold dr;rw[hs,h2];rfl
theorem Z5 {g:af}(hs:cA g=true)(h2:iJ g.det g.locs=true)(h3:dJ (g.locs.getD 0 z0l).prime (ag (g.locs.getD 0 z0l).list.length fun i=>((g.locs.getD 0 z0l).list.getD i z0c).rvs)=false):24=dr g:=by
 rw[bn]at h3
 have h3:dJ (aP g 0).prime (aP g 0).list=false:=h3
 unfold dr;rw[hs,h2,h3];rfl
theorem Z6 {g:af}(hs:cA g=true)(h2:iJ g.det g.locs=true)(h3:dJ (g.locs.getD 0 z0l).prime (ag (g.locs.getD 0 z0l).list.length fun i=>((g.locs.getD 0 z0l).list.getD i z0c).rvs)=true){b:Bool}
 (h4:((gD g (g.locs.length-1)).tmod 8==bO (dP (g.locs.getD 0 z0l).prime (ag (g.locs.getD 0 z0l).list.length fun i=>((g.locs.getD 0 z0l).list.getD i z0c).rvs)) (ag (g.locs.getD 0 z0l).list.length fun i=>((g.locs.getD 0 z0l).list.getD i z0c).rvs))=b):(bif b then 0 else 25)=dr g:=by
 rw[bn]at h3 h4
 have h3:dJ (aP g 0).prime (aP g 0).list=true:=h3
 have h4:((gD g (g.locs.length-1)).tmod 8==bO (dP (aP g 0).prime (aP g 0).list) (aP g 0).list)=b:=h4
 have hd:=((mo g).1 hs).1
 have hb:=(A5 g (g.locs.length-1)).1
 rw[gh om]at h4
 unfold dr;rw[hs,h2,h3]
 subst h4
 generalize gD g (g.locs.length-1)%8=x
 generalize bO (dP (aP g 0).prime (aP g 0).list) (aP g 0).list=y
 by_cases e:x=y
 ·subst e;simp
 ·rw[bu e,bJ.2 e];rfl
theorem UA {g:af}(hs:cA g=true):0<g.locs.length:=by
 obtain⟨a1,a2,a3,a4,a5,a6⟩:=(mo g).1 hs
 rw[←a5,oD om om]
 simp
theorem abL (g:af)(hn:g.locs.length≤1000)(hL:∀l∈g.locs,l.list.length≤1000)(hs:cA g=true):ar Tryz.prog [ci] 8 [.agg g.rvs] (.int .i64 (dr g)):=by
 have hz:cA (af.mk g.dim g.det (bb g.locs.length fun i=>(g.locs.getD i z0l).rvs))=true:=by rw[ia];exact hs
 refine pr (cE uy) Tryz.func8 (yN (WT g hn hL hs) (aW (WW g hn hL hs))) ?_
 refine(let y1:List Prop:=[aj (!cA (af.mk g.dim g.det (bb g.locs.length fun i=>(g.locs.getD i z0l).rvs))) false,(∀(i:Nat),i<g.locs.length→(fun i=>(g.locs.getD i z0l).rvs) i=aa.loc.rvs (aa.loc.of ((fun i=>(g.locs.getD i z0l).rvs) i)))∧g.locs.length≤1000∧∀(l:QfSy.Loc),(l∈bb g.locs.length fun i=>(g.locs.getD i z0l).rvs)→l.list.length≤1000];have u1:ao y1:=⟨(dN hz),(?_:(∀(i:Nat),i<g.locs.length→(fun i=>(g.locs.getD i z0l).rvs) i=aa.loc.rvs (aa.loc.of ((fun i=>(g.locs.getD i z0l).rvs) i)))∧g.locs.length≤1000∧∀(l:QfSy.Loc),(l∈bb g.locs.length fun i=>(g.locs.getD i z0l).rvs)→l.list.length≤1000)⟩;oe (iJ g.det g.locs) (fun d1=>let y2:List Prop:=(let v1:=g.locs.getD (Int.toNat (0:Int)) z0l;((∀(i:Nat),i<v1.list.length→(fun i=>(v1.list.getD i z0c).rvs) i=(Con.ofR ((fun i=>(v1.list.getD i z0c).rvs) i)).rvs)∧v1.list.length≤1000)::((0:Int)≤0∧(0:Int)<↑g.locs.length)::(sl g.locs)::rq (↑g.locs.length:Int)::(g.dim=g.dim)::(g.det=g.det)::(sl g.locs)::ty d1::y1);have u2:ao y2:=⟨?_,?_,?_,?_,?_,?_,?_,d1,u1⟩;oe (dJ (g.locs.getD (Int.toNat (0:Int)) z0l).prime (ag (g.locs.getD (Int.toNat (0:Int)) z0l).list.length fun i=>((g.locs.getD (Int.toNat (0:Int)) z0l).list.getD i z0c).rvs)) (fun d2=>let y3:List Prop:=(let v1:=g.locs.getD (Int.toNat (0:Int)) z0l;((8:Int)≠(0:Int))::((∀(i:Nat),i<v1.list.length→(fun i=>(v1.list.getD i z0c).rvs) i=(Con.ofR ((fun i=>(v1.list.getD i z0c).rvs) i)).rvs)∧v1.list.length≤1000)::((0:Int)≤0∧(0:Int)<↑g.locs.length)::(g.dim=g.dim)::(g.locs.length-Int.toNat (1:Int)=g.locs.length-1∧(fun i=>(fun i=>(g.locs.getD i z0l).rvs) (i+Int.toNat (1:Int)))=fun i=>(g.locs.getD (i+1) z0l).rvs)::((↑(g.locs.length-Int.toNat (1:Int)):Int)=↑(g.locs.length-1))::(g.dim=g.dim)::(g.det=g.det)::(sl g.locs)::((0:Int)≤1∧(1:Int)≤↑g.locs.length)::ty (dN d2)::y2);have u3:ao y3:=⟨?_,?_,?_,?_,?_,?_,?_,?_,?_,?_,(dN d2),u2⟩;oe ((gD g (g.locs.length-1)).tmod (8:Int)==bO (dP (g.locs.getD (Int.toNat (0:Int)) z0l).prime (ag (g.locs.getD (Int.toNat (0:Int)) z0l).list.length fun i=>((g.locs.getD (Int.toNat (0:Int)) z0l).list.getD i z0c).rvs)) (ag (g.locs.getD (Int.toNat (0:Int)) z0l).list.length fun i=>((g.locs.getD (Int.toNat (0:Int)) z0l).list.getD i z0c).rvs)) (fun d3=>lr (tp 2122) (((0:Int)=dr g)::ty (dN d3)::y3) ⟨?_,(dN d3),u3⟩)
  (fun d3=>lr (tp 2121) (((25:Int)=dr g)::ty (dN d3)::y3) ⟨?_,(dN d3),u3⟩))
  (fun d2=>lr (tp 211) (((24:Int)=dr g)::ty (dN d2)::y2) ⟨?_,(dN d2),u2⟩))
  (fun d1=>lr [false,false] (((23:Int)=dr g)::(sl g.locs)::rq (↑g.locs.length:Int)::(g.dim=g.dim)::(g.det=g.det)::(sl g.locs)::ty d1::y1) ⟨?_,?_,?_,?_,?_,?_,d1,u1⟩))
 all_goals first|(first|exact tz|exact⟨g8 g.locs,hn,by rw[f9];exact hL⟩|exact Z4 hs d1|exact Z5 hs d1 d2|exact Z6 hs d1 d2 d3|exact⟨fun _ _=>rfl,sg hL 0⟩|(have:=UA hs;omega)|rfl|decide)
theorem Du (g:af)(hn:g.locs.length≤1000)(hL:∀l∈g.locs,l.list.length≤1000):ar Tryz.prog [ci] 8 [.agg g.rvs] (.int .i64 (dr g)):=by
 cases hs:cA g with
 |true=>exact abL g hn hL hs
 |false=>
  have e:dr g=22:=by unfold dr;rw[hs];rfl
  rw[e]
  exact abJ g hn hL hs
abbrev cK:=Option (List af)
def aH:cK→List af
 |none=>[]
 |some X=>X
def gI (n D:Int)(C:LL)(o:cK):cK:=bif decide (dr ⟨n,D,C⟩=0)then some (aH o++[⟨n,D,C⟩])else o
def aK (n D:Int)(Ls:List LL):Nat→Nat→LL×cK→LL×cK
 |0,_=>fun s=>(s.1,gI n D s.1 s.2)
 |r+1,i=>fun s=>(Ls.getD i []).foldl (fun s l=>bif Nat.blt 64 (aH s.2).length then s else aK n D Ls r (i+1) (s.1.set i l,s.2)) s
def jR (n D:Int)(Ls:List LL)(r i:Nat)(s:LL×cK)(l:QfSy.Loc):LL×cK:=bif Nat.blt 64 (aH s.2).length then s else aK n D Ls r (i+1) (s.1.set i l,s.2)
def fD (n D:Int)(Ls:List LL)(r i:Nat)(s:LL×cK)(k:Nat):LL×cK:=((Ls.getD i []).take k).foldl (jR n D Ls r i) s
theorem X3 (n D:Int)(Ls:List LL)(r i:Nat)(s:LL×cK):aK n D Ls (r+1) i s=(Ls.getD i []).foldl (jR n D Ls r i) s:=rfl
def giA (b:Nat):cK→AV
 |none=>.nils
 |some X=>.lo b X.length
def giB (b:Nat):cK→List (Nat×ai)
 |none=>[]
 |some X=>[(b,⟨.vals .gen X,32,3,true,true⟩)]
def jS (n D:Int)(Ls:List LL)(C:LL)(o:cK)(b:Nat):List (Nat×ai):=[(1000,dS [.lo 1001 C.length] 30),(1001,fw C),(1002,dS [vi n] 3),(1003,dS [vi D] 2),(1004,dS [giA b o] 23),(1005,dS [.lo 1006 Ls.length] 34),(1006,⟨.vals (.list .loc) Ls,30,1,true,true⟩),(1007,dS [.fn 12 [.ptr 1000 0,.ptr 1002 0,.ptr 1003 0,.ptr 1004 0,.ptr 1005 0,.ptr 1007 0]] 41)]++giB b o++jk
def gA (n D:Int)(Ls:List LL)(r i:Nat)(C:LL)(o:cK):cg:=⟨12,[vi i,.ptr 1000 0,.ptr 1002 0,.ptr 1003 0,.ptr 1004 0,.ptr 1005 0,.ptr 1007 0],jS n D Ls C o 1010,1100,(match o with
 |none=>some (aK n D Ls r i (C,none)).2.isNone
 |some _=>none),fun t=>match o,t with
 |none,true=>(.tup [],jS n D Ls (aK n D Ls r i (C,none)).1 none 1150,1900)
 |none,false=>(.tup [],jS n D Ls (aK n D Ls r i (C,none)).1 (some (aH (aK n D Ls r i (C,none)).2)) 1150,1900)
 |some X,_=>(.tup [],jS n D Ls (aK n D Ls r i (C,some X)).1 (some (aH (aK n D Ls r i (C,some X)).2)) 1150,1900)⟩
def Bf (C:LL)(i:Nat):Prop:=∀j,j<i→0<(C.getD j QfSy.Loc.zero).list.length∧(C.getD j QfSy.Loc.zero).list.length≤1000
def cw (Ls:List LL)(r i:Nat)(C:LL)(o:cK):Prop:=i+r=C.length∧Ls.length=C.length∧0<C.length∧C.length≤10∧(∀j,lE (Ls.getD j [])∧(Ls.getD j []).length≤50000)∧Bf C i∧(aH o).length≤64
theorem G8 {C:LL}(h:Bf C C.length):lE C:=by
 intro l hl
 obtain⟨j,hj,rfl⟩:=rD hl
 have:=h j hj
 rw[cj,eb hj]at this
 exact this
def G9:List bV:=[
 ⟨8,[ci],fun A=>match A with
  |[.agg [.int .i64 a,.int .i64 b,.sl n 2 row]]=>some (.int .i64 (dr ⟨a,b,bb n row⟩),[(∀i,i<n→row i=aa.loc.rvs (aa.loc.of (row i)))∧n≤1000∧∀l∈bb n row,l.list.length≤1000])
  |_=>none⟩]
theorem DY:∀e∈G9,ch Tryz.prog e:=by
 intro e he
 simp only[G9,bx,cC,cH]at he
 subst he
 intro A R ms h hm
 simp only at h
 split at h
 ·cases h
  obtain⟨h1,h2,h3⟩:=ay hm
  exact ar.imp (Du ⟨_,_,bb _ _⟩ xB h3) (.cons (.agg (.cons .same (.cons .same (.cons (fN.vals .loc h1) .nil)))) .nil)
 ·cases h
def IJ (m:Tr ai)(b:Nat):Option LL:=match m.get b with
 |some k=>match k.view with
  |.vals .loc C=>some C
  |_=>none
 |none=>none
def JX:Nat→List AV→Hs→Option (cg×List Prop):=fun f args H=>bif Nat.beq f 13 then(match args with
 |[.agg [a,b,.lo bl _]]=>match clr a,clr b with
  |.int .i64 n,.int .i64 D=>match IJ H.m bl with
   |none=>none
   |some C=>some (Lc n D C,[(0<C.length∧C.length≤1000)∧lE C])
  |_,_=>none
 |_=>none)else none
theorem FO:∀f args H A ms,JX f args H=some (A,ms)→(∀q∈ms,q)→aJ Tryz.prog EV.ng A:=by
 intro f args H A ms hq hm
 unfold JX at hq
 replace hq:=(az hq).2
 split at hq
 ·split at hq
  ·split at hq
   ·cases hq
   ·cases hq
    obtain⟨h1,h2⟩:=ay hm
    exact XJ _ _ _ h1 h2
  ·cases hq
 ·cases hq
theorem BK {n D:Int}{C:LL}{b:Bool}(h:(dr (af.mk n D (bb C.length fun i=>aa.loc.rvs (C.getD i aa.loc.zero)))==0)=b):decide (dr ⟨n,D,C⟩=0)=b:=by
 rw[show(bb C.length fun i=>aa.loc.rvs (C.getD i aa.loc.zero))=C from f9 C]at h
 subst h
 by_cases e:dr ⟨n,D,C⟩=0
 ·rw[e];rfl
 ·rw[bu e,bJ.2 e]
theorem tq {n D:Int}{C:LL}{o:cK}(h:decide (dr ⟨n,D,C⟩=0)=true):gI n D C o=some (aH o++[⟨n,D,C⟩]):=by unfold gI;rw[h];rfl
theorem tt {n D:Int}{C:LL}{o:cK}(h:decide (dr ⟨n,D,C⟩=0)=false):gI n D C o=o:=by unfold gI;rw[h];rfl
abbrev kn (C:LL)(i:Nat):=C.getD i aa.loc.zero
theorem X4 (n D:Int)(Ls:List LL)(i:Nat)(C:LL)(hc:cw Ls 0 i C none):aJ Tryz.prog EV.ng (gA n D Ls 0 i C none):=by
 obtain⟨hc1,hc2,hc3,hc4,hc5,hc6,hc7⟩:=hc
 have hz:((i:Int)==(C.length:Int))=true:=by rw[show i=C.length by omega];exact e9 _
 have hp:lE C:=G8 Na
 have hr:(∀(i:Nat),i<C.length→(fun i=>aa.loc.rvs (C.getD i aa.loc.zero)) i=aa.loc.rvs (aa.loc.of ((fun i=>aa.loc.rvs (C.getD i aa.loc.zero)) i)))∧C.length≤1000∧∀(l:QfSy.Loc),(l∈bb C.length fun i=>aa.loc.rvs (C.getD i aa.loc.zero))→l.list.length≤1000:=⟨g8 C,om,fun l hl=>by rw[show(bb C.length fun i=>aa.loc.rvs (C.getD i aa.loc.zero))=C from f9 C]at hl;exact(hp l hl).2⟩
 refine cQ (cF (cV FO (fq DY))) Tryz.func12 aC ?_
 intro d hd
 cases d
 rotate_right
 have hd:((aK n D Ls 0 i (C,none)).2.isNone)=true:=hd
 refine oe (dr (af.mk n D (bb C.length fun i=>aa.loc.rvs (kn C i)))==0) (fun d1=>aT.no ?_)
  (fun d1=>lr [true,false] [C.length=(aK n D Ls (0:Nat) i (C,none)).fst.length,C=(aK n D Ls (0:Nat) i (C,none)).fst,n=n,D=D,rq Ls.length,Ls=Ls,ty d1,rq C.length,(∀(i:Nat),i<C.length→(fun i=>aa.loc.rvs (kn C i)) i=aa.loc.rvs (aa.loc.of ((fun i=>aa.loc.rvs (kn C i)) i)))∧C.length≤1000∧∀(l:QfSy.Loc),(l∈bb C.length fun i=>aa.loc.rvs (kn C i))→l.list.length≤1000,aj ((↑i:Int)==↑C.length) true] ⟨?_,?_,?_,?_,?_,?_,d1,?_,?_,hz⟩)
 rotate_right
 have hd:((aK n D Ls 0 i (C,none)).2.isNone)=false:=hd
 refine oe (dr (af.mk n D (bb C.length fun i=>aa.loc.rvs (kn C i)))==0) (fun d1=>lr [true,true] [C.length=(aK n D Ls (0:Nat) i (C,none)).fst.length,C=(aK n D Ls (0:Nat) i (C,none)).fst,n=n,D=D,(1:Nat)=(aH (aK n D Ls (0:Nat) i (C,none)).snd).length,rq Ls.length,Ls=Ls,[af.mk n D C]=aH (aK n D Ls (0:Nat) i (C,none)).snd,(0:Nat)<1∧(1:Nat)≤1000000,(1:Nat)=[af.mk n D C].length,rq C.length,((0:Nat)<C.length∧C.length≤1000)∧lE C,n=n,D=D,rq C.length,C=C,ty d1,rq C.length,(∀(i:Nat),i<C.length→(fun i=>aa.loc.rvs (kn C i)) i=aa.loc.rvs (aa.loc.of ((fun i=>aa.loc.rvs (kn C i)) i)))∧C.length≤1000∧∀(l:QfSy.Loc),(l∈bb C.length fun i=>aa.loc.rvs (kn C i))→l.list.length≤1000,aj ((↑i:Int)==↑C.length) true] ⟨?_,?_,?_,?_,?_,?_,?_,?_,?_,?_,?_,?_,?_,?_,?_,?_,d1,?_,?_,hz⟩)
  (fun d1=>aT.no ?_)
 all_goals first|exact LS|(first|exact tv|exact hr|exact⟨⟨hc3,om⟩,hp⟩|exact⟨om,om⟩|exact⟨de,de⟩|exact MW|(have e1:=BK d1;first|(show _=(aH (gI n D C none)).length;rw[tq e1]<;>rfl)|(show _=aH (gI n D C none);rw[tq e1]<;>rfl)|(show _=(aH (gI n D C none)).length;rw[tt e1]<;>rfl)|(show _=aH (gI n D C none);rw[tt e1]<;>rfl)))
theorem X5 (n D:Int)(Ls:List LL)(i:Nat)(C:LL)(X:List af)(hc:cw Ls 0 i C (some X)):aJ Tryz.prog EV.ng (gA n D Ls 0 i C (some X)):=by
 obtain⟨hc1,hc2,hc3,hc4,hc5,hc6,hc7⟩:=hc
 have hz:((i:Int)==(C.length:Int))=true:=by rw[show i=C.length by omega];exact e9 _
 have hp:lE C:=G8 Na
 have hr:(∀(i:Nat),i<C.length→(fun i=>aa.loc.rvs (C.getD i aa.loc.zero)) i=aa.loc.rvs (aa.loc.of ((fun i=>aa.loc.rvs (C.getD i aa.loc.zero)) i)))∧C.length≤1000∧∀(l:QfSy.Loc),(l∈bb C.length fun i=>aa.loc.rvs (C.getD i aa.loc.zero))→l.list.length≤1000:=⟨g8 C,om,fun l hl=>by rw[show(bb C.length fun i=>aa.loc.rvs (C.getD i aa.loc.zero))=C from f9 C]at hl;exact(hp l hl).2⟩
 refine cQ (cF (cV FO (fq DY))) Tryz.func12 aC ?_
 intro d hd
 cases d
 ·exact Bool.noConfusion (show false=true from hd)
 ·refine(let y1:List Prop:=[rq C.length,(∀(i:Nat),i<C.length→(fun i=>aa.loc.rvs (kn C i)) i=aa.loc.rvs (aa.loc.of ((fun i=>aa.loc.rvs (kn C i)) i)))∧C.length≤1000∧∀(l:QfSy.Loc),(l∈bb C.length fun i=>aa.loc.rvs (kn C i))→l.list.length≤1000,aj ((↑i:Int)==↑C.length) true];have u1:ao y1:=⟨?_,?_,hz⟩;oe (dr (af.mk n D (bb C.length fun i=>aa.loc.rvs (kn C i)))==0) (fun d1=>lr [true,true] (let v1:=(aK n D Ls (0:Nat) i (C,some X));(C.length=v1.fst.length)::(C=v1.fst)::(n=n)::(D=D)::(X.length+1=(aH v1.snd).length)::rq Ls.length::(Ls=Ls)::(X++[af.mk n D C]=aH v1.snd)::(X.length=X.length∧X.length+1≤1000000)::((1:Nat)=[af.mk n D C].length)::rq C.length::rq X.length::(((0:Nat)<C.length∧C.length≤1000)∧lE C)::(n=n)::(D=D)::rq C.length::(C=C)::ty d1::y1) ⟨?_,?_,?_,?_,?_,?_,?_,?_,?_,?_,?_,?_,?_,?_,?_,?_,?_,d1,u1⟩)
   (fun d1=>lr [true,false] (let v1:=(aK n D Ls (0:Nat) i (C,some X));(C.length=v1.fst.length)::(C=v1.fst)::(n=n)::(D=D)::(X.length=(aH v1.snd).length)::rq Ls.length::(Ls=Ls)::(X=aH v1.snd)::ty d1::y1) ⟨?_,?_,?_,?_,?_,?_,?_,?_,d1,u1⟩))
  all_goals first|exact LS|(first|exact tv|exact hr|exact⟨⟨hc3,om⟩,hp⟩|exact⟨om,om⟩|exact⟨de,de⟩|exact MW|(have e1:=BK d1;first|(show _=(aH (gI n D C (some X))).length;rw[tq e1];simp[aH];done)|(show _=aH (gI n D C (some X));rw[tq e1]<;>rfl)|(show _=(aH (gI n D C (some X))).length;rw[tt e1]<;>rfl)|(show _=aH (gI n D C (some X));rw[tt e1]<;>rfl)))
section
variable {n D:Int}{Ls:List (List QfSy.Loc)}
theorem Ib {r i:Nat}{s:List QfSy.Loc×cK}{l:QfSy.Loc}(h:64<(aH s.2).length):jR n D Ls r i s l=s:=by
 unfold jR;rw[show Nat.blt 64 (aH s.2).length=true from gK h];rfl
theorem Ic {r i:Nat}{s:List QfSy.Loc×cK}{l:QfSy.Loc}(h:(aH s.2).length≤64):jR n D Ls r i s l=aK n D Ls r (i+1) (s.1.set i l,s.2):=by
 unfold jR
 rw[show Nat.blt 64 (aH s.2).length=false from by
  cases hb:Nat.blt 64 (aH s.2).length with
  |false=>rfl
  |true=>have:=aU hb;omega]
 rfl
theorem Xb {r i:Nat}{s:List QfSy.Loc×cK}{l:QfSy.Loc}:jR n D Ls r i s l=s∨jR n D Ls r i s l=aK n D Ls r (i+1) (s.1.set i l,s.2):=by
 rcases bA 64 (aH s.2).length with h|h
 ·exact .inl (Ib h)
 ·exact .inr (Ic h)
theorem U9 (C:List QfSy.Loc)(o:cK):(aH o).length≤(aH (gI n D C o)).length:=by
 unfold gI
 cases decide (dr ⟨n,D,C⟩=0)<;>simp[aH]
theorem sh {r i:Nat}{Q:List QfSy.Loc×cK→List QfSy.Loc×cK→Prop}(hr:∀s,Q s s)(ht:∀a b c,Q a b→Q b c→Q a c)(h:∀s l,Q s (aK n D Ls r (i+1) (s.1.set i l,s.2))):∀(ls:List QfSy.Loc)(s:List QfSy.Loc×cK),Q s (ls.foldl (jR n D Ls r i) s)
 |[],s=>hr s
 |l::ls,s=>by
  rw[lZ]
  refine ht _ _ _ ?_ (sh hr ht h ls _)
  rcases Xb (n:=n) (D:=D) (Ls:=Ls) (r:=r) (i:=i) (s:=s) (l:=l)with e|e
  ·rw[e];exact hr s
  ·rw[e];exact h s l
theorem Va:∀(r i:Nat)(s:List QfSy.Loc×cK),(aH s.2).length≤(aH (aK n D Ls r i s).2).length
 |0,i,s=>U9 s.1 s.2
 |r+1,i,s=>sh (Q:=fun s t=>(aH s.2).length≤(aH t.2).length) (fun _=>aZ _) (fun _ _ _=>cU) (fun s l=>Va r (i+1) (s.1.set i l,s.2)) (Ls.getD i []) s
theorem zl:∀(r i:Nat)(s:List QfSy.Loc×cK),(aK n D Ls r i s).1.length=s.1.length
 |0,i,s=>rfl
 |r+1,i,s=>(sh (Q:=fun s t=>s.1.length=t.1.length) (fun _=>rfl) (fun _ _ _ h k=>h.trans k) (fun s l=>((zl r (i+1) (s.1.set i l,s.2)).trans fm).symm) (Ls.getD i []) s).symm
theorem Ep:∀(r i:Nat)(s:List QfSy.Loc×cK)(j:Nat),j<i→(aK n D Ls r i s).1.getD j z0l=s.1.getD j z0l
 |0,i,s,j,hj=>rfl
 |r+1,i,s,j,hj=>(sh (Q:=fun s t=>t.1.getD j z0l=s.1.getD j z0l) (fun _=>rfl) (fun _ _ _ h k=>k.trans h) (fun s l=>by
  rw[Ep r (i+1) _ j om]
  show(s.1.set i l).getD j z0l=_
  rw[cj,List.getElem?_set_ne om,←cj]) (Ls.getD i []) s)
theorem GD:∀(r i:Nat)(s:List QfSy.Loc×cK),s.2.isNone=false→(aK n D Ls r i s).2.isNone=false
 |0,i,s,h=>by
  show(gI n D s.1 s.2).isNone=false
  unfold gI
  cases decide (dr ⟨n,D,s.1⟩=0)with
  |true=>rfl
  |false=>exact h
 |r+1,i,s,h=>(sh (Q:=fun s t=>s.2.isNone=false→t.2.isNone=false) (fun _ h=>h) (fun _ _ _ h k g=>k (h g)) (fun s l g=>GD r (i+1) (s.1.set i l,s.2) g) (Ls.getD i []) s) h
variable {r i:Nat}{s:List QfSy.Loc×cK}
theorem Xc {k:Nat}(hk:k<(Ls.getD i []).length):fD n D Ls r i s (k+1)=jR n D Ls r i (fD n D Ls r i s k) ((Ls.getD i []).getD k z0l):=by
 unfold fD
 rw[tY hk,mU,cj (l:=Ls.getD i []),eb hk]
 rfl
theorem Xd {k:Nat}(hk:(Ls.getD i []).length≤k):fD n D Ls r i s k=aK n D Ls (r+1) i s:=by
 unfold fD
 rw[iR hk]
 rfl
theorem Xe (k:Nat):aK n D Ls (r+1) i s=((Ls.getD i []).drop k).foldl (jR n D Ls r i) (fD n D Ls r i s k):=by
 unfold fD
 rw[←mU,kV]
 rfl
theorem Fq:∀(ls:List QfSy.Loc)(s:List QfSy.Loc×cK),64<(aH s.2).length→ls.foldl (jR n D Ls r i) s=s
 |[],s,h=>rfl
 |l::ls,s,h=>by rw[lZ,Ib h];exact Fq ls s h
theorem Eq {k:Nat}(h:64<(aH (fD n D Ls r i s k).2).length):aK n D Ls (r+1) i s=fD n D Ls r i s k:=by
 rw[Xe k,Fq _ _ h]
end
theorem aaI {x:cK}(h:x.isNone=true):x=none:=by cases x with
 |none=>rfl
 |some a=>cases h
theorem aaJ {x:cK}(h:x.isNone=false):x=some (aH x):=by cases x with
 |none=>cases h
 |some a=>rfl
def gf (n D:Int)(Ls:List (List QfSy.Loc))(r i:Nat)(C:List QfSy.Loc)(o:cK)(k:Nat)(C1:List QfSy.Loc)(o1:cK):Prop:=k≤(Ls.getD i []).length∧fD n D Ls r i (C,o) k=(C1,o1)∧C1.length=C.length∧Bf C1 i∧∀j,j<k→(aH (fD n D Ls r i (C,o) j).2).length≤64
section
variable {n D:Int}{Ls:List (List QfSy.Loc)}{r i k:Nat}{C C1:List QfSy.Loc}{o o1:cK}
theorem sP (hc:cw Ls (r+1) i C o):gf n D Ls r i C o 0 C o:=⟨aY _,rfl,rfl,hc.2.2.2.2.2.1,fun j hj=>absurd hj om⟩
theorem vD (hc:cw Ls (r+1) i C o)(hI:gf n D Ls r i C o k C1 o1)(hk:k<(Ls.getD i []).length)(h:(aH o1).length≤64):cw Ls r (i+1) (C1.set i ((Ls.getD i []).getD k z0l)) o1:=by
 obtain⟨c1,c2,c3,c4,c5,c6,c7⟩:=hc
 obtain⟨i1,i2,i3,i4,i5⟩:=hI
 refine⟨by rw[fm];omega,by rw[fm];omega,by rw[fm];omega,by rw[fm];omega,c5,fun j hj=>?_,h⟩
 rw[cj]
 rcases bA j i with hji|hji
 ·rw[List.getElem?_set_ne om,←cj]
  exact i4 j hji
 ·have:j=i:=by omega
  subst this
  rw[List.getElem?_set_self om]
  exact(c5 j).1 _ (FE hk)
theorem Id (hc:cw Ls (r+1) i C o)(hI:gf n D Ls r i C o k C1 o1)(hk:k<(Ls.getD i []).length)(h:(aH o1).length≤64):gf n D Ls r i C o (k+1) (aK n D Ls r (i+1) (C1.set i ((Ls.getD i []).getD k z0l),o1)).1 (aK n D Ls r (i+1) (C1.set i ((Ls.getD i []).getD k z0l),o1)).2:=by
 obtain⟨i1,i2,i3,i4,i5⟩:=hI
 refine⟨hk,by rw[Xc hk,i2,Ic h],by rw[zl];show(C1.set i _).length=_;rw[fm];exact i3,fun j hj=>?_,fun j hj=>?_⟩
 ·rw[Ep r (i+1) _ j om]
  show 0<((C1.set i _).getD j z0l).list.length∧((C1.set i _).getD j z0l).list.length≤1000
  rw[cj,List.getElem?_set_ne om,←cj]
  exact i4 j hj
 ·rcases bA j k with hjk|hjk
  ·exact i5 j hjk
  ·rw[show j=k by omega,i2];exact h
theorem Vb (hc:cw Ls (r+1) i C o)(hI:gf n D Ls r i C o k C1 o1)(hk:k<(Ls.getD i []).length)(h:(aH o1).length≤64)(hn:(aK n D Ls r (i+1) (C1.set i ((Ls.getD i []).getD k z0l),o1)).2.isNone=true):gf n D Ls r i C o (k+1) (aK n D Ls r (i+1) (C1.set i ((Ls.getD i []).getD k z0l),o1)).1 none:=by
 have:=Id hc hI hk h
 rw[aaI hn]at this
 exact this
theorem GE (hc:cw Ls (r+1) i C o)(hI:gf n D Ls r i C o k C1 o1)(hk:k<(Ls.getD i []).length)(h:(aH o1).length≤64)(hn:(aK n D Ls r (i+1) (C1.set i ((Ls.getD i []).getD k z0l),o1)).2.isNone=false):gf n D Ls r i C o (k+1) (aK n D Ls r (i+1) (C1.set i ((Ls.getD i []).getD k z0l),o1)).1 (some (aH (aK n D Ls r (i+1) (C1.set i ((Ls.getD i []).getD k z0l),o1)).2)):=by
 have:=Id hc hI hk h
 rw[aaJ hn]at this
 exact this
theorem Vc {X:List af}(hc:cw Ls (r+1) i C o)(hI:gf n D Ls r i C o k C1 (some X))(hk:k<(Ls.getD i []).length)(h:X.length≤64):gf n D Ls r i C o (k+1) (aK n D Ls r (i+1) (C1.set i ((Ls.getD i []).getD k z0l),some X)).1 (some (aH (aK n D Ls r (i+1) (C1.set i ((Ls.getD i []).getD k z0l),some X)).2)):=GE hc hI hk h (GD r (i+1) _ rfl)
theorem Ie (hI:gf n D Ls r i C o k C1 o1)(hk:¬k<(Ls.getD i []).length):aK n D Ls (r+1) i (C,o)=(C1,o1):=by
 rw[←Xd (k:=k) om];exact hI.2.1
theorem If (hI:gf n D Ls r i C o k C1 o1)(h:64<(aH o1).length):aK n D Ls (r+1) i (C,o)=(C1,o1):=by
 rw[Eq (k:=k) (by rw[hI.2.1];exact h)];exact hI.2.1
end
def rt (Ls:List LL)(i:Nat)(k:AV):List (Nat×AV):=[(0,vi i),(1,.ptr 1000 0),(2,.ptr 1002 0),(3,.ptr 1003 0),(4,.ptr 1004 0),(5,.ptr 1005 0),(6,.ptr 1007 0),(30,(dR (Ls.getD i [])).av),(31,vi (Ls.getD i []).length),(32,k)]
def Bn (n D:Int)(Ls:List LL)(i:Nat):Nat×LL×cK→St
 |(k,C,none)=>⟨rt Ls i (vi k),jS n D Ls C none 2010,2100⟩
 |(k,C,some X)=>⟨rt Ls i (vi k),jS n D Ls C (some X) 2010,2100⟩
def Kc (n D:Int)(Ls:List LL)(i:Nat):Nat×LL×List af→St
 |(k,C,X)=>⟨rt Ls i (vi k),jS n D Ls C (some X) 2010,2100⟩
def gOf (m:Tr ai)(u:AV):Option cK:=match u with
 |.nils=>some none
 |.lo b _=>match m.get b with
  |some k=>match k.view with
   |.vals .gen X=>some (some X)
   |_=>none
  |none=>none
 |_=>none
def Kd (n D:Int)(Ls:List LL)(r i:Nat):Nat→List AV→Hs→Option (cg×List Prop):=fun f args H=>bif Nat.beq f 12 then(match args with
 |[_,.ptr b0 _,_,_,.ptr b4 _,_,_]=>match kS H.m b0 with
  |some (.lo bl _)=>match IJ H.m bl with
   |none=>none
   |some C=>match kS H.m b4 with
    |none=>none
    |some u=>match gOf H.m u with
     |none=>none
     |some o=>some (gA n D Ls r (i+1) C o,[cw Ls r (i+1) C o])
  |_=>none
 |_=>none)else none
theorem sx {n D:Int}{Ls:List LL}{r i:Nat}(ih:∀C o,cw Ls r (i+1) C o→aJ Tryz.prog EV.ng (gA n D Ls r (i+1) C o)):∀f args H A ms,Kd n D Ls r i f args H=some (A,ms)→(∀q∈ms,q)→aJ Tryz.prog EV.ng A:=by
 intro f args H A ms hq hm
 unfold Kd at hq
 replace hq:=(az hq).2
 split at hq
 ·split at hq
  ·split at hq
   ·cases hq
   ·split at hq
    ·cases hq
    ·split at hq
     ·cases hq
     ·cases hq
      exact ih _ _ (ay hm)
  ·cases hq
 ·cases hq
def aby (n D:Int)(Ls:List LL)(r i:Nat)(C:LL):aA:=⟨⟨rt Ls i (.int .i64 0),jS n D Ls C none 1010,1200⟩,none,fun _=>(.exit 0,⟨[],jS n D Ls (aK n D Ls (r+1) i (C,none)).1 none 2010,2100⟩)⟩
def Ke (n D:Int)(Ls:List LL)(r i:Nat)(C:LL)(o:cK):aA:=⟨⟨rt Ls i (.int .i64 0),jS n D Ls C o 1010,1200⟩,none,fun _=>(.exit 0,⟨[],jS n D Ls (aK n D Ls (r+1) i (C,o)).1 (some (aH (aK n D Ls (r+1) i (C,o)).2)) 2010,2100⟩)⟩
def Kf (n D:Int)(Ls:List LL)(r i:Nat)(C:LL)(o:cK):aA:=⟨⟨rt Ls i (.int .i64 0),jS n D Ls C o 1010,1200⟩,none,fun _=>(.ret,⟨[],jS n D Ls (aK n D Ls (r+1) i (C,o)).1 (some (aH (aK n D Ls (r+1) i (C,o)).2)) 2010,2100⟩)⟩
theorem qe (x:QfSy.Loc):(⟨x.prime,cm aa.con x.list.length fun i=>(x.list.getD i z0c).rvs⟩:QfSy.Loc)=x:=by
 show(⟨x.prime,ag x.list.length fun i=>(x.list.getD i z0c).rvs⟩:QfSy.Loc)=x
 rw[bn]
set_option maxHeartbeats 4000000 in
theorem Zc (n D:Int)(Ls:List LL)(r i:Nat)(C:LL)(hc:cw Ls (r+1) i C none)(hz:(aK n D Ls (r+1) i (C,none)).2.isNone=true)(ih:∀C o,cw Ls r (i+1) C o→aJ Tryz.prog EV.ng (gA n D Ls r (i+1) C o)):An 7 Tryz.f12 [0,1,1] (aby n D Ls r i C):=by
 have hcc:=hc
 obtain⟨c1,c2,c3,c4,c5,c6,c7⟩:=hcc
 have c8:=(c5 i).2
 refine cN (cF (cV (sx ih) (dL _ _))) aC (Bn n D Ls i) (fun q=>(Ls.getD i []).length-q.1) (fun q=>gf n D Ls r i C none q.1 q.2.1 q.2.2) ?_ ?_
 ·exact st (0,C,none) (let t1:=Ls.getD i [];[rq (↑i:Int),sl t1,rq (↑t1.length:Int),(0:Int)=↑(0:Nat),rq C.length,C=C,n=n,D=D,rq Ls.length,Ls=Ls]) Cf (by exact sP hc)
 ·rintro ⟨k,C1,o⟩ hI
  have eK:=qe ((Ls.getD i []).getD k z0l)
  have hI:gf n D Ls r i C none k C1 o:=hI
  have i1:=hI.1
  have i3:=hI.2.2.1
  have ek:=wk k
  have ei:=wk i
  rcases o with _|X
  rotate_right
  refine oe (decide ((↑k:Int)<(↑(Ls.getD i []).length:Int))) (fun d1=>oe (decide ((↑X.length:Int)>64)) (fun d2=>aT.no ?_)
   (fun d2=>aq [true,false] (k+1,(aK n D Ls r (i+1) (C1.set i ((Ls.getD i []).getD k z0l),some X)).1,some (aH (aK n D Ls r (i+1) (C1.set i ((Ls.getD i []).getD k z0l),some X)).2)) (let v6:=Ls.getD i [];let v1:=v6.getD k z0l;let v2:=cm aa.con v1.list.length fun i_1=>(v1.list.getD i_1 z0c).rvs;let v3:=(aK n D Ls r (i+1) (C1.set i (Loc.mk v1.prime v2),some X));let v4:=(aK n D Ls r (i+1) (C1.set i v1,some X));let v5:=C1.set i (Loc.mk v1.prime v2);[rq (↑i:Int),sl v6,rq (↑v6.length:Int),w6.wrap ((↑k:Int)+1)=↑(k+1),v3.fst.length=v4.fst.length,v3.fst=v4.fst,n=n,D=D,(aH v3.snd).length=(aH v4.snd).length,rq Ls.length,Ls=Ls,aH v3.snd=aH v4.snd,cw Ls r (i+1) v5 (some X),w6.wrap ((↑i:Int)+1)=↑(i+1),C1.length=v5.length,rq v5,n=n,D=D,rq X.length,rq Ls.length,Ls=Ls,X=X,i<C1.length,∀(i_1:Nat),i_1<v1.list.length→(fun i_2=>(v1.list.getD i_2 z0c).rvs) i_1=aa.con.rvs (aa.con.of ((fun i_2=>(v1.list.getD i_2 z0c).rvs) i_1)),(0:Int)≤↑i∧(↑i:Int)<↑C1.length,ty d2,(0:Int)≤↑k∧(↑k:Int)<↑v6.length,ty d1]) ?_ ?_ ?_))
   (fun d1=>aT.no ?_)
  all_goals with_reducible repeat' first|exact dA|refine bk ?_ ?_|refine bm ?_
  rotate_right
  refine(let q1:List Prop→List Prop:=fun l0=>(let v5:=Ls.getD i [];let v1:=v5.getD k z0l;let v2:=cm aa.con v1.list.length fun i_1=>(v1.list.getD i_1 z0c).rvs;let v3:=(aK n D Ls r (i+1) (C1.set i (Loc.mk v1.prime v2),none));let v4:=(aK n D Ls r (i+1) (C1.set i v1,none));rq (↑i:Int)::(sl v5)::rq (↑v5.length:Int)::(w6.wrap ((↑k:Int)+1)=↑(k+1))::(v3.fst.length=v4.fst.length)::(v3.fst=v4.fst)::(n=n)::(D=D)::l0);oe (decide ((↑k:Int)<(↑(Ls.getD i []).length:Int))) (fun d1=>let y1:List Prop:=(let v1:=(Ls.getD i []).getD k z0l;[i<C1.length,∀(i_1:Nat),i_1<v1.list.length→(fun i_2=>(v1.list.getD i_2 z0c).rvs) i_1=aa.con.rvs (aa.con.of ((fun i_2=>(v1.list.getD i_2 z0c).rvs) i_1)),(0:Int)≤↑i∧(↑i:Int)<↑C1.length,(0:Int)≤↑k∧(↑k:Int)<(↑(Ls.getD i []).length:Int),ty d1]);have u1:ao y1:=⟨?_,?_,?_,?_,d1⟩;oe (Option.isNone (aK n D Ls r (i+1) (C1.set i (Loc.mk ((Ls.getD i []).getD k z0l).prime (cm aa.con ((Ls.getD i []).getD k z0l).list.length fun i_1=>(((Ls.getD i []).getD k z0l).list.getD i_1 z0c).rvs)),none)).snd) (fun d2=>aq [true,true] (k+1,(aK n D Ls r (i+1) (C1.set i ((Ls.getD i []).getD k z0l),none)).1,none) (q1 (let v1:=cm aa.con ((Ls.getD i []).getD k z0l).list.length fun i_1=>(((Ls.getD i []).getD k z0l).list.getD i_1 z0c).rvs;let v2:=C1.set i (Loc.mk ((Ls.getD i []).getD k z0l).prime v1);rq Ls.length::(Ls=Ls)::(cw Ls r (i+1) v2 none)::(w6.wrap ((↑i:Int)+1)=↑(i+1))::(C1.length=v2.length)::rq v2::(n=n)::(D=D)::rq Ls.length::(Ls=Ls)::ty d2::y1)) ?_ ?_ ?_)
   (fun d2=>aq [true,false] (k+1,(aK n D Ls r (i+1) (C1.set i ((Ls.getD i []).getD k z0l),none)).1,some (aH (aK n D Ls r (i+1) (C1.set i ((Ls.getD i []).getD k z0l),none)).2)) (q1 (let v1:=cm aa.con ((Ls.getD i []).getD k z0l).list.length fun i_1=>(((Ls.getD i []).getD k z0l).list.getD i_1 z0c).rvs;let v2:=Loc.mk ((Ls.getD i []).getD k z0l).prime v1;let v3:=(aK n D Ls r (i+1) (C1.set i ((Ls.getD i []).getD k z0l),none));let v4:=(aK n D Ls r (i+1) (C1.set i v2,none));((aH v4.snd).length=(aH v3.snd).length)::rq Ls.length::(Ls=Ls)::(aH v4.snd=aH v3.snd)::(cw Ls r (i+1) (C1.set i v2) none)::(w6.wrap ((↑i:Int)+1)=↑(i+1))::(C1.length=(C1.set i v2).length)::rq (C1.set i v2)::(n=n)::(D=D)::rq Ls.length::(Ls=Ls)::ty d2::y1)) ?_ ?_ ?_))
   (fun d1=>br [false] (let v1:=(aK n D Ls (r+1) i (C,none));[C1.length=v1.fst.length,C1=v1.fst,n=n,D=D,rq Ls.length,Ls=Ls,ty d1]) ?_))
  all_goals with_reducible repeat' first|exact dA|refine bk ?_ ?_|refine bm ?_
  all_goals first|exact tR|exact tX|(refine aT.mk ?_;(first|exact Mh|(have e1:=If hI (show 64<(aH (some X)).length from by have:=oT d2;show 64<X.length;omega);rw[e1]at hz;cases hz)))|exact tN
set_option maxHeartbeats 4000000 in
theorem Zd (n D:Int)(Ls:List LL)(r i:Nat)(C:LL)(hc:cw Ls (r+1) i C none)(hz:(aK n D Ls (r+1) i (C,none)).2.isNone=false)(hE:∀j,j<(Ls.getD i []).length→(aH (fD n D Ls r i (C,none) j).2).length≤64)(ih:∀C o,cw Ls r (i+1) C o→aJ Tryz.prog EV.ng (gA n D Ls r (i+1) C o)):An 7 Tryz.f12 [0,1,1] (Ke n D Ls r i C none):=by
 have hcc:=hc
 obtain⟨c1,c2,c3,c4,c5,c6,c7⟩:=hcc
 have c8:=(c5 i).2
 refine cN (cF (cV (sx ih) (dL _ _))) aC (Bn n D Ls i) (fun q=>(Ls.getD i []).length-q.1) (fun q=>gf n D Ls r i C none q.1 q.2.1 q.2.2) ?_ ?_
 ·exact st (0,C,none) (let t1:=Ls.getD i [];[rq (↑i:Int),sl t1,rq (↑t1.length:Int),(0:Int)=↑(0:Nat),rq C.length,C=C,n=n,D=D,rq Ls.length,Ls=Ls]) Cf (by exact sP hc)
 ·rintro ⟨k,C1,o⟩ hI
  have eK:=qe ((Ls.getD i []).getD k z0l)
  have hI:gf n D Ls r i C none k C1 o:=hI
  have i1:=hI.1
  have i3:=hI.2.2.1
  have ek:=wk k
  have ei:=wk i
  rcases o with _|X
  rotate_right
  refine oe (decide ((↑k:Int)<(↑(Ls.getD i []).length:Int))) (fun d1=>oe (decide ((↑X.length:Int)>64)) (fun d2=>aT.no ?_)
   (fun d2=>aq [true,false] (k+1,(aK n D Ls r (i+1) (C1.set i ((Ls.getD i []).getD k z0l),some X)).1,some (aH (aK n D Ls r (i+1) (C1.set i ((Ls.getD i []).getD k z0l),some X)).2)) (let v6:=Ls.getD i [];let v1:=v6.getD k z0l;let v2:=cm aa.con v1.list.length fun i_1=>(v1.list.getD i_1 z0c).rvs;let v3:=(aK n D Ls r (i+1) (C1.set i (Loc.mk v1.prime v2),some X));let v4:=(aK n D Ls r (i+1) (C1.set i v1,some X));let v5:=C1.set i (Loc.mk v1.prime v2);[rq (↑i:Int),sl v6,rq (↑v6.length:Int),w6.wrap ((↑k:Int)+1)=↑(k+1),v3.fst.length=v4.fst.length,v3.fst=v4.fst,n=n,D=D,(aH v3.snd).length=(aH v4.snd).length,rq Ls.length,Ls=Ls,aH v3.snd=aH v4.snd,cw Ls r (i+1) v5 (some X),w6.wrap ((↑i:Int)+1)=↑(i+1),C1.length=v5.length,rq v5,n=n,D=D,rq X.length,rq Ls.length,Ls=Ls,X=X,i<C1.length,∀(i_1:Nat),i_1<v1.list.length→(fun i_2=>(v1.list.getD i_2 z0c).rvs) i_1=aa.con.rvs (aa.con.of ((fun i_2=>(v1.list.getD i_2 z0c).rvs) i_1)),(0:Int)≤↑i∧(↑i:Int)<↑C1.length,ty d2,(0:Int)≤↑k∧(↑k:Int)<↑v6.length,ty d1]) ?_ ?_ ?_))
   (fun d1=>br [false] (let v1:=(aK n D Ls (r+1) i (C,none));[C1.length=v1.fst.length,C1=v1.fst,n=n,D=D,X.length=(aH v1.snd).length,rq Ls.length,Ls=Ls,X=aH v1.snd,ty d1]) ?_)
  all_goals with_reducible repeat' first|exact dA|refine bk ?_ ?_|refine bm ?_
  rotate_right
  refine(let q1:List Prop→List Prop:=fun l0=>(let v5:=Ls.getD i [];let v1:=v5.getD k z0l;let v2:=cm aa.con v1.list.length fun i_1=>(v1.list.getD i_1 z0c).rvs;let v3:=(aK n D Ls r (i+1) (C1.set i (Loc.mk v1.prime v2),none));let v4:=(aK n D Ls r (i+1) (C1.set i v1,none));rq (↑i:Int)::(sl v5)::rq (↑v5.length:Int)::(w6.wrap ((↑k:Int)+1)=↑(k+1))::(v3.fst.length=v4.fst.length)::(v3.fst=v4.fst)::(n=n)::(D=D)::l0);oe (decide ((↑k:Int)<(↑(Ls.getD i []).length:Int))) (fun d1=>let y1:List Prop:=(let v1:=(Ls.getD i []).getD k z0l;[i<C1.length,∀(i_1:Nat),i_1<v1.list.length→(fun i_2=>(v1.list.getD i_2 z0c).rvs) i_1=aa.con.rvs (aa.con.of ((fun i_2=>(v1.list.getD i_2 z0c).rvs) i_1)),(0:Int)≤↑i∧(↑i:Int)<↑C1.length,(0:Int)≤↑k∧(↑k:Int)<(↑(Ls.getD i []).length:Int),ty d1]);have u1:ao y1:=⟨?_,?_,?_,?_,d1⟩;oe (Option.isNone (aK n D Ls r (i+1) (C1.set i (Loc.mk ((Ls.getD i []).getD k z0l).prime (cm aa.con ((Ls.getD i []).getD k z0l).list.length fun i_1=>(((Ls.getD i []).getD k z0l).list.getD i_1 z0c).rvs)),none)).snd) (fun d2=>aq [true,true] (k+1,(aK n D Ls r (i+1) (C1.set i ((Ls.getD i []).getD k z0l),none)).1,none) (q1 (let v1:=cm aa.con ((Ls.getD i []).getD k z0l).list.length fun i_1=>(((Ls.getD i []).getD k z0l).list.getD i_1 z0c).rvs;let v2:=C1.set i (Loc.mk ((Ls.getD i []).getD k z0l).prime v1);rq Ls.length::(Ls=Ls)::(cw Ls r (i+1) v2 none)::(w6.wrap ((↑i:Int)+1)=↑(i+1))::(C1.length=v2.length)::rq v2::(n=n)::(D=D)::rq Ls.length::(Ls=Ls)::ty d2::y1)) ?_ ?_ ?_)
   (fun d2=>aq [true,false] (k+1,(aK n D Ls r (i+1) (C1.set i ((Ls.getD i []).getD k z0l),none)).1,some (aH (aK n D Ls r (i+1) (C1.set i ((Ls.getD i []).getD k z0l),none)).2)) (q1 (let v1:=cm aa.con ((Ls.getD i []).getD k z0l).list.length fun i_1=>(((Ls.getD i []).getD k z0l).list.getD i_1 z0c).rvs;let v2:=Loc.mk ((Ls.getD i []).getD k z0l).prime v1;let v3:=(aK n D Ls r (i+1) (C1.set i ((Ls.getD i []).getD k z0l),none));let v4:=(aK n D Ls r (i+1) (C1.set i v2,none));((aH v4.snd).length=(aH v3.snd).length)::rq Ls.length::(Ls=Ls)::(aH v4.snd=aH v3.snd)::(cw Ls r (i+1) (C1.set i v2) none)::(w6.wrap ((↑i:Int)+1)=↑(i+1))::(C1.length=(C1.set i v2).length)::rq (C1.set i v2)::(n=n)::(D=D)::rq Ls.length::(Ls=Ls)::ty d2::y1)) ?_ ?_ ?_))
   (fun d1=>aT.no ?_))
  all_goals with_reducible repeat' first|exact dA|refine bk ?_ ?_|refine bm ?_
  all_goals first|exact tR|exact tX|(refine aT.mk ?_;(first|exact Mh|exact Nx))|exact tN
set_option maxHeartbeats 4000000 in
theorem Ze (n D:Int)(Ls:List LL)(r i:Nat)(C:LL)(hc:cw Ls (r+1) i C none)(hR:∃j,j<(Ls.getD i []).length∧64<(aH (fD n D Ls r i (C,none) j).2).length)(ih:∀C o,cw Ls r (i+1) C o→aJ Tryz.prog EV.ng (gA n D Ls r (i+1) C o)):An 7 Tryz.f12 [0,1,1] (Kf n D Ls r i C none):=by
 have hcc:=hc
 obtain⟨c1,c2,c3,c4,c5,c6,c7⟩:=hcc
 have c8:=(c5 i).2
 refine cN (cF (cV (sx ih) (dL _ _))) aC (Bn n D Ls i) (fun q=>(Ls.getD i []).length-q.1) (fun q=>gf n D Ls r i C none q.1 q.2.1 q.2.2) ?_ ?_
 ·exact st (0,C,none) (let t1:=Ls.getD i [];[rq (↑i:Int),sl t1,rq (↑t1.length:Int),(0:Int)=↑(0:Nat),rq C.length,C=C,n=n,D=D,rq Ls.length,Ls=Ls]) Cf (by exact sP hc)
 ·rintro ⟨k,C1,o⟩ hI
  have eK:=qe ((Ls.getD i []).getD k z0l)
  have hI:gf n D Ls r i C none k C1 o:=hI
  have i1:=hI.1
  have i3:=hI.2.2.1
  have ek:=wk k
  have ei:=wk i
  rcases o with _|X
  rotate_right
  refine oe (decide ((↑k:Int)<(↑(Ls.getD i []).length:Int))) (fun d1=>let y1:List Prop:=[(0:Int)≤↑k∧(↑k:Int)<(↑(Ls.getD i []).length:Int),ty d1];have u1:ao y1:=⟨?_,d1⟩;oe (decide ((↑X.length:Int)>64)) (fun d2=>br [true,true] (let v1:=(aK n D Ls (r+1) i (C,none));(C1.length=v1.fst.length)::(C1=v1.fst)::(n=n)::(D=D)::(X.length=(aH v1.snd).length)::rq Ls.length::(Ls=Ls)::(X=aH v1.snd)::ty d2::y1) ?_)
   (fun d2=>aq [true,false] (k+1,(aK n D Ls r (i+1) (C1.set i ((Ls.getD i []).getD k z0l),some X)).1,some (aH (aK n D Ls r (i+1) (C1.set i ((Ls.getD i []).getD k z0l),some X)).2)) (let v6:=Ls.getD i [];let v1:=v6.getD k z0l;let v2:=cm aa.con v1.list.length fun i_1=>(v1.list.getD i_1 z0c).rvs;let v3:=(aK n D Ls r (i+1) (C1.set i (Loc.mk v1.prime v2),some X));let v4:=(aK n D Ls r (i+1) (C1.set i v1,some X));let v5:=C1.set i (Loc.mk v1.prime v2);rq (↑i:Int)::(sl v6)::rq (↑v6.length:Int)::(w6.wrap ((↑k:Int)+1)=↑(k+1))::(v3.fst.length=v4.fst.length)::(v3.fst=v4.fst)::(n=n)::(D=D)::((aH v3.snd).length=(aH v4.snd).length)::rq Ls.length::(Ls=Ls)::(aH v3.snd=aH v4.snd)::(cw Ls r (i+1) v5 (some X))::(w6.wrap ((↑i:Int)+1)=↑(i+1))::(C1.length=v5.length)::rq v5::(n=n)::(D=D)::rq X.length::rq Ls.length::(Ls=Ls)::(X=X)::(i<C1.length)::(∀(i_1:Nat),i_1<v1.list.length→(fun i_2=>(v1.list.getD i_2 z0c).rvs) i_1=aa.con.rvs (aa.con.of ((fun i_2=>(v1.list.getD i_2 z0c).rvs) i_1)))::((0:Int)≤↑i∧(↑i:Int)<↑C1.length)::ty d2::y1) ?_ ?_ ?_))
   (fun d1=>aT.no ?_)
  all_goals with_reducible repeat' first|exact dA|refine bk ?_ ?_|refine bm ?_
  rotate_right
  refine(let q1:List Prop→List Prop:=fun l0=>(let v5:=Ls.getD i [];let v1:=v5.getD k z0l;let v2:=cm aa.con v1.list.length fun i_1=>(v1.list.getD i_1 z0c).rvs;let v3:=(aK n D Ls r (i+1) (C1.set i (Loc.mk v1.prime v2),none));let v4:=(aK n D Ls r (i+1) (C1.set i v1,none));rq (↑i:Int)::(sl v5)::rq (↑v5.length:Int)::(w6.wrap ((↑k:Int)+1)=↑(k+1))::(v3.fst.length=v4.fst.length)::(v3.fst=v4.fst)::(n=n)::(D=D)::l0);oe (decide ((↑k:Int)<(↑(Ls.getD i []).length:Int))) (fun d1=>let y1:List Prop:=(let v1:=(Ls.getD i []).getD k z0l;[i<C1.length,∀(i_1:Nat),i_1<v1.list.length→(fun i_2=>(v1.list.getD i_2 z0c).rvs) i_1=aa.con.rvs (aa.con.of ((fun i_2=>(v1.list.getD i_2 z0c).rvs) i_1)),(0:Int)≤↑i∧(↑i:Int)<↑C1.length,(0:Int)≤↑k∧(↑k:Int)<(↑(Ls.getD i []).length:Int),ty d1]);have u1:ao y1:=⟨?_,?_,?_,?_,d1⟩;oe (Option.isNone (aK n D Ls r (i+1) (C1.set i (Loc.mk ((Ls.getD i []).getD k z0l).prime (cm aa.con ((Ls.getD i []).getD k z0l).list.length fun i_1=>(((Ls.getD i []).getD k z0l).list.getD i_1 z0c).rvs)),none)).snd) (fun d2=>aq [true,true] (k+1,(aK n D Ls r (i+1) (C1.set i ((Ls.getD i []).getD k z0l),none)).1,none) (q1 (let v1:=cm aa.con ((Ls.getD i []).getD k z0l).list.length fun i_1=>(((Ls.getD i []).getD k z0l).list.getD i_1 z0c).rvs;let v2:=C1.set i (Loc.mk ((Ls.getD i []).getD k z0l).prime v1);rq Ls.length::(Ls=Ls)::(cw Ls r (i+1) v2 none)::(w6.wrap ((↑i:Int)+1)=↑(i+1))::(C1.length=v2.length)::rq v2::(n=n)::(D=D)::rq Ls.length::(Ls=Ls)::ty d2::y1)) ?_ ?_ ?_)
   (fun d2=>aq [true,false] (k+1,(aK n D Ls r (i+1) (C1.set i ((Ls.getD i []).getD k z0l),none)).1,some (aH (aK n D Ls r (i+1) (C1.set i ((Ls.getD i []).getD k z0l),none)).2)) (q1 (let v1:=cm aa.con ((Ls.getD i []).getD k z0l).list.length fun i_1=>(((Ls.getD i []).getD k z0l).list.getD i_1 z0c).rvs;let v2:=Loc.mk ((Ls.getD i []).getD k z0l).prime v1;let v3:=(aK n D Ls r (i+1) (C1.set i ((Ls.getD i []).getD k z0l),none));let v4:=(aK n D Ls r (i+1) (C1.set i v2,none));((aH v4.snd).length=(aH v3.snd).length)::rq Ls.length::(Ls=Ls)::(aH v4.snd=aH v3.snd)::(cw Ls r (i+1) (C1.set i v2) none)::(w6.wrap ((↑i:Int)+1)=↑(i+1))::(C1.length=(C1.set i v2).length)::rq (C1.set i v2)::(n=n)::(D=D)::rq Ls.length::(Ls=Ls)::ty d2::y1)) ?_ ?_ ?_))
   (fun d1=>aT.no ?_))
  all_goals with_reducible repeat' first|exact dA|refine bk ?_ ?_|refine bm ?_
  all_goals first|exact tR|exact tX|exact Nv|exact tN
set_option maxHeartbeats 4000000 in
theorem WB (n D:Int)(Ls:List LL)(r i:Nat)(C:LL)(X0:List af)(hc:cw Ls (r+1) i C (some X0))(hE:∀j,j<(Ls.getD i []).length→(aH (fD n D Ls r i (C,(some X0)) j).2).length≤64)(ih:∀C o,cw Ls r (i+1) C o→aJ Tryz.prog EV.ng (gA n D Ls r (i+1) C o)):An 7 Tryz.f12 [0,1,1] (Ke n D Ls r i C (some X0)):=by
 have hcc:=hc
 obtain⟨c1,c2,c3,c4,c5,c6,c7⟩:=hcc
 have c8:=(c5 i).2
 refine cN (cF (cV (sx ih) (dL _ _))) aC (Kc n D Ls i) (fun q=>(Ls.getD i []).length-q.1) (fun q=>gf n D Ls r i C (some X0) q.1 q.2.1 (some q.2.2)) ?_ ?_
 ·exact st (0,C,X0) (let t1:=Ls.getD i [];[rq (↑i:Int),sl t1,rq (↑t1.length:Int),(0:Int)=↑(0:Nat),rq C.length,C=C,n=n,D=D,rq X0.length,rq Ls.length,Ls=Ls,X0=X0]) Mo (by exact sP hc)
 ·rintro ⟨k,C1,X⟩ hI
  have eK:=qe ((Ls.getD i []).getD k z0l)
  have hI:gf n D Ls r i C (some X0) k C1 (some X):=hI
  have i1:=hI.1
  have i3:=hI.2.2.1
  have ek:=wk k
  have ei:=wk i
  refine oe (decide ((↑k:Int)<(↑(Ls.getD i []).length:Int))) (fun d1=>oe (decide ((↑X.length:Int)>64)) (fun d2=>aT.no ?_)
   (fun d2=>aq [true,false] (k+1,(aK n D Ls r (i+1) (C1.set i ((Ls.getD i []).getD k z0l),some X)).1,aH (aK n D Ls r (i+1) (C1.set i ((Ls.getD i []).getD k z0l),some X)).2) (let v6:=Ls.getD i [];let v1:=v6.getD k z0l;let v2:=cm aa.con v1.list.length fun i_1=>(v1.list.getD i_1 z0c).rvs;let v3:=(aK n D Ls r (i+1) (C1.set i (Loc.mk v1.prime v2),some X));let v4:=(aK n D Ls r (i+1) (C1.set i v1,some X));let v5:=C1.set i (Loc.mk v1.prime v2);[rq (↑i:Int),sl v6,rq (↑v6.length:Int),w6.wrap ((↑k:Int)+1)=↑(k+1),v3.fst.length=v4.fst.length,v3.fst=v4.fst,n=n,D=D,(aH v3.snd).length=(aH v4.snd).length,rq Ls.length,Ls=Ls,aH v3.snd=aH v4.snd,cw Ls r (i+1) v5 (some X),w6.wrap ((↑i:Int)+1)=↑(i+1),C1.length=v5.length,rq v5,n=n,D=D,rq X.length,rq Ls.length,Ls=Ls,X=X,i<C1.length,∀(i_1:Nat),i_1<v1.list.length→(fun i_2=>(v1.list.getD i_2 z0c).rvs) i_1=aa.con.rvs (aa.con.of ((fun i_2=>(v1.list.getD i_2 z0c).rvs) i_1)),(0:Int)≤↑i∧(↑i:Int)<↑C1.length,ty d2,(0:Int)≤↑k∧(↑k:Int)<↑v6.length,ty d1]) ?_ ?_ ?_))
   (fun d1=>br [false] (let v1:=(aK n D Ls (r+1) i (C,some X0));[C1.length=v1.fst.length,C1=v1.fst,n=n,D=D,X.length=(aH v1.snd).length,rq Ls.length,Ls=Ls,X=aH v1.snd,ty d1]) ?_)
  all_goals with_reducible repeat' first|exact dA|refine bk ?_ ?_|refine bm ?_
  all_goals first|exact tR|exact tX|(refine aT.mk ?_;(first|exact Nx))|exact tN
set_option maxHeartbeats 4000000 in
theorem WC (n D:Int)(Ls:List LL)(r i:Nat)(C:LL)(X0:List af)(hc:cw Ls (r+1) i C (some X0))(hR:∃j,j<(Ls.getD i []).length∧64<(aH (fD n D Ls r i (C,(some X0)) j).2).length)(ih:∀C o,cw Ls r (i+1) C o→aJ Tryz.prog EV.ng (gA n D Ls r (i+1) C o)):An 7 Tryz.f12 [0,1,1] (Kf n D Ls r i C (some X0)):=by
 have hcc:=hc
 obtain⟨c1,c2,c3,c4,c5,c6,c7⟩:=hcc
 have c8:=(c5 i).2
 refine cN (cF (cV (sx ih) (dL _ _))) aC (Kc n D Ls i) (fun q=>(Ls.getD i []).length-q.1) (fun q=>gf n D Ls r i C (some X0) q.1 q.2.1 (some q.2.2)) ?_ ?_
 ·exact st (0,C,X0) (let t1:=Ls.getD i [];[rq (↑i:Int),sl t1,rq (↑t1.length:Int),(0:Int)=↑(0:Nat),rq C.length,C=C,n=n,D=D,rq X0.length,rq Ls.length,Ls=Ls,X0=X0]) Mo (by exact sP hc)
 ·rintro ⟨k,C1,X⟩ hI
  have eK:=qe ((Ls.getD i []).getD k z0l)
  have hI:gf n D Ls r i C (some X0) k C1 (some X):=hI
  have i1:=hI.1
  have i3:=hI.2.2.1
  have ek:=wk k
  have ei:=wk i
  refine oe (decide ((↑k:Int)<(↑(Ls.getD i []).length:Int))) (fun d1=>let y1:List Prop:=[(0:Int)≤↑k∧(↑k:Int)<(↑(Ls.getD i []).length:Int),ty d1];have u1:ao y1:=⟨?_,d1⟩;oe (decide ((↑X.length:Int)>64)) (fun d2=>br [true,true] (let v1:=(aK n D Ls (r+1) i (C,some X0));(C1.length=v1.fst.length)::(C1=v1.fst)::(n=n)::(D=D)::(X.length=(aH v1.snd).length)::rq Ls.length::(Ls=Ls)::(X=aH v1.snd)::ty d2::y1) ?_)
   (fun d2=>aq [true,false] (k+1,(aK n D Ls r (i+1) (C1.set i ((Ls.getD i []).getD k z0l),some X)).1,aH (aK n D Ls r (i+1) (C1.set i ((Ls.getD i []).getD k z0l),some X)).2) (let v6:=Ls.getD i [];let v1:=v6.getD k z0l;let v2:=cm aa.con v1.list.length fun i_1=>(v1.list.getD i_1 z0c).rvs;let v3:=(aK n D Ls r (i+1) (C1.set i (Loc.mk v1.prime v2),some X));let v4:=(aK n D Ls r (i+1) (C1.set i v1,some X));let v5:=C1.set i (Loc.mk v1.prime v2);rq (↑i:Int)::(sl v6)::rq (↑v6.length:Int)::(w6.wrap ((↑k:Int)+1)=↑(k+1))::(v3.fst.length=v4.fst.length)::(v3.fst=v4.fst)::(n=n)::(D=D)::((aH v3.snd).length=(aH v4.snd).length)::rq Ls.length::(Ls=Ls)::(aH v3.snd=aH v4.snd)::(cw Ls r (i+1) v5 (some X))::(w6.wrap ((↑i:Int)+1)=↑(i+1))::(C1.length=v5.length)::rq v5::(n=n)::(D=D)::rq X.length::rq Ls.length::(Ls=Ls)::(X=X)::(i<C1.length)::(∀(i_1:Nat),i_1<v1.list.length→(fun i_2=>(v1.list.getD i_2 z0c).rvs) i_1=aa.con.rvs (aa.con.of ((fun i_2=>(v1.list.getD i_2 z0c).rvs) i_1)))::((0:Int)≤↑i∧(↑i:Int)<↑C1.length)::ty d2::y1) ?_ ?_ ?_))
   (fun d1=>aT.no ?_)
  all_goals with_reducible repeat' first|exact dA|refine bk ?_ ?_|refine bm ?_
  all_goals first|exact tR|exact tX|exact Nv|exact tN
theorem Vf {n D:Int}{Ls:List LL}{r i:Nat}{C:LL}{o:cK}(hR:∃j,j<(Ls.getD i []).length∧64<(aH (fD n D Ls r i (C,o) j).2).length):(aK n D Ls (r+1) i (C,o)).2.isNone=false:=by
 obtain⟨j,j1,j2⟩:=hR
 rw[Eq j2]
 cases h:(fD n D Ls r i (C,o) j).2 with
 |none=>rw[h]at j2;exact absurd j2 de
 |some X=>rfl
theorem Et (n D:Int)(Ls:List LL)(r i:Nat)(C:LL)(o:cK):(∃j,j<(Ls.getD i []).length∧64<(aH (fD n D Ls r i (C,o) j).2).length)∨(∀j,j<(Ls.getD i []).length→(aH (fD n D Ls r i (C,o) j).2).length≤64):=by
 by_cases h:∃j,j<(Ls.getD i []).length∧64<(aH (fD n D Ls r i (C,o) j).2).length
 ·exact .inl h
 ·refine .inr fun j hj=>?_
  rcases bA 64 (aH (fD n D Ls r i (C,o) j).2).length with h1|h1
  ·exact absurd ⟨j,hj,h1⟩ h
  ·exact h1
theorem Xi (n D:Int)(Ls:List LL)(r i:Nat)(C:LL)(hc:cw Ls (r+1) i C none)(hz:(aK n D Ls (r+1) i (C,none)).2.isNone=true)(ih:∀C o,cw Ls r (i+1) C o→aJ Tryz.prog EV.ng (gA n D Ls r (i+1) C o)):aJ Tryz.prog EV.ng (gA n D Ls (r+1) i C none):=by
 have hcc:=hc
 obtain⟨c1,c2,c3,c4,c5,c6,c7⟩:=hcc
 have hy:((i:Int)==(C.length:Int))=false:=bJ.2 om
 refine cQ c0 Tryz.func12 (aW (Zc n D Ls r i C hc hz ih)) ?_
 intro d hd
 cases d
 rotate_right
 have hd:((aK n D Ls (r+1) i (C,none)).2.isNone)=true:=hd
 refine lr [false] (let v1:=Ls.getD i aa.loc.list.zero;let v2:=(aK n D Ls (r+1) i (C,none));[rq (v2.fst.length),rq (v2.fst),n=n,D=D,rq Ls.length,Ls=Ls,rq (↑i:Int),List.length v1=(Ls.getD i []).length∧(fun i_1=>aa.rvs aa.loc (List.getD v1 i_1 aa.loc.zero))=fun i_1=>((Ls.getD i []).getD i_1 Loc.zero).rvs,(↑(List.length v1):Int)=(↑(Ls.getD i []).length:Int),rq C.length,C=C,n=n,D=D,rq Ls.length,Ls=Ls,i<Ls.length,(0:Int)≤↑i∧(↑i:Int)<↑Ls.length,aj ((↑i:Int)==↑C.length) false]) ⟨?_,?_,?_,?_,?_,?_,?_,?_,?_,?_,?_,?_,?_,?_,?_,?_,?_,hy⟩
 rotate_right
 have hd:((aK n D Ls (r+1) i (C,none)).2.isNone)=false:=hd
 refine aT.no ?_
 all_goals first|exact tQ|exact tW
theorem Xj (n D:Int)(Ls:List LL)(r i:Nat)(C:LL)(hc:cw Ls (r+1) i C none)(hz:(aK n D Ls (r+1) i (C,none)).2.isNone=false)(hE:∀j,j<(Ls.getD i []).length→(aH (fD n D Ls r i (C,none) j).2).length≤64)(ih:∀C o,cw Ls r (i+1) C o→aJ Tryz.prog EV.ng (gA n D Ls r (i+1) C o)):aJ Tryz.prog EV.ng (gA n D Ls (r+1) i C none):=by
 have hcc:=hc
 obtain⟨c1,c2,c3,c4,c5,c6,c7⟩:=hcc
 have hy:((i:Int)==(C.length:Int))=false:=bJ.2 om
 refine cQ c0 Tryz.func12 (aW (Zd n D Ls r i C hc hz hE ih)) ?_
 intro d hd
 cases d
 rotate_right
 have hd:((aK n D Ls (r+1) i (C,none)).2.isNone)=true:=hd
 refine aT.no ?_
 rotate_right
 have hd:((aK n D Ls (r+1) i (C,none)).2.isNone)=false:=hd
 refine lr [false] (let v1:=(aK n D Ls (r+1) i (C,none));let v2:=Ls.getD i aa.loc.list.zero;[rq (v1.fst.length),rq (v1.fst),n=n,D=D,rq ((aH v1.snd).length),rq Ls.length,Ls=Ls,rq (aH v1.snd),rq (↑i:Int),List.length v2=(Ls.getD i []).length∧(fun i_1=>aa.rvs aa.loc (List.getD v2 i_1 aa.loc.zero))=fun i_1=>((Ls.getD i []).getD i_1 Loc.zero).rvs,(↑(List.length v2):Int)=(↑(Ls.getD i []).length:Int),rq C.length,C=C,n=n,D=D,rq Ls.length,Ls=Ls,i<Ls.length,(0:Int)≤↑i∧(↑i:Int)<↑Ls.length,aj ((↑i:Int)==↑C.length) false]) ⟨?_,?_,?_,?_,?_,?_,?_,?_,?_,?_,?_,?_,?_,?_,?_,?_,?_,?_,?_,hy⟩
 all_goals first|exact tQ|exact tW
theorem Xk (n D:Int)(Ls:List LL)(r i:Nat)(C:LL)(hc:cw Ls (r+1) i C none)(hR:∃j,j<(Ls.getD i []).length∧64<(aH (fD n D Ls r i (C,none) j).2).length)(ih:∀C o,cw Ls r (i+1) C o→aJ Tryz.prog EV.ng (gA n D Ls r (i+1) C o)):aJ Tryz.prog EV.ng (gA n D Ls (r+1) i C none):=by
 have hcc:=hc
 obtain⟨c1,c2,c3,c4,c5,c6,c7⟩:=hcc
 have hy:((i:Int)==(C.length:Int))=false:=bJ.2 om
 have hz:(aK n D Ls (r+1) i (C,none)).2.isNone=false:=Vf hR
 refine cQ c0 Tryz.func12 (aW (Ze n D Ls r i C hc hR ih)) ?_
 intro d hd
 cases d
 rotate_right
 have hd:((aK n D Ls (r+1) i (C,none)).2.isNone)=true:=hd
 refine aT.no ?_
 rotate_right
 have hd:((aK n D Ls (r+1) i (C,none)).2.isNone)=false:=hd
 refine lr [false] (let v1:=(aK n D Ls (r+1) i (C,none));let v2:=Ls.getD i aa.loc.list.zero;[rq (v1.fst.length),rq (v1.fst),n=n,D=D,rq ((aH v1.snd).length),rq Ls.length,Ls=Ls,rq (aH v1.snd),rq (↑i:Int),List.length v2=(Ls.getD i []).length∧(fun i_1=>aa.rvs aa.loc (List.getD v2 i_1 aa.loc.zero))=fun i_1=>((Ls.getD i []).getD i_1 Loc.zero).rvs,(↑(List.length v2):Int)=(↑(Ls.getD i []).length:Int),rq C.length,C=C,n=n,D=D,rq Ls.length,Ls=Ls,i<Ls.length,(0:Int)≤↑i∧(↑i:Int)<↑Ls.length,aj ((↑i:Int)==↑C.length) false]) ⟨?_,?_,?_,?_,?_,?_,?_,?_,?_,?_,?_,?_,?_,?_,?_,?_,?_,?_,?_,hy⟩
 all_goals first|exact tQ|exact tW
theorem Vg (n D:Int)(Ls:List LL)(r i:Nat)(C:LL)(X:List af)(hc:cw Ls (r+1) i C (some X))(hE:∀j,j<(Ls.getD i []).length→(aH (fD n D Ls r i (C,(some X)) j).2).length≤64)(ih:∀C o,cw Ls r (i+1) C o→aJ Tryz.prog EV.ng (gA n D Ls r (i+1) C o)):aJ Tryz.prog EV.ng (gA n D Ls (r+1) i C (some X)):=by
 have hcc:=hc
 obtain⟨c1,c2,c3,c4,c5,c6,c7⟩:=hcc
 have hy:((i:Int)==(C.length:Int))=false:=bJ.2 om
 refine cQ c0 Tryz.func12 (aW (WB n D Ls r i C X hc hE ih)) ?_
 intro d hd
 cases d
 ·exact Bool.noConfusion (show false=true from hd)
 ·refine lr [false] (let v1:=(aK n D Ls (r+1) i (C,some X));let v2:=Ls.getD i aa.loc.list.zero;[rq (v1.fst.length),rq (v1.fst),n=n,D=D,rq ((aH v1.snd).length),rq Ls.length,Ls=Ls,rq (aH v1.snd),rq (↑i:Int),List.length v2=(Ls.getD i []).length∧(fun i_1=>aa.rvs aa.loc (List.getD v2 i_1 aa.loc.zero))=fun i_1=>((Ls.getD i []).getD i_1 Loc.zero).rvs,(↑(List.length v2):Int)=(↑(Ls.getD i []).length:Int),rq C.length,C=C,n=n,D=D,rq X.length,rq Ls.length,Ls=Ls,X=X,i<Ls.length,(0:Int)≤↑i∧(↑i:Int)<↑Ls.length,aj ((↑i:Int)==↑C.length) false]) ⟨?_,?_,?_,?_,?_,?_,?_,?_,?_,?_,?_,?_,?_,?_,?_,?_,?_,?_,?_,?_,?_,hy⟩
  all_goals first|exact tQ|exact tW
theorem Vh (n D:Int)(Ls:List LL)(r i:Nat)(C:LL)(X:List af)(hc:cw Ls (r+1) i C (some X))(hR:∃j,j<(Ls.getD i []).length∧64<(aH (fD n D Ls r i (C,(some X)) j).2).length)(ih:∀C o,cw Ls r (i+1) C o→aJ Tryz.prog EV.ng (gA n D Ls r (i+1) C o)):aJ Tryz.prog EV.ng (gA n D Ls (r+1) i C (some X)):=by
 have hcc:=hc
 obtain⟨c1,c2,c3,c4,c5,c6,c7⟩:=hcc
 have hy:((i:Int)==(C.length:Int))=false:=bJ.2 om
 refine cQ c0 Tryz.func12 (aW (WC n D Ls r i C X hc hR ih)) ?_
 intro d hd
 cases d
 ·exact Bool.noConfusion (show false=true from hd)
 ·refine lr [false] (let v1:=(aK n D Ls (r+1) i (C,some X));let v2:=Ls.getD i aa.loc.list.zero;[rq (v1.fst.length),rq (v1.fst),n=n,D=D,rq ((aH v1.snd).length),rq Ls.length,Ls=Ls,rq (aH v1.snd),rq (↑i:Int),List.length v2=(Ls.getD i []).length∧(fun i_1=>aa.rvs aa.loc (List.getD v2 i_1 aa.loc.zero))=fun i_1=>((Ls.getD i []).getD i_1 Loc.zero).rvs,(↑(List.length v2):Int)=(↑(Ls.getD i []).length:Int),rq C.length,C=C,n=n,D=D,rq X.length,rq Ls.length,Ls=Ls,X=X,i<Ls.length,(0:Int)≤↑i∧(↑i:Int)<↑Ls.length,aj ((↑i:Int)==↑C.length) false]) ⟨?_,?_,?_,?_,?_,?_,?_,?_,?_,?_,?_,?_,?_,?_,?_,?_,?_,?_,?_,?_,?_,hy⟩
  all_goals first|exact tQ|exact tW
theorem Aq (n D:Int)(Ls:List LL):∀(r i:Nat)(C:LL)(o:cK),cw Ls r i C o→aJ Tryz.prog EV.ng (gA n D Ls r i C o)
 |0,i,C,none,hc=>X4 n D Ls i C hc
 |0,i,C,some X,hc=>X5 n D Ls i C X hc
 |r+1,i,C,none,hc=>by
  have ih:=Aq n D Ls r (i+1)
  rcases Et n D Ls r i C none with h|h
  ·exact Xk n D Ls r i C hc h ih
  ·cases hz:(aK n D Ls (r+1) i (C,none)).2.isNone with
   |true=>exact Xi n D Ls r i C hc hz ih
   |false=>exact Xj n D Ls r i C hc hz h ih
 |r+1,i,C,some X,hc=>by
  have ih:=Aq n D Ls r (i+1)
  rcases Et n D Ls r i C (some X)with h|h
  ·exact Vh n D Ls r i C X hc h ih
  ·exact Vg n D Ls r i C X hc h ih
def ba (a b:Int):Int:=if a<b then-1 else if b<a then 1 else 0
def fg (b:Bool):Int:=bif b then 1 else 0
def cP (a b:Int):Int:=if a=0 then b else a
def eT (c d:Con):Int:=cP (ba c.exp d.exp) (cP (ba c.dim d.dim) (cP (ba c.sign d.sign) (cP (ba (fg c.odd) (fg d.odd)) (ba c.oddity d.oddity))))
theorem Rf (a b:Int):ba b a=-ba a b:=by unfold ba;repeat' split<;>omega
theorem FT {a b c d:Int}(h1:c=-a)(h2:d=-b):cP c d=-cP a b:=by
 unfold cP;subst h1 h2;split<;>split<;>omega
theorem gr {a b:Int}(h:a=0):cP a b=b:=by unfold cP;rw[if_pos h]
theorem iY {a b:Int}(h:¬a=0):cP a b=a:=by unfold cP;rw[if_neg h]
def ev:LC→LC→Int
 |a::A,b::B=>cP (eT a b) (ev A B)
 |_,_=>0
def gQ (A B:LC):Int:=cP (ev A B) (ba A.length B.length)
def kG (p:Int)(A:LC)(q:Int)(B:LC):Int:=cP (ba p q) (gQ A B)
theorem pP {A B:LC}{k:Nat}(hA:k<A.length)(hB:k<B.length):ev (A.drop k) (B.drop k)=cP (eT (at_ A k) (at_ B k)) (ev (A.drop (k+1)) (B.drop (k+1))):=by
 rw[nh hA,nh hB,ev]
theorem uF {A B:LC}{k:Nat}(h:A.length≤k∨B.length≤k):ev (A.drop k) (B.drop k)=0:=by
 rcases h with h|h
 ·rw[eL h];simp[ev]
 ·rw[eL h];cases A.drop k<;>simp[ev]
theorem On (a b:Int):ar Tryz.prog [] 47 [.int .i64 a,.int .i64 b] (.int .i64 (ba a b)):=by
 refine pr c0 Tryz.func47 aC ?_
 refine oe (a==a) (fun d1=>oe (b==b) (fun d2=>oe (decide (a<b)) (fun d3=>lr (tp 221) [(-1:Int)=ba a b,ty d3,ty (dN d2),ty (dN d1)] ?_)
  (fun d3=>oe (decide (a>b)) (fun d4=>lr (tp 2221) [(1:Int)=ba a b,ty d4,ty d3,ty (dN d2),ty (dN d1)] ?_)
  (fun d4=>lr (tp 2222) [(0:Int)=ba a b,ty d4,ty d3,ty (dN d2),ty (dN d1)] ?_)))
  (fun d2=>lr [false,true] [(1:Int)=ba a b,ty (dN d2),ty (dN d1)] ?_))
  (fun d1=>oe (b==b) (fun d2=>lr [true,false] [(-1:Int)=ba a b,ty (dN d2),ty (dN d1)] ?_)
  (fun d2=>lr [true,true] [(0:Int)=ba a b,ty (dN d2),ty (dN d1)] ?_))
 all_goals with_reducible repeat' first|exact dA|refine bk ?_ ?_|refine bm ?_
 all_goals first|exact BZ
theorem Oo (a b:Int):ar Tryz.prog [] 48 [.int .i64 a,.int .i64 b] (.int .i64 (ba a b)):=by
 refine pr c0 Tryz.func48 aC ?_
 refine oe (a==a) (fun d1=>oe (b==b) (fun d2=>oe (decide (a<b)) (fun d3=>lr (tp 221) [(-1:Int)=ba a b,ty d3,ty (dN d2),ty (dN d1)] ?_)
  (fun d3=>oe (decide (a>b)) (fun d4=>lr (tp 2221) [(1:Int)=ba a b,ty d4,ty d3,ty (dN d2),ty (dN d1)] ?_)
  (fun d4=>lr (tp 2222) [(0:Int)=ba a b,ty d4,ty d3,ty (dN d2),ty (dN d1)] ?_)))
  (fun d2=>lr [false,true] [(1:Int)=ba a b,ty (dN d2),ty (dN d1)] ?_))
  (fun d1=>oe (b==b) (fun d2=>lr [true,false] [(-1:Int)=ba a b,ty (dN d2),ty (dN d1)] ?_)
  (fun d2=>lr [true,true] [(0:Int)=ba a b,ty (dN d2),ty (dN d1)] ?_))
 all_goals with_reducible repeat' first|exact dA|refine bk ?_ ?_|refine bm ?_
 all_goals first|exact BZ
theorem NV (a b:Bool):ar Tryz.prog [] 95 [.bool a,.bool b] (.int .i64 (ba (fg a) (fg b))):=by
 refine pr c0 Tryz.func95 aC ?_
 refine oe (a==b) (fun d1=>lr [true] [(0:Int)=ba (fg a) (fg b),ty d1] ⟨?_,d1⟩)
  (fun d1=>oe (b) (fun d2=>lr [false,true] [(-1:Int)=ba (fg a) (fg b),ty d2,ty d1] ⟨?_,d2,d1⟩)
  (fun d2=>lr [false,false] [(1:Int)=ba (fg a) (fg b),ty d2,ty d1] ⟨?_,d2,d1⟩))
 all_goals first|((cases a<;>cases b<;>first|rfl|(simp at d1;done)|(simp at d2;done)))
def sZ:List bV:=[
 ⟨47,[],fun A=>match A with
  |[.int .i64 a,.int .i64 b]=>some (.int .i64 (ba a b),[])
  |_=>none⟩,
 ⟨48,[],fun A=>match A with
  |[.int .i64 a,.int .i64 b]=>some (.int .i64 (ba a b),[])
  |_=>none⟩,
 ⟨95,[],fun A=>match A with
  |[.bool a,.bool b]=>some (.int .i64 (ba (fg a) (fg b)),[])
  |_=>none⟩]
theorem uG:∀e∈sZ,ch Tryz.prog e:=by
 intro e he
 simp only[sZ,bx,cC,cH]at he
 rcases he with rfl|rfl|rfl
 all_goals
  intro A R ms h hm
  simp only at h
  split at h
  all_goals first|exact fF|cases h
 ·exact On _ _
 ·exact Oo _ _
 ·exact NV _ _
theorem Oq (c d:Con):ar Tryz.prog [] 94 [.agg c.rvs,.agg d.rvs] (.int .i64 (eT c d)):=by
 refine pr (cE uG) Tryz.func94 aC ?_
 refine(let y1:List Prop:=[rq d.oddity,rq d.oddity,rq d.oddity,rq d.oddity,rq c.oddity,rq c.oddity,rq c.oddity,rq c.oddity,d.odd=d.odd,d.odd=d.odd,d.odd=d.odd,c.odd=c.odd,c.odd=c.odd,c.odd=c.odd,rq d.sign,rq d.sign,rq c.sign,rq c.sign,d.dim=d.dim,c.dim=c.dim];have u1:ao y1:=⟨?_,?_,?_,?_,?_,?_,?_,?_,?_,?_,?_,?_,?_,?_,?_,?_,?_,?_,?_,(?_:c.dim=c.dim)⟩;oe (ba c.exp d.exp==0) (fun d1=>oe (ba c.dim d.dim==0) (fun d2=>let y2:List Prop:=ty (dN d2)::ty (dN d1)::y1;have u2:ao y2:=⟨(dN d2),(dN d1),u1⟩;oe (ba c.sign d.sign==0) (fun d3=>oe (ba (fg c.odd) (fg d.odd)==0) (fun d4=>oe (ba c.oddity d.oddity==0) (fun d5=>lr (tp 22222) (((0:Int)=eT c d)::ty (dN d5)::ty (dN d4)::ty (dN d3)::y2) ?_)
  (fun d5=>lr (tp 22221) ((ba c.oddity d.oddity=eT c d)::ty (dN d5)::ty (dN d4)::ty (dN d3)::y2) ?_))
  (fun d4=>lr (tp 2221) ((ba (fg c.odd) (fg d.odd)=eT c d)::ty (dN d4)::ty (dN d3)::y2) ?_))
  (fun d3=>lr (tp 221) ((ba c.sign d.sign=eT c d)::ty (dN d3)::y2) ?_))
  (fun d2=>lr [false,true] ((ba c.dim d.dim=eT c d)::ty (dN d2)::ty (dN d1)::y1) ?_))
  (fun d1=>lr [true] ((ba c.exp d.exp=eT c d)::ty (dN d1)::y1) ?_))
 all_goals with_reducible repeat' first|exact dA|refine bk ?_ ?_|refine bm ?_
 all_goals((try clear u2);(try clear y2);(try clear u1);(try clear y1))
 all_goals first|exact LT
def Yx:List bV:=sZ++[
 ⟨94,[],fun A=>match A with
  |[.agg [.int .i64 e0,.int .i64 d0,.int .i64 s0,.bool o0,.int .i64 t0],.agg [.int .i64 e1,.int .i64 d1,.int .i64 s1,.bool o1,.int .i64 t1]]=>some (.int .i64 (eT ⟨e0,d0,s0,o0,t0⟩ ⟨e1,d1,s1,o1,t1⟩),[])
  |_=>none⟩]
theorem EU:∀e∈Yx,ch Tryz.prog e:=by
 intro e he
 rcases dV.1 he with he|he
 ·exact uG e he
 simp only[bx,cC,cH]at he
 subst he
 intro A R ms h hm
 simp only at h
 split at h
 ·cases h
  exact Oq ⟨_,_,_,_,_⟩ ⟨_,_,_,_,_⟩
 ·cases h
def Lu (A B:LC):List (Nat×AV):=[(0,(aD A).av),(1,(aD B).av),(2,.fn 94 []),(11,(aD A).av),(12,vi A.length)]
def gZ (A B:LC):Int:=if ev A B=0 then(if B.length<A.length then 1 else 0)else ev A B
def Yy (A B:LC):aA:=⟨⟨(13,.int .i64 0)::Lu A B,[],1100⟩,some (gZ A B==0),fun d=>match d with
 |true=>(.exit 0,⟨[(0,(aD A).av),(1,(aD B).av)],[],1100⟩)
 |false=>(.ret,⟨[(6,vi (gZ A B))],[],1100⟩)⟩
theorem AF {A B:LC}(h:ev A B=0)(h2:B.length<A.length):gZ A B=1:=by unfold gZ;rw[if_pos h,if_pos h2]
theorem IU {A B:LC}(h:ev A B=0)(h2:¬B.length<A.length):gZ A B=0:=by unfold gZ;rw[if_pos h,if_neg h2]
theorem AG {A B:LC}(h:¬ev A B=0):gZ A B=ev A B:=by unfold gZ;rw[if_neg h]
theorem TO (A B:LC)(hA:A.length≤1000)(hB:B.length≤1000):An 3 Tryz.f93 [0,1,0,1] (Yy A B):=by
 refine ea (cE EU) aC (fun(k:Nat)=>(⟨(13,vi k)::Lu A B,[],1100⟩:St)) (fun(k:Nat)=>(A.length-k:Nat)) (fun(d:Bool)=>fun(k:Nat)=>(k≤A.length∧(k≤B.length∨A.length=0)∧ev (A.drop k) (B.drop k)=ev A B∧d=(gZ A B==0):Prop)) ?_ ?_
 ·intro d hd
  exact st (0) [(0:Int)=↑(0:Nat),lq A,lq B,lq A,rq (↑A.length:Int)] (by refine⟨?_,?_,?_,?_,(?_:(↑A.length:Int)=↑A.length)⟩<;>(first|rfl|exact⟨rfl,rfl⟩|assumption|omega|simp_all)) (by exact⟨aY _,.inl (aY _),rfl,hd.symm⟩)
 ·rintro d hd k hI
  obtain⟨hk,hkB,hs,hD⟩:=hI
  have ek:IntKind.i64.wrap ((k:Int)+1)=((k+1:Nat):Int):=by rw[wo];omega
  refine oe (decide ((↑k:Int)<↑A.length)) (fun d1=>let y1:List Prop:=[(0:Int)≤↑k∧(↑k:Int)<↑A.length,ty d1];have u1:ao y1:=⟨?_,d1⟩;oe (decide ((↑k:Int)≥↑B.length)) (fun d2=>aG d false [true,true] (((1:Int)=gZ A B)::ty d2::y1) ⟨?_,d2,u1⟩ ?_)
   (fun d2=>let y2:List Prop:=((0:Int)≤↑k∧(↑k:Int)<↑B.length)::ty d2::y1;have u2:ao y2:=⟨?_,d2,u1⟩;oe (eT (A.getD k Con.zero) (B.getD k Con.zero)==0) (fun d3=>aq (tp 122) (k+1) ((IntKind.i64.wrap ((↑k:Int)+1)=↑(k+1))::(lq A)::(lq B)::(lq A)::rq (↑A.length:Int)::ty (dN d3)::y2) ⟨?_,?_,?_,?_,?_,(dN d3),u2⟩ ?_ ?_)
   (fun d3=>aG d false (tp 121) ((eT (A.getD k Con.zero) (B.getD k Con.zero)=gZ A B)::ty (dN d3)::y2) ⟨?_,(dN d3),u2⟩ ?_)))
   (fun d1=>aG d true [false] [lq A,lq B,ty d1] ⟨?_,?_,d1⟩ ?_)
  all_goals((try clear u2);(try clear y2);(try clear u1);(try clear y1))
  all_goals first|exact Cj|(refine bD.mk ?_;(simp only[dT,dF,b6,ge_iff_le]at*;rw[pP om om,gr aS]at hs;exact⟨om,om,hs,hD⟩))|(refine dq.mk ?_;cases d<;>first|rfl|(exfalso;(simp only[bt,dT,dF,b6,bJ,ne_eq,ge_iff_le]at*;first|(rw[uF om]at hs;rw[IU hs.symm om]at hD;cases hD;done)|(rw[uF om]at hs;rw[AF hs.symm om]at hD;cases hD;done)|(rw[pP om om,iY aS]at hs;rw[AG xD,←hs]at hD;have:=hD.symm;rw[b6]at this;exact absurd this aS))))|(first|exact tr|exact lS|((try simp only[ek,bt,dT,dF,b6,bJ,ne_eq,ge_iff_le]at*)<;>first|omega|(rw[uF om]at hs;rw[AF hs.symm om];done)|(rw[pP om om,iY aS]at hs;rw[AG xD,←hs])))
theorem z8 {A B:LC}(h:gZ A B=0):ev A B=0∧¬B.length<A.length:=by
 unfold gZ at h
 split at h
 ·rename_i h1
  split at h
  ·omega
  ·exact⟨h1,aS⟩
 ·contradiction
theorem Yz {A B:LC}(h:¬gZ A B=0):gZ A B=gQ A B:=by
 unfold gQ
 by_cases h1:ev A B=0
 ·rw[gr h1]
  by_cases h2:B.length<A.length
  ·rw[AF h1 h2];unfold ba;rw[if_neg om,if_pos om]
  ·exact absurd (IU h1 h2) h
 ·rw[iY h1,AG h1]
theorem YE {A B:LC}(h:gZ A B=0)(h2:A.length<B.length):-1=gQ A B:=by
 unfold gQ;rw[gr (z8 h).1];unfold ba;rw[if_pos om]
theorem YF {A B:LC}(h:gZ A B=0)(h2:¬A.length<B.length):0=gQ A B:=by
 have:=(z8 h).2
 unfold gQ;rw[gr (z8 h).1];unfold ba;rw[if_neg om,if_neg om]
theorem TP (A B:LC)(hA:A.length≤1000)(hB:B.length≤1000):j8 Tryz.prog [] 93 [94] [aD A,aD B] (.int .i64 (gQ A B)):=by
 have rr:=fun(tp:List Bool)(ms:List Prop)h hm=>DS fB (j6 fB (fq EU) 8) Tryz.func93 (A:=[aD A,aD B]) (gs:=[94]) (N:=Nat.max 3 Tryz.f93.ntmps) rfl (aW (TO A B hA hB)) rfl rfl lJ (tabs:=[]) (R:=.int .i64 (gQ A B)) (tp:=tp) (ms:=ms) h hm
 refine oe (gZ A B==0) (fun d1=>let y1:List Prop:=[lq A,lq B,lq A,rq (↑A.length:Int),ty d1];have u1:ao y1:=⟨?_,?_,?_,?_,d1⟩;oe (decide ((↑A.length:Int)<↑B.length)) (fun d2=>rr [true,true] (((-1:Int)=gQ A B)::ty d2::y1) kr ⟨?_,d2,u1⟩)
  (fun d2=>rr [true,false] (((0:Int)=gQ A B)::ty d2::y1) kr ⟨?_,d2,u1⟩))
  (fun d1=>rr [false] [gZ A B=gQ A B,lq A,lq B,lq A,rq (↑A.length:Int),ty d1] kr ⟨?_,?_,?_,?_,?_,d1⟩)
 all_goals((try clear u1);(try clear y1))
 all_goals first|(first|exact tr|exact lS|((try simp only[b6,bJ,ne_eq,dT,dF]at*)<;>first|exact Yz d1|exact YE d1 om|exact YF d1 om))
def Bl:List RV→Option (RV×List Prop):=fun A=>match A with
 |[.sl n 5 row,.sl m 5 row']=>some (.int .i64 (gQ (ag n row) (ag m row')),[(∀i,i<n→row i=(Con.ofR (row i)).rvs)∧(∀i,i<m→row' i=(Con.ofR (row' i)).rvs)∧n≤1000∧m≤1000])
 |_=>none
theorem j8.imp {P:Program}{tabs:List Tb}{f:Nat}{gs:List Nat}{A A':List RV}{R:RV}(h:j8 P tabs f gs A' R)(ha:nu A A'):j8 P tabs f gs A R:=
 ⟨h.1,fun w F Args ht hF hr=>h.2 w F Args ht hF (ha F Args hr)⟩
theorem TQ:∀A R ms,Bl A=some (R,ms)→(∀p∈ms,p)→j8 Tryz.prog [] 93 [94] A R:=by
 intro A R ms h hm
 unfold Bl at h
 split at h
 ·cases h
  obtain⟨h1,h2,h3,h4⟩:=ay hm
  exact j8.imp (TP _ _ mN xA) (.cons (.con h1) (.cons (.con h2) .nil))
 ·cases h
def YG:bF:=wz EV.ng 93 2 [94] [] Bl (qy EV.ng sZ)
theorem Rg:ce Tryz.prog EV.ng YG:=FI TQ (fq uG)
theorem PI (p q:Int)(A B:LC)(hA:A.length≤1000)(hB:B.length≤1000):ar Tryz.prog [] 50 [.agg [.int .i64 p,aD A],.agg [.int .i64 q,aD B]] (.int .i64 (kG p A q B)):=by
 refine pr (cF Rg) Tryz.func50 aC ?_
 refine oe (ba p q==0) (fun d1=>lr [false] [gQ (ag A.length fun i=>(A.getD i Con.zero).rvs) (ag B.length fun i=>(B.getD i Con.zero).rvs)=kG p A q B,(lz A)∧(lz B)∧A.length≤1000∧B.length≤1000,ty (dN d1)] ⟨?_,?_,(dN d1)⟩)
  (fun d1=>lr [true] [ba p q=kG p A q B,ty (dN d1)] ⟨?_,(dN d1)⟩)
 all_goals first|(first|exact tr|exact lS|exact⟨fun _ _=>rfl,fun _ _=>rfl,hA,hB⟩|((try simp only[bn,b6,bJ,ne_eq]at*)<;>(unfold kG;first|(rw[iY aS];done)|(rw[gr aS];done))))
def jp (x y:QfSy.Loc):Int:=kG x.prime x.list y.prime y.list
def eh:LL→LL→Int
 |a::A,b::B=>cP (jp a b) (eh A B)
 |_,_=>0
def gR (A B:LL):Int:=cP (eh A B) (ba A.length B.length)
def cX (g h:af):Int:=cP (ba g.dim h.dim) (cP (ba g.det h.det) (gR g.locs h.locs))
theorem Fa {A:LL}{k:Nat}(h:k<A.length):A.drop k=A.getD k z0l::A.drop (k+1):=by
 rw[kU h,cj,eb h];rfl
theorem pS {A B:LL}{k:Nat}(hA:k<A.length)(hB:k<B.length):eh (A.drop k) (B.drop k)=cP (jp (A.getD k z0l) (B.getD k z0l)) (eh (A.drop (k+1)) (B.drop (k+1))):=by
 rw[Fa hA,Fa hB,eh]
theorem uM {A B:LL}{k:Nat}(h:A.length≤k∨B.length≤k):eh (A.drop k) (B.drop k)=0:=by
 rcases h with h|h
 ·rw[eL h];simp[eh]
 ·rw[eL h];cases A.drop k<;>simp[eh]
def HP:List bV:=[
 ⟨50,[],fun A=>match A with
  |[.agg [.int .i64 p,.sl n 5 row],.agg [.int .i64 q,.sl m 5 row']]=>some (.int .i64 (jp ⟨p,ag n row⟩ ⟨q,ag m row'⟩),[(∀i,i<n→row i=(Con.ofR (row i)).rvs)∧(∀i,i<m→row' i=(Con.ofR (row' i)).rvs)∧n≤1000∧m≤1000])
  |_=>none⟩]
theorem El:∀e∈HP,ch Tryz.prog e:=by
 intro e he
 simp only[HP,bx,cC,cH]at he
 subst he
 intro A R ms h hm
 simp only at h
 split at h
 ·cases h
  obtain⟨h1,h2,h3,h4⟩:=ay hm
  exact ar.imp (PI _ _ _ _ mN xA) (.cons (.agg (.cons .same (.cons (.con h1) .nil))) (.cons (.agg (.cons .same (.cons (.con h2) .nil))) .nil))
 ·cases h
def NJ (A B:LL):List (Nat×AV):=[(0,(dR A).av),(1,(dR B).av),(2,.fn 50 []),(11,(dR A).av),(12,vi A.length)]
def io (A B:LL):Int:=if eh A B=0 then(if B.length<A.length then 1 else 0)else eh A B
def Z7 (A B:LL):aA:=⟨⟨(13,.int .i64 0)::NJ A B,[],1100⟩,some (io A B==0),fun d=>match d with
 |true=>(.exit 0,⟨[(0,(dR A).av),(1,(dR B).av)],[],1100⟩)
 |false=>(.ret,⟨[(6,vi (io A B))],[],1100⟩)⟩
theorem wb {A B:LL}(h:eh A B=0)(h2:B.length<A.length):io A B=1:=by unfold io;rw[if_pos h,if_pos h2]
theorem Jj {A B:LL}(h:eh A B=0)(h2:¬B.length<A.length):io A B=0:=by unfold io;rw[if_pos h,if_neg h2]
theorem wc {A B:LL}(h:¬eh A B=0):io A B=eh A B:=by unfold io;rw[if_neg h]
theorem rV {L:LL}(hL:∀l∈L,l.list.length≤1000)(j:Nat):(L.getD j z0l).list.length≤1000:=by
 rw[cj]
 rcases bA j L.length with h|h
 ·rw[eb h];exact hL _ (fp h)
 ·rw[gL h];exact aY _
theorem UB (A B:LL)(hA:A.length≤1000)(hB:B.length≤1000)(hAL:∀l∈A,l.list.length≤1000)(hBL:∀l∈B,l.list.length≤1000):An 3 Tryz.f49 [0,1,0,1] (Z7 A B):=by
 refine ea (cE El) aC (fun(k:Nat)=>(⟨(13,vi k)::NJ A B,[],1100⟩:St)) (fun(k:Nat)=>(A.length-k:Nat)) (fun(d:Bool)=>fun(k:Nat)=>(k≤A.length∧(k≤B.length∨A.length=0)∧eh (A.drop k) (B.drop k)=eh A B∧d=(io A B==0):Prop)) ?_ ?_
 ·intro d hd
  exact st (0) [(0:Int)=↑(0:Nat),sl A,sl B,sl A,rq (↑A.length:Int)] (by refine⟨?_,?_,?_,?_,(?_:(↑A.length:Int)=↑A.length)⟩<;>(first|rfl|assumption|exact⟨rfl,rfl⟩|omega|simp_all)) (by exact⟨aY _,.inl (aY _),rfl,hd.symm⟩)
 ·rintro d hd k hI
  obtain⟨hk,hkB,hs,hD⟩:=hI
  have ek:IntKind.i64.wrap ((k:Int)+1)=((k+1:Nat):Int):=by rw[wo];omega
  refine oe (decide ((↑k:Int)<↑A.length)) (fun d1=>let y1:List Prop:=[(0:Int)≤↑k∧(↑k:Int)<↑A.length,ty d1];have u1:ao y1:=⟨?_,d1⟩;oe (decide ((↑k:Int)≥↑B.length)) (fun d2=>aG d false [true,true] (((1:Int)=io A B)::ty d2::y1) ⟨?_,d2,u1⟩ ?_)
   (fun d2=>let y2:List Prop:=(let v1:=A.getD k z0l;let v2:=B.getD k z0l;((∀(i:Nat),i<v1.list.length→(fun i=>(v1.list.getD i Con.zero).rvs) i=(Con.ofR ((fun i=>(v1.list.getD i Con.zero).rvs) i)).rvs)∧(∀(i:Nat),i<v2.list.length→(fun i=>(v2.list.getD i Con.zero).rvs) i=(Con.ofR ((fun i=>(v2.list.getD i Con.zero).rvs) i)).rvs)∧v1.list.length≤1000∧v2.list.length≤1000)::((0:Int)≤↑k∧(↑k:Int)<↑B.length)::ty d2::y1);have u2:ao y2:=⟨?_,?_,d2,u1⟩;oe (jp (Loc.mk (A.getD k z0l).prime (ag (A.getD k z0l).list.length fun i=>((A.getD k z0l).list.getD i Con.zero).rvs)) (Loc.mk (B.getD k z0l).prime (ag (B.getD k z0l).list.length fun i=>((B.getD k z0l).list.getD i Con.zero).rvs))==0) (fun d3=>aq (tp 122) (k+1) ((IntKind.i64.wrap ((↑k:Int)+1)=↑(k+1))::(sl A)::(sl B)::(sl A)::rq (↑A.length:Int)::ty (dN d3)::y2) ⟨?_,?_,?_,?_,?_,(dN d3),u2⟩ ?_ ?_)
   (fun d3=>aG d false (tp 121) (let v1:=A.getD k z0l;let v2:=B.getD k z0l;(jp (Loc.mk v1.prime (ag v1.list.length fun i=>(v1.list.getD i Con.zero).rvs)) (Loc.mk v2.prime (ag v2.list.length fun i=>(v2.list.getD i Con.zero).rvs))=io A B)::ty (dN d3)::y2) ⟨?_,(dN d3),u2⟩ ?_)))
   (fun d1=>aG d true [false] [sl A,sl B,ty d1] ⟨?_,?_,d1⟩ ?_)
  all_goals((try clear u2);(try clear y2);(try clear u1);(try clear y1))
  all_goals first|exact Cj|(refine bD.mk ?_;(simp only[bn,dT,dF,b6,ge_iff_le]at*;rw[pS om om,gr aS]at hs;exact⟨om,om,hs,hD⟩))|(refine dq.mk ?_;cases d<;>first|rfl|(exfalso;(simp only[bn,bt,dT,dF,b6,bJ,ne_eq,ge_iff_le]at*;first|(rw[uM om]at hs;rw[Jj hs.symm om]at hD;cases hD;done)|(rw[uM om]at hs;rw[wb hs.symm om]at hD;cases hD;done)|(rw[pS om om,iY aS]at hs;rw[wc xD,←hs]at hD;have:=hD.symm;rw[b6]at this;exact absurd this aS))))|(first|exact tr|exact lS|exact⟨fun _ _=>rfl,fun _ _=>rfl,rV hAL k,rV hBL k⟩|((try simp only[bn,ek,bt,dT,dF,b6,bJ,ne_eq,ge_iff_le]at*)<;>first|omega|(rw[uM om]at hs;rw[wb hs.symm om];done)|(rw[pS om om,iY aS]at hs;rw[wc xD,←hs])))
theorem Ak {A B:LL}(h:io A B=0):eh A B=0∧¬B.length<A.length:=by
 by_cases h1:eh A B=0
 ·refine⟨h1,fun h2=>?_⟩
  rw[wb h1 h2]at h;cases h
 ·rw[wc h1]at h;exact absurd h h1
theorem Z8 {A B:LL}(h:¬io A B=0):io A B=gR A B:=by
 unfold gR
 by_cases h1:eh A B=0
 ·rw[gr h1]
  by_cases h2:B.length<A.length
  ·rw[wb h1 h2];unfold ba;rw[if_neg om,if_pos om]
  ·exact absurd (Jj h1 h2) h
 ·rw[wc h1,iY h1]
theorem Z9 {A B:LL}(h:io A B=0)(h2:A.length<B.length):-1=gR A B:=by
 unfold gR;rw[gr (Ak h).1];unfold ba;rw[if_pos om]
theorem aaa {A B:LL}(h:io A B=0)(h2:¬A.length<B.length):0=gR A B:=by
 have:=(Ak h).2
 unfold gR;rw[gr (Ak h).1];unfold ba;rw[if_neg om,if_neg om]
theorem UC (A B:LL)(hA:A.length≤1000)(hB:B.length≤1000)(hAL:∀l∈A,l.list.length≤1000)(hBL:∀l∈B,l.list.length≤1000):j8 Tryz.prog [] 49 [50] [dR A,dR B] (.int .i64 (gR A B)):=by
 have rr:=fun(tp:List Bool)(ms:List Prop)h hm=>DS fB (j6 fB (fq El) 8) Tryz.func49 (A:=[dR A,dR B]) (gs:=[50]) (N:=Nat.max 3 Tryz.f49.ntmps) rfl (aW (UB A B hA hB hAL hBL)) rfl rfl lJ (tabs:=[]) (R:=.int .i64 (gR A B)) (tp:=tp) (ms:=ms) h hm
 refine oe (io A B==0) (fun d1=>let y1:List Prop:=[sl A,sl B,sl A,rq (↑A.length:Int),ty d1];have u1:ao y1:=⟨?_,?_,?_,?_,d1⟩;oe (decide ((↑A.length:Int)<↑B.length)) (fun d2=>rr [true,true] (((-1:Int)=gR A B)::ty d2::y1) kr ⟨?_,d2,u1⟩)
  (fun d2=>rr [true,false] (((0:Int)=gR A B)::ty d2::y1) kr ⟨?_,d2,u1⟩))
  (fun d1=>rr [false] [io A B=gR A B,sl A,sl B,sl A,rq (↑A.length:Int),ty d1] kr ⟨?_,?_,?_,?_,?_,d1⟩)
 all_goals((try clear u1);(try clear y1))
 all_goals first|(first|exact tr|exact lS|((try simp only[b6,bJ,ne_eq,dT,dF]at*)<;>first|exact Z8 d1|exact Z9 d1 om|exact aaa d1 om))
def Bv:List RV→Option (RV×List Prop):=fun A=>match A with
 |[.sl n 2 row,.sl m 2 row']=>some (.int .i64 (gR (bb n row) (bb m row')),[(∀i,i<n→row i=aa.loc.rvs (aa.loc.of (row i)))∧(∀i,i<m→row' i=aa.loc.rvs (aa.loc.of (row' i)))∧n≤1000∧m≤1000∧(∀l∈bb n row,l.list.length≤1000)∧∀l∈bb m row',l.list.length≤1000])
 |_=>none
theorem UD:∀A R ms,Bv A=some (R,ms)→(∀p∈ms,p)→j8 Tryz.prog [] 49 [50] A R:=by
 intro A R ms h hm
 unfold Bv at h
 split at h
 ·cases h
  obtain⟨h1,h2,h3,h4,h5,h6⟩:=ay hm
  exact j8.imp (UC (bb _ _) (bb _ _) (by simpa [bb]using h3) (by simpa [bb]using h4) h5 h6) (.cons (fN.vals .loc h1) (.cons (fN.vals .loc h2) .nil))
 ·cases h
def aab:bF:=wz EV.ng 49 2 [50] [] Bv (qy EV.ng sZ)
theorem R2:ce Tryz.prog EV.ng aab:=FI UD (fq uG)
theorem P6 (g u:af)(hg:g.locs.length≤1000∧∀l∈g.locs,l.list.length≤1000)(hh:u.locs.length≤1000∧∀l∈u.locs,l.list.length≤1000):ar Tryz.prog [] 15 [.agg g.rvs,.agg u.rvs] (.int .i64 (cX g u)):=by
 refine pr (cF R2) Tryz.func15 aC ?_
 refine(let y1:List Prop:=[u.det=u.det,g.det=g.det];have u1:ao y1:=⟨?_,(?_:g.det=g.det)⟩;oe (ba g.dim u.dim==0) (fun d1=>oe (ba g.det u.det==0) (fun d2=>lr [false,false] (let v1:=(1000:Nat);(gR (bb g.locs.length fun i=>(g.locs.getD i z0l).rvs) (bb u.locs.length fun i=>(u.locs.getD i z0l).rvs)=cX g u)::((∀(i:Nat),i<g.locs.length→(fun i=>(g.locs.getD i z0l).rvs) i=aa.loc.rvs (aa.loc.of ((fun i=>(g.locs.getD i z0l).rvs) i)))∧(∀(i:Nat),i<u.locs.length→(fun i=>(u.locs.getD i z0l).rvs) i=aa.loc.rvs (aa.loc.of ((fun i=>(u.locs.getD i z0l).rvs) i)))∧g.locs.length≤v1∧u.locs.length≤v1∧(∀(l:QfSy.Loc),(l∈bb g.locs.length fun i=>(g.locs.getD i z0l).rvs)→l.list.length≤v1)∧∀(l:QfSy.Loc),(l∈bb u.locs.length fun i=>(u.locs.getD i z0l).rvs)→l.list.length≤v1)::ty (dN d2)::ty (dN d1)::y1) ⟨?_,?_,(dN d2),(dN d1),u1⟩)
  (fun d2=>lr (tp 211) ((ba g.det u.det=cX g u)::ty (dN d2)::ty (dN d2)::ty (dN d1)::y1) ⟨?_,(dN d2),(dN d2),(dN d1),u1⟩))
  (fun d1=>lr [true,true] ((ba g.dim u.dim=cX g u)::ty (dN d1)::ty (dN d1)::y1) ⟨?_,(dN d1),(dN d1),u1⟩))
 all_goals((try clear u1);(try clear y1))
 all_goals first|(first|exact tr|exact lS|exact⟨g8 g.locs,g8 u.locs,hg.1,hh.1,by rw[f9];exact hg.2,by rw[f9];exact hh.2⟩|((try simp only[f9,b6,bJ,ne_eq]at*)<;>(unfold cX;first|(rw[gr aS,gr aS];done)|(rw[gr aS,iY aS];done)|(rw[iY aS];done))))
structure kO {α:Type}(c:α→α→Int):Prop where
 neg:∀x y,c y x=-c x y
 tr:∀x y z,c x y≤0→c y z≤0→c x z≤0∧(c x z=0→c x y=0∧c y z=0)
theorem UU {a b c:Int}(h1:ba a b≤0)(h2:ba b c≤0):ba a c≤0∧(ba a c=0→ba a b=0∧ba b c=0):=by
 have k:∀x y,(x<y∧ba x y=-1)∨(x=y∧ba x y=0)∨(y<x∧ba x y=1):=by
  intro x y;unfold ba;split
  ·omega
  ·split<;>omega
 rcases k a b with⟨p,e⟩|⟨p,e⟩|⟨p,e⟩<;>rcases k b c with⟨q,f⟩|⟨q,f⟩|⟨q,f⟩<;>rcases k a c with⟨r,g⟩|⟨r,g⟩|⟨r,g⟩<;>omega
theorem HX {a b c d e f:Int}(h:a≤0→b≤0→c≤0∧(c=0→a=0∧b=0))(k:d≤0→e≤0→f≤0∧(f=0→d=0∧e=0))(h1:cP a d≤0)(h2:cP b e≤0):cP c f≤0∧(cP c f=0→cP a d=0∧cP b e=0):=by
 unfold cP at*
 split at h1<;>split at h2<;>split<;>omega
theorem ord_key {α:Type}(f:α→Int):kO (fun x y=>ba (f x) (f y)):=⟨fun x y=>Rf _ _,fun x y z h1 h2=>UU h1 h2⟩
theorem oS {α:Type}{c d:α→α→Int}(h1:kO c)(h2:kO d):kO (fun x y=>cP (c x y) (d x y)):=
 ⟨fun x y=>FT (h1.neg x y) (h2.neg x y),fun x y z k1 k2=>HX (h1.tr x y z) (h2.tr x y z) k1 k2⟩
theorem HY {α β:Type}{c:β→β→Int}(h:kO c)(f:α→β):kO (fun x y=>c (f x) (f y)):=⟨fun x y=>h.neg _ _,fun x y z=>h.tr _ _ _⟩
def jO {α:Type}(c:α→α→Int):List α→List α→Int
 |[],[]=>0
 |[],_::_=>-1
 |_::_,[]=>1
 |a::A,b::B=>cP (c a b) (jO c A B)
theorem Gq {α:Type}{c:α→α→Int}(h:kO c):kO (jO c):=by
 constructor
 ·intro x
  induction x with
  |nil=>intro y;cases y<;>rfl
  |cons a A ih=>intro y;cases y with
   |nil=>rfl
   |cons b B=>exact FT (h.neg a b) (ih B)
 ·intro x
  induction x with
  |nil=>
   intro y z h1 h2
   cases y with
   |nil=>exact⟨h2,fun e=>⟨rfl,e⟩⟩
   |cons b B=>cases z with
    |nil=>exact absurd h2 (by simp[jO])
    |cons e E=>exact⟨by simp[jO],fun e=>by simp[jO]at e⟩
  |cons a A ih=>
   intro y z h1 h2
   cases y with
   |nil=>exact absurd h1 (by simp[jO])
   |cons b B=>cases z with
    |nil=>exact absurd h2 (by simp[jO])
    |cons e E=>exact HX (h.tr a b e) (ih B E) h1 h2
theorem HZ (a b c:Int):cP (cP a b) c=cP a (cP b c):=by
 unfold cP
 by_cases h:a=0
 ·rw[if_pos h,if_pos h]
 ·rw[if_neg h,if_neg h,if_neg h]
theorem Jt (a b:Nat):ba ((a+1:Nat):Int) ((b+1:Nat):Int)=ba (a:Int) (b:Int):=by
 unfold ba;repeat' split<;>omega
theorem Ju (b:Nat):ba ((0:Nat):Int) ((b+1:Nat):Int)=-1:=by unfold ba;rw[if_pos om]
theorem Jv (b:Nat):ba ((b+1:Nat):Int) ((0:Nat):Int)=1:=by unfold ba;rw[if_neg om,if_pos om]
theorem Em:∀A B:List Con,gQ A B=jO eT A B
 |[],[]=>rfl
 |[],b::B=>by unfold gQ;exact(gr (by simp[ev])).trans (Ju B.length)
 |a::A,[]=>by unfold gQ;exact(gr (by simp[ev])).trans (Jv A.length)
 |a::A,b::B=>by
  have ih:=Em A B
  unfold gQ at ih⊢
  rw[ev,jO,HZ,←ih]
  exact congrArg (fun s=>cP (eT a b) (cP (ev A B) s)) (Jt A.length B.length)
theorem En:∀A B:List QfSy.Loc,gR A B=jO jp A B
 |[],[]=>rfl
 |[],b::B=>by unfold gR;exact(gr (by simp[eh])).trans (Ju B.length)
 |a::A,[]=>by unfold gR;exact(gr (by simp[eh])).trans (Jv A.length)
 |a::A,b::B=>by
  have ih:=En A B
  unfold gR at ih⊢
  rw[eh,jO,HZ,←ih]
  exact congrArg (fun s=>cP (jp a b) (cP (eh A B) s)) (Jt A.length B.length)
theorem UV:kO eT:=oS (ord_key fun c:Con=>c.exp) (oS (ord_key fun c:Con=>c.dim) (oS (ord_key fun c:Con=>c.sign) (oS (ord_key fun c:Con=>fg c.odd) (ord_key fun c:Con=>c.oddity))))
theorem UW:kO jp:=by
 have h:=oS (ord_key (fun x:QfSy.Loc=>x.prime)) (HY (Gq UV) (fun x:QfSy.Loc=>x.list))
 have e:jp=fun x y=>cP (ba x.prime y.prime) (jO eT x.list y.list):=by
  funext x y;unfold jp kG;rw[Em]
 rw[e];exact h
theorem oM:kO cX:=by
 have h:=oS (ord_key (fun x:af=>x.dim)) (oS (ord_key (fun x:af=>x.det)) (HY (Gq UW) (fun x:af=>x.locs)))
 have e:cX=fun x y=>cP (ba x.dim y.dim) (cP (ba x.det y.det) (jO jp x.locs y.locs)):=by
  funext x y;unfold cX;rw[En]
 rw[e];exact h
def wN (g:af):List af→List af
 |[]=>[g]
 |h::t=>bif decide (cX g h<0)then g::h::t else h::wN g t
def eH:List af→List af
 |[]=>[]
 |g::t=>wN g (eH t)
def js:List af→Bool
 |[]=>true
 |a::t=>(match t with
  |[]=>true
  |b::_=>decide (cX a b<0))&&js t
theorem Fm (g:af):∀L,(wN g L).Perm (g::L)
 |[]=>.refl _
 |h::t=>by
  unfold wN
  cases decide (cX g h<0)with
  |true=>exact .refl _
  |false=>exact((Fm g t).cons h).trans (.swap _ _ _)
theorem oG:∀L,(eH L).Perm L
 |[]=>.refl _
 |g::t=>(Fm g _).trans ((oG t).cons g)
theorem Jw {x y z:af}(h1:cX x y<0)(h2:cX y z<0):cX x z<0:=by
 have:=oM.tr x y z om om
 omega
theorem H3:∀{L:List af},js L=true→L.Pairwise (fun a b=>cX a b<0)
 |[],_=>.nil
 |[a],_=>by simp
 |a::b::t,h=>by
  simp only[js,aX,gC]at h
  have ih:=H3 (L:=b::t) (by simp only[js,aX];exact h.2)
  refine List.pairwise_cons.2 ⟨fun c hc=>?_,ih⟩
  rcases bx.1 hc with e|hc
  ·subst e;exact h.1
  ·exact Jw h.1 ((List.pairwise_cons.1 ih).1 c hc)
theorem UX {X Y:List af}(ha:js (eH X)=true)(hp:Y.Perm X)(hs:Y.Pairwise (fun a b=>¬cX b a<0)):Y=eH X:=by
 have hpw:=H3 ha
 refine List.Perm.eq_of_pairwise (le:=fun a b=>¬cX b a<0) ?_ hs (hpw.imp fun{a b}h=>?_) (hp.trans (oG X).symm)
 ·intro a b ha hb h1 h2
  have ha:=(hp.trans (oG X).symm).subset ha
  obtain⟨i,hi,rfl⟩:=rD ha
  obtain⟨j,hj,rfl⟩:=rD hb
  have k:=List.pairwise_iff_getElem.1 hpw
  rcases t6 i j with h|h|h
  ·exact absurd (k i j hi hj h) h2
  ·subst h;rfl
  ·exact absurd (k j i hj hi h) h1
 ·have:=oM.neg a b;omega
end Go.Proofs.YtmeljalphfcieaaGreatDoor.S
namespace Go.Proofs.YtmeljalphfcieaaGreatDoor.S
open Go.Shelf
def A8:Go.Shelf.Ren:=⟨fun|6=>14|15=>45|14=>44|28=>89|29=>90|20=>81|21=>82|22=>83|23=>84|24=>85|25=>86|26=>87|27=>88|46=>122|47=>123|48=>124|49=>125|50=>126|57=>136|n=>n,fun|22=>23|24=>32|25=>47|3=>3|39=>82|0=>0|53=>109|55=>111|4=>4|46=>103|45=>102|50=>59|5=>5|9=>9|66=>129|70=>133|76=>142|77=>143|n=>n,fun|n=>n⟩
theorem aan:Go.Proofs.SlLaysF0.n6 Tryz.prog A8:={
 mixed:=by kernel_rfl
 f6:=⟨Tryz.f14.name,by decide,Tryz.func14.trans (congrArg some (by kernel_rfl))⟩
 f14:=⟨Tryz.f44.name,by decide,Tryz.func44.trans (congrArg some (by kernel_rfl))⟩
 f15:=Tryz.func45.trans (congrArg some (by kernel_rfl))
 f20:=⟨Tryz.f81.name,by decide,Tryz.func81.trans (congrArg some (by kernel_rfl))⟩
 f21:=⟨Tryz.f82.name,by decide,Tryz.func82.trans (congrArg some (by kernel_rfl))⟩
 f22:=⟨Tryz.f83.name,by decide,Tryz.func83.trans (congrArg some (by kernel_rfl))⟩
 f23:=⟨Tryz.f84.name,by decide,Tryz.func84.trans (congrArg some (by kernel_rfl))⟩
 f24:=⟨Tryz.f85.name,by decide,Tryz.func85.trans (congrArg some (by kernel_rfl))⟩
 f25:=⟨Tryz.f86.name,by decide,Tryz.func86.trans (congrArg some (by kernel_rfl))⟩
 f26:=⟨Tryz.f87.name,by decide,Tryz.func87.trans (congrArg some (by kernel_rfl))⟩
 f27:=⟨Tryz.f88.name,by decide,Tryz.func88.trans (congrArg some (by kernel_rfl))⟩
 f28:=Tryz.func89.trans (congrArg some (by kernel_rfl))
 f29:=Tryz.func90.trans (congrArg some (by kernel_rfl))
 f46:=⟨Tryz.f122.name,by decide,Tryz.func122.trans (congrArg some (by kernel_rfl))⟩
 f47:=Tryz.func123.trans (congrArg some (by kernel_rfl))
 f48:=Tryz.func124.trans (congrArg some (by kernel_rfl))
 f49:=⟨Tryz.f125.name,by decide,Tryz.func125.trans (congrArg some (by kernel_rfl))⟩
 f50:=⟨Tryz.f126.name,by decide,Tryz.func126.trans (congrArg some (by kernel_rfl))⟩
 f57:=⟨Tryz.f136.name,by decide,Tryz.func136.trans (congrArg some (by kernel_rfl))⟩
 t0:=Tryz.underlying0
 a0:=Tryz.isAgg0
 z0:=Tryz.sizeOf0
 v0:=Tryz.zeroValue0
 t3:=Tryz.underlying3
 a3:=Tryz.isAgg3
 z3:=Tryz.sizeOf3
 v3:=Tryz.zeroValue3
 t4:=Tryz.underlying4
 a4:=Tryz.isAgg4
 z4:=Tryz.sizeOf4
 v4:=Tryz.zeroValue4
 t5:=Tryz.underlying5
 a5:=Tryz.isAgg5
 z5:=Tryz.sizeOf5
 v5:=Tryz.zeroValue5
 t9:=Tryz.underlying9
 a9:=Tryz.isAgg9
 z9:=Tryz.sizeOf9
 v9:=Tryz.zeroValue9
 t22:=Tryz.underlying23
 a22:=Tryz.isAgg23
 z22:=Tryz.sizeOf23
 v22:=Tryz.zeroValue23
 t25:=Tryz.underlying47
 a25:=Tryz.isAgg47
 z25:=Tryz.sizeOf47
 v25:=Tryz.zeroValue47
 t39:=Tryz.underlying82
 a39:=Tryz.isAgg82
 z39:=Tryz.sizeOf82
 v39:=Tryz.zeroValue82
 t45:=Tryz.underlying102
 a45:=Tryz.isAgg102
 z45:=Tryz.sizeOf102
 v45:=Tryz.zeroValue102
 t46:=Tryz.underlying103
 a46:=Tryz.isAgg103
 z46:=Tryz.sizeOf103
 v46:=Tryz.zeroValue103
 t50:=Tryz.underlying59
 a50:=Tryz.isAgg59
 z50:=Tryz.sizeOf59
 v50:=Tryz.zeroValue59
 t53:=Tryz.underlying109
 a53:=Tryz.isAgg109
 z53:=Tryz.sizeOf109
 v53:=Tryz.zeroValue109
 t55:=Tryz.underlying111
 a55:=Tryz.isAgg111
 z55:=Tryz.sizeOf111
 v55:=Tryz.zeroValue111
 t66:=Tryz.underlying129
 a66:=Tryz.isAgg129
 z66:=Tryz.sizeOf129
 v66:=Tryz.zeroValue129
 t70:=Tryz.underlying133
 a70:=Tryz.isAgg133
 z70:=Tryz.sizeOf133
 v70:=Tryz.zeroValue133
 t76:=Tryz.underlying142
 a76:=Tryz.isAgg142
 z76:=Tryz.sizeOf142
 v76:=Tryz.zeroValue142
 t77:=Tryz.underlying143
 a77:=Tryz.isAgg143
 z77:=Tryz.sizeOf143
 v77:=Tryz.zeroValue143}
end Go.Proofs.YtmeljalphfcieaaGreatDoor.S
namespace Go.Proofs.YtmeljalphfcieaaGreatDoor.S
open Go.QfSy Go.RowKit Go.Sort
def bG (g:af):Prop:=g.locs.length≤1000∧∀l∈g.locs,l.list.length≤1000
structure GC (F:Fz)where
 enc:List Value
 gen:af
 rel:bM F gen.rvs enc
 bnd:bG gen
theorem GC.three {F:Fz}(x:GC F):∃a b c,x.enc=[a,b,c]∧a.oneCell'=true∧b.oneCell'=true∧c.oneCell'=true:=by
 have h:=x.rel
 generalize x.enc=e at h⊢
 unfold af.rvs at h
 cases h with|cons h1 h=>cases h with|cons h2 h=>cases h with|cons h3 h=>
 cases h
 refine⟨_,_,_,rfl,?_,?_,?_⟩
 ·cases h1;rfl
 ·cases h2;rfl
 ·unfold dR at h3;cases h3<;>rfl
theorem GC.len {F:Fz}(x:GC F):x.enc.length=3:=by
 obtain⟨a,b,c,h,_⟩:=x.three
 rw[h];rfl
theorem GC.one {F:Fz}(x:GC F):∀v∈x.enc,v.oneCell'=true:=by
 obtain⟨a,b,c,h,h1,h2,h3⟩:=x.three
 rw[h]
 intro v hv
 simp only[bx,cC,cH]at hv
 rcases hv with rfl|rfl|rfl<;>assumption
theorem E0 {γ:Gm}:∀(X:List af)(cs:List Value),(∀g∈X,bG g)→au γ (X.flatMap fun c=>RV.avl (aa.gen.rvs c)) cs→∃L:List (GC γ.fz),L.map GC.gen=X∧cs=L.flatMap GC.enc
 |[],cs,_,h=>by cases h;exact⟨[],rfl,rfl⟩
 |g::X,cs,hb,h=>by
  have h:au γ (RV.avl g.rvs++X.flatMap fun c=>RV.avl (aa.gen.rvs c)) cs:=h
  obtain⟨c1,c2,rfl,h1,h2⟩:=h.split
  obtain⟨L,e1,e2⟩:=E0 X c2 (fun g hg=>hb g (fT _ hg)) h2
  exact⟨⟨c1,g,h1.rvs,hb g cZ⟩::L,by rw[jY,e1],by rw[fo,e2]⟩
theorem F1 {γ:Gm}:∀L:List (GC γ.fz),au γ ((L.map GC.gen).flatMap fun c=>RV.avl (aa.gen.rvs c)) (L.flatMap GC.enc)
 |[]=>.nil
 |x::L=>by
  rw[show(x::L).flatMap GC.enc=x.enc++L.flatMap GC.enc from fo]
  exact au.append (us:=(L.map GC.gen).flatMap fun c=>RV.avl (aa.gen.rvs c)) x.rel.avl (F1 L)
theorem Hy {α:Type} [Inhabited α]{enc:α→List Value}(hk:∀x,(enc x).length=3):∀(L:List α)(t:Nat),t<L.length*3→(L.flatMap enc)[t]? =(enc (L.toArray[t/3]!))[t%3]?
 |[],t,h=>by simp at h
 |a::L,t,h=>by
  rw[fo]
  rcases bA t 3 with h1|h1
  ·rw[gB (by rw[hk];exact h1),Nat.div_eq_of_lt h1,Nat.mod_eq_of_lt h1];simp
  ·obtain⟨u,rfl⟩:∃u,t=u+3:=⟨t-3,om⟩
   rw[mS (by rw[hk];omega),hk,show u+3-3=u by omega,Hy hk L u (by simp only[cR]at h;omega),show(u+3)/3=u/3+1 by omega,show(u+3)%3=u%3 by omega]
   simp
theorem zE {α:Type} [Inhabited α]{enc:α→List Value}(hk:∀x,(enc x).length=3)(L:List α):flatK enc 3 L.toArray=(L.flatMap enc).toArray:=by
 have hl:(L.flatMap enc).length=L.length*3:=by
  induction L with
  |nil=>rfl
  |cons a L ih=>rw[fo,bU,hk,ih,cR];omega
 refine ext_get! (by simp[hl]) fun t ht=>?_
 have ht:t<L.length*3:=by simpa using ht
 have e:=Hy hk L t ht
 rw[get_flatK enc 3 _ t (by simpa using ht),getElem!_def (L.flatMap enc).toArray,ku,e,getElem!_def (enc _)]
theorem PP {F:Array Value}{cs ex:List Value}(h:cs.length=F.size):putCells id 0 F (cs++ex).toArray=(F.toList++ex).toArray:=by
 apply Array.ext_getElem?
 intro k
 simp only[putCells,Array.getElem?_mapIdx,ku]
 rcases bA k F.size with h1|h1
 ·rw[gB om,gB (by simpa using h1),eb om]
  simp[h1]
 ·rw[mS om,mS (by simpa using h1),h]
  have:¬(0≤k∧k<0+F.size):=by omega
  simp only[this,iV]
  cases ex[k-F.size]? <;>simp[tZ]
noncomputable def xI (X:List af):cg:=⟨14,[.lo 1000 X.length,.fn 15 []],[(1000,⟨.vals .gen X,32,3,true,true⟩)],1100,none,fun _=>(.tup [],[(1000,⟨.vals .gen (eH X),32,3,true,true⟩)],1100)⟩
theorem Ub {F:Fz}:SWO (ltOf fun x y:GC F=>cX x.gen y.gen)where
 irrefl x:=by
  have:=oM.neg x.gen x.gen
  exact bu (show¬cX x.gen x.gen<0 by omega)
 trans x y z h1 h2:=by
  have h1:=dE h1
  have h2:=dE h2
  exact bZ (Jw h1 h2)
 ntrans x y z h1 h2:=by
  have h1:¬cX x.gen y.gen<0:=of_decide_eq_false h1
  have h2:¬cX y.gen z.gen<0:=of_decide_eq_false h2
  refine bu (show¬cX x.gen z.gen<0 from ?_)
  have n1:=oM.neg x.gen y.gen
  have n2:=oM.neg y.gen z.gen
  have n3:=oM.neg x.gen z.gen
  have:=oM.tr z.gen y.gen x.gen om om
  omega
theorem F2 {α:Type} [Inhabited α]{enc:α→List Value}{w:World}{B m:Nat}{dk:Array α}{os:Array Obj}{k:Nat}(hk:k<w.heap.size)(hne:k≠B):(sortWorldK enc 3 w B 0 m dk os).heap[k]? =w.heap[k]? :=by
 unfold sortWorldK grow putRowK putRow mapBlock Go.Sort.ahead
 simp only
 rw[Array.getElem?_append_left (by simpa using hk),Array.getElem?_modify,if_neg (fun e=>hne e.symm)]
theorem Uc {α:Type} [Inhabited α]{enc:α→List Value}{w:World}{B m:Nat}{dk:Array α}{os:Array Obj}:w.heap.size≤(sortWorldK enc 3 w B 0 m dk os).heap.size:=by
 unfold sortWorldK grow putRowK putRow mapBlock Go.Sort.ahead
 simp
theorem WA {α:Type} [Inhabited α]{enc:α→List Value}(hk:∀x,(enc x).length=3){w:World}{B m el:Nat}{cs ex:List Value}(h:w.heap[B]? =some (.cells (cs++ex).toArray el (0,0))){L:List α}(hl:cs.length=L.length*3){os:Array Obj}:(sortWorldK enc 3 w B 0 m L.toArray os).heap[B]? =some (.cells (L.flatMap enc++ex).toArray el (0,0)):=by
 have hB:=(fG.1 h).1
 unfold sortWorldK grow putRowK putRow mapBlock Go.Sort.ahead
 simp only
 rw[Array.getElem?_append_left (by simpa using hB),Array.getElem?_modify,if_pos rfl,h]
 simp only[kz,onCells]
 rw[PP (by rw[size_flatK];simpa using hl),zE hk]
theorem agE (w:World):(isAgg (A8.t 24)).run Tryz.prog w=.ok true w:=Tryz.isAgg32 w
theorem szE (w:World):(Go.sizeOf (A8.t 24)).run Tryz.prog w=.ok 3 w:=Tryz.sizeOf32 w
theorem Rv {γ:Gm} [Inhabited (GC γ.fz)]{w:World}(hF:ju γ.fz w){B n:Nat}(hB:γ.fz B=none):CmpLays Tryz.prog 15 #[] (GC.enc (F:=γ.fz)) 3 (fun x y=>cX x.gen y.gen) B 0 n w:=by
 intro m os dk hs x y
 have hp:=P6 x.gen y.gen x.bnd y.bnd
 have hV:ju γ.fz (sortWorldK GC.enc 3 w B 0 m dk os):=by
  intro b o hb
  have h1:=hF b o hb
  rw[F2 (fG.1 h1).1 (fun e=>by rw[e,hB]at hb;cases hb)]
  exact h1
 refine(hp.2 _ γ.fz [.agg x.enc.toArray,.agg y.enc.toArray] (fun t ht=>by cases ht) hV (.cons (.agg x.rel) (.cons (.agg y.rel) .nil))).mono ?_
 rintro e w' ⟨V,F',rfl,_,_,_,hR,hb⟩
 cases hR
 obtain⟨p,hp⟩:=regrown_of_below hb.toBelow
 refine⟨rfl,w'.drawn-(sortWorldK GC.enc 3 w B 0 m dk os).drawn,p.os,?_⟩
 have hd:p.d=w'.drawn:=by rw[hp];rfl
 rw[hp,hd]
 unfold grow redrawn World.drewN
 simp only[World.mk.injEq,true_and,and_true]
 have:=hb.drawn
 omega
theorem Zb (X:List af)(hX:X≠[])(hlen:X.length≤1000)(hb:∀g∈X,bG g)(ha:js (eH X)=true):aJ Tryz.prog EV.ng (xI X):=by
 refine⟨⟨_,Tryz.func14,rfl⟩,?_⟩
 intro d _ γ w Args hr hA0 _
 have hget:(bc (xI X).pre).get 1000=some ⟨.vals .gen X,32,3,true,true⟩:=rfl
 obtain⟨B,x,cs,ex,g1,g2,g3,g4,g5⟩:=hr.blk 1000 _ hget
 obtain⟨L,hL,rfl⟩:=E0 X cs hb g3
 have hne:L≠[]:=by rintro rfl;exact hX hL.symm
 obtain⟨x0,L0,rfl⟩:∃x0 L0,L=x0::L0:=by
  cases L with
  |nil=>exact absurd rfl hne
  |cons a l=>exact⟨a,l,rfl⟩
 letI:Inhabited (GC γ.fz):=⟨x0⟩
 obtain⟨L,hLe⟩:∃L,L=x0::L0:=⟨_,rfl⟩
 rw[←hLe]at hL hne g2 g3
 have hfB:γ.fz B=none:=hr.fzo 1000 _ B x hget rfl g1
 have hBw:B<w.heap.size:=(fG.1 g2).1
 have hn:L.length=X.length:=by rw[←hL,iT]
 have hfl:(L.flatMap GC.enc).length=L.length*3:=by
  have:=congrArg Array.size (zE GC.len L)
  simpa using this.symm
 have hH:HoldsK GC.enc 3 w B 0 L.toArray:=by
  unfold HoldsK
  rw[zE GC.len]
  intro j hj
  have hj:j<(L.flatMap GC.enc).length:=by simpa using hj
  constructor
  ·rw[gN]
   simp only[World.cell?,g2]
   rw[getElem!_pos _ j (by simpa using hj)]
   simp[gB hj]
  ·simp[World.frozen?,g2]
 have hA:au γ [.lo 1000 X.length,.fn 15 []] Args:=hA0
 clear hA0
 obtain⟨V1,rfl,hV1⟩:∃V1,Args=[V1,.func (.func 15) #[] #[]]∧ap γ (.lo 1000 X.length) V1:=by
  cases hA with|cons p1 hA=>cases hA with|cons p2 hA=>
  cases hA
  cases p2 with|fn _ p3=>
  cases p3
  exact⟨_,rfl,p1⟩
 obtain rfl:V1=.slice (some ⟨B,0,none⟩) X.length (X.length+x):=by
  cases hV1 with|lo _ k1=>
  rw[g1]at k1
  cases k1
  rfl
 have eg:∀args w,(callFunc 15 args).run Tryz.prog w=.ok (.enter 15 args) w:=enters_of Tryz.func15 kr rfl
 have hcon:=AnyQ.slices_SortFunc aan 3 agE szE GC.enc GC.len GC.one (fun x y=>cX x.gen y.gen) Ub 15 #[] B 0 (X.length+x) L.toArray w eg (Rv (fun b o hb=>hr.fzr b o hb) hfB) hH hBw (by simp only[t7];omega)
 have hcon:Calls Tryz.prog 14 #[.slice (some ⟨B,0,none⟩) L.toArray.size (X.length+x),.func (.func 15) #[] #[]] w _:=hcon
 rw[t7,hn]at hcon
 refine hcon.mono ?_
 rintro e w' ⟨rfl,d',n,os,hp,hs,rfl⟩
 obtain⟨hp1,_,hp3⟩:=hp
 have hsz:d'.size=L.length:=by rw[hp1];simp
 have e1:d'.extract 0 L.length=d':=by rw[←hsz];exact Array.extract_size
 have e2:L.toArray.extract 0 L.length=L.toArray:=by
  simp
 rw[hn]at e1 e2
 rw[e1,e2]at hp3
 have hp3:d'.toList.Perm L:=by simpa using hp3
 have hpm:(d'.toList.map GC.gen).Perm X:=by rw[←hL];exact hp3.map _
 have hpw:(d'.toList.map GC.gen).Pairwise (fun a b=>¬cX b a<0):=by
  rw[List.pairwise_iff_getElem]
  intro i j hi hj hij
  have hi':i<d'.size:=by simpa using hi
  have hj':j<d'.size:=by simpa using hj
  have:=of_decide_eq_false (hs i j (aY _) hij om)
  rw[getElem!_pos d' i hi',getElem!_pos d' j hj']at this
  simpa using this
 have hsrt:=UX ha hpm hpw
 have hq:d'.toList.length=L.length:=by simpa using hsz
 have hrow:=WA (m:=n) (os:=os) GC.len g2 (L:=d'.toList) (by rw[hfl,hq])
 rw[Array.toArray_toList]at hrow
 have hother:∀k,k<w.heap.size→k≠B→(sortWorldK GC.enc 3 w B 0 n d' os).heap[k]? =w.heap[k]? :=fun k hk hne=>F2 hk hne
 have hown:∀b k,(bc [(1000,(⟨.vals .gen (eH X),32,3,true,true⟩:ai))]).get b=some k→b=1000∧k=⟨.vals .gen (eH X),32,3,true,true⟩:=by
  intro b k hb
  have:=jE [(1000,(⟨.vals .gen (eH X),32,3,true,true⟩:ai))] b k rfl hb
  simp only[bx,cC,cH,dQ]at this
  exact this
 have himg:fI γ (bc (xI X).pre).get B:=⟨1000,_,x,hget,rfl,g1⟩
 refine⟨_,γ,rfl,.tup .nil,⟨Gm.le_refl γ,⟨?_,?_,fun b hb=>hr.fresh b hb,?_,?_⟩,Uc,rfl,rfl,rfl,?_,?_,?_,?_,fun _ _ h=>.inl h,?_⟩,fun _ _=>rfl⟩
 ·intro b k hb
  obtain⟨rfl,rfl⟩:=hown b k hb
  refine⟨B,x,d'.toList.flatMap GC.enc,ex,g1,hrow,?_,g4,g5⟩
  have:=F1 (γ:=γ) d'.toList
  rw[hsrt]at this
  exact this
 ·intro b b' k k' B1 x1 x2 q1 q2 _ _
  rw[(hown b k q1).1,(hown b' k' q2).1]
 ·intro B1 o hB1
  rw[hother B1 (fG.1 (hr.fzr B1 o hB1)).1 (fun e=>by rw[e,hfB]at hB1;cases hB1)]
  exact hr.fzr B1 o hB1
 ·intro b k B1 x1 hb hk hg
  obtain⟨rfl,rfl⟩:=hown b k hb
  rw[g1]at hg
  cases hg
  exact hfB
 ·intro k hk hnk
  exact hother k hk (fun e=>hnk (e▸himg))
 ·intro k hk ⟨b,q,x1,q1,q2,q3⟩
  obtain⟨rfl,rfl⟩:=hown b q q1
  rw[g1]at q3
  cases q3
  exact himg
 ·intro b k hb hk
  obtain⟨rfl,rfl⟩:=hown b k hb
  cases hk
 ·intro b k hb
  obtain⟨rfl,rfl⟩:=hown b k hb
  exact .inl ⟨_,hget⟩
 ·show w.drawn≤w.drawn+n
  omega
end Go.Proofs.YtmeljalphfcieaaGreatDoor.S
namespace Go.Proofs.YtmeljalphfcieaaGreatDoor.Q
open Go.RowKit Go.QfSy
theorem OH {B:Nat}{a w:World}(h:i7 B a w)(n:Nat):i7 B a (w.drewN n):=⟨⟨h.os,h.tape,h.output,h.size,h.block⟩,cU h.drawn (kW _ _)⟩
theorem DI (B:Nat)(w:World):i7 B w w:=⟨Below.refl _ _,aZ _⟩
structure Con where
 exp:Int
 dim:Int
 sign:Int
 odd:Bool
 oddity:Int
deriving DecidableEq
def qX (n:Int):Prop:=-9223372036854775808≤n∧n≤9223372036854775807
def Con.agg (c:Con):Value:=.agg #[.int .i64 c.exp,.int .i64 c.dim,.int .i64 c.sign,.bool c.odd,.int .i64 c.oddity]
structure qA (w:World)(b o:Nat)(c:Con):Prop where
 c0:w.cell? ⟨b,o,none⟩=some (.int .i64 c.exp)
 c1:w.cell? ⟨b,o+1,none⟩=some (.int .i64 c.dim)
 c2:w.cell? ⟨b,o+2,none⟩=some (.int .i64 c.sign)
 c3:w.cell? ⟨b,o+3,none⟩=some (.bool c.odd)
 c4:w.cell? ⟨b,o+4,none⟩=some (.int .i64 c.oddity)
theorem qA.below {w w':World}{b o n:Nat}{c:Con}(h:qA w b o c)(hb:Below n w w')(hl:b<n):qA w' b o c:=
 ⟨(hb.cell (p:=⟨b,_,none⟩) hl).trans h.c0,(hb.cell (p:=⟨b,_,none⟩) hl).trans h.c1,(hb.cell (p:=⟨b,_,none⟩) hl).trans h.c2,(hb.cell (p:=⟨b,_,none⟩) hl).trans h.c3,(hb.cell (p:=⟨b,_,none⟩) hl).trans h.c4⟩
def nP (w:World)(v:Value)(l:List Con):Prop:=
 (l=[]∧∃a c,v=.slice a 0 c)∨
 (l≠[]∧∃b o cap,v=.slice (some ⟨b,o,none⟩) l.length cap∧b<w.heap.size∧l.length≤cap∧(∀i c,l[i]? =some c→qA w b (o+i*5) c))
theorem nP.below {w w':World}{v:Value}{l:List Con}{n:Nat}(h:nP w v l)(hb:Below n w w')(hn:w.heap.size≤n):nP w' v l:=by
 rcases h with⟨h1,h2⟩|⟨h1,b,o,cap,h2,h3,hcp,h4⟩
 ·exact .inl ⟨h1,h2⟩
 ·refine .inr ⟨h1,b,o,cap,h2,?_,hcp,fun i c hi=>(h4 i c hi).below hb om⟩
  have:=hb.size;omega
theorem SV (c:Con)(w:World):(binOp .neq 53 c.agg c.agg).run Tryz.prog w=.ok (.bool false) w:=by
 have u3:=Tryz.underlying3
 have a3:=Tryz.isAgg3
 have z3:=Tryz.sizeOf3
 have u4:=Tryz.underlying4
 have a4:=Tryz.isAgg4
 have z4:=Tryz.sizeOf4
 have hS:Tryz.prog.underlying 53=some (.struct (Tryz.prog.fieldsOf 53)):=by kernel_rfl
 have hp:Tryz.prog.stoodInHeld 53=false:=by kernel_rfl
 simp only[Con.agg]
 rw[run_neq_struct,show(10000:Nat)=9999+1 from rfl,run_equalIn_agg w 9999 53 _ _ hS hp]
 simp only[Program.fieldsOf,Tryz.underlying53]
 go_simp
set_option maxHeartbeats 4000000 in
theorem NS (l:List Con)(n b o cap b' o' cap':Nat)(w:World)(hn:Hid (l.length=n))(hn0:0<n)(hn1:n≤1000)(hb:b<w.heap.size)(hb':b'<w.heap.size)
 (hc:Hid (∀i c,l[i]? =some c→qA w b (o+i*5) c))(hc':Hid (∀i c,l[i]? =some c→qA w b' (o'+i*5) c)):
 Calls Tryz.prog 110 #[.slice (some ⟨b,o,none⟩) n cap,.slice (some ⟨b',o',none⟩) n cap'] w fun e w'=>e=.returned (.bool true)∧i7 w.heap.size w w':=by
 go_enter Tryz.func110,Tryz.ntmps110
 go_wp2
 go_loopw [13] (fun i wr=>∃(k:Nat),k≤n∧i=.int .i64 k∧i7 w.heap.size w wr) (fun i _=>(n-(intOf i).toNat))
 case atStart=>exact⟨0,om,rfl,DI _ _⟩
 case round=>
  obtain⟨k,hk,rfl,hbe⟩:=hrel
  by_cases hlt:k<n
  ·obtain⟨c,hkc⟩:∃c,l[k]? =some c:=⟨l[k]'(by rw[hn.out];exact hlt),eb _⟩
   obtain⟨g0,g1,g2,g3,g4⟩:=(hc.out k c hkc).below hbe.toBelow hb
   obtain⟨f0,f1,f2,f3,f4⟩:=(hc'.out k c hkc).below hbe.toBelow hb'
   have hix:(0:Int)≤(k:Int):=by omega
   have hix':(k:Int)<(n:Int):=by omega
   clear hkc
   have hneq:=SV c
   unfold Con.agg at hneq
   go_wp2
   go_hide hQ
   go_quiet (fail)
   subst hQ
   go_wp2
   go_roundw
   case rel=>exact⟨k+1,om,by go_num,OH hbe _⟩
   case measure=>simp[intOf];omega
  ·go_wp2
   go_ret
   exact⟨rfl,hbe⟩
theorem N4 (a a':Option Addr)(cap cap':Nat)(w:World):
 Calls Tryz.prog 110 #[.slice a 0 cap,.slice a' 0 cap'] w fun e w'=>e=.returned (.bool true)∧i7 w.heap.size w w':=by
 go_enter Tryz.func110,Tryz.ntmps110
 go_wp2
 go_loopw [13] (fun i wr=>i=.int .i64 0∧wr=w) (fun _ _=>0)
 case atStart=>exact⟨rfl,rfl⟩
 case round=>
  obtain⟨rfl,rfl⟩:=hrel
  go_wp2
  go_ret
  exact⟨rfl,DI _ _⟩
theorem NP (l:List Con)(v v':Value)(w:World)(h:nP w v l)(h':nP w v' l)(hn:l.length≤1000):
 Calls Tryz.prog 110 #[v,v'] w fun e w'=>e=.returned (.bool true)∧i7 w.heap.size w w':=by
 rcases h with⟨rfl,a,c,rfl⟩|⟨hne,b,o,cap,rfl,hb,hcp,hc⟩
 ·rcases h' with⟨_,a',c',rfl⟩|⟨hne,_⟩
  ·exact N4 a a' c c' w
  ·exact absurd rfl hne
 ·rcases h' with⟨rfl,_⟩|⟨_,b',o',cap',rfl,hb',hcp',hc'⟩
  ·exact absurd rfl hne
  ·have hpos:0<l.length:=by cases l;exact absurd rfl hne;simp
   exact NS l l.length b o cap b' o' cap' w rfl hpos hn hb hb' hc hc'
set_option maxHeartbeats 1000000 in
theorem OI (p:Int)(l:List Con)(a a':Option Addr)(n n' c c':Nat)(w:World)(h:Hid (nP w (.slice a n c) l))(h':Hid (nP w (.slice a' n' c') l))(hn:Hid (l.length≤1000)):
 Calls Tryz.prog 68 #[.agg #[.int .i64 p,.slice a n c],.agg #[.int .i64 p,.slice a' n' c']] w fun e w'=>e=.returned (.bool true)∧i7 w.heap.size w w':=by
 have hcall:=Lib.hid (fun(W:World)(hW:i7 w.heap.size w W)=>NP l (.slice a n c) (.slice a' n' c') W (h.out.below hW.toBelow (aZ _)) (h'.out.below hW.toBelow (aZ _)) hn.out)
 clear h h'
 go_enter Tryz.func68,Tryz.ntmps68
 go_wp2_with (go_at_call 110;refine(hcall.out _ ?_).mono ?_;(exact⟨((Below.refl _ _).alloc (aZ _) _).alloc si _,aZ _⟩);rintro e w1 ⟨rfl,hb1⟩)
 go_ret
 exact⟨rfl,(((Below.refl _ _).alloc (aZ _) _).alloc si _).trans (hb1.toBelow.mono (by simp;omega)),hb1.drawn⟩
end Go.Proofs.YtmeljalphfcieaaGreatDoor.Q
namespace Go.Proofs.YtmeljalphfcieaaGreatDoor.S
open Go.QfSy Go.RowKit
def toQ (c:Con):Q.Con:=⟨c.exp,c.dim,c.sign,c.odd,c.oddity⟩
theorem SW {F:Fz}{w:World}(hF:ju F w){B o:Nat}{v:Value}(h:lB F B o v):w.cell? ⟨B,o,none⟩=some v∧B<w.heap.size:=by
 obtain⟨cs,el,fr,h1,h2⟩:=h
 have h3:=hF _ _ h1
 refine⟨?_,(fG.1 h3).1⟩
 simp[World.cell?,h3,h2]
theorem rs5 {F:Fz}{c:Con}{Vs:List Value}(h:bM F c.rvs Vs):Vs=[.int .i64 c.exp,.int .i64 c.dim,.int .i64 c.sign,.bool c.odd,.int .i64 c.oddity]:=by
 unfold Con.rvs at h
 cases h with|cons h0 h=>cases h with|cons h1 h=>cases h with|cons h2 h=>cases h with|cons h3 h=>cases h with|cons h4 h=>
 cases h;cases h0;cases h1;cases h2;cases h3;cases h4
 rfl
theorem GO {F:Fz}{w:World}(hF:ju F w){L:List Con}{V:Value}(h:bW F (aD L) V):Q.nP w V (L.map toQ)∧∃a n c,V=.slice a n c:=by
 unfold aD at h
 cases h with
 |sl0 sz row a c hn=>
  have:L=[]:=kT hn
  subst this
  exact⟨.inl ⟨rfl,a,c,rfl⟩,_,_,_,rfl⟩
 |@sl _ _ B o c _ cs hc hl hf h=>
  refine⟨?_,_,_,_,rfl⟩
  cases L with
  |nil=>exact .inl ⟨rfl,_,_,rfl⟩
  |cons c0 l=>
   have key:∀i,i<(c0::l).length→∀j v,([.int .i64 ((c0::l).getD i Con.zero).exp,.int .i64 ((c0::l).getD i Con.zero).dim,.int .i64 ((c0::l).getD i Con.zero).sign,.bool ((c0::l).getD i Con.zero).odd,.int .i64 ((c0::l).getD i Con.zero).oddity]:List Value)[j]? =some v→w.cell? ⟨B,o+i*5+j,none⟩=some v∧B<w.heap.size:=by
    intro i hi j v hv
    have:=rs5 (h i hi)
    exact SW hF (hf i j v hi (by rw[this];exact hv))
   refine .inr ⟨si,B,o,c,si,(key 0 si 0 _ rfl).2,by simpa using hc,?_⟩
   intro i q hq
   rw[lY]at hq
   cases hi:(c0::l)[i]? with
   |none=>rw[hi]at hq;cases hq
   |some x=>
    rw[hi]at hq
    cases hq
    have hlt:=(xQ.1 hi).1
    have hx:(c0::l).getD i Con.zero=x:=by rw[cj,hi];rfl
    have k:=key i hlt
    rw[hx]at k
    exact⟨(k 0 _ rfl).1,(k 1 _ rfl).1,(k 2 _ rfl).1,(k 3 _ rfl).1,(k 4 _ rfl).1⟩
theorem Pb {tabs:List Tb}{f:Nat}{A:List RV}{R:RV}{V:Value}(hR:∀F,bW F R V)(hfn:∃fn,Tryz.prog.funcs[f]? =some fn∧fn.body.isSome=true)
 (h:∀(w:World)(F:Fz)(Args:List Value),kK tabs w→ju F w→bM F A Args→Calls Tryz.prog f Args.toArray w fun e w'=>e=.returned V∧i7 w.heap.size w w'):ar Tryz.prog tabs f A R:=by
 refine⟨hfn,?_⟩
 intro w F Args ht hF hr
 refine(h w F Args ht hF hr).mono ?_
 rintro e w' ⟨rfl,hb⟩
 exact⟨V,F,rfl,fun _ _ h=>h,hF.below hb.toBelow,fun _ _ h=>.inl h,hR F,hb⟩
theorem Pc (p:Int)(L:List Con)(hn:L.length≤1000):ar Tryz.prog [] 68 [.agg [.int .i64 p,aD L],.agg [.int .i64 p,aD L]] (.bool true):=by
 refine Pb (fun _=>.bool _) ⟨_,Tryz.func68,rfl⟩ ?_
 intro w F Args ht hF hr
 cases hr with|cons h0 hr=>cases hr with|cons k0 hr=>cases hr;cases h0 with|agg h0=>cases h0 with|cons h1 h0=>cases h1;cases h0 with|cons h2 h0=>cases h0;cases k0 with|agg k0=>cases k0 with|cons k1 k0=>cases k1;cases k0 with|cons k2 k0=>
 cases k0
 obtain⟨l1,a,n,c,rfl⟩:=GO hF h2
 obtain⟨l2,a',n',c',rfl⟩:=GO hF k2
 exact Q.OI p _ a a' n n' c c' w (Lib.hid l1) (Lib.hid l2) (Lib.hid (by simpa using hn))
end Go.Proofs.YtmeljalphfcieaaGreatDoor.S
namespace Go.Proofs.YtmeljalphfcieaaGreatDoor.S
open Go.QfSy Go.RowKit
theorem PU (a b:Int):ar Tryz.prog [] 108 [.int .i64 a,.int .i64 b] (.int .i64 (ba a b)):=by
 refine pr c0 Tryz.func108 aC ?_
 refine oe (decide (a<b)) (fun d1=>lr [true] [(-1:Int)=ba a b,ty d1] ⟨?_,d1⟩)
  (fun d1=>oe (decide (a>b)) (fun d2=>lr [false,true] [(1:Int)=ba a b,ty d2,ty d1] ⟨?_,d2,d1⟩)
  (fun d2=>lr [false,false] [(0:Int)=ba a b,ty d2,ty d1] ⟨?_,d2,d1⟩))
 all_goals first|exact BZ
theorem Oy (b:Bool):ar Tryz.prog [] 133 [.bool b] (.int .i64 (fg b)):=by
 refine pr c0 Tryz.func133 aC ?_
 refine oe (b) (fun d1=>lr [true] [(1:Int)=fg b,ty d1] ⟨?_,d1⟩)
  (fun d1=>lr [false] [(0:Int)=fg b,ty d1] ⟨?_,d1⟩)
 all_goals first|((simp only[fg,d1];rfl))
def Af:List bV:=[
 ⟨108,[],fun A=>match A with
  |[.int .i64 a,.int .i64 b]=>some (.int .i64 (ba a b),[])
  |_=>none⟩,
 ⟨133,[],fun A=>match A with
  |[.bool b]=>some (.int .i64 (fg b),[])
  |_=>none⟩]
theorem Ec:∀e∈Af,ch Tryz.prog e:=by
 intro e he
 simp only[Af,bx,cC,cH]at he
 rcases he with rfl|rfl
 all_goals
  intro A R ms h hm
  simp only at h
  split at h
  all_goals first|exact fF|cases h
 ·exact PU _ _
 ·exact Oy _
theorem Oz (c d:Con):ar Tryz.prog [] 109 [.agg c.rvs,.agg d.rvs] (.int .i64 (eT c d)):=by
 refine pr (cE Ec) Tryz.func109 aC ?_
 refine(let y1:List Prop:=[rq d.oddity,rq d.sign,d.dim=d.dim,d.exp=d.exp,rq c.oddity,rq c.sign,c.dim=c.dim,c.exp=c.exp];have u1:ao y1:=⟨?_,?_,?_,?_,?_,?_,?_,(?_:c.exp=c.exp)⟩;oe (ba c.exp d.exp==0) (fun d1=>oe (ba c.dim d.dim==0) (fun d2=>let y2:List Prop:=ty (dN d2)::ty (dN d1)::y1;have u2:ao y2:=⟨(dN d2),(dN d1),u1⟩;oe (ba c.sign d.sign==0) (fun d3=>oe (ba (fg c.odd) (fg d.odd)==0) (fun d4=>oe (ba c.oddity d.oddity==0) (fun d5=>lr (tp 22222) (((0:Int)=eT c d)::ty (dN d5)::ty (dN d4)::ty (dN d3)::y2) ?_)
  (fun d5=>lr (tp 22221) ((ba c.oddity d.oddity=eT c d)::ty (dN d5)::ty (dN d4)::ty (dN d3)::y2) ?_))
  (fun d4=>lr (tp 2221) ((ba (fg c.odd) (fg d.odd)=eT c d)::ty (dN d4)::ty (dN d3)::y2) ?_))
  (fun d3=>lr (tp 221) ((ba c.sign d.sign=eT c d)::ty (dN d3)::y2) ?_))
  (fun d2=>lr [false,true] ((ba c.dim d.dim=eT c d)::ty (dN d2)::ty (dN d1)::y1) ?_))
  (fun d1=>lr [true] ((ba c.exp d.exp=eT c d)::ty (dN d1)::y1) ?_))
 all_goals with_reducible repeat' first|exact dA|refine bk ?_ ?_|refine bm ?_
 all_goals((try clear u2);(try clear y2);(try clear u1);(try clear y1))
 all_goals first|exact LT
def WH:List bV:=Af++[
 ⟨109,[],fun A=>match A with
  |[.agg [.int .i64 e0,.int .i64 d0,.int .i64 s0,.bool o0,.int .i64 t0],.agg [.int .i64 e1,.int .i64 d1,.int .i64 s1,.bool o1,.int .i64 t1]]=>some (.int .i64 (eT ⟨e0,d0,s0,o0,t0⟩ ⟨e1,d1,s1,o1,t1⟩),[])
  |_=>none⟩]
theorem Ed:∀e∈WH,ch Tryz.prog e:=by
 intro e he
 rcases dV.1 he with he|he
 ·exact Ec e he
 simp only[bx,cC,cH]at he
 subst he
 intro A R ms h hm
 simp only at h
 split at h
 all_goals first|exact fF|cases h
 exact Oz ⟨_,_,_,_,_⟩ ⟨_,_,_,_,_⟩
def Bp (p q:Int)(A B:LC):List (Nat×ai):=[(1000,⟨.plain [vi p,(aD A).av],45,0,false,true⟩),(1001,⟨.plain [vi q,(aD B).av],45,0,false,true⟩)]
def WI (p q:Int)(A B:LC):aA:=⟨⟨[(2,.ptr 1000 0),(3,.ptr 1001 0),(6,.int .i64 0)],Bp p q A B,1010⟩,some (ev A B==0),fun d=>match d with
 |true=>(.exit 0,⟨[(2,.ptr 1000 0),(3,.ptr 1001 0)],Bp p q A B,1010⟩)
 |false=>(.ret,⟨[(4,vi (ev A B))],[],1010⟩)⟩
theorem RP (p q:Int)(A B:LC)(hA:A.length≤1000)(hB:B.length≤1000):An 2 Tryz.f67 [0,1,0,1,1] (WI p q A B):=by
 refine ea (cE Ed) aC (fun(k:Nat)=>(⟨[(2,.ptr 1000 0),(3,.ptr 1001 0),(6,vi k)],Bp p q A B,1010⟩:St)) (fun(k:Nat)=>(A.length-k:Nat)) (fun(d:Bool)=>fun(k:Nat)=>(k≤A.length∧ev (A.drop k) (B.drop k)=ev A B∧d=(ev A B==0):Prop)) ?_ ?_
 ·intro d hd
  exact st (0) [(0:Int)=↑(0:Nat),p=p,lq A,q=q,lq B] (by refine⟨?_,?_,?_,?_,(?_:lq B)⟩<;>(first|rfl|exact⟨rfl,rfl⟩|assumption|omega|simp_all)) (by exact⟨aY _,rfl,hd.symm⟩)
 ·rintro d hd k hI
  obtain⟨hk,hs,hD⟩:=hI
  have ek:IntKind.i64.wrap ((k:Int)+1)=((k+1:Nat):Int):=by rw[wo];omega
  refine(let q1:List Prop→List Prop:=fun l0=>(p=p)::(lq A)::(q=q)::(lq B)::l0;oe (decide ((↑k:Int)<↑A.length)) (fun d1=>oe (decide ((↑k:Int)<↑B.length)) (fun d2=>let y1:List Prop:=[(0:Int)≤↑k∧(↑k:Int)<↑B.length,(0:Int)≤↑k∧(↑k:Int)<↑A.length,ty d2,ty d1];have u1:ao y1:=⟨?_,?_,d2,d1⟩;oe (eT (A.getD k Con.zero) (B.getD k Con.zero)==0) (fun d3=>aq (tp 112) (k+1) ((IntKind.i64.wrap ((↑k:Int)+1)=↑(k+1))::(p=p)::(lq A)::(q=q)::(lq B)::ty (dN d3)::y1) ⟨?_,?_,?_,?_,?_,(dN d3),u1⟩ ?_ ?_)
   (fun d3=>aG d false (tp 111) ((eT (A.getD k Con.zero) (B.getD k Con.zero)=ev A B)::ty (dN d3)::y1) ⟨?_,(dN d3),u1⟩ ?_))
   (fun d2=>aG d true [true,false] (q1 [ty d2,ty d1]) ⟨?_,?_,?_,?_,d2,d1⟩ ?_))
   (fun d1=>aG d true [false] (q1 [ty d1]) ⟨?_,?_,?_,?_,d1⟩ ?_))
  all_goals((try clear u1);(try clear y1))
  all_goals first|exact Cj|(refine bD.mk ?_;(simp only[dT,b6]at*;rw[pP om om,gr aS]at hs;exact⟨om,hs,hD⟩))|(refine dq.mk ?_;cases d<;>first|rfl|(exfalso;(simp only[bt,dT,dF,b6,bJ,ne_eq]at*;first|(rw[uF om]at hs;rw[←hs]at hD;cases hD;done)|(rw[pP om om,iY aS]at hs;rw[←hs]at hD;have:=hD.symm;rw[b6]at this;exact absurd this aS))))|(first|exact tr|exact lS|((try simp only[ek,bt,dT,dF,b6,bJ,ne_eq]at*)<;>first|omega|(rw[←hs,pP om om,iY aS])))
theorem OT (p q:Int)(A B:LC)(hA:A.length≤1000)(hB:B.length≤1000):ar Tryz.prog [] 67 [.agg [.int .i64 p,aD A],.agg [.int .i64 q,aD B]] (.int .i64 (kG p A q B)):=by
 refine pr (cE Ed) Tryz.func67 (aW (RP p q A B hA hB)) ?_
 refine oe (ba p q==0) (fun d1=>oe (ev A B==0) (fun d2=>lr [false,true] [ba (↑A.length:Int) (↑B.length:Int)=kG p A q B,p=p,lq A,q=q,lq B,ty d2,ty (dN d1)] ⟨?_,?_,?_,?_,?_,d2,(dN d1)⟩)
  (fun d2=>lr [false,false] [ev A B=kG p A q B,p=p,lq A,q=q,lq B,ty d2,ty (dN d1)] ⟨?_,?_,?_,?_,?_,d2,(dN d1)⟩))
  (fun d1=>lr [true] [ba p q=kG p A q B,ty (dN d1)] ⟨?_,(dN d1)⟩)
 all_goals first|(first|exact tr|exact lS|((try simp only[b6,bJ,ne_eq]at*)<;>(unfold kG gQ;first|(rw[iY aS];done)|(rw[gr aS,iY aS];done)|(rw[gr aS,gr aS];done))))
theorem K6 {n:Nat}(h:0<n):((n:Int)==0)=false:=by
 cases h2:((n:Int)==0)with
 |false=>rfl
 |true=>have:=eq_of_beq h2;omega
def exA (p n:Nat):aA:=⟨⟨[(0,vi n),(1,vi p),(5,.int .i64 0)],[],1000⟩,none,fun _=>(.exit 0,⟨[(5,vi (vv p n).1)],[],1000⟩)⟩
theorem SR (n0 p:Nat)(hp:2≤p)(h0:0<n0)(hb:n0≤2147483647):An 2 Tryz.f53 [0,0,1,1] (exA p n0):=by
 refine cN c0 aC (fun(q:Nat×Nat)=>(⟨[(0,vi q.1),(1,vi p),(5,vi q.2)],[],1000⟩:St)) (fun(q:Nat×Nat)=>(q.1:Nat)) (fun(q:Nat×Nat)=>(pfI p n0 q:Prop)) ?_ ?_
 ·exact st ((n0,0)) [rq (↑n0:Int),rq (↑p:Int),(0:Int)=↑(0:Nat)] Cg (by exact tl h0)
 ·intro q hI
  obtain⟨g1,g2,g3⟩:=id hI
  refine(let y1:List Prop:=[(↑p:Int)≠(0:Int),aj ((↑q.fst:Int)!=(0:Int)) true];have u1:ao y1:=⟨?_,(dN (K6 g1))⟩;oe ((↑q.fst:Int).tmod (↑p:Int)==0) (fun d1=>aq [true,true] ((q.1/p,q.2+1)) ((w6.wrap ((↑q.fst:Int).tdiv (↑p:Int))=↑(q.fst/p))::rq (↑p:Int)::(w6.wrap ((↑q.snd:Int)+1)=↑(q.snd+1))::((↑p:Int)≠(0:Int))::ty d1::y1) ⟨?_,?_,?_,?_,d1,u1⟩ ?_ ?_)
   (fun d1=>br [true,false] (((↑q.snd:Int)=(↑(vv p n0).fst:Int))::ty d1::y1) ⟨?_,d1,u1⟩))
  all_goals((try clear u1);(try clear y1))
  all_goals first|exact tT|exact tV|exact cT|exact xk
theorem DH (n p:Nat)(hp:2≤p)(h0:0<n)(hb:n≤2147483647):ar Tryz.prog [] 53 [.int .i64 (n:Int),.int .i64 (p:Int)] (.int .i64 ((vv p n).1:Int)):=by
 have hl0:=SR n p hp h0 hb
 refine pr c0 Tryz.func53 (aW hl0) ?_
 refine lr [] [rq (↑(vv p n).fst:Int),rq (↑n:Int),rq (↑p:Int)] ⟨?_,?_,(?_:(↑p:Int)=↑p)⟩
 all_goals first|exact xu
def reA (p n:Nat):aA:=⟨⟨[(0,vi n),(1,vi p)],[],1000⟩,none,fun _=>(.exit 0,⟨[(0,vi (vv p n).2)],[],1000⟩)⟩
theorem SS (n0 p:Nat)(hp:2≤p)(h0:0<n0)(hb:n0≤2147483647):An 2 Tryz.f61 [0,0,1] (reA p n0):=by
 refine cN c0 aC (fun(q:Nat×Nat)=>(⟨[(0,vi q.1),(1,vi p)],[],1000⟩:St)) (fun(q:Nat×Nat)=>(q.1:Nat)) (fun(q:Nat×Nat)=>(pfI p n0 q:Prop)) ?_ ?_
 ·exact st ((n0,0)) [rq (↑n0:Int),rq (↑p:Int)] (by refine⟨?_,(?_:(↑p:Int)=↑p)⟩<;>(first|exact tr|rfl|omega)) (by exact tl h0)
 ·intro q hI
  obtain⟨g1,g2,g3⟩:=id hI
  refine(let y1:List Prop:=[(↑p:Int)≠(0:Int),aj ((↑q.fst:Int)!=(0:Int)) true];have u1:ao y1:=⟨?_,(dN (K6 g1))⟩;oe ((↑q.fst:Int).tmod (↑p:Int)==0) (fun d1=>aq [true,true] ((q.1/p,q.2+1)) ((w6.wrap ((↑q.fst:Int).tdiv (↑p:Int))=↑(q.fst/p))::rq (↑p:Int)::((↑p:Int)≠(0:Int))::ty d1::y1) ⟨?_,?_,?_,d1,u1⟩ ?_ ?_)
   (fun d1=>br [true,false] (((↑q.fst:Int)=(↑(vv p n0).snd:Int))::ty d1::y1) ⟨?_,d1,u1⟩))
  all_goals((try clear u1);(try clear y1))
  all_goals first|exact tT|exact tV|exact cT|(first|exact tr|exact x5 om|omega|(rw[Gr hI (nz rfl d1)];done)|rfl)
theorem OG (n p:Nat)(hp:2≤p)(h0:0<n)(hb:n≤2147483647):ar Tryz.prog [] 61 [.int .i64 (n:Int),.int .i64 (p:Int)] (.int .i64 ((vv p n).2:Int)):=by
 have hl0:=SS n p hp h0 hb
 refine pr c0 Tryz.func61 (aW hl0) ?_
 refine lr [] [rq (↑(vv p n).snd:Int),rq (↑n:Int),rq (↑p:Int)] ⟨?_,?_,(?_:(↑p:Int)=↑p)⟩
 all_goals first|exact xu
theorem tmn (a m:Nat):((a:Int)).tmod (m:Int)=((a%m:Nat):Int):=rfl
theorem Pa (a m:Nat)(h0:0<m):ar Tryz.prog [] 131 [.int .i64 (a:Int),.int .i64 (m:Int)] (.int .i64 ((a%m:Nat):Int)):=by
 have k0:decide (((a:Int)).tmod (m:Int)<0)=false:=bu (by rw[tmn];omega)
 refine pr c0 Tryz.func131 aC ?_
 refine lr [false] [(↑a:Int).tmod (↑m:Int)=↑(a%m),aj (decide ((↑a:Int).tmod (↑m:Int)<0)) false,(↑m:Int)≠(0:Int)] ⟨?_,k0,(?_:(↑m:Int)≠(0:Int))⟩
 all_goals first|(first|exact tr|rfl|omega)
def mC:Nat→Nat→Nat→Nat→Nat→Nat
 |0,_,_,_,out=>out
 |f+1,a,e,m,out=>bif Nat.beq e 0 then out else mC f (a*a%m) (e/2) m (bif Nat.beq (e%2) 1 then out*a%m else out)
theorem Ex:∀(f g a e m out:Nat),e<2^f→e<2^g→mC f a e m out=mC g a e m out
 |0,0,a,e,m,out,h1,h2=>rfl
 |0,g+1,a,e,m,out,h1,h2=>by
  have:e=0:=by omega
  subst this;rfl
 |f+1,0,a,e,m,out,h1,h2=>by
  have:e=0:=by omega
  subst this;rfl
 |f+1,g+1,a,e,m,out,h1,h2=>by
  unfold mC
  cases h:Nat.beq e 0 with
  |true=>rfl
  |false=>
   rw[iU]at h1 h2
   simp only[bg]
   exact Ex f g _ _ _ _ om om
def mp (a e m out:Nat):Nat:=mC 31 a e m out
theorem Vr (a m out:Nat):mp a 0 m out=out:=rfl
theorem ST {a e m out:Nat}(h0:0<e)(hb:e<2147483648):mp a e m out=mp (a*a%m) (e/2) m (bif Nat.beq (e%2) 1 then out*a%m else out):=by
 unfold mp
 have h:Nat.beq e 0=false:=by cases h:Nat.beq e 0 with
  |false=>rfl
  |true=>have:=co h;omega
 have e1:mC 31 a e m out=mC 30 (a*a%m) (e/2) m (bif Nat.beq (e%2) 1 then out*a%m else out):=by
  show(bif Nat.beq e 0 then out else _)=_
  rw[h];rfl
 rw[e1]
 exact Ex _ _ _ _ _ _ om om
def mpA (a e m out:Nat):aA:=⟨⟨[(0,vi a),(1,vi e),(2,vi m),(7,vi out)],[],1000⟩,none,fun _=>(.exit 0,⟨[(7,vi (mp a e m out:Int))],[],1000⟩)⟩
def mpI (m v:Nat)(q:Nat×Nat×Nat):Prop:=q.1<m∧q.2.1<2147483648∧q.2.2≤2147483648∧mp q.1 q.2.1 m q.2.2=v
theorem Ax {a b m:Nat}(ha:a<m)(hb:b≤2147483648)(hm:m≤2147483648):(w6.wrap ((b:Int)*(a:Int))).tmod (m:Int)=((b*a%m:Nat):Int):=by
 have h1:b*a≤2147483648*2147483648:=kX hb om
 have e:(b:Int)*(a:Int)=((b*a:Nat):Int):=by simp
 rw[e,wo];rfl
theorem dv2 {n:Nat}(hb:n<2147483648):w6.wrap ((n:Int).tdiv 2)=((n/2:Nat):Int):=x5 (p:=2) om
theorem K7 {e:Nat}{b:Bool}(h:((e:Int).tmod 2==1)=b):Nat.beq (e%2) 1=b:=(l7 e 2 1).symm.trans h
def mpS (m:Nat):Nat×Nat×Nat→St
 |(a,e,o)=>⟨[(0,vi a),(1,vi e),(2,vi m),(7,vi o)],[],1000⟩
theorem SU (a0 e0 m out0:Nat)(hm:0<m)(hb:m≤2147483648)(ha:a0<m)(he:e0<2147483648)(ho:out0≤2147483648):An 3 Tryz.f103 [0,1,0,1,1] (mpA a0 e0 m out0):=by
 refine cN c0 aC (mpS m) (fun i=>i.2.1) (fun i=>mpI m (mp a0 e0 m out0) i) ?_ ?_
 ·exact st (a0,e0,out0) [rq (↑a0:Int),rq (↑e0:Int),rq (↑m:Int),rq (↑out0:Int)] (by refine⟨?_,?_,?_,(?_:(↑out0:Int)=↑out0)⟩<;>(first|exact tr|rfl|omega)) (by exact⟨ha,he,ho,rfl⟩)
 ·rintro ⟨a,e,o⟩ hI
  obtain⟨g1,g2,g3,g4⟩:=id hI
  simp only at g1 g2 g3 g4
  refine(let q1:List Prop→List Prop:=fun l0=>((w6.wrap ((↑a:Int)*↑a)).tmod (↑m:Int)=↑(a*a%m))::(w6.wrap ((↑e:Int).tdiv (2:Int))=↑(e/(2:Nat)))::rq (↑m:Int)::l0;oe (decide ((↑e:Int)>0)) (fun d1=>oe ((↑e:Int).tmod (2:Int)==1) (fun d2=>aq [true,true] (a*a%m,e/2,bif Nat.beq (e%2) 1 then o*a%m else o) (q1 [(w6.wrap ((↑o:Int)*↑a)).tmod (↑m:Int)=(↑(bif(e%(2:Nat)).beq (1:Nat)then o*a%m else o):Int),(2:Int)≠(0:Int),(↑m:Int)≠(0:Int),(↑m:Int)≠(0:Int),ty d2,(2:Int)≠(0:Int),ty d1]) ⟨?_,?_,?_,?_,?_,?_,?_,d2,?_,d1⟩ ?_ ?_)
   (fun d2=>aq [true,false] (a*a%m,e/2,bif Nat.beq (e%2) 1 then o*a%m else o) (q1 [(↑o:Int)=(↑(bif(e%(2:Nat)).beq (1:Nat)then o*a%m else o):Int),(2:Int)≠(0:Int),(↑m:Int)≠(0:Int),ty d2,(2:Int)≠(0:Int),ty d1]) ⟨?_,?_,?_,?_,?_,?_,d2,?_,d1⟩ ?_ ?_))
   (fun d1=>br [false] [(↑o:Int)=↑(mp a0 e0 m out0),ty d1] ⟨?_,d1⟩))
  all_goals first|(refine cy.mk ?_;(have dd:=oT d1;show e/2<e;omega))|(refine bD.mk ?_;(have dd:=oT d1;have hl:o*a%m<m:=kA _ hm;refine⟨kA _ hm,by show e/2<2147483648;omega,?_,(ST om g2).symm.trans g4⟩;show(bif Nat.beq (e%2) 1 then o*a%m else o)≤2147483648;cases Nat.beq (e%2) 1;exact g3;exact(by omega:o*a%m≤2147483648)))|exact cT|(first|exact tr|exact dv2 g2|exact Ax g1 g3 hb|exact Ax g1 om hb|(rw[K7 d2,aM];exact Ax g1 g3 hb)|(rw[K7 d2,bg];done)|omega|(have dd:=oF d1;rw[show e=0 by omega,Vr]at g4;rw[g4]))
noncomputable def Hp:List bV:=[
 ⟨131,[],fun A=>match A with
  |[.int .i64 a,.int .i64 m]=>some (.int .i64 ((a.toNat%m.toNat:Nat):Int),[0≤a∧0<m])
  |_=>none⟩]
theorem PG:∀e∈Hp,ch Tryz.prog e:=by
 intro e he
 simp only[Hp,bx,cC,cH]at he
 subst he
 intro A R ms h hm
 simp only at h
 split at h
 ·rename_i a m
  cases h
  obtain⟨h1,h2⟩:=hm _ cZ
  have e:a=((a.toNat:Nat):Int):=by omega
  have e':m=((m.toNat:Nat):Int):=by omega
  rw[e,e']
  exact Pa a.toNat m.toNat om
 ·cases h
theorem Re (a e m:Nat)(h0:0<m)(hb:m≤2147483648)(he:e<2147483648):ar Tryz.prog [] 103 [.int .i64 (a:Int),.int .i64 (e:Int),.int .i64 (m:Int)] (.int .i64 ((mp (a%m) e m (1%m):Nat):Int)):=by
 have h1:1%m≤1:=Nat.mod_le _ _
 have hl0:=SU (a%m) e m (1%m) h0 hb (kA _ h0) he om
 refine pr (cE PG) Tryz.func103 (aW hl0) ?_
 refine lr [] [rq (↑(mp (a%m) e m ((1:Nat)%m)):Int),rq (↑(a%m):Int),rq (↑e:Int),rq (↑m:Int),Int.tmod (1:Int) (↑m:Int)=↑((1:Nat)%m),(0:Int)≤↑a∧(0:Int)<↑m,(↑m:Int)≠(0:Int)] ⟨?_,?_,?_,?_,?_,?_,(?_:(↑m:Int)≠(0:Int))⟩
 all_goals first|(first|exact tr|exact⟨om,om⟩|omega|rfl|(simp only[bt];rfl))
def abo (a p:Nat):Int:=bif Nat.beq (mp (a%p) ((p-1)/2) p (1%p)) 0 then 0 else bif Nat.beq (mp (a%p) ((p-1)/2) p (1%p)) 1 then 1 else-1
noncomputable def Hq:List bV:=[
 ⟨103,[],fun A=>match A with
  |[.int .i64 a,.int .i64 e,.int .i64 m]=>some (.int .i64 ((mp (a.toNat%m.toNat) e.toNat m.toNat (1%m.toNat):Nat):Int),[0≤a∧0<m∧m≤2147483648∧0≤e∧e<2147483648])
  |_=>none⟩]
theorem D4:∀e∈Hq,ch Tryz.prog e:=by
 intro e he
 simp only[Hq,bx,cC,cH]at he
 subst he
 intro A R ms h hm
 simp only at h
 split at h
 ·rename_i a e m
  cases h
  obtain⟨h1,h2,h3,h4,h5⟩:=hm _ cZ
  have e1:a=((a.toNat:Nat):Int):=by omega
  have e2:m=((m.toNat:Nat):Int):=by omega
  have e3:e=((e.toNat:Nat):Int):=by omega
  rw[e1,e2,e3]
  exact Re a.toNat e.toNat m.toNat om om om
 ·cases h
def abp (a:Nat):Int:=bif Nat.beq (a%8) 1||Nat.beq (a%8) 7 then 1 else bif Nat.beq (a%8) 3||Nat.beq (a%8) 5 then-1 else 0
theorem IV {d n:Nat}(hb:n≤2147483647)(h:d*d≤n):d≤46341:=by
 rcases bA d 46342 with h1|h1
 ·omega
 ·have:=kX h1 h1;omega
theorem xe {d n:Nat}{b:Bool}(hd:d≤46342)(h:decide (IntKind.i64.wrap ((d:Int)*(d:Int))≤(n:Int))=b):decide (d*d≤n)=b:=by
 rw[BS om]at h
 rw[←h]
 by_cases e:d*d≤n
 ·rw[bZ e];exact(bZ om).symm
 ·rw[bu e];exact(bu om).symm
def fcM (a:Nat)(q:bB):Int:=bif Nat.beq q.prime.toNat 2 then abp a else abo a q.prime.toNat
def Lt (s:Int):Nat→Int→Int
 |0,o=>o
 |k+1,o=>Lt s k o*s
def J5 (a:Nat)(L:List bB):Nat→Int
 |0=>1
 |k+1=>Lt (fcM a (L.getD k bB.zero)) (L.getD k bB.zero).exp.toNat (J5 a L k)
def lH (a n:Nat):Int:=J5 a (bz n) (bz n).length
def bQ (n:Nat):List Int:=(bz n).map bB.prime
theorem tL {α:Type}(L:List α)(z:α){k:Nat}(h:k<L.length):L.take (k+1)=L.take k++[L.getD k z]:=by
 rw[List.take_add_one,cj,eb h];rfl
theorem qp {α:Type}{L:List α}(h:L.isEmpty=true):L=[]:=List.isEmpty_iff.1 h
theorem Wp {α:Type}{L:List α}(h:L.isEmpty=false):0<L.length:=by cases L with
 |nil=>cases h
 |cons a l=>exact Nat.succ_pos _
theorem TK:((List.range 96).all fun i=>mg 16 [] [ii (i+1)] (aI (.num .i64) (bQ (i+1)))&&Nat.ble (bQ (i+1)).length 31)=true:=by kernel_rfl
theorem Ho {n:Nat}(h0:0<n)(hb:n≤96):mg 16 [] [ii n] (aI (.num .i64) (bQ n))=true∧Nat.ble (bQ n).length 31=true:=by
 have h:=bq (bX.1 TK (n-1) (jj.2 om))
 rwa[show n-1+1=n by omega]at h
theorem D3 (n:Nat)(h0:0<n)(hb:n≤96):ar Tryz.prog [] 16 [.int .i64 (n:Int)] (aI (.num .i64) (bQ n)):=pM (Ho h0 hb).1
theorem TL {n:Nat}(h0:0<n)(hb:n≤96):(bQ n).length≤31:=aU (Ho h0 hb).2
def qM (a n:Nat):Prop:=∃d p,d<48∧p∈bQ (2*d+2)∧((a=(vv p.toNat (d+1)).2∧n=p.toNat)∨(p=2∧a=2∧n=(vv 2 (d+1)).2))
theorem TN:((List.range 48).all fun d=>(bQ (2*d+2)).all fun p=>mg 62 [] [ii (vv p.toNat (d+1)).2,ii p.toNat] (.int .i64 (lH (vv p.toNat (d+1)).2 p.toNat))&&(!decide (p=2)||mg 62 [] [ii 2,ii (vv 2 (d+1)).2] (.int .i64 (lH 2 (vv 2 (d+1)).2))))=true:=by kernel_rfl
theorem PF (a n:Nat)(h:qM a n):ar Tryz.prog [] 62 [.int .i64 (a:Int),.int .i64 (n:Int)] (.int .i64 (lH a n)):=by
 obtain⟨d,p,hd,hp,h⟩:=h
 have hk:=bX.1 (bX.1 TN d (jj.2 hd)) p hp
 rcases h with⟨rfl,rfl⟩|⟨rfl,rfl,rfl⟩
 ·exact pM (bq hk).1
 ·exact pM (by have:=(bq hk).2;rwa[show(!decide ((2:Int)=2))=false from rfl,pK]at this)
def isA (n:Nat):aA:=⟨⟨[(0,vi n),(3,.int .i64 2)],[],1000⟩,some (Nat.beq (ld n) n),fun d=>match d with
 |true=>(.exit 0,⟨[],[],1000⟩)
 |false=>(.ret,⟨[(2,.bool false)],[],1000⟩)⟩
theorem SX {n m:Nat}(h:dZ n m)(hm:n%m≠0):dZ n (m+1):=fun e h1 h2=>by
 by_cases h3:e=m
 ·subst h3;exact hm
 ·exact h e h1 om
theorem SY (n:Nat)(hn:2≤n)(hb:n≤2147483647):An 1 Tryz.f140 [0,1,0,1,1] (isA n):=by
 refine ea c0 aC (fun(m:Nat)=>(⟨[(0,vi n),(3,vi m)],[],1000⟩:St)) (fun(m:Nat)=>(50000-m:Nat)) (fun(d:Bool)=>fun(m:Nat)=>((2≤m∧m≤46342)∧dZ n m∧Nat.beq (ld n) n=d:Prop)) ?_ ?_
 ·intro d hd
  exact st (2) [rq (↑n:Int),(2:Int)=↑(2:Nat)] (by refine⟨?_,(?_:(2:Int)=↑(2:Nat))⟩<;>(first|exact tr|rfl|omega)) (by exact⟨⟨aZ 2,om⟩,fun e h1 h2=>absurd h2 om,hd⟩)
 ·rintro d hd m hI
  obtain⟨⟨g1,g2⟩,g3,g4⟩:=hI
  have g1:2≤m:=g1
  have g2:m≤46342:=g2
  have g3:dZ n m:=g3
  have g4:Nat.beq (ld n) n=_:=g4
  refine oe (decide (IntKind.i64.wrap ((↑m:Int)*↑m)≤↑n)) (fun d1=>oe ((↑n:Int).tmod (↑m:Int)==0) (fun d2=>aG d false [true,true] [ty d2,(↑m:Int)≠(0:Int),ty d1] ⟨d2,?_,d1⟩ ?_)
   (fun d2=>aq [true,false] (m+1) [rq (↑n:Int),IntKind.i64.wrap ((↑m:Int)+1)=↑(m+1),ty d2,(↑m:Int)≠(0:Int),ty d1] ⟨?_,?_,d2,?_,d1⟩ ?_ ?_))
   (fun d1=>aG d true [false] [ty d1] d1 ?_)
  all_goals first|(refine cy.mk ?_;(have c1:m*m≤n:=oT (xe g2 d1);have:=IV hb c1;show 50000-(m+1)<50000-m;omega))|(refine bD.mk ?_;(have c1:m*m≤n:=oT (xe g2 d1);have:=IV hb c1;exact⟨⟨om,om⟩,SX g3 (nz rfl d2),g4⟩))|(refine dq.mk ?_;cases d<;>first|rfl|(exfalso;(first|(have c1:¬m*m≤n:=oF (xe g2 d1);rw[FU g1 hn hb g3 om,mY]at g4;cases g4;done)|(have c1:m*m≤n:=oT (xe g2 d1);have c2:2*m≤m*m:=il m g1;rw[qD hn hb g1 (zz rfl d2) g3]at g4;have:=co g4;omega))))|(first|exact tr|omega|exact fk|exact(5:Nat))
theorem QJ (n:Nat)(hn:2≤n)(hb:n≤2147483647):ar Tryz.prog [] 140 [.int .i64 (n:Int)] (.bool (Nat.beq (ld n) n)):=by
 have hl0:=SY n hn hb
 have k1:decide ((n:Int)<2)=false:=bu om
 have k2:decide ((n:Int)>2147483647)=false:=bu om
 refine pr c0 Tryz.func140 (aW hl0) ?_
 refine(let y1:List Prop:=[aj (decide ((↑n:Int)>2147483647)) false,aj (decide ((↑n:Int)<2)) false];have u1:ao y1:=⟨k2,k1⟩;oe ((ld n).beq n) (fun d1=>lr (tp 221) ((true=(ld n).beq n)::rq (↑n:Int)::ty d1::y1) ⟨?_,?_,d1,u1⟩)
  (fun d1=>lr (tp 222) ((false=(ld n).beq n)::rq (↑n:Int)::ty d1::y1) ⟨?_,?_,d1,u1⟩))
 all_goals first|(first|exact tr|exact d1.symm|exact(5:Nat))
theorem Vv (n:Int)(hn:n<2):ar Tryz.prog [] 140 [.int .i64 n] (.bool false):=by
 have k1:decide (n<2)=true:=bZ hn
 refine pr c0 Tryz.func140 aC ?_
 refine lr [true] [false=false,aj (decide (n<2)) true] ⟨?_,k1⟩
 all_goals first|exact xu
def nQ (n:Int):Bool:=decide (2≤n)&&Nat.beq (ld n.toNat) n.toNat
theorem SZ (n:Int)(hb:n≤2147483647):ar Tryz.prog [] 140 [.int .i64 n] (.bool (nQ n)):=by
 unfold nQ
 by_cases h:2≤n
 ·rw[bZ h,jZ]
  have:=QJ n.toNat om om
  rw[show((n.toNat:Nat):Int)=n by omega]at this
  exact this
 ·rw[bu h,Bool.false_and]
  exact Vv n om
def jw (c:Con):Bool:=!c.odd&&decide (c.oddity=0)
def nR (L:LC):Bool:=L.all jw
theorem Ir {L:LC}{k:Nat}(hk:k<L.length):(L.drop k).all jw=(jw (at_ L k)&&(L.drop (k+1)).all jw):=by rw[nh hk];rfl
def Xv (L:LC):aA:=⟨⟨[(16,(aD L).av),(17,vi L.length),(18,.int .i64 0)],[],1001⟩,some (nR L),fun d=>match d with
 |true=>(.exit 0,⟨[],[],1010⟩)
 |false=>(.ret,⟨[(2,.bool false)],[],1010⟩)⟩
theorem S0 (L:LC)(hn:L.length≤1000):An 1 Tryz.f97 [0,1,0,1,1] (Xv L):=by
 refine ea c0 aC (fun(k:Nat)=>(⟨[(16,(aD L).av),(17,vi L.length),(18,vi k)],[],1001⟩:St)) (fun(k:Nat)=>(L.length-k:Nat)) (fun(d:Bool)=>fun(k:Nat)=>(k≤L.length∧(L.drop k).all jw=d:Prop)) ?_ ?_
 ·intro d hd
  exact st (0) [lq L,rq (↑L.length:Int),(0:Int)=↑(0:Nat)] (by refine⟨?_,?_,(?_:(0:Int)=↑(0:Nat))⟩<;>(first|exact tr|rfl|omega|exact⟨rfl,rfl⟩)) (by exact⟨aY _,hd⟩)
 ·rintro d hd k hI
  obtain⟨hk,hd'⟩:=hI
  have hk:k≤L.length:=hk
  have hd':(L.drop k).all jw=_:=hd'
  refine oe (decide ((↑k:Int)<↑L.length)) (fun d1=>let y1:List Prop:=[(0:Int)≤↑k∧(↑k:Int)<↑L.length,ty d1];have u1:ao y1:=⟨?_,d1⟩;oe ((L.getD k Con.zero).odd) (fun d2=>aG d false [true,true] (ty d2::y1) ⟨d2,u1⟩ ?_)
   (fun d2=>oe ((L.getD k Con.zero).oddity==0) (fun d3=>aq (tp 122) (k+1) ((lq L)::rq (↑L.length:Int)::(IntKind.i64.wrap ((↑k:Int)+1)=↑(k+1))::ty (dN d3)::ty d2::y1) ⟨?_,?_,?_,(dN d3),d2,u1⟩ ?_ ?_)
   (fun d3=>aG d false (tp 121) (ty (dN d3)::ty d2::y1) ⟨(dN d3),d2,u1⟩ ?_)))
   (fun d1=>aG d true [false] [ty d1] d1 ?_)
  all_goals first|exact tS|(refine bD.mk ?_;(have dd:=oT d1;rw[Ir om,show jw (at_ L k)=true by unfold jw;rw[show(at_ L k).odd=false from d2,show(at_ L k).oddity=0 from eq_of_beq d3];rfl,jZ]at hd';exact⟨om,hd'⟩))|(refine dq.mk ?_;cases d<;>first|rfl|(exfalso;(first|(have dd:=oF d1;rw[eL om]at hd';cases hd';done)|(have dd:=oT d1;rw[Ir om,show jw (at_ L k)=false by unfold jw;first|(rw[show(at_ L k).odd=true from d2];rfl)|(rw[show decide ((at_ L k).oddity=0)=false from bu (by intro e;have d3:((at_ L k).oddity==0)=false:=d3;rw[e]at d3;cases d3),l3]),Bool.false_and]at hd';cases hd'))))|(first|exact tz|(have dd:=oT d1;exact⟨om,om⟩)|(have dd:=oT d1;rw[wo];omega)|exact(5:Nat))
theorem GQ:∀(L:LC)(s last:Int),-1≤last→jW L s last=(gF L last s&&nR L)
 |[],s,last,h=>rfl
 |c::L,s,last,h=>by
  show(px c s last&&jW L (s+c.dim) c.exp)=((jP c last s&&gF L c.exp (s+c.dim))&&(jw c&&nR L))
  have e:px c s last=(jP c last s&&jw c):=by
   rw[pJ,aX]
   unfold px jP jw
   rw[aX,dT,dT,dT,n7]
   constructor
   ·rintro⟨a1,a2,a3,a4,a5,a6,a7⟩;exact⟨⟨om,a2,a1,a5,a3,a4⟩,a6,a7⟩
   ·rintro⟨⟨a1,a2,a3,a4,a5,a6⟩,a7,a8⟩;exact⟨a3,a2,a5,a6,a4,a7,a8⟩
  rw[e]
  cases ho:jP c last s with
  |false=>simp
  |true=>
   have hx:-1≤c.exp:=by
    unfold jP at ho
    have:=oT ho
    omega
   rw[GQ L (s+c.dim) c.exp hx]
   cases jw c<;>cases gF L c.exp (s+c.dim)<;>cases nR L<;>rfl
theorem Fu:∀(L:LC)(last s:Int),gF L last s=true→(L.length:Int)≤dB L
 |[],last,s,h=>Int.le_refl 0
 |c::L,last,s,h=>by
  simp only[gF,aX]at h
  have h1:=h.1
  unfold jP at h1
  have h2:=oT h1
  have:=Fu L _ _ h.2
  simp only[dB,cR]
  omega
def ie (p:Int)(L:LC):Bool:=(decide (p≠2)&&(decide (p≤9973)&&nQ p))&&(ef L&&nR L)
theorem Xw (p:Int)(L:LC):ie p L=cY p L:=by
 unfold ie cY ef nQ
 rw[GQ L 0 (-1) om]
 cases ho:gF L (-1) 0 with
 |false=>simp
 |true=>
  have hd:=Fu L _ _ ho
  have e1:decide (dB L>0)=!L.isEmpty:=by
   cases L with
   |nil=>rfl
   |cons c l=>exact bZ (by simp only[cR]at hd;omega)
  rw[e1]
  have e2:(decide (p≠2)&&(decide (p≤9973)&&(decide (2≤p)&&Nat.beq (ld p.toNat) p.toNat)))=(decide (2<p∧p≤9973)&&Nat.beq (ld p.toNat) p.toNat):=by
   rw[pJ]
   simp only[aX,dT]
   constructor
   ·rintro⟨a1,a2,a3,a4⟩;exact⟨⟨om,a2⟩,a4⟩
   ·rintro⟨⟨a1,a2⟩,a4⟩;exact⟨om,a2,om,a4⟩
  rw[e2]
  cases decide (2<p∧p≤9973)<;>cases Nat.beq (ld p.toNat) p.toNat<;>cases L.isEmpty<;>cases nR L<;>rfl
def GR:List bV:=[
 ⟨140,[],fun A=>match A with
  |[.int .i64 n]=>some (.bool (nQ n),[n≤2147483647])
  |_=>none⟩,
 ⟨127,[],fun A=>match A with
  |[.sl n 5 row]=>some (.bool (ef (ag n row)),[(∀i,i<n→row i=(Con.ofR (row i)).rvs)∧n≤1000])
  |_=>none⟩]
theorem Pe:∀e∈GR,ch Tryz.prog e:=by
 intro e he
 simp only[GR,bx,cC,cH]at he
 rcases he with rfl|rfl
 all_goals
  intro A R ms h hm
  simp only at h
  split at h
  all_goals first|exact fF|cases h
 ·exact SZ _ (hm _ cZ)
 ·obtain⟨h1,h2⟩:=hm _ cZ
  exact ar.imp (Df _ (by rw[jB];omega)) (.cons (.con h1) .nil)
theorem aaM {p:Int}{L:LC}(h:(p==2)=true):false=ie p L:=by
 have:=eq_of_beq h
 subst this;rfl
theorem aaN {p:Int}{L:LC}(h:decide (p≤9973)=false):false=ie p L:=by unfold ie;rw[h];simp
theorem aaO {p:Int}{L:LC}(h:nQ p=false):false=ie p L:=by unfold ie;rw[h];simp
theorem aaP {p:Int}{L:LC}(h:ef L=false):false=ie p L:=by unfold ie;rw[h];simp
theorem aaQ {p:Int}{L:LC}{b:Bool}(h1:(p==2)=false)(h2:decide (p≤9973)=true)(h3:nQ p=true)(h4:ef L=true)(h5:nR L=b):b=ie p L:=by
 unfold ie
 rw[h2,h3,h4,h5,bZ (show p≠2 from fun e=>by rw[e]at h1;cases h1)];rfl
theorem QK (p:Int)(L:LC)(hn:L.length≤1000):ar Tryz.prog [] 97 [.agg [.int .i64 p,aD L]] (.bool (ie p L)):=by
 refine pr (cE Pe) Tryz.func97 (aW (S0 L hn)) ?_
 refine oe (p==2) (fun d1=>lr [false] [false=ie p L,ty (dN d1)] ⟨?_,(dN d1)⟩)
  (fun d1=>oe (decide (p≤9973)) (fun d2=>let y1:List Prop:=[p≤2147483647,ty d2,ty (dN d1)];have u1:ao y1:=⟨?_,d2,(dN d1)⟩;oe (nQ p) (fun d3=>let y2:List Prop:=((lz L)∧L.length≤1000)::ty (dN d3)::y1;have u2:ao y2:=⟨?_,(dN d3),u1⟩;oe (ef (ag L.length fun i=>(L.getD i Con.zero).rvs)) (fun d4=>oe (nR L) (fun d5=>lr (tp 11221) ((true=ie p L)::(lq L)::rq (↑L.length:Int)::ty d5::ty (dN d4)::y2) ⟨?_,?_,?_,d5,(dN d4),u2⟩)
  (fun d5=>lr (tp 11222) ((false=ie p L)::(lq L)::rq (↑L.length:Int)::ty d5::ty (dN d4)::y2) ⟨?_,?_,?_,d5,(dN d4),u2⟩))
  (fun d4=>lr (tp 1121) ((false=ie p L)::ty (dN d4)::y2) ⟨?_,(dN d4),u2⟩))
  (fun d3=>lr (tp 111) ((false=ie p L)::ty (dN d3)::y1) ⟨?_,(dN d3),u1⟩))
  (fun d2=>lr [true,false] [false=ie p L,ty d2,ty (dN d1)] ⟨?_,d2,(dN d1)⟩))
 all_goals first|(first|exact tz|exact kt|(have:=oT d2;omega)|exact aaM d1|exact aaN d2|exact aaO d3|(rw[bn]at d4;first|exact aaP d4|exact aaQ d1 d2 d3 d4 d5)|exact(5:Nat))
theorem Zf {L:LC}(hL:aL L){k:Nat}(hk:k<L.length):w6.wrap (eX L k+(L.getD k z0c).dim)=eX L (k+1):=by
 have hl:=hL.1
 have hd:=vK hL k om
 have ha:=(hL.at hk).2.1
 show w6.wrap (eX L k+(at_ L k).dim)=eX L k+(at_ L k).dim
 exact wo
def nY (L:LC)(n i:AV):List (Nat×AV):=[(3,n),(7,(aD L).av),(8,vi L.length),(9,i)]
def abz (L:LC):aA:=⟨⟨nY L (.int .i64 0) (.int .i64 0),[],1001⟩,none,fun _=>(.exit 0,⟨[(3,vi (eX L L.length))],[],1010⟩)⟩
theorem RF (L:LC)(hL:aL L):An 1 Tryz.f98 [0,1,0,1,1] (abz L):=by
 refine cN c0 aC (fun(k:Nat)=>(⟨nY L (vi (eX L k)) (vi k),[],1001⟩:St)) (fun(k:Nat)=>(L.length-k:Nat)) (fun(k:Nat)=>(k≤L.length:Prop)) ?_ ?_
 ·exact st (0) [(0:Int)=eX L (0:Nat),lq L,rq (↑L.length:Int),(0:Int)=↑(0:Nat)] xj (by exact aY _)
 ·intro k hI
  have hk:k≤L.length:=hI
  have hl:=hL.1
  refine oe (decide ((↑k:Int)<↑L.length)) (fun d1=>aq [true] (k+1) [w6.wrap (eX L k+(L.getD k z0c).dim)=eX L (k+1),lq L,rq (↑L.length:Int),w6.wrap ((↑k:Int)+1)=↑(k+1),(0:Int)≤↑k∧(↑k:Int)<↑L.length,ty d1] ⟨?_,?_,?_,?_,?_,d1⟩ ?_ ?_)
   (fun d1=>br [false] [eX L k=eX L L.length,ty d1] ⟨?_,d1⟩)
  all_goals first|exact tS|exact xr|exact cT|(first|exact tz|(have dd:=oT d1;first|exact⟨om,om⟩|exact Zf hL om|exact fk)|exact xw|exact(5:Nat))
theorem RG (p:Int)(L:LC)(hL:aL L):ar Tryz.prog [] 98 [.agg [.int .i64 p,aD L]] (.int .i64 (gX L)):=by
 have hl0:=RF L hL
 refine pr c0 Tryz.func98 (aW hl0) ?_
 refine lr [] [eX L L.length=gX L,lq L,rq (↑L.length:Int)] ⟨?_,?_,(?_:(↑L.length:Int)=↑L.length)⟩
 all_goals first|exact CE
theorem abA {L:LC}(hL:aL L){k:Nat}(hk:k<L.length):w6.wrap (eY L k+w6.wrap ((L.getD k z0c).dim*(L.getD k z0c).exp))=eY L (k+1):=by
 have hl:=hL.1
 have hd:=vL hL k om
 have ha:=hL.at hk
 have hp:=zS ha.2.1 ha.1
 show w6.wrap (eY L k+w6.wrap ((at_ L k).dim*(at_ L k).exp))=eY L k+(at_ L k).dim*(at_ L k).exp
 generalize (at_ L k).dim*(at_ L k).exp=m at hp
 have e1:w6.wrap m=m:=wo
 rw[e1,wo]
def xpA (L:LC):aA:=⟨⟨nY L (.int .i64 0) (.int .i64 0),[],1001⟩,none,fun _=>(.exit 0,⟨[(3,vi (eY L L.length))],[],1010⟩)⟩
theorem Ug (L:LC)(hL:aL L):An 1 Tryz.f99 [0,1,0,1,1] (xpA L):=by
 refine cN c0 aC (fun(k:Nat)=>(⟨nY L (vi (eY L k)) (vi k),[],1001⟩:St)) (fun(k:Nat)=>(L.length-k:Nat)) (fun(k:Nat)=>(k≤L.length:Prop)) ?_ ?_
 ·exact st (0) [(0:Int)=eY L (0:Nat),lq L,rq (↑L.length:Int),(0:Int)=↑(0:Nat)] xj (by exact aY _)
 ·intro k hI
  have hk:k≤L.length:=hI
  have hl:=hL.1
  refine oe (decide ((↑k:Int)<↑L.length)) (fun d1=>aq [true] (k+1) [w6.wrap (eY L k+w6.wrap ((L.getD k z0c).dim*(L.getD k z0c).exp))=eY L (k+1),lq L,rq (↑L.length:Int),w6.wrap ((↑k:Int)+1)=↑(k+1),(0:Int)≤↑k∧(↑k:Int)<↑L.length,ty d1] ⟨?_,?_,?_,?_,?_,d1⟩ ?_ ?_)
   (fun d1=>br [false] [eY L k=eY L L.length,ty d1] ⟨?_,d1⟩)
  all_goals first|exact tS|exact xr|exact cT|(first|exact tz|(have dd:=oT d1;first|exact⟨om,om⟩|exact abA hL om|exact fk)|exact xw|exact(5:Nat))
theorem RI (p:Int)(L:LC)(hL:aL L):ar Tryz.prog [] 99 [.agg [.int .i64 p,aD L]] (.int .i64 (gY L)):=by
 have hl0:=Ug L hL
 refine pr c0 Tryz.func99 (aW hl0) ?_
 refine lr [] [eY L L.length=gY L,lq L,rq (↑L.length:Int)] ⟨?_,?_,(?_:(↑L.length:Int)=↑L.length)⟩
 all_goals first|exact CE
def pdA (L:LC):aA:=⟨⟨nY L (.int .i64 1) (.int .i64 0),[],1001⟩,none,fun _=>(.exit 0,⟨[(3,vi (cO L L.length))],[],1010⟩)⟩
theorem Uh (L:LC)(hL:L.length≤1000):An 1 Tryz.f64 [0,1,0,1,1] (pdA L):=by
 refine cN c0 aC (fun(k:Nat)=>(⟨nY L (vi (cO L k)) (vi k),[],1001⟩:St)) (fun(k:Nat)=>(L.length-k:Nat)) (fun(k:Nat)=>(k≤L.length:Prop)) ?_ ?_
 ·exact st (0) [(1:Int)=cO L (0:Nat),lq L,rq (↑L.length:Int),(0:Int)=↑(0:Nat)] xj (by exact aY _)
 ·intro k hI
  have hk:k≤L.length:=hI
  refine oe (decide ((↑k:Int)<↑L.length)) (fun d1=>aq [true] (k+1) [w6.wrap (cO L k*(L.getD k z0c).sign)=cO L (k+1),lq L,rq (↑L.length:Int),w6.wrap ((↑k:Int)+1)=↑(k+1),(0:Int)≤↑k∧(↑k:Int)<↑L.length,ty d1] ⟨?_,?_,?_,?_,?_,d1⟩ ?_ ?_)
   (fun d1=>br [false] [cO L k=cO L L.length,ty d1] ⟨?_,d1⟩)
  all_goals first|exact tS|exact xr|exact cT|(first|exact tz|(have dd:=oT d1;first|exact⟨om,om⟩|exact rfl|exact fk)|exact xw|exact(5:Nat))
theorem RJ (p:Int)(L:LC)(hL:L.length≤1000):ar Tryz.prog [] 64 [.agg [.int .i64 p,aD L]] (.int .i64 (cO L L.length)):=by
 have hl0:=Uh L hL
 refine pr c0 Tryz.func64 (aW hl0) ?_
 refine lr [] [rq (cO L L.length),lq L,rq (↑L.length:Int)] ⟨?_,?_,(?_:(↑L.length:Int)=↑L.length)⟩
 all_goals first|exact CE
theorem Hz {m:Nat}(hm:0<m):∀(f a e out:Nat),out<m→mC f a e m out<m
 |0,a,e,out,h=>h
 |f+1,a,e,out,h=>by
  unfold mC
  cases Nat.beq e 0 with
  |true=>exact h
  |false=>
   refine Hz hm f _ _ _ ?_
   cases Nat.beq (e%2) 1 with
   |true=>exact kA _ hm
   |false=>exact h
def nZ (p:Nat)(c:Con):Int:=c.dim*((mp (p%8) c.exp.toNat 8 (1%8):Nat)+7)+(bif decide (c.exp%2=1)&&decide (c.sign=-1)then 4 else 0)
def eA (p:Nat)(L:LC):Nat→Int
 |0=>0
 |k+1=>eA p L k+nZ p (at_ L k)
theorem NA (p e:Nat):mp (p%8) e 8 (1%8)<8:=Hz de _ _ _ _ de
theorem Zg {p:Nat}{c:Con}(h:jy c):0≤nZ p c∧nZ p c≤14004:=by
 have h8:=NA p c.exp.toNat
 unfold nZ
 generalize mp (p%8) c.exp.toNat 8 (1%8)=x at h8
 have h1:=h.2.1
 have h2:0≤c.dim*((x:Int)+7):=Int.mul_nonneg om om
 have h3:c.dim*((x:Int)+7)≤1000*14:=Int.mul_le_mul h1.2 om om om
 cases (decide (c.exp%2=1)&&decide (c.sign=-1))
 ·show 0≤c.dim*((x:Int)+7)+0∧c.dim*((x:Int)+7)+0≤14004;omega
 ·show 0≤c.dim*((x:Int)+7)+4∧c.dim*((x:Int)+7)+4≤14004;omega
theorem vU {p:Nat}{L:LC}(hL:aL L):∀k,k≤L.length→0≤eA p L k∧eA p L k≤14004*k
 |0,_=>by simp[eA]
 |k+1,hk=>by
  obtain⟨h1,h2⟩:=vU (p:=p) hL k om
  have:=Zg (p:=p) (hL.at (k:=k) om)
  show 0≤eA p L k+nZ p (at_ L k)∧eA p L k+nZ p (at_ L k)≤_
  omega
def NB (p:Int)(L:LC):List (Nat×ai):=[(1000,⟨.plain [vi p,(aD L).av],45,0,false,true⟩)]
def xcA (p:Nat)(L:LC):aA:=⟨⟨(1,.ptr 1000 0)::nY L (.int .i64 0) (.int .i64 0),NB p L,1001⟩,none,fun _=>(.exit 0,⟨[(3,vi (eA p L L.length))],[],1010⟩)⟩
theorem Kg {p:Nat}{L:LC}(hL:aL L){k:Nat}(hk:k<L.length){x:Int}(hx:x=(bif decide ((at_ L k).exp%2=1)&&decide ((at_ L k).sign=-1)then 4 else 0)):w6.wrap (eA p L k+w6.wrap ((at_ L k).dim*w6.wrap (((mp (p%8) (at_ L k).exp.toNat 8 (1%8):Nat):Int)+7)))+x=eA p L (k+1)∧0≤eA p L (k+1)∧eA p L (k+1)≤15000000:=by
 have hl:=hL.1
 have hd:=vU (p:=p) hL k om
 have hd2:=vU (p:=p) hL (k+1) om
 have ha:=(hL.at hk).2.1
 refine⟨?_,om,om⟩
 show _=eA p L k+nZ p (at_ L k)
 unfold nZ
 rw[←hx]
 have h8:=NA p (at_ L k).exp.toNat
 generalize mp (p%8) (at_ L k).exp.toNat 8 (1%8)=y at h8
 have h2:0≤(at_ L k).dim*((y:Int)+7):=Int.mul_nonneg om om
 have h3:(at_ L k).dim*((y:Int)+7)≤1000*14:=Int.mul_le_mul ha.2 om om om
 rw[kP (n:=(y:Int)+7) om om]
 generalize (at_ L k).dim*((y:Int)+7)=m at h2 h3
 rw[kP (n:=m) om om,wo]
 omega
theorem Kh {c:Con}(h:jy c){b1 b2:Bool}(d2:(c.exp.tmod 2==1)=b1)(d3:(c.sign==-1)=b2):(bif decide (c.exp%2=1)&&decide (c.sign=-1)then(4:Int)else 0)=bif b1&&b2 then 4 else 0:=by
 have e:c.exp=((c.exp.toNat:Nat):Int):=by have:=h.1;omega
 have e1:decide (c.exp%2=1)=b1:=by
  rw[←d2]
  rw[e,show(((c.exp.toNat:Nat):Int).tmod 2==1)=Nat.beq (c.exp.toNat%2) 1 from l7 c.exp.toNat 2 1]
  cases hb:Nat.beq (c.exp.toNat%2) 1 with
  |true=>have:=co hb;exact bZ om
  |false=>have:=lW hb;exact bu om
 have e2:decide (c.sign=-1)=b2:=by
  rw[←d3]
  cases hb:(c.sign==-1)with
  |true=>exact bZ (eq_of_beq hb)
  |false=>exact bu (by intro e;rw[e]at hb;cases hb)
 rw[e1,e2]
theorem abB {c:Con}(h:jy c)(d2:(c.exp.tmod 2==1)=false):(bif decide (c.exp%2=1)&&decide (c.sign=-1)then(4:Int)else 0)=0:=Kh h d2 rfl
theorem Ui (p:Nat)(L:LC)(hL:aL L)(hp:p≤2147483647):An 1 Tryz.f63 [0,1,0,1,1] (xcA p L):=by
 refine cN (cE D4) aC (fun(k:Nat)=>(⟨(1,.ptr 1000 0)::nY L (vi (eA p L k)) (vi k),NB p L,1001⟩:St)) (fun(k:Nat)=>(L.length-k:Nat)) (fun(k:Nat)=>(k≤L.length:Prop)) ?_ ?_
 ·exact st (0) [(0:Int)=eA p L (0:Nat),lq L,rq (↑L.length:Int),(0:Int)=↑(0:Nat),rq (↑p:Int),lq L] (by refine⟨?_,?_,?_,?_,?_,(?_:lq L)⟩<;>(first|exact tr|rfl|omega|exact⟨rfl,rfl⟩)) (by exact aY _)
 ·intro k hI
  have hk:k≤L.length:=hI
  have hl:=hL.1
  refine(let q1:List Prop→List Prop:=fun l0=>(w6.wrap (eA p L k+w6.wrap ((L.getD k z0c).dim*w6.wrap ((↑(mp (p%Int.toNat (8:Int)) (L.getD k z0c).exp.toNat (Int.toNat (8:Int)) ((1:Nat)%Int.toNat (8:Int))):Int)+7)))=eA p L (k+1))::(lq L)::rq (↑L.length:Int)::(w6.wrap ((↑k:Int)+1)=↑(k+1))::rq (↑p:Int)::(lq L)::l0;oe (decide ((↑k:Int)<↑L.length)) (fun d1=>let y1:List Prop:=(let v1:=L.getD k z0c;[(2:Int)≠(0:Int),rq (v1.dim),(0:Int)≤↑p∧(0:Int)<8∧(8:Int)≤2147483648∧(0:Int)≤v1.exp∧v1.exp<2147483648,(0:Int)≤↑k∧(↑k:Int)<↑L.length,ty d1]);have u1:ao y1:=⟨?_,?_,?_,?_,d1⟩;oe ((L.getD k z0c).exp.tmod (2:Int)==1) (fun d2=>oe ((L.getD k z0c).sign==-1) (fun d3=>aq (tp 111) (k+1) ((w6.wrap (w6.wrap (eA p L k+w6.wrap ((L.getD k z0c).dim*w6.wrap ((↑(mp (p%Int.toNat (8:Int)) (L.getD k z0c).exp.toNat (Int.toNat (8:Int)) ((1:Nat)%Int.toNat (8:Int))):Int)+7)))+4)=eA p L (k+1))::(lq L)::rq (↑L.length:Int)::(w6.wrap ((↑k:Int)+1)=↑(k+1))::rq (↑p:Int)::(lq L)::ty d3::ty d2::y1) ⟨?_,?_,?_,?_,?_,?_,d3,d2,u1⟩ ?_ ?_)
   (fun d3=>aq (tp 112) (k+1) (q1 (ty d3::ty d2::y1)) ⟨?_,?_,?_,?_,?_,?_,d3,d2,u1⟩ ?_ ?_))
   (fun d2=>aq [true,false] (k+1) (q1 (ty d2::y1)) ⟨?_,?_,?_,?_,?_,?_,d2,u1⟩ ?_ ?_))
   (fun d1=>br [false] [eA p L k=eA p L L.length,ty d1] ⟨?_,d1⟩))
  all_goals((try clear u1);(try clear y1))
  all_goals first|exact tS|exact xr|exact cT|(first|exact tz|decide|(have dd:=oT d1;have hc:=hL.at (k:=k) om;have hc1:=hc.1;first|exact⟨om,om⟩|exact⟨om,om,om,hc1.1,by show(at_ L k).exp<_;omega⟩|exact fk|(have h9:=Kg (p:=p) hL (k:=k) om (Kh hc d2 d3).symm;first|exact(congrArg w6.wrap h9.1).trans (wo)|exact(Int.add_zero _).symm.trans h9.1)|(have h9:=Kg (p:=p) hL (k:=k) om (abB hc d2).symm;exact(Int.add_zero _).symm.trans h9.1))|exact xw|exact(5:Nat))
theorem RK (p:Nat)(L:LC)(hL:aL L)(hp:p≤2147483647):ar Tryz.prog [] 63 [.agg [.int .i64 (p:Int),aD L]] (.int .i64 (eA p L L.length%8)):=by
 have hl0:=Ui p L hL hp
 have hb:=vU (p:=p) hL L.length (aZ _)
 refine pr (cE D4) Tryz.func63 (aW hl0) ?_
 refine lr [] [(eA p L L.length).tmod (8:Int)=eA p L L.length%(8:Int),(8:Int)≠(0:Int),lq L,rq (↑L.length:Int),rq (↑p:Int),lq L] ⟨?_,?_,?_,?_,?_,(?_:lq L)⟩
 all_goals first|(first|exact tz|exact gh hb.1|decide|exact(5:Nat))
def iH (l:QfSy.Loc):Bool:=bif decide (l.prime=2)then be 2 l.list else cY l.prime l.list
def nO (dim det:Int)(p:Int)(l:QfSy.Loc):Bool:=decide (l.prime=p)&&(iH l&&(decide (gX l.list=dim)&&decide (gY l.list=((vv p.toNat det.toNat).1:Int))))
def ir (dim det:Int):List Int→LL→Bool
 |[],_=>true
 |_::_,[]=>false
 |q::P,l::L=>nO dim det q l&&ir dim det P L
def di (g:af):Bool:=decide (1≤g.dim)&&decide (g.dim≤8)&&decide (1≤g.det)&&decide (g.det≤10000)&&(decide ((bQ (2*g.det).toNat).length=g.locs.length)&&ir g.dim g.det (bQ (2*g.det).toNat) g.locs)
theorem DB {l:QfSy.Loc}(h:iH l=true):aL l.list:=by
 unfold iH at h
 cases hp:decide (l.prime=2)with
 |true=>rw[hp]at h;exact gn h
 |false=>rw[hp]at h;exact vp h
theorem Es {l:QfSy.Loc}(h:iH l=true):2≤l.prime∧l.prime≤9973∧(l.prime=2∨l.prime.toNat%2≠0):=by
 unfold iH at h
 cases hp:decide (l.prime=2)with
 |true=>have:=oT hp;omega
 |false=>rw[hp]at h;have:=vS h;omega
theorem C7 {dim det:Int}{P:List Int}{L:LL}{i:Nat}(hi:i<P.length)(hl:P.length=L.length):ir dim det (P.drop i) (L.drop i)=(nO dim det (P.getD i 0) (L.getD i z0l)&&ir dim det (P.drop (i+1)) (L.drop (i+1))):=by
 rw[kU hi,kU (by omega:i<L.length)]
 simp[ir,cj,hi,show i<L.length by omega]
theorem O6 {dim det:Int}{P:List Int}{L:LL}{i:Nat}(hi:P.length≤i):ir dim det (P.drop i) (L.drop i)=true:=by
 rw[eL hi];rfl
def GI:List bV:=[
 ⟨97,[],fun A=>match A with
  |[.agg [.int .i64 p,.sl n 5 row]]=>some (.bool (cY p (ag n row)),[(∀i,i<n→row i=(Con.ofR (row i)).rvs)∧n≤1000])
  |_=>none⟩,
 ⟨96,[],fun A=>match A with
  |[.agg [.int .i64 p,.sl n 5 row]]=>some (.bool (be p (ag n row)),[(∀i,i<n→row i=(Con.ofR (row i)).rvs)∧n≤1000])
  |_=>none⟩,
 ⟨98,[],fun A=>match A with
  |[.agg [.int .i64 p,.sl n 5 row]]=>some (.int .i64 (gX (ag n row)),[(∀i,i<n→row i=(Con.ofR (row i)).rvs)∧aL (ag n row)])
  |_=>none⟩,
 ⟨99,[],fun A=>match A with
  |[.agg [.int .i64 p,.sl n 5 row]]=>some (.int .i64 (gY (ag n row)),[(∀i,i<n→row i=(Con.ofR (row i)).rvs)∧aL (ag n row)])
  |_=>none⟩,
 ⟨53,[],fun A=>match A with
  |[.int .i64 a,.int .i64 p]=>some (.int .i64 ((vv p.toNat a.toNat).1:Int),[0<a∧a≤2147483647∧2≤p])
  |_=>none⟩,
 ⟨16,[],fun A=>match A with
  |[.int .i64 a]=>some (aI (.num .i64) (bQ a.toNat),[0<a∧a≤96])
  |_=>none⟩]
theorem yj:∀e∈GI,ch Tryz.prog e:=by
 intro e he
 simp only[GI,bx,cC,cH]at he
 rcases he with rfl|rfl|rfl|rfl|rfl|rfl
 all_goals
  intro A R ms h hm
  simp only at h
  split at h
  all_goals first|exact fF|cases h
 ·obtain⟨h1,h2⟩:=hm _ cZ
  rw[←Xw]
  exact ar.imp (QK _ _ fR) (.cons (.agg (.cons .same (.cons (.con h1) .nil))) .nil)
 ·obtain⟨h1,h2⟩:=hm _ cZ
  exact ar.imp (ue _ _ fR) (.cons (.agg (.cons .same (.cons (.con h1) .nil))) .nil)
 ·obtain⟨h1,h2⟩:=hm _ cZ
  exact ar.imp (RG _ _ h2) (.cons (.agg (.cons .same (.cons (.con h1) .nil))) .nil)
 ·obtain⟨h1,h2⟩:=hm _ cZ
  exact ar.imp (RI _ _ h2) (.cons (.agg (.cons .same (.cons (.con h1) .nil))) .nil)
 ·rename_i a p
  obtain⟨h1,h2,h3⟩:=hm _ cZ
  have:=DH a.toNat p.toNat om om om
  rw[show((a.toNat:Nat):Int)=a by omega,show((p.toNat:Nat):Int)=p by omega]at this
  exact this
 ·rename_i a
  obtain⟨h1,h2⟩:=hm _ cZ
  have:=D3 a.toNat om om
  rw[show((a.toNat:Nat):Int)=a by omega]at this
  exact this
theorem JD {l:QfSy.Loc}{q:Int}{b:Bool}(h2:(l.prime==q)=true)(h3:(q==2)=false)(hd:cY l.prime (ag l.list.length fun i=>(l.list.getD i z0c).rvs)=b):iH l=b:=by
 have hq:=eq_of_beq h2
 have hp:l.prime≠2:=by intro e;rw[←hq,e]at h3;cases h3
 unfold iH
 rw[show decide (l.prime=2)=false from bu hp]
 rw[bn]at hd
 exact hd
theorem JE {l:QfSy.Loc}{q:Int}{b:Bool}(h2:(l.prime==q)=true)(h3:(q==2)=true)(hd:be l.prime (ag l.list.length fun i=>(l.list.getD i z0c).rvs)=b):iH l=b:=by
 have hq:=eq_of_beq h2
 have hp:l.prime=2:=hq.trans (eq_of_beq h3)
 unfold iH
 rw[show decide (l.prime=2)=true from bZ hp]
 rw[bn,hp]at hd
 exact hd
theorem frB_t {dim det:Int}{q:Int}{l:QfSy.Loc}(h1:(l.prime==q)=true)(h2:iH l=true)(h3:(gX (ag l.list.length fun i=>(l.list.getD i z0c).rvs)==dim)=true)(h4:(gY (ag l.list.length fun i=>(l.list.getD i z0c).rvs)==((vv q.toNat det.toNat).1:Int))=true):nO dim det q l=true:=by
 rw[bn]at h3 h4
 unfold nO
 rw[show decide (l.prime=q)=true from bZ (eq_of_beq h1),h2,show decide (gX l.list=dim)=true from bZ (eq_of_beq h3),show decide (gY l.list=((vv q.toNat det.toNat).1:Int))=true from bZ (eq_of_beq h4)]
 rfl
theorem vE {dim det:Int}{q:Int}{l:QfSy.Loc}(h:nO dim det q l=true):(l.prime==q)=true∧iH l=true∧(gX (ag l.list.length fun i=>(l.list.getD i z0c).rvs)==dim)=true∧(gY (ag l.list.length fun i=>(l.list.getD i z0c).rvs)==((vv q.toNat det.toNat).1:Int))=true:=by
 unfold nO at h
 simp only[aX,dT]at h
 obtain⟨h1,h2,h3,h4⟩:=h
 rw[bn]
 exact⟨by rw[h1];exact e9 _,h2,by rw[h3];exact e9 _,by rw[h4];exact e9 _⟩
def qV (g:af):List (Nat×ai):=[(1000,⟨.plain (RV.avl g.rvs),32,0,false,true⟩)]
def K0 (P:List Int)(i:AV):List (Nat×AV):=[(1,.ptr 1000 0),(35,(aI (.num .i64) P).av),(36,vi P.length),(37,i)]
def Xh (g:af)(P:List Int):aA:=⟨⟨K0 P (.int .i64 0),qV g,1001⟩,some (ir g.dim g.det P g.locs),fun d=>match d with
 |true=>(.exit 0,⟨[],[],1020⟩)
 |false=>(.ret,⟨[(2,.bool false)],[],1020⟩)⟩
theorem Ve (g:af)(P:List Int)(hP:P.length≤1000)(hlen:P.length=g.locs.length)(hL:∀l∈g.locs,l.list.length≤1000)(hdet:1≤g.det∧g.det≤48):An 1 Tryz.f59 [0,1,0,1,1,1,1] (Xh g P):=by
 refine ea (cE yj) aC (fun(j:Nat)=>(⟨K0 P (vi j),qV g,1001⟩:St)) (fun(j:Nat)=>(P.length-j:Nat)) (fun(d:Bool)=>fun(j:Nat)=>(j≤P.length∧ir g.dim g.det (P.drop j) (g.locs.drop j)=ir g.dim g.det P g.locs∧ir g.dim g.det P g.locs=d:Prop)) ?_ ?_
 ·intro d hd
  exact st (0) (let t1:=aa.num IntKind.i64;[sr P fun i=>t1.rvs (P.getD i t1.zero),rq (↑P.length:Int),(0:Int)=↑(0:Nat),g.dim=g.dim,g.det=g.det,sl g.locs]) B5 (by exact⟨aY _,rfl,hd⟩)
 ·rintro d hd j hI
  obtain⟨ht,hf,hs⟩:=hI
  have ht:j≤P.length:=ht
  have hf:ir g.dim g.det (P.drop j) (g.locs.drop j)=ir g.dim g.det P g.locs:=hf
  have ek:=wk j
  refine(let q1:List Prop→List Prop:=fun l0=>(let v1:=aa.num IntKind.i64;(sr P fun i=>v1.rvs (P.getD i v1.zero))::rq (↑P.length:Int)::(w6.wrap ((↑j:Int)+1)=↑(j+1))::(g.dim=g.dim)::(g.det=g.det)::(sl g.locs)::l0);oe (decide ((↑j:Int)<↑P.length)) (fun d1=>let y1:List Prop:=[(0:Int)≤↑j∧(↑j:Int)<↑g.locs.length,(0:Int)≤↑j∧(↑j:Int)<↑P.length,ty d1];have u1:ao y1:=⟨?_,?_,d1⟩;oe ((g.locs.getD j z0l).prime==P.getD j (aa.num IntKind.i64).zero) (fun d2=>let y2:List Prop:=ty (dN d2)::y1;have u2:ao y2:=⟨(dN d2),u1⟩;oe (P.getD j (aa.num IntKind.i64).zero==2) (fun d3=>let y3:List Prop:=(let v1:=g.locs.getD j z0l;((∀(i:Nat),i<v1.list.length→(fun i=>(v1.list.getD i z0c).rvs) i=(Con.ofR ((fun i=>(v1.list.getD i z0c).rvs) i)).rvs)∧v1.list.length≤1000)::ty d3::ty (dN d3)::y2);have u3:ao y3:=⟨?_,d3,(dN d3),u2⟩;oe (be (g.locs.getD j z0l).prime (ag (g.locs.getD j z0l).list.length fun i=>((g.locs.getD j z0l).list.getD i z0c).rvs)) (fun d4=>let y4:List Prop:=(let v1:=g.locs.getD j z0l;(g.dim=g.dim)::((∀(i:Nat),i<v1.list.length→(fun i=>(v1.list.getD i z0c).rvs) i=(Con.ofR ((fun i=>(v1.list.getD i z0c).rvs) i)).rvs)∧aL (ag v1.list.length fun i=>(v1.list.getD i z0c).rvs))::ty (dN d4)::y3);have u4:ao y4:=⟨?_,?_,(dN d4),u3⟩;oe (gX (ag (g.locs.getD j z0l).list.length fun i=>((g.locs.getD j z0l).list.getD i z0c).rvs)==g.dim) (fun d5=>let y5:List Prop:=(let v1:=g.locs.getD j z0l;((0:Int)<g.det∧g.det≤2147483647∧(2:Int)≤P.getD j (aa.num IntKind.i64).zero)::(g.det=g.det)::((∀(i:Nat),i<v1.list.length→(fun i=>(v1.list.getD i z0c).rvs) i=(Con.ofR ((fun i=>(v1.list.getD i z0c).rvs) i)).rvs)∧aL (ag v1.list.length fun i=>(v1.list.getD i z0c).rvs))::ty (dN d5)::y4);have u5:ao y5:=⟨?_,?_,?_,(dN d5),u4⟩;oe (gY (ag (g.locs.getD j z0l).list.length fun i=>((g.locs.getD j z0l).list.getD i z0c).rvs)==(↑(vv (Int.toNat (P.getD j (aa.num IntKind.i64).zero)) g.det.toNat).fst:Int)) (fun d6=>aq (tp 1221222) (j+1) (q1 (ty (dN d6)::y5)) ⟨?_,?_,?_,?_,?_,?_,(dN d6),u5⟩ ?_ ?_)
   (fun d6=>aG d false (tp 1221221) (ty (dN d6)::y5) ⟨(dN d6),u5⟩ ?_))
   (fun d5=>aG d false (tp 122121) (ty (dN d5)::y4) ⟨(dN d5),u4⟩ ?_))
   (fun d4=>aG d false (tp 12211) (ty (dN d4)::y3) ⟨(dN d4),u3⟩ ?_))
   (fun d3=>let y3:List Prop:=(let v1:=g.locs.getD j z0l;((∀(i:Nat),i<v1.list.length→(fun i=>(v1.list.getD i z0c).rvs) i=(Con.ofR ((fun i=>(v1.list.getD i z0c).rvs) i)).rvs)∧v1.list.length≤1000)::ty (dN d3)::y2);have u3:ao y3:=⟨?_,(dN d3),u2⟩;oe (cY (g.locs.getD j z0l).prime (ag (g.locs.getD j z0l).list.length fun i=>((g.locs.getD j z0l).list.getD i z0c).rvs)) (fun d4=>let y4:List Prop:=(let v1:=g.locs.getD j z0l;(g.dim=g.dim)::((∀(i:Nat),i<v1.list.length→(fun i=>(v1.list.getD i z0c).rvs) i=(Con.ofR ((fun i=>(v1.list.getD i z0c).rvs) i)).rvs)∧aL (ag v1.list.length fun i=>(v1.list.getD i z0c).rvs))::ty d3::ty (dN d4)::y3);have u4:ao y4:=⟨?_,?_,d3,(dN d4),u3⟩;oe (gX (ag (g.locs.getD j z0l).list.length fun i=>((g.locs.getD j z0l).list.getD i z0c).rvs)==g.dim) (fun d5=>let y5:List Prop:=(let v1:=g.locs.getD j z0l;((0:Int)<g.det∧g.det≤2147483647∧(2:Int)≤P.getD j (aa.num IntKind.i64).zero)::(g.det=g.det)::((∀(i:Nat),i<v1.list.length→(fun i=>(v1.list.getD i z0c).rvs) i=(Con.ofR ((fun i=>(v1.list.getD i z0c).rvs) i)).rvs)∧aL (ag v1.list.length fun i=>(v1.list.getD i z0c).rvs))::ty (dN d5)::y4);have u5:ao y5:=⟨?_,?_,?_,(dN d5),u4⟩;oe (gY (ag (g.locs.getD j z0l).list.length fun i=>((g.locs.getD j z0l).list.getD i z0c).rvs)==(↑(vv (Int.toNat (P.getD j (aa.num IntKind.i64).zero)) g.det.toNat).fst:Int)) (fun d6=>aq (tp 1212222) (j+1) (q1 (ty (dN d6)::y5)) ⟨?_,?_,?_,?_,?_,?_,(dN d6),u5⟩ ?_ ?_)
   (fun d6=>aG d false (tp 1212221) (ty (dN d6)::y5) ⟨(dN d6),u5⟩ ?_))
   (fun d5=>aG d false (tp 121221) (ty (dN d5)::y4) ⟨(dN d5),u4⟩ ?_))
   (fun d4=>aG d false (tp 1211) (ty (dN d4)::y3) ⟨(dN d4),u3⟩ ?_)))
   (fun d2=>aG d false [true,true] (ty (dN d2)::y1) ⟨(dN d2),u1⟩ ?_))
   (fun d1=>aG d true [false] [ty d1] d1 ?_))
  all_goals first|exact Mw|(refine bD.mk ?_;(have hj:j<P.length:=bY;have hk:iH (aP g j)=true:=M5;exact⟨hj,by rw[←hf,C7 hj hlen,(frB_t d2 hk d5 d6:nO g.dim g.det (P.getD j 0) (g.locs.getD j z0l)=true),jZ],hs⟩))|(refine dq.mk ?_;cases d<;>first|rfl|(exfalso;(first|(have h9:=hf.trans hs;rw[O6 eZ]at h9;cases h9;done)|(have hj:j<P.length:=bY;have h9:=hf.trans hs;rw[C7 hj hlen]at h9;obtain⟨b1,b2,b3,b4⟩:=vE (bq h9).1;first|exact Bool.noConfusion (b1.symm.trans d2)|exact Bool.noConfusion (b2.symm.trans (JD d2 d3 d4))|exact Bool.noConfusion (b2.symm.trans (JE d2 d3 d4))|exact Bool.noConfusion (b3.symm.trans d5)|exact Bool.noConfusion (b4.symm.trans d6)))))|(first|exact tz|exact ek|exact⟨om,by have:=oT d1;omega⟩|exact CD|(have hk:iH (aP g j)=true:=M5;first|exact⟨fun _ _=>rfl,by rw[bn];exact DB hk⟩|(have h8:=Es hk;have h9:(aP g j).prime=_:=eq_of_beq d2;rw[←h9];exact⟨om,om,h8.1⟩))|exact(5:Nat))
theorem qx (g:af):di g=true↔(1≤g.dim∧g.dim≤8∧1≤g.det∧g.det≤10000∧(bQ (2*g.det).toNat).length=g.locs.length∧ir g.dim g.det (bQ (2*g.det).toNat) g.locs=true):=by
 unfold di
 simp only[aX,dT,and_assoc]
theorem Ih {g:af}(h:¬(1≤g.dim∧g.dim≤8∧1≤g.det∧g.det≤10000∧(bQ (2*g.det).toNat).length=g.locs.length∧ir g.dim g.det (bQ (2*g.det).toNat) g.locs=true)):false=di g:=by
 cases hb:di g with
 |false=>rfl
 |true=>exact absurd ((qx g).1 hb) h
theorem aaK (g:af)(hn:g.locs.length≤1000)(hL:∀l∈g.locs,l.list.length≤1000)(hdet:1≤g.det∧g.det≤48)(hlen:(bQ (2*g.det).toNat).length=g.locs.length):ar Tryz.prog [] 59 [.agg g.rvs] (.bool (di g)):=by
 have ew:w6.wrap (2*g.det)=2*g.det:=wo
 refine pr (cE yj) Tryz.func59 (aW (Ve g (bQ (2*g.det).toNat) om hlen hL hdet)) ?_
 refine oe (decide (g.dim<1)) (fun d1=>lr [true] [false=di g,ty d1] ?_)
  (fun d1=>oe (decide (g.dim>8)) (fun d2=>lr [false,true] [false=di g,ty d2,ty d1] ?_)
  (fun d2=>let y1:List Prop:=[ty d2,ty d1];have u1:ao y1:=⟨d2,d1⟩;oe (decide (g.det<1)) (fun d3=>lr (tp 221) ((false=di g)::ty d3::y1) ?_)
  (fun d3=>oe (decide (g.det>10000)) (fun d4=>lr (tp 2221) ((false=di g)::ty d4::ty d3::y1) ?_)
  (fun d4=>let y2:List Prop:=((0:Int)<w6.wrap ((2:Int)*g.det)∧w6.wrap ((2:Int)*g.det)≤96)::ty d4::ty d3::y1;have u2:ao y2:=⟨?_,d4,d3,u1⟩;oe ((↑(bQ (w6.wrap ((2:Int)*g.det)).toNat).length:Int)==↑g.locs.length) (fun d5=>oe (ir g.dim g.det (bQ ((2:Int)*g.det).toNat) g.locs) (fun d6=>lr (tp 222221) (let v1:=bQ (w6.wrap ((2:Int)*g.det)).toNat;let v2:=bQ ((2:Int)*g.det).toNat;let v3:=aa.num IntKind.i64;(true=di g)::(v1.length=v2.length∧(fun i=>v3.rvs (v1.getD i v3.zero))=fun i=>v3.rvs (v2.getD i v3.zero))::((↑v1.length:Int)=↑v2.length)::(g.dim=g.dim)::(g.det=g.det)::(sl g.locs)::ty d6::ty (dN d5)::y2) ?_)
  (fun d6=>lr (tp 222222) (let v1:=bQ (w6.wrap ((2:Int)*g.det)).toNat;let v2:=bQ ((2:Int)*g.det).toNat;let v3:=aa.num IntKind.i64;(false=di g)::(v1.length=v2.length∧(fun i=>v3.rvs (v1.getD i v3.zero))=fun i=>v3.rvs (v2.getD i v3.zero))::((↑v1.length:Int)=↑v2.length)::(g.dim=g.dim)::(g.det=g.det)::(sl g.locs)::ty d6::ty (dN d5)::y2) ?_))
  (fun d5=>lr (tp 22221) ((false=di g)::ty (dN d5)::y2) ?_)))))
 all_goals with_reducible repeat' first|exact dA|refine bk ?_ ?_|refine bm ?_
 all_goals first|(first|exact tz|(rw[ew];done)|(rw[ew];first|rfl|exact⟨rfl,rfl⟩|omega)|(refine Ih ?_;rintro⟨a1,a2,a3,a4,a5,a6⟩;first|exact rl|(have:=oT d2;omega)|(have:=oT d3;omega)|(have:=oT d4;omega)|(rw[ew]at d5;have:=oF (wM d5);omega)|(rw[a6]at d6;cases d6))|(refine((qx g).2 ?_).symm;have e1:=oF d1;have e2:=oF d2;exact⟨om,om,hdet.1,om,hlen,d6⟩))
theorem aaL (g:af)(hdet:1≤g.det∧g.det≤48)(hne:(bQ (2*g.det).toNat).length≠g.locs.length):ar Tryz.prog [] 59 [.agg g.rvs] (.bool (di g)):=by
 have ew:w6.wrap (2*g.det)=2*g.det:=wo
 have hz:((((bQ (w6.wrap ((2:Int)*g.det)).toNat).length:Nat):Int)==((g.locs.length:Nat):Int))=false:=(by rw[ew];cases hb:((((bQ (2*g.det).toNat).length:Nat):Int)==((g.locs.length:Nat):Int))with
  |false=>rfl
  |true=>have:=oT (wM hb);exact absurd this hne)
 refine pr (cE yj) Tryz.func59 aC ?_
 refine oe (decide (g.dim<1)) (fun d1=>lr [true] [false=di g,ty d1] ⟨?_,d1⟩)
  (fun d1=>oe (decide (g.dim>8)) (fun d2=>lr [false,true] [false=di g,ty d2,ty d1] ⟨?_,d2,d1⟩)
  (fun d2=>oe (decide (g.det<1)) (fun d3=>lr (tp 221) [false=di g,ty d3,ty d2,ty d1] ⟨?_,d3,d2,d1⟩)
  (fun d3=>oe (decide (g.det>10000)) (fun d4=>lr (tp 2221) [false=di g,ty d4,ty d3,ty d2,ty d1] ⟨?_,d4,d3,d2,d1⟩)
  (fun d4=>lr (tp 22221) (let v1:=(2:Int)*g.det;[false=di g,aj ((↑(bQ (w6.wrap v1).toNat).length:Int)!=(↑g.locs.length:Int)) true,(0:Int)<w6.wrap v1∧w6.wrap v1≤96,ty d4,ty d3,ty d2,ty d1]) ⟨?_,(dN hz),?_,d4,d3,d2,d1⟩))))
 all_goals first|(first|exact tr|(rw[ew];omega)|(refine Ih ?_;rintro⟨a1,a2,a3,a4,a5,a6⟩;first|omega|exact rl|(have:=oT d2;omega)|(have:=oT d3;omega)|(have:=oT d4;omega)))
theorem Oc (g:af)(hn:g.locs.length≤1000)(hL:∀l∈g.locs,l.list.length≤1000)(hdet:1≤g.det∧g.det≤48):ar Tryz.prog [] 59 [.agg g.rvs] (.bool (di g)):=by
 rcases Nat.decEq (bQ (2*g.det).toNat).length g.locs.length with h3|h3
 ·exact aaL g hdet h3
 ·exact aaK g hn hL hdet h3
theorem uI {dim det:Int}:∀{P:List Int}{L:LL},ir dim det P L=true→∀j,j<P.length→nO dim det (P.getD j 0) (L.getD j z0l)=true
 |[],L,h,j,hj=>by simp at hj
 |q::P,[],h,j,hj=>by cases h
 |q::P,l::L,h,j,hj=>by
  simp only[ir,aX]at h
  cases j with
  |zero=>exact h.1
  |succ j=>exact uI h.2 j (by simpa using hj)
theorem uQ {g:af}(hs:di g=true){j:Nat}(hj:j<g.locs.length):iH (aP g j)=true:=by
 obtain⟨a1,a2,a3,a4,a5,a6⟩:=(qx g).1 hs
 exact(vE (uI a6 j om)).2.1
theorem vo {g:af}(hs:di g=true):(1≤g.det∧g.det≤10000)∧1≤g.dim∧g.dim≤8:=by
 obtain⟨a1,a2,a3,a4,a5,a6⟩:=(qx g).1 hs
 exact⟨⟨a3,a4⟩,a1,a2⟩
theorem YJ {d:Int}(h1:1≤d)(h2:d≤48):0<(bQ (2*d).toNat).length∧(bQ (2*d).toNat).getD 0 0=2∧(bQ (2*d).toNat).length≤31:=by
 have hn:2≤(2*d).toNat:=by omega
 have hb:(2*d).toNat≤2147483647:=by omega
 refine⟨?_,?_,TL om om⟩
 ·unfold bQ;rw[oD hn hb];exact Nat.succ_pos _
 ·unfold bQ
  rw[oD hn hb,tA hn hb om];rfl
theorem wD {g:af}(hs:di g=true)(h48:g.det≤48):0<g.locs.length∧g.locs.length≤31∧(aP g 0).prime=2∧aL (aP g 0).list∧0<(aP g 0).list.length:=by
 obtain⟨a1,a2,a3,a4,a5,a6⟩:=(qx g).1 hs
 obtain⟨p1,p2,p3⟩:=YJ a3 h48
 have hp:=eq_of_beq (vE (uI a6 0 om)).1
 rw[p2]at hp
 have hp:(aP g 0).prime=2:=hp
 have hk:=uQ hs (j:=0) om
 unfold iH at hk
 rw[show decide ((aP g 0).prime=2)=true from bZ hp]at hk
 have hk:be 2 (aP g 0).list=true:=hk
 exact⟨om,om,hp,gn hk,(ma hk).2.1⟩
def Ht:List bV:=[
 ⟨107,[],fun A=>match A with
  |[.agg [.int .i64 p,.sl n 5 row]]=>some (.bool (eQ p (ag n row)),[(∀i,i<n→row i=(Con.ofR (row i)).rvs)∧n≤1000])
  |_=>none⟩,
 ⟨96,[],fun A=>match A with
  |[.agg [.int .i64 p,.sl n 5 row]]=>some (.bool (be p (ag n row)),[(∀i,i<n→row i=(Con.ofR (row i)).rvs)∧n≤1000])
  |_=>none⟩]
theorem PK:∀e∈Ht,ch Tryz.prog e:=by
 intro e he
 simp only[Ht,bx,cC,cH]at he
 rcases he with rfl|rfl
 all_goals
  intro A R ms h hm
  simp only at h
  split at h
  all_goals first|exact fF|cases h
 ·obtain⟨h1,h2⟩:=ay hm
  exact ar.imp (D7 _ _ fR) (.cons (.agg (.cons .same (.cons (.con h1) .nil))) .nil)
 ·obtain⟨h1,h2⟩:=ay hm
  exact ar.imp (ue _ _ fR) (.cons (.agg (.cons .same (.cons (.con h1) .nil))) .nil)
theorem Ro (p:Int)(L:LC)(hL:aL L)(hv:dP p L=true):ar Tryz.prog [] 66 [.agg [.int .i64 p,aD L]] (.tup [.int .i64 (jL L),.bool true]):=by
 have hl:=hL.1;have hs:=sK hL (aZ L.length)
 refine pr (cE PK) Tryz.func66 (aW (RO L hL)) ?_
 refine(let q1:List Prop→List Prop:=fun l0=>((fY (fun j=>eD (at_ L j)) L.length).tmod (8:Int)=jL L)::(true=true)::((8:Int)≠(0:Int))::(lq L)::rq (↑L.length:Int)::l0;let y1:List Prop:=[(lz L)∧L.length≤1000];have u1:ao y1:=(?_:(lz L)∧L.length≤1000);oe (eQ p (ag L.length fun i=>(L.getD i z0c).rvs)) (fun d1=>lr [false] (q1 (ty (dN d1)::y1)) ⟨?_,?_,?_,?_,?_,(dN d1),u1⟩)
  (fun d1=>oe (be p (ag L.length fun i=>(L.getD i z0c).rvs)) (fun d2=>lr [true,false] (q1 (ty (dN d2)::((lz L)∧L.length≤1000)::ty (dN d1)::y1)) ⟨?_,?_,?_,?_,?_,(dN d2),?_,(dN d1),u1⟩)
  (fun d2=>aT.no ?_)))
 all_goals first|exact Ce|exact Ny
def BR (det:Int)(l:QfSy.Loc):Int:=bif decide (l.prime=2)then lH 2 (vv l.prime.toNat det.toNat).2 else lH (vv l.prime.toNat det.toNat).2 l.prime.toNat
def lR (det:Int)(l:QfSy.Loc):Bool:=decide (cO l.list l.list.length=BR det l)
def iw (D:Int):LL→Bool
 |[]=>true
 |l::L=>lR D l&&iw D L
theorem Dk {D:Int}{L:LL}{i:Nat}(hi:i<L.length):iw D (L.drop i)=(lR D (L.getD i z0l)&&iw D (L.drop (i+1))):=by
 rw[kU hi]
 simp[iw,cj,hi]
theorem PL {D:Int}{L:LL}{i:Nat}(hi:L.length≤i):iw D (L.drop i)=true:=by
 rw[eL hi];rfl
def mK (l:QfSy.Loc):Int:=bif decide (l.prime=2)then 0 else eA l.prime.toNat l.list l.list.length%8
def f7 (g:af):Nat→Int
 |0=>g.dim
 |k+1=>f7 g k+mK (aP g k)
theorem IY (l:QfSy.Loc):0≤mK l∧mK l≤7:=by
 unfold mK
 cases decide (l.prime=2)
 ·show 0≤eA l.prime.toNat l.list l.list.length%8∧eA l.prime.toNat l.list l.list.length%8≤7;omega
 ·show(0:Int)≤0∧(0:Int)≤7;omega
theorem vR (g:af):∀k,g.dim≤f7 g k∧f7 g k≤g.dim+7*k
 |0=>by simp[f7]
 |k+1=>by
  have h:=vR g k
  have:=IY (aP g k)
  simp only[f7]
  omega
def Hu:List bV:=[
 ⟨59,[],fun A=>match A with
  |[.agg [.int .i64 a,.int .i64 b,.sl n 2 row]]=>some (.bool (di ⟨a,b,bb n row⟩),[(∀i,i<n→row i=aa.loc.rvs (aa.loc.of (row i)))∧n≤1000∧(∀l∈bb n row,l.list.length≤1000)∧1≤b∧b≤48])
  |_=>none⟩,
 ⟨60,[],fun A=>match A with
  |[.agg [.int .i64 p,.sl n 5 row]]=>some (.bool (cu (ag n row) (ah (ag n row))),[(∀i,i<n→row i=(Con.ofR (row i)).rvs)∧aL (ag n row)∧0<n])
  |_=>none⟩,
 ⟨61,[],fun A=>match A with
  |[.int .i64 a,.int .i64 p]=>some (.int .i64 ((vv p.toNat a.toNat).2:Int),[0<a∧a≤2147483647∧2≤p])
  |_=>none⟩,
 ⟨62,[],fun A=>match A with
  |[.int .i64 a,.int .i64 n]=>some (.int .i64 (lH a.toNat n.toNat),[qM a.toNat n.toNat∧0≤a∧0≤n])
  |_=>none⟩,
 ⟨63,[],fun A=>match A with
  |[.agg [.int .i64 p,.sl n 5 row]]=>some (.int .i64 (eA p.toNat (ag n row) (ag n row).length%8),[(∀i,i<n→row i=(Con.ofR (row i)).rvs)∧aL (ag n row)∧0≤p∧p≤2147483647])
  |_=>none⟩,
 ⟨64,[],fun A=>match A with
  |[.agg [.int .i64 p,.sl n 5 row]]=>some (.int .i64 (cO (ag n row) (ag n row).length),[(∀i,i<n→row i=(Con.ofR (row i)).rvs)∧n≤1000])
  |_=>none⟩,
 ⟨65,[],fun A=>match A with
  |[.agg [.int .i64 p,.sl n 5 row]]=>some (.tup [.agg [.int .i64 (bP (dJ p (ag n row))),aD (bL (dJ p (ag n row)) (lO (ag n row)))],.bool (dJ p (ag n row))],[(∀i,i<n→row i=(Con.ofR (row i)).rvs)∧n≤1000])
  |_=>none⟩,
 ⟨66,[],fun A=>match A with
  |[.agg [.int .i64 p,.sl n 5 row]]=>some (.tup [.int .i64 (jL (ag n row)),.bool true],[(∀i,i<n→row i=(Con.ofR (row i)).rvs)∧aL (ag n row)∧dP p (ag n row)=true])
  |_=>none⟩]
theorem yu:∀e∈Hu,ch Tryz.prog e:=by
 intro e he
 simp only[Hu,bx,cC,cH]at he
 rcases he with rfl|rfl|rfl|rfl|rfl|rfl|rfl|rfl
 all_goals
  intro A R ms h hm
  simp only at h
  split at h
  all_goals first|exact fF|cases h
 ·obtain⟨h1,h2,h3,h4,h5⟩:=ay hm
  exact ar.imp (Oc ⟨_,_,bb _ _⟩ xB h3 ⟨h4,h5⟩) (.cons (.agg (.cons .same (.cons .same (.cons (fN.vals .loc h1) .nil)))) .nil)
 ·obtain⟨h1,h2,h3⟩:=ay hm
  exact ar.imp (C8 _ _ h2 mN) (.cons (.agg (.cons .same (.cons (.con h1) .nil))) .nil)
 ·rename_i a p
  obtain⟨h1,h2,h3⟩:=ay hm
  have:=OG a.toNat p.toNat om om om
  rw[show((a.toNat:Nat):Int)=a by omega,show((p.toNat:Nat):Int)=p by omega]at this
  exact this
 ·rename_i a p
  obtain⟨h1,h2,h3⟩:=ay hm
  have:=PF a.toNat p.toNat h1
  rw[show((a.toNat:Nat):Int)=a by omega,show((p.toNat:Nat):Int)=p by omega]at this
  exact this
 ·rename_i p n row
  obtain⟨h1,h2,h3,h4⟩:=ay hm
  have:=RK p.toNat (ag n row) h2 om
  rw[show((p.toNat:Nat):Int)=p by omega]at this
  exact ar.imp this (.cons (.agg (.cons .same (.cons (.con h1) .nil))) .nil)
 ·obtain⟨h1,h2⟩:=ay hm
  exact ar.imp (RJ _ _ fR) (.cons (.agg (.cons .same (.cons (.con h1) .nil))) .nil)
 ·obtain⟨h1,h2⟩:=ay hm
  exact ar.imp (DT _ _ fR) (.cons (.agg (.cons .same (.cons (.con h1) .nil))) .nil)
 ·obtain⟨h1,h2,h3⟩:=ay hm
  exact ar.imp (Ro _ _ h2 h3) (.cons (.agg (.cons .same (.cons (.con h1) .nil))) .nil)
theorem Wt {d p:Int}(hd:1≤d∧d≤10000)(hp:2≤p):(0:Int)<(((vv p.toNat d.toNat).2:Nat):Int)∧(((vv p.toNat d.toNat).2:Nat):Int)≤2147483647:=by
 obtain⟨h1,h2,h3,h4,h5⟩:=pX (p:=p.toNat) om d.toNat om om
 omega
theorem Hv {g:af}(hs:di g=true)(h48:g.det≤48){j:Nat}(hj:j<g.locs.length):qM (vv (aP g j).prime.toNat g.det.toNat).2 (aP g j).prime.toNat∧((aP g j).prime=2→qM 2 (vv (aP g j).prime.toNat g.det.toNat).2):=by
 obtain⟨a1,a2,a3,a4,a5,a6⟩:=(qx g).1 hs
 have hp:=eq_of_beq (vE (uI a6 j om)).1
 have hm:(aP g j).prime∈bQ (2*(g.det.toNat-1)+2):=by
  have e:2*(g.det.toNat-1)+2=(2*g.det).toNat:=by omega
  rw[e,show(aP g j).prime=_ from hp,cj,eb om]
  exact fp _
 have e1:g.det.toNat-1+1=g.det.toNat:=by omega
 refine⟨⟨g.det.toNat-1,_,om,hm,.inl ⟨by rw[e1],rfl⟩⟩,fun h2=>⟨g.det.toNat-1,_,om,hm,.inr ⟨h2,rfl,by rw[e1,h2];rfl⟩⟩⟩
theorem zC {a b:Int}{c:Bool}(h:(a==b)=c):decide (a=b)=c:=by
 rw[←h]
 by_cases e:a=b
 ·rw[bZ e,e,e9]
 ·rw[bu e]
  cases hb:(a==b)with
  |false=>rfl
  |true=>exact absurd (eq_of_beq hb) e
theorem YS {D:Int}{l:QfSy.Loc}{b:Bool}(h2:(l.prime==2)=true)(h:(cO (ag l.list.length fun i=>(l.list.getD i z0c).rvs) (ag l.list.length fun i=>(l.list.getD i z0c).rvs).length==lH (Int.toNat 2) (vv l.prime.toNat D.toNat).2)=b):lR D l=b:=by
 rw[bn]at h
 unfold lR BR
 rw[show decide (l.prime=2)=true from bZ (eq_of_beq h2)]
 exact zC h
theorem IZ {D:Int}{l:QfSy.Loc}{b:Bool}(h2:(l.prime==2)=false)(h:(cO (ag l.list.length fun i=>(l.list.getD i z0c).rvs) (ag l.list.length fun i=>(l.list.getD i z0c).rvs).length==lH (vv l.prime.toNat D.toNat).2 l.prime.toNat)=b):lR D l=b:=by
 rw[bn]at h
 unfold lR BR
 rw[show decide (l.prime=2)=false from bu (by intro e;rw[e]at h2;cases h2)]
 exact zC h
def Ly (g:af)(n i:AV):List (Nat×AV):=[(1,.ptr 1000 0),(3,n),(26,(dR g.locs).av),(27,vi g.locs.length),(28,i)]
def YV (g:af):aA:=⟨⟨Ly g (vi g.dim) (.int .i64 0),qV g,1001⟩,some (iw g.det g.locs),fun d=>match d with
 |true=>(.exit 0,⟨[(1,.ptr 1000 0),(3,vi (f7 g g.locs.length))],qV g,1020⟩)
 |false=>(.ret,⟨[(2,.int .i64 23)],qV g,1020⟩)⟩
theorem Wu (g:af)(hn:g.locs.length≤1000)(hL:∀l∈g.locs,l.list.length≤1000)(hs:di g=true)(h48:g.det≤48):An 1 Tryz.f18 [0,1,0,1,1,1] (YV g):=by
 refine ea (cE yu) aC (fun(j:Nat)=>(⟨Ly g (vi (f7 g j)) (vi j),qV g,1001⟩:St)) (fun(j:Nat)=>(g.locs.length-j:Nat)) (fun(d:Bool)=>fun(j:Nat)=>(j≤g.locs.length∧iw g.det (g.locs.drop j)=iw g.det g.locs∧iw g.det g.locs=d:Prop)) ?_ ?_
 ·intro d hd
  exact st (0) [g.dim=f7 g (0:Nat),sl g.locs,rq (↑g.locs.length:Int),(0:Int)=↑(0:Nat),g.dim=g.dim,g.det=g.det,sl g.locs] (by refine⟨?_,?_,?_,?_,?_,?_,(?_:sl g.locs)⟩<;>(first|rfl|assumption|exact⟨rfl,rfl⟩|omega|simp_all)) (by exact⟨aY _,rfl,hd⟩)
 ·rintro d hd j hI
  obtain⟨ht,hf,hd2⟩:=hI
  have ht:j≤g.locs.length:=ht
  have hf:iw g.det (g.locs.drop j)=iw g.det g.locs:=hf
  have ek:=wk j
  refine(let q1:List Prop→List Prop:=fun l0=>(g.dim=g.dim)::(g.det=g.det)::(sl g.locs)::l0;oe (decide ((↑j:Int)<↑g.locs.length)) (fun d1=>let y1:List Prop:=(let v1:=g.locs.getD j z0l;let v2:=vv v1.prime.toNat g.det.toNat;[qM v2.snd v1.prime.toNat∧(0:Int)≤↑v2.snd∧(0:Int)≤v1.prime,(0:Int)<g.det∧g.det≤2147483647∧(2:Int)≤v1.prime,(0:Int)≤↑j∧(↑j:Int)<↑g.locs.length,ty d1]);have u1:ao y1:=⟨?_,?_,?_,d1⟩;oe ((g.locs.getD j z0l).prime==2) (fun d2=>let y2:List Prop:=(let v1:=g.locs.getD j z0l;let v2:=vv v1.prime.toNat g.det.toNat;((∀(i:Nat),i<v1.list.length→(fun i=>(v1.list.getD i z0c).rvs) i=(Con.ofR ((fun i=>(v1.list.getD i z0c).rvs) i)).rvs)∧v1.list.length≤1000)::(qM (Int.toNat (2:Int)) v2.snd∧(0:Int)≤2∧(0:Int)≤↑v2.snd)::ty d2::y1);have u2:ao y2:=⟨?_,?_,d2,u1⟩;oe (cO (ag (g.locs.getD j z0l).list.length fun i=>((g.locs.getD j z0l).list.getD i z0c).rvs) (ag (g.locs.getD j z0l).list.length fun i=>((g.locs.getD j z0l).list.getD i z0c).rvs).length==lH (Int.toNat (2:Int)) (vv (g.locs.getD j z0l).prime.toNat g.det.toNat).snd) (fun d3=>aq (tp 112) (j+1) ((f7 g j=f7 g (j+1))::(sl g.locs)::rq (↑g.locs.length:Int)::(w6.wrap ((↑j:Int)+1)=↑(j+1))::(g.dim=g.dim)::(g.det=g.det)::(sl g.locs)::ty (dN d3)::y2) ⟨?_,?_,?_,?_,?_,?_,?_,(dN d3),u2⟩ ?_ ?_)
   (fun d3=>aG d false (tp 111) (q1 (ty (dN d3)::y2)) ⟨?_,?_,?_,(dN d3),u2⟩ ?_))
   (fun d2=>let y2:List Prop:=(let v1:=g.locs.getD j z0l;((∀(i:Nat),i<v1.list.length→(fun i=>(v1.list.getD i z0c).rvs) i=(Con.ofR ((fun i=>(v1.list.getD i z0c).rvs) i)).rvs)∧v1.list.length≤1000)::((∀(i:Nat),i<v1.list.length→(fun i=>(v1.list.getD i z0c).rvs) i=(Con.ofR ((fun i=>(v1.list.getD i z0c).rvs) i)).rvs)∧aL (ag v1.list.length fun i=>(v1.list.getD i z0c).rvs)∧(0:Int)≤v1.prime∧v1.prime≤2147483647)::ty d2::y1);have u2:ao y2:=⟨?_,?_,d2,u1⟩;oe (cO (ag (g.locs.getD j z0l).list.length fun i=>((g.locs.getD j z0l).list.getD i z0c).rvs) (ag (g.locs.getD j z0l).list.length fun i=>((g.locs.getD j z0l).list.getD i z0c).rvs).length==lH (vv (g.locs.getD j z0l).prime.toNat g.det.toNat).snd (g.locs.getD j z0l).prime.toNat) (fun d3=>aq (tp 122) (j+1) (let v1:=ag (g.locs.getD j z0l).list.length fun i=>((g.locs.getD j z0l).list.getD i z0c).rvs;(w6.wrap (f7 g j+eA (g.locs.getD j z0l).prime.toNat v1 v1.length%(8:Int))=f7 g (j+1))::(sl g.locs)::rq (↑g.locs.length:Int)::(w6.wrap ((↑j:Int)+1)=↑(j+1))::(g.dim=g.dim)::(g.det=g.det)::(sl g.locs)::ty (dN d3)::y2) ⟨?_,?_,?_,?_,?_,?_,?_,(dN d3),u2⟩ ?_ ?_)
   (fun d3=>aG d false (tp 121) (q1 (ty (dN d3)::y2)) ⟨?_,?_,?_,(dN d3),u2⟩ ?_)))
   (fun d1=>aG d true [false] [f7 g j=f7 g g.locs.length,g.dim=g.dim,g.det=g.det,sl g.locs,ty d1] ⟨?_,?_,?_,?_,d1⟩ ?_))
  all_goals first|exact Cd|(refine bD.mk ?_;(have hj:j<g.locs.length:=bY;have hB:lR g.det (aP g j)=true:=Mi;exact⟨hj,by rw[←hf,Dk hj,(show lR g.det (g.locs.getD j z0l)=true from hB),jZ],hd2⟩))|(refine dq.mk ?_;cases d<;>first|rfl|(exfalso;(first|(have h9:=hf.trans hd2;rw[PL eZ]at h9;cases h9;done)|(have hj:j<g.locs.length:=bY;have hB:lR g.det (aP g j)=false:=Mi;have h9:=hf.trans hd2;rw[Dk hj,(show lR g.det (g.locs.getD j z0l)=false from hB)]at h9;cases h9))))|(first|exact tz|exact ek|(have hj:j<g.locs.length:=bY;have hk:=uQ hs hj;have hq:=Es hk;have hg:=(vo hs).1;have hv:=Wt hg hq.1;have hb:=vR g j;have hm:=(vo hs).2;first|exact⟨om,om⟩|exact⟨om,om,hq.1⟩|exact⟨(Hv hs h48 hj).1,om,by have:=hq.1;show 0≤(aP g j).prime;omega⟩|exact⟨(Hv hs h48 hj).2 (eq_of_beq d2),om,Int.le_of_lt hv.1⟩|exact CD|exact⟨fun _ _=>rfl,by rw[bn];exact DB hk,by have:=hq.1;show 0≤(aP g j).prime;omega,by have:=hq.2.1;show(aP g j).prime≤_;omega⟩|(show f7 g j=f7 g j+mK (aP g j);unfold mK;rw[show decide ((aP g j).prime=2)=true from bZ (eq_of_beq d2)];show f7 g j=f7 g j+0;omega)|(have he:mK (aP g j)=eA (aP g j).prime.toNat (aP g j).list (aP g j).list.length%8:=(by unfold mK;rw[show decide ((aP g j).prime=2)=false from bu (by intro e;have d2:((aP g j).prime==2)=false:=d2;rw[e]at d2;cases d2)];rfl);have hx:=IY (aP g j);rw[bn];exact(kP LR LR).trans (congrArg (f7 g j+·) he.symm)))|(have hk:=oF d1;rw[show j=g.locs.length by omega];done)|exact rfl|exact(5:Nat))
def eU (g:af):Int:=bif !(di g&&cu (aP g 0).list (ah (aP g 0).list))then 22 else bif !iw g.det g.locs then 23 else bif !dJ 2 (aP g 0).list then 24 else bif decide ((f7 g g.locs.length-jL (aP g 0).list).tmod 8=0)then 0 else 25
theorem YW (g:af)(hn:g.locs.length≤1000)(hL:∀l∈g.locs,l.list.length≤1000)(hdet:1≤g.det∧g.det≤48)(hs:di g=false):ar Tryz.prog [] 18 [.agg g.rvs] (.int .i64 (eU g)):=by
 have hz:di (af.mk g.dim g.det (bb g.locs.length fun i=>(g.locs.getD i z0l).rvs))=false:=by rw[ia];exact hs
 refine pr (cE yu) Tryz.func18 aC ?_
 refine lr [true] [(22:Int)=eU g,aj (!di (af.mk g.dim g.det (bb g.locs.length fun i=>(g.locs.getD i z0l).rvs))) true,(∀(i:Nat),i<g.locs.length→(fun i=>(g.locs.getD i z0l).rvs) i=aa.loc.rvs (aa.loc.of ((fun i=>(g.locs.getD i z0l).rvs) i)))∧g.locs.length≤1000∧(∀(l:QfSy.Loc),(l∈bb g.locs.length fun i=>(g.locs.getD i z0l).rvs)→l.list.length≤1000)∧(1:Int)≤g.det∧g.det≤48] ⟨?_,(dN hz),(?_:(∀(i:Nat),i<g.locs.length→(fun i=>(g.locs.getD i z0l).rvs) i=aa.loc.rvs (aa.loc.of ((fun i=>(g.locs.getD i z0l).rvs) i)))∧g.locs.length≤1000∧(∀(l:QfSy.Loc),(l∈bb g.locs.length fun i=>(g.locs.getD i z0l).rvs)→l.list.length≤1000)∧(1:Int)≤g.det∧g.det≤48)⟩
 all_goals first|(first|exact tr|exact⟨g8 _,hn,by rw[f9];exact hL,hdet.1,hdet.2⟩|(unfold eU;rw[hs];rfl)|exact(5:Nat))
theorem abu (L:LC):0≤jL L∧jL L≤7:=by unfold jL;omega
theorem AQ {g:af}(hs:di g=true)(hf:cu (aP g 0).list (ah (aP g 0).list)=true):eU g=bif !iw g.det g.locs then 23 else bif !dJ 2 (aP g 0).list then 24 else bif decide ((f7 g g.locs.length-jL (aP g 0).list).tmod 8=0)then 0 else 25:=by
 unfold eU;rw[hs,hf];rfl
theorem YX {g:af}(hs:di g=true)(hf:cu (aP g 0).list (ah (aP g 0).list)=false):22=eU g:=by
 unfold eU;rw[hs,hf];rfl
theorem Wv {g:af}(hs:di g=true)(hf:cu (aP g 0).list (ah (aP g 0).list)=true)(h2:iw g.det g.locs=false):23=eU g:=by rw[AQ hs hf,h2];rfl
theorem Ww {g:af}(hs:di g=true)(h48:g.det≤48)(hf:cu (aP g 0).list (ah (aP g 0).list)=true)(h2:iw g.det g.locs=true)(h3:dJ (aP g 0).prime (aP g 0).list=false):24=eU g:=by rw[(wD hs h48).2.2.1]at h3;rw[AQ hs hf,h2,h3];rfl
theorem Wx {g:af}(hs:di g=true)(h48:g.det≤48)(hf:cu (aP g 0).list (ah (aP g 0).list)=true)(h2:iw g.det g.locs=true)(h3:dJ (aP g 0).prime (aP g 0).list=true){b:Bool}(h4:((w6.wrap (f7 g g.locs.length-jL (aP g 0).list)).tmod 8==0)=b):(bif b then 0 else 25)=eU g:=by
 obtain⟨f1,f2,f3,f4,f5⟩:=wD hs h48
 have hb:=vR g g.locs.length
 have hm:=(vo hs).2
 have ho:=abu (aP g 0).list
 rw[wo]at h4
 rw[f3]at h3;rw[AQ hs hf,h2,h3,zC h4];rfl
theorem Wy {g:af}(hs:di g=true)(h48:g.det≤48):dP (aP g 0).prime (aP g 0).list=true:=by
 obtain⟨f1,f2,f3,f4,f5⟩:=wD hs h48
 have hk:=uQ hs f1
 unfold iH at hk
 rw[show decide ((aP g 0).prime=2)=true from bZ f3]at hk
 have hk:be 2 (aP g 0).list=true:=hk
 unfold dP
 rw[f3,hk,Bool.or_true]
theorem YY (g:af)(hn:g.locs.length≤1000)(hL:∀l∈g.locs,l.list.length≤1000)(hs:di g=true)(h48:g.det≤48):ar Tryz.prog [] 18 [.agg g.rvs] (.int .i64 (eU g)):=by
 have hz:di (af.mk g.dim g.det (bb g.locs.length fun i=>(g.locs.getD i z0l).rvs))=true:=by rw[ia];exact hs
 obtain⟨f1,f2,f3,f4,f5⟩:=wD hs h48
 obtain⟨⟨g1,g2⟩,g3,g4⟩:=vo hs
 have hk:=uQ hs f1
 have hb:=vR g g.locs.length
 refine pr (cE yu) Tryz.func18 (aW (Wu g hn hL hs h48)) ?_
 refine(let y1:List Prop:=(let v1:=g.locs.getD (Int.toNat (0:Int)) z0l;[(∀(i:Nat),i<v1.list.length→(fun i=>(v1.list.getD i z0c).rvs) i=(Con.ofR ((fun i=>(v1.list.getD i z0c).rvs) i)).rvs)∧aL (ag v1.list.length fun i=>(v1.list.getD i z0c).rvs)∧(0:Nat)<v1.list.length,(0:Int)≤0∧(0:Int)<↑g.locs.length,aj (!di (af.mk g.dim g.det (bb g.locs.length fun i=>(g.locs.getD i z0l).rvs))) false,(∀(i:Nat),i<g.locs.length→(fun i=>(g.locs.getD i z0l).rvs) i=aa.loc.rvs (aa.loc.of ((fun i=>(g.locs.getD i z0l).rvs) i)))∧g.locs.length≤1000∧(∀(l:QfSy.Loc),(l∈bb g.locs.length fun i=>(g.locs.getD i z0l).rvs)→l.list.length≤1000)∧(1:Int)≤g.det∧g.det≤48]);have u1:ao y1:=⟨?_,?_,(dN hz),(?_:(∀(i:Nat),i<g.locs.length→(fun i=>(g.locs.getD i z0l).rvs) i=aa.loc.rvs (aa.loc.of ((fun i=>(g.locs.getD i z0l).rvs) i)))∧g.locs.length≤1000∧(∀(l:QfSy.Loc),(l∈bb g.locs.length fun i=>(g.locs.getD i z0l).rvs)→l.list.length≤1000)∧(1:Int)≤g.det∧g.det≤48)⟩;oe (cu (ag (g.locs.getD (Int.toNat (0:Int)) z0l).list.length fun i=>((g.locs.getD (Int.toNat (0:Int)) z0l).list.getD i z0c).rvs) (ah (ag (g.locs.getD (Int.toNat (0:Int)) z0l).list.length fun i=>((g.locs.getD (Int.toNat (0:Int)) z0l).list.getD i z0c).rvs))) (fun d1=>oe (iw g.det g.locs) (fun d2=>let y2:List Prop:=(let v1:=g.locs.getD (Int.toNat (0:Int)) z0l;((∀(i:Nat),i<v1.list.length→(fun i=>(v1.list.getD i z0c).rvs) i=(Con.ofR ((fun i=>(v1.list.getD i z0c).rvs) i)).rvs)∧v1.list.length≤1000)::((0:Int)≤0∧(0:Int)<↑g.locs.length)::(g.dim=g.dim)::(sl g.locs)::rq (↑g.locs.length:Int)::(g.dim=g.dim)::(g.det=g.det)::(sl g.locs)::ty d2::ty (dN d1)::y1);have u2:ao y2:=⟨?_,?_,?_,?_,?_,?_,?_,?_,d2,(dN d1),u1⟩;oe (dJ (g.locs.getD (Int.toNat (0:Int)) z0l).prime (ag (g.locs.getD (Int.toNat (0:Int)) z0l).list.length fun i=>((g.locs.getD (Int.toNat (0:Int)) z0l).list.getD i z0c).rvs)) (fun d3=>let y3:List Prop:=(let v1:=g.locs.getD (Int.toNat (0:Int)) z0l;let v2:=ag v1.list.length fun i=>(v1.list.getD i z0c).rvs;((8:Int)≠(0:Int))::((∀(i:Nat),i<v1.list.length→(fun i=>(v1.list.getD i z0c).rvs) i=(Con.ofR ((fun i=>(v1.list.getD i z0c).rvs) i)).rvs)∧aL v2∧dP v1.prime v2=true)::((0:Int)≤0∧(0:Int)<↑g.locs.length)::ty (dN d3)::y2);have u3:ao y3:=⟨?_,?_,?_,(dN d3),u2⟩;oe ((w6.wrap (f7 g g.locs.length-jL (ag (g.locs.getD (Int.toNat (0:Int)) z0l).list.length fun i=>((g.locs.getD (Int.toNat (0:Int)) z0l).list.getD i z0c).rvs))).tmod (8:Int)==0) (fun d4=>lr (tp 22122) (((0:Int)=eU g)::ty (dN d4)::y3) ⟨?_,(dN d4),u3⟩)
  (fun d4=>lr (tp 22121) (((25:Int)=eU g)::ty (dN d4)::y3) ⟨?_,(dN d4),u3⟩))
  (fun d3=>lr (tp 2211) (((24:Int)=eU g)::ty (dN d3)::y2) ⟨?_,(dN d3),u2⟩))
  (fun d2=>lr (tp 222) (((23:Int)=eU g)::(g.dim=g.dim)::(sl g.locs)::rq (↑g.locs.length:Int)::(g.dim=g.dim)::(g.det=g.det)::(sl g.locs)::ty d2::ty (dN d1)::y1) ⟨?_,?_,?_,?_,?_,?_,?_,d2,(dN d1),u1⟩))
  (fun d1=>lr [false,true] (((22:Int)=eU g)::ty (dN d1)::y1) ⟨?_,(dN d1),u1⟩))
 all_goals first|(first|exact tr|exact⟨g8 _,hn,by rw[f9];exact hL,g1,h48⟩|exact⟨rfl,rfl⟩|decide|exact⟨om,om⟩|exact⟨fun _ _=>rfl,by rw[bn];exact f4,f5⟩|exact⟨fun _ _=>rfl,by rw[bn];exact f4,by rw[bn];exact Wy hs h48⟩|exact⟨fun _ _=>rfl,sg hL 0⟩|(rw[bn]at d1;first|exact YX hs d1|exact Wv hs d1 d2|(rw[bn]at d3;first|exact Ww hs h48 d1 d2 d3|(rw[bn]at d4;exact Wx hs h48 d1 d2 d3 d4)))|exact(5:Nat))
theorem Ot (g:af)(hn:g.locs.length≤1000)(hL:∀l∈g.locs,l.list.length≤1000)(hdet:1≤g.det∧g.det≤48):ar Tryz.prog [] 18 [.agg g.rvs] (.int .i64 (eU g)):=by
 cases h:di g with
 |true=>exact YY g hn hL h hdet.2
 |false=>exact YW g hn hL hdet h
def F3:List bV:=[
 ⟨68,[],fun A=>match A with
  |[.agg [.int .i64 p,.sl n 5 row],.agg [.int .i64 q,.sl m 5 row']]=>some (.bool true,[(∀i,i<n→row i=(Con.ofR (row i)).rvs)∧(∀i,i<m→row' i=(Con.ofR (row' i)).rvs)∧n≤1000∧p=q∧ag n row=ag m row'])
  |_=>none⟩,
 ⟨67,[],fun A=>match A with
  |[.agg [.int .i64 p,.sl n 5 row],.agg [.int .i64 q,.sl m 5 row']]=>some (.int .i64 (jp ⟨p,ag n row⟩ ⟨q,ag m row'⟩),[(∀i,i<n→row i=(Con.ofR (row i)).rvs)∧(∀i,i<m→row' i=(Con.ofR (row' i)).rvs)∧n≤1000∧m≤1000])
  |_=>none⟩]
theorem ui:∀e∈F3,ch Tryz.prog e:=by
 intro e he
 simp only[F3,bx,cC,cH]at he
 rcases he with rfl|rfl
 all_goals
  intro A R ms h hm
  simp only at h
  split at h
  all_goals first|exact fF|cases h
 ·obtain⟨h1,h2,h3,rfl,h5⟩:=ay hm
  exact ar.imp (Pc _ (ag _ _) mN) (.cons (.agg (.cons .same (.cons (.con h1) .nil))) (.cons (.agg (.cons .same (.cons (by rw[h5];exact .con h2) .nil))) .nil))
 ·obtain⟨h1,h2,h3,h4⟩:=ay hm
  exact ar.imp (OT _ _ _ _ mN xA) (.cons (.agg (.cons .same (.cons (.con h1) .nil))) (.cons (.agg (.cons .same (.cons (.con h2) .nil))) .nil))
def Ka (g:af)(i:AV):List (Nat×AV):=[(2,.ptr 1000 0),(3,.ptr 1001 0),(29,vi g.locs.length),(30,i)]
def abv (g:af):aA:=⟨⟨Ka g (.int .i64 0),[(1000,⟨.plain [vi g.dim,vi g.det,(dR g.locs).av],32,0,false,true⟩),(1001,⟨.plain [vi g.dim,vi g.det,(dR g.locs).av],32,0,false,true⟩)],1010⟩,none,fun _=>(.exit 0,⟨[],[(1000,⟨.plain [vi g.dim,vi g.det,(dR g.locs).av],32,0,false,true⟩),(1001,⟨.plain [vi g.dim,vi g.det,(dR g.locs).av],32,0,false,true⟩)],1010⟩)⟩
theorem Rw (g:af)(hg:bG g):An 2 Tryz.f20 [0,1,0,1,1] (abv g):=by
 refine cN (cE ui) aC (fun(k:Nat)=>(⟨Ka g (vi k),[(1000,⟨.plain [vi g.dim,vi g.det,(dR g.locs).av],32,0,false,true⟩),(1001,⟨.plain [vi g.dim,vi g.det,(dR g.locs).av],32,0,false,true⟩)],1010⟩:St)) (fun(k:Nat)=>(g.locs.length-k:Nat)) (fun(k:Nat)=>(k≤g.locs.length:Prop)) ?_ ?_
 ·exact st (0) [rq (↑g.locs.length:Int),(0:Int)=↑(0:Nat),g.dim=g.dim,g.det=g.det,sl g.locs,g.dim=g.dim,g.det=g.det,sl g.locs] (by refine⟨?_,?_,?_,?_,?_,?_,?_,(?_:sl g.locs)⟩<;>(first|exact tv|omega)) (by exact aY _)
 ·intro k hI
  have hk:k≤g.locs.length:=hI
  have hgl:=hg.1
  refine oe (decide ((↑k:Int)<↑g.locs.length)) (fun d1=>oe (true) (fun d2=>aq [true,false] (k+1) (let v1:=g.locs.getD k z0l;let v2:=(↑g.locs.length:Int);[rq v2,w6.wrap ((↑k:Int)+1)=↑(k+1),g.dim=g.dim,g.det=g.det,sl g.locs,g.dim=g.dim,g.det=g.det,sl g.locs,ty (dN d2),(∀(i:Nat),i<v1.list.length→(fun i=>(v1.list.getD i z0c).rvs) i=(Con.ofR ((fun i=>(v1.list.getD i z0c).rvs) i)).rvs)∧(∀(i:Nat),i<v1.list.length→(fun i=>(v1.list.getD i z0c).rvs) i=(Con.ofR ((fun i=>(v1.list.getD i z0c).rvs) i)).rvs)∧v1.list.length≤1000∧v1.prime=v1.prime∧(ag v1.list.length fun i=>(v1.list.getD i z0c).rvs)=ag v1.list.length fun i=>(v1.list.getD i z0c).rvs,(0:Int)≤↑k∧(↑k:Int)<v2,(0:Int)≤↑k∧(↑k:Int)<v2,ty d1]) ⟨?_,?_,?_,?_,?_,?_,?_,?_,(dN d2),?_,?_,?_,d1⟩ ?_ ?_)
   (fun d2=>aT.no ?_))
   (fun d1=>br [false] [g.dim=g.dim,g.det=g.det,sl g.locs,g.dim=g.dim,g.det=g.det,sl g.locs,ty d1] ⟨?_,?_,?_,?_,?_,?_,d1⟩)
  all_goals first|(refine cy.mk ?_;(have dd:k<g.locs.length:=bY;show g.locs.length-(k+1)<g.locs.length-k;omega))|(refine bD.mk ?_;(have dd:k<g.locs.length:=bY;show k+1≤g.locs.length;omega))|(refine aT.mk ?_;(exact Bool.noConfusion d2))|(first|exact tz|(have dd:k<g.locs.length:=bY;first|exact fk|omega|exact⟨fun _ _=>rfl,fun _ _=>rfl,rV hg.2 k,rfl,rfl⟩))
theorem Rx (g:af)(hg:bG g):ar Tryz.prog [] 20 [.agg g.rvs,.agg g.rvs] (.bool true):=by
 have z1:(g.dim==g.dim)=true:=e9 _
 have z2:(g.det==g.det)=true:=e9 _
 have z3:(((g.locs.length:Nat):Int)==((g.locs.length:Nat):Int))=true:=e9 _
 refine pr (cE ui) Tryz.func20 (aW (Rw g hg)) ?_
 refine lr (tp 222) (let t1:=(↑g.locs.length:Int);[true=true,rq t1,g.dim=g.dim,g.det=g.det,sl g.locs,g.dim=g.dim,g.det=g.det,sl g.locs,aj (t1 !=t1) false,aj (g.det !=g.det) false,aj (g.dim !=g.dim) false]) ⟨?_,?_,?_,?_,?_,?_,?_,?_,(dN z3),(dN z2),(dN z1)⟩
 all_goals first|(first|exact tz)
theorem AU {L:List af}(h:∀g∈L,bG g)(k:Nat):bG (L.getD k af.zero):=by
 rw[cj]
 rcases bA k L.length with h1|h1
 ·rw[eb h1];exact h _ (fp h1)
 ·rw[gL h1];exact⟨aY _,fun l hl=>by cases hl⟩
def F4:List bV:=[
 ⟨20,[],fun A=>match A with
  |[.agg [.int .i64 a,.int .i64 b,.sl n 2 row],.agg [.int .i64 a',.int .i64 b',.sl m 2 row']]=>some (.bool true,[(∀i,i<n→row i=aa.loc.rvs (aa.loc.of (row i)))∧(∀i,i<m→row' i=aa.loc.rvs (aa.loc.of (row' i)))∧bG ⟨a,b,bb n row⟩∧(⟨a,b,bb n row⟩:af)=⟨a',b',bb m row'⟩])
  |_=>none⟩]
theorem Dl:∀e∈F4,ch Tryz.prog e:=by
 intro e he
 simp only[F4,bx,cC,cH]at he
 subst he
 intro A R ms h hm
 simp only at h
 split at h
 all_goals first|exact fF|cases h
 ·obtain⟨h1,h2,h3,h4⟩:=ay hm
  injection h4 with e1 e2 e3
  subst e1 e2
  exact ar.imp (Rx ⟨_,_,bb _ _⟩ h3) (.cons (.agg (.cons .same (.cons .same (.cons (fN.vals .loc h1) .nil)))) (.cons (.agg (.cons .same (.cons .same (.cons (by rw[show(af.mk _ _ (bb _ _)).locs=_ from e3];exact fN.vals .loc h2) .nil)))) .nil))
def Kb (L:List af)(i:AV):List (Nat×AV):=[(0,(aI .gen L).av),(1,(aI .gen L).av),(11,(aI .gen L).av),(12,vi L.length),(13,i)]
def abw (L:List af):aA:=⟨⟨Kb L (.int .i64 0),[],1010⟩,none,fun _=>(.exit 0,⟨[],[],1010⟩)⟩
theorem Ry (L:List af)(hL:L.length≤1000)(hb:∀g∈L,bG g):An 2 Tryz.f7 [0,1,0,1,1] (abw L):=by
 refine cN (cE Dl) aC (fun(k:Nat)=>(⟨Kb L (vi k),[],1010⟩:St)) (fun(k:Nat)=>(L.length-k:Nat)) (fun(k:Nat)=>(k≤L.length:Prop)) ?_ ?_
 ·exact st (0) [sq aa.gen L,sq aa.gen L,sq aa.gen L,rq (↑L.length:Int),(0:Int)=↑(0:Nat)] (by refine⟨?_,?_,?_,?_,(?_:(0:Int)=↑(0:Nat))⟩<;>(first|exact tv|omega)) (by exact aY _)
 ·intro k hI
  have hk:k≤L.length:=hI
  refine oe (decide ((↑k:Int)<↑L.length)) (fun d1=>oe (true) (fun d2=>aq [true,false] (k+1) (let v1:=L.getD k aa.gen.zero;let v2:=bb v1.locs.length fun i=>(v1.locs.getD i z0l).rvs;let v3:=(↑L.length:Int);[sq aa.gen L,sq aa.gen L,sq aa.gen L,rq v3,w6.wrap ((↑k:Int)+1)=↑(k+1),ty (dN d2),(∀(i:Nat),i<v1.locs.length→(fun i=>(v1.locs.getD i z0l).rvs) i=aa.loc.rvs (aa.loc.of ((fun i=>(v1.locs.getD i z0l).rvs) i)))∧(∀(i:Nat),i<v1.locs.length→(fun i=>(v1.locs.getD i z0l).rvs) i=aa.loc.rvs (aa.loc.of ((fun i=>(v1.locs.getD i z0l).rvs) i)))∧bG (af.mk v1.dim v1.det v2)∧af.mk v1.dim v1.det v2=af.mk v1.dim v1.det v2,(0:Int)≤↑k∧(↑k:Int)<v3,(0:Int)≤↑k∧(↑k:Int)<v3,ty d1]) ⟨?_,?_,?_,?_,?_,(dN d2),?_,?_,?_,d1⟩ ?_ ?_)
   (fun d2=>aT.no ?_))
   (fun d1=>br [false] [ty d1] d1)
  all_goals first|(refine cy.mk ?_;(have dd:k<L.length:=bY;show L.length-(k+1)<L.length-k;omega))|(refine bD.mk ?_;(have dd:k<L.length:=bY;show k+1≤L.length;omega))|(refine aT.mk ?_;(exact Bool.noConfusion d2))|(first|exact tz|(have dd:k<L.length:=bY;first|exact fk|omega|exact⟨g8 _,g8 _,by rw[ia];exact AU hb k,rfl⟩))
theorem Rz (L:List af)(hL:L.length≤1000)(hb:∀g∈L,bG g):ar Tryz.prog [] 7 [aI .gen L,aI .gen L] (.bool true):=by
 have z3:(((L.length:Nat):Int)==((L.length:Nat):Int))=true:=e9 _
 refine pr (cE Dl) Tryz.func7 (aW (Ry L hL hb)) ?_
 refine lr [false] (let t1:=(↑L.length:Int);[true=true,sq aa.gen L,sq aa.gen L,sq aa.gen L,rq t1,aj (t1 !=t1) false]) ⟨?_,?_,?_,?_,?_,(dN z3)⟩
 all_goals first|(first|exact tz)
def wF (g u:af):List (Nat×ai):=[(1000,⟨.plain [vi g.dim,vi g.det,(dR g.locs).av],32,0,false,true⟩),(1001,⟨.plain [vi u.dim,vi u.det,(dR u.locs).av],32,0,false,true⟩)]
def abx (g u:af):aA:=⟨⟨[(2,.ptr 1000 0),(3,.ptr 1001 0),(5,.int .i64 0)],wF g u,1010⟩,some (eh g.locs u.locs==0),fun d=>match d with
 |true=>(.exit 1,⟨[(2,.ptr 1000 0),(3,.ptr 1001 0)],wF g u,1010⟩)
 |false=>(.ret,⟨[(4,vi (eh g.locs u.locs))],wF g u,1010⟩)⟩
theorem RA (g u:af)(hg:bG g)(hu:bG u):An 2 Tryz.f19 [0,1,0,1,1] (abx g u):=by
 refine ea (cE ui) aC (fun(k:Nat)=>(⟨[(2,.ptr 1000 0),(3,.ptr 1001 0),(5,vi k)],wF g u,1010⟩:St)) (fun(k:Nat)=>(g.locs.length-k:Nat)) (fun(d:Bool)=>fun(k:Nat)=>(k≤g.locs.length∧eh (g.locs.drop k) (u.locs.drop k)=eh g.locs u.locs∧d=(eh g.locs u.locs==0):Prop)) ?_ ?_
 ·intro d hd
  exact st (0) [(0:Int)=↑(0:Nat),g.dim=g.dim,g.det=g.det,sl g.locs,u.dim=u.dim,u.det=u.det,sl u.locs] (by refine⟨?_,?_,?_,?_,?_,?_,(?_:sl u.locs)⟩<;>(first|rfl|assumption|exact⟨rfl,rfl⟩|omega|simp_all)) (by exact⟨aY _,rfl,hd.symm⟩)
 ·rintro d hd k hI
  obtain⟨hk,hs,hD⟩:=hI
  have hg1:=hg.1
  have hu1:=hu.1
  have ek:=wk k
  refine(let q1:List Prop→List Prop:=fun l0=>(g.dim=g.dim)::(g.det=g.det)::(sl g.locs)::(u.dim=u.dim)::(u.det=u.det)::(sl u.locs)::l0;oe (decide ((↑k:Int)<↑g.locs.length)) (fun d1=>oe (decide ((↑k:Int)<↑u.locs.length)) (fun d2=>let y1:List Prop:=(let v1:=g.locs.getD k z0l;let v2:=u.locs.getD k z0l;[(∀(i:Nat),i<v1.list.length→(fun i=>(v1.list.getD i z0c).rvs) i=(Con.ofR ((fun i=>(v1.list.getD i z0c).rvs) i)).rvs)∧(∀(i:Nat),i<v2.list.length→(fun i=>(v2.list.getD i z0c).rvs) i=(Con.ofR ((fun i=>(v2.list.getD i z0c).rvs) i)).rvs)∧v1.list.length≤1000∧v2.list.length≤1000,(0:Int)≤↑k∧(↑k:Int)<↑u.locs.length,(0:Int)≤↑k∧(↑k:Int)<↑g.locs.length,ty d2,ty d1]);have u1:ao y1:=⟨?_,?_,?_,d2,d1⟩;oe (jp (Loc.mk (g.locs.getD k z0l).prime (ag (g.locs.getD k z0l).list.length fun i=>((g.locs.getD k z0l).list.getD i z0c).rvs)) (Loc.mk (u.locs.getD k z0l).prime (ag (u.locs.getD k z0l).list.length fun i=>((u.locs.getD k z0l).list.getD i z0c).rvs))==0) (fun d3=>aq (tp 112) (k+1) ((w6.wrap ((↑k:Int)+1)=↑(k+1))::(g.dim=g.dim)::(g.det=g.det)::(sl g.locs)::(u.dim=u.dim)::(u.det=u.det)::(sl u.locs)::ty (dN d3)::y1) ⟨?_,?_,?_,?_,?_,?_,?_,(dN d3),u1⟩ ?_ ?_)
   (fun d3=>aG d false (tp 111) (let v1:=g.locs.getD k z0l;let v2:=u.locs.getD k z0l;(jp (Loc.mk v1.prime (ag v1.list.length fun i=>(v1.list.getD i z0c).rvs)) (Loc.mk v2.prime (ag v2.list.length fun i=>(v2.list.getD i z0c).rvs))=eh g.locs u.locs)::(g.dim=g.dim)::(g.det=g.det)::(sl g.locs)::(u.dim=u.dim)::(u.det=u.det)::(sl u.locs)::ty (dN d3)::y1) ⟨?_,?_,?_,?_,?_,?_,?_,(dN d3),u1⟩ ?_))
   (fun d2=>aG d true [true,false] (q1 [ty d2,ty d1]) ⟨?_,?_,?_,?_,?_,?_,d2,d1⟩ ?_))
   (fun d1=>aG d true [false] (q1 [ty d1]) ⟨?_,?_,?_,?_,?_,?_,d1⟩ ?_))
  all_goals((try clear u1);(try clear y1))
  all_goals first|(refine cy.mk ?_;(simp only[dT]at*;show g.locs.length-(k+1)<g.locs.length-k;omega))|(refine bD.mk ?_;(simp only[bn,dT,dF,b6]at*;rw[pS om om,gr aS]at hs;exact⟨om,hs,hD⟩))|(refine dq.mk ?_;cases d<;>first|rfl|(exfalso;(simp only[bn,bt,dT,dF,b6,bJ,ne_eq]at*;first|(rw[uM om]at hs;rw[←hs]at hD;cases hD;done)|(rw[pS om om,iY aS]at hs;rw[←hs]at hD;have:=hD.symm;rw[b6]at this;exact absurd this aS))))|(first|exact tr|exact lS|exact⟨fun _ _=>rfl,fun _ _=>rfl,rV hg.2 k,rV hu.2 k⟩|((try simp only[bn,ek,bt,dT,dF,b6,bJ,ne_eq]at*)<;>first|omega|(rw[←hs,pS om om,iY aS];done)))
theorem RD (g u:af)(hg:bG g)(hh:bG u):ar Tryz.prog [] 19 [.agg g.rvs,.agg u.rvs] (.int .i64 (cX g u)):=by
 refine pr (cE ui) Tryz.func19 (aW (RA g u hg hh)) ?_
 refine oe (decide (g.dim<u.dim)) (fun d1=>lr [true] [(-1:Int)=cX g u,ty d1] ?_)
  (fun d1=>oe (g.dim==u.dim) (fun d2=>let y1:List Prop:=[ty d2,ty d1];have u1:ao y1:=⟨d2,d1⟩;oe (decide (g.det<u.det)) (fun d3=>lr (tp 211) (((-1:Int)=cX g u)::ty d3::y1) ?_)
  (fun d3=>let y2:List Prop:=ty (dN d2)::ty d3::y1;have u2:ao y2:=⟨(dN d2),d3,u1⟩;oe (g.det==u.det) (fun d4=>oe (eh g.locs u.locs==0) (fun d5=>let y3:List Prop:=(g.dim=g.dim)::(g.det=g.det)::(sl g.locs)::(u.dim=u.dim)::(u.det=u.det)::(sl u.locs)::ty d5::ty (dN d4)::y2;have u3:ao y3:=⟨?_,?_,?_,?_,?_,?_,d5,(dN d4),u2⟩;oe (decide ((↑g.locs.length:Int)<↑u.locs.length)) (fun d6=>lr (tp 2122211) (((-1:Int)=cX g u)::ty d6::y3) ?_)
  (fun d6=>oe (decide ((↑g.locs.length:Int)>↑u.locs.length)) (fun d7=>lr (tp 21222121) (((1:Int)=cX g u)::ty d7::ty d6::y3) ?_)
  (fun d7=>lr (tp 21222122) (((0:Int)=cX g u)::ty d7::ty d6::y3) ?_)))
  (fun d5=>lr (tp 212222) ((eh g.locs u.locs=cX g u)::(g.dim=g.dim)::(g.det=g.det)::(sl g.locs)::(u.dim=u.dim)::(u.det=u.det)::(sl u.locs)::ty d5::ty (dN d4)::y2) ?_))
  (fun d4=>lr (tp 21221) (((1:Int)=cX g u)::ty (dN d4)::y2) ?_)))
  (fun d2=>lr (tp 221) [(1:Int)=cX g u,ty (dN d2),ty d2,ty d1] ?_))
 all_goals with_reducible repeat' first|exact dA|refine bk ?_ ?_|refine bm ?_
 all_goals((try clear u3);(try clear y3);(try clear u2);(try clear y2);(try clear u1);(try clear y1))
 all_goals first|(first|exact tr|exact lS|((try simp only[b6,bJ,ne_eq,dT,dF]at*)<;>(unfold cX gR cP ba;repeat' split)<;>omega))
end Go.Proofs.YtmeljalphfcieaaGreatDoor.S
end
