/- A part of the proof of ExistenceOne: KV, GW, GY, LY, QK, QL, QM, QN, QP. -/
import Derived.Test.YtdbdoalefmliiaaGreatDoorPkE3
import Derived.Test.YtdbdoalefmliiaaGreatDoorPkE7
import Derived.Test.YtdbdoalefmliiaaGreatDoorPkE5
import Derived.Test.YtdbdoalefmliiaaGreatDoorPkE6
set_option linter.unusedSimpArgs false
set_option linter.unusedVariables false
set_option maxRecDepth 100000
open Go.IntKind renaming i64 → w6
open Go.QfSy.Loc renaming zero → z0l
noncomputable section
namespace Go.Proofs.YtdbdoalefmliiaaGreatDoor.S
open Go.QfSy Go.RowKit
def bE (n d:Nat)(Q:List aN):List LL:=dR n d::(Q.drop 1).map fun q=>b7 n d q.prime.toNat
def tP (n d:Nat)(Ls:List LL):cB:=(aK (n:Int) (d:Int) Ls Ls.length 0 (List.replicate Ls.length z0l,none)).2
def bM (n d:Nat)(Q:List aN):List aG:=aC (tP n d (bE n d Q))
def fb (X:List aG):List aG:=bif Nat.blt 64 X.length then []else dX X
def gc (X:List aG):Int:=bif Nat.blt 64 X.length then 7 else 0
structure me (n d:Nat)(Q:List aN):Prop where
 n1:1≤n∧n≤8
 d1:0<d∧d≤10000
 fc:ba (2*d)=Q
 od:∀q∈Q.drop 1,2≤q.prime.toNat∧q.prime.toNat≤2147483647∧q.prime.toNat%2≠0
 ps:∀l∈bE n d Q,l7 l∧l.length≤50000
 ne:(tP n d (bE n d Q)).isNone=false
 bd:∀g∈bM n d Q,bG g
 le:(bM n d Q).length≤1000
 ss:64<(bM n d Q).length∨(bM n d Q≠[]∧iP (dX (bM n d Q))=true)
def Gn (n d:Nat)(Q:List aN):List cq:=[
 ⟨8,[],fun A=>match A with
  |[.int .i64 a,.int .i64 b]=>some (iz (dR n d),[a=(n:Int)∧b=(d:Int)])
  |_=>none⟩,
 ⟨9,[aL],fun A=>match A with
  |[.int .i64 a]=>some (.tup [dU .pow Q,.int .i64 0],[a=2*(d:Int)])
  |_=>none⟩,
 ⟨10,[],fun A=>match A with
  |[.int .i64 a,.int .i64 b,.int .i64 p]=>some (iz (b7 n d p.toNat),[a=(n:Int)∧b=(d:Int)∧p∈(Q.drop 1).map aN.prime])
  |_=>none⟩]
theorem rS {n d:Nat}{Q:List aN}(h:me n d Q):∀e∈Gn n d Q,cJ Tryz.prog e:=by
 intro e he
 simp only[Gn,bC,cU,cY]at he
 rcases he with rfl|rfl|rfl
 all_goals
  intro A R ms hq hm
  simp only at hq
  split at hq
  all_goals first|(cases hq;done)|cases hq
 ·obtain⟨rfl,rfl⟩:=aA hm
  exact NT n d h.n1 h.d1 (h.ps _ eB).2
 ·have h1:=aA hm
  subst h1
  have:=yT (2*d) (by have:=h.d1;omega) (by have:=h.d1;omega)
  rw[h.fc]at this
  rw[show((2*d:Nat):Int)=2*(d:Int) by omega]at this
  exact this
 ·obtain⟨rfl,rfl,h3⟩:=aA hm
  obtain⟨q,hq,rfl⟩:=gv.1 h3
  obtain⟨o1,o2,o3⟩:=h.od q hq
  have:=NS n d q.prime.toNat h.n1 h.d1 ⟨o1,o2,o3⟩ (h.ps _ (fk _ (gv.2 ⟨q,hq,rfl⟩))).2
  rw[show((q.prime.toNat:Nat):Int)=q.prime by omega]at this
  exact this
def Iv (n d:Nat)(Ls:List LL):Nat→List AV→Hs→Option (cS×List Prop):=fun f args H=>
 bif Nat.beq f 11 then some (gt (n:Int) (d:Int) Ls Ls.length 0 (List.replicate Ls.length z0l) none,[cu Ls Ls.length 0 (List.replicate Ls.length z0l) none])else
 bif Nat.beq f 14 then(match args with
  |[.lo b _,_]=>match H.m.get b with
   |some k=>match k.view with
    |.vals .gen X=>some (xA X,[X≠[]∧X.length≤1000∧(∀g∈X,bG g)∧iP (dX X)=true])
    |_=>none
   |none=>none
  |_=>none)else none
theorem sh {n d:Nat}{Ls:List LL}:∀f args H A ms,Iv n d Ls f args H=some (A,ms)→(∀q∈ms,q)→aP Tryz.prog EV.ng A:=by
 intro f args H A ms hq hm
 unfold Iv at hq
 cases h1:Nat.beq f 11 with
 |true=>
  rw[h1,aU]at hq
  cases hq
  exact Am _ _ _ _ _ _ _ (aA hm)
 |false=>
  rw[h1,bt]at hq
  replace hq:=(ay hq).2
  split at hq
  ·split at hq
   ·split at hq
    ·cases hq
     obtain⟨a1,a2,a3,a4⟩:=aA hm
     exact Ve _ a1 a2 a3 a4
    ·cases hq
   ·cases hq
  ·cases hq
theorem sT {n d:Nat}{Q:List aN}(h:me n d Q)(hQ:Q.length≤9):cu (bE n d Q) (bE n d Q).length 0 (List.replicate (bE n d Q).length z0l) none:=by
 have hl:(bE n d Q).length=(Q.drop 1).length+1:=by simp[bE]
 have h2:(Q.drop 1).length≤9:=by simp;omega
 refine⟨si,si,by simp[hl],by rw[rB];omega,fun j=>?_,fun j hj=>absurd hj om,by simp[aC]⟩
 rw[ev]
 rcases bA j (bE n d Q).length with hj|hj
 ·rw[gS hj];exact h.ps _ (jF hj)
 ·rw[jD hj];exact⟨fun l hl=>by simp at hl,bQ _⟩
theorem sU {n d:Nat}{Q:List aN}(h:me n d Q)(hl:¬64<(bM n d Q).length):bM n d Q≠[]∧(bM n d Q).length≤1000∧(∀g∈bM n d Q,bG g)∧iP (dX (bM n d Q))=true:=by
 rcases h.ss with h1|h1
 ·exact absurd h1 hl
 ·exact⟨h1.1,h.le,h.bd,h1.2⟩
theorem sV {X:List aG}(h:64<X.length):fb X=[]:=by unfold fb;rw[show Nat.blt 64 X.length=true from fW h];rfl
theorem HJ {X:List aG}(h:¬64<X.length):fb X=dX X:=by unfold fb;rw[show Nat.blt 64 X.length=false from ox.2 fun e=>h (aT e)];rfl
theorem U4 {X:List aG}(h:64<X.length):gc X=7:=by unfold gc;rw[show Nat.blt 64 X.length=true from fW h];rfl
theorem HK {X:List aG}(h:¬64<X.length):gc X=0:=by unfold gc;rw[show Nat.blt 64 X.length=false from ox.2 fun e=>h (aT e)];rfl
theorem l9 {X:List aG}{b:Bool}(h:decide (((X.length:Nat):Int)>64)=b):decide (64<X.length)=b:=by
 subst h
 by_cases e:64<X.length
 ·rw[bJ e];exact(bJ om).symm
 ·rw[bI e];exact(bI om).symm
def tQ (Ls:List LL)(a b c:Nat):List (Nat×ag):=[(1003,cN [.lo a Ls.length] 38),(a,⟨.vals (.list .loc) Ls,27,1,true,true⟩),(b,nN (List.replicate Ls.length z0l)),(c,cN [.lo b Ls.length] 27)]
theorem Iw (n d:Nat)(q0:aN)(hG:me n d [q0]):ax Tryz.prog [aL] 4 [.int .i64 (n:Int),.int .i64 (d:Int)] (.tup [dU .gen (fb (bM n d [q0])),.int .i64 (gc (bM n d [q0]))]):=by
 have z1:decide ((n:Int)<1)=false:=bI mf
 have z2:decide ((n:Int)>8)=false:=bI mf
 have z3:decide ((d:Int)<1)=false:=bI mg
 have z4:decide ((d:Int)>10000)=false:=bI mg
 have y0:decide ((0:Int)<↑([q0].length-Int.toNat (1:Int)))=false:=rfl
 have y9:Option.isNone (aK (↑n:Int) (↑d:Int) (bE n d [q0]) (bE n d [q0]).length (0:Nat) (List.replicate (bE n d [q0]).length z0l,none)).snd=false:=hG.ne
 have hc:=sT hG si
 refine pr (cF (sc (g:=11) (l:=tQ (bE n d [q0]) 1002 1005 1006) (cD (sh (n:=n) (d:=d) (Ls:=(bE n d [q0]))) (eE (rS hG))))) Tryz.func4 aE ?_
 refine(let u1:List Prop:=(let v1:=bE n d [q0];let v2:=List.replicate v1.length z0l;[cu v1 v1.length (0:Nat) v2 none,(0:Int)=↑(0:Nat),v1.length=v2.length,rq ([Loc.mk (0:Int) []]),rq (↑n:Int),rq (↑d:Int),rq (v1.length),rq ([dR n d]),aa (Option.isNone (aK (↑n:Int) (↑d:Int) v1 v1.length (0:Nat) (List.replicate v1.length z0l,none)).snd) false,(1:Nat)=v1.length,(dR n d).length=(dR n d).length∧(fun i=>((dR n d).getD i z0l).rvs)=fun i=>ae.rvs ae.loc ((dR n d).getD i ae.loc.zero),(0:Int)=z0l.prime,z0l.list.length=0,(1:Nat)=v1.length,aa (decide ((0:Int)<↑([q0].length-Int.toNat (1:Int)))) false,(0:Int)≤1∧(1:Int)≤(↑[q0].length:Int),w6.wrap ((2:Int)*↑d)=2*↑d,(↑n:Int)=↑n∧(↑d:Int)=↑d,aa (decide ((↑d:Int)>10000)) false,aa (decide ((↑d:Int)<1)) false,aa (decide ((↑n:Int)>8)) false,aa (decide ((↑n:Int)<1)) false]);have t1:ar u1:=⟨?_,?_,?_,?_,?_,?_,?_,?_,y9,?_,?_,?_,?_,?_,y0,?_,?_,?_,z4,z3,z2,z1⟩;oe (decide ((↑(aC (aK (↑n:Int) (↑d:Int) (bE n d [q0]) (bE n d [q0]).length (0:Nat) (List.replicate (bE n d [q0]).length z0l,none)).snd).length:Int)>64)) (fun d1=>lr (tp 2222221) (((fb (bM n d [q0])).length=0)::((7:Int)=gc (bM n d [q0]))::ty d1::u1) ⟨?_,?_,d1,t1⟩)
  (fun d1=>lr (tp 2222222) (let v1:=(aK (↑n:Int) (↑d:Int) (bE n d [q0]) (bE n d [q0]).length (0:Nat) (List.replicate (bE n d [q0]).length z0l,none));let v2:=aC v1.snd;(v2.length=(fb (bM n d [q0])).length∧v2.length=(dX v2).length∧∀(i:Nat),i<v2.length→(fun i=>ae.gen.rvs ((fb (bM n d [q0])).getD i ae.gen.zero)) i=ae.gen.rvs ((dX v2).getD i ae.gen.zero))::((0:Int)=gc (bM n d [q0]))::(aC v1.snd≠[]∧v2.length≤1000∧(∀(g:ae.gen.car),g∈aC v1.snd→bG g)∧iP (dX v2)=true)::rq (v2.length)::rq v2::ty d1::u1) ⟨?_,?_,?_,?_,?_,d1,t1⟩))
 all_goals first|(first|exact tz|exact hc|rfl|exact ud|exact uh|exact⟨rfl,rfl,gv.2 ⟨q0,si,rfl⟩⟩|exact⟨rfl,rfl,gv.2 ⟨q0,si,rfl⟩⟩|(have h6:64<(bM n d [q0]).length:=oT (l9 (X:=bM n d [q0]) d1);first|(rw[sV h6];rfl)|exact ug)|(have h6:¬64<(bM n d [q0]).length:=oF (l9 (X:=bM n d [q0]) d1);first|exact uf|exact sU hG h6|exact tY))
theorem Ix (n d:Nat)(q0 q1:aN)(hG:me n d [q0,q1]):ax Tryz.prog [aL] 4 [.int .i64 (n:Int),.int .i64 (d:Int)] (.tup [dU .gen (fb (bM n d [q0,q1])),.int .i64 (gc (bM n d [q0,q1]))]):=by
 have z1:decide ((n:Int)<1)=false:=bI mf
 have z2:decide ((n:Int)>8)=false:=bI mf
 have z3:decide ((d:Int)<1)=false:=bI mg
 have z4:decide ((d:Int)>10000)=false:=bI mg
 have y0:decide ((0:Int)<↑([q0,q1].length-Int.toNat (1:Int)))=true:=rfl
 have y1:decide (w6.wrap ((0:Int)+1)<↑([q0,q1].length-Int.toNat (1:Int)))=false:=rfl
 have y9:Option.isNone (aK (↑n:Int) (↑d:Int) (bE n d [q0,q1]) (bE n d [q0,q1]).length (0:Nat) (List.replicate (bE n d [q0,q1]).length z0l,none)).snd=false:=hG.ne
 have hc:=sT hG si
 refine pr (cF (sc (g:=11) (l:=tQ (bE n d [q0,q1]) 1014 1016 1017) (cD (sh (n:=n) (d:=d) (Ls:=(bE n d [q0,q1]))) (eE (rS hG))))) Tryz.func4 aE ?_
 refine(let u1:List Prop:=(let v1:=(bE n d [q0,q1]);let v2:=([q0,q1].getD (Int.toNat (0:Int)+Int.toNat (1:Int)) ae.pow.zero);let v3:=(↑([q0,q1].length-Int.toNat (1:Int)):Int);let v4:=List.replicate v1.length z0l;[cu v1 v1.length (0:Nat) v4 none,(0:Int)=↑(0:Nat),v1.length=v4.length,rq ([Loc.mk (0:Int) [],Loc.mk (0:Int) []]),rq (↑n:Int),rq (↑d:Int),rq (v1.length),rq ([dR n d,b7 n d q1.prime.toNat]),aa (Option.isNone (aK (↑n:Int) (↑d:Int) v1 v1.length (0:Nat) (List.replicate v1.length z0l,none)).snd) false,(1:Nat)+1=v1.length,(dR n d).length=(dR n d).length∧(fun i=>((dR n d).getD i z0l).rvs)=fun i=>ae.rvs ae.loc ((dR n d).getD i ae.loc.zero),(b7 n d v2.prime.toNat).length=((fun q=>b7 n d q.prime.toNat) q1).length∧(fun i=>((b7 n d v2.prime.toNat).getD i z0l).rvs)=fun i=>ae.rvs ae.loc (((fun q=>b7 n d q.prime.toNat) q1).getD i ae.loc.zero),(0:Int)=z0l.prime,z0l.list.length=0,(0:Int)=z0l.prime,z0l.list.length=0,(1:Nat)+1=v1.length,aa (decide (w6.wrap ((0:Int)+1)<v3)) false,(↑n:Int)=↑n∧(↑d:Int)=↑d∧v2.prime∈List.map aN.prime (List.drop (1:Nat) [q0,q1]),(0:Int)≤0∧(0:Int)<v3,aa (decide ((0:Int)<v3)) true,(0:Int)≤1∧(1:Int)≤(↑[q0,q1].length:Int),w6.wrap ((2:Int)*↑d)=2*↑d,(↑n:Int)=↑n∧(↑d:Int)=↑d,aa (decide ((↑d:Int)>10000)) false,aa (decide ((↑d:Int)<1)) false,aa (decide ((↑n:Int)>8)) false,aa (decide ((↑n:Int)<1)) false]);have t1:ar u1:=⟨?_,?_,?_,?_,?_,?_,?_,?_,y9,?_,?_,?_,?_,?_,?_,?_,?_,y1,?_,?_,y0,?_,?_,?_,z4,z3,z2,z1⟩;oe (decide ((↑(aC (aK (↑n:Int) (↑d:Int) (bE n d [q0,q1]) (bE n d [q0,q1]).length (0:Nat) (List.replicate (bE n d [q0,q1]).length z0l,none)).snd).length:Int)>64)) (fun d1=>lr (tp 22221221) (((fb (bM n d [q0,q1])).length=0)::((7:Int)=gc (bM n d [q0,q1]))::ty d1::u1) ⟨?_,?_,d1,t1⟩)
  (fun d1=>lr (tp 22221222) (let v1:=(aK (↑n:Int) (↑d:Int) (bE n d [q0,q1]) (bE n d [q0,q1]).length (0:Nat) (List.replicate (bE n d [q0,q1]).length z0l,none));let v2:=aC v1.snd;let v3:=(bM n d [q0,q1]);(v2.length=(fb v3).length∧v2.length=(dX v2).length∧∀(i:Nat),i<v2.length→(fun i=>ae.gen.rvs ((fb v3).getD i ae.gen.zero)) i=ae.gen.rvs ((dX v2).getD i ae.gen.zero))::((0:Int)=gc v3)::(aC v1.snd≠[]∧v2.length≤1000∧(∀(g:ae.gen.car),g∈aC v1.snd→bG g)∧iP (dX v2)=true)::rq (v2.length)::rq v2::ty d1::u1) ⟨?_,?_,?_,?_,?_,d1,t1⟩))
 all_goals first|(first|exact tz|exact hc|rfl|exact ud|exact uh|exact ua|exact ua|(have h6:64<(bM n d [q0,q1]).length:=oT (l9 (X:=bM n d [q0,q1]) d1);first|(rw[sV h6];rfl)|exact ug)|(have h6:¬64<(bM n d [q0,q1]).length:=oF (l9 (X:=bM n d [q0,q1]) d1);first|exact uf|exact sU hG h6|exact tY))
theorem Iy (n d:Nat)(q0 q1 q2:aN)(hG:me n d [q0,q1,q2]):ax Tryz.prog [aL] 4 [.int .i64 (n:Int),.int .i64 (d:Int)] (.tup [dU .gen (fb (bM n d [q0,q1,q2])),.int .i64 (gc (bM n d [q0,q1,q2]))]):=by
 have z1:decide ((n:Int)<1)=false:=bI mf
 have z2:decide ((n:Int)>8)=false:=bI mf
 have z3:decide ((d:Int)<1)=false:=bI mg
 have z4:decide ((d:Int)>10000)=false:=bI mg
 have y0:decide ((0:Int)<↑([q0,q1,q2].length-Int.toNat (1:Int)))=true:=rfl
 have y1:decide (w6.wrap ((0:Int)+1)<↑([q0,q1,q2].length-Int.toNat (1:Int)))=true:=rfl
 have y2:decide (w6.wrap (w6.wrap ((0:Int)+1)+1)<↑([q0,q1,q2].length-Int.toNat (1:Int)))=false:=rfl
 have y9:Option.isNone (aK (↑n:Int) (↑d:Int) (bE n d [q0,q1,q2]) (bE n d [q0,q1,q2]).length (0:Nat) (List.replicate (bE n d [q0,q1,q2]).length z0l,none)).snd=false:=hG.ne
 have hc:=sT hG si
 refine pr (cF (sc (g:=11) (l:=tQ (bE n d [q0,q1,q2]) 1025 1027 1028) (cD (sh (n:=n) (d:=d) (Ls:=(bE n d [q0,q1,q2]))) (eE (rS hG))))) Tryz.func4 aE ?_
 refine(let u1:List Prop:=(let v1:=[q0,q1,q2];let v6:=(0:Int)+1;let v2:=v1.getD ((w6.wrap v6).toNat+Int.toNat (1:Int)) ae.pow.zero;let v3:=(↑(v1.length-Int.toNat (1:Int)):Int);let v4:=v1.getD (Int.toNat (0:Int)+Int.toNat (1:Int)) ae.pow.zero;let v5:=bE n d v1;let v7:=List.replicate v5.length z0l;[cu v5 v5.length (0:Nat) v7 none,(0:Int)=↑(0:Nat),v5.length=v7.length,rq ([Loc.mk (0:Int) [],Loc.mk (0:Int) [],Loc.mk (0:Int) []]),rq (↑n:Int),rq (↑d:Int),rq (v5.length),rq ([dR n d,b7 n d q1.prime.toNat,b7 n d q2.prime.toNat]),aa (Option.isNone (aK (↑n:Int) (↑d:Int) v5 v5.length (0:Nat) (List.replicate v5.length z0l,none)).snd) false,(1:Nat)+1+1=v5.length,(dR n d).length=(dR n d).length∧(fun i=>((dR n d).getD i z0l).rvs)=fun i=>ae.rvs ae.loc ((dR n d).getD i ae.loc.zero),(b7 n d v4.prime.toNat).length=((fun q=>b7 n d q.prime.toNat) q1).length∧(fun i=>((b7 n d v4.prime.toNat).getD i z0l).rvs)=fun i=>ae.rvs ae.loc (((fun q=>b7 n d q.prime.toNat) q1).getD i ae.loc.zero),(b7 n d v2.prime.toNat).length=((fun q=>b7 n d q.prime.toNat) q2).length∧(fun i=>((b7 n d v2.prime.toNat).getD i z0l).rvs)=fun i=>ae.rvs ae.loc (((fun q=>b7 n d q.prime.toNat) q2).getD i ae.loc.zero),(0:Int)=z0l.prime,z0l.list.length=0,(0:Int)=z0l.prime,z0l.list.length=0,(0:Int)=z0l.prime,z0l.list.length=0,(1:Nat)+1+1=v5.length,aa (decide (w6.wrap (w6.wrap v6+1)<v3)) false,(↑n:Int)=↑n∧(↑d:Int)=↑d∧v2.prime∈List.map aN.prime (List.drop (1:Nat) v1),(0:Int)≤w6.wrap v6∧w6.wrap v6<v3,aa (decide (w6.wrap v6<v3)) true,(↑n:Int)=↑n∧(↑d:Int)=↑d∧v4.prime∈List.map aN.prime (List.drop (1:Nat) v1),(0:Int)≤0∧(0:Int)<v3,aa (decide ((0:Int)<v3)) true,(0:Int)≤1∧(1:Int)≤↑v1.length,w6.wrap ((2:Int)*↑d)=2*↑d,(↑n:Int)=↑n∧(↑d:Int)=↑d,aa (decide ((↑d:Int)>10000)) false,aa (decide ((↑d:Int)<1)) false,aa (decide ((↑n:Int)>8)) false,aa (decide ((↑n:Int)<1)) false]);have t1:ar u1:=⟨?_,?_,?_,?_,?_,?_,?_,?_,y9,?_,?_,?_,?_,?_,?_,?_,?_,?_,?_,?_,y2,?_,?_,y1,?_,?_,y0,?_,?_,?_,z4,z3,z2,z1⟩;oe (decide ((↑(aC (aK (↑n:Int) (↑d:Int) (bE n d [q0,q1,q2]) (bE n d [q0,q1,q2]).length (0:Nat) (List.replicate (bE n d [q0,q1,q2]).length z0l,none)).snd).length:Int)>64)) (fun d1=>lr (tp 222211221) (((fb (bM n d [q0,q1,q2])).length=0)::((7:Int)=gc (bM n d [q0,q1,q2]))::ty d1::u1) ⟨?_,?_,d1,t1⟩)
  (fun d1=>lr (tp 222211222) (let v1:=(aK (↑n:Int) (↑d:Int) (bE n d [q0,q1,q2]) (bE n d [q0,q1,q2]).length (0:Nat) (List.replicate (bE n d [q0,q1,q2]).length z0l,none));let v2:=aC v1.snd;let v3:=(bM n d [q0,q1,q2]);(v2.length=(fb v3).length∧v2.length=(dX v2).length∧∀(i:Nat),i<v2.length→(fun i=>ae.gen.rvs ((fb v3).getD i ae.gen.zero)) i=ae.gen.rvs ((dX v2).getD i ae.gen.zero))::((0:Int)=gc v3)::(aC v1.snd≠[]∧v2.length≤1000∧(∀(g:ae.gen.car),g∈aC v1.snd→bG g)∧iP (dX v2)=true)::rq (v2.length)::rq v2::ty d1::u1) ⟨?_,?_,?_,?_,?_,d1,t1⟩))
 all_goals first|(first|exact tz|exact hc|rfl|exact ud|exact uh|exact ua|exact⟨rfl,rfl,gv.2 ⟨q2,si,rfl⟩⟩|(have h6:64<(bM n d [q0,q1,q2]).length:=oT (l9 (X:=bM n d [q0,q1,q2]) d1);first|(rw[sV h6];rfl)|exact ug)|(have h6:¬64<(bM n d [q0,q1,q2]).length:=oF (l9 (X:=bM n d [q0,q1,q2]) d1);first|exact uf|exact sU hG h6|exact tY))
theorem Iz (n d:Nat)(q0 q1 q2 q3:aN)(hG:me n d [q0,q1,q2,q3]):ax Tryz.prog [aL] 4 [.int .i64 (n:Int),.int .i64 (d:Int)] (.tup [dU .gen (fb (bM n d [q0,q1,q2,q3])),.int .i64 (gc (bM n d [q0,q1,q2,q3]))]):=by
 have z1:decide ((n:Int)<1)=false:=bI mf
 have z2:decide ((n:Int)>8)=false:=bI mf
 have z3:decide ((d:Int)<1)=false:=bI mg
 have z4:decide ((d:Int)>10000)=false:=bI mg
 have y0:decide ((0:Int)<↑([q0,q1,q2,q3].length-Int.toNat (1:Int)))=true:=rfl
 have y1:decide (w6.wrap ((0:Int)+1)<↑([q0,q1,q2,q3].length-Int.toNat (1:Int)))=true:=rfl
 have y2:decide (w6.wrap (w6.wrap ((0:Int)+1)+1)<↑([q0,q1,q2,q3].length-Int.toNat (1:Int)))=true:=rfl
 have y3:decide (w6.wrap (w6.wrap (w6.wrap ((0:Int)+1)+1)+1)<↑([q0,q1,q2,q3].length-Int.toNat (1:Int)))=false:=rfl
 have y9:Option.isNone (aK (↑n:Int) (↑d:Int) (bE n d [q0,q1,q2,q3]) (bE n d [q0,q1,q2,q3]).length (0:Nat) (List.replicate (bE n d [q0,q1,q2,q3]).length z0l,none)).snd=false:=hG.ne
 have hc:=sT hG si
 refine pr (cF (sc (g:=11) (l:=tQ (bE n d [q0,q1,q2,q3]) 1036 1038 1039) (cD (sh (n:=n) (d:=d) (Ls:=(bE n d [q0,q1,q2,q3]))) (eE (rS hG))))) Tryz.func4 aE ?_
 refine(let u1:List Prop:=(let v1:=[q0,q1,q2,q3];let v9:=(0:Int)+1;let v2:=w6.wrap v9+1;let v3:=(↑(v1.length-Int.toNat (1:Int)):Int);let v4:=v1.getD ((w6.wrap v9).toNat+Int.toNat (1:Int)) ae.pow.zero;let v5:=v1.getD ((w6.wrap v2).toNat+Int.toNat (1:Int)) ae.pow.zero;let v6:=v1.getD (Int.toNat (0:Int)+Int.toNat (1:Int)) ae.pow.zero;let v7:=bE n d v1;let v8:=List.drop (1:Nat) v1;let v10:=List.replicate v7.length z0l;[cu v7 v7.length (0:Nat) v10 none,(0:Int)=↑(0:Nat),v7.length=v10.length,rq ([Loc.mk (0:Int) [],Loc.mk (0:Int) [],Loc.mk (0:Int) [],Loc.mk (0:Int) []]),rq (↑n:Int),rq (↑d:Int),rq (v7.length),rq ([dR n d,b7 n d q1.prime.toNat,b7 n d q2.prime.toNat,b7 n d q3.prime.toNat]),aa (Option.isNone (aK (↑n:Int) (↑d:Int) v7 v7.length (0:Nat) (List.replicate v7.length z0l,none)).snd) false,(1:Nat)+1+1+1=v7.length,(dR n d).length=(dR n d).length∧(fun i=>((dR n d).getD i z0l).rvs)=fun i=>ae.rvs ae.loc ((dR n d).getD i ae.loc.zero),(b7 n d v6.prime.toNat).length=((fun q=>b7 n d q.prime.toNat) q1).length∧(fun i=>((b7 n d v6.prime.toNat).getD i z0l).rvs)=fun i=>ae.rvs ae.loc (((fun q=>b7 n d q.prime.toNat) q1).getD i ae.loc.zero),(b7 n d v4.prime.toNat).length=((fun q=>b7 n d q.prime.toNat) q2).length∧(fun i=>((b7 n d v4.prime.toNat).getD i z0l).rvs)=fun i=>ae.rvs ae.loc (((fun q=>b7 n d q.prime.toNat) q2).getD i ae.loc.zero),(b7 n d v5.prime.toNat).length=((fun q=>b7 n d q.prime.toNat) q3).length∧(fun i=>((b7 n d v5.prime.toNat).getD i z0l).rvs)=fun i=>ae.rvs ae.loc (((fun q=>b7 n d q.prime.toNat) q3).getD i ae.loc.zero),(0:Int)=z0l.prime,z0l.list.length=0,(0:Int)=z0l.prime,z0l.list.length=0,(0:Int)=z0l.prime,z0l.list.length=0,(0:Int)=z0l.prime,z0l.list.length=0,(1:Nat)+1+1+1=v7.length,aa (decide (w6.wrap (w6.wrap v2+1)<v3)) false,(↑n:Int)=↑n∧(↑d:Int)=↑d∧v5.prime∈List.map aN.prime v8,(0:Int)≤w6.wrap v2∧w6.wrap v2<v3,aa (decide (w6.wrap v2<v3)) true,(↑n:Int)=↑n∧(↑d:Int)=↑d∧v4.prime∈List.map aN.prime v8,(0:Int)≤w6.wrap v9∧w6.wrap v9<v3,aa (decide (w6.wrap v9<v3)) true,(↑n:Int)=↑n∧(↑d:Int)=↑d∧v6.prime∈List.map aN.prime v8,(0:Int)≤0∧(0:Int)<v3,aa (decide ((0:Int)<v3)) true,(0:Int)≤1∧(1:Int)≤↑v1.length,w6.wrap ((2:Int)*↑d)=2*↑d,(↑n:Int)=↑n∧(↑d:Int)=↑d,aa (decide ((↑d:Int)>10000)) false,aa (decide ((↑d:Int)<1)) false,aa (decide ((↑n:Int)>8)) false,aa (decide ((↑n:Int)<1)) false]);have t1:ar u1:=⟨?_,?_,?_,?_,?_,?_,?_,?_,y9,?_,?_,?_,?_,?_,?_,?_,?_,?_,?_,?_,?_,?_,?_,y3,?_,?_,y2,?_,?_,y1,?_,?_,y0,?_,?_,?_,z4,z3,z2,z1⟩;oe (decide ((↑(aC (aK (↑n:Int) (↑d:Int) (bE n d [q0,q1,q2,q3]) (bE n d [q0,q1,q2,q3]).length (0:Nat) (List.replicate (bE n d [q0,q1,q2,q3]).length z0l,none)).snd).length:Int)>64)) (fun d1=>lr (tp 2222111221) (((fb (bM n d [q0,q1,q2,q3])).length=0)::((7:Int)=gc (bM n d [q0,q1,q2,q3]))::ty d1::u1) ⟨?_,?_,d1,t1⟩)
  (fun d1=>lr (tp 2222111222) (let v1:=(aK (↑n:Int) (↑d:Int) (bE n d [q0,q1,q2,q3]) (bE n d [q0,q1,q2,q3]).length (0:Nat) (List.replicate (bE n d [q0,q1,q2,q3]).length z0l,none));let v2:=aC v1.snd;let v3:=(bM n d [q0,q1,q2,q3]);(v2.length=(fb v3).length∧v2.length=(dX v2).length∧∀(i:Nat),i<v2.length→(fun i=>ae.gen.rvs ((fb v3).getD i ae.gen.zero)) i=ae.gen.rvs ((dX v2).getD i ae.gen.zero))::((0:Int)=gc v3)::(aC v1.snd≠[]∧v2.length≤1000∧(∀(g:ae.gen.car),g∈aC v1.snd→bG g)∧iP (dX v2)=true)::rq (v2.length)::rq v2::ty d1::u1) ⟨?_,?_,?_,?_,?_,d1,t1⟩))
 all_goals first|(first|exact tz|exact hc|rfl|exact ud|exact uh|exact ua|exact⟨rfl,rfl,gv.2 ⟨q2,si,rfl⟩⟩|exact⟨rfl,rfl,gv.2 ⟨q3,si,rfl⟩⟩|(have h6:64<(bM n d [q0,q1,q2,q3]).length:=oT (l9 (X:=bM n d [q0,q1,q2,q3]) d1);first|(rw[sV h6];rfl)|exact ug)|(have h6:¬64<(bM n d [q0,q1,q2,q3]).length:=oF (l9 (X:=bM n d [q0,q1,q2,q3]) d1);first|exact uf|exact sU hG h6|exact tY))
theorem IA (n d:Nat)(q0 q1 q2 q3 q4:aN)(hG:me n d [q0,q1,q2,q3,q4]):ax Tryz.prog [aL] 4 [.int .i64 (n:Int),.int .i64 (d:Int)] (.tup [dU .gen (fb (bM n d [q0,q1,q2,q3,q4])),.int .i64 (gc (bM n d [q0,q1,q2,q3,q4]))]):=by
 have z1:decide ((n:Int)<1)=false:=bI mf
 have z2:decide ((n:Int)>8)=false:=bI mf
 have z3:decide ((d:Int)<1)=false:=bI mg
 have z4:decide ((d:Int)>10000)=false:=bI mg
 have y0:decide ((0:Int)<↑([q0,q1,q2,q3,q4].length-Int.toNat (1:Int)))=true:=rfl
 have y1:decide (w6.wrap ((0:Int)+1)<↑([q0,q1,q2,q3,q4].length-Int.toNat (1:Int)))=true:=rfl
 have y2:decide (w6.wrap (w6.wrap ((0:Int)+1)+1)<↑([q0,q1,q2,q3,q4].length-Int.toNat (1:Int)))=true:=rfl
 have y3:decide (w6.wrap (w6.wrap (w6.wrap ((0:Int)+1)+1)+1)<↑([q0,q1,q2,q3,q4].length-Int.toNat (1:Int)))=true:=rfl
 have y4:decide (w6.wrap (w6.wrap (w6.wrap (w6.wrap ((0:Int)+1)+1)+1)+1)<↑([q0,q1,q2,q3,q4].length-Int.toNat (1:Int)))=false:=rfl
 have y9:Option.isNone (aK (↑n:Int) (↑d:Int) (bE n d [q0,q1,q2,q3,q4]) (bE n d [q0,q1,q2,q3,q4]).length (0:Nat) (List.replicate (bE n d [q0,q1,q2,q3,q4]).length z0l,none)).snd=false:=hG.ne
 have hc:=sT hG si
 refine pr (cF (sc (g:=11) (l:=tQ (bE n d [q0,q1,q2,q3,q4]) 1047 1049 1050) (cD (sh (n:=n) (d:=d) (Ls:=(bE n d [q0,q1,q2,q3,q4]))) (eE (rS hG))))) Tryz.func4 aE ?_
 refine(let u1:List Prop:=(let v1:=[q0,q1,q2,q3,q4];let v11:=(0:Int)+1;let v2:=w6.wrap v11+1;let v3:=(↑(v1.length-Int.toNat (1:Int)):Int);let v9:=w6.wrap v2+1;let v4:=v1.getD ((w6.wrap v9).toNat+Int.toNat (1:Int)) ae.pow.zero;let v5:=v1.getD ((w6.wrap v11).toNat+Int.toNat (1:Int)) ae.pow.zero;let v6:=v1.getD ((w6.wrap v2).toNat+Int.toNat (1:Int)) ae.pow.zero;let v7:=v1.getD (Int.toNat (0:Int)+Int.toNat (1:Int)) ae.pow.zero;let v8:=bE n d v1;let v10:=List.drop (1:Nat) v1;let v12:=List.replicate v8.length z0l;[cu v8 v8.length (0:Nat) v12 none,(0:Int)=↑(0:Nat),v8.length=v12.length,rq ([Loc.mk (0:Int) [],Loc.mk (0:Int) [],Loc.mk (0:Int) [],Loc.mk (0:Int) [],Loc.mk (0:Int) []]),rq (↑n:Int),rq (↑d:Int),rq (v8.length),rq ([dR n d,b7 n d q1.prime.toNat,b7 n d q2.prime.toNat,b7 n d q3.prime.toNat,b7 n d q4.prime.toNat]),aa (Option.isNone (aK (↑n:Int) (↑d:Int) v8 v8.length (0:Nat) (List.replicate v8.length z0l,none)).snd) false,(1:Nat)+1+1+1+1=v8.length,(dR n d).length=(dR n d).length∧(fun i=>((dR n d).getD i z0l).rvs)=fun i=>ae.rvs ae.loc ((dR n d).getD i ae.loc.zero),(b7 n d v7.prime.toNat).length=((fun q=>b7 n d q.prime.toNat) q1).length∧(fun i=>((b7 n d v7.prime.toNat).getD i z0l).rvs)=fun i=>ae.rvs ae.loc (((fun q=>b7 n d q.prime.toNat) q1).getD i ae.loc.zero),(b7 n d v5.prime.toNat).length=((fun q=>b7 n d q.prime.toNat) q2).length∧(fun i=>((b7 n d v5.prime.toNat).getD i z0l).rvs)=fun i=>ae.rvs ae.loc (((fun q=>b7 n d q.prime.toNat) q2).getD i ae.loc.zero),(b7 n d v6.prime.toNat).length=((fun q=>b7 n d q.prime.toNat) q3).length∧(fun i=>((b7 n d v6.prime.toNat).getD i z0l).rvs)=fun i=>ae.rvs ae.loc (((fun q=>b7 n d q.prime.toNat) q3).getD i ae.loc.zero),(b7 n d v4.prime.toNat).length=((fun q=>b7 n d q.prime.toNat) q4).length∧(fun i=>((b7 n d v4.prime.toNat).getD i z0l).rvs)=fun i=>ae.rvs ae.loc (((fun q=>b7 n d q.prime.toNat) q4).getD i ae.loc.zero),(0:Int)=z0l.prime,z0l.list.length=0,(0:Int)=z0l.prime,z0l.list.length=0,(0:Int)=z0l.prime,z0l.list.length=0,(0:Int)=z0l.prime,z0l.list.length=0,(0:Int)=z0l.prime,z0l.list.length=0,(1:Nat)+1+1+1+1=v8.length,aa (decide (w6.wrap (w6.wrap v9+1)<v3)) false,(↑n:Int)=↑n∧(↑d:Int)=↑d∧v4.prime∈List.map aN.prime v10,(0:Int)≤w6.wrap v9∧w6.wrap v9<v3,aa (decide (w6.wrap v9<v3)) true,(↑n:Int)=↑n∧(↑d:Int)=↑d∧v6.prime∈List.map aN.prime v10,(0:Int)≤w6.wrap v2∧w6.wrap v2<v3,aa (decide (w6.wrap v2<v3)) true,(↑n:Int)=↑n∧(↑d:Int)=↑d∧v5.prime∈List.map aN.prime v10,(0:Int)≤w6.wrap v11∧w6.wrap v11<v3,aa (decide (w6.wrap v11<v3)) true,(↑n:Int)=↑n∧(↑d:Int)=↑d∧v7.prime∈List.map aN.prime v10,(0:Int)≤0∧(0:Int)<v3,aa (decide ((0:Int)<v3)) true,(0:Int)≤1∧(1:Int)≤↑v1.length,w6.wrap ((2:Int)*↑d)=2*↑d,(↑n:Int)=↑n∧(↑d:Int)=↑d,aa (decide ((↑d:Int)>10000)) false,aa (decide ((↑d:Int)<1)) false,aa (decide ((↑n:Int)>8)) false,aa (decide ((↑n:Int)<1)) false]);have t1:ar u1:=⟨?_,?_,?_,?_,?_,?_,?_,?_,y9,?_,?_,?_,?_,?_,?_,?_,?_,?_,?_,?_,?_,?_,?_,?_,?_,?_,y4,?_,?_,y3,?_,?_,y2,?_,?_,y1,?_,?_,y0,?_,?_,?_,z4,z3,z2,z1⟩;oe (decide ((↑(aC (aK (↑n:Int) (↑d:Int) (bE n d [q0,q1,q2,q3,q4]) (bE n d [q0,q1,q2,q3,q4]).length (0:Nat) (List.replicate (bE n d [q0,q1,q2,q3,q4]).length z0l,none)).snd).length:Int)>64)) (fun d1=>lr (tp 22221111221) (let v1:=(bM n d [q0,q1,q2,q3,q4]);((fb v1).length=0)::((7:Int)=gc v1)::ty d1::u1) ⟨?_,?_,d1,t1⟩)
  (fun d1=>lr (tp 22221111222) (let v1:=(aK (↑n:Int) (↑d:Int) (bE n d [q0,q1,q2,q3,q4]) (bE n d [q0,q1,q2,q3,q4]).length (0:Nat) (List.replicate (bE n d [q0,q1,q2,q3,q4]).length z0l,none));let v2:=aC v1.snd;let v3:=(bM n d [q0,q1,q2,q3,q4]);(v2.length=(fb v3).length∧v2.length=(dX v2).length∧∀(i:Nat),i<v2.length→(fun i=>ae.gen.rvs ((fb v3).getD i ae.gen.zero)) i=ae.gen.rvs ((dX v2).getD i ae.gen.zero))::((0:Int)=gc v3)::(aC v1.snd≠[]∧v2.length≤1000∧(∀(g:ae.gen.car),g∈aC v1.snd→bG g)∧iP (dX v2)=true)::rq (v2.length)::rq v2::ty d1::u1) ⟨?_,?_,?_,?_,?_,d1,t1⟩))
 all_goals first|(first|exact tz|exact hc|rfl|exact ud|exact uh|exact ua|exact⟨rfl,rfl,gv.2 ⟨q2,si,rfl⟩⟩|exact⟨rfl,rfl,gv.2 ⟨q3,si,rfl⟩⟩|exact⟨rfl,rfl,gv.2 ⟨q4,si,rfl⟩⟩|(have h6:64<(bM n d [q0,q1,q2,q3,q4]).length:=oT (l9 (X:=bM n d [q0,q1,q2,q3,q4]) d1);first|(rw[sV h6];rfl)|exact ug)|(have h6:¬64<(bM n d [q0,q1,q2,q3,q4]).length:=oF (l9 (X:=bM n d [q0,q1,q2,q3,q4]) d1);first|exact uf|exact sU hG h6|exact tY))
def X7 (d:Nat)(Q:List aN):Bool:=(List.range Q.length).all fun k=>decide ((kN Q k).2=((vv (kN Q k).1.toNat d).1:Int))
noncomputable def Bw (n d:Nat)(Q:List aN)(X:List aG):Bool:=
 Nat.ble Q.length 5&&Nat.ble 1 Q.length&&(Q.drop 1).all (fun q=>Nat.ble 2 q.prime.toNat&&Nat.ble q.prime.toNat 2147483647&&!Nat.beq (q.prime.toNat%2) 0)&&
 ((bE n d Q).all fun l=>Nat.ble l.length 50000&&l.all fun x=>Nat.ble 1 x.list.length&&Nat.ble x.list.length 1000)&&
 (!(tP n d (bE n d Q)).isNone&&(Nat.ble X.length 64&&Nat.ble 1 X.length&&
 (X.all (fun g=>Nat.ble g.locs.length 1000&&(g.locs.all (fun l=>Nat.ble l.list.length 1000)&&iQ 2 (g.locs.getD 0 QfSy.Loc.zero).list))&&(iP (dX X)&&X7 d Q))))
theorem Pu {R:aG→Prop}{n D:Int}{C:List QfSy.Loc}{o:cB}(hR:∀C,cP ⟨n,D,C⟩=0→R ⟨n,D,C⟩)(h:∀g∈aC o,R g):∀g∈aC (eu n D C o),R g:=by
 unfold eu
 cases hb:decide (cP ⟨n,D,C⟩=0)with
 |false=>exact h
 |true=>
  intro g hg
  have hg:g∈aC o++[⟨n,D,C⟩]:=hg
  rcases fX.1 hg with hg|hg
  ·exact h g hg
  ·simp only[bC,cU,cY]at hg
   subst hg
   exact hR C (ea hb)
theorem ET {R:aG→Prop}{n D:Int}{Ls:List (List QfSy.Loc)}(hR:∀C,cP ⟨n,D,C⟩=0→R ⟨n,D,C⟩):∀(r i:Nat)(s:List QfSy.Loc×cB),(∀g∈aC s.2,R g)→∀g∈aC (aK n D Ls r i s).2,R g
 |0,i,s,h=>Pu hR h
 |r+1,i,s,h=>by
  rw[Uq]
  generalize Ls.getD i []=l
  induction l generalizing s with
  |nil=>exact h
  |cons c l ih=>
   rw[oA]
   refine ih _ ?_
   unfold gD
   cases Nat.blt 64 (aC s.2).length with
   |true=>exact h
   |false=>exact ET hR r (i+1) _ h
structure A4 (n d:Nat)(L:List aG):Prop where
 asc:iP L=true
 pos:0<L.length
 len:L.length≤64
 al:∀g∈L,g.dim=(n:Int)∧g.det=(d:Int)∧cP g=0∧JA g∧bG g
theorem uE {n:Nat}{p:Nat→Bool}(h:(List.range n).all p=true){k:Nat}(hk:k<n):p k=true:=cK.1 h k (List.mem_range.2 hk)
theorem Pv {n d:Nat}{X:List aG}(hn:1≤n∧n≤8)(hd:0<d∧d≤10000)(hX:X=bM n d (ba (2*d)))(h:Bw n d (ba (2*d)) X=true):me n d (ba (2*d))∧A4 n d (dX X)∧(ba (2*d)).length≤5∧1≤(ba (2*d)).length:=by
 obtain⟨Q,hQ⟩:∃Q,Q=ba (2*d):=⟨_,rfl⟩
 rw[←hQ]at h hX⊢
 unfold Bw at h
 simp only[bj,mp]at h
 obtain⟨⟨⟨⟨h1,h1'⟩,h2⟩,h3⟩,h4,⟨h5,h6⟩,h7,h8,h9⟩:=h
 have h1:=aT h1
 have h1':=aT h1'
 have h5:=aT h5
 have h6:=aT h6
 have hbd:∀g∈X,bG g∧iQ 2 (g.locs.getD 0 QfSy.Loc.zero).list=true:=by
  intro g hg
  have:=cK.1 h7 g hg
  simp only[bj]at this
  obtain⟨a1,a2,a3⟩:=this
  exact⟨⟨aT a1,fun l hl=>aT (cK.1 a2 l hl)⟩,a3⟩
 have hck:∀g∈X,g.dim=(n:Int)∧g.det=(d:Int)∧cP g=0:=by
  rw[hX]
  exact ET (R:=fun g=>g.dim=(n:Int)∧g.det=(d:Int)∧cP g=0) (fun C hC=>⟨rfl,rfl,hC⟩) _ _ _ (fun g hg=>by cases hg)
 have hpm:=o7 X
 have hlen:(dX X).length=X.length:=hpm.length_eq
 refine⟨⟨hn,hd,hQ.symm,?_,?_,h4,?_,?_,?_⟩,⟨h8,om,om,?_⟩,h1,h1'⟩
 ·intro q hq
  have:=cK.1 h2 q hq
  simp only[bj,mp]at this
  obtain⟨⟨a1,a2⟩,a3⟩:=this
  exact⟨aT a1,aT a2,jn a3⟩
 ·intro l hl
  have:=cK.1 h3 l hl
  simp only[bj]at this
  refine⟨fun x hx=>?_,aT this.1⟩
  have:=cK.1 this.2 x hx
  simp only[bj]at this
  exact⟨aT this.1,aT this.2⟩
 ·rw[←hX];exact fun g hg=>(hbd g hg).1
 ·rw[←hX];omega
 ·rw[←hX];exact .inr ⟨fun e=>by rw[e]at h6;simp at h6,h8⟩
 ·intro g hg
  have hg:=hpm.subset hg
  obtain⟨b1,b2⟩:=hbd g hg
  obtain⟨c1,c2,c3⟩:=hck g hg
  refine⟨c1,c2,c3,?_,b1⟩
  have hs:cr g=true:=by
   cases hs:cr g with
   |true=>rfl
   |false=>unfold cP at c3;rw[hs]at c3;simp at c3
  obtain⟨s1,s2,s3,s4,s5,s6⟩:=(mO g).1 hs
  have ed:g.det.toNat=d:=by omega
  have e2:(2*g.det).toNat=2*d:=by omega
  rw[e2,←hQ]at s5 s6
  have hsh:=fun k (hk:k<g.locs.length)=>uZ s6 k om
  have hshB:∀k,k<g.locs.length→(g.locs.getD k QfSy.Loc.zero).prime=(Q.getD k aN.zero).prime∧fK (g.locs.getD k QfSy.Loc.zero)=true∧ly (g.locs.getD k QfSy.Loc.zero).list=g.dim∧((vv (g.locs.getD k QfSy.Loc.zero).prime.toNat g.det.toNat).1:Int)=lA (g.locs.getD k QfSy.Loc.zero).list:=by
   intro k hk
   have:=hsh k hk
   unfold ix at this
   simp only[bj,ib]at this
   exact⟨this.1,this.2.1,this.2.2.1,this.2.2.2⟩
  have hex:∀k,k<g.locs.length→(kN Q k).2=((vv (kN Q k).1.toNat d).1:Int):=fun k hk=>by
   have:=uE h9 (k:=k) om
   exact ea this
  refine⟨⟨s1,s2⟩,⟨s3,s4⟩,by rw[ed,←hQ];omega,?_,?_,?_,?_⟩
  ·intro k hk
   rw[ed,←hQ]
   exact(hshB k hk).1
  ·intro k hk hp
   have hk0:k=0:=by
    rcases kS k with h|h
    ·exact h
    ·exfalso
     have hpr:=(hshB k hk).1
     rw[hp]at hpr
     have hq:Q.getD k aN.zero∈Q.drop 1:=by
      rw[ev,gS om]
      rw[List.mem_iff_getElem]
      exact⟨k-1,by rw[rF];omega,by rw[List.getElem_drop];congr 1;omega⟩
     have:=cK.1 h2 _ hq
     simp only[bj,mp]at this
     rw[←hpr]at this
     exact jn this.2 rfl
   subst hk0
   rw[hp];exact b2
  ·intro k hk hp
   have:=(hshB k hk).2.1
   unfold fK at this
   rw[show decide ((g.locs.getD k QfSy.Loc.zero).prime=2)=false from bI hp]at this
   exact this
  ·intro k hk
   obtain⟨t1,t2,t3,t4⟩:=hshB k hk
   rw[ed,←hQ]
   have hx:=hex k hk
   have hv:(vv (kN Q k).1.toNat d).1≤40:=AO 40 _ _
   refine⟨DW t2,t3,?_,om,om⟩
   rw[hx,←t4,ed]
   congr 2
   rw[t1];rfl
noncomputable def Ce (n d:Nat):Bool:=Bw n d (ba (2*d)) (bM n d (ba (2*d)))
noncomputable def pB (n d:Nat):List aG:=dX (bM n d (ba (2*d)))
theorem FK (n d:Nat)(hn:1≤n∧n≤8)(hd:0<d∧d≤10000)(h:Ce n d=true):ax Tryz.prog [aL] 4 [.int .i64 (n:Int),.int .i64 (d:Int)] (.tup [dU .gen (pB n d),.int .i64 0])∧A4 n d (pB n d):=by
 obtain⟨hG,hO,hl,hp⟩:=Pv hn hd rfl h
 refine⟨?_,hO⟩
 have hlen:(bM n d (ba (2*d))).length≤64:=by
  have:=(o7 (bM n d (ba (2*d)))).length_eq
  have:=hO.len
  omega
 have e1:fb (bM n d (ba (2*d)))=pB n d:=HJ om
 have e2:gc (bM n d (ba (2*d)))=0:=HK om
 have key:ax Tryz.prog [aL] 4 [.int .i64 (n:Int),.int .i64 (d:Int)] (.tup [dU .gen (fb (bM n d (ba (2*d)))),.int .i64 (gc (bM n d (ba (2*d))))]):=by
  generalize ba (2*d)=Q at hG hl hp
  match Q,hG,hl,hp with
  |[],_,_,hp=>simp at hp
  |[q0],hG,_,_=>exact Iw n d q0 hG
  |[q0,q1],hG,_,_=>exact Ix n d q0 q1 hG
  |[q0,q1,q2],hG,_,_=>exact Iy n d q0 q1 q2 hG
  |[q0,q1,q2,q3],hG,_,_=>exact Iz n d q0 q1 q2 q3 hG
  |[q0,q1,q2,q3,q4],hG,_,_=>exact IA n d q0 q1 q2 q3 q4 hG
  |_::_::_::_::_::_::_,_,hl,_=>exact absurd hl (by simp only[dg];omega)
 rw[e1,e2]at key
 exact key
structure Ch (A B:List aG):Prop where
 g1:ax Tryz.prog [aL] 4 [.int .i64 2,.int .i64 1] (.tup [dU .gen A,.int .i64 0])
 g3:ax Tryz.prog [aL] 4 [.int .i64 2,.int .i64 3] (.tup [dU .gen B,.int .i64 0])
 la:A.length=1
 lb:B.length=2
 ck:cP (A.getD 0 aG.zero)=0
 bd:bG (A.getD 0 aG.zero)
theorem Tt (g:aG):(⟨g.dim,g.det,cn g.locs.length (fun i=>(g.locs.getD i QfSy.Loc.zero).rvs)⟩:aG)=g:=Aa g
noncomputable def GZ (A B:List aG):List cq:=[
 ⟨4,[aL],fun X=>match X with
  |[.int .i64 a,.int .i64 b]=>some (.tup [dU .gen (bif Nat.beq b.toNat 1 then A else B),.int .i64 0],[a=2∧(b=1∨b=3)])
  |_=>none⟩,
 ⟨12,[aL],fun X=>match X with
  |[.agg [.int .i64 a,.int .i64 b,.sl n 2 row]]=>some (.int .i64 (cP ⟨a,b,cn n row⟩),[(∀i,i<n→row i=ae.loc.rvs (ae.loc.of (row i)))∧n≤1000∧∀l∈cn n row,l.list.length≤1000])
  |_=>none⟩]
theorem Nz {A B:List aG}(h:Ch A B):∀e∈GZ A B,cJ Tryz.prog e:=by
 intro e he
 simp only[GZ,bC,cU,cY]at he
 rcases he with rfl|rfl
 all_goals
  intro X R ms hq hm
  simp only at hq
  split at hq
  all_goals first|(cases hq;done)|cases hq
 ·obtain⟨rfl,h1|h1⟩:=aA hm
  ·subst h1;exact h.g1
  ·subst h1;exact h.g3
 ·obtain⟨h1,h2,h3⟩:=aA hm
  exact ax.imp (CL ⟨_,_,cn _ _⟩ BS h3) (.cons (.agg (.cons .same (.cons .same (.cons (iK.vals .loc h1) .nil)))) .nil)
theorem RA (A B:List aG)(hA:Ch A B):ax Tryz.prog [aL] 7 [] (.bool true):=by
 have z1:((0:Int)==0)=true:=rfl
 have z2:((((bif(Int.toNat (1:Int)).beq (1:Nat)then A else B).length:Nat):Int)==1)=true:=by show(((A.length:Nat):Int)==1)=true;rw[hA.la];rfl
 have z3:((((bif(Int.toNat (3:Int)).beq (1:Nat)then A else B).length:Nat):Int)==2)=true:=by show(((B.length:Nat):Int)==2)=true;rw[hA.lb];rfl
 have hla:=hA.la
 have hg:=Tt (A.getD 0 aG.zero)
 refine pr (cE (Nz hA)) Tryz.func7 aE ?_
 refine lr (tp 1111) (let v1:=(bif(Int.toNat (1:Int)).beq (1:Nat)then A else B).getD (Int.toNat (0:Int)) ae.gen.zero;let v2:=(↑(bif(Int.toNat (1:Int)).beq (1:Nat)then A else B).length:Int);[(cP (aG.mk v1.dim v1.det (cn v1.locs.length fun i=>(v1.locs.getD i Loc.zero).rvs))==0)=true,(∀(i:Nat),i<v1.locs.length→(fun i=>(v1.locs.getD i Loc.zero).rvs) i=ae.loc.rvs (ae.loc.of ((fun i=>(v1.locs.getD i Loc.zero).rvs) i)))∧v1.locs.length≤1000∧∀(l:QfSy.Loc),(l∈cn v1.locs.length fun i=>(v1.locs.getD i Loc.zero).rvs)→l.list.length≤1000,(0:Int)≤0∧(0:Int)<v2,aa ((↑(bif(Int.toNat (3:Int)).beq (1:Nat)then A else B).length:Int)==2) true,aa (v2==1) true,aa ((0:Int)==0) true,aa ((0:Int)==0) true,(2:Int)=2∧((3:Int)=1∨(3:Int)=3),(2:Int)=2∧((1:Int)=1∨(1:Int)=3)]) ⟨?_,?_,?_,z3,z2,z1,z1,?_,(?_:(2:Int)=2∧((1:Int)=1∨(1:Int)=3))⟩
 all_goals first|(first|exact tr|exact⟨rfl,.inl rfl⟩|exact⟨rfl,.inr rfl⟩|(show(0:Int)≤0∧(0:Int)<((A.length:Nat):Int);omega)|(refine⟨o5 (A.getD 0 aG.zero).locs,hA.bd.1,?_⟩;show∀l∈cn (A.getD 0 aG.zero).locs.length (fun i=>((A.getD 0 aG.zero).locs.getD i QfSy.Loc.zero).rvs),l.list.length≤1000;rw[lO];exact hA.bd.2)|(show(cP (aG.mk (A.getD 0 aG.zero).dim (A.getD 0 aG.zero).det (cn (A.getD 0 aG.zero).locs.length fun i=>((A.getD 0 aG.zero).locs.getD i QfSy.Loc.zero).rvs))==0)=true;rw[hg,hA.ck];rfl))
theorem W5 {n d:Nat}{L:List aG}(hO:A4 n d L){k:Nat}(hk:k<L.length):(L.getD k aG.zero).dim=(n:Int)∧(L.getD k aG.zero).det=(d:Int)∧cP (L.getD k aG.zero)=0∧JA (L.getD k aG.zero)∧bG (L.getD k aG.zero):=by
 rw[ev,gS hk]
 exact hO.al _ (jF hk)
def F7 (G:aG):List cq:=[⟨15,[],fun A=>some (.int .i64 0,[A=[.agg G.rvs,.agg G.rvs]])⟩]
theorem MG {G:aG}(h:G.locs.length≤1000∧∀l∈G.locs,l.list.length≤1000):∀e∈F7 G,cJ Tryz.prog e:=by
 intro e he
 simp only[F7,bC,cU,cY]at he
 subst he
 intro A R ms hh hm
 cases hh
 rw[aA hm]
 have:=DC G G h h
 rwa[show fh G G=0 by have:=nA.neg G G;omega]at this
theorem Oc (G:aG)(H0:G.locs.length≤1000∧∀l∈G.locs,l.list.length≤1000):ax Tryz.prog [] 6 [.agg G.rvs,.agg G.rvs] (.bool true):=by
 refine pr (cE (MG H0)) Tryz.func6 aE ?_
 refine lr [] (let v1:=[RV.int IntKind.i64 G.dim,RV.int IntKind.i64 G.det,RV.sl G.locs.length (2:Nat) fun i=>(G.locs.getD i Loc.zero).rvs];[((0:Int)==0)=true,rq ([RV.agg v1,RV.agg v1])]) ⟨?_,(?_:[RV.agg [RV.int IntKind.i64 G.dim,RV.int IntKind.i64 G.det,RV.sl G.locs.length (2:Nat) fun i=>(G.locs.getD i Loc.zero).rvs],RV.agg [RV.int IntKind.i64 G.dim,RV.int IntKind.i64 G.det,RV.sl G.locs.length (2:Nat) fun i=>(G.locs.getD i Loc.zero).rvs]]=[RV.agg [RV.int IntKind.i64 G.dim,RV.int IntKind.i64 G.det,RV.sl G.locs.length (2:Nat) fun i=>(G.locs.getD i Loc.zero).rvs],RV.agg [RV.int IntKind.i64 G.dim,RV.int IntKind.i64 G.det,RV.sl G.locs.length (2:Nat) fun i=>(G.locs.getD i Loc.zero).rvs]])⟩
 all_goals first|(first|exact tr|rfl)
def zB (n:Nat)(G:aG):List cq:=[
 ⟨4,[aL],fun A=>some (.tup [.sl 1 3 (fun _=>G.rvs),.int .i64 0],[A=[.int .i64 1,.int .i64 (n:Int)]])⟩,
 ⟨5,[aL],fun A=>some (.tup [.agg G.rvs,.int .i64 0],[A=[hR n]])⟩,
 ⟨6,[],fun A=>some (.bool true,[A=[.agg G.rvs,.agg G.rvs]])⟩,
 ⟨7,[aL],fun A=>match A with
  |[]=>some (.bool true,[])
  |_=>none⟩]
structure xa (n:Nat)(G:aG):Prop where
 ge:ax Tryz.prog [aL] 4 [.int .i64 1,.int .i64 (n:Int)] (.tup [dU .gen [G],.int .i64 0])
 of:ax Tryz.prog [aL] 5 [hR n] (.tup [.agg G.rvs,.int .i64 0])
 bd:G.locs.length≤1000∧∀l∈G.locs,l.list.length≤1000
 aw:ax Tryz.prog [aL] 7 [] (.bool true)
theorem MH {n:Nat}{G:aG}(H:xa n G):∀e∈zB n G,cJ Tryz.prog e:=by
 intro e he
 simp only[zB,bC,cU,cY]at he
 rcases he with rfl|rfl|rfl|rfl
 ·intro A R ms hh hm
  cases hh
  rw[aA hm]
  refine ax.res H.ge fun F V h=>?_
  cases h with|tup h1=>
  cases h1 with|cons h2 h3=>
  exact .tup (.cons (bZ.rows (row:=fun i=>ae.gen.rvs (([G]:List aG).getD i ae.gen.zero)) (fun i hi=>by rw[show i=0 by omega];rfl) h2) h3)
 ·intro A R ms hh hm
  cases hh
  rw[aA hm]
  exact H.of
 ·intro A R ms hh hm
  cases hh
  rw[aA hm]
  exact Oc G H.bd
 ·intro A R ms hh hm
  simp only at hh
  split at hh
  ·cases hh;exact H.aw
  ·cases hh
def Uo (n:Nat)(G:aG):bq:=wD [5] (kt EC.ng (zB n G))
theorem Od {n:Nat}{G:aG}(H:xa n G):bV Tryz.prog EC.ng (Uo n G):=Fc (eE (MH H))
theorem PA (x:Int)(n:Nat)(G:aG)(H0:xa n G)(hx:0≤x∧x≤65535)(hn:(n:Int)=1+x%10000):ax Tryz.prog [aL] 3 [.int .u16 x] (.bool true):=by
 have fw:w6.wrap ((1:Int)+(w6.wrap x).tmod (10000:Int))=(n:Int):=by
  rw[jX (n:=x) om om,iE hx.1,jX om om]
  omega
 have rr:=fun(tp:List Bool)(ms:List Prop)h hm=>cx aX (bU aX (Od H0) 8) Tryz.func3 (A:=[.int .u16 x]) rfl aE rfl rfl cv (tabs:=[aL]) (R:=.bool true) (tp:=tp) (ms:=ms) h hm
 refine rr (tp 111) (let v1:=[RV.int IntKind.i64 G.dim,RV.int IntKind.i64 G.det,RV.sl G.locs.length (2:Nat) fun i=>(G.locs.getD i Loc.zero).rvs];[true=true,aa true true,rq ([RV.agg v1,RV.agg v1]),(0:Int)≤0∧(0:Int)<↑(1:Nat),aa ((0:Int)==0) true,aa ((0:Int)==0) true,[RV.sl (1:Nat) ((0:Nat)+1) fun x_1=>[RV.sl (1:Nat) ((0:Nat)+1) fun x_2=>[RV.int IntKind.i64 (w6.wrap ((1:Int)+(w6.wrap x).tmod (10000:Int)))]]]=[RV.sl (1:Nat) (1:Nat) fun x=>[RV.sl (1:Nat) (1:Nat) fun(x:Nat)=>[RV.int IntKind.i64 (↑n:Int)]]],[RV.int IntKind.i64 (1:Int),RV.int IntKind.i64 (w6.wrap ((1:Int)+(w6.wrap x).tmod (10000:Int)))]=[RV.int IntKind.i64 (1:Int),RV.int IntKind.i64 (↑n:Int)],(10000:Int)≠(0:Int)]) kr ⟨?_,rfl,?_,?_,rfl,rfl,?_,?_,(?_:(10000:Int)≠(0:Int))⟩
 all_goals first|(first|exact tr|(rw[fw];done)|(rw[fw];rfl)|omega|decide)
def Bv (n e u:Nat):Bool:=Nat.beq n (2^e*u)&&(!Nat.beq (u%2) 0&&(Nat.ble e 13&&Nat.beq (n%2^(e+3)) (2^e*(u%8))))
theorem R3:Nat.beq (ld 2) 2=true:=by kernel_rfl
theorem R4 {n e u:Nat}(hn:n≤10000)(h:Bv n e u=true):gi n (2^e*(u%8)) u e (u%8):=by
 unfold Bv at h
 simp only[bj,mp]at h
 obtain⟨h1,h2,h3,h4⟩:=h
 have h1:=co h1
 have h2:=jn h2
 have h3:=aT h3
 have h4:=co h4
 exact⟨co R3,⟨h1,de,h2,hn⟩,om,om,rfl,h4⟩
theorem II {fnd:List Con→cw→cw}(f e a:Nat)(L:List Con)(o:cw):az fnd f e 0 a L o=bif Nat.beq f 0 then o else bif Nat.beq a 0 then fnd L o else o:=by
 cases f<;>rfl
theorem IJ {fnd:List Con→cw→cw}(a:Nat)(L:List Con)(o:cw):∀(k e f:Nat),a=e+k→k+1≤f→az fnd (f+1) e 1 a L o=fnd (L++[e9 a 1]) o:=by
 intro k
 induction k with
 |zero=>
  intro e f ha hf
  obtain⟨g,rfl⟩:∃g,f=g+1:=⟨f-1,om⟩
  have ha:a=e:=by omega
  subst ha
  have hd:dG a 1 a=1:=by
   unfold dG
   cases h:Nat.beq a 0 with
   |true=>rfl
   |false=>
    have:=jn h
    show Nat.min 1 (a/a)=1
    rw[Nat.div_self om];rfl
  have hin:az fnd (g+1) (a+1) 1 a L o=o:=by
   unfold az
   rw[show Nat.beq 1 0=false from rfl,show Nat.blt a (1*(a+1))=true from fW om]
   rfl
  unfold az
  rw[show Nat.beq 1 0=false from rfl,show Nat.blt a (1*a)=false from ox.2 fun h=>by have:=aT h;omega,hd]
  show az fnd (g+1) (a+1) (1-(0+1)) (a-(0+1)*a) (L++[e9 a (0+1)]) (az fnd (g+1) (a+1) 1 a L o)=_
  rw[hin,show 1-(0+1)=0 from rfl,II,show a-(0+1)*a=0 by omega]
  rfl
 |succ k ih=>
  intro e f ha hf
  obtain⟨g,rfl⟩:∃g,f=g+1:=⟨f-1,om⟩
  have hd:dG e 1 a=1:=by
   unfold dG
   cases h:Nat.beq e 0 with
   |true=>rfl
   |false=>
    have:=jn h
    have h1:1≤a/e:=Nat.div_pos om om
    exact Nat.min_eq_left h1
  have hin:=ih (e+1) g om om
  unfold az
  rw[show Nat.beq 1 0=false from rfl,show Nat.blt a (1*e)=false from ox.2 fun h=>by have:=aT h;omega,hd]
  show az fnd (g+1) (e+1) (1-(0+1)) (a-(0+1)*e) (L++[e9 e (0+1)]) (az fnd (g+1) (e+1) 1 a L o)=_
  rw[hin,show 1-(0+1)=0 from rfl,II,show Nat.beq (a-(0+1)*e) 0=false from ox.2 fun h=>by have:=co h;omega]
  rfl
def tO (w:Nat):Nat:=bif Nat.beq w 1||Nat.beq w 7 then 1 else 3
theorem Vn (D:Int)(e:Nat)(he:e<14):eO D [e9 e 1] none=bh D [aV e 7] (bh D [aV e 5] (bh D [aV e 3] (bh D [aV e 1] none))):=by
 match e,he with
 |0,_=>show eO D [e9 0 1] none=bh D [aV 0 7] (bh D [aV 0 5] (bh D [aV 0 3] (bh D [aV 0 1] none)));kernel_rfl
 |1,_=>show eO D [e9 1 1] none=bh D [aV 1 7] (bh D [aV 1 5] (bh D [aV 1 3] (bh D [aV 1 1] none)));kernel_rfl
 |2,_=>show eO D [e9 2 1] none=bh D [aV 2 7] (bh D [aV 2 5] (bh D [aV 2 3] (bh D [aV 2 1] none)));kernel_rfl
 |3,_=>show eO D [e9 3 1] none=bh D [aV 3 7] (bh D [aV 3 5] (bh D [aV 3 3] (bh D [aV 3 1] none)));kernel_rfl
 |4,_=>show eO D [e9 4 1] none=bh D [aV 4 7] (bh D [aV 4 5] (bh D [aV 4 3] (bh D [aV 4 1] none)));kernel_rfl
 |5,_=>show eO D [e9 5 1] none=bh D [aV 5 7] (bh D [aV 5 5] (bh D [aV 5 3] (bh D [aV 5 1] none)));kernel_rfl
 |6,_=>show eO D [e9 6 1] none=bh D [aV 6 7] (bh D [aV 6 5] (bh D [aV 6 3] (bh D [aV 6 1] none)));kernel_rfl
 |7,_=>show eO D [e9 7 1] none=bh D [aV 7 7] (bh D [aV 7 5] (bh D [aV 7 3] (bh D [aV 7 1] none)));kernel_rfl
 |8,_=>show eO D [e9 8 1] none=bh D [aV 8 7] (bh D [aV 8 5] (bh D [aV 8 3] (bh D [aV 8 1] none)));kernel_rfl
 |9,_=>show eO D [e9 9 1] none=bh D [aV 9 7] (bh D [aV 9 5] (bh D [aV 9 3] (bh D [aV 9 1] none)));kernel_rfl
 |10,_=>show eO D [e9 10 1] none=bh D [aV 10 7] (bh D [aV 10 5] (bh D [aV 10 3] (bh D [aV 10 1] none)));kernel_rfl
 |11,_=>show eO D [e9 11 1] none=bh D [aV 11 7] (bh D [aV 11 5] (bh D [aV 11 3] (bh D [aV 11 1] none)));kernel_rfl
 |12,_=>show eO D [e9 12 1] none=bh D [aV 12 7] (bh D [aV 12 5] (bh D [aV 12 3] (bh D [aV 12 1] none)));kernel_rfl
 |13,_=>show eO D [e9 13 1] none=bh D [aV 13 7] (bh D [aV 13 5] (bh D [aV 13 3] (bh D [aV 13 1] none)));kernel_rfl
theorem tE (e w:Nat)(he:e<14)(hw:w=1∨w=3∨w=5∨w=7):iQ 2 [aV e w]=true∧mY 2 [aV e w]=true∧gr 2 [aV e w]=true∧en 2 [aV e w]=true∧decide (lm [aV e w]=lm [aV e (8-w)])=false:=by
 match e,he with
 |0,_=>rcases hw with rfl|rfl|rfl|rfl<;>exact⟨kr,kr,kr,kr,kr⟩
 |1,_=>rcases hw with rfl|rfl|rfl|rfl<;>exact⟨kr,kr,kr,kr,kr⟩
 |2,_=>rcases hw with rfl|rfl|rfl|rfl<;>exact⟨kr,kr,kr,kr,kr⟩
 |3,_=>rcases hw with rfl|rfl|rfl|rfl<;>exact⟨kr,kr,kr,kr,kr⟩
 |4,_=>rcases hw with rfl|rfl|rfl|rfl<;>exact⟨kr,kr,kr,kr,kr⟩
 |5,_=>rcases hw with rfl|rfl|rfl|rfl<;>exact⟨kr,kr,kr,kr,kr⟩
 |6,_=>rcases hw with rfl|rfl|rfl|rfl<;>exact⟨kr,kr,kr,kr,kr⟩
 |7,_=>rcases hw with rfl|rfl|rfl|rfl<;>exact⟨kr,kr,kr,kr,kr⟩
 |8,_=>rcases hw with rfl|rfl|rfl|rfl<;>exact⟨kr,kr,kr,kr,kr⟩
 |9,_=>rcases hw with rfl|rfl|rfl|rfl<;>exact⟨kr,kr,kr,kr,kr⟩
 |10,_=>rcases hw with rfl|rfl|rfl|rfl<;>exact⟨kr,kr,kr,kr,kr⟩
 |11,_=>rcases hw with rfl|rfl|rfl|rfl<;>exact⟨kr,kr,kr,kr,kr⟩
 |12,_=>rcases hw with rfl|rfl|rfl|rfl<;>exact⟨kr,kr,kr,kr,kr⟩
 |13,_=>rcases hw with rfl|rfl|rfl|rfl<;>exact⟨kr,kr,kr,kr,kr⟩
theorem Bh (n e w:Nat):dD (n:Int) 2 [aV e w]=decide (bS w=dw n 2):=by
 unfold dD
 have h:ez [aV e w] [aV e w].length=bS w:=by
  show IntKind.i64.wrap (1*bS w)=bS w
  unfold bS
  split<;>rfl
 rw[h];rfl
theorem nX (n e w:Nat)(he:e<14)(hw:w=1∨w=3∨w=5∨w=7)(h:dw n 2=bS w)(o:Option (List QfSy.Loc)):bh (n:Int) [aV e w] o=some (ab o++[⟨2,[aV e w]⟩]):=by
 unfold bh
 rw[(tE e w he hw).1,Bh,h,bJ rfl];rfl
theorem nY (n e w:Nat)(h:dw n 2≠bS w)(o:Option (List QfSy.Loc)):bh (n:Int) [aV e w] o=o:=by
 unfold bh
 rw[Bh,bI (fun g=>h g.symm),mt9];rfl
theorem Vo (n e w:Nat)(he:e<14)(hv:(vv 2 n).1=e)(hw:w=1∨w=3∨w=5∨w=7)(hs:dw n 2=bS w):dR 1 n=[⟨2,[aV e (tO w)]⟩,⟨2,[aV e (8-tO w)]⟩]:=by
 have h0:tm 1 n=eO (n:Int) [e9 e 1] none:=by
  unfold tm
  rw[hv]
  exact IJ e [] none e 0 101 om om
 unfold dR
 rw[h0,Vn _ e he]
 rcases hw with rfl|rfl|rfl|rfl
 ·rw[nX n e 1 he om hs,nY n e 3 (by rw[hs];decide),nY n e 5 (by rw[hs];decide),nX n e 7 he om hs];rfl
 ·rw[nY n e 1 (by rw[hs];decide),nX n e 3 he om hs,nX n e 5 he om hs,nY n e 7 (by rw[hs];decide)];rfl
 ·rw[nY n e 1 (by rw[hs];decide),nX n e 3 he om hs,nX n e 5 he om hs,nY n e 7 (by rw[hs];decide)];rfl
 ·rw[nX n e 1 he om hs,nY n e 3 (by rw[hs];decide),nY n e 5 (by rw[hs];decide),nX n e 7 he om hs];rfl
noncomputable def iR (n p:Nat):Con:=⟨((vv p n).1:Int),1,dw n p,false,0⟩
theorem IK (n p v:Nat)(s:Int)(hs:s=1∨s=-1)(o:Option (List QfSy.Loc)):fi (n:Int) (p:Int) [⟨(v:Int),1,s,false,0⟩] o=bif decide (s=dw n p)then some (ab o++[⟨(p:Int),[⟨(v:Int),1,s,false,0⟩]⟩])else o:=by
 unfold fi dD
 have h:ez [⟨(v:Int),1,s,false,0⟩] [(⟨(v:Int),1,s,false,0⟩:Con)].length=s:=by
  show IntKind.i64.wrap (1*s)=s
  rcases hs with rfl|rfl<;>rfl
 rw[h];rfl
theorem Vp (n p:Nat)(hv:(vv p n).1≤60)(hs:dw n p=1∨dw n p=-1):b7 1 n p=[⟨(p:Int),[iR n p]⟩]:=by
 have h0:tl 1 n p=jk (n:Int) (p:Int) [e9 (vv p n).1 1] none:=by
  unfold tl
  exact IJ (vv p n).1 [] none (vv p n).1 0 101 om om
 have h1:∀v:Nat,jk (n:Int) (p:Int) [e9 v 1] none=fi (n:Int) (p:Int) [⟨(v:Int),1,-1,false,0⟩] (fi (n:Int) (p:Int) [⟨(v:Int),1,1,false,0⟩] none):=fun v=>rfl
 unfold b7
 rw[h0,h1,IK n p _ 1 (.inl rfl),IK n p _ (-1) (.inr rfl)]
 unfold iR
 rcases hs with e|e<;>rw[e]<;>rfl
def nM:Nat→List QfSy.Loc→List QfSy.Loc→List QfSy.Loc
 |_,[],C=>C
 |i,o::os,C=>nM (i+1) os (C.set i o)
theorem Eu:∀(os A B:List QfSy.Loc),B.length=os.length→nM A.length os (A++B)=A++os
 |[],A,B,h=>by
  have:B=[]:=kP h
  subst this;rfl
 |o::os,A,b::B,h=>by
  show nM (A.length+1) os ((A++b::B).set A.length o)=_
  have e1:(A++b::B).set A.length o=(A++[o])++B:=by simp
  have e2:A.length+1=(A++[o]).length:=by simp
  rw[e1,e2,Eu os (A++[o]) B (by simpa using h)]
  simp
 |o::os,A,[],h=>by simp at h
theorem IT (n D:Int)(Ls:List (List QfSy.Loc)):∀(os:List QfSy.Loc)(i:Nat)(s:List QfSy.Loc×cB),(∀j,j<os.length→Ls.getD (i+j) []=[os.getD j QfSy.Loc.zero])→(aC s.2).length≤64→aK n D Ls os.length i s=(nM i os s.1,eu n D (nM i os s.1) s.2)
 |[],i,s,h,hl=>rfl
 |o::os,i,s,h,hl=>by
  have h0:=h 0 si
  rw[fv]at h0
  show(Ls.getD i []).foldl (gD n D Ls os.length i) s=_
  rw[h0]
  show gD n D Ls os.length i s o=_
  unfold gD
  rw[show Nat.blt 64 (aC s.2).length=false from ox.2 fun g=>by have:=aT g;omega]
  show aK n D Ls os.length (i+1) (s.1.set i o,s.2)=_
  rw[IT n D Ls os (i+1) (s.1.set i o,s.2) (fun j hj=>by
   have:=h (j+1) (by simp;omega)
   rw[show i+1+j=i+(j+1) by omega]
   exact this) hl]
  rfl
theorem XO (n D:Int)(c1 c2:QfSy.Loc)(os:List QfSy.Loc):(aK n D ([c1,c2]::os.map fun o=>[o]) (os.length+1) 0 (List.replicate (os.length+1) QfSy.Loc.zero,none)).2=eu n D (c2::os) (eu n D (c1::os) none):=by
 have hj:∀j,j<os.length→([c1,c2]::os.map fun o=>[o]).getD (1+j) []=[os.getD j QfSy.Loc.zero]:=by
  intro j hj
  rw[show 1+j=j+1 by omega]
  simp[hj]
 have hfl:∀(C:List QfSy.Loc)(o:cB),(aC (eu n D C o)).length≤(aC o).length+1:=by
  intro C o
  unfold eu
  cases decide (cP ⟨n,D,C⟩=0)with
  |true=>show(aC o++[_]).length≤_;simp
  |false=>exact Nat.le_succ _
 have st:∀(c:QfSy.Loc)(C:List QfSy.Loc)(o:cB),C.length=os.length+1→(aC o).length≤1→gD n D ([c1,c2]::os.map fun o=>[o]) os.length 0 (C,o) c=(c::os,eu n D (c::os) o):=by
  intro c C o hC ho
  unfold gD
  rw[show Nat.blt 64 (aC o).length=false from ox.2 fun g=>by have:=aT g;omega]
  show aK n D _ os.length (0+1) (C.set 0 c,o)=_
  rw[IT n D _ os (0+1) _ hj (by show(aC o).length≤64;omega)]
  obtain⟨z,B,rfl⟩:∃z B,C=z::B:=by
   cases C with
   |nil=>simp at hC
   |cons z B=>exact⟨z,B,rfl⟩
  have:=Eu os [c] B (by simpa using hC)
  show(nM 1 os (c::B),eu n D (nM 1 os (c::B)) o)=_
  rw[show nM 1 os (c::B)=c::os from this]
 show(gD n D _ os.length 0 (gD n D _ os.length 0 (List.replicate (os.length+1) QfSy.Loc.zero,none) c1) c2).2=_
 rw[st c1 _ _ si (by show 0≤1;omega),st c2 _ _ si (by
  have:=hfl (c1::os) none
  show(aC (eu n D (c1::os) none)).length≤1
  exact this)]
noncomputable def ik (n:Nat)(Q:List aN):List QfSy.Loc:=(Q.drop 1).map fun q=>⟨q.prime,[iR n q.prime.toNat]⟩
noncomputable def eb (n e w:Nat)(Q:List aN):aG:=⟨1,(n:Int),⟨2,[aV e w]⟩::ik n Q⟩
structure uq (n:Nat)(q:aN):Prop where
 pr:2<q.prime.toNat∧q.prime.toNat≤9973
 odd:q.prime.toNat%2=1
 pos:0≤q.prime
 ld:ld q.prime.toNat=q.prime.toNat
 e:(vv q.prime.toNat n).1≤60
 s:dw n q.prime.toNat=1∨dw n q.prime.toNat=-1
structure mz (n e w:Nat)(Q:List aN):Prop where
 n1:0<n∧n≤10000
 fc:ba (2*n)=Q
 l:1≤Q.length∧Q.length≤5
 q2:(Q.getD 0 aN.zero).prime=2
 he:e<14
 hv:(vv 2 n).1=e
 hw:w=1∨w=3∨w=5∨w=7
 hs:dw n 2=bS w
 od:∀q∈Q.drop 1,uq n q
 fm:fe (eb n e w Q) (Q.length-1)%8=lm [aV e w]
theorem Ae (n:Nat)(Q:List aN):(ik n Q).length=Q.length-1:=by simp[ik]
theorem IU (c:Con):ly [c]=c.dim:=by
 show 0+c.dim=c.dim
 omega
theorem IV (c:Con)(h:c.dim=1):lA [c]=c.exp:=by
 show 0+c.dim*c.exp=c.exp
 rw[h];omega
theorem Wl {n e w:Nat}{Q:List aN}(H:mz n e w Q)(w':Nat)(hw':w'=1∨w'=3∨w'=5∨w'=7)(q:aN)(hq:q.prime=2):ix 1 (n:Int) q ⟨2,[aV e w']⟩=true:=by
 unfold ix fK
 have h:=(tE e w' H.he hw').2.1
 have h2:(vv (2:Int).toNat (n:Int).toNat).1=e:=by rw[cg];exact H.hv
 simp only[hq,IU,IV _ (show(aV e w').dim=1 from rfl),h2,bJ rfl,h,aU,oC]
 simp[aV]
theorem XP {n:Nat}{q:aN}(h:uq n q):ix 1 (n:Int) q ⟨q.prime,[iR n q.prime.toNat]⟩=true:=by
 unfold ix fK
 have hp:=h.pr
 have h0:=h.pos
 have hv:dE q.prime [iR n q.prime.toNat]=true:=by
  unfold dE
  have h1:decide (2<q.prime∧q.prime≤9973)=true:=bJ om
  have h2:Nat.beq (ld q.prime.toNat) q.prime.toNat=true:=by rw[h.ld];exact mu _
  have h3:kM [iR n q.prime.toNat] 0 (-1)=true:=by
   have he:=h.e
   show(ry (iR n q.prime.toNat) 0 (-1)&&true)=true
   rw[Bool.and_true]
   unfold ry iR
   exact bJ ⟨by show(-1:Int)<((vv q.prime.toNat n).1:Int);omega,by show((vv q.prime.toNat n).1:Int)≤60;omega,by show(1:Int)≤1;decide,by show(1:Int)≤8-0;decide,h.s,rfl,rfl⟩
  rw[h1,h2,h3];rfl
 have hd:decide (q.prime=2)=false:=bI om
 rw[hv,hd,IU,IV _ rfl,cg]
 show(decide (q.prime=q.prime)&&(true&&(decide ((1:Int)=1)&&decide (((vv q.prime.toNat n).1:Int)=((vv q.prime.toNat n).1:Int)))))=true
 simp
theorem HZ {n:Nat}:∀{Qs:List aN},(∀q∈Qs,uq n q)→gm 1 (n:Int) Qs (Qs.map fun q=>⟨q.prime,[iR n q.prime.toNat]⟩)=true
 |[],_=>rfl
 |q::Qs,h=>by
  show(ix 1 (n:Int) q _&&gm 1 (n:Int) Qs _)=true
  rw[XP (h q eB),HZ fun q' hq=>h q' (fk _ hq)];rfl
theorem H3 {n:Nat}:∀{Qs:List aN},(∀q∈Qs,uq n q)→gn (n:Int) (Qs.map fun q=>⟨q.prime,[iR n q.prime.toNat]⟩)=true
 |[],_=>rfl
 |q::Qs,h=>by
  have hk:dD (n:Int) q.prime [iR n q.prime.toNat]=true:=by
   unfold dD
   have hs:=(h q eB).s
   have h1:ez [iR n q.prime.toNat] [iR n q.prime.toNat].length=dw n q.prime.toNat:=by
    show IntKind.i64.wrap (1*dw n q.prime.toNat)=dw n q.prime.toNat
    rcases hs with e|e<;>rw[e]<;>rfl
   rw[h1,cg]
   exact bJ rfl
  show(dD (n:Int) q.prime _&&gn (n:Int) _)=true
  rw[hk,H3 fun q' hq=>h q' (fk _ hq)];rfl
theorem Wm {n e w:Nat}{Q:List aN}(H:mz n e w Q):cP (eb n e w Q)=0:=by
 obtain⟨q0,Qs,hQ⟩:∃q0 Qs,Q=q0::Qs:=by
  cases Q with
  |nil=>have:=H.l;simp at this
  |cons a b=>exact⟨a,b,rfl⟩
 have hn:=H.n1
 obtain⟨t1,t2,t3,t4,t5⟩:=tE e w H.he H.hw
 have hlen:(eb n e w Q).locs.length=Q.length:=by
  have:=Ae n Q
  have:=H.l
  show(ik n Q).length+1=Q.length
  omega
 have hsh:cr (eb n e w Q)=true:=by
  unfold cr
  have e1:(2*(eb n e w Q).det).toNat=2*n:=by show(2*(n:Int)).toNat=_;omega
  have e2:gm (eb n e w Q).dim (eb n e w Q).det Q (eb n e w Q).locs=true:=by
   have h2:=H.q2
   subst hQ
   have ho:∀q∈Qs,uq n q:=H.od
   show(ix 1 (n:Int) q0 ⟨2,[aV e w]⟩&&gm 1 (n:Int) Qs (Qs.map _))=true
   rw[Wl H w H.hw q0 h2,HZ ho];rfl
  rw[e1,H.fc,e2,hlen,bJ rfl,bJ (show(1:Int)≤(eb n e w Q).dim by show(1:Int)≤1;decide),bJ (show(eb n e w Q).dim≤8 by show(1:Int)≤8;decide),bJ (show 1≤(eb n e w Q).det by show(1:Int)≤n;omega),bJ (show(eb n e w Q).det≤10000 by show(n:Int)≤10000;omega)]
  rfl
 have hck:gn (eb n e w Q).det (eb n e w Q).locs=true:=by
  show(dD (n:Int) 2 [aV e w]&&gn (n:Int) (ik n Q))=true
  rw[Bh,bJ H.hs.symm,ik,H3 H.od];rfl
 unfold cP
 rw[hsh,hck]
 show(bif !gr 2 [aV e w]then(24:Int)else bif decide (fe (eb n e w Q) ((eb n e w Q).locs.length-1)%8=bO (en 2 [aV e w]) [aV e w])then 0 else 25)=0
 rw[t3,t4,hlen,H.fm]
 show(bif decide (lm [aV e w]=lm [aV e w])then(0:Int)else 25)=0
 rw[bJ rfl];rfl
theorem Wn {n e w:Nat}{Q:List aN}(H:mz n e w Q):cP (eb n e (8-w) Q)≠0:=by
 have hw':8-w=1∨8-w=3∨8-w=5∨8-w=7:=by have:=H.hw;omega
 obtain⟨t1,t2,t3,t4,t5⟩:=tE e w H.he H.hw
 obtain⟨u1,u2,u3,u4,u5⟩:=tE e (8-w) H.he hw'
 have hlen:(eb n e (8-w) Q).locs.length=Q.length:=by
  have:=Ae n Q
  have:=H.l
  show(ik n Q).length+1=Q.length
  omega
 have hS:fe (eb n e (8-w) Q) (Q.length-1)=fe (eb n e w Q) (Q.length-1):=rfl
 intro h
 unfold cP at h
 cases h1:cr (eb n e (8-w) Q)with
 |false=>rw[h1]at h;exact absurd (show(22:Int)=0 from h) de
 |true=>
  rw[h1]at h
  cases h2:gn (eb n e (8-w) Q).det (eb n e (8-w) Q).locs with
  |false=>rw[h2]at h;exact absurd (show(23:Int)=0 from h) de
  |true=>
   rw[h2]at h
   replace h:(bif !gr 2 [aV e (8-w)]then(24:Int)else bif decide (fe (eb n e (8-w) Q) ((eb n e (8-w) Q).locs.length-1)%8=bO (en 2 [aV e (8-w)]) [aV e (8-w)])then 0 else 25)=0:=h
   rw[u3,u4,hlen,hS,H.fm]at h
   replace h:(bif decide (lm [aV e w]=lm [aV e (8-w)])then(0:Int)else 25)=0:=h
   rw[t5]at h
   exact absurd (show(25:Int)=0 from h) de
theorem X3 {w:Nat}(hw:w=1∨w=3∨w=5∨w=7):(w=tO w∧8-w=8-tO w)∨(w=8-tO w∧8-w=tO w):=by
 rcases hw with rfl|rfl|rfl|rfl<;>decide
theorem Ic {n e w:Nat}{Q:List aN}(H:mz n e w Q):bE 1 n Q=[⟨2,[aV e (tO w)]⟩,⟨2,[aV e (8-tO w)]⟩]::(ik n Q).map fun o=>[o]:=by
 unfold bE
 rw[Vo n e w H.he H.hv H.hw H.hs]
 congr 1
 unfold ik
 rw[List.map_map]
 refine List.map_congr_left fun q hq=>?_
 have ho:=H.od q hq
 show b7 1 n q.prime.toNat=[⟨q.prime,[iR n q.prime.toNat]⟩]
 rw[Vp n _ ho.e ho.s,ov ho.pos]
theorem AX {n e w:Nat}{Q:List aN}(H:mz n e w Q):tP 1 n (bE 1 n Q)=some [eb n e w Q]:=by
 rw[Ic H]
 have hL:([⟨2,[aV e (tO w)]⟩,⟨2,[aV e (8-tO w)]⟩]::(ik n Q).map fun o=>[o]:List (List QfSy.Loc)).length=(ik n Q).length+1:=by simp
 have h2:=XO (1:Int) (n:Int) ⟨2,[aV e (tO w)]⟩ ⟨2,[aV e (8-tO w)]⟩ (ik n Q)
 have hy:=Wm H
 have hn:=Wn H
 have fy:∀o,eu 1 (n:Int) (⟨2,[aV e w]⟩::ik n Q) o=some (aC o++[eb n e w Q]):=by
  intro o
  unfold eu
  rw[show decide (cP ⟨1,(n:Int),⟨2,[aV e w]⟩::ik n Q⟩=0)=true from bJ hy];rfl
 have fn:∀o,eu 1 (n:Int) (⟨2,[aV e (8-w)]⟩::ik n Q) o=o:=by
  intro o
  unfold eu
  rw[show decide (cP ⟨1,(n:Int),⟨2,[aV e (8-w)]⟩::ik n Q⟩=0)=false from bI hn];rfl
 unfold tP
 rw[hL,show((1:Nat):Int)=1 from rfl,h2]
 rcases X3 H.hw with⟨a,b⟩|⟨a,b⟩
 ·rw[←b,←a,fy none,fn];rfl
 ·rw[←a,←b,fn none,fy];rfl
theorem Id {n e w:Nat}{Q:List aN}(H:mz n e w Q):bG (eb n e w Q):=by
 have:=Ae n Q
 have:=H.l
 refine⟨by show(ik n Q).length+1≤1000;omega,fun l hl=>?_⟩
 rcases bC.1 hl with rfl|hl
 ·show 1≤1000;omega
 ·obtain⟨q,_,rfl⟩:=gv.1 hl
  show 1≤1000;omega
theorem Tn {n e w:Nat}{Q:List aN}(H:mz n e w Q):me 1 n Q:=by
 have hx:bM 1 n Q=[eb n e w Q]:=by unfold bM;rw[AX H];rfl
 refine⟨om,H.n1,H.fc,fun q hq=>?_,fun l hl=>?_,by rw[AX H];rfl,fun g hg=>?_,by rw[hx];show 1≤1000;omega,.inr ⟨by rw[hx];simp,by rw[hx];rfl⟩⟩
 ·have ho:=H.od q hq
  have:=ho.pr
  exact⟨om,om,by have:=ho.odd;omega⟩
 ·rw[Ic H]at hl
  rcases bC.1 hl with rfl|hl
  ·refine⟨fun x hx=>?_,by show 2≤50000;omega⟩
   simp only[bC,cU,cY]at hx
   rcases hx with rfl|rfl<;>exact⟨by show 0<1;omega,by show 1≤1000;omega⟩
  ·obtain⟨o,ho,rfl⟩:=gv.1 hl
   obtain⟨q,_,rfl⟩:=gv.1 ho
   refine⟨fun x hx=>?_,by show 1≤50000;omega⟩
   rw[fJ.1 hx]
   exact⟨by show 0<1;omega,by show 1≤1000;omega⟩
 ·rw[hx]at hg
  rw[fJ.1 hg]
  exact Id H
theorem To {n e w:Nat}{Q:List aN}(H:mz n e w Q):ax Tryz.prog [aL] 4 [.int .i64 1,.int .i64 (n:Int)] (.tup [dU .gen [eb n e w Q],.int .i64 0]):=by
 have hG:=Tn H
 have hl:=H.l
 have hx:bM 1 n Q=[eb n e w Q]:=by unfold bM;rw[AX H];rfl
 have key:ax Tryz.prog [aL] 4 [.int .i64 ((1:Nat):Int),.int .i64 (n:Int)] (.tup [dU .gen (fb (bM 1 n Q)),.int .i64 (gc (bM 1 n Q))]):=by
  clear H hx
  match Q,hG,hl with
  |[],_,hp=>simp at hp
  |[q0],hG,_=>exact Iw 1 n q0 hG
  |[q0,q1],hG,_=>exact Ix 1 n q0 q1 hG
  |[q0,q1,q2],hG,_=>exact Iy 1 n q0 q1 q2 hG
  |[q0,q1,q2,q3],hG,_=>exact Iz 1 n q0 q1 q2 q3 hG
  |[q0,q1,q2,q3,q4],hG,_=>exact IA 1 n q0 q1 q2 q3 q4 hG
  |_::_::_::_::_::_::_,_,hl=>exact absurd hl.2 (by simp only[dg];omega)
 rw[hx]at key
 exact key
def wQ (n p e:Nat):Nat:=n%p^(e+1)/p^e
def Cf (n p e u w:Nat):Bool:=!Nat.beq p 2&&(Nat.beq (p%2) 1&&(Nat.ble 2 p&&(Nat.ble p 9973&&(Nat.beq (ld p) p&&(Nat.beq n (p^e*u)&&(!Nat.beq (u%p) 0&&(Nat.ble e 60&&(Nat.beq (n%p^(e+1)) (p^e*w)&&(!Nat.beq (w%p) 0&&(Nat.ble (p^(e+1)) 1000000000&&(Nat.ble w 1000000000&&(Nat.beq (Nat.gcd (p^(e+1)) (w%p^(e+1))) 1&&Nat.beq (w%p) (u%p)))))))))))))
theorem Tp {n p e u w:Nat}(hn:n≤10000)(h:Cf n p e u w=true):uv n p u e w∧w%p=u%p:=by
 unfold Cf at h
 simp only[bj,mp]at h
 obtain⟨h1,h2,h3,h4,h5,h6,h7,h8,h9,h10,h11,h12,h13,h14⟩:=h
 have h2:=co h2
 have h3:=aT h3
 have h4:=aT h4
 have h5:=co h5
 have h6:=co h6
 have h8:=aT h8
 have h9:=co h9
 have h11:=aT h11
 have h12:=aT h12
 have h13:=co h13
 exact⟨⟨jn h1,h2,⟨h3,h4⟩,h5,⟨h6,h3,jn h7,hn⟩,h8,⟨h9,h3,jn h10,cl (Nat.mod_le _ _) hn⟩,h11,h12,h13⟩,co h14⟩
def rK (n:Nat)(Q:List aN):Bool:=Nat.ble 1 Q.length&&(Nat.ble Q.length 5&&(decide ((Q.getD 0 aN.zero).prime=2)&&(Bv n (vv 2 n).1 (vv 2 n).2&&(decide (dw n 2=bS ((vv 2 n).2%8))&&
 ((Q.drop 1).all (fun q=>Cf n q.prime.toNat (vv q.prime.toNat n).1 (vv q.prime.toNat n).2 (wQ n q.prime.toNat (vv q.prime.toNat n).1)&&(decide (0≤q.prime)&&(decide (dw n q.prime.toNat=1)||decide (dw n q.prime.toNat=-1))))&&
 decide (fe (eb n (vv 2 n).1 ((vv 2 n).2%8) Q) (Q.length-1)%8=lm [aV (vv 2 n).1 ((vv 2 n).2%8)]))))))
def fT (a:Nat):Nat→Bool
 |0=>true
 |m+1=>rK a (ba (2*a))&&fT (a+1) m
theorem gl:∀{m a d:Nat},fT a m=true→a≤d→d<a+m→rK d (ba (2*d))=true
 |0,a,d,h,h1,h2=>by omega
 |m+1,a,d,h,h1,h2=>by
  unfold fT at h
  simp only[bj]at h
  rcases Nat.eq_or_lt_of_le h1 with e|h3
  ·rw[←e];exact h.1
  ·exact gl h.2 h3 om
theorem WQ {n:Nat}{Q:List aN}(hn:0<n∧n≤10000)(hQ:ba (2*n)=Q)(h:rK n Q=true):mz n (vv 2 n).1 ((vv 2 n).2%8) Q∧gi n (2^(vv 2 n).1*((vv 2 n).2%8)) (vv 2 n).2 (vv 2 n).1 ((vv 2 n).2%8)∧∀q∈Q.drop 1,uv n q.prime.toNat (vv q.prime.toNat n).2 (vv q.prime.toNat n).1 (wQ n q.prime.toNat (vv q.prime.toNat n).1)∧wQ n q.prime.toNat (vv q.prime.toNat n).1%q.prime.toNat=(vv q.prime.toNat n).2%q.prime.toNat:=by
 unfold rK at h
 simp only[bj,ib]at h
 obtain⟨h1,h2,h3,h4,h5,h6,h7⟩:=h
 have hT:=R4 hn.2 h4
 have hq:∀q∈Q.drop 1,(uv n q.prime.toNat (vv q.prime.toNat n).2 (vv q.prime.toNat n).1 (wQ n q.prime.toNat (vv q.prime.toNat n).1)∧wQ n q.prime.toNat (vv q.prime.toNat n).1%q.prime.toNat=(vv q.prime.toNat n).2%q.prime.toNat)∧0≤q.prime∧(dw n q.prime.toNat=1∨dw n q.prime.toNat=-1):=by
  intro q hq
  have:=cK.1 h6 q hq
  simp only[bj,nj,ib]at this
  exact⟨Tp hn.2 this.1,this.2⟩
 refine⟨⟨hn,hQ,⟨aT h1,aT h2⟩,h3,hT.he,rfl,hT.hw,h5,fun q hq'=>?_,h7⟩,hT,fun q hq'=>(hq q hq').1⟩
 obtain⟨⟨a1,a2⟩,a3,a4⟩:=hq q hq'
 have b1:=a1.h2
 have b2:=a1.hp
 exact⟨⟨om,om⟩,a1.odd,a3,a1.hl,a1.he,a4⟩
def oM (n:Nat)(p:Int):List Con:=bif decide (p=2)then [aV (vv 2 n).1 ((vv 2 n).2%8)]else [iR n p.toNat]
theorem WR {n p w:Nat}(h2:p≠2)(h:w%p=(vv p n).2%p):gH (w%p) p=dw n p:=by
 unfold dw gH
 rw[show Nat.beq p 2=false from ox.2 fun g=>h2 (co g),Nat.mod_mod,h];rfl
theorem Ru {β:Type}(f:aN→β)(z:aN):∀Q:List aN,(List.range Q.length).map (fun k=>f (Q.getD k z))=Q.map f:=by
 intro Q
 apply rG
 ·simp
 ·intro i h1 h2
  simp only[jG,List.length_range]at h1
  simp[ev,h1]
theorem WS {n:Nat}{Q:List aN}(H:mz n (vv 2 n).1 ((vv 2 n).2%8) Q):md (oM n) Q=⟨2,[aV (vv 2 n).1 ((vv 2 n).2%8)]⟩::ik n Q:=by
 have e1:md (oM n) Q=Q.map fun q=>(⟨q.prime,oM n q.prime⟩:QfSy.Loc):=by
  unfold md kd
  rw[List.map_map,←Ru (fun q=>(⟨q.prime,oM n q.prime⟩:QfSy.Loc)) aN.zero Q]
  rfl
 rw[e1]
 obtain⟨q0,Qs,rfl⟩:∃q0 Qs,Q=q0::Qs:=by
  cases Q with
  |nil=>have:=H.l;simp at this
  |cons a b=>exact⟨a,b,rfl⟩
 have hq0:q0.prime=2:=H.q2
 rw[jH,hq0]
 congr 1
 refine List.map_congr_left fun q hq=>?_
 have h:=(H.od q hq).pr
 unfold oM
 rw[show decide (q.prime=2)=false from bI om];rfl
theorem Rv {n:Nat}(hn:0<n∧n≤10000)(h:rK n (ba (2*n))=true)(ha:ax Tryz.prog [aL] 7 [] (.bool true)):xa n (eb n (vv 2 n).1 ((vv 2 n).2%8) (ba (2*n))):=by
 obtain⟨H,hT,hO⟩:=WQ hn rfl h
 refine⟨To H,?_,Id H,ha⟩
 have hq:∀k x,(kd (ba (2*n)))[k]? =some x→(k=0∧x.1=2)∨(0<k∧x.1≠2∧x.1∈((ba (2*n)).drop 1).map fun q=>q.prime):=by
  intro k x hx
  have hk:k<(ba (2*n)).length:=by
   rcases bA k (ba (2*n)).length with h|h
   ·exact h
   ·rw[jD (by rw[vj];exact h)]at hx;cases hx
  rw[Fk hk]at hx
  cases hx
  cases k with
  |zero=>exact .inl ⟨rfl,H.q2⟩
  |succ k=>
   have hm:(ba (2*n)).getD (k+1) aN.zero∈(ba (2*n)).drop 1:=by
    rw[ev,gS hk,List.mem_iff_getElem]
    exact⟨k,by rw[rF];omega,by rw[List.getElem_drop];simp[Nat.add_comm]⟩
   have h9:=(H.od _ hm).pr
   exact .inr ⟨Nat.succ_pos _,by show((ba (2*n)).getD (k+1) aN.zero).prime≠2;omega,gv.2 ⟨_,hm,rfl⟩⟩
 have hof:=Ok n (oM n) (((ba (2*n)).drop 1).map fun q=>q.prime) hn hq ⟨by have:=H.l;omega,by have:=H.l;omega⟩ (ax.res (O1 n _ _ _ _ hT) fun F V hV=>?_) fun p hp=>?_
 ·rw[WS H]at hof
  exact hof
 ·cases hV with|tup k1=>
  cases k1 with|cons k2 k3=>
  cases k2 with|agg k4=>
  cases k4 with|cons k5 k6=>
  cases k6 with|cons k7 k8=>
  cases k8
  exact .tup (.cons (.agg (.cons k5 (.cons (EF _ _ k7) .nil))) k3)
 ·obtain⟨q,hq1,rfl⟩:=gv.1 hp
  obtain⟨hQ,hw⟩:=hO q hq1
  have h0:=(H.od q hq1).pos
  have hS:=O5 n q.prime.toNat _ _ _ hQ
  rw[ov h0,WR hQ.h2 hw]at hS
  refine ax.res hS fun F V hV=>?_
  cases hV with|tup k1=>
  cases k1 with|cons k2 k3=>
  cases k2 with|agg k4=>
  cases k4 with|cons k5 k6=>
  cases k6 with|cons k7 k8=>
  cases k8
  refine .tup (.cons (.agg (.cons k5 (.cons ?_ .nil))) k3)
  have h2:q.prime≠2:=by have:=hQ.h2;omega
  rw[show oM n q.prime=[iR n q.prime.toNat] by unfold oM;rw[show decide (q.prime=2)=false from bI h2];rfl]
  exact k7.rows (fun i hi=>by rw[show i=0 by omega];rfl)
end Go.Proofs.YtdbdoalefmliiaaGreatDoor.S
end
