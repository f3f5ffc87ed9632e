/- A part of the proof of ExistenceGenera: KV, GF, ZF1, ZF2, ZF3, ZF4, ZQ3, ZF5, IP, GV, GW, MS, MT, MU, GY, LY, MV, LE. -/
import Derived.Test.YtmeljalphfcieaaGreatDoorPkG6
import Derived.Test.YtmeljalphfcieaaGreatDoorPkG3
import Derived.Test.YtmeljalphfcieaaGreatDoorPkG7
import Derived.Test.YtmeljalphfcieaaGreatDoorPkG8
import Derived.Test.YtmeljalphfcieaaGreatDoorPkG2
import Derived.CallsIn
import Derived.RangeFuncCalls
import Derived.RangeFuncLeaves
import Derived.RangeFuncNested
import Derived.RangeFuncKeeps
import Derived.WalkKit
import Derived.OwnWalkIn
import Derived.TacticsInMore
import Derived.LoopNIn
import Derived.LoopIn
import Derived.Test.YtmeljalphfcieaaGreatDoorPkG4
import Derived.Shelf.Abstract
set_option linter.unusedSimpArgs false
set_option linter.unusedVariables false
set_option maxRecDepth 100000
open Go.IntKind renaming i64 → w6
open Go.QfSy.Con renaming zero → z0c
open Go.QfSy.Loc renaming zero → z0l
noncomputable section
namespace Go.Proofs.YtmeljalphfcieaaGreatDoor.S
open Go.QfSy Go.RowKit
def cB (n d:Nat)(Q:List bB):List LL:=gc n d::(Q.drop 1).map fun q=>gU n d q.prime.toNat
def BO (n d:Nat)(Ls:List LL):cK:=(aK (n:Int) (d:Int) Ls Ls.length 0 (List.replicate Ls.length z0l,none)).2
def cn (n d:Nat)(Q:List bB):List af:=aH (BO n d (cB n d Q))
def ik (X:List af):List af:=bif Nat.blt 64 X.length then []else eH X
def jf (X:List af):Int:=bif Nat.blt 64 X.length then 7 else 0
structure pn (n d:Nat)(Q:List bB):Prop where
 n1:1≤n∧n≤4
 d1:0<d∧d≤48
 fc:bz (2*d)=Q
 ps:∀l∈cB n d Q,lE l∧l.length≤50000
 ne:(BO n d (cB n d Q)).isNone=false
 bd:∀g∈cn n d Q,bG g
 le:(cn n d Q).length≤1000
 ss:64<(cn n d Q).length∨(cn n d Q≠[]∧js (eH (cn n d Q))=true)
def Hr (n d:Nat)(Q:List bB):List bV:=[
 ⟨9,[],fun A=>match A with
  |[.int .i64 a,.int .i64 b]=>some (dR (gc n d),[a=(n:Int)∧b=(d:Int)])
  |_=>none⟩,
 ⟨10,[ci],fun A=>match A with
  |[.int .i64 a]=>some (.tup [aI .pow Q,.int .i64 0],[a=2*(d:Int)])
  |_=>none⟩,
 ⟨11,[],fun A=>match A with
  |[.int .i64 a,.int .i64 b,.int .i64 p]=>some (dR (gU n d p.toNat),[a=(n:Int)∧b=(d:Int)∧p∈(Q.drop 1).map bB.prime])
  |_=>none⟩]
theorem yr {n d:Nat}{Q:List bB}(h:pn n d Q):∀e∈Hr n d Q,ch Tryz.prog e:=by
 intro e he
 simp only[Hr,bx,cC,cH]at he
 rcases he with rfl|rfl|rfl
 all_goals
  intro A R ms hq hm
  simp only at hq
  split at hq
  all_goals first|(cases hq;done)|cases hq
 ·obtain⟨rfl,rfl⟩:=ay hm
  exact QO n d ⟨h.n1.1,by have:=h.n1;omega⟩ ⟨h.d1.1,by have:=h.d1;omega⟩ (h.ps _ cZ).2
 ·have h1:=ay hm
  subst h1
  have:=Fo (2*d) (by have:=h.d1;omega) (by have:=h.d1;omega)
  rw[h.fc]at this
  rw[show((2*d:Nat):Int)=2*(d:Int) by omega]at this
  exact this
 ·obtain⟨rfl,rfl,h3⟩:=ay hm
  obtain⟨q,hq,rfl⟩:=j0.1 h3
  exact QN n d q h.n1 h.d1 (by rw[h.fc];exact hq)
def J6 (n d:Nat)(Ls:List LL):Nat→List AV→Hs→Option (cg×List Prop):=fun f args H=>
 bif Nat.beq f 12 then some (gA (n:Int) (d:Int) Ls Ls.length 0 (List.replicate Ls.length z0l) none,[cw Ls Ls.length 0 (List.replicate Ls.length z0l) none])else
 bif Nat.beq f 14 then(match args with
  |[.lo b _,_]=>match H.m.get b with
   |some k=>match k.view with
    |.vals .gen X=>some (xI X,[X≠[]∧X.length≤1000∧(∀g∈X,bG g)∧js (eH X)=true])
    |_=>none
   |none=>none
  |_=>none)else none
theorem zB {n d:Nat}{Ls:List LL}:∀f args H A ms,J6 n d Ls f args H=some (A,ms)→(∀q∈ms,q)→aJ Tryz.prog EV.ng A:=by
 intro f args H A ms hq hm
 unfold J6 at hq
 cases h1:Nat.beq f 12 with
 |true=>
  rw[h1,aM]at hq
  cases hq
  exact Aq _ _ _ _ _ _ _ (ay hm)
 |false=>
  rw[h1,bg]at hq
  replace hq:=(az hq).2
  split at hq
  ·split at hq
   ·split at hq
    ·cases hq
     obtain⟨a1,a2,a3,a4⟩:=ay hm
     exact Zb _ a1 a2 a3 a4
    ·cases hq
   ·cases hq
  ·cases hq
theorem AK {n d:Nat}{Q:List bB}(h:pn n d Q)(hQ:Q.length≤9):cw (cB n d Q) (cB n d Q).length 0 (List.replicate (cB n d Q).length z0l) none:=by
 have hl:(cB n d Q).length=(Q.drop 1).length+1:=by simp[cB]
 have h2:(Q.drop 1).length≤9:=by simp;omega
 refine⟨si,si,by simp[hl],by rw[rz];omega,fun j=>?_,fun j hj=>absurd hj om,by simp[aH]⟩
 rw[cj]
 rcases bA j (cB n d Q).length with hj|hj
 ·rw[eb hj];exact h.ps _ (fp hj)
 ·rw[gL hj];exact⟨fun l hl=>by simp at hl,aY _⟩
theorem AL {n d:Nat}{Q:List bB}(h:pn n d Q)(hl:¬64<(cn n d Q).length):cn n d Q≠[]∧(cn n d Q).length≤1000∧(∀g∈cn n d Q,bG g)∧js (eH (cn n d Q))=true:=by
 rcases h.ss with h1|h1
 ·exact absurd h1 hl
 ·exact⟨h1.1,h.le,h.bd,h1.2⟩
theorem AM {X:List af}(h:64<X.length):ik X=[]:=by unfold ik;rw[show Nat.blt 64 X.length=true from gK h];rfl
theorem IW {X:List af}(h:¬64<X.length):ik X=eH X:=by unfold ik;rw[show Nat.blt 64 X.length=false from Bool.eq_false_iff.2 fun e=>h (aU e)];rfl
theorem AN {X:List af}(h:64<X.length):jf X=7:=by unfold jf;rw[show Nat.blt 64 X.length=true from gK h];rfl
theorem vQ {X:List af}(h:¬64<X.length):jf X=0:=by unfold jf;rw[show Nat.blt 64 X.length=false from Bool.eq_false_iff.2 fun e=>h (aU e)];rfl
theorem qO {X:List af}{b:Bool}(h:decide (((X.length:Nat):Int)>64)=b):decide (64<X.length)=b:=by
 subst h
 by_cases e:64<X.length
 ·rw[bZ e];exact(bZ om).symm
 ·rw[bu e];exact(bu om).symm
def BP (Ls:List LL)(a b c:Nat):List (Nat×ai):=[(1003,dS [.lo a Ls.length] 34),(a,⟨.vals (.list .loc) Ls,30,1,true,true⟩),(b,fw (List.replicate Ls.length z0l)),(c,dS [.lo b Ls.length] 30)]
theorem abq (n d:Nat)(q0:bB)(hG:pn n d [q0]):ar Tryz.prog [ci] 5 [.int .i64 (n:Int),.int .i64 (d:Int)] (.tup [aI .gen (ik (cn n d [q0])),.int .i64 (jf (cn n d [q0]))]):=by
 have z1:decide ((n:Int)<1)=false:=bu ri
 have z2:decide ((n:Int)>8)=false:=bu ri
 have z3:decide ((d:Int)<1)=false:=bu rj
 have z4:decide ((d:Int)>10000)=false:=bu rj
 have y0:decide ((0:Int)<↑([q0].length-Int.toNat (1:Int)))=false:=rfl
 have y9:Option.isNone (aK (↑n:Int) (↑d:Int) (cB n d [q0]) (cB n d [q0]).length (0:Nat) (List.replicate (cB n d [q0]).length z0l,none)).snd=false:=hG.ne
 have hc:=AK hG si
 refine pr (cF (zu (g:=12) (l:=BP (cB n d [q0]) 1002 1005 1006) (cV (zB (n:=n) (d:=d) (Ls:=(cB n d [q0]))) (fq (yr hG))))) Tryz.func5 aC ?_
 refine(let u1:List Prop:=(let v1:=cB n d [q0];let v2:=List.replicate v1.length z0l;[cw v1 v1.length (0:Nat) v2 none,(0:Int)=↑(0:Nat),v1.length=v2.length,rq ([Loc.mk (0:Int) []]),rq (↑n:Int),rq (↑d:Int),rq (v1.length),rq ([gc n d]),aj (Option.isNone (aK (↑n:Int) (↑d:Int) v1 v1.length (0:Nat) (List.replicate v1.length z0l,none)).snd) false,(1:Nat)=v1.length,(gc n d).length=(gc n d).length∧(fun i=>((gc n d).getD i z0l).rvs)=fun i=>aa.rvs aa.loc ((gc n d).getD i aa.loc.zero),(0:Int)=z0l.prime,z0l.list.length=0,(1:Nat)=v1.length,aj (decide ((0:Int)<↑([q0].length-Int.toNat (1:Int)))) false,(0:Int)≤1∧(1:Int)≤(↑[q0].length:Int),w6.wrap ((2:Int)*↑d)=2*↑d,(↑n:Int)=↑n∧(↑d:Int)=↑d,aj (decide ((↑d:Int)>10000)) false,aj (decide ((↑d:Int)<1)) false,aj (decide ((↑n:Int)>8)) false,aj (decide ((↑n:Int)<1)) false]);have t1:ao u1:=⟨?_,?_,?_,?_,?_,?_,?_,?_,y9,?_,?_,?_,?_,?_,y0,?_,?_,?_,z4,z3,z2,z1⟩;oe (decide ((↑(aH (aK (↑n:Int) (↑d:Int) (cB n d [q0]) (cB n d [q0]).length (0:Nat) (List.replicate (cB n d [q0]).length z0l,none)).snd).length:Int)>64)) (fun d1=>lr (tp 2222221) (((ik (cn n d [q0])).length=0)::((7:Int)=jf (cn n d [q0]))::ty d1::u1) ⟨?_,?_,d1,t1⟩)
  (fun d1=>lr (tp 2222222) (let v1:=(aK (↑n:Int) (↑d:Int) (cB n d [q0]) (cB n d [q0]).length (0:Nat) (List.replicate (cB n d [q0]).length z0l,none));let v2:=aH v1.snd;(v2.length=(ik (cn n d [q0])).length∧v2.length=(eH v2).length∧∀(i:Nat),i<v2.length→(fun i=>aa.gen.rvs ((ik (cn n d [q0])).getD i aa.gen.zero)) i=aa.gen.rvs ((eH v2).getD i aa.gen.zero))::((0:Int)=jf (cn n d [q0]))::(aH v1.snd≠[]∧v2.length≤1000∧(∀(g:aa.gen.car),g∈aH v1.snd→bG g)∧js (eH v2)=true)::rq (v2.length)::rq v2::ty d1::u1) ⟨?_,?_,?_,?_,?_,d1,t1⟩))
 all_goals first|(first|exact tz|exact hc|rfl|(have:=hG.d1;exact wo)|exact⟨oT rfl,oT rfl⟩|exact⟨rfl,rfl,j0.2 ⟨q0,si,rfl⟩⟩|exact⟨rfl,rfl,j0.2 ⟨q0,si,rfl⟩⟩|(have h6:64<(cn n d [q0]).length:=oT (qO (X:=cn n d [q0]) d1);first|(rw[AM h6];rfl)|exact(AN h6).symm)|(have h6:¬64<(cn n d [q0]).length:=oF (qO (X:=cn n d [q0]) d1);first|exact(vQ h6).symm|exact AL hG h6|exact Cb))
theorem abr (n d:Nat)(q0 q1:bB)(hG:pn n d [q0,q1]):ar Tryz.prog [ci] 5 [.int .i64 (n:Int),.int .i64 (d:Int)] (.tup [aI .gen (ik (cn n d [q0,q1])),.int .i64 (jf (cn n d [q0,q1]))]):=by
 have z1:decide ((n:Int)<1)=false:=bu ri
 have z2:decide ((n:Int)>8)=false:=bu ri
 have z3:decide ((d:Int)<1)=false:=bu rj
 have z4:decide ((d:Int)>10000)=false:=bu rj
 have y0:decide ((0:Int)<↑([q0,q1].length-Int.toNat (1:Int)))=true:=rfl
 have y1:decide (w6.wrap ((0:Int)+1)<↑([q0,q1].length-Int.toNat (1:Int)))=false:=rfl
 have y9:Option.isNone (aK (↑n:Int) (↑d:Int) (cB n d [q0,q1]) (cB n d [q0,q1]).length (0:Nat) (List.replicate (cB n d [q0,q1]).length z0l,none)).snd=false:=hG.ne
 have hc:=AK hG si
 refine pr (cF (zu (g:=12) (l:=BP (cB n d [q0,q1]) 1014 1016 1017) (cV (zB (n:=n) (d:=d) (Ls:=(cB n d [q0,q1]))) (fq (yr hG))))) Tryz.func5 aC ?_
 refine(let u1:List Prop:=(let v1:=(cB n d [q0,q1]);let v2:=([q0,q1].getD (Int.toNat (0:Int)+Int.toNat (1:Int)) aa.pow.zero);let v3:=(↑([q0,q1].length-Int.toNat (1:Int)):Int);let v4:=List.replicate v1.length z0l;[cw v1 v1.length (0:Nat) v4 none,(0:Int)=↑(0:Nat),v1.length=v4.length,rq ([Loc.mk (0:Int) [],Loc.mk (0:Int) []]),rq (↑n:Int),rq (↑d:Int),rq (v1.length),rq ([gc n d,gU n d q1.prime.toNat]),aj (Option.isNone (aK (↑n:Int) (↑d:Int) v1 v1.length (0:Nat) (List.replicate v1.length z0l,none)).snd) false,(1:Nat)+1=v1.length,(gc n d).length=(gc n d).length∧(fun i=>((gc n d).getD i z0l).rvs)=fun i=>aa.rvs aa.loc ((gc n d).getD i aa.loc.zero),(gU n d v2.prime.toNat).length=((fun q=>gU n d q.prime.toNat) q1).length∧(fun i=>((gU n d v2.prime.toNat).getD i z0l).rvs)=fun i=>aa.rvs aa.loc (((fun q=>gU n d q.prime.toNat) q1).getD i aa.loc.zero),(0:Int)=z0l.prime,z0l.list.length=0,(0:Int)=z0l.prime,z0l.list.length=0,(1:Nat)+1=v1.length,aj (decide (w6.wrap ((0:Int)+1)<v3)) false,(↑n:Int)=↑n∧(↑d:Int)=↑d∧v2.prime∈List.map bB.prime (List.drop (1:Nat) [q0,q1]),(0:Int)≤0∧(0:Int)<v3,aj (decide ((0:Int)<v3)) true,(0:Int)≤1∧(1:Int)≤(↑[q0,q1].length:Int),w6.wrap ((2:Int)*↑d)=2*↑d,(↑n:Int)=↑n∧(↑d:Int)=↑d,aj (decide ((↑d:Int)>10000)) false,aj (decide ((↑d:Int)<1)) false,aj (decide ((↑n:Int)>8)) false,aj (decide ((↑n:Int)<1)) false]);have t1:ao u1:=⟨?_,?_,?_,?_,?_,?_,?_,?_,y9,?_,?_,?_,?_,?_,?_,?_,?_,y1,?_,?_,y0,?_,?_,?_,z4,z3,z2,z1⟩;oe (decide ((↑(aH (aK (↑n:Int) (↑d:Int) (cB n d [q0,q1]) (cB n d [q0,q1]).length (0:Nat) (List.replicate (cB n d [q0,q1]).length z0l,none)).snd).length:Int)>64)) (fun d1=>lr (tp 22221221) (((ik (cn n d [q0,q1])).length=0)::((7:Int)=jf (cn n d [q0,q1]))::ty d1::u1) ⟨?_,?_,d1,t1⟩)
  (fun d1=>lr (tp 22221222) (let v1:=(aK (↑n:Int) (↑d:Int) (cB n d [q0,q1]) (cB n d [q0,q1]).length (0:Nat) (List.replicate (cB n d [q0,q1]).length z0l,none));let v2:=aH v1.snd;let v3:=(cn n d [q0,q1]);(v2.length=(ik v3).length∧v2.length=(eH v2).length∧∀(i:Nat),i<v2.length→(fun i=>aa.gen.rvs ((ik v3).getD i aa.gen.zero)) i=aa.gen.rvs ((eH v2).getD i aa.gen.zero))::((0:Int)=jf v3)::(aH v1.snd≠[]∧v2.length≤1000∧(∀(g:aa.gen.car),g∈aH v1.snd→bG g)∧js (eH v2)=true)::rq (v2.length)::rq v2::ty d1::u1) ⟨?_,?_,?_,?_,?_,d1,t1⟩))
 all_goals first|(first|exact tz|exact hc|rfl|(have:=hG.d1;exact wo)|exact⟨oT rfl,oT rfl⟩|exact⟨rfl,rfl,j0.2 ⟨q1,si,rfl⟩⟩|exact⟨rfl,rfl,j0.2 ⟨q1,si,rfl⟩⟩|(have h6:64<(cn n d [q0,q1]).length:=oT (qO (X:=cn n d [q0,q1]) d1);first|(rw[AM h6];rfl)|exact(AN h6).symm)|(have h6:¬64<(cn n d [q0,q1]).length:=oF (qO (X:=cn n d [q0,q1]) d1);first|exact(vQ h6).symm|exact AL hG h6|exact Cb))
theorem abs (n d:Nat)(q0 q1 q2:bB)(hG:pn n d [q0,q1,q2]):ar Tryz.prog [ci] 5 [.int .i64 (n:Int),.int .i64 (d:Int)] (.tup [aI .gen (ik (cn n d [q0,q1,q2])),.int .i64 (jf (cn n d [q0,q1,q2]))]):=by
 have z1:decide ((n:Int)<1)=false:=bu ri
 have z2:decide ((n:Int)>8)=false:=bu ri
 have z3:decide ((d:Int)<1)=false:=bu rj
 have z4:decide ((d:Int)>10000)=false:=bu rj
 have y0:decide ((0:Int)<↑([q0,q1,q2].length-Int.toNat (1:Int)))=true:=rfl
 have y1:decide (w6.wrap ((0:Int)+1)<↑([q0,q1,q2].length-Int.toNat (1:Int)))=true:=rfl
 have y2:decide (w6.wrap (w6.wrap ((0:Int)+1)+1)<↑([q0,q1,q2].length-Int.toNat (1:Int)))=false:=rfl
 have y9:Option.isNone (aK (↑n:Int) (↑d:Int) (cB n d [q0,q1,q2]) (cB n d [q0,q1,q2]).length (0:Nat) (List.replicate (cB n d [q0,q1,q2]).length z0l,none)).snd=false:=hG.ne
 have hc:=AK hG si
 refine pr (cF (zu (g:=12) (l:=BP (cB n d [q0,q1,q2]) 1025 1027 1028) (cV (zB (n:=n) (d:=d) (Ls:=(cB n d [q0,q1,q2]))) (fq (yr hG))))) Tryz.func5 aC ?_
 refine(let u1:List Prop:=(let v1:=[q0,q1,q2];let v6:=(0:Int)+1;let v2:=v1.getD ((w6.wrap v6).toNat+Int.toNat (1:Int)) aa.pow.zero;let v3:=(↑(v1.length-Int.toNat (1:Int)):Int);let v4:=v1.getD (Int.toNat (0:Int)+Int.toNat (1:Int)) aa.pow.zero;let v5:=cB n d v1;let v7:=List.replicate v5.length z0l;[cw v5 v5.length (0:Nat) v7 none,(0:Int)=↑(0:Nat),v5.length=v7.length,rq ([Loc.mk (0:Int) [],Loc.mk (0:Int) [],Loc.mk (0:Int) []]),rq (↑n:Int),rq (↑d:Int),rq (v5.length),rq ([gc n d,gU n d q1.prime.toNat,gU n d q2.prime.toNat]),aj (Option.isNone (aK (↑n:Int) (↑d:Int) v5 v5.length (0:Nat) (List.replicate v5.length z0l,none)).snd) false,(1:Nat)+1+1=v5.length,(gc n d).length=(gc n d).length∧(fun i=>((gc n d).getD i z0l).rvs)=fun i=>aa.rvs aa.loc ((gc n d).getD i aa.loc.zero),(gU n d v4.prime.toNat).length=((fun q=>gU n d q.prime.toNat) q1).length∧(fun i=>((gU n d v4.prime.toNat).getD i z0l).rvs)=fun i=>aa.rvs aa.loc (((fun q=>gU n d q.prime.toNat) q1).getD i aa.loc.zero),(gU n d v2.prime.toNat).length=((fun q=>gU n d q.prime.toNat) q2).length∧(fun i=>((gU n d v2.prime.toNat).getD i z0l).rvs)=fun i=>aa.rvs aa.loc (((fun q=>gU n d q.prime.toNat) q2).getD i aa.loc.zero),(0:Int)=z0l.prime,z0l.list.length=0,(0:Int)=z0l.prime,z0l.list.length=0,(0:Int)=z0l.prime,z0l.list.length=0,(1:Nat)+1+1=v5.length,aj (decide (w6.wrap (w6.wrap v6+1)<v3)) false,(↑n:Int)=↑n∧(↑d:Int)=↑d∧v2.prime∈List.map bB.prime (List.drop (1:Nat) v1),(0:Int)≤w6.wrap v6∧w6.wrap v6<v3,aj (decide (w6.wrap v6<v3)) true,(↑n:Int)=↑n∧(↑d:Int)=↑d∧v4.prime∈List.map bB.prime (List.drop (1:Nat) v1),(0:Int)≤0∧(0:Int)<v3,aj (decide ((0:Int)<v3)) true,(0:Int)≤1∧(1:Int)≤↑v1.length,w6.wrap ((2:Int)*↑d)=2*↑d,(↑n:Int)=↑n∧(↑d:Int)=↑d,aj (decide ((↑d:Int)>10000)) false,aj (decide ((↑d:Int)<1)) false,aj (decide ((↑n:Int)>8)) false,aj (decide ((↑n:Int)<1)) false]);have t1:ao u1:=⟨?_,?_,?_,?_,?_,?_,?_,?_,y9,?_,?_,?_,?_,?_,?_,?_,?_,?_,?_,?_,y2,?_,?_,y1,?_,?_,y0,?_,?_,?_,z4,z3,z2,z1⟩;oe (decide ((↑(aH (aK (↑n:Int) (↑d:Int) (cB n d [q0,q1,q2]) (cB n d [q0,q1,q2]).length (0:Nat) (List.replicate (cB n d [q0,q1,q2]).length z0l,none)).snd).length:Int)>64)) (fun d1=>lr (tp 222211221) (((ik (cn n d [q0,q1,q2])).length=0)::((7:Int)=jf (cn n d [q0,q1,q2]))::ty d1::u1) ⟨?_,?_,d1,t1⟩)
  (fun d1=>lr (tp 222211222) (let v1:=(aK (↑n:Int) (↑d:Int) (cB n d [q0,q1,q2]) (cB n d [q0,q1,q2]).length (0:Nat) (List.replicate (cB n d [q0,q1,q2]).length z0l,none));let v2:=aH v1.snd;let v3:=(cn n d [q0,q1,q2]);(v2.length=(ik v3).length∧v2.length=(eH v2).length∧∀(i:Nat),i<v2.length→(fun i=>aa.gen.rvs ((ik v3).getD i aa.gen.zero)) i=aa.gen.rvs ((eH v2).getD i aa.gen.zero))::((0:Int)=jf v3)::(aH v1.snd≠[]∧v2.length≤1000∧(∀(g:aa.gen.car),g∈aH v1.snd→bG g)∧js (eH v2)=true)::rq (v2.length)::rq v2::ty d1::u1) ⟨?_,?_,?_,?_,?_,d1,t1⟩))
 all_goals first|(first|exact tz|exact hc|rfl|(have:=hG.d1;exact wo)|exact⟨oT rfl,oT rfl⟩|exact⟨rfl,rfl,j0.2 ⟨q1,si,rfl⟩⟩|exact⟨rfl,rfl,j0.2 ⟨q2,si,rfl⟩⟩|(have h6:64<(cn n d [q0,q1,q2]).length:=oT (qO (X:=cn n d [q0,q1,q2]) d1);first|(rw[AM h6];rfl)|exact(AN h6).symm)|(have h6:¬64<(cn n d [q0,q1,q2]).length:=oF (qO (X:=cn n d [q0,q1,q2]) d1);first|exact(vQ h6).symm|exact AL hG h6|exact Cb))
end Go.Proofs.YtmeljalphfcieaaGreatDoor.S
namespace Go.Proofs.YtmeljalphfcieaaGreatDoor.S
section
open Go.QfSy Go.RowKit
end
end Go.Proofs.YtmeljalphfcieaaGreatDoor.S
namespace Go.QfSy
open Go.RowKit
section
variable {P:Program}{E:cb}(hE:fu P E){call:bF}(hc:ce P E.ng call){lo:List Nat→Option aA}{N:Nat}
include hE hc
end
end Go.QfSy
namespace Go.QfSy
section
open Go.RowKit
end
end Go.QfSy
namespace Go.QfSy
open Go.RowKit
def mark (D:Nat):Deferred:={target:=.collected D,args:=#[]}
theorem run_ms {e' e:en}{T':Tr AV}{H':Hs}{S:St}{b:Nat}{rn:List (Nat×Nat)}{ms:List Prop}(h1:kf (some (e',T',H')) e S b rn=some ms)(h2:ao ms):∀q∈H'.ms,q:=by
 intro q hq
 rw[jl]at h2
 unfold kf at h1
 simp only at h1
 replace h1:=(az h1).2
 split at h1
 ·cases h1
 ·split at h1
  ·cases h1
  ·cases h1
   exact h2 q (ji _ hq)
section
variable {P:Program}{E:cb}(hE:fu P E){call:bF}(hc:ce P E.ng call){lo:List Nat→Option aA}{N:Nat}
include hE hc
end
end Go.QfSy
namespace Go.QfSy
section
open Go.RowKit
end
section
open Go.RowKit
end
end Go.QfSy
namespace Go.Proofs.YtmeljalphfcieaaGreatDoor.S
open Go.RowKit Go.QfSy Go.Lib
section
attribute [local go_sem] Oper.semAt_some
def mO (P:List bB)(k:Nat):Int×Int:=((P.getD k bB.zero).prime,(P.getD k bB.zero).exp-(bif Nat.beq k 0 then 1 else 0))
theorem I1:∀(f p n:Nat),(vG f p n).1≤f
 |0,p,n=>aZ _
 |f+1,p,n=>by
  unfold vG
  cases Nat.beq (n%p) 0 with
  |true=>exact rA (I1 f p (n/p))
  |false=>exact aY _
end
end Go.Proofs.YtmeljalphfcieaaGreatDoor.S
namespace Go.Proofs.YtmeljalphfcieaaGreatDoor.S
open Go.QfSy Go.RowKit
structure Lv (g:af):Prop where
 dim:1≤g.dim∧g.dim≤8
 det:1≤g.det∧g.det≤10000
 len:g.locs.length=(bz (2*g.det.toNat)).length
 pr:∀k,k<g.locs.length→(g.locs.getD k z0l).prime=(mO (bz (2*g.det.toNat)) k).1
 k2:∀k,k<g.locs.length→(g.locs.getD k z0l).prime=2→dt (g.locs.getD k z0l).prime (g.locs.getD k z0l).list=true
 kp:∀k,k<g.locs.length→(g.locs.getD k z0l).prime≠2→cY (g.locs.getD k z0l).prime (g.locs.getD k z0l).list=true
 ok:∀k,k<g.locs.length→aL (g.locs.getD k z0l).list∧gX (g.locs.getD k z0l).list=g.dim∧gY (g.locs.getD k z0l).list=(mO (bz (2*g.det.toNat)) k).2∧0≤(mO (bz (2*g.det.toNat)) k).2∧(mO (bz (2*g.det.toNat)) k).2≤2147483647
def exB (d:Nat)(Q:List bB):Bool:=(List.range Q.length).all fun k=>decide ((mO Q k).2=((vv (mO Q k).1.toNat d).1:Int))
noncomputable def w5 (n d:Nat)(Q:List bB)(X:List af):Bool:=
 Nat.ble Q.length 3&&Nat.ble 1 Q.length&&(Q.drop 1).all (fun q=>Nat.ble 2 q.prime.toNat&&Nat.ble q.prime.toNat 2147483647&&!Nat.beq (q.prime.toNat%2) 0)&&
 ((cB n d Q).all fun l=>Nat.ble l.length 50000&&l.all fun x=>Nat.ble 1 x.list.length&&Nat.ble x.list.length 1000)&&
 (!(BO n d (cB n d Q)).isNone&&(Nat.ble X.length 64&&Nat.ble 1 X.length&&
 (X.all (fun g=>Nat.ble g.locs.length 1000&&(g.locs.all (fun l=>Nat.ble l.list.length 1000)&&dt 2 (g.locs.getD 0 QfSy.Loc.zero).list))&&(js (eH X)&&exB d Q))))
theorem S3 {R:af→Prop}{n D:Int}{C:List QfSy.Loc}{o:cK}(hR:∀C,dr ⟨n,D,C⟩=0→R ⟨n,D,C⟩)(h:∀g∈aH o,R g):∀g∈aH (gI n D C o),R g:=by
 unfold gI
 cases hb:decide (dr ⟨n,D,C⟩=0)with
 |false=>exact h
 |true=>
  intro g hg
  have hg:g∈aH o++[⟨n,D,C⟩]:=hg
  rcases dV.1 hg with hg|hg
  ·exact h g hg
  ·simp only[bx,cC,cH]at hg
   subst hg
   exact hR C (dE hb)
theorem FB {R:af→Prop}{n D:Int}{Ls:List (List QfSy.Loc)}(hR:∀C,dr ⟨n,D,C⟩=0→R ⟨n,D,C⟩):∀(r i:Nat)(s:List QfSy.Loc×cK),(∀g∈aH s.2,R g)→∀g∈aH (aK n D Ls r i s).2,R g
 |0,i,s,h=>S3 hR h
 |r+1,i,s,h=>by
  rw[X3]
  generalize Ls.getD i []=l
  induction l generalizing s with
  |nil=>exact h
  |cons c l ih=>
   rw[lZ]
   refine ih _ ?_
   unfold jR
   cases Nat.blt 64 (aH s.2).length with
   |true=>exact h
   |false=>exact FB hR r (i+1) _ h
structure Bd (n d:Nat)(L:List af):Prop where
 asc:js L=true
 pos:0<L.length
 len:L.length≤64
 al:∀g∈L,g.dim=(n:Int)∧g.det=(d:Int)∧dr g=0∧Lv g∧bG g
theorem yk {n:Nat}{p:Nat→Bool}(h:(List.range n).all p=true){k:Nat}(hk:k<n):p k=true:=bX.1 h k (jj.2 hk)
theorem S4 {n d:Nat}{X:List af}(hn:1≤n∧n≤4)(hd:0<d∧d≤48)(hX:X=cn n d (bz (2*d)))(h:w5 n d (bz (2*d)) X=true):pn n d (bz (2*d))∧Bd n d (eH X)∧(bz (2*d)).length≤3∧1≤(bz (2*d)).length:=by
 obtain⟨Q,hQ⟩:∃Q,Q=bz (2*d):=⟨_,rfl⟩
 rw[←hQ]at h hX⊢
 unfold w5 at h
 simp only[aX,n7]at h
 obtain⟨⟨⟨⟨h1,h1'⟩,h2⟩,h3⟩,h4,⟨h5,h6⟩,h7,h8,h9⟩:=h
 have h1:=aU h1
 have h1':=aU h1'
 have h5:=aU h5
 have h6:=aU h6
 have hbd:∀g∈X,bG g∧dt 2 (g.locs.getD 0 QfSy.Loc.zero).list=true:=by
  intro g hg
  have:=bX.1 h7 g hg
  simp only[aX]at this
  obtain⟨a1,a2,a3⟩:=this
  exact⟨⟨aU a1,fun l hl=>aU (bX.1 a2 l hl)⟩,a3⟩
 have hck:∀g∈X,g.dim=(n:Int)∧g.det=(d:Int)∧dr g=0:=by
  rw[hX]
  exact FB (R:=fun g=>g.dim=(n:Int)∧g.det=(d:Int)∧dr g=0) (fun C hC=>⟨rfl,rfl,hC⟩) _ _ _ (fun g hg=>by cases hg)
 have hpm:=oG X
 have hlen:(eH X).length=X.length:=hpm.length_eq
 refine⟨⟨hn,hd,hQ.symm,?_,h4,?_,?_,?_⟩,⟨h8,om,om,?_⟩,h1,h1'⟩
 ·intro l hl
  have:=bX.1 h3 l hl
  simp only[aX]at this
  refine⟨fun x hx=>?_,aU this.1⟩
  have:=bX.1 this.2 x hx
  simp only[aX]at this
  exact⟨aU this.1,aU this.2⟩
 ·rw[←hX];exact fun g hg=>(hbd g hg).1
 ·rw[←hX];omega
 ·rw[←hX];exact .inr ⟨fun e=>by rw[e]at h6;simp at h6,h8⟩
 ·intro g hg
  have hg:=hpm.subset hg
  obtain⟨b1,b2⟩:=hbd g hg
  obtain⟨c1,c2,c3⟩:=hck g hg
  refine⟨c1,c2,c3,?_,b1⟩
  have hs:cA g=true:=by
   cases hs:cA g with
   |true=>rfl
   |false=>unfold dr at c3;rw[hs]at c3;simp at c3
  obtain⟨s1,s2,s3,s4,s5,s6⟩:=(mo g).1 hs
  have ed:g.det.toNat=d:=by omega
  have e2:(2*g.det).toNat=2*d:=by omega
  rw[e2,←hQ]at s5 s6
  have hsh:=fun k (hk:k<g.locs.length)=>uL s6 k om
  have hshB:∀k,k<g.locs.length→(g.locs.getD k QfSy.Loc.zero).prime=(Q.getD k bB.zero).prime∧gq (g.locs.getD k QfSy.Loc.zero)=true∧gX (g.locs.getD k QfSy.Loc.zero).list=g.dim∧((vv (g.locs.getD k QfSy.Loc.zero).prime.toNat g.det.toNat).1:Int)=gY (g.locs.getD k QfSy.Loc.zero).list:=by
   intro k hk
   have:=hsh k hk
   unfold kQ at this
   simp only[aX,gC]at this
   exact⟨this.1,this.2.1,this.2.2.1,this.2.2.2⟩
  have hex:∀k,k<g.locs.length→(mO Q k).2=((vv (mO Q k).1.toNat d).1:Int):=fun k hk=>by
   have:=yk h9 (k:=k) om
   exact dE this
  refine⟨⟨s1,s2⟩,⟨s3,s4⟩,by rw[ed,←hQ];omega,?_,?_,?_,?_⟩
  ·intro k hk
   rw[ed,←hQ]
   exact(hshB k hk).1
  ·intro k hk hp
   have hk0:k=0:=by
    rcases kw k with h|h
    ·exact h
    ·exfalso
     have hpr:=(hshB k hk).1
     rw[hp]at hpr
     have hq:Q.getD k bB.zero∈Q.drop 1:=by
      rw[cj,eb om]
      rw[List.mem_iff_getElem]
      exact⟨k-1,by rw[pH];omega,by rw[List.getElem_drop];congr 1;omega⟩
     have:=bX.1 h2 _ hq
     simp only[aX,n7]at this
     rw[←hpr]at this
     exact lW this.2 rfl
   subst hk0
   rw[hp];exact b2
  ·intro k hk hp
   have:=(hshB k hk).2.1
   unfold gq at this
   rw[show decide ((g.locs.getD k QfSy.Loc.zero).prime=2)=false from bu hp]at this
   exact this
  ·intro k hk
   obtain⟨t1,t2,t3,t4⟩:=hshB k hk
   rw[ed,←hQ]
   have hx:=hex k hk
   have hv:(vv (mO Q k).1.toNat d).1≤40:=I1 40 _ _
   refine⟨EM t2,t3,?_,om,om⟩
   rw[hx,←t4,ed]
   congr 2
   rw[t1];rfl
def cL (n d:Nat)(C:LL)(l:QfSy.Loc):af:=⟨(n:Int),(d:Int),C++[l]⟩
def eI (X:List af):ai:=⟨.vals .gen X,32,3,true,true⟩
def mA (a b:Int)(v:AV):ai:=⟨.plain [vi a,vi b,v],32,0,false,true⟩
theorem U8 (n d:Nat)(C Q:LL){k:Nat}(h:k<Q.length):(Q.take (k+1)).map (cL n d C)=(Q.take k).map (cL n d C)++[cL n d C (Q.getD k z0l)]:=by
 rw[tL Q z0l h,rF];rfl
def KY (Q:LL):Option Nat→Nat
 |none=>Q.length+1
 |some k=>Q.length-k
def KZ (Q:LL):Option Nat→Prop
 |none=>True
 |some k=>1≤k∧k≤Q.length
theorem OD {m:Nat}(h:Nat.beq m 0=false):0<m:=by have:=lW h;omega
theorem sB (n d:Nat)(C Q:LL)(B:List af){k:Nat}(h:k<Q.length):B++(Q.take k).map (cL n d C)++[(⟨(n:Int),(d:Int),(bb C.length fun i=>(C.getD i z0l).rvs)++[⟨(Q.getD k z0l).prime,cm aa.con (Q.getD k z0l).list.length fun i=>((Q.getD k z0l).list.getD i z0c).rvs⟩]⟩:af)]=B++(Q.take (k+1)).map (cL n d C):=by
 rw[f9,qe,U8 n d C Q h,mV];rfl
theorem sC (n d:Nat)(C Q:LL){k:Nat}(h:k≤Q.length):((Q.take k).map (cL n d C)).length=k:=by rw[iT,n8];omega
theorem GB (n d:Nat)(C Q:LL){k:Nat}(h:k≤Q.length)(h2:¬k<Q.length):(Q.take k).map (cL n d C)=Q.map (cL n d C):=by rw[show k=Q.length by omega,pG]
def je (n d:Nat)(p:Int)(L:List Int)(k:AV):List (Nat×AV):=[(0,vi n),(1,vi d),(8,vi p),(38,(aI (.num .i64) L).av),(39,vi L.length),(40,k)]
def nM (Q:LL)(k:AV):List (Nat×AV):=[(53,(aI .loc Q).av),(54,vi Q.length),(55,k)]
def lK (X:List af)(k:AV):List (Nat×AV):=[(44,.lo 1001 X.length),(45,vi X.length),(46,k)]
def wU:List (Nat×AV):=[(44,.slc 1000 0 1 1),(45,.int .i64 1),(46,.int .i64 0)]
def aaG (n D:Nat)(p:Int)(L:List Int)(Q:LL):Option Nat→St
 |none=>⟨(9,.nils)::((11,.ptr 1002 0)::(nM Q (.int .i64 0)++(je n D p L (.int .i64 0)++wU))),(1002,mA (n:Int) (D:Int) .nils)::[(1000,⟨.plain [vi n,vi D,.nils],32,3,false,true⟩)],1021⟩
 |some k=>⟨(9,.lo 1020 k)::((11,.ptr 1002 0)::(nM Q (vi k)++(je n D p L (.int .i64 0)++wU))),(1020,eI ((Q.take k).map (cL n D [])))::(1002,mA (n:Int) (D:Int) .nils)::[(1000,⟨.plain [vi n,vi D,.nils],32,3,false,true⟩)],1021⟩
def JA (n D:Nat)(p:Int)(L:List Int)(Q:LL):aA:=⟨⟨(9,.nils)::((11,.ptr 1002 0)::(nM Q (.int .i64 0)++(je n D p L (.int .i64 0)++wU))),(1002,mA (n:Int) (D:Int) .nils)::[(1000,⟨.plain [vi n,vi D,.nils],32,3,false,true⟩)],1020⟩,none,fun _=>(.exit 4,⟨(9,.lo 1020 (Q.map (cL n D [])).length)::(je n D p L (.int .i64 0)++wU),(1020,eI (Q.map (cL n D [])))::[(1000,⟨.plain [vi n,vi D,.nils],32,3,false,true⟩)],1100⟩)⟩
theorem Qh (n D:Nat)(p:Int)(L:List Int)(Q:LL)(hQ0:0<Q.length)(hQ:Q.length≤50000):An 2 Tryz.f6 [0,1,1,0,0,1,1,0,0,1,0,1,1,0,0,1,1,0,0,1,0,1,1,1] (JA n D p L Q):=by
 refine cN c0 aC (aaG n D p L Q) (KY Q) (fun o=>KZ Q o) ?_ ?_
 ·exact st (none) (let y1:=aa.num IntKind.i64;[sq aa.loc Q,rq (↑Q.length:Int),rq (↑n:Int),rq (↑D:Int),p=p,sr L fun i=>y1.rvs (L.getD i y1.zero),rq (↑L.length:Int),rq (↑n:Int),rq (↑D:Int),rq (↑n:Int),rq (↑D:Int)]) (by refine⟨?_,?_,?_,?_,?_,?_,?_,?_,?_,?_,(?_:(↑D:Int)=↑D)⟩<;>(first|exact tr|rfl|omega|exact⟨rfl,rfl⟩)) (by exact trivial)
 ·intro o hI
  rcases o with _|k
  rotate_right
  refine oe (decide ((↑k:Int)<↑Q.length)) (fun d1=>aq [true,true] (some (k+1)) (let v1:=Q.getD k aa.loc.zero;let v2:=cm aa.con v1.list.length fun i=>(v1.list.getD i z0c).rvs;let v3:=aa.num IntKind.i64;let v4:=[af.mk (↑n:Int) (↑D:Int) [Loc.mk v1.prime v2]];[rq (k+1),sq aa.loc Q,rq (↑Q.length:Int),w6.wrap ((↑k:Int)+1)=↑(k+1),rq (↑n:Int),rq (↑D:Int),p=p,sr L fun i=>v3.rvs (L.getD i v3.zero),rq (↑L.length:Int),List.map (cL n D []) (List.take k Q)++v4=List.map (cL n D []) (List.take (k+1) Q),rq (↑n:Int),rq (↑D:Int),rq (↑n:Int),rq (↑D:Int),(List.map (cL n D []) (List.take k Q)).length=k∧k+1≤1000000,(1:Nat)=v4.length,(1:Nat)=[Loc.mk v1.prime v2].length,(0:Nat)<1∧(1:Nat)≤1000000,(1:Nat)=[Loc.mk v1.prime v2].length,∀(i:Nat),i<v1.list.length→(fun i=>(v1.list.getD i z0c).rvs) i=aa.con.rvs (aa.con.of ((fun i=>(v1.list.getD i z0c).rvs) i)),rq (v1.prime),sr v1.list fun i=>(v1.list.getD i z0c).rvs,rq (0:Nat),aj true true,(0:Int)≤↑k∧(↑k:Int)<↑Q.length,ty d1]) ⟨?_,?_,?_,?_,?_,?_,?_,?_,?_,?_,?_,?_,?_,?_,?_,?_,?_,?_,?_,?_,?_,?_,?_,rfl,?_,d1⟩ ?_ ?_)
   (fun d1=>br [false] (let v1:=aa.num IntKind.i64;[k=(List.map (cL n D []) Q).length,rq (↑n:Int),rq (↑D:Int),p=p,sr L fun i=>v1.rvs (L.getD i v1.zero),rq (↑L.length:Int),List.map (cL n D []) (List.take k Q)=List.map (cL n D []) Q,rq (↑n:Int),rq (↑D:Int),ty d1]) ⟨?_,?_,?_,?_,?_,?_,?_,?_,?_,d1⟩)
  rotate_right
  refine oe (decide ((0:Int)<↑Q.length)) (fun d1=>aq [true,true] (some 1) (let v1:=Q.getD (Int.toNat (0:Int)) aa.loc.zero;let v2:=cm aa.con v1.list.length fun i=>(v1.list.getD i z0c).rvs;let v3:=aa.num IntKind.i64;let v4:=[af.mk (↑n:Int) (↑D:Int) [Loc.mk v1.prime v2]];[rq (1:Nat),sq aa.loc Q,rq (↑Q.length:Int),w6.wrap ((0:Int)+1)=↑(1:Nat),rq (↑n:Int),rq (↑D:Int),p=p,sr L fun i=>v3.rvs (L.getD i v3.zero),rq (↑L.length:Int),v4=List.map (cL n D []) (List.take (1:Nat) Q),rq (↑n:Int),rq (↑D:Int),rq (↑n:Int),rq (↑D:Int),(0:Nat)<1∧(1:Nat)≤1000000,(1:Nat)=v4.length,(1:Nat)=[Loc.mk v1.prime v2].length,(0:Nat)<1∧(1:Nat)≤1000000,(1:Nat)=[Loc.mk v1.prime v2].length,∀(i:Nat),i<v1.list.length→(fun i=>(v1.list.getD i z0c).rvs) i=aa.con.rvs (aa.con.of ((fun i=>(v1.list.getD i z0c).rvs) i)),rq (v1.prime),sr v1.list fun i=>(v1.list.getD i z0c).rvs,rq (0:Nat),aj true true,(0:Int)≤0∧(0:Int)<↑Q.length,ty d1]) ⟨?_,?_,?_,?_,?_,?_,?_,?_,?_,?_,?_,?_,?_,?_,?_,?_,?_,?_,?_,?_,?_,?_,?_,rfl,?_,d1⟩ ?_ ?_)
   (fun d1=>aT.no ?_)
  all_goals first|exact LZ|exact Ci|exact Ng|(first|exact tv|decide|exact jV|exact g8 _|exact⟨by rw[f9],om⟩|(rw[f9,bU];rfl)|exact Cy|(have dd:0<Q.length:=hQ0;first|exact⟨om,om⟩|exact sB n D [] Q [] dd)|(have hI:1≤k∧k≤Q.length:=hI;first|(have dd:k<Q.length:=bY;first|exact fk|exact⟨sC n D _ Q hI.2,om⟩|exact⟨om,om⟩|exact sB n D [] Q [] dd)|exact Nw))
def aaH (n D:Nat)(p:Int)(L:List Int)(k1:Nat)(X:List af)(g:af)(Q:LL):Option Nat→St
 |none=>⟨(9,.nils)::((11,.ptr 1011 0)::(nM Q (.int .i64 0)++(je n D p L (vi k1)++lK X (.int .i64 0)))),(1011,mA g.dim g.det (dR g.locs).av)::[(1001,eI X)],1021⟩
 |some k=>⟨(9,.lo 1020 k)::((11,.ptr 1011 0)::(nM Q (vi k)++(je n D p L (vi k1)++lK X (.int .i64 0)))),(1020,eI ((Q.take k).map (cL n D g.locs)))::(1011,mA g.dim g.det (dR g.locs).av)::[(1001,eI X)],1021⟩
def JB (n D:Nat)(p:Int)(L:List Int)(k1:Nat)(X:List af)(g:af)(Q:LL):aA:=⟨⟨(9,.nils)::((11,.ptr 1011 0)::(nM Q (.int .i64 0)++(je n D p L (vi k1)++lK X (.int .i64 0)))),(1011,mA g.dim g.det (dR g.locs).av)::[(1001,eI X)],1020⟩,none,fun _=>(.exit 4,⟨(9,.lo 1020 (Q.map (cL n D g.locs)).length)::(je n D p L (vi k1)++lK X (.int .i64 0)),(1020,eI (Q.map (cL n D g.locs)))::[(1001,eI X)],1100⟩)⟩
theorem Qi (n D:Nat)(p:Int)(L:List Int)(k1:Nat)(X:List af)(g:af)(Q:LL)(hQ0:0<Q.length)(hQ:Q.length≤50000)(hC0:Nat.beq g.locs.length 0=false)(hC:g.locs.length≤1000):An 2 Tryz.f6 [0,1,1,0,0,1,1,0,0,1,0,1,1,0,0,1,1,0,0,1,0,1,1,1] (JB n D p L k1 X g Q):=by
 refine cN c0 aC (aaH n D p L k1 X g Q) (KY Q) (fun o=>KZ Q o) ?_ ?_
 ·exact st (none) (let y1:=aa.num IntKind.i64;[sq aa.loc Q,rq (↑Q.length:Int),rq (↑n:Int),rq (↑D:Int),p=p,sr L fun i=>y1.rvs (L.getD i y1.zero),rq (↑L.length:Int),rq (↑k1:Int),rq X.length,rq (↑X.length:Int),g.dim=g.dim,g.det=g.det,sl g.locs,X=X]) (by refine⟨?_,?_,?_,?_,?_,?_,?_,?_,?_,?_,?_,?_,?_,(?_:X=X)⟩<;>(first|exact tr|rfl|omega|exact⟨rfl,rfl⟩)) (by exact trivial)
 ·intro o hI
  rcases o with _|k
  rotate_right
  refine oe (decide ((↑k:Int)<↑Q.length)) (fun d1=>aq [true,false] (some (k+1)) (let v1:=Q.getD k aa.loc.zero;let v2:=cm aa.con v1.list.length fun i=>(v1.list.getD i z0c).rvs;let v3:=bb g.locs.length fun i=>(g.locs.getD i z0l).rvs;let v4:=[af.mk (↑n:Int) (↑D:Int) (v3++[Loc.mk v1.prime v2])];let v5:=aa.num IntKind.i64;let v6:=cL n D g.locs;[rq (k+1),sq aa.loc Q,rq (↑Q.length:Int),w6.wrap ((↑k:Int)+1)=↑(k+1),rq (↑n:Int),rq (↑D:Int),p=p,sr L fun i=>v5.rvs (L.getD i v5.zero),rq (↑L.length:Int),rq (↑k1:Int),rq X.length,rq (↑X.length:Int),List.map v6 (List.take k Q)++v4=List.map v6 (List.take (k+1) Q),g.dim=g.dim,g.det=g.det,sl g.locs,X=X,(List.map v6 (List.take k Q)).length=k∧k+1≤1000000,(1:Nat)=v4.length,g.locs.length+1=(v3++[Loc.mk v1.prime v2]).length,v3.length=g.locs.length∧g.locs.length+1≤1000000,(1:Nat)=[Loc.mk v1.prime v2].length,∀(i:Nat),i<v1.list.length→(fun i=>(v1.list.getD i z0c).rvs) i=aa.con.rvs (aa.con.of ((fun i=>(v1.list.getD i z0c).rvs) i)),rq (v1.prime),sr v1.list fun i=>(v1.list.getD i z0c).rvs,(0:Nat)<g.locs.length∧g.locs.length≤1000000,∀(i:Nat),i<g.locs.length→(fun i=>(g.locs.getD i z0l).rvs) i=aa.loc.rvs (aa.loc.of ((fun i=>(g.locs.getD i z0l).rvs) i)),aj (g.locs.length.beq (0:Nat)) false,(0:Int)≤↑k∧(↑k:Int)<↑Q.length,ty d1]) ⟨?_,?_,?_,?_,?_,?_,?_,?_,?_,?_,?_,?_,?_,?_,?_,?_,?_,?_,?_,?_,?_,?_,?_,?_,?_,?_,?_,hC0,?_,d1⟩ ?_ ?_)
   (fun d1=>br [false] (let v1:=aa.num IntKind.i64;let v2:=cL n D g.locs;[k=(List.map v2 Q).length,rq (↑n:Int),rq (↑D:Int),p=p,sr L fun i=>v1.rvs (L.getD i v1.zero),rq (↑L.length:Int),rq (↑k1:Int),rq X.length,rq (↑X.length:Int),List.map v2 (List.take k Q)=List.map v2 Q,X=X,ty d1]) ⟨?_,?_,?_,?_,?_,?_,?_,?_,?_,?_,?_,d1⟩)
  rotate_right
  refine oe (decide ((0:Int)<↑Q.length)) (fun d1=>aq [true,false] (some 1) (let v1:=Q.getD (Int.toNat (0:Int)) aa.loc.zero;let v2:=cm aa.con v1.list.length fun i=>(v1.list.getD i z0c).rvs;let v3:=bb g.locs.length fun i=>(g.locs.getD i z0l).rvs;let v4:=[af.mk (↑n:Int) (↑D:Int) (v3++[Loc.mk v1.prime v2])];let v5:=aa.num IntKind.i64;[rq (1:Nat),sq aa.loc Q,rq (↑Q.length:Int),w6.wrap ((0:Int)+1)=↑(1:Nat),rq (↑n:Int),rq (↑D:Int),p=p,sr L fun i=>v5.rvs (L.getD i v5.zero),rq (↑L.length:Int),rq (↑k1:Int),rq X.length,rq (↑X.length:Int),v4=List.map (cL n D g.locs) (List.take (1:Nat) Q),g.dim=g.dim,g.det=g.det,sl g.locs,X=X,(0:Nat)<1∧(1:Nat)≤1000000,(1:Nat)=v4.length,g.locs.length+1=(v3++[Loc.mk v1.prime v2]).length,v3.length=g.locs.length∧g.locs.length+1≤1000000,(1:Nat)=[Loc.mk v1.prime v2].length,∀(i:Nat),i<v1.list.length→(fun i=>(v1.list.getD i z0c).rvs) i=aa.con.rvs (aa.con.of ((fun i=>(v1.list.getD i z0c).rvs) i)),rq (v1.prime),sr v1.list fun i=>(v1.list.getD i z0c).rvs,(0:Nat)<g.locs.length∧g.locs.length≤1000000,∀(i:Nat),i<g.locs.length→(fun i=>(g.locs.getD i z0l).rvs) i=aa.loc.rvs (aa.loc.of ((fun i=>(g.locs.getD i z0l).rvs) i)),aj (g.locs.length.beq (0:Nat)) false,(0:Int)≤0∧(0:Int)<↑Q.length,ty d1]) ⟨?_,?_,?_,?_,?_,?_,?_,?_,?_,?_,?_,?_,?_,?_,?_,?_,?_,?_,?_,?_,?_,?_,?_,?_,?_,?_,?_,hC0,?_,d1⟩ ?_ ?_)
   (fun d1=>aT.no ?_)
  all_goals first|exact LZ|exact Ci|exact Ng|(first|exact tv|decide|exact jV|exact g8 _|exact⟨by rw[f9],om⟩|(rw[f9,bU];rfl)|exact Cy|(have dd:0<Q.length:=hQ0;first|exact⟨om,om⟩|exact sB n D g.locs Q [] dd)|(have hI:1≤k∧k≤Q.length:=hI;first|(have dd:k<Q.length:=bY;first|exact fk|exact⟨sC n D _ Q hI.2,om⟩|exact⟨om,om⟩|exact sB n D g.locs Q [] dd)|exact Nw))
def JC (n D:Nat)(p:Int)(L:List Int)(k1:Nat)(X:List af)(g:af)(m:Nat)(Y0:List af)(Q:LL):aA:=⟨⟨(9,.lo 1010 Y0.length)::((11,.ptr 1011 0)::(nM Q (.int .i64 0)++(je n D p L (vi k1)++lK X (vi m)))),(1010,eI Y0)::(1011,mA g.dim g.det (dR g.locs).av)::[(1001,eI X)],1020⟩,none,fun _=>(.exit 4,⟨(9,.lo 1020 (Y0++Q.map (cL n D g.locs)).length)::(je n D p L (vi k1)++lK X (vi m)),(1020,eI (Y0++Q.map (cL n D g.locs)))::[(1001,eI X)],1100⟩)⟩
theorem Qj (n D:Nat)(p:Int)(L:List Int)(k1:Nat)(X:List af)(g:af)(m:Nat)(Y0:List af)(Q:LL)(hQ0:0<Q.length)(hQ:Q.length≤50000)(hC0:Nat.beq g.locs.length 0=false)(hC:g.locs.length≤1000)(hY0:Y0.length≤100000):An 2 Tryz.f6 [0,1,1,0,0,1,1,0,0,1,0,1,1,0,0,1,1,0,0,1,0,1,1,1] (JC n D p L k1 X g m Y0 Q):=by
 refine cN c0 aC (fun(k:Nat)=>(⟨(9,.lo 1020 (Y0++(Q.take k).map (cL n D g.locs)).length)::((11,.ptr 1011 0)::(nM Q (vi k)++(je n D p L (vi k1)++lK X (vi m)))),(1020,eI (Y0++(Q.take k).map (cL n D g.locs)))::(1011,mA g.dim g.det (dR g.locs).av)::[(1001,eI X)],1021⟩:St)) (fun(k:Nat)=>(Q.length-k:Nat)) (fun(k:Nat)=>(k≤Q.length:Prop)) ?_ ?_
 ·exact st (0) (let y1:=aa.num IntKind.i64;[Y0.length=(Y0++List.map (cL n D g.locs) (List.take (0:Nat) Q)).length,sq aa.loc Q,rq (↑Q.length:Int),(0:Int)=↑(0:Nat),rq (↑n:Int),rq (↑D:Int),p=p,sr L fun i=>y1.rvs (L.getD i y1.zero),rq (↑L.length:Int),rq (↑k1:Int),rq X.length,rq (↑X.length:Int),rq (↑m:Int),Y0=Y0++List.map (cL n D g.locs) (List.take (0:Nat) Q),g.dim=g.dim,g.det=g.det,sl g.locs,X=X]) (by refine⟨?_,?_,?_,?_,?_,?_,?_,?_,?_,?_,?_,?_,?_,?_,?_,?_,?_,(?_:X=X)⟩<;>(first|exact tr|rfl|omega|exact⟨rfl,rfl⟩|exact(gi Y0).symm|exact congrArg List.length (gi Y0).symm)) (by exact aY _)
 ·intro k hI
  have hk:k≤Q.length:=hI
  refine oe (decide ((↑k:Int)<↑Q.length)) (fun d1=>aq [true,false] (k+1) (let v1:=Q.getD k aa.loc.zero;let v2:=cm aa.con v1.list.length fun i=>(v1.list.getD i z0c).rvs;let v3:=bb g.locs.length fun i=>(g.locs.getD i z0l).rvs;let v7:=cL n D g.locs;let v4:=Y0++List.map v7 (List.take k Q);let v5:=[af.mk (↑n:Int) (↑D:Int) (v3++[Loc.mk v1.prime v2])];let v6:=aa.num IntKind.i64;let v8:=List.take (k+1) Q;[v4.length+1=(Y0++List.map v7 v8).length,sq aa.loc Q,rq (↑Q.length:Int),w6.wrap ((↑k:Int)+1)=↑(k+1),rq (↑n:Int),rq (↑D:Int),p=p,sr L fun i=>v6.rvs (L.getD i v6.zero),rq (↑L.length:Int),rq (↑k1:Int),rq X.length,rq (↑X.length:Int),rq (↑m:Int),Y0++List.map v7 (List.take k Q)++v5=Y0++List.map v7 v8,g.dim=g.dim,g.det=g.det,sl g.locs,X=X,v4.length=v4.length∧v4.length+1≤1000000,(1:Nat)=v5.length,g.locs.length+1=(v3++[Loc.mk v1.prime v2]).length,v3.length=g.locs.length∧g.locs.length+1≤1000000,(1:Nat)=[Loc.mk v1.prime v2].length,∀(i:Nat),i<v1.list.length→(fun i=>(v1.list.getD i z0c).rvs) i=aa.con.rvs (aa.con.of ((fun i=>(v1.list.getD i z0c).rvs) i)),rq (v1.prime),sr v1.list fun i=>(v1.list.getD i z0c).rvs,(0:Nat)<g.locs.length∧g.locs.length≤1000000,∀(i:Nat),i<g.locs.length→(fun i=>(g.locs.getD i z0l).rvs) i=aa.loc.rvs (aa.loc.of ((fun i=>(g.locs.getD i z0l).rvs) i)),aj (g.locs.length.beq (0:Nat)) false,(0:Int)≤↑k∧(↑k:Int)<↑Q.length,ty d1]) ⟨?_,?_,?_,?_,?_,?_,?_,?_,?_,?_,?_,?_,?_,?_,?_,?_,?_,?_,?_,?_,?_,?_,?_,?_,?_,?_,?_,?_,hC0,?_,d1⟩ ?_ ?_)
   (fun d1=>br [false] (let v1:=aa.num IntKind.i64;let v2:=cL n D g.locs;[(Y0++List.map v2 (List.take k Q)).length=(Y0++List.map v2 Q).length,rq (↑n:Int),rq (↑D:Int),p=p,sr L fun i=>v1.rvs (L.getD i v1.zero),rq (↑L.length:Int),rq (↑k1:Int),rq X.length,rq (↑X.length:Int),rq (↑m:Int),Y0++List.map v2 (List.take k Q)=Y0++List.map v2 Q,X=X,ty d1]) ⟨?_,?_,?_,?_,?_,?_,?_,?_,?_,?_,?_,?_,d1⟩)
  all_goals first|(refine cy.mk ?_;(have dd:=oT d1;show Q.length-(k+1)<Q.length-k;omega))|(refine bD.mk ?_;(have dd:=oT d1;show k+1≤Q.length;omega))|exact cT|(first|exact tv|decide|exact jV|exact g8 _|exact⟨by rw[f9],om⟩|(rw[f9,bU];rfl)|exact Cy|(have dd:k<Q.length:=bY;first|exact fk|exact⟨om,om⟩|exact⟨rfl,by rw[bU,sC n D _ Q hk];omega⟩|exact sB n D g.locs Q Y0 dd|(rw[bU,bU,sC n D _ Q hk,sC n D _ Q dd];omega))|(have dd:¬k<Q.length:=eZ;rw[GB n D _ Q hk dd]))
def cv (n D:Nat)(p:Int)(X:List af):List af:=X.flatMap fun g=>(dC n D p).map (cL n D g.locs)
def cJ (n D:Nat)(l:List Int):List af:=l.foldl (fun A p=>cv n D p A) [⟨(n:Int),(D:Int),[]⟩]
theorem yI (n D:Nat){L:List Int}{k:Nat}(h:k<L.length):cJ n D (L.take (k+1))=cv n D (L.getD k 0) (cJ n D (L.take k)):=by
 unfold cJ
 rw[tL L 0 h,mU];rfl
theorem QD (n D:Nat)(p:Int){X:List af}{j:Nat}(h:j<X.length):cv n D p (X.take (j+1))=cv n D p (X.take j)++(dC n D p).map (cL n D (X.getD j af.zero).locs):=by
 unfold cv
 rw[tL X af.zero h,iS];simp
theorem Vp (n D:Nat)(p:Int)(X:List af)(j:Nat):(cv n D p (X.take j)).length≤(cv n D p X).length:=by
 have:cv n D p X=cv n D p (X.take j)++cv n D p (X.drop j):=by
  unfold cv
  rw[←iS,kV]
 rw[this,bU];omega
theorem zp (n D:Nat)(p:Int):∀X:List af,(cv n D p X).length=X.length*(dC n D p).length
 |[]=>by simp[cv]
 |g::X=>by
  have h:=zp n D p X
  unfold cv at h⊢
  rw[fo,bU,iT,h,cR,gk,Nat.one_mul,Nat.add_comm]
theorem SN {R S:af→Prop}{n D:Nat}{p:Int}{X:List af}(hX:∀g∈X,R g)(h:∀g,R g→∀l∈dC n D p,S (cL n D g.locs l)):∀g∈cv n D p X,S g:=by
 intro g hg
 unfold cv at hg
 obtain⟨x,hx,hg⟩:=List.mem_flatMap.1 hg
 obtain⟨l,hl,rfl⟩:=j0.1 hg
 exact h x (hX x hx) l hl
structure pj (n D:Nat)(L:List Int):Prop where
 l0:0<L.length
 l1:L.length≤31
 pr:∀p∈L,0<(dC n D p).length∧(dC n D p).length≤50000
 le:∀p∈L,∀l∈dC n D p,l.list.length≤1000
 len:(cJ n D L).length≤50000
theorem zq (n D:Nat):∀(L:List Int)(X:List af),(∀p∈L,0<(dC n D p).length)→X.length≤(L.foldl (fun A p=>cv n D p A) X).length
 |[],X,_=>aZ _
 |p::L,X,h=>by
  have h1:=zq n D L (cv n D p X) fun q hq=>h q (fT _ hq)
  have h2:=h p cZ
  rw[zp]at h1
  have h3:X.length*1≤X.length*(dC n D p).length:=Nat.mul_le_mul_left _ h2
  rw[lZ];omega
theorem zP {n D:Nat}{L:List Int}(h:pj n D L)(k:Nat):0<(cJ n D (L.take k)).length∧(cJ n D (L.take k)).length≤50000:=by
 have h1:=zq n D (L.take k) [⟨(n:Int),(D:Int),[]⟩] fun p hp=>(h.pr p (rC hp)).1
 have h2:=zq n D (L.drop k) (cJ n D (L.take k)) fun p hp=>(h.pr p (List.mem_of_mem_drop hp)).1
 have h3:(L.drop k).foldl (fun A p=>cv n D p A) (cJ n D (L.take k))=cJ n D L:=by
  unfold cJ
  rw[←mU,kV]
 rw[h3]at h2
 have:=h.len
 exact⟨h1,om⟩
theorem DG {n D:Nat}:∀(L:List Int)(X:List af)(m:Nat),(∀p∈L,∀l∈dC n D p,l.list.length≤1000)→(∀g∈X,g.dim=(n:Int)∧g.det=(D:Int)∧g.locs.length=m∧∀l∈g.locs,l.list.length≤1000)→∀g∈L.foldl (fun A p=>cv n D p A) X,g.dim=(n:Int)∧g.det=(D:Int)∧g.locs.length=m+L.length∧∀l∈g.locs,l.list.length≤1000
 |[],X,m,_,h=>h
 |p::L,X,m,hl,h=>by
  rw[lZ]
  have:=DG L (cv n D p X) (m+1) (fun q hq=>hl q (fT _ hq)) (SN h fun g hg l hl2=>⟨rfl,rfl,by show(g.locs++[l]).length=m+1;rw[bU,hg.2.2.1];rfl,fun x hx=>by
   rcases dV.1 hx with hx|hx
   ·exact hg.2.2.2 x hx
   ·rw[dU.1 hx];exact hl p cZ l hl2⟩)
  intro g hg
  obtain⟨a1,a2,a3,a4⟩:=this g hg
  exact⟨a1,a2,by rw[a3,cR];omega,a4⟩
theorem Ew {n D:Nat}{L:List Int}(h:pj n D L)(k:Nat)(hk:k≤L.length):∀g∈cJ n D (L.take k),g.dim=(n:Int)∧g.det=(D:Int)∧g.locs.length=k∧∀l∈g.locs,l.list.length≤1000:=by
 have:=DG (L.take k) [⟨(n:Int),(D:Int),[]⟩] 0 (fun p hp=>h.le p (rC hp)) fun g hg=>by rw[dU.1 hg];exact⟨rfl,rfl,rfl,fun l hl=>by cases hl⟩
 intro g hg
 obtain⟨a1,a2,a3,a4⟩:=this g hg
 exact⟨a1,a2,by rw[a3,n8];omega,a4⟩
def gz:af:=⟨0,0,[QfSy.Loc.zero]⟩
def gW (X:List af)(j:Nat):af:=X.getD j gz
theorem zQ {X:List af}{j:Nat}(h:j<X.length):X.getD j af.zero=gW X j:=by
 unfold gW
 rw[cj,cj,eb h];rfl
theorem Fs {R:af→Prop}{X:List af}(hX:∀g∈X,R g)(hz:R gz)(j:Nat):R (gW X j):=by
 unfold gW
 rw[cj]
 rcases bA j X.length with h|h
 ·rw[eb h];exact hX _ (fp h)
 ·rw[gL h];exact hz
def wY (g:af):Prop:=Nat.beq g.locs.length 0=false∧g.locs.length≤1000
def gG (L:List Int)(k:Nat):Int:=L.getD k (L.getD 0 0)
theorem sF {L:List Int}{k:Nat}(h:k<L.length):L.getD k 0=gG L k:=by
 unfold gG
 rw[cj,cj,eb h];rfl
theorem sj {L:List Int}(h:0<L.length)(k:Nat):gG L k∈L:=by
 unfold gG
 have h0:L.getD 0 0∈L:=by rw[cj,eb h];exact fp h
 rw[cj]
 rcases bA k L.length with h1|h1
 ·rw[eb h1];exact fp h1
 ·rw[gL h1];exact h0
def jv (n D:Nat)(L:List Int)(k:Nat):List af:=bif Nat.blt k L.length then cJ n D (L.take k)else [gz]
theorem sG {n D:Nat}{L:List Int}{k:Nat}(h:k<L.length):cJ n D (L.take k)=jv n D L k:=by
 unfold jv
 rw[show Nat.blt k L.length=true from gK h];rfl
theorem Vq {n D:Nat}{L:List Int}(h:pj n D L){k:Nat}(hk:1≤k):0<(jv n D L k).length∧(∀g∈jv n D L k,wY g)∧(cv n D (gG L k) (jv n D L k)).length≤50000:=by
 have h1:=h.l1
 rcases bA k L.length with hlt|hge
 ·rw[←sG hlt]
  refine⟨(zP h k).1,fun g hg=>?_,?_⟩
  ·have:=(Ew h k om g hg).2.2.1
   refine⟨?_,om⟩
   rw[this]
   cases k with
   |zero=>omega
   |succ m=>rfl
  ·rw[←sF hlt,←yI n D hlt]
   exact(zP h (k+1)).2
 ·have e:jv n D L k=[gz]:=by
   unfold jv
   rw[show Nat.blt k L.length=false from Bool.eq_false_iff.2 fun e=>by have:=aU e;omega];rfl
  rw[e,zp]
  have:=(h.pr _ (sj h.l0 k)).2
  exact⟨Nat.one_pos,fun g hg=>by rw[dU.1 hg];exact⟨rfl,de⟩,by rw[List.length_singleton,Nat.one_mul];exact this⟩
theorem SO {n D:Nat}{L:List Int}(h:pj n D L)(k:Nat):(jv n D L k).length≤50000:=by
 unfold jv
 cases Nat.blt k L.length with
 |true=>exact(zP h k).2
 |false=>exact aU rfl
structure lL (n D:Nat):Prop where
 h0:0<n
 hn:n≤4
 d0:0<D
 hd:D≤48
 pr:∀p∈bQ (2*D),2≤p∧(vv p.toNat D).1≤5
 L:pj n D (bQ (2*D))
def GN (n D:Nat):List bV:=[
 ⟨16,[],fun A=>match A with
  |[.int .i64 q]=>some (aI (.num .i64) (bQ (2*D)),[q=((2*D:Nat):Int)])
  |_=>none⟩,
 ⟨17,[],fun A=>match A with
  |[.int .i64 a,.int .i64 b,.int .i64 p]=>some (aI .loc (dC n D p),[a=(n:Int)∧b=(D:Int)∧p∈bQ (2*D)])
  |_=>none⟩,
 ⟨18,[],fun A=>match A with
  |[.agg [.int .i64 a,.int .i64 b,.sl m 2 row]]=>some (.int .i64 (eU ⟨a,b,bb m row⟩),[(∀i,i<m→row i=aa.loc.rvs (aa.loc.of (row i)))∧bG ⟨a,b,bb m row⟩∧1≤b∧b≤48])
  |_=>none⟩,
 ⟨19,[],fun A=>match A with
  |[.agg [.int .i64 a,.int .i64 b,.sl m 2 row],.agg [.int .i64 a',.int .i64 b',.sl m' 2 row']]=>some (.int .i64 (cX ⟨a,b,bb m row⟩ ⟨a',b',bb m' row'⟩),[(∀i,i<m→row i=aa.loc.rvs (aa.loc.of (row i)))∧(∀i,i<m'→row' i=aa.loc.rvs (aa.loc.of (row' i)))∧bG ⟨a,b,bb m row⟩∧bG ⟨a',b',bb m' row'⟩])
  |_=>none⟩]
theorem rQ {n D:Nat}(h:lL n D):∀e∈GN n D,ch Tryz.prog e:=by
 intro e he
 simp only[GN,bx,cC,cH]at he
 rcases he with rfl|rfl|rfl|rfl
 all_goals
  intro A R ms hq hm
  simp only at hq
  split at hq
  all_goals first|(cases hq;done)|cases hq
 ·have:=ay hm
  subst this
  have h1:=h.d0
  have h2:=h.hd
  exact D3 (2*D) om om
 ·obtain⟨rfl,rfl,h3⟩:=ay hm
  obtain⟨p1,p2⟩:=h.pr _ h3
  have h2:=h.hd
  exact Rp n D _ h.h0 h.hn h.d0 om h3 p2 (h.L.pr _ h3).2
 ·obtain⟨h1,h2,h3,h4⟩:=ay hm
  exact ar.imp (Ot ⟨_,_,bb _ _⟩ h2.1 h2.2 ⟨h3,h4⟩) (.cons (.agg (.cons .same (.cons .same (.cons (fN.vals .loc h1) .nil)))) .nil)
 ·obtain⟨h1,h2,h3,h4⟩:=ay hm
  exact ar.imp (RD ⟨_,_,bb _ _⟩ ⟨_,_,bb _ _⟩ h3 h4) (.cons (.agg (.cons .same (.cons .same (.cons (fN.vals .loc h1) .nil)))) (.cons (.agg (.cons .same (.cons .same (.cons (fN.vals .loc h2) .nil)))) .nil))
theorem Aw (n D:Nat)(p:Int){X:List af}{j:Nat}(h:j<X.length):cv n D p (X.take j)++(dC n D p).map (cL n D (gW X j).locs)=cv n D p (X.take (j+1)):=by rw[QD n D p h,zQ h]
theorem In (n D:Nat)(p:Int){X:List af}(h:0<X.length):(dC n D p).map (cL n D (gW X 0).locs)=cv n D p (X.take 1):=Aw n D p h
theorem Io (n D:Nat){L:List Int}{k:Nat}(h:k<L.length):cv n D (gG L k) (jv n D L k)=cJ n D (L.take (k+1)):=by rw[yI n D h,sF h,sG h]
def raS (n D:Nat)(p:Int)(L:List Int)(k1:Nat)(X:List af):Option Nat→St
 |none=>⟨(9,.nils)::(je n D p L (vi k1)++lK X (.int .i64 0)),[(1001,eI X)],1011⟩
 |some j=>⟨(9,.lo 1010 (cv n D p (X.take j)).length)::(je n D p L (vi k1)++lK X (vi j)),[(1010,eI (cv n D p (X.take j))),(1001,eI X)],1011⟩
def K4 (n D:Nat)(p:Int)(L:List Int)(k1:Nat)(X:List af):aA:=⟨⟨(9,.nils)::(je n D p L (vi k1)++lK X (.int .i64 0)),[(1001,eI X)],1010⟩,none,fun _=>(.exit 2,⟨(9,.lo 1010 (cv n D p X).length)::je n D p L (vi k1),[(1010,eI (cv n D p X))],1100⟩)⟩
def raU (X:List af):Option Nat→Nat
 |none=>X.length+1
 |some k=>X.length-k
def raI (X:List af):Option Nat→Prop
 |none=>True
 |some k=>1≤k∧k≤X.length
theorem SP (n D:Nat)(p:Int)(L:List Int)(k1:Nat)(X:List af)(hH:lL n D)(hp:p∈bQ (2*D))(hX0:0<X.length)(hX:∀g∈X,wY g)(hB:(cv n D p X).length≤50000)(hXB:X.length≤50000):An 2 Tryz.f6 [0,1,0,1,1,0,0,1,1,0,0,1,0,1,1,1] (K4 n D p L k1 X):=by
 refine mL (cE (rQ hH)) (raS n D p L k1 X) (raU X) (fun o=>raI X o) (fun i:Option Nat=>match i with|(none)=>[([0,1,1,0,0,1,1,0,0,1,0,1,1,0,0,1,1,0,0,1,0,1,1,1],JB n D p L k1 X (gW X 0) (dC n D p))]|(some j)=>[([0,1,1,0,0,1,1,0,0,1,0,1,1,0,0,1,1,0,0,1,0,1,1,1],JC n D p L k1 X (gW X j) j (cv n D p (X.take j)) (dC n D p))]) ?_ ?_ ?_
 ·intro o hI
  have hQ:=hH.L.pr p hp
  rcases o with _|j
  ·have hg:=Fs (R:=wY) hX ⟨rfl,de⟩ 0
   exact aW (Qi n D p L k1 X (gW X 0) (dC n D p) hQ.1 hQ.2 hg.1 hg.2)
  ·have hg:=Fs (R:=wY) hX ⟨rfl,de⟩ j
   have hl:=Vp n D p X j
   exact aW (Qj n D p L k1 X (gW X j) j (cv n D p (X.take j)) (dC n D p) hQ.1 hQ.2 hg.1 hg.2 om)
 ·exact st (none) (let y1:=aa.num IntKind.i64;[rq (↑n:Int),rq (↑D:Int),p=p,sr L fun i=>y1.rvs (L.getD i y1.zero),rq (↑L.length:Int),rq (↑k1:Int),rq X.length,rq (↑X.length:Int),X=X]) (by refine⟨?_,?_,?_,?_,?_,?_,?_,?_,(?_:X=X)⟩<;>(first|exact tr|rfl|omega|exact⟨rfl,rfl⟩)) (by exact trivial)
 ·intro o hI
  rcases o with _|j
  rotate_right
  refine oe (decide ((↑j:Int)<↑X.length)) (fun d1=>aq [true] (some (j+1)) (let v1:=aa.num IntKind.i64;let v2:=X.getD j aa.gen.zero;let v3:=dC n D p;let v4:=List.take j X;let v5:=(↑X.length:Int);let v6:=List.take (j+1) X;[(cv n D p v4++List.map (cL n D (gW X j).locs) v3).length=(cv n D p v6).length,rq (↑n:Int),rq (↑D:Int),p=p,sr L fun i=>v1.rvs (L.getD i v1.zero),rq (↑L.length:Int),rq (↑k1:Int),rq X.length,rq v5,w6.wrap ((↑j:Int)+1)=↑(j+1),cv n D p v4++List.map (cL n D (gW X j).locs) v3=cv n D p v6,X=X,rq ((cv n D p v4).length),sq aa.loc v3,rq (↑v3.length:Int),rq (↑n:Int),rq (↑D:Int),p=p,sr L fun i=>v1.rvs (L.getD i v1.zero),rq (↑L.length:Int),rq (↑k1:Int),rq X.length,rq v5,rq (↑j:Int),rq (cv n D p v4),v2.dim=(gW X j).dim,v2.det=(gW X j).det,v2.locs.length=(gW X j).locs.length∧(fun i=>(v2.locs.getD i Loc.zero).rvs)=fun i=>((gW X j).locs.getD i Loc.zero).rvs,X=X,(↑n:Int)=↑n∧(↑D:Int)=↑D∧p∈bQ ((2:Nat)*D),j<X.length,(0:Int)≤↑j∧(↑j:Int)<v5,ty d1]) ?_ ?_ ?_)
   (fun d1=>br [false] (let v1:=aa.num IntKind.i64;[(cv n D p (List.take j X)).length=(cv n D p X).length,rq (↑n:Int),rq (↑D:Int),p=p,sr L fun i=>v1.rvs (L.getD i v1.zero),rq (↑L.length:Int),rq (↑k1:Int),cv n D p (List.take j X)=cv n D p X,ty d1]) ?_)
  all_goals with_reducible repeat' first|exact dA|refine bk ?_ ?_|refine bm ?_
  rotate_right
  refine oe (decide ((0:Int)<↑X.length)) (fun d1=>aq [true] (some 1) (let v1:=aa.num IntKind.i64;let v2:=X.getD (Int.toNat (0:Int)) aa.gen.zero;let v3:=gW X (0:Nat);let v4:=dC n D p;let v5:=(↑X.length:Int);[(List.map (cL n D v3.locs) v4).length=(cv n D p (List.take (1:Nat) X)).length,rq (↑n:Int),rq (↑D:Int),p=p,sr L fun i=>v1.rvs (L.getD i v1.zero),rq (↑L.length:Int),rq (↑k1:Int),rq X.length,rq v5,w6.wrap ((0:Int)+1)=↑(1:Nat),List.map (cL n D v3.locs) v4=cv n D p (List.take (1:Nat) X),X=X,sq aa.loc v4,rq (↑v4.length:Int),rq (↑n:Int),rq (↑D:Int),p=p,sr L fun i=>v1.rvs (L.getD i v1.zero),rq (↑L.length:Int),rq (↑k1:Int),rq X.length,rq v5,v2.dim=v3.dim,v2.det=v3.det,v2.locs.length=v3.locs.length∧(fun i=>(v2.locs.getD i Loc.zero).rvs)=fun i=>(v3.locs.getD i Loc.zero).rvs,X=X,(↑n:Int)=↑n∧(↑D:Int)=↑D∧p∈bQ ((2:Nat)*D),Int.toNat (0:Int)<X.length,(0:Int)≤0∧(0:Int)<v5,ty d1]) ?_ ?_ ?_)
   (fun d1=>aT.no ?_)
  all_goals with_reducible repeat' first|exact dA|refine bk ?_ ?_|refine bm ?_
  all_goals first|(refine cy.mk ?_;(first|(have dd:=oT d1;show X.length-(j+1)<X.length-j;omega)|(show X.length-1<X.length+1;omega)))|(refine bD.mk ?_;(have dd:=oT d1;first|exact⟨rA (aY j),om⟩|exact⟨aZ 1,om⟩))|(refine aT.mk ?_;(have dd:=oF d1;exact absurd hX0 om))|(first|exact tz|exact⟨rfl,rfl,hp⟩|rfl|(have dd:0<X.length:=hX0;first|exact dd|exact⟨om,om⟩|exact In n D p dd|exact congrArg List.length (In n D p dd)|(have he:X.getD 0 af.zero=gW X 0:=zQ dd;first|exact congrArg af.dim he|exact congrArg af.det he|exact Mg))|(have hI:1≤j∧j≤X.length:=hI;first|(have dd:j<X.length:=bY;first|exact dd|exact⟨om,om⟩|exact fk|exact Aw n D p dd|exact congrArg List.length (Aw n D p dd)|(have he:X.getD j af.zero=gW X j:=zQ dd;first|exact congrArg af.dim he|exact congrArg af.det he|exact Mg))|(have dd:¬j<X.length:=eZ;rw[show j=X.length by omega,pG])))
theorem Ip (n D:Nat){L:List Int}(h:0<L.length):(dC n D (gG L 0)).map (cL n D [])=cJ n D (L.take 1):=by
 rw[yI n D h,sF h]
 unfold cv
 rw[show cJ n D (L.take 0)=[⟨(n:Int),(D:Int),[]⟩]from rfl,fo]
 exact(gi _).symm
def BH (n D:Nat)(L:List Int)(k:AV):List (Nat×AV):=[(0,vi n),(1,vi D),(38,(aI (.num .i64) L).av),(39,vi L.length),(40,k)]
def K5 (n D:Nat):ai:=⟨.plain [vi n,vi D,.nils],32,3,false,true⟩
def rpS (n D:Nat)(L:List Int):Option Nat→St
 |none=>⟨(6,.slc 1000 0 1 1)::BH n D L (.int .i64 0),[(1000,K5 n D)],1002⟩
 |some k=>⟨(6,.lo 1001 (cJ n D (L.take k)).length)::BH n D L (vi k),[(1001,eI (cJ n D (L.take k)))],1002⟩
def rpA (n D:Nat)(L:List Int):aA:=⟨⟨(6,.slc 1000 0 1 1)::BH n D L (.int .i64 0),[(1000,K5 n D)],1001⟩,none,fun _=>(.exit 0,⟨[(6,.lo 1001 (cJ n D L).length)],[(1001,eI (cJ n D L))],1100⟩)⟩
def rpU (L:List Int):Option Nat→Nat
 |none=>L.length+1
 |some k=>L.length-k
def rpI (L:List Int):Option Nat→Prop
 |none=>True
 |some k=>1≤k∧k≤L.length
theorem SQ (n D:Nat)(L:List Int)(hH:lL n D)(hL:L=bQ (2*D)):An 2 Tryz.f6 [0,1,0,1,1,1] (rpA n D L):=by
 refine mL (cE (rQ hH)) (rpS n D L) (rpU L) (fun o=>rpI L o) (fun i:Option Nat=>match i with|(none)=>[([0,1,1,0,0,1,1,0,0,1,0,1,1,0,0,1,1,0,0,1,0,1,1,1],JA n D (gG L 0) L (dC n D (gG L 0)))]|(some k)=>[([0,1,0,1,1,0,0,1,1,0,0,1,0,1,1,1],K4 n D (gG L k) L k (jv n D L k))]) ?_ ?_ ?_
 ·intro o hI
  have hR:pj n D L:=by rw[hL];exact hH.L
  rcases o with _|k
  ·have hQ:=hR.pr _ (sj hR.l0 0)
   exact aW (Qh n D (gG L 0) L (dC n D (gG L 0)) hQ.1 hQ.2)
  ·have hx:=Vq hR (k:=k) hI.1
   have hb:=SO hR k
   exact aW (SP n D (gG L k) L k (jv n D L k) hH (by rw[←hL];exact sj hR.l0 k) hx.1 hx.2.1 hx.2.2 hb)
 ·exact st (none) (let y1:=aa.num IntKind.i64;[rq (↑n:Int),rq (↑D:Int),sr L fun i=>y1.rvs (L.getD i y1.zero),rq (↑L.length:Int),rq (↑n:Int),rq (↑D:Int)]) (by refine⟨?_,?_,?_,?_,?_,(?_:(↑D:Int)=↑D)⟩<;>(first|exact tr|rfl|omega|exact⟨rfl,rfl⟩)) (by exact trivial)
 ·intro o hI
  have hR:pj n D L:=by rw[hL];exact hH.L
  rcases o with _|k
  rotate_right
  refine oe (decide ((↑k:Int)<↑L.length)) (fun d1=>aq [true] (some (k+1)) (let v1:=aa.num IntKind.i64;let v2:=(↑L.length:Int);let v3:=jv n D L k;let v4:=List.take (k+1) L;[(cv n D (gG L k) v3).length=(cJ n D v4).length,rq (↑n:Int),rq (↑D:Int),sr L fun i=>v1.rvs (L.getD i v1.zero),rq v2,w6.wrap ((↑k:Int)+1)=↑(k+1),cv n D (gG L k) v3=cJ n D v4,rq (↑n:Int),rq (↑D:Int),L.getD k v1.zero=gG L k,sr L fun i=>v1.rvs (L.getD i v1.zero),rq v2,rq (↑k:Int),(cJ n D (List.take k L)).length=v3.length,(↑(cJ n D (List.take k L)).length:Int)=↑v3.length,cJ n D (List.take k L)=jv n D L k,(0:Int)≤↑k∧(↑k:Int)<v2,ty d1]) ⟨?_,?_,?_,?_,?_,?_,?_,?_,?_,?_,?_,?_,?_,?_,?_,?_,?_,d1⟩ ?_ ?_)
   (fun d1=>br [false] [(cJ n D (List.take k L)).length=(cJ n D L).length,cJ n D (List.take k L)=cJ n D L,ty d1] ⟨?_,?_,d1⟩)
  rotate_right
  refine oe (decide ((0:Int)<↑L.length)) (fun d1=>aq [true] (some 1) (let v1:=aa.num IntKind.i64;let v2:=dC n D (gG L (0:Nat));let v3:=dC n D (L.getD (Int.toNat (0:Int)) v1.zero);let v4:=(↑L.length:Int);[(List.map (cL n D []) v2).length=(cJ n D (List.take (1:Nat) L)).length,rq (↑n:Int),rq (↑D:Int),sr L fun i=>v1.rvs (L.getD i v1.zero),rq v4,w6.wrap ((0:Int)+1)=↑(1:Nat),List.map (cL n D []) v2=cJ n D (List.take (1:Nat) L),v3.length=v2.length∧(fun i=>aa.loc.rvs (v3.getD i aa.loc.zero))=fun i=>aa.loc.rvs (v2.getD i aa.loc.zero),(↑v3.length:Int)=↑v2.length,rq (↑n:Int),rq (↑D:Int),L.getD (Int.toNat (0:Int)) v1.zero=gG L (0:Nat),sr L fun i=>v1.rvs (L.getD i v1.zero),rq v4,rq (↑n:Int),rq (↑D:Int),rq (↑n:Int),rq (↑D:Int),(↑n:Int)=↑n∧(↑D:Int)=↑D∧L.getD (Int.toNat (0:Int)) v1.zero∈bQ ((2:Nat)*D),(0:Int)≤0∧(0:Int)<v4,ty d1]) ⟨?_,?_,?_,?_,?_,?_,?_,?_,?_,?_,?_,?_,?_,?_,?_,?_,?_,?_,?_,?_,d1⟩ ?_ ?_)
   (fun d1=>aT.no ?_)
  all_goals first|(refine cy.mk ?_;(first|(have dd:=oT d1;show L.length-(k+1)<L.length-k;omega)|(show L.length-1<L.length+1;omega)))|exact Ci|(refine aT.mk ?_;(have dd:=oF d1;exact absurd hR.l0 om))|(first|exact tv|(have dd:0<L.length:=hR.l0;first|exact⟨om,om⟩|exact Ip n D dd|exact congrArg List.length (Ip n D dd)|(have he:L.getD 0 0=gG L 0:=sF dd;first|exact he|exact LX|exact Nf|exact⟨rfl,rfl,by rw[←hL];exact(show L.getD 0 0∈L by rw[he];exact sj hR.l0 0)⟩))|(have hI:1≤k∧k≤L.length:=hI;have hl1:=hR.l1;first|(have dd:k<L.length:=bY;first|exact⟨om,om⟩|exact fk|exact Io n D dd|exact congrArg List.length (Io n D dd)|exact sG dd|exact congrArg List.length (sG dd)|exact congrArg (fun z=>(((List.length z:Nat)):Int)) (sG dd)|(have he:L.getD k 0=gG L k:=sF dd;first|exact he|exact LX|exact Nf|exact⟨rfl,rfl,by rw[←hL];exact(show L.getD k 0∈L by rw[he];exact sj hR.l0 k)⟩))|(have dd:¬k<L.length:=eZ;rw[show k=L.length by omega,pG])))
def gt (g:af)(O:List af):Nat→Nat
 |0=>0
 |k+1=>bif decide (cX g (O.getD k af.zero)<0)then gt g O k else k+1
theorem zh (g:af)(O:List af):∀k,gt g O k≤k
 |0=>aZ 0
 |k+1=>by
  unfold gt
  have:=zh g O k
  cases decide (cX g (O.getD k af.zero)<0)
  ·exact aZ _
  ·rw[aM];omega
def qH (g:af)(O:List af):List af:=O.take (gt g O O.length)++([g]++O.drop (gt g O O.length))
theorem Gy {g:af}{O:List af}{k:Nat}{b:Bool}(h:0<k)(hc:decide (cX g (O.getD (k-1) af.zero)<0)=b):gt g O k=bif b then gt g O (k-1)else k:=by
 cases k with
 |zero=>omega
 |succ m=>rw[←hc];rfl
def eV (o:List af)(g:af):List af:=bif decide (eU g=0)then qH g o else o
def pe (D:Nat)(g:af):Prop:=bG g∧g.det=(D:Int)
theorem H9 {O:List af}{g:af}(h:¬eU g=0):eV O g=O:=by unfold eV;rw[bu h];rfl
theorem W5 {O:List af}{g:af}(h:eU g=0):eV O g=qH g O:=by unfold eV;rw[bZ h];rfl
theorem Gz {D:Nat}{X:List af}(hX:∀g∈X,pe D g){j:Nat}(h:j<X.length):pe D (X.getD j af.zero):=by
 rw[cj,eb h];exact hX _ (fp h)
def gx (X:List af):List af:=X.foldl eV []
theorem yB (g:af)(O:List af):(qH g O).length=O.length+1:=by
 unfold qH
 have:=zh g O O.length
 rw[bU,bU,n8,pH,List.length_singleton];omega
theorem Qc {R:af→Prop}{g:af}{O:List af}(hg:R g)(hO:∀x∈O,R x):∀x∈qH g O,R x:=by
 intro x hx
 unfold qH at hx
 rcases dV.1 hx with hx|hx
 ·exact hO x (rC hx)
 ·rcases dV.1 hx with hx|hx
  ·rw[dU.1 hx];exact hg
  ·exact hO x (List.mem_of_mem_drop hx)
structure mz (D:Nat)(X:List af)(i:Nat×Option (List af)):Prop where
 k:i.1≤X.length
 eq:i.2.getD []=(X.take i.1).foldl eV []
 ne:∀O,i.2=some O→0<O.length∧O.length≤i.1∧∀g∈O,pe D g
theorem W6 {D:Nat}{X:List af}:mz D X (0,none):=⟨aY _,rfl,fun O h=>by cases h⟩
theorem zi {X:List af}{j:Nat}(h:j<X.length):(X.take (j+1)).foldl eV []=eV ((X.take j).foldl eV []) (X.getD j af.zero):=by
 rw[tL X af.zero h,mU];rfl
theorem W7 {D:Nat}{X:List af}{j:Nat}(h:mz D X (j,none))(hj:j<X.length)(hc:¬eU (X.getD j af.zero)=0):mz D X (j+1,none):=by
 have h2:[]=(X.take j).foldl eV []:=h.eq
 refine⟨hj,?_,fun O h=>by cases h⟩
 show []=(X.take (j+1)).foldl eV []
 rw[zi hj,←h2]
 unfold eV
 rw[bu hc];rfl
theorem W8 {D:Nat}{X:List af}{j:Nat}(h:mz D X (j,none))(hj:j<X.length)(hb:pe D (X.getD j af.zero))(hc:eU (X.getD j af.zero)=0):mz D X (j+1,some [X.getD j af.zero]):=by
 have h2:[]=(X.take j).foldl eV []:=h.eq
 refine⟨hj,?_,fun O h=>by cases h;exact⟨Nat.one_pos,rA (aY j),fun g hg=>by rw[dU.1 hg];exact hb⟩⟩
 show [X.getD j af.zero]=(X.take (j+1)).foldl eV []
 rw[zi hj,←h2]
 unfold eV
 rw[bZ hc];rfl
theorem W9 {D:Nat}{X O:List af}{j:Nat}(h:mz D X (j,some O))(hj:j<X.length)(hb:pe D (X.getD j af.zero)):mz D X (j+1,some (eV O (X.getD j af.zero))):=by
 have h2:O=(X.take j).foldl eV []:=h.eq
 obtain⟨h3,h4,h5⟩:=h.ne O rfl
 refine⟨hj,?_,fun Y hY=>?_⟩
 ·show eV O (X.getD j af.zero)=(X.take (j+1)).foldl eV []
  rw[zi hj,h2]
 ·cases hY
  have h4:O.length≤j:=h4
  unfold eV
  cases decide (eU (X.getD j af.zero)=0)with
  |true=>rw[aM];exact⟨by rw[yB];omega,by rw[yB];show O.length+1≤j+1;omega,Qc hb h5⟩
  |false=>rw[bg];exact⟨h3,by show O.length≤j+1;omega,h5⟩
theorem Ia {D:Nat}{X:List af}{j:Nat}{o:Option (List af)}(h:mz D X (j,o))(hd:¬j<X.length):o.getD []=gx X:=by
 have h1:j≤X.length:=h.k
 have h2:o.getD []=(X.take j).foldl eV []:=h.eq
 rw[h2,show j=X.length by omega,pG];rfl
def wT (X:List af)(k:AV):List (Nat×AV):=[(75,.lo 1001 X.length),(76,vi X.length),(77,k)]
def BC (X O:List af)(g:af):List (Nat×ai):=[(1110,eI O),(1001,eI X),(1111,mA g.dim g.det (dR g.locs).av)]
def BD (X O:List af)(j:Nat)(k:AV):List (Nat×AV):=(14,.lo 1110 O.length)::(16,.ptr 1111 0)::(17,k)::wT X (vi j)
def KX (X O:List af)(g:af)(j:Nat):aA:=⟨⟨BD X O j (vi O.length),BC X O g,1120⟩,none,fun _=>(.exit 8,⟨BD X O j (vi (gt g O O.length:Int)),BC X O g,1130⟩)⟩
theorem Sj (n D:Nat)(X O:List af)(g:af)(j:Nat)(hH:lL n D)(hO:O.length≤100000)(hg:bG g)(hb:∀x∈O,bG x):An 2 Tryz.f6 [0,0,1,1,1,0,0,1,1,0,0,1,0,1,1,1,1,1] (KX X O g j):=by
 refine cN (cE (rQ hH)) aC (fun(k:Nat)=>(⟨BD X O j (vi k),BC X O g,1120⟩:St)) (fun(k:Nat)=>(k:Nat)) (fun(k:Nat)=>(k≤O.length∧gt g O k=gt g O O.length:Prop)) ?_ ?_
 ·exact st (O.length) [rq O.length,rq (↑O.length:Int),rq X.length,rq (↑X.length:Int),rq (↑j:Int),O=O,X=X,g.dim=g.dim,g.det=g.det,sl g.locs] (by refine⟨?_,?_,?_,?_,?_,?_,?_,?_,?_,(?_:sl g.locs)⟩<;>(first|exact tr|rfl|omega|exact⟨rfl,rfl⟩)) (by exact⟨aZ _,rfl⟩)
 ·intro k hI
  have hk:k≤O.length:=hI.1
  refine(let q1:List Prop→List Prop:=fun l0=>rq O.length::((↑k:Int)=↑(gt g O O.length))::rq X.length::rq (↑X.length:Int)::rq (↑j:Int)::(O=O)::(X=X)::(g.dim=g.dim)::(g.det=g.det)::(sl g.locs)::l0;oe (decide ((↑k:Int)>0)) (fun d1=>let y1:List Prop:=(let v2:=(↑k:Int)-1;let v1:=O.getD (w6.wrap v2).toNat aa.gen.zero;[(∀(i:Nat),i<g.locs.length→(fun i=>(g.locs.getD i z0l).rvs) i=aa.loc.rvs (aa.loc.of ((fun i=>(g.locs.getD i z0l).rvs) i)))∧(∀(i:Nat),i<v1.locs.length→(fun i=>(v1.locs.getD i z0l).rvs) i=aa.loc.rvs (aa.loc.of ((fun i=>(v1.locs.getD i z0l).rvs) i)))∧bG (af.mk g.dim g.det (bb g.locs.length fun i=>(g.locs.getD i z0l).rvs))∧bG (af.mk v1.dim v1.det (bb v1.locs.length fun i=>(v1.locs.getD i z0l).rvs)),(w6.wrap v2).toNat<O.length,(0:Int)≤w6.wrap v2∧w6.wrap v2<↑O.length,ty d1]);have u1:ao y1:=⟨?_,?_,?_,d1⟩;oe (decide (cX (af.mk g.dim g.det (bb g.locs.length fun i=>(g.locs.getD i z0l).rvs)) (af.mk (O.getD (w6.wrap ((↑k:Int)-1)).toNat aa.gen.zero).dim (O.getD (w6.wrap ((↑k:Int)-1)).toNat aa.gen.zero).det (bb (O.getD (w6.wrap ((↑k:Int)-1)).toNat aa.gen.zero).locs.length fun i=>((O.getD (w6.wrap ((↑k:Int)-1)).toNat aa.gen.zero).locs.getD i z0l).rvs))<0)) (fun d2=>aq [true,true] (k-1) (rq O.length::(w6.wrap ((↑k:Int)-1)=↑(k-1))::rq X.length::rq (↑X.length:Int)::rq (↑j:Int)::(O=O)::(X=X)::(g.dim=g.dim)::(g.det=g.det)::(sl g.locs)::ty d2::y1) ?_ ?_ ?_)
   (fun d2=>br [true,false] (q1 (ty d2::y1)) ?_))
   (fun d1=>br [false] (q1 [ty d1]) ?_))
  all_goals with_reducible repeat' first|exact dA|refine bk ?_ ?_|refine bm ?_
  all_goals((try clear u1);(try clear y1))
  all_goals first|(refine cy.mk ?_;(have dd:=oT d1;show k-1<k;omega))|(refine bD.mk ?_;(have dd:0<k:=bY;have ew:w6.wrap ((k:Int)-1)=((k-1:Nat):Int):=jg;have e2:=d2;rw[ia,ia,ew,bt]at e2;have h9:=Gy dd e2;exact⟨om,by rw[←hI.2,h9];rfl⟩))|exact cT|(first|exact tz|(have dd:0<k:=bY;have ew:w6.wrap ((k:Int)-1)=((k-1:Nat):Int):=jg;first|exact ew|(rw[ew,bt];omega)|(rw[ew];exact⟨om,om⟩)|exact⟨g8 _,g8 _,by rw[ia];exact hg,by rw[ia];exact AU hb _⟩|(have e2:=d2;rw[ia,ia,ew,bt]at e2;have h9:=Gy dd e2;rw[←hI.2,h9];rfl))|(have k0:k=0:=eZ;rw[←hI.2,k0];rfl))
theorem Sk {P:Program}{ng N:Nat}{fn:Func}{p q:List Nat}{A B:aA}(h:dy P ng N (cq fn p) A)(k:dy P ng N (cq fn q) B):∀x∈[(p,A),(q,B)],dy P ng N (cq fn x.1) x.2:=fun x hx=>by
 simp only[bx,cC,cH]at hx
 rcases hx with rfl|rfl
 ·exact h
 ·exact k
theorem U6 (n D:Nat)(L:List Int):cJ n D L=cJ n D (L.take L.length):=by rw[pG]
theorem Xa {n D:Nat}(h:lL n D):(cJ n D (bQ (2*D))).length≤50000:=h.L.len
theorem Sl {n D:Nat}(h:lL n D):∀g∈cJ n D (bQ (2*D)),pe D g:=by
 rw[U6]
 intro g hg
 obtain⟨a1,a2,a3,a4⟩:=Ew h.L _ (aZ _) g hg
 have:=h.L.l1
 exact⟨⟨om,a4⟩,a2⟩
def ruS (X:List af):Nat×Option (List af)→St
 |(j,none)=>⟨(14,.nils)::wT X (vi j),[(1001,eI X)],1111⟩
 |(j,some O)=>⟨(14,.lo 1110 O.length)::wT X (vi j),[(1110,eI O),(1001,eI X)],1111⟩
def ruA (X:List af):aA:=⟨⟨(14,.nils)::wT X (.int .i64 0),[(1001,eI X)],1110⟩,none,fun _=>(.exit 6,⟨[(14,.lo 1110 (gx X).length)],[(1110,eI (gx X))],1200⟩)⟩
theorem Sm (n D:Nat)(X:List af)(hH:lL n D)(hXB:X.length≤50000)(hX:∀g∈X,pe D g)(hO:0<(gx X).length):An 2 Tryz.f6 [0,1,0,1,1,1,1,1] (ruA X):=by
 refine mL (cE (rQ hH)) (ruS X) (fun i=>X.length-i.1) (fun i=>mz D X i) (fun i:Nat×Option (List af)=>match i with|(j,none)=>[]|(j,some O)=>[([0,0,1,1,1,0,0,1,1,0,0,1,0,1,1,1,1,1],KX X O (X.getD j af.zero) j)]) ?_ ?_ ?_
 ·rintro ⟨j,o⟩ hI
  rcases o with _|O
  ·exact fun x hx=>by cases hx
  ·have hk:j≤X.length:=hI.k
   obtain⟨h3,h4,h5⟩:=hI.ne O rfl
   exact aW (Sj n D X O (X.getD j af.zero) j hH (by have h4:O.length≤j:=h4;omega) (AU (fun g hg=>(hX g hg).1) j) fun x hx=>(h5 x hx).1)
 ·exact st (0,none) [rq X.length,rq (↑X.length:Int),(0:Int)=↑(0:Nat),X=X] (by refine⟨?_,?_,?_,(?_:X=X)⟩<;>(first|exact tr|rfl|omega|exact⟨rfl,rfl⟩)) (by exact W6)
 ·rintro ⟨j,o⟩ hI
  have hk:j≤X.length:=hI.k
  rcases o with _|O
  rotate_right
  refine oe (decide ((↑j:Int)<↑X.length)) (fun d1=>let y1:List Prop:=(let v1:=X.getD j aa.gen.zero;[(∀(i:Nat),i<v1.locs.length→(fun i=>(v1.locs.getD i z0l).rvs) i=aa.loc.rvs (aa.loc.of ((fun i=>(v1.locs.getD i z0l).rvs) i)))∧bG (af.mk v1.dim v1.det (bb v1.locs.length fun i=>(v1.locs.getD i z0l).rvs))∧(1:Int)≤v1.det∧v1.det≤48,j<X.length,(0:Int)≤↑j∧(↑j:Int)<↑X.length,ty d1]);have u1:ao y1:=⟨?_,?_,?_,d1⟩;oe (eU (af.mk (X.getD j aa.gen.zero).dim (X.getD j aa.gen.zero).det (bb (X.getD j aa.gen.zero).locs.length fun i=>((X.getD j aa.gen.zero).locs.getD i z0l).rvs))==0) (fun d2=>aq [true,false] (j+1,some (eV O (X.getD j af.zero))) (let v1:=X.getD j af.zero;let v6:=gt v1 O O.length;let v2:=(↑v6:Int);let v3:=bb v1.locs.length fun i=>(v1.locs.getD i z0l).rvs;let v4:=O.length-gt v1 O O.length;let v5:=(0:Int)≤v2∧v2≤↑O.length;let v7:=X.getD j aa.gen.zero;let v8:=[af.mk v1.dim v1.det v3];let v9:=(0:Int)≤v2∧v2≤v2;(gt v1 O O.length+((1:Nat)+v4)=(eV O v1).length)::rq X.length::rq (↑X.length:Int)::(w6.wrap ((↑j:Int)+1)=↑(j+1))::(List.take v6 O++(v8++List.drop v6 O)=eV O v1)::(X=X)::(gt v1 O O.length≤O.length∧(0:Nat)<1+v4∧gt v1 O O.length+((1:Nat)+v4)≤1000000)::((1:Nat)+v4=(v8++List.drop v6 O).length)::rq v6::v5::v9::((0:Nat)=0∧gt v1 O O.length=gt v1 O O.length)::(v8.length=1∧(1:Nat)+v4≤1000000)::(O.length-gt v1 O O.length=(List.drop v6 O).length)::rq (v1.dim)::rq (v1.det)::(v1.locs.length=v3.length∧(fun i=>(v1.locs.getD i z0l).rvs)=fun i=>(v3.getD i z0l).rvs)::v5::rq v6::v5::v9::rq O.length::rq (↑O.length:Int)::rq X.length::rq (↑X.length:Int)::rq (↑j:Int)::(O=O)::(X=X)::(v7.dim=v1.dim)::(v7.det=v1.det)::(v7.locs.length=v1.locs.length∧(fun i=>(v7.locs.getD i z0l).rvs)=fun i=>(v1.locs.getD i z0l).rvs)::ty (dN d2)::y1) ?_ ?_ ?_)
   (fun d2=>aq [true,true] (j+1,some (eV O (X.getD j af.zero))) ((O.length=(eV O (X.getD j af.zero)).length)::rq X.length::rq (↑X.length:Int)::(w6.wrap ((↑j:Int)+1)=↑(j+1))::(O=eV O (X.getD j af.zero))::(X=X)::ty (dN d2)::y1) ?_ ?_ ?_))
   (fun d1=>br [false] [O.length=(gx X).length,O=gx X,ty d1] ?_)
  all_goals with_reducible repeat' first|exact dA|refine bk ?_ ?_|refine bm ?_
  rotate_right
  refine oe (decide ((↑j:Int)<↑X.length)) (fun d1=>let y1:List Prop:=(let v1:=X.getD j aa.gen.zero;[(∀(i:Nat),i<v1.locs.length→(fun i=>(v1.locs.getD i z0l).rvs) i=aa.loc.rvs (aa.loc.of ((fun i=>(v1.locs.getD i z0l).rvs) i)))∧bG (af.mk v1.dim v1.det (bb v1.locs.length fun i=>(v1.locs.getD i z0l).rvs))∧(1:Int)≤v1.det∧v1.det≤48,j<X.length,(0:Int)≤↑j∧(↑j:Int)<↑X.length,ty d1]);have u1:ao y1:=⟨?_,?_,?_,d1⟩;oe (eU (af.mk (X.getD j aa.gen.zero).dim (X.getD j aa.gen.zero).det (bb (X.getD j aa.gen.zero).locs.length fun i=>((X.getD j aa.gen.zero).locs.getD i z0l).rvs))==0) (fun d2=>aq [true,false] (j+1,some [X.getD j af.zero]) (let v1:=X.getD j aa.gen.zero;let v2:=bb v1.locs.length fun i=>(v1.locs.getD i z0l).rvs;((1:Nat)+0=[X.getD j af.zero].length)::rq X.length::rq (↑X.length:Int)::(w6.wrap ((↑j:Int)+1)=↑(j+1))::([af.mk v1.dim v1.det v2]=[X.getD j af.zero])::(X=X)::((0:Nat)<1+0∧(1:Nat)+0≤1000000)::((1:Nat)+0=[af.mk v1.dim v1.det v2].length)::(∀(i:Nat),i<v1.locs.length→(fun i=>(v1.locs.getD i z0l).rvs) i=aa.loc.rvs (aa.loc.of ((fun i=>(v1.locs.getD i z0l).rvs) i)))::ty (dN d2)::y1) ⟨?_,?_,?_,?_,?_,?_,?_,?_,?_,(dN d2),u1⟩ ?_ ?_)
   (fun d2=>aq [true,true] (j+1,none) (rq X.length::rq (↑X.length:Int)::(w6.wrap ((↑j:Int)+1)=↑(j+1))::(X=X)::ty (dN d2)::y1) ⟨?_,?_,?_,?_,(dN d2),u1⟩ ?_ ?_))
   (fun d1=>aT.no ?_)
  all_goals first|(refine cy.mk ?_;(have dd:j<X.length:=bY;show X.length-(j+1)<X.length-j;omega))|(refine bD.mk ?_;(have dd:j<X.length:=bY;have hb:=Gz hX dd;first|exact W9 hI dd hb|(have hc:=d2;rw[ia]at hc;first|exact W8 hI dd hb (eq_of_beq hc)|exact W7 hI dd (bJ.1 hc))))|(refine aT.mk ?_;(have dd:¬j<X.length:=eZ;have h9:=Ia hI dd;exact absurd hO (by rw[←h9];exact mX 0)))|(first|exact tv|decide|exact g8 _|exact congrArg (fun z=>[z]) (ia _)|(have dd:j<X.length:=bY;have hb:=Gz hX dd;first|exact dd|exact⟨om,om⟩|exact fk|exact⟨g8 _,by rw[ia];exact hb.1,by have:=hb.2;have:=hH.d0;show 1≤(X.getD j af.zero).det;omega,by have:=hb.2;have:=hH.hd;show(X.getD j af.zero).det≤48;omega⟩|(have hc:=d2;rw[ia]at hc;have hc:=bJ.1 hc;first|exact(H9 hc).symm|exact congrArg List.length (H9 hc).symm))|(have dd:¬j<X.length:=eZ;have h9:=Ia hI dd;first|exact h9|exact Mn)|(have hK:=zh (X.getD j af.zero) O O.length;obtain⟨h3,h4,h5⟩:=hI.ne O rfl;have h4:O.length≤j:=h4;first|exact⟨hK,om,om⟩|exact⟨om,om⟩|exact⟨rfl,om⟩|(rw[bU,pH];rfl)|exact List.length_drop.symm|exact⟨congrArg List.length (f9 _).symm,congrArg (fun z=>fun i=>(z.getD i z0l).rvs) (f9 _).symm⟩|(have hc:=d2;rw[ia]at hc;have hc:eU (X.getD j af.zero)=0:=eq_of_beq hc;rw[W5 hc];first|(rw[yB];omega)|exact congrArg (fun z=>O.take (gt (X.getD j af.zero) O O.length)++([z]++O.drop (gt (X.getD j af.zero) O O.length))) (ia (X.getD j af.zero)))))
theorem Qd (n D:Nat)(hH:lL n D)(hO:0<(gx (cJ n D (bQ (2*D)))).length)(hO2:(gx (cJ n D (bQ (2*D)))).length≤64):ar Tryz.prog [] 6 [.int .i64 (n:Int),.int .i64 (D:Int)] (.tup [aI .gen (gx (cJ n D (bQ (2*D)))),.int .i64 0]):=by
 have h1:=hH.h0
 have h2:=hH.hn
 have h3:=hH.d0
 have h4:=hH.hd
 have z1:decide ((n:Int)<1)=false:=bu om
 have z2:decide ((n:Int)>8)=false:=bu om
 have z3:decide ((D:Int)<1)=false:=bu om
 have z4:decide ((D:Int)>10000)=false:=bu om
 have z5:decide ((((gx (cJ n D (bQ (2*D)))).length:Nat):Int)>64)=false:=bu om
 refine pr (cE (rQ hH)) Tryz.func6 (Sk (SQ n D (bQ (2*D)) hH rfl) (Sm n D (cJ n D (bQ (2*D))) hH (Xa hH) (Sl hH) hO)) ?_
 refine lr (tp 22222) (let t2:=bQ ((2:Nat)*D);let t1:=cJ n D t2;let t3:=aa.num IntKind.i64;[(gx t1).length=(gx t1).length∧(gx t1).length=(gx t1).length∧∀(i:Nat),i<(gx t1).length→(fun i=>aa.gen.rvs ((gx t1).getD i aa.gen.zero)) i=aa.gen.rvs ((gx t1).getD i aa.gen.zero),rq (0:Int),aj (decide ((↑(gx t1).length:Int)>64)) false,rq (t1.length),rq (↑t1.length:Int),rq t1,rq (↑n:Int),rq (↑D:Int),sr t2 fun i=>t3.rvs (t2.getD i t3.zero),rq (↑t2.length:Int),rq (↑n:Int),rq (↑D:Int),w6.wrap ((2:Int)*↑D)=↑((2:Nat)*D),aj (decide ((↑D:Int)>10000)) false,aj (decide ((↑D:Int)<1)) false,aj (decide ((↑n:Int)>8)) false,aj (decide ((↑n:Int)<1)) false]) ⟨?_,?_,z5,?_,?_,?_,?_,?_,?_,?_,?_,?_,?_,z4,z3,z2,z1⟩
 all_goals first|(first|exact tz|exact re|exact fk)
noncomputable def NN (n d:Nat):Bool:=w5 n d (bz (2*d)) (cn n d (bz (2*d)))
def my (n d:Nat):List af:=eH (cn n d (bz (2*d)))
theorem zJ (n d:Nat)(hn:1≤n∧n≤4)(hd:0<d∧d≤48)(h:NN n d=true):ar Tryz.prog [ci] 5 [.int .i64 (n:Int),.int .i64 (d:Int)] (.tup [aI .gen (my n d),.int .i64 0])∧Bd n d (my n d):=by
 obtain⟨hG,hO,hl,hp⟩:=S4 hn hd rfl h
 refine⟨?_,hO⟩
 have hlen:(cn n d (bz (2*d))).length≤64:=by
  have:=(oG (cn n d (bz (2*d)))).length_eq
  have:=hO.len
  omega
 have e1:ik (cn n d (bz (2*d)))=my n d:=IW om
 have e2:jf (cn n d (bz (2*d)))=0:=vQ om
 have key:ar Tryz.prog [ci] 5 [.int .i64 (n:Int),.int .i64 (d:Int)] (.tup [aI .gen (ik (cn n d (bz (2*d)))),.int .i64 (jf (cn n d (bz (2*d))))]):=by
  generalize bz (2*d)=Q at hG hl hp
  match Q,hG,hl,hp with
  |[],_,_,hp=>simp at hp
  |[q0],hG,_,_=>exact abq n d q0 hG
  |[q0,q1],hG,_,_=>exact abr n d q0 q1 hG
  |[q0,q1,q2],hG,_,_=>exact abs n d q0 q1 q2 hG
  |_::_::_::_::_,_,hl,_=>exact absurd hl (by simp only[cR];omega)
 rw[e1,e2]at key
 exact key
structure CU (A B:List af):Prop where
 g1:ar Tryz.prog [ci] 5 [.int .i64 2,.int .i64 1] (.tup [aI .gen A,.int .i64 0])
 g3:ar Tryz.prog [ci] 5 [.int .i64 2,.int .i64 3] (.tup [aI .gen B,.int .i64 0])
 la:A.length=1
 lb:B.length=2
 ck:dr (A.getD 0 af.zero)=0
 bd:bG (A.getD 0 af.zero)
theorem W4 (g:af):(⟨g.dim,g.det,bb g.locs.length (fun i=>(g.locs.getD i QfSy.Loc.zero).rvs)⟩:af)=g:=ia g
def H8 (A B:List af):List bV:=[
 ⟨5,[ci],fun X=>match X with
  |[.int .i64 a,.int .i64 b]=>some (.tup [aI .gen (bif Nat.beq b.toNat 1 then A else B),.int .i64 0],[a=2∧(b=1∨b=3)])
  |_=>none⟩,
 ⟨8,[ci],fun X=>match X with
  |[.agg [.int .i64 a,.int .i64 b,.sl n 2 row]]=>some (.int .i64 (dr ⟨a,b,bb n row⟩),[(∀i,i<n→row i=aa.loc.rvs (aa.loc.of (row i)))∧n≤1000∧∀l∈bb n row,l.list.length≤1000])
  |_=>none⟩]
theorem Qb {A B:List af}(h:CU A B):∀e∈H8 A B,ch Tryz.prog e:=by
 intro e he
 simp only[H8,bx,cC,cH]at he
 rcases he with rfl|rfl
 all_goals
  intro X R ms hq hm
  simp only at hq
  split at hq
  all_goals first|(cases hq;done)|cases hq
 ·obtain⟨rfl,h1|h1⟩:=ay hm
  ·subst h1;exact h.g1
  ·subst h1;exact h.g3
 ·obtain⟨h1,h2,h3⟩:=ay hm
  exact ar.imp (Du ⟨_,_,bb _ _⟩ xB h3) (.cons (.agg (.cons .same (.cons .same (.cons (fN.vals .loc h1) .nil)))) .nil)
theorem Gx (A B:List af)(hA:CU A B):ar Tryz.prog [ci] 4 [] (.bool true):=by
 have z1:((0:Int)==0)=true:=rfl
 have z2:((((bif(Int.toNat (1:Int)).beq (1:Nat)then A else B).length:Nat):Int)==1)=true:=by show(((A.length:Nat):Int)==1)=true;rw[hA.la];rfl
 have z3:((((bif(Int.toNat (3:Int)).beq (1:Nat)then A else B).length:Nat):Int)==2)=true:=by show(((B.length:Nat):Int)==2)=true;rw[hA.lb];rfl
 have hla:=hA.la
 have hg:=W4 (A.getD 0 af.zero)
 refine pr (cE (Qb hA)) Tryz.func4 aC ?_
 refine lr (tp 1111) (let v1:=(bif(Int.toNat (1:Int)).beq (1:Nat)then A else B).getD (Int.toNat (0:Int)) aa.gen.zero;let v2:=(↑(bif(Int.toNat (1:Int)).beq (1:Nat)then A else B).length:Int);[(dr (af.mk v1.dim v1.det (bb v1.locs.length fun i=>(v1.locs.getD i Loc.zero).rvs))==0)=true,(∀(i:Nat),i<v1.locs.length→(fun i=>(v1.locs.getD i Loc.zero).rvs) i=aa.loc.rvs (aa.loc.of ((fun i=>(v1.locs.getD i Loc.zero).rvs) i)))∧v1.locs.length≤1000∧∀(l:QfSy.Loc),(l∈bb v1.locs.length fun i=>(v1.locs.getD i Loc.zero).rvs)→l.list.length≤1000,(0:Int)≤0∧(0:Int)<v2,aj ((↑(bif(Int.toNat (3:Int)).beq (1:Nat)then A else B).length:Int)==2) true,aj (v2==1) true,aj ((0:Int)==0) true,aj ((0:Int)==0) true,(2:Int)=2∧((3:Int)=1∨(3:Int)=3),(2:Int)=2∧((1:Int)=1∨(1:Int)=3)]) ⟨?_,?_,?_,z3,z2,z1,z1,?_,(?_:(2:Int)=2∧((1:Int)=1∨(1:Int)=3))⟩
 all_goals first|(first|exact tr|exact⟨rfl,.inl rfl⟩|exact⟨rfl,.inr rfl⟩|(show(0:Int)≤0∧(0:Int)<((A.length:Nat):Int);omega)|(refine⟨g8 (A.getD 0 af.zero).locs,hA.bd.1,?_⟩;show∀l∈bb (A.getD 0 af.zero).locs.length (fun i=>((A.getD 0 af.zero).locs.getD i QfSy.Loc.zero).rvs),l.list.length≤1000;rw[f9];exact hA.bd.2)|(show(dr (af.mk (A.getD 0 af.zero).dim (A.getD 0 af.zero).det (bb (A.getD 0 af.zero).locs.length fun i=>((A.getD 0 af.zero).locs.getD i QfSy.Loc.zero).rvs))==0)=true;rw[hg,hA.ck];rfl))
def jx (x y:Int)(L:List af)(k:AV):List (Nat×AV):=[(0,.vint .u8 x),(1,.vint .u8 y),(5,(aI .gen L).av),(33,(aI .gen L).av),(34,vi L.length),(35,k)]
theorem aaF {n d:Nat}{L:List af}(hO:Bd n d L){k:Nat}(hk:k<L.length):(L.getD k af.zero).dim=(n:Int)∧(L.getD k af.zero).det=(d:Int)∧dr (L.getD k af.zero)=0∧Lv (L.getD k af.zero)∧bG (L.getD k af.zero):=by
 rw[cj,eb hk]
 exact hO.al _ (fp hk)
theorem wx4 {x n:Int}(hx:0≤x∧x≤255)(hn:n=1+x%4):IntKind.i64.wrap (1+(IntKind.i64.wrap x).tmod 4)=n:=by
 rw[kP (n:=x) om om,gh hx.1,wo];exact hn.symm
def py (L:List QfSy.Loc):Prop:=∀l∈L,l.list.length≤1000
theorem td {f:List Con→List QfSy.Loc}{R:List (List Con)}(h:∀y∈R,py (f y)):py (R.flatMap f):=by
 intro l hl
 obtain⟨y,hy,hl⟩:=List.mem_flatMap.1 hl
 exact h y hy l hl
theorem Zm {x:List Con}(h:dK x):py (f3 x):=td fun y hy l hl=>by
 have h1:=qs _ _ _ _ _ hy
 have h2:=h.l1
 unfold f4 at hl
 cases hb:dt 2 y with
 |true=>rw[hb]at hl;rw[dU.1 hl];show y.length≤1000;omega
 |false=>rw[hb]at hl;cases hl
theorem Zn {x:List Con}(h:dK x):py (f2 x):=td fun y hy=>Zm (oL _ _ _ h y hy)
theorem Zo {x:List Con}(h:dK x):py (f1 x):=td fun y hy=>Zn (oK _ _ _ h y hy)
theorem Zp (p:Int){x:List Con}(h:dK x):py (o1 p x):=td fun y hy l hl=>by
 have h2:=(oK _ _ _ h y hy).l1
 rw[dU.1 hl];show y.length≤1000;omega
theorem WJ {n D:Nat}{p:Int}(h0:0<n)(hn:n≤4)(hv:(vv p.toNat D).1≤5):py (dC n D p):=by
 unfold dC
 refine td fun y hy=>?_
 have hy:=FY h0 hn hv y hy
 cases decide (p=2)with
 |true=>exact Zo hy
 |false=>exact Zp p hy
def CL (a b:Con):Bool:=decide (a.exp=b.exp)&&(decide (a.dim=b.dim)&&(decide (a.sign=b.sign)&&((a.odd==b.odd)&&decide (a.oddity=b.oddity))))
theorem WK {a b:Con}(h:CL a b=true):a=b:=by
 unfold CL at h
 simp only[aX,gC,b6]at h
 obtain⟨h1,h2,h3,h4,h5⟩:=h
 cases a;cases b
 simp only at h1 h2 h3 h4 h5
 subst h1 h2 h3 h4 h5;rfl
def rx {α:Type}(e:α→α→Bool):List α→List α→Bool
 |[],[]=>true
 |a::l,b::m=>e a b&&rx e l m
 |_,_=>false
theorem vu {α:Type}{e:α→α→Bool}(he:∀{a b},e a b=true→a=b):∀{l m:List α},rx e l m=true→l=m
 |[],[],_=>rfl
 |a::l,b::m,h=>by
  unfold rx at h
  rw[aX]at h
  rw[he h.1,vu he h.2]
 |[],_::_,h=>by cases h
 |_::_,[],h=>by cases h
def Br (a b:QfSy.Loc):Bool:=decide (a.prime=b.prime)&&rx CL a.list b.list
theorem Ul {a b:QfSy.Loc}(h:Br a b=true):a=b:=by
 unfold Br at h
 rw[aX,gC]at h
 cases a;cases b
 have h2:=vu (fun{a b}h=>WK h) h.2
 simp only at h h2
 rw[h.1,h2]
def Bs (a b:af):Bool:=decide (a.dim=b.dim)&&(decide (a.det=b.det)&&rx Br a.locs b.locs)
theorem Un {a b:af}(h:Bs a b=true):a=b:=by
 unfold Bs at h
 simp only[aX,gC]at h
 obtain⟨h1,h2,h3⟩:=h
 cases a;cases b
 have h4:=vu (fun{a b}h=>Ul h) h3
 simp only at h1 h2 h4
 rw[h1,h2,h4]
def Kk (n D:Nat)(p:Int)(l:Nat):Bool:=decide (2≤p)&&(Nat.ble (vv p.toNat D).1 5&&(Nat.ble 1 l&&Nat.ble l 50000))
def Bt (n D:Nat)(P:List Int)(X S:List af):Bool:=Nat.ble 1 P.length&&(Nat.ble P.length 31&&(P.all (fun p=>Kk n D p (dC n D p).length)&&(Nat.ble X.length 50000&&rx Bs (gx X) S)))
theorem RT {n D:Nat}(h0:0<n)(hn:n≤4)(d0:0<D)(hd:D≤48){S:List af}(h:Bt n D (bQ (2*D)) (cJ n D (bQ (2*D))) S=true):lL n D∧gx (cJ n D (bQ (2*D)))=S:=by
 unfold Bt at h
 simp only[aX]at h
 obtain⟨h1,h2,h3,h4,h5⟩:=h
 have hp:∀p∈bQ (2*D),(2≤p∧(vv p.toNat D).1≤5)∧0<(dC n D p).length∧(dC n D p).length≤50000:=by
  intro p hp
  have:=bX.1 h3 p hp
  unfold Kk at this
  simp only[aX,gC]at this
  obtain⟨a1,a2,a3,a4⟩:=this
  exact⟨⟨a1,aU a2⟩,aU a3,aU a4⟩
 exact⟨⟨h0,hn,d0,hd,fun p h=>(hp p h).1,⟨aU h1,aU h2,fun p h=>(hp p h).2,fun p h=>WJ h0 hn (hp p h).1.2,aU h4⟩⟩,vu (fun{a b}h=>Un h) h5⟩
def CM (n D:Nat)(Q:List bB)(X:List af):Bool:=w5 n D Q X&&Bt n D (bQ (2*D)) (cJ n D (bQ (2*D))) (eH X)
def pz (n D:Nat):Bool:=CM n D (bz (2*D)) (cn n D (bz (2*D)))
def iL (n a:Nat):Nat→Bool
 |0=>true
 |m+1=>pz n a&&iL n (a+1) m
theorem jn:∀{m n a D:Nat},iL n a m=true→a≤D→D<a+m→pz n D=true
 |0,n,a,D,h,h1,h2=>by omega
 |m+1,n,a,D,h,h1,h2=>by
  unfold iL at h
  simp only[aX]at h
  rcases Nat.eq_or_lt_of_le h1 with e|h3
  ·rw[←e];exact h.1
  ·exact jn h.2 h3 om
theorem AY {n D:Nat}(h:pz n D=true):NN n D=true:=by
 unfold pz CM at h
 exact(Bool.and_eq_true_iff.1 h).1
theorem Zq {n D:Nat}(h0:0<n)(hn:n≤4)(d0:0<D)(hd:D≤48)(h:pz n D=true):lL n D∧gx (cJ n D (bQ (2*D)))=my n D:=by
 unfold pz CM at h
 exact RT h0 hn d0 hd (Bool.and_eq_true_iff.1 h).2
theorem X6 (a b:Int)(h0:decide (a<1)=true):ar Tryz.prog [ci] 5 [.int .i64 a,.int .i64 b] (.tup [aI .gen [],.int .i64 1]):=by
 refine pr c0 Tryz.func5 aC ?_
 refine lr [true] [rq (0:Nat),rq (1:Int),aj (decide (a<1)) true] ⟨?_,?_,h0⟩
 all_goals first|exact nW
theorem X7 (a b:Int)(g0:decide (a<1)=false)(h1:decide (a>8)=true):ar Tryz.prog [ci] 5 [.int .i64 a,.int .i64 b] (.tup [aI .gen [],.int .i64 1]):=by
 refine pr c0 Tryz.func5 aC ?_
 refine lr [false,true] [rq (0:Nat),rq (1:Int),aj (decide (a>8)) true,aj (decide (a<1)) false] ⟨?_,?_,h1,g0⟩
 all_goals first|exact nW
theorem X8 (a b:Int)(g0:decide (a<1)=false)(g1:decide (a>8)=false)(h2:decide (b<1)=true):ar Tryz.prog [ci] 5 [.int .i64 a,.int .i64 b] (.tup [aI .gen [],.int .i64 1]):=by
 refine pr c0 Tryz.func5 aC ?_
 refine lr (tp 221) [rq (0:Nat),rq (1:Int),aj (decide (b<1)) true,aj (decide (a>8)) false,aj (decide (a<1)) false] ⟨?_,?_,h2,g1,g0⟩
 all_goals first|exact nW
theorem X9 (a b:Int)(g0:decide (a<1)=false)(g1:decide (a>8)=false)(g2:decide (b<1)=false)(h3:decide (b>10000)=true):ar Tryz.prog [ci] 5 [.int .i64 a,.int .i64 b] (.tup [aI .gen [],.int .i64 1]):=by
 refine pr c0 Tryz.func5 aC ?_
 refine lr (tp 2221) [rq (0:Nat),rq (1:Int),aj (decide (b>10000)) true,aj (decide (b<1)) false,aj (decide (a>8)) false,aj (decide (a<1)) false] ⟨?_,?_,h3,g2,g1,g0⟩
 all_goals first|exact nW
theorem pgr (a b:Int)(h:a<1∨8<a∨b<1∨10000<b):ar Tryz.prog [ci] 5 [.int .i64 a,.int .i64 b] (.tup [aI .gen [],.int .i64 1]):=by
 by_cases h0:a<1
 ·exact X6 a b (bZ h0)
 ·by_cases h1:a>8
  ·exact X7 a b (bu h0) (bZ h1)
  ·by_cases h2:b<1
   ·exact X8 a b (bu h0) (bu h1) (bZ h2)
   ·exact X9 a b (bu h0) (bu h1) (bu h2) (bZ om)
theorem Ya (a b:Int)(h0:decide (a<1)=true):ar Tryz.prog [] 6 [.int .i64 a,.int .i64 b] (.tup [aI .gen [],.int .i64 1]):=by
 refine pr c0 Tryz.func6 aC ?_
 refine lr [true] [rq (0:Nat),rq (1:Int),aj (decide (a<1)) true] ⟨?_,?_,h0⟩
 all_goals first|exact nW
theorem Yb (a b:Int)(g0:decide (a<1)=false)(h1:decide (a>8)=true):ar Tryz.prog [] 6 [.int .i64 a,.int .i64 b] (.tup [aI .gen [],.int .i64 1]):=by
 refine pr c0 Tryz.func6 aC ?_
 refine lr [false,true] [rq (0:Nat),rq (1:Int),aj (decide (a>8)) true,aj (decide (a<1)) false] ⟨?_,?_,h1,g0⟩
 all_goals first|exact nW
theorem Yc (a b:Int)(g0:decide (a<1)=false)(g1:decide (a>8)=false)(h2:decide (b<1)=true):ar Tryz.prog [] 6 [.int .i64 a,.int .i64 b] (.tup [aI .gen [],.int .i64 1]):=by
 refine pr c0 Tryz.func6 aC ?_
 refine lr (tp 221) [rq (0:Nat),rq (1:Int),aj (decide (b<1)) true,aj (decide (a>8)) false,aj (decide (a<1)) false] ⟨?_,?_,h2,g1,g0⟩
 all_goals first|exact nW
theorem Yd (a b:Int)(g0:decide (a<1)=false)(g1:decide (a>8)=false)(g2:decide (b<1)=false)(h3:decide (b>10000)=true):ar Tryz.prog [] 6 [.int .i64 a,.int .i64 b] (.tup [aI .gen [],.int .i64 1]):=by
 refine pr c0 Tryz.func6 aC ?_
 refine lr (tp 2221) [rq (0:Nat),rq (1:Int),aj (decide (b>10000)) true,aj (decide (b<1)) false,aj (decide (a>8)) false,aj (decide (a<1)) false] ⟨?_,?_,h3,g2,g1,g0⟩
 all_goals first|exact nW
theorem rgr (a b:Int)(h:a<1∨8<a∨b<1∨10000<b):ar Tryz.prog [] 6 [.int .i64 a,.int .i64 b] (.tup [aI .gen [],.int .i64 1]):=by
 by_cases h0:a<1
 ·exact Ya a b (bZ h0)
 ·by_cases h1:a>8
  ·exact Yb a b (bu h0) (bZ h1)
  ·by_cases h2:b<1
   ·exact Yc a b (bu h0) (bu h1) (bZ h2)
   ·exact Yd a b (bu h0) (bu h1) (bu h2) (bZ om)
theorem Ti (n:Nat)(row:Nat→List RV):List.length (α:=af) (cm .gen n row)=n:=by
 show((List.range n).map fun i=>af.ofR (row i)).length=n
 rw[iT,List.length_range]
theorem Ha {L:List af}(h:∀g∈L,bG g):∀g∈(cm aa.gen L.length fun i=>aa.gen.rvs (L.getD i aa.gen.zero)),bG g:=fun g hg=>h g ((congrArg (fun z:List af=>g∈z) (Sb .gen L)).mp hg)
structure xa (C:Int→Int→Prop)(L:List af)(c:Int):Prop where
 pg:∀p q,C p q→ar Tryz.prog [ci] 5 [.int .i64 p,.int .i64 q] (.tup [aI .gen L,.int .i64 c])
 rg:∀p q,C p q→ar Tryz.prog [] 6 [.int .i64 p,.int .i64 q] (.tup [aI .gen L,.int .i64 c])
 aw:ar Tryz.prog [ci] 4 [] (.bool true)
 len:L.length≤1000
 bd:∀g∈L,bG g
noncomputable def Hb (C:Int→Int→Prop)(L:List af)(c:Int):List bV:=[
 ⟨5,[ci],fun X=>match X with
  |[.int .i64 p,.int .i64 q]=>some (.tup [aI .gen L,.int .i64 c],[C p q])
  |_=>none⟩,
 ⟨6,[],fun X=>match X with
  |[.int .i64 p,.int .i64 q]=>some (.tup [aI .gen L,.int .i64 c],[C p q])
  |_=>none⟩,
 ⟨4,[ci],fun X=>match X with
  |[]=>some (.bool true,[])
  |_=>none⟩,
 ⟨7,[],fun X=>match X with
  |[.sl m 3 row,.sl m' 3 row']=>some (.bool true,[(∀i,i<m→row i=aa.gen.rvs (aa.gen.of (row i)))∧(∀i,i<m'→row' i=aa.gen.rvs (aa.gen.of (row' i)))∧m≤1000∧(∀g∈cm .gen m row,bG g)∧cm .gen m row=cm .gen m' row'])
  |_=>none⟩]
theorem DZ {C:Int→Int→Prop}{L:List af}{c:Int}(h:xa C L c):∀e∈Hb C L c,ch Tryz.prog e:=by
 intro e he
 simp only[Hb,bx,cC,cH]at he
 rcases he with rfl|rfl|rfl|rfl
 all_goals
  intro X R ms hq hm
  simp only at hq
  split at hq
  all_goals first|(cases hq;done)|cases hq
 ·exact h.pg _ _ (ay hm)
 ·exact h.rg _ _ (ay hm)
 ·exact h.aw
 ·obtain⟨h1,h2,h3,h4,h5⟩:=ay hm
  exact ar.imp (Rz (cm .gen _ _) (cU (Nat.le_of_eq (Ti _ _)) h3) h4) (.cons (fN.vals .gen h1) (.cons (by rw[h5];exact fN.vals .gen h2) .nil))
theorem uD (L:List af):∀i,i<L.length→(fun i=>aa.gen.rvs (L.getD i aa.gen.zero)) i=aa.gen.rvs (aa.gen.of ((fun i=>aa.gen.rvs (L.getD i aa.gen.zero)) i)):=fun i _=>(congrArg aa.gen.rvs (aa.of_rvs .gen (L.getD i aa.gen.zero))).symm
def Bg (p q:Int):Prop:=p<1∨8<p∨q<1∨10000<q
theorem aba {x n:Int}(hx:0≤x∧x≤255)(hn:n=1+x%48):w6.wrap (1+(w6.wrap x).tmod 48)=n:=by
 rw[kP (n:=x) om om,gh hx.1,wo];exact hn.symm
theorem abb (a b x y:Int)(c:Int)(hH:xa Bg [] c):ar Tryz.prog [ci] 3 [.int .i64 a,.int .i64 b,.int .u8 x,.int .u8 y,.bool true] (.bool true):=by
 have zc:(c==c)=true:=e9 c
 refine pr (cE (DZ hH)) Tryz.func3 aC ?_
 refine(let t1:List Prop→List Prop:=fun l0=>(true=true)::(aj true true)::((∀(i:Nat),i<0→(fun i=>aa.gen.rvs ([].getD i aa.gen.zero)) i=aa.gen.rvs (aa.gen.of ((fun i=>aa.gen.rvs ([].getD i aa.gen.zero)) i)))∧(∀(i:Nat),i<0→(fun i=>aa.gen.rvs ([].getD i aa.gen.zero)) i=aa.gen.rvs (aa.gen.of ((fun i=>aa.gen.rvs ([].getD i aa.gen.zero)) i)))∧(0:Nat)≤1000∧(∀(g:aa.gen.car),(g∈cm aa.gen (0:Nat) fun i=>aa.gen.rvs ([].getD i aa.gen.zero))→bG g)∧(cm aa.gen (0:Nat) fun i=>aa.gen.rvs ([].getD i aa.gen.zero))=cm aa.gen (0:Nat) fun i=>aa.gen.rvs ([].getD i aa.gen.zero))::(aj (c==c) true)::(Bg a b)::(Bg a b)::l0;let y1:List Prop:=[aj true true];have q1:ao y1:=rfl;oe (decide (a≥1)) (fun d1=>oe (decide (a≤8)) (fun d2=>oe (decide (b≥1)) (fun d3=>oe (decide (b≤10000)) (fun d4=>lr (tp 11111) ((true=true)::ty d4::ty d3::ty d2::ty d1::y1) ⟨?_,d4,d3,d2,d1,q1⟩)
  (fun d4=>lr (tp 1111211) (t1 (ty d4::ty d3::ty d2::ty d1::y1)) ⟨?_,rfl,?_,zc,?_,?_,d4,d3,d2,d1,q1⟩))
  (fun d3=>lr (tp 111211) (t1 (ty d3::ty d2::ty d1::y1)) ⟨?_,rfl,?_,zc,?_,?_,d3,d2,d1,q1⟩))
  (fun d2=>lr (tp 11211) (t1 (ty d2::ty d1::y1)) ⟨?_,rfl,?_,zc,?_,?_,d2,d1,q1⟩))
  (fun d1=>lr (tp 1211) (t1 (ty d1::y1)) ⟨?_,rfl,?_,zc,?_,?_,d1,q1⟩))
 all_goals((try clear q1);(try clear y1))
 all_goals first|(first|exact tz|exact⟨uD [],uD [],hH.len,Ha hH.bd,rfl⟩|((try simp only[dT,dF]at*)<;>(show _∨_∨_∨_;omega)))
theorem abc (a b x y:Int)(n D:Nat)(L:List af)(hH:xa (fun p q=>p=(n:Int)∧q=(D:Int)) L 0)(hx:0≤x∧x≤255)(hy:0≤y∧y≤255)(hN:(n:Int)=1+x%4)(hM:(D:Int)=1+y%48):ar Tryz.prog [ci] 3 [.int .i64 a,.int .i64 b,.int .u8 x,.int .u8 y,.bool false] (.bool true):=by
 have zc:((0:Int)==0)=true:=rfl
 have wx:=wx4 hx hN
 have wy:=aba hy hM
 refine pr (cE (DZ hH)) Tryz.func3 aC ?_
 refine lr (tp 211) (let v1:=(1:Int)+(w6.wrap y).tmod (48:Int);let v2:=(1:Int)+(w6.wrap x).tmod (4:Int);[true=true,aj true true,(∀(i:Nat),i<L.length→(fun i=>aa.gen.rvs (L.getD i aa.gen.zero)) i=aa.gen.rvs (aa.gen.of ((fun i=>aa.gen.rvs (L.getD i aa.gen.zero)) i)))∧(∀(i:Nat),i<L.length→(fun i=>aa.gen.rvs (L.getD i aa.gen.zero)) i=aa.gen.rvs (aa.gen.of ((fun i=>aa.gen.rvs (L.getD i aa.gen.zero)) i)))∧L.length≤1000∧(∀(g:aa.gen.car),(g∈cm aa.gen L.length fun i=>aa.gen.rvs (L.getD i aa.gen.zero))→bG g)∧(cm aa.gen L.length fun i=>aa.gen.rvs (L.getD i aa.gen.zero))=cm aa.gen L.length fun i=>aa.gen.rvs (L.getD i aa.gen.zero),aj ((0:Int)==0) true,w6.wrap v2=↑n∧w6.wrap v1=↑D,w6.wrap v2=↑n∧w6.wrap v1=↑D,(48:Int)≠(0:Int),(4:Int)≠(0:Int),aj false false]) ⟨?_,rfl,?_,zc,?_,?_,?_,?_,rfl⟩
 all_goals first|(first|exact tz|exact⟨wx,wy⟩|decide|exact⟨uD L,uD L,hH.len,Ha hH.bd,rfl⟩)
end Go.Proofs.YtmeljalphfcieaaGreatDoor.S
end
