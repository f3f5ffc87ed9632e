/- A part of the proof of ExistenceGenera: KIB, KIC, KL, MY. -/
import Derived.Test.YtmeljalphfcieaaGreatDoorPkG3
import Derived.Test.YtmeljalphfcieaaGreatDoorPkG4
import Derived.Test.YtmeljalphfcieaaGreatDoorPkG2
set_option linter.unusedSimpArgs false
set_option linter.unusedVariables false
set_option maxRecDepth 100000
open Go.IntKind renaming i64 → w6
noncomputable section
namespace Go.Proofs.YtmeljalphfcieaaGreatDoor.S
open Go.QfSy Go.RowKit
set_option maxHeartbeats 4000000 in
theorem XM (D:Int)(f e n a:Nat)(hc:qJ D f e n a ([]:LC) none)(ih:∀e n a L o,bH D f e n a L o→aJ Tryz.prog EV.ng (cW D f e n a (some L) (some L) o)):An 6 Tryz.f76 [0,1,1,1,1] (wC D f e n a ([]:LC) none none):=by
 have hcc:=hc
 obtain⟨c1,c2,c3,c4,c5,c6,c7,c8,c9⟩:=hcc
 refine ea (cF (cV (jG D ih jI) (dL _ _))) aC (abg D e n a) (fun q=>match q with|none=>n+2|some (k,_)=>n+1-k) (fun _ q=>match q with|none=>True|some (k,o)=>1≤k∧fQ D f e n a [] none k o) ?_ ?_
 ·intro d hd
  exact st (none) [rq (↑e:Int),rq (↑n:Int),rq (↑a:Int),(1:Int)=↑((0:Nat)+1),D=D] (by refine⟨?_,?_,?_,?_,(?_:D=D)⟩<;>(first|exact tv)) (by exact True.intro)
 ·rintro d hd q hI
  have we:w6.wrap ((e:Int)+1)=((e+1:Nat):Int):=jK om
  have hl:([]:LC).length≤10:=by decide
  rcases q with _|⟨k,_|X⟩
  rotate_right
  refine(let t1:List Prop→List Prop:=fun l0=>(let v1:=dX (ax D) f e n a [] none (ee e n a);rq (0:Nat)::(X.length=(ae v1).length)::(D=D)::(([]:LC)=[])::(X=ae v1)::l0);oe (decide ((↑(k+1):Int)≤↑n)) (fun d1=>oe (decide (w6.wrap ((↑(k+1):Int)*↑e)≤↑a)) (fun d2=>aq [true,true] (some (k+1,some (ae (fa (ax D) f e n a ([]:LC) (some X) k)))) (let v1:=[]++[Con.mk (↑e:Int) (↑(k+1):Int) (1:Int) false (0:Int)];let v2:=(↑a:Int)-w6.wrap ((↑(k+1):Int)*↑e);let v6:=(↑e:Int)+1;let v5:=(↑n:Int)-↑(k+1);let v3:=aE (ax D) f (w6.wrap v6).toNat (w6.wrap v5).toNat (w6.wrap v2).toNat (bv (some v1)) (some X);let v4:=(↑v1.length:Int)-1;let v7:=fa (ax D) f e n a [] (some X) k;[rq (↑e:Int),rq (↑n:Int),rq (↑a:Int),w6.wrap ((↑(k+1):Int)+1)=↑(k+1+1),(w6.wrap v4).toNat=0,(ae v3).length=(ae v7).length,D=D,([]:LC)=[],ae v3=ae v7,(w6.wrap v4).toNat≤v1.length∧v1.length=v1.length,(0:Int)≤w6.wrap v4∧w6.wrap v4≤↑v1.length,bH D f (w6.wrap v6).toNat (w6.wrap v5).toNat (w6.wrap v2).toNat v1 (some X),w6.wrap v6=(↑(w6.wrap v6).toNat:Int),w6.wrap v5=(↑(w6.wrap v5).toNat:Int),w6.wrap v2=(↑(w6.wrap v2).toNat:Int),(0:Nat)+1=v1.length,rq X.length,D=D,rq v1,X=X,(iy []).view.num=0∧(0:Nat)+1≤1000000,ty d2,ty d1]) ?_ ?_ ?_)
   (fun d2=>?e3))
   (fun d1=>?e4))
  all_goals with_reducible repeat' first|exact dA|refine bk ?_ ?_|refine bm ?_
  case' e3=>
   cases d
   rotate_right
   refine aT.no ?_
   rotate_right
   refine br [true,false] (t1 [ty d2,ty d1]) ?_
   all_goals with_reducible repeat' first|exact dA|refine bk ?_ ?_|refine bm ?_
  case' e4=>
   cases d
   rotate_right
   refine aT.no ?_
   rotate_right
   refine br [false] (t1 [ty d1]) ?_
   all_goals with_reducible repeat' first|exact dA|refine bk ?_ ?_|refine bm ?_
  rotate_right
  refine(let t1:List Prop→List Prop:=fun l0=>rq (↑e:Int)::rq (↑n:Int)::rq (↑a:Int)::(w6.wrap ((↑(k+1):Int)+1)=↑(k+1+1))::((w6.wrap ((↑([]++[Con.mk (↑e:Int) (↑(k+1):Int) (1:Int) false (0:Int)]).length:Int)-1)).toNat=0)::l0;oe (decide ((↑(k+1):Int)≤↑n)) (fun d1=>oe (decide (w6.wrap ((↑(k+1):Int)*↑e)≤↑a)) (fun d2=>let y1:List Prop:=[(iy []).view.num=0∧(0:Nat)+1≤1000000,ty d2,ty d1];have u1:ao y1:=⟨?_,d2,d1⟩;oe (Option.isNone (aE (ax D) f (w6.wrap ((↑e:Int)+1)).toNat (w6.wrap ((↑n:Int)-↑(k+1))).toNat (w6.wrap ((↑a:Int)-w6.wrap ((↑(k+1):Int)*↑e))).toNat (bv (some ([]++[Con.mk (↑e:Int) (↑(k+1):Int) (1:Int) false (0:Int)]))) none)) (fun d3=>aq (tp 111) (some (k+1,none)) (t1 (let v1:=[]++[Con.mk (↑e:Int) (↑(k+1):Int) (1:Int) false (0:Int)];let v2:=(↑a:Int)-w6.wrap ((↑(k+1):Int)*↑e);let v3:=(↑n:Int)-↑(k+1);let v4:=(↑v1.length:Int)-1;let v5:=(↑e:Int)+1;(D=D)::(([]:LC)=[])::((w6.wrap v4).toNat≤v1.length∧v1.length=v1.length)::((0:Int)≤w6.wrap v4∧w6.wrap v4≤↑v1.length)::(bH D f (w6.wrap v5).toNat (w6.wrap v3).toNat (w6.wrap v2).toNat v1 none)::(w6.wrap v5=(↑(w6.wrap v5).toNat:Int))::(w6.wrap v3=(↑(w6.wrap v3).toNat:Int))::(w6.wrap v2=(↑(w6.wrap v2).toNat:Int))::((0:Nat)+1=v1.length)::(D=D)::rq v1::ty d3::y1)) ?_ ?_ ?_)
   (fun d3=>aq (tp 112) (some (k+1,(some (ae (fa (ax D) f e n a ([]:LC) none k))))) (t1 (let v1:=[]++[Con.mk (↑e:Int) (↑(k+1):Int) (1:Int) false (0:Int)];let v2:=(↑a:Int)-w6.wrap ((↑(k+1):Int)*↑e);let v4:=(↑n:Int)-↑(k+1);let v6:=(↑e:Int)+1;let v3:=aE (ax D) f (w6.wrap v6).toNat (w6.wrap v4).toNat (w6.wrap v2).toNat (bv (some v1)) none;let v5:=(↑v1.length:Int)-1;let v7:=fa (ax D) f e n a [] none k;((ae v3).length=(ae v7).length)::(D=D)::(([]:LC)=[])::(ae v3=ae v7)::((w6.wrap v5).toNat≤v1.length∧v1.length=v1.length)::((0:Int)≤w6.wrap v5∧w6.wrap v5≤↑v1.length)::(bH D f (w6.wrap v6).toNat (w6.wrap v4).toNat (w6.wrap v2).toNat v1 none)::(w6.wrap v6=(↑(w6.wrap v6).toNat:Int))::(w6.wrap v4=(↑(w6.wrap v4).toNat:Int))::(w6.wrap v2=(↑(w6.wrap v2).toNat:Int))::((0:Nat)+1=v1.length)::(D=D)::rq v1::ty d3::y1)) ?_ ?_ ?_))
   (fun d2=>?e1))
   (fun d1=>?e2))
  all_goals with_reducible repeat' first|exact dA|refine bk ?_ ?_|refine bm ?_
  case' e1=>
   cases d
   rotate_right
   refine br [true,false] [rq (0:Nat),D=D,([]:LC)=[],ty d2,ty d1] ?_
   all_goals with_reducible repeat' first|exact dA|refine bk ?_ ?_|refine bm ?_
   rotate_right
   refine aT.no ?_
  case' e2=>
   cases d
   rotate_right
   refine br [false] [rq (0:Nat),D=D,([]:LC)=[],ty d1] ?_
   all_goals with_reducible repeat' first|exact dA|refine bk ?_ ?_|refine bm ?_
   rotate_right
   refine aT.no ?_
  rotate_right
  refine(let t1:List Prop→List Prop:=fun l0=>(let v1:=(↑((0:Nat)+1):Int);rq (↑e:Int)::rq (↑n:Int)::rq (↑a:Int)::(w6.wrap (v1+1)=↑((0:Nat)+1+1))::((w6.wrap ((↑[Con.mk (↑e:Int) v1 (1:Int) false (0:Int)].length:Int)-1)).toNat=0)::l0);oe (decide ((↑((0:Nat)+1):Int)≤↑n)) (fun d1=>oe (decide (w6.wrap ((↑((0:Nat)+1):Int)*↑e)≤↑a)) (fun d2=>let y1:List Prop:=[(0:Nat)<1∧(1:Nat)≤1000000,ty d2,ty d1];have u1:ao y1:=⟨?_,d2,d1⟩;oe (Option.isNone (aE (ax D) f (w6.wrap ((↑e:Int)+1)).toNat (w6.wrap ((↑n:Int)-↑((0:Nat)+1))).toNat (w6.wrap ((↑a:Int)-w6.wrap ((↑((0:Nat)+1):Int)*↑e))).toNat (bv (some [Con.mk (↑e:Int) (↑((0:Nat)+1):Int) (1:Int) false (0:Int)])) none)) (fun d3=>aq (tp 111) (some (0+1,none)) (t1 (let v1:=[Con.mk (↑e:Int) (↑((0:Nat)+1):Int) (1:Int) false (0:Int)];let v2:=(↑a:Int)-w6.wrap ((↑((0:Nat)+1):Int)*↑e);let v3:=(↑n:Int)-↑((0:Nat)+1);let v4:=(↑v1.length:Int)-1;let v5:=(↑e:Int)+1;(D=D)::(([]:LC)=[])::((w6.wrap v4).toNat≤v1.length∧v1.length=v1.length)::((0:Int)≤w6.wrap v4∧w6.wrap v4≤↑v1.length)::(bH D f (w6.wrap v5).toNat (w6.wrap v3).toNat (w6.wrap v2).toNat v1 none)::(w6.wrap v5=(↑(w6.wrap v5).toNat:Int))::(w6.wrap v3=(↑(w6.wrap v3).toNat:Int))::(w6.wrap v2=(↑(w6.wrap v2).toNat:Int))::((1:Nat)=v1.length)::(D=D)::rq (v1)::ty d3::y1)) ?_ ?_ ?_)
   (fun d3=>aq (tp 112) (some (0+1,(some (ae (fa (ax D) f e n a ([]:LC) none 0))))) (t1 (let v1:=[Con.mk (↑e:Int) (↑((0:Nat)+1):Int) (1:Int) false (0:Int)];let v2:=(↑a:Int)-w6.wrap ((↑((0:Nat)+1):Int)*↑e);let v3:=w6.wrap ((↑n:Int)-↑((0:Nat)+1));let v4:=w6.wrap ((↑e:Int)+1);let v5:=aE (ax D) f v4.toNat v3.toNat (w6.wrap v2).toNat (bv (some v1)) none;let v6:=(↑v1.length:Int)-1;let v7:=fa (ax D) f e n a [] none (0:Nat);((ae v5).length=(ae v7).length)::(D=D)::(([]:LC)=[])::(ae v5=ae v7)::((w6.wrap v6).toNat≤v1.length∧v1.length=v1.length)::((0:Int)≤w6.wrap v6∧w6.wrap v6≤↑v1.length)::(bH D f v4.toNat v3.toNat (w6.wrap v2).toNat v1 none)::(w6.wrap ((↑e:Int)+1)=↑v4.toNat)::(w6.wrap ((↑n:Int)-↑((0:Nat)+1))=↑v3.toNat)::(w6.wrap v2=(↑(w6.wrap v2).toNat:Int))::((1:Nat)=v1.length)::(D=D)::rq (v1)::ty d3::y1)) ?_ ?_ ?_))
   (fun d2=>aT.no ?_))
   (fun d1=>aT.no ?_))
  all_goals with_reducible repeat' first|exact dA|refine bk ?_ ?_|refine bm ?_
  all_goals first|exact Nz|(refine bD.mk ?_;(first|exact Nj|(have hJ:fQ D f e n a [] none 0 none:=⟨aY _,rfl⟩;obtain⟨h1,h2⟩:=qK c2 c3 hJ;have wn:w6.wrap ((n:Int)-((0+1:Nat):Int))=((n-(0+1):Nat):Int):=lv om h1;have wa:w6.wrap ((a:Int)-w6.wrap (((0+1:Nat):Int)*(e:Int)))=((a-(0+1)*e:Nat):Int):=lw om om om h2;(try simp only[we,wn,wa,bt]at d3);first|exact CC|exact CB|exact CF)))|(refine aT.mk ?_;(first|exact No|(have hJ:fQ D f e n a [] none 0 none:=⟨aY _,rfl⟩;obtain⟨h1,h2⟩:=qK c2 c3 hJ;have wn:w6.wrap ((n:Int)-((0+1:Nat):Int))=((n-(0+1):Nat):Int):=lv om h1;have wa:w6.wrap ((a:Int)-w6.wrap (((0+1:Nat):Int)*(e:Int)))=((a-(0+1)*e:Nat):Int):=lw om om om h2;exfalso;first|(have:=oF d1;omega)|exact M9)))|(first|exact tv|exact⟨rfl,de⟩|exact J1|exact wB|exact Bi hl|decide|exact Nk|exact Nq|(have hJ:fQ D f e n a [] none 0 none:=⟨aY _,rfl⟩;obtain⟨h1,h2⟩:=qK c2 c3 hJ;have wn:w6.wrap ((n:Int)-((0+1:Nat):Int))=((n-(0+1):Nat):Int):=lv om h1;have wa:w6.wrap ((a:Int)-w6.wrap (((0+1:Nat):Int)*(e:Int)))=((a-(0+1)*e:Nat):Int):=lw om om om h2;first|(exact wo)|exact Mp))
set_option maxHeartbeats 4000000 in
theorem Iw (D:Int)(f e n a:Nat)(X0:LL)(hc:qJ D f e n a ([]:LC) (some X0))(ih:∀e n a L o,bH D f e n a L o→aJ Tryz.prog EV.ng (cW D f e n a (some L) (some L) o)):An 6 Tryz.f76 [0,1,1,1,1] (wC D f e n a ([]:LC) none (some X0)):=by
 have hcc:=hc
 obtain⟨c1,c2,c3,c4,c5,c6,c7,c8,c9⟩:=hcc
 refine cN (cF (cV (jG D ih jI) (dL _ _))) aC (abh D e n a X0) (fun q=>match q with|none=>n+2|some (k,_)=>n+1-k) (fun q=>match q with|none=>True|some (k,X)=>1≤k∧fQ D f e n a [] (some X0) k (some X)) ?_ ?_
 ·exact st (none) [rq (↑e:Int),rq (↑n:Int),rq (↑a:Int),(1:Int)=↑((0:Nat)+1),rq X0.length,D=D,X0=X0] (by refine⟨?_,?_,?_,?_,?_,?_,(?_:X0=X0)⟩<;>(first|exact tv)) (by exact True.intro)
 ·intro q hI
  have we:w6.wrap ((e:Int)+1)=((e+1:Nat):Int):=jK om
  have hl:([]:LC).length≤10:=by decide
  rcases q with _|⟨k,X⟩
  rotate_right
  refine(let t1:List Prop→List Prop:=fun l0=>(let v1:=dX (ax D) f e n a [] (some X0) (ee e n a);rq (0:Nat)::(X.length=(ae v1).length)::(D=D)::(([]:LC)=[])::(X=ae v1)::l0);oe (decide ((↑(k+1):Int)≤↑n)) (fun d1=>oe (decide (w6.wrap ((↑(k+1):Int)*↑e)≤↑a)) (fun d2=>aq [true,true] (some (k+1,(ae (fa (ax D) f e n a ([]:LC) (some X) k)))) (let v1:=[]++[Con.mk (↑e:Int) (↑(k+1):Int) (1:Int) false (0:Int)];let v2:=(↑a:Int)-w6.wrap ((↑(k+1):Int)*↑e);let v6:=(↑e:Int)+1;let v5:=(↑n:Int)-↑(k+1);let v3:=aE (ax D) f (w6.wrap v6).toNat (w6.wrap v5).toNat (w6.wrap v2).toNat (bv (some v1)) (some X);let v4:=(↑v1.length:Int)-1;let v7:=fa (ax D) f e n a [] (some X) k;[rq (↑e:Int),rq (↑n:Int),rq (↑a:Int),w6.wrap ((↑(k+1):Int)+1)=↑(k+1+1),(w6.wrap v4).toNat=0,(ae v3).length=(ae v7).length,D=D,([]:LC)=[],ae v3=ae v7,(w6.wrap v4).toNat≤v1.length∧v1.length=v1.length,(0:Int)≤w6.wrap v4∧w6.wrap v4≤↑v1.length,bH D f (w6.wrap v6).toNat (w6.wrap v5).toNat (w6.wrap v2).toNat v1 (some X),w6.wrap v6=(↑(w6.wrap v6).toNat:Int),w6.wrap v5=(↑(w6.wrap v5).toNat:Int),w6.wrap v2=(↑(w6.wrap v2).toNat:Int),(0:Nat)+1=v1.length,rq X.length,D=D,rq v1,X=X,(iy []).view.num=0∧(0:Nat)+1≤1000000,ty d2,ty d1]) ?_ ?_ ?_)
   (fun d2=>br [true,false] (t1 [ty d2,ty d1]) ?_))
   (fun d1=>br [false] (t1 [ty d1]) ?_))
  all_goals with_reducible repeat' first|exact dA|refine bk ?_ ?_|refine bm ?_
  rotate_right
  refine oe (decide ((↑((0:Nat)+1):Int)≤↑n)) (fun d1=>oe (decide (w6.wrap ((↑((0:Nat)+1):Int)*↑e)≤↑a)) (fun d2=>aq [true,true] (some (0+1,(ae (fa (ax D) f e n a ([]:LC) (some X0) 0)))) (let v8:=(↑((0:Nat)+1):Int);let v1:=[Con.mk (↑e:Int) v8 (1:Int) false (0:Int)];let v2:=(↑a:Int)-w6.wrap (v8*↑e);let v3:=w6.wrap ((↑n:Int)-v8);let v6:=(↑e:Int)+1;let v4:=aE (ax D) f (w6.wrap v6).toNat v3.toNat (w6.wrap v2).toNat (bv (some v1)) (some X0);let v5:=(↑v1.length:Int)-1;let v7:=fa (ax D) f e n a [] (some X0) (0:Nat);[rq (↑e:Int),rq (↑n:Int),rq (↑a:Int),w6.wrap (v8+1)=↑((0:Nat)+1+1),(w6.wrap v5).toNat=0,(ae v4).length=(ae v7).length,D=D,([]:LC)=[],ae v4=ae v7,(w6.wrap v5).toNat≤v1.length∧v1.length=v1.length,(0:Int)≤w6.wrap v5∧w6.wrap v5≤↑v1.length,bH D f (w6.wrap v6).toNat v3.toNat (w6.wrap v2).toNat v1 (some X0),w6.wrap v6=(↑(w6.wrap v6).toNat:Int),w6.wrap ((↑n:Int)-v8)=↑v3.toNat,w6.wrap v2=(↑(w6.wrap v2).toNat:Int),(1:Nat)=v1.length,rq X0.length,D=D,rq (v1),X0=X0,(0:Nat)<1∧(1:Nat)≤1000000,ty d2,ty d1]) ?_ ?_ ?_)
   (fun d2=>aT.no ?_))
   (fun d1=>aT.no ?_)
  all_goals with_reducible repeat' first|exact dA|refine bk ?_ ?_|refine bm ?_
  all_goals first|exact Nz|(refine bD.mk ?_;(first|exact Nj|(have hJ:fQ D f e n a [] (some X0) 0 (some X0):=⟨aY _,rfl⟩;obtain⟨h1,h2⟩:=qK c2 c3 hJ;have wn:w6.wrap ((n:Int)-((0+1:Nat):Int))=((n-(0+1):Nat):Int):=lv om h1;have wa:w6.wrap ((a:Int)-w6.wrap (((0+1:Nat):Int)*(e:Int)))=((a-(0+1)*e:Nat):Int):=lw om om om h2;(try simp only[we,wn,wa,bt]at d3);first|exact CC|exact CB|exact CF)))|(refine aT.mk ?_;(first|exact No|(have hJ:fQ D f e n a [] (some X0) 0 (some X0):=⟨aY _,rfl⟩;obtain⟨h1,h2⟩:=qK c2 c3 hJ;have wn:w6.wrap ((n:Int)-((0+1:Nat):Int))=((n-(0+1):Nat):Int):=lv om h1;have wa:w6.wrap ((a:Int)-w6.wrap (((0+1:Nat):Int)*(e:Int)))=((a-(0+1)*e:Nat):Int):=lw om om om h2;exfalso;first|(have:=oF d1;omega)|exact M9)))|(first|exact tv|exact⟨rfl,de⟩|exact J1|exact wB|exact Bi hl|decide|exact Nk|exact Nq|(have hJ:fQ D f e n a [] (some X0) 0 (some X0):=⟨aY _,rfl⟩;obtain⟨h1,h2⟩:=qK c2 c3 hJ;have wn:w6.wrap ((n:Int)-((0+1:Nat):Int))=((n-(0+1):Nat):Int):=lv om h1;have wa:w6.wrap ((a:Int)-w6.wrap (((0+1:Nat):Int)*(e:Int)))=((a-(0+1)*e:Nat):Int):=lw om om om h2;first|(exact wo)|exact Mp))
theorem Fp {fnd:LC→dx→dx}(hs:∀L X,fnd L (some X)=some (ae (fnd L (some X)))){f e n a k:Nat}{L:LC}{X:LL}:dX fnd f e n a L (some X) k=some (ae (dX fnd f e n a L (some X) k)):=by
 induction k with
 |zero=>rfl
 |succ k ih=>rw[tm,ih];exact oH hs _ _ _ _ _ _
noncomputable def Jy (D:Int)(f:Nat)(l1:Option LC)(G:Nat→Nat→Nat→Prop)(go:Nat→List AV→Hs→Option (cg×List Prop)):Nat→List AV→Hs→Option (cg×List Prop):=fun g args H=>bif Nat.beq g 76 then(match args with
 |[e',n',a',.ptr b0 _,.ptr b1 _,_]=>match JY H.m b1 with
  |some none=>match clr e',clr n',clr a' with
   |.int .i64 e,.int .i64 n,.int .i64 a=>match kS H.m b0 with
    |some (.fn _ (.ptr bl _::_))=>match nH H.m bl with
     |none=>none
     |some o=>some (cW D f e.toNat n.toNat a.toNat none l1 o,[bH D f e.toNat n.toNat a.toNat [] o∧G e.toNat n.toNat a.toNat])
    |_=>none
   |_,_,_=>none
  |_=>go g args H
 |_=>none)else go g args H
theorem oI (D:Int){f:Nat}{l1:Option LC}{G:Nat→Nat→Nat→Prop}(ih:∀e n a o,bH D f e n a [] o→G e n a→aJ Tryz.prog EV.ng (cW D f e n a none l1 o)){go:Nat→List AV→Hs→Option (cg×List Prop)}(hgo:∀f args H A ms,go f args H=some (A,ms)→(∀q∈ms,q)→aJ Tryz.prog EV.ng A):∀g args H A ms,Jy D f l1 G go g args H=some (A,ms)→(∀q∈ms,q)→aJ Tryz.prog EV.ng A:=by
 intro g args H A ms hq hm
 unfold Jy at hq
 cases hb:Nat.beq g 76 with
 |false=>rw[hb]at hq;exact hgo g args H A ms hq hm
 |true=>
  rw[hb]at hq
  simp only[aM]at hq
  split at hq
  ·split at hq
   ·split at hq
    ·split at hq
     ·split at hq
      ·cases hq
      ·cases hq
       obtain⟨k1,k2⟩:=ay hm
       exact ih _ _ _ _ k1 k2
     ·cases hq
    ·cases hq
   ·exact hgo g _ H A ms hq hm
  ·cases hq
set_option maxHeartbeats 4000000 in
theorem aaw (D:Int)(f e n a:Nat)(L:LC)(hc:bH D (f+1) e n a L none)(h1:0<n)(h5:n*e≤a)(hz2:(aE (ax D) f (e+1) n a L none).isNone=true)(ih:∀e n a L o,bH D f e n a L o→aJ Tryz.prog EV.ng (cW D f e n a (some L) (some L) o)):aJ Tryz.prog EV.ng (cW D (f+1) e n a (some L) (some L) none):=by
 have hr:=mi hc h1 h5
 have hl2:=mj hc h1 h5
 have hs:aE (ax D) (f+1) e n a L none=_:=jJ h1 h5
 rw[isN hz2]at hl2 hs
 obtain⟨c1,c2,c3,c4,c5,c6,c7,c8,c9⟩:=hc
 have hz:((n:Int)==0)=false:=bJ.2 om
 have hy:decide (w6.wrap ((n:Int)*(e:Int))>(a:Int))=false:=mM
 have we:w6.wrap ((e:Int)+1)=((e+1:Nat):Int):=jK om
 have hk:(aE (ax D) f (w6.wrap ((e:Int)+1)).toNat n a (bv (some L)) none).isNone=true:=rf
 refine cQ (cF (cV (jG D ih (sn D)) (dL _ _))) Tryz.func76 (aW (IO D f e n a L hl2 ih)) ?_
 intro d hd
 cases d
 rotate_right
 have hd:((aE (ax D) (f+1) e n a (bv (some L)) none).isNone)=true:=hd
 refine oe (Option.isNone (dX (ax D) f e n a L none (ee e n a))) (fun d1=>lr (tp 22211) (let v1:=w6.wrap ((↑e:Int)+1);[rq L.length,D=D,L=L,rq (↑e:Int),rq (↑n:Int),rq (↑a:Int),rq L.length,D=D,L=L,ty d1,bH D f v1.toNat n a L none,w6.wrap ((↑e:Int)+1)=↑v1.toNat,rq (↑n:Int),rq (↑a:Int),rq L.length,D=D,L=L,aj (Option.isNone (aE (ax D) f v1.toNat n a (bv (some L)) none)) true,aj (decide (w6.wrap ((↑n:Int)*↑e)>↑a)) false,aj ((↑n:Int)==0) false,aj ((↑n:Int)==0) false]) ?_)
  (fun d1=>aT.no ?_)
 all_goals with_reducible(repeat' first|exact dA|refine bk ?_ ?_|refine bm ?_|(delta aj;assumption))
 rotate_right
 have hd:((aE (ax D) (f+1) e n a (bv (some L)) none).isNone)=false:=hd
 refine oe (Option.isNone (dX (ax D) f e n a L none (ee e n a))) (fun d1=>aT.no ?_)
  (fun d1=>lr (tp 22212) (let v1:=w6.wrap ((↑e:Int)+1);let v2:=aE (ax D) (f+1) e n a (bv (some L)) none;let v3:=dX (ax D) f e n a L none (ee e n a);[rq L.length,(ae v3).length=(ae v2).length,D=D,L=L,ae v3=ae v2,rq (↑e:Int),rq (↑n:Int),rq (↑a:Int),rq L.length,D=D,L=L,ty d1,bH D f v1.toNat n a L none,w6.wrap ((↑e:Int)+1)=↑v1.toNat,rq (↑n:Int),rq (↑a:Int),rq L.length,D=D,L=L,aj (Option.isNone (aE (ax D) f v1.toNat n a (bv (some L)) none)) true,aj (decide (w6.wrap ((↑n:Int)*↑e)>↑a)) false,aj ((↑n:Int)==0) false,aj ((↑n:Int)==0) false]) ?_)
 all_goals with_reducible(repeat' first|exact dA|refine bk ?_ ?_|refine bm ?_|(delta aj;assumption))
 all_goals first|exact BU|(first|exact tv|exact tO|exact xq|exact xt)
set_option maxHeartbeats 4000000 in
theorem aax (D:Int)(f e n a:Nat)(L:LC)(hc:bH D (f+1) e n a L none)(h1:0<n)(h5:n*e≤a)(hz2:(aE (ax D) f (e+1) n a L none).isNone=false)(ih:∀e n a L o,bH D f e n a L o→aJ Tryz.prog EV.ng (cW D f e n a (some L) (some L) o)):aJ Tryz.prog EV.ng (cW D (f+1) e n a (some L) (some L) none):=by
 have hr:=mi hc h1 h5
 have hl2:=mj hc h1 h5
 have hs:aE (ax D) (f+1) e n a L none=_:=jJ h1 h5
 rw[mt hz2]at hl2 hs
 obtain⟨c1,c2,c3,c4,c5,c6,c7,c8,c9⟩:=hc
 have hz:((n:Int)==0)=false:=bJ.2 om
 have hy:decide (w6.wrap ((n:Int)*(e:Int))>(a:Int))=false:=mM
 have we:w6.wrap ((e:Int)+1)=((e+1:Nat):Int):=jK om
 have hk:(aE (ax D) f (w6.wrap ((e:Int)+1)).toNat n a (bv (some L)) none).isNone=false:=rf
 refine cQ (cF (cV (jG D ih (sn D)) (dL _ _))) Tryz.func76 (aW (vN D f e n a L (ae (aE (ax D) f (e+1) n a L none)) hl2 ih)) ?_
 intro d hd
 cases d
 rotate_right
 have hd:((aE (ax D) (f+1) e n a (bv (some L)) none).isNone)=true:=hd
 refine aT.no ?_
 rotate_right
 have hd:((aE (ax D) (f+1) e n a (bv (some L)) none).isNone)=false:=hd
 refine lr (tp 2222) (let y5:=(↑e:Int)+1;let y1:=aE (ax D) f (w6.wrap y5).toNat n a (bv (some L)) none;let y2:=aE (ax D) f (e+1) n a L none;let y3:=aE (ax D) (f+1) e n a (bv (some L)) none;let y4:=dX (ax D) f e n a L (some (ae y2)) (ee e n a);[rq L.length,(ae y4).length=(ae y3).length,D=D,L=L,ae y4=ae y3,rq (↑e:Int),rq (↑n:Int),rq (↑a:Int),rq L.length,(ae y1).length=(ae y2).length,D=D,L=L,ae y1=ae y2,bH D f (w6.wrap y5).toNat n a L none,w6.wrap y5=(↑(w6.wrap y5).toNat:Int),rq (↑n:Int),rq (↑a:Int),rq L.length,D=D,L=L,aj (Option.isNone y1) false,aj (decide (w6.wrap ((↑n:Int)*↑e)>↑a)) false,aj ((↑n:Int)==0) false,aj ((↑n:Int)==0) false]) ?_
 all_goals with_reducible(repeat' first|exact dA|refine bk ?_ ?_|refine bm ?_|(delta aj;assumption))
 all_goals first|exact BU|(first|exact tv|exact tO|exact xq|exact xt)
set_option maxHeartbeats 4000000 in
theorem aay (D:Int)(f e n a:Nat)(L:LC)(X:LL)(hc:bH D (f+1) e n a L (some X))(h1:0<n)(h5:n*e≤a)(ih:∀e n a L o,bH D f e n a L o→aJ Tryz.prog EV.ng (cW D f e n a (some L) (some L) o)):aJ Tryz.prog EV.ng (cW D (f+1) e n a (some L) (some L) (some X)):=by
 have hr:=mi hc h1 h5
 have hl2:=mj hc h1 h5
 have hs:aE (ax D) (f+1) e n a L (some X)=_:=jJ h1 h5
 rw[(oH (pU D) f (e+1) n a L X)]at hl2 hs
 obtain⟨c1,c2,c3,c4,c5,c6,c7,c8,c9⟩:=hc
 have hz:((n:Int)==0)=false:=bJ.2 om
 have hy:decide (w6.wrap ((n:Int)*(e:Int))>(a:Int))=false:=mM
 have we:w6.wrap ((e:Int)+1)=((e+1:Nat):Int):=jK om
 refine cQ (cF (cV (jG D ih (sn D)) (dL _ _))) Tryz.func76 (aW (vN D f e n a L (ae (aE (ax D) f (e+1) n a L (some X))) hl2 ih)) ?_
 intro d hd
 cases d
 ·exact Bool.noConfusion (show false=true from hd)
 ·refine lr (tp 222) (let y1:=aE (ax D) f (e+1) n a L (some X);let y2:=w6.wrap ((↑e:Int)+1);let y3:=aE (ax D) (f+1) e n a (bv (some L)) (some X);let y4:=aE (ax D) f y2.toNat n a (bv (some L)) (some X);let y5:=dX (ax D) f e n a L (some (ae y1)) (ee e n a);[rq L.length,(ae y5).length=(ae y3).length,D=D,L=L,ae y5=ae y3,rq (↑e:Int),rq (↑n:Int),rq (↑a:Int),rq L.length,(ae y4).length=(ae y1).length,D=D,L=L,ae y4=ae y1,bH D f y2.toNat n a L (some X),w6.wrap ((↑e:Int)+1)=↑y2.toNat,rq (↑n:Int),rq (↑a:Int),rq L.length,rq X.length,D=D,L=L,X=X,aj (decide (w6.wrap ((↑n:Int)*↑e)>↑a)) false,aj ((↑n:Int)==0) false,aj ((↑n:Int)==0) false]) ?_
  all_goals with_reducible(repeat' first|exact dA|refine bk ?_ ?_|refine bm ?_|(delta aj;assumption))
  all_goals first|exact BU|(first|exact tv|exact tO|exact Cm|exact Cp)
set_option maxHeartbeats 4000000 in
abbrev ov (D:Int)(f:Nat)(e:Nat)(n:Nat)(a:Nat):=aE (ax D) (f+1) e n a (bv none) none
abbrev ow (D:Int)(f:Nat)(e:Nat)(n:Nat)(a:Nat):=dX (ax D) f e n a [] none (ee e n a)
theorem aaz (D:Int)(f e n a:Nat)(hc:bH D (f+1) e n a [] none)(h1:0<n)(h5:n*e≤a)(hz2:(aE (ax D) f (e+1) n a [] none).isNone=true)(hg:n*(e+1)≤a)(ih:∀e n a L o,bH D f e n a L o→aJ Tryz.prog EV.ng (cW D f e n a (some L) (some L) o))(ihn:∀e n a o,bH D f e n a [] o→0<n∧n*e≤a→aJ Tryz.prog EV.ng (cW D f e n a none (some []) o)):aJ Tryz.prog EV.ng (cW D (f+1) e n a none (some []) none):=by
 have hr:=mi hc h1 h5
 have hl2:=mj hc h1 h5
 have hs:aE (ax D) (f+1) e n a [] none=_:=jJ h1 h5
 rw[isN hz2]at hl2 hs
 obtain⟨c1,c2,c3,c4,c5,c6,c7,c8,c9⟩:=hc
 have hz:((n:Int)==0)=false:=bJ.2 om
 have hy:decide (w6.wrap ((n:Int)*(e:Int))>(a:Int))=false:=mM
 have we:w6.wrap ((e:Int)+1)=((e+1:Nat):Int):=jK om
 have hk:(aE (ax D) f (w6.wrap ((e:Int)+1)).toNat n a (bv none) none).isNone=true:=rf
 refine cQ (cF (cV (oI D ihn (jG D ih jI)) (dL _ _))) Tryz.func76 (aW (IO D f e n a [] hl2 ih)) ?_
 intro d hd
 cases d
 rotate_right
 have hd:((aE (ax D) (f+1) e n a (bv none) none).isNone)=true:=hd
 refine oe (Option.isNone (ow D f e n a)) (fun d1=>lr (tp 22211) [rq (0:Nat),D=D,([]:LC)=[],rq (↑e:Int),rq (↑n:Int),rq (↑a:Int),rq (0:Nat),D=D,([]:LC)=[],ty d1,bH D f (w6.wrap ((↑e:Int)+1)).toNat n a [] none∧(fun e n a=>(0:Nat)<n∧n*e≤a) (w6.wrap ((↑e:Int)+1)).toNat n a,w6.wrap ((↑e:Int)+1)=(↑(w6.wrap ((↑e:Int)+1)).toNat:Int),rq (↑n:Int),rq (↑a:Int),D=D,aj (Option.isNone (aE (ax D) f (w6.wrap ((↑e:Int)+1)).toNat n a (bv none) none)) true,aj (decide (w6.wrap ((↑n:Int)*↑e)>↑a)) false,aj ((↑n:Int)==0) false,aj ((↑n:Int)==0) false] ?_)
  (fun d1=>aT.no ?_)
 all_goals with_reducible(repeat' first|exact dA|refine bk ?_ ?_|refine bm ?_|(delta aj;assumption))
 rotate_right
 have hd:((aE (ax D) (f+1) e n a (bv none) none).isNone)=false:=hd
 refine oe (Option.isNone (ow D f e n a)) (fun d1=>aT.no ?_)
  (fun d1=>lr (tp 22212) [rq (0:Nat),(ae (ow D f e n a)).length=(ae (ov D f e n a)).length,D=D,([]:LC)=[],ae (ow D f e n a)=ae (ov D f e n a),rq (↑e:Int),rq (↑n:Int),rq (↑a:Int),rq (0:Nat),D=D,([]:LC)=[],ty d1,bH D f (w6.wrap ((↑e:Int)+1)).toNat n a [] none∧(fun e n a=>(0:Nat)<n∧n*e≤a) (w6.wrap ((↑e:Int)+1)).toNat n a,w6.wrap ((↑e:Int)+1)=(↑(w6.wrap ((↑e:Int)+1)).toNat:Int),rq (↑n:Int),rq (↑a:Int),D=D,aj (Option.isNone (aE (ax D) f (w6.wrap ((↑e:Int)+1)).toNat n a (bv none) none)) true,aj (decide (w6.wrap ((↑n:Int)*↑e)>↑a)) false,aj ((↑n:Int)==0) false,aj ((↑n:Int)==0) false] ?_)
 all_goals with_reducible(repeat' first|exact dA|refine bk ?_ ?_|refine bm ?_|(delta aj;assumption))
 all_goals first|exact rc|exact xg
set_option maxHeartbeats 4000000 in
abbrev x6 (D:Int)(f:Nat)(e:Nat)(n:Nat)(a:Nat):=dX (ax D) f e n a [] (some (ae (aE (ax D) f (e+1) n a [] none))) (ee e n a)
theorem aaA (D:Int)(f e n a:Nat)(hc:bH D (f+1) e n a [] none)(h1:0<n)(h5:n*e≤a)(hz2:(aE (ax D) f (e+1) n a [] none).isNone=false)(hg:n*(e+1)≤a)(ih:∀e n a L o,bH D f e n a L o→aJ Tryz.prog EV.ng (cW D f e n a (some L) (some L) o))(ihn:∀e n a o,bH D f e n a [] o→0<n∧n*e≤a→aJ Tryz.prog EV.ng (cW D f e n a none (some []) o)):aJ Tryz.prog EV.ng (cW D (f+1) e n a none (some []) none):=by
 have hr:=mi hc h1 h5
 have hl2:=mj hc h1 h5
 have hs:aE (ax D) (f+1) e n a [] none=_:=jJ h1 h5
 rw[mt hz2]at hl2 hs
 obtain⟨c1,c2,c3,c4,c5,c6,c7,c8,c9⟩:=hc
 have hz:((n:Int)==0)=false:=bJ.2 om
 have hy:decide (w6.wrap ((n:Int)*(e:Int))>(a:Int))=false:=mM
 have we:w6.wrap ((e:Int)+1)=((e+1:Nat):Int):=jK om
 have hk:(aE (ax D) f (w6.wrap ((e:Int)+1)).toNat n a (bv none) none).isNone=false:=rf
 refine cQ (cF (cV (oI D ihn (jG D ih jI)) (dL _ _))) Tryz.func76 (aW (vN D f e n a [] (ae (aE (ax D) f (e+1) n a [] none)) hl2 ih)) ?_
 intro d hd
 cases d
 rotate_right
 have hd:((aE (ax D) (f+1) e n a (bv none) none).isNone)=true:=hd
 refine aT.no ?_
 rotate_right
 have hd:((aE (ax D) (f+1) e n a (bv none) none).isNone)=false:=hd
 refine lr (tp 2222) [rq (0:Nat),(ae (x6 D f e n a)).length=(ae (ov D f e n a)).length,D=D,([]:LC)=[],ae (x6 D f e n a)=ae (ov D f e n a),rq (↑e:Int),rq (↑n:Int),rq (↑a:Int),rq (0:Nat),(ae (aE (ax D) f (w6.wrap ((↑e:Int)+1)).toNat n a (bv none) none)).length=(ae (aE (ax D) f (e+1) n a [] none)).length,D=D,([]:LC)=[],ae (aE (ax D) f (w6.wrap ((↑e:Int)+1)).toNat n a (bv none) none)=ae (aE (ax D) f (e+1) n a [] none),bH D f (w6.wrap ((↑e:Int)+1)).toNat n a [] none∧(fun e n a=>(0:Nat)<n∧n*e≤a) (w6.wrap ((↑e:Int)+1)).toNat n a,w6.wrap ((↑e:Int)+1)=(↑(w6.wrap ((↑e:Int)+1)).toNat:Int),rq (↑n:Int),rq (↑a:Int),D=D,aj (Option.isNone (aE (ax D) f (w6.wrap ((↑e:Int)+1)).toNat n a (bv none) none)) false,aj (decide (w6.wrap ((↑n:Int)*↑e)>↑a)) false,aj ((↑n:Int)==0) false,aj ((↑n:Int)==0) false] ?_
 all_goals with_reducible(repeat' first|exact dA|refine bk ?_ ?_|refine bm ?_|(delta aj;assumption))
 all_goals first|exact rc|exact xg
set_option maxHeartbeats 4000000 in
abbrev x7 (D:Int)(f:Nat)(e:Nat)(n:Nat)(a:Nat)(X:LL):=dX (ax D) f e n a [] (some (ae (aE (ax D) f (e+1) n a [] (some X)))) (ee e n a)
theorem aaB (D:Int)(f e n a:Nat)(X:LL)(hc:bH D (f+1) e n a [] (some X))(h1:0<n)(h5:n*e≤a)(hg:n*(e+1)≤a)(ih:∀e n a L o,bH D f e n a L o→aJ Tryz.prog EV.ng (cW D f e n a (some L) (some L) o))(ihn:∀e n a o,bH D f e n a [] o→0<n∧n*e≤a→aJ Tryz.prog EV.ng (cW D f e n a none (some []) o)):aJ Tryz.prog EV.ng (cW D (f+1) e n a none (some []) (some X)):=by
 have hr:=mi hc h1 h5
 have hl2:=mj hc h1 h5
 have hs:aE (ax D) (f+1) e n a [] (some X)=_:=jJ h1 h5
 rw[(oH (pU D) f (e+1) n a [] X)]at hl2 hs
 obtain⟨c1,c2,c3,c4,c5,c6,c7,c8,c9⟩:=hc
 have hz:((n:Int)==0)=false:=bJ.2 om
 have hy:decide (w6.wrap ((n:Int)*(e:Int))>(a:Int))=false:=mM
 have we:w6.wrap ((e:Int)+1)=((e+1:Nat):Int):=jK om
 refine cQ (cF (cV (oI D ihn (jG D ih jI)) (dL _ _))) Tryz.func76 (aW (vN D f e n a [] (ae (aE (ax D) f (e+1) n a [] (some X))) hl2 ih)) ?_
 intro d hd
 cases d
 ·exact Bool.noConfusion (show false=true from hd)
 ·refine lr (tp 222) [rq (0:Nat),(ae (x7 D f e n a X)).length=(ae (aE (ax D) (f+1) e n a (bv none) (some X))).length,D=D,([]:LC)=[],ae (x7 D f e n a X)=ae (aE (ax D) (f+1) e n a (bv none) (some X)),rq (↑e:Int),rq (↑n:Int),rq (↑a:Int),rq (0:Nat),(ae (aE (ax D) f (w6.wrap ((↑e:Int)+1)).toNat n a (bv none) (some X))).length=(ae (aE (ax D) f (e+1) n a [] (some X))).length,D=D,([]:LC)=[],ae (aE (ax D) f (w6.wrap ((↑e:Int)+1)).toNat n a (bv none) (some X))=ae (aE (ax D) f (e+1) n a [] (some X)),bH D f (w6.wrap ((↑e:Int)+1)).toNat n a [] (some X)∧(fun e n a=>(0:Nat)<n∧n*e≤a) (w6.wrap ((↑e:Int)+1)).toNat n a,w6.wrap ((↑e:Int)+1)=(↑(w6.wrap ((↑e:Int)+1)).toNat:Int),rq (↑n:Int),rq (↑a:Int),rq X.length,D=D,X=X,aj (decide (w6.wrap ((↑n:Int)*↑e)>↑a)) false,aj ((↑n:Int)==0) false,aj ((↑n:Int)==0) false] ?_
  all_goals with_reducible(repeat' first|exact dA|refine bk ?_ ?_|refine bm ?_|(delta aj;assumption))
  all_goals first|exact rc|(first|exact tv|exact tO|exact Cl|exact Co)
set_option maxHeartbeats 4000000 in
theorem aaC (D:Int)(f e n a:Nat)(hc:bH D (f+1) e n a [] none)(h1:0<n)(h5:n*e≤a)(hz2:(aE (ax D) f (e+1) n a [] none).isNone=true)(hg:a<n*(e+1))(ih:∀e n a L o,bH D f e n a L o→aJ Tryz.prog EV.ng (cW D f e n a (some L) (some L) o))(ihn:∀e n a o,bH D f e n a [] o→0<n∧a<n*e→aJ Tryz.prog EV.ng (cW D f e n a none none o)):aJ Tryz.prog EV.ng (cW D (f+1) e n a none (some []) none):=by
 have hr:=mi hc h1 h5
 have hl2:=mj hc h1 h5
 have hs:aE (ax D) (f+1) e n a [] none=_:=jJ h1 h5
 rw[isN hz2]at hl2 hs
 obtain⟨c1,c2,c3,c4,c5,c6,c7,c8,c9⟩:=hc
 have hz:((n:Int)==0)=false:=bJ.2 om
 have hy:decide (w6.wrap ((n:Int)*(e:Int))>(a:Int))=false:=mM
 have we:w6.wrap ((e:Int)+1)=((e+1:Nat):Int):=jK om
 have hk:(aE (ax D) f (w6.wrap ((e:Int)+1)).toNat n a (bv none) none).isNone=true:=rf
 refine cQ (cF (cV (oI D ihn (jG D ih jI)) (dL _ _))) Tryz.func76 (aW (XM D f e n a hl2 ih)) ?_
 intro d hd
 cases d
 rotate_right
 have hd:((aE (ax D) (f+1) e n a (bv none) none).isNone)=true:=hd
 refine oe (Option.isNone (ow D f e n a)) (fun d1=>lr (tp 22211) [rq (0:Nat),D=D,([]:LC)=[],rq (↑e:Int),rq (↑n:Int),rq (↑a:Int),D=D,ty d1,bH D f (w6.wrap ((↑e:Int)+1)).toNat n a [] none∧(fun e n a=>(0:Nat)<n∧a<n*e) (w6.wrap ((↑e:Int)+1)).toNat n a,w6.wrap ((↑e:Int)+1)=(↑(w6.wrap ((↑e:Int)+1)).toNat:Int),rq (↑n:Int),rq (↑a:Int),D=D,aj (Option.isNone (aE (ax D) f (w6.wrap ((↑e:Int)+1)).toNat n a (bv none) none)) true,aj (decide (w6.wrap ((↑n:Int)*↑e)>↑a)) false,aj ((↑n:Int)==0) false,aj ((↑n:Int)==0) false] ?_)
  (fun d1=>aT.no ?_)
 all_goals with_reducible(repeat' first|exact dA|refine bk ?_ ?_|refine bm ?_|(delta aj;assumption))
 rotate_right
 have hd:((aE (ax D) (f+1) e n a (bv none) none).isNone)=false:=hd
 refine oe (Option.isNone (ow D f e n a)) (fun d1=>aT.no ?_)
  (fun d1=>lr (tp 22212) [rq (0:Nat),(ae (ow D f e n a)).length=(ae (ov D f e n a)).length,D=D,([]:LC)=[],ae (ow D f e n a)=ae (ov D f e n a),rq (↑e:Int),rq (↑n:Int),rq (↑a:Int),D=D,ty d1,bH D f (w6.wrap ((↑e:Int)+1)).toNat n a [] none∧(fun e n a=>(0:Nat)<n∧a<n*e) (w6.wrap ((↑e:Int)+1)).toNat n a,w6.wrap ((↑e:Int)+1)=(↑(w6.wrap ((↑e:Int)+1)).toNat:Int),rq (↑n:Int),rq (↑a:Int),D=D,aj (Option.isNone (aE (ax D) f (w6.wrap ((↑e:Int)+1)).toNat n a (bv none) none)) true,aj (decide (w6.wrap ((↑n:Int)*↑e)>↑a)) false,aj ((↑n:Int)==0) false,aj ((↑n:Int)==0) false] ?_)
 all_goals with_reducible(repeat' first|exact dA|refine bk ?_ ?_|refine bm ?_|(delta aj;assumption))
 all_goals first|exact rc|exact xg
set_option maxHeartbeats 4000000 in
theorem aaD (D:Int)(f e n a:Nat)(hc:bH D (f+1) e n a [] none)(h1:0<n)(h5:n*e≤a)(hz2:(aE (ax D) f (e+1) n a [] none).isNone=false)(hg:a<n*(e+1))(ih:∀e n a L o,bH D f e n a L o→aJ Tryz.prog EV.ng (cW D f e n a (some L) (some L) o))(ihn:∀e n a o,bH D f e n a [] o→0<n∧a<n*e→aJ Tryz.prog EV.ng (cW D f e n a none none o)):aJ Tryz.prog EV.ng (cW D (f+1) e n a none (some []) none):=by
 have hr:=mi hc h1 h5
 have hl2:=mj hc h1 h5
 have hs:aE (ax D) (f+1) e n a [] none=_:=jJ h1 h5
 rw[mt hz2]at hl2 hs
 obtain⟨c1,c2,c3,c4,c5,c6,c7,c8,c9⟩:=hc
 have hz:((n:Int)==0)=false:=bJ.2 om
 have hy:decide (w6.wrap ((n:Int)*(e:Int))>(a:Int))=false:=mM
 have we:w6.wrap ((e:Int)+1)=((e+1:Nat):Int):=jK om
 have hk:(aE (ax D) f (w6.wrap ((e:Int)+1)).toNat n a (bv none) none).isNone=false:=rf
 refine cQ (cF (cV (oI D ihn (jG D ih jI)) (dL _ _))) Tryz.func76 (aW (Iw D f e n a (ae (aE (ax D) f (e+1) n a [] none)) hl2 ih)) ?_
 intro d hd
 cases d
 rotate_right
 have hd:((aE (ax D) (f+1) e n a (bv none) none).isNone)=true:=hd
 refine aT.no ?_
 rotate_right
 have hd:((aE (ax D) (f+1) e n a (bv none) none).isNone)=false:=hd
 refine lr (tp 2222) [rq (0:Nat),(ae (x6 D f e n a)).length=(ae (ov D f e n a)).length,D=D,([]:LC)=[],ae (x6 D f e n a)=ae (ov D f e n a),rq (↑e:Int),rq (↑n:Int),rq (↑a:Int),(ae (aE (ax D) f (w6.wrap ((↑e:Int)+1)).toNat n a (bv none) none)).length=(ae (aE (ax D) f (e+1) n a [] none)).length,D=D,ae (aE (ax D) f (w6.wrap ((↑e:Int)+1)).toNat n a (bv none) none)=ae (aE (ax D) f (e+1) n a [] none),bH D f (w6.wrap ((↑e:Int)+1)).toNat n a [] none∧(fun e n a=>(0:Nat)<n∧a<n*e) (w6.wrap ((↑e:Int)+1)).toNat n a,w6.wrap ((↑e:Int)+1)=(↑(w6.wrap ((↑e:Int)+1)).toNat:Int),rq (↑n:Int),rq (↑a:Int),D=D,aj (Option.isNone (aE (ax D) f (w6.wrap ((↑e:Int)+1)).toNat n a (bv none) none)) false,aj (decide (w6.wrap ((↑n:Int)*↑e)>↑a)) false,aj ((↑n:Int)==0) false,aj ((↑n:Int)==0) false] ?_
 all_goals with_reducible(repeat' first|exact dA|refine bk ?_ ?_|refine bm ?_|(delta aj;assumption))
 all_goals first|exact rc|exact xg
set_option maxHeartbeats 4000000 in
theorem aaE (D:Int)(f e n a:Nat)(X:LL)(hc:bH D (f+1) e n a [] (some X))(h1:0<n)(h5:n*e≤a)(hg:a<n*(e+1))(ih:∀e n a L o,bH D f e n a L o→aJ Tryz.prog EV.ng (cW D f e n a (some L) (some L) o))(ihn:∀e n a o,bH D f e n a [] o→0<n∧a<n*e→aJ Tryz.prog EV.ng (cW D f e n a none none o)):aJ Tryz.prog EV.ng (cW D (f+1) e n a none (some []) (some X)):=by
 have hr:=mi hc h1 h5
 have hl2:=mj hc h1 h5
 have hs:aE (ax D) (f+1) e n a [] (some X)=_:=jJ h1 h5
 rw[(oH (pU D) f (e+1) n a [] X)]at hl2 hs
 obtain⟨c1,c2,c3,c4,c5,c6,c7,c8,c9⟩:=hc
 have hz:((n:Int)==0)=false:=bJ.2 om
 have hy:decide (w6.wrap ((n:Int)*(e:Int))>(a:Int))=false:=mM
 have we:w6.wrap ((e:Int)+1)=((e+1:Nat):Int):=jK om
 refine cQ (cF (cV (oI D ihn (jG D ih jI)) (dL _ _))) Tryz.func76 (aW (Iw D f e n a (ae (aE (ax D) f (e+1) n a [] (some X))) hl2 ih)) ?_
 intro d hd
 cases d
 ·exact Bool.noConfusion (show false=true from hd)
 ·refine lr (tp 222) [rq (0:Nat),(ae (x7 D f e n a X)).length=(ae (aE (ax D) (f+1) e n a (bv none) (some X))).length,D=D,([]:LC)=[],ae (x7 D f e n a X)=ae (aE (ax D) (f+1) e n a (bv none) (some X)),rq (↑e:Int),rq (↑n:Int),rq (↑a:Int),(ae (aE (ax D) f (w6.wrap ((↑e:Int)+1)).toNat n a (bv none) (some X))).length=(ae (aE (ax D) f (e+1) n a [] (some X))).length,D=D,ae (aE (ax D) f (w6.wrap ((↑e:Int)+1)).toNat n a (bv none) (some X))=ae (aE (ax D) f (e+1) n a [] (some X)),bH D f (w6.wrap ((↑e:Int)+1)).toNat n a [] (some X)∧(fun e n a=>(0:Nat)<n∧a<n*e) (w6.wrap ((↑e:Int)+1)).toNat n a,w6.wrap ((↑e:Int)+1)=(↑(w6.wrap ((↑e:Int)+1)).toNat:Int),rq (↑n:Int),rq (↑a:Int),rq X.length,D=D,X=X,aj (decide (w6.wrap ((↑n:Int)*↑e)>↑a)) false,aj ((↑n:Int)==0) false,aj ((↑n:Int)==0) false] ?_
  all_goals with_reducible(repeat' first|exact dA|refine bk ?_ ?_|refine bm ?_|(delta aj;assumption))
  all_goals first|exact rc|(first|exact tv|exact tO|exact Cl|exact Co)
theorem Gw (D:Int):∀(f e n a:Nat)(L:LC)(o:dx),bH D f e n a L o→aJ Tryz.prog EV.ng (cW D f e n a (some L) (some L) o)
 |0,e,n,a,L,o,hc=>absurd hc.2.1 om
 |f+1,e,n,a,L,o,hc=>by
  have ih:=Gw D f
  rcases kw n with h0|h0
  ·cases o with
   |none=>exact Wf D f e n a L hc h0
   |some X=>exact Wg D f e n a L X hc h0
  ·have hcc:=hc
   obtain⟨c1,c2,c3,c4,c5,c6,c7,c8,c9⟩:=hcc
   rcases bA a (n*e)with h|h
   ·cases o with
    |none=>exact Yg D f e n a L h0 om c6 c7 h
    |some X=>exact Yh D f e n a L X h0 om c6 c7 h
   ·cases o with
    |none=>
     cases hz:(aE (ax D) f (e+1) n a L none).isNone with
     |true=>exact aaw D f e n a L hc h0 h hz ih
     |false=>exact aax D f e n a L hc h0 h hz ih
    |some X=>exact aay D f e n a L X hc h0 h ih
theorem U4 (D:Int):∀(f e n a:Nat)(o:dx),bH D f e n a [] o→0<n∧a<n*e→aJ Tryz.prog EV.ng (cW D f e n a none none o)
 |0,e,n,a,o,hc,_=>absurd hc.2.1 om
 |f+1,e,n,a,o,hc,h=>by
  obtain⟨c1,c2,c3,c4,c5,c6,c7,c8,c9⟩:=hc
  cases o with
  |none=>exact Yi D f e n a h.1 om c6 c7 h.2
  |some X=>exact Yj D f e n a X h.1 om c6 c7 h.2
theorem H6 (D:Int):∀(f e n a:Nat)(o:dx),bH D f e n a [] o→0<n∧n*e≤a→aJ Tryz.prog EV.ng (cW D f e n a none (some []) o)
 |0,e,n,a,o,hc,_=>absurd hc.2.1 om
 |f+1,e,n,a,o,hc,h=>by
  have ih:=Gw D f
  rcases bA a (n*(e+1))with hg|hg
  ·have ihn:=U4 D f
   cases o with
   |none=>
    cases hz:(aE (ax D) f (e+1) n a [] none).isNone with
    |true=>exact aaC D f e n a hc h.1 h.2 hz hg ih ihn
    |false=>exact aaD D f e n a hc h.1 h.2 hz hg ih ihn
   |some X=>exact aaE D f e n a X hc h.1 h.2 hg ih ihn
  ·have ihn:=H6 D f
   cases o with
   |none=>
    cases hz:(aE (ax D) f (e+1) n a [] none).isNone with
    |true=>exact aaz D f e n a hc h.1 h.2 hz hg ih ihn
    |false=>exact aaA D f e n a hc h.1 h.2 hz hg ih ihn
   |some X=>exact aaB D f e n a X hc h.1 h.2 hg ih ihn
def GT:List bV:=[
 ⟨26,[],fun A=>match A with
  |[.int .i64 d,.int .i64 p]=>some (.tup [.int .i64 ((vv p.toNat d.toNat).1:Int),.int .i64 ((vv p.toNat d.toNat).2:Int)],[2≤p∧0<d∧d≤2147483647])
  |_=>none⟩]
theorem Pi:∀e∈GT,ch Tryz.prog e:=by
 intro e he
 simp only[GT,bx,cC,cH]at he
 subst he
 intro A R ms h hm
 simp only at h
 split at h
 ·rename_i d p
  cases h
  obtain⟨h1,h2,h3⟩:=ay hm
  have:=yg d.toNat p.toNat om om om
  rw[show((d.toNat:Nat):Int)=d by omega,show((p.toNat:Nat):Int)=p by omega]at this
  exact this
 ·cases h
def Bc (n d:Nat):dx:=aE (ax (d:Int)) 102 0 n (vv 2 d).1 [] none
def gc (n d:Nat):LL:=ae (Bc n d)
theorem JL:∀(f p n:Nat),(vG f p n).1≤f
 |0,p,n=>aZ _
 |f+1,p,n=>by
  unfold vG
  cases Nat.beq (n%p) 0 with
  |true=>exact rA (JL f p (n/p))
  |false=>exact aY _
theorem QO (n d:Nat)(hn:1≤n∧n≤8)(hd:0<d∧d≤10000)(hl:(gc n d).length≤50000):ar Tryz.prog [] 9 [.int .i64 (n:Int),.int .i64 (d:Int)] (dR (gc n d)):=by
 have hv:(vv 2 d).1≤40:=JL 40 2 d
 have hcc:bH (d:Int) 102 0 n (vv 2 d).1 [] none:=⟨om,om,by show 0+n≤10;omega,fun _=>hn.1,fun c hc=>(nomatch hc),om,om,hl,om,om⟩
 refine pr (cF (cV (oI (d:Int) (H6 (d:Int) 102) jI) (fq Pi))) Tryz.func9 aC ?_
 refine(let y1:List Prop:=[(2:Int)≤2∧(0:Int)<↑d∧(↑d:Int)≤2147483647];have u1:ao y1:=(?_:(2:Int)≤2∧(0:Int)<↑d∧(↑d:Int)≤2147483647);oe (Option.isNone (aE (ax (↑d:Int)) (102:Nat) (Int.toNat (0:Int)) n (vv (Int.toNat (2:Int)) d).fst (bv none) none)) (fun d1=>lr [true] (let v1:=vv (Int.toNat (2:Int)) d;let v2:=Int.toNat (0:Int);((gc n d).length=0)::(bH (↑d:Int) (102:Nat) v2 n v1.fst [] none∧(fun e n a=>(0:Nat)<n∧n*e≤a) v2 n v1.fst)::((0:Int)=↑v2)::rq (↑n:Int)::rq (↑v1.fst:Int)::rq (↑d:Int)::ty d1::y1) ⟨?_,?_,?_,?_,?_,?_,d1,u1⟩)
  (fun d1=>lr [false] (let v1:=vv (Int.toNat (2:Int)) d;let v2:=Int.toNat (0:Int);let v3:=ax (↑d:Int);((ae (aE v3 (102:Nat) v2 n v1.fst (bv none) none)).length=(gc n d).length∧(ae (aE v3 (102:Nat) v2 n v1.fst (bv none) none)).length=(ae (aE v3 (102:Nat) v2 n v1.fst (bv none) none)).length∧∀(i:Nat),i<(ae (aE v3 (102:Nat) v2 n v1.fst (bv none) none)).length→(fun i=>((gc n d).getD i Loc.zero).rvs) i=aa.loc.rvs ((ae (aE v3 (102:Nat) v2 n v1.fst (bv none) none)).getD i aa.loc.zero))::(bH (↑d:Int) (102:Nat) v2 n v1.fst [] none∧(fun e n a=>(0:Nat)<n∧n*e≤a) v2 n v1.fst)::((0:Int)=↑v2)::rq (↑n:Int)::rq (↑v1.fst:Int)::rq (↑d:Int)::ty d1::y1) ⟨?_,?_,?_,?_,?_,?_,d1,u1⟩))
 all_goals first|(first|exact tv|exact⟨hcc,hn.1,aY _⟩|exact⟨de,om,om⟩|(show(ae (Bc n d)).length=0;rw[show Bc n d=none from isN d1];rfl)|exact re)
theorem clRel {γ:Gm}:∀{A:List RV}{Args:List Value},bM γ.fz A Args→au γ (RV.cl A) Args
 |[],_,h=>by cases h;exact .nil
 |r::l,_,h=>by
  cases h with
  |cons h1 h2=>
   unfold RV.cl
   split
   ·rename_i e;cases e
   ·rename_i e;cases e;cases h1;exact .cons (.int _ _) (clRel h2)
   ·rename_i e;cases e;exact .cons h1.av (clRel h2)
noncomputable def mg (f:Nat)(tabs:List Tb)(A:List RV)(R:RV):Bool:=match ic EC (lA EC qz 20) By f (RV.cl A) ⟨bc (fe tabs),1000,[],[]⟩with
 |some (v,⟨m,_,_,[]⟩)=>qW m 9 v R
 |_=>false
theorem pM {f:Nat}{tabs:List Tb}{A:List RV}{R:RV}(h:mg f tabs A R=true)(hg:tabs.all (fun t=>Nat.blt t.g EC.ng)=true:=by rfl)(hok:eN (fe tabs)=true:=by rfl):ar Tryz.prog tabs f A R:=by
 unfold mg at h
 split at h
 ·rename_i heq
  exact CX Ks (j6 Ks (dL _ _) 20) (fun γ F Args e h=>by subst e;exact clRel h) (fun _ _ _ _=>F7 _ _ _ _) hg hok abP heq (fun _ h=>nomatch h) fun γ w F hr hF hO V hV=>ve hr hO 9 _ _ _ h hV
 ·cases h
def ii (n:Nat):RV:=.int .i64 (n:Int)
end Go.Proofs.YtmeljalphfcieaaGreatDoor.S
end
