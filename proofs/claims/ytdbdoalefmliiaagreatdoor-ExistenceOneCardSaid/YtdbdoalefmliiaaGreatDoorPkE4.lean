/- A part of the proof of ExistenceOne: QD, QE, QF, EC, ED, EE, QG, QH, YN, YP, VA, YQ, VB, TA, TB, YB, YC, YD, Y1, YA, YR, YK, TE, TM, VC, TC, YU, TD, VD, VP, VF1, QI0. -/
import Derived.Test.YtdbdoalefmliiaaGreatDoorPkE3
import Derived.Test.YtdbdoalefmliiaaGreatDoorPkE2
set_option linter.unusedSimpArgs false
set_option linter.unusedVariables false
set_option maxRecDepth 100000
open Go.IntKind renaming i64 → w6
open Go.QfSy.Con renaming zero → z0c
noncomputable section
namespace Go.Proofs.YtdbdoalefmliiaaGreatDoor.S
open Go.QfSy Go.RowKit
noncomputable def Ac:List cq:=[⟨35,[aL],fun A=>match A with
 |[.int .i64 k]=>some (.int .i64 ((ld k.toNat:Nat):Int),[2≤k∧k≤2147483647])
 |_=>none⟩]
theorem iY:∀e∈Ac,cJ Tryz.prog e:=by
 intro e he
 simp only[Ac,bC,cU,cY]at he
 subst he
 intro A R ms h hm
 simp only at h
 split at h
 ·rename_i k
  cases h
  obtain⟨h1,h2⟩:=aA hm
  have:=Cp k.toNat om om
  rwa[ov om]at this
 ·cases h
structure VX (p u a X:Nat):Prop where
 eq:X=p^a*u
 hp:2≤p
 hu:u%p≠0
 le:X≤10000
theorem VX.pos {p u a X:Nat}(h:VX p u a X):0<X∧X<4294967296:=by
 have:=h.le
 refine⟨?_,om⟩
 rw[h.eq]
 refine Nat.mul_pos (Nat.pow_pos BX) (kR fun e=>h.hu (by rw[e,Nat.zero_mod]))
theorem VX.yes {p u a X Q k:Nat}(h:VX p u (a+k) X)(hQ:Q=p^k):X%Q=0∧VX p u a (X/Q)∧Q≤10000:=by
 have hp:0<Q:=by rw[hQ];exact Nat.pow_pos BX
 have e:X=Q*(p^a*u):=by rw[h.eq,hQ,Nat.pow_add,Nat.mul_comm (p^a),Nat.mul_assoc]
 have e2:X/Q=p^a*u:=by rw[e,Nat.mul_div_cancel_left _ hp]
 have h0:X%Q=0:=by rw[e,Nat.mul_mod_right]
 have:=h.le
 refine⟨h0,⟨e2,h.hp,h.hu,cl (Nat.div_le_self _ _) h.le⟩,cl (Nat.le_of_dvd h.pos.1 (ml h0)) h.le⟩
theorem VX.no {p u a X Q j:Nat}(h:VX p u a X)(hQ:Q=p^(a+1+j)):0<X%Q∧X%Q<4294967296:=by
 have:=h.le
 have h2:X%Q≤X:=Nat.mod_le _ _
 refine⟨kR fun e=>h.hu ?_,om⟩
 have d:p^a*p∣p^a*u:=by
  rw[←h.eq,←jp]
  refine Nat.dvd_trans ?_ (ml e)
  rw[hQ,Nat.pow_add]
  exact Nat.dvd_mul_right _ _
 exact xN (Nat.dvd_of_mul_dvd_mul_left (Nat.pow_pos BX) d)
theorem VX.t {p u a X Q k:Nat}(h:VX p u (a+k) X)(hQ:Q=p^k):decide (X%Q=0)=true:=bJ (h.yes hQ).1
theorem VX.f {p u a X Q j:Nat}(h:VX p u a X)(hQ:Q=p^(a+1+j)):decide (X%Q=0)=false:=bI (by have:=h.no hQ;omega)
theorem eC {p Q k:Nat}(h:Q=p^k):Q*Q=p^(k+k):=by rw[h,←Nat.pow_add]
theorem eD {Q:Nat}(h:Q≤10000):Q*Q<4294967296:=pN (mr h h) de
theorem cQ {p Q k:Nat}(hp:2≤p)(hQ:Q=p^k)(hb:Q<4294967296):0<Q∧Q<4294967296:=⟨by rw[hQ];exact Nat.pow_pos om,hb⟩
abbrev af (p:Nat):Nat:=p*p
abbrev aq (p:Nat):Nat:=af p*af p
abbrev dM (p:Nat):Nat:=aq p*aq p
abbrev ai (x:Nat):Prop:=aQ x=aQ x∧0<x∧x<4294967296
theorem V7 (n p u:Nat)(hp:2≤p∧p≤10000)(hl:ld p=p)(hn:VX p u 0 n):ax Tryz.prog [aL] 148 [aQ n,.int .i64 (p:Int)] (.tup [.int .i64 0,aQ u,.int .i64 0]):=by
 have kp1:decide ((↑p:Int)≥2)=true:=bJ om
 have kp2:decide ((↑p:Int)≤2147483647)=true:=bJ om
 have kp3:((↑(ld p):Int)==↑p)=true:=by rw[hl];exact ey _
 have m0:p=p^1:=(ie p).symm
 have q0:=cQ hp.1 m0 om
 have f1:=VX.no (j:=0) hn m0
 have x0:n=u:=by have:=hn.eq;rwa[iU,ig]at this
 have rr:=fun(tp:List Bool)(ms:List Prop)h hm=>cx aX (bU aX (gV iY) 12) Tryz.func148 (A:=[aQ n,.int .i64 (p:Int)]) rfl aE rfl rfl cv (tabs:=[aL]) (R:=.tup [.int .i64 0,aQ u,.int .i64 0]) (tp:=tp) (ms:=ms) h hm
 refine rr (tp 112221) [rq (0:Int),false=false,(1:Nat)=1∧(fun(x:Nat)=>[RV.int IntKind.u32 (↑n:Int)])=fun(x:Nat)=>[RV.int IntKind.u32 (↑u:Int)],rq (0:Int),aa ((1:Int)!=(0:Int)) true,ai (n%p),ai n,ai p,(0:Nat)<n%p,aa (decide (n%p=0)) false,(0:Int)<↑p∧(↑p:Int)<4294967296,ai n,aa ((1:Int)==0) false,ai n,aa (!(↑(ld p):Int)==↑p) false,(2:Int)≤↑p∧(↑p:Int)≤2147483647,aa (decide ((↑p:Int)≤2147483647)) true,aa (decide ((↑p:Int)≥2)) true] kr ⟨?_,?_,?_,?_,(dN rfl),?_,?_,?_,?_,hn.f (j:=0) m0,?_,?_,rfl,?_,(dN kp3),?_,kp2,kp1⟩
 all_goals first|(first|exact tr|exact jl|exact⟨rfl,q0⟩|exact f1.1|exact⟨rfl,f1⟩|exact jB|decide|omega|exact⟨om,om⟩|exact jC)
theorem V8 (n p u:Nat)(hp:2≤p∧p≤10000)(hl:ld p=p)(hn:VX p u 1 n):ax Tryz.prog [aL] 148 [aQ n,.int .i64 (p:Int)] (.tup [.int .i64 1,aQ u,.int .i64 0]):=by
 have kp1:decide ((↑p:Int)≥2)=true:=bJ om
 have kp2:decide ((↑p:Int)≤2147483647)=true:=bJ om
 have kp3:((↑(ld p):Int)==↑p)=true:=by rw[hl];exact ey _
 have m0:p=p^1:=(ie p).symm
 have q0:=cQ hp.1 m0 om
 have s1:=VX.yes (a:=0) (k:=1) hn m0
 have m1:=eC m0
 have b1:=eD s1.2.2
 have q1:=cQ hp.1 m1 b1
 have f2:=VX.no (j:=1) s1.2.1 m1
 have f3:=VX.no (j:=0) s1.2.1 m0
 have x0:n/p=u:=by have:=s1.2.1.eq;rwa[iU,ig]at this
 have rr:=fun(tp:List Bool)(ms:List Prop)h hm=>cx aX (bU aX (gV iY) 12) Tryz.func148 (A:=[aQ n,.int .i64 (p:Int)]) rfl aE rfl rfl cv (tabs:=[aL]) (R:=.tup [.int .i64 1,aQ u,.int .i64 0]) (tp:=tp) (ms:=ms) h hm
 refine rr (tp 1122122121) [rq (1:Int),false=false,(1:Nat)=1∧(fun(x:Nat)=>[RV.int IntKind.u32 (↑(n/p):Int)])=fun(x:Nat)=>[RV.int IntKind.u32 (↑u:Int)],rq (0:Int),aa ((1:Int)!=(0:Int)) true,ai (n/p%p),ai (n/p),ai p,(0:Nat)<n/p%p,aa (decide (n/p%p=0)) false,aa ((1:Int)!=(0:Int)) true,ai (n/p%(af p)),ai (n/p),ai (af p),(0:Nat)<n/p%(af p),aa (decide (n/p%(af p)=0)) false,ai p,ai p,af p<4294967296,aa ((0:Int)!=(0:Int)) false,false=false∧(0:Nat)=0∧(1:Nat)=1,ai n,ai p,n%p=0,aa (decide (n%p=0)) true,(0:Int)<↑p∧(↑p:Int)<4294967296,ai n,aa ((1:Int)==0) false,ai n,aa (!(↑(ld p):Int)==↑p) false,(2:Int)≤↑p∧(↑p:Int)≤2147483647,aa (decide ((↑p:Int)≤2147483647)) true,aa (decide ((↑p:Int)≥2)) true] kr ⟨?_,?_,?_,?_,(dN rfl),?_,?_,?_,?_,s1.2.1.f (j:=0) m0,(dN rfl),?_,?_,?_,?_,s1.2.1.f (j:=1) m1,?_,?_,?_,(dN rfl),?_,?_,?_,?_,hn.t (k:=1) m0,?_,?_,rfl,?_,(dN kp3),?_,kp2,kp1⟩
 all_goals first|(first|exact tr|exact jl|exact⟨rfl,q0⟩|exact s1.1|exact ka|exact b1|exact⟨rfl,q1⟩|exact f2.1|exact⟨rfl,f2⟩|exact f3.1|exact⟨rfl,f3⟩|exact jB|decide|omega|exact⟨om,om⟩|exact jC)
theorem V9 (n p u:Nat)(hp:2≤p∧p≤10000)(hl:ld p=p)(hn:VX p u 2 n):ax Tryz.prog [aL] 148 [aQ n,.int .i64 (p:Int)] (.tup [.int .i64 2,aQ u,.int .i64 0]):=by
 have kp1:decide ((↑p:Int)≥2)=true:=bJ om
 have kp2:decide ((↑p:Int)≤2147483647)=true:=bJ om
 have kp3:((↑(ld p):Int)==↑p)=true:=by rw[hl];exact ey _
 have m0:p=p^1:=(ie p).symm
 have q0:=cQ hp.1 m0 om
 have s1:=VX.yes (a:=1) (k:=1) hn m0
 have m1:=eC m0
 have b1:=eD s1.2.2
 have q1:=cQ hp.1 m1 b1
 have f2:=VX.no (j:=0) s1.2.1 m1
 have s3:=VX.yes (a:=0) (k:=1) s1.2.1 m0
 have x0:n/p/p=u:=by have:=s3.2.1.eq;rwa[iU,ig]at this
 have rr:=fun(tp:List Bool)(ms:List Prop)h hm=>cx aX (bU aX (gV iY) 12) Tryz.func148 (A:=[aQ n,.int .i64 (p:Int)]) rfl aE rfl rfl cv (tabs:=[aL]) (R:=.tup [.int .i64 2,aQ u,.int .i64 0]) (tp:=tp) (ms:=ms) h hm
 refine rr (tp 1122122112) [rq (2:Int),false=false,(1:Nat)=1∧(fun(x:Nat)=>[RV.int IntKind.u32 (↑(n/p/p):Int)])=fun(x:Nat)=>[RV.int IntKind.u32 (↑u:Int)],rq (0:Int),aa ((0:Int)!=(0:Int)) false,false=false∧(0:Nat)=0∧(1:Nat)=1,ai (n/p),ai p,n/p%p=0,aa (decide (n/p%p=0)) true,aa ((1:Int)!=(0:Int)) true,ai (n/p%(af p)),ai (n/p),ai (af p),(0:Nat)<n/p%(af p),aa (decide (n/p%(af p)=0)) false,ai p,ai p,af p<4294967296,aa ((0:Int)!=(0:Int)) false,false=false∧(0:Nat)=0∧(1:Nat)=1,ai n,ai p,n%p=0,aa (decide (n%p=0)) true,(0:Int)<↑p∧(↑p:Int)<4294967296,ai n,aa ((1:Int)==0) false,ai n,aa (!(↑(ld p):Int)==↑p) false,(2:Int)≤↑p∧(↑p:Int)≤2147483647,aa (decide ((↑p:Int)≤2147483647)) true,aa (decide ((↑p:Int)≥2)) true] kr ⟨?_,?_,?_,?_,(dN rfl),?_,?_,?_,?_,s1.2.1.t (k:=1) m0,(dN rfl),?_,?_,?_,?_,s1.2.1.f (j:=0) m1,?_,?_,?_,(dN rfl),?_,?_,?_,?_,hn.t (k:=1) m0,?_,?_,rfl,?_,(dN kp3),?_,kp2,kp1⟩
 all_goals first|(first|exact tr|exact jl|exact⟨rfl,q0⟩|exact s1.1|exact ka|exact b1|exact⟨rfl,q1⟩|exact f2.1|exact⟨rfl,f2⟩|exact s3.1|exact oq|exact jB|decide|omega|exact⟨om,om⟩|exact jC)
theorem Wa (n p u:Nat)(hp:2≤p∧p≤10000)(hl:ld p=p)(hn:VX p u 3 n):ax Tryz.prog [aL] 148 [aQ n,.int .i64 (p:Int)] (.tup [.int .i64 3,aQ u,.int .i64 0]):=by
 have kp1:decide ((↑p:Int)≥2)=true:=bJ om
 have kp2:decide ((↑p:Int)≤2147483647)=true:=bJ om
 have kp3:((↑(ld p):Int)==↑p)=true:=by rw[hl];exact ey _
 have m0:p=p^1:=(ie p).symm
 have q0:=cQ hp.1 m0 om
 have s1:=VX.yes (a:=2) (k:=1) hn m0
 have m1:=eC m0
 have b1:=eD s1.2.2
 have q1:=cQ hp.1 m1 b1
 have s2:=VX.yes (a:=0) (k:=2) s1.2.1 m1
 have m2:=eC m1
 have b2:=eD s2.2.2
 have q2:=cQ hp.1 m2 b2
 have f3:=VX.no (j:=3) s2.2.1 m2
 have f4:=VX.no (j:=1) s2.2.1 m1
 have f5:=VX.no (j:=0) s2.2.1 m0
 have x0:n/p/(af p)=u:=by have:=s2.2.1.eq;rwa[iU,ig]at this
 have rr:=fun(tp:List Bool)(ms:List Prop)h hm=>cx aX (bU aX (gV iY) 12) Tryz.func148 (A:=[aQ n,.int .i64 (p:Int)]) rfl aE rfl rfl cv (tabs:=[aL]) (R:=.tup [.int .i64 3,aQ u,.int .i64 0]) (tp:=tp) (ms:=ms) h hm
 refine rr (tp 11221212212121) (let v1:=n/p/(af p);let v2:=(1:Int)!=(0:Int);[rq (3:Int),false=false,(1:Nat)=1∧(fun(x:Nat)=>[RV.int IntKind.u32 (↑v1:Int)])=fun(x:Nat)=>[RV.int IntKind.u32 (↑u:Int)],rq (0:Int),aa v2 true,ai (n/p/(af p)%p),ai v1,ai p,(0:Nat)<n/p/(af p)%p,aa (decide (n/p/(af p)%p=0)) false,aa v2 true,ai (n/p/(af p)%(af p)),ai v1,ai (af p),(0:Nat)<n/p/(af p)%(af p),aa (decide (n/p/(af p)%(af p)=0)) false,aa v2 true,ai (n/p/(af p)%(aq p)),ai v1,ai (aq p),(0:Nat)<n/p/(af p)%(aq p),aa (decide (n/p/(af p)%(aq p)=0)) false,ai (af p),ai (af p),aq p<4294967296,aa ((0:Int)!=(0:Int)) false,false=false∧(0:Nat)=0∧(1:Nat)=1,ai (n/p),ai (af p),n/p%(af p)=0,aa (decide (n/p%(af p)=0)) true,ai p,ai p,af p<4294967296,aa ((0:Int)!=(0:Int)) false,false=false∧(0:Nat)=0∧(1:Nat)=1,ai n,ai p,n%p=0,aa (decide (n%p=0)) true,(0:Int)<↑p∧(↑p:Int)<4294967296,ai n,aa ((1:Int)==0) false,ai n,aa (!(↑(ld p):Int)==↑p) false,(2:Int)≤↑p∧(↑p:Int)≤2147483647,aa (decide ((↑p:Int)≤2147483647)) true,aa (decide ((↑p:Int)≥2)) true]) kr ⟨?_,?_,?_,?_,(dN rfl),?_,?_,?_,?_,s2.2.1.f (j:=0) m0,(dN rfl),?_,?_,?_,?_,s2.2.1.f (j:=1) m1,(dN rfl),?_,?_,?_,?_,s2.2.1.f (j:=3) m2,?_,?_,?_,(dN rfl),?_,?_,?_,?_,s1.2.1.t (k:=2) m1,?_,?_,?_,(dN rfl),?_,?_,?_,?_,hn.t (k:=1) m0,?_,?_,rfl,?_,(dN kp3),?_,kp2,kp1⟩
 all_goals first|(first|exact tr|exact jl|exact⟨rfl,q0⟩|exact s1.1|exact ka|exact b1|exact⟨rfl,q1⟩|exact s2.1|exact lD|exact b2|exact⟨rfl,q2⟩|exact f3.1|exact⟨rfl,f3⟩|exact f4.1|exact⟨rfl,f4⟩|exact f5.1|exact⟨rfl,f5⟩|exact jB|decide|omega|exact⟨om,om⟩|exact jC)
theorem Wb (n p u:Nat)(hp:2≤p∧p≤10000)(hl:ld p=p)(hn:VX p u 4 n):ax Tryz.prog [aL] 148 [aQ n,.int .i64 (p:Int)] (.tup [.int .i64 4,aQ u,.int .i64 0]):=by
 have kp1:decide ((↑p:Int)≥2)=true:=bJ om
 have kp2:decide ((↑p:Int)≤2147483647)=true:=bJ om
 have kp3:((↑(ld p):Int)==↑p)=true:=by rw[hl];exact ey _
 have m0:p=p^1:=(ie p).symm
 have q0:=cQ hp.1 m0 om
 have s1:=VX.yes (a:=3) (k:=1) hn m0
 have m1:=eC m0
 have b1:=eD s1.2.2
 have q1:=cQ hp.1 m1 b1
 have s2:=VX.yes (a:=1) (k:=2) s1.2.1 m1
 have m2:=eC m1
 have b2:=eD s2.2.2
 have q2:=cQ hp.1 m2 b2
 have f3:=VX.no (j:=2) s2.2.1 m2
 have f4:=VX.no (j:=0) s2.2.1 m1
 have s5:=VX.yes (a:=0) (k:=1) s2.2.1 m0
 have x0:n/p/(af p)/p=u:=by have:=s5.2.1.eq;rwa[iU,ig]at this
 have rr:=fun(tp:List Bool)(ms:List Prop)h hm=>cx aX (bU aX (gV iY) 12) Tryz.func148 (A:=[aQ n,.int .i64 (p:Int)]) rfl aE rfl rfl cv (tabs:=[aL]) (R:=.tup [.int .i64 4,aQ u,.int .i64 0]) (tp:=tp) (ms:=ms) h hm
 refine rr (tp 11221212212112) (let v1:=(0:Int)!=(0:Int);let v2:=n/p/(af p);[rq (4:Int),false=false,(1:Nat)=1∧(fun(x:Nat)=>[RV.int IntKind.u32 (↑(n/p/(af p)/p):Int)])=fun(x:Nat)=>[RV.int IntKind.u32 (↑u:Int)],rq (0:Int),aa v1 false,false=false∧(0:Nat)=0∧(1:Nat)=1,ai v2,ai p,n/p/(af p)%p=0,aa (decide (n/p/(af p)%p=0)) true,aa ((1:Int)!=(0:Int)) true,ai (n/p/(af p)%(af p)),ai v2,ai (af p),(0:Nat)<n/p/(af p)%(af p),aa (decide (n/p/(af p)%(af p)=0)) false,aa ((1:Int)!=(0:Int)) true,ai (n/p/(af p)%(aq p)),ai v2,ai (aq p),(0:Nat)<n/p/(af p)%(aq p),aa (decide (n/p/(af p)%(aq p)=0)) false,ai (af p),ai (af p),aq p<4294967296,aa v1 false,false=false∧(0:Nat)=0∧(1:Nat)=1,ai (n/p),ai (af p),n/p%(af p)=0,aa (decide (n/p%(af p)=0)) true,ai p,ai p,af p<4294967296,aa v1 false,false=false∧(0:Nat)=0∧(1:Nat)=1,ai n,ai p,n%p=0,aa (decide (n%p=0)) true,(0:Int)<↑p∧(↑p:Int)<4294967296,ai n,aa ((1:Int)==0) false,ai n,aa (!(↑(ld p):Int)==↑p) false,(2:Int)≤↑p∧(↑p:Int)≤2147483647,aa (decide ((↑p:Int)≤2147483647)) true,aa (decide ((↑p:Int)≥2)) true]) kr ⟨?_,?_,?_,?_,(dN rfl),?_,?_,?_,?_,s2.2.1.t (k:=1) m0,(dN rfl),?_,?_,?_,?_,s2.2.1.f (j:=0) m1,(dN rfl),?_,?_,?_,?_,s2.2.1.f (j:=2) m2,?_,?_,?_,(dN rfl),?_,?_,?_,?_,s1.2.1.t (k:=2) m1,?_,?_,?_,(dN rfl),?_,?_,?_,?_,hn.t (k:=1) m0,?_,?_,rfl,?_,(dN kp3),?_,kp2,kp1⟩
 all_goals first|(first|exact tr|exact jl|exact⟨rfl,q0⟩|exact s1.1|exact ka|exact b1|exact⟨rfl,q1⟩|exact s2.1|exact lD|exact b2|exact⟨rfl,q2⟩|exact f3.1|exact⟨rfl,f3⟩|exact f4.1|exact⟨rfl,f4⟩|exact s5.1|exact ue|exact jB|decide|omega|exact⟨om,om⟩|exact jC)
theorem Wc (n p u:Nat)(hp:2≤p∧p≤10000)(hl:ld p=p)(hn:VX p u 5 n):ax Tryz.prog [aL] 148 [aQ n,.int .i64 (p:Int)] (.tup [.int .i64 5,aQ u,.int .i64 0]):=by
 have kp1:decide ((↑p:Int)≥2)=true:=bJ om
 have kp2:decide ((↑p:Int)≤2147483647)=true:=bJ om
 have kp3:((↑(ld p):Int)==↑p)=true:=by rw[hl];exact ey _
 have m0:p=p^1:=(ie p).symm
 have q0:=cQ hp.1 m0 om
 have s1:=VX.yes (a:=4) (k:=1) hn m0
 have m1:=eC m0
 have b1:=eD s1.2.2
 have q1:=cQ hp.1 m1 b1
 have s2:=VX.yes (a:=2) (k:=2) s1.2.1 m1
 have m2:=eC m1
 have b2:=eD s2.2.2
 have q2:=cQ hp.1 m2 b2
 have f3:=VX.no (j:=1) s2.2.1 m2
 have s4:=VX.yes (a:=0) (k:=2) s2.2.1 m1
 have f5:=VX.no (j:=0) s4.2.1 m0
 have x0:n/p/(af p)/(af p)=u:=by have:=s4.2.1.eq;rwa[iU,ig]at this
 have rr:=fun(tp:List Bool)(ms:List Prop)h hm=>cx aX (bU aX (gV iY) 12) Tryz.func148 (A:=[aQ n,.int .i64 (p:Int)]) rfl aE rfl rfl cv (tabs:=[aL]) (R:=.tup [.int .i64 5,aQ u,.int .i64 0]) (tp:=tp) (ms:=ms) h hm
 refine rr (tp 11221212211221) (let v1:=(0:Int)!=(0:Int);[rq (5:Int),false=false,(1:Nat)=1∧(fun(x:Nat)=>[RV.int IntKind.u32 (↑(n/p/(af p)/(af p)):Int)])=fun(x:Nat)=>[RV.int IntKind.u32 (↑u:Int)],rq (0:Int),aa ((1:Int)!=(0:Int)) true,ai (n/p/(af p)/(af p)%p),ai (n/p/(af p)/(af p)),ai p,(0:Nat)<n/p/(af p)/(af p)%p,aa (decide (n/p/(af p)/(af p)%p=0)) false,aa v1 false,false=false∧(0:Nat)=0∧(1:Nat)=1,ai (n/p/(af p)),ai (af p),n/p/(af p)%(af p)=0,aa (decide (n/p/(af p)%(af p)=0)) true,aa ((1:Int)!=(0:Int)) true,ai (n/p/(af p)%(aq p)),ai (n/p/(af p)),ai (aq p),(0:Nat)<n/p/(af p)%(aq p),aa (decide (n/p/(af p)%(aq p)=0)) false,ai (af p),ai (af p),aq p<4294967296,aa v1 false,false=false∧(0:Nat)=0∧(1:Nat)=1,ai (n/p),ai (af p),n/p%(af p)=0,aa (decide (n/p%(af p)=0)) true,ai p,ai p,af p<4294967296,aa v1 false,false=false∧(0:Nat)=0∧(1:Nat)=1,ai n,ai p,n%p=0,aa (decide (n%p=0)) true,(0:Int)<↑p∧(↑p:Int)<4294967296,ai n,aa ((1:Int)==0) false,ai n,aa (!(↑(ld p):Int)==↑p) false,(2:Int)≤↑p∧(↑p:Int)≤2147483647,aa (decide ((↑p:Int)≤2147483647)) true,aa (decide ((↑p:Int)≥2)) true]) kr ⟨?_,?_,?_,?_,(dN rfl),?_,?_,?_,?_,s4.2.1.f (j:=0) m0,(dN rfl),?_,?_,?_,?_,s2.2.1.t (k:=2) m1,(dN rfl),?_,?_,?_,?_,s2.2.1.f (j:=1) m2,?_,?_,?_,(dN rfl),?_,?_,?_,?_,s1.2.1.t (k:=2) m1,?_,?_,?_,(dN rfl),?_,?_,?_,?_,hn.t (k:=1) m0,?_,?_,rfl,?_,(dN kp3),?_,kp2,kp1⟩
 all_goals first|(first|exact tr|exact jl|exact⟨rfl,q0⟩|exact s1.1|exact ka|exact b1|exact⟨rfl,q1⟩|exact s2.1|exact lD|exact b2|exact⟨rfl,q2⟩|exact f3.1|exact⟨rfl,f3⟩|exact s4.1|exact⟨rfl,s4.2.1.pos⟩|exact f5.1|exact⟨rfl,f5⟩|exact jB|decide|omega|exact⟨om,om⟩|exact jC)
theorem Wd (n p u:Nat)(hp:2≤p∧p≤10000)(hl:ld p=p)(hn:VX p u 6 n):ax Tryz.prog [aL] 148 [aQ n,.int .i64 (p:Int)] (.tup [.int .i64 6,aQ u,.int .i64 0]):=by
 have kp1:decide ((↑p:Int)≥2)=true:=bJ om
 have kp2:decide ((↑p:Int)≤2147483647)=true:=bJ om
 have kp3:((↑(ld p):Int)==↑p)=true:=by rw[hl];exact ey _
 have m0:p=p^1:=(ie p).symm
 have q0:=cQ hp.1 m0 om
 have s1:=VX.yes (a:=5) (k:=1) hn m0
 have m1:=eC m0
 have b1:=eD s1.2.2
 have q1:=cQ hp.1 m1 b1
 have s2:=VX.yes (a:=3) (k:=2) s1.2.1 m1
 have m2:=eC m1
 have b2:=eD s2.2.2
 have q2:=cQ hp.1 m2 b2
 have f3:=VX.no (j:=0) s2.2.1 m2
 have s4:=VX.yes (a:=1) (k:=2) s2.2.1 m1
 have s5:=VX.yes (a:=0) (k:=1) s4.2.1 m0
 have x0:n/p/(af p)/(af p)/p=u:=by have:=s5.2.1.eq;rwa[iU,ig]at this
 have rr:=fun(tp:List Bool)(ms:List Prop)h hm=>cx aX (bU aX (gV iY) 12) Tryz.func148 (A:=[aQ n,.int .i64 (p:Int)]) rfl aE rfl rfl cv (tabs:=[aL]) (R:=.tup [.int .i64 6,aQ u,.int .i64 0]) (tp:=tp) (ms:=ms) h hm
 refine rr (tp 11221212211212) (let v1:=(0:Int)!=(0:Int);[rq (6:Int),false=false,(1:Nat)=1∧(fun(x:Nat)=>[RV.int IntKind.u32 (↑(n/p/(af p)/(af p)/p):Int)])=fun(x:Nat)=>[RV.int IntKind.u32 (↑u:Int)],rq (0:Int),aa v1 false,false=false∧(0:Nat)=0∧(1:Nat)=1,ai (n/p/(af p)/(af p)),ai p,n/p/(af p)/(af p)%p=0,aa (decide (n/p/(af p)/(af p)%p=0)) true,aa v1 false,false=false∧(0:Nat)=0∧(1:Nat)=1,ai (n/p/(af p)),ai (af p),n/p/(af p)%(af p)=0,aa (decide (n/p/(af p)%(af p)=0)) true,aa ((1:Int)!=(0:Int)) true,ai (n/p/(af p)%(aq p)),ai (n/p/(af p)),ai (aq p),(0:Nat)<n/p/(af p)%(aq p),aa (decide (n/p/(af p)%(aq p)=0)) false,ai (af p),ai (af p),aq p<4294967296,aa v1 false,false=false∧(0:Nat)=0∧(1:Nat)=1,ai (n/p),ai (af p),n/p%(af p)=0,aa (decide (n/p%(af p)=0)) true,ai p,ai p,af p<4294967296,aa v1 false,false=false∧(0:Nat)=0∧(1:Nat)=1,ai n,ai p,n%p=0,aa (decide (n%p=0)) true,(0:Int)<↑p∧(↑p:Int)<4294967296,ai n,aa ((1:Int)==0) false,ai n,aa (!(↑(ld p):Int)==↑p) false,(2:Int)≤↑p∧(↑p:Int)≤2147483647,aa (decide ((↑p:Int)≤2147483647)) true,aa (decide ((↑p:Int)≥2)) true]) kr ⟨?_,?_,?_,?_,(dN rfl),?_,?_,?_,?_,s4.2.1.t (k:=1) m0,(dN rfl),?_,?_,?_,?_,s2.2.1.t (k:=2) m1,(dN rfl),?_,?_,?_,?_,s2.2.1.f (j:=0) m2,?_,?_,?_,(dN rfl),?_,?_,?_,?_,s1.2.1.t (k:=2) m1,?_,?_,?_,(dN rfl),?_,?_,?_,?_,hn.t (k:=1) m0,?_,?_,rfl,?_,(dN kp3),?_,kp2,kp1⟩
 all_goals first|(first|exact tr|exact jl|exact⟨rfl,q0⟩|exact s1.1|exact ka|exact b1|exact⟨rfl,q1⟩|exact s2.1|exact lD|exact b2|exact⟨rfl,q2⟩|exact f3.1|exact⟨rfl,f3⟩|exact s4.1|exact⟨rfl,s4.2.1.pos⟩|exact s5.1|exact ue|exact jB|decide|omega|exact⟨om,om⟩|exact jC)
theorem We (n p u:Nat)(hp:2≤p∧p≤10000)(hl:ld p=p)(hn:VX p u 7 n):ax Tryz.prog [aL] 148 [aQ n,.int .i64 (p:Int)] (.tup [.int .i64 7,aQ u,.int .i64 0]):=by
 have kp1:decide ((↑p:Int)≥2)=true:=bJ om
 have kp2:decide ((↑p:Int)≤2147483647)=true:=bJ om
 have kp3:((↑(ld p):Int)==↑p)=true:=by rw[hl];exact ey _
 have m0:p=p^1:=(ie p).symm
 have q0:=cQ hp.1 m0 om
 have s1:=VX.yes (a:=6) (k:=1) hn m0
 have m1:=eC m0
 have b1:=eD s1.2.2
 have q1:=cQ hp.1 m1 b1
 have s2:=VX.yes (a:=4) (k:=2) s1.2.1 m1
 have m2:=eC m1
 have b2:=eD s2.2.2
 have q2:=cQ hp.1 m2 b2
 have s3:=VX.yes (a:=0) (k:=4) s2.2.1 m2
 have m3:=eC m2
 have b3:=eD s3.2.2
 have q3:=cQ hp.1 m3 b3
 have f4:=VX.no (j:=7) s3.2.1 m3
 have f5:=VX.no (j:=3) s3.2.1 m2
 have f6:=VX.no (j:=1) s3.2.1 m1
 have f7:=VX.no (j:=0) s3.2.1 m0
 have x0:n/p/(af p)/(aq p)=u:=by have:=s3.2.1.eq;rwa[iU,ig]at this
 have rr:=fun(tp:List Bool)(ms:List Prop)h hm=>cx aX (bU aX (gV iY) 12) Tryz.func148 (A:=[aQ n,.int .i64 (p:Int)]) rfl aE rfl rfl cv (tabs:=[aL]) (R:=.tup [.int .i64 7,aQ u,.int .i64 0]) (tp:=tp) (ms:=ms) h hm
 refine rr (tp 112212121221212121) (let v1:=n/p/(af p)/(aq p);let v2:=(1:Int)!=(0:Int);let v3:=(0:Int)!=(0:Int);let v4:=(4294967296:Nat);[rq (7:Int),false=false,(1:Nat)=1∧(fun(x:Nat)=>[RV.int IntKind.u32 (↑v1:Int)])=fun(x:Nat)=>[RV.int IntKind.u32 (↑u:Int)],rq (0:Int),aa v2 true,ai (n/p/(af p)/(aq p)%p),ai v1,ai p,(0:Nat)<n/p/(af p)/(aq p)%p,aa (decide (n/p/(af p)/(aq p)%p=0)) false,aa v2 true,ai (n/p/(af p)/(aq p)%(af p)),ai v1,ai (af p),(0:Nat)<n/p/(af p)/(aq p)%(af p),aa (decide (n/p/(af p)/(aq p)%(af p)=0)) false,aa v2 true,ai (n/p/(af p)/(aq p)%(aq p)),ai v1,ai (aq p),(0:Nat)<n/p/(af p)/(aq p)%(aq p),aa (decide (n/p/(af p)/(aq p)%(aq p)=0)) false,aa v2 true,ai (n/p/(af p)/(aq p)%(dM p)),ai v1,ai (dM p),(0:Nat)<n/p/(af p)/(aq p)%(dM p),aa (decide (n/p/(af p)/(aq p)%(dM p)=0)) false,ai (aq p),ai (aq p),dM p<v4,aa v3 false,false=false∧(0:Nat)=0∧(1:Nat)=1,ai (n/p/(af p)),ai (aq p),n/p/(af p)%(aq p)=0,aa (decide (n/p/(af p)%(aq p)=0)) true,ai (af p),ai (af p),aq p<v4,aa v3 false,false=false∧(0:Nat)=0∧(1:Nat)=1,ai (n/p),ai (af p),n/p%(af p)=0,aa (decide (n/p%(af p)=0)) true,ai p,ai p,af p<v4,aa v3 false,false=false∧(0:Nat)=0∧(1:Nat)=1,ai n,ai p,n%p=0,aa (decide (n%p=0)) true,(0:Int)<↑p∧(↑p:Int)<4294967296,ai n,aa ((1:Int)==0) false,ai n,aa (!(↑(ld p):Int)==↑p) false,(2:Int)≤↑p∧(↑p:Int)≤2147483647,aa (decide ((↑p:Int)≤2147483647)) true,aa (decide ((↑p:Int)≥2)) true]) kr ⟨?_,?_,?_,?_,(dN rfl),?_,?_,?_,?_,s3.2.1.f (j:=0) m0,(dN rfl),?_,?_,?_,?_,s3.2.1.f (j:=1) m1,(dN rfl),?_,?_,?_,?_,s3.2.1.f (j:=3) m2,(dN rfl),?_,?_,?_,?_,s3.2.1.f (j:=7) m3,?_,?_,?_,(dN rfl),?_,?_,?_,?_,s2.2.1.t (k:=4) m2,?_,?_,?_,(dN rfl),?_,?_,?_,?_,s1.2.1.t (k:=2) m1,?_,?_,?_,(dN rfl),?_,?_,?_,?_,hn.t (k:=1) m0,?_,?_,rfl,?_,(dN kp3),?_,kp2,kp1⟩
 all_goals first|(first|exact tr|exact jl|exact⟨rfl,q0⟩|exact s1.1|exact ka|exact b1|exact⟨rfl,q1⟩|exact s2.1|exact lD|exact b2|exact⟨rfl,q2⟩|exact s3.1|exact oq|exact b3|exact⟨rfl,q3⟩|exact f4.1|exact⟨rfl,f4⟩|exact f5.1|exact⟨rfl,f5⟩|exact f6.1|exact⟨rfl,f6⟩|exact f7.1|exact⟨rfl,f7⟩|exact jB|decide|omega|exact⟨om,om⟩|exact jC)
theorem Wf (n p u:Nat)(hp:2≤p∧p≤10000)(hl:ld p=p)(hn:VX p u 8 n):ax Tryz.prog [aL] 148 [aQ n,.int .i64 (p:Int)] (.tup [.int .i64 8,aQ u,.int .i64 0]):=by
 have kp1:decide ((↑p:Int)≥2)=true:=bJ om
 have kp2:decide ((↑p:Int)≤2147483647)=true:=bJ om
 have kp3:((↑(ld p):Int)==↑p)=true:=by rw[hl];exact ey _
 have m0:p=p^1:=(ie p).symm
 have q0:=cQ hp.1 m0 om
 have s1:=VX.yes (a:=7) (k:=1) hn m0
 have m1:=eC m0
 have b1:=eD s1.2.2
 have q1:=cQ hp.1 m1 b1
 have s2:=VX.yes (a:=5) (k:=2) s1.2.1 m1
 have m2:=eC m1
 have b2:=eD s2.2.2
 have q2:=cQ hp.1 m2 b2
 have s3:=VX.yes (a:=1) (k:=4) s2.2.1 m2
 have m3:=eC m2
 have b3:=eD s3.2.2
 have q3:=cQ hp.1 m3 b3
 have f4:=VX.no (j:=6) s3.2.1 m3
 have f5:=VX.no (j:=2) s3.2.1 m2
 have f6:=VX.no (j:=0) s3.2.1 m1
 have s7:=VX.yes (a:=0) (k:=1) s3.2.1 m0
 have x0:n/p/(af p)/(aq p)/p=u:=by have:=s7.2.1.eq;rwa[iU,ig]at this
 have rr:=fun(tp:List Bool)(ms:List Prop)h hm=>cx aX (bU aX (gV iY) 12) Tryz.func148 (A:=[aQ n,.int .i64 (p:Int)]) rfl aE rfl rfl cv (tabs:=[aL]) (R:=.tup [.int .i64 8,aQ u,.int .i64 0]) (tp:=tp) (ms:=ms) h hm
 refine rr (tp 112212121221212112) (let v1:=n/p/(af p)/(aq p);let v2:=(0:Int)!=(0:Int);let v3:=(1:Int)!=(0:Int);let v4:=(4294967296:Nat);[rq (8:Int),false=false,(1:Nat)=1∧(fun(x:Nat)=>[RV.int IntKind.u32 (↑(n/p/(af p)/(aq p)/p):Int)])=fun(x:Nat)=>[RV.int IntKind.u32 (↑u:Int)],rq (0:Int),aa v2 false,false=false∧(0:Nat)=0∧(1:Nat)=1,ai v1,ai p,n/p/(af p)/(aq p)%p=0,aa (decide (n/p/(af p)/(aq p)%p=0)) true,aa v3 true,ai (n/p/(af p)/(aq p)%(af p)),ai v1,ai (af p),(0:Nat)<n/p/(af p)/(aq p)%(af p),aa (decide (n/p/(af p)/(aq p)%(af p)=0)) false,aa v3 true,ai (n/p/(af p)/(aq p)%(aq p)),ai v1,ai (aq p),(0:Nat)<n/p/(af p)/(aq p)%(aq p),aa (decide (n/p/(af p)/(aq p)%(aq p)=0)) false,aa v3 true,ai (n/p/(af p)/(aq p)%(dM p)),ai v1,ai (dM p),(0:Nat)<n/p/(af p)/(aq p)%(dM p),aa (decide (n/p/(af p)/(aq p)%(dM p)=0)) false,ai (aq p),ai (aq p),dM p<v4,aa v2 false,false=false∧(0:Nat)=0∧(1:Nat)=1,ai (n/p/(af p)),ai (aq p),n/p/(af p)%(aq p)=0,aa (decide (n/p/(af p)%(aq p)=0)) true,ai (af p),ai (af p),aq p<v4,aa v2 false,false=false∧(0:Nat)=0∧(1:Nat)=1,ai (n/p),ai (af p),n/p%(af p)=0,aa (decide (n/p%(af p)=0)) true,ai p,ai p,af p<v4,aa v2 false,false=false∧(0:Nat)=0∧(1:Nat)=1,ai n,ai p,n%p=0,aa (decide (n%p=0)) true,(0:Int)<↑p∧(↑p:Int)<4294967296,ai n,aa ((1:Int)==0) false,ai n,aa (!(↑(ld p):Int)==↑p) false,(2:Int)≤↑p∧(↑p:Int)≤2147483647,aa (decide ((↑p:Int)≤2147483647)) true,aa (decide ((↑p:Int)≥2)) true]) kr ⟨?_,?_,?_,?_,(dN rfl),?_,?_,?_,?_,s3.2.1.t (k:=1) m0,(dN rfl),?_,?_,?_,?_,s3.2.1.f (j:=0) m1,(dN rfl),?_,?_,?_,?_,s3.2.1.f (j:=2) m2,(dN rfl),?_,?_,?_,?_,s3.2.1.f (j:=6) m3,?_,?_,?_,(dN rfl),?_,?_,?_,?_,s2.2.1.t (k:=4) m2,?_,?_,?_,(dN rfl),?_,?_,?_,?_,s1.2.1.t (k:=2) m1,?_,?_,?_,(dN rfl),?_,?_,?_,?_,hn.t (k:=1) m0,?_,?_,rfl,?_,(dN kp3),?_,kp2,kp1⟩
 all_goals first|(first|exact tr|exact jl|exact⟨rfl,q0⟩|exact s1.1|exact ka|exact b1|exact⟨rfl,q1⟩|exact s2.1|exact lD|exact b2|exact⟨rfl,q2⟩|exact s3.1|exact oq|exact b3|exact⟨rfl,q3⟩|exact f4.1|exact⟨rfl,f4⟩|exact f5.1|exact⟨rfl,f5⟩|exact f6.1|exact⟨rfl,f6⟩|exact s7.1|exact⟨rfl,s7.2.1.pos⟩|exact jB|decide|omega|exact⟨om,om⟩|exact jC)
theorem Wg (n p u:Nat)(hp:2≤p∧p≤10000)(hl:ld p=p)(hn:VX p u 9 n):ax Tryz.prog [aL] 148 [aQ n,.int .i64 (p:Int)] (.tup [.int .i64 9,aQ u,.int .i64 0]):=by
 have kp1:decide ((↑p:Int)≥2)=true:=bJ om
 have kp2:decide ((↑p:Int)≤2147483647)=true:=bJ om
 have kp3:((↑(ld p):Int)==↑p)=true:=by rw[hl];exact ey _
 have m0:p=p^1:=(ie p).symm
 have q0:=cQ hp.1 m0 om
 have s1:=VX.yes (a:=8) (k:=1) hn m0
 have m1:=eC m0
 have b1:=eD s1.2.2
 have q1:=cQ hp.1 m1 b1
 have s2:=VX.yes (a:=6) (k:=2) s1.2.1 m1
 have m2:=eC m1
 have b2:=eD s2.2.2
 have q2:=cQ hp.1 m2 b2
 have s3:=VX.yes (a:=2) (k:=4) s2.2.1 m2
 have m3:=eC m2
 have b3:=eD s3.2.2
 have q3:=cQ hp.1 m3 b3
 have f4:=VX.no (j:=5) s3.2.1 m3
 have f5:=VX.no (j:=1) s3.2.1 m2
 have s6:=VX.yes (a:=0) (k:=2) s3.2.1 m1
 have f7:=VX.no (j:=0) s6.2.1 m0
 have x0:n/p/(af p)/(aq p)/(af p)=u:=by have:=s6.2.1.eq;rwa[iU,ig]at this
 have rr:=fun(tp:List Bool)(ms:List Prop)h hm=>cx aX (bU aX (gV iY) 12) Tryz.func148 (A:=[aQ n,.int .i64 (p:Int)]) rfl aE rfl rfl cv (tabs:=[aL]) (R:=.tup [.int .i64 9,aQ u,.int .i64 0]) (tp:=tp) (ms:=ms) h hm
 refine rr (tp 112212121221211221) (let v1:=(0:Int)!=(0:Int);let v2:=n/p/(af p)/(aq p);let v3:=(1:Int)!=(0:Int);let v4:=n/p/(af p)/(aq p)/(af p);let v5:=(4294967296:Nat);[rq (9:Int),false=false,(1:Nat)=1∧(fun(x:Nat)=>[RV.int IntKind.u32 (↑v4:Int)])=fun(x:Nat)=>[RV.int IntKind.u32 (↑u:Int)],rq (0:Int),aa v3 true,ai (n/p/(af p)/(aq p)/(af p)%p),ai v4,ai p,(0:Nat)<n/p/(af p)/(aq p)/(af p)%p,aa (decide (n/p/(af p)/(aq p)/(af p)%p=0)) false,aa v1 false,false=false∧(0:Nat)=0∧(1:Nat)=1,ai v2,ai (af p),n/p/(af p)/(aq p)%(af p)=0,aa (decide (n/p/(af p)/(aq p)%(af p)=0)) true,aa v3 true,ai (n/p/(af p)/(aq p)%(aq p)),ai v2,ai (aq p),(0:Nat)<n/p/(af p)/(aq p)%(aq p),aa (decide (n/p/(af p)/(aq p)%(aq p)=0)) false,aa v3 true,ai (n/p/(af p)/(aq p)%(dM p)),ai v2,ai (dM p),(0:Nat)<n/p/(af p)/(aq p)%(dM p),aa (decide (n/p/(af p)/(aq p)%(dM p)=0)) false,ai (aq p),ai (aq p),dM p<v5,aa v1 false,false=false∧(0:Nat)=0∧(1:Nat)=1,ai (n/p/(af p)),ai (aq p),n/p/(af p)%(aq p)=0,aa (decide (n/p/(af p)%(aq p)=0)) true,ai (af p),ai (af p),aq p<v5,aa v1 false,false=false∧(0:Nat)=0∧(1:Nat)=1,ai (n/p),ai (af p),n/p%(af p)=0,aa (decide (n/p%(af p)=0)) true,ai p,ai p,af p<v5,aa v1 false,false=false∧(0:Nat)=0∧(1:Nat)=1,ai n,ai p,n%p=0,aa (decide (n%p=0)) true,(0:Int)<↑p∧(↑p:Int)<4294967296,ai n,aa ((1:Int)==0) false,ai n,aa (!(↑(ld p):Int)==↑p) false,(2:Int)≤↑p∧(↑p:Int)≤2147483647,aa (decide ((↑p:Int)≤2147483647)) true,aa (decide ((↑p:Int)≥2)) true]) kr ⟨?_,?_,?_,?_,(dN rfl),?_,?_,?_,?_,s6.2.1.f (j:=0) m0,(dN rfl),?_,?_,?_,?_,s3.2.1.t (k:=2) m1,(dN rfl),?_,?_,?_,?_,s3.2.1.f (j:=1) m2,(dN rfl),?_,?_,?_,?_,s3.2.1.f (j:=5) m3,?_,?_,?_,(dN rfl),?_,?_,?_,?_,s2.2.1.t (k:=4) m2,?_,?_,?_,(dN rfl),?_,?_,?_,?_,s1.2.1.t (k:=2) m1,?_,?_,?_,(dN rfl),?_,?_,?_,?_,hn.t (k:=1) m0,?_,?_,rfl,?_,(dN kp3),?_,kp2,kp1⟩
 all_goals first|(first|exact tr|exact jl|exact⟨rfl,q0⟩|exact s1.1|exact ka|exact b1|exact⟨rfl,q1⟩|exact s2.1|exact lD|exact b2|exact⟨rfl,q2⟩|exact s3.1|exact oq|exact b3|exact⟨rfl,q3⟩|exact f4.1|exact⟨rfl,f4⟩|exact f5.1|exact⟨rfl,f5⟩|exact s6.1|exact⟨rfl,s6.2.1.pos⟩|exact f7.1|exact⟨rfl,f7⟩|exact jB|decide|omega|exact⟨om,om⟩|exact jC)
theorem S5 (n p u:Nat)(hp:2≤p∧p≤10000)(hl:ld p=p)(hn:VX p u 10 n):ax Tryz.prog [aL] 148 [aQ n,.int .i64 (p:Int)] (.tup [.int .i64 10,aQ u,.int .i64 0]):=by
 have kp1:decide ((↑p:Int)≥2)=true:=bJ om
 have kp2:decide ((↑p:Int)≤2147483647)=true:=bJ om
 have kp3:((↑(ld p):Int)==↑p)=true:=by rw[hl];exact ey _
 have m0:p=p^1:=(ie p).symm
 have q0:=cQ hp.1 m0 om
 have s1:=VX.yes (a:=9) (k:=1) hn m0
 have m1:=eC m0
 have b1:=eD s1.2.2
 have q1:=cQ hp.1 m1 b1
 have s2:=VX.yes (a:=7) (k:=2) s1.2.1 m1
 have m2:=eC m1
 have b2:=eD s2.2.2
 have q2:=cQ hp.1 m2 b2
 have s3:=VX.yes (a:=3) (k:=4) s2.2.1 m2
 have m3:=eC m2
 have b3:=eD s3.2.2
 have q3:=cQ hp.1 m3 b3
 have f4:=VX.no (j:=4) s3.2.1 m3
 have f5:=VX.no (j:=0) s3.2.1 m2
 have s6:=VX.yes (a:=1) (k:=2) s3.2.1 m1
 have s7:=VX.yes (a:=0) (k:=1) s6.2.1 m0
 have x0:n/p/(af p)/(aq p)/(af p)/p=u:=by have:=s7.2.1.eq;rwa[iU,ig]at this
 have rr:=fun(tp:List Bool)(ms:List Prop)h hm=>cx aX (bU aX (gV iY) 12) Tryz.func148 (A:=[aQ n,.int .i64 (p:Int)]) rfl aE rfl rfl cv (tabs:=[aL]) (R:=.tup [.int .i64 10,aQ u,.int .i64 0]) (tp:=tp) (ms:=ms) h hm
 refine rr (tp 112212121221211212) (let v1:=(0:Int)!=(0:Int);let v2:=n/p/(af p)/(aq p);let v3:=(4294967296:Nat);[rq (10:Int),false=false,(1:Nat)=1∧(fun(x:Nat)=>[RV.int IntKind.u32 (↑(n/p/(af p)/(aq p)/(af p)/p):Int)])=fun(x:Nat)=>[RV.int IntKind.u32 (↑u:Int)],rq (0:Int),aa v1 false,false=false∧(0:Nat)=0∧(1:Nat)=1,ai (n/p/(af p)/(aq p)/(af p)),ai p,n/p/(af p)/(aq p)/(af p)%p=0,aa (decide (n/p/(af p)/(aq p)/(af p)%p=0)) true,aa v1 false,false=false∧(0:Nat)=0∧(1:Nat)=1,ai v2,ai (af p),n/p/(af p)/(aq p)%(af p)=0,aa (decide (n/p/(af p)/(aq p)%(af p)=0)) true,aa ((1:Int)!=(0:Int)) true,ai (n/p/(af p)/(aq p)%(aq p)),ai v2,ai (aq p),(0:Nat)<n/p/(af p)/(aq p)%(aq p),aa (decide (n/p/(af p)/(aq p)%(aq p)=0)) false,aa ((1:Int)!=(0:Int)) true,ai (n/p/(af p)/(aq p)%(dM p)),ai v2,ai (dM p),(0:Nat)<n/p/(af p)/(aq p)%(dM p),aa (decide (n/p/(af p)/(aq p)%(dM p)=0)) false,ai (aq p),ai (aq p),dM p<v3,aa v1 false,false=false∧(0:Nat)=0∧(1:Nat)=1,ai (n/p/(af p)),ai (aq p),n/p/(af p)%(aq p)=0,aa (decide (n/p/(af p)%(aq p)=0)) true,ai (af p),ai (af p),aq p<v3,aa v1 false,false=false∧(0:Nat)=0∧(1:Nat)=1,ai (n/p),ai (af p),n/p%(af p)=0,aa (decide (n/p%(af p)=0)) true,ai p,ai p,af p<v3,aa v1 false,false=false∧(0:Nat)=0∧(1:Nat)=1,ai n,ai p,n%p=0,aa (decide (n%p=0)) true,(0:Int)<↑p∧(↑p:Int)<4294967296,ai n,aa ((1:Int)==0) false,ai n,aa (!(↑(ld p):Int)==↑p) false,(2:Int)≤↑p∧(↑p:Int)≤2147483647,aa (decide ((↑p:Int)≤2147483647)) true,aa (decide ((↑p:Int)≥2)) true]) kr ⟨?_,?_,?_,?_,(dN rfl),?_,?_,?_,?_,s6.2.1.t (k:=1) m0,(dN rfl),?_,?_,?_,?_,s3.2.1.t (k:=2) m1,(dN rfl),?_,?_,?_,?_,s3.2.1.f (j:=0) m2,(dN rfl),?_,?_,?_,?_,s3.2.1.f (j:=4) m3,?_,?_,?_,(dN rfl),?_,?_,?_,?_,s2.2.1.t (k:=4) m2,?_,?_,?_,(dN rfl),?_,?_,?_,?_,s1.2.1.t (k:=2) m1,?_,?_,?_,(dN rfl),?_,?_,?_,?_,hn.t (k:=1) m0,?_,?_,rfl,?_,(dN kp3),?_,kp2,kp1⟩
 all_goals first|(first|exact tr|exact jl|exact⟨rfl,q0⟩|exact s1.1|exact ka|exact b1|exact⟨rfl,q1⟩|exact s2.1|exact lD|exact b2|exact⟨rfl,q2⟩|exact s3.1|exact oq|exact b3|exact⟨rfl,q3⟩|exact f4.1|exact⟨rfl,f4⟩|exact f5.1|exact⟨rfl,f5⟩|exact s6.1|exact⟨rfl,s6.2.1.pos⟩|exact s7.1|exact⟨rfl,s7.2.1.pos⟩|exact jB|decide|omega|exact⟨om,om⟩|exact jC)
theorem S6 (n p u:Nat)(hp:2≤p∧p≤10000)(hl:ld p=p)(hn:VX p u 11 n):ax Tryz.prog [aL] 148 [aQ n,.int .i64 (p:Int)] (.tup [.int .i64 11,aQ u,.int .i64 0]):=by
 have kp1:decide ((↑p:Int)≥2)=true:=bJ om
 have kp2:decide ((↑p:Int)≤2147483647)=true:=bJ om
 have kp3:((↑(ld p):Int)==↑p)=true:=by rw[hl];exact ey _
 have m0:p=p^1:=(ie p).symm
 have q0:=cQ hp.1 m0 om
 have s1:=VX.yes (a:=10) (k:=1) hn m0
 have m1:=eC m0
 have b1:=eD s1.2.2
 have q1:=cQ hp.1 m1 b1
 have s2:=VX.yes (a:=8) (k:=2) s1.2.1 m1
 have m2:=eC m1
 have b2:=eD s2.2.2
 have q2:=cQ hp.1 m2 b2
 have s3:=VX.yes (a:=4) (k:=4) s2.2.1 m2
 have m3:=eC m2
 have b3:=eD s3.2.2
 have q3:=cQ hp.1 m3 b3
 have f4:=VX.no (j:=3) s3.2.1 m3
 have s5:=VX.yes (a:=0) (k:=4) s3.2.1 m2
 have f6:=VX.no (j:=1) s5.2.1 m1
 have f7:=VX.no (j:=0) s5.2.1 m0
 have x0:n/p/(af p)/(aq p)/(aq p)=u:=by have:=s5.2.1.eq;rwa[iU,ig]at this
 have rr:=fun(tp:List Bool)(ms:List Prop)h hm=>cx aX (bU aX (gV iY) 12) Tryz.func148 (A:=[aQ n,.int .i64 (p:Int)]) rfl aE rfl rfl cv (tabs:=[aL]) (R:=.tup [.int .i64 11,aQ u,.int .i64 0]) (tp:=tp) (ms:=ms) h hm
 refine rr (tp 112212121221122121) (let v1:=n/p/(af p)/(aq p)/(aq p);let v2:=(0:Int)!=(0:Int);let v3:=(1:Int)!=(0:Int);let v4:=(4294967296:Nat);[rq (11:Int),false=false,(1:Nat)=1∧(fun(x:Nat)=>[RV.int IntKind.u32 (↑v1:Int)])=fun(x:Nat)=>[RV.int IntKind.u32 (↑u:Int)],rq (0:Int),aa v3 true,ai (n/p/(af p)/(aq p)/(aq p)%p),ai v1,ai p,(0:Nat)<n/p/(af p)/(aq p)/(aq p)%p,aa (decide (n/p/(af p)/(aq p)/(aq p)%p=0)) false,aa v3 true,ai (n/p/(af p)/(aq p)/(aq p)%(af p)),ai v1,ai (af p),(0:Nat)<n/p/(af p)/(aq p)/(aq p)%(af p),aa (decide (n/p/(af p)/(aq p)/(aq p)%(af p)=0)) false,aa v2 false,false=false∧(0:Nat)=0∧(1:Nat)=1,ai (n/p/(af p)/(aq p)),ai (aq p),n/p/(af p)/(aq p)%(aq p)=0,aa (decide (n/p/(af p)/(aq p)%(aq p)=0)) true,aa v3 true,ai (n/p/(af p)/(aq p)%(dM p)),ai (n/p/(af p)/(aq p)),ai (dM p),(0:Nat)<n/p/(af p)/(aq p)%(dM p),aa (decide (n/p/(af p)/(aq p)%(dM p)=0)) false,ai (aq p),ai (aq p),dM p<v4,aa v2 false,false=false∧(0:Nat)=0∧(1:Nat)=1,ai (n/p/(af p)),ai (aq p),n/p/(af p)%(aq p)=0,aa (decide (n/p/(af p)%(aq p)=0)) true,ai (af p),ai (af p),aq p<v4,aa v2 false,false=false∧(0:Nat)=0∧(1:Nat)=1,ai (n/p),ai (af p),n/p%(af p)=0,aa (decide (n/p%(af p)=0)) true,ai p,ai p,af p<v4,aa v2 false,false=false∧(0:Nat)=0∧(1:Nat)=1,ai n,ai p,n%p=0,aa (decide (n%p=0)) true,(0:Int)<↑p∧(↑p:Int)<4294967296,ai n,aa ((1:Int)==0) false,ai n,aa (!(↑(ld p):Int)==↑p) false,(2:Int)≤↑p∧(↑p:Int)≤2147483647,aa (decide ((↑p:Int)≤2147483647)) true,aa (decide ((↑p:Int)≥2)) true]) kr ⟨?_,?_,?_,?_,(dN rfl),?_,?_,?_,?_,s5.2.1.f (j:=0) m0,(dN rfl),?_,?_,?_,?_,s5.2.1.f (j:=1) m1,(dN rfl),?_,?_,?_,?_,s3.2.1.t (k:=4) m2,(dN rfl),?_,?_,?_,?_,s3.2.1.f (j:=3) m3,?_,?_,?_,(dN rfl),?_,?_,?_,?_,s2.2.1.t (k:=4) m2,?_,?_,?_,(dN rfl),?_,?_,?_,?_,s1.2.1.t (k:=2) m1,?_,?_,?_,(dN rfl),?_,?_,?_,?_,hn.t (k:=1) m0,?_,?_,rfl,?_,(dN kp3),?_,kp2,kp1⟩
 all_goals first|(first|exact tr|exact jl|exact⟨rfl,q0⟩|exact s1.1|exact ka|exact b1|exact⟨rfl,q1⟩|exact s2.1|exact lD|exact b2|exact⟨rfl,q2⟩|exact s3.1|exact oq|exact b3|exact⟨rfl,q3⟩|exact f4.1|exact⟨rfl,f4⟩|exact s5.1|exact ue|exact f6.1|exact⟨rfl,f6⟩|exact f7.1|exact⟨rfl,f7⟩|exact jB|decide|omega|exact⟨om,om⟩|exact jC)
theorem S7 (n p u:Nat)(hp:2≤p∧p≤10000)(hl:ld p=p)(hn:VX p u 12 n):ax Tryz.prog [aL] 148 [aQ n,.int .i64 (p:Int)] (.tup [.int .i64 12,aQ u,.int .i64 0]):=by
 have kp1:decide ((↑p:Int)≥2)=true:=bJ om
 have kp2:decide ((↑p:Int)≤2147483647)=true:=bJ om
 have kp3:((↑(ld p):Int)==↑p)=true:=by rw[hl];exact ey _
 have m0:p=p^1:=(ie p).symm
 have q0:=cQ hp.1 m0 om
 have s1:=VX.yes (a:=11) (k:=1) hn m0
 have m1:=eC m0
 have b1:=eD s1.2.2
 have q1:=cQ hp.1 m1 b1
 have s2:=VX.yes (a:=9) (k:=2) s1.2.1 m1
 have m2:=eC m1
 have b2:=eD s2.2.2
 have q2:=cQ hp.1 m2 b2
 have s3:=VX.yes (a:=5) (k:=4) s2.2.1 m2
 have m3:=eC m2
 have b3:=eD s3.2.2
 have q3:=cQ hp.1 m3 b3
 have f4:=VX.no (j:=2) s3.2.1 m3
 have s5:=VX.yes (a:=1) (k:=4) s3.2.1 m2
 have f6:=VX.no (j:=0) s5.2.1 m1
 have s7:=VX.yes (a:=0) (k:=1) s5.2.1 m0
 have x0:n/p/(af p)/(aq p)/(aq p)/p=u:=by have:=s7.2.1.eq;rwa[iU,ig]at this
 have rr:=fun(tp:List Bool)(ms:List Prop)h hm=>cx aX (bU aX (gV iY) 12) Tryz.func148 (A:=[aQ n,.int .i64 (p:Int)]) rfl aE rfl rfl cv (tabs:=[aL]) (R:=.tup [.int .i64 12,aQ u,.int .i64 0]) (tp:=tp) (ms:=ms) h hm
 refine rr (tp 112212121221122112) (let v1:=(0:Int)!=(0:Int);let v2:=n/p/(af p)/(aq p)/(aq p);let v3:=(4294967296:Nat);[rq (12:Int),false=false,(1:Nat)=1∧(fun(x:Nat)=>[RV.int IntKind.u32 (↑(n/p/(af p)/(aq p)/(aq p)/p):Int)])=fun(x:Nat)=>[RV.int IntKind.u32 (↑u:Int)],rq (0:Int),aa v1 false,false=false∧(0:Nat)=0∧(1:Nat)=1,ai v2,ai p,n/p/(af p)/(aq p)/(aq p)%p=0,aa (decide (n/p/(af p)/(aq p)/(aq p)%p=0)) true,aa ((1:Int)!=(0:Int)) true,ai (n/p/(af p)/(aq p)/(aq p)%(af p)),ai v2,ai (af p),(0:Nat)<n/p/(af p)/(aq p)/(aq p)%(af p),aa (decide (n/p/(af p)/(aq p)/(aq p)%(af p)=0)) false,aa v1 false,false=false∧(0:Nat)=0∧(1:Nat)=1,ai (n/p/(af p)/(aq p)),ai (aq p),n/p/(af p)/(aq p)%(aq p)=0,aa (decide (n/p/(af p)/(aq p)%(aq p)=0)) true,aa ((1:Int)!=(0:Int)) true,ai (n/p/(af p)/(aq p)%(dM p)),ai (n/p/(af p)/(aq p)),ai (dM p),(0:Nat)<n/p/(af p)/(aq p)%(dM p),aa (decide (n/p/(af p)/(aq p)%(dM p)=0)) false,ai (aq p),ai (aq p),dM p<v3,aa v1 false,false=false∧(0:Nat)=0∧(1:Nat)=1,ai (n/p/(af p)),ai (aq p),n/p/(af p)%(aq p)=0,aa (decide (n/p/(af p)%(aq p)=0)) true,ai (af p),ai (af p),aq p<v3,aa v1 false,false=false∧(0:Nat)=0∧(1:Nat)=1,ai (n/p),ai (af p),n/p%(af p)=0,aa (decide (n/p%(af p)=0)) true,ai p,ai p,af p<v3,aa v1 false,false=false∧(0:Nat)=0∧(1:Nat)=1,ai n,ai p,n%p=0,aa (decide (n%p=0)) true,(0:Int)<↑p∧(↑p:Int)<4294967296,ai n,aa ((1:Int)==0) false,ai n,aa (!(↑(ld p):Int)==↑p) false,(2:Int)≤↑p∧(↑p:Int)≤2147483647,aa (decide ((↑p:Int)≤2147483647)) true,aa (decide ((↑p:Int)≥2)) true]) kr ⟨?_,?_,?_,?_,(dN rfl),?_,?_,?_,?_,s5.2.1.t (k:=1) m0,(dN rfl),?_,?_,?_,?_,s5.2.1.f (j:=0) m1,(dN rfl),?_,?_,?_,?_,s3.2.1.t (k:=4) m2,(dN rfl),?_,?_,?_,?_,s3.2.1.f (j:=2) m3,?_,?_,?_,(dN rfl),?_,?_,?_,?_,s2.2.1.t (k:=4) m2,?_,?_,?_,(dN rfl),?_,?_,?_,?_,s1.2.1.t (k:=2) m1,?_,?_,?_,(dN rfl),?_,?_,?_,?_,hn.t (k:=1) m0,?_,?_,rfl,?_,(dN kp3),?_,kp2,kp1⟩
 all_goals first|(first|exact tr|exact jl|exact⟨rfl,q0⟩|exact s1.1|exact ka|exact b1|exact⟨rfl,q1⟩|exact s2.1|exact lD|exact b2|exact⟨rfl,q2⟩|exact s3.1|exact oq|exact b3|exact⟨rfl,q3⟩|exact f4.1|exact⟨rfl,f4⟩|exact s5.1|exact ue|exact f6.1|exact⟨rfl,f6⟩|exact s7.1|exact⟨rfl,s7.2.1.pos⟩|exact jB|decide|omega|exact⟨om,om⟩|exact jC)
theorem S8 (n p u:Nat)(hp:2≤p∧p≤10000)(hl:ld p=p)(hn:VX p u 13 n):ax Tryz.prog [aL] 148 [aQ n,.int .i64 (p:Int)] (.tup [.int .i64 13,aQ u,.int .i64 0]):=by
 have kp1:decide ((↑p:Int)≥2)=true:=bJ om
 have kp2:decide ((↑p:Int)≤2147483647)=true:=bJ om
 have kp3:((↑(ld p):Int)==↑p)=true:=by rw[hl];exact ey _
 have m0:p=p^1:=(ie p).symm
 have q0:=cQ hp.1 m0 om
 have s1:=VX.yes (a:=12) (k:=1) hn m0
 have m1:=eC m0
 have b1:=eD s1.2.2
 have q1:=cQ hp.1 m1 b1
 have s2:=VX.yes (a:=10) (k:=2) s1.2.1 m1
 have m2:=eC m1
 have b2:=eD s2.2.2
 have q2:=cQ hp.1 m2 b2
 have s3:=VX.yes (a:=6) (k:=4) s2.2.1 m2
 have m3:=eC m2
 have b3:=eD s3.2.2
 have q3:=cQ hp.1 m3 b3
 have f4:=VX.no (j:=1) s3.2.1 m3
 have s5:=VX.yes (a:=2) (k:=4) s3.2.1 m2
 have s6:=VX.yes (a:=0) (k:=2) s5.2.1 m1
 have f7:=VX.no (j:=0) s6.2.1 m0
 have x0:n/p/(af p)/(aq p)/(aq p)/(af p)=u:=by have:=s6.2.1.eq;rwa[iU,ig]at this
 have rr:=fun(tp:List Bool)(ms:List Prop)h hm=>cx aX (bU aX (gV iY) 12) Tryz.func148 (A:=[aQ n,.int .i64 (p:Int)]) rfl aE rfl rfl cv (tabs:=[aL]) (R:=.tup [.int .i64 13,aQ u,.int .i64 0]) (tp:=tp) (ms:=ms) h hm
 refine rr (tp 112212121221121221) (let v1:=(0:Int)!=(0:Int);let v2:=n/p/(af p)/(aq p)/(aq p)/(af p);let v3:=(4294967296:Nat);[rq (13:Int),false=false,(1:Nat)=1∧(fun(x:Nat)=>[RV.int IntKind.u32 (↑v2:Int)])=fun(x:Nat)=>[RV.int IntKind.u32 (↑u:Int)],rq (0:Int),aa ((1:Int)!=(0:Int)) true,ai (n/p/(af p)/(aq p)/(aq p)/(af p)%p),ai v2,ai p,(0:Nat)<n/p/(af p)/(aq p)/(aq p)/(af p)%p,aa (decide (n/p/(af p)/(aq p)/(aq p)/(af p)%p=0)) false,aa v1 false,false=false∧(0:Nat)=0∧(1:Nat)=1,ai (n/p/(af p)/(aq p)/(aq p)),ai (af p),n/p/(af p)/(aq p)/(aq p)%(af p)=0,aa (decide (n/p/(af p)/(aq p)/(aq p)%(af p)=0)) true,aa v1 false,false=false∧(0:Nat)=0∧(1:Nat)=1,ai (n/p/(af p)/(aq p)),ai (aq p),n/p/(af p)/(aq p)%(aq p)=0,aa (decide (n/p/(af p)/(aq p)%(aq p)=0)) true,aa ((1:Int)!=(0:Int)) true,ai (n/p/(af p)/(aq p)%(dM p)),ai (n/p/(af p)/(aq p)),ai (dM p),(0:Nat)<n/p/(af p)/(aq p)%(dM p),aa (decide (n/p/(af p)/(aq p)%(dM p)=0)) false,ai (aq p),ai (aq p),dM p<v3,aa v1 false,false=false∧(0:Nat)=0∧(1:Nat)=1,ai (n/p/(af p)),ai (aq p),n/p/(af p)%(aq p)=0,aa (decide (n/p/(af p)%(aq p)=0)) true,ai (af p),ai (af p),aq p<v3,aa v1 false,false=false∧(0:Nat)=0∧(1:Nat)=1,ai (n/p),ai (af p),n/p%(af p)=0,aa (decide (n/p%(af p)=0)) true,ai p,ai p,af p<v3,aa v1 false,false=false∧(0:Nat)=0∧(1:Nat)=1,ai n,ai p,n%p=0,aa (decide (n%p=0)) true,(0:Int)<↑p∧(↑p:Int)<4294967296,ai n,aa ((1:Int)==0) false,ai n,aa (!(↑(ld p):Int)==↑p) false,(2:Int)≤↑p∧(↑p:Int)≤2147483647,aa (decide ((↑p:Int)≤2147483647)) true,aa (decide ((↑p:Int)≥2)) true]) kr ⟨?_,?_,?_,?_,(dN rfl),?_,?_,?_,?_,s6.2.1.f (j:=0) m0,(dN rfl),?_,?_,?_,?_,s5.2.1.t (k:=2) m1,(dN rfl),?_,?_,?_,?_,s3.2.1.t (k:=4) m2,(dN rfl),?_,?_,?_,?_,s3.2.1.f (j:=1) m3,?_,?_,?_,(dN rfl),?_,?_,?_,?_,s2.2.1.t (k:=4) m2,?_,?_,?_,(dN rfl),?_,?_,?_,?_,s1.2.1.t (k:=2) m1,?_,?_,?_,(dN rfl),?_,?_,?_,?_,hn.t (k:=1) m0,?_,?_,rfl,?_,(dN kp3),?_,kp2,kp1⟩
 all_goals first|(first|exact tr|exact jl|exact⟨rfl,q0⟩|exact s1.1|exact ka|exact b1|exact⟨rfl,q1⟩|exact s2.1|exact lD|exact b2|exact⟨rfl,q2⟩|exact s3.1|exact oq|exact b3|exact⟨rfl,q3⟩|exact f4.1|exact⟨rfl,f4⟩|exact s5.1|exact ue|exact s6.1|exact⟨rfl,s6.2.1.pos⟩|exact f7.1|exact⟨rfl,f7⟩|exact jB|decide|omega|exact⟨om,om⟩|exact jC)
theorem OS (n p u e:Nat)(hp:2≤p∧p≤10000)(hl:ld p=p)(hn:VX p u e n):ax Tryz.prog [aL] 148 [aQ n,.int .i64 (p:Int)] (.tup [.int .i64 (e:Int),aQ u,.int .i64 0]):=by
 have he:e<14:=by
  refine Nat.lt_of_not_le fun h=>?_
  have h1:2^14≤p^e:=cl (ze7 de h) (Nat.pow_le_pow_left hp.1 e)
  have h2:p^e≤n:=by rw[hn.eq];exact Nat.le_mul_of_pos_right _ (kR fun e=>hn.hu (by rw[e,Nat.zero_mod]))
  have:=hn.le
  omega
 match e,he,hn with
 |0,_,hn=>exact V7 n p u hp hl hn
 |1,_,hn=>exact V8 n p u hp hl hn
 |2,_,hn=>exact V9 n p u hp hl hn
 |3,_,hn=>exact Wa n p u hp hl hn
 |4,_,hn=>exact Wb n p u hp hl hn
 |5,_,hn=>exact Wc n p u hp hl hn
 |6,_,hn=>exact Wd n p u hp hl hn
 |7,_,hn=>exact We n p u hp hl hn
 |8,_,hn=>exact Wf n p u hp hl hn
 |9,_,hn=>exact Wg n p u hp hl hn
 |10,_,hn=>exact S5 n p u hp hl hn
 |11,_,hn=>exact S6 n p u hp hl hn
 |12,_,hn=>exact S7 n p u hp hl hn
 |13,_,hn=>exact S8 n p u hp hl hn
theorem jX {n:Int}(h1:-9223372036854775808≤n)(h2:n≤9223372036854775807):w6.wrap n=n:=by
 rw[IntKind.wrap_i64];omega
theorem Qq {p e k:Nat}(hp:1≤p)(hb:p^e≤4000000000000000000)(hk:k<e):w6.wrap ((↑(p^k):Int)*↑p)=↑(p^(k+1)):=by
 have h1:p^(k+1)≤p^e:=ze7 hp hk
 rw[←Int.natCast_mul,show p^k*p=p^(k+1)from rfl,jX om om]
theorem mj {b:Nat}{v:Bool}(h:((b:Int)==0)=v):decide (b=0)=v:=by
 rw[←h]
 by_cases e:b=0
 ·subst e;rfl
 ·rw[bI e,gP b om]
theorem Bj {p u a X:Nat}(h:VX p u a X)(hm:decide (X%p=0)=true):0<a∧VX p u (a-1) (X/p)∧X/p≤10000:=by
 have hm:=oT hm
 have h0:0<a:=kR fun e=>by
  subst e
  have:=h.eq
  rw[iU,ig]at this
  exact h.hu (by rw[←this];exact hm)
 obtain⟨_,h2,_⟩:=VX.yes (a:=a-1) (k:=1) (by rw[Nat.sub_add_cancel h0];exact h) (ie p).symm
 exact⟨h0,h2,h2.le⟩
theorem IL {p u a X:Nat}(h:VX p u a X)(hm:decide (X%p=0)=false):a=0∧X=u:=by
 have hm:=oF hm
 have h0:a=0:=by
  cases a with
  |zero=>rfl
  |succ a=>exact absurd (VX.yes (a:=a) (k:=1) h (ie p).symm).1 hm
 subst h0
 have:=h.eq
 rw[iU,ig]at this
 exact⟨rfl,this⟩
def Yu (p e:Nat):aO:=⟨⟨[(0,vi p),(5,.int .i64 1),(6,vi e),(7,.int .i64 0)],[],1000⟩,none,fun _=>(.exit 0,⟨[(5,vi (p^e:Nat))],[],1000⟩)⟩
theorem Qr (p e:Nat)(hp:1≤p)(hb:p^e≤4000000000000000000)(he:e≤1000):dB Tryz.prog EC.ng (Nat.max 2 Tryz.f113.ntmps) (cz Tryz.f113 [0,1,0,1,1]) (Yu p e):=by
 refine sB aX (bU aX (cm _ _) 8) aE kr kr (fun i:Nat=>(fun(k:Nat)=>(⟨[(0,vi p),(5,vi (p^k:Nat)),(6,vi e),(7,vi k)],[],1000⟩:St)) i) (fun i:Nat=>(fun(k:Nat)=>(e-k:Nat)) i) (fun(d:Bool)(i:Nat)=>(fun(k:Nat)=>(k≤e:Prop)) i) ?_ ?_
 ·intro d hd
  exact st (0) [rq (↑p:Int),(1:Int)=↑(p^(0:Nat)),rq (↑e:Int),(0:Int)=↑(0:Nat)] (by refine⟨?_,?_,?_,(?_:(0:Int)=↑(0:Nat))⟩<;>(first|exact tr|rfl|omega)) (by exact bQ _)
 ·rintro d hd k hI
  cases d
  ·exact Bool.noConfusion (show false=true from hd)
  ·refine oe (decide ((↑k:Int)<↑e)) (fun d1=>aH [true] (k+1) [rq (↑p:Int),w6.wrap ((↑(p^k):Int)*↑p)=(↑(p^(k+1)):Int),rq (↑e:Int),w6.wrap ((↑k:Int)+1)=↑(k+1),ty d1] ⟨?_,?_,?_,?_,d1⟩ ?_ ?_)
    (fun d1=>b9 [false] [(↑(p^k):Int)=↑(p^e),ty d1] ⟨?_,d1⟩)
   all_goals first|(refine dO.mk ?_;(have:=oT d1;show e-(k+1)<e-k;omega))|(refine cL.mk ?_;exact ub)|exact fu|(first|exact tr|(have:=oT d1;exact Qq hp hb om)|(have:=oT d1;exact jX om om)|(have:=oF d1;rw[show k=e by omega])|rfl)
theorem Qt (p e:Nat)(hp:1≤p)(hb:p^e≤4000000000000000000)(he:e≤1000):ax Tryz.prog [] 113 [.int .i64 (p:Int),.int .i64 (e:Int)] (.int .i64 ((p^e:Nat):Int)):=by
 have hl0:=Qr p e hp hb he
 have rr:=fun(tp:List Bool)(ms:List Prop)h hm=>uP aX (bU aX (cm _ _) 8) Tryz.func113 (A:=[.int .i64 (p:Int),.int .i64 (e:Int)]) (N:=Nat.max 2 Tryz.f113.ntmps) rfl (bX hl0) rfl rfl cv (tabs:=[]) (R:=.int .i64 ((p^e:Nat):Int)) (tp:=tp) (ms:=ms) h hm
 refine rr [] [rq (↑(p^e):Int),rq (↑p:Int),rq (↑e:Int)] kr ⟨?_,?_,(?_:(↑e:Int)=↑e)⟩
 all_goals first|exact xu
def B7 (a x:AV):ag:=⟨.plain [a,.int .i64 1,x,.int .i64 0,.int .i64 0],161,0,false,true⟩
def Bk:ag:=⟨.plain [.int .i64 0,.int .i64 0,.int .i64 0,.int .i64 0,.int .i64 0],161,0,false,true⟩
def Yv (p u e x:Nat):aO:=⟨⟨[(1,vi p),(4,.ptr 1000 0),(5,.ptr 1001 0)],[(1000,Bk),(1001,B7 (.int .i64 0) (vi x))],1002⟩,none,fun _=>(.exit 0,⟨[(4,.ptr 1000 0),(5,.ptr 1001 0)],[(1000,Bk),(1001,B7 (vi e) (vi u))],1002⟩)⟩
theorem ui {a b:Nat}{v:Bool}(h:((a:Int).tmod (b:Int)==0)=v):(((a%b:Nat):Int)==0)=v:=h
theorem La (a b:Nat)(h:a/b≤10000000000):w6.wrap ((a:Int).tdiv (b:Int))=((a/b:Nat):Int):=by
 exact jX (n:=((a/b:Nat):Int)) (Int.le_trans de (Int.natCast_nonneg _)) (Int.le_trans (ot.2 h) de)
theorem Yw {p:Nat}(h:2≤p):(p:Int)≠0:=by omega
theorem Qu (p u e x:Nat)(hx:VX p u e x)(hp:p≤10000)(he:e≤1000):dB Tryz.prog EC.ng (Nat.max 2 Tryz.f152.ntmps) (cz Tryz.f152 [0,0,1,1]) (Yv p u e x):=by
 refine sB aX (bU aX (cm _ _) 8) aE kr kr (fun i:Nat×Nat=>(fun(q:Nat×Nat)=>(⟨[(1,vi p),(4,.ptr 1000 0),(5,.ptr 1001 0)],[(1000,Bk),(1001,B7 (vi q.1) (vi q.2))],1002⟩:St)) i) (fun i:Nat×Nat=>(fun(q:Nat×Nat)=>(e-q.1:Nat)) i) (fun(d:Bool)(i:Nat×Nat)=>(fun(q:Nat×Nat)=>(q.1≤e∧VX p u (e-q.1) q.2:Prop)) i) ?_ ?_
 ·intro d hd
  exact st ((0,x)) [rq (↑p:Int),(0:Int)=↑(0:Nat),rq (↑x:Int)] (by refine⟨?_,?_,(?_:(↑x:Int)=↑x)⟩<;>(first|exact tr|rfl|omega)) (by exact⟨bQ _,hx⟩)
 ·rintro d hd q hI
  cases d
  ·exact Bool.noConfusion (show false=true from hd)
  ·obtain⟨g1,g2⟩:=id hI
   refine oe ((↑q.snd:Int).tmod (↑p:Int)==0) (fun d1=>aH [true] ((q.1+1,q.2/p)) [rq (↑p:Int),w6.wrap ((↑q.fst:Int)+1)=↑(q.fst+1),w6.wrap ((↑q.snd:Int).tdiv (↑p:Int))=↑(q.snd/p),(↑p:Int)≠(0:Int),ty d1,(↑p:Int)≠(0:Int)] ⟨?_,?_,?_,?_,d1,(?_:(↑p:Int)≠(0:Int))⟩ ?_ ?_)
    (fun d1=>b9 [false] [(↑q.fst:Int)=↑e,(↑q.snd:Int)=↑u,ty d1,(↑p:Int)≠(0:Int)] ⟨?_,?_,d1,(?_:(↑p:Int)≠(0:Int))⟩)
   all_goals first|(refine dO.mk ?_;(have:=Bj g2 (mj (ui d1));show e-(q.1+1)<e-q.1;omega))|(refine cL.mk ?_;(obtain⟨e1,e2,_⟩:=Bj g2 (mj (ui d1));exact⟨om,by rw[show e-(q.1+1)=e-q.1-1 by omega];exact e2⟩))|exact fu|(first|exact tr|(rw[jX om om];omega)|(exact La _ _ (cl (Bj g2 (mj (ui d1))).2.2 de))|(exact Yw hx.hp)|(have:=IL g2 (mj (ui d1));omega)|(rw[(IL g2 (mj (ui d1))).2])|rfl)
theorem Qv (p u e x:Nat)(hx:VX p u e x)(hp:p≤10000)(he:e≤1000):ax Tryz.prog [] 152 [.int .i64 (x:Int),.int .i64 (p:Int)] (.agg [.int .i64 (e:Int),.int .i64 1,.int .i64 (u:Int),.int .i64 0,.int .i64 0]):=by
 have hl0:=Qu p u e x hx hp he
 have rr:=fun(tp:List Bool)(ms:List Prop)h hm=>cx aX (bU aX (cm _ _) 8) Tryz.func152 (A:=[.int .i64 (x:Int),.int .i64 (p:Int)]) (N:=Nat.max 2 Tryz.f152.ntmps) rfl (bX hl0) rfl rfl cv (tabs:=[]) (R:=.agg [.int .i64 (e:Int),.int .i64 1,.int .i64 (u:Int),.int .i64 0,.int .i64 0]) (tp:=tp) (ms:=ms) h hm
 refine rr [] [rq (↑e:Int),rq (1:Int),rq (↑u:Int),rq (0:Int),rq (0:Int),rq (↑p:Int),rq (↑x:Int)] kr ⟨?_,?_,?_,?_,?_,?_,(?_:(↑x:Int)=↑x)⟩
 all_goals first|exact xu
def xH (a b:Nat)(u v:Int):Int:=w6.wrap (u-w6.wrap (w6.wrap ((a:Int).tdiv (b:Int))*v))
def iD (a b:Nat)(u v:Int):Int:=if h:b=0 then u else iD b (a%b) v (xH a b u v)
termination_by b
decreasing_by exact jI _ om
def Yx (m x:Nat):aO:=⟨⟨[(1,vi m),(6,vi m),(7,vi x),(8,.int .i64 0),(9,.int .i64 1)],[],1000⟩,none,fun _=>(.exit 0,⟨[(1,vi m),(6,vi 1),(8,vi (iD m x 0 1))],[],1000⟩)⟩
theorem Xx {a b:Nat}(ha:a≤1000000000):w6.wrap ((↑a:Int)-w6.wrap (w6.wrap ((↑a:Int).tdiv (↑b:Int))*↑b))=↑(a%b):=by
 have h1:a/b*b≤a:=Nat.div_mul_le_self a b
 have h2:=Nat.div_le_self a b
 have h3:=Nat.mod_add_div a b
 rw[La a b om,←Int.natCast_mul,jX (n:=((a/b*b:Nat):Int)) om om]
 rw[Nat.mul_comm]at h1⊢
 rw[jX om om]
 omega
theorem Xy {a b:Nat}(h:Nat.gcd a b=1):Nat.gcd b (a%b)=1:=by
 rw[Nat.gcd_comm,←Nat.gcd_rec,Nat.gcd_comm];exact h
theorem Xz {a b:Nat}(u v:Int)(h:¬b=0):iD b (a%b) v (xH a b u v)=iD a b u v:=by
 rw[iD.eq_1 a b u v,dif_neg h]
theorem XA {a b:Nat}(u v:Int)(h:b=0):iD a b u v=u:=by
 rw[iD.eq_1 a b u v,dif_pos h]
theorem XB {a b:Nat}(h:b=0)(hg:Nat.gcd a b=1):a=1:=by
 subst h;rw[Nat.gcd_zero_right]at hg;exact hg
theorem Yy {b:Nat}(h:((b:Int)==0)=false):(b:Int)≠0:=by
 have:=oF (mj h)
 omega
theorem ON (m x:Nat)(hm:0<m)(hb:m≤1000000000∧x≤1000000000)(hg:Nat.gcd m x=1):dB Tryz.prog EC.ng (Nat.max 2 Tryz.f170.ntmps) (cz Tryz.f170 [0,0,1,1,1]) (Yx m x):=by
 refine sB aX (bU aX (cm _ _) 8) aE kr kr (fun i:(Nat×Nat)×(Int×Int)=>(fun(q:(Nat×Nat)×(Int×Int))=>(⟨[(1,vi m),(6,vi q.1.1),(7,vi q.1.2),(8,vi q.2.1),(9,vi q.2.2)],[],1000⟩:St)) i) (fun i:(Nat×Nat)×(Int×Int)=>(fun(q:(Nat×Nat)×(Int×Int))=>(q.1.2:Nat)) i) (fun(d:Bool)(i:(Nat×Nat)×(Int×Int))=>(fun(q:(Nat×Nat)×(Int×Int))=>(Nat.gcd q.1.1 q.1.2=1∧q.1.1≤1000000000∧q.1.2≤1000000000∧iD q.1.1 q.1.2 q.2.1 q.2.2=iD m x 0 1:Prop)) i) ?_ ?_
 ·intro d hd
  exact st (((m,x),(0,1))) [rq (↑m:Int),(↑m:Int)=(↑(m,x).fst:Int),(↑x:Int)=(↑(m,x).snd:Int),(0:Int)=((0:Int),(1:Int)).fst,(1:Int)=((0:Int),(1:Int)).snd] (by refine⟨?_,?_,?_,?_,(?_:(1:Int)=((0:Int),(1:Int)).snd)⟩<;>(first|exact tr|rfl|omega)) (by exact⟨hg,hb.1,hb.2,rfl⟩)
 ·rintro d hd q hI
  cases d
  ·exact Bool.noConfusion (show false=true from hd)
  ·obtain⟨g1,g2,g3,g4⟩:=id hI
   refine oe ((↑q.fst.snd:Int)==0) (fun d1=>b9 [false] [rq (↑m:Int),(↑q.fst.fst:Int)=1,q.snd.fst=iD m x (0:Int) (1:Int),ty (dN d1)] ⟨?_,?_,?_,(dN d1)⟩)
    (fun d1=>aH [true] (((q.1.2,q.1.1%q.1.2),(q.2.2,xH q.1.1 q.1.2 q.2.1 q.2.2))) (let v1:=(↑q.fst.snd:Int);let v2:=(q.snd.snd,xH q.fst.fst q.fst.snd q.snd.fst q.snd.snd);let v3:=(↑q.fst.fst:Int);let v4:=(q.fst.snd,q.fst.fst%q.fst.snd);[rq (↑m:Int),v1=↑v4.fst,w6.wrap (v3-w6.wrap (w6.wrap (v3.tdiv v1)*v1))=↑v4.snd,q.snd.snd=v2.fst,w6.wrap (q.snd.fst-w6.wrap (w6.wrap (v3.tdiv v1)*q.snd.snd))=v2.snd,v1≠(0:Int),ty (dN d1)]) ⟨?_,?_,?_,?_,?_,?_,(dN d1)⟩ ?_ ?_)
   all_goals first|(refine dO.mk ?_;(exact jI _ (kR (oF (mj d1)))))|(refine cL.mk ?_;(exact⟨Xy g1,g3,cl (Nat.mod_le _ _) g2,(Xz _ _ (oF (mj d1))).trans g4⟩))|exact fu|(first|exact tr|exact Xx g2|exact Yy d1|(rw[XB (oT (mj d1)) g1];rfl)|(rw[←g4,XA _ _ (oT (mj d1))])|rfl)
theorem Fr (m x:Nat)(hm:0<m)(hb:m≤1000000000∧x≤1000000000)(hg:Nat.gcd m x=1):ax Tryz.prog [] 170 [.int .i64 (x:Int),.int .i64 (m:Int)] (.tup [.int .i64 ((w6.wrap ((iD m x 0 1).tmod (m:Int)+(m:Int))).tmod (m:Int)),.bool true]):=by
 have hl0:=ON m x hm hb hg
 have k0:(m:Int)≠0:=by omega
 have rr:=fun(tp:List Bool)(ms:List Prop)h hm=>cx aX (bU aX (cm _ _) 8) Tryz.func170 (A:=[.int .i64 (x:Int),.int .i64 (m:Int)]) (N:=Nat.max 2 Tryz.f170.ntmps) rfl (bX hl0) rfl rfl cv (tabs:=[]) (R:=.tup [.int .i64 ((w6.wrap ((iD m x 0 1).tmod (m:Int)+(m:Int))).tmod (m:Int)),.bool true]) (tp:=tp) (ms:=ms) h hm
 refine rr [] [rq ((w6.wrap ((iD m x (0:Int) (1:Int)).tmod (↑m:Int)+↑m)).tmod (↑m:Int)),((1:Int)==1)=true,(↑m:Int)≠(0:Int),(↑m:Int)≠(0:Int),rq (↑m:Int),rq (↑m:Int),rq (↑x:Int)] kr ⟨?_,?_,?_,?_,?_,?_,(?_:(↑x:Int)=↑x)⟩
 all_goals first|(first|exact tr|exact k0|rfl|decide)
def hR (n:Nat):RV:=.sl 1 1 (fun _=>[.sl 1 1 (fun _=>[.int .i64 (n:Int)])])
theorem yc (n:Nat)(h0:0<n∧n≤10000):ax Tryz.prog [] 16 [hR n] (.bool true):=by
 have k1:decide ((↑n:Int)≤-262144)=false:=bI om
 have k2:decide ((↑n:Int)≥262144)=false:=bI om
 have k3:decide ((↑n:Int)>0)=true:=bJ om
 have k4:decide ((↑n:Int)≤10000)=true:=bJ om
 have rr:=fun(tp:List Bool)(ms:List Prop)h hm=>cx aX (bU aX (cm _ _) 8) Tryz.func16 (A:=[hR n]) rfl aE rfl rfl cv (tabs:=[]) (R:=.bool true) (tp:=tp) (ms:=ms) h hm
 refine rr (tp 2221) (let y1:=(↑(1:Nat):Int);[decide ((↑n:Int)≤10000)=true,(0:Int)≤0∧(0:Int)<y1,(0:Int)≤0∧(0:Int)<y1,aa (decide ((↑n:Int)>0)) true,(0:Int)≤0∧(0:Int)<y1,(0:Int)≤0∧(0:Int)<y1,aa (decide ((↑n:Int)≥262144)) false,aa (decide ((↑n:Int)≤-262144)) false,aa ((↑n:Int)!=(↑n:Int)) false,(0:Int)≤0∧(0:Int)<y1,(0:Int)≤0∧(0:Int)<y1,(0:Int)≤0∧(0:Int)<y1,(0:Int)≤0∧(0:Int)<y1,(0:Int)≤0∧(0:Int)<y1]) kr ⟨?_,?_,?_,k3,?_,?_,k2,k1,(dN (ey _)),?_,?_,?_,?_,(?_:(0:Int)≤0∧(0:Int)<↑(1:Nat))⟩
 all_goals first|(first|exact tr|exact k4|decide)
noncomputable def FL (n p u e:Nat):List cq:=[⟨148,[aL],fun A=>some (.tup [.int .i64 (e:Int),aQ u,.int .i64 0],[A=[aQ n,.int .i64 (p:Int)]])⟩]
theorem CO {n p u e:Nat}(hp:2≤p∧p≤10000)(hl:ld p=p)(hn:VX p u e n):∀e'∈FL n p u e,cJ Tryz.prog e':=by
 intro e' he
 simp only[FL,bC,cU,cY]at he
 subst he
 intro A R ms h hm
 cases h
 rw[aA hm]
 exact OS n p u e hp hl hn
theorem RD (n u e:Nat)(hl:ld 2=2)(hn:VX 2 u e n)(he:e≤1000):ax Tryz.prog [aL] 114 [hR n,.int .i64 ((2:Nat):Int)] (.int .i64 ((e+3:Nat):Int)):=by
 have rr:=fun(tp:List Bool)(ms:List Prop)h hm=>cx aX (bU aX (gV (CO om hl hn)) 12) Tryz.func114 (A:=[hR n,.int .i64 ((2:Nat):Int)]) rfl aE rfl rfl cv (tabs:=[aL]) (R:=.int .i64 ((e+3:Nat):Int)) (tp:=tp) (ms:=ms) h hm
 refine rr [false,true] (let v1:=[RV.bool false,RV.sl (1:Nat) (1:Nat) fun(x:Nat)=>[RV.int IntKind.u32 (↑n:Int)]];let v2:=(↑(1:Nat):Int);[IntKind.i64.wrap ((↑e:Int)+3)=↑(e+3),aa ((↑(2:Nat):Int)==2) true,rq ([RV.agg v1,RV.int IntKind.i64 (↑(2:Nat):Int)]),RV.agg v1=aQ n∧(0:Nat)<n∧n<4294967296,aa ((1:Int)==0) false,RV.agg v1=aQ n∧(0:Nat)<n∧n<4294967296,(0:Int)<1∧(1:Int)<4294967296,(0:Int)<↑n∧(↑n:Int)<4294967296,(0:Int)≤0∧(0:Int)<v2,(0:Int)≤0∧(0:Int)<v2,(0:Int)≤0∧(0:Int)<v2,(0:Int)≤0∧(0:Int)<v2]) kr ⟨?_,rfl,?_,?_,rfl,?_,?_,?_,?_,?_,?_,(?_:(0:Int)≤0∧(0:Int)<↑(1:Nat))⟩
 all_goals first|exact K3
theorem RE (n p u e:Nat)(h2:p≠2)(hp:2≤p∧p≤10000)(hl:ld p=p)(hn:VX p u e n)(he:e≤1000):ax Tryz.prog [aL] 114 [hR n,.int .i64 (p:Int)] (.int .i64 ((e+1:Nat):Int)):=by
 have k2:((p:Int)==2)=false:=cp.2 om
 have rr:=fun(tp:List Bool)(ms:List Prop)h hm=>cx aX (bU aX (gV (CO hp hl hn)) 12) Tryz.func114 (A:=[hR n,.int .i64 (p:Int)]) rfl aE rfl rfl cv (tabs:=[aL]) (R:=.int .i64 ((e+1:Nat):Int)) (tp:=tp) (ms:=ms) h hm
 refine rr [false,false] (let v1:=[RV.bool false,RV.sl (1:Nat) (1:Nat) fun(x:Nat)=>[RV.int IntKind.u32 (↑n:Int)]];let v2:=(↑(1:Nat):Int);[IntKind.i64.wrap ((↑e:Int)+1)=↑(e+1),aa ((↑p:Int)==2) false,rq ([RV.agg v1,RV.int IntKind.i64 (↑p:Int)]),RV.agg v1=aQ n∧(0:Nat)<n∧n<4294967296,aa ((1:Int)==0) false,RV.agg v1=aQ n∧(0:Nat)<n∧n<4294967296,(0:Int)<1∧(1:Int)<4294967296,(0:Int)<↑n∧(↑n:Int)<4294967296,(0:Int)≤0∧(0:Int)<v2,(0:Int)≤0∧(0:Int)<v2,(0:Int)≤0∧(0:Int)<v2,(0:Int)≤0∧(0:Int)<v2]) kr ⟨?_,k2,?_,?_,rfl,?_,?_,?_,?_,?_,?_,(?_:(0:Int)≤0∧(0:Int)<↑(1:Nat))⟩
 all_goals first|exact K3
def GT:List cq:=[
 ⟨35,[aL],fun A=>match A with
  |[.int .i64 n]=>some (.int .i64 ((ld n.toNat:Nat):Int),[2≤n∧n≤2147483647])
  |_=>none⟩]
theorem yx:∀e∈GT,cJ Tryz.prog e:=by
 intro e he
 simp only[GT,bC,cU,cY]at he
 subst he
 intro A R ms h hm
 simp only at h
 split at h
 ·rename_i n
  cases h
  obtain⟨h1,h2⟩:=hm _ eB
  have e:n=((n.toNat:Nat):Int):=by omega
  rw[e]
  exact Cp n.toNat om om
 ·cases h
def iW:List (Nat×ag):=[(0,aL.blk)]
def uu (L:List aN):ag:=⟨.vals .pow L,43,2,true,true⟩
def YI:Nat×Option (List aN)→St
 |(n,none)=>⟨[(0,vi n),(4,.nils)],iW,1010⟩
 |(n,some L)=>⟨[(0,vi n),(4,.lo 1001 L.length)],(1001,uu L)::iW,1010⟩
def YJ (n:Nat):aO:=⟨⟨[(0,vi n),(4,.nils)],iW,1000⟩,some (Nat.ble n 1),fun d=>match d with
 |true=>(.exit 0,⟨[(4,.nils)],iW,1010⟩)
 |false=>(.exit 0,⟨[(4,.lo 1001 (ba n).length)],(1001,uu (ba n))::iW,1010⟩)⟩
def xS (p:Nat)(e:Int):ag:=⟨.plain [vi p,vi e],43,0,false,true⟩
def I5 (p:Nat):ag:=⟨.plain [vi p,.int .i64 0],43,0,false,true⟩
def I6 (n p:Nat):aO:=⟨⟨[(0,vi n),(4,.nils),(5,.ptr 1010 0)],(1010,I5 p)::iW,1011⟩,none,fun _=>(.exit 2,⟨[(0,vi (vv p n).2),(4,.nils),(5,.ptr 1010 0)],(1010,xS p ((vv p n).1:Int))::iW,1011⟩)⟩
def I7 (n p:Nat)(L:List aN):aO:=⟨⟨[(0,vi n),(4,.lo 1001 L.length),(5,.ptr 1010 0)],(1010,I5 p)::(1001,uu L)::iW,1011⟩,none,fun _=>(.exit 2,⟨[(0,vi (vv p n).2),(4,.lo 1001 L.length),(5,.ptr 1010 0)],(1010,xS p ((vv p n).1:Int))::(1001,uu L)::iW,1011⟩)⟩
def pfI (p n0:Nat)(q:Nat×Nat):Prop:=0<q.1∧q.1+q.2≤n0∧vv p n0=(q.2+(vv p q.1).1,(vv p q.1).2)
theorem AW {p n0:Nat}(h:0<n0):pfI p n0 (n0,0):=⟨h,si,si⟩
theorem O2 {p n0 n e:Nat}(hp:2≤p)(hb:n0≤2147483647)(h:pfI p n0 (n,e))(hm:n%p=0):pfI p n0 (n/p,e+1):=by
 obtain⟨h1,h2,h3⟩:=h
 simp only at h1 h2 h3
 obtain⟨d1,d2⟩:=rW hp h1 hm
 refine⟨d1,by show n/p+(e+1)≤n0;omega,?_⟩
 rw[h3,vh hp h1 om hm]
 show(e+((vv p (n/p)).1+1),_)=(e+1+(vv p (n/p)).1,_)
 congr 1;omega
theorem Rp {p n0 n e:Nat}(h:pfI p n0 (n,e))(hm:n%p≠0):vv p n0=(e,n):=by
 obtain⟨h1,h2,h3⟩:=h
 rw[h3]
 simp only[zU hm]
 rfl
theorem Lk {n p:Nat}(hb:n≤2147483647):w6.wrap ((n:Int).tdiv (p:Int))=((n/p:Nat):Int):=by
 have e:(n:Int).tdiv (p:Int)=((n/p:Nat):Int):=rfl
 have h:n/p≤n:=Nat.div_le_self _ _
 rw[e]
 generalize n/p=q at h
 rw[wo]
theorem O3 (n0 p:Nat)(hp:2≤p)(h0:0<n0)(hb:n0≤2147483647):An 1 Tryz.f9 [0,0,1,0,1,0,0,0,1,1,1] (I6 n0 p):=by
 refine fj c0 aE (fun(q:Nat×Nat)=>(⟨[(0,vi q.1),(4,.nils),(5,.ptr 1010 0)],(1010,xS p (q.2:Int))::iW,1011⟩:St)) (fun(q:Nat×Nat)=>(q.1:Nat)) (fun(q:Nat×Nat)=>(pfI p n0 q:Prop)) ?_ ?_
 ·exact st ((n0,0)) [rq (↑n0:Int),rq (↑p:Int),(0:Int)=↑(0:Nat)] Km (by exact AW h0)
 ·intro q hI
  obtain⟨g1,g2,g3⟩:=id hI
  refine oe ((↑q.fst:Int).tmod (↑p:Int)==0) (fun d1=>aH [true] ((q.1/p,q.2+1)) [w6.wrap ((↑q.fst:Int).tdiv (↑p:Int))=↑(q.fst/p),rq (↑p:Int),w6.wrap ((↑q.snd:Int)+1)=↑(q.snd+1),(↑p:Int)≠(0:Int),ty d1,(↑p:Int)≠(0:Int)] ⟨?_,?_,?_,?_,d1,(?_:(↑p:Int)≠(0:Int))⟩ ?_ ?_)
   (fun d1=>b9 [false] [(↑q.fst:Int)=(↑(vv p n0).snd:Int),rq (↑p:Int),(↑q.snd:Int)=(↑(vv p n0).fst:Int),ty d1,(↑p:Int)≠(0:Int)] ⟨?_,?_,?_,d1,(?_:(↑p:Int)≠(0:Int))⟩)
  all_goals first|exact BL|exact BP|exact fu|exact BF
theorem O4 (n0 p:Nat)(L:List aN)(hp:2≤p)(h0:0<n0)(hb:n0≤2147483647):An 1 Tryz.f9 [0,0,1,0,1,0,0,0,1,1,1] (I7 n0 p L):=by
 refine fj c0 aE (fun(q:Nat×Nat)=>(⟨[(0,vi q.1),(4,.lo 1001 L.length),(5,.ptr 1010 0)],(1010,xS p (q.2:Int))::(1001,uu L)::iW,1011⟩:St)) (fun(q:Nat×Nat)=>(q.1:Nat)) (fun(q:Nat×Nat)=>(pfI p n0 q:Prop)) ?_ ?_
 ·exact st ((n0,0)) [rq (↑n0:Int),rq L.length,rq (↑p:Int),(0:Int)=↑(0:Nat),L=L] (by refine⟨?_,?_,?_,?_,(?_:L=L)⟩<;>(first|exact tr|rfl|omega)) (by exact AW h0)
 ·intro q hI
  obtain⟨g1,g2,g3⟩:=id hI
  refine oe ((↑q.fst:Int).tmod (↑p:Int)==0) (fun d1=>aH [true] ((q.1/p,q.2+1)) [w6.wrap ((↑q.fst:Int).tdiv (↑p:Int))=↑(q.fst/p),rq L.length,rq (↑p:Int),w6.wrap ((↑q.snd:Int)+1)=↑(q.snd+1),L=L,(↑p:Int)≠(0:Int),ty d1,(↑p:Int)≠(0:Int)] ⟨?_,?_,?_,?_,?_,?_,d1,(?_:(↑p:Int)≠(0:Int))⟩ ?_ ?_)
   (fun d1=>b9 [false] [(↑q.fst:Int)=(↑(vv p n0).snd:Int),rq L.length,rq (↑p:Int),(↑q.snd:Int)=(↑(vv p n0).fst:Int),L=L,ty d1,(↑p:Int)≠(0:Int)] ⟨?_,?_,?_,?_,?_,d1,(?_:(↑p:Int)≠(0:Int))⟩)
  all_goals first|exact BL|exact BP|exact fu|exact BF
def jL (n:Nat):Nat:=Nat.max 2 (ld n)
theorem WM (n:Nat):2≤jL n:=Nat.le_max_left _ _
theorem Tm {n:Nat}(hn:(n:Int)>1)(hb:n≤2147483647):jL n=ld n:=Nat.max_eq_right (sj om hb).1
def oL (n0:Nat)(i:Nat×Option (List aN)):Prop:=0<i.1∧i.1≤n0∧(match i.2 with
 |none=>i.1=n0
 |some L=>L++ba i.1=ba n0∧2^L.length*i.1≤n0∧2≤n0)
theorem EA {n0 n:Nat}(h:oL n0 (n,none)):n=n0:=h.2.2
theorem WN {n0 n:Nat}(hb:n0≤2147483647)(h:oL n0 (n,none))(hn:(n:Int)>1):oL n0 ((vv (ld n) n).2,some [⟨((ld n:Nat):Int),((vv (ld n) n).1:Int)⟩]):=by
 have e:=EA h
 subst e
 obtain⟨r1,r2⟩:=oU (n:=n) om hb
 refine⟨r1,by show(vv (ld n) n).2≤n;omega,?_,?_,om⟩
 ·show [_]++ba _=_
  rw[qa (n:=n) om hb];rfl
 ·show 2^1*(vv (ld n) n).2≤n
  omega
theorem WO {n0 n:Nat}{L:List aN}(hb:n0≤2147483647)(h:oL n0 (n,some L))(hn:(n:Int)>1):oL n0 ((vv (ld n) n).2,some (L++[⟨((ld n:Nat):Int),((vv (ld n) n).1:Int)⟩])):=by
 obtain⟨h1,h2,h3,h4,h5⟩:=h
 simp only at h1 h2 h3 h4
 obtain⟨r1,r2⟩:=oU (n:=n) om om
 refine⟨r1,by show(vv (ld n) n).2≤n0;omega,?_,?_,h5⟩
 ·show(L++[_])++ba _=_
  rw[←h3,qa (n:=n) om om,List.append_assoc];rfl
 ·show 2^(L++[_]).length*(vv (ld n) n).2≤n0
  rw[fV,dg,ic,jp,Nat.mul_assoc]
  have:2^L.length*(2*(vv (ld n) n).2)≤2^L.length*n:=Nat.mul_le_mul_left _ om
  omega
theorem Rq {n0 n:Nat}{L:List aN}(hb:n0≤2147483647)(h:oL n0 (n,some L)):L.length<31:=by
 obtain⟨h1,h2,h3,h4,h5⟩:=h
 simp only at h1 h4
 have:2^L.length*1≤2^L.length*n:=Nat.mul_le_mul_left _ h1
 have h6:2^L.length<2^31:=by omega
 exact(Nat.pow_lt_pow_iff_right om).1 h6
theorem FE {n0 n:Nat}{L:List aN}(h:oL n0 (n,some L))(hn:¬(n:Int)>1):L=ba n0:=by
 obtain⟨h1,h2,h3,h4,h5⟩:=h
 simp only at h3
 rw[←h3,zi (n:=n) om,kf]
theorem Rr (n0:Nat)(h0:0<n0)(hb:n0≤2147483647):An 1 Tryz.f9 [0,0,1,1,1] (YJ n0):=by
 refine pI (cE yx) (YI) (fun i=>i.1) (fun _ i=>oL n0 i) (fun i:Nat×Option (List aN)=>match i with|(n,none)=>[([0,0,1,0,1,0,0,0,1,1,1],I6 n (jL n))]|(n,some L)=>[([0,0,1,0,1,0,0,0,1,1,1],I7 n (jL n) L)]) ?_ ?_ ?_
 ·rintro d hd ⟨n,o⟩ hI
  have hp:=WM n
  have g1:=hI.1
  have g2:=hI.2.1
  simp only at g1 g2
  rcases o with _|L
  ·exact bX (O3 n (jL n) hp g1 om)
  ·exact bX (O4 n (jL n) L hp g1 om)
 ·intro d hd
  exact st (n0,none) [rq (↑n0:Int)] (by refine(?_:(↑n0:Int)=↑n0)<;>(first|exact tr|rfl|omega)) (by exact⟨h0,bp _,rfl⟩)
 ·rintro d hd ⟨n,o⟩ hI
  have g1:=hI.1
  have g2:=hI.2.1
  simp only at g1 g2
  rcases o with _|L
  rotate_right
  refine oe (decide ((↑n:Int)>1)) (fun d1=>aH [true] ((vv (ld n) n).2,some (L++[⟨((ld n:Nat):Int),((vv (ld n) n).1:Int)⟩])) (let v1:=[QfSy.aN.mk (↑(jL n):Int) (↑(vv (jL n) n).fst:Int)];let v2:=[QfSy.aN.mk (↑(ld n):Int) (↑(vv (ld n) n).fst:Int)];[(↑(vv (jL n) n).snd:Int)=(↑(vv (ld n) n).snd:Int),L.length+1=(L++v2).length,L++v1=L++v2,L.length=L.length∧L.length+1≤1000000,(1:Nat)=v1.length,rq (↑n:Int),rq L.length,(↑(ld n):Int)=↑(jL n),L=L,(2:Int)≤↑n∧(↑n:Int)≤2147483647,ty d1]) ⟨?_,?_,?_,?_,?_,?_,?_,?_,?_,?_,d1⟩ ?_ ?_)
   (fun d1=>bH d false [false] [L.length=(ba n0).length,L=ba n0,ty d1] ⟨?_,?_,d1⟩ ?_)
  rotate_right
  refine oe (decide ((↑n:Int)>1)) (fun d1=>aH [true] ((vv (ld n) n).2,some [⟨((ld n:Nat):Int),((vv (ld n) n).1:Int)⟩]) (let v1:=[QfSy.aN.mk (↑(jL n):Int) (↑(vv (jL n) n).fst:Int)];let v2:=[QfSy.aN.mk (↑(ld n):Int) (↑(vv (ld n) n).fst:Int)];[(↑(vv (jL n) n).snd:Int)=(↑(vv (ld n) n).snd:Int),(1:Nat)=v2.length,v1=v2,(0:Nat)<1∧(1:Nat)≤1000000,(1:Nat)=v1.length,rq (↑n:Int),(↑(ld n):Int)=↑(jL n),(2:Int)≤↑n∧(↑n:Int)≤2147483647,ty d1]) ⟨?_,?_,?_,?_,?_,?_,?_,?_,d1⟩ ?_ ?_)
   (fun d1=>bH d true [false] [ty d1] d1 ?_)
  all_goals first|(refine dO.mk ?_;(have dd:=oT d1;have hr:=oU (n:=n) om om;show(vv (ld n) n).2<n;omega))|(refine cL.mk ?_;(first|exact WN hb hI (oT d1)|exact WO hb hI (oT d1)))|(refine gu.mk ?_;cases d<;>first|rfl|(exfalso;(first|(have e:=EA hI;subst e;have hd:Nat.ble n 1=_:=hd;first|(have dd:=oT d1;have:=aT hd;omega)|(have dd:=oF d1;have h9:Nat.ble n 1=true:=fW om;rw[hd]at h9;cases h9))|(obtain⟨k1,k2,k3,k4,k5⟩:=hI;have hd:Nat.ble n0 1=true:=hd;have:=aT hd;omega))))|(first|exact tr|decide|(have dd:=oT d1;have hl:=Tm dd om;first|(rw[hl];done)|omega|exact⟨om,om⟩)|(rw[fV];rfl)|(have hl:=Rq hb hI;exact⟨rfl,om⟩)|(have dd:=oF d1;rw[FE hI dd];done)|exact FE hI (oF d1)|rfl)
theorem yT (n:Nat)(h0:0<n)(hb:n≤2147483647):ax Tryz.prog [aL] 9 [.int .i64 (n:Int)] (.tup [dU .pow (ba n),.int .i64 0]):=by
 have hl0:=Rr n om om
 have k1:decide ((n:Int)<1)=false:=bI om
 have k2:decide ((n:Int)>2147483647)=false:=bI om
 refine pr (cE yx) Tryz.func9 (bX hl0) ?_
 refine(let y1:List Prop:=[aa (decide ((↑n:Int)>2147483647)) false,aa (decide ((↑n:Int)<1)) false];have u1:ar y1:=⟨k2,k1⟩;oe (n.ble (1:Nat)) (fun d1=>lr (tp 221) (((ba n).length=0)::rq (0:Int)::rq (↑n:Int)::ty d1::y1) ⟨?_,?_,?_,d1,u1⟩)
  (fun d1=>lr (tp 222) (((ba n).length=(ba n).length∧(ba n).length=(ba n).length∧∀(i:Nat),i<(ba n).length→(fun i=>ae.pow.rvs ((ba n).getD i ae.pow.zero)) i=ae.pow.rvs ((ba n).getD i ae.pow.zero))::rq (0:Int)::rq (↑n:Int)::ty d1::y1) ⟨?_,?_,?_,d1,u1⟩))
 all_goals first|(first|exact tr|(rw[zi (aT d1)];rfl)|exact uc)
def YF (p n:Nat):aO:=⟨⟨[(0,vi n),(1,vi p),(6,.int .i64 0)],[],1000⟩,none,fun _=>(.exit 0,⟨[(0,vi (vv p n).2),(6,vi (vv p n).1)],[],1000⟩)⟩
theorem QY (n0 p:Nat)(hp:2≤p)(h0:0<n0)(hb:n0≤2147483647):An 2 Tryz.f23 [0,0,1,1] (YF p n0):=by
 refine fj c0 aE (fun(q:Nat×Nat)=>(⟨[(0,vi q.1),(1,vi p),(6,vi q.2)],[],1000⟩:St)) (fun(q:Nat×Nat)=>(q.1:Nat)) (fun(q:Nat×Nat)=>(pfI p n0 q:Prop)) ?_ ?_
 ·exact st ((n0,0)) [rq (↑n0:Int),rq (↑p:Int),(0:Int)=↑(0:Nat)] Km (by exact AW h0)
 ·intro q hI
  obtain⟨g1,g2,g3⟩:=id hI
  refine oe ((↑q.fst:Int).tmod (↑p:Int)==0) (fun d1=>aH [true] ((q.1/p,q.2+1)) [w6.wrap ((↑q.fst:Int).tdiv (↑p:Int))=↑(q.fst/p),rq (↑p:Int),w6.wrap ((↑q.snd:Int)+1)=↑(q.snd+1),(↑p:Int)≠(0:Int),ty d1,(↑p:Int)≠(0:Int)] ⟨?_,?_,?_,?_,d1,(?_:(↑p:Int)≠(0:Int))⟩ ?_ ?_)
   (fun d1=>b9 [false] [(↑q.fst:Int)=(↑(vv p n0).snd:Int),(↑q.snd:Int)=(↑(vv p n0).fst:Int),ty d1,(↑p:Int)≠(0:Int)] ⟨?_,?_,d1,(?_:(↑p:Int)≠(0:Int))⟩)
  all_goals first|exact BL|exact BP|exact fu|exact BF
theorem yd (n p:Nat)(hp:2≤p)(h0:0<n)(hb:n≤2147483647):ax Tryz.prog [] 23 [.int .i64 (n:Int),.int .i64 (p:Int)] (.tup [.int .i64 ((vv p n).1:Int),.int .i64 ((vv p n).2:Int)]):=by
 have hl0:=QY n p hp h0 hb
 refine pr c0 Tryz.func23 (bX hl0) ?_
 refine lr [] [rq (↑(vv p n).fst:Int),rq (↑(vv p n).snd:Int),rq (↑n:Int),rq (↑p:Int)] ⟨?_,?_,?_,(?_:(↑p:Int)=↑p)⟩
 all_goals first|exact xu
theorem Wh {a n:Nat}(ha:a≤2147483647)(hb:n≤2147483647)(h0:0<n):(w6.wrap ((a:Int).tmod (n:Int)+(n:Int))).tmod (n:Int)=((a%n:Nat):Int):=by
 rw[show(a:Int).tmod (n:Int)=((a%n:Nat):Int)from rfl]
 have h1:a%n<n:=jI _ h0
 generalize hr:a%n=r at h1⊢
 rw[wo,show(r:Int)+(n:Int)=((r+n:Nat):Int) by simp]
 rw[show((r+n:Nat):Int).tmod (n:Int)=(((r+n)%n:Nat):Int)from rfl,Nat.add_mod_right,rD h1]
theorem LH (a n:Nat)(h0:0<n)(hb:n≤2147483647)(ha:a≤2147483647):ax Tryz.prog [] 122 [.int .i64 (a:Int),.int .i64 (n:Int)] (.int .i64 ((a%n:Nat):Int)):=by
 refine pr c0 Tryz.func122 aE ?_
 refine lr [] [(w6.wrap ((↑a:Int).tmod (↑n:Int)+↑n)).tmod (↑n:Int)=↑(a%n),(↑n:Int)≠(0:Int),(↑n:Int)≠(0:Int)] ⟨?_,?_,(?_:(↑n:Int)≠(0:Int))⟩
 all_goals first|(first|exact tr|exact Wh ha hb h0|omega)
theorem oG (n m k:Nat):((n:Int).tmod (m:Int)==(k:Int))=Nat.beq (n%m) k:=by
 rw[show(n:Int).tmod (m:Int)=((n%m:Nat):Int)from rfl]
 cases h:Nat.beq (n%m) k with
 |true=>rw[co h];exact ey _
 |false=>
  have:=jn h
  cases h2:(((n%m:Nat):Int)==(k:Int))with
  |false=>rfl
  |true=>exact absurd (by have:=eq_of_beq h2;omega) this
def iG (n:Nat)(s:Int):Int:=bif Nat.beq (n%8) 3||Nat.beq (n%8) 5 then-s else s
def rH:Nat→Nat→Nat→Int→Nat×Int
 |0,a,_,s=>(a,s)
 |f+1,a,n,s=>bif Nat.beq (a%2) 0 then rH f (a/2) n (iG n s)else(a,s)
def jt (a n:Nat)(s:Int):Nat×Int:=rH a a n s
theorem Em:∀(f g a n:Nat)(s:Int),0<a→a≤f→a≤g→rH f a n s=rH g a n s
 |0,g,a,n,s,h0,h1,h2=>by omega
 |f+1,0,a,n,s,h0,h1,h2=>by omega
 |f+1,g+1,a,n,s,h0,h1,h2=>by
  unfold rH
  cases h:Nat.beq (a%2) 0 with
  |false=>rfl
  |true=>
   have:=co h
   simp only[aU]
   exact Em f g (a/2) n _ om om om
theorem Fy {a n:Nat}{s:Int}(h0:0<a)(hm:a%2=0):jt a n s=jt (a/2) n (iG n s):=by
 unfold jt
 cases a with
 |zero=>omega
 |succ a=>
  show(bif Nat.beq ((a+1)%2) 0 then rH a ((a+1)/2) n (iG n s)else(a+1,s))=_
  rw[hm]
  exact Em _ _ _ _ _ om om om
theorem GK {a n:Nat}{s:Int}(hm:a%2≠0):jt a n s=(a,s):=by
 unfold jt
 cases a with
 |zero=>rfl
 |succ a=>
  show(bif Nat.beq ((a+1)%2) 0 then _ else(a+1,s))=_
  cases h:Nat.beq ((a+1)%2) 0 with
  |true=>exact absurd (co h) hm
  |false=>rfl
def gw (s:Int):Prop:=s=1∨s=-1
theorem HY {n:Nat}{s:Int}(h:gw s):gw (iG n s):=by
 unfold iG
 cases (Nat.beq (n%8) 3||Nat.beq (n%8) 5)with
 |true=>rcases h with rfl|rfl<;>simp[gw]
 |false=>exact h
theorem qf (n:Nat):∀(a:Nat)(s:Int),0<a→gw s→0<(jt a n s).1∧(jt a n s).1≤a∧(jt a n s).1%2≠0∧gw (jt a n s).2:=by
 intro a
 induction a using Nat.strongRecOn with
 |_ a ih=>
  intro s h0 hs
  by_cases hm:a%2=0
  ·rw[Fy h0 hm]
   obtain⟨i1,i2,i3,i4⟩:=ih (a/2) om (iG n s) om (HY hs)
   exact⟨i1,om,i3,i4⟩
  ·rw[GK hm]
   exact⟨h0,bp _,hm,hs⟩
theorem AS {s:Int}(h:gw s):w6.wrap ((0:Int)-s)=-s:=by rcases h with rfl|rfl<;>rfl
theorem Wi {n:Nat}{s:Int}(hs:gw s)(h:((n:Int).tmod 8==3)=true):w6.wrap ((0:Int)-s)=iG n s:=by
 have h1:Nat.beq (n%8) 3=true:=(oG n 8 3).symm.trans h
 rw[AS hs];unfold iG;rw[h1];rfl
theorem Wj {n:Nat}{s:Int}(hs:gw s)(h:((n:Int).tmod 8==5)=true):w6.wrap ((0:Int)-s)=iG n s:=by
 have h1:Nat.beq (n%8) 5=true:=(oG n 8 5).symm.trans h
 rw[AS hs];unfold iG;rw[h1,Bool.or_true];rfl
theorem Wk {n:Nat}{s:Int}(h:((n:Int).tmod 8==3)=false)(h':((n:Int).tmod 8==5)=false):s=iG n s:=by
 have h1:Nat.beq (n%8) 3=false:=(oG n 8 3).symm.trans h
 have h2:Nat.beq (n%8) 5=false:=(oG n 8 5).symm.trans h'
 unfold iG;rw[h1,h2];rfl
def Lg (a n:Nat)(s:Int):aO:=⟨⟨[(0,vi a),(1,vi n),(5,vi s)],[],1000⟩,none,fun _=>(.exit 2,⟨[(0,vi (jt a n s).1),(1,vi n),(5,vi (jt a n s).2)],[],1000⟩)⟩
theorem QZ (a0 n:Nat)(s0:Int)(h0:0<a0)(hb:a0≤2147483647)(hs:gw s0):An 2 Tryz.f123 [0,0,0,1,0,0,0,1,1] (Lg a0 n s0):=by
 refine fj c0 aE (fun(q:Nat×Int)=>(⟨[(0,vi q.1),(1,vi n),(5,vi q.2)],[],1000⟩:St)) (fun(q:Nat×Int)=>(q.1:Nat)) (fun(q:Nat×Int)=>(0<q.1∧q.1≤a0∧gw q.2∧jt q.1 n q.2=jt a0 n s0:Prop)) ?_ ?_
 ·exact st ((a0,s0)) [rq (↑a0:Int),rq (↑n:Int),s0=s0] (by refine⟨?_,?_,(?_:s0=s0)⟩<;>(first|rfl|assumption|exact⟨rfl,rfl⟩|omega|simp_all)) (by exact⟨h0,bp _,hs,rfl⟩)
 ·intro q hI
  obtain⟨g1,g2,g3,g4⟩:=hI
  refine(let q1:List Prop→List Prop:=fun l0=>(w6.wrap ((↑q.fst:Int).tdiv (2:Int))=↑(q.fst/(2:Nat)))::rq (↑n:Int)::(w6.wrap ((0:Int)-q.snd)=iG n q.snd)::l0;let y1:List Prop:=[(2:Int)≠(0:Int)];have u1:ar y1:=(?_:(2:Int)≠(0:Int));oe ((↑q.fst:Int).tmod (2:Int)==0) (fun d1=>let y2:List Prop:=((8:Int)≠(0:Int))::((2:Int)≠(0:Int))::ty d1::y1;have u2:ar y2:=⟨?_,?_,d1,u1⟩;oe ((↑n:Int).tmod (8:Int)==3) (fun d2=>aH [true,true] ((q.1/2,iG n q.2)) (q1 (ty d2::y2)) ⟨?_,?_,?_,d2,u2⟩ ?_ ?_)
   (fun d2=>oe ((↑n:Int).tmod (8:Int)==5) (fun d3=>aH (tp 121) ((q.1/2,iG n q.2)) (q1 (ty d3::((8:Int)≠(0:Int))::ty d2::y2)) ⟨?_,?_,?_,d3,?_,d2,u2⟩ ?_ ?_)
   (fun d3=>aH (tp 122) ((q.1/2,iG n q.2)) ((w6.wrap ((↑q.fst:Int).tdiv (2:Int))=↑(q.fst/(2:Nat)))::rq (↑n:Int)::(q.snd=iG n q.snd)::ty d3::((8:Int)≠(0:Int))::ty d2::y2) ⟨?_,?_,?_,d3,?_,d2,u2⟩ ?_ ?_)))
   (fun d1=>b9 [false] (((↑q.fst:Int)=(↑(jt a0 n s0).fst:Int))::rq (↑n:Int)::(q.snd=(jt a0 n s0).snd)::ty d1::y1) ⟨?_,?_,?_,d1,u1⟩))
  all_goals((try clear u2);(try clear y2);(try clear u1);(try clear y1))
  all_goals first|(refine dO.mk ?_;(have:=zz (m:=2) rfl d1;show q.1/2<q.1;omega))|(refine cL.mk ?_;(have hz:=zz (m:=2) rfl d1;exact⟨by show 0<q.1/2;omega,by show q.1/2≤a0;omega,HY g3,by rw[←g4];exact(Fy g1 hz).symm⟩))|exact fu|(first|exact tr|exact Lk (p:=2) om|decide|exact Wi g3 d2|exact Wj g3 d3|exact Wk d2 d3|(rw[←g4,GK (nz (m:=2) rfl d1)];done))
def jY (a n:Nat)(s:Int):Int:=bif Nat.beq (a%4) 3&&Nat.beq (n%4) 3 then-s else s
def oH:Nat→Nat→Nat→Int→Nat×Int
 |0,_,n,s=>(n,s)
 |f+1,a,n,s=>bif Nat.beq a 0 then(n,s)else oH f (n%(jt a n s).1) (jt a n s).1 (jY (jt a n s).1 n (jt a n s).2)
def ja (a n:Nat)(s:Int):Nat×Int:=oH (a+1) a n s
theorem vK {a n:Nat}{s:Int}(h:gw s):gw (jY a n s):=by
 unfold jY
 cases (Nat.beq (a%4) 3&&Nat.beq (n%4) 3)with
 |true=>rcases h with rfl|rfl<;>simp[gw]
 |false=>exact h
theorem En:∀(f g a n:Nat)(s:Int),gw s→a<f→a<g→oH f a n s=oH g a n s
 |0,g,a,n,s,hs,h1,h2=>by omega
 |f+1,0,a,n,s,hs,h1,h2=>by omega
 |f+1,g+1,a,n,s,hs,h1,h2=>by
  unfold oH
  cases h:Nat.beq a 0 with
  |true=>rfl
  |false=>
   have h0:0<a:=kR (jn h)
   simp only[bt]
   obtain⟨b1,b2,b3,b4⟩:=qf n a s h0 hs
   have hlt:n%(jt a n s).1<(jt a n s).1:=jI _ b1
   exact En f g _ _ _ (vK b4) om om
theorem FA {n:Nat}{s:Int}:ja 0 n s=(n,s):=rfl
theorem Q0 {a n:Nat}{s:Int}(h0:0<a)(hs:gw s):ja a n s=ja (n%(jt a n s).1) (jt a n s).1 (jY (jt a n s).1 n (jt a n s).2):=by
 have h:Nat.beq a 0=false:=by
  cases h:Nat.beq a 0 with
  |false=>rfl
  |true=>have:=co h;omega
 show(bif Nat.beq a 0 then(n,s)else oH a _ _ _)=_
 rw[h]
 obtain⟨b1,b2,b3,b4⟩:=qf n a s h0 hs
 have hlt:n%(jt a n s).1<(jt a n s).1:=jI _ b1
 exact En _ _ _ _ _ (vK b4) om om
theorem S9 {a n:Nat}{s:Int}(hs:gw s)(h:((a:Int).tmod 4==3)=true)(h':((n:Int).tmod 4==3)=true):w6.wrap ((0:Int)-s)=jY a n s:=by
 have h1:Nat.beq (a%4) 3=true:=(oG a 4 3).symm.trans h
 have h2:Nat.beq (n%4) 3=true:=(oG n 4 3).symm.trans h'
 rw[AS hs];unfold jY;rw[h1,h2];rfl
theorem Ta {a n:Nat}{s:Int}(h:((a:Int).tmod 4==3)=false):s=jY a n s:=by
 have h1:Nat.beq (a%4) 3=false:=(oG a 4 3).symm.trans h
 unfold jY;rw[h1];rfl
theorem Tc {a n:Nat}{s:Int}(h:((n:Int).tmod 4==3)=false):s=jY a n s:=by
 have h1:Nat.beq (n%4) 3=false:=(oG n 4 3).symm.trans h
 unfold jY;rw[h1,mt9];rfl
def YG (a n:Nat):aO:=⟨⟨[(0,vi a),(1,vi n),(5,.int .i64 1)],[],1000⟩,none,fun _=>(.exit 0,⟨[(1,vi (ja a n 1).1),(5,vi (ja a n 1).2)],[],1000⟩)⟩
def mW (a:Nat):Nat:=Nat.max 1 a
theorem zo {a:Nat}(h:0<a):mW a=a:=Nat.max_eq_right h
theorem OT (a:Nat):0<mW a:=Nat.le_max_left _ _
theorem Q1 {a:Nat}(h:a≤2147483647):mW a≤2147483647:=Nat.max_le.2 ⟨om,h⟩
theorem zb {a:Nat}(h:((a:Int)==0)=false):0<a:=by
 rcases kS a with e|e
 ·subst e;cases h
 ·exact e
theorem zt {a:Nat}(h:((a:Int)==0)=true):a=0:=by have:=eq_of_beq h;omega
abbrev Cb (q:Nat×Nat×Int):=(q.2.1%(jt q.1 q.2.1 q.2.2).1,(jt q.1 q.2.1 q.2.2).1,jY (jt q.1 q.2.1 q.2.2).1 q.2.1 (jt q.1 q.2.1 q.2.2).2)
theorem Q2 (a0 n0:Nat)(hb:a0≤2147483647)(hn:n0≤2147483647):An 2 Tryz.f123 [0,0,1,1] (YG a0 n0):=by
 refine tR c0 (fun(q:Nat×Nat×Int)=>(⟨[(0,vi q.1),(1,vi q.2.1),(5,vi q.2.2)],[],1000⟩:St)) (fun(q:Nat×Nat×Int)=>(q.1:Nat)) (fun(q:Nat×Nat×Int)=>(q.1≤2147483647∧q.2.1≤2147483647∧gw q.2.2∧ja q.1 q.2.1 q.2.2=ja a0 n0 1:Prop)) (fun(q:Nat×Nat×Int)=>([([0,0,0,1,0,0,0,1,1],Lg (mW q.1) q.2.1 q.2.2)]:List (List Nat×aO))) ?_ ?_ ?_
 ·intro q hI
  obtain⟨g1,g2,g3,g4⟩:=hI
  exact bX (QZ (mW q.1) q.2.1 q.2.2 (OT _) (Q1 g1) g3)
 ·exact st ((a0,n0,1)) [rq (↑a0:Int),(↑n0:Int)=(↑(n0,(1:Int)).fst:Int),(1:Int)=(n0,(1:Int)).snd] (by refine⟨?_,?_,(?_:(1:Int)=(n0,(1:Int)).snd)⟩<;>(first|exact tr|rfl)) (by exact⟨hb,hn,.inl rfl,rfl⟩)
 ·intro q hI
  obtain⟨g1,g2,g3,g4⟩:=hI
  refine(let q1:List Prop→List Prop:=fun l0=>(let v1:=jt q.fst q.snd.fst q.snd.snd;let v2:=jt (mW q.fst) q.snd.fst q.snd.snd;let v3:=(v1.fst,jY v1.fst q.snd.fst v1.snd);let v4:=(↑v2.fst:Int);((↑q.snd.fst:Int).tmod v4=↑(q.snd.fst%v1.fst))::(v4=↑v3.fst)::(v2.snd=v3.snd)::(v4≠(0:Int))::l0);oe ((↑q.fst:Int)==0) (fun d1=>b9 [false] [(↑q.snd.fst:Int)=(↑(ja a0 n0 (1:Int)).fst:Int),q.snd.snd=(ja a0 n0 (1:Int)).snd,ty (dN d1)] ⟨?_,?_,(dN d1)⟩)
   (fun d1=>let y1:List Prop:=[(4:Int)≠(0:Int),(↑q.fst:Int)=↑(mW q.fst),rq (↑q.snd.fst:Int),rq q.snd.snd,ty (dN d1)];have u1:ar y1:=⟨?_,?_,?_,?_,(dN d1)⟩;oe ((↑(jt (mW q.fst) q.snd.fst q.snd.snd).fst:Int).tmod (4:Int)==3) (fun d2=>oe ((↑q.snd.fst:Int).tmod (4:Int)==3) (fun d3=>aH (tp 111) (Cb q) (let v1:=jt q.fst q.snd.fst q.snd.snd;let v2:=jt (mW q.fst) q.snd.fst q.snd.snd;let v3:=(v1.fst,jY v1.fst q.snd.fst v1.snd);let v4:=(↑v2.fst:Int);((↑q.snd.fst:Int).tmod v4=↑(q.snd.fst%v1.fst))::(v4=↑v3.fst)::(w6.wrap ((0:Int)-v2.snd)=v3.snd)::(v4≠(0:Int))::ty d3::((4:Int)≠(0:Int))::ty d2::y1) ⟨?_,?_,?_,?_,d3,?_,d2,u1⟩ ?_ ?_)
   (fun d3=>aH (tp 112) (Cb q) (q1 (ty d3::((4:Int)≠(0:Int))::ty d2::y1)) ⟨?_,?_,?_,?_,d3,?_,d2,u1⟩ ?_ ?_))
   (fun d2=>aH [true,false] (Cb q) (q1 (ty d2::y1)) ⟨?_,?_,?_,?_,d2,u1⟩ ?_ ?_)))
  all_goals((try clear u1);(try clear y1))
  all_goals first|(refine dO.mk ?_;(have hq:=zb d1;obtain⟨b1,b2,b3,b4⟩:=qf q.2.1 q.1 q.2.2 hq g3;have:=jI q.2.1 b1;show q.2.1%(jt q.1 q.2.1 q.2.2).1<q.1;omega))|(refine cL.mk ?_;(have hq:=zb d1;obtain⟨b1,b2,b3,b4⟩:=qf q.2.1 q.1 q.2.2 hq g3;have:=jI q.2.1 b1;exact⟨by show q.2.1%(jt q.1 q.2.1 q.2.2).1≤_;omega,by show(jt q.1 q.2.1 q.2.2).1≤_;omega,vK b4,by rw[←g4];exact(Q0 hq g3).symm⟩))|exact fu|(first|exact tr|decide|(have hq:=zb d1;first|(rw[zo hq];done)|(rw[zo hq];rfl)|(rw[zo hq]at d2⊢;obtain⟨b1,b2,b3,b4⟩:=qf q.2.1 q.1 q.2.2 hq g3;first|exact S9 b4 d2 d3|exact Ta d2|exact Tc d3|omega))|(have h0:=zt d1;rw[←g4,h0,FA];done)|(have h0:=zt d1;rw[←g4,h0,FA];rfl))
theorem XM {a:Nat}{x y:Int}(h:((a:Int)==1)=true):x=bif Nat.beq a 1 then x else y:=by
 have:a=1:=by have:=eq_of_beq h;omega
 rw[this];rfl
theorem XN {a:Nat}{x y:Int}(h:((a:Int)==1)=false):y=bif Nat.beq a 1 then x else y:=by
 cases hb:Nat.beq a 1 with
 |false=>rfl
 |true=>
  have e:=co hb
  rw[e]at h
  cases h
theorem OU (a n:Nat)(hb:a≤2147483647)(hn:n≤2147483647):ax Tryz.prog [] 123 [.int .i64 (a:Int),.int .i64 (n:Int)] (.int .i64 (bif Nat.beq (ja a n 1).1 1 then(ja a n 1).2 else 0)):=by
 have hl0:=Q2 a n hb hn
 refine pr c0 Tryz.func123 (bX hl0) ?_
 refine oe ((↑(ja a n (1:Int)).fst:Int)==1) (fun d1=>lr [false] (let v1:=ja a n (1:Int);[v1.snd=bif v1.fst.beq (1:Nat)then v1.snd else(0:Int),ty (dN d1),rq (↑a:Int),rq (↑n:Int)]) ⟨?_,(dN d1),?_,(?_:(↑n:Int)=↑n)⟩)
  (fun d1=>lr [true] [(0:Int)=bif(ja a n (1:Int)).fst.beq (1:Nat)then(ja a n (1:Int)).snd else(0:Int),ty (dN d1),rq (↑a:Int),rq (↑n:Int)] ⟨?_,(dN d1),?_,(?_:(↑n:Int)=↑n)⟩)
 all_goals first|(first|exact tr|exact XM d1|exact XN d1)
def my (a n:Nat):Int:=bif Nat.beq (ja a n 1).1 1 then(ja a n 1).2 else 0
def GL:List cq:=[
 ⟨123,[],fun A=>match A with
  |[.int .i64 a,.int .i64 n]=>some (.int .i64 (my a.toNat n.toNat),[0≤a∧a≤2147483647∧0≤n∧n≤2147483647])
  |_=>none⟩,
 ⟨122,[],fun A=>match A with
  |[.int .i64 a,.int .i64 n]=>some (.int .i64 ((a.toNat%n.toNat:Nat):Int),[0≤a∧a≤2147483647∧0<n∧n≤2147483647])
  |_=>none⟩]
theorem Nn:∀e∈GL,cJ Tryz.prog e:=by
 intro e he
 simp only[GL,bC,cU,cY]at he
 rcases he with rfl|rfl
 all_goals
  intro A R ms h hm
  simp only at h
  split at h
  all_goals first|exact kL|skip
  rename_i a n
  cases h
  obtain⟨h1,h2,h3,h4⟩:=hm _ eB
  have e:a=((a.toNat:Nat):Int):=by omega
  have e':n=((n.toNat:Nat):Int):=by omega
  rw[e,e']
  first
   |exact OU a.toNat n.toNat om om
   |exact LH a.toNat n.toNat om om om
def gH (a n:Nat):Int:=my (a%n) n
theorem AA:∀(f a n:Nat)(s:Int),gw s→gw (oH f a n s).2
 |0,a,n,s,h=>h
 |f+1,a,n,s,h=>by
  unfold oH
  cases hb:Nat.beq a 0 with
  |true=>exact h
  |false=>
   have h0:0<a:=kR (jn hb)
   simp only[bt]
   obtain⟨b1,b2,b3,b4⟩:=qf n a s h0 h
   exact AA f _ _ _ (vK b4)
theorem Ul (a n:Nat):IntKind.i64.wrap ((1:Int)*my a n)=my a n:=by
 unfold my
 have h:=AA (a+1) a n 1 (.inl rfl)
 show IntKind.i64.wrap ((1:Int)*(bif Nat.beq (ja a n 1).1 1 then(ja a n 1).2 else 0))=_
 have h:gw (ja a n 1).2:=h
 generalize (ja a n 1).2=s at h
 cases Nat.beq (ja a n 1).1 1 with
 |false=>rfl
 |true=>rcases h with rfl|rfl<;>rfl
theorem MF (a n:Nat):my a n=1∨my a n=-1∨my a n=0:=by
 unfold my
 have h:gw (ja a n 1).2:=AA (a+1) a n 1 (.inl rfl)
 generalize (ja a n 1).2=s at h
 cases Nat.beq (ja a n 1).1 1 with
 |false=>exact .inr (.inr rfl)
 |true=>rcases h with rfl|rfl
        ·exact .inl rfl
        ·exact .inr (.inl rfl)
theorem Un {a n:Nat}(h0:0<n)(hn:n≤2147483647):a%n≤2147483647:=by have:=jI a h0;omega
theorem C7 (a n:Nat)(ha:a≤2147483647)(h0:0<n)(hn:n≤2147483647)(ho:n%2≠0):ax Tryz.prog [] 78 [.int .i64 (a:Int),.int .i64 (n:Int)] (.tup [.int .i64 (gH a n),.int .i64 0]):=by
 have q1:decide ((a:Int)< -2147483647)=false:=bI om
 have q2:decide ((a:Int)>2147483647)=false:=bI om
 have q3:decide ((n:Int)< -2147483647)=false:=bI om
 have q4:decide ((n:Int)>2147483647)=false:=bI om
 have q5:((n:Int)==0)=false:=by cases h:((n:Int)==0)with|false=>rfl|true=>have:=eq_of_beq h;omega
 have q6:decide ((n:Int)<0)=false:=bI om
 have q7:=pH (n:=n) (m:=2) rfl ho
 have hmo:=Un (a:=a) h0 hn
 refine pr (cE Nn) Tryz.func78 aE ?_
 refine lr (tp 2222222) (let y1:=(2147483647:Int);[IntKind.i64.wrap ((1:Int)*my (a%n) n)=gH a n,rq (0:Int),(0:Int)≤↑(a%n)∧(↑(a%n):Int)≤y1∧(0:Int)≤↑n∧(↑n:Int)≤y1,(0:Int)≤↑a∧(↑a:Int)≤y1∧(0:Int)<↑n∧(↑n:Int)≤y1,aa ((↑n:Int).tmod (2:Int)==0) false,(2:Int)≠(0:Int),aa (decide ((↑n:Int)<0)) false,aa ((↑n:Int)==0) false,aa (decide ((↑n:Int)>y1)) false,aa (decide ((↑n:Int)< -2147483647)) false,aa (decide ((↑a:Int)>y1)) false,aa (decide ((↑a:Int)< -2147483647)) false]) ⟨?_,?_,?_,?_,q7,?_,q6,q5,q4,q3,q2,q1⟩
 all_goals first|(first|exact tr|exact Ul _ _|decide|exact⟨om,om,om,om⟩)
noncomputable def F3:List cq:=[
 ⟨78,[],fun A=>match A with
  |[.int .i64 a,.int .i64 n]=>some (.tup [.int .i64 (gH a.toNat n.toNat),.int .i64 0],[0≤a∧a≤2147483647∧0<n∧n≤2147483647∧n.toNat%2≠0])
  |_=>none⟩,
 ⟨23,[],fun A=>match A with
  |[.int .i64 d,.int .i64 p]=>some (.tup [.int .i64 ((vv p.toNat d.toNat).1:Int),.int .i64 ((vv p.toNat d.toNat).2:Int)],[2≤p∧0<d∧d≤2147483647])
  |_=>none⟩]
theorem C8:∀e∈F3,cJ Tryz.prog e:=by
 intro e he
 simp only[F3,bC,cU,cY]at he
 rcases he with rfl|rfl
 all_goals
  intro A R ms h hm
  simp only at h
  split at h
  all_goals first|exact kL|skip
  rename_i a n
  cases h
 ·obtain⟨h1,h2,h3,h4,h5⟩:=hm _ eB
  have e:a=((a.toNat:Nat):Int):=by omega
  have e':n=((n.toNat:Nat):Int):=by omega
  have:=C7 a.toNat n.toNat om om om h5
  rw[←e,←e']at this
  exact this
 ·obtain⟨h1,h2,h3⟩:=hm _ eB
  have e:a=((a.toNat:Nat):Int):=by omega
  have e':n=((n.toNat:Nat):Int):=by omega
  have:=yd a.toNat n.toNat om om om
  rw[←e,←e']at this
  exact this
def dw (d p:Nat):Int:=bif Nat.beq p 2 then gH 2 (vv 2 d).2 else gH (vv p d).2 p
theorem F4 (d:Nat)(h0:0<d)(hb:d≤2147483647):ax Tryz.prog [] 40 [.int .i64 (d:Int),.int .i64 2] (.int .i64 (dw d 2)):=by
 have q2:((2:Int)==2)=true:=rfl
 obtain⟨v1,v2,v3,v4,v5⟩:=rX (p:=2) om d h0 hb
 refine pr (cE C8) Tryz.func40 aE ?_
 refine lr [true] (let y1:=vv (Int.toNat (2:Int)) d;let y2:=(2147483647:Int);[gH (Int.toNat (2:Int)) y1.snd=dw d (2:Nat),(0:Int)≤2∧(2:Int)≤y2∧(0:Int)<↑y1.snd∧(↑y1.snd:Int)≤y2∧y1.snd%(2:Nat)≠(0:Nat),aa ((2:Int)==2) true,(2:Int)≤2∧(0:Int)<↑d∧(↑d:Int)≤y2]) ⟨?_,?_,q2,(?_:(2:Int)≤2∧(0:Int)<↑d∧(↑d:Int)≤2147483647)⟩
 all_goals first|(first|exact tr|rfl|((try simp only[show Int.toNat (2:Int)=2 from rfl]);first|exact⟨om,om,om,om,v3⟩|exact⟨om,om,om⟩))
theorem F5 (d p:Nat)(h0:0<d)(hb:d≤2147483647)(hp:2<p)(hq:p≤2147483647)(ho:p%2≠0):ax Tryz.prog [] 40 [.int .i64 (d:Int),.int .i64 (p:Int)] (.int .i64 (dw d p)):=by
 have q1:((p:Int)==2)=false:=by cases h:((p:Int)==2)with|false=>rfl|true=>have:=eq_of_beq h;omega
 obtain⟨v1,v2,v3,v4,v5⟩:=rX (p:=p) om d h0 hb
 have q2:dw d p=gH (vv p d).2 p:=by unfold dw;rw[show Nat.beq p 2=false by(cases h:Nat.beq p 2 with|false=>rfl|true=>have:=co h;omega)];rfl
 refine pr (cE C8) Tryz.func40 aE ?_
 refine lr [false] (let y1:=(2147483647:Int);[gH (vv p d).snd p=dw d p,(0:Int)≤(↑(vv p d).snd:Int)∧(↑(vv p d).snd:Int)≤y1∧(0:Int)<↑p∧(↑p:Int)≤y1∧p%(2:Nat)≠(0:Nat),aa ((↑p:Int)==2) false,(2:Int)≤↑p∧(0:Int)<↑d∧(↑d:Int)≤y1]) ⟨?_,?_,q1,(?_:(2:Int)≤↑p∧(0:Int)<↑d∧(↑d:Int)≤2147483647)⟩
 all_goals first|(first|exact tr|(rw[q2];done)|exact⟨om,om,om,om,ho⟩|exact⟨om,om,om⟩)
structure uv (n p u e w:Nat):Prop where
 h2:p≠2
 odd:p%2=1
 hp:2≤p∧p≤9973
 hl:ld p=p
 hn:VX p u e n
 he:e≤60
 hw:VX p w e (n%p^(e+1))
 hq:p^(e+1)≤1000000000
 hb:w≤1000000000
 hg:Nat.gcd (p^(e+1)) (w%p^(e+1))=1
theorem xT (n q:Nat)(h:0<q)(hb:q≤1000000000):(w6.wrap ((n:Int).tmod (q:Int)+(q:Int))).tmod (q:Int)=((n%q:Nat):Int):=by
 have e:(n:Int).tmod (q:Int)=((n%q:Nat):Int):=rfl
 have h1:=jI n h
 rw[e,jX om om,←Int.natCast_add]
 show(((n%q+q)%q:Nat):Int)=_
 rw[Nat.add_mod_right,Nat.mod_mod]
noncomputable def Ts (n p u e w:Nat):List cq:=Ac++[
 ⟨16,[],fun A=>some (.bool true,[A=[hR n]])⟩,
 ⟨114,[aL],fun A=>some (.int .i64 ((e+1:Nat):Int),[A=[hR n,.int .i64 (p:Int)]])⟩,
 ⟨113,[],fun A=>match A with
  |[.int .i64 x,.int .i64 k]=>some (.int .i64 ((p^k.toNat:Nat):Int),[x=(p:Int)∧0≤k∧k≤(e+1:Nat)])
  |_=>none⟩,
 ⟨152,[],fun A=>some (.agg [.int .i64 (e:Int),.int .i64 1,.int .i64 (w:Int),.int .i64 0,.int .i64 0],[A=[.int .i64 ((n%p^(e+1):Nat):Int),.int .i64 (p:Int)]])⟩,
 ⟨170,[],fun A=>some (.tup [.int .i64 ((w6.wrap ((iD (p^(e+1)) (w%p^(e+1)) 0 1).tmod ((p^(e+1):Nat):Int)+((p^(e+1):Nat):Int))).tmod ((p^(e+1):Nat):Int)),.bool true],[A=[.int .i64 ((w%p^(e+1):Nat):Int),.int .i64 ((p^(e+1):Nat):Int)]])⟩,
 ⟨78,[],fun A=>some (.tup [.int .i64 (gH (w%p) p),.int .i64 0],[A=[.int .i64 ((w%p:Nat):Int),.int .i64 (p:Int)]])⟩]
theorem Ny {n p u e w:Nat}(h:uv n p u e w):∀e'∈Ts n p u e w,cJ Tryz.prog e':=by
 have hp:=h.hp
 intro e' he
 rcases fX.1 he with he|he
 ·exact iY e' he
 simp only[bC,cU,cY]at he
 rcases he with rfl|rfl|rfl|rfl|rfl|rfl
 ·intro A R ms hh hm
  cases hh
  rw[aA hm]
  exact yc n ⟨h.hn.pos.1,h.hn.le⟩
 ·intro A R ms hh hm
  cases hh
  rw[aA hm]
  exact RE n p u e h.h2 ⟨om,om⟩ h.hl h.hn BY
 ·intro A R ms hh hm
  simp only at hh
  split at hh
  ·rename_i x k
   cases hh
   obtain⟨rfl,h1,h2⟩:=aA hm
   have h3:p^k.toNat≤p^(e+1):=ze7 om om
   have:=Qt p k.toNat om (by have:=h.hq;omega) BY
   rwa[ov h1]at this
  ·cases hh
 ·intro A R ms hh hm
  cases hh
  rw[aA hm]
  exact Qv p w e _ h.hw om BY
 ·intro A R ms hh hm
  cases hh
  rw[aA hm]
  have h0:0<p^(e+1):=Nat.pow_pos om
  exact Fr _ _ h0 ⟨h.hq,cl (Nat.le_of_lt (jI _ h0)) h.hq⟩ h.hg
 ·intro A R ms hh hm
  cases hh
  rw[aA hm]
  have h1:w%p<p:=jI _ om
  exact C7 _ p om om om (by have:=h.odd;omega)
theorem O5 (n p u e w:Nat)(H0:uv n p u e w):ax Tryz.prog [aL] 22 [hR n,.int .i64 (p:Int)] (.tup [.agg [.int .i64 (p:Int),.sl 1 5 (fun _=>[.int .i64 (e:Int),.int .i64 1,.int .i64 (gH (w%p) p),.bool false,.int .i64 0])],.int .i64 0]):=by
 have kp1:decide ((↑p:Int)≥2)=true:=bJ kcx
 have kp2:decide ((↑p:Int)≤2147483647)=true:=bJ kcx
 have kp3:((↑(ld p):Int)==↑p)=true:=by rw[H0.hl];exact ey _
 have kp4:decide ((↑p:Int)>2)=true:=bJ (by have:=H0.hp;have:=H0.h2;omega)
 have kp5:decide ((↑p:Int)≤9973)=true:=bJ kcx
 have kq0:2≤p^(e+1):=cl H0.hp.1 (by have:=(ze7 kcx om:p^1≤p^(e+1));rwa[ie]at this)
 have kq1:decide ((↑(p^(e+1)):Int)<2)=false:=bI om
 have kq2:decide ((↑(p^(e+1)):Int)>2147483647)=false:=bI (by have:=H0.hq;omega)
 have kq4:=xT n (p^(e+1)) om H0.hq
 have kq5:=xT w (p^(e+1)) om H0.hq
 have kq3:((w6.wrap ((↑n:Int).tmod (↑(p^(e+1)):Int)+(↑(p^(e+1)):Int))).tmod (↑(p^(e+1)):Int)==0)=false:=by rw[kq4];exact gP _ H0.hw.pos.1
 have ke1:decide ((↑e:Int)<0)=false:=bI om
 have ke2:decide ((↑e:Int)>60)=false:=bI (by have:=H0.he;omega)
 have kw:((↑w:Int).tmod (↑p:Int)==0)=false:=by
  show(((w%p:Nat):Int)==0)=false
  exact gP _ (kR H0.hw.hu)
 have kro1:w6.wrap ((1:Int)*gH (w%p) p)=gH (w%p) p:=by
  rw[Int.one_mul]
  have:gH (w%p) p=1∨gH (w%p) p=-1∨gH (w%p) p=0:=MF _ _
  exact jX om om
 have rr:=fun(tp:List Bool)(ms:List Prop)h hm=>cx aX (bU aX (eE (Ny H0)) 12) Tryz.func22 (A:=[hR n,.int .i64 (p:Int)]) rfl aE rfl rfl cv (tabs:=[aL]) (R:=.tup [.agg [.int .i64 (p:Int),.sl 1 5 (fun _=>[.int .i64 (e:Int),.int .i64 1,.int .i64 (gH (w%p) p),.bool false,.int .i64 0])],.int .i64 0]) (tp:=tp) (ms:=ms) h hm
 refine(let q1:List Prop→List Prop:=fun l0=>(let v1:=(↑(p^(e+1)):Int);let v2:=v1≠(0:Int);let v3:=aa ((0:Int)!=(0:Int)) false;let v4:=(2147483647:Int);rq (↑p:Int)::rq (↑e:Int)::(w6.wrap ((0:Int)+1)=1)::(w6.wrap ((1:Int)*gH (w%p) p)=gH (w%p) p)::(false=false)::rq (0:Int)::rq (0:Int)::([RV.int IntKind.i64 ((↑w:Int).tmod (↑p:Int)),RV.int IntKind.i64 (↑p:Int)]=[RV.int IntKind.i64 (↑(w%p):Int),RV.int IntKind.i64 (↑p:Int)])::((↑p:Int)≠(0:Int))::(aa ((↑w:Int).tmod (↑p:Int)==0) false)::((↑p:Int)≠(0:Int))::v3::v3::(aa (decide ((↑e:Int)>60)) false)::(aa (decide ((↑e:Int)<0)) false)::(aa ((1:Int)!=(1:Int)) false)::(aa (!(↑(ld p):Int)==↑p) false)::((2:Int)≤↑p∧(↑p:Int)≤v4)::(aa (decide ((↑p:Int)≤v4)) true)::(aa (decide ((↑p:Int)≥2)) true)::(aa (decide ((↑p:Int)≤9973)) true)::(aa (decide ((↑p:Int)>2)) true)::v2::v2::(aa (!true) false)::([RV.int IntKind.i64 ((w6.wrap ((↑w:Int).tmod v1+v1)).tmod v1),RV.int IntKind.i64 v1]=[RV.int IntKind.i64 (↑(w%p^(e+1)):Int),RV.int IntKind.i64 v1])::v2::v2::(aa (decide (v1>v4)) false)::(aa (decide (v1<2)) false)::((↑p:Int)=↑p∧(0:Int)≤↑e∧(↑e:Int)≤↑(e+1))::([RV.int IntKind.i64 ((w6.wrap ((↑n:Int).tmod v1+v1)).tmod v1),RV.int IntKind.i64 (↑p:Int)]=[RV.int IntKind.i64 (↑(n%p^(e+1)):Int),RV.int IntKind.i64 (↑p:Int)])::l0);let y1:List Prop:=(let v1:=(↑(p^(e+1)):Int);let v2:=(↑(1:Nat):Int);let v3:=(↑(e+1):Int);let v4:=w6.wrap ((↑n:Int).tmod v1+v1);let v5:=(2147483647:Int);let v6:=[RV.int IntKind.i64 (↑n:Int)];[[RV.int IntKind.i64 (v4.tmod v1),RV.int IntKind.i64 (↑p:Int)]=[RV.int IntKind.i64 (↑(n%p^(e+1)):Int),RV.int IntKind.i64 (↑p:Int)],aa (v4.tmod v1==0) false,v1≠(0:Int),v1≠(0:Int),(0:Int)≤0∧(0:Int)<v2,(0:Int)≤0∧(0:Int)<v2,aa (decide (v1>v5)) false,aa (decide (v1<2)) false,(0:Int)≤0∧(0:Int)<v2,(0:Int)≤0∧(0:Int)<v2,(0:Int)≤0∧(0:Int)<v2,(0:Int)≤0∧(0:Int)<v2,(↑p:Int)=↑p∧(0:Int)≤v3∧v3≤v3,rq ([RV.sl (1:Nat) (1:Nat) fun x=>[RV.sl (1:Nat) (1:Nat) fun(x:Nat)=>v6],RV.int IntKind.i64 (↑p:Int)]),aa (!(↑(ld p):Int)==↑p) false,(2:Int)≤↑p∧(↑p:Int)≤v5,aa (decide ((↑p:Int)≤v5)) true,aa (decide ((↑p:Int)≥2)) true,aa (decide ((↑p:Int)≤9973)) true,aa (decide ((↑p:Int)>2)) true,aa (!true) false,rq ([RV.sl (1:Nat) (1:Nat) fun x=>[RV.sl (1:Nat) (1:Nat) fun(x:Nat)=>v6]])]);have u1:ar y1:=⟨?_,kq3,?_,?_,?_,?_,kq2,kq1,?_,?_,?_,?_,?_,?_,(dN kp3),?_,kp2,kp1,kp5,kp4,(dN rfl),(?_:[RV.sl (1:Nat) (1:Nat) fun x=>[RV.sl (1:Nat) (1:Nat) fun(x:Nat)=>[RV.int IntKind.i64 (↑n:Int)]]]=[RV.sl (1:Nat) (1:Nat) fun x=>[RV.sl (1:Nat) (1:Nat) fun(x:Nat)=>[RV.int IntKind.i64 (↑n:Int)]]])⟩;oe ((↑e:Int)==0) (fun d1=>rr (tp 211112222122211112222222) (q1 (ty d1::y1)) kr ⟨?_,?_,?_,?_,?_,?_,?_,?_,?_,kw,?_,(dN rfl),(dN rfl),ke2,ke1,(dN rfl),(dN kp3),?_,kp2,kp1,kp5,kp4,?_,?_,(dN rfl),?_,?_,?_,kq2,kq1,?_,?_,d1,u1⟩)
  (fun d1=>rr (tp 211112222222211112222222) (q1 (ty d1::y1)) kr ⟨?_,?_,?_,?_,?_,?_,?_,?_,?_,kw,?_,(dN rfl),(dN rfl),ke2,ke1,(dN rfl),(dN kp3),?_,kp2,kp1,kp5,kp4,?_,?_,(dN rfl),?_,?_,?_,kq2,kq1,?_,?_,d1,u1⟩))
 all_goals first|(first|exact tr|(rw[kq4])|(rw[kq5])|exact kro1|decide|omega|exact⟨rfl,om,om⟩|(have:=H0.hp;omega)|(have:=H0.hp;exact⟨om,om⟩)|rfl)
def hI (k:Int):RV:=.sl 1 1 (fun _=>[.sl 1 1 (fun _=>[.int .i64 k])])
theorem NN (n q:Nat)(hq:2≤q∧q≤1000000000):ax Tryz.prog [] 105 [hR n,.int .i64 (q:Int)] (.tup [hR (n%q),.int .i64 0]):=by
 have k1:decide ((↑q:Int)<2)=false:=bI om
 have k2:decide ((↑q:Int)>2147483647)=false:=bI om
 have k3:=xT n q om om
 have rr:=fun(tp:List Bool)(ms:List Prop)h hm=>cx aX (bU aX (cm _ _) 8) Tryz.func105 (A:=[hR n,.int .i64 (q:Int)]) rfl aE rfl rfl cv (tabs:=[]) (R:=.tup [hR (n%q),.int .i64 0]) (tp:=tp) (ms:=ms) h hm
 refine rr [false,false] (let v1:=(↑(1:Nat):Int);[(w6.wrap ((↑n:Int).tmod (↑q:Int)+↑q)).tmod (↑q:Int)=↑(n%q),rq (0:Int),(↑q:Int)≠(0:Int),(↑q:Int)≠(0:Int),(0:Int)≤0∧(0:Int)<v1,(0:Int)≤0∧(0:Int)<v1,aa (decide ((↑q:Int)>2147483647)) false,aa (decide ((↑q:Int)<2)) false,(0:Int)≤0∧(0:Int)<v1,(0:Int)≤0∧(0:Int)<v1,(0:Int)≤0∧(0:Int)<v1,(0:Int)≤0∧(0:Int)<v1]) kr ⟨?_,?_,?_,?_,?_,?_,k2,k1,?_,?_,?_,(?_:(0:Int)≤0∧(0:Int)<↑(1:Nat))⟩
 all_goals first|(first|exact tr|exact k3|omega|decide)
def wY (q w:Nat):Int:=(w6.wrap ((1:Int)*(w6.wrap ((iD q (w%q) 0 1).tmod (q:Int)+(q:Int))).tmod (q:Int))).tmod (q:Int)
def FS (q w:Nat):List cq:=[⟨170,[],fun A=>some (.tup [.int .i64 ((w6.wrap ((iD q (w%q) 0 1).tmod (q:Int)+(q:Int))).tmod (q:Int)),.bool true],[A=[.int .i64 ((w%q:Nat):Int),.int .i64 (q:Int)]])⟩]
theorem Mq {q w:Nat}(hq:2≤q∧q≤1000000000)(hg:Nat.gcd q (w%q)=1):∀e∈FS q w,cJ Tryz.prog e:=by
 intro e he
 simp only[FS,bC,cU,cY]at he
 subst he
 intro A R ms hh hm
 cases hh
 rw[aA hm]
 have h0:0<q:=by omega
 exact Fr _ _ h0 ⟨hq.2,cl (Nat.le_of_lt (jI _ h0)) hq.2⟩ hg
theorem NO (w q:Nat)(hq:2≤q∧q≤1000000000)(hg:Nat.gcd q (w%q)=1):ax Tryz.prog [] 153 [hR w,.int .i64 (q:Int)] (.tup [hI (wY q w),.int .i64 0]):=by
 have k1:decide ((↑q:Int)<2)=false:=bI om
 have k2:decide ((↑q:Int)>2147483647)=false:=bI om
 have k3:=xT w q om om
 have rr:=fun(tp:List Bool)(ms:List Prop)h hm=>cx aX (bU aX (eE (Mq hq hg)) 12) Tryz.func153 (A:=[hR w,.int .i64 (q:Int)]) rfl aE rfl rfl cv (tabs:=[]) (R:=.tup [hI (wY q w),.int .i64 0]) (tp:=tp) (ms:=ms) h hm
 refine rr (tp 222) (let v1:=(↑(1:Nat):Int);[(w6.wrap ((1:Int)*(w6.wrap ((iD q (w%q) (0:Int) (1:Int)).tmod (↑q:Int)+↑q)).tmod (↑q:Int))).tmod (↑q:Int)=wY q w,rq (0:Int),(↑q:Int)≠(0:Int),(↑q:Int)≠(0:Int),aa (!true) false,[RV.int IntKind.i64 ((w6.wrap ((↑w:Int).tmod (↑q:Int)+↑q)).tmod (↑q:Int)),RV.int IntKind.i64 (↑q:Int)]=[RV.int IntKind.i64 (↑(w%q):Int),RV.int IntKind.i64 (↑q:Int)],(↑q:Int)≠(0:Int),(↑q:Int)≠(0:Int),(0:Int)≤0∧(0:Int)<v1,(0:Int)≤0∧(0:Int)<v1,aa (decide ((↑q:Int)>2147483647)) false,aa (decide ((↑q:Int)<2)) false,(0:Int)≤0∧(0:Int)<v1,(0:Int)≤0∧(0:Int)<v1,(0:Int)≤0∧(0:Int)<v1,(0:Int)≤0∧(0:Int)<v1,(0:Int)≤0∧(0:Int)<v1]) kr ⟨?_,?_,?_,?_,(dN rfl),?_,?_,?_,?_,?_,k2,k1,?_,?_,?_,?_,(?_:(0:Int)≤0∧(0:Int)<↑(1:Nat))⟩
 all_goals first|(first|exact tr|(rw[k3])|omega|decide|rfl)
def A1 (gs:List Nat)(call:bq):bq:=fun f args H=>match call f args H with
 |none=>none
 |some (v,H')=>some (bif gs.any (Nat.beq f)then clr v else v,H')
theorem Pm {P:Program}{ng:Nat}{gs:List Nat}{call:bq}(hc:bV P ng call):bV P ng (A1 gs call):=by
 intro f args H v H' hq
 unfold A1 at hq
 split at hq
 ·cases hq
 ·rename_i u H1 h1
  cases hq
  obtain⟨k1,k2⟩:=hc f args H u H' h1
  refine⟨k1,fun hm γ w Args hr hV hg=>?_⟩
  obtain⟨q1,q2⟩:=k2 hm γ w Args hr hV hg
  refine⟨q1,q2.mono ?_⟩
  rintro e w' ⟨V,γ',rfl,a1,a2⟩
  refine⟨V,γ',rfl,?_,a2⟩
  cases gs.any (Nat.beq f)with
  |true=>exact a1.clr
  |false=>exact a1
def iK (a b:RV):Prop:=∀F V,bZ F a V→bZ F b V
def nL (A B:List RV):Prop:=∀F Vs,bY F A Vs→bY F B Vs
theorem iK.same {a:RV}:iK a a:=fun _ _ h=>h
theorem nL.nil:nL [] []:=fun _ _ h=>h
theorem nL.cons {a b:RV}{A B:List RV}(h:iK a b)(t:nL A B):nL (a::A) (b::B):=fun F Vs k=>by
 cases k with
 |cons k1 k2=>exact .cons (h _ _ k1) (t _ _ k2)
theorem iK.agg {A B:List RV}(h:nL A B):iK (.agg A) (.agg B):=fun F V k=>by
 cases k with
 |agg k=>exact .agg (h _ _ k)
theorem iK.con {n:Nat}{row:Nat→List RV}(h:∀i,i<n→row i=(Con.ofR (row i)).rvs):iK (.sl n 5 row) (bg (aF n row)):=fun F V k=>Si h k
theorem p8 (k:IntKind)(l:List Int):dQ l.length (fun i=>[.int k (l.getD i 0)])=l:=by
 apply rG
 ·simp[dQ]
 ·intro i h1 h2
  simp[dQ,gN,h2]
theorem iK.ints {n:Nat}{row:Nat→List RV}(h:∀i,i<n→row i=[.int .i64 (gN (row i))]):iK (.sl n 1 row) (rI .i64 (dQ n row)):=fun F V k=>by
 unfold rI
 have hn:(dQ n row).length=n:=by simp[dQ]
 rw[hn]
 refine k.rows (fun i hi=>?_)
 rw[h i hi]
 simp[dQ,hi]
theorem ax.imp {P:Program}{tabs:List Tb}{f:Nat}{A A':List RV}{R:RV}(h:ax P tabs f A' R)(ha:nL A A'):ax P tabs f A R:=h.args ha
theorem pU {n:Nat}{row:Nat→List RV}:(aF n row).length=n:=by simp[aF]
theorem uH {n:Nat}{row:Nat→List RV}:(dQ n row).length=n:=by simp[dQ]
def lC (c:Con):Prop:=(0≤c.exp∧c.exp≤1000)∧(1≤c.dim∧c.dim≤1000)∧(c.sign=1∨c.sign=-1)∧(0≤c.oddity∧c.oddity≤7)
def bm (L:List Con):Prop:=L.length≤1000∧∀c∈L,lC c
def ia (L:List Con):Prop:=L.length≤1000∧∀c∈L,0≤c.exp∧c.exp≤1000
theorem bm.e {L:List Con}(h:bm L):ia L:=⟨h.1,fun c hc=>(h.2 c hc).1⟩
theorem bm.at {L:List Con}(h:bm L){k:Nat}(hk:k<L.length):lC (at_ L k):=by
 have:at_ L k=L[k]:=by simp[at_,hk]
 rw[this];exact h.2 _ (jF hk)
theorem ia.at {L:List Con}(h:ia L){k:Nat}(hk:k<L.length):0≤(at_ L k).exp∧(at_ L k).exp≤1000:=by
 have:at_ L k=L[k]:=by simp[at_,hk]
 rw[this];exact h.2 _ (jF hk)
theorem ia.at' {L:List Con}(h:ia L)(k:Nat):0≤(at_ L k).exp∧(at_ L k).exp≤1000:=by
 rcases bA k L.length with hk|hk
 ·exact h.at hk
 ·have:at_ L k=Con.zero:=by simp[at_,hk]
  rw[this];decide
theorem bm.set {L:List Con}(h:bm L){c:Con}(hc:lC c)(k:Nat):bm (L.set k c):=by
 refine⟨by simpa using h.1,fun x hx=>?_⟩
 rcases List.mem_or_eq_of_mem_set hx with h1|h1
 ·exact h.2 x h1
 ·rw[h1];exact hc
theorem Gh {L:List Con}{k i:Nat}{c:Con}:at_ (L.set k c) i=if k=i∧i<L.length then c else at_ L i:=by
 simp only[at_,ev,List.getElem?_set]
 by_cases h1:k=i
 ·subst h1
  by_cases h2:k<L.length
  ·simp[h2]
  ·simp[h2]
 ·simp[h1]
abbrev mb:=List (List Int)×Option (List Int)
def dV:mb→List (List Int)
 |(F,none)=>F
 |(F,some l)=>F++[l]
def gM (b j:Bool)(k:Nat)(a:mb):mb:=bif b then(match a.2 with
 |none=>(a.1,some [(k:Int)])
 |some l=>bif j then(a.1,some (l++[(k:Int)]))else(a.1++[l],some [(k:Int)]))else a
def iL (b j:Nat→Bool):Nat→mb
 |0=>([],none)
 |k+1=>gM (b k) (j k) k (iL b j k)
def cI (n:Nat)(l:List Int):Prop:=∀x∈l,0≤x∧x<(n:Int)
theorem cI.at {n:Nat}{l:List Int}(h:cI n l){t:Nat}(ht:t<l.length):0≤l.getD t 0∧l.getD t 0<(n:Int):=by
 have:l.getD t 0=l[t]:=by simp[ht]
 rw[this];exact h _ (jF ht)
theorem cI.mono {n m:Nat}{l:List Int}(h:cI n l)(hm:n≤m):cI m l:=fun x hx=>⟨(h x hx).1,by have:=(h x hx).2;omega⟩
structure AD (b:Nat→Bool)(k:Nat)(a:mb):Prop where
 none:a.2=none→a.1=[]∧∀i,i<k→b i=false
 rows:∀l∈dV a,l≠[]∧cI k l∧l.length≤k
 len:(dV a).length≤k
theorem mG (b j:Nat→Bool):∀k,AD b k (iL b j k)
 |0=>⟨fun _=>⟨rfl,fun i hi=>om⟩,fun l hl=>by simp[iL,dV]at hl,by simp[iL,dV]⟩
 |k+1=>by
  have ih:=mG b j k
  have e:iL b j (k+1)=gM (b k) (j k) k (iL b j k):=rfl
  rw[e]
  generalize iL b j k=a at ih
  obtain⟨F,o⟩:=a
  obtain⟨h1,h2,h3⟩:=ih
  have new:([(k:Int)]:List Int)≠[]∧cI (k+1) [(k:Int)]∧([(k:Int)]:List Int).length≤k+1:=⟨si,fun x hx=>by rw[fJ.1 hx];omega,si⟩
  cases hb:b k with
  |false=>
   simp only[gM,bt]
   refine⟨fun h=>⟨(h1 h).1,fun i hi=>?_⟩,fun l hl=>⟨(h2 l hl).1,(h2 l hl).2.1.mono om,by have:=(h2 l hl).2.2;omega⟩,om⟩
   rcases bA i k with h'|h'
   ·exact(h1 h).2 i h'
   ·have:i=k:=by omega
    subst this;exact hb
  |true=>
   cases o with
   |none=>
    simp only[gM,aU]
    have hF:F=[]:=(h1 rfl).1
    refine⟨fun h=>(by cases h),fun l hl=>?_,?_⟩
    ·rw[hF]at hl
     simp only[dV,pQ,fJ]at hl
     subst hl;exact new
    ·rw[hF];simp[dV]
   |some l0=>
    have h0:=h2 l0 (by simp[dV])
    cases hj:j k with
    |true=>
     simp only[gM,aU]
     refine⟨fun h=>(by cases h),fun l hl=>?_,by simp only[dV,fV,dg,ic]at h3⊢;omega⟩
     simp only[dV,fX,fJ]at hl
     rcases hl with hl|hl
     ·have:=h2 l (by simp[dV,hl])
      exact⟨this.1,this.2.1.mono om,by have:=this.2.2;omega⟩
     ·subst hl
      refine⟨si,fun x hx=>?_,by have:=h0.2.2;simp;omega⟩
      rcases fX.1 hx with hx|hx
      ·have:=h0.2.1 x hx;omega
      ·rw[fJ.1 hx];omega
    |false=>
     simp only[gM,aU,bt]
     refine⟨fun h=>(by cases h),fun l hl=>?_,by simp only[dV,fV,dg,ic]at h3⊢;omega⟩
     simp only[dV,fX,fJ]at hl
     rcases hl with(hl|hl)|hl
     ·have:=h2 l (by simp[dV,hl])
      exact⟨this.1,this.2.1.mono om,by have:=this.2.2;omega⟩
     ·subst hl;exact⟨h0.1,h0.2.1.mono om,by have:=h0.2.2;omega⟩
     ·subst hl;exact new
def fP (L:List Con)(k:Nat):Bool:=(at_ L k).odd
def eV (L:List Con)(k:Nat):Bool:=decide (0<k)&&((at_ L (k-1)).odd&&decide ((at_ L (k-1)).exp=(at_ L k).exp-1))
def gJ (L:List Con)(k:Nat):mb:=iL (fP L) (eV L) k
def bc (L:List Con):List (List Int):=dV (gJ L L.length)
theorem kX {L:List Con}:∀l∈bc L,l≠[]∧cI L.length l∧l.length≤L.length:=(mG (fP L) (eV L) L.length).rows
theorem rR {L:List Con}:(bc L).length≤L.length:=(mG (fP L) (eV L) L.length).len
abbrev ah (P:List (List Int))(t:Nat):List Int:=P.getD t []
theorem iX {P:List (List Int)}{t:Nat}(ht:t<P.length):ah P t∈P:=by
 have:ah P t=P[t]:=by simp[ah,ht]
 rw[this];exact jF ht
theorem ns {P:List (List Int)}{t:Nat}(ht:t<P.length):P.drop t=ah P t::P.drop (t+1):=by
 rw[pL ht];simp[ah,ht]
theorem oY {l:List Int}{t:Nat}(ht:t<l.length):l.drop t=l.getD t 0::l.drop (t+1):=by
 rw[pL ht];simp[ht]
theorem uR {l:List Int}{t:Nat}(ht:t<l.length):l.take (t+1)=l.take t++[l.getD t 0]:=by
 rw[uk ht];simp[ht]
def f8 (i:Int):List Int→Bool
 |[]=>false
 |x::l=>(x==i)||f8 i l
def gx (i:Int):List (List Int)→List Int
 |[]=>[]
 |l::P=>bif f8 i l then l else gx i P
theorem Di {i:Int}:∀{P:List (List Int)},gx i P=[]∨gx i P∈P
 |[]=>.inl rfl
 |l::P=>by
  simp only[gx]
  cases f8 i l with
  |true=>exact .inr si
  |false=>
   rcases Di (i:=i) (P:=P)with h|h
   ·exact .inl h
   ·exact .inr (by simp[h])
def nR (i:Int):List (List Int)→Bool
 |[]=>false
 |l::P=>f8 i l||nR i P
theorem CD {i:Int}:∀{P:List (List Int)},nR i P=false→gx i P=[]
 |[],_=>rfl
 |l::P,h=>by
  simp only[nR,Bool.or_eq_false_iff]at h
  simp only[gx,h.1,bt]
  exact CD h.2
def dP (L:List Con)(i:Int):List Int:=gx i (bc L)
theorem Oi {L:List Con}{i:Int}:cI L.length (dP L i)∧(dP L i).length≤L.length:=by
 unfold dP
 rcases Di (i:=i) (P:=bc L)with h|h
 ·rw[h];exact⟨fun x hx=>by simp at hx,si⟩
 ·exact(kX _ h).2
def iM (L:List Con):List Int→Int
 |[]=>0
 |i::l=>(at_ L i.toNat).oddity+iM L l
def ky (L:List Con)(l:List Int):Int:=iM L l%8
def kz (L:List Con)(l:List Int):Bool:=decide (l.length=2)&&((at_ L (l.getD 0 0).toNat).dim==1&&((at_ L (l.getD 1 0).toNat).dim==1&&(ky L l%4==0)))
def jv (L:List Con)(k:Nat):Bool:=
 bif(at_ L k).exp-(at_ L (k-1)).exp==1 then((at_ L (k-1)).odd !=(at_ L k).odd)||((at_ L (k-1)).odd&&!kz L (dP L k))
 else bif(at_ L k).exp-(at_ L (k-1)).exp==2 then(at_ L (k-1)).odd&&(at_ L k).odd else false
def du (L:List Con)(i t:Int):List Con:=L.set i.toNat {at_ L i.toNat with oddity:=t}
def dz (L:List Con):List Int→List Con
 |[]=>L
 |i::l=>dz (du L i 0) l
def pj (L0:List Con)(L:List Con)(l:List Int):List Con:=du (dz L l) (l.getD 0 0) (ky L0 l)
def qF (L0:List Con):List Con→List (List Int)→List Con
 |L,[]=>L
 |L,l::P=>qF L0 (pj L0 L l) P
def qG (L:List Con):List Con:=qF L L (bc L)
theorem ki {L:List Con}{i t:Int}:(du L i t).length=L.length:=by simp[du]
theorem oS:∀{l:List Int}{L:List Con},(dz L l).length=L.length
 |[],_=>rfl
 |i::l,L=>by simp only[dz];rw[oS,ki]
theorem MS {L0 L:List Con}{l:List Int}:(pj L0 L l).length=L.length:=by unfold pj;rw[ki,oS]
theorem Dj {L0:List Con}:∀{P:List (List Int)}{L:List Con},(qF L0 L P).length=L.length
 |[],_=>rfl
 |l::P,L=>by simp only[qF];rw[Dj,MS]
theorem Dl {L:List Con}:(qG L).length=L.length:=Dj
theorem ve {L:List Con}(h:bm L){i t:Int}(hi:0≤i∧i<(L.length:Int))(ht:0≤t∧t≤7):bm (du L i t):=by
 have:=h.at (k:=i.toNat) om
 exact h.set (show lC {at_ L i.toNat with oddity:=t}from⟨this.1,this.2.1,this.2.2.1,ht⟩) _
theorem yK:∀{l:List Int}{L:List Con},bm L→cI L.length l→bm (dz L l)
 |[],_,h,_=>h
 |i::l,L,h,hl=>by
  simp only[dz]
  refine yK (ve h (hl i si) de) ?_
  rw[ki]
  exact fun x hx=>hl x (by simp[hx])
def qH (L:List Con)(i:Nat):List Con:=L.set i {at_ L i with sign:=-(at_ L i).sign}
def tx (L:List Con)(i:Int):List Con:=du L i (((at_ L i.toNat).oddity+4)%8)
def vW (L:List Con)(i:Nat):List Con:=
 let p:=dP L ((i:Int)-1)
 let q:=dP L i
 let L1:=qH (qH L i) (i-1)
 let L2:=bif decide (0<p.length)then tx L1 (p.getD 0 0)else L1
 bif decide (0<q.length)&&((p.length==0)||!(p.getD 0 0==q.getD 0 0))then tx L2 (q.getD 0 0)else L2
noncomputable def lK (L:List Con):List (List Int):=(gJ L L.length).1
noncomputable def kY (L:List Con):List Int:=(gJ L L.length).2.getD []
def ks (L:List Con)(i:Nat×List (List Int)×Option (List Int)):Prop:=i.1≤L.length∧gJ L i.1=i.2
theorem yh {L:List Con}{i:Nat×List (List Int)×Option (List Int)}(h:ks L i):AD (fP L) i.1 i.2:=by rw[←h.2];exact mG _ _ _
theorem Ms {L:List Con}{k:Nat}{a:mb}(h:ks L (k,a))(hk:k<L.length)(ho:(at_ L k).odd=false):ks L (k+1,a):=by
 refine⟨hk,?_⟩
 show gM (fP L k) (eV L k) k (gJ L k)=a
 rw[h.2,show fP L k=false from ho];rfl
theorem x6 {L:List Con}{k:Nat}{F:List (List Int)}{l:List Int}(h:ks L (k,F,some l))(hk:k<L.length)(ho:(at_ L k).odd=true)(hj:eV L k=false):ks L (k+1,F++[l],some [(k:Int)]):=by
 refine⟨hk,?_⟩
 show gM (fP L k) (eV L k) k (gJ L k)=_
 rw[h.2,show fP L k=true from ho,hj];rfl
theorem L6 {L:List Con}{k:Nat}{F:List (List Int)}{l:List Int}(h:ks L (k,F,some l))(hk:k<L.length)(ho:(at_ L k).odd=true)(hj:eV L k=true):ks L (k+1,F,some (l++[(k:Int)])):=by
 refine⟨hk,?_⟩
 show gM (fP L k) (eV L k) k (gJ L k)=_
 rw[h.2,show fP L k=true from ho,hj];rfl
theorem L7 {L:List Con}{k:Nat}{F:List (List Int)}(h:ks L (k,F,none))(hk:k<L.length)(ho:(at_ L k).odd=true):ks L (k+1,[],some [(k:Int)]):=by
 have hF:F=[]:=((yh h).none rfl).1
 subst hF
 refine⟨hk,?_⟩
 show gM (fP L k) (eV L k) k (gJ L k)=_
 rw[h.2,show fP L k=true from ho];rfl
theorem Cy {L:List Con}{k:Nat}{a:mb}(h:ks L (k,a))(hk:L.length≤k):gJ L L.length=a:=by
 have h1:k≤L.length:=h.1
 have:k=L.length:=by omega
 subst this;exact h.2
theorem uA {L:List Con}{k:Nat}{F:List (List Int)}{l:List Int}(h:ks L (k,F,some l))(hk:L.length≤k):lK L=F∧kY L=l:=by
 have:=Cy h hk
 unfold lK kY
 rw[this]
 exact⟨rfl,rfl⟩
theorem Po {L:List Con}{k:Nat}(h1:0<k)(h2:(at_ L (k-1)).odd=true)(h3:(at_ L (k-1)).exp=(at_ L k).exp-1):eV L k=true:=by
 unfold eV;rw[h2,h3];simp[h1]
theorem Pp {L:List Con}{k:Nat}(h1:¬0<k):eV L k=false:=by unfold eV;simp[h1]
theorem Pq {L:List Con}{k:Nat}(h1:(at_ L (k-1)).odd=false):eV L k=false:=by unfold eV;rw[h1];simp
theorem Pr {L:List Con}{k:Nat}(h1:¬(at_ L (k-1)).exp=(at_ L k).exp-1):eV L k=false:=by unfold eV;simp only[h1,decide_false,mt9]
theorem Mt {L:List Con}(h:(gJ L L.length).2.isNone=true):bc L=[]:=by
 have h1:=mG (fP L) (eV L) L.length
 have h2:(gJ L L.length).2=none:=by simpa using h
 have h3:=h1.none h2
 unfold bc
 generalize hp:gJ L L.length=a at h2
 obtain⟨F,o⟩:=a
 have h2:o=none:=h2
 subst h2
 have h4:(gJ L L.length).1=[]:=h3.1
 rw[hp]at h4
 exact h4
theorem L8 {L:List Con}(h:(gJ L L.length).2.isNone=false):bc L=lK L++[kY L]:=by
 unfold bc lK kY
 generalize gJ L L.length=a at h
 obtain⟨F,o⟩:=a
 cases o with
 |none=>cases h
 |some l=>rfl
theorem TT {L:List Con}{l:List Int}{t:Nat}(hL:bm L)(hl:cI L.length l)(ht:t<l.length):0≤(at_ L (l.getD t 0).toNat).oddity∧(at_ L (l.getD t 0).toNat).oddity≤7:=by
 have h1:=hl.at ht
 exact(hL.at (k:=(l.getD t 0).toNat) om).2.2.2
def B5 (p:Int)(L:LC):List (Nat×ag):=[(1000,⟨.plain [vi p,(bg L).av],50,0,false,true⟩),(1001,⟨.plain [.fn 124 [.ptr 1000 0],.fn 125 [.ptr 1000 0]],177,0,false,true⟩)]
def HL (p:Int)(L:LC):aO:=⟨⟨[(3,.ptr 1001 0),(5,.nils),(8,vi L.length),(9,.int .i64 0)],B5 p L,1002⟩,some (gJ L L.length).2.isNone,fun d=>match d with
 |true=>(.exit 0,⟨[(5,.nils)],[],1010⟩)
 |false=>(.exit 0,⟨[(5,.lo 1003 ((lK L).length+1))],[(1003,⟨.rows .i64 (lK L) 1004 (kY L).length,78,1,true,true⟩),(1004,⟨.ints .i64 (kY L),3,1,true,true⟩)],1010⟩)⟩
def Yo (p:Int)(L:LC):Nat×List (List Int)×Option (List Int)→St
 |(k,_,none)=>⟨[(3,.ptr 1001 0),(5,.nils),(8,vi L.length),(9,vi k)],B5 p L,1010⟩
 |(k,F,some l)=>⟨[(3,.ptr 1001 0),(5,.lo 1003 (F.length+1)),(8,vi L.length),(9,vi k)],B5 p L++[(1003,⟨.rows .i64 F 1004 l.length,78,1,true,true⟩),(1004,⟨.ints .i64 l,3,1,true,true⟩)],1010⟩
theorem Ow {L:LC}{k:Nat}(h1:0<k)(h2:(at_ L (k-1)).odd=true)(h3:(at_ L k).exp=(at_ L (k-1)).exp+1):eV L k=true:=Po h1 h2 om
theorem Ox {L:LC}{k:Nat}(h1:¬(at_ L k).exp=(at_ L (k-1)).exp+1):eV L k=false:=Pr om
theorem P7 (p:Int)(L:LC)(hL:ia L):An 2 Tryz.f118 [0,1,0,1,1] (HL p L):=by
 refine iB c0 aE (Yo p L) (fun i=>L.length-i.1) (fun d i=>ks L i∧d=(gJ L L.length).2.isNone) ?_ ?_
 ·intro d hd
  exact st (0,[],none) [rq (↑L.length:Int),(0:Int)=↑(0:Nat),p=p,lq L] Ke (by exact⟨⟨bQ _,rfl⟩,hd.symm⟩)
 ·rintro d hd ⟨k,F,o⟩ hI
  obtain⟨hI,hD⟩:=hI
  have hG:=yh hI
  have hk:k≤L.length:=hI.1
  have hl:=hL.1
  have ek:=wk k
  have em:w6.wrap ((k:Int)-1)=(k:Int)-1:=wo
  have et:((k:Int)-1).toNat=k-1:=by omega
  have ew:w6.wrap ((at_ L (k-1)).exp+1)=(at_ L (k-1)).exp+1:=by have:=hL.at' (k-1);exact wo
  have hFk:F.length≤k:=by have:=hG.len;cases o<;>simp[dV]at this<;>omega
  have eF:w6.wrap (((F.length+1:Nat):Int)-1)=(F.length:Int):=by rw[wo];omega
  rcases o with _|l
  rotate_right
  refine(let q1:List Prop→List Prop:=fun l0=>(F.length+1+1=(F++[l]).length+1)::rq (↑L.length:Int)::(w6.wrap ((↑k:Int)+1)=↑(k+1))::(p=p)::(lq L)::(F++[l]=F++[l]∧(1:Nat)=[(↑k:Int)].length)::rq ([(↑k:Int)])::(F.length+1+1≤1000000)::(F.length+1=F.length+1∧l.length=l.length)::l0;let q2:List Prop→List Prop:=fun l0=>rq (F.length+1)::rq (↑L.length:Int)::(w6.wrap ((↑k:Int)+1)=↑(k+1))::(p=p)::(lq L)::l0;oe (decide ((↑k:Int)<↑L.length)) (fun d1=>let y1:List Prop:=[(0:Int)≤↑k∧(↑k:Int)<↑L.length,ty d1];have u1:ar y1:=⟨?_,d1⟩;oe ((L.getD k Con.zero).odd) (fun d2=>oe (decide ((↑k:Int)>0)) (fun d3=>let y2:List Prop:=((0:Int)≤w6.wrap ((↑k:Int)-1)∧w6.wrap ((↑k:Int)-1)<↑L.length)::ty d3::ty (dN d2)::y1;have u2:ar y2:=⟨?_,d3,(dN d2),u1⟩;oe ((L.getD (w6.wrap ((↑k:Int)-1)).toNat Con.zero).odd) (fun d4=>let y3:List Prop:=((0:Int)≤w6.wrap ((↑k:Int)-1)∧w6.wrap ((↑k:Int)-1)<↑L.length)::((0:Int)≤↑k∧(↑k:Int)<↑L.length)::ty d4::y2;have u3:ar y3:=⟨?_,?_,d4,u2⟩;oe ((L.getD k Con.zero).exp==w6.wrap ((L.getD (w6.wrap ((↑k:Int)-1)).toNat Con.zero).exp+1)) (fun d5=>aH (tp 12111) (k+1,F,some (l++[(k:Int)])) (q2 (let v1:=(↑(F.length+1):Int)-1;let v2:=(0:Int)≤w6.wrap v1∧w6.wrap v1<↑(F.length+1);let v3:=(w6.wrap v1).toNat=F.length;(F=F∧l.length+1=(l++[(↑k:Int)]).length)::rq (l++[(↑k:Int)])::v3::v2::((b6.ints IntKind.i64 l).num=l.length∧l.length+1≤1000000)::v3::v2::ty d5::y3)) ?_ ?_ ?_)
   (fun d5=>aH (tp 12112) (k+1,F++[l],some [(k:Int)]) (q1 (ty d5::y3)) ?_ ?_ ?_))
   (fun d4=>aH (tp 1212) (k+1,F++[l],some [(k:Int)]) (q1 (ty d4::y2)) ?_ ?_ ?_))
   (fun d3=>aH (tp 122) (k+1,F++[l],some [(k:Int)]) (q1 (ty d3::ty (dN d2)::y1)) ?_ ?_ ?_))
   (fun d2=>aH [true,true] (k+1,F,some l) (q2 ((F=F∧l.length=l.length)::(l=l)::ty (dN d2)::y1)) ?_ ?_ ?_))
   (fun d1=>bH d false [false] [F.length+1=(lK L).length+1,F=lK L∧l.length=(kY L).length,l=kY L,ty d1] ⟨?_,?_,?_,d1⟩ ?_))
  all_goals with_reducible repeat' first|exact dA|refine bx ?_ ?_|refine bz ?_
  rotate_right
  refine(let q1:List Prop→List Prop:=fun l0=>((1:Nat)=0+1)::rq (↑L.length:Int)::(w6.wrap ((↑k:Int)+1)=↑(k+1))::(p=p)::(lq L)::(([]:List (List Int))=[]∧(1:Nat)=[(↑k:Int)].length)::rq ([(↑k:Int)])::l0;oe (decide ((↑k:Int)<↑L.length)) (fun d1=>let y1:List Prop:=[(0:Int)≤↑k∧(↑k:Int)<↑L.length,ty d1];have u1:ar y1:=⟨?_,d1⟩;oe ((L.getD k Con.zero).odd) (fun d2=>oe (decide ((↑k:Int)>0)) (fun d3=>oe ((L.getD (w6.wrap ((↑k:Int)-1)).toNat Con.zero).odd) (fun d4=>pR.no ?_)
   (fun d4=>aH (tp 1212) (k+1,[],some [(k:Int)]) (q1 (ty d4::((0:Int)≤w6.wrap ((↑k:Int)-1)∧w6.wrap ((↑k:Int)-1)<↑L.length)::ty d3::ty (dN d2)::y1)) ⟨?_,?_,?_,?_,?_,?_,?_,d4,?_,d3,(dN d2),u1⟩ ?_ ?_))
   (fun d3=>aH (tp 122) (k+1,[],some [(k:Int)]) (q1 (ty d3::ty (dN d2)::y1)) ⟨?_,?_,?_,?_,?_,?_,?_,d3,(dN d2),u1⟩ ?_ ?_))
   (fun d2=>aH [true,true] (k+1,F,none) (rq (↑L.length:Int)::(w6.wrap ((↑k:Int)+1)=↑(k+1))::(p=p)::(lq L)::ty (dN d2)::y1) ⟨?_,?_,?_,?_,(dN d2),u1⟩ ?_ ?_))
   (fun d1=>bH d true [false] [ty d1] d1 ?_))
  all_goals((try clear u3);(try clear y3);(try clear u2);(try clear y2);(try clear u1);(try clear y1))
  all_goals first|exact Kn|(refine cL.mk ?_;(simp only[em,et,ew,dT,dF,iV,dx,cp,ne_eq]at*;first|exact⟨Ms hI om d2,hD⟩|exact⟨L7 hI om d2,hD⟩|exact⟨L6 hI om d2 (Ow om d4 d5),hD⟩|exact⟨x6 hI om d2 (Pp om),hD⟩|exact⟨x6 hI om d2 (Pq d4),hD⟩|exact⟨x6 hI om d2 (Ox d5),hD⟩))|(refine gu.mk ?_;cases d<;>first|rfl|(exfalso;(simp only[dF]at*;have h0:=Cy hI om;rw[h0]at hD;cases hD)))|(refine pR.mk ?_;(have h0:=((yh hI).none rfl).2 (k-1) (by simp only[dT]at d3;show k-1<k;omega);simp only[em,et]at d4;exact Bool.noConfusion ((show false=_ from h0.symm).trans d4)))|(first|rfl|exact⟨rfl,rfl⟩|((try simp only[em,ek,et,eF,ew,cg,dT,dF,iV,b6.num]at*)<;>first|omega|exact⟨rfl,rfl⟩|(have:=(hG.rows l (by simp[dV])).2.2;exact⟨by trivial,om⟩)|(rw[(uA hI om).1];done)|(rw[(uA hI om).2];done)|(rw[(uA hI om).1,(uA hI om).2];exact⟨rfl,rfl⟩)|(simp;done)))
def Vb (p:Int)(L:LC):bq:=qM EV (ll EV sI 4) 118 2 [([0,1,0,1,1],HL p L)] sI
theorem Oy (p:Int)(L:LC)(hL:ia L):bV Tryz.prog EV.ng (Vb p L):=vd fS (bU fS (cm _ _) 4) Tryz.func118 (bX (P7 p L hL)) (cm _ _)
theorem Me (p:Int)(L:LC)(hL:ia L):ax Tryz.prog [] 79 [.agg [.int .i64 p,bg L]] (gb .i64 (bc L)):=by
 have rr:=fun(tp:List Bool)(ms:List Prop)h hm=>uP fS (bU fS (Oy p L hL) 4) Tryz.func79 (A:=[.agg [.int .i64 p,bg L]]) rfl aE rfl rfl rb (tabs:=[]) (R:=gb .i64 (bc L)) (tp:=tp) (ms:=ms) h hm
 refine oe ((gJ L L.length).snd.isNone) (fun d1=>rr [true] [(bc L).length=0,rq (↑L.length:Int),p=p,lq L,ty d1] kr ⟨?_,?_,?_,?_,d1⟩)
  (fun d1=>rr [false] (let v1:=lK L;[v1.length+1=(bc L).length∧v1.length+1=v1.length+1∧(kY L).length=(kY L).length∧∀(i:Nat),i<v1.length+1→(fun i=>[rI IntKind.i64 ((bc L).getD i [])]) i=[rI IntKind.i64 ((lK L++[kY L]).getD i [])],rq (↑L.length:Int),p=p,lq L,ty d1]) kr ⟨?_,?_,?_,?_,d1⟩)
 all_goals first|(first|rfl|exact⟨rfl,rfl⟩|(rw[Mt d1];rfl)|(rw[L8 d1];exact⟨si,rfl,rfl,fun i _=>rfl⟩))
theorem C4 {i:Int}{l:List Int}{t:Nat}(ht:t<l.length):f8 i (l.drop t)=((l.getD t 0==i)||f8 i (l.drop (t+1))):=by
 rw[oY ht];rfl
theorem C5 {i:Int}{P:List (List Int)}{j:Nat}(hj:j<P.length):nR i (P.drop j)=(f8 i (ah P j)||nR i (P.drop (j+1))):=by
 rw[ns hj];rfl
theorem Cz {i:Int}{P:List (List Int)}{j:Nat}(hj:j<P.length):gx i (P.drop j)=(bif f8 i (ah P j)then ah P j else gx i (P.drop (j+1))):=by
 rw[ns hj];rfl
def idxN (a:Int):List Int→Nat
 |[]=>0
 |x::l=>bif x==a then 0 else idxN a l+1
def n5 (a:Int)(l:List Int):Int:=bif f8 a l then(idxN a l:Int)else-1
theorem Dw {a:Int}{l:List Int}{t:Nat}(ht:t<l.length):idxN a (l.drop t)=(bif l.getD t 0==a then 0 else idxN a (l.drop (t+1))+1):=by
 rw[oY ht];rfl
def Vt (l:List Int)(a:Int):aO:=⟨⟨[(0,(rI .i64 l).av),(1,vi a),(7,vi l.length),(8,.int .i64 0)],[],1000⟩,some (f8 a l),fun d=>match d with
 |true=>(.ret,⟨[(4,vi (idxN a l:Int))],[],1000⟩)
 |false=>(.exit 0,⟨[],[],1000⟩)⟩
theorem Qm (l:List Int)(a:Int)(hn:l.length≤1000):An 2 Tryz.f165 [0,1,0,1] (Vt l a):=by
 refine iB c0 aE (fun(t:Nat)=>(⟨[(0,(rI .i64 l).av),(1,vi a),(7,vi l.length),(8,vi t)],[],1000⟩:St)) (fun(t:Nat)=>(l.length-t:Nat)) (fun(d:Bool)=>fun(t:Nat)=>(t≤l.length∧f8 a (l.drop t)=d∧t+idxN a (l.drop t)=idxN a l:Prop)) ?_ ?_
 ·intro d hd
  exact st (0) [sr l fun j=>[RV.int IntKind.i64 (l.getD j (0:Int))],a=a,rq (↑l.length:Int),(0:Int)=↑(0:Nat)] J7 (by exact⟨bQ _,hd,gF _⟩)
 ·rintro d hd t hI
  obtain⟨ht,hs,hx⟩:=hI
  have ek:=wk t
  refine oe (decide ((↑t:Int)<↑l.length)) (fun d1=>let y1:List Prop:=[(0:Int)≤↑t∧(↑t:Int)<↑l.length,ty d1];have u1:ar y1:=⟨?_,d1⟩;oe (a==l.getD t (0:Int)) (fun d2=>bH d true [true,true] (((↑t:Int)=↑(idxN a l))::ty d2::y1) ⟨?_,d2,u1⟩ ?_)
   (fun d2=>aH [true,false] (t+1) ((sr l fun j=>[RV.int IntKind.i64 (l.getD j (0:Int))])::(a=a)::rq (↑l.length:Int)::(w6.wrap ((↑t:Int)+1)=↑(t+1))::ty d2::y1) ⟨?_,?_,?_,?_,d2,u1⟩ ?_ ?_))
   (fun d1=>bH d false [false] [ty d1] d1 ?_)
  all_goals((try clear u1);(try clear y1))
  all_goals first|(refine dO.mk ?_;(simp only[dT]at*;show l.length-(t+1)<l.length-t;omega))|(refine cL.mk ?_;(simp only[dT,cg]at*;have d3:(l.getD t 0==a)=false:=(by rw[cp]at d2⊢;exact fun h=>d2 h.symm);rw[C4 om,d3]at hs;rw[Dw om,d3]at hx;simp only[bt]at hx;exact⟨om,hs,om⟩))|(refine gu.mk ?_;cases d<;>first|rfl|(exfalso;(simp only[dT,dF,cg]at*;first|(rw[gT om]at hs;cases hs;done)|(rw[dx]at d2;rw[C4 om,←d2,ey]at hs;cases hs;done))))|(first|exact tz|((try simp only[ek,cg,dT,dF,dx]at*)<;>first|omega|(rw[Dw om,d2.symm,ey]at hx;simp only[aU]at hx;omega)|exact⟨rfl,rfl⟩))
theorem Mg (l:List Int)(a:Int)(hn:l.length≤1000):ax Tryz.prog [] 165 [rI .i64 l,.int .i64 a] (.int .i64 (n5 a l)):=by
 refine pr c0 Tryz.func165 (bX (Qm l a hn)) ?_
 refine oe (f8 a l) (fun d1=>lr [true] [(↑(idxN a l):Int)=n5 a l,sr l fun j=>[RV.int IntKind.i64 (l.getD j (0:Int))],a=a,rq (↑l.length:Int),ty d1] ⟨?_,?_,?_,?_,d1⟩)
  (fun d1=>lr [false] [(-1:Int)=n5 a l,sr l fun j=>[RV.int IntKind.i64 (l.getD j (0:Int))],a=a,rq (↑l.length:Int),ty d1] ⟨?_,?_,?_,?_,d1⟩)
 all_goals first|(first|exact tz|(unfold n5;rw[d1];rfl))
def GB:List cq:=[
 ⟨165,[],fun A=>match A with
  |[.sl m 1 row',.int .i64 a]=>some (.int .i64 (n5 a (dQ m row')),[(∀i,i<m→row' i=[.int .i64 (gN (row' i))])∧m≤1000])
  |_=>none⟩]
theorem Nc:∀e∈GB,cJ Tryz.prog e:=by
 intro e he
 simp only[GB,bC,cU,cY]at he
 rcases he with rfl
 intro A R ms h hm
 simp only at h
 split at h
 all_goals first|exact kL|cases h
 obtain⟨h1,h2⟩:=aA hm
 exact ax.imp (Mg _ _ (by rw[uH];exact h2)) (.cons (.ints h1) (.cons .same .nil))
theorem ST (a:Int)(l:List Int):decide (n5 a l≥0)=f8 a l:=by
 unfold n5
 cases f8 a l
 ·rfl
 ·simp only[aU,dT];omega
theorem Lx (l:List Int)(a:Int)(hn:l.length≤1000):ax Tryz.prog [] 147 [rI .i64 l,.int .i64 a] (.bool (f8 a l)):=by
 refine pr (cE Nc) Tryz.func147 aE ?_
 refine lr [] [decide (n5 a (dQ l.length fun j=>[RV.int IntKind.i64 (l.getD j (0:Int))])≥0)=f8 a l,(∀(i:Nat),i<l.length→(fun j=>[RV.int IntKind.i64 (l.getD j (0:Int))]) i=[RV.int IntKind.i64 (gN ((fun j=>[RV.int IntKind.i64 (l.getD j (0:Int))]) i))])∧l.length≤1000] ⟨?_,(?_:(∀(i:Nat),i<l.length→(fun j=>[RV.int IntKind.i64 (l.getD j (0:Int))]) i=[RV.int IntKind.i64 (gN ((fun j=>[RV.int IntKind.i64 (l.getD j (0:Int))]) i))])∧l.length≤1000)⟩
 all_goals first|(first|exact tr|exact pJ|(rw[p8];exact ST a l))
def qz:List cq:=[
 ⟨147,[],fun A=>match A with
  |[.sl m 1 row',.int .i64 a]=>some (.bool (f8 a (dQ m row')),[(∀i,i<m→row' i=[.int .i64 (gN (row' i))])∧m≤1000])
  |_=>none⟩,
 ⟨79,[],fun A=>match A with
  |[.agg [.int .i64 p,.sl n 5 row]]=>some (gb .i64 (bc (aF n row)),[(∀i,i<n→row i=(Con.ofR (row i)).rvs)∧ia (aF n row)])
  |_=>none⟩]
theorem pW:∀e∈qz,cJ Tryz.prog e:=by
 intro e he
 simp only[qz,bC,cU,cY]at he
 rcases he with rfl|rfl
 all_goals
  intro A R ms h hm
  simp only at h
  split at h
  all_goals first|exact kL|cases h
 ·obtain⟨h1,h2⟩:=aA hm
  exact ax.imp (Lx _ _ (by rw[uH];exact h2)) (.cons (.ints h1) (.cons .same .nil))
 ·obtain⟨h1,h2⟩:=aA hm
  exact ax.imp (Me _ _ h2) (.cons (.agg (.cons .same (.cons (.con h1) .nil))) .nil)
def Vu (P:List (List Int))(a:Int):aO:=⟨⟨[(1,vi a),(8,(gb .i64 P).av),(9,vi P.length),(10,.int .i64 0)],[],1010⟩,some (nR a P),fun d=>match d with
 |true=>(.ret,⟨[(4,(rI .i64 (gx a P)).av)],[],1010⟩)
 |false=>(.exit 0,⟨[],[],1010⟩)⟩
theorem Qn (P:List (List Int))(a:Int)(hn:∀l∈P,l.length≤1000)(hm:P.length≤1000):An 2 Tryz.f146 [0,1,0,1] (Vu P a):=by
 refine iB (cE pW) aE (fun(j:Nat)=>(⟨[(1,vi a),(8,(gb .i64 P).av),(9,vi P.length),(10,vi j)],[],1010⟩:St)) (fun(j:Nat)=>(P.length-j:Nat)) (fun(d:Bool)=>fun(j:Nat)=>(j≤P.length∧nR a (P.drop j)=d∧gx a (P.drop j)=gx a P:Prop)) ?_ ?_
 ·intro d hd
  exact st (0) [a=a,sr P fun i=>[rI IntKind.i64 (P.getD i [])],rq (↑P.length:Int),(0:Int)=↑(0:Nat)] J7 (by exact⟨bQ _,hd,rfl⟩)
 ·rintro d hd j hI
  obtain⟨ht,hs,hf⟩:=hI
  have ek:=wk j
  refine oe (decide ((↑j:Int)<↑P.length)) (fun d1=>let y1:List Prop:=(let v1:=P.getD j [];[(∀(i:Nat),i<v1.length→(fun j_1=>[RV.int IntKind.i64 (v1.getD j_1 (0:Int))]) i=[RV.int IntKind.i64 (gN ((fun j_1=>[RV.int IntKind.i64 (v1.getD j_1 (0:Int))]) i))])∧v1.length≤1000,(0:Int)≤↑j∧(↑j:Int)<↑P.length,ty d1]);have u1:ar y1:=⟨?_,?_,d1⟩;oe (f8 a (dQ (P.getD j []).length fun j_1=>[RV.int IntKind.i64 ((P.getD j []).getD j_1 (0:Int))])) (fun d2=>bH d true [true,true] (((P.getD j []).length=(gx a P).length∧(fun j_1=>[RV.int IntKind.i64 ((P.getD j []).getD j_1 (0:Int))])=fun j=>[RV.int IntKind.i64 ((gx a P).getD j (0:Int))])::ty d2::y1) ⟨?_,d2,u1⟩ ?_)
   (fun d2=>aH [true,false] (j+1) ((a=a)::(sr P fun i=>[rI IntKind.i64 (P.getD i [])])::rq (↑P.length:Int)::(w6.wrap ((↑j:Int)+1)=↑(j+1))::ty d2::y1) ⟨?_,?_,?_,?_,d2,u1⟩ ?_ ?_))
   (fun d1=>bH d false [false] [ty d1] d1 ?_)
  all_goals((try clear u1);(try clear y1))
  all_goals first|exact BK|(refine cL.mk ?_;(simp only[dT,p8,cg]at*;rw[C5 om,d2]at hs;rw[Cz om,d2]at hf;exact⟨om,hs,hf⟩))|(refine gu.mk ?_;cases d<;>first|rfl|(exfalso;(simp only[dT,dF,p8,cg]at*;first|(rw[gT om]at hs;cases hs;done)|(rw[C5 om,d2]at hs;cases hs;done))))|(first|exact tz|((try simp only[ek,p8,cg,dT,dF]at*)<;>first|omega|exact⟨fun _ _=>rfl,hn _ (iX om)⟩|(rw[←hf,Cz om,d2];exact⟨rfl,rfl⟩)))
theorem Nd (p:Int)(L:LC)(a:Int)(hL:ia L):ax Tryz.prog [] 146 [.agg [.int .i64 p,bg L],.int .i64 a] (rI .i64 (dP L a)):=by
 refine pr (cE pW) Tryz.func146 (bX (Qn (bc L) a (fun l hl=>cl (kX l hl).2.2 hL.1) (cl rR hL.1))) ?_
 refine(let y1:List Prop:=[(lz L)∧ia (aF L.length fun i=>(L.getD i z0c).rvs)];have u1:ar y1:=(?_:(lz L)∧ia (aF L.length fun i=>(L.getD i z0c).rvs));oe (nR a (bc L)) (fun d1=>lr [true] (let v1:=aF L.length fun i=>(L.getD i z0c).rvs;((gx a (bc L)).length=(dP L a).length∧(fun j=>[RV.int IntKind.i64 ((gx a (bc L)).getD j (0:Int))])=fun j=>[RV.int IntKind.i64 ((dP L a).getD j (0:Int))])::(a=a)::((bc v1).length=(bc L).length∧(fun i=>[rI IntKind.i64 ((bc v1).getD i [])])=fun i=>[rI IntKind.i64 ((bc L).getD i [])])::((↑(bc v1).length:Int)=(↑(bc L).length:Int))::ty d1::y1) ⟨?_,?_,?_,?_,d1,u1⟩)
  (fun d1=>lr [false] (let v1:=aF L.length fun i=>(L.getD i z0c).rvs;((dP L a).length=0)::(a=a)::((bc v1).length=(bc L).length∧(fun i=>[rI IntKind.i64 ((bc v1).getD i [])])=fun i=>[rI IntKind.i64 ((bc L).getD i [])])::((↑(bc v1).length:Int)=(↑(bc L).length:Int))::ty d1::y1) ⟨?_,?_,?_,?_,d1,u1⟩))
 all_goals((try clear u1);(try clear y1))
 all_goals first|(first|rfl|exact⟨rfl,rfl⟩|((try simp only[cb]at*)<;>first|rfl|trivial|exact⟨rfl,rfl⟩|exact⟨trivial,trivial⟩|exact⟨fun _ _=>rfl,hL⟩|(show(gx a (bc L)).length=0;rw[CD d1];rfl)))
theorem SU {L:LC}{l:List Int}(h:¬l.length=2):(true:Bool)=!kz L l:=by unfold kz;simp[h]
theorem Qo {L:LC}{l:List Int}(hL:bm L)(hl:cI L.length l)(h:l.length=2):(!kz L l)=(!((at_ L (l.getD 0 0).toNat).dim==1)||(!((at_ L (l.getD 1 0).toNat).dim==1)||!((w6.wrap ((at_ L (l.getD 0 0).toNat).oddity+(at_ L (l.getD 1 0).toNat).oddity)).tmod 4==0))):=by
 match l,h,hl with
 |[a,b],_,hl=>
  have ha:=hl a si
  have hb:=hl b si
  have h1:=(hL.at (k:=a.toNat) om).2.2.2
  have h2:=(hL.at (k:=b.toNat) om).2.2.2
  simp only[List.getD_cons_zero,List.getD_cons_succ]
  rw[wo,iE om]
  unfold kz ky
  simp only[dg,ic,nk,oC,List.getD_cons_zero,List.getD_cons_succ,iM,Bool.not_and]
  rw[show((at_ L a.toNat).oddity+((at_ L b.toNat).oddity+0))%8%4=((at_ L a.toNat).oddity+(at_ L b.toNat).oddity)%4 by omega]
theorem Nf (p:Int)(L:LC)(l:List Int)(hL:bm L)(hl:cI L.length l)(hn:l.length≤1000):ax Tryz.prog [] 145 [.agg [.int .i64 p,bg L],rI .i64 l] (.bool (!kz L l)):=by
 refine pr c0 Tryz.func145 aE ?_
 refine oe ((↑l.length:Int)==2) (fun d1=>let y1:List Prop:=(let v2:=Int.toNat (1:Int);let v1:=L.getD (l.getD v2 (0:Int)).toNat z0c;[rq (v1.exp),rq (v1.dim),rq (v1.sign),rq (v1.odd),rq (v1.oddity),rq (l.getD v2 (0:Int)),lq L,(0:Int)≤l.getD v2 (0:Int)∧l.getD v2 (0:Int)<↑L.length,(0:Int)≤1∧(1:Int)<↑l.length,(0:Int)≤l.getD (Int.toNat (0:Int)) (0:Int)∧l.getD (Int.toNat (0:Int)) (0:Int)<↑L.length,(0:Int)≤0∧(0:Int)<↑l.length,ty (dN d1)]);have u1:ar y1:=⟨?_,?_,?_,?_,?_,?_,?_,?_,?_,?_,?_,(dN d1)⟩;oe ((L.getD (l.getD (Int.toNat (0:Int)) (0:Int)).toNat z0c).dim==1) (fun d2=>oe ((L.getD (l.getD (Int.toNat (1:Int)) (0:Int)).toNat z0c).dim==1) (fun d3=>lr (tp 222) ((((w6.wrap ((L.getD (l.getD (Int.toNat (0:Int)) (0:Int)).toNat z0c).oddity+(L.getD (l.getD (Int.toNat (1:Int)) (0:Int)).toNat z0c).oddity)).tmod (4:Int)!=(0:Int))=!kz L l)::((4:Int)≠(0:Int))::ty (dN d3)::ty (dN d2)::y1) ⟨?_,?_,(dN d3),(dN d2),u1⟩)
  (fun d3=>lr (tp 221) ((true=!kz L l)::ty (dN d3)::ty (dN d2)::y1) ⟨?_,(dN d3),(dN d2),u1⟩))
  (fun d2=>lr [false,true] ((true=!kz L l)::ty (dN d2)::y1) ⟨?_,(dN d2),u1⟩))
  (fun d1=>lr [true] [true=!kz L l,ty (dN d1)] ⟨?_,(dN d1)⟩)
 all_goals((try clear u1);(try clear y1))
 all_goals first|(first|exact tz|decide|(simp only[pP,show(1:Int).toNat=1 from rfl,dx,cp,ne_eq]at* <;>first|omega|(have h0:=hl.at (t:=0) om;exact h0)|(have h0:=hl.at (t:=1) om;exact h0)|exact SU om|(rw[Qo hL hl om];simp_all[at_,bne];done)))
def GD:List cq:=[
 ⟨146,[],fun A=>match A with
  |[.agg [.int .i64 p,.sl n 5 row],.int .i64 a]=>some (rI .i64 (dP (aF n row) a),[(∀i,i<n→row i=(Con.ofR (row i)).rvs)∧ia (aF n row)])
  |_=>none⟩,
 ⟨145,[],fun A=>match A with
  |[.agg [.int .i64 p,.sl n 5 row],.sl m 1 row']=>some (.bool (!kz (aF n row) (dQ m row')),[(∀i,i<n→row i=(Con.ofR (row i)).rvs)∧(∀i,i<m→row' i=[.int .i64 (gN (row' i))])∧bm (aF n row)∧cI (aF n row).length (dQ m row')∧m≤1000])
  |_=>none⟩]
theorem Ng:∀e∈GD,cJ Tryz.prog e:=by
 intro e he
 simp only[GD,bC,cU,cY]at he
 rcases he with rfl|rfl
 all_goals
  intro A R ms h hm
  simp only at h
  split at h
  all_goals first|exact kL|cases h
 ·obtain⟨h1,h2⟩:=aA hm
  exact ax.imp (Nd _ _ _ h2) (.cons (.agg (.cons .same (.cons (.con h1) .nil))) (.cons .same .nil))
 ·obtain⟨h1,h2,h3,h4,h5⟩:=aA hm
  exact ax.imp (Nf _ _ _ h3 h4 (by rw[uH];exact h5)) (.cons (.agg (.cons .same (.cons (.con h1) .nil))) (.cons (.ints h2) .nil))
theorem LG (p:Int)(L:LC)(k:Nat)(hL:bm L)(h1:1≤k)(h2:k<L.length):ax Tryz.prog [] 110 [.agg [.int .i64 p,bg L],.int .i64 (k:Int)] (.bool (jv L k)):=by
 have hl:=hL.1;have a1:=hL.e.at' k;have a2:=hL.e.at' (k-1);have em:w6.wrap ((k:Int)-1)=(k:Int)-1:=wo;have et:((k:Int)-1).toNat=k-1:=om;have ed:w6.wrap ((at_ L k).exp-(at_ L (k-1)).exp)=(at_ L k).exp-(at_ L (k-1)).exp:=wo;have hp:=Oi (L:=L) (i:=(k:Int))
 refine pr (cE Ng) Tryz.func110 aE ?_
 refine(let y1:List Prop:=(let v1:=L.getD k z0c;[rq (v1.exp),rq (v1.dim),rq (v1.sign),rq (v1.odd),rq (v1.oddity),lq L,(0:Int)≤↑k∧(↑k:Int)<↑L.length,(0:Int)≤w6.wrap ((↑k:Int)-1)∧w6.wrap ((↑k:Int)-1)<↑L.length]);have u1:ar y1:=⟨?_,?_,?_,?_,?_,?_,?_,(?_:(0:Int)≤w6.wrap ((↑k:Int)-1)∧w6.wrap ((↑k:Int)-1)<↑L.length)⟩;oe (w6.wrap ((L.getD k z0c).exp-(L.getD (w6.wrap ((↑k:Int)-1)).toNat z0c).exp)==1) (fun d1=>oe ((L.getD (w6.wrap ((↑k:Int)-1)).toNat z0c).odd) (fun d2=>oe ((L.getD k z0c).odd) (fun d3=>lr (tp 111) (let v1:=aF L.length fun i=>(L.getD i z0c).rvs;let v2:=dP v1 (↑k:Int);let v3:=dQ v2.length fun j=>[RV.int IntKind.i64 (v2.getD j (0:Int))];((!kz v1 v3)=jv L k)::((lz L)∧(∀(i:Nat),i<v2.length→(fun j=>[RV.int IntKind.i64 (v2.getD j (0:Int))]) i=[RV.int IntKind.i64 (gN ((fun j=>[RV.int IntKind.i64 (v2.getD j (0:Int))]) i))])∧bm v1∧cI v1.length v3∧v2.length≤1000)::(p=p)::(lq L)::((lz L)∧ia v1)::ty d3::ty d2::ty d1::y1) ?_)
  (fun d3=>lr (tp 1121) ((true=jv L k)::ty d2::ty d3::ty d2::ty d1::y1) ?_))
  (fun d2=>lr (tp 122) (((L.getD k z0c).odd=jv L k)::ty d2::ty d2::ty d1::y1) ?_))
  (fun d1=>oe (w6.wrap ((L.getD k z0c).exp-(L.getD (w6.wrap ((↑k:Int)-1)).toNat z0c).exp)==2) (fun d2=>oe ((L.getD (w6.wrap ((↑k:Int)-1)).toNat z0c).odd) (fun d3=>lr (tp 211) (((L.getD k z0c).odd=jv L k)::ty d3::ty d2::ty d1::y1) ?_)
  (fun d3=>lr (tp 212) ((false=jv L k)::ty d3::ty d2::ty d1::y1) ?_))
  (fun d2=>lr [false,false] ((false=jv L k)::ty d2::ty d1::y1) ?_)))
 all_goals with_reducible repeat' first|exact dA|refine bx ?_ ?_|refine bz ?_
 all_goals((try clear u1);(try clear y1))
 all_goals first|(first|exact tz|decide|((try simp only[at_,em,et,ed,cb,p8,cg]at*)<;>first|exact tr|trivial|omega|exact⟨fun _ _=>rfl,hL.e⟩|exact⟨fun _ _=>rfl,fun _ _=>rfl,hL,hp.1,om⟩|(simp only[jv,at_, *];done)|(simp_all[jv];done)))
def gj (s:Nat):Nat→List Int
 |0=>[]
 |n+1=>(s:Int)::gj (s+1) n
theorem Mm (s n:Nat):gj s (n+1)=gj s n++[((s+n:Nat):Int)]:=by
 induction n generalizing s with
 |zero=>simp[gj]
 |succ n ih=>
  rw[gj,ih (s+1)]
  show _=(s:Int)::gj (s+1) n++_
  simp only[kT]
  rw[show s+1+n=s+(n+1) by omega]
theorem Rz (s n:Nat):(gj s n).length=n:=by
 induction n generalizing s with
 |zero=>rfl
 |succ n ih=>simp[gj,ih]
theorem vx {s n:Nat}{x:Int}:x∈gj s n↔(s:Int)≤x∧x<((s+n:Nat):Int):=by
 induction n generalizing s with
 |zero=>simp only[gj,cU,fv,false_iff];omega
 |succ n ih=>
  simp only[gj,bC,ih]
  omega
theorem O6 {s n t:Nat}(h:t<n):(gj s n).getD t 0=((s+t:Nat):Int):=by
 induction n generalizing s t with
 |zero=>omega
 |succ n ih=>
  cases t with
  |zero=>simp[gj]
  |succ t=>
   simp only[gj,List.getD_cons_succ]
   rw[ih om]
   congr 1;omega
def AY (b j:Nat→Bool)(l:List Int):Prop:=∃s n,l=gj s (n+1)∧j s=false∧∀t,t≤n→b (s+t)=true∧(0<t→j (s+t)=true)
structure If (b j:Nat→Bool)(k:Nat)(a:mb):Prop where
 rows:∀l∈dV a,AY b j l
 flat:(dV a).flatten=((List.range k).filter b).map Int.ofNat
 last:∀l,a.2=some l→0<k→b (k-1)=true→∃s n,l=gj s (n+1)∧s+n+1=k
theorem GX {b j:Nat→Bool}(hj:∀k,j (k+1)=true→b k=true)(h0:j 0=false):∀k,If b j k (iL b j k)
 |0=>⟨fun l hl=>by simp[iL,dV]at hl,by simp[iL,dV],fun l hl=>by simp[iL]at hl⟩
 |k+1=>by
  have ih:=GX hj h0 k
  have ok:=mG b j k
  have e:iL b j (k+1)=gM (b k) (j k) k (iL b j k):=rfl
  rw[e]
  generalize iL b j k=a at ih ok
  obtain⟨F,o⟩:=a
  obtain⟨h1,h2,h3⟩:=ih
  have hr:((List.range (k+1)).filter b).map Int.ofNat=((List.range k).filter b).map Int.ofNat++(if b k=true then [(k:Int)]else []):=by
   rw[oy,List.filter_append,List.map_append]
   congr 1
   by_cases hb:b k=true
   ·simp[hb]
   ·simp[hb]
  cases hb:b k with
  |false=>
   simp only[gM,bt]
   refine⟨h1,by rw[hr,h2,hb];simp,fun l hl _ hbk=>?_⟩
   have:b k=true:=by simpa using hbk
   rw[hb]at this;cases this
  |true=>
   have new:j k=false→AY b j [(k:Int)]:=fun hjk=>⟨k,0,rfl,hjk,fun t ht=>by
    have:t=0:=by omega
    subst this;exact⟨by simpa using hb,fun h=>om⟩⟩
   have one:∃s n,([(k:Int)]:List Int)=gj s (n+1)∧s+n+1=k+1:=⟨k,0,rfl,rfl⟩
   have nojoin:o=none→j k=false:=by
    intro ho
    cases hjk:j k with
    |false=>rfl
    |true=>
     cases k with
     |zero=>rw[h0]at hjk;cases hjk
     |succ k=>
      have h4:=(ok.none ho).2 k om
      rw[hj k hjk]at h4;cases h4
   cases o with
   |none=>
    have hF:F=[]:=(ok.none rfl).1
    subst hF
    simp only[gM,aU]
    refine⟨fun l hl=>?_,?_,fun l hl _ _=>?_⟩
    ·simp only[dV,pQ,fJ]at hl
     subst hl;exact new (nojoin rfl)
    ·rw[hr,←h2,hb];simp[dV]
    ·cases hl;exact one
   |some l0=>
    cases hjk:j k with
    |true=>
     simp only[gM,aU]
     have hk:0<k:=by
      rcases kS k with h|h
      ·subst h;rw[h0]at hjk;cases hjk
      ·exact h
     have hbk:b (k-1)=true:=hj (k-1) (by rw[show k-1+1=k by omega];exact hjk)
     obtain⟨s,n,e1,e2⟩:=h3 l0 rfl hk hbk
     obtain⟨s',n',e3,e4,e5⟩:=h1 l0 (by simp[dV])
     have hn:n'=n:=by have:=congrArg List.length (e1.symm.trans e3);simp only[Rz]at this;omega
     have hs:s'=s:=by
      have:=e1.symm.trans e3
      simp only[gj,List.cons.injEq]at this
      omega
     subst hn hs
     have e6:l0++[(k:Int)]=gj s' (n'+1+1):=by
      rw[Mm s' (n'+1),←e1,show s'+(n'+1)=k by omega]
     refine⟨fun l hl=>?_,?_,fun l hl _ _=>?_⟩
     ·simp only[dV,fX,fJ]at hl
      rcases hl with hl|hl
      ·exact h1 l (by simp[dV,hl])
      ·subst hl
       refine⟨s',n'+1,e6,e4,fun t ht=>?_⟩
       rcases bA t (n'+1)with h|h
       ·exact e5 t om
       ·have:s'+t=k:=by omega
        rw[this];exact⟨hb,fun _=>hjk⟩
     ·rw[hr,←h2,hb];simp[dV]
     ·cases hl;exact⟨s',n'+1,e6,om⟩
    |false=>
     simp only[gM,aU,bt]
     refine⟨fun l hl=>?_,?_,fun l hl _ _=>?_⟩
     ·simp only[dV,fX,fJ]at hl
      rcases hl with(hl|hl)|hl
      ·exact h1 l (by simp[dV,hl])
      ·exact h1 l (by simp[dV,hl])
      ·subst hl;exact new hjk
     ·rw[hr,←h2,hb];simp[dV]
     ·cases hl;exact one
theorem yU (L:List Con):If (fP L) (eV L) L.length (gJ L L.length):=by
 refine GX (fun k h=>?_) (by simp[eV]) _
 unfold eV at h
 simp only[bj,Nat.add_sub_cancel]at h
 exact h.2.1
theorem yF {x:Int}:∀{l:List Int},f8 x l=true↔x∈l
 |[]=>by simp[f8]
 |y::l=>by
  simp only[f8,nj,dx,bC,yF (l:=l)]
  constructor
  ·rintro(h|h)
   ·exact .inl h.symm
   ·exact .inr h
  ·rintro(h|h)
   ·exact .inl h.symm
   ·exact .inr h
theorem CB {x:Int}:∀{P:List (List Int)},x∈P.flatten→gx x P∈P∧x∈gx x P
 |[],h=>by simp at h
 |l::P,h=>by
  simp only[gx]
  cases hl:f8 x l with
  |true=>exact⟨si,yF.1 hl⟩
  |false=>
   have:x∈P.flatten:=by
    simp only[up,fX]at h
    rcases h with h|h
    ·rw[yF.2 h]at hl;cases hl
    ·exact h
   obtain⟨h1,h2⟩:=CB this
   exact⟨by simp[h1],h2⟩
theorem MJ {L:List Con}{i:Nat}:(i:Int)∈(bc L).flatten↔i<L.length∧fP L i=true:=by
 unfold bc
 rw[(yU L).flat]
 simp only[gv,List.mem_filter,List.mem_range]
 constructor
 ·rintro⟨k,h1,h2⟩
  have h3:((k:Nat):Int)=(i:Int):=h2
  have:k=i:=by omega
  subst this;exact h1
 ·intro h
  exact⟨i,h,rfl⟩
theorem Df {L:List Con}{i:Nat}(h:i<L.length)(ho:fP L i=true):dP L i∈bc L∧(i:Int)∈dP L i:=CB (MJ.2 ⟨h,ho⟩)
theorem D1 {L:List Con}{l:List Int}(h:l∈bc L):AY (fP L) (eV L) l:=(yU L).rows l h
theorem E4 {L:List Con}{i:Nat}(h:i<L.length)(ho:fP L i=true):∃s n t,dP L i=gj s (n+1)∧i=s+t∧t≤n∧eV L s=false∧∀u,u≤n→fP L (s+u)=true∧(0<u→eV L (s+u)=true):=by
 obtain⟨h1,h2⟩:=Df h ho
 obtain⟨s,n,e,hs,hr⟩:=D1 h1
 rw[e,vx]at h2
 exact⟨s,n,i-s,e,om,om,hs,hr⟩
theorem CC {L:List Con}{i:Nat}(h:i<L.length)(ho:fP L i=true):(dP L i).getD 0 0=(i:Int)↔eV L i=false:=by
 obtain⟨s,n,t,e,h1,h2,h3,h4⟩:=E4 h ho
 rw[e,O6 om,fv]
 constructor
 ·intro h5
  have:i=s:=by omega
  rw[this];exact h3
 ·intro h5
  rcases kS t with h6|h6
  ·subst h6;rw[h1];simp
  ·have:=(h4 t h2).2 h6
   rw[←h1,h5]at this;cases this
theorem Co (L:List Con):(bc L).flatten.Nodup:=by
 unfold bc
 rw[(yU L).flat]
 refine List.Pairwise.map _ (fun a b h=>?_) (List.nodup_range.filter _)
 intro e
 exact h (Int.ofNat.inj e)
end Go.Proofs.YtdbdoalefmliiaaGreatDoor.S
namespace Go.Proofs.YtdbdoalefmliiaaGreatDoor.S
section
open Go.QfSy Go.RowKit
end
section
open Go.QfSy Go.RowKit
end
section
open Go.QfSy Go.RowKit
end
end Go.Proofs.YtdbdoalefmliiaaGreatDoor.S
namespace Go.Proofs.YtdbdoalefmliiaaGreatDoor.S
open Go.QfSy Go.RowKit
noncomputable def cy (e d s:Int)(o:Bool)(t:Int):Bool:=(bif decide (e<0)then false else(bif decide (e>60)then false else(bif decide (d<1)then false else(bif decide (d>8)then false else(bif s==1 then(bif decide (t<0)then false else(bif decide (t>7)then false else(bif o then(bif(w6.wrap (t-d)).tmod (2:Int)==0 then(bif d==1 then(bif t==1 then true else(t==7))else(bif d==2 then(t !=(4:Int))else true))else false)else(bif d.tmod (2:Int)==0 then(t==0)else false))))else(bif s==-1 then(bif decide (t<0)then false else(bif decide (t>7)then false else(bif o then(bif(w6.wrap (t-d)).tmod (2:Int)==0 then(bif d==1 then(bif t==3 then true else(t==5))else(bif d==2 then(t !=(0:Int))else true))else false)else(bif d.tmod (2:Int)==0 then(t==0)else false))))else false))))))
theorem SI (e d s:Int)(o:Bool)(t:Int):ax Tryz.prog [] 117 [.agg (Con.mk e d s o t).rvs] (.bool (cy e d s o t)):=by
 refine pr c0 Tryz.func117 aE ?_
 refine oe (decide (e<0)) (fun d1=>lr [true] [false=cy e d s o t,ty d1] ⟨(((ct d1).trans rfl):cy e d s o t=_).symm,d1⟩)
  (fun d1=>let y1:List Prop:=[ty d1];have u1:ar y1:=d1;oe (decide (e>60)) (fun d2=>lr [false,true] ((false=cy e d s o t)::ty d2::y1) ⟨(((cf d1).trans ((ct d2).trans rfl)):cy e d s o t=_).symm,d2,u1⟩)
  (fun d2=>let y2:List Prop:=ty d2::y1;have u2:ar y2:=⟨d2,u1⟩;oe (decide (d<1)) (fun d3=>lr (tp 221) ((false=cy e d s o t)::ty d3::y2) ⟨(((cf d1).trans ((cf d2).trans ((ct d3).trans rfl))):cy e d s o t=_).symm,d3,u2⟩)
  (fun d3=>let y3:List Prop:=ty d3::y2;have u3:ar y3:=⟨d3,u2⟩;oe (decide (d>8)) (fun d4=>lr (tp 2221) ((false=cy e d s o t)::ty d4::y3) ⟨(((cf d1).trans ((cf d2).trans ((cf d3).trans ((ct d4).trans rfl)))):cy e d s o t=_).symm,d4,u3⟩)
  (fun d4=>let y4:List Prop:=ty d4::y3;have u4:ar y4:=⟨d4,u3⟩;oe (s==1) (fun d5=>let y5:List Prop:=ty (dN d5)::y4;have u5:ar y5:=⟨(dN d5),u4⟩;oe (decide (t<0)) (fun d6=>lr (tp 222221) ((false=cy e d s o t)::ty d6::y5) ⟨(((cf d1).trans ((cf d2).trans ((cf d3).trans ((cf d4).trans ((ct d5).trans ((ct d6).trans rfl)))))):cy e d s o t=_).symm,d6,u5⟩)
  (fun d6=>let y6:List Prop:=ty d6::y5;have u6:ar y6:=⟨d6,u5⟩;oe (decide (t>7)) (fun d7=>lr (tp 2222221) ((false=cy e d s o t)::ty d7::y6) ⟨(((cf d1).trans ((cf d2).trans ((cf d3).trans ((cf d4).trans ((ct d5).trans ((cf d6).trans ((ct d7).trans rfl))))))):cy e d s o t=_).symm,d7,u6⟩)
  (fun d7=>oe (o) (fun d8=>let y7:List Prop:=((2:Int)≠(0:Int))::ty (dN d8)::ty d7::y6;have u7:ar y7:=⟨?_,(dN d8),d7,u6⟩;oe ((w6.wrap (t-d)).tmod (2:Int)==0) (fun d9=>oe (d==1) (fun d10=>oe (t==1) (fun d11=>lr (tp 222222222111) ((true=cy e d s o t)::ty d11::ty d5::ty d10::ty (dN d9)::y7) ⟨(((cf d1).trans ((cf d2).trans ((cf d3).trans ((cf d4).trans ((ct d5).trans ((cf d6).trans ((cf d7).trans ((ct d8).trans ((ct d9).trans ((ct d10).trans ((ct d11).trans rfl))))))))))):cy e d s o t=_).symm,d11,d5,d10,(dN d9),u7⟩)
  (fun d11=>lr (tp 222222222112) (((t==7)=cy e d s o t)::ty d11::ty d5::ty d10::ty (dN d9)::y7) ⟨(((cf d1).trans ((cf d2).trans ((cf d3).trans ((cf d4).trans ((ct d5).trans ((cf d6).trans ((cf d7).trans ((ct d8).trans ((ct d9).trans ((ct d10).trans ((cf d11).trans rfl))))))))))):cy e d s o t=_).symm,d11,d5,d10,(dN d9),u7⟩))
  (fun d10=>oe (d==2) (fun d11=>lr (tp 2222222222211) (((t !=(4:Int))=cy e d s o t)::ty d5::ty d11::ty d10::ty d10::ty (dN d9)::y7) ⟨(((cf d1).trans ((cf d2).trans ((cf d3).trans ((cf d4).trans ((ct d5).trans ((cf d6).trans ((cf d7).trans ((ct d8).trans ((ct d9).trans ((cf d10).trans ((ct d11).trans rfl))))))))))):cy e d s o t=_).symm,d5,d11,d10,d10,(dN d9),u7⟩)
  (fun d11=>lr (tp 2222222222222) ((true=cy e d s o t)::ty d11::ty d11::ty d10::ty d10::ty (dN d9)::y7) ⟨(((cf d1).trans ((cf d2).trans ((cf d3).trans ((cf d4).trans ((ct d5).trans ((cf d6).trans ((cf d7).trans ((ct d8).trans ((ct d9).trans ((cf d10).trans ((cf d11).trans rfl))))))))))):cy e d s o t=_).symm,d11,d11,d10,d10,(dN d9),u7⟩)))
  (fun d9=>lr (tp 222222221) ((false=cy e d s o t)::ty (dN d9)::y7) ⟨(((cf d1).trans ((cf d2).trans ((cf d3).trans ((cf d4).trans ((ct d5).trans ((cf d6).trans ((cf d7).trans ((ct d8).trans ((cf d9).trans rfl))))))))):cy e d s o t=_).symm,(dN d9),u7⟩))
  (fun d8=>oe (d.tmod (2:Int)==0) (fun d9=>lr (tp 222222211) (((t==0)=cy e d s o t)::ty d9::((2:Int)≠(0:Int))::ty (dN d8)::ty d7::y6) ⟨(((cf d1).trans ((cf d2).trans ((cf d3).trans ((cf d4).trans ((ct d5).trans ((cf d6).trans ((cf d7).trans ((cf d8).trans ((ct d9).trans rfl))))))))):cy e d s o t=_).symm,d9,?_,(dN d8),d7,u6⟩)
  (fun d9=>lr (tp 222222212) ((false=cy e d s o t)::ty d9::((2:Int)≠(0:Int))::ty (dN d8)::ty d7::y6) ⟨(((cf d1).trans ((cf d2).trans ((cf d3).trans ((cf d4).trans ((ct d5).trans ((cf d6).trans ((cf d7).trans ((cf d8).trans ((cf d9).trans rfl))))))))):cy e d s o t=_).symm,d9,?_,(dN d8),d7,u6⟩)))))
  (fun d5=>let y5:List Prop:=ty (dN d5)::y4;have u5:ar y5:=⟨(dN d5),u4⟩;oe (s==-1) (fun d6=>let y6:List Prop:=ty (dN d6)::y5;have u6:ar y6:=⟨(dN d6),u5⟩;oe (decide (t<0)) (fun d7=>lr (tp 2222121) ((false=cy e d s o t)::ty d7::y6) ⟨(((cf d1).trans ((cf d2).trans ((cf d3).trans ((cf d4).trans ((cf d5).trans ((ct d6).trans ((ct d7).trans rfl))))))):cy e d s o t=_).symm,d7,u6⟩)
  (fun d7=>let y7:List Prop:=ty d7::y6;have u7:ar y7:=⟨d7,u6⟩;oe (decide (t>7)) (fun d8=>lr (tp 22221221) ((false=cy e d s o t)::ty d8::y7) ⟨(((cf d1).trans ((cf d2).trans ((cf d3).trans ((cf d4).trans ((cf d5).trans ((ct d6).trans ((cf d7).trans ((ct d8).trans rfl)))))))):cy e d s o t=_).symm,d8,u7⟩)
  (fun d8=>oe (o) (fun d9=>let y8:List Prop:=((2:Int)≠(0:Int))::ty (dN d9)::ty d8::y7;have u8:ar y8:=⟨?_,(dN d9),d8,u7⟩;oe ((w6.wrap (t-d)).tmod (2:Int)==0) (fun d10=>oe (d==1) (fun d11=>oe (t==3) (fun d12=>lr (tp 22221222221211) ((true=cy e d s o t)::ty d12::ty d11::ty d5::ty d11::ty (dN d10)::y8) ⟨(((cf d1).trans ((cf d2).trans ((cf d3).trans ((cf d4).trans ((cf d5).trans ((ct d6).trans ((cf d7).trans ((cf d8).trans ((ct d9).trans ((ct d10).trans ((ct d11).trans ((ct d12).trans rfl)))))))))))):cy e d s o t=_).symm,d12,d11,d5,d11,(dN d10),u8⟩)
  (fun d12=>lr (tp 22221222221212) (((t==5)=cy e d s o t)::ty d12::ty d11::ty d5::ty d11::ty (dN d10)::y8) ⟨(((cf d1).trans ((cf d2).trans ((cf d3).trans ((cf d4).trans ((cf d5).trans ((ct d6).trans ((cf d7).trans ((cf d8).trans ((ct d9).trans ((ct d10).trans ((ct d11).trans ((cf d12).trans rfl)))))))))))):cy e d s o t=_).symm,d12,d11,d5,d11,(dN d10),u8⟩))
  (fun d11=>oe (d==2) (fun d12=>lr (tp 222212222222121) (((t !=(0:Int))=cy e d s o t)::ty d12::ty d5::ty d12::ty d11::ty d11::ty (dN d10)::y8) ⟨(((cf d1).trans ((cf d2).trans ((cf d3).trans ((cf d4).trans ((cf d5).trans ((ct d6).trans ((cf d7).trans ((cf d8).trans ((ct d9).trans ((ct d10).trans ((cf d11).trans ((ct d12).trans rfl)))))))))))):cy e d s o t=_).symm,d12,d5,d12,d11,d11,(dN d10),u8⟩)
  (fun d12=>lr (tp 22221222222222) ((true=cy e d s o t)::ty d12::ty d12::ty d11::ty d11::ty (dN d10)::y8) ⟨(((cf d1).trans ((cf d2).trans ((cf d3).trans ((cf d4).trans ((cf d5).trans ((ct d6).trans ((cf d7).trans ((cf d8).trans ((ct d9).trans ((ct d10).trans ((cf d11).trans ((cf d12).trans rfl)))))))))))):cy e d s o t=_).symm,d12,d12,d11,d11,(dN d10),u8⟩)))
  (fun d10=>lr (tp 2222122221) ((false=cy e d s o t)::ty (dN d10)::y8) ⟨(((cf d1).trans ((cf d2).trans ((cf d3).trans ((cf d4).trans ((cf d5).trans ((ct d6).trans ((cf d7).trans ((cf d8).trans ((ct d9).trans ((cf d10).trans rfl)))))))))):cy e d s o t=_).symm,(dN d10),u8⟩))
  (fun d9=>oe (d.tmod (2:Int)==0) (fun d10=>lr (tp 2222122211) (((t==0)=cy e d s o t)::ty d10::((2:Int)≠(0:Int))::ty (dN d9)::ty d8::y7) ⟨(((cf d1).trans ((cf d2).trans ((cf d3).trans ((cf d4).trans ((cf d5).trans ((ct d6).trans ((cf d7).trans ((cf d8).trans ((cf d9).trans ((ct d10).trans rfl)))))))))):cy e d s o t=_).symm,d10,?_,(dN d9),d8,u7⟩)
  (fun d10=>lr (tp 2222122212) ((false=cy e d s o t)::ty d10::((2:Int)≠(0:Int))::ty (dN d9)::ty d8::y7) ⟨(((cf d1).trans ((cf d2).trans ((cf d3).trans ((cf d4).trans ((cf d5).trans ((ct d6).trans ((cf d7).trans ((cf d8).trans ((cf d9).trans ((cf d10).trans rfl)))))))))):cy e d s o t=_).symm,d10,?_,(dN d9),d8,u7⟩)))))
  (fun d6=>lr (tp 222211) ((false=cy e d s o t)::ty (dN d6)::y5) ⟨(((cf d1).trans ((cf d2).trans ((cf d3).trans ((cf d4).trans ((cf d5).trans ((cf d6).trans rfl)))))):cy e d s o t=_).symm,(dN d6),u5⟩))))))
 all_goals first|(decide)
noncomputable def uT (e d s:Int)(o:Bool)(t:Int):Bool:=(bif decide (e<0)then false else(bif decide (e>60)then false else(bif decide (d<1)then false else(bif decide (d>8)then false else(bif s==1 then(bif decide (t<0)then false else(bif decide (t>7)then false else(bif o then(bif(w6.wrap (t-d)).tmod (2:Int)==0 then(bif d==1 then(bif t==1 then true else(t==7))else(bif d==2 then(t !=(4:Int))else true))else false)else(bif d.tmod (2:Int)==0 then(t==0)else false))))else(bif s==-1 then(bif decide (t<0)then false else(bif decide (t>7)then false else(bif o then(bif(w6.wrap (t-d)).tmod (2:Int)==0 then(bif d==1 then(bif t==3 then true else(t==5))else(bif d==2 then(t !=(0:Int))else true))else false)else(bif d.tmod (2:Int)==0 then(t==0)else false))))else false))))))
end Go.Proofs.YtdbdoalefmliiaaGreatDoor.S
namespace Go.Proofs.YtdbdoalefmliiaaGreatDoor.S
section
open Go.QfSy Go.RowKit
end
end Go.Proofs.YtdbdoalefmliiaaGreatDoor.S
namespace Go.Proofs.YtdbdoalefmliiaaGreatDoor.S
open Go.QfSy Go.RowKit
def qx (c:Con):Prop:=(0≤c.exp∧c.exp≤60)∧(1≤c.dim∧c.dim≤8)∧(c.sign=1∨c.sign=-1)∧(0≤c.oddity∧c.oddity≤7)∧
 (c.odd=false→c.dim%2=0∧c.oddity=0)∧
 (c.odd=true→(c.oddity-c.dim)%2=0∧(c.dim=1→c.sign=1→c.oddity=1∨c.oddity=7)∧(c.dim=1→c.sign=-1→c.oddity=3∨c.oddity=5)∧(c.dim=2→c.sign=1→c.oddity≠4)∧(c.dim=2→c.sign=-1→c.oddity≠0))
instance (c:Con):Decidable (qx c):=by unfold qx;exact inferInstance
def dt (c:Con):Bool:=decide (qx c)
theorem vX (a:Int):a.tmod 2=0↔a%2=0:=by
 rw[←Int.dvd_iff_tmod_eq_zero,←Int.dvd_iff_emod_eq_zero]
theorem M2 (c:Con):uT c.exp c.dim c.sign c.odd c.oddity=dt c:=by
 obtain⟨e,d,s,o,t⟩:=c
 rw[Bool.eq_iff_iff]
 rw[show(dt ⟨e,d,s,o,t⟩=true)↔qx ⟨e,d,s,o,t⟩from by simp[dt]]
 unfold qx
 simp only
 by_cases hb:(0≤e∧e≤60)∧(1≤d∧d≤8)∧(0≤t∧t≤7)
 ·have hw:IntKind.i64.wrap (t-d)=t-d:=og om om
  unfold uT
  have h1:decide (e<0)=false:=by simp;omega
  have h2:decide (e>60)=false:=by simp;omega
  have h3:decide (d<1)=false:=by simp;omega
  have h4:decide (d>8)=false:=by simp;omega
  have h5:decide (t<0)=false:=by simp;omega
  have h6:decide (t>7)=false:=by simp;omega
  have h7:=vX (t-d)
  have h8:=vX d
  rw[hw,h1,h2,h3,h4,h5,h6]
  simp only[bt,Bool.cond_eq_ite,dx]
  cases o
  ·simp only[nh,iF,false_implies,true_implies,and_true]
   repeat' split
   all_goals simp_all
   all_goals omega
  ·simp only[fx,true_implies,h7]
   repeat' split
   all_goals simp_all
   all_goals omega
 ·constructor
  ·intro h
   exfalso
   have:uT e d s o t=false:=by
    unfold uT
    by_cases h1:e<0
    ·simp only[h1,nk,aU]
    by_cases h2:e>60
    ·simp only[h1,h2,nk,decide_false,aU,bt]
    by_cases h3:d<1
    ·simp only[h1,h2,h3,nk,decide_false,aU,bt]
    by_cases h4:d>8
    ·simp only[h1,h2,h3,h4,nk,decide_false,aU,bt]
    by_cases h5:t<0
    ·simp only[h1,h2,h3,h4,h5,nk,decide_false,aU,bt]
     cases s==1<;>cases s==-1<;>rfl
    by_cases h6:t>7
    ·simp only[h1,h2,h3,h4,h5,h6,nk,decide_false,aU,bt]
     cases s==1<;>cases s==-1<;>rfl
    exact absurd ⟨⟨om,om⟩,⟨om,om⟩,⟨om,om⟩⟩ hb
   rw[this]at h
   cases h
  ·rintro⟨a,b,c,d,_⟩
   exact absurd ⟨a,b,d⟩ hb
noncomputable def fL (p:Int)(L:List Con):Bool:=(p==2)&&(qq L&&L.all dt)
theorem uU {L:List Con}{k:Nat}(hk:k<L.length)(q:Con→Bool):(L.drop k).all q=(q (at_ L k)&&(L.drop (k+1)).all q):=by
 rw[sb hk];rfl
theorem Cl:∀{a b:List Int}{L:List Con},dz L (a++b)=dz (dz L a) b
 |[],_,_=>rfl
 |i::a,b,L=>by simp only[kT,dz];exact Cl
theorem Md {L:List Con}{l:List Int}{t:Nat}(ht:t<l.length):dz L (l.take (t+1))=du (dz L (l.take t)) (l.getD t 0) 0:=by
 rw[uR ht,Cl];rfl
theorem DQ:∀{L:List Con}{l s:Int},s≤8→px L l s=true→(L.length:Int)+s≤8
 |[],l,s,h,_=>by simp;omega
 |c::L,l,s,h,ho=>by
  simp only[px,Bs,bj,ib]at ho
  have:=DQ (L:=L) om ho.2
  simp only[dg]
  omega
theorem LA {L:List Con}(h:qq L=true):px L (-1) 0=true∧0<L.length∧L.length≤8:=by
 unfold qq at h
 rw[bj,ib]at h
 refine⟨h.1,?_,?_⟩
 ·cases L with
  |nil=>simp[gZ]at h
  |cons c l=>simp
 ·have:=DQ de h.1;omega
theorem Pt {L:List Con}(h:fL 2 L=true):bm L∧(∀c∈L,IO c)∧0<L.length∧L.length≤8:=by
 unfold fL at h
 simp only[bj]at h
 obtain⟨_,h1,h2⟩:=h
 obtain⟨h3,h4,h5⟩:=LA h1
 have key:∀c∈L,qx c:=fun c hc=>ea (cK.1 h2 c hc)
 refine⟨⟨om,fun c hc=>?_⟩,fun c hc=>?_,h4,h5⟩
 ·obtain⟨a,b,d,e,_⟩:=key c hc
  exact⟨⟨a.1,om⟩,⟨b.1,om⟩,d,e⟩
 ·obtain⟨a,b,d,e,_⟩:=key c hc
  unfold IO uj
  omega
def pD (c:Con)(last s:Int):Bool:=decide (last<c.exp∧c.exp≤60∧1≤c.dim∧c.dim≤8-s)
def iw:List Con→Int→Int→Bool
 |[],_,_=>true
 |c::l,last,s=>pD c last s&&iw l c.exp (s+c.dim)
def fg (p:Int)(L:List Con):Bool:=(p==2)&&(!L.isEmpty&&iw L (-1) 0)
def n9 (c:Con):Bool:=decide (c.sign=1∨c.sign=-1)
theorem zq:∀{L:List Con}{l s:Int},-1≤l→px L l s=(iw L l s&&L.all n9)
 |[],_,_,_=>rfl
 |c::L,l,s,h=>by
  rw[Bool.eq_iff_iff]
  simp only[px,iw,Bs,pD,n9,lI,bj,ib]
  constructor
  ·rintro⟨h1,h2⟩
   rw[zq om,bj]at h2
   exact⟨⟨⟨h1.2.2.1,h1.2.1,h1.2.2.2.2.1,h1.2.2.2.2.2⟩,h2.1⟩,h1.2.2.2.1,h2.2⟩
  ·rintro⟨⟨h1,h2⟩,h3,h4⟩
   refine⟨⟨om,h1.2.1,h1.1,h3,h1.2.2.1,h1.2.2.2⟩,?_⟩
   rw[zq om,bj]
   exact⟨h2,h4⟩
theorem FP:∀{L:List Con}{l s:Int},iw L l s=true→0≤gZ L∧(L≠[]→0<gZ L)
 |[],_,_,_=>by simp[gZ]
 |c::L,l,s,h=>by
  simp only[iw,pD,bj,ib]at h
  have:=FP h.2
  simp only[gZ]
  exact⟨om,fun _=>om⟩
theorem DL (L:List Con):qq L=(!L.isEmpty&&iw L (-1) 0&&L.all n9):=by
 unfold qq
 rw[zq de]
 cases hs:iw L (-1) 0 with
 |false=>simp
 |true=>
  have hp:=FP hs
  cases L with
  |nil=>simp[gZ]
  |cons c l=>
   have:=hp.2 si
   simp[this]
theorem O8 (p:Int)(L:List Con):fL p L=(fg p L&&L.all dt):=by
 unfold fL fg
 rw[DL]
 have hl:L.all dt=true→L.all n9=true:=by
  intro h
  rw[cK]at h⊢
  intro c hc
  have:=ea (h c hc)
  exact bJ this.2.2.1
 cases h1:L.all dt with
 |false=>simp
 |true=>rw[hl h1];simp
def pv (c:Con):Bool:=decide (0≤c.oddity∧c.oddity≤7)&&(c.odd||(decide (c.dim%2=0)&&decide (c.oddity=0)))
def te (L:List Con)(i:Nat):Bool:=pv (at_ L i)&&!(fP L i&&(!((dP L i).getD 0 0==(i:Int))&&!((at_ L i).oddity==0)))
def gy (L:List Con):List Int→Int
 |[]=>0
 |i::l=>(at_ L i.toNat).dim+gy L l
def tf (L:List Con)(l:List Int):Bool:=decide (((at_ L (l.getD 0 0).toNat).oddity-gy L l)%2=0)
def l5 (L:List Con)(l:List Int):Bool:=l.tail.all fun i=>(at_ L i.toNat).oddity==0
def ci (p:Int)(L:List Con):Bool:=(p==2)&&(qq L&&((List.range L.length).all (te L)&&(bc L).all (tf L)))
def kv (p:Int)(L:List Con):Bool:=fg p L&&(L.all (fun c=>n9 c&&pv c)&&(bc L).all (fun l=>l5 L l&&tf L l))
theorem DM {s n:Nat}:(gj s (n+1)).tail=gj (s+1) n:=rfl
theorem NE {L:List Con}:(∀i,i<L.length→fP L i=true→(dP L i).getD 0 0≠(i:Int)→(at_ L i).oddity=0)↔(∀l∈bc L,l5 L l=true):=by
 constructor
 ·intro h l hl
  obtain⟨s,n,e,hs,hr⟩:=D1 hl
  have hin:=(kX l hl).2.1
  unfold l5
  rw[cK]
  intro x hx
  rw[e,DM,vx]at hx
  have hx2:x∈l:=by rw[e,vx];omega
  have hlt:=hin x hx2
  obtain⟨h1,h2⟩:=hr (x.toNat-s) om
  rw[show s+(x.toNat-s)=x.toNat by omega]at h1 h2
  have h3:=h x.toNat om h1 (fun e2=>by rw[CC om h1,h2 om]at e2;cases e2)
  rw[h3];rfl
 ·intro h i hi ho hne
  obtain⟨s,n,t,e,h1,h2,h3,h4⟩:=E4 hi ho
  have hz:=h _ (Df hi ho).1
  unfold l5 at hz
  rw[cK]at hz
  have ht:0<t:=by
   rcases kS t with h0|h0
   ·subst h0
    rw[fv]at h1
    exact absurd ((CC hi ho).2 (by rw[h1];exact h3)) hne
   ·exact h0
  have:=hz (i:Int) (by rw[e,DM,vx];omega)
  simpa using this
theorem zr {L:List Con}(q:Con→Bool):L.all q=true↔∀i,i<L.length→q (at_ L i)=true:=by
 rw[cK]
 constructor
 ·intro h i hi
  have:at_ L i=L[i]:=by simp[at_,hi]
  rw[this];exact h _ (jF hi)
 ·intro h c hc
  obtain⟨i,hi,rfl⟩:=ul hc
  have:at_ L i=L[i]:=by simp[at_,hi]
  rw[←this];exact h i hi
theorem zu (p:Int)(L:List Con):kv p L=ci p L:=by
 rw[Bool.eq_iff_iff]
 unfold kv ci fg
 rw[DL]
 simp only[bj,cK (l:=bc L),cK (l:=List.range L.length),List.mem_range,zr]
 have key:(∀i,i<L.length→te L i=true)↔(∀i,i<L.length→pv (at_ L i)=true)∧(∀l∈bc L,l5 L l=true):=by
  rw[←NE]
  constructor
  ·intro h
   refine⟨fun i hi=>?_,fun i hi ho hne=>?_⟩
   ·have:=h i hi
    unfold te at this
    rw[bj]at this
    exact this.1
   ·have:=h i hi
    unfold te at this
    simp only[ho,bj,oC,mp,Bool.and_eq_false_iff,Bool.not_eq_false',dx]at this
    rcases this.2 with h1|h1
    ·exact absurd h1 hne
    ·exact h1
  ·rintro⟨h1,h2⟩ i hi
   unfold te
   rw[bj]
   refine⟨h1 i hi,?_⟩
   cases ho:fP L i with
   |false=>rfl
   |true=>
    by_cases hf:(dP L i).getD 0 0=(i:Int)
    ·rw[dx.2 hf];rfl
    ·rw[dx.2 (h2 i hi ho hf)];simp only[oD,mt9,lH]
 constructor
 ·rintro⟨⟨h1,h2,h3⟩,h4,h5⟩
  exact⟨h1,⟨⟨h2,h3⟩,fun i hi=>(h4 i hi).1⟩,key.2 ⟨fun i hi=>(h4 i hi).2,fun l hl=>(h5 l hl).1⟩,fun l hl=>(h5 l hl).2⟩
 ·rintro⟨h1,⟨⟨h2,h3⟩,h4⟩,h5,h6⟩
  have:=key.1 h5
  exact⟨⟨h1,h2,h3⟩,fun i hi=>⟨h4 i hi,this.1 i hi⟩,fun l hl=>⟨this.2 l hl,h6 l hl⟩⟩
theorem Ar:∀{L:List Con}{l s:Int},-1≤l→0≤s→iw L l s=true→(∀c∈L,0≤c.exp∧c.exp≤60∧1≤c.dim∧c.dim≤8)∧(gZ L≤8-s∨L=[])∧(L.length:Int)≤gZ L
 |[],_,_,_,_,_=>⟨fun c hc=>by simp at hc,.inr rfl,by simp[gZ]⟩
 |c::L,l,s,h0,hs,h=>by
  simp only[iw,pD,bj,ib]at h
  obtain⟨h1,h2⟩:=h
  obtain⟨i1,i2,i3⟩:=Ar (L:=L) (l:=c.exp) (s:=s+c.dim) om om h2
  refine⟨fun x hx=>?_,.inl ?_,?_⟩
  ·rcases bC.1 hx with rfl|hx
   ·omega
   ·exact i1 x hx
  ·simp only[gZ]
   rcases i2 with i2|i2
   ·omega
   ·rw[i2];simp only[gZ];omega
  ·simp only[gZ,dg]
   omega
structure TS (c:Con):Prop where
 exp:0≤c.exp∧c.exp≤60
 dim:1≤c.dim∧c.dim≤8
 sign:c.sign=1∨c.sign=-1
 odt:0≤c.oddity∧c.oddity≤7
 even:c.odd=false→c.dim%2=0∧c.oddity=0
theorem rO {L:List Con}(h:ci 2 L=true):iw L (-1) 0=true∧0<L.length∧L.length≤8∧gZ L≤8∧∀k,k<L.length→TS (at_ L k):=by
 rw[←zu]at h
 simp only[kv,fg,bj]at h
 obtain⟨⟨_,h1,h2⟩,h3,_⟩:=h
 obtain⟨i1,i2,i3⟩:=Ar de de h2
 have hne:L≠[]:=by intro e;rw[e]at h1;cases h1
 have hd:gZ L≤8:=by rcases i2 with i2|i2;omega;exact absurd i2 hne
 refine⟨h2,nf.2 hne,om,hd,fun k hk=>?_⟩
 have e:at_ L k=L[k]:=by simp[at_,hk]
 have h4:=i1 _ (jF hk)
 have h5:=(zr _).1 h3 k hk
 rw[←e]at h4
 simp only[bj,n9,pv,ib,nj]at h5
 exact⟨⟨h4.1,h4.2.1⟩,h4.2.2,h5.1,h5.2.1,fun ho=>by rcases h5.2.2 with h|h;rw[ho]at h;cases h;exact h⟩
theorem kj {L:List Con}(h:ci 2 L=true):bm L:=by
 obtain⟨_,_,h1,_,h2⟩:=rO h
 refine⟨om,fun c hc=>?_⟩
 obtain⟨k,hk,rfl⟩:=ul hc
 have:=h2 k hk
 rw[show at_ L k=L[k] by simp[at_,hk]]at this
 exact⟨⟨this.exp.1,by have:=this.exp.2;omega⟩,⟨this.dim.1,by have:=this.dim.2;omega⟩,this.sign,this.odt⟩
theorem E7 {L:LC}{k:Nat}(hk:k<L.length)(l s:Int):iw (L.drop k) l s=(pD (at_ L k) l s&&iw (L.drop (k+1)) (at_ L k).exp (s+(at_ L k).dim)):=by
 rw[sb hk];rfl
def UC (L:LC):aO:=⟨⟨[(3,.int .i64 0),(4,.int .i64 (-1)),(17,(bg L).av),(18,vi L.length),(19,.int .i64 0)],[],1001⟩,some (iw L (-1) 0),fun d=>match d with
 |true=>(.exit 0,⟨[],[],1001⟩)
 |false=>(.ret,⟨[(2,.bool false)],[],1001⟩)⟩
theorem PC (L:LC)(hn:L.length≤1000):An 1 Tryz.f116 [0,1,0,1,1,1] (UC L):=by
 refine iB c0 aE (u3 fun(k:Nat)(s e:Int)=>(⟨[(3,vi s),(4,vi e),(17,(bg L).av),(18,vi L.length),(19,vi k)],[],1001⟩:St)) (u3 fun(k:Nat)(s e:Int)=>(L.length-k:Nat)) (fun(d:Bool)=>u3 fun(k:Nat)(s e:Int)=>(k≤L.length∧(0≤s∧s≤8)∧iw (L.drop k) e s=d:Prop)) ?_ ?_
 ·intro d hd
  exact st (0,0,-1) [rq (0:Int),rq (-1:Int),lq L,rq (↑L.length:Int),(0:Int)=↑(0:Nat)] J3 (by exact⟨bQ _,de,hd⟩)
 ·rintro d hd ⟨k,s,e⟩ hI
  obtain⟨hk,hs,hd'⟩:=hI
  have hs:0≤s∧s≤8:=hs
  have hd':iw (L.drop k) e s=_:=hd'
  have hk:k≤L.length:=hk
  have ek:=wk k
  have e8:w6.wrap (8-s)=8-s:=wo
  refine oe (decide ((↑k:Int)<↑L.length)) (fun d1=>let y1:List Prop:=[(0:Int)≤↑k∧(↑k:Int)<↑L.length,ty d1];have u1:ar y1:=⟨?_,d1⟩;oe (decide ((L.getD k z0c).exp≤e)) (fun d2=>bH d false [true,true] (ty d2::y1) ⟨d2,u1⟩ ?_)
   (fun d2=>oe (decide ((L.getD k z0c).exp>60)) (fun d3=>bH d false (tp 121) (ty d3::ty d2::y1) ⟨d3,d2,u1⟩ ?_)
   (fun d3=>oe (decide ((L.getD k z0c).dim<1)) (fun d4=>bH d false (tp 1221) (ty d4::ty d3::ty d2::y1) ⟨d4,d3,d2,u1⟩ ?_)
   (fun d4=>oe (decide ((L.getD k z0c).dim>w6.wrap ((8:Int)-s))) (fun d5=>bH d false (tp 12221) (ty d5::ty d4::ty d3::ty d2::y1) ⟨d5,d4,d3,d2,u1⟩ ?_)
   (fun d5=>aH (tp 12222) (k+1,s+(at_ L k).dim,(at_ L k).exp) ((w6.wrap (s+(L.getD k z0c).dim)=s+(at_ L k).dim)::((L.getD k z0c).exp=(at_ L k).exp)::(lq L)::rq (↑L.length:Int)::(w6.wrap ((↑k:Int)+1)=↑(k+1))::ty d5::ty d4::ty d3::ty d2::y1) ⟨?_,?_,?_,?_,?_,d5,d4,d3,d2,u1⟩ ?_ ?_)))))
   (fun d1=>bH d true [false] [ty d1] d1 ?_)
  all_goals((try clear u1);(try clear y1))
  all_goals first|exact tZ|(refine cL.mk ?_;(simp only[e8,cg,dT,dF,iV]at*;rw[E7 om,show pD (at_ L k) e s=true from bJ ⟨by simp only[at_];omega,by simp only[at_];omega,by simp only[at_];omega,by simp only[at_];omega⟩]at hd';exact⟨om,by simp only[at_];omega,hd'⟩))|(refine gu.mk ?_;cases d<;>first|rfl|(exfalso;(simp only[e8,cg,dT,dF,iV]at*;first|(rw[gT om]at hd';cases hd';done)|(rw[E7 om,show pD (at_ L k) e s=false from bI (by simp only[at_];omega)]at hd';cases hd';done))))|exact Kg
theorem PD (p:Int)(L:LC)(hn:L.length≤1000):ax Tryz.prog [] 116 [.agg [.int .i64 p,bg L]] (.bool (fg p L)):=by
 refine pr c0 Tryz.func116 (bX (PC L hn)) ?_
 refine oe (p==2) (fun d1=>oe ((↑L.length:Int)==0) (fun d2=>lr [false,true] [false=fg p L,ty d2,ty (dN d1)] ⟨?_,d2,(dN d1)⟩)
  (fun d2=>oe (iw L (-1:Int) (0:Int)) (fun d3=>lr (tp 221) [true=fg p L,lq L,rq (↑L.length:Int),ty d3,ty d2,ty (dN d1)] ⟨?_,?_,?_,d3,d2,(dN d1)⟩)
  (fun d3=>lr (tp 222) [false=fg p L,lq L,rq (↑L.length:Int),ty d3,ty d2,ty (dN d1)] ⟨?_,?_,?_,d3,d2,(dN d1)⟩)))
  (fun d1=>lr [true] [false=fg p L,ty (dN d1)] ⟨?_,(dN d1)⟩)
 all_goals first|(refine pR.mk ?_;(simp_all))|(first|exact tz|(unfold fg;simp_all;done))
theorem MO (c:Con):cy c.exp c.dim c.sign c.odd c.oddity=dt c:=M2 c
def zK:List cq:=[
 ⟨117,[],fun A=>match A with
  |[.agg [.int .i64 e,.int .i64 d,.int .i64 s,.bool o,.int .i64 t]]=>some (.bool (dt ⟨e,d,s,o,t⟩),[])
  |_=>none⟩,
 ⟨116,[],fun A=>match A with
  |[.agg [.int .i64 p,.sl n 5 row]]=>some (.bool (fg p (aF n row)),[(∀i,i<n→row i=(Con.ofR (row i)).rvs)∧n≤1000])
  |_=>none⟩]
theorem np:∀e∈zK,cJ Tryz.prog e:=by
 intro e he
 simp only[zK,bC,cU,cY]at he
 rcases he with rfl|rfl
 all_goals
  intro A R ms h hm
  simp only at h
  split at h
  all_goals first|exact kL|cases h
 ·rw[←MO];exact SI _ _ _ _ _
 ·obtain⟨h1,h2⟩:=aA hm
  exact ax.imp (PD _ _ j9) (.cons (.agg (.cons .same (.cons (.con h1) .nil))) .nil)
def UD (L:LC):aO:=⟨⟨[(9,(bg L).av),(10,vi L.length),(11,.int .i64 0)],[],1001⟩,some (L.all dt),fun d=>match d with
 |true=>(.exit 0,⟨[],[],1001⟩)
 |false=>(.ret,⟨[(2,.bool false)],[],1001⟩)⟩
theorem PE (L:LC)(hn:L.length≤1000):An 1 Tryz.f73 [0,1,0,1,1] (UD L):=by
 refine iB (cE np) aE (fun(k:Nat)=>(⟨[(9,(bg L).av),(10,vi L.length),(11,vi k)],[],1001⟩:St)) (fun(k:Nat)=>(L.length-k:Nat)) (fun(d:Bool)=>fun(k:Nat)=>(k≤L.length∧(L.drop k).all dt=d:Prop)) ?_ ?_
 ·intro d hd
  exact st (0) [lq L,rq (↑L.length:Int),(0:Int)=↑(0:Nat)] (by refine⟨?_,?_,(?_:(0:Int)=↑(0:Nat))⟩<;>(first|rfl|exact⟨rfl,rfl⟩|assumption|omega|simp_all)) (by exact⟨bQ _,hd⟩)
 ·rintro d hd k hI
  obtain⟨hk,hs⟩:=hI
  have ek:=wk k
  refine oe (decide ((↑k:Int)<↑L.length)) (fun d1=>let y1:List Prop:=[(0:Int)≤↑k∧(↑k:Int)<↑L.length,ty d1];have u1:ar y1:=⟨?_,d1⟩;oe (dt (L.getD k z0c)) (fun d2=>aH [true,false] (k+1) ((lq L)::rq (↑L.length:Int)::(w6.wrap ((↑k:Int)+1)=↑(k+1))::ty (dN d2)::y1) ⟨?_,?_,?_,(dN d2),u1⟩ ?_ ?_)
   (fun d2=>bH d false [true,true] (ty (dN d2)::y1) ⟨(dN d2),u1⟩ ?_))
   (fun d1=>bH d true [false] [ty d1] d1 ?_)
  all_goals((try clear u1);(try clear y1))
  all_goals first|exact tZ|(refine cL.mk ?_;(simp only[dT]at*;rw[uU om]at hs;rw[show dt (at_ L k)=true from d2]at hs;exact⟨om,hs⟩))|(refine gu.mk ?_;cases d<;>first|rfl|(exfalso;(simp only[dT,dF]at*;first|(rw[gT om]at hs;cases hs;done)|(rw[uU om]at hs;rw[show dt (at_ L k)=false from d2]at hs;cases hs;done))))|(first|rfl|exact⟨rfl,rfl⟩|((try simp only[ek,cg,dT,dF]at*)<;>omega))
theorem xY (p:Int)(L:LC)(hn:L.length≤1000):ax Tryz.prog [] 73 [.agg [.int .i64 p,bg L]] (.bool (fL p L)):=by
 refine pr (cE np) Tryz.func73 (bX (PE L hn)) ?_
 refine(let y1:List Prop:=[(lz L)∧L.length≤1000];have u1:ar y1:=(?_:(lz L)∧L.length≤1000);oe (fg p (aF L.length fun i=>(L.getD i z0c).rvs)) (fun d1=>oe (L.all dt) (fun d2=>lr [false,true] ((true=fL p L)::(lq L)::rq (↑L.length:Int)::ty d2::ty (dN d1)::y1) ⟨?_,?_,?_,d2,(dN d1),u1⟩)
  (fun d2=>lr [false,false] ((false=fL p L)::(lq L)::rq (↑L.length:Int)::ty d2::ty (dN d1)::y1) ⟨?_,?_,?_,d2,(dN d1),u1⟩))
  (fun d1=>lr [true] ((false=fL p L)::ty (dN d1)::y1) ⟨?_,(dN d1),u1⟩))
 all_goals((try clear u1);(try clear y1))
 all_goals first|(first|exact tz|exact pJ|((try simp only[cb]at*)<;>first|trivial|(rw[O8];simp_all;done)))
def jf (c:Con):Bool:=n9 c&&pv c
def oh (p:Int)(L:LC):List (Nat×ag):=[(1000,⟨.plain [vi p,(bg L).av],50,0,false,true⟩)]
def UE (p:Int)(L:LC):aO:=⟨⟨[(1,.ptr 1000 0),(14,(bg L).av),(15,vi L.length),(16,.int .i64 0)],oh p L,1010⟩,some (L.all jf),fun d=>match d with
 |true=>(.exit 0,⟨[(1,.ptr 1000 0)],oh p L,1010⟩)
 |false=>(.ret,⟨[(2,.bool false)],[],1010⟩)⟩
theorem yI {c:Con}:jf c=true↔(c.sign=1∨c.sign=-1)∧(0≤c.oddity∧c.oddity≤7)∧(c.odd=false→c.dim.tmod 2=0∧c.oddity=0):=by
 simp only[jf,n9,pv,bj,dT,nj,vX]
 cases c.odd<;>simp
theorem PF {c:Con}(h:¬((c.sign=1∨c.sign=-1)∧(0≤c.oddity∧c.oddity≤7)∧(c.odd=false→c.dim.tmod 2=0∧c.oddity=0))):jf c=false:=by
 cases hf:jf c with
 |false=>rfl
 |true=>exact absurd (yI.1 hf) h
theorem E8 (p:Int)(L:LC)(hn:L.length≤1000):An 1 Tryz.f71 [0,1,0,1,1] (UE p L):=by
 refine iB c0 aE (fun(k:Nat)=>(⟨[(1,.ptr 1000 0),(14,(bg L).av),(15,vi L.length),(16,vi k)],oh p L,1010⟩:St)) (fun(k:Nat)=>(L.length-k:Nat)) (fun(d:Bool)=>fun(k:Nat)=>(k≤L.length∧(L.drop k).all jf=d:Prop)) ?_ ?_
 ·intro d hd
  exact st (0) [lq L,rq (↑L.length:Int),(0:Int)=↑(0:Nat),p=p,lq L] xp (by exact⟨bQ _,hd⟩)
 ·rintro d hd k hI
  obtain⟨hk,hs⟩:=hI
  have ek:=wk k
  refine(let t1:List Prop→List Prop:=fun l0=>(lq L)::rq (↑L.length:Int)::(w6.wrap ((↑k:Int)+1)=↑(k+1))::(p=p)::(lq L)::l0;oe (decide ((↑k:Int)<↑L.length)) (fun d1=>let y1:List Prop:=[(0:Int)≤↑k∧(↑k:Int)<↑L.length,ty d1];have u1:ar y1:=⟨?_,d1⟩;oe ((L.getD k z0c).sign==1) (fun d2=>let y2:List Prop:=ty (dN d2)::y1;have u2:ar y2:=⟨(dN d2),u1⟩;oe (decide ((L.getD k z0c).oddity<0)) (fun d3=>bH d false (tp 121) (ty d3::y2) ⟨d3,u2⟩ ?_)
   (fun d3=>oe (decide ((L.getD k z0c).oddity>7)) (fun d4=>bH d false (tp 1221) (ty d4::ty d3::y2) ⟨d4,d3,u2⟩ ?_)
   (fun d4=>oe ((L.getD k z0c).odd) (fun d5=>aH (tp 12222) (k+1) (t1 (ty (dN d5)::ty d4::ty d3::y2)) ?_ ?_ ?_)
   (fun d5=>let y3:List Prop:=((2:Int)≠(0:Int))::ty (dN d5)::ty d4::ty d3::y2;have u3:ar y3:=⟨?_,(dN d5),d4,d3,u2⟩;oe ((L.getD k z0c).dim.tmod (2:Int)==0) (fun d6=>oe ((L.getD k z0c).oddity==0) (fun d7=>aH (tp 1222122) (k+1) (t1 (ty (dN d7)::ty (dN d6)::y3)) ?_ ?_ ?_)
   (fun d7=>bH d false (tp 1222121) (ty (dN d7)::ty (dN d6)::y3) ⟨(dN d7),(dN d6),u3⟩ ?_))
   (fun d6=>bH d false (tp 122211) (ty (dN d6)::y3) ⟨(dN d6),u3⟩ ?_)))))
   (fun d2=>let y2:List Prop:=ty (dN d2)::y1;have u2:ar y2:=⟨(dN d2),u1⟩;oe ((L.getD k z0c).sign==-1) (fun d3=>let y3:List Prop:=ty (dN d3)::y2;have u3:ar y3:=⟨(dN d3),u2⟩;oe (decide ((L.getD k z0c).oddity<0)) (fun d4=>bH d false (tp 1121) (ty d4::y3) ⟨d4,u3⟩ ?_)
   (fun d4=>oe (decide ((L.getD k z0c).oddity>7)) (fun d5=>bH d false (tp 11221) (ty d5::ty d4::y3) ⟨d5,d4,u3⟩ ?_)
   (fun d5=>oe ((L.getD k z0c).odd) (fun d6=>aH (tp 112222) (k+1) (t1 (ty (dN d6)::ty d5::ty d4::y3)) ?_ ?_ ?_)
   (fun d6=>let y4:List Prop:=((2:Int)≠(0:Int))::ty (dN d6)::ty d5::ty d4::y3;have u4:ar y4:=⟨?_,(dN d6),d5,d4,u3⟩;oe ((L.getD k z0c).dim.tmod (2:Int)==0) (fun d7=>oe ((L.getD k z0c).oddity==0) (fun d8=>aH (tp 11222122) (k+1) (t1 (ty (dN d8)::ty (dN d7)::y4)) ?_ ?_ ?_)
   (fun d8=>bH d false (tp 11222121) (ty (dN d8)::ty (dN d7)::y4) ⟨(dN d8),(dN d7),u4⟩ ?_))
   (fun d7=>bH d false (tp 1122211) (ty (dN d7)::y4) ⟨(dN d7),u4⟩ ?_)))))
   (fun d3=>bH d false (tp 111) (ty (dN d3)::y2) ⟨(dN d3),u2⟩ ?_)))
   (fun d1=>bH d true [false] [p=p,lq L,ty d1] ⟨?_,?_,d1⟩ ?_))
  all_goals with_reducible repeat' first|exact dA|refine bx ?_ ?_|refine bz ?_
  all_goals((try clear u4);(try clear y4);(try clear u3);(try clear y3);(try clear u2);(try clear y2);(try clear u1);(try clear y1))
  all_goals first|exact tZ|(refine cL.mk ?_;(simp only[dT,dF,cg,dx,cp,ne_eq,iV]at*;rw[uU om]at hs;rw[show jf (at_ L k)=true from yI.2 (by simp only[at_];refine⟨?_,?_,?_⟩<;>first|omega|(intro ho;simp_all;done)|(simp_all;done))]at hs;exact⟨om,hs⟩))|(refine gu.mk ?_;cases d<;>first|rfl|(exfalso;(simp only[dT,dF,cg,dx,cp,ne_eq,iV]at*;first|(rw[gT om]at hs;cases hs;done)|(rw[uU om]at hs;rw[show jf (at_ L k)=false from PF (by simp only[at_];first|(intro hq;omega)|(rintro⟨q1,q2,q3⟩;have q4:=q3 aS;first|omega|(simp_all;done)))]at hs;cases hs;done))))|(first|exact tz|decide|((try simp only[ek,cg,dT,dF]at*)<;>omega))
theorem zL {L:LC}(hL:bm L):∀{l:List Int},cI L.length l→0≤gy L l∧gy L l≤1000*l.length
 |[],_=>by simp[gy]
 |i::l,h=>by
  have h1:=h i si
  have h2:=(hL.at (k:=i.toNat) om).2.1
  have ih:=zL hL (l:=l) (fun x hx=>h x (by simp[hx]))
  simp only[gy,dg]
  omega
theorem Of (L:LC)(a b:List Int):gy L (a++b)=gy L a+gy L b:=by
 induction a with
 |nil=>simp[gy]
 |cons c a ih=>simp only[kT,gy,ih];omega
theorem MP {L:LC}{l:List Int}{t:Nat}(ht:t<l.length):gy L (l.take (t+1))=gy L (l.take t)+(at_ L (l.getD t 0).toNat).dim:=by
 rw[uR ht,Of];simp[gy]
theorem UF {L:LC}{l:List Int}{t:Nat}(hL:bm L)(hl:cI L.length l)(ht:t<l.length):0≤(at_ L (l.getD t 0).toNat).dim∧(at_ L (l.getD t 0).toNat).dim≤1000:=by
 have h1:=hl.at ht
 have:=(hL.at (k:=(l.getD t 0).toNat) om).2.1
 omega
def lv (L:LC)(l:List Int)(t:Nat):Bool:=(l.drop (Nat.max t 1)).all fun i=>(at_ L i.toNat).oddity==0
theorem Sp {L:LC}{l:List Int}:lv L l 0=l5 L l:=by unfold lv l5;rw[show Nat.max 0 1=1 from rfl,List.drop_one]
theorem Sq {L:LC}{l:List Int}{t:Nat}(h:¬0<t):lv L l (t+1)=lv L l t:=by
 have:t=0:=by omega
 subst this;rfl
theorem Ga {L:LC}{l:List Int}{t:Nat}(h:0<t)(ht:t<l.length):lv L l t=((at_ L (l.getD t 0).toNat).oddity==0&&lv L l (t+1)):=by
 unfold lv
 rw[show Nat.max t 1=t by simp only[Nat.max_def];split<;>omega,show Nat.max (t+1) 1=t+1 by simp only[Nat.max_def];split<;>omega,oY ht];rfl
theorem Sr {L:LC}{l:List Int}{t:Nat}(ht:l.length≤t):lv L l t=true:=by
 unfold lv
 rw[gT (by simp only[Nat.max_def];split<;>omega)];rfl
def Bz (P:List (List Int))(j:Nat):List (Nat×AV):=[(1,.ptr 1000 0),(54,(gb .i64 P).av),(55,vi P.length),(56,vi j),(6,(rI .i64 (ah P j)).av)]
def Hz (p:Int)(L:LC)(P:List (List Int))(j:Nat):aO:=⟨⟨Bz P j++[(7,.int .i64 0),(60,(rI .i64 (ah P j)).av),(61,vi (ah P j).length),(62,.int .i64 0)],oh p L,1010⟩,some (l5 L (ah P j)),fun d=>match d with
 |true=>(.exit 4,⟨Bz P j++[(7,vi (gy L (ah P j)))],oh p L,1010⟩)
 |false=>(.ret,⟨[(2,.bool false)],[],1010⟩)⟩
theorem PG (p:Int)(L:LC)(P:List (List Int))(j:Nat)(hL:bm L)(hr:cI L.length (ah P j))(hn:(ah P j).length≤1000):An 1 Tryz.f71 [0,1,0,1,1,0,0,1,1,0,0,1,0,1,1,1] (Hz p L P j):=by
 refine iB c0 aE (u2 fun(t:Nat)(n:Int)=>(⟨Bz P j++[(7,vi n),(60,(rI .i64 (ah P j)).av),(61,vi (ah P j).length),(62,vi t)],oh p L,1010⟩:St)) (u2 fun(t:Nat)(n:Int)=>((ah P j).length-t:Nat)) (fun(d:Bool)=>u2 fun(t:Nat)(n:Int)=>(t≤(ah P j).length∧n=gy L ((ah P j).take t)∧lv L (ah P j) t=d:Prop)) ?_ ?_
 ·intro d hd
  exact st (0,0) [sr P fun i=>[rI IntKind.i64 (P.getD i [])],rq (↑P.length:Int),rq (↑j:Int),sr (ah P j) fun j_1=>[RV.int IntKind.i64 ((ah P j).getD j_1 (0:Int))],rq (0:Int),sr (ah P j) fun j_1=>[RV.int IntKind.i64 ((ah P j).getD j_1 (0:Int))],rq (↑(ah P j).length:Int),(0:Int)=↑(0:Nat),p=p,lq L] (by refine⟨?_,?_,?_,?_,?_,?_,?_,?_,?_,(?_:lq L)⟩<;>(first|rfl|exact⟨rfl,rfl⟩|assumption|omega|simp_all)) (by exact⟨bQ _,rfl,Sp.trans hd⟩)
 ·rintro d hd ⟨t,n⟩ hI
  obtain⟨ht,hs,hz⟩:=hI
  have ht:t≤(ah P j).length:=ht
  have hs:n=gy L ((ah P j).take t):=hs
  have ek:=wk t
  have hb:=zL hL (l:=(ah P j).take t) (fun x hx=>hr x (List.mem_of_mem_take hx))
  have hb2:(((ah P j).take t).length:Int)≤1000:=by simp only[rE];omega
  refine(let t1:List Prop→List Prop:=fun l0=>(let v1:=(ah P j).getD t (0:Int);(sr P fun i=>[rI IntKind.i64 (P.getD i [])])::rq (↑P.length:Int)::rq (↑j:Int)::(sr (ah P j) fun j_1=>[RV.int IntKind.i64 ((ah P j).getD j_1 (0:Int))])::(w6.wrap (n+(L.getD v1.toNat z0c).dim)=n+(at_ L v1.toNat).dim)::(sr (ah P j) fun j_1=>[RV.int IntKind.i64 ((ah P j).getD j_1 (0:Int))])::rq (↑(ah P j).length:Int)::(w6.wrap ((↑t:Int)+1)=↑(t+1))::(p=p)::(lq L)::l0);oe (decide ((↑t:Int)<(↑(ah P j).length:Int))) (fun d1=>let y1:List Prop:=[(0:Int)≤(ah P j).getD t (0:Int)∧(ah P j).getD t (0:Int)<↑L.length,(0:Int)≤↑t∧(↑t:Int)<(↑(ah P j).length:Int),ty d1];have u1:ar y1:=⟨?_,?_,d1⟩;oe (decide ((↑t:Int)>0)) (fun d2=>let y2:List Prop:=((0:Int)≤(ah P j).getD t (0:Int)∧(ah P j).getD t (0:Int)<↑L.length)::ty d2::y1;have u2:ar y2:=⟨?_,d2,u1⟩;oe ((L.getD ((ah P j).getD t (0:Int)).toNat z0c).oddity==0) (fun d3=>aH (tp 112) (t+1,n+(at_ L ((ah P j).getD t 0).toNat).dim) (t1 (ty (dN d3)::y2)) ⟨?_,?_,?_,?_,?_,?_,?_,?_,?_,?_,(dN d3),u2⟩ ?_ ?_)
   (fun d3=>bH d false (tp 111) (ty (dN d3)::y2) ⟨(dN d3),u2⟩ ?_))
   (fun d2=>aH [true,false] (t+1,n+(at_ L ((ah P j).getD t 0).toNat).dim) (t1 (ty d2::y1)) ⟨?_,?_,?_,?_,?_,?_,?_,?_,?_,?_,d2,u1⟩ ?_ ?_))
   (fun d1=>bH d true [false] [sr P fun i=>[rI IntKind.i64 (P.getD i [])],rq (↑P.length:Int),rq (↑j:Int),sr (ah P j) fun j_1=>[RV.int IntKind.i64 ((ah P j).getD j_1 (0:Int))],n=gy L (ah P j),p=p,lq L,ty d1] ⟨?_,?_,?_,?_,?_,?_,?_,d1⟩ ?_))
  all_goals((try clear u2);(try clear y2);(try clear u1);(try clear y1))
  all_goals first|exact Kd|(refine cL.mk ?_;(simp only[dT,dF,cg,iV]at*;refine⟨om,by rw[MP om,hs],?_⟩;first|(show lv L (ah P j) (t+1)=_;rw[Sq om];exact hz)|(rw[Ga om om,show((at_ L ((ah P j).getD t 0).toNat).oddity==0)=true from d3]at hz;exact hz)))|(refine gu.mk ?_;cases d<;>first|rfl|(exfalso;(simp only[dT,dF,cg,iV]at*;first|(rw[Sr om]at hz;cases hz;done)|(rw[Ga om om,show((at_ L ((ah P j).getD t 0).toNat).oddity==0)=false from d3]at hz;cases hz;done))))|(first|exact tz|((try simp only[ek,cg,dT,dF,iV]at*)<;>first|omega|(have h1:=hr.at (t:=t) om;omega)|(have h2:=UF (t:=t) hL hr om;simp only[at_]at h2⊢;exact wo)|(rw[hs,iS om];done)))
def py (L:LC)(l:List Int):Bool:=l5 L l&&tf L l
theorem yj {P:List (List Int)}{j:Nat}(hj:j<P.length)(q:List Int→Bool):(P.drop j).all q=(q (ah P j)&&(P.drop (j+1)).all q):=by
 rw[ns hj];rfl
theorem HA {L:LC}(hL:bm L){l:List Int}(hne:l≠[])(hl:cI L.length l)(hn:l.length≤1000):((w6.wrap ((at_ L (l.getD 0 0).toNat).oddity-gy L l)).tmod 2==0)=tf L l:=by
 have hb:=zL hL hl
 have ho:=TT (t:=0) hL hl (nf.2 hne)
 rw[wo]
 unfold tf
 rw[Bool.eq_iff_iff,dx,dT]
 exact vX _
def UG (p:Int)(L:LC)(P:List (List Int)):aO:=⟨⟨[(1,.ptr 1000 0),(54,(gb .i64 P).av),(55,vi P.length),(56,.int .i64 0)],oh p L,1010⟩,some (P.all (py L)),fun d=>match d with
 |true=>(.exit 2,⟨[],[],1010⟩)
 |false=>(.ret,⟨[(2,.bool false)],[],1010⟩)⟩
theorem PH (p:Int)(L:LC)(P:List (List Int))(hL:bm L)(hP:∀l∈P,l≠[]∧cI L.length l∧l.length≤L.length)(hm:P.length≤1000):An 1 Tryz.f71 [0,1,0,1,1,1] (UG p L P):=by
 refine pI c0 (fun(j:Nat)=>(⟨[(1,.ptr 1000 0),(54,(gb .i64 P).av),(55,vi P.length),(56,vi j)],oh p L,1010⟩:St)) (fun(j:Nat)=>(P.length-j:Nat)) (fun(d:Bool)=>fun(j:Nat)=>(j≤P.length∧(P.drop j).all (py L)=d:Prop)) (fun(j:Nat)=>([([0,1,0,1,1,0,0,1,1,0,0,1,0,1,1,1],Hz p L P j)]:List (List Nat×aO))) ?_ ?_ ?_
 ·rintro d hd j hI
  exact bX (PG p L P j hL J1 J0)
 ·intro d hd
  exact st (0) [sr P fun i=>[rI IntKind.i64 (P.getD i [])],rq (↑P.length:Int),(0:Int)=↑(0:Nat),p=p,lq L] xp (by exact⟨bQ _,hd⟩)
 ·rintro d hd j hI
  obtain⟨ht,hs⟩:=hI
  have ht:j≤P.length:=ht
  have hl1:=hL.1
  have ek:=wk j
  refine oe (decide ((↑j:Int)<↑P.length)) (fun d1=>let y1:List Prop:=[(0:Int)≤↑j∧(↑j:Int)<↑P.length,ty d1];have u1:ar y1:=⟨?_,d1⟩;oe (l5 L (ah P j)) (fun d2=>let y2:List Prop:=(let v1:=P.getD j [];let v2:=(↑(ah P j).length:Int);((2:Int)≠(0:Int))::((0:Int)≤(ah P j).getD (Int.toNat (0:Int)) (0:Int)∧(ah P j).getD (Int.toNat (0:Int)) (0:Int)<↑L.length)::((0:Int)≤0∧(0:Int)<v2)::(sr P fun i=>[rI IntKind.i64 (P.getD i [])])::rq (↑P.length:Int)::rq (↑j:Int)::(v1.length=(ah P j).length∧(fun j_1=>[RV.int IntKind.i64 (v1.getD j_1 (0:Int))])=fun j_1=>[RV.int IntKind.i64 ((ah P j).getD j_1 (0:Int))])::(v1.length=(ah P j).length∧(fun j_1=>[RV.int IntKind.i64 (v1.getD j_1 (0:Int))])=fun j_1=>[RV.int IntKind.i64 ((ah P j).getD j_1 (0:Int))])::((↑v1.length:Int)=v2)::(p=p)::(lq L)::ty d2::y1);have u2:ar y2:=⟨?_,?_,?_,?_,?_,?_,?_,?_,?_,?_,?_,d2,u1⟩;oe ((w6.wrap ((L.getD ((ah P j).getD (Int.toNat (0:Int)) (0:Int)).toNat z0c).oddity-gy L (ah P j))).tmod (2:Int)==0) (fun d3=>aH (tp 112) (j+1) ((sr P fun i=>[rI IntKind.i64 (P.getD i [])])::rq (↑P.length:Int)::(w6.wrap ((↑j:Int)+1)=↑(j+1))::(p=p)::(lq L)::ty (dN d3)::y2) ⟨?_,?_,?_,?_,?_,(dN d3),u2⟩ ?_ ?_)
   (fun d3=>bH d false (tp 111) (ty (dN d3)::y2) ⟨(dN d3),u2⟩ ?_))
   (fun d2=>bH d false [true,false] (let v1:=P.getD j [];(sr P fun i=>[rI IntKind.i64 (P.getD i [])])::rq (↑P.length:Int)::rq (↑j:Int)::(v1.length=(ah P j).length∧(fun j_1=>[RV.int IntKind.i64 (v1.getD j_1 (0:Int))])=fun j_1=>[RV.int IntKind.i64 ((ah P j).getD j_1 (0:Int))])::(v1.length=(ah P j).length∧(fun j_1=>[RV.int IntKind.i64 (v1.getD j_1 (0:Int))])=fun j_1=>[RV.int IntKind.i64 ((ah P j).getD j_1 (0:Int))])::((↑v1.length:Int)=(↑(ah P j).length:Int))::(p=p)::(lq L)::ty d2::y1) ⟨?_,?_,?_,?_,?_,?_,?_,?_,d2,u1⟩ ?_))
   (fun d1=>bH d true [false] [ty d1] d1 ?_)
  all_goals((try clear u2);(try clear y2);(try clear u1);(try clear y1))
  all_goals first|exact BK|(refine cL.mk ?_;(simp only[dT,cg,pP]at*;have h0:=hP _ (iX (P:=P) (t:=j) om);rw[yj om,py,d2,←HA hL h0.1 h0.2.1 om]at hs;refine⟨om,?_⟩;simp only[at_]at hs;first|(rw[d3]at hs;exact hs)|(simp only[Bool.not_eq_eq_eq_not,bne]at d3 hs;rw[d3]at hs;exact hs)))|(refine gu.mk ?_;cases d<;>first|rfl|(exfalso;(simp only[dT,dF,cg,pP]at*;first|(rw[gT om]at hs;cases hs;done)|(rw[yj om,py,d2]at hs;cases hs;done)|(have h0:=hP _ (iX (P:=P) (t:=j) om);rw[yj om,py,d2,←HA hL h0.1 h0.2.1 om]at hs;simp only[at_]at hs;rw[d3]at hs;cases hs;done))))|(first|exact tz|decide|((try simp only[ek,cg,pP,dT,dF]at*)<;>first|omega|(have h0:=hP _ (iX (P:=P) (t:=j) om);have h1:0<(ah P j).length:=nf.2 h0.1;first|omega|(have h2:=h0.2.1.at (t:=0) h1;omega))))
theorem Ss {p:Int}{L:LC}(h1:fg p L=true)(h2:L.all jf=true):bm L:=by
 simp only[fg,bj]at h1
 obtain⟨i1,i2,i3⟩:=Ar de de h1.2.2
 have hne:L≠[]:=by intro e;rw[e]at h1;cases h1.2.1
 have hd:gZ L≤8:=by rcases i2 with i2|i2;omega;exact absurd i2 hne
 refine⟨om,fun c hc=>?_⟩
 have h4:=i1 c hc
 have h5:=yI.1 (cK.1 h2 c hc)
 exact⟨⟨h4.1,om⟩,⟨h4.2.2.1,om⟩,h5.1,h5.2.1⟩
def Su:List cq:=qz++zK
theorem yk:∀e∈Su,cJ Tryz.prog e:=by
 intro e he
 rcases fX.1 he with he|he
 ·exact pW e he
 ·exact np e he
theorem zf (p:Int)(L:LC):kv p L=(fg p L&&(L.all jf&&(bc L).all (py L))):=rfl
theorem PI (p:Int)(L:LC)(hn:L.length≤1000)(h1:fg p L=false):ax Tryz.prog [] 71 [.agg [.int .i64 p,bg L]] (.bool (kv p L)):=by
 have k1:fg p (aF L.length fun i=>(L.getD i z0c).rvs)=false:=BU
 refine pr (cE yk) Tryz.func71 aE ?_
 refine lr [true] [false=kv p L,aa (!fg p (aF L.length fun i=>(L.getD i z0c).rvs)) true,(lz L)∧L.length≤1000] ⟨?_,(dN k1),(?_:(lz L)∧L.length≤1000)⟩
 all_goals first|(first|exact tz|exact pJ|(rw[zf,h1];rfl))
theorem PJ (p:Int)(L:LC)(hn:L.length≤1000)(h1:fg p L=true)(h2:L.all jf=false):ax Tryz.prog [] 71 [.agg [.int .i64 p,bg L]] (.bool (kv p L)):=by
 have k1:fg p (aF L.length fun i=>(L.getD i z0c).rvs)=true:=BU
 refine pr (cE yk) Tryz.func71 (bX (E8 p L hn)) ?_
 refine lr [false,false] [false=kv p L,lq L,rq (↑L.length:Int),p=p,lq L,aa (L.all jf) false,aa (!fg p (aF L.length fun i=>(L.getD i z0c).rvs)) false,(lz L)∧L.length≤1000] ⟨?_,?_,?_,?_,?_,h2,(dN k1),(?_:(lz L)∧L.length≤1000)⟩
 all_goals first|(first|exact tz|exact pJ|(rw[zf,h1,h2];rfl))
theorem PK (p:Int)(L:LC)(hn:L.length≤1000)(hL:bm L)(h1:fg p L=true)(h2:L.all jf=true):ax Tryz.prog [] 71 [.agg [.int .i64 p,bg L]] (.bool (kv p L)):=by
 have k1:fg p (aF L.length fun i=>(L.getD i z0c).rvs)=true:=BU
 refine pr (cE yk) Tryz.func71 (D0 (E8 p L hn) (bX (PH p L (bc L) hL kX (cl rR hn)))) ?_
 refine(let y1:List Prop:=(let v1:=aF L.length fun i=>(L.getD i z0c).rvs;[(lz L)∧ia v1,lq L,rq (↑L.length:Int),p=p,lq L,aa (L.all jf) true,aa (!fg p v1) false,(lz L)∧L.length≤1000]);have u1:ar y1:=⟨?_,?_,?_,?_,?_,h2,(dN k1),(?_:(lz L)∧L.length≤1000)⟩;oe ((bc L).all (py L)) (fun d1=>lr (tp 211) (let v1:=aF L.length fun i=>(L.getD i z0c).rvs;(true=kv p L)::((bc v1).length=(bc L).length∧(fun i=>[rI IntKind.i64 ((bc v1).getD i [])])=fun i=>[rI IntKind.i64 ((bc L).getD i [])])::((↑(bc v1).length:Int)=(↑(bc L).length:Int))::(p=p)::(lq L)::ty d1::y1) ⟨?_,?_,?_,?_,?_,d1,u1⟩)
  (fun d1=>lr (tp 212) (let v1:=aF L.length fun i=>(L.getD i z0c).rvs;(false=kv p L)::((bc v1).length=(bc L).length∧(fun i=>[rI IntKind.i64 ((bc v1).getD i [])])=fun i=>[rI IntKind.i64 ((bc L).getD i [])])::((↑(bc v1).length:Int)=(↑(bc L).length:Int))::(p=p)::(lq L)::ty d1::y1) ⟨?_,?_,?_,?_,?_,d1,u1⟩))
 all_goals first|(first|exact tz|exact pJ|exact t6|exact xr|(rw[zf,h1,h2,d1];rfl))
theorem uy (p:Int)(L:LC)(hn:L.length≤1000):ax Tryz.prog [] 71 [.agg [.int .i64 p,bg L]] (.bool (ci p L)):=by
 rw[←zu]
 cases h1:fg p L with
 |false=>exact PI p L hn h1
 |true=>
  cases h2:L.all jf with
  |false=>exact PJ p L hn h1 h2
  |true=>exact PK p L hn (Ss h1 h2) h1 h2
theorem vb {L:List Con}{i t:Int}{k:Nat}(h:k≠i.toNat):at_ (du L i t) k=at_ L k:=by
 unfold du
 rw[Gh,if_neg]
 intro e;exact h e.1.symm
theorem DF {k:Nat}:∀{l:List Int}{L:List Con},(∀x∈l,k≠x.toNat)→at_ (dz L l) k=at_ L k
 |[],_,_=>rfl
 |i::l,L,h=>by
  simp only[dz]
  rw[DF (fun x hx=>h x (by simp[hx])),vb (h i si)]
theorem NA {L0 L:List Con}{l:List Int}{k:Nat}(hne:l≠[])(h:∀x∈l,k≠x.toNat):at_ (pj L0 L l) k=at_ L k:=by
 unfold pj
 rw[vb,DF h]
 refine h _ ?_
 cases l with
 |nil=>exact absurd rfl hne
 |cons a l=>simp
def fM (L:List Con):List Int→Int
 |[]=>0
 |i::l=>(at_ L i.toNat).oddity+fM (du L i 0) l
theorem DG {t:Int}{i:Int}(hi:0≤i):∀{l:List Int}{L:List Con},(∀x∈l,0≤x∧x≠i)→iM (du L i t) l=iM L l
 |[],_,_=>rfl
 |x::l,L,h=>by
  have h1:=h x si
  simp only[iM]
  rw[DG hi (fun y hy=>h y (by simp[hy])),vb om]
theorem EL:∀{l:List Int}{L:List Con},l.Nodup→(∀x∈l,0≤x)→fM L l=iM L l
 |[],_,_,_=>rfl
 |i::l,L,hn,h=>by
  have hn':=List.nodup_cons.1 hn
  simp only[fM,iM]
  rw[EL hn'.2 (fun x hx=>h x (by simp[hx])),DG (h i si) (fun x hx=>⟨h x (by simp[hx]),fun e=>hn'.1 (e▸hx)⟩)]
def ju (L:List Con):List (List Int)→List Con
 |[]=>L
 |l::P=>ju (du (dz L l) (l.getD 0 0) (fM L l%8)) P
theorem Cx {L M:List Con}:∀{l:List Int},(∀x∈l,at_ M x.toNat=at_ L x.toNat)→iM M l=iM L l
 |[],_=>rfl
 |x::l,h=>by simp only[iM];rw[h x si,Cx (fun y hy=>h y (by simp[hy]))]
theorem DH {L0:List Con}:∀{P:List (List Int)}{L:List Con},P.flatten.Nodup→(∀l∈P,l≠[])→(∀x∈P.flatten,0≤x∧at_ L x.toNat=at_ L0 x.toNat)→ju L P=qF L0 L P
 |[],_,_,_,_=>rfl
 |l::P,L,hn,hne,h=>by
  simp only[up]at hn h
  have hd:=List.nodup_append.1 hn
  have e:du (dz L l) (l.getD 0 0) (fM L l%8)=pj L0 L l:=by
   unfold pj ky
   rw[EL hd.1 (fun x hx=>(h x (by simp[hx])).1),Cx (fun x hx=>(h x (by simp[hx])).2)]
  simp only[ju,qF]
  rw[e]
  refine DH hd.2.1 (fun m hm=>hne m (by simp[hm])) (fun x hx=>?_)
  have h1:=h x (by simp[hx])
  refine⟨h1.1,?_⟩
  rw[NA (hne l si) (fun y hy e2=>?_),h1.2]
  have h2:=h y (by simp[hy])
  have:x=y:=by omega
  exact hd.2.2 y hy x hx this.symm
theorem xW {L:List Con}:ju L (bc L)=qG L:=by
 refine DH (Co L) (fun l hl=>(kX l hl).1) (fun x hx=>⟨?_,rfl⟩)
 obtain⟨l,h1,h2⟩:=List.mem_flatten.1 hx
 exact((kX l h1).2.1 x h2).1
theorem xQ {L:List Con}{k:Nat}(h1:0<(dP L ((k:Int)-1)).length)(h2:0<(dP L k).length)(h3:¬(dP L ((k:Int)-1)).getD 0 0=(dP L k).getD 0 0):vW L k=tx (tx (qH (qH L k) (k-1)) ((dP L ((k:Int)-1)).getD 0 0)) ((dP L k).getD 0 0):=by
 unfold vW
 have h4:((dP L ((k:Int)-1)).getD 0 0==(dP L k).getD 0 0)=false:=by rw[cp];exact h3
 simp only[h1,h2,h4,nk,lH,Bool.or_true,Bool.and_true,aU]
theorem xR {L:List Con}{k:Nat}(h1:0<(dP L ((k:Int)-1)).length)(h3:(dP L ((k:Int)-1)).getD 0 0=(dP L k).getD 0 0):vW L k=tx (qH (qH L k) (k-1)) ((dP L ((k:Int)-1)).getD 0 0):=by
 unfold vW
 have h4:((dP L ((k:Int)-1)).getD 0 0==(dP L k).getD 0 0)=true:=by rw[dx];exact h3
 have h5:((dP L ((k:Int)-1)).length==0)=false:=by rw[cp];omega
 simp only[h1,h4,h5,nk,oD,Bool.or_false,mt9,aU,bt]
end Go.Proofs.YtdbdoalefmliiaaGreatDoor.S
namespace Go.Proofs.YtdbdoalefmliiaaGreatDoor.S
section
open Go.QfSy Go.RowKit
end
end Go.Proofs.YtdbdoalefmliiaaGreatDoor.S
namespace Go.Proofs.YtdbdoalefmliiaaGreatDoor.S
open Go.QfSy Go.RowKit
def Te:List cq:=qz++[
 ⟨73,[],fun A=>match A with
  |[.agg [.int .i64 p,.sl n 5 row]]=>some (.bool (fL p (aF n row)),[(∀i,i<n→row i=(Con.ofR (row i)).rvs)∧n≤1000])
  |_=>none⟩]
theorem Nr:∀e∈Te,cJ Tryz.prog e:=by
 intro e he
 rcases fX.1 he with he|he
 ·exact pW e he
 ·rw[fJ.1 he]
  intro A R ms h hm
  simp only at h
  split at h
  ·cases h
   obtain⟨h1,h3⟩:=aA hm
   exact ax.imp (xY _ _ t7) (.cons (.agg (.cons .same (.cons (.con h1) .nil))) .nil)
  ·cases h
theorem Cv:∀{a b:List Int}{L:LC},fM L (a++b)=fM L a+fM (dz L a) b
 |[],_,_=>by simp[fM,dz]
 |i::a,b,L=>by simp only[kT,fM,dz];rw[Cv];omega
theorem Ns {L:LC}{l:List Int}{t:Nat}(ht:t<l.length):fM L (l.take (t+1))=fM L (l.take t)+(at_ (dz L (l.take t)) (l.getD t 0).toNat).oddity:=by
 rw[uR ht,Cv];simp[fM]
theorem Ag:∀{l:List Int}{L:LC},bm L→cI L.length l→0≤fM L l∧fM L l≤7*l.length
 |[],_,_,_=>by simp[fM]
 |i::l,L,hL,h=>by
  have h1:=h i si
  have h2:=(hL.at (k:=i.toNat) om).2.2.2
  have ih:=Ag (ve hL h1 (by decide:(0:Int)≤0∧(0:Int)≤7)) (l:=l) (by rw[ki];exact fun x hx=>h x (by simp[hx]))
  simp only[fM,dg]
  omega
def oJ (M:LC)(l:List Int):LC:=du (dz M l) (l.getD 0 0) (fM M l%8)
theorem Q8 {M:LC}{l:List Int}:(oJ M l).length=M.length:=by unfold oJ;rw[ki,oS]
theorem Tf {M:LC}(h:bm M){l:List Int}(hl:cI M.length l)(hne:l≠[]):bm (oJ M l):=by
 unfold oJ
 refine ve (yK h hl) ?_ om
 rw[oS]
 exact hl.at (nf.2 hne)
theorem Ml {M:LC}{P:List (List Int)}{j:Nat}(hj:j<P.length):ju M (P.drop j)=ju (oJ M (ah P j)) (P.drop (j+1)):=by
 rw[ns hj];rfl
def kW (n:Nat)(M:LC):List (Nat×ag):=[(1001,⟨.plain [.int .i64 0,.nils],50,0,false,true⟩),(1003,⟨.con M,81,5,true,true⟩)]
def Cd (n:Nat)(P:List (List Int))(j:Nat):List (Nat×AV):=[(2,.ptr 1001 0),(4,.lo 1003 n),(18,(gb .i64 P).av),(19,vi P.length),(20,vi j),(6,(rI .i64 (ah P j)).av)]
def IZ (n:Nat)(M:LC)(P:List (List Int))(j:Nat):aO:=⟨⟨Cd n P j++[(7,.int .i64 0),(24,(rI .i64 (ah P j)).av),(25,vi (ah P j).length),(26,.int .i64 0)],kW n M,1030⟩,none,fun _=>
 (.exit 2,⟨Cd n P j++[(7,vi (fM M (ah P j)))],kW n (dz M (ah P j)),1030⟩)⟩
theorem Wq {M:LC}{l:List Int}{t:Nat}(hL:bm M)(hl:cI M.length l)(ht:t<l.length):0≤(at_ (dz M (l.take t)) (l.getD t 0).toNat).oddity∧(at_ (dz M (l.take t)) (l.getD t 0).toNat).oddity≤7:=by
 have h1:=hl.at ht
 have h2:=yK hL (l:=l.take t) (fun x hx=>hl x (List.mem_of_mem_take hx))
 exact(h2.at (k:=(l.getD t 0).toNat) (by rw[oS];omega)).2.2.2
theorem Wr (n:Nat)(M:LC)(P:List (List Int))(j:Nat)(hM:bm M)(hn:M.length=n)(hr:cI n (ah P j))(hr2:(ah P j).length≤1000):An 1 Tryz.f109 [0,1,0,1,1,0,0,1,1,0,0,1,0,1,1,1] (IZ n M P j):=by
 refine fj c0 aE (u2 fun(t:Nat)(s:Int)=>(⟨Cd n P j++[(7,vi s),(24,(rI .i64 (ah P j)).av),(25,vi (ah P j).length),(26,vi t)],kW n (dz M ((ah P j).take t)),1030⟩:St)) (u2 fun(t:Nat)(s:Int)=>((ah P j).length-t:Nat)) (u2 fun(t:Nat)(s:Int)=>(t≤(ah P j).length∧s=fM M ((ah P j).take t):Prop)) ?_ ?_
 ·exact st (0,0) [n=n,sr P fun i=>[rI IntKind.i64 (P.getD i [])],rq (↑P.length:Int),rq (↑j:Int),sr (ah P j) fun j_1=>[RV.int IntKind.i64 ((ah P j).getD j_1 (0:Int))],rq (0:Int),sr (ah P j) fun j_1=>[RV.int IntKind.i64 ((ah P j).getD j_1 (0:Int))],rq (↑(ah P j).length:Int),(0:Int)=↑(0:Nat),M=dz M (List.take (0:Nat) (ah P j))] (by refine⟨?_,?_,?_,?_,?_,?_,?_,?_,?_,(?_:M=dz M (List.take (0:Nat) (ah P j)))⟩<;>(first|rfl|assumption|exact⟨rfl,rfl⟩|omega|simp_all)) (by exact⟨bQ _,rfl⟩)
 ·rintro ⟨t,s⟩ hI
  obtain⟨ht,hs⟩:=hI
  have ht:t≤(ah P j).length:=ht
  have hs:s=fM M ((ah P j).take t):=hs
  have ek:=wk t
  have hz:(dz M ((ah P j).take t)).length=n:=by rw[oS,hn]
  have hl1:=hM.1
  have hr':cI M.length (ah P j):=by rw[hn];exact hr
  have hb:=Ag hM (l:=(ah P j).take t) (fun x hx=>hr' x (List.mem_of_mem_take hx))
  have hb2:(((ah P j).take t).length:Int)≤1000:=by simp only[rE];omega
  refine(let q1:List Prop→List Prop:=fun l0=>(n=n)::(sr P fun i=>[rI IntKind.i64 (P.getD i [])])::rq (↑P.length:Int)::rq (↑j:Int)::(sr (ah P j) fun j_1=>[RV.int IntKind.i64 ((ah P j).getD j_1 (0:Int))])::l0;oe (decide ((↑t:Int)<(↑(ah P j).length:Int))) (fun d1=>aH [true] (t+1,s+(at_ (dz M ((ah P j).take t)) ((ah P j).getD t 0).toNat).oddity) (q1 (let v1:=dz M (List.take t (ah P j));let v2:=(ah P j).getD t (0:Int);let v3:=(↑(ah P j).length:Int);[w6.wrap (s+(v1.getD v2.toNat Con.zero).oddity)=s+(at_ v1 v2.toNat).oddity,sr (ah P j) fun j_1=>[RV.int IntKind.i64 ((ah P j).getD j_1 (0:Int))],rq v3,w6.wrap ((↑t:Int)+1)=↑(t+1),wx v1 v2.toNat (0:Int)=dz M (List.take (t+1) (ah P j)),v2.toNat<v1.length,(0:Int)≤(ah P j).getD t (0:Int)∧(ah P j).getD t (0:Int)<↑n,v2.toNat<v1.length,(0:Int)≤(ah P j).getD t (0:Int)∧(ah P j).getD t (0:Int)<↑n,(0:Int)≤↑t∧(↑t:Int)<v3,ty d1])) ⟨?_,?_,?_,?_,?_,?_,?_,?_,?_,?_,?_,?_,?_,?_,?_,d1⟩ ?_ ?_)
   (fun d1=>b9 [false] (q1 [s=fM M (ah P j),dz M (List.take t (ah P j))=dz M (ah P j),ty d1]) ⟨?_,?_,?_,?_,?_,?_,?_,d1⟩))
  all_goals first|exact Kd|(refine cL.mk ?_;(simp only[dT]at*;exact⟨om,by rw[Ns om,hs]⟩))|exact fu|(first|exact tz|((try simp only[ek,cg,dT,dF]at*)<;>first|omega|(have h0:=hr.at (t:=t) om;omega)|(have h2:=Wq (t:=t) hM hr' om;simp only[at_]at h2⊢;exact wo)|(rw[Md om];rfl)|(rw[hs,iS om];done)|(rw[iS om];done)))
def Ws (L:LC)(P:List (List Int)):aO:=⟨⟨[(2,.ptr 1001 0),(4,.lo 1003 L.length),(18,(gb .i64 P).av),(19,vi P.length),(20,.int .i64 0)],kW L.length L,1030⟩,none,fun _=>
 (.exit 0,⟨[(2,.ptr 1001 0),(4,.lo 1003 L.length)],kW L.length (ju L P),1030⟩)⟩
theorem Tg (L:LC)(P:List (List Int))(hL:bm L)(hP:∀l∈P,l≠[]∧cI L.length l∧l.length≤L.length)(hm:P.length≤1000):An 1 Tryz.f109 [0,1,0,1,1,1] (Ws L P):=by
 refine tR c0 (u2 fun(j:Nat)(M:LC)=>(⟨[(2,.ptr 1001 0),(4,.lo 1003 L.length),(18,(gb .i64 P).av),(19,vi P.length),(20,vi j)],kW L.length M,1030⟩:St)) (u2 fun(j:Nat)(M:LC)=>(P.length-j:Nat)) (u2 fun(j:Nat)(M:LC)=>(j≤P.length∧bm M∧M.length=L.length∧ju M (P.drop j)=ju L P:Prop)) (u2 fun(j:Nat)(M:LC)=>([([0,1,0,1,1,0,0,1,1,0,0,1,0,1,1,1],IZ L.length M P j)]:List (List Nat×aO))) ?_ ?_ ?_
 ·rintro ⟨j,M⟩ hI
  exact bX (Wr L.length M P j hI.2.1 hI.2.2.1 J1 J0)
 ·exact st (0,L) [rq L.length,sr P fun i=>[rI IntKind.i64 (P.getD i [])],rq (↑P.length:Int),(0:Int)=↑(0:Nat),L=L] Kc (by exact⟨bQ _,hL,rfl,rfl⟩)
 ·rintro ⟨j,M⟩ hI
  obtain⟨ht,hM,hn,hf⟩:=hI
  have ht:j≤P.length:=ht
  have hM:bm M:=hM
  have hn:M.length=L.length:=hn
  have hf:ju M (P.drop j)=ju L P:=hf
  have hl1:=hL.1
  have ek:=wk j
  have hz:(dz M (ah P j)).length=L.length:=by rw[oS,hn]
  refine oe (decide ((↑j:Int)<↑P.length)) (fun d1=>aH [true] (j+1,oJ M (ah P j)) (let v1:=Int.toNat (0:Int);let v2:=P.getD j [];let v3:=(↑P.length:Int);let v4:=(ah P j).getD v1 (0:Int);let v5:=(↑(ah P j).length:Int);[rq L.length,sr P fun i=>[rI IntKind.i64 (P.getD i [])],rq v3,w6.wrap ((↑j:Int)+1)=↑(j+1),wx (dz M (ah P j)) v4.toNat ((fM M (ah P j)).tmod (8:Int))=oJ M (ah P j),v4.toNat<(dz M (ah P j)).length,(0:Int)≤(ah P j).getD v1 (0:Int)∧(ah P j).getD v1 (0:Int)<↑L.length,(8:Int)≠(0:Int),(0:Int)≤0∧(0:Int)<v5,rq L.length,sr P fun i=>[rI IntKind.i64 (P.getD i [])],rq v3,rq (↑j:Int),v2.length=(ah P j).length∧(fun j_1=>[RV.int IntKind.i64 (v2.getD j_1 (0:Int))])=fun j_1=>[RV.int IntKind.i64 ((ah P j).getD j_1 (0:Int))],v2.length=(ah P j).length∧(fun j_1=>[RV.int IntKind.i64 (v2.getD j_1 (0:Int))])=fun j_1=>[RV.int IntKind.i64 ((ah P j).getD j_1 (0:Int))],(↑v2.length:Int)=v5,M=M,(0:Int)≤↑j∧(↑j:Int)<v3,ty d1]) ⟨?_,?_,?_,?_,?_,?_,?_,?_,?_,?_,?_,?_,?_,?_,?_,?_,?_,?_,d1⟩ ?_ ?_)
   (fun d1=>b9 [false] [rq L.length,M=ju L P,ty d1] ⟨?_,?_,d1⟩)
  all_goals first|exact BK|(refine cL.mk ?_;(simp only[dT]at*;have h0:=hP _ (iX (P:=P) (t:=j) om);exact⟨om,Tf hM (by rw[hn];exact h0.2.1) h0.1,by rw[Q8,hn],by rw[←Ml om];exact hf⟩))|exact fu|(first|exact tz|decide|((try simp only[ek,cg,pP,dT,dF]at*)<;>first|omega|(have h0:=hP _ (iX (P:=P) (t:=j) om);have h1:0<(ah P j).length:=nf.2 h0.1;first|omega|(have h2:=h0.2.1.at (t:=0) h1;omega)|(have h3:=(Ag hM (l:=ah P j) (by rw[hn];exact h0.2.1)).1;unfold oJ;rw[←iE h3];rfl))|(rw[gT om]at hf;exact hf)))
theorem Nt (L:LC)(hL:bm L)(hv:fL 2 L=true)(hne:0<L.length):ax Tryz.prog [] 109 [.agg [.int .i64 2,bg L]] (.tup [.agg [.int .i64 2,bg (qG L)],.bool true]):=by
 have hl:=hL.1;have k1:fL 2 (aF L.length fun i=>(L.getD i Con.zero).rvs)=true:=BT;have k2:L.length.beq 0=false:=BH
 refine pr (cE Nr) Tryz.func109 (bX (Tg L (bc L) hL kX (cl rR hL.1))) ?_
 refine lr [false,false] (let y1:=aF L.length fun i=>(L.getD i Con.zero).rvs;[rq (2:Int),L.length=(qG L).length∧L.length=(ju L (bc L)).length∧∀(i:Nat),i<L.length→(fun i=>((qG L).getD i Con.zero).rvs) i=((ju L (bc L)).getD i Con.zero).rvs,true=true,rq L.length,(bc y1).length=(bc L).length∧(fun i=>[rI IntKind.i64 ((bc y1).getD i [])])=fun i=>[rI IntKind.i64 ((bc L).getD i [])],(↑(bc y1).length:Int)=(↑(bc L).length:Int),y1=L,(lz L)∧ia y1,(0:Nat)<L.length∧L.length≤1000000,lz L,aa (L.length.beq (0:Nat)) false,(0:Nat)<L.length,aa (!fL (2:Int) y1) false,(lz L)∧L.length≤1000]) ⟨?_,?_,?_,?_,?_,?_,?_,?_,?_,?_,k2,?_,(dN k1),(?_:(lz L)∧L.length≤1000)⟩
 all_goals first|(first|exact tz|(rw[←xW];exact⟨by rw[xW,Dl],by rw[xW,Dl],fun _ _=>rfl⟩)|exact cb L|exact xr|exact⟨hne,om⟩|exact hne|exact fun _ _=>rfl|exact t6|exact oo)
theorem RZ {p:Int}{L:List Con}(h:fL p L=true):p=2:=by
 unfold fL at h
 simp only[bj,dx]at h
 exact h.1
def bP (v:Bool):Int:=bif v then 2 else 0
def bL (v:Bool)(M:List Con):List Con:=bif v then M else []
def cV (e:Nat)(s t:Int):RV:=.sl 1 5 (fun _=>[.int .i64 (e:Int),.int .i64 1,.int .i64 s,.bool true,.int .i64 t])
def Cg (e w:Nat):RV:=.agg [.int .i64 2,hI 1,.sl 1 5 (fun _=>[.int .i64 (e:Int),.int .i64 1,.int .i64 (w:Int),.int .i64 0,.int .i64 0])]
def bS (w:Nat):Int:=if w=3∨w=5 then-1 else 1
theorem Nv (e w:Nat)(he:e≤60)(hw:w=1∨w=3∨w=5∨w=7):ax Tryz.prog [] 65 [Cg e w] (.tup [cV e (bS w) (w:Int),.bool true]):=by
 have k1:decide ((↑e:Int)<0)=false:=bI om
 have k2:decide ((↑e:Int)>60)=false:=bI om
 have k3:(w6.wrap (↑(BitVec.ofInt IntKind.i64.bits (↑w:Int)&&&BitVec.ofInt IntKind.i64.bits (1:Int)).toNat:Int)==1)=true:=by rcases hw with rfl|rfl|rfl|rfl<;>rfl
 have rr:=fun(tp:List Bool)(ms:List Prop)h hm=>cx aX (bU aX (cm _ _) 8) Tryz.func65 (A:=[Cg e w]) rfl aE rfl rfl cv (tabs:=[]) (R:=.tup [cV e (bS w) (w:Int),.bool true]) (tp:=tp) (ms:=ms) h hm
 refine(let q1:List Prop→List Prop:=fun l0=>rq (↑e:Int)::(w6.wrap ((0:Int)+1)=1)::(w6.wrap ((0:Int)-1)=bS w)::(true=true)::(w6.wrap (↑(BitVec.ofInt IntKind.i64.bits (w6.wrap ((0:Int)+w6.wrap (↑(BitVec.ofInt IntKind.i64.bits (↑w:Int)&&&BitVec.ofInt IntKind.i64.bits (7:Int)).toNat:Int)))&&&BitVec.ofInt IntKind.i64.bits (7:Int)).toNat:Int)=↑w)::(true=true)::l0;let y1:List Prop:=[aa ((1:Int)==1) true,aa (decide (w6.wrap ((0:Int)+1)>8)) false,aa (!(0:Int)==0) false,aa ((0:Int)==0) true,aa (w6.wrap (↑(BitVec.ofInt IntKind.i64.bits (↑w:Int)&&&BitVec.ofInt IntKind.i64.bits (1:Int)).toNat:Int)==1) true,aa ((1:Int)==1) true,aa (decide ((↑e:Int)>60)) false,aa (decide ((↑e:Int)<0)) false,(0:Int)≤0∧(0:Int)<↑(1:Nat),aa ((2:Int)!=(2:Int)) false];have u1:ar y1:=⟨rfl,rfl,(dN rfl),rfl,k3,rfl,k2,k1,?_,(dN rfl)⟩;oe (w6.wrap (↑(BitVec.ofInt IntKind.i64.bits (↑w:Int)&&&BitVec.ofInt IntKind.i64.bits (7:Int)).toNat:Int)==3) (fun d1=>rr (tp 2221112211) (q1 (ty d1::y1)) kr ⟨?_,?_,?_,?_,?_,?_,d1,u1⟩)
  (fun d1=>oe (w6.wrap (↑(BitVec.ofInt IntKind.i64.bits (↑w:Int)&&&BitVec.ofInt IntKind.i64.bits (7:Int)).toNat:Int)==5) (fun d2=>rr (tp 22211122121) (q1 (ty d2::ty d1::y1)) kr ⟨?_,?_,?_,?_,?_,?_,d2,d1,u1⟩)
  (fun d2=>rr (tp 22211122122) (rq (↑e:Int)::(w6.wrap ((0:Int)+1)=1)::((1:Int)=bS w)::(true=true)::(w6.wrap (↑(BitVec.ofInt IntKind.i64.bits (w6.wrap ((0:Int)+w6.wrap (↑(BitVec.ofInt IntKind.i64.bits (↑w:Int)&&&BitVec.ofInt IntKind.i64.bits (7:Int)).toNat:Int)))&&&BitVec.ofInt IntKind.i64.bits (7:Int)).toNat:Int)=↑w)::(true=true)::ty d2::ty d1::y1) kr ⟨?_,?_,?_,?_,?_,?_,d2,d1,u1⟩)))
 all_goals first|(first|exact tr|(rcases hw with rfl|rfl|rfl|rfl<;>first|rfl|exact absurd d1 de|exact absurd d2 de|decide))
def Ak (L:RV):List cq:=[⟨109,[],fun A=>some (.tup [.agg [.int .i64 2,L],.bool true],[A=[.agg [.int .i64 2,L]]])⟩]
theorem Nw (e:Nat)(s t:Int)(hF:∀e'∈Ak (cV e s t),cJ Tryz.prog e'):ax Tryz.prog [] 66 [.agg [.int .i64 2,cV e s t]] (.tup [.agg [.int .i64 2,cV e s t],.bool true]):=by
 have rr:=fun(tp:List Bool)(ms:List Prop)h hm=>cx aX (bU aX (eE hF) 12) Tryz.func66 (A:=[.agg [.int .i64 2,cV e s t]]) rfl aE rfl rfl cv (tabs:=[]) (R:=.tup [.agg [.int .i64 2,cV e s t],.bool true]) (tp:=tp) (ms:=ms) h hm
 refine rr [false] (let v1:=[RV.int IntKind.i64 (↑e:Int),RV.int IntKind.i64 (1:Int),RV.int IntKind.i64 s,RV.bool true,RV.int IntKind.i64 t];[rq (2:Int),(1:Nat)=1∧(fun(x:Nat)=>v1)=fun(x:Nat)=>v1,true=true,aa (!true) false,rq ([RV.agg [RV.int IntKind.i64 (2:Int),RV.sl (1:Nat) (5:Nat) fun(x:Nat)=>v1]])]) kr ⟨?_,?_,?_,(dN rfl),(?_:[RV.agg [RV.int IntKind.i64 (2:Int),RV.sl (1:Nat) (5:Nat) fun(x:Nat)=>[RV.int IntKind.i64 (↑e:Int),RV.int IntKind.i64 (1:Int),RV.int IntKind.i64 s,RV.bool true,RV.int IntKind.i64 t]]]=[RV.agg [RV.int IntKind.i64 (2:Int),RV.sl (1:Nat) (5:Nat) fun(x:Nat)=>[RV.int IntKind.i64 (↑e:Int),RV.int IntKind.i64 (1:Int),RV.int IntKind.i64 s,RV.bool true,RV.int IntKind.i64 t]]])⟩
 all_goals first|(first|exact tv|decide)
def aV (e w:Nat):Con:=⟨(e:Int),1,bS w,true,(w:Int)⟩
theorem Rw (e w:Nat)(he:e<14)(hw:w=1∨w=3∨w=5∨w=7):fL 2 [aV e w]=true∧qG [aV e w]=[aV e w]:=by
 match e,he with
 |0,_=>rcases hw with rfl|rfl|rfl|rfl<;>exact⟨kr,kr⟩
 |1,_=>rcases hw with rfl|rfl|rfl|rfl<;>exact⟨kr,kr⟩
 |2,_=>rcases hw with rfl|rfl|rfl|rfl<;>exact⟨kr,kr⟩
 |3,_=>rcases hw with rfl|rfl|rfl|rfl<;>exact⟨kr,kr⟩
 |4,_=>rcases hw with rfl|rfl|rfl|rfl<;>exact⟨kr,kr⟩
 |5,_=>rcases hw with rfl|rfl|rfl|rfl<;>exact⟨kr,kr⟩
 |6,_=>rcases hw with rfl|rfl|rfl|rfl<;>exact⟨kr,kr⟩
 |7,_=>rcases hw with rfl|rfl|rfl|rfl<;>exact⟨kr,kr⟩
 |8,_=>rcases hw with rfl|rfl|rfl|rfl<;>exact⟨kr,kr⟩
 |9,_=>rcases hw with rfl|rfl|rfl|rfl<;>exact⟨kr,kr⟩
 |10,_=>rcases hw with rfl|rfl|rfl|rfl<;>exact⟨kr,kr⟩
 |11,_=>rcases hw with rfl|rfl|rfl|rfl<;>exact⟨kr,kr⟩
 |12,_=>rcases hw with rfl|rfl|rfl|rfl<;>exact⟨kr,kr⟩
 |13,_=>rcases hw with rfl|rfl|rfl|rfl<;>exact⟨kr,kr⟩
theorem Tq (e w:Nat)(he:e<14)(hw:w=1∨w=3∨w=5∨w=7):bm [aV e w]:=by
 refine⟨si,fun c hc=>?_⟩
 rw[fJ.1 hc]
 have hs:bS w=1∨bS w=-1:=by unfold bS;split<;>simp
 exact⟨⟨Int.natCast_nonneg _,by show(e:Int)≤1000;omega⟩,⟨by show(1:Int)≤1;decide,by show(1:Int)≤1000;decide⟩,hs,⟨Int.natCast_nonneg _,by show(w:Int)≤7;omega⟩⟩
theorem EF (e w:Nat){F:Fz}{V:Value}(h:bZ F (cV e (bS w) (w:Int)) V):bZ F (bg [aV e w]) V:=
 h.rows (fun i hi=>by rw[show i=0 from by have:i<1:=hi;omega];rfl)
theorem Rx (e w:Nat){F:Fz}{V:Value}(h:bZ F (bg [aV e w]) V):bZ F (cV e (bS w) (w:Int)) V:=
 bZ.rows (row:=fun i=>(([aV e w]:LC).getD i Con.zero).rvs) (fun i hi=>by rw[show i=0 by omega];rfl) h
theorem Nx (e w:Nat)(he:e<14)(hw:w=1∨w=3∨w=5∨w=7):∀e'∈Ak (cV e (bS w) (w:Int)),cJ Tryz.prog e':=by
 intro e' h'
 simp only[Ak,bC,cU,cY]at h'
 subst h'
 intro A R ms hh hm
 cases hh
 rw[aA hm]
 obtain⟨t1,t2⟩:=Rw e w he hw
 have hp:=Nt [aV e w] (Tq e w he hw) t1 si
 rw[t2]at hp
 refine⟨hp.1,fun w' F Args ht hF hr=>?_⟩
 cases hr with|cons h1 h2=>
 cases h2
 cases h1 with|agg h3=>
 cases h3 with|cons h4 h5=>
 cases h5 with|cons h6 h7=>
 cases h7
 refine(hp.2 w' F _ ht hF (.cons (.agg (.cons h4 (.cons (EF e w h6) .nil))) .nil)).mono ?_
 rintro x W ⟨V,F',rfl,g1,g2,g3,g4,g5⟩
 refine⟨V,F',rfl,g1,g2,g3,?_,g5⟩
 cases g4 with|tup k1=>
 cases k1 with|cons k2 k3=>
 cases k2 with|agg k4=>
 cases k4 with|cons k5 k6=>
 cases k6 with|cons k7 k8=>
 cases k8
 exact .tup (.cons (.agg (.cons k5 (.cons (Rx e w k7) .nil))) k3)
end Go.Proofs.YtdbdoalefmliiaaGreatDoor.S
end
