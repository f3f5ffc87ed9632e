/- A part of the proof of ExistenceOne: QI, TF, TG, TH, TI, RB, RH, VR, ZY, VU, VG, VH0, VS, RC, VV, VI, VJ, VW, EH, VN, TJ, VH, EI, EK, GF, ZF1, ZF2, ZF3, ZF4, ZQ3, ZF5, IP, GV. -/
import Derived.Test.YtdbdoalefmliiaaGreatDoorPkE3
import Derived.Test.YtdbdoalefmliiaaGreatDoorPkE4
import Derived.Test.YtdbdoalefmliiaaGreatDoorPkE2
import Derived.CallsIn
import Derived.RangeFuncCalls
import Derived.RangeFuncLeaves
import Derived.RangeFuncNested
import Derived.RangeFuncKeeps
import Derived.WalkKit
import Derived.OwnWalkIn
import Derived.TacticsInMore
import Derived.LoopNIn
import Derived.LoopIn
import Derived.Shelf.Abstract
set_option linter.unusedSimpArgs false
set_option linter.unusedVariables false
set_option maxRecDepth 100000
open Go.IntKind renaming i64 → w6
open Go.QfSy.Con renaming zero → z0c
open Go.QfSy.Loc renaming zero → z0l
noncomputable section
namespace Go.Proofs.YtdbdoalefmliiaaGreatDoor.S
open Go.QfSy Go.RowKit
structure gi (n m u e w:Nat):Prop where
 hl:ld 2=2
 hn:VX 2 u e n
 he:e<14
 hw:w=1∨w=3∨w=5∨w=7
 hm:m=2^e*w
 hr:n%2^(e+3)=m
noncomputable def Ah (n m e w:Nat):List cq:=[
 ⟨16,[],fun A=>some (.bool true,[A=[hR n]])⟩,
 ⟨114,[aL],fun A=>some (.int .i64 ((e+3:Nat):Int),[A=[hR n,.int .i64 2]])⟩,
 ⟨105,[],fun A=>some (.tup [hR m,.int .i64 0],[A=[hR n,.int .i64 ((2^(e+3):Nat):Int)]])⟩,
 ⟨153,[],fun A=>some (.tup [hI (wY (2^(e+3)) w),.int .i64 0],[A=[hR w,.int .i64 ((2^(e+3):Nat):Int)]])⟩,
 ⟨65,[],fun A=>some (.tup [cV e (bS w) (w:Int),.bool true],[A=[Cg e w]])⟩,
 ⟨66,[],fun A=>some (.tup [.agg [.int .i64 2,cV e (bS w) (w:Int)],.bool true],[A=[.agg [.int .i64 2,cV e (bS w) (w:Int)]]])⟩]
theorem Nu {n m u e w:Nat}(H:gi n m u e w):∀e'∈Ah n m e w,cJ Tryz.prog e':=by
 have he:=H.he
 have hw:=H.hw
 have q8:8≤2^(e+3):=cl (by decide:8≤2^3) (ze7 de om)
 have qb:2^(e+3)≤1000000000:=cl (ze7 de (by omega:e+3≤16)) de
 intro e' h'
 simp only[Ah,bC,cU,cY]at h'
 rcases h' with rfl|rfl|rfl|rfl|rfl|rfl
 ·intro A R ms hh hm
  cases hh
  rw[aA hm]
  exact yc n ⟨H.hn.pos.1,H.hn.le⟩
 ·intro A R ms hh hm
  cases hh
  rw[aA hm]
  exact RD n u e H.hl H.hn om
 ·intro A R ms hh hm
  cases hh
  rw[aA hm]
  have:=NN n (2^(e+3)) ⟨om,qb⟩
  rwa[H.hr]at this
 ·intro A R ms hh hm
  cases hh
  rw[aA hm]
  refine NO w (2^(e+3)) ⟨om,qb⟩ ?_
  rw[rD om]
  refine Nat.Coprime.pow_left (e+3) ?_
  rcases hw with rfl|rfl|rfl|rfl<;>decide
 ·intro A R ms hh hm
  cases hh
  rw[aA hm]
  exact Nv e w om hw
 ·intro A R ms hh hm
  cases hh
  rw[aA hm]
  exact Nw e (bS w) w (Nx e w he hw)
noncomputable def WB (n m e w:Nat):bq:=A1 [114] (wD [153,65] (kt EC.ng (Ah n m e w)))
theorem jq {n m u e w:Nat}(H:gi n m u e w):bV Tryz.prog EC.ng (WB n m e w):=Pm (Fc (eE (Nu H)))
theorem I4 (a:Nat):w6.wrap (↑(BitVec.ofInt IntKind.i64.bits (a:Int)&&&BitVec.ofInt IntKind.i64.bits (1:Int)).toNat:Int)=((a%2:Nat):Int):=by
 have h:(BitVec.ofInt 64 (a:Int)&&&BitVec.ofInt 64 (1:Int)).toNat=a%2:=by
  rw[show BitVec.ofInt 64 (1:Int)=1#64 from rfl,BitVec.ofInt_natCast,BitVec.toNat_and,BitVec.toNat_ofNat,show(1#64).toNat=1 from rfl,Nat.and_one_is_mod]
  omega
 show w6.wrap ((BitVec.ofInt 64 (a:Int)&&&BitVec.ofInt 64 (1:Int)).toNat:Int)=_
 rw[h]
 exact jX om om
theorem Li (m E j:Nat)(hE:E=j)(hj:j<64):(m:Int).fdiv ((2:Int)^min E IntKind.i64.bits)=((m/2^j:Nat):Int):=by
 subst hE
 rw[show min E IntKind.i64.bits=E from Nat.min_eq_left (Nat.le_of_lt hj),show(2:Int)^E=((2^E:Nat):Int)from(Int.natCast_pow 2 E).symm,Int.fdiv_eq_ediv_of_nonneg _ (Int.natCast_nonneg _)]
 rfl
theorem XY {m e w:Nat}(hm:m=2^e*w)(j E:Nat)(hj:j<e)(he:e<14)(hE:E=j):(w6.wrap (↑(BitVec.ofInt IntKind.i64.bits ((m:Int).fdiv ((2:Int)^min E IntKind.i64.bits))&&&BitVec.ofInt IntKind.i64.bits (1:Int)).toNat:Int)==0)=true:=by
 rw[Li m E j hE om,I4,hm,show e=j+(1+(e-j-1)) by omega,Nat.pow_add,Nat.mul_assoc,Nat.mul_div_cancel_left _ (Nat.pow_pos de),Nat.pow_add,Nat.mul_assoc,ie,Nat.mul_mod_right]
 rfl
theorem Lj {m e w:Nat}(hm:m=2^e*w)(E:Nat)(he:e<14)(hE:E=e):(m:Int).fdiv ((2:Int)^min E IntKind.i64.bits)=(w:Int):=by
 rw[Li m E e hE om,hm,Nat.mul_div_cancel_left _ (Nat.pow_pos de)]
theorem XZ {m e w:Nat}(hm:m=2^e*w)(E:Nat)(he:e<14)(hw:w=1∨w=3∨w=5∨w=7)(hE:E=e):(w6.wrap (↑(BitVec.ofInt IntKind.i64.bits ((m:Int).fdiv ((2:Int)^min E IntKind.i64.bits))&&&BitVec.ofInt IntKind.i64.bits (1:Int)).toNat:Int)==0)=false:=by
 rw[Lj hm E he hE,I4]
 rcases hw with rfl|rfl|rfl|rfl<;>rfl
def wI:Nat→Int
 |0=>0
 |j+1=>w6.wrap (wI j+1)
def eJ (m j:Nat):Int:=(m:Int).fdiv ((2:Int)^min (wI j).toNat IntKind.i64.bits)
def aY (m j:Nat):Bool:=w6.wrap (↑(BitVec.ofInt IntKind.i64.bits (eJ m j)&&&BitVec.ofInt IntKind.i64.bits (1:Int)).toNat:Int)==0
theorem X1 (j:Nat)(h:j<100):wI j=(j:Int):=by
 induction j with
 |zero=>rfl
 |succ j ih=>show w6.wrap (wI j+1)=_;rw[ih om,jX om om];omega
theorem Bp (j:Nat)(h:j<100):(wI j).toNat=j:=by rw[X1 j h];omega
theorem bk {n m u e w:Nat}(H:gi n m u e w)(j:Nat)(hj:j<e):aY m j=true:=XY H.hm j _ hj H.he (Bp j BZ)
theorem jJ {n m u e w:Nat}(H:gi n m u e w):aY m e=false:=XZ H.hm _ H.he H.hw (Bp e BZ)
theorem jK {n m u e w:Nat}(H:gi n m u e w):eJ m e=(w:Int):=Lj H.hm _ H.he (Bp e BZ)
theorem WC (n m u w:Nat)(H0:gi n m u 0 w):ax Tryz.prog [aL] 21 [hR n] (.tup [.agg [.int .i64 2,cV 0 (bS w) (w:Int)],.int .i64 0]):=by
 have fw:=jK H0
 have rr:=fun(tp:List Bool)(ms:List Prop)h hm=>cx aX (bU aX (jq H0) 12) Tryz.func21 (A:=[hR n]) rfl aE rfl rfl cv (tabs:=[aL]) (R:=.tup [.agg [.int .i64 2,cV 0 (bS w) (w:Int)],.int .i64 0]) (tp:=tp) (ms:=ms) h hm
 refine rr [false,false] (let v1:=[RV.int IntKind.i64 (↑(0:Nat):Int),RV.int IntKind.i64 (1:Int),RV.int IntKind.i64 (bS w),RV.bool true,RV.int IntKind.i64 (↑w:Int)];let v2:=(0:Nat)+1;let v3:=[RV.int IntKind.i64 (↑n:Int)];let v4:=w6.wrap ((1:Int)*2^min ((0:Nat)+3) IntKind.i64.bits);let v5:=(↑(1:Nat):Int);let v6:=(↑((2:Nat)^((0:Nat)+3)):Int);let v7:=[RV.int IntKind.i64 (1:Int)];[rq (2:Int),(1:Nat)=1∧(fun(x:Nat)=>v1)=fun(x:Nat)=>v1,rq (0:Int),rq ([RV.agg [RV.int IntKind.i64 (2:Int),RV.sl (1:Nat) (5:Nat) fun(x:Nat)=>v1]]),[RV.agg [RV.int IntKind.i64 (2:Int),RV.sl v2 v2 fun x=>[RV.sl (1:Nat) v2 fun(x:Nat)=>v7],RV.sl v2 ((0:Nat)+1+1+1+1+1) fun(x:Nat)=>[RV.int IntKind.i64 (0:Int),RV.int IntKind.i64 (1:Int),RV.int IntKind.i64 (eJ m 0),RV.int IntKind.i64 (0:Int),RV.int IntKind.i64 (0:Int)]]]=[RV.agg [RV.int IntKind.i64 (2:Int),RV.sl (1:Nat) (1:Nat) fun x=>[RV.sl (1:Nat) (1:Nat) fun(x:Nat)=>v7],RV.sl (1:Nat) (5:Nat) fun(x:Nat)=>[RV.int IntKind.i64 (↑(0:Nat):Int),RV.int IntKind.i64 (1:Int),RV.int IntKind.i64 (↑w:Int),RV.int IntKind.i64 (0:Int),RV.int IntKind.i64 (0:Int)]]],(0:Int)≤0∧(0:Int)<v5,(0:Int)≤0∧(0:Int)<v5,[RV.sl (1:Nat) v2 fun x=>[RV.sl (1:Nat) v2 fun(x:Nat)=>[RV.int IntKind.i64 (eJ m 0)]],RV.int IntKind.i64 v4]=[RV.sl (1:Nat) (1:Nat) fun x=>[RV.sl (1:Nat) (1:Nat) fun(x:Nat)=>[RV.int IntKind.i64 (↑w:Int)]],RV.int IntKind.i64 v6],(0:Int)≤0∧(0:Int)<v5,(0:Int)≤0∧(0:Int)<v5,aa (aY m 0) false,(0:Int)≤w6.wrap ((0:Int)+0)∧w6.wrap ((0:Int)+0)<v5,(0:Int)≤0∧(0:Int)<v5,[RV.sl (1:Nat) (1:Nat) fun x=>[RV.sl (1:Nat) (1:Nat) fun(x:Nat)=>v3],RV.int IntKind.i64 v4]=[RV.sl (1:Nat) (1:Nat) fun x=>[RV.sl (1:Nat) (1:Nat) fun(x:Nat)=>v3],RV.int IntKind.i64 v6],rq ([RV.sl (1:Nat) (1:Nat) fun x=>[RV.sl (1:Nat) (1:Nat) fun(x:Nat)=>v3],RV.int IntKind.i64 (2:Int)]),aa (!true) false,rq ([RV.sl (1:Nat) (1:Nat) fun x=>[RV.sl (1:Nat) (1:Nat) fun(x:Nat)=>v3]])]) kr ⟨?_,?_,?_,?_,?_,?_,?_,?_,?_,?_,(jJ H0),?_,?_,?_,?_,(dN rfl),(?_:[RV.sl (1:Nat) (1:Nat) fun x=>[RV.sl (1:Nat) (1:Nat) fun(x:Nat)=>[RV.int IntKind.i64 (↑n:Int)]]]=[RV.sl (1:Nat) (1:Nat) fun x=>[RV.sl (1:Nat) (1:Nat) fun(x:Nat)=>[RV.int IntKind.i64 (↑n:Int)]]])⟩
 all_goals first|exact jA
theorem WD (n m u w:Nat)(H0:gi n m u 1 w):ax Tryz.prog [aL] 21 [hR n] (.tup [.agg [.int .i64 2,cV 1 (bS w) (w:Int)],.int .i64 0]):=by
 have fw:=jK H0
 have rr:=fun(tp:List Bool)(ms:List Prop)h hm=>cx aX (bU aX (jq H0) 12) Tryz.func21 (A:=[hR n]) rfl aE rfl rfl cv (tabs:=[aL]) (R:=.tup [.agg [.int .i64 2,cV 1 (bS w) (w:Int)],.int .i64 0]) (tp:=tp) (ms:=ms) h hm
 refine rr (tp 212) (let v2:=(↑(1:Nat):Int);let v1:=[RV.int IntKind.i64 v2,RV.int IntKind.i64 (1:Int),RV.int IntKind.i64 (bS w),RV.bool true,RV.int IntKind.i64 (↑w:Int)];let v3:=(0:Nat)+1;let v4:=[RV.int IntKind.i64 (↑n:Int)];let v5:=w6.wrap ((1:Int)*2^min ((1:Nat)+3) IntKind.i64.bits);let v6:=(↑((2:Nat)^((1:Nat)+3)):Int);let v7:=[RV.int IntKind.i64 (1:Int)];[rq (2:Int),(1:Nat)=1∧(fun(x:Nat)=>v1)=fun(x:Nat)=>v1,rq (0:Int),rq ([RV.agg [RV.int IntKind.i64 (2:Int),RV.sl (1:Nat) (5:Nat) fun(x:Nat)=>v1]]),[RV.agg [RV.int IntKind.i64 (2:Int),RV.sl v3 v3 fun x=>[RV.sl (1:Nat) v3 fun(x:Nat)=>v7],RV.sl v3 ((0:Nat)+1+1+1+1+1) fun(x:Nat)=>[RV.int IntKind.i64 (wI 1),RV.int IntKind.i64 (1:Int),RV.int IntKind.i64 (eJ m 1),RV.int IntKind.i64 (0:Int),RV.int IntKind.i64 (0:Int)]]]=[RV.agg [RV.int IntKind.i64 (2:Int),RV.sl (1:Nat) (1:Nat) fun x=>[RV.sl (1:Nat) (1:Nat) fun(x:Nat)=>v7],RV.sl (1:Nat) (5:Nat) fun(x:Nat)=>[RV.int IntKind.i64 v2,RV.int IntKind.i64 (1:Int),RV.int IntKind.i64 (↑w:Int),RV.int IntKind.i64 (0:Int),RV.int IntKind.i64 (0:Int)]]],(0:Int)≤0∧(0:Int)<v2,(0:Int)≤0∧(0:Int)<v2,[RV.sl (1:Nat) v3 fun x=>[RV.sl (1:Nat) v3 fun(x:Nat)=>[RV.int IntKind.i64 (eJ m 1)]],RV.int IntKind.i64 v5]=[RV.sl (1:Nat) (1:Nat) fun x=>[RV.sl (1:Nat) (1:Nat) fun(x:Nat)=>[RV.int IntKind.i64 (↑w:Int)]],RV.int IntKind.i64 v6],(0:Int)≤0∧(0:Int)<v2,(0:Int)≤0∧(0:Int)<v2,aa (aY m 1) false,aa (aY m 0) true,(0:Int)≤w6.wrap ((0:Int)+0)∧w6.wrap ((0:Int)+0)<v2,(0:Int)≤0∧(0:Int)<v2,[RV.sl (1:Nat) (1:Nat) fun x=>[RV.sl (1:Nat) (1:Nat) fun(x:Nat)=>v4],RV.int IntKind.i64 v5]=[RV.sl (1:Nat) (1:Nat) fun x=>[RV.sl (1:Nat) (1:Nat) fun(x:Nat)=>v4],RV.int IntKind.i64 v6],rq ([RV.sl (1:Nat) (1:Nat) fun x=>[RV.sl (1:Nat) (1:Nat) fun(x:Nat)=>v4],RV.int IntKind.i64 (2:Int)]),aa (!true) false,rq ([RV.sl (1:Nat) (1:Nat) fun x=>[RV.sl (1:Nat) (1:Nat) fun(x:Nat)=>v4]])]) kr ⟨?_,?_,?_,?_,?_,?_,?_,?_,?_,?_,(jJ H0),(bk H0 0 de),?_,?_,?_,?_,(dN rfl),(?_:[RV.sl (1:Nat) (1:Nat) fun x=>[RV.sl (1:Nat) (1:Nat) fun(x:Nat)=>[RV.int IntKind.i64 (↑n:Int)]]]=[RV.sl (1:Nat) (1:Nat) fun x=>[RV.sl (1:Nat) (1:Nat) fun(x:Nat)=>[RV.int IntKind.i64 (↑n:Int)]]])⟩
 all_goals first|exact jA
theorem WE (n m u w:Nat)(H0:gi n m u 2 w):ax Tryz.prog [aL] 21 [hR n] (.tup [.agg [.int .i64 2,cV 2 (bS w) (w:Int)],.int .i64 0]):=by
 have fw:=jK H0
 have rr:=fun(tp:List Bool)(ms:List Prop)h hm=>cx aX (bU aX (jq H0) 12) Tryz.func21 (A:=[hR n]) rfl aE rfl rfl cv (tabs:=[aL]) (R:=.tup [.agg [.int .i64 2,cV 2 (bS w) (w:Int)],.int .i64 0]) (tp:=tp) (ms:=ms) h hm
 refine rr (tp 2112) (let v1:=[RV.int IntKind.i64 (↑(2:Nat):Int),RV.int IntKind.i64 (1:Int),RV.int IntKind.i64 (bS w),RV.bool true,RV.int IntKind.i64 (↑w:Int)];let v2:=(0:Nat)+1;let v3:=[RV.int IntKind.i64 (↑n:Int)];let v4:=w6.wrap ((1:Int)*2^min ((2:Nat)+3) IntKind.i64.bits);let v5:=(↑(1:Nat):Int);let v6:=(↑((2:Nat)^((2:Nat)+3)):Int);let v7:=[RV.int IntKind.i64 (1:Int)];[rq (2:Int),(1:Nat)=1∧(fun(x:Nat)=>v1)=fun(x:Nat)=>v1,rq (0:Int),rq ([RV.agg [RV.int IntKind.i64 (2:Int),RV.sl (1:Nat) (5:Nat) fun(x:Nat)=>v1]]),[RV.agg [RV.int IntKind.i64 (2:Int),RV.sl v2 v2 fun x=>[RV.sl (1:Nat) v2 fun(x:Nat)=>v7],RV.sl v2 ((0:Nat)+1+1+1+1+1) fun(x:Nat)=>[RV.int IntKind.i64 (wI 2),RV.int IntKind.i64 (1:Int),RV.int IntKind.i64 (eJ m 2),RV.int IntKind.i64 (0:Int),RV.int IntKind.i64 (0:Int)]]]=[RV.agg [RV.int IntKind.i64 (2:Int),RV.sl (1:Nat) (1:Nat) fun x=>[RV.sl (1:Nat) (1:Nat) fun(x:Nat)=>v7],RV.sl (1:Nat) (5:Nat) fun(x:Nat)=>[RV.int IntKind.i64 (↑(2:Nat):Int),RV.int IntKind.i64 (1:Int),RV.int IntKind.i64 (↑w:Int),RV.int IntKind.i64 (0:Int),RV.int IntKind.i64 (0:Int)]]],(0:Int)≤0∧(0:Int)<v5,(0:Int)≤0∧(0:Int)<v5,[RV.sl (1:Nat) v2 fun x=>[RV.sl (1:Nat) v2 fun(x:Nat)=>[RV.int IntKind.i64 (eJ m 2)]],RV.int IntKind.i64 v4]=[RV.sl (1:Nat) (1:Nat) fun x=>[RV.sl (1:Nat) (1:Nat) fun(x:Nat)=>[RV.int IntKind.i64 (↑w:Int)]],RV.int IntKind.i64 v6],(0:Int)≤0∧(0:Int)<v5,(0:Int)≤0∧(0:Int)<v5,aa (aY m 2) false,aa (aY m 1) true,aa (aY m 0) true,(0:Int)≤w6.wrap ((0:Int)+0)∧w6.wrap ((0:Int)+0)<v5,(0:Int)≤0∧(0:Int)<v5,[RV.sl (1:Nat) (1:Nat) fun x=>[RV.sl (1:Nat) (1:Nat) fun(x:Nat)=>v3],RV.int IntKind.i64 v4]=[RV.sl (1:Nat) (1:Nat) fun x=>[RV.sl (1:Nat) (1:Nat) fun(x:Nat)=>v3],RV.int IntKind.i64 v6],rq ([RV.sl (1:Nat) (1:Nat) fun x=>[RV.sl (1:Nat) (1:Nat) fun(x:Nat)=>v3],RV.int IntKind.i64 (2:Int)]),aa (!true) false,rq ([RV.sl (1:Nat) (1:Nat) fun x=>[RV.sl (1:Nat) (1:Nat) fun(x:Nat)=>v3]])]) kr ⟨?_,?_,?_,?_,?_,?_,?_,?_,?_,?_,(jJ H0),(bk H0 1 de),(bk H0 0 de),?_,?_,?_,?_,(dN rfl),(?_:[RV.sl (1:Nat) (1:Nat) fun x=>[RV.sl (1:Nat) (1:Nat) fun(x:Nat)=>[RV.int IntKind.i64 (↑n:Int)]]]=[RV.sl (1:Nat) (1:Nat) fun x=>[RV.sl (1:Nat) (1:Nat) fun(x:Nat)=>[RV.int IntKind.i64 (↑n:Int)]]])⟩
 all_goals first|exact jA
theorem WF (n m u w:Nat)(H0:gi n m u 3 w):ax Tryz.prog [aL] 21 [hR n] (.tup [.agg [.int .i64 2,cV 3 (bS w) (w:Int)],.int .i64 0]):=by
 have fw:=jK H0
 have rr:=fun(tp:List Bool)(ms:List Prop)h hm=>cx aX (bU aX (jq H0) 12) Tryz.func21 (A:=[hR n]) rfl aE rfl rfl cv (tabs:=[aL]) (R:=.tup [.agg [.int .i64 2,cV 3 (bS w) (w:Int)],.int .i64 0]) (tp:=tp) (ms:=ms) h hm
 refine rr (tp 21112) (let v1:=[RV.int IntKind.i64 (↑(3:Nat):Int),RV.int IntKind.i64 (1:Int),RV.int IntKind.i64 (bS w),RV.bool true,RV.int IntKind.i64 (↑w:Int)];let v2:=(0:Nat)+1;let v3:=[RV.int IntKind.i64 (↑n:Int)];let v4:=w6.wrap ((1:Int)*2^min ((3:Nat)+3) IntKind.i64.bits);let v5:=(↑(1:Nat):Int);let v6:=(↑((2:Nat)^((3:Nat)+3)):Int);let v7:=[RV.int IntKind.i64 (1:Int)];[rq (2:Int),(1:Nat)=1∧(fun(x:Nat)=>v1)=fun(x:Nat)=>v1,rq (0:Int),rq ([RV.agg [RV.int IntKind.i64 (2:Int),RV.sl (1:Nat) (5:Nat) fun(x:Nat)=>v1]]),[RV.agg [RV.int IntKind.i64 (2:Int),RV.sl v2 v2 fun x=>[RV.sl (1:Nat) v2 fun(x:Nat)=>v7],RV.sl v2 ((0:Nat)+1+1+1+1+1) fun(x:Nat)=>[RV.int IntKind.i64 (wI 3),RV.int IntKind.i64 (1:Int),RV.int IntKind.i64 (eJ m 3),RV.int IntKind.i64 (0:Int),RV.int IntKind.i64 (0:Int)]]]=[RV.agg [RV.int IntKind.i64 (2:Int),RV.sl (1:Nat) (1:Nat) fun x=>[RV.sl (1:Nat) (1:Nat) fun(x:Nat)=>v7],RV.sl (1:Nat) (5:Nat) fun(x:Nat)=>[RV.int IntKind.i64 (↑(3:Nat):Int),RV.int IntKind.i64 (1:Int),RV.int IntKind.i64 (↑w:Int),RV.int IntKind.i64 (0:Int),RV.int IntKind.i64 (0:Int)]]],(0:Int)≤0∧(0:Int)<v5,(0:Int)≤0∧(0:Int)<v5,[RV.sl (1:Nat) v2 fun x=>[RV.sl (1:Nat) v2 fun(x:Nat)=>[RV.int IntKind.i64 (eJ m 3)]],RV.int IntKind.i64 v4]=[RV.sl (1:Nat) (1:Nat) fun x=>[RV.sl (1:Nat) (1:Nat) fun(x:Nat)=>[RV.int IntKind.i64 (↑w:Int)]],RV.int IntKind.i64 v6],(0:Int)≤0∧(0:Int)<v5,(0:Int)≤0∧(0:Int)<v5,aa (aY m 3) false,aa (aY m 2) true,aa (aY m 1) true,aa (aY m 0) true,(0:Int)≤w6.wrap ((0:Int)+0)∧w6.wrap ((0:Int)+0)<v5,(0:Int)≤0∧(0:Int)<v5,[RV.sl (1:Nat) (1:Nat) fun x=>[RV.sl (1:Nat) (1:Nat) fun(x:Nat)=>v3],RV.int IntKind.i64 v4]=[RV.sl (1:Nat) (1:Nat) fun x=>[RV.sl (1:Nat) (1:Nat) fun(x:Nat)=>v3],RV.int IntKind.i64 v6],rq ([RV.sl (1:Nat) (1:Nat) fun x=>[RV.sl (1:Nat) (1:Nat) fun(x:Nat)=>v3],RV.int IntKind.i64 (2:Int)]),aa (!true) false,rq ([RV.sl (1:Nat) (1:Nat) fun x=>[RV.sl (1:Nat) (1:Nat) fun(x:Nat)=>v3]])]) kr ⟨?_,?_,?_,?_,?_,?_,?_,?_,?_,?_,(jJ H0),(bk H0 2 de),(bk H0 1 de),(bk H0 0 de),?_,?_,?_,?_,(dN rfl),(?_:[RV.sl (1:Nat) (1:Nat) fun x=>[RV.sl (1:Nat) (1:Nat) fun(x:Nat)=>[RV.int IntKind.i64 (↑n:Int)]]]=[RV.sl (1:Nat) (1:Nat) fun x=>[RV.sl (1:Nat) (1:Nat) fun(x:Nat)=>[RV.int IntKind.i64 (↑n:Int)]]])⟩
 all_goals first|exact jA
theorem WG (n m u w:Nat)(H0:gi n m u 4 w):ax Tryz.prog [aL] 21 [hR n] (.tup [.agg [.int .i64 2,cV 4 (bS w) (w:Int)],.int .i64 0]):=by
 have fw:=jK H0
 have rr:=fun(tp:List Bool)(ms:List Prop)h hm=>cx aX (bU aX (jq H0) 12) Tryz.func21 (A:=[hR n]) rfl aE rfl rfl cv (tabs:=[aL]) (R:=.tup [.agg [.int .i64 2,cV 4 (bS w) (w:Int)],.int .i64 0]) (tp:=tp) (ms:=ms) h hm
 refine rr (tp 211112) (let v1:=[RV.int IntKind.i64 (↑(4:Nat):Int),RV.int IntKind.i64 (1:Int),RV.int IntKind.i64 (bS w),RV.bool true,RV.int IntKind.i64 (↑w:Int)];let v2:=(0:Nat)+1;let v3:=[RV.int IntKind.i64 (↑n:Int)];let v4:=w6.wrap ((1:Int)*2^min ((4:Nat)+3) IntKind.i64.bits);let v5:=(↑(1:Nat):Int);let v6:=(↑((2:Nat)^((4:Nat)+3)):Int);let v7:=[RV.int IntKind.i64 (1:Int)];[rq (2:Int),(1:Nat)=1∧(fun(x:Nat)=>v1)=fun(x:Nat)=>v1,rq (0:Int),rq ([RV.agg [RV.int IntKind.i64 (2:Int),RV.sl (1:Nat) (5:Nat) fun(x:Nat)=>v1]]),[RV.agg [RV.int IntKind.i64 (2:Int),RV.sl v2 v2 fun x=>[RV.sl (1:Nat) v2 fun(x:Nat)=>v7],RV.sl v2 ((0:Nat)+1+1+1+1+1) fun(x:Nat)=>[RV.int IntKind.i64 (wI 4),RV.int IntKind.i64 (1:Int),RV.int IntKind.i64 (eJ m 4),RV.int IntKind.i64 (0:Int),RV.int IntKind.i64 (0:Int)]]]=[RV.agg [RV.int IntKind.i64 (2:Int),RV.sl (1:Nat) (1:Nat) fun x=>[RV.sl (1:Nat) (1:Nat) fun(x:Nat)=>v7],RV.sl (1:Nat) (5:Nat) fun(x:Nat)=>[RV.int IntKind.i64 (↑(4:Nat):Int),RV.int IntKind.i64 (1:Int),RV.int IntKind.i64 (↑w:Int),RV.int IntKind.i64 (0:Int),RV.int IntKind.i64 (0:Int)]]],(0:Int)≤0∧(0:Int)<v5,(0:Int)≤0∧(0:Int)<v5,[RV.sl (1:Nat) v2 fun x=>[RV.sl (1:Nat) v2 fun(x:Nat)=>[RV.int IntKind.i64 (eJ m 4)]],RV.int IntKind.i64 v4]=[RV.sl (1:Nat) (1:Nat) fun x=>[RV.sl (1:Nat) (1:Nat) fun(x:Nat)=>[RV.int IntKind.i64 (↑w:Int)]],RV.int IntKind.i64 v6],(0:Int)≤0∧(0:Int)<v5,(0:Int)≤0∧(0:Int)<v5,aa (aY m 4) false,aa (aY m 3) true,aa (aY m 2) true,aa (aY m 1) true,aa (aY m 0) true,(0:Int)≤w6.wrap ((0:Int)+0)∧w6.wrap ((0:Int)+0)<v5,(0:Int)≤0∧(0:Int)<v5,[RV.sl (1:Nat) (1:Nat) fun x=>[RV.sl (1:Nat) (1:Nat) fun(x:Nat)=>v3],RV.int IntKind.i64 v4]=[RV.sl (1:Nat) (1:Nat) fun x=>[RV.sl (1:Nat) (1:Nat) fun(x:Nat)=>v3],RV.int IntKind.i64 v6],rq ([RV.sl (1:Nat) (1:Nat) fun x=>[RV.sl (1:Nat) (1:Nat) fun(x:Nat)=>v3],RV.int IntKind.i64 (2:Int)]),aa (!true) false,rq ([RV.sl (1:Nat) (1:Nat) fun x=>[RV.sl (1:Nat) (1:Nat) fun(x:Nat)=>v3]])]) kr ⟨?_,?_,?_,?_,?_,?_,?_,?_,?_,?_,(jJ H0),(bk H0 3 de),(bk H0 2 de),(bk H0 1 de),(bk H0 0 de),?_,?_,?_,?_,(dN rfl),(?_:[RV.sl (1:Nat) (1:Nat) fun x=>[RV.sl (1:Nat) (1:Nat) fun(x:Nat)=>[RV.int IntKind.i64 (↑n:Int)]]]=[RV.sl (1:Nat) (1:Nat) fun x=>[RV.sl (1:Nat) (1:Nat) fun(x:Nat)=>[RV.int IntKind.i64 (↑n:Int)]]])⟩
 all_goals first|exact jA
theorem WH (n m u w:Nat)(H0:gi n m u 5 w):ax Tryz.prog [aL] 21 [hR n] (.tup [.agg [.int .i64 2,cV 5 (bS w) (w:Int)],.int .i64 0]):=by
 have fw:=jK H0
 have rr:=fun(tp:List Bool)(ms:List Prop)h hm=>cx aX (bU aX (jq H0) 12) Tryz.func21 (A:=[hR n]) rfl aE rfl rfl cv (tabs:=[aL]) (R:=.tup [.agg [.int .i64 2,cV 5 (bS w) (w:Int)],.int .i64 0]) (tp:=tp) (ms:=ms) h hm
 refine rr (tp 2111112) (let v1:=[RV.int IntKind.i64 (↑(5:Nat):Int),RV.int IntKind.i64 (1:Int),RV.int IntKind.i64 (bS w),RV.bool true,RV.int IntKind.i64 (↑w:Int)];let v2:=(0:Nat)+1;let v3:=[RV.int IntKind.i64 (↑n:Int)];let v4:=w6.wrap ((1:Int)*2^min ((5:Nat)+3) IntKind.i64.bits);let v5:=(↑(1:Nat):Int);let v6:=(↑((2:Nat)^((5:Nat)+3)):Int);let v7:=[RV.int IntKind.i64 (1:Int)];[rq (2:Int),(1:Nat)=1∧(fun(x:Nat)=>v1)=fun(x:Nat)=>v1,rq (0:Int),rq ([RV.agg [RV.int IntKind.i64 (2:Int),RV.sl (1:Nat) (5:Nat) fun(x:Nat)=>v1]]),[RV.agg [RV.int IntKind.i64 (2:Int),RV.sl v2 v2 fun x=>[RV.sl (1:Nat) v2 fun(x:Nat)=>v7],RV.sl v2 ((0:Nat)+1+1+1+1+1) fun(x:Nat)=>[RV.int IntKind.i64 (wI 5),RV.int IntKind.i64 (1:Int),RV.int IntKind.i64 (eJ m 5),RV.int IntKind.i64 (0:Int),RV.int IntKind.i64 (0:Int)]]]=[RV.agg [RV.int IntKind.i64 (2:Int),RV.sl (1:Nat) (1:Nat) fun x=>[RV.sl (1:Nat) (1:Nat) fun(x:Nat)=>v7],RV.sl (1:Nat) (5:Nat) fun(x:Nat)=>[RV.int IntKind.i64 (↑(5:Nat):Int),RV.int IntKind.i64 (1:Int),RV.int IntKind.i64 (↑w:Int),RV.int IntKind.i64 (0:Int),RV.int IntKind.i64 (0:Int)]]],(0:Int)≤0∧(0:Int)<v5,(0:Int)≤0∧(0:Int)<v5,[RV.sl (1:Nat) v2 fun x=>[RV.sl (1:Nat) v2 fun(x:Nat)=>[RV.int IntKind.i64 (eJ m 5)]],RV.int IntKind.i64 v4]=[RV.sl (1:Nat) (1:Nat) fun x=>[RV.sl (1:Nat) (1:Nat) fun(x:Nat)=>[RV.int IntKind.i64 (↑w:Int)]],RV.int IntKind.i64 v6],(0:Int)≤0∧(0:Int)<v5,(0:Int)≤0∧(0:Int)<v5,aa (aY m 5) false,aa (aY m 4) true,aa (aY m 3) true,aa (aY m 2) true,aa (aY m 1) true,aa (aY m 0) true,(0:Int)≤w6.wrap ((0:Int)+0)∧w6.wrap ((0:Int)+0)<v5,(0:Int)≤0∧(0:Int)<v5,[RV.sl (1:Nat) (1:Nat) fun x=>[RV.sl (1:Nat) (1:Nat) fun(x:Nat)=>v3],RV.int IntKind.i64 v4]=[RV.sl (1:Nat) (1:Nat) fun x=>[RV.sl (1:Nat) (1:Nat) fun(x:Nat)=>v3],RV.int IntKind.i64 v6],rq ([RV.sl (1:Nat) (1:Nat) fun x=>[RV.sl (1:Nat) (1:Nat) fun(x:Nat)=>v3],RV.int IntKind.i64 (2:Int)]),aa (!true) false,rq ([RV.sl (1:Nat) (1:Nat) fun x=>[RV.sl (1:Nat) (1:Nat) fun(x:Nat)=>v3]])]) kr ⟨?_,?_,?_,?_,?_,?_,?_,?_,?_,?_,(jJ H0),(bk H0 4 de),(bk H0 3 de),(bk H0 2 de),(bk H0 1 de),(bk H0 0 de),?_,?_,?_,?_,(dN rfl),(?_:[RV.sl (1:Nat) (1:Nat) fun x=>[RV.sl (1:Nat) (1:Nat) fun(x:Nat)=>[RV.int IntKind.i64 (↑n:Int)]]]=[RV.sl (1:Nat) (1:Nat) fun x=>[RV.sl (1:Nat) (1:Nat) fun(x:Nat)=>[RV.int IntKind.i64 (↑n:Int)]]])⟩
 all_goals first|exact jA
theorem WI (n m u w:Nat)(H0:gi n m u 6 w):ax Tryz.prog [aL] 21 [hR n] (.tup [.agg [.int .i64 2,cV 6 (bS w) (w:Int)],.int .i64 0]):=by
 have fw:=jK H0
 have rr:=fun(tp:List Bool)(ms:List Prop)h hm=>cx aX (bU aX (jq H0) 12) Tryz.func21 (A:=[hR n]) rfl aE rfl rfl cv (tabs:=[aL]) (R:=.tup [.agg [.int .i64 2,cV 6 (bS w) (w:Int)],.int .i64 0]) (tp:=tp) (ms:=ms) h hm
 refine rr (tp 21111112) (let v1:=[RV.int IntKind.i64 (↑(6:Nat):Int),RV.int IntKind.i64 (1:Int),RV.int IntKind.i64 (bS w),RV.bool true,RV.int IntKind.i64 (↑w:Int)];let v2:=(0:Nat)+1;let v3:=[RV.int IntKind.i64 (↑n:Int)];let v4:=w6.wrap ((1:Int)*2^min ((6:Nat)+3) IntKind.i64.bits);let v5:=(↑(1:Nat):Int);let v6:=(↑((2:Nat)^((6:Nat)+3)):Int);let v7:=[RV.int IntKind.i64 (1:Int)];[rq (2:Int),(1:Nat)=1∧(fun(x:Nat)=>v1)=fun(x:Nat)=>v1,rq (0:Int),rq ([RV.agg [RV.int IntKind.i64 (2:Int),RV.sl (1:Nat) (5:Nat) fun(x:Nat)=>v1]]),[RV.agg [RV.int IntKind.i64 (2:Int),RV.sl v2 v2 fun x=>[RV.sl (1:Nat) v2 fun(x:Nat)=>v7],RV.sl v2 ((0:Nat)+1+1+1+1+1) fun(x:Nat)=>[RV.int IntKind.i64 (wI 6),RV.int IntKind.i64 (1:Int),RV.int IntKind.i64 (eJ m 6),RV.int IntKind.i64 (0:Int),RV.int IntKind.i64 (0:Int)]]]=[RV.agg [RV.int IntKind.i64 (2:Int),RV.sl (1:Nat) (1:Nat) fun x=>[RV.sl (1:Nat) (1:Nat) fun(x:Nat)=>v7],RV.sl (1:Nat) (5:Nat) fun(x:Nat)=>[RV.int IntKind.i64 (↑(6:Nat):Int),RV.int IntKind.i64 (1:Int),RV.int IntKind.i64 (↑w:Int),RV.int IntKind.i64 (0:Int),RV.int IntKind.i64 (0:Int)]]],(0:Int)≤0∧(0:Int)<v5,(0:Int)≤0∧(0:Int)<v5,[RV.sl (1:Nat) v2 fun x=>[RV.sl (1:Nat) v2 fun(x:Nat)=>[RV.int IntKind.i64 (eJ m 6)]],RV.int IntKind.i64 v4]=[RV.sl (1:Nat) (1:Nat) fun x=>[RV.sl (1:Nat) (1:Nat) fun(x:Nat)=>[RV.int IntKind.i64 (↑w:Int)]],RV.int IntKind.i64 v6],(0:Int)≤0∧(0:Int)<v5,(0:Int)≤0∧(0:Int)<v5,aa (aY m 6) false,aa (aY m 5) true,aa (aY m 4) true,aa (aY m 3) true,aa (aY m 2) true,aa (aY m 1) true,aa (aY m 0) true,(0:Int)≤w6.wrap ((0:Int)+0)∧w6.wrap ((0:Int)+0)<v5,(0:Int)≤0∧(0:Int)<v5,[RV.sl (1:Nat) (1:Nat) fun x=>[RV.sl (1:Nat) (1:Nat) fun(x:Nat)=>v3],RV.int IntKind.i64 v4]=[RV.sl (1:Nat) (1:Nat) fun x=>[RV.sl (1:Nat) (1:Nat) fun(x:Nat)=>v3],RV.int IntKind.i64 v6],rq ([RV.sl (1:Nat) (1:Nat) fun x=>[RV.sl (1:Nat) (1:Nat) fun(x:Nat)=>v3],RV.int IntKind.i64 (2:Int)]),aa (!true) false,rq ([RV.sl (1:Nat) (1:Nat) fun x=>[RV.sl (1:Nat) (1:Nat) fun(x:Nat)=>v3]])]) kr ⟨?_,?_,?_,?_,?_,?_,?_,?_,?_,?_,(jJ H0),(bk H0 5 de),(bk H0 4 de),(bk H0 3 de),(bk H0 2 de),(bk H0 1 de),(bk H0 0 de),?_,?_,?_,?_,(dN rfl),(?_:[RV.sl (1:Nat) (1:Nat) fun x=>[RV.sl (1:Nat) (1:Nat) fun(x:Nat)=>[RV.int IntKind.i64 (↑n:Int)]]]=[RV.sl (1:Nat) (1:Nat) fun x=>[RV.sl (1:Nat) (1:Nat) fun(x:Nat)=>[RV.int IntKind.i64 (↑n:Int)]]])⟩
 all_goals first|exact jA
theorem WJ (n m u w:Nat)(H0:gi n m u 7 w):ax Tryz.prog [aL] 21 [hR n] (.tup [.agg [.int .i64 2,cV 7 (bS w) (w:Int)],.int .i64 0]):=by
 have fw:=jK H0
 have rr:=fun(tp:List Bool)(ms:List Prop)h hm=>cx aX (bU aX (jq H0) 12) Tryz.func21 (A:=[hR n]) rfl aE rfl rfl cv (tabs:=[aL]) (R:=.tup [.agg [.int .i64 2,cV 7 (bS w) (w:Int)],.int .i64 0]) (tp:=tp) (ms:=ms) h hm
 refine rr (tp 211111112) (let v1:=[RV.int IntKind.i64 (↑(7:Nat):Int),RV.int IntKind.i64 (1:Int),RV.int IntKind.i64 (bS w),RV.bool true,RV.int IntKind.i64 (↑w:Int)];let v2:=(0:Nat)+1;let v3:=[RV.int IntKind.i64 (↑n:Int)];let v4:=w6.wrap ((1:Int)*2^min ((7:Nat)+3) IntKind.i64.bits);let v5:=(↑(1:Nat):Int);let v6:=(↑((2:Nat)^((7:Nat)+3)):Int);let v7:=[RV.int IntKind.i64 (1:Int)];[rq (2:Int),(1:Nat)=1∧(fun(x:Nat)=>v1)=fun(x:Nat)=>v1,rq (0:Int),rq ([RV.agg [RV.int IntKind.i64 (2:Int),RV.sl (1:Nat) (5:Nat) fun(x:Nat)=>v1]]),[RV.agg [RV.int IntKind.i64 (2:Int),RV.sl v2 v2 fun x=>[RV.sl (1:Nat) v2 fun(x:Nat)=>v7],RV.sl v2 ((0:Nat)+1+1+1+1+1) fun(x:Nat)=>[RV.int IntKind.i64 (wI 7),RV.int IntKind.i64 (1:Int),RV.int IntKind.i64 (eJ m 7),RV.int IntKind.i64 (0:Int),RV.int IntKind.i64 (0:Int)]]]=[RV.agg [RV.int IntKind.i64 (2:Int),RV.sl (1:Nat) (1:Nat) fun x=>[RV.sl (1:Nat) (1:Nat) fun(x:Nat)=>v7],RV.sl (1:Nat) (5:Nat) fun(x:Nat)=>[RV.int IntKind.i64 (↑(7:Nat):Int),RV.int IntKind.i64 (1:Int),RV.int IntKind.i64 (↑w:Int),RV.int IntKind.i64 (0:Int),RV.int IntKind.i64 (0:Int)]]],(0:Int)≤0∧(0:Int)<v5,(0:Int)≤0∧(0:Int)<v5,[RV.sl (1:Nat) v2 fun x=>[RV.sl (1:Nat) v2 fun(x:Nat)=>[RV.int IntKind.i64 (eJ m 7)]],RV.int IntKind.i64 v4]=[RV.sl (1:Nat) (1:Nat) fun x=>[RV.sl (1:Nat) (1:Nat) fun(x:Nat)=>[RV.int IntKind.i64 (↑w:Int)]],RV.int IntKind.i64 v6],(0:Int)≤0∧(0:Int)<v5,(0:Int)≤0∧(0:Int)<v5,aa (aY m 7) false,aa (aY m 6) true,aa (aY m 5) true,aa (aY m 4) true,aa (aY m 3) true,aa (aY m 2) true,aa (aY m 1) true,aa (aY m 0) true,(0:Int)≤w6.wrap ((0:Int)+0)∧w6.wrap ((0:Int)+0)<v5,(0:Int)≤0∧(0:Int)<v5,[RV.sl (1:Nat) (1:Nat) fun x=>[RV.sl (1:Nat) (1:Nat) fun(x:Nat)=>v3],RV.int IntKind.i64 v4]=[RV.sl (1:Nat) (1:Nat) fun x=>[RV.sl (1:Nat) (1:Nat) fun(x:Nat)=>v3],RV.int IntKind.i64 v6],rq ([RV.sl (1:Nat) (1:Nat) fun x=>[RV.sl (1:Nat) (1:Nat) fun(x:Nat)=>v3],RV.int IntKind.i64 (2:Int)]),aa (!true) false,rq ([RV.sl (1:Nat) (1:Nat) fun x=>[RV.sl (1:Nat) (1:Nat) fun(x:Nat)=>v3]])]) kr ⟨?_,?_,?_,?_,?_,?_,?_,?_,?_,?_,(jJ H0),(bk H0 6 de),(bk H0 5 de),(bk H0 4 de),(bk H0 3 de),(bk H0 2 de),(bk H0 1 de),(bk H0 0 de),?_,?_,?_,?_,(dN rfl),(?_:[RV.sl (1:Nat) (1:Nat) fun x=>[RV.sl (1:Nat) (1:Nat) fun(x:Nat)=>[RV.int IntKind.i64 (↑n:Int)]]]=[RV.sl (1:Nat) (1:Nat) fun x=>[RV.sl (1:Nat) (1:Nat) fun(x:Nat)=>[RV.int IntKind.i64 (↑n:Int)]]])⟩
 all_goals first|exact jA
theorem WK (n m u w:Nat)(H0:gi n m u 8 w):ax Tryz.prog [aL] 21 [hR n] (.tup [.agg [.int .i64 2,cV 8 (bS w) (w:Int)],.int .i64 0]):=by
 have fw:=jK H0
 have rr:=fun(tp:List Bool)(ms:List Prop)h hm=>cx aX (bU aX (jq H0) 12) Tryz.func21 (A:=[hR n]) rfl aE rfl rfl cv (tabs:=[aL]) (R:=.tup [.agg [.int .i64 2,cV 8 (bS w) (w:Int)],.int .i64 0]) (tp:=tp) (ms:=ms) h hm
 refine rr (tp 2111111112) (let v1:=[RV.int IntKind.i64 (↑(8:Nat):Int),RV.int IntKind.i64 (1:Int),RV.int IntKind.i64 (bS w),RV.bool true,RV.int IntKind.i64 (↑w:Int)];let v2:=(0:Nat)+1;let v3:=[RV.int IntKind.i64 (↑n:Int)];let v4:=w6.wrap ((1:Int)*2^min ((8:Nat)+3) IntKind.i64.bits);let v5:=(↑(1:Nat):Int);let v6:=(↑((2:Nat)^((8:Nat)+3)):Int);let v7:=[RV.int IntKind.i64 (1:Int)];[rq (2:Int),(1:Nat)=1∧(fun(x:Nat)=>v1)=fun(x:Nat)=>v1,rq (0:Int),rq ([RV.agg [RV.int IntKind.i64 (2:Int),RV.sl (1:Nat) (5:Nat) fun(x:Nat)=>v1]]),[RV.agg [RV.int IntKind.i64 (2:Int),RV.sl v2 v2 fun x=>[RV.sl (1:Nat) v2 fun(x:Nat)=>v7],RV.sl v2 ((0:Nat)+1+1+1+1+1) fun(x:Nat)=>[RV.int IntKind.i64 (wI 8),RV.int IntKind.i64 (1:Int),RV.int IntKind.i64 (eJ m 8),RV.int IntKind.i64 (0:Int),RV.int IntKind.i64 (0:Int)]]]=[RV.agg [RV.int IntKind.i64 (2:Int),RV.sl (1:Nat) (1:Nat) fun x=>[RV.sl (1:Nat) (1:Nat) fun(x:Nat)=>v7],RV.sl (1:Nat) (5:Nat) fun(x:Nat)=>[RV.int IntKind.i64 (↑(8:Nat):Int),RV.int IntKind.i64 (1:Int),RV.int IntKind.i64 (↑w:Int),RV.int IntKind.i64 (0:Int),RV.int IntKind.i64 (0:Int)]]],(0:Int)≤0∧(0:Int)<v5,(0:Int)≤0∧(0:Int)<v5,[RV.sl (1:Nat) v2 fun x=>[RV.sl (1:Nat) v2 fun(x:Nat)=>[RV.int IntKind.i64 (eJ m 8)]],RV.int IntKind.i64 v4]=[RV.sl (1:Nat) (1:Nat) fun x=>[RV.sl (1:Nat) (1:Nat) fun(x:Nat)=>[RV.int IntKind.i64 (↑w:Int)]],RV.int IntKind.i64 v6],(0:Int)≤0∧(0:Int)<v5,(0:Int)≤0∧(0:Int)<v5,aa (aY m 8) false,aa (aY m 7) true,aa (aY m 6) true,aa (aY m 5) true,aa (aY m 4) true,aa (aY m 3) true,aa (aY m 2) true,aa (aY m 1) true,aa (aY m 0) true,(0:Int)≤w6.wrap ((0:Int)+0)∧w6.wrap ((0:Int)+0)<v5,(0:Int)≤0∧(0:Int)<v5,[RV.sl (1:Nat) (1:Nat) fun x=>[RV.sl (1:Nat) (1:Nat) fun(x:Nat)=>v3],RV.int IntKind.i64 v4]=[RV.sl (1:Nat) (1:Nat) fun x=>[RV.sl (1:Nat) (1:Nat) fun(x:Nat)=>v3],RV.int IntKind.i64 v6],rq ([RV.sl (1:Nat) (1:Nat) fun x=>[RV.sl (1:Nat) (1:Nat) fun(x:Nat)=>v3],RV.int IntKind.i64 (2:Int)]),aa (!true) false,rq ([RV.sl (1:Nat) (1:Nat) fun x=>[RV.sl (1:Nat) (1:Nat) fun(x:Nat)=>v3]])]) kr ⟨?_,?_,?_,?_,?_,?_,?_,?_,?_,?_,(jJ H0),(bk H0 7 de),(bk H0 6 de),(bk H0 5 de),(bk H0 4 de),(bk H0 3 de),(bk H0 2 de),(bk H0 1 de),(bk H0 0 de),?_,?_,?_,?_,(dN rfl),(?_:[RV.sl (1:Nat) (1:Nat) fun x=>[RV.sl (1:Nat) (1:Nat) fun(x:Nat)=>[RV.int IntKind.i64 (↑n:Int)]]]=[RV.sl (1:Nat) (1:Nat) fun x=>[RV.sl (1:Nat) (1:Nat) fun(x:Nat)=>[RV.int IntKind.i64 (↑n:Int)]]])⟩
 all_goals first|exact jA
theorem WL (n m u w:Nat)(H0:gi n m u 9 w):ax Tryz.prog [aL] 21 [hR n] (.tup [.agg [.int .i64 2,cV 9 (bS w) (w:Int)],.int .i64 0]):=by
 have fw:=jK H0
 have rr:=fun(tp:List Bool)(ms:List Prop)h hm=>cx aX (bU aX (jq H0) 12) Tryz.func21 (A:=[hR n]) rfl aE rfl rfl cv (tabs:=[aL]) (R:=.tup [.agg [.int .i64 2,cV 9 (bS w) (w:Int)],.int .i64 0]) (tp:=tp) (ms:=ms) h hm
 refine rr (tp 21111111112) (let v1:=[RV.int IntKind.i64 (↑(9:Nat):Int),RV.int IntKind.i64 (1:Int),RV.int IntKind.i64 (bS w),RV.bool true,RV.int IntKind.i64 (↑w:Int)];let v2:=(0:Nat)+1;let v3:=[RV.int IntKind.i64 (↑n:Int)];let v4:=w6.wrap ((1:Int)*2^min ((9:Nat)+3) IntKind.i64.bits);let v5:=(↑(1:Nat):Int);let v6:=(↑((2:Nat)^((9:Nat)+3)):Int);let v7:=[RV.int IntKind.i64 (1:Int)];[rq (2:Int),(1:Nat)=1∧(fun(x:Nat)=>v1)=fun(x:Nat)=>v1,rq (0:Int),rq ([RV.agg [RV.int IntKind.i64 (2:Int),RV.sl (1:Nat) (5:Nat) fun(x:Nat)=>v1]]),[RV.agg [RV.int IntKind.i64 (2:Int),RV.sl v2 v2 fun x=>[RV.sl (1:Nat) v2 fun(x:Nat)=>v7],RV.sl v2 ((0:Nat)+1+1+1+1+1) fun(x:Nat)=>[RV.int IntKind.i64 (wI 9),RV.int IntKind.i64 (1:Int),RV.int IntKind.i64 (eJ m 9),RV.int IntKind.i64 (0:Int),RV.int IntKind.i64 (0:Int)]]]=[RV.agg [RV.int IntKind.i64 (2:Int),RV.sl (1:Nat) (1:Nat) fun x=>[RV.sl (1:Nat) (1:Nat) fun(x:Nat)=>v7],RV.sl (1:Nat) (5:Nat) fun(x:Nat)=>[RV.int IntKind.i64 (↑(9:Nat):Int),RV.int IntKind.i64 (1:Int),RV.int IntKind.i64 (↑w:Int),RV.int IntKind.i64 (0:Int),RV.int IntKind.i64 (0:Int)]]],(0:Int)≤0∧(0:Int)<v5,(0:Int)≤0∧(0:Int)<v5,[RV.sl (1:Nat) v2 fun x=>[RV.sl (1:Nat) v2 fun(x:Nat)=>[RV.int IntKind.i64 (eJ m 9)]],RV.int IntKind.i64 v4]=[RV.sl (1:Nat) (1:Nat) fun x=>[RV.sl (1:Nat) (1:Nat) fun(x:Nat)=>[RV.int IntKind.i64 (↑w:Int)]],RV.int IntKind.i64 v6],(0:Int)≤0∧(0:Int)<v5,(0:Int)≤0∧(0:Int)<v5,aa (aY m 9) false,aa (aY m 8) true,aa (aY m 7) true,aa (aY m 6) true,aa (aY m 5) true,aa (aY m 4) true,aa (aY m 3) true,aa (aY m 2) true,aa (aY m 1) true,aa (aY m 0) true,(0:Int)≤w6.wrap ((0:Int)+0)∧w6.wrap ((0:Int)+0)<v5,(0:Int)≤0∧(0:Int)<v5,[RV.sl (1:Nat) (1:Nat) fun x=>[RV.sl (1:Nat) (1:Nat) fun(x:Nat)=>v3],RV.int IntKind.i64 v4]=[RV.sl (1:Nat) (1:Nat) fun x=>[RV.sl (1:Nat) (1:Nat) fun(x:Nat)=>v3],RV.int IntKind.i64 v6],rq ([RV.sl (1:Nat) (1:Nat) fun x=>[RV.sl (1:Nat) (1:Nat) fun(x:Nat)=>v3],RV.int IntKind.i64 (2:Int)]),aa (!true) false,rq ([RV.sl (1:Nat) (1:Nat) fun x=>[RV.sl (1:Nat) (1:Nat) fun(x:Nat)=>v3]])]) kr ⟨?_,?_,?_,?_,?_,?_,?_,?_,?_,?_,(jJ H0),(bk H0 8 de),(bk H0 7 de),(bk H0 6 de),(bk H0 5 de),(bk H0 4 de),(bk H0 3 de),(bk H0 2 de),(bk H0 1 de),(bk H0 0 de),?_,?_,?_,?_,(dN rfl),(?_:[RV.sl (1:Nat) (1:Nat) fun x=>[RV.sl (1:Nat) (1:Nat) fun(x:Nat)=>[RV.int IntKind.i64 (↑n:Int)]]]=[RV.sl (1:Nat) (1:Nat) fun x=>[RV.sl (1:Nat) (1:Nat) fun(x:Nat)=>[RV.int IntKind.i64 (↑n:Int)]]])⟩
 all_goals first|exact jA
theorem Ti (n m u w:Nat)(H0:gi n m u 10 w):ax Tryz.prog [aL] 21 [hR n] (.tup [.agg [.int .i64 2,cV 10 (bS w) (w:Int)],.int .i64 0]):=by
 have fw:=jK H0
 have rr:=fun(tp:List Bool)(ms:List Prop)h hm=>cx aX (bU aX (jq H0) 12) Tryz.func21 (A:=[hR n]) rfl aE rfl rfl cv (tabs:=[aL]) (R:=.tup [.agg [.int .i64 2,cV 10 (bS w) (w:Int)],.int .i64 0]) (tp:=tp) (ms:=ms) h hm
 refine rr (tp 211111111112) (let v1:=[RV.int IntKind.i64 (↑(10:Nat):Int),RV.int IntKind.i64 (1:Int),RV.int IntKind.i64 (bS w),RV.bool true,RV.int IntKind.i64 (↑w:Int)];let v2:=(0:Nat)+1;let v3:=[RV.int IntKind.i64 (↑n:Int)];let v4:=w6.wrap ((1:Int)*2^min ((10:Nat)+3) IntKind.i64.bits);let v5:=(↑(1:Nat):Int);let v6:=(↑((2:Nat)^((10:Nat)+3)):Int);let v7:=[RV.int IntKind.i64 (1:Int)];[rq (2:Int),(1:Nat)=1∧(fun(x:Nat)=>v1)=fun(x:Nat)=>v1,rq (0:Int),rq ([RV.agg [RV.int IntKind.i64 (2:Int),RV.sl (1:Nat) (5:Nat) fun(x:Nat)=>v1]]),[RV.agg [RV.int IntKind.i64 (2:Int),RV.sl v2 v2 fun x=>[RV.sl (1:Nat) v2 fun(x:Nat)=>v7],RV.sl v2 ((0:Nat)+1+1+1+1+1) fun(x:Nat)=>[RV.int IntKind.i64 (wI 10),RV.int IntKind.i64 (1:Int),RV.int IntKind.i64 (eJ m 10),RV.int IntKind.i64 (0:Int),RV.int IntKind.i64 (0:Int)]]]=[RV.agg [RV.int IntKind.i64 (2:Int),RV.sl (1:Nat) (1:Nat) fun x=>[RV.sl (1:Nat) (1:Nat) fun(x:Nat)=>v7],RV.sl (1:Nat) (5:Nat) fun(x:Nat)=>[RV.int IntKind.i64 (↑(10:Nat):Int),RV.int IntKind.i64 (1:Int),RV.int IntKind.i64 (↑w:Int),RV.int IntKind.i64 (0:Int),RV.int IntKind.i64 (0:Int)]]],(0:Int)≤0∧(0:Int)<v5,(0:Int)≤0∧(0:Int)<v5,[RV.sl (1:Nat) v2 fun x=>[RV.sl (1:Nat) v2 fun(x:Nat)=>[RV.int IntKind.i64 (eJ m 10)]],RV.int IntKind.i64 v4]=[RV.sl (1:Nat) (1:Nat) fun x=>[RV.sl (1:Nat) (1:Nat) fun(x:Nat)=>[RV.int IntKind.i64 (↑w:Int)]],RV.int IntKind.i64 v6],(0:Int)≤0∧(0:Int)<v5,(0:Int)≤0∧(0:Int)<v5,aa (aY m 10) false,aa (aY m 9) true,aa (aY m 8) true,aa (aY m 7) true,aa (aY m 6) true,aa (aY m 5) true,aa (aY m 4) true,aa (aY m 3) true,aa (aY m 2) true,aa (aY m 1) true,aa (aY m 0) true,(0:Int)≤w6.wrap ((0:Int)+0)∧w6.wrap ((0:Int)+0)<v5,(0:Int)≤0∧(0:Int)<v5,[RV.sl (1:Nat) (1:Nat) fun x=>[RV.sl (1:Nat) (1:Nat) fun(x:Nat)=>v3],RV.int IntKind.i64 v4]=[RV.sl (1:Nat) (1:Nat) fun x=>[RV.sl (1:Nat) (1:Nat) fun(x:Nat)=>v3],RV.int IntKind.i64 v6],rq ([RV.sl (1:Nat) (1:Nat) fun x=>[RV.sl (1:Nat) (1:Nat) fun(x:Nat)=>v3],RV.int IntKind.i64 (2:Int)]),aa (!true) false,rq ([RV.sl (1:Nat) (1:Nat) fun x=>[RV.sl (1:Nat) (1:Nat) fun(x:Nat)=>v3]])]) kr ⟨?_,?_,?_,?_,?_,?_,?_,?_,?_,?_,(jJ H0),(bk H0 9 de),(bk H0 8 de),(bk H0 7 de),(bk H0 6 de),(bk H0 5 de),(bk H0 4 de),(bk H0 3 de),(bk H0 2 de),(bk H0 1 de),(bk H0 0 de),?_,?_,?_,?_,(dN rfl),(?_:[RV.sl (1:Nat) (1:Nat) fun x=>[RV.sl (1:Nat) (1:Nat) fun(x:Nat)=>[RV.int IntKind.i64 (↑n:Int)]]]=[RV.sl (1:Nat) (1:Nat) fun x=>[RV.sl (1:Nat) (1:Nat) fun(x:Nat)=>[RV.int IntKind.i64 (↑n:Int)]]])⟩
 all_goals first|exact jA
theorem Tj (n m u w:Nat)(H0:gi n m u 11 w):ax Tryz.prog [aL] 21 [hR n] (.tup [.agg [.int .i64 2,cV 11 (bS w) (w:Int)],.int .i64 0]):=by
 have fw:=jK H0
 have rr:=fun(tp:List Bool)(ms:List Prop)h hm=>cx aX (bU aX (jq H0) 12) Tryz.func21 (A:=[hR n]) rfl aE rfl rfl cv (tabs:=[aL]) (R:=.tup [.agg [.int .i64 2,cV 11 (bS w) (w:Int)],.int .i64 0]) (tp:=tp) (ms:=ms) h hm
 refine rr (tp 2111111111112) (let v1:=[RV.int IntKind.i64 (↑(11:Nat):Int),RV.int IntKind.i64 (1:Int),RV.int IntKind.i64 (bS w),RV.bool true,RV.int IntKind.i64 (↑w:Int)];let v2:=(0:Nat)+1;let v3:=[RV.int IntKind.i64 (↑n:Int)];let v4:=w6.wrap ((1:Int)*2^min ((11:Nat)+3) IntKind.i64.bits);let v5:=(↑(1:Nat):Int);let v6:=(↑((2:Nat)^((11:Nat)+3)):Int);let v7:=[RV.int IntKind.i64 (1:Int)];[rq (2:Int),(1:Nat)=1∧(fun(x:Nat)=>v1)=fun(x:Nat)=>v1,rq (0:Int),rq ([RV.agg [RV.int IntKind.i64 (2:Int),RV.sl (1:Nat) (5:Nat) fun(x:Nat)=>v1]]),[RV.agg [RV.int IntKind.i64 (2:Int),RV.sl v2 v2 fun x=>[RV.sl (1:Nat) v2 fun(x:Nat)=>v7],RV.sl v2 ((0:Nat)+1+1+1+1+1) fun(x:Nat)=>[RV.int IntKind.i64 (wI 11),RV.int IntKind.i64 (1:Int),RV.int IntKind.i64 (eJ m 11),RV.int IntKind.i64 (0:Int),RV.int IntKind.i64 (0:Int)]]]=[RV.agg [RV.int IntKind.i64 (2:Int),RV.sl (1:Nat) (1:Nat) fun x=>[RV.sl (1:Nat) (1:Nat) fun(x:Nat)=>v7],RV.sl (1:Nat) (5:Nat) fun(x:Nat)=>[RV.int IntKind.i64 (↑(11:Nat):Int),RV.int IntKind.i64 (1:Int),RV.int IntKind.i64 (↑w:Int),RV.int IntKind.i64 (0:Int),RV.int IntKind.i64 (0:Int)]]],(0:Int)≤0∧(0:Int)<v5,(0:Int)≤0∧(0:Int)<v5,[RV.sl (1:Nat) v2 fun x=>[RV.sl (1:Nat) v2 fun(x:Nat)=>[RV.int IntKind.i64 (eJ m 11)]],RV.int IntKind.i64 v4]=[RV.sl (1:Nat) (1:Nat) fun x=>[RV.sl (1:Nat) (1:Nat) fun(x:Nat)=>[RV.int IntKind.i64 (↑w:Int)]],RV.int IntKind.i64 v6],(0:Int)≤0∧(0:Int)<v5,(0:Int)≤0∧(0:Int)<v5,aa (aY m 11) false,aa (aY m 10) true,aa (aY m 9) true,aa (aY m 8) true,aa (aY m 7) true,aa (aY m 6) true,aa (aY m 5) true,aa (aY m 4) true,aa (aY m 3) true,aa (aY m 2) true,aa (aY m 1) true,aa (aY m 0) true,(0:Int)≤w6.wrap ((0:Int)+0)∧w6.wrap ((0:Int)+0)<v5,(0:Int)≤0∧(0:Int)<v5,[RV.sl (1:Nat) (1:Nat) fun x=>[RV.sl (1:Nat) (1:Nat) fun(x:Nat)=>v3],RV.int IntKind.i64 v4]=[RV.sl (1:Nat) (1:Nat) fun x=>[RV.sl (1:Nat) (1:Nat) fun(x:Nat)=>v3],RV.int IntKind.i64 v6],rq ([RV.sl (1:Nat) (1:Nat) fun x=>[RV.sl (1:Nat) (1:Nat) fun(x:Nat)=>v3],RV.int IntKind.i64 (2:Int)]),aa (!true) false,rq ([RV.sl (1:Nat) (1:Nat) fun x=>[RV.sl (1:Nat) (1:Nat) fun(x:Nat)=>v3]])]) kr ⟨?_,?_,?_,?_,?_,?_,?_,?_,?_,?_,(jJ H0),(bk H0 10 de),(bk H0 9 de),(bk H0 8 de),(bk H0 7 de),(bk H0 6 de),(bk H0 5 de),(bk H0 4 de),(bk H0 3 de),(bk H0 2 de),(bk H0 1 de),(bk H0 0 de),?_,?_,?_,?_,(dN rfl),(?_:[RV.sl (1:Nat) (1:Nat) fun x=>[RV.sl (1:Nat) (1:Nat) fun(x:Nat)=>[RV.int IntKind.i64 (↑n:Int)]]]=[RV.sl (1:Nat) (1:Nat) fun x=>[RV.sl (1:Nat) (1:Nat) fun(x:Nat)=>[RV.int IntKind.i64 (↑n:Int)]]])⟩
 all_goals first|exact jA
theorem Tk (n m u w:Nat)(H0:gi n m u 12 w):ax Tryz.prog [aL] 21 [hR n] (.tup [.agg [.int .i64 2,cV 12 (bS w) (w:Int)],.int .i64 0]):=by
 have fw:=jK H0
 have rr:=fun(tp:List Bool)(ms:List Prop)h hm=>cx aX (bU aX (jq H0) 12) Tryz.func21 (A:=[hR n]) rfl aE rfl rfl cv (tabs:=[aL]) (R:=.tup [.agg [.int .i64 2,cV 12 (bS w) (w:Int)],.int .i64 0]) (tp:=tp) (ms:=ms) h hm
 refine rr (tp 21111111111112) (let v1:=[RV.int IntKind.i64 (↑(12:Nat):Int),RV.int IntKind.i64 (1:Int),RV.int IntKind.i64 (bS w),RV.bool true,RV.int IntKind.i64 (↑w:Int)];let v2:=(0:Nat)+1;let v3:=[RV.int IntKind.i64 (↑n:Int)];let v4:=w6.wrap ((1:Int)*2^min ((12:Nat)+3) IntKind.i64.bits);let v5:=(↑(1:Nat):Int);let v6:=(↑((2:Nat)^((12:Nat)+3)):Int);let v7:=[RV.int IntKind.i64 (1:Int)];[rq (2:Int),(1:Nat)=1∧(fun(x:Nat)=>v1)=fun(x:Nat)=>v1,rq (0:Int),rq ([RV.agg [RV.int IntKind.i64 (2:Int),RV.sl (1:Nat) (5:Nat) fun(x:Nat)=>v1]]),[RV.agg [RV.int IntKind.i64 (2:Int),RV.sl v2 v2 fun x=>[RV.sl (1:Nat) v2 fun(x:Nat)=>v7],RV.sl v2 ((0:Nat)+1+1+1+1+1) fun(x:Nat)=>[RV.int IntKind.i64 (wI 12),RV.int IntKind.i64 (1:Int),RV.int IntKind.i64 (eJ m 12),RV.int IntKind.i64 (0:Int),RV.int IntKind.i64 (0:Int)]]]=[RV.agg [RV.int IntKind.i64 (2:Int),RV.sl (1:Nat) (1:Nat) fun x=>[RV.sl (1:Nat) (1:Nat) fun(x:Nat)=>v7],RV.sl (1:Nat) (5:Nat) fun(x:Nat)=>[RV.int IntKind.i64 (↑(12:Nat):Int),RV.int IntKind.i64 (1:Int),RV.int IntKind.i64 (↑w:Int),RV.int IntKind.i64 (0:Int),RV.int IntKind.i64 (0:Int)]]],(0:Int)≤0∧(0:Int)<v5,(0:Int)≤0∧(0:Int)<v5,[RV.sl (1:Nat) v2 fun x=>[RV.sl (1:Nat) v2 fun(x:Nat)=>[RV.int IntKind.i64 (eJ m 12)]],RV.int IntKind.i64 v4]=[RV.sl (1:Nat) (1:Nat) fun x=>[RV.sl (1:Nat) (1:Nat) fun(x:Nat)=>[RV.int IntKind.i64 (↑w:Int)]],RV.int IntKind.i64 v6],(0:Int)≤0∧(0:Int)<v5,(0:Int)≤0∧(0:Int)<v5,aa (aY m 12) false,aa (aY m 11) true,aa (aY m 10) true,aa (aY m 9) true,aa (aY m 8) true,aa (aY m 7) true,aa (aY m 6) true,aa (aY m 5) true,aa (aY m 4) true,aa (aY m 3) true,aa (aY m 2) true,aa (aY m 1) true,aa (aY m 0) true,(0:Int)≤w6.wrap ((0:Int)+0)∧w6.wrap ((0:Int)+0)<v5,(0:Int)≤0∧(0:Int)<v5,[RV.sl (1:Nat) (1:Nat) fun x=>[RV.sl (1:Nat) (1:Nat) fun(x:Nat)=>v3],RV.int IntKind.i64 v4]=[RV.sl (1:Nat) (1:Nat) fun x=>[RV.sl (1:Nat) (1:Nat) fun(x:Nat)=>v3],RV.int IntKind.i64 v6],rq ([RV.sl (1:Nat) (1:Nat) fun x=>[RV.sl (1:Nat) (1:Nat) fun(x:Nat)=>v3],RV.int IntKind.i64 (2:Int)]),aa (!true) false,rq ([RV.sl (1:Nat) (1:Nat) fun x=>[RV.sl (1:Nat) (1:Nat) fun(x:Nat)=>v3]])]) kr ⟨?_,?_,?_,?_,?_,?_,?_,?_,?_,?_,(jJ H0),(bk H0 11 de),(bk H0 10 de),(bk H0 9 de),(bk H0 8 de),(bk H0 7 de),(bk H0 6 de),(bk H0 5 de),(bk H0 4 de),(bk H0 3 de),(bk H0 2 de),(bk H0 1 de),(bk H0 0 de),?_,?_,?_,?_,(dN rfl),(?_:[RV.sl (1:Nat) (1:Nat) fun x=>[RV.sl (1:Nat) (1:Nat) fun(x:Nat)=>[RV.int IntKind.i64 (↑n:Int)]]]=[RV.sl (1:Nat) (1:Nat) fun x=>[RV.sl (1:Nat) (1:Nat) fun(x:Nat)=>[RV.int IntKind.i64 (↑n:Int)]]])⟩
 all_goals first|exact jA
theorem Tl (n m u w:Nat)(H0:gi n m u 13 w):ax Tryz.prog [aL] 21 [hR n] (.tup [.agg [.int .i64 2,cV 13 (bS w) (w:Int)],.int .i64 0]):=by
 have fw:=jK H0
 have rr:=fun(tp:List Bool)(ms:List Prop)h hm=>cx aX (bU aX (jq H0) 12) Tryz.func21 (A:=[hR n]) rfl aE rfl rfl cv (tabs:=[aL]) (R:=.tup [.agg [.int .i64 2,cV 13 (bS w) (w:Int)],.int .i64 0]) (tp:=tp) (ms:=ms) h hm
 refine rr (tp 211111111111112) (let v1:=[RV.int IntKind.i64 (↑(13:Nat):Int),RV.int IntKind.i64 (1:Int),RV.int IntKind.i64 (bS w),RV.bool true,RV.int IntKind.i64 (↑w:Int)];let v2:=(0:Nat)+1;let v3:=[RV.int IntKind.i64 (↑n:Int)];let v4:=w6.wrap ((1:Int)*2^min ((13:Nat)+3) IntKind.i64.bits);let v5:=(↑(1:Nat):Int);let v6:=(↑((2:Nat)^((13:Nat)+3)):Int);let v7:=[RV.int IntKind.i64 (1:Int)];[rq (2:Int),(1:Nat)=1∧(fun(x:Nat)=>v1)=fun(x:Nat)=>v1,rq (0:Int),rq ([RV.agg [RV.int IntKind.i64 (2:Int),RV.sl (1:Nat) (5:Nat) fun(x:Nat)=>v1]]),[RV.agg [RV.int IntKind.i64 (2:Int),RV.sl v2 v2 fun x=>[RV.sl (1:Nat) v2 fun(x:Nat)=>v7],RV.sl v2 ((0:Nat)+1+1+1+1+1) fun(x:Nat)=>[RV.int IntKind.i64 (wI 13),RV.int IntKind.i64 (1:Int),RV.int IntKind.i64 (eJ m 13),RV.int IntKind.i64 (0:Int),RV.int IntKind.i64 (0:Int)]]]=[RV.agg [RV.int IntKind.i64 (2:Int),RV.sl (1:Nat) (1:Nat) fun x=>[RV.sl (1:Nat) (1:Nat) fun(x:Nat)=>v7],RV.sl (1:Nat) (5:Nat) fun(x:Nat)=>[RV.int IntKind.i64 (↑(13:Nat):Int),RV.int IntKind.i64 (1:Int),RV.int IntKind.i64 (↑w:Int),RV.int IntKind.i64 (0:Int),RV.int IntKind.i64 (0:Int)]]],(0:Int)≤0∧(0:Int)<v5,(0:Int)≤0∧(0:Int)<v5,[RV.sl (1:Nat) v2 fun x=>[RV.sl (1:Nat) v2 fun(x:Nat)=>[RV.int IntKind.i64 (eJ m 13)]],RV.int IntKind.i64 v4]=[RV.sl (1:Nat) (1:Nat) fun x=>[RV.sl (1:Nat) (1:Nat) fun(x:Nat)=>[RV.int IntKind.i64 (↑w:Int)]],RV.int IntKind.i64 v6],(0:Int)≤0∧(0:Int)<v5,(0:Int)≤0∧(0:Int)<v5,aa (aY m 13) false,aa (aY m 12) true,aa (aY m 11) true,aa (aY m 10) true,aa (aY m 9) true,aa (aY m 8) true,aa (aY m 7) true,aa (aY m 6) true,aa (aY m 5) true,aa (aY m 4) true,aa (aY m 3) true,aa (aY m 2) true,aa (aY m 1) true,aa (aY m 0) true,(0:Int)≤w6.wrap ((0:Int)+0)∧w6.wrap ((0:Int)+0)<v5,(0:Int)≤0∧(0:Int)<v5,[RV.sl (1:Nat) (1:Nat) fun x=>[RV.sl (1:Nat) (1:Nat) fun(x:Nat)=>v3],RV.int IntKind.i64 v4]=[RV.sl (1:Nat) (1:Nat) fun x=>[RV.sl (1:Nat) (1:Nat) fun(x:Nat)=>v3],RV.int IntKind.i64 v6],rq ([RV.sl (1:Nat) (1:Nat) fun x=>[RV.sl (1:Nat) (1:Nat) fun(x:Nat)=>v3],RV.int IntKind.i64 (2:Int)]),aa (!true) false,rq ([RV.sl (1:Nat) (1:Nat) fun x=>[RV.sl (1:Nat) (1:Nat) fun(x:Nat)=>v3]])]) kr ⟨?_,?_,?_,?_,?_,?_,?_,?_,?_,?_,(jJ H0),(bk H0 12 de),(bk H0 11 de),(bk H0 10 de),(bk H0 9 de),(bk H0 8 de),(bk H0 7 de),(bk H0 6 de),(bk H0 5 de),(bk H0 4 de),(bk H0 3 de),(bk H0 2 de),(bk H0 1 de),(bk H0 0 de),?_,?_,?_,?_,(dN rfl),(?_:[RV.sl (1:Nat) (1:Nat) fun x=>[RV.sl (1:Nat) (1:Nat) fun(x:Nat)=>[RV.int IntKind.i64 (↑n:Int)]]]=[RV.sl (1:Nat) (1:Nat) fun x=>[RV.sl (1:Nat) (1:Nat) fun(x:Nat)=>[RV.int IntKind.i64 (↑n:Int)]]])⟩
 all_goals first|exact jA
theorem O1 (n m u e w:Nat)(H:gi n m u e w):ax Tryz.prog [aL] 21 [hR n] (.tup [.agg [.int .i64 2,cV e (bS w) (w:Int)],.int .i64 0]):=by
 have he:=H.he
 rcases(by omega:e=0∨e=1∨e=2∨e=3∨e=4∨e=5∨e=6∨e=7∨e=8∨e=9∨e=10∨e=11∨e=12∨e=13)with rfl|rfl|rfl|rfl|rfl|rfl|rfl|rfl|rfl|rfl|rfl|rfl|rfl|rfl
 ·exact WC n m u w H
 ·exact WD n m u w H
 ·exact WE n m u w H
 ·exact WF n m u w H
 ·exact WG n m u w H
 ·exact WH n m u w H
 ·exact WI n m u w H
 ·exact WJ n m u w H
 ·exact WK n m u w H
 ·exact WL n m u w H
 ·exact Ti n m u w H
 ·exact Tj n m u w H
 ·exact Tk n m u w H
 ·exact Tl n m u w H
theorem NF {L M:List Con}(h:L.length=M.length)(k:∀i,i<L.length→at_ L i=at_ M i):L=M:=by
 refine rG h (fun i h1 h2=>?_)
 have:=k i h1
 simpa [at_,h1,h2]using this
end Go.Proofs.YtdbdoalefmliiaaGreatDoor.S
namespace Go.Proofs.YtdbdoalefmliiaaGreatDoor.S
section
open Go.QfSy Go.RowKit
end
end Go.Proofs.YtdbdoalefmliiaaGreatDoor.S
namespace Go.Proofs.YtdbdoalefmliiaaGreatDoor.S
open Go.QfSy Go.RowKit
theorem qh {L:List Con}{i t:Int}{k:Nat}:at_ (du L i t) k=if i.toNat=k∧k<L.length then{at_ L k with oddity:=t}else at_ L k:=by
 unfold du
 rw[Gh]
 split
 ·rename_i h;rw[h.1]
 ·rfl
end Go.Proofs.YtdbdoalefmliiaaGreatDoor.S
namespace Go.Proofs.YtdbdoalefmliiaaGreatDoor.S
section
open Go.QfSy Go.RowKit
end
end Go.Proofs.YtdbdoalefmliiaaGreatDoor.S
namespace Go.Proofs.YtdbdoalefmliiaaGreatDoor.S
open Go.QfSy Go.RowKit
def wO (c:Con)(t:Int):Con:={c with oddity:=t}
def eG (L:List Con):List Int→Int→Bool
 |[]=>fun tot=>tot==0
 |i::l=>fun tot=>(List.range 8).any fun t=>dt (wO (at_ L i.toNat) (t:Int))&&eG L l ((tot+8-(t:Int))%8)
def l4 (g:Int→List Con→Bool×List Con)(i tot:Int):Nat→Nat→List Con→Bool×List Con
 |0,_,M=>(false,M)
 |n+1,t,M=>bif dt (at_ (du M i (t:Int)) i.toNat)then
  (bif(g ((tot+8-(t:Int))%8) (du M i (t:Int))).1 then(true,(g ((tot+8-(t:Int))%8) (du M i (t:Int))).2)else l4 g i tot n (t+1) (g ((tot+8-(t:Int))%8) (du M i (t:Int))).2)
  else l4 g i tot n (t+1) (du M i (t:Int))
def fZ:List Int→Int→List Con→Bool×List Con
 |[]=>fun tot M=>(tot==0,M)
 |i::l=>fun tot M=>l4 (fZ l) i tot 8 0 M
def fB (p:Nat→Bool):Nat→Nat→Option Nat
 |0,_=>none
 |n+1,t=>bif p t then some t else fB p n (t+1)
def jw (M:List Con)(i:Int)(l:List Int)(tot:Int)(t:Nat):Bool:=dt (wO (at_ M i.toNat) (t:Int))&&eG M l ((tot-(t:Int)+8)%8)
def eN:List Int→Int→List Con→Option (List Con)
 |[]=>fun _ M=>some M
 |i::l=>fun tot M=>match fB (jw M i l tot) 8 0 with
  |none=>none
  |some t=>eN l ((tot-(t:Int)+8)%8) (du M i (t:Int))
structure fa (l:List Int)(A B:List Con):Prop where
 len:A.length=B.length
 eq:∀k,wO (at_ A k) 0=wO (at_ B k) 0
 out:∀k:Nat,(k:Int)∉l→at_ A k=at_ B k
theorem fa.refl (l:List Int)(A:List Con):fa l A A:=⟨rfl,fun _=>rfl,fun _ _=>rfl⟩
theorem fa.trans {l:List Int}{A B C:List Con}(h:fa l A B)(k:fa l B C):fa l A C:=⟨h.len.trans k.len,fun j=>(h.eq j).trans (k.eq j),fun j hj=>(h.out j hj).trans (k.out j hj)⟩
theorem fa.symm {l:List Int}{A B:List Con}(h:fa l A B):fa l B A:=⟨h.len.symm,fun j=>(h.eq j).symm,fun j hj=>(h.out j hj).symm⟩
theorem fa.mono {l l':List Int}{A B:List Con}(h:fa l A B)(k:∀x∈l,x∈l'):fa l' A B:=⟨h.len,h.eq,fun j hj=>h.out j (fun hm=>hj (k _ hm))⟩
theorem vM {c d:Con}(h:wO c 0=wO d 0)(t:Int):wO c t=wO d t:=by
 have:wO (wO c 0) t=wO (wO d 0) t:=by rw[h]
 exact this
theorem NB {l:List Int}{A:List Con}{i t:Int}(h0:0≤i)(hi:i∈l):fa l (du A i t) A:=by
 refine⟨ki,fun k=>?_,fun k hk=>?_⟩
 ·rw[qh]
  split
  ·rfl
  ·rfl
 ·exact vb (fun e=>hk (by rw[e];rw[ov h0];exact hi))
theorem CP {l:List Int}{A B:List Con}{i t:Int}(h0:0≤i)(h:fa (i::l) A B):fa l (du A i t) (du B i t):=by
 refine⟨by rw[ki,ki];exact h.len,fun k=>?_,fun k hk=>?_⟩
 ·rw[qh,qh,h.len]
  split
  ·exact h.eq k
  ·exact h.eq k
 ·rw[qh,qh,h.len]
  by_cases hk':i.toNat=k
  ·by_cases hl:k<B.length
   ·rw[if_pos ⟨hk',hl⟩,if_pos ⟨hk',hl⟩]
    exact vM (h.eq k) t
   ·rw[if_neg (fun e=>hl e.2),if_neg (fun e=>hl e.2)]
    have e1:at_ A k=Con.zero:=by have:=h.len;simp[at_,ev,jD (show A.length≤k by omega)]
    have e2:at_ B k=Con.zero:=by simp[at_,ev,jD (show B.length≤k by omega)]
    rw[e1,e2]
  ·rw[if_neg (fun e=>hk' e.1),if_neg (fun e=>hk' e.1)]
   refine h.out k (fun hm=>?_)
   rcases bC.1 hm with e|e
   ·exact hk' (by rw[←e];rfl)
   ·exact hk e
theorem uM {A B:List Con}(h:∀k,wO (at_ A k) 0=wO (at_ B k) 0):∀{l:List Int}{tot:Int},eG A l tot=eG B l tot
 |[],_=>rfl
 |i::l,tot=>by
  simp only[eG]
  congr 1
  funext t
  rw[vM (h i.toNat) t,uM h]
theorem NC {A B:List Con}(h:∀k,wO (at_ A k) 0=wO (at_ B k) 0)(i:Int)(l:List Int)(tot:Int):jw A i l tot=jw B i l tot:=by
 funext t
 unfold jw
 rw[vM (h i.toNat) t,uM h]
theorem CQ {p:Nat→Bool}:∀{n t:Nat},(fB p n t).isSome=(List.range' t n).any p
 |0,_=>rfl
 |n+1,t=>by
  simp only[fB,List.range'_succ,List.any_cons]
  cases p t with
  |true=>rfl
  |false=>simp only[bt,Bool.false_or];exact CQ
theorem yV (tot:Int)(t:Nat):(tot-(t:Int)+8)%8=(tot+8-(t:Int))%8:=by congr 1;omega
theorem yf (M:List Con)(i:Int)(l:List Int)(tot:Int):eG M (i::l) tot=(fB (jw M i l tot) 8 0).isSome:=by
 rw[CQ,←List.range_eq_range']
 simp only[eG]
 congr 1
 funext t
 unfold jw
 rw[yV]
theorem RF {M:List Con}{i t:Int}(hi:i.toNat<M.length):at_ (du M i t) i.toNat=wO (at_ M i.toNat) t:=by
 rw[qh,if_pos ⟨rfl,hi⟩];rfl
theorem rN {l:List Int}{i tot:Int}{M:List Con}(h0:0≤i)(hi:i.toNat<M.length)
 (ih1:∀tot M0,M0.length=M.length→(fZ l tot M0).1=eG M0 l tot)(ih2:∀tot M0,M0.length=M.length→fa l (fZ l tot M0).2 M0):∀{n t:Nat}{M0:List Con},fa (i::l) M0 M→
 fa (i::l) (l4 (fZ l) i tot n t M0).2 M∧(match fB (jw M i l tot) n t with
  |none=>(l4 (fZ l) i tot n t M0).1=false
  |some t0=>(l4 (fZ l) i tot n t M0).1=true∧∃M1,fa l M1 (du M i (t0:Int))∧eG M1 l ((tot+8-(t0:Int))%8)=true∧(l4 (fZ l) i tot n t M0).2=(fZ l ((tot+8-(t0:Int))%8) M1).2)
 |0,t,M0,hM=>⟨hM,rfl⟩
 |n+1,t,M0,hM=>by
  have hi0:i.toNat<M0.length:=by rw[hM.len];exact hi
  have hs:fa (i::l) (du M0 i (t:Int)) M:=(NB h0 eB).trans hM
  have e1:dt (at_ (du M0 i (t:Int)) i.toNat)=dt (wO (at_ M i.toNat) (t:Int)):=by rw[RF hi0,vM (hM.eq _)]
  have e2:(fZ l ((tot+8-(t:Int))%8) (du M0 i (t:Int))).1=eG M l ((tot+8-(t:Int))%8):=by rw[ih1 _ _ hs.len,uM hs.eq]
  have e3:jw M i l tot t=(dt (wO (at_ M i.toNat) (t:Int))&&eG M l ((tot+8-(t:Int))%8)):=by unfold jw;rw[yV]
  have hlen:(du M0 i (t:Int)).length=M.length:=hs.len
  have h2:fa (i::l) (fZ l ((tot+8-(t:Int))%8) (du M0 i (t:Int))).2 M:=((ih2 _ _ hlen).mono (fun x hx=>fk _ hx)).trans hs
  simp only[l4,fB,e1,e2,e3]
  cases hl:dt (wO (at_ M i.toNat) (t:Int))with
  |false=>
   simp only[bt,Bool.false_and]
   exact rN h0 hi ih1 ih2 hs
  |true=>
   cases hc:eG M l ((tot+8-(t:Int))%8)with
   |false=>
    simp only[bt,aU,mt9]
    exact rN h0 hi ih1 ih2 h2
   |true=>
    simp only[aU,Bool.and_true]
    exact⟨h2,by trivial,du M0 i (t:Int),CP h0 hM,by rw[uM hs.eq];exact hc,by trivial⟩
theorem yy:∀{l:List Int}{n:Nat},cI n l→(∀tot M,M.length=n→(fZ l tot M).1=eG M l tot)∧(∀tot M,M.length=n→fa l (fZ l tot M).2 M)∧
 (∀tot M M',M.length=n→eG M l tot=true→fa l M' M→eN l tot M'=some (fZ l tot M).2)
 |[],n,_=>⟨fun _ _ _=>rfl,fun _ _ _=>.refl _ _,fun tot M M' hn _ h=>by
  simp only[eN,fZ]
  congr 1
  refine NF h.len (fun k _=>h.out k si)⟩
 |i::l,n,hl=>by
  obtain⟨a1,a2,a3⟩:=yy (l:=l) (n:=n) (fun x hx=>hl x (fk _ hx))
  have hi:=hl i eB
  have b1:∀M:List Con,M.length=n→∀tot M0,M0.length=M.length→(fZ l tot M0).1=eG M0 l tot:=fun M hM tot M0 h=>a1 tot M0 (h.trans hM)
  have b2:∀M:List Con,M.length=n→∀tot M0,M0.length=M.length→fa l (fZ l tot M0).2 M0:=fun M hM tot M0 h=>a2 tot M0 (h.trans hM)
  refine⟨fun tot M hn=>?_,fun tot M hn=>?_,fun tot M M' hn hc h=>?_⟩
  ·have:=(rN (tot:=tot) hi.1 om (b1 M hn) (b2 M hn) (n:=8) (t:=0) (fa.refl _ M)).2
   rw[yf]
   show(l4 (fZ l) i tot 8 0 M).1=_
   revert this
   cases fB (jw M i l tot) 8 0 with
   |none=>exact fun h=>h
   |some t0=>exact fun h=>h.1
  ·exact(rN (tot:=tot) hi.1 om (b1 M hn) (b2 M hn) (n:=8) (t:=0) (fa.refl _ M)).1
  ·have:=(rN (tot:=tot) hi.1 om (b1 M hn) (b2 M hn) (n:=8) (t:=0) (fa.refl _ M)).2
   rw[yf]at hc
   simp only[eN]
   rw[NC h.eq]
   revert this hc
   cases fB (jw M i l tot) 8 0 with
   |none=>intro hc;cases hc
   |some t0=>
    rintro _ ⟨_,M1,h1,h2,h3⟩
    show eN l ((tot-(t0:Int)+8)%8) (du M' i (t0:Int))=some (l4 (fZ l) i tot 8 0 M).2
    rw[h3,yV]
    exact a3 _ M1 _ (by rw[h1.len,ki];exact hn) h2 ((CP hi.1 h).trans h1.symm)
def qL (L0:List Con):List (List Int)→List Con→Option (List Con)
 |[],M=>some M
 |l::P,M=>bif(fZ l (ky L0 l) M).1 then qL L0 P (fZ l (ky L0 l) M).2 else none
def fp:List (List Int)→List Con→Option (List Con)
 |[],M=>some M
 |l::P,M=>match eN l (at_ M (l.getD 0 0).toNat).oddity M with
  |none=>none
  |some M1=>fp P M1
theorem ND {l:List Int}{tot:Int}{M:List Con}(hne:l≠[])(h:eG M l tot=false):eN l tot M=none:=by
 cases l with
 |nil=>exact absurd rfl hne
 |cons i l=>
  rw[yf]at h
  simp only[eN]
  cases hf:fB (jw M i l tot) 8 0 with
  |none=>rfl
  |some t=>rw[hf]at h;cases h
theorem FM {L0:List Con}:∀{P:List (List Int)}{M:List Con},M.length=L0.length→P.flatten.Nodup→(∀l∈P,l≠[]∧cI L0.length l∧ky L0 l=(at_ L0 (l.getD 0 0).toNat).oddity)→(∀x∈P.flatten,at_ M x.toNat=at_ L0 x.toNat)→fp P M=qL L0 P M
 |[],M,_,_,_,_=>rfl
 |l::P,M,hn,hd,hP,hM=>by
  obtain⟨h1,h2,h3⟩:=hP l eB
  obtain⟨a1,a2,a3⟩:=yy (l:=l) (n:=L0.length) h2
  have hmem:l.getD 0 0∈l:=by cases l with|nil=>exact absurd rfl h1|cons a l=>simp
  have e:(at_ M (l.getD 0 0).toNat).oddity=ky L0 l:=by rw[h3,hM _ (by simp only[up,fX];exact .inl hmem)]
  simp only[fp,qL]
  rw[e,a1 _ _ hn]
  cases hc:eG M l (ky L0 l)with
  |false=>rw[ND h1 hc];rfl
  |true=>
   rw[a3 _ M M hn hc (.refl _ _)]
   simp only[aU]
   simp only[up,List.nodup_append]at hd
   have g:=a2 (ky L0 l) M hn
   refine FM (g.len.trans hn) hd.2.1 (fun x hx=>hP x (fk _ hx)) (fun x hx=>?_)
   have hx0:0≤x:=by
    obtain⟨q,hq,hxq⟩:=List.mem_flatten.1 hx
    exact((hP q (fk _ hq)).2.1 x hxq).1
   rw[g.out x.toNat (fun hm=>by rw[ov hx0]at hm;exact hd.2.2 x hm x hx rfl)]
   exact hM x (by simp only[up,fX];exact .inr hx)
theorem CR {L:List Con}:∀{l:List Int},(l.all fun i=>(at_ L i.toNat).oddity==0)=true→iM L l=0
 |[],_=>rfl
 |i::l,h=>by
  simp only[lI,bj,dx]at h
  simp only[iM,h.1,CR h.2];rfl
theorem O7 {p:Int}{L:List Con}(h:ci p L=true):∀l∈bc L,l≠[]∧cI L.length l∧ky L l=(at_ L (l.getD 0 0).toNat).oddity:=by
 intro l hl
 obtain⟨h1,h2,_⟩:=kX l hl
 refine⟨h1,h2,?_⟩
 rw[←zu]at h
 simp only[kv,bj]at h
 obtain⟨_,h3,h4⟩:=h
 have h5:=cK.1 h4 l hl
 simp only[bj]at h5
 cases l with
 |nil=>exact absurd rfl h1
 |cons i l=>
  have hz:iM L l=0:=CR h5.1
  have hi:=h2 i eB
  have hf:=(zr _).1 h3 i.toNat om
  simp only[bj,pv,ib]at hf
  show(iM L (i::l))%8=(at_ L i.toNat).oddity
  simp only[iM,hz]
  have:=hf.2.1
  omega
def ln (L:List Con):Option (List Con):=qL L (bc L) L
theorem DI {p:Int}{L:List Con}(h:ci p L=true):fp (bc L) L=ln L:=
 FM rfl (Co L) (O7 h) (fun _ _=>rfl)
def fY (S:Nat→Bool)(c:Con)(q:Nat):Bool:=(List.range 8).any fun o=>dt (wO c (o:Int))&&S ((q+8-o)%8)
def aR (M:List Con):List Int→(Nat→Bool)→Nat→Bool
 |[],S=>S
 |i::l,S=>aR M l (fY S (at_ M i.toNat))
def dS (S:Nat→Bool)(c:Con)(o q:Nat):Bool:=(List.range o).any fun a=>dt (wO c (a:Int))&&S ((q+8-a)%8)
theorem Nh (S:Nat→Bool)(c:Con)(o q:Nat):dS S c (o+1) q=(dS S c o q||(dt (wO c (o:Int))&&S ((q+8-o)%8))):=by
 unfold dS
 rw[oy,List.any_append]
 simp
def bn (g:Bool)(S n:Nat→Bool)(o s q:Nat):Bool:=n q||(g&&(Nat.blt ((q+8-o)%8) s&&S ((q+8-o)%8)))
theorem Ni (g:Bool)(S n:Nat→Bool)(o q:Nat):bn g S n o 0 q=n q:=by
 unfold bn
 have:Nat.blt ((q+8-o)%8) 0=false:=by
  cases h:Nat.blt ((q+8-o)%8) 0 with
  |false=>rfl
  |true=>have:=aT h;omega
 rw[this];simp
theorem Nj (g:Bool)(S n:Nat→Bool)(o q:Nat):bn g S n o 8 q=(n q||(g&&S ((q+8-o)%8))):=by
 unfold bn
 have:Nat.blt ((q+8-o)%8) 8=true:=fW om
 rw[this,oC]
theorem vq {a b:Nat}:Nat.blt a b=decide (a<b):=by
 cases h:Nat.blt a b with
 |true=>have:a+1≤b:=aT h;simp;omega
 |false=>
  cases h2:decide (a<b)with
  |false=>rfl
  |true=>
   have:Nat.blt a b=true:=fW (ea h2)
   rw[h]at this;cases this
theorem OL {g:Bool}{S n:Nat→Bool}{o s q:Nat}(hq:q<8)(ho:o≤8)(hs:s<8)(h1:S s=true)(h2:g=true):(bif Nat.beq q ((s+o)%8)then true else bn g S n o s q)=bn g S n o (s+1) q:=by
 unfold bn
 rw[vq,vq,h2]
 cases h:Nat.beq q ((s+o)%8)with
 |true=>
  have e:=co h
  have e2:(q+8-o)%8=s:=by omega
  rw[e2,h1];simp
 |false=>
  have e:q≠(s+o)%8:=fun e=>by rw[←e,mu]at h;cases h
  have e2:(q+8-o)%8≠s:=by omega
  have e3:decide ((q+8-o)%8<s+1)=decide ((q+8-o)%8<s):=by
   rw[decide_eq_decide];omega
  rw[e3];rfl
theorem Fp {g:Bool}{S n:Nat→Bool}{o s q:Nat}(h:S s=false∨g=false):bn g S n o s q=bn g S n o (s+1) q:=by
 unfold bn
 rw[vq,vq]
 rcases h with h|h
 ·by_cases e:(q+8-o)%8=s
  ·rw[e,h];simp
  ·have e3:decide ((q+8-o)%8<s+1)=decide ((q+8-o)%8<s):=by
    rw[decide_eq_decide];omega
   rw[e3]
 ·rw[h];rfl
theorem vr {p:Nat→Bool}{n:Nat}:(List.range n).any p=true↔∃a,a<n∧p a=true:=by
 rw[List.any_eq_true]
 constructor
 ·rintro⟨a,h1,h2⟩;exact⟨a,List.mem_range.1 h1,h2⟩
 ·rintro⟨a,h1,h2⟩;exact⟨a,List.mem_range.2 h1,h2⟩
theorem uY {M:List Con}{l:List Int}{a b:Int}(h:a=b):eG M l a=eG M l b:=by rw[h]
theorem Fq {M:List Con}:∀{l:List Int}{S:Nat→Bool}{q:Nat},q<8→(aR M l S q=true↔∃a,a<8∧S a=true∧eG M l (((q+8-a)%8:Nat):Int)=true)
 |[],S,q,hq=>by
  show S q=true↔_
  constructor
  ·intro h
   refine⟨q,hq,h,?_⟩
   have:(q+8-q)%8=0:=by omega
   rw[this];rfl
  ·rintro⟨a,h1,h2,h3⟩
   have h3:((((q+8-a)%8:Nat):Int)==0)=true:=h3
   rw[dx]at h3
   have:a=q:=by omega
   rw[←this];exact h2
 |i::l,S,q,hq=>by
  show aR M l (fY S (at_ M i.toNat)) q=true↔_
  rw[Fq hq]
  constructor
  ·rintro⟨a,h1,h2,h3⟩
   obtain⟨o,ho,h4⟩:=vr.1 h2
   rw[bj]at h4
   refine⟨(a+8-o)%8,om,h4.2,?_⟩
   simp only[eG]
   refine vr.2 ⟨o,ho,?_⟩
   rw[bj]
   refine⟨h4.1,?_⟩
   rw[←h3]
   exact uY om
  ·rintro⟨a,h1,h2,h3⟩
   simp only[eG]at h3
   obtain⟨o,ho,h4⟩:=vr.1 h3
   rw[bj]at h4
   refine⟨(a+o)%8,om,vr.2 ⟨o,ho,?_⟩,?_⟩
   ·rw[bj]
    refine⟨h4.1,?_⟩
    have:((a+o)%8+8-o)%8=a:=by omega
    rw[this];exact h2
   ·rw[←h4.2]
    exact uY om
def aW (q:Nat):Bool:=Nat.beq q 0
theorem OM {M:List Con}{l:List Int}{q:Nat}(hq:q<8):aR M l aW q=eG M l (q:Int):=by
 have h:=Fq (M:=M) (l:=l) (S:=aW) hq
 have e:(∃a,a<8∧aW a=true∧eG M l (((q+8-a)%8:Nat):Int)=true)↔eG M l (q:Int)=true:=by
  constructor
  ·rintro⟨a,h1,h2,h3⟩
   have h2:a=0:=co h2
   subst h2
   rw[←h3];exact uY om
  ·intro h
   refine⟨0,om,rfl,?_⟩
   rw[←h];exact uY om
 rw[e]at h
 cases h1:aR M l aW q<;>cases h2:eG M l (q:Int)<;>simp_all
theorem CI {M:List Con}:∀{a b:List Int}{S:Nat→Bool},aR M (a++b) S=aR M b (aR M a S)
 |[],_,_=>rfl
 |i::a,b,S=>by show aR M (a++b) _=aR M b (aR M a _);rw[CI]
def b8 (n:Nat→Bool):List AV:=[.vbool (n 0),.vbool (n 1),.vbool (n 2),.vbool (n 3),.vbool (n 4),.vbool (n 5),.vbool (n 6),.vbool (n 7)]
theorem z7 {n:Nat→Bool}{s:Nat}(h:s<8):[n 0,n 1,n 2,n 3,n 4,n 5,n 6,n 7].getD s false=n s:=by
 rcases s with _|_|_|_|_|_|_|_|s
 all_goals first|rfl|omega
def B8 (c:Con)(o:AV):List AV:=[vi c.exp,vi c.dim,vi c.sign,.vbool c.odd,o]
def kB (c:Con)(M:LC)(l:List Int)(tot:Int)(t:Nat):Bool:=dt (wO c (t:Int))&&eG M l ((tot-(t:Int)+8)%8)
theorem GG (M:LC)(i:Int)(l:List Int)(tot:Int):jw M i l tot=kB (at_ M i.toNat) M l tot:=rfl
def fI (c:Con)(M:LC)(l:List Int)(tot:Int):Option Nat:=fB (kB c M l tot) 8 0
def xI (M:LC)(l:List Int)(tot:Int)(j:AV):List (Nat×AV):=[(1,(bg M).av),(3,vi tot),(4,.ptr 1000 0),(8,.int .i64 0),(9,.bool false),(10,.ptr 1001 0),(18,(rI .i64 l).av),(19,vi l.length),(20,j)]
def xJ (c:Con)(Sg:Nat→Bool):List (Nat×ag):=[(1000,⟨.plain (B8 c (vi c.oddity)),81,0,false,true⟩),(1001,⟨.plain (b8 Sg),179,0,false,true⟩)]
def q9 (M:LC)(l:List Int)(tot:Int)(j:Nat):List (Nat×AV):=xI M l tot (vi j)++[(13,.ptr 1010 0),(14,.ptr 1011 0)]
def ra (c:Con)(Sg n:Nat→Bool)(cc:Con)(o:AV):List (Nat×ag):=xJ c Sg++[(1010,⟨.plain (b8 n),179,0,false,true⟩),(1011,⟨.plain (B8 cc o),81,0,false,true⟩)]
def Lb (c:Con)(M:LC)(l:List Int)(tot:Int)(j:Nat)(Sg n:Nat→Bool)(cc:Con)(o:Nat):aO:=⟨⟨q9 M l tot j++[(36,.agg (b8 Sg)),(37,.int .i64 0)],ra c Sg n cc (vi o),1020⟩,none,fun _=>
 (.exit 4,⟨q9 M l tot j,ra c Sg (bn (dt (wO cc (o:Int))) Sg n o 8) cc (vi o),1020⟩)⟩
theorem SV {s o:Nat}(hs:s<8)(ho:o≤8):((w6.wrap ((s:Int)+(o:Int))).tmod 8).toNat=(s+o)%8:=by
 rw[wo,iE om]
 omega
theorem XC (c:Con)(M:LC)(l:List Int)(tot:Int)(j:Nat)(Sg n:Nat→Bool)(cc:Con)(o:Nat)(ho:o≤8):An 4 Tryz.f80 [0,1,0,0,1,0,0,1,0,1,1,1,0,0,1,1,0,0,1,0,1,1] (Lb c M l tot j Sg n cc o):=by
 refine fj (cE np) aE (fun(s:Nat)=>(⟨q9 M l tot j++[(36,.agg (b8 Sg)),(37,vi s)],ra c Sg (bn (dt (wO cc (o:Int))) Sg n o s) cc (vi o),1020⟩:St)) (fun(s:Nat)=>(8-s:Nat)) (fun(s:Nat)=>(s≤8:Prop)) ?_ ?_
 ·exact st (0) (let t1:=dt (wO cc (↑o:Int));[lq M,tot=tot,sr l fun j=>[RV.int IntKind.i64 (l.getD j (0:Int))],rq (↑l.length:Int),rq (↑j:Int),rq (Sg (0:Nat)),rq (Sg (1:Nat)),rq (Sg (2:Nat)),rq (Sg (3:Nat)),rq (Sg (4:Nat)),rq (Sg (5:Nat)),rq (Sg (6:Nat)),rq (Sg (7:Nat)),(0:Int)=↑(0:Nat),c.exp=c.exp,c.dim=c.dim,rq c.sign,c.odd=c.odd,rq c.oddity,rq (Sg (0:Nat)),rq (Sg (1:Nat)),rq (Sg (2:Nat)),rq (Sg (3:Nat)),rq (Sg (4:Nat)),rq (Sg (5:Nat)),rq (Sg (6:Nat)),rq (Sg (7:Nat)),n (0:Nat)=bn t1 Sg n o (0:Nat) (0:Nat),n (1:Nat)=bn t1 Sg n o (0:Nat) (1:Nat),n (2:Nat)=bn t1 Sg n o (0:Nat) (2:Nat),n (3:Nat)=bn t1 Sg n o (0:Nat) (3:Nat),n (4:Nat)=bn t1 Sg n o (0:Nat) (4:Nat),n (5:Nat)=bn t1 Sg n o (0:Nat) (5:Nat),n (6:Nat)=bn t1 Sg n o (0:Nat) (6:Nat),n (7:Nat)=bn t1 Sg n o (0:Nat) (7:Nat),rq cc.exp,rq cc.dim,rq cc.sign,rq cc.odd,rq (↑o:Int)]) (by refine⟨?_,?_,?_,?_,?_,?_,?_,?_,?_,?_,?_,?_,?_,?_,?_,?_,?_,?_,?_,?_,?_,?_,?_,?_,?_,?_,?_,?_,?_,?_,?_,?_,?_,?_,?_,?_,?_,?_,?_,(?_:(↑o:Int)=↑o)⟩<;>(first|exact tv|exact(Ni _ _ _ _ _).symm)) (by exact bQ _)
 ·intro s hI
  have hs:s≤8:=hI
  have ek:=wk s
  refine(let q1:List Prop→List Prop:=fun l0=>(let v1:=dt (wO cc (↑o:Int));let v2:=s+1;(lq M)::(tot=tot)::(sr l fun j=>[RV.int IntKind.i64 (l.getD j (0:Int))])::rq (↑l.length:Int)::rq (↑j:Int)::rq (Sg (0:Nat))::rq (Sg (1:Nat))::rq (Sg (2:Nat))::rq (Sg (3:Nat))::rq (Sg (4:Nat))::rq (Sg (5:Nat))::rq (Sg (6:Nat))::rq (Sg (7:Nat))::(w6.wrap ((↑s:Int)+1)=↑v2)::(c.exp=c.exp)::(c.dim=c.dim)::rq c.sign::(c.odd=c.odd)::rq c.oddity::rq (Sg (0:Nat))::rq (Sg (1:Nat))::rq (Sg (2:Nat))::rq (Sg (3:Nat))::rq (Sg (4:Nat))::rq (Sg (5:Nat))::rq (Sg (6:Nat))::rq (Sg (7:Nat))::(bn v1 Sg n o s (0:Nat)=bn v1 Sg n o v2 (0:Nat))::(bn v1 Sg n o s (1:Nat)=bn v1 Sg n o v2 (1:Nat))::(bn v1 Sg n o s (2:Nat)=bn v1 Sg n o v2 (2:Nat))::(bn v1 Sg n o s (3:Nat)=bn v1 Sg n o v2 (3:Nat))::(bn v1 Sg n o s (4:Nat)=bn v1 Sg n o v2 (4:Nat))::(bn v1 Sg n o s (5:Nat)=bn v1 Sg n o v2 (5:Nat))::(bn v1 Sg n o s (6:Nat)=bn v1 Sg n o v2 (6:Nat))::(bn v1 Sg n o s (7:Nat)=bn v1 Sg n o v2 (7:Nat))::rq cc.exp::rq cc.dim::rq cc.sign::rq cc.odd::rq (↑o:Int)::l0);let q2:List Prop→List Prop:=fun l0=>(lq M)::(tot=tot)::(sr l fun j=>[RV.int IntKind.i64 (l.getD j (0:Int))])::rq (↑l.length:Int)::rq (↑j:Int)::l0;oe (decide ((↑s:Int)<8)) (fun d1=>let y1:List Prop:=[(0:Int)≤↑s∧(↑s:Int)<↑(8:Nat)∧s<[Sg (0:Nat),Sg (1:Nat),Sg (2:Nat),Sg (3:Nat),Sg (4:Nat),Sg (5:Nat),Sg (6:Nat),Sg (7:Nat)].length,ty d1];have u1:ar y1:=⟨?_,d1⟩;oe ([Sg (0:Nat),Sg (1:Nat),Sg (2:Nat),Sg (3:Nat),Sg (4:Nat),Sg (5:Nat),Sg (6:Nat),Sg (7:Nat)].getD s false) (fun d2=>oe (dt (Con.mk cc.exp cc.dim cc.sign cc.odd (↑o:Int))) (fun d3=>aH (tp 111) (s+1) (q2 (let v1:=dt (wO cc (↑o:Int));let v4:=w6.wrap ((↑s:Int)+↑o);let v2:=(v4.tmod (8:Int)).toNat+0;let v3:=s+1;rq (Sg (0:Nat))::rq (Sg (1:Nat))::rq (Sg (2:Nat))::rq (Sg (3:Nat))::rq (Sg (4:Nat))::rq (Sg (5:Nat))::rq (Sg (6:Nat))::rq (Sg (7:Nat))::(w6.wrap ((↑s:Int)+1)=↑v3)::(c.exp=c.exp)::(c.dim=c.dim)::rq c.sign::(c.odd=c.odd)::rq c.oddity::rq (Sg (0:Nat))::rq (Sg (1:Nat))::rq (Sg (2:Nat))::rq (Sg (3:Nat))::rq (Sg (4:Nat))::rq (Sg (5:Nat))::rq (Sg (6:Nat))::rq (Sg (7:Nat))::((bif Nat.beq (0:Nat) v2 then true else bn v1 Sg n o s (0:Nat))=bn v1 Sg n o v3 (0:Nat))::((bif((0:Nat)+1).beq v2 then true else bn v1 Sg n o s (1:Nat))=bn v1 Sg n o v3 (1:Nat))::((bif((0:Nat)+1+1).beq v2 then true else bn v1 Sg n o s (2:Nat))=bn v1 Sg n o v3 (2:Nat))::((bif((0:Nat)+1+1+1).beq v2 then true else bn v1 Sg n o s (3:Nat))=bn v1 Sg n o v3 (3:Nat))::((bif((0:Nat)+1+1+1+1).beq v2 then true else bn v1 Sg n o s (4:Nat))=bn v1 Sg n o v3 (4:Nat))::((bif((0:Nat)+1+1+1+1+1).beq v2 then true else bn v1 Sg n o s (5:Nat))=bn v1 Sg n o v3 (5:Nat))::((bif((0:Nat)+1+1+1+1+1+1).beq v2 then true else bn v1 Sg n o s (6:Nat))=bn v1 Sg n o v3 (6:Nat))::((bif((0:Nat)+1+1+1+1+1+1+1).beq v2 then true else bn v1 Sg n o s (7:Nat))=bn v1 Sg n o v3 (7:Nat))::rq cc.exp::rq cc.dim::rq cc.sign::rq cc.odd::rq (↑o:Int)::((v4.tmod (8:Int)).toNat+0<[bn v1 Sg n o s (0:Nat),bn v1 Sg n o s (1:Nat),bn v1 Sg n o s (2:Nat),bn v1 Sg n o s (3:Nat),bn v1 Sg n o s (4:Nat),bn v1 Sg n o s (5:Nat),bn v1 Sg n o s (6:Nat),bn v1 Sg n o s (7:Nat)].length)::((0:Int)≤v4.tmod (8:Int)∧v4.tmod (8:Int)<↑(8:Nat))::((8:Int)≠(0:Int))::ty d3::ty d2::y1)) ?_ ?_ ?_)
   (fun d3=>aH (tp 112) (s+1) (q1 (ty d3::ty d2::y1)) ?_ ?_ ?_))
   (fun d2=>aH [true,false] (s+1) (q1 (ty d2::y1)) ?_ ?_ ?_))
   (fun d1=>b9 [false] (q2 (let v1:=dt (wO cc (↑o:Int));[c.exp=c.exp,c.dim=c.dim,rq c.sign,c.odd=c.odd,rq c.oddity,rq (Sg (0:Nat)),rq (Sg (1:Nat)),rq (Sg (2:Nat)),rq (Sg (3:Nat)),rq (Sg (4:Nat)),rq (Sg (5:Nat)),rq (Sg (6:Nat)),rq (Sg (7:Nat)),bn v1 Sg n o s (0:Nat)=bn v1 Sg n o (8:Nat) (0:Nat),bn v1 Sg n o s (1:Nat)=bn v1 Sg n o (8:Nat) (1:Nat),bn v1 Sg n o s (2:Nat)=bn v1 Sg n o (8:Nat) (2:Nat),bn v1 Sg n o s (3:Nat)=bn v1 Sg n o (8:Nat) (3:Nat),bn v1 Sg n o s (4:Nat)=bn v1 Sg n o (8:Nat) (4:Nat),bn v1 Sg n o s (5:Nat)=bn v1 Sg n o (8:Nat) (5:Nat),bn v1 Sg n o s (6:Nat)=bn v1 Sg n o (8:Nat) (6:Nat),bn v1 Sg n o s (7:Nat)=bn v1 Sg n o (8:Nat) (7:Nat),rq cc.exp,rq cc.dim,rq cc.sign,rq cc.odd,rq (↑o:Int),ty d1])) ?_))
  all_goals with_reducible repeat' first|exact dA|refine bx ?_ ?_|refine bz ?_
  all_goals((try clear u1);(try clear y1))
  all_goals first|(refine dO.mk ?_;(simp only[dT]at*;show 8-(s+1)<8-s;omega))|(refine cL.mk ?_;(simp only[dT]at*;show s+1≤8;omega))|exact fu|(first|exact tz|decide|((try simp only[ek,cg,dT,dF]at*)<;>first|omega|(have h8:s=8:=om;subst h8;rfl)|(have h7:s<8:=om;have hx:=SV h7 ho;first|(rw[hx];first|exact OL de ho h7 ((z7 h7).symm.trans d2) d3|(have h0:=jI (s+o) (show 0<8 by decide);simp only[dg,ic];omega))|exact Fp (.inl ((z7 h7).symm.trans d2))|exact Fp (.inr d3)|(have h1:=og (n:=(s:Int)+(o:Int)) om om;rw[h1,iE om];omega)|(simp only[dg,ic];omega))))
def Lc (c:Con)(M:LC)(l:List Int)(tot:Int)(j:Nat)(Sg:Nat→Bool)(cc:Con):aO:=⟨⟨q9 M l tot j,ra c Sg (dS Sg cc 0) cc (.int .i64 0),1020⟩,none,fun _=>
 (.exit 2,⟨q9 M l tot j,ra c Sg (fY Sg cc) cc (.int .i64 8),1020⟩)⟩
theorem SW {Sg:Nat→Bool}{cc:Con}{o q:Nat}:bn (dt (wO cc (o:Int))) Sg (dS Sg cc o) o 8 q=dS Sg cc (o+1) q:=by
 rw[Nj,Nh]
theorem XD (c:Con)(M:LC)(l:List Int)(tot:Int)(j:Nat)(Sg:Nat→Bool)(cc:Con):An 4 Tryz.f80 [0,1,0,1,1,1,0,0,1,1,0,0,1,0,1,1] (Lc c M l tot j Sg cc):=by
 refine tR (cE np) (fun(o:Nat)=>(⟨q9 M l tot j,ra c Sg (dS Sg cc o) cc (vi o),1020⟩:St)) (fun(o:Nat)=>(8-o:Nat)) (fun(o:Nat)=>(o≤8:Prop)) (fun(o:Nat)=>([([0,1,0,0,1,0,0,1,0,1,1,1,0,0,1,1,0,0,1,0,1,1],Lb c M l tot j Sg (dS Sg cc o) cc o)]:List (List Nat×aO))) ?_ ?_ ?_
 ·intro o hI
  exact bX (XC c M l tot j Sg (dS Sg cc o) cc o hI)
 ·exact st (0) [lq M,tot=tot,sr l fun j=>[RV.int IntKind.i64 (l.getD j (0:Int))],rq (↑l.length:Int),rq (↑j:Int),c.exp=c.exp,c.dim=c.dim,rq c.sign,c.odd=c.odd,rq c.oddity,rq (Sg (0:Nat)),rq (Sg (1:Nat)),rq (Sg (2:Nat)),rq (Sg (3:Nat)),rq (Sg (4:Nat)),rq (Sg (5:Nat)),rq (Sg (6:Nat)),rq (Sg (7:Nat)),false=false,false=false,false=false,false=false,false=false,false=false,false=false,false=false,rq cc.exp,rq cc.dim,rq cc.sign,rq cc.odd,(0:Int)=↑(0:Nat)] (by refine⟨?_,?_,?_,?_,?_,?_,?_,?_,?_,?_,?_,?_,?_,?_,?_,?_,?_,?_,?_,?_,?_,?_,?_,?_,?_,?_,?_,?_,?_,?_,(?_:(0:Int)=↑(0:Nat))⟩<;>(first|rfl|exact⟨rfl,rfl⟩|assumption|omega|simp_all)) (by exact bQ _)
 ·intro o hI
  have hs:o≤8:=hI
  have ek:=wk o
  refine(let q1:List Prop→List Prop:=fun l0=>(lq M)::(tot=tot)::(sr l fun j=>[RV.int IntKind.i64 (l.getD j (0:Int))])::rq (↑l.length:Int)::rq (↑j:Int)::(c.exp=c.exp)::(c.dim=c.dim)::rq c.sign::(c.odd=c.odd)::rq c.oddity::rq (Sg (0:Nat))::rq (Sg (1:Nat))::rq (Sg (2:Nat))::rq (Sg (3:Nat))::rq (Sg (4:Nat))::rq (Sg (5:Nat))::rq (Sg (6:Nat))::rq (Sg (7:Nat))::l0;oe (decide ((↑o:Int)<8)) (fun d1=>aH [true] (o+1) (q1 (let v1:=dt (wO cc (↑o:Int));let v2:=o+1;let v3:=dS Sg cc o;[bn v1 Sg v3 o (8:Nat) (0:Nat)=dS Sg cc v2 (0:Nat),bn v1 Sg v3 o (8:Nat) (1:Nat)=dS Sg cc v2 (1:Nat),bn v1 Sg v3 o (8:Nat) (2:Nat)=dS Sg cc v2 (2:Nat),bn v1 Sg v3 o (8:Nat) (3:Nat)=dS Sg cc v2 (3:Nat),bn v1 Sg v3 o (8:Nat) (4:Nat)=dS Sg cc v2 (4:Nat),bn v1 Sg v3 o (8:Nat) (5:Nat)=dS Sg cc v2 (5:Nat),bn v1 Sg v3 o (8:Nat) (6:Nat)=dS Sg cc v2 (6:Nat),bn v1 Sg v3 o (8:Nat) (7:Nat)=dS Sg cc v2 (7:Nat),rq cc.exp,rq cc.dim,rq cc.sign,rq cc.odd,w6.wrap ((↑o:Int)+1)=↑v2,lq M,tot=tot,sr l fun j=>[RV.int IntKind.i64 (l.getD j (0:Int))],rq (↑l.length:Int),rq (↑j:Int),rq (Sg (0:Nat)),rq (Sg (1:Nat)),rq (Sg (2:Nat)),rq (Sg (3:Nat)),rq (Sg (4:Nat)),rq (Sg (5:Nat)),rq (Sg (6:Nat)),rq (Sg (7:Nat)),c.exp=c.exp,c.dim=c.dim,rq c.sign,c.odd=c.odd,rq c.oddity,rq (Sg (0:Nat)),rq (Sg (1:Nat)),rq (Sg (2:Nat)),rq (Sg (3:Nat)),rq (Sg (4:Nat)),rq (Sg (5:Nat)),rq (Sg (6:Nat)),rq (Sg (7:Nat)),rq (dS Sg cc o (0:Nat)),rq (dS Sg cc o (1:Nat)),rq (dS Sg cc o (2:Nat)),rq (dS Sg cc o (3:Nat)),rq (dS Sg cc o (4:Nat)),rq (dS Sg cc o (5:Nat)),rq (dS Sg cc o (6:Nat)),rq (dS Sg cc o (7:Nat)),rq cc.exp,rq cc.dim,rq cc.sign,rq cc.odd,rq (↑o:Int),ty d1])) ?_ ?_ ?_)
   (fun d1=>b9 [false] (q1 [dS Sg cc o (0:Nat)=fY Sg cc (0:Nat),dS Sg cc o (1:Nat)=fY Sg cc (1:Nat),dS Sg cc o (2:Nat)=fY Sg cc (2:Nat),dS Sg cc o (3:Nat)=fY Sg cc (3:Nat),dS Sg cc o (4:Nat)=fY Sg cc (4:Nat),dS Sg cc o (5:Nat)=fY Sg cc (5:Nat),dS Sg cc o (6:Nat)=fY Sg cc (6:Nat),dS Sg cc o (7:Nat)=fY Sg cc (7:Nat),rq cc.exp,rq cc.dim,rq cc.sign,rq cc.odd,(↑o:Int)=8,ty d1]) ?_))
  all_goals with_reducible repeat' first|exact dA|refine bx ?_ ?_|refine bz ?_
  all_goals first|(refine dO.mk ?_;(simp only[dT]at*;show 8-(o+1)<8-o;omega))|(refine cL.mk ?_;(simp only[dT]at*;show o+1≤8;omega))|exact fu|(first|exact tz|decide|((try simp only[ek,cg,dT,dF]at*)<;>first|omega|(have h8:o=8:=om;subst h8;rfl)|exact SW))
def Yz (c:Con)(M:LC)(l:List Int)(tot:Int):aO:=⟨⟨xI M l tot (.int .i64 0),xJ c aW,1010⟩,none,fun _=>
 (.exit 0,⟨xI M l tot (vi l.length),xJ c (aR M l aW),1010⟩)⟩
theorem OO {M:LC}{l:List Int}{j:Nat}(hj:j<l.length){S:Nat→Bool}:aR M (l.take (j+1)) S=fY (aR M (l.take j) S) (at_ M (l.getD j 0).toNat):=by
 rw[uR hj,CI];rfl
theorem XE (c:Con)(M:LC)(l:List Int)(tot:Int)(hl:l.length≤1000)(hr:cI M.length l):An 4 Tryz.f80 [0,1,0,1,1] (Yz c M l tot):=by
 refine tR (cE np) (fun(j:Nat)=>(⟨xI M l tot (vi j),xJ c (aR M (l.take j) aW),1010⟩:St)) (fun(j:Nat)=>(l.length-j:Nat)) (fun(j:Nat)=>(j≤l.length:Prop)) (fun(j:Nat)=>([([0,1,0,1,1,1,0,0,1,1,0,0,1,0,1,1],Lc c M l tot j (aR M (l.take j) aW) (at_ M (l.getD j 0).toNat))]:List (List Nat×aO))) ?_ ?_ ?_
 ·intro j hI
  exact bX (XD c M l tot j (aR M (l.take j) aW) (at_ M (l.getD j 0).toNat))
 ·exact st (0) [lq M,tot=tot,sr l fun j=>[RV.int IntKind.i64 (l.getD j (0:Int))],rq (↑l.length:Int),(0:Int)=↑(0:Nat),c.exp=c.exp,c.dim=c.dim,rq c.sign,c.odd=c.odd,rq c.oddity,true=true,false=false,false=false,false=false,false=false,false=false,false=false,false=false] (by refine⟨?_,?_,?_,?_,?_,?_,?_,?_,?_,?_,?_,?_,?_,?_,?_,?_,?_,(?_:false=false)⟩<;>(first|exact tz|rfl)) (by exact bQ _)
 ·intro j hI
  have hs:j≤l.length:=hI
  have ek:=wk j
  refine(let q1:List Prop→List Prop:=fun l0=>(lq M)::(tot=tot)::(sr l fun j=>[RV.int IntKind.i64 (l.getD j (0:Int))])::rq (↑l.length:Int)::l0;oe (decide ((↑j:Int)<↑l.length)) (fun d1=>aH [true] (j+1) (q1 [w6.wrap ((↑j:Int)+1)=↑(j+1),c.exp=c.exp,c.dim=c.dim,rq c.sign,c.odd=c.odd,rq c.oddity,fY (aR M (List.take j l) aW) (at_ M (l.getD j (0:Int)).toNat) (0:Nat)=aR M (List.take (j+1) l) aW (0:Nat),fY (aR M (List.take j l) aW) (at_ M (l.getD j (0:Int)).toNat) (1:Nat)=aR M (List.take (j+1) l) aW (1:Nat),fY (aR M (List.take j l) aW) (at_ M (l.getD j (0:Int)).toNat) (2:Nat)=aR M (List.take (j+1) l) aW (2:Nat),fY (aR M (List.take j l) aW) (at_ M (l.getD j (0:Int)).toNat) (3:Nat)=aR M (List.take (j+1) l) aW (3:Nat),fY (aR M (List.take j l) aW) (at_ M (l.getD j (0:Int)).toNat) (4:Nat)=aR M (List.take (j+1) l) aW (4:Nat),fY (aR M (List.take j l) aW) (at_ M (l.getD j (0:Int)).toNat) (5:Nat)=aR M (List.take (j+1) l) aW (5:Nat),fY (aR M (List.take j l) aW) (at_ M (l.getD j (0:Int)).toNat) (6:Nat)=aR M (List.take (j+1) l) aW (6:Nat),fY (aR M (List.take j l) aW) (at_ M (l.getD j (0:Int)).toNat) (7:Nat)=aR M (List.take (j+1) l) aW (7:Nat),lq M,tot=tot,sr l fun j=>[RV.int IntKind.i64 (l.getD j (0:Int))],rq (↑l.length:Int),rq (↑j:Int),c.exp=c.exp,c.dim=c.dim,rq c.sign,c.odd=c.odd,rq c.oddity,rq (aR M (List.take j l) aW (0:Nat)),rq (aR M (List.take j l) aW (1:Nat)),rq (aR M (List.take j l) aW (2:Nat)),rq (aR M (List.take j l) aW (3:Nat)),rq (aR M (List.take j l) aW (4:Nat)),rq (aR M (List.take j l) aW (5:Nat)),rq (aR M (List.take j l) aW (6:Nat)),rq (aR M (List.take j l) aW (7:Nat)),false=false,false=false,false=false,false=false,false=false,false=false,false=false,false=false,(M.getD (l.getD j (0:Int)).toNat Con.zero).exp=(at_ M (l.getD j (0:Int)).toNat).exp,(M.getD (l.getD j (0:Int)).toNat Con.zero).dim=(at_ M (l.getD j (0:Int)).toNat).dim,(M.getD (l.getD j (0:Int)).toNat Con.zero).sign=(at_ M (l.getD j (0:Int)).toNat).sign,(M.getD (l.getD j (0:Int)).toNat Con.zero).odd=(at_ M (l.getD j (0:Int)).toNat).odd,(0:Int)≤l.getD j (0:Int)∧l.getD j (0:Int)<↑M.length,(0:Int)≤↑j∧(↑j:Int)<↑l.length,ty d1]) ?_ ?_ ?_)
   (fun d1=>b9 [false] (q1 (let v1:=List.take j l;[(↑j:Int)=↑l.length,c.exp=c.exp,c.dim=c.dim,rq c.sign,c.odd=c.odd,rq c.oddity,aR M v1 aW (0:Nat)=aR M l aW (0:Nat),aR M v1 aW (1:Nat)=aR M l aW (1:Nat),aR M v1 aW (2:Nat)=aR M l aW (2:Nat),aR M v1 aW (3:Nat)=aR M l aW (3:Nat),aR M v1 aW (4:Nat)=aR M l aW (4:Nat),aR M v1 aW (5:Nat)=aR M l aW (5:Nat),aR M v1 aW (6:Nat)=aR M l aW (6:Nat),aR M v1 aW (7:Nat)=aR M l aW (7:Nat),ty d1])) ?_))
  all_goals with_reducible repeat' first|exact dA|refine bx ?_ ?_|refine bz ?_
  all_goals first|(refine dO.mk ?_;(simp only[dT]at*;show l.length-(j+1)<l.length-j;omega))|(refine cL.mk ?_;(simp only[dT]at*;show j+1≤l.length;omega))|exact fu|(first|exact tz|decide|((try simp only[ek,cg,dT,dF]at*)<;>first|omega|(have h1:=hr.at (t:=j) om;omega)|(rw[OO om];done)|(rw[iS om];done)|(congr 1;omega)|rfl))
def IM (c:Con)(F:Nat→Bool)(o:AV):List (Nat×ag):=[(1000,⟨.plain (B8 c o),81,0,false,true⟩),(1001,⟨.plain (b8 F),179,0,false,true⟩)]
def IN (tot:Int):List (Nat×AV):=[(3,vi tot),(4,.ptr 1000 0),(10,.ptr 1001 0)]
def YE (c:Con)(M:LC)(l:List Int)(tot:Int):aO:=⟨⟨IN tot,IM c (aR M l aW) (.int .i64 0),1010⟩,some (fI c M l tot).isSome,fun d=>match d with
 |true=>(.ret,⟨[(8,vi ((fI c M l tot).getD 0:Nat)),(9,.bool true)],[],1010⟩)
 |false=>(.exit 6,⟨[],[],1010⟩)⟩
theorem sF {tot:Int}{t:Nat}(h0:0≤tot)(h1:tot≤7)(ht:t<8):(w6.wrap (w6.wrap (tot-(t:Int))+8)).tmod 8=(tot-(t:Int)+8)%8:=by
 rw[og (n:=tot-(t:Int)) om om,wo,iE om]
theorem z8 {M:LC}{l:List Int}{x:Int}(h0:0≤x)(h1:x<8):[aR M l aW 0,aR M l aW 1,aR M l aW 2,aR M l aW 3,aR M l aW 4,aR M l aW 5,aR M l aW 6,aR M l aW 7].getD (x.toNat+0) false=eG M l x:=by
 rw[fv,z7 (n:=aR M l aW) om,OM om,ov h0]
theorem Dx {p:Nat→Bool}{t:Nat}(ht:t<8)(h:p t=true):fB p (8-t) t=some t:=by
 rw[show 8-t=(8-(t+1))+1 by omega]
 simp only[fB,h,aU]
theorem Ej {p:Nat→Bool}{t:Nat}(ht:t<8)(h:p t=false):fB p (8-t) t=fB p (8-(t+1)) (t+1):=by
 rw[show 8-t=(8-(t+1))+1 by omega]
 simp only[fB,h,bt]
theorem Fs {c:Con}{M:LC}{l:List Int}{tot:Int}{t:Nat}(h1:dt (wO c (t:Int))=true)(h2:eG M l ((tot-(t:Int)+8)%8)=true):kB c M l tot t=true:=by unfold kB;rw[h1,h2];rfl
theorem Qw {c:Con}{M:LC}{l:List Int}{tot:Int}{t:Nat}(h1:dt (wO c (t:Int))=false):kB c M l tot t=false:=by unfold kB;rw[h1];rfl
theorem Qx {c:Con}{M:LC}{l:List Int}{tot:Int}{t:Nat}(h2:eG M l ((tot-(t:Int)+8)%8)=false):kB c M l tot t=false:=by unfold kB;rw[h2,mt9]
theorem XF (c:Con)(M:LC)(l:List Int)(tot:Int)(h0:0≤tot)(h1:tot≤7):An 4 Tryz.f80 [0,1,0,1,1,1] (YE c M l tot):=by
 refine iB (cE np) aE (fun(t:Nat)=>(⟨IN tot,IM c (aR M l aW) (vi t),1010⟩:St)) (fun(t:Nat)=>(8-t:Nat)) (fun(d:Bool)=>fun(t:Nat)=>(t≤8∧fB (kB c M l tot) (8-t) t=fI c M l tot∧(fI c M l tot).isSome=d:Prop)) ?_ ?_
 ·intro d hd
  exact st (0) [tot=tot,c.exp=c.exp,c.dim=c.dim,rq c.sign,c.odd=c.odd,(0:Int)=↑(0:Nat),rq (aR M l aW (0:Nat)),rq (aR M l aW (1:Nat)),rq (aR M l aW (2:Nat)),rq (aR M l aW (3:Nat)),rq (aR M l aW (4:Nat)),rq (aR M l aW (5:Nat)),rq (aR M l aW (6:Nat)),rq (aR M l aW (7:Nat))] (by refine⟨?_,?_,?_,?_,?_,?_,?_,?_,?_,?_,?_,?_,?_,(?_:aR M l aW (7:Nat)=aR M l aW (7:Nat))⟩<;>(first|rfl|assumption|exact⟨rfl,rfl⟩|omega|simp_all)) (by exact⟨bQ _,rfl,hd⟩)
 ·rintro d hd t hI
  obtain⟨ht,hf,hs⟩:=hI
  have ht:t≤8:=ht
  have hf:fB (kB c M l tot) (8-t) t=fI c M l tot:=hf
  have ek:=wk t
  refine(let q1:List Prop→List Prop:=fun l0=>(tot=tot)::(c.exp=c.exp)::(c.dim=c.dim)::rq c.sign::(c.odd=c.odd)::(w6.wrap ((↑t:Int)+1)=↑(t+1))::rq (aR M l aW (0:Nat))::rq (aR M l aW (1:Nat))::rq (aR M l aW (2:Nat))::rq (aR M l aW (3:Nat))::rq (aR M l aW (4:Nat))::rq (aR M l aW (5:Nat))::rq (aR M l aW (6:Nat))::rq (aR M l aW (7:Nat))::l0;oe (decide ((↑t:Int)<8)) (fun d1=>oe (dt (Con.mk c.exp c.dim c.sign c.odd (↑t:Int))) (fun d2=>let y1:List Prop:=(let v1:=w6.wrap (w6.wrap (tot-↑t)+8);[(v1.tmod (8:Int)).toNat+0<[aR M l aW (0:Nat),aR M l aW (1:Nat),aR M l aW (2:Nat),aR M l aW (3:Nat),aR M l aW (4:Nat),aR M l aW (5:Nat),aR M l aW (6:Nat),aR M l aW (7:Nat)].length,(0:Int)≤v1.tmod (8:Int)∧v1.tmod (8:Int)<↑(8:Nat),(8:Int)≠(0:Int),ty d2,ty d1]);have u1:ar y1:=⟨?_,?_,?_,d2,d1⟩;oe ([aR M l aW (0:Nat),aR M l aW (1:Nat),aR M l aW (2:Nat),aR M l aW (3:Nat),aR M l aW (4:Nat),aR M l aW (5:Nat),aR M l aW (6:Nat),aR M l aW (7:Nat)].getD (((w6.wrap (w6.wrap (tot-↑t)+8)).tmod (8:Int)).toNat+0) false) (fun d3=>bH d true (tp 111) (((↑t:Int)=↑((fI c M l tot).getD (0:Nat)))::ty d3::y1) ⟨?_,d3,u1⟩ ?_)
   (fun d3=>aH (tp 112) (t+1) (q1 (ty d3::y1)) ?_ ?_ ?_))
   (fun d2=>aH [true,false] (t+1) (q1 [ty d2,ty d1]) ?_ ?_ ?_))
   (fun d1=>bH d false [false] [ty d1] d1 ?_))
  all_goals with_reducible repeat' first|exact dA|refine bx ?_ ?_|refine bz ?_
  all_goals((try clear u1);(try clear y1))
  all_goals first|(refine dO.mk ?_;(simp only[dT]at*;show 8-(t+1)<8-t;omega))|(refine cL.mk ?_;(simp only[dT]at*;have h7:t<8:=om;have hx:=sF h0 h1 h7;refine⟨h7,?_,hs⟩;first|(rw[←hf,Ej h7 (Qw d2)];done)|(rw[hx,z8 om om]at d3;rw[←hf,Ej h7 (Qx d3)];done)))|(refine gu.mk ?_;cases d<;>first|rfl|(exfalso;(simp only[dT,dF]at*;first|(have h8:t=8:=om;subst h8;rw[←hf]at hs;cases hs;done)|(have h7:t<8:=om;have hx:=sF h0 h1 h7;rw[hx,z8 om om]at d3;rw[←hf,Dx h7 (Fs d2 d3)]at hs;cases hs;done))))|(first|exact tz|decide|((try simp only[ek,cg,dT,dF]at*)<;>first|omega|(have h7:t<8:=om;have hx:=sF h0 h1 h7;rw[hx];first|omega|(simp only[dg,ic];omega))|(have h7:t<8:=om;have hx:=sF h0 h1 h7;rw[hx,z8 om om]at d3;rw[←hf,Dx h7 (Fs d2 d3)];rfl)))
theorem Qy {o:Option Nat}(h:o.isSome=false):(0:Int)=((o.getD 0:Nat):Int):=by cases o with|none=>rfl|some v=>cases h
theorem Qz {P:Program}{ng N:Nat}{fn:Func}{p q:List Nat}{A B:aO}(h:dB P ng N (cz fn p) A)(k:dB P ng N (cz fn q) B):∀x∈[(p,A),(q,B)],dB P ng N (cz fn x.1) x.2:=fun x hx=>by
 rcases bC.1 hx with rfl|hx
 ·exact h
 ·rw[fJ.1 hx];exact k
theorem Mh (c:Con)(M:LC)(l:List Int)(tot:Int)(hl:l.length≤1000)(hr:cI M.length l)(h0:0≤tot)(h1:tot≤7):ax Tryz.prog [] 80 [.agg c.rvs,bg M,rI .i64 l,.int .i64 tot] (.tup [.int .i64 (((fI c M l tot).getD 0:Nat):Int),.bool (fI c M l tot).isSome]):=by
 refine pr (cE np) Tryz.func80 (Qz (XE c M l tot hl hr) (XF c M l tot h0 h1)) ?_
 refine(let y1:List Prop:=[lq M,tot=tot,sr l fun j=>[RV.int IntKind.i64 (l.getD j (0:Int))],rq (↑l.length:Int),c.exp=c.exp,c.dim=c.dim,rq c.sign,c.odd=c.odd,rq c.oddity,true=true,false=false,false=false,false=false,false=false,false=false,false=false,false=false];have u1:ar y1:=⟨?_,?_,?_,?_,?_,?_,?_,?_,?_,?_,?_,?_,?_,?_,?_,?_,(?_:false=false)⟩;oe ((fI c M l tot).isSome) (fun d1=>lr [true] (rq (↑((fI c M l tot).getD (0:Nat)):Int)::(true=(fI c M l tot).isSome)::(tot=tot)::(c.exp=c.exp)::(c.dim=c.dim)::rq c.sign::(c.odd=c.odd)::rq (aR M l aW (0:Nat))::rq (aR M l aW (1:Nat))::rq (aR M l aW (2:Nat))::rq (aR M l aW (3:Nat))::rq (aR M l aW (4:Nat))::rq (aR M l aW (5:Nat))::rq (aR M l aW (6:Nat))::rq (aR M l aW (7:Nat))::ty d1::y1) ?_)
  (fun d1=>lr [false] (((0:Int)=↑((fI c M l tot).getD (0:Nat)))::(false=(fI c M l tot).isSome)::(tot=tot)::(c.exp=c.exp)::(c.dim=c.dim)::rq c.sign::(c.odd=c.odd)::rq (aR M l aW (0:Nat))::rq (aR M l aW (1:Nat))::rq (aR M l aW (2:Nat))::rq (aR M l aW (3:Nat))::rq (aR M l aW (4:Nat))::rq (aR M l aW (5:Nat))::rq (aR M l aW (6:Nat))::rq (aR M l aW (7:Nat))::ty d1::y1) ?_))
 all_goals with_reducible repeat' first|exact dA|refine bx ?_ ?_|refine bz ?_
 all_goals first|(first|exact tv|exact Qy d1|exact d1.symm)
end Go.Proofs.YtdbdoalefmliiaaGreatDoor.S
namespace Go.QfSy
section
open Go.RowKit
end
end Go.QfSy
namespace Go.Proofs.YtdbdoalefmliiaaGreatDoor.S
open Go.QfSy Go.RowKit
theorem cI.drop {N:Nat}{l:List Int}(h:cI N l)(k:Nat):cI N (l.drop k):=fun x hx=>h x (List.mem_of_mem_drop hx)
theorem O0 {N:Nat}{l:List Int}(h:cI N l){tot:Int}{M:List Con}(hM:M.length=N):(fZ l tot M).2.length=N:=((yy h).2.1 tot M hM).len.trans hM
end Go.Proofs.YtdbdoalefmliiaaGreatDoor.S
namespace Go.Proofs.YtdbdoalefmliiaaGreatDoor.S
section
open Go.QfSy Go.RowKit
end
end Go.Proofs.YtdbdoalefmliiaaGreatDoor.S
namespace Go.Proofs.YtdbdoalefmliiaaGreatDoor.S
open Go.QfSy Go.RowKit
noncomputable def en (p:Int)(L:List Con):Bool:=fL p L||ci p L
theorem sK {p:Int}{L:List Con}(h:ci p L=true):p=2:=by
 unfold ci at h
 simp only[bj,dx]at h
 exact h.1
theorem R0 {p:Int}{L:List Con}(h:en p L=true):bm L:=by
 unfold en at h
 rcases nj _ _▸h with h|h
 ·have:=RZ h
  subst this
  exact(Pt h).1
 ·have:=sK h
  subst this
  exact kj h
noncomputable def su:List cq:=[
 ⟨73,[],fun A=>match A with
  |[.agg [.int .i64 p,.sl n 5 row]]=>some (.bool (fL p (aF n row)),[(∀i,i<n→row i=(Con.ofR (row i)).rvs)∧n≤1000])
  |_=>none⟩,
 ⟨71,[],fun A=>match A with
  |[.agg [.int .i64 p,.sl n 5 row]]=>some (.bool (ci p (aF n row)),[(∀i,i<n→row i=(Con.ofR (row i)).rvs)∧n≤1000])
  |_=>none⟩,
 ⟨110,[],fun A=>match A with
  |[.agg [.int .i64 p,.sl n 5 row],.int .i64 a]=>some (.bool (jv (aF n row) a.toNat),[(∀i,i<n→row i=(Con.ofR (row i)).rvs)∧bm (aF n row)∧1≤a∧a<(n:Int)])
  |_=>none⟩]
theorem uB:∀e∈su,cJ Tryz.prog e:=by
 intro e he
 simp only[su,bC,cU,cY]at he
 rcases he with rfl|rfl|rfl
 all_goals
  intro A R ms h hm
  simp only at h
  split at h
  all_goals first|(cases h;done)|cases h
 ·obtain⟨h1,h2⟩:=aA hm
  exact ax.imp (xY _ _ (by rw[pU];exact h2)) (.cons (.agg (.cons .same (.cons (.con h1) .nil))) .nil)
 ·obtain⟨h1,h2⟩:=aA hm
  exact ax.imp (uy _ _ (by rw[pU];exact h2)) (.cons (.agg (.cons .same (.cons (.con h1) .nil))) .nil)
 ·obtain⟨h1,h3,h4,h5⟩:=aA hm
  rename_i p _ _ a
  have e:((a.toNat:Nat):Int)=a:=by omega
  have:=LG p _ a.toNat h3 om (by rw[pU];omega)
  rw[e]at this
  exact ax.imp this (.cons (.agg (.cons .same (.cons (.con h1) .nil))) (.cons .same .nil))
noncomputable def gr (p:Int)(L:List Con):Bool:=ci p L&&(ln L).isSome
noncomputable def tL (L:List Con):List Con:=(ln L).getD []
theorem DZ {L:List Con}:∀{P:List (List Int)}{M R:List Con},(∀l∈P,cI L.length l)→M.length=L.length→qL L P M=some R→R.length=L.length
 |[],M,R,_,hM,h=>by cases h;exact hM
 |l::P,M,R,hP,hM,h=>by
  simp only[qL]at h
  cases hc:(fZ l (ky L l) M).1 with
  |false=>rw[hc]at h;cases h
  |true=>
   rw[hc,aU]at h
   exact DZ (fun x hx=>hP x (fk _ hx)) (O0 (hP l eB) hM) h
theorem Ob {L R:List Con}(h:ln L=some R):R.length=L.length:=DZ (fun l hl=>(kX l hl).2.1) rfl h
theorem x7 {p:Nat→Bool}:∀{n t t0:Nat},fB p n t=some t0→p t0=true∧t≤t0∧t0<t+n∧∀u,t≤u→u<t0→p u=false
 |0,_,_,h=>by cases h
 |n+1,t,t0,h=>by
  simp only[fB]at h
  cases hp:p t with
  |true=>
   rw[hp]at h
   cases h
   exact⟨hp,om,om,fun u _ _=>om⟩
  |false=>
   rw[hp]at h
   obtain⟨h1,h2,h3,h4⟩:=x7 (show fB p n (t+1)=some t0 from h)
   refine⟨h1,om,om,fun u hu hu'=>?_⟩
   rcases bA t u with hlt|hlt
   ·exact h4 u om hu'
   ·have:u=t:=by omega
    rw[this];exact hp
def R9:List cq:=(su++qz)++[
 ⟨80,[],fun A=>match A with
  |[.agg [.int .i64 a,.int .i64 b,.int .i64 c,.bool d,.int .i64 e],.sl n 5 row,.sl m 1 row',.int .i64 t]=>some (.tup [.int .i64 (((fI ⟨a,b,c,d,e⟩ (aF n row) (dQ m row') t).getD 0:Nat):Int),.bool (fI ⟨a,b,c,d,e⟩ (aF n row) (dQ m row') t).isSome],[(∀i,i<n→row i=(Con.ofR (row i)).rvs)∧(∀i,i<m→row' i=[.int .i64 (gN (row' i))])∧m≤1000∧cI n (dQ m row')∧0≤t∧t≤7])
  |_=>none⟩]
theorem rQ:∀e∈R9,cJ Tryz.prog e:=by
 intro e he
 rcases fX.1 he with he|he
 ·rcases fX.1 he with he|he
  ·exact uB e he
  ·exact pW e he
 ·rw[fJ.1 he]
  intro A R ms h hm
  simp only at h
  split at h
  ·cases h
   obtain⟨h1,h2,h3,h4,h5,h6⟩:=aA hm
   exact ax.imp (Mh ⟨_,_,_,_,_⟩ _ _ _ (by rw[uH];exact h3) BR h5 h6) (.cons .same (.cons (.con h1) (.cons (.ints h2) (.cons .same .nil))))
  ·cases h
theorem Mv {n:Nat}{L:LC}(h:n=L.length):aF n (fun i=>(L.getD i z0c).rvs)=L:=by subst h;exact cb L
theorem Sa {M:LC}{x:Nat}(h:M.length≤x):at_ M x=z0c:=by simp[at_,h]
theorem x8 (k:IntKind)(l:List Int)(s:Nat):dQ (l.length-s) (fun i=>[.int k (l.getD (i+s) 0)])=l.drop s:=by
 apply List.ext_getElem?
 intro m
 unfold dQ
 rw[mo,lG]
 rcases bA m (l.length-s)with h|h
 ·rw[List.getElem?_range h]
  have h2:s+m<l.length:=by omega
  simp[gN,gS h2,Nat.add_comm m s]
 ·rw[jD (by simpa using h),jD om]
  rfl
def lsV (M:LC)(l:List Int)(k:Nat)(tot:Int):Nat:=(fI (at_ M (l.getD k 0).toNat) M (l.drop (k+1)) tot).getD 0
theorem TX (M:LC)(l:List Int)(k:Nat)(tot:Int):lsV M l k tot<8:=by
 unfold lsV
 cases h:fI (at_ M (l.getD k 0).toNat) M (l.drop (k+1)) tot with
 |none=>decide
 |some t=>have:=x7 h;simp only[Option.getD_some];omega
theorem TY {M:LC}{l:List Int}{k:Nat}{tot:Int}(hk:k<l.length)(h:(fI (at_ M (l.getD k 0).toNat) M (l.drop (k+1)) tot).isSome=true):eN (l.drop k) tot M=eN (l.drop (k+1)) ((tot-(lsV M l k tot:Int)+8)%8) (du M (l.getD k 0) (lsV M l k tot:Int)):=by
 rw[oY hk]
 unfold lsV
 simp only[eN,GG]
 unfold fI at h⊢
 cases hq:fB (kB (at_ M (l.getD k 0).toNat) M (l.drop (k+1)) tot) 8 0 with
 |none=>rw[hq]at h;cases h
 |some t=>rfl
theorem TZ {M:LC}{l:List Int}{k:Nat}{tot:Int}(hk:k<l.length)(h:(fI (at_ M (l.getD k 0).toNat) M (l.drop (k+1)) tot).isSome=false):eN (l.drop k) tot M=none:=by
 rw[oY hk]
 simp only[eN,GG]
 unfold fI at h
 cases hq:fB (kB (at_ M (l.getD k 0).toNat) M (l.drop (k+1)) tot) 8 0 with
 |none=>rfl
 |some t=>rw[hq]at h;cases h
theorem Hb {M:LC}{l:List Int}{k:Nat}{tot:Int}(hk:l.length≤k):eN (l.drop k) tot M=some M:=by
 rw[gT hk];rfl
def w7 (N:Nat)(P:List (List Int))(j:AV):List (Nat×AV):=[(2,.ptr 1001 0),(4,.lo 1003 N),(20,(gb .i64 P).av),(21,vi P.length),(22,j)]
def Jf (N:Nat)(P:List (List Int))(j:Nat)(tot:Int)(k:AV):List (Nat×AV):=w7 N P (vi j)++[(6,(rI .i64 (ah P j)).av),(7,vi tot),(33,(rI .i64 (ah P j)).av),(34,vi (ah P j).length),(35,k)]
def Jg:df×St:=(.ret,⟨[(2,.ptr 1001 0),(3,.bool false)],[(1001,⟨.plain [.int .i64 0,.nils],50,0,false,true⟩)],1020⟩)
def Ij (N:Nat)(P:List (List Int))(j:Nat)(tot:Int)(M:LC):aO:=⟨⟨Jf N P j tot (.int .i64 0),kW N M,1020⟩,some (eN (ah P j) tot M).isSome,fun d=>match d with
 |true=>(.exit 2,⟨w7 N P (vi j),kW N ((eN (ah P j) tot M).getD []),1020⟩)
 |false=>Jg⟩
theorem T2 (N:Nat)(P:List (List Int))(j:Nat)(tot0:Int)(M0:LC)(hr:cI N (ah P j))(hn:(ah P j).length≤1000)(hM0:M0.length=N)(h0:0≤tot0)(h1:tot0≤7):An 1 Tryz.f41 [0,1,1,1,0,0,1,1,0,0,1,0,1,1,1] (Ij N P j tot0 M0):=by
 refine iB (cE rQ) aE (u3 fun(k:Nat)(tot:Int)(M:LC)=>(⟨Jf N P j tot (vi k),kW N M,1020⟩:St)) (u3 fun(k:Nat)(tot:Int)(M:LC)=>((ah P j).length-k:Nat)) (fun(d:Bool)(i:Nat×Int×LC)=>(fun(k:Nat)(tot:Int)(M:LC)=>(k≤(ah P j).length∧M.length=N∧(0≤tot∧tot≤7)∧eN ((ah P j).drop k) tot M=eN (ah P j) tot0 M0∧(eN (ah P j) tot0 M0).isSome=d:Prop)) i.1 i.2.1 i.2.2) ?_ ?_
 ·intro d hd
  exact st (0,tot0,M0) [N=N,sr P fun i=>[rI IntKind.i64 (P.getD i [])],rq (↑P.length:Int),rq (↑j:Int),sr (ah P j) fun j_1=>[RV.int IntKind.i64 ((ah P j).getD j_1 (0:Int))],tot0=tot0,sr (ah P j) fun j_1=>[RV.int IntKind.i64 ((ah P j).getD j_1 (0:Int))],rq (↑(ah P j).length:Int),(0:Int)=↑(0:Nat),M0=M0] (by refine⟨?_,?_,?_,?_,?_,?_,?_,?_,?_,(?_:M0=M0)⟩<;>(first|rfl|assumption|exact⟨rfl,rfl⟩|omega|simp_all)) (by exact⟨bQ _,hM0,⟨h0,h1⟩,rfl,hd⟩)
 ·rintro d hd ⟨k,tot,M⟩ hI
  obtain⟨ht,hM,hb,hf,hs⟩:=hI
  have ht:k≤(ah P j).length:=ht
  have hM:M.length=N:=hM
  have hb:0≤tot∧tot≤7:=hb
  have hf:eN ((ah P j).drop k) tot M=eN (ah P j) tot0 M0:=hf
  have ek:=wk k
  have ec:aF N (fun i=>(M.getD i z0c).rvs)=M:=Mv hM.symm
  have hv:=TX M (ah P j) k tot
  have el:=sF hb.1 hb.2 hv
  refine(let q1:List Prop→List Prop:=fun l0=>(N=N)::(sr P fun i=>[rI IntKind.i64 (P.getD i [])])::rq (↑P.length:Int)::rq (↑j:Int)::l0;oe (decide ((↑k:Int)<(↑(ah P j).length:Int))) (fun d1=>let y1:List Prop:=(let v1:=w6.wrap ((↑k:Int)+1);let v2:=(↑(ah P j).length:Int);[N=M.length,(∀(i:Nat),i<N→(fun i=>(M.getD i z0c).rvs) i=(Con.ofR ((fun i=>(M.getD i z0c).rvs) i)).rvs)∧(∀(i:Nat),i<(ah P j).length-v1.toNat→(fun i=>(fun j_1=>[RV.int IntKind.i64 ((ah P j).getD j_1 (0:Int))]) (i+v1.toNat)) i=[RV.int IntKind.i64 (gN ((fun i=>(fun j_1=>[RV.int IntKind.i64 ((ah P j).getD j_1 (0:Int))]) (i+v1.toNat)) i))])∧(ah P j).length-v1.toNat≤1000∧cI N (dQ ((ah P j).length-v1.toNat) fun i=>(fun j_1=>[RV.int IntKind.i64 ((ah P j).getD j_1 (0:Int))]) (i+v1.toNat))∧(0:Int)≤tot∧tot≤7,(0:Int)≤w6.wrap ((↑k:Int)+1)∧w6.wrap ((↑k:Int)+1)≤v2,((ah P j).getD k (0:Int)).toNat<M.length,(0:Int)≤(ah P j).getD k (0:Int)∧(ah P j).getD k (0:Int)<↑N,(0:Int)≤↑k∧(↑k:Int)<v2,ty d1]);have u1:ar y1:=⟨?_,?_,?_,?_,?_,?_,d1⟩;oe ((fI (M.getD ((ah P j).getD k (0:Int)).toNat z0c) (aF N fun i=>(M.getD i z0c).rvs) (dQ ((ah P j).length-(w6.wrap ((↑k:Int)+1)).toNat) fun i=>(fun j_1=>[RV.int IntKind.i64 ((ah P j).getD j_1 (0:Int))]) (i+(w6.wrap ((↑k:Int)+1)).toNat)) tot).isSome) (fun d2=>aH [true,false] (k+1,(tot-(lsV M (ah P j) k tot:Int)+8)%8,du M ((ah P j).getD k 0) (lsV M (ah P j) k tot:Int)) (q1 (let v1:=w6.wrap ((↑k:Int)+1);let v2:=(ah P j).getD k (0:Int);let v3:=aF N fun i=>(M.getD i z0c).rvs;let v4:=(↑(lsV M (ah P j) k tot):Int);let v5:=(ah P j).length-v1.toNat;(sr (ah P j) fun j_1=>[RV.int IntKind.i64 ((ah P j).getD j_1 (0:Int))])::((w6.wrap (w6.wrap (tot-(↑((fI (M.getD v2.toNat z0c) v3 (dQ v5 fun i=>(fun j_1=>[RV.int IntKind.i64 ((ah P j).getD j_1 (0:Int))]) (i+v1.toNat)) tot).getD (0:Nat)):Int))+8)).tmod (8:Int)=(tot-v4+8)%(8:Int))::(sr (ah P j) fun j_1=>[RV.int IntKind.i64 ((ah P j).getD j_1 (0:Int))])::rq (↑(ah P j).length:Int)::(w6.wrap ((↑k:Int)+1)=↑(k+1))::(wx M v2.toNat (↑((fI (M.getD v2.toNat z0c) v3 (dQ v5 fun i=>(fun j_1=>[RV.int IntKind.i64 ((ah P j).getD j_1 (0:Int))]) (i+v1.toNat)) tot).getD (0:Nat)):Int)=du M v2 v4)::((8:Int)≠(0:Int))::(v2.toNat<M.length)::((0:Int)≤(ah P j).getD k (0:Int)∧(ah P j).getD k (0:Int)<↑N)::ty (dN d2)::y1)) ⟨?_,?_,?_,?_,?_,?_,?_,?_,?_,?_,?_,?_,?_,(dN d2),u1⟩ ?_ ?_)
   (fun d2=>bH d false [true,true] (ty (dN d2)::y1) ⟨(dN d2),u1⟩ ?_))
   (fun d1=>bH d true [false] (q1 [M=(eN (ah P j) tot0 M0).getD [],ty d1]) ⟨?_,?_,?_,?_,?_,d1⟩ ?_))
  all_goals((try clear u1);(try clear y1))
  all_goals first|(refine dO.mk ?_;(simp only[dT]at d1;show(ah P j).length-(k+1)<(ah P j).length-k;omega))|(refine cL.mk ?_;(simp only[ek,ec,x8,cb,cg,dT]at*;exact⟨om,by rw[ki];exact hM,om,by rw[←hf,TY om d2],hs⟩))|(refine gu.mk ?_;cases d<;>first|rfl|(exfalso;(simp only[ek,ec,x8,cb,cg,dT,dF]at*;first|(rw[←hf,Hb om]at hs;cases hs;done)|(rw[←hf,TZ om d2]at hs;cases hs;done))))|(first|exact tz|decide|((try simp only[ek,ec,x8,cb,cg,dT,dF]at*)<;>first|omega|(rw[←hf,Hb om];rfl)|exact el|rfl|(have h2:=hr.at (t:=k) om;first|omega|exact⟨fun _ _=>rfl,fun _ _=>rfl,om,hr.drop _,hb.1,hb.2⟩|exact(5:Nat))))
theorem EW:∀{l:List Int}{tot:Int}{M R:LC},bm M→cI M.length l→eN l tot M=some R→bm R∧R.length=M.length
 |[],tot,M,R,hM,hl,h=>by cases h;exact⟨hM,rfl⟩
 |i::l,tot,M,R,hM,hl,h=>by
  simp only[eN]at h
  cases hq:fB (jw M i l tot) 8 0 with
  |none=>rw[hq]at h;cases h
  |some t=>
   rw[hq]at h
   have h1:=hl i eB
   have h2:=x7 hq
   have h3:=EW (ve hM h1 (t:=(t:Int)) ⟨om,om⟩) (by rw[ki];exact fun x hx=>hl x (fk _ hx)) h
   rw[ki]at h3
   exact h3
theorem T3 {M R:LC}{P:List (List Int)}{j:Nat}(hj:j<P.length)(h:eN (ah P j) (at_ M ((ah P j).getD 0 0).toNat).oddity M=some R):fp (P.drop j) M=fp (P.drop (j+1)) R:=by
 rw[ns hj];simp only[fp,h]
theorem T5 {M:LC}{P:List (List Int)}{j:Nat}(hj:j<P.length)(h:eN (ah P j) (at_ M ((ah P j).getD 0 0).toNat).oddity M=none):fp (P.drop j) M=none:=by
 rw[ns hj];simp only[fp,h]
theorem Hc {M:LC}{P:List (List Int)}{j:Nat}(hj:P.length≤j):fp (P.drop j) M=some M:=by
 rw[gT hj];rfl
theorem Mw {o:Option LC}(h:o.isSome=true):o=some (o.getD []):=by cases o with|none=>cases h|some x=>rfl
theorem Pw {o:Option LC}(h:o.isSome=false):o=none:=by cases o with|none=>rfl|some x=>cases h
def T6 (L:LC)(P:List (List Int)):aO:=⟨⟨w7 L.length P (.int .i64 0),kW L.length L,1020⟩,some (fp P L).isSome,fun d=>match d with
 |true=>(.exit 0,⟨[(2,.ptr 1001 0),(4,.lo 1003 L.length)],kW L.length ((fp P L).getD []),1020⟩)
 |false=>Jg⟩
theorem FY (L:LC)(P:List (List Int))(hP:∀l∈P,l≠[]∧cI L.length l∧l.length≤L.length)(hn:P.length≤1000)(hL:bm L):An 1 Tryz.f41 [0,1,0,1,1,1] (T6 L P):=by
 refine pI (cE rQ) (u2 fun(j:Nat)(M:LC)=>(⟨w7 L.length P (vi j),kW L.length M,1020⟩:St)) (u2 fun(j:Nat)(M:LC)=>(P.length-j:Nat)) (fun(d:Bool)(i:Nat×LC)=>(fun(j:Nat)(M:LC)=>(j≤P.length∧bm M∧M.length=L.length∧fp (P.drop j) M=fp P L∧(fp P L).isSome=d:Prop)) i.1 i.2) (u2 fun(j:Nat)(M:LC)=>([([0,1,1,1,0,0,1,1,0,0,1,0,1,1,1],Ij L.length P j (at_ M ((ah P j).getD 0 0).toNat).oddity M)]:List (List Nat×aO))) ?_ ?_ ?_
 ·rintro d hd ⟨j,M⟩ hI
  obtain⟨ht,hM,hlen,hf,hs⟩:=hI
  have ht:j≤P.length:=ht
  have hM:bm M:=hM
  have hlen:M.length=L.length:=hlen
  have hb:0≤(at_ M ((ah P j).getD 0 0).toNat).oddity∧(at_ M ((ah P j).getD 0 0).toNat).oddity≤7:=by
   rcases bA ((ah P j).getD 0 0).toNat M.length with h|h
   ·exact(hM.at h).2.2.2
   ·rw[Sa h];decide
  have hr:cI L.length (ah P j)∧(ah P j).length≤1000:=by
   have:=hL.1
   rcases bA j P.length with h|h
   ·have h1:=hP _ (iX h)
    exact⟨h1.2.1,om⟩
   ·have e:ah P j=[]:=by simp[ah,h]
    rw[e];exact⟨fun x hx=>by simp at hx,si⟩
  exact bX (T2 L.length P j _ M hr.1 hr.2 hlen hb.1 hb.2)
 ·intro d hd
  exact st (0,L) [rq L.length,sr P fun i=>[rI IntKind.i64 (P.getD i [])],rq (↑P.length:Int),(0:Int)=↑(0:Nat),L=L] Kc (by exact⟨bQ _,hL,rfl,rfl,hd⟩)
 ·rintro d hd ⟨j,M⟩ hI
  obtain⟨ht,hM,hlen,hf,hs⟩:=hI
  have ht:j≤P.length:=ht
  have hM:bm M:=hM
  have hlen:M.length=L.length:=hlen
  have hf:fp (P.drop j) M=fp P L:=hf
  have ek:=wk j
  refine(let q1:List Prop→List Prop:=fun l0=>rq L.length::(sr P fun i=>[rI IntKind.i64 (P.getD i [])])::rq (↑P.length:Int)::l0;oe (decide ((↑j:Int)<↑P.length)) (fun d1=>let y1:List Prop:=(let v1:=Int.toNat (0:Int);let v2:=P.getD j [];[(v2.getD v1 (0:Int)).toNat<M.length,(0:Int)≤v2.getD v1 (0:Int)∧v2.getD v1 (0:Int)<↑L.length,(0:Int)≤0∧(0:Int)<↑v2.length,(0:Int)≤↑j∧(↑j:Int)<↑P.length,ty d1]);have u1:ar y1:=⟨?_,?_,?_,?_,d1⟩;oe ((eN (ah P j) (at_ M ((ah P j).getD (0:Nat) (0:Int)).toNat).oddity M).isSome) (fun d2=>aH [true,true] (j+1,(eN (ah P j) (at_ M ((ah P j).getD 0 0).toNat).oddity M).getD []) (q1 (let v1:=P.getD j [];let v2:=at_ M ((ah P j).getD (0:Nat) (0:Int)).toNat;(w6.wrap ((↑j:Int)+1)=↑(j+1))::rq ((eN (ah P j) v2.oddity M).getD [])::rq L.length::(sr P fun i=>[rI IntKind.i64 (P.getD i [])])::rq (↑P.length:Int)::rq (↑j:Int)::(v1.length=(ah P j).length∧(fun j_1=>[RV.int IntKind.i64 (v1.getD j_1 (0:Int))])=fun j_1=>[RV.int IntKind.i64 ((ah P j).getD j_1 (0:Int))])::((M.getD (v1.getD (Int.toNat (0:Int)) (0:Int)).toNat z0c).oddity=v2.oddity)::(v1.length=(ah P j).length∧(fun j_1=>[RV.int IntKind.i64 (v1.getD j_1 (0:Int))])=fun j_1=>[RV.int IntKind.i64 ((ah P j).getD j_1 (0:Int))])::((↑v1.length:Int)=(↑(ah P j).length:Int))::(M=M)::ty d2::y1)) ⟨?_,?_,?_,?_,?_,?_,?_,?_,?_,?_,?_,?_,?_,?_,d2,u1⟩ ?_ ?_)
   (fun d2=>bH d false [true,false] (q1 (let v1:=P.getD j [];rq (↑j:Int)::(v1.length=(ah P j).length∧(fun j_1=>[RV.int IntKind.i64 (v1.getD j_1 (0:Int))])=fun j_1=>[RV.int IntKind.i64 ((ah P j).getD j_1 (0:Int))])::((M.getD (v1.getD (Int.toNat (0:Int)) (0:Int)).toNat z0c).oddity=(at_ M ((ah P j).getD (0:Nat) (0:Int)).toNat).oddity)::(v1.length=(ah P j).length∧(fun j_1=>[RV.int IntKind.i64 (v1.getD j_1 (0:Int))])=fun j_1=>[RV.int IntKind.i64 ((ah P j).getD j_1 (0:Int))])::((↑v1.length:Int)=(↑(ah P j).length:Int))::(M=M)::ty d2::y1)) ⟨?_,?_,?_,?_,?_,?_,?_,?_,?_,d2,u1⟩ ?_))
   (fun d1=>bH d true [false] [rq L.length,M=(fp P L).getD [],ty d1] ⟨?_,?_,d1⟩ ?_))
  all_goals((try clear u1);(try clear y1))
  all_goals first|(refine dO.mk ?_;(simp only[dT]at d1;show P.length-(j+1)<P.length-j;omega))|(refine cL.mk ?_;(simp only[dT]at d1;have h0:=hP _ (iX (P:=P) (t:=j) om);have h1:=Mw d2;have h2:=EW hM (by rw[hlen];exact h0.2.1) h1;exact⟨om,h2.1,h2.2.trans hlen,by rw[←hf];exact(T3 om h1).symm,hs⟩))|(refine gu.mk ?_;cases d<;>first|rfl|(exfalso;(simp only[dT,dF]at d1;first|(rw[←hf,Hc om]at hs;cases hs;done)|(rw[←hf,T5 om (Pw d2)]at hs;cases hs;done))))|(first|exact tz|decide|((try simp only[ek,cg,pP,dT,dF]at*)<;>first|omega|(rw[←hf,Hc om];rfl)|(have h0:=hP _ (iX (P:=P) (t:=j) om);have h1:0<(ah P j).length:=nf.2 h0.1;have h5:0≤(P.getD j []).getD 0 0∧(P.getD j []).getD 0 0<(L.length:Int):=h0.2.1.at (t:=0) h1;have h7:0<(P.getD j []).length:=h1;first|omega)))
theorem N4 (L R:LC)(hf:ci 2 L=true)(hR:ln L=some R)(hlen:R.length=L.length):ax Tryz.prog [] 41 [.agg [.int .i64 2,bg L]] (.tup [.agg [.int .i64 2,bg R],.bool true]):=by
 have hL:=kj hf;have hl:=hL.1;have hne:=(rO hf).2.1;have k1:ci 2 (aF L.length fun i=>(L.getD i z0c).rvs)=true:=rx;have k2:L.length.beq 0=false:=BH;have k0:fp (bc L) L=some R:=(by rw[DI hf];exact hR);have k3:(fp (bc L) L).isSome=true:=(by rw[k0];rfl);have k4:(fp (bc L) L).getD []=R:=(by rw[k0];rfl)
 refine pr (cE rQ) Tryz.func41 (bX (FY L (bc L) kX (cl rR (kj hf).1) (kj hf))) ?_
 refine lr (tp 221) (let t1:=aF L.length fun i=>(L.getD i z0c).rvs;let t2:=fp (bc L) L;[rq (2:Int),L.length=R.length∧L.length=(t2.getD []).length∧∀(i:Nat),i<L.length→(fun i=>(R.getD i z0c).rvs) i=((t2.getD []).getD i z0c).rvs,true=true,rq L.length,(bc t1).length=(bc L).length∧(fun i=>[rI IntKind.i64 ((bc t1).getD i [])])=fun i=>[rI IntKind.i64 ((bc L).getD i [])],(↑(bc t1).length:Int)=(↑(bc L).length:Int),t1=L,aa t2.isSome true,(lz L)∧ia t1,(0:Nat)<L.length∧L.length≤1000000,lz L,aa (L.length.beq (0:Nat)) false,(0:Nat)<L.length,aa (!ci (2:Int) t1) false,(lz L)∧L.length≤1000]) ⟨?_,?_,?_,?_,?_,?_,?_,k3,?_,?_,?_,k2,?_,(dN k1),(?_:(lz L)∧L.length≤1000)⟩
 all_goals first|(first|exact tz|exact cb L|exact⟨hne,om⟩|exact hne|exact fun _ _=>rfl|exact t6|exact oo|exact xr|(rw[k4];exact⟨hlen.symm,hlen.symm,fun _ _=>rfl⟩)|exact(5:Nat))
theorem Mx (L:LC)(hf:ci 2 L=true)(hR:ln L=none):ax Tryz.prog [] 41 [.agg [.int .i64 2,bg L]] (.tup [.agg [.int .i64 0,bg []],.bool false]):=by
 have hL:=kj hf;have hl:=hL.1;have hne:=(rO hf).2.1;have k1:ci 2 (aF L.length fun i=>(L.getD i z0c).rvs)=true:=rx;have k2:L.length.beq 0=false:=BH;have k0:fp (bc L) L=none:=(by rw[DI hf];exact hR);have k3:(fp (bc L) L).isSome=false:=(by rw[k0];rfl)
 refine pr (cE rQ) Tryz.func41 (bX (FY L (bc L) kX (cl rR (kj hf).1) (kj hf))) ?_
 refine lr (tp 222) (let t1:=aF L.length fun i=>(L.getD i z0c).rvs;[rq (0:Int),rq (0:Nat),false=false,rq L.length,(bc t1).length=(bc L).length∧(fun i=>[rI IntKind.i64 ((bc t1).getD i [])])=fun i=>[rI IntKind.i64 ((bc L).getD i [])],(↑(bc t1).length:Int)=(↑(bc L).length:Int),t1=L,aa (fp (bc L) L).isSome false,(lz L)∧ia t1,(0:Nat)<L.length∧L.length≤1000000,lz L,aa (L.length.beq (0:Nat)) false,(0:Nat)<L.length,aa (!ci (2:Int) t1) false,(lz L)∧L.length≤1000]) ⟨?_,?_,?_,?_,?_,?_,?_,k3,?_,?_,?_,k2,?_,(dN k1),(?_:(lz L)∧L.length≤1000)⟩
 all_goals first|(first|exact tz|exact cb L|exact⟨hne,om⟩|exact hne|exact fun _ _=>rfl|exact t6|exact oo|exact xr|exact(5:Nat))
theorem Px (p:Int)(L:LC)(hn:L.length≤1000)(hv:ci p L=false):ax Tryz.prog [] 41 [.agg [.int .i64 p,bg L]] (.tup [.agg [.int .i64 0,bg []],.bool false]):=by
 have k1:ci p (aF L.length fun i=>(L.getD i z0c).rvs)=false:=BT
 refine pr (cE rQ) Tryz.func41 aE ?_
 refine lr [true] [rq (0:Int),rq (0:Nat),false=false,aa (!ci p (aF L.length fun i=>(L.getD i z0c).rvs)) true,(lz L)∧L.length≤1000] ⟨?_,?_,?_,(dN k1),(?_:(lz L)∧L.length≤1000)⟩
 all_goals first|exact B4
theorem C3 (p:Int)(L:LC)(hn:L.length≤1000):ax Tryz.prog [] 41 [.agg [.int .i64 p,bg L]] (.tup [.agg [.int .i64 (bP (gr p L)),bg (bL (gr p L) (tL L))],.bool (gr p L)]):=by
 unfold gr
 cases h:ci p L with
 |false=>exact Px p L hn h
 |true=>
  have:=sK h
  subst this
  cases hr:ln L with
  |none=>exact Mx L h hr
  |some R=>
   have e:tL L=R:=by unfold tL;rw[hr];rfl
   rw[e]
   exact N4 L R h hr (Ob hr)
def lV (L:LC)(k:Nat):Bool:=decide (0<k)&&jv L k
def mX (L:LC)(k:Nat):mb:=iL (fun _=>true) (lV L) k
def ao (L:LC):List (List Int):=dV (mX L L.length)
def jR (L:LC):List (List Int):=(mX L L.length).1
def lg (L:LC):List Int:=(mX L L.length).2.getD []
def kC (L:LC)(i:Nat×List (List Int)×Option (List Int)):Prop:=i.1≤L.length∧mX L i.1=i.2
theorem zx {L:LC}{i:Nat×List (List Int)×Option (List Int)}(h:kC L i):AD (fun _=>true) i.1 i.2:=by rw[←h.2];exact mG _ _ _
theorem yB {L:LC}{k:Nat}{F:List (List Int)}(h:kC L (k,F,none)):k=0:=by
 have:=((zx h).none rfl).2
 rcases kS k with h0|h0
 ·exact h0
 ·exact absurd (this 0 h0) de
theorem Pj {L:LC}{k:Nat}{F:List (List Int)}(h:kC L (k,F,none))(hk:k<L.length):kC L (k+1,[],some [(k:Int)]):=by
 have hF:F=[]:=((zx h).none rfl).1
 subst hF
 refine⟨hk,?_⟩
 show gM true (lV L k) k (mX L k)=_
 rw[h.2];rfl
theorem Pk {L:LC}{k:Nat}{F:List (List Int)}{l:List Int}(h:kC L (k,F,some l))(hk:k<L.length)(h0:0<k)(hj:jv L k=true):kC L (k+1,F,some (l++[(k:Int)])):=by
 refine⟨hk,?_⟩
 show gM true (lV L k) k (mX L k)=_
 rw[h.2,lV,hj,bJ h0];rfl
theorem NK {L:LC}{k:Nat}{F:List (List Int)}{l:List Int}(h:kC L (k,F,some l))(hk:k<L.length)(h0:¬0<k):kC L (k+1,F++[l],some [(k:Int)]):=by
 refine⟨hk,?_⟩
 show gM true (lV L k) k (mX L k)=_
 rw[h.2,lV,bI h0];rfl
theorem NL {L:LC}{k:Nat}{F:List (List Int)}{l:List Int}(h:kC L (k,F,some l))(hk:k<L.length)(hj:jv L k=false):kC L (k+1,F++[l],some [(k:Int)]):=by
 refine⟨hk,?_⟩
 show gM true (lV L k) k (mX L k)=_
 rw[h.2,lV,hj,mt9];rfl
theorem vc {L:LC}{k:Nat}{F:List (List Int)}{l:List Int}(h:kC L (k,F,some l))(hk:L.length≤k):jR L=F∧lg L=l:=by
 have h1:k≤L.length:=h.1
 have:k=L.length:=by omega
 subst this
 unfold jR lg
 rw[h.2]
 exact⟨rfl,rfl⟩
theorem LJ {L:LC}(h:0<L.length):ao L=jR L++[lg L]:=by
 unfold ao jR lg
 generalize hc:mX L L.length=a
 obtain⟨F,o⟩:=a
 cases o with
 |none=>have:=yB (L:=L) (k:=L.length) (F:=F) ⟨bp _,hc⟩;omega
 |some l=>rfl
theorem ux {L:LC}:∀l∈ao L,l≠[]∧cI L.length l∧l.length≤L.length:=(mG (fun _=>true) (lV L) L.length).rows
theorem uz {L:LC}:(ao L).length≤L.length:=(mG (fun _=>true) (lV L) L.length).len
def X5 (L:LC)(b:Nat):List (Nat×ag):=[(b,⟨.rows .i64 (jR L) (b+1) (lg L).length,78,1,true,true⟩),(b+1,⟨.ints .i64 (lg L),3,1,true,true⟩)]
def YX (L:LC):Nat×List (List Int)×Option (List Int)→St
 |(k,_,none)=>⟨[(0,(bg L).av),(3,.nils),(6,vi L.length),(7,vi k)],[],1010⟩
 |(k,F,some l)=>⟨[(0,(bg L).av),(3,.lo 1001 (F.length+1)),(6,vi L.length),(7,vi k)],[(1001,⟨.rows .i64 F 1002 l.length,78,1,true,true⟩),(1002,⟨.ints .i64 l,3,1,true,true⟩)],1010⟩
def Bt (p:Int)(L:LC):List (Nat×ag):=[(1000,⟨.plain [vi p,(bg L).av],50,0,false,true⟩),(1001,⟨.plain [.fn 119 [],.fn 120 [.ptr 1000 0]],177,0,false,true⟩)]
def G9 (p:Int)(L:LC):aO:=⟨⟨[(3,.ptr 1001 0),(5,.nils),(8,vi L.length),(9,.int .i64 0)],Bt p L,1002⟩,none,fun _=>(.exit 0,⟨[(5,.lo 1003 ((jR L).length+1))],X5 L 1003,1010⟩)⟩
def X6 (p:Int)(L:LC):Nat×List (List Int)×Option (List Int)→St
 |(k,_,none)=>⟨[(3,.ptr 1001 0),(5,.nils),(8,vi L.length),(9,vi k)],Bt p L,1010⟩
 |(k,F,some l)=>⟨[(3,.ptr 1001 0),(5,.lo 1003 (F.length+1)),(8,vi L.length),(9,vi k)],Bt p L++[(1003,⟨.rows .i64 F 1004 l.length,78,1,true,true⟩),(1004,⟨.ints .i64 l,3,1,true,true⟩)],1010⟩
theorem Pl (p:Int)(L:LC)(hL:bm L)(hne:0<L.length):An 2 Tryz.f118 [0,1,0,1,1] (G9 p L):=by
 refine fj (cE uB) aE (X6 p L) (fun i=>L.length-i.1) (fun i=>kC L i) ?_ ?_
 ·exact st (0,[],none) [rq (↑L.length:Int),(0:Int)=↑(0:Nat),p=p,lq L] Ke (by exact⟨bQ _,rfl⟩)
 ·rintro ⟨k,F,o⟩ hI
  have hG:=zx hI
  have hk:k≤L.length:=hI.1
  have hl:=hL.1
  have ek:=wk k
  have em:w6.wrap ((k:Int)-1)=(k:Int)-1:=wo
  have hFk:F.length≤k:=by have:=hG.len;cases o<;>simp[dV]at this<;>omega
  have eF:w6.wrap (((F.length+1:Nat):Int)-1)=(F.length:Int):=by rw[wo];omega
  rcases o with _|l
  rotate_right
  refine(let q1:List Prop→List Prop:=fun l0=>(F.length+1+1=(F++[l]).length+1)::rq (↑L.length:Int)::(w6.wrap ((↑k:Int)+1)=↑(k+1))::(p=p)::(lq L)::(F++[l]=F++[l]∧(1:Nat)=[(↑k:Int)].length)::rq ([(↑k:Int)])::(F.length+1+1≤1000000)::(F.length+1=F.length+1∧l.length=l.length)::l0;oe (decide ((↑k:Int)<↑L.length)) (fun d1=>oe (decide ((↑k:Int)>0)) (fun d2=>let y1:List Prop:=[(lz L)∧bm (aF L.length fun i=>(L.getD i Con.zero).rvs)∧(1:Int)≤↑k∧(↑k:Int)<↑L.length,ty d2,ty d1];have u1:ar y1:=⟨?_,d2,d1⟩;oe (jv (aF L.length fun i=>(L.getD i Con.zero).rvs) k) (fun d3=>aH (tp 111) (k+1,F,some (l++[(k:Int)])) (let v1:=(↑(F.length+1):Int)-1;let v2:=(0:Int)≤w6.wrap v1∧w6.wrap v1<↑(F.length+1);let v3:=(w6.wrap v1).toNat=F.length;rq (F.length+1)::rq (↑L.length:Int)::(w6.wrap ((↑k:Int)+1)=↑(k+1))::(p=p)::(lq L)::(F=F∧l.length+1=(l++[(↑k:Int)]).length)::rq (l++[(↑k:Int)])::v3::v2::((b6.ints IntKind.i64 l).num=l.length∧l.length+1≤1000000)::v3::v2::ty d3::y1) ?_ ?_ ?_)
   (fun d3=>aH (tp 112) (k+1,F++[l],some [(k:Int)]) (q1 (ty d3::y1)) ?_ ?_ ?_))
   (fun d2=>aH [true,false] (k+1,F++[l],some [(k:Int)]) (q1 [ty d2,ty d1]) ?_ ?_ ?_))
   (fun d1=>b9 [false] [F.length+1=(jR L).length+1,F=jR L∧l.length=(lg L).length,l=lg L,ty d1] ?_))
  all_goals with_reducible repeat' first|exact dA|refine bx ?_ ?_|refine bz ?_
  rotate_right
  refine oe (decide ((↑k:Int)<↑L.length)) (fun d1=>oe (decide ((↑k:Int)>0)) (fun d2=>pR.no ?_)
   (fun d2=>aH [true,false] (k+1,[],some [(k:Int)]) [(1:Nat)=0+1,rq (↑L.length:Int),w6.wrap ((↑k:Int)+1)=↑(k+1),p=p,lq L,([]:List (List Int))=[]∧(1:Nat)=[(↑k:Int)].length,rq ([(↑k:Int)]),ty d2,ty d1] ⟨?_,?_,?_,?_,?_,?_,?_,d2,d1⟩ ?_ ?_))
   (fun d1=>a8.no ?_)
  all_goals((try clear u1);(try clear y1))
  all_goals first|exact Kn|(refine cL.mk ?_;(simp only[cb,cg,dT,dF,iV]at*;first|exact Pj hI om|exact Pk hI om om d3|exact NK hI om om|exact NL hI om d3))|(refine a8.mk ?_;exact KO)|(refine pR.mk ?_;exact KO)|(first|exact tz|((try simp only[em,ek,eF,cb,cg,dT,dF,iV,b6.num]at*)<;>first|omega|exact⟨rfl,rfl⟩|exact⟨fun _ _=>rfl,hL,om,om⟩|(have:=(hG.rows l (by simp[dV])).2.2;exact⟨by trivial,om⟩)|(rw[(vc hI om).1];done)|(rw[(vc hI om).2];done)|(rw[(vc hI om).1,(vc hI om).2];exact⟨rfl,rfl⟩)|(simp;done)|(exfalso;have:=yB hI;omega)))
def TR (p:Int)(L:LC):bq:=qM EV (ll EV (kt EV.ng su) 8) 118 2 [([0,1,0,1,1],G9 p L)] sI
theorem NM (p:Int)(L:LC)(hL:bm L)(hne:0<L.length):bV Tryz.prog EV.ng (TR p L):=vd fS (bU fS (eE uB) 8) Tryz.func118 (bX (Pl p L hL hne)) (cm _ _)
theorem Lz (p:Int)(L:LC)(hL:bm L)(hne:0<L.length):ax Tryz.prog [] 74 [.agg [.int .i64 p,bg L]] (gb .i64 (ao L)):=by
 have rr:=fun(tp:List Bool)(ms:List Prop)h hm=>uP fS (bU fS (NM p L hL hne) 4) Tryz.func74 (A:=[.agg [.int .i64 p,bg L]]) rfl aE rfl rfl rb (tabs:=[]) (R:=gb .i64 (ao L)) (tp:=tp) (ms:=ms) h hm
 refine rr [] [(jR L).length+1=(ao L).length∧(jR L).length+1=(jR L).length+1∧(lg L).length=(lg L).length∧∀(i:Nat),i<(jR L).length+1→(fun i=>[rI IntKind.i64 ((ao L).getD i [])]) i=[rI IntKind.i64 ((jR L++[lg L]).getD i [])],rq (↑L.length:Int),p=p,lq L] kr ⟨?_,?_,?_,(?_:lq L)⟩
 all_goals first|(first|exact tz|(rw[LJ hne];exact⟨si,rfl,rfl,fun i _=>rfl⟩))
noncomputable def FX:List cq:=(su++qz)++[
 ⟨74,[],fun A=>match A with
  |[.agg [.int .i64 p,.sl n 5 row]]=>some (gb .i64 (ao (aF n row)),[(∀i,i<n→row i=(Con.ofR (row i)).rvs)∧bm (aF n row)∧0<n])
  |_=>none⟩]
theorem C0:∀e∈FX,cJ Tryz.prog e:=by
 intro e he
 rcases fX.1 he with he|he
 ·rcases fX.1 he with he|he
  ·exact uB e he
  ·exact pW e he
 ·rw[fJ.1 he]
  intro A R ms h hm
  simp only at h
  split at h
  ·cases h
   obtain⟨h1,h2,h3⟩:=aA hm
   exact ax.imp (Lz _ _ h2 t7) (.cons (.agg (.cons .same (.cons (.con h1) .nil))) .nil)
  ·cases h
theorem NX (p:Int)(L:LC)(hL:bm L)(hne:0<L.length)(hv:en p L=true):ax Tryz.prog [] 28 [.agg [.int .i64 p,bg L]] (.tup [gb .i64 (ao L),.bool true]):=by
 have hl:=hL.1
 refine pr (cE C0) Tryz.func28 aE ?_
 refine(let q1:List Prop→List Prop:=fun l0=>(let v1:=aF L.length fun i=>(L.getD i Con.zero).rvs;((ao v1).length=(ao L).length∧(fun i=>[rI IntKind.i64 ((ao v1).getD i [])])=fun i=>[rI IntKind.i64 ((ao L).getD i [])])::(true=true)::((lz L)∧bm v1∧(0:Nat)<L.length)::l0);let y1:List Prop:=[(lz L)∧L.length≤1000];have u1:ar y1:=(?_:(lz L)∧L.length≤1000);oe (fL p (aF L.length fun i=>(L.getD i Con.zero).rvs)) (fun d1=>lr [false] (q1 (ty (dN d1)::y1)) ⟨?_,?_,?_,(dN d1),u1⟩)
  (fun d1=>oe (ci p (aF L.length fun i=>(L.getD i Con.zero).rvs)) (fun d2=>lr [true,false] (q1 (ty (dN d2)::((lz L)∧L.length≤1000)::ty (dN d1)::y1)) ⟨?_,?_,?_,(dN d2),?_,(dN d1),u1⟩)
  (fun d2=>a8.no ?_)))
 all_goals first|exact Kk|(first|exact tz|exact oo|exact t6|exact⟨fun _ _=>rfl,by rw[cb];exact hL,hne⟩|(rw[cb];exact⟨rfl,rfl⟩)|(rw[cb];done))
def fG (L:LC)(l:List Int):Bool:=l.all fun i=>!((at_ L i.toNat).sign==-1)
def eR (L:LC)(P:List (List Int)):Bool:=P.all fun l=>fG L (l.drop 1)
theorem TN {L:LC}{l:List Int}{k:Nat}(hk:k<l.length)(h:((at_ L (l.getD k 0).toNat).sign==-1)=false):fG L (l.drop k)=fG L (l.drop (k+1)):=by
 rw[oY hk];unfold fG;rw[lI,h];rfl
theorem G5 {L:LC}{l:List Int}{k:Nat}(hk:k<l.length)(h:((at_ L (l.getD k 0).toNat).sign==-1)=true):fG L (l.drop k)=false:=by
 rw[oY hk];unfold fG;rw[lI,h];rfl
theorem G6 {L:LC}{l:List Int}{k:Nat}(hk:l.length≤k):fG L (l.drop k)=true:=by rw[gT hk];rfl
theorem TO {L:LC}{P:List (List Int)}{j:Nat}(hj:j<P.length)(h:fG L ((ah P j).drop 1)=true):eR L (P.drop j)=eR L (P.drop (j+1)):=by
 rw[ns hj];unfold eR;rw[lI,h];rfl
theorem G7 {L:LC}{P:List (List Int)}{j:Nat}(hj:j<P.length)(h:fG L ((ah P j).drop 1)=false):eR L (P.drop j)=false:=by
 rw[ns hj];unfold eR;rw[lI,h];rfl
theorem G8 {L:LC}{P:List (List Int)}{j:Nat}(hj:P.length≤j):eR L (P.drop j)=true:=by rw[gT hj];rfl
def dI (l:List Int):AV:=.ro (l.length-1) 1 fun i=>[.int .i64 (l.getD (i+1) 0)]
def Ja (L:LC)(j:AV):List (Nat×AV):=[(1,.ptr 1000 0),(9,(gb .i64 (ao L)).av),(10,vi (ao L).length),(11,j)]
def gQ (p:Int)(L:LC):List (Nat×ag):=[(1000,⟨.plain [vi p,(bg L).av],50,0,false,true⟩)]
def X4 (L:LC)(j:Nat)(k:AV):List (Nat×AV):=Ja L (vi j)++[(16,dI (ah (ao L) j)),(17,vi ((ah (ao L) j).length-1:Nat)),(18,k)]
def YW (p:Int)(L:LC)(j:Nat):aO:=⟨⟨X4 L j (.int .i64 0),gQ p L,1020⟩,some (fG L ((ah (ao L) j).drop 1)),fun d=>match d with
 |true=>(.exit 2,⟨Ja L (vi j),gQ p L,1020⟩)
 |false=>(.ret,⟨[(2,.bool false)],gQ p L,1020⟩)⟩
def iQ (p:Int)(L:LC):Bool:=ci p L&&(eR L (ao L)&&(ln L).isSome)
def RU:List cq:=FX++[
 ⟨41,[],fun A=>match A with
  |[.agg [.int .i64 p,.sl n 5 row]]=>some (.tup [.agg [.int .i64 (bP (gr p (aF n row))),bg (bL (gr p (aF n row)) (tL (aF n row)))],.bool (gr p (aF n row))],[(∀i,i<n→row i=(Con.ofR (row i)).rvs)∧n≤1000])
  |_=>none⟩]
theorem CT:∀e∈RU,cJ Tryz.prog e:=by
 intro e he
 rcases fX.1 he with he|he
 ·exact C0 e he
 ·rw[fJ.1 he]
  intro A R ms h hm
  simp only at h
  split at h
  ·cases h
   obtain⟨h1,h2⟩:=aA hm
   exact ax.imp (C3 _ _ j9) (.cons (.agg (.cons .same (.cons (.con h1) .nil))) .nil)
  ·cases h
def wV (L:LC)(j:AV):List (Nat×AV):=[(1,.ptr 1000 0),(13,(gb .i64 (ao L)).av),(14,vi (ao L).length),(15,j)]
def Jc (L:LC)(j:Nat)(k:AV):List (Nat×AV):=wV L (vi j)++[(20,dI (ah (ao L) j)),(21,vi ((ah (ao L) j).length-1:Nat)),(22,k)]
def Ig (p:Int)(L:LC)(j:Nat):aO:=⟨⟨Jc L j (.int .i64 0),gQ p L,1020⟩,some (fG L ((ah (ao L) j).drop 1)),fun d=>match d with
 |true=>(.exit 2,⟨wV L (vi j),gQ p L,1020⟩)
 |false=>(.ret,⟨[(2,.bool false)],gQ p L,1020⟩)⟩
theorem TP (p:Int)(L:LC)(j:Nat)(hr:cI L.length (ah (ao L) j))(hn:(ah (ao L) j).length≤1000):An 1 Tryz.f33 [0,1,1,0,0,1,1,0,0,1,0,1,1] (Ig p L j):=by
 refine iB c0 aE (fun(k:Nat)=>(⟨Jc L j (vi k),gQ p L,1020⟩:St)) (fun(k:Nat)=>((ah (ao L) j).length-k:Nat)) (fun(d:Bool)=>fun(k:Nat)=>(k≤(ah (ao L) j).length-1∧fG L ((ah (ao L) j).drop (k+1))=fG L ((ah (ao L) j).drop 1)∧fG L ((ah (ao L) j).drop 1)=d:Prop)) ?_ ?_
 ·intro d hd
  exact st (0) (let t1:=ah (ao L) j;[sr (ao L) fun i=>[rI IntKind.i64 ((ao L).getD i [])],rq (↑(ao L).length:Int),rq (↑j:Int),t1.length-1=t1.length-1∧(fun i=>[RV.int IntKind.i64 (t1.getD (i+1) (0:Int))])=fun i=>[RV.int IntKind.i64 (t1.getD (i+1) (0:Int))],rq (↑(t1.length-1):Int),(0:Int)=↑(0:Nat),p=p,lq L]) J4 (by exact⟨bQ _,rfl,hd⟩)
 ·rintro d hd k hI
  obtain⟨ht,hf,hs⟩:=hI
  have ht:k≤(ah (ao L) j).length-1:=ht
  have hf:fG L ((ah (ao L) j).drop (k+1))=fG L ((ah (ao L) j).drop 1):=hf
  have ek:=wk k
  refine(let q1:List Prop→List Prop:=fun l0=>(sr (ao L) fun i=>[rI IntKind.i64 ((ao L).getD i [])])::rq (↑(ao L).length:Int)::rq (↑j:Int)::l0;oe (decide ((↑k:Int)<(↑((ah (ao L) j).length-1):Int))) (fun d1=>let y1:List Prop:=(let v1:=ah (ao L) j;[(0:Int)≤v1.getD (k+1) (0:Int)∧v1.getD (k+1) (0:Int)<↑L.length,(0:Int)≤↑k∧(↑k:Int)<↑(v1.length-1),ty d1]);have u1:ar y1:=⟨?_,?_,d1⟩;oe ((L.getD ((ah (ao L) j).getD (k+1) (0:Int)).toNat Con.zero).sign==-1) (fun d2=>bH d false [true,true] ((p=p)::(lq L)::ty d2::y1) ⟨?_,?_,d2,u1⟩ ?_)
   (fun d2=>aH [true,false] (k+1) (q1 (let v1:=ah (ao L) j;(v1.length-1=v1.length-1∧(fun i=>[RV.int IntKind.i64 (v1.getD (i+1) (0:Int))])=fun i=>[RV.int IntKind.i64 (v1.getD (i+1) (0:Int))])::rq (↑(v1.length-1):Int)::(w6.wrap ((↑k:Int)+1)=↑(k+1))::(p=p)::(lq L)::ty d2::y1)) ⟨?_,?_,?_,?_,?_,?_,?_,?_,d2,u1⟩ ?_ ?_))
   (fun d1=>bH d true [false] (q1 [p=p,lq L,ty d1]) ⟨?_,?_,?_,?_,?_,d1⟩ ?_))
  all_goals((try clear u1);(try clear y1))
  all_goals first|exact JY|exact Kt|exact JS|exact JQ
def TQ (p:Int)(L:LC):aO:=⟨⟨wV L (.int .i64 0),gQ p L,1020⟩,some (eR L (ao L)),fun d=>match d with
 |true=>(.exit 0,⟨[(1,.ptr 1000 0)],gQ p L,1020⟩)
 |false=>(.ret,⟨[(2,.bool false)],gQ p L,1020⟩)⟩
theorem RW (p:Int)(L:LC)(hL:bm L):An 1 Tryz.f33 [0,1,0,1,1] (TQ p L):=by
 refine pI c0 (fun(j:Nat)=>(⟨wV L (vi j),gQ p L,1020⟩:St)) (fun(j:Nat)=>((ao L).length-j:Nat)) (fun(d:Bool)=>fun(j:Nat)=>(j≤(ao L).length∧eR L ((ao L).drop j)=eR L (ao L)∧eR L (ao L)=d:Prop)) (fun(j:Nat)=>([([0,1,1,0,0,1,1,0,0,1,0,1,1],Ig p L j)]:List (List Nat×aO))) ?_ ?_ ?_
 ·rintro d hd j hI
  have hr:cI L.length (ah (ao L) j)∧(ah (ao L) j).length≤1000:=by
   have:=hL.1
   rcases bA j (ao L).length with h|h
   ·have h1:=ux _ (iX h)
    exact⟨h1.2.1,om⟩
   ·have e:ah (ao L) j=[]:=by simp[ah,h]
    rw[e];exact⟨fun x hx=>by simp at hx,si⟩
  exact bX (TP p L j hr.1 hr.2)
 ·intro d hd
  exact st (0) [sr (ao L) fun i=>[rI IntKind.i64 ((ao L).getD i [])],rq (↑(ao L).length:Int),(0:Int)=↑(0:Nat),p=p,lq L] xp (by exact⟨bQ _,rfl,hd⟩)
 ·rintro d hd j hI
  obtain⟨ht,hf,hs⟩:=hI
  have ht:j≤(ao L).length:=ht
  have hf:eR L ((ao L).drop j)=eR L (ao L):=hf
  have hl:=hL.1
  have hc:=uz (L:=L)
  have ek:=wk j
  refine oe (decide ((↑j:Int)<(↑(ao L).length:Int))) (fun d1=>let y1:List Prop:=[(0:Int)≤1∧(1:Int)≤(↑((ao L).getD j []).length:Int),(0:Int)≤↑j∧(↑j:Int)<(↑(ao L).length:Int),ty d1];have u1:ar y1:=⟨?_,?_,d1⟩;oe (fG L (List.drop (1:Nat) (ah (ao L) j))) (fun d2=>aH [true,true] (j+1) (let v1:=(ao L).getD j [];let v2:=ah (ao L) j;let v3:=(↑(ao L).length:Int);(sr (ao L) fun i=>[rI IntKind.i64 ((ao L).getD i [])])::rq v3::(w6.wrap ((↑j:Int)+1)=↑(j+1))::(p=p)::(lq L)::(sr (ao L) fun i=>[rI IntKind.i64 ((ao L).getD i [])])::rq v3::rq (↑j:Int)::(v1.length-Int.toNat (1:Int)=v2.length-1∧(fun i=>(fun j_1=>[RV.int IntKind.i64 (v1.getD j_1 (0:Int))]) (i+Int.toNat (1:Int)))=fun i=>[RV.int IntKind.i64 (v2.getD (i+1) (0:Int))])::((↑(v1.length-Int.toNat (1:Int)):Int)=↑(v2.length-1))::(p=p)::(lq L)::ty d2::y1) ⟨?_,?_,?_,?_,?_,?_,?_,?_,?_,?_,?_,?_,d2,u1⟩ ?_ ?_)
   (fun d2=>bH d false [true,false] (let v1:=(ao L).getD j [];let v2:=ah (ao L) j;(p=p)::(lq L)::(sr (ao L) fun i=>[rI IntKind.i64 ((ao L).getD i [])])::rq (↑(ao L).length:Int)::rq (↑j:Int)::(v1.length-Int.toNat (1:Int)=v2.length-1∧(fun i=>(fun j_1=>[RV.int IntKind.i64 (v1.getD j_1 (0:Int))]) (i+Int.toNat (1:Int)))=fun i=>[RV.int IntKind.i64 (v2.getD (i+1) (0:Int))])::((↑(v1.length-Int.toNat (1:Int)):Int)=↑(v2.length-1))::(p=p)::(lq L)::ty d2::y1) ⟨?_,?_,?_,?_,?_,?_,?_,?_,?_,d2,u1⟩ ?_))
   (fun d1=>bH d true [false] [p=p,lq L,ty d1] ⟨?_,?_,d1⟩ ?_)
  all_goals((try clear u1);(try clear y1))
  all_goals first|exact Kb|exact Kl|exact JR|exact JK
theorem Pa (p:Int)(L:LC)(hL:bm L)(hne:0<L.length)(hf:ci p L=true):ax Tryz.prog [] 33 [.agg [.int .i64 p,bg L]] (.bool (eR L (ao L)&&(ln L).isSome)):=by
 have hl:=hL.1;have k1:ci p (aF L.length fun i=>(L.getD i Con.zero).rvs)=true:=rx
 refine pr (cE CT) Tryz.func33 (bX (RW p L hL)) ?_
 refine(let y1:List Prop:=(let v1:=aF L.length fun i=>(L.getD i Con.zero).rvs;[(lz L)∧bm v1∧(0:Nat)<L.length,aa (!ci p v1) false,(lz L)∧L.length≤1000]);have u1:ar y1:=⟨?_,(dN k1),(?_:(lz L)∧L.length≤1000)⟩;oe (eR L (ao L)) (fun d1=>lr [false,true] (let v1:=aF L.length fun i=>(L.getD i Con.zero).rvs;(gr p v1=(eR L (ao L)&&(ln L).isSome))::((lz L)∧L.length≤1000)::((ao v1).length=(ao L).length∧(fun i=>[rI IntKind.i64 ((ao v1).getD i [])])=fun i=>[rI IntKind.i64 ((ao L).getD i [])])::((↑(ao v1).length:Int)=(↑(ao L).length:Int))::(p=p)::(lq L)::ty d1::y1) ⟨?_,?_,?_,?_,?_,?_,d1,u1⟩)
  (fun d1=>lr [false,false] (let v1:=aF L.length fun i=>(L.getD i Con.zero).rvs;(false=(eR L (ao L)&&(ln L).isSome))::((ao v1).length=(ao L).length∧(fun i=>[rI IntKind.i64 ((ao v1).getD i [])])=fun i=>[rI IntKind.i64 ((ao L).getD i [])])::((↑(ao v1).length:Int)=(↑(ao L).length:Int))::(p=p)::(lq L)::ty d1::y1) ⟨?_,?_,?_,?_,?_,d1,u1⟩))
 all_goals first|(first|exact tz|exact oo|exact⟨fun _ _=>rfl,by rw[cb];exact hL,hne⟩|(rw[d1];rfl)|(rw[d1,oC,cb];unfold gr;rw[hf,oC];done)|(rw[cb];exact⟨rfl,rfl⟩)|(rw[cb];done)|exact(5:Nat))
theorem RX (p:Int)(L:LC)(hn:L.length≤1000)(hf:ci p L=false):ax Tryz.prog [] 33 [.agg [.int .i64 p,bg L]] (.bool false):=by
 have k1:ci p (aF L.length fun i=>(L.getD i Con.zero).rvs)=false:=rx
 refine pr (cE CT) Tryz.func33 aE ?_
 refine lr [true] [false=false,aa (!ci p (aF L.length fun i=>(L.getD i Con.zero).rvs)) true,(lz L)∧L.length≤1000] ⟨?_,(dN k1),(?_:(lz L)∧L.length≤1000)⟩
 all_goals first|exact B4
theorem NI (p:Int)(L:LC)(hn:L.length≤1000):ax Tryz.prog [] 33 [.agg [.int .i64 p,bg L]] (.bool (iQ p L)):=by
 unfold iQ
 cases h:ci p L with
 |false=>exact RX p L hn h
 |true=>
  have:=sK h
  subst this
  exact Pa 2 L (kj h) (rO h).2.1 h
def w3 (L:LC)(j:AV):List (Nat×AV):=[(1,.ptr 1000 0),(17,(gb .i64 (ao L)).av),(18,vi (ao L).length),(19,j)]
def Je (L:LC)(j:Nat)(k:AV):List (Nat×AV):=w3 L (vi j)++[(24,dI (ah (ao L) j)),(25,vi ((ah (ao L) j).length-1:Nat)),(26,k)]
def Ih (p:Int)(L:LC)(j:Nat):aO:=⟨⟨Je L j (.int .i64 0),gQ p L,1020⟩,some (fG L ((ah (ao L) j).drop 1)),fun d=>match d with
 |true=>(.exit 2,⟨w3 L (vi j),gQ p L,1020⟩)
 |false=>(.ret,⟨[(2,.bool false)],gQ p L,1020⟩)⟩
theorem TU (p:Int)(L:LC)(j:Nat)(hr:cI L.length (ah (ao L) j))(hn:(ah (ao L) j).length≤1000):An 1 Tryz.f76 [0,1,1,0,0,1,1,0,0,1,0,1,1,1] (Ih p L j):=by
 refine iB c0 aE (fun(k:Nat)=>(⟨Je L j (vi k),gQ p L,1020⟩:St)) (fun(k:Nat)=>((ah (ao L) j).length-k:Nat)) (fun(d:Bool)=>fun(k:Nat)=>(k≤(ah (ao L) j).length-1∧fG L ((ah (ao L) j).drop (k+1))=fG L ((ah (ao L) j).drop 1)∧fG L ((ah (ao L) j).drop 1)=d:Prop)) ?_ ?_
 ·intro d hd
  exact st (0) (let t1:=ah (ao L) j;[sr (ao L) fun i=>[rI IntKind.i64 ((ao L).getD i [])],rq (↑(ao L).length:Int),rq (↑j:Int),t1.length-1=t1.length-1∧(fun i=>[RV.int IntKind.i64 (t1.getD (i+1) (0:Int))])=fun i=>[RV.int IntKind.i64 (t1.getD (i+1) (0:Int))],rq (↑(t1.length-1):Int),(0:Int)=↑(0:Nat),p=p,lq L]) J4 (by exact⟨bQ _,rfl,hd⟩)
 ·rintro d hd k hI
  obtain⟨ht,hf,hs⟩:=hI
  have ht:k≤(ah (ao L) j).length-1:=ht
  have hf:fG L ((ah (ao L) j).drop (k+1))=fG L ((ah (ao L) j).drop 1):=hf
  have ek:=wk k
  refine(let q1:List Prop→List Prop:=fun l0=>(sr (ao L) fun i=>[rI IntKind.i64 ((ao L).getD i [])])::rq (↑(ao L).length:Int)::rq (↑j:Int)::l0;oe (decide ((↑k:Int)<(↑((ah (ao L) j).length-1):Int))) (fun d1=>let y1:List Prop:=(let v1:=ah (ao L) j;[(0:Int)≤v1.getD (k+1) (0:Int)∧v1.getD (k+1) (0:Int)<↑L.length,(0:Int)≤↑k∧(↑k:Int)<↑(v1.length-1),ty d1]);have u1:ar y1:=⟨?_,?_,d1⟩;oe ((L.getD ((ah (ao L) j).getD (k+1) (0:Int)).toNat Con.zero).sign==-1) (fun d2=>bH d false [true,true] ((p=p)::(lq L)::ty d2::y1) ⟨?_,?_,d2,u1⟩ ?_)
   (fun d2=>aH [true,false] (k+1) (q1 (let v1:=ah (ao L) j;(v1.length-1=v1.length-1∧(fun i=>[RV.int IntKind.i64 (v1.getD (i+1) (0:Int))])=fun i=>[RV.int IntKind.i64 (v1.getD (i+1) (0:Int))])::rq (↑(v1.length-1):Int)::(w6.wrap ((↑k:Int)+1)=↑(k+1))::(p=p)::(lq L)::ty d2::y1)) ⟨?_,?_,?_,?_,?_,?_,?_,?_,d2,u1⟩ ?_ ?_))
   (fun d1=>bH d true [false] (q1 [p=p,lq L,ty d1]) ⟨?_,?_,?_,?_,?_,d1⟩ ?_))
  all_goals((try clear u1);(try clear y1))
  all_goals first|exact JY|exact Kt|exact JS|exact JQ
def TV (p:Int)(L:LC):aO:=⟨⟨w3 L (.int .i64 0),gQ p L,1020⟩,some (eR L (ao L)),fun d=>match d with
 |true=>(.exit 0,⟨[(1,.ptr 1000 0)],gQ p L,1020⟩)
 |false=>(.ret,⟨[(2,.bool false)],gQ p L,1020⟩)⟩
theorem R5 (p:Int)(L:LC)(hL:bm L):An 1 Tryz.f76 [0,1,0,1,1,1] (TV p L):=by
 refine pI c0 (fun(j:Nat)=>(⟨w3 L (vi j),gQ p L,1020⟩:St)) (fun(j:Nat)=>((ao L).length-j:Nat)) (fun(d:Bool)=>fun(j:Nat)=>(j≤(ao L).length∧eR L ((ao L).drop j)=eR L (ao L)∧eR L (ao L)=d:Prop)) (fun(j:Nat)=>([([0,1,1,0,0,1,1,0,0,1,0,1,1,1],Ih p L j)]:List (List Nat×aO))) ?_ ?_ ?_
 ·rintro d hd j hI
  have hr:cI L.length (ah (ao L) j)∧(ah (ao L) j).length≤1000:=by
   have:=hL.1
   rcases bA j (ao L).length with h|h
   ·have h1:=ux _ (iX h)
    exact⟨h1.2.1,om⟩
   ·have e:ah (ao L) j=[]:=by simp[ah,h]
    rw[e];exact⟨fun x hx=>by simp at hx,si⟩
  exact bX (TU p L j hr.1 hr.2)
 ·intro d hd
  exact st (0) [sr (ao L) fun i=>[rI IntKind.i64 ((ao L).getD i [])],rq (↑(ao L).length:Int),(0:Int)=↑(0:Nat),p=p,lq L] xp (by exact⟨bQ _,rfl,hd⟩)
 ·rintro d hd j hI
  obtain⟨ht,hf,hs⟩:=hI
  have ht:j≤(ao L).length:=ht
  have hf:eR L ((ao L).drop j)=eR L (ao L):=hf
  have hl:=hL.1
  have hc:=uz (L:=L)
  have ek:=wk j
  refine oe (decide ((↑j:Int)<(↑(ao L).length:Int))) (fun d1=>let y1:List Prop:=[(0:Int)≤1∧(1:Int)≤(↑((ao L).getD j []).length:Int),(0:Int)≤↑j∧(↑j:Int)<(↑(ao L).length:Int),ty d1];have u1:ar y1:=⟨?_,?_,d1⟩;oe (fG L (List.drop (1:Nat) (ah (ao L) j))) (fun d2=>aH [true,true] (j+1) (let v1:=(ao L).getD j [];let v2:=ah (ao L) j;let v3:=(↑(ao L).length:Int);(sr (ao L) fun i=>[rI IntKind.i64 ((ao L).getD i [])])::rq v3::(w6.wrap ((↑j:Int)+1)=↑(j+1))::(p=p)::(lq L)::(sr (ao L) fun i=>[rI IntKind.i64 ((ao L).getD i [])])::rq v3::rq (↑j:Int)::(v1.length-Int.toNat (1:Int)=v2.length-1∧(fun i=>(fun j_1=>[RV.int IntKind.i64 (v1.getD j_1 (0:Int))]) (i+Int.toNat (1:Int)))=fun i=>[RV.int IntKind.i64 (v2.getD (i+1) (0:Int))])::((↑(v1.length-Int.toNat (1:Int)):Int)=↑(v2.length-1))::(p=p)::(lq L)::ty d2::y1) ⟨?_,?_,?_,?_,?_,?_,?_,?_,?_,?_,?_,?_,d2,u1⟩ ?_ ?_)
   (fun d2=>bH d false [true,false] (let v1:=(ao L).getD j [];let v2:=ah (ao L) j;(p=p)::(lq L)::(sr (ao L) fun i=>[rI IntKind.i64 ((ao L).getD i [])])::rq (↑(ao L).length:Int)::rq (↑j:Int)::(v1.length-Int.toNat (1:Int)=v2.length-1∧(fun i=>(fun j_1=>[RV.int IntKind.i64 (v1.getD j_1 (0:Int))]) (i+Int.toNat (1:Int)))=fun i=>[RV.int IntKind.i64 (v2.getD (i+1) (0:Int))])::((↑(v1.length-Int.toNat (1:Int)):Int)=↑(v2.length-1))::(p=p)::(lq L)::ty d2::y1) ⟨?_,?_,?_,?_,?_,?_,?_,?_,?_,d2,u1⟩ ?_))
   (fun d1=>bH d true [false] [p=p,lq L,ty d1] ⟨?_,?_,d1⟩ ?_)
  all_goals((try clear u1);(try clear y1))
  all_goals first|exact Kb|exact Kl|exact JR|exact JK
def mY (p:Int)(L:LC):Bool:=ci p L&&eR L (ao L)
def FU:List cq:=[
 ⟨71,[],fun A=>match A with
  |[.agg [.int .i64 p,.sl n 5 row]]=>some (.bool (ci p (aF n row)),[(∀i,i<n→row i=(Con.ofR (row i)).rvs)∧n≤1000])
  |_=>none⟩,
 ⟨28,[],fun A=>match A with
  |[.agg [.int .i64 p,.sl n 5 row]]=>some (.tup [gb .i64 (ao (aF n row)),.bool true],[(∀i,i<n→row i=(Con.ofR (row i)).rvs)∧bm (aF n row)∧0<n∧en p (aF n row)=true])
  |_=>none⟩]
theorem uC:∀e∈FU,cJ Tryz.prog e:=by
 intro e he
 simp only[FU,bC,cU,cY]at he
 rcases he with rfl|rfl
 all_goals
  intro A R ms h hm
  simp only at h
  split at h
  all_goals first|exact kL|cases h
 ·obtain⟨h1,h2⟩:=aA hm
  exact ax.imp (uy _ _ j9) (.cons (.agg (.cons .same (.cons (.con h1) .nil))) .nil)
 ·obtain⟨h1,h2,h3,h4⟩:=aA hm
  exact ax.imp (NX _ _ h2 t7 h4) (.cons (.agg (.cons .same (.cons (.con h1) .nil))) .nil)
theorem R6 (p:Int)(L:LC)(hL:bm L)(hne:0<L.length)(hf:ci p L=true):ax Tryz.prog [] 76 [.agg [.int .i64 p,bg L]] (.bool (eR L (ao L))):=by
 have hl:=hL.1;have k1:ci p (aF L.length fun i=>(L.getD i Con.zero).rvs)=true:=rx
 have k2:en p L=true:=BQ
 refine pr (cE uC) Tryz.func76 (bX (R5 p L hL)) ?_
 refine(let y1:List Prop:=(let v1:=aF L.length fun i=>(L.getD i Con.zero).rvs;[(lz L)∧bm v1∧(0:Nat)<L.length∧en p v1=true,aa (!ci p v1) false,(lz L)∧L.length≤1000]);have u1:ar y1:=⟨?_,(dN k1),(?_:(lz L)∧L.length≤1000)⟩;oe (eR L (ao L)) (fun d1=>lr [false,true] (let v1:=aF L.length fun i=>(L.getD i Con.zero).rvs;(true=eR L (ao L))::((ao v1).length=(ao L).length∧(fun i=>[rI IntKind.i64 ((ao v1).getD i [])])=fun i=>[rI IntKind.i64 ((ao L).getD i [])])::((↑(ao v1).length:Int)=(↑(ao L).length:Int))::(p=p)::(lq L)::ty d1::y1) ⟨?_,?_,?_,?_,?_,d1,u1⟩)
  (fun d1=>lr [false,false] (let v1:=aF L.length fun i=>(L.getD i Con.zero).rvs;(false=eR L (ao L))::((ao v1).length=(ao L).length∧(fun i=>[rI IntKind.i64 ((ao v1).getD i [])])=fun i=>[rI IntKind.i64 ((ao L).getD i [])])::((↑(ao v1).length:Int)=(↑(ao L).length:Int))::(p=p)::(lq L)::ty d1::y1) ⟨?_,?_,?_,?_,?_,d1,u1⟩))
 all_goals first|(first|exact tr|exact d1.symm|exact⟨rfl,rfl⟩|exact oo|exact⟨fun _ _=>rfl,by rw[cb];exact hL,hne,by rw[cb];exact k2⟩|(rw[d1];rfl)|(rw[cb];exact⟨rfl,rfl⟩)|(rw[cb];done))
theorem TW (p:Int)(L:LC)(hn:L.length≤1000)(hf:ci p L=false):ax Tryz.prog [] 76 [.agg [.int .i64 p,bg L]] (.bool false):=by
 have k1:ci p (aF L.length fun i=>(L.getD i Con.zero).rvs)=false:=rx
 refine pr (cE uC) Tryz.func76 aE ?_
 refine lr [true] [false=false,aa (!ci p (aF L.length fun i=>(L.getD i Con.zero).rvs)) true,(lz L)∧L.length≤1000] ⟨?_,(dN k1),(?_:(lz L)∧L.length≤1000)⟩
 all_goals first|exact B4
theorem LK (p:Int)(L:LC)(hn:L.length≤1000):ax Tryz.prog [] 76 [.agg [.int .i64 p,bg L]] (.bool (mY p L)):=by
 unfold mY
 cases h:ci p L with
 |false=>exact TW p L hn h
 |true=>
  have:=sK h
  subst this
  exact R6 2 L (kj h) (rO h).2.1 h
def ry (c:Con)(s last:Int):Bool:=decide (last<c.exp∧c.exp≤60∧1≤c.dim∧c.dim≤8-s∧(c.sign=1∨c.sign=-1)∧c.odd=false∧c.oddity=0)
def kM:LC→Int→Int→Bool
 |[],_,_=>true
 |c::l,s,last=>ry c s last&&kM l (s+c.dim) c.exp
def dE (p:Int)(L:LC):Bool:=decide (2<p∧p≤9973)&&Nat.beq (ld p.toNat) p.toNat&&!L.isEmpty&&kM L 0 (-1)
theorem Gp:∀{L:LC}{s last:Int},0≤s→s≤8→-1≤last→kM L s last=true→(∀c∈L,lC c)∧(L.length:Int)≤8-s
 |[],s,last,h0,h1,h2,h=>⟨fun c hc=>by simp at hc,by simp;omega⟩
 |c::L,s,last,h0,h1,h2,h=>by
  simp only[kM,bj]at h
  obtain⟨hc,h⟩:=h
  obtain⟨a1,a2,a3,a4,a5,a6,a7⟩:=oT hc
  obtain⟨i1,i2⟩:=Gp (L:=L) (s:=s+c.dim) (last:=c.exp) om om om h
  refine⟨fun x hx=>?_,by simp only[dg];omega⟩
  rcases bC.1 hx with e|hx
  ·subst e;exact⟨⟨om,om⟩,⟨om,om⟩,a5,om⟩
  ·exact i1 x hx
theorem zV {p:Int}{L:LC}(h:dE p L=true):bm L:=by
 unfold dE at h
 simp only[bj]at h
 obtain⟨h1,h2⟩:=Gp om om om h.2
 exact⟨om,h1⟩
theorem AK {p:Int}{L:LC}(h:dE p L=true):2<p∧p≤9973∧p.toNat%2≠0:=by
 unfold dE at h
 simp only[bj,dT]at h
 obtain⟨⟨⟨h1,h2⟩,h3⟩,h4⟩:=h
 refine⟨h1.1,h1.2,fun e=>?_⟩
 have:=co h2
 rw[wE om om e]at this
 omega
theorem Fe {L:LC}{k:Nat}(hk:k<L.length)(s l:Int):kM (L.drop k) s l=(ry (at_ L k) s l&&kM (L.drop (k+1)) (s+(at_ L k).dim) (at_ L k).exp):=by
 rw[sb hk];rfl
noncomputable def U6 (L:LC):aO:=⟨⟨[(3,.int .i64 0),(4,.int .i64 (-1)),(28,(bg L).av),(29,vi L.length),(30,.int .i64 0)],[],1001⟩,some (kM L 0 (-1)),fun d=>match d with
 |true=>(.exit 0,⟨[],[],1001⟩)
 |false=>(.ret,⟨[(2,.bool false)],[],1001⟩)⟩
theorem P6 (L:LC)(hn:L.length≤1000):An 1 Tryz.f77 [0,1,0,1,1,1] (U6 L):=by
 refine iB c0 aE (u3 fun(k:Nat)(s e:Int)=>(⟨[(3,vi s),(4,vi e),(28,(bg L).av),(29,vi L.length),(30,vi k)],[],1001⟩:St)) (u3 fun(k:Nat)(s e:Int)=>(L.length-k:Nat)) (fun(d:Bool)=>u3 fun(k:Nat)(s e:Int)=>(k≤L.length∧(0≤s∧s≤8)∧kM (L.drop k) s e=d:Prop)) ?_ ?_
 ·intro d hd
  exact st (0,0,-1) [rq (0:Int),rq (-1:Int),lq L,rq (↑L.length:Int),(0:Int)=↑(0:Nat)] J3 (by exact⟨bQ _,de,hd⟩)
 ·rintro d hd ⟨k,s,e⟩ hI
  obtain⟨hk,hs,hd'⟩:=hI
  have hs:0≤s∧s≤8:=hs
  have hd':kM (L.drop k) s e=_:=hd'
  have hk:k≤L.length:=hk
  have ek:=wk k
  have e8:w6.wrap (8-s)=8-s:=wo
  refine(let q1:List Prop→List Prop:=fun l0=>(w6.wrap (s+(L.getD k z0c).dim)=s+(at_ L k).dim)::((L.getD k z0c).exp=(at_ L k).exp)::(lq L)::rq (↑L.length:Int)::(w6.wrap ((↑k:Int)+1)=↑(k+1))::l0;oe (decide ((↑k:Int)<↑L.length)) (fun d1=>let y1:List Prop:=[(0:Int)≤↑k∧(↑k:Int)<↑L.length,ty d1];have u1:ar y1:=⟨?_,d1⟩;oe (decide ((L.getD k z0c).exp≤e)) (fun d2=>bH d false [true,true] (ty d2::y1) ⟨d2,u1⟩ ?_)
   (fun d2=>let y2:List Prop:=ty d2::y1;have u2:ar y2:=⟨d2,u1⟩;oe (decide ((L.getD k z0c).exp>60)) (fun d3=>bH d false (tp 121) (ty d3::y2) ⟨d3,u2⟩ ?_)
   (fun d3=>let y3:List Prop:=ty d3::y2;have u3:ar y3:=⟨d3,u2⟩;oe (decide ((L.getD k z0c).dim<1)) (fun d4=>bH d false (tp 1221) (ty d4::y3) ⟨d4,u3⟩ ?_)
   (fun d4=>let y4:List Prop:=ty d4::y3;have u4:ar y4:=⟨d4,u3⟩;oe (decide ((L.getD k z0c).dim>w6.wrap ((8:Int)-s))) (fun d5=>bH d false (tp 12221) (ty d5::y4) ⟨d5,u4⟩ ?_)
   (fun d5=>oe ((L.getD k z0c).sign==1) (fun d6=>oe ((L.getD k z0c).odd) (fun d7=>bH d false (tp 1222221) (ty d7::ty (dN d6)::ty d5::y4) ⟨d7,(dN d6),d5,u4⟩ ?_)
   (fun d7=>oe ((L.getD k z0c).oddity==0) (fun d8=>aH (tp 12222222) (k+1,s+(at_ L k).dim,(at_ L k).exp) (q1 (ty (dN d8)::ty d7::ty (dN d6)::ty d5::y4)) ⟨?_,?_,?_,?_,?_,(dN d8),d7,(dN d6),d5,u4⟩ ?_ ?_)
   (fun d8=>bH d false (tp 12222221) (ty (dN d8)::ty d7::ty (dN d6)::ty d5::y4) ⟨(dN d8),d7,(dN d6),d5,u4⟩ ?_)))
   (fun d6=>let y5:List Prop:=ty (dN d6)::ty d5::y4;have u5:ar y5:=⟨(dN d6),d5,u4⟩;oe ((L.getD k z0c).sign==-1) (fun d7=>oe ((L.getD k z0c).odd) (fun d8=>bH d false (tp 12222121) (ty d8::ty (dN d7)::y5) ⟨d8,(dN d7),u5⟩ ?_)
   (fun d8=>oe ((L.getD k z0c).oddity==0) (fun d9=>aH (tp 122221222) (k+1,s+(at_ L k).dim,(at_ L k).exp) (q1 (ty (dN d9)::ty d8::ty (dN d7)::y5)) ⟨?_,?_,?_,?_,?_,(dN d9),d8,(dN d7),u5⟩ ?_ ?_)
   (fun d9=>bH d false (tp 122221221) (ty (dN d9)::ty d8::ty (dN d7)::y5) ⟨(dN d9),d8,(dN d7),u5⟩ ?_)))
   (fun d7=>bH d false (tp 1222211) (ty (dN d7)::y5) ⟨(dN d7),u5⟩ ?_)))))))
   (fun d1=>bH d true [false] [ty d1] d1 ?_))
  all_goals((try clear u5);(try clear y5);(try clear u4);(try clear y4);(try clear u3);(try clear y3);(try clear u2);(try clear y2);(try clear u1);(try clear y1))
  all_goals first|exact tZ|(refine cL.mk ?_;(simp only[e8,cg,dT,dF,iV,dx,cp]at*;rw[Fe om,show ry (at_ L k) s e=true from bJ ⟨by simp only[at_];omega,by simp only[at_];omega,by simp only[at_];omega,by simp only[at_];omega,by simp only[at_];first|exact .inl aS|exact .inr aS,aS,aS⟩]at hd';exact⟨om,by simp only[at_];omega,hd'⟩))|(refine gu.mk ?_;cases d<;>first|rfl|(exfalso;(simp only[e8,cg,dT,dF,iV,dx,cp]at*;first|(rw[gT om]at hd';cases hd';done)|(rw[Fe om,show ry (at_ L k) s e=false from bI (by simp only[at_];rintro⟨a1,a2,a3,a4,a5,a6,a7⟩;first|omega|(simp_all;done))]at hd';cases hd';done))))|exact Kg
theorem U7 {p:Int}{L:LC}{b:Bool}(h1:¬p≤2)(h2:¬p>9973)(h3:(((ld p.toNat:Nat):Int)==p)=true)(h4:((L.length:Int)==0)=false)(h5:kM L 0 (-1)=b):b=dE p L:=by
 unfold dE
 have e3:=eq_of_beq h3
 rw[show decide (2<p∧p≤9973)=true from bJ ⟨om,om⟩,show Nat.beq (ld p.toNat) p.toNat=true by rw[show ld p.toNat=p.toNat by omega];exact mu _,show L.isEmpty=false by(cases L with|nil=>cases h4|cons a l=>rfl),h5]
 rfl
theorem U8 {p:Int}{L:LC}(h:p≤2∨p>9973):false=dE p L:=by
 unfold dE
 rw[show decide (2<p∧p≤9973)=false from bI om]
 rfl
theorem U9 {p:Int}{L:LC}(h1:¬p≤2)(h3:(((ld p.toNat:Nat):Int)==p)=false):false=dE p L:=by
 unfold dE
 cases hb:Nat.beq (ld p.toNat) p.toNat with
 |true=>have:=co hb;rw[this,show((p.toNat:Nat):Int)=p by omega,ey]at h3;cases h3
 |false=>simp
theorem Va {p:Int}{L:LC}(h4:((L.length:Int)==0)=true):false=dE p L:=by
 have:=eq_of_beq h4
 have:L=[]:=kP om
 subst this
 unfold dE
 simp
theorem Ff (p:Int)(L:LC)(hn:L.length≤1000):ax Tryz.prog [aL] 77 [.agg [.int .i64 p,bg L]] (.bool (dE p L)):=by
 refine pr (cE yx) Tryz.func77 (bX (P6 L hn)) ?_
 refine oe (decide (p≤2)) (fun d1=>lr [true] [false=dE p L,ty d1] ?_)
  (fun d1=>oe (decide (p>9973)) (fun d2=>lr [false,true] [false=dE p L,ty d2,ty d1] ?_)
  (fun d2=>let y1:List Prop:=[ty d2,ty d1];have u1:ar y1:=⟨d2,d1⟩;oe (decide (p≥2)) (fun d3=>oe (decide (p≤2147483647)) (fun d4=>let y2:List Prop:=((2:Int)≤p∧p≤2147483647)::ty d4::ty d3::y1;have u2:ar y2:=⟨?_,d4,d3,u1⟩;oe ((↑(ld p.toNat):Int)==p) (fun d5=>oe ((↑L.length:Int)==0) (fun d6=>lr (tp 221121) ((false=dE p L)::ty d6::ty (dN d5)::y2) ?_)
  (fun d6=>oe (kM L (0:Int) (-1:Int)) (fun d7=>lr (tp 2211221) ((true=dE p L)::(lq L)::rq (↑L.length:Int)::ty d7::ty d6::ty (dN d5)::y2) ?_)
  (fun d7=>lr (tp 2211222) ((false=dE p L)::(lq L)::rq (↑L.length:Int)::ty d7::ty d6::ty (dN d5)::y2) ?_)))
  (fun d5=>lr (tp 22111) ((false=dE p L)::ty (dN d5)::y2) ?_))
  (fun d4=>lr (tp 2212) ((false=dE p L)::ty d4::ty d3::y1) ?_))
  (fun d3=>lr (tp 222) ((false=dE p L)::ty d3::y1) ?_)))
 all_goals with_reducible repeat' first|exact dA|refine bx ?_ ?_|refine bz ?_
 all_goals((try clear u2);(try clear y2);(try clear u1);(try clear y1))
 all_goals first|(first|exact tz|(simp only[dT,dF]at*;first|exact⟨om,om⟩|exact U8 om|exact U9 om d5|exact Va d6|exact U7 om om d5 d6 d7))
def gO (f:Nat→Int):Nat→Int
 |0=>0
 |n+1=>gO f n+f n
def gB (c:Con):Int:=c.oddity+(if c.exp%2=1∧c.sign=-1 then 4 else 0)
def lm (L:List Con):Int:=gO (fun k=>gB (at_ L k)) L.length%8
def bO (v:Bool)(L:LC):Int:=bif v then lm L else 0
theorem Gu {L:LC}(hL:bm L)(k:Nat):(0≤(at_ L k).exp∧(at_ L k).exp≤1000)∧(0≤(at_ L k).oddity∧(at_ L k).oddity≤7):=by
 rcases bA k L.length with h|h
 ·exact⟨(hL.at h).1,(hL.at h).2.2.2⟩
 ·have e:at_ L k=z0c:=by simp[at_,ev,jD h]
  rw[e];decide
theorem SP {L:LC}(hL:bm L)(k:Nat):0≤gB (at_ L k)∧gB (at_ L k)≤11:=by
 have:=(Gu hL k).2
 unfold gB
 split<;>omega
theorem zZ {L:LC}(hL:bm L):∀{k:Nat},k≤L.length→0≤gO (fun j=>gB (at_ L j)) k∧gO (fun j=>gB (at_ L j)) k≤11*k
 |0,_=>by simp[gO]
 |k+1,h=>by
  have ih:=zZ hL (k:=k) om
  have:=SP hL k
  simp only[gO]
  omega
theorem SQ {c:Con}(h1:c.exp%2=1)(h2:c.sign=-1):gB c=c.oddity+4:=by unfold gB;rw[if_pos ⟨h1,h2⟩]
theorem SR {c:Con}(h:¬(c.exp%2=1∧c.sign=-1)):gB c=c.oddity:=by unfold gB;rw[if_neg h];omega
noncomputable def Vq (L:LC):aO:=⟨⟨[(4,.int .i64 0),(16,(bg L).av),(17,vi L.length),(18,.int .i64 0)],[],1030⟩,none,fun _=>(.exit 0,⟨[(4,vi (gO (fun j=>gB (at_ L j)) L.length))],[],1030⟩)⟩
noncomputable def Gv:List cq:=[
 ⟨73,[],fun A=>match A with
  |[.agg [.int .i64 p,.sl n 5 row]]=>some (.bool (fL p (aF n row)),[(∀i,i<n→row i=(Con.ofR (row i)).rvs)∧n≤1000])
  |_=>none⟩,
 ⟨71,[],fun A=>match A with
  |[.agg [.int .i64 p,.sl n 5 row]]=>some (.bool (ci p (aF n row)),[(∀i,i<n→row i=(Con.ofR (row i)).rvs)∧n≤1000])
  |_=>none⟩]
theorem Dq:∀e∈Gv,cJ Tryz.prog e:=by
 intro e he
 simp only[Gv,bC,cU,cY]at he
 rcases he with rfl|rfl
 all_goals
  intro A R ms h hm
  simp only at h
  split at h
  all_goals first|exact kL|cases h
 ·obtain⟨h1,h2⟩:=aA hm
  exact ax.imp (xY _ _ j9) (.cons (.agg (.cons .same (.cons (.con h1) .nil))) .nil)
 ·obtain⟨h1,h2⟩:=aA hm
  exact ax.imp (uy _ _ j9) (.cons (.agg (.cons .same (.cons (.con h1) .nil))) .nil)
theorem OF (L:LC)(hL:bm L):An 1 Tryz.f43 [0,1,0,1,1,1] (Vq L):=by
 refine fj c0 aE (u2 fun(k:Nat)(n:Int)=>(⟨[(4,vi n),(16,(bg L).av),(17,vi L.length),(18,vi k)],[],1030⟩:St)) (u2 fun(k:Nat)(n:Int)=>(L.length-k:Nat)) (u2 fun(k:Nat)(n:Int)=>(k≤L.length∧n=gO (fun j=>gB (at_ L j)) k:Prop)) ?_ ?_
 ·exact st (0,0) [rq (0:Int),lq L,rq (↑L.length:Int),(0:Int)=↑(0:Nat)] (by refine⟨?_,?_,?_,(?_:(0:Int)=↑(0:Nat))⟩<;>(first|rfl|exact⟨rfl,rfl⟩|assumption|omega|simp_all)) (by exact⟨bQ _,rfl⟩)
 ·rintro ⟨k,n⟩ hI
  obtain⟨hk,hs⟩:=hI
  have hk:k≤L.length:=hk
  have hs:n=gO (fun j=>gB (at_ L j)) k:=hs
  have hl:=hL.1
  have ek:=wk k
  have hb:=zZ hL hk
  have hc:=Gu hL k
  have e1:w6.wrap (n+(L.getD k z0c).oddity)=n+(L.getD k z0c).oddity:=by simp only[at_]at hc;rw[hs];exact wo
  refine(let q1:List Prop→List Prop:=fun l0=>(w6.wrap (n+(L.getD k z0c).oddity)=n+gB (at_ L k))::(lq L)::rq (↑L.length:Int)::(w6.wrap ((↑k:Int)+1)=↑(k+1))::l0;oe (decide ((↑k:Int)<↑L.length)) (fun d1=>let y1:List Prop:=[(2:Int)≠(0:Int),(0:Int)≤↑k∧(↑k:Int)<↑L.length,ty d1];have u1:ar y1:=⟨?_,?_,d1⟩;oe ((L.getD k z0c).exp.tmod (2:Int)==1) (fun d2=>oe ((L.getD k z0c).sign==-1) (fun d3=>aH (tp 111) (k+1,n+gB (at_ L k)) ((w6.wrap (w6.wrap (n+(L.getD k z0c).oddity)+4)=n+gB (at_ L k))::(lq L)::rq (↑L.length:Int)::(w6.wrap ((↑k:Int)+1)=↑(k+1))::ty d3::ty d2::y1) ⟨?_,?_,?_,?_,d3,d2,u1⟩ ?_ ?_)
   (fun d3=>aH (tp 112) (k+1,n+gB (at_ L k)) (q1 (ty d3::ty d2::y1)) ⟨?_,?_,?_,?_,d3,d2,u1⟩ ?_ ?_))
   (fun d2=>aH [true,false] (k+1,n+gB (at_ L k)) (q1 (ty d2::y1)) ⟨?_,?_,?_,?_,d2,u1⟩ ?_ ?_))
   (fun d1=>b9 [false] [n=gO (fun j=>gB (at_ L j)) L.length,ty d1] ⟨?_,d1⟩))
  all_goals((try clear u1);(try clear y1))
  all_goals first|exact tZ|(refine cL.mk ?_;(simp only[dT]at*;exact⟨om,by rw[hs];rfl⟩))|exact fu|(first|exact tz|(exact(by decide:(2:Int)≠0))|((try simp only[at_]at hc)<;>(try simp only[ek,at_,cg,dT,dF,dx,cp,ne_eq]at*)<;>first|omega|(rw[e1,wo];rw[SQ (by rw[←iE om];assumption) aS];omega)|(rw[e1];rw[SR (by rw[←iE om];first|(exact fun h=>absurd h.1 aS)|(exact fun h=>absurd h.2 aS))])|(have e:k=L.length:=om;subst e;rw[hs];done)))
theorem OG (p:Int)(L:LC)(hL:bm L)(hv:en p L=true):ax Tryz.prog [] 43 [.agg [.int .i64 p,bg L]] (.tup [.int .i64 (lm L),.bool true]):=by
 have hl:=hL.1;have hs:=zZ hL (bp L.length)
 refine pr (cE Dq) Tryz.func43 (bX (OF L hL)) ?_
 refine(let q1:List Prop→List Prop:=fun l0=>((gO (fun j=>gB (at_ L j)) L.length).tmod (8:Int)=lm L)::(true=true)::((8:Int)≠(0:Int))::(lq L)::rq (↑L.length:Int)::l0;let y1:List Prop:=[(lz L)∧L.length≤1000];have u1:ar y1:=(?_:(lz L)∧L.length≤1000);oe (fL p (aF L.length fun i=>(L.getD i z0c).rvs)) (fun d1=>lr [false] (q1 (ty (dN d1)::y1)) ⟨?_,?_,?_,?_,?_,(dN d1),u1⟩)
  (fun d1=>oe (ci p (aF L.length fun i=>(L.getD i z0c).rvs)) (fun d2=>lr [true,false] (q1 (ty (dN d2)::((lz L)∧L.length≤1000)::ty (dN d1)::y1)) ⟨?_,?_,?_,?_,?_,(dN d2),?_,(dN d1),u1⟩)
  (fun d2=>a8.no ?_)))
 all_goals first|exact Kk|(first|exact tz|exact oo|(exact(by decide:(8:Int)≠0))|(exact iE hs.1))
theorem Qk (p:Int)(L:LC)(hl:L.length≤1000)(hv:fL p L=false)(hv2:ci p L=false):ax Tryz.prog [] 43 [.agg [.int .i64 p,bg L]] (.tup [.int .i64 0,.bool false]):=by
 have k1:fL p (aF L.length fun i=>(L.getD i z0c).rvs)=false:=BT;have k2:ci p (aF L.length fun i=>(L.getD i z0c).rvs)=false:=(by rw[cb];exact hv2)
 refine pr (cE Dq) Tryz.func43 aE ?_
 refine lr [true,true] (let v1:=aF L.length fun i=>(L.getD i z0c).rvs;[rq (0:Int),false=false,aa (!ci p v1) true,(lz L)∧L.length≤1000,aa (!fL p v1) true,(lz L)∧L.length≤1000]) ⟨?_,?_,(dN k2),?_,(dN k1),(?_:(lz L)∧L.length≤1000)⟩
 all_goals first|(first|exact tz|exact oo)
theorem M9 (p:Int)(L:LC)(hn:L.length≤1000):ax Tryz.prog [] 43 [.agg [.int .i64 p,bg L]] (.tup [.int .i64 (bO (en p L) L),.bool (en p L)]):=by
 cases h:en p L with
 |true=>exact OG p L (R0 h) h
 |false=>
  unfold en at h
  simp only[Bool.or_eq_false_iff]at h
  exact Qk p L hn h.1 h.2
theorem Sb {p:Int}{L:List Con}(h:mY p L=true):bm L:=by
 unfold mY at h
 simp only[bj]at h
 have:=sK h.1
 subst this
 exact kj h.1
def ji (L:List Con)(k:Nat):Int:=gO (fun k=>(at_ L k).dim) k
def jj (L:List Con)(k:Nat):Int:=gO (fun k=>(at_ L k).dim*(at_ L k).exp) k
def ly (L:List Con):Int:=ji L L.length
def lA (L:List Con):Int:=jj L L.length
theorem Av {L:List Con}(h:bm L):∀k,k≤L.length→0≤ji L k∧ji L k≤1000*k
 |0,_=>by simp[ji,gO]
 |k+1,hk=>by
  obtain⟨h1,h2⟩:=Av h k om
  have:=(h.at (k:=k) om).2.1
  show 0≤ji L k+(at_ L k).dim∧ji L k+(at_ L k).dim≤_
  omega
theorem F1 {a b:Int}(h1:1≤a∧a≤1000)(h2:0≤b∧b≤1000):0≤a*b∧a*b≤1000000:=by
 refine⟨Int.mul_nonneg om h2.1,?_⟩
 have:=Int.mul_le_mul h1.2 h2.2 h2.1 om
 omega
theorem Aw {L:List Con}(h:bm L):∀k,k≤L.length→0≤jj L k∧jj L k≤1000000*k
 |0,_=>by simp[jj,gO]
 |k+1,hk=>by
  obtain⟨h1,h2⟩:=Aw h k om
  have ha:=h.at (k:=k) om
  have:=F1 ha.2.1 ha.1
  show 0≤jj L k+(at_ L k).dim*(at_ L k).exp∧jj L k+(at_ L k).dim*(at_ L k).exp≤_
  omega
def fK (l:QfSy.Loc):Bool:=bif decide (l.prime=2)then mY 2 l.list else dE l.prime l.list
def ix (dim det:Int)(q:aN)(l:QfSy.Loc):Bool:=decide (l.prime=q.prime)&&(fK l&&(decide (ly l.list=dim)&&decide (((vv l.prime.toNat det.toNat).1:Int)=lA l.list)))
def gm (dim det:Int):List aN→List QfSy.Loc→Bool
 |[],_=>true
 |_::_,[]=>false
 |q::P,l::L=>ix dim det q l&&gm dim det P L
def cr (g:aG):Bool:=decide (1≤g.dim)&&decide (g.dim≤8)&&decide (1≤g.det)&&decide (g.det≤10000)&&(decide ((ba (2*g.det).toNat).length=g.locs.length)&&gm g.dim g.det (ba (2*g.det).toNat) g.locs)
theorem DW {l:QfSy.Loc}(h:fK l=true):bm l.list:=by
 unfold fK at h
 cases hp:decide (l.prime=2)with
 |true=>rw[hp]at h;exact Sb h
 |false=>rw[hp]at h;exact zV h
theorem EY {l:QfSy.Loc}(h:fK l=true):2≤l.prime∧l.prime≤9973∧(l.prime=2∨l.prime.toNat%2≠0):=by
 unfold fK at h
 cases hp:decide (l.prime=2)with
 |true=>have:=ea hp;omega
 |false=>rw[hp]at h;have:=AK h;omega
theorem CA {dim det:Int}{P:List aN}{L:List QfSy.Loc}{i:Nat}(hi:i<P.length)(hl:P.length=L.length):gm dim det (P.drop i) (L.drop i)=(ix dim det (P.getD i aN.zero) (L.getD i QfSy.Loc.zero)&&gm dim det (P.drop (i+1)) (L.drop (i+1))):=by
 rw[pL hi,pL (by omega:i<L.length)]
 simp[gm,ev,hi,show i<L.length by omega]
theorem MD {dim det:Int}{P:List aN}{L:List QfSy.Loc}{i:Nat}(hi:P.length≤i):gm dim det (P.drop i) (L.drop i)=true:=by
 rw[gT hi];rfl
def GO:List cq:=[
 ⟨9,[aL],fun A=>match A with
  |[.int .i64 n]=>some (.tup [dU .pow (ba n.toNat),.int .i64 0],[0<n∧n≤2147483647])
  |_=>none⟩,
 ⟨76,[],fun A=>match A with
  |[.agg [.int .i64 p,.sl n 5 row]]=>some (.bool (mY p (aF n row)),[(∀i,i<n→row i=(Con.ofR (row i)).rvs)∧n≤1000])
  |_=>none⟩,
 ⟨77,[aL],fun A=>match A with
  |[.agg [.int .i64 p,.sl n 5 row]]=>some (.bool (dE p (aF n row)),[(∀i,i<n→row i=(Con.ofR (row i)).rvs)∧n≤1000])
  |_=>none⟩,
 ⟨23,[],fun A=>match A with
  |[.int .i64 d,.int .i64 p]=>some (.tup [.int .i64 ((vv p.toNat d.toNat).1:Int),.int .i64 ((vv p.toNat d.toNat).2:Int)],[2≤p∧0<d∧d≤2147483647])
  |_=>none⟩]
theorem rT:∀e∈GO,cJ Tryz.prog e:=by
 intro e he
 simp only[GO,bC,cU,cY]at he
 rcases he with rfl|rfl|rfl|rfl
 all_goals
  intro A R ms h hm
  simp only at h
  split at h
  all_goals first|exact kL|cases h
 ·obtain⟨h1,h2⟩:=aA hm
  rename_i n
  have:=yT n.toNat om om
  rw[show((n.toNat:Nat):Int)=n by omega]at this
  exact this
 ·obtain⟨h1,h2⟩:=aA hm
  exact ax.imp (LK _ _ j9) (.cons (.agg (.cons .same (.cons (.con h1) .nil))) .nil)
 ·obtain⟨h1,h2⟩:=aA hm
  exact ax.imp (Ff _ _ j9) (.cons (.agg (.cons .same (.cons (.con h1) .nil))) .nil)
 ·obtain⟨h1,h2,h3⟩:=aA hm
  rename_i d p
  have:=yd d.toNat p.toNat om om om
  rw[show((d.toNat:Nat):Int)=d by omega,show((p.toNat:Nat):Int)=p by omega]at this
  exact this
theorem XS {L:LC}(hL:bm L){k:Nat}(hk:k<L.length):w6.wrap (ji L k+(L.getD k z0c).dim)=ji L (k+1):=by
 have hl:=hL.1
 have hd:=Av hL k om
 have ha:=(hL.at hk).2.1
 show w6.wrap (ji L k+(at_ L k).dim)=ji L k+(at_ L k).dim
 exact wo
theorem XT {L:LC}(hL:bm L){k:Nat}(hk:k<L.length){e:Int}(he:0≤e∧e≤2147483647):w6.wrap (e-jj L k-w6.wrap ((L.getD k z0c).dim*(L.getD k z0c).exp))=e-jj L (k+1):=by
 have hl:=hL.1
 have hd:=Aw hL k om
 have ha:=hL.at hk
 have hp:=F1 ha.2.1 ha.1
 show w6.wrap (e-jj L k-w6.wrap ((at_ L k).dim*(at_ L k).exp))=e-(jj L k+(at_ L k).dim*(at_ L k).exp)
 generalize (at_ L k).dim*(at_ L k).exp=m at hp
 have e1:w6.wrap m=m:=wo
 rw[e1,wo]
 omega
def ur (g:aG):List (Nat×ag):=(1000,⟨.plain (RV.avl g.rvs),29,0,false,true⟩)::iW
def ut (P:List aN)(i:AV):List (Nat×AV):=[(1,.ptr 1000 0),(44,(dU .pow P).av),(45,vi P.length),(46,i)]
def YH (P:List aN)(i:Nat)(e:Int)(L:LC)(s:AV)(k:AV)(m:Int):List (Nat×AV):=ut P (vi i)++[(8,vi (e-m)),(10,s),(88,(bg L).av),(89,vi L.length),(90,k)]
def I0 (g:aG)(P:List aN)(i:Nat)(e:Int)(L:LC):aO:=⟨⟨ut P (vi i)++[(8,vi e),(10,.int .i64 0),(88,(bg L).av),(89,vi L.length),(90,.int .i64 0)],ur g,1100⟩,none,fun _=>(.exit 2,⟨ut P (vi i)++[(8,vi (e-lA L)),(10,vi (ly L))],ur g,1100⟩)⟩
theorem Ww (g:aG)(P:List aN)(u:Nat)(e:Int)(L:LC)(hL:bm L)(he:0≤e∧e≤2147483647):An 1 Tryz.f39 [0,1,0,1,1,1,1,1,1,0,0,1,1,0,0,1,0,1,1,1,1] (I0 g P u e L):=by
 refine fj c0 aE (fun(k:Nat)=>(⟨YH P u e L (vi (ji L k)) (vi k) (jj L k),ur g,1100⟩:St)) (fun(k:Nat)=>(L.length-k:Nat)) (fun(k:Nat)=>(k≤L.length:Prop)) ?_ ?_
 ·exact st (0) [sq ae.pow P,rq (↑P.length:Int),rq (↑u:Int),e=e-jj L (0:Nat),(0:Int)=ji L (0:Nat),lq L,rq (↑L.length:Int),(0:Int)=↑(0:Nat),g.dim=g.dim,g.det=g.det,sl g.locs] (by refine⟨?_,?_,?_,?_,?_,?_,?_,?_,?_,?_,(?_:sl g.locs)⟩<;>(first|exact tv|(show e=e-0;omega))) (by exact bQ _)
 ·intro k hI
  have ht:k≤L.length:=hI
  have hl:=hL.1
  have hd:=Av hL k ht
  have hx:=Aw hL k ht
  have ek:=wk k
  refine(let q1:List Prop→List Prop:=fun l0=>(sq ae.pow P)::rq (↑P.length:Int)::rq (↑u:Int)::l0;oe (decide ((↑k:Int)<↑L.length)) (fun d1=>aH [true] (k+1) (q1 (let v1:=L.getD k z0c;[w6.wrap (e-jj L k-w6.wrap (v1.dim*v1.exp))=e-jj L (k+1),w6.wrap (ji L k+v1.dim)=ji L (k+1),lq L,rq (↑L.length:Int),w6.wrap ((↑k:Int)+1)=↑(k+1),g.dim=g.dim,g.det=g.det,sl g.locs,(0:Int)≤↑k∧(↑k:Int)<↑L.length,ty d1])) ⟨?_,?_,?_,?_,?_,?_,?_,?_,?_,?_,?_,?_,d1⟩ ?_ ?_)
   (fun d1=>b9 [false] (q1 [e-jj L k=e-lA L,ji L k=ly L,g.dim=g.dim,g.det=g.det,sl g.locs,ty d1]) ⟨?_,?_,?_,?_,?_,?_,?_,?_,d1⟩))
  all_goals first|exact Kr|exact KK|exact fu|(first|exact tz|exact ek|exact XS hL iC|exact XT hL iC he|(have hk:k=L.length:=kJ;subst hk;rfl)|exact ub)
def ch (g:aG)(i:Nat):QfSy.Loc:=g.locs.getD i z0l
def oK (g:aG)(i:Nat):Int:=((vv (ch g i).prime.toNat g.det.toNat).1:Int)
def iv (g:aG)(i:Nat):LC:=bif fK (ch g i)then(ch g i).list else []
theorem H5:∀(f p n:Nat),(vG f p n).1≤f
 |0,p,n=>bp _
 |f+1,p,n=>by
  unfold vG
  cases Nat.beq (n%p) 0 with
  |true=>exact Nat.succ_le_succ (H5 f p (n/p))
  |false=>exact bQ _
theorem Wx (g:aG)(i:Nat):0≤oK g i∧oK g i≤2147483647:=by
 have:=H5 40 (ch g i).prime.toNat g.det.toNat
 show 0≤((vG 40 (ch g i).prime.toNat g.det.toNat).1:Int)∧((vG 40 (ch g i).prime.toNat g.det.toNat).1:Int)≤_
 omega
theorem Ra (g:aG)(i:Nat):bm (iv g i):=by
 unfold iv
 cases h:fK (ch g i)with
 |true=>exact DW h
 |false=>exact⟨si,fun c hc=>by simp at hc⟩
theorem zp {g:aG}{i:Nat}(h:fK (ch g i)=true):iv g i=(ch g i).list:=by unfold iv;rw[h];rfl
theorem I1 {l:QfSy.Loc}{b:Bool}(h:(l.prime==2)=true)(hd:mY l.prime (aF l.list.length fun i=>(l.list.getD i z0c).rvs)=b):fK l=b:=by
 have hp:l.prime=2:=eq_of_beq h
 unfold fK
 rw[show decide (l.prime=2)=true from bJ hp]
 rw[cb,hp]at hd
 exact hd
theorem I2 {l:QfSy.Loc}{b:Bool}(h:(l.prime==2)=false)(hd:dE l.prime (aF l.list.length fun i=>(l.list.getD i z0c).rvs)=b):fK l=b:=by
 have hp:l.prime≠2:=by intro e;rw[e]at h;cases h
 unfold fK
 rw[show decide (l.prime=2)=false from bI hp]
 rw[cb]at hd
 exact hd
theorem shB_t {dim det:Int}{q:aN}{l:QfSy.Loc}(h1:(l.prime==q.prime)=true)(h2:fK l=true)(h3:(ly l.list==dim)=true)(h4:(((vv l.prime.toNat det.toNat).1:Int)-lA l.list==0)=true):ix dim det q l=true:=by
 unfold ix
 rw[show decide (l.prime=q.prime)=true from bJ (eq_of_beq h1),h2,show decide (ly l.list=dim)=true from bJ (eq_of_beq h3),show decide (((vv l.prime.toNat det.toNat).1:Int)=lA l.list)=true from bJ (by have:=eq_of_beq h4;omega)]
 rfl
theorem Wy {dim det:Int}{q:aN}{l:QfSy.Loc}(h:ix dim det q l=true):(l.prime==q.prime)=true∧fK l=true∧(ly l.list==dim)=true∧(((vv l.prime.toNat det.toNat).1:Int)-lA l.list==0)=true:=by
 unfold ix at h
 simp only[bj,dT]at h
 obtain⟨h1,h2,h3,h4⟩:=h
 exact⟨by rw[h1];exact ey _,h2,by rw[h3];exact ey _,by rw[h4,Int.sub_self];rfl⟩
theorem va {g:aG}(hL:∀l∈g.locs,l.list.length≤1000)(j:Nat):(g.locs.getD j z0l).list.length≤1000:=by
 rw[ev]
 rcases bA j g.locs.length with h|h
 ·rw[gS h];exact hL _ (jF h)
 ·rw[jD h];exact bQ _
def WA (g:aG)(P:List aN):aO:=⟨⟨ut P (.int .i64 0),ur g,1020⟩,some (gm g.dim g.det P g.locs),fun d=>match d with
 |true=>(.exit 0,⟨[],[],1020⟩)
 |false=>(.ret,⟨[(2,.bool false)],[],1020⟩)⟩
theorem Th (g:aG)(P:List aN)(hP:P.length≤1000)(hlen:P.length=g.locs.length)(hL:∀l∈g.locs,l.list.length≤1000)(hdet:1≤g.det∧g.det≤10000):An 1 Tryz.f39 [0,1,0,1,1,1,1] (WA g P):=by
 refine pI (cE rT) (fun(j:Nat)=>(⟨ut P (vi j),ur g,1020⟩:St)) (fun(j:Nat)=>(P.length-j:Nat)) (fun(d:Bool)=>fun(j:Nat)=>(j≤P.length∧gm g.dim g.det (P.drop j) (g.locs.drop j)=gm g.dim g.det P g.locs∧gm g.dim g.det P g.locs=d:Prop)) (fun(j:Nat)=>([([0,1,0,1,1,1,1,1,1,0,0,1,1,0,0,1,0,1,1,1,1],I0 g P j (oK g j) (iv g j))]:List (List Nat×aO))) ?_ ?_ ?_
 ·rintro d hd j hI
  exact bX (Ww g P j (oK g j) (iv g j) (Ra g j) (Wx g j))
 ·intro d hd
  exact st (0) [sq ae.pow P,rq (↑P.length:Int),(0:Int)=↑(0:Nat),g.dim=g.dim,g.det=g.det,sl g.locs] J5 (by exact⟨bQ _,rfl,hd⟩)
 ·rintro d hd j hI
  obtain⟨ht,hf,hs⟩:=hI
  have ht:j≤P.length:=ht
  have hf:gm g.dim g.det (P.drop j) (g.locs.drop j)=gm g.dim g.det P g.locs:=hf
  have ek:=wk j
  refine(let q1:List Prop→List Prop:=fun l0=>(sq ae.pow P)::rq (↑P.length:Int)::(w6.wrap ((↑j:Int)+1)=↑(j+1))::(g.dim=g.dim)::(g.det=g.det)::(sl g.locs)::l0;oe (decide ((↑j:Int)<↑P.length)) (fun d1=>let y1:List Prop:=[(0:Int)≤↑j∧(↑j:Int)<↑g.locs.length,(0:Int)≤↑j∧(↑j:Int)<↑P.length,ty d1];have u1:ar y1:=⟨?_,?_,d1⟩;oe ((g.locs.getD j z0l).prime==(P.getD j ae.pow.zero).prime) (fun d2=>let y2:List Prop:=ty (dN d2)::y1;have u2:ar y2:=⟨(dN d2),u1⟩;oe ((g.locs.getD j z0l).prime==2) (fun d3=>let y3:List Prop:=(let v1:=g.locs.getD j z0l;((∀(i:Nat),i<v1.list.length→(fun i=>(v1.list.getD i z0c).rvs) i=(Con.ofR ((fun i=>(v1.list.getD i z0c).rvs) i)).rvs)∧v1.list.length≤1000)::ty d3::y2);have u3:ar y3:=⟨?_,d3,u2⟩;oe (mY (g.locs.getD j z0l).prime (aF (g.locs.getD j z0l).list.length fun i=>((g.locs.getD j z0l).list.getD i z0c).rvs)) (fun d4=>let y4:List Prop:=(let v1:=g.locs.getD j z0l;(sq ae.pow P)::rq (↑P.length:Int)::rq (↑j:Int)::((↑(vv v1.prime.toNat g.det.toNat).fst:Int)=oK g j)::(v1.list.length=(iv g j).length∧(fun i=>(v1.list.getD i z0c).rvs)=fun i=>((iv g j).getD i z0c).rvs)::((↑v1.list.length:Int)=(↑(iv g j).length:Int))::(g.dim=g.dim)::(g.det=g.det)::(sl g.locs)::((2:Int)≤v1.prime∧(0:Int)<g.det∧g.det≤2147483647)::ty (dN d3)::ty (dN d4)::y3);have u4:ar y4:=⟨?_,?_,?_,?_,?_,?_,?_,?_,?_,?_,(dN d3),(dN d4),u3⟩;oe (ly (iv g j)==g.dim) (fun d5=>oe (oK g j-lA (iv g j)==0) (fun d6=>aH (tp 1212222) (j+1) (q1 (ty (dN d6)::ty (dN d5)::y4)) ⟨?_,?_,?_,?_,?_,?_,(dN d6),(dN d5),u4⟩ ?_ ?_)
   (fun d6=>bH d false (tp 1212221) (ty (dN d6)::ty (dN d5)::y4) ⟨(dN d6),(dN d5),u4⟩ ?_))
   (fun d5=>bH d false (tp 121221) (ty (dN d5)::y4) ⟨(dN d5),u4⟩ ?_))
   (fun d4=>bH d false (tp 1211) (ty (dN d4)::y3) ⟨(dN d4),u3⟩ ?_))
   (fun d3=>let y3:List Prop:=(let v1:=g.locs.getD j z0l;((∀(i:Nat),i<v1.list.length→(fun i=>(v1.list.getD i z0c).rvs) i=(Con.ofR ((fun i=>(v1.list.getD i z0c).rvs) i)).rvs)∧v1.list.length≤1000)::ty (dN d3)::ty d3::y2);have u3:ar y3:=⟨?_,(dN d3),d3,u2⟩;oe (dE (g.locs.getD j z0l).prime (aF (g.locs.getD j z0l).list.length fun i=>((g.locs.getD j z0l).list.getD i z0c).rvs)) (fun d4=>let y4:List Prop:=(let v1:=g.locs.getD j z0l;(sq ae.pow P)::rq (↑P.length:Int)::rq (↑j:Int)::((↑(vv v1.prime.toNat g.det.toNat).fst:Int)=oK g j)::(v1.list.length=(iv g j).length∧(fun i=>(v1.list.getD i z0c).rvs)=fun i=>((iv g j).getD i z0c).rvs)::((↑v1.list.length:Int)=(↑(iv g j).length:Int))::(g.dim=g.dim)::(g.det=g.det)::(sl g.locs)::((2:Int)≤v1.prime∧(0:Int)<g.det∧g.det≤2147483647)::ty (dN d4)::y3);have u4:ar y4:=⟨?_,?_,?_,?_,?_,?_,?_,?_,?_,?_,(dN d4),u3⟩;oe (ly (iv g j)==g.dim) (fun d5=>oe (oK g j-lA (iv g j)==0) (fun d6=>aH (tp 1221222) (j+1) (q1 (ty (dN d6)::ty (dN d5)::y4)) ⟨?_,?_,?_,?_,?_,?_,(dN d6),(dN d5),u4⟩ ?_ ?_)
   (fun d6=>bH d false (tp 1221221) (ty (dN d6)::ty (dN d5)::y4) ⟨(dN d6),(dN d5),u4⟩ ?_))
   (fun d5=>bH d false (tp 122121) (ty (dN d5)::y4) ⟨(dN d5),u4⟩ ?_))
   (fun d4=>bH d false (tp 12211) (ty (dN d4)::y3) ⟨(dN d4),u3⟩ ?_)))
   (fun d2=>bH d false [true,true] (ty (dN d2)::y1) ⟨(dN d2),u1⟩ ?_))
   (fun d1=>bH d true [false] [ty d1] d1 ?_))
  all_goals first|(refine dO.mk ?_;(have hk:=oT d1;show P.length-(j+1)<P.length-j;omega))|(refine cL.mk ?_;(have hj:j<P.length:=iC;have hk:fK (ch g j)=true:=Kx;have hK:=zp hk;rw[hK]at d5;rw[hK]at d6;exact⟨hj,by rw[←hf,CA hj hlen,(shB_t d2 hk d5 d6:ix g.dim g.det (P.getD j aN.zero) (g.locs.getD j z0l)=true),oC],hs⟩))|(refine gu.mk ?_;cases d<;>first|rfl|(exfalso;(first|(have h9:=hf.trans hs;rw[MD kJ]at h9;cases h9;done)|(have hj:j<P.length:=iC;have h9:=hf.trans hs;rw[CA hj hlen]at h9;obtain⟨b1,b2,b3,b4⟩:=Wy (bB h9).1;have hK:iv g j=(ch g j).list:=zp b2;first|exact Bool.noConfusion (b1.symm.trans d2)|exact Bool.noConfusion (b2.symm.trans (I1 d3 d4))|exact Bool.noConfusion (b2.symm.trans (I2 d3 d4))|(rw[hK]at d5;exact Bool.noConfusion (b3.symm.trans d5))|(rw[hK]at d6;exact Bool.noConfusion (b4.symm.trans d6))))))|(first|exact tz|exact ek|exact rfl|exact⟨om,by have:=oT d1;omega⟩|exact⟨fun _ _=>rfl,va hL j⟩|(have hk:fK (ch g j)=true:=Kx;have hK:=zp hk;first|(rw[hK];done)|(rw[hK];exact⟨rfl,rfl⟩)|(rw[hK];rfl)|(have:=EY hk;exact⟨this.1,om,om⟩)|exact(5:Nat)))
theorem mO (g:aG):cr g=true↔(1≤g.dim∧g.dim≤8∧1≤g.det∧g.det≤10000∧(ba (2*g.det).toNat).length=g.locs.length∧gm g.dim g.det (ba (2*g.det).toNat) g.locs=true):=by
 unfold cr
 simp only[bj,dT,and_assoc]
theorem H6 {g:aG}(h:¬(1≤g.dim∧g.dim≤8∧1≤g.det∧g.det≤10000∧(ba (2*g.det).toNat).length=g.locs.length∧gm g.dim g.det (ba (2*g.det).toNat) g.locs=true)):false=cr g:=by
 cases hb:cr g with
 |false=>rfl
 |true=>exact absurd ((mO g).1 hb) h
theorem I3 {a b:Nat}{c:Bool}(h:((a:Int)==(b:Int))=c):decide (a=b)=c:=by
 subst h
 rcases Nat.decEq a b with e|e
 ·rw[bI e]
  cases hb:((a:Int)==(b:Int))with
  |false=>rfl
  |true=>have:=eq_of_beq hb;omega
 ·subst e;rw[ey];exact bJ rfl
theorem XU (g:aG)(hn:g.locs.length≤1000)(hL:∀l∈g.locs,l.list.length≤1000)(hdet:1≤g.det∧g.det≤10000)(hlen:(ba (2*g.det).toNat).length=g.locs.length):ax Tryz.prog [aL] 39 [.agg g.rvs] (.bool (cr g)):=by
 have ew:w6.wrap (2*g.det)=2*g.det:=wo
 refine pr (cE rT) Tryz.func39 (bX (Th g (ba (2*g.det).toNat) om hlen hL hdet)) ?_
 refine oe (decide (g.dim<1)) (fun d1=>lr [true] [false=cr g,ty d1] ?_)
  (fun d1=>oe (decide (g.dim>8)) (fun d2=>lr [false,true] [false=cr g,ty d2,ty d1] ?_)
  (fun d2=>let y1:List Prop:=[ty d2,ty d1];have u1:ar y1:=⟨d2,d1⟩;oe (decide (g.det<1)) (fun d3=>lr (tp 221) ((false=cr g)::ty d3::y1) ?_)
  (fun d3=>oe (decide (g.det>10000)) (fun d4=>lr (tp 2221) ((false=cr g)::ty d4::ty d3::y1) ?_)
  (fun d4=>let y2:List Prop:=((0:Int)<w6.wrap ((2:Int)*g.det)∧w6.wrap ((2:Int)*g.det)≤2147483647)::ty d4::ty d3::y1;have u2:ar y2:=⟨?_,d4,d3,u1⟩;oe ((↑(ba (w6.wrap ((2:Int)*g.det)).toNat).length:Int)==↑g.locs.length) (fun d5=>oe (gm g.dim g.det (ba ((2:Int)*g.det).toNat) g.locs) (fun d6=>lr (tp 222221) (let v1:=ba (w6.wrap ((2:Int)*g.det)).toNat;let v2:=ba ((2:Int)*g.det).toNat;(true=cr g)::(v1.length=v2.length∧(fun i=>ae.pow.rvs (v1.getD i ae.pow.zero))=fun i=>ae.pow.rvs (v2.getD i ae.pow.zero))::((↑v1.length:Int)=↑v2.length)::(g.dim=g.dim)::(g.det=g.det)::(sl g.locs)::ty d6::ty (dN d5)::y2) ?_)
  (fun d6=>lr (tp 222222) (let v1:=ba (w6.wrap ((2:Int)*g.det)).toNat;let v2:=ba ((2:Int)*g.det).toNat;(false=cr g)::(v1.length=v2.length∧(fun i=>ae.pow.rvs (v1.getD i ae.pow.zero))=fun i=>ae.pow.rvs (v2.getD i ae.pow.zero))::((↑v1.length:Int)=↑v2.length)::(g.dim=g.dim)::(g.det=g.det)::(sl g.locs)::ty d6::ty (dN d5)::y2) ?_))
  (fun d5=>lr (tp 22221) ((false=cr g)::ty (dN d5)::y2) ?_)))))
 all_goals with_reducible repeat' first|exact dA|refine bx ?_ ?_|refine bz ?_
 all_goals first|(first|exact tz|(rw[ew];done)|(rw[ew];first|rfl|exact⟨rfl,rfl⟩|omega)|(refine H6 ?_;rintro⟨a1,a2,a3,a4,a5,a6⟩;first|exact ub|(have:=oT d2;omega)|(have:=oT d3;omega)|(have:=oT d4;omega)|(rw[ew]at d5;have:=oF (I3 d5);omega)|(rw[a6]at d6;cases d6))|(refine((mO g).2 ?_).symm;have e1:=oF d1;have e2:=oF d2;exact⟨om,om,hdet.1,hdet.2,hlen,d6⟩))
theorem XV (g:aG)(hdet:1≤g.det∧g.det≤10000)(hne:(ba (2*g.det).toNat).length≠g.locs.length):ax Tryz.prog [aL] 39 [.agg g.rvs] (.bool (cr g)):=by
 have ew:w6.wrap (2*g.det)=2*g.det:=wo
 have hz:((((ba (w6.wrap ((2:Int)*g.det)).toNat).length:Nat):Int)==((g.locs.length:Nat):Int))=false:=(by rw[ew];cases hb:((((ba (2*g.det).toNat).length:Nat):Int)==((g.locs.length:Nat):Int))with
  |false=>rfl
  |true=>have:=oT (I3 hb);exact absurd this hne)
 refine pr (cE rT) Tryz.func39 aE ?_
 refine oe (decide (g.dim<1)) (fun d1=>lr [true] [false=cr g,ty d1] ⟨?_,d1⟩)
  (fun d1=>oe (decide (g.dim>8)) (fun d2=>lr [false,true] [false=cr g,ty d2,ty d1] ⟨?_,d2,d1⟩)
  (fun d2=>oe (decide (g.det<1)) (fun d3=>lr (tp 221) [false=cr g,ty d3,ty d2,ty d1] ⟨?_,d3,d2,d1⟩)
  (fun d3=>oe (decide (g.det>10000)) (fun d4=>lr (tp 2221) [false=cr g,ty d4,ty d3,ty d2,ty d1] ⟨?_,d4,d3,d2,d1⟩)
  (fun d4=>lr (tp 22221) (let v1:=(2:Int)*g.det;[false=cr g,aa ((↑(ba (w6.wrap v1).toNat).length:Int)!=(↑g.locs.length:Int)) true,(0:Int)<w6.wrap v1∧w6.wrap v1≤2147483647,ty d4,ty d3,ty d2,ty d1]) ⟨?_,(dN hz),?_,d4,d3,d2,d1⟩))))
 all_goals first|exact BD
theorem XW (g:aG)(hdet:g.det<1):ax Tryz.prog [aL] 39 [.agg g.rvs] (.bool (cr g)):=by
 have ew:=hdet
 have hz:decide (g.det<1)=true:=bJ hdet
 refine pr (cE rT) Tryz.func39 aE ?_
 refine oe (decide (g.dim<1)) (fun d1=>lr [true] [false=cr g,ty d1] ⟨?_,d1⟩)
  (fun d1=>oe (decide (g.dim>8)) (fun d2=>lr [false,true] [false=cr g,ty d2,ty d1] ⟨?_,d2,d1⟩)
  (fun d2=>lr (tp 221) [false=cr g,aa (decide (g.det<1)) true,ty d2,ty d1] ⟨?_,hz,d2,d1⟩))
 all_goals first|exact BD
theorem XX (g:aG)(hdet:10000<g.det):ax Tryz.prog [aL] 39 [.agg g.rvs] (.bool (cr g)):=by
 have ew:=hdet
 have hy:decide (g.det<1)=false:=bI om
 have hz:decide (g.det>10000)=true:=bJ hdet
 refine pr (cE rT) Tryz.func39 aE ?_
 refine oe (decide (g.dim<1)) (fun d1=>lr [true] [false=cr g,ty d1] ⟨?_,d1⟩)
  (fun d1=>oe (decide (g.dim>8)) (fun d2=>lr [false,true] [false=cr g,ty d2,ty d1] ⟨?_,d2,d1⟩)
  (fun d2=>lr (tp 2221) [false=cr g,aa (decide (g.det>10000)) true,aa (decide (g.det<1)) false,ty d2,ty d1] ⟨?_,hz,hy,d2,d1⟩))
 all_goals first|exact BD
theorem LX (g:aG)(hn:g.locs.length≤1000)(hL:∀l∈g.locs,l.list.length≤1000):ax Tryz.prog [aL] 39 [.agg g.rvs] (.bool (cr g)):=by
 rcases Decidable.em (g.det<1)with h1|h1
 ·exact XW g h1
 rcases Decidable.em (10000<g.det)with h2|h2
 ·exact XX g h2
 rcases Nat.decEq (ba (2*g.det).toNat).length g.locs.length with h3|h3
 ·exact XV g om h3
 ·exact XU g hn hL om h3
end Go.Proofs.YtdbdoalefmliiaaGreatDoor.S
namespace Go.Proofs.YtdbdoalefmliiaaGreatDoor.S
section
open Go.QfSy Go.RowKit
end
end Go.Proofs.YtdbdoalefmliiaaGreatDoor.S
namespace Go.QfSy
open Go.RowKit
def qr (ro:Option Nat):Fence:={Fence.wide with round:=ro}
def eL (ds:List Deferred)(a:Act):Act:={a with defers:=a.defers++ds}
theorem CW (ds:List Deferred)(a:Act):(eL ds a).eval=a.eval:=by
 funext x
 cases x<;>rfl
theorem pZ (ds:List Deferred)(a:Act)(d:Option Tmp)(v:Value):(eL ds a).put d v=eL ds (a.put d v):=by
 cases d<;>rfl
theorem NP {P:Program}{ro:Option Nat}{n:Nat}{f:FuncId}{args:Array Value}{w:World}{R:Ending→World→Prop}(h:Calls P f args w R):CallsIn (qr ro) n P f args w R:=
 (callsIn_wide (n:=n)).2 h
def EN (ops:Array Oper):Bool:=ops.toList.all fun o=>match o.op with
 |.defer _=>false
 |_=>true
def A2 (Q:Exit→Act→World→Prop):Prop:=(∀c a w,¬Q (.panic c) a w)∧∀a w,¬Q .outgrown a w
theorem Pn {P:Program}{ro:Option Nat}{n:Nat}{o:Oper}{a:Act}{w:World}{K K':Act→World→Prop}{Q Q':Exit→Act→World→Prop}{ds:List Deferred}(hd:∀c,o.op≠.defer c)(hQ:A2 Q)
 (hK:∀a w,K a w→K' (eL ds a) w)(h:o.wp P a w K Q):o.wpIn (qr ro) n P (eL ds a) w K' Q':=by
 unfold Oper.wp at h
 unfold Oper.wpIn
 refine⟨fun f _=>trivial,?_⟩
 rw[Oper.semAt_eq _ _ _ hd,CW]
 generalize (execOp a.eval o).run P w=r at h
 cases r with
 |ok nx w'=>
  cases nx with
  |value v=>rw[Oper.uponIn_value,pZ];exact hK _ _ h
  |skip=>rw[Oper.uponIn_skip,pZ];exact hK _ _ h
  |defer d=>
   rw[Oper.uponIn_defer]
   show K' ((eL ds {a with defers:=d::a.defers}).put o.dst undef) w'
   rw[pZ];exact hK _ _ h
  |enter f args=>
   rw[Oper.uponIn_enter]
   refine⟨fun h0=>by simp[qr,Fence.wide]at h0,NP (Calls.mono h ?_)⟩
   intro e w'' hx
   cases e with
   |returned v=>simp only at hx⊢;rw[pZ];exact hK _ _ hx
   |panicked c=>exact(hQ.1 _ _ _ hx).elim
   |outgrown=>obtain⟨a0,w0,h0⟩:=hx;exact(hQ.2 _ _ h0).elim
  |row r args=>
   rw[Oper.uponIn_row]
   refine⟨fun h0=>by simp[qr,Fence.wide]at h0,fun c cs _=>?_⟩
   obtain⟨v,w'',r1,r2⟩:=h c cs
   exact⟨v,w'',by show K' ((eL ds a).put o.dst v) w'';rw[pZ];exact hK _ _ r1,stepsIn_wide.2 r2⟩
  |round l f tmps assign body=>exact h.elim
  |_=>exact h.elim
 |halt x w'=>
  cases x with
  |panic v=>exact(hQ.1 _ _ _ h).elim
  |_=>exact h.elim
theorem sx {P:Program}{ro:Option Nat}{n:Nat}{ops:Array Oper}(hd:EN ops=true){Q Q':Exit→Act→World→Prop}(hQ:A2 Q){ds:List Deferred}(hN:∀a w,Q .normal a w→Q' .normal (eL ds a) w):
 ∀(is:List Nat)(a:Act)(w:World),wpOps P ops Q is a w→wpOpsIn (qr ro) n P ops Q' is (eL ds a) w
 |[],a,w,h=>hN a w h
 |i::is,a,w,h=>by
  simp only[wpOps]at h
  simp only[wpOpsIn]
  cases ho:ops[i]? with
  |none=>rw[ho]at h;exact sx hd hQ hN is a w h
  |some o=>
   rw[ho]at h
   simp only at h⊢
   have hod:∀c,o.op≠.defer c:=fun c e=>by
    have:=cK.1 hd o (by simpa using Array.mem_of_getElem? ho)
    rw[e]at this
    cases this
   have hy:yielded ops (eL ds a).tmps=yielded ops a.tmps:=rfl
   rw[hy]
   split
   ·rename_i hw
    rw[if_pos hw]at h
    rcases h with h|⟨_,a0,w0,h0⟩
    ·exact Pn hod hQ (fun a' w' h'=>sx hd hQ hN is a' w' h') h
    ·exact(hQ.2 _ _ h0).elim
   ·rename_i hw
    rw[if_neg hw]at h
    exact⟨fun f _=>trivial,by rw[pZ];exact sx hd hQ hN is _ w h⟩
def fA:Code→Bool
 |.skip=>true
 |.label _=>true
 |.region _ ops _=>EN ops
 |.seq a b=>fA a&&fA b
 |.cond _ a b=>fA a&&fA b
 |.block _ b=>fA b
 |.exit _=>true
 |.ret=>true
 |_=>false
section
variable {P:Program}{E:cj}(hE:eW P E){call:bq}(hc:bV P E.ng call){lo:List Nat→Option aO}{N:Nat}
include hE hc
theorem rP {ro:Option Nat}{m:Nat}{ds:List Deferred}:∀(n:Nat)(p:List Nat)(c:Code)(T T':Tr AV)(H H':Hs)(e:df),fA c=true→bb E call lo N n p c T H=some (e,T',H')→(∀q∈H'.ms,q)→∀(γ:Gm)(a:Act)(w:World),cH γ E.ng T N a→aJ γ H.m.get H.nx w→
 c.wpIn (qr ro) m P (fun x a' w'=>x=df.den e∧∃γ' a0,a'=eL ds a0∧cH γ' E.ng T' N a0∧bT γ H w γ' H' w') (eL ds a) w:=by
 intro n
 induction n with
 |zero=>intro p c T T' H H' e _ h;simp[bb]at h
 |succ n ih=>
  intro p c T T' H H' e hs h hm γ a w hf hr
  cases c with
  |skip=>
   simp only[bb,bv,dh]at h
   obtain⟨rfl,rfl,rfl⟩:=h
   exact wpIn_skip ⟨rfl,γ,a,rfl,hf,bT.refl hr⟩
  |label l=>
   simp only[bb,bv,dh]at h
   obtain⟨rfl,rfl,rfl⟩:=h
   exact wpIn_label ⟨rfl,γ,a,rfl,hf,bT.refl hr⟩
  |exit id=>
   simp only[bb,bv,dh]at h
   obtain⟨rfl,rfl,rfl⟩:=h
   exact wpIn_exit ⟨rfl,γ,a,rfl,hf,bT.refl hr⟩
  |ret=>
   simp only[bb,bv,dh]at h
   obtain⟨rfl,rfl,rfl⟩:=h
   exact wpIn_ret ⟨rfl,γ,a,rfl,hf,bT.refl hr⟩
  |region id ops draw=>
   have hQ:A2 (fun(x:Exit)(a':Act)(w':World)=>x=Exit.normal∧∃γ',cH γ' E.ng T' N a'∧bT γ H w γ' H' w'):=⟨fun _ _ _ h=>(by cases h.1),fun _ _ h=>(by cases h.1)⟩
   cases draw with
   |false=>
    simp only[bb]at h
    split at h
    ·cases h
    ·rename_i T1 H1 h1
     cases h
     refine wpIn_region (sx hs hQ ?_ _ a w (Et hE hc ops.toList (List.range ops.size) (uE ops) _ _ _ _ h1 hm γ a w hf hr (fun a' w' γ' h1 h2=>⟨rfl,γ',h1,h2⟩)))
     rintro a' w' ⟨_,γ',h1,h2⟩
     exact⟨rfl,γ',a',rfl,h1,h2⟩
   |true=>
    simp only[bb]at h
    split at h
    ·cases h
    ·rename_i T1 H1 h1
     cases h
     refine wpIn_region_draw (fun t=>sx hs hQ ?_ _ a _ (CF hE hc h1 hm hf hr (fun a' w' γ' h1 h2=>⟨rfl,γ',h1,h2⟩) t))
     rintro a' w' ⟨_,γ',h1,h2⟩
     exact⟨rfl,γ',a',rfl,h1,h2⟩
  |seq x y=>
   obtain⟨s1,s2⟩:=bB hs
   simp only[bb]at h
   split at h
   ·rename_i T1 H1 h1
    refine wpIn_seq (wpIn_mono (ih (0::p) x T T1 H H1 .normal s1 h1 (fun q hq=>hm q (mB hc _ _ _ _ _ _ _ _ h q hq)) γ a w hf hr) ?_)
    rintro x' a' w' ⟨rfl,γ',a0,rfl,hf',hrun⟩
    refine wpIn_mono (ih (1::p) y T1 T' H1 H' e s2 h hm γ' a0 w' hf' hrun.stp.rel) ?_
    rintro x'' a'' w'' ⟨rfl,γ'',a1,rfl,hf'',hrun'⟩
    exact⟨rfl,γ'',a1,rfl,hf'',hrun.trans hrun'⟩
   ·rename_i hne
    refine wpIn_seq (wpIn_mono (ih (0::p) x T T' H H' e s1 h hm γ a w hf hr) ?_)
    rintro x' a' w' ⟨rfl,hx⟩
    cases e with
    |normal=>exact(hne T' H' h).elim
    |exit id=>exact⟨rfl,hx⟩
    |ret=>exact⟨rfl,hx⟩
  |cond x y z=>
   obtain⟨s1,s2⟩:=bB hs
   have hev:(eL ds a).eval x=a.eval x:=by rw[CW]
   simp only[bb]at h
   split at h
   ·rename_i hx
    have hv:=pf hf _ _ hx
    generalize hX:a.eval x=X at hv
    cases hv
    exact wpIn_cond_true (by rw[hev];exact hX) (ih (0::p) y T T' H H' e s1 h hm γ a w hf hr)
   ·rename_i hx
    have hv:=pf hf _ _ hx
    generalize hX:a.eval x=X at hv
    cases hv
    exact wpIn_cond_false (by rw[hev];exact hX) (ih (1::p) z T T' H H' e s2 h hm γ a w hf hr)
   ·rename_i u hx
    have hv:=pf hf _ _ hx
    generalize hX:a.eval x=X at hv
    cases hv
    have ak:=kq H u
    have am:=vP H u
    have an:=sv H u
    generalize H.ask u=r at h ak am an
    obtain⟨d,H1⟩:=r
    have hr1:aJ γ H1.m.get H1.nx w:=by rw[show H1.m=_ from am,show H1.nx=_ from an];exact hr
    have back:∀{γ':Gm}{w':World},bT γ H1 w γ' H' w'→bT γ H w γ' H' w':=by
     intro γ' w' hR
     refine⟨?_,?_,fun b hb=>hR.keep b (by rw[show H1.nx=_ from an];exact hb)⟩
     ·have:=hR.stp;rw[show H1.m=_ from am]at this;exact this
     ·have:=hR.nx;rw[show H1.nx=_ from an]at this;exact this
    have hu:u=d:=hm (aa u d) (by
     cases d with
     |true=>exact mB hc _ _ _ _ _ _ _ _ h _ (by rw[show H1.ms=_ from ak];simp)
     |false=>exact mB hc _ _ _ _ _ _ _ _ h _ (by rw[show H1.ms=_ from ak];simp))
    subst hu
    cases u with
    |true=>
     refine wpIn_cond_true (by rw[hev];exact hX) (wpIn_mono (ih (0::p) y T T' H1 H' e s1 h hm γ a w hf hr1) ?_)
     rintro x' a' w' ⟨rfl,γ',a0,rfl,g1,g2⟩
     exact⟨rfl,γ',a0,rfl,g1,back g2⟩
    |false=>
     refine wpIn_cond_false (by rw[hev];exact hX) (wpIn_mono (ih (1::p) z T T' H1 H' e s2 h hm γ a w hf hr1) ?_)
     rintro x' a' w' ⟨rfl,γ',a0,rfl,g1,g2⟩
     exact⟨rfl,γ',a0,rfl,g1,back g2⟩
   ·cases h
  |block id b=>
   simp only[bb]at h
   split at h
   ·rename_i j T1 H1 h1
    cases hj:Nat.beq j id with
    |true=>
     simp only[hj,aU,bv,dh]at h
     obtain⟨rfl,rfl,rfl⟩:=h
     refine wpIn_block (wpIn_mono (ih (0::p) b T T1 H H1 (.exit j) hs h1 hm γ a w hf hr) ?_)
     rintro x' a' w' ⟨rfl,hx⟩
     show(if j=id then _ else _)
     rw[if_pos (aM hj)]
     exact⟨rfl,hx⟩
    |false=>
     simp only[hj,bt,bv,dh]at h
     obtain⟨rfl,rfl,rfl⟩:=h
     refine wpIn_block (wpIn_mono (ih (0::p) b T T1 H H1 (.exit j) hs h1 hm γ a w hf hr) ?_)
     rintro x' a' w' ⟨rfl,hx⟩
     show(if j=id then _ else _)
     rw[if_neg (mH hj)]
     exact⟨rfl,hx⟩
   ·rename_i hne
    refine wpIn_block (wpIn_mono (ih (0::p) b T T' H H' e hs h hm γ a w hf hr) ?_)
    rintro x' a' w' ⟨rfl,hx⟩
    cases e with
    |normal=>exact⟨rfl,hx⟩
    |exit j=>exact(hne j T' H' h).elim
    |ret=>exact⟨rfl,hx⟩
  |loop b=>simp[fA]at hs
  |scope b=>simp[fA]at hs
  |rangeFunc f ps x y=>simp[fA]at hs
  |goto l=>simp[fA]at hs
  |refuse s=>simp[fA]at hs
end
def gK (γ:Gm)(f:Hf)(l:Nat):Prop:=∀b k x,f b=some k→γ b=some (l,x)→False
theorem gK.own {γ:Gm}{f:Hf}{l:Nat}(h:gK γ f l):¬eQ γ f l:=by
 rintro⟨b,k,x,h1,_,h3⟩
 exact h b k x h1 h3
theorem yi {γ:Gm}{f:Hf}{nx:Nat}{w:World}(hr:aJ γ f nx w){l:Nat}{o:Obj}(hl:w.heap[l]? =some o)(ho:o.isCells=false):gK γ f l:=by
 intro b k x h1 h3
 obtain⟨B,x',cs,ex,g1,g2,_⟩:=hr.blk b k h1
 rw[h3]at g1
 cases g1
 rw[hl]at g2
 cases g2
 cases ho
theorem NV {γ:Gm}{f:Hf}{nx:Nat}{w:World}(hr:aJ γ f nx w){l:Nat}(hl:w.heap.size≤l):gK γ f l:=by
 intro b k x h1 h3
 have:=hr.lt h1 h3
 omega
theorem As {γ:Gm}{f:Hf}{nx:Nat}{w:World}(hr:aJ γ f nx w){l:Nat}(hl:w.heap.size≤l):γ.fz l=none:=by
 cases h:γ.fz l with
 |none=>rfl
 |some x=>
  have:=(eI.1 (hr.fzr l x h)).1
  omega
theorem oR {γ γ':Gm}{f f':Hf}{nx nx':Nat}{w w':World}(hr:aJ γ f nx w)(h:be γ f w γ' f' nx' w'){l:Nat}(hlt:l<w.heap.size)(hn:gK γ f l)(hz:γ.fz l=none):gK γ' f' l∧γ'.fz l=none:=by
 constructor
 ·intro b k x h1 h3
  cases ho:k.own with
  |true=>exact hn.own (h.own l hlt ⟨b,k,x,h1,ho,h3⟩)
  |false=>
   have h4:=h.ro b k h1 ho
   obtain⟨B,x',_,_,g1,_⟩:=hr.blk b k h4
   have:=h.le.nm b _ g1
   rw[show γ'.nm b=some (l,x)from h3]at this
   cases this
   exact hn b k _ h4 g1
 ·cases hh:γ'.fz l with
  |none=>rfl
  |some x=>
   rcases h.fzn l x hh with h1|h1|h1
   ·rw[hz]at h1;cases h1
   ·omega
   ·exact(hn.own h1).elim
theorem lL {W:World}{l k:Nat}{o:Obj}(h:k≠l):(W.putObj l o).heap[k]? =W.heap[k]? :=World.putObj_heap_other h
theorem yZ {γ:Gm}{f:Hf}{nx:Nat}{W:World}(hr:aJ γ f nx W){l:Nat}(hn:gK γ f l)(hz:γ.fz l=none)(o:Obj):aJ γ f nx (W.putObj l o):=by
 refine⟨fun b k hb=>?_,hr.inj,hr.fresh,fun B x hx=>?_,hr.fzo⟩
 ·obtain⟨B,x,cs,ex,g1,g2,g3⟩:=hr.blk b k hb
  refine⟨B,x,cs,ex,g1,?_,g3⟩
  rw[lL (fun e=>hn b k x hb (by rw[←e];exact g1))]
  exact g2
 ·rw[lL (fun e=>by rw[e,hz]at hx;cases hx)]
  exact hr.fzr B x hx
theorem EQ {γ γ':Gm}{f f':Hf}{nx nx':Nat}{W W':World}(hr:aJ γ f nx W){l:Nat}(hlt:l<W.heap.size)(hn:gK γ f l)(hz:γ.fz l=none)(h:be γ f W γ' f' nx' W')(o:Obj):be γ f (W.putObj l o) γ' f' nx' (W'.putObj l o):=by
 obtain⟨n1,z1⟩:=oR hr h hlt hn hz
 refine⟨h.le,yZ h.rel n1 z1 o,by simpa using h.size,h.os,h.tape,h.output,fun k hk hno=>?_,fun k hk=>?_,h.ro,h.dom,fun B x hx=>by simpa using h.fzn B x hx,h.drawn⟩
 ·by_cases e:k=l
  ·subst e
   rw[World.putObj_heap_same hlt,World.putObj_heap_same (jE hlt h.size)]
  ·rw[lL e,lL e]
   exact h.frame k (by simpa using hk) hno
 ·exact h.own k (by simpa using hk)
theorem ER {γ γ':Gm}{f f':Hf}{nx':Nat}{w W':World}{l:Nat}(h:be γ f w γ' f' nx' W')(hn:gK γ' f' l)(hz:γ'.fz l=none)(hl:eQ γ f l∨w.heap.size≤l)(o:Obj):be γ f w γ' f' nx' (W'.putObj l o):=by
 refine⟨h.le,yZ h.rel hn hz o,by simpa using h.size,h.os,h.tape,h.output,fun k hk hno=>?_,h.own,h.ro,h.dom,h.fzn,h.drawn⟩
 have e:k≠l:=by
  rintro rfl
  rcases hl with hl|hl
  ·exact hno hl
  ·omega
 rw[lL e]
 exact h.frame k hk hno
theorem yC {W:World}{l:Nat}{o:Obj}(o':Obj)(h:W.heap[l]? =some o):(W.putObj l o').putObj l o=W:=by
 have e:(W.heap.setIfInBounds l o').setIfInBounds l o=W.heap:=by
  apply Array.ext_getElem?
  intro i
  by_cases hi:i=l
  ·subst hi
   rw[Array.getElem?_setIfInBounds_self_of_lt (by rw[Array.size_setIfInBounds];exact(eI.1 h).1),h]
  ·rw[Array.getElem?_setIfInBounds_ne (fun e=>hi e.symm),Array.getElem?_setIfInBounds_ne (fun e=>hi e.symm)]
 unfold World.putObj
 simp only[e]
structure j0 (A B:World):Prop where
 os:B.os=A.os
 tape:B.tape=A.tape
 output:B.output=A.output
 drawn:A.drawn≤B.drawn
 size:A.heap.size≤B.heap.size
 heap:∀k,k<A.heap.size→B.heap[k]? =A.heap[k]?
theorem ES {γ:Gm}{f:Hf}{nx:Nat}{A B:World}(hr:aJ γ f nx A)(h:j0 A B):aJ γ f nx B:=by
 refine⟨fun b k hb=>?_,hr.inj,hr.fresh,fun B' x hx=>?_,hr.fzo⟩
 ·obtain⟨B',x,cs,ex,g1,g2,g3⟩:=hr.blk b k hb
  exact⟨B',x,cs,ex,g1,by rw[h.heap _ (eI.1 g2).1];exact g2,g3⟩
 ·have:=hr.fzr B' x hx
  rw[h.heap _ (eI.1 this).1];exact this
theorem za {γ:Gm}{f:Hf}{nx:Nat}{A B:World}(hr:aJ γ f nx A)(h:j0 A B):be γ f A γ f nx B:=
 ⟨Gm.le_refl γ,ES hr h,h.size,h.os,h.tape,h.output,fun k hk _=>h.heap k hk,fun k _ ho=>ho,fun b k hb _=>hb,fun b k hb=>.inl ⟨k,hb⟩,fun B x hx=>.inl hx,h.drawn⟩
theorem uD (w:World)(o:Obj):j0 w (w.alloc o):=⟨rfl,rfl,rfl,bp _,si,fun k hk=>Below.heap_alloc w o k hk⟩
theorem j0.trans {A B C:World}(h:j0 A B)(k:j0 B C):j0 A C:=⟨k.os.trans h.os,k.tape.trans h.tape,k.output.trans h.output,cl h.drawn k.drawn,cl h.size k.size,fun i hi=>(k.heap i (jE hi h.size)).trans (h.heap i hi)⟩
theorem NU {W:World}{l:Nat}{o:Obj}(h:W.heap[l]? =some o):W.putObj l o=W:=by
 have:=yC o h
 have e:(W.putObj l o).putObj l o=W.putObj l o:=by unfold World.putObj;simp
 rw[e]at this
 exact this
theorem EO (W:World)(l:Nat)(o o':Obj):(W.putObj l o).putObj l o'=W.putObj l o':=by unfold World.putObj;simp
def FW (L:List Nat)(A B:World):Prop:=A.heap.size≤B.heap.size∧∀k∈L,B.heap[k]? =A.heap[k]?
def tn (B:Nat):Value:=.pointer (some ⟨B,0,none⟩)
theorem R7 {γ:Gm}{f:Hf}{nx:Nat}{w:World}(hr:aJ γ f nx w){b el:Nat}{v:AV}(hb:f b=some ⟨.plain [v],el,0,false,true⟩):∃B V,γ b=some (B,0)∧w.heap[B]? =some (.cells #[V] el (0,0))∧aj γ v V∧B<w.heap.size:=by
 obtain⟨B,x,cs,ex,g1,g2,g3,g4,g5⟩:=hr.blk b _ hb
 have hx:=g5 rfl
 subst hx
 have hex:ex=[]:=kP (by simpa using g4)
 subst hex
 have g3:ap γ [v] cs:=g3
 cases g3 with
 |cons h t=>
  cases t
  exact⟨B,_,g1,by simpa using g2,h,(eI.1 g2).1⟩
def mark (D:Nat):Deferred:={target:=.collected D,args:=#[]}
theorem run_ms {e' e:df}{T':Tr AV}{H':Hs}{S:St}{b:Nat}{rn:List (Nat×Nat)}{ms:List Prop}(h1:fo (some (e',T',H')) e S b rn=some ms)(h2:ar ms):∀q∈H'.ms,q:=by
 intro q hq
 rw[iZ]at h2
 unfold fo at h1
 simp only at h1
 replace h1:=(ay h1).2
 split at h1
 ·cases h1
 ·split at h1
  ·cases h1
  ·cases h1
   exact h2 q (jo _ hq)
def jz:List Code→Code→Code
 |[],D=>D
 |c::l,D=>.seq c (jz l D)
section
variable {P:Program}{E:cj}(hE:eW P E){call:bq}(hc:bV P E.ng call){lo:List Nat→Option aO}{N:Nat}
include hE hc
theorem GA {m:Nat}{D X R:Code}{Q:Exit→Act→World→Prop}:∀(L:List Code)(n:Nat)(p:List Nat)(T T':Tr AV)(H H':Hs),fA (jz L D)=true→bb E call lo N n p (jz L D) T H=some (.normal,T',H')→(∀q∈H'.ms,q)→∀(γ:Gm)(a:Act)(w:World),cH γ E.ng T N a→aJ γ H.m.get H.nx w→
 (∀γ' a0 w',cH γ' E.ng T' N a0→bT γ H w γ' H' w'→X.wpIn Fence.wide m P (Exit.then (R.wpIn Fence.wide m P Q) Q) a0 w')→
 (jz L (.seq (.seq D X) R)).wpIn Fence.wide m P Q a w
 |[],n,p,T,T',H,H',hs,h,hm,γ,a,w,hf,hr,hk=>by
  have h1:=rP hE hc (ro:=none) (m:=m) (ds:=[]) n p D T T' H H' .normal hs h hm γ a w hf hr
  have hl0:∀b:Act,eL [] b=b:=fun b=>by unfold eL;rw[kf]
  rw[hl0]at h1
  refine wpIn_seq (wpIn_seq (wpIn_mono h1 ?_))
  rintro x a' w' ⟨rfl,γ',a0,rfl,g1,g2⟩
  rw[hl0]
  exact hk γ' a0 w' g1 g2
 |c::l,n,p,T,T',H,H',hs,h,hm,γ,a,w,hf,hr,hk=>by
  cases n with
  |zero=>simp[bb]at h
  |succ n=>
  obtain⟨s1,s2⟩:=bB (show(fA c&&fA (jz l D))=true from hs)
  simp only[jz,bb]at h
  split at h
  ·rename_i T1 H1 h1
   have hm1:=fun q hq=>hm q (mB hc _ _ _ _ _ _ _ _ h q hq)
   have e1:=rP hE hc (ro:=none) (m:=m) (ds:=[]) n (0::p) c T T1 H H1 .normal s1 h1 hm1 γ a w hf hr
   have hl0:∀b:Act,eL [] b=b:=fun b=>by unfold eL;rw[kf]
   rw[hl0]at e1
   refine wpIn_seq (wpIn_mono e1 ?_)
   rintro x a' w' ⟨rfl,γ',a0,rfl,g1,g2⟩
   rw[hl0]
   exact GA l n (1::p) T1 T' H1 H' s2 h hm γ' a0 w' g1 g2.stp.rel fun γ'' a1 w'' g3 g4=>hk γ'' a1 w'' g3 (g2.trans g4)
  ·rename_i hne
   exact(hne T' H' h).elim
end
noncomputable def qZ (E:cj)(fn:Func)(T:Tr AV)(H:Hs):Option (AV×Hs):=match n8 E.ti T H.m fn.results.toList with
 |none=>none
 |some vs=>some (tJ vs,H)
noncomputable def s8 (E:cj)(call:bq)(N:Nat)(fn:Func)(R:Code)(T0:List (Nat×AV))(fin:df×List (Nat×ag))(nx:Nat)(q:List Bool):Option (AV×Hs):=match fin.1 with
 |.exit _=>none
 |.ret=>qZ E fn (aI T0) ⟨aI fin.2,nx,[],[]⟩
 |.normal=>match bb E call fF N 999 [2] R (aI T0) ⟨aI fin.2,nx,q,[]⟩with
  |none=>none
  |some (.exit _,_,_)=>none
  |some (_,T,H)=>qZ E fn T H
theorem Lw {P:Program}{ng:Nat}{f:Nat}{fn:Func}(hfn:P.funcs[f]? =some fn)(hbd:fn.body.isSome=true){A:List RV}{tabs:List Tb}(hg:tabs.all (fun t=>Nat.blt t.g ng)=true)(hok:eP (dH tabs)=true)(hng:Nat.ble ng 1000=true)
 {v:AV}{H':Hs}{R:RV}{m1:List Prop}(hrd:rd H'.m v R=some m1)(hm1:∀q∈m1,q)
 (hb:∀γ w Args,aJ γ (aI (dH tabs)).get 1000 w→ap γ (RV.avl A) Args→iO ng γ→Calls P f Args.toArray w fun e w'=>∃V γ',e=.returned V∧aj γ' v V∧bT γ ⟨aI (dH tabs),1000,[],[]⟩ w γ' H' w'):ax P tabs f A R:=by
 have hng:=aT hng
 refine⟨⟨fn,hfn,hbd⟩,fun w F Args hT hF hA=>?_⟩
 have hcalls:=hb (jV ng F) w Args (Ao hT hF hng hg hok) hA.avl (fun g hg'=>by simp[jV,hg'])
 refine hcalls.mono ?_
 rintro e w' ⟨V,γ',rfl,hV,hR⟩
 have hbel:th w.heap.size w w':=⟨⟨hR.stp.os,hR.stp.tape,hR.stp.output,hR.stp.size,fun k hk=>hR.stp.frame k hk (mE hok k)⟩,hR.stp.drawn⟩
 let F':Fz:=fun B=>match γ'.fz B with
  |some x=>some x
  |none=>if w.heap.size≤B then w'.heap[B]? else none
 have hle:γ'.fz.le F':=by intro B x hx;simp only[F',hx]
 refine⟨V,F',rfl,fun B x hx=>hle B x (hR.stp.le.fz B x hx),?_,?_,?_,hbel⟩
 ·intro B x hx
  simp only[F']at hx
  split at hx
  ·rename_i y hy;cases hx;exact hR.stp.rel.fzr B x hy
  ·split at hx
   ·exact hx
   ·cases hx
 ·intro B x hx
  simp only[F']at hx
  split at hx
  ·rename_i y hy
   cases hx
   rcases hR.stp.fzn B x hy with h1|h1|h1
   ·exact .inl h1
   ·exact .inr h1
   ·exact(mE hok B h1).elim
  ·split at hx
   ·rename_i hB;exact .inr hB
   ·cases hx
 ·refine nI hR.stp.rel hle (fun b k B x y hk hown hgb hy=>?_) hrd hm1 hV
  have hz:=hR.stp.rel.fzo b k B x hk hown hgb
  simp only[F',hz]
  rw[if_pos,hy]
  rcases bA B w.heap.size with h1|h1
  ·exact(mE hok B (hR.stp.own B h1 ⟨b,k,x,hk,hown,hgb⟩)).elim
  ·exact h1
theorem Vr {e' e:df}{T':Tr AV}{H':Hs}{S:St}{b:Nat}{rn:List (Nat×Nat)}{ms:List Prop}(h1:fo (some (e',T',H')) e S b rn=some ms):e=e':=by
 unfold fo at h1
 simp only at h1
 have hc:=(ay h1).1
 simp only[bj]at hc
 exact zm hc.1.1.1.1.1.1.1.1
theorem Oe {ng N:Nat}{γ0:Gm}{H0:Hs}{w0:World}(hr0:aJ γ0 H0.m.get H0.nx w0)(hng:ng≤H0.nx){e e':df}{T:Tr AV}{H:Hs}{S:St}{rn:List (Nat×Nat)}{ms:List Prop}(h:fo (some (e',T,H)) e S H0.nx rn=some ms)(hm:∀q∈ms,q)
 {γ1:Gm}{a:Act}{w:World}(hf:cH γ1 ng T N a)(hR:bT γ0 H0 w0 γ1 H w):e=e'∧∃γ2,cH γ2 ng (aI S.T) N a∧bT γ0 H0 w0 γ2 ⟨aI S.m,S.nx,[],[]⟩ w∧(∀l,gK γ1 H.m.get l→γ1.fz l=none→gK γ2 (aI S.m).get l∧γ2.fz l=none):=by
 unfold fo at h
 simp only at h
 have hc:=(ay h).1
 replace h:=(ay h).2
 simp only[bj]at hc
 obtain⟨⟨⟨⟨⟨⟨⟨⟨c1,c2⟩,c3⟩,c4⟩,c5⟩,c6⟩,c7⟩,c8⟩,c9⟩:=hc
 have c8:=aT c8
 refine⟨zm c1,?_⟩
 split at h
 ·cases h
 ·rename_i m1 h1
  split at h
  ·cases h
  ·rename_i m2 h2
   cases h
   obtain⟨hm12,_⟩:=dJ hm
   obtain⟨hm1,hm2⟩:=dJ hm12
   have c2a:rn.all (fun p=>Nat.ble H0.nx p.1)=true:=by
    rw[cK]at c2⊢
    intro p hp
    exact(bB (c2 p hp)).1
   have hkey:∀b,rn.any (fun p=>Nat.beq p.1 b)=true→H0.nx≤b∧b<S.nx:=by
    intro b hb
    have:=c2
    rw[cK]at this
    obtain⟨q1,q2⟩:=bB (this _ (lN hb))
    exact⟨aT q1,aT q2⟩
   let γ2:Gm:=⟨fun b=>if b<H0.nx then γ1 b else if rn.any (fun p=>Nat.beq p.1 b)=true then γ1 (dC rn b)else none,γ1.fz⟩
   have hs:∀b,dy H0.nx rn b=true→γ2 b=γ1 (dC rn b):=by
    intro b hb
    unfold dy at hb
    by_cases hlt:b<H0.nx
    ·show(if b<H0.nx then _ else _)=_
     rw[if_pos hlt,iH c2a hlt]
    ·have:rn.any (fun p=>Nat.beq p.1 b)=true:=by
      rcases mD hb with h'|h'
      ·exact absurd (aT h') om
      ·exact h'
     show(if b<H0.nx then _ else _)=_
     rw[if_neg hlt,if_pos this]
   have hbase:∀b,b<H0.nx→γ2 b=γ1 b:=by
    intro b hb
    show(if b<H0.nx then _ else _)=_
    rw[if_pos hb]
   have hmem:∀b k,(aI S.m).get b=some k→(b,k)∈S.m:=fun b k hb=>i7 _ _ _ c7 hb
   have hblk:∀b k,(aI S.m).get b=some k→dy H0.nx rn b=true∧g7 (dy H0.nx rn) k.view=true∧∃k',H.m.get (dC rn b)=some k'∧k.elem=k'.elem∧k.sz=k'.sz∧k.opn=k'.opn∧k.own=k'.own∧(∀γ cs,ap γ k'.cells cs→ap γ (gA (dC rn) k).cells cs)∧(k.own=false→k'=gA (dC rn) k):=
    fun b k hb=>uX _ _ h2 hm2 b k (hmem b k hb)
   have hown:∀B,eQ γ2 (aI S.m).get B→eQ γ1 H.m.get B:=by
    rintro B ⟨b,k,x,q1,q2,q3⟩
    obtain⟨r1,r2,k',r3,r4,r5,r6,r7,r8,r9⟩:=hblk b k q1
    exact⟨dC rn b,k',x,r3,by rw[←r7];exact q2,by rw[←hs b r1];exact q3⟩
   refine⟨γ2,⟨hf.defers,hf.size,fun t v hv=>?_,fun g hg=>?_⟩,⟨⟨⟨fun b q hb=>?_,hR.stp.le.fz⟩,⟨?_,?_,?_,hR.stp.rel.fzr,?_⟩,hR.stp.size,hR.stp.os,hR.stp.tape,hR.stp.output,hR.stp.frame,fun k hk ho=>hR.stp.own k hk (hown k ho),?_,?_,hR.stp.fzn,hR.stp.drawn⟩,c8,fun b hb=>?_⟩,fun l hn hz=>⟨fun b k x q1 q2=>?_,hz⟩⟩
   ·obtain⟨u,q1,q2,q3⟩:=yP _ _ h1 hm1 t v (i7 _ _ _ c6 hv)
    exact uW hs rfl q3 (q2 γ1 _ (hf.tmp t u q1))
   ·rw[hbase g om];exact hf.glob g hg
   ·have hlt:b<H0.nx:=by
     rcases bA b H0.nx with h'|h'
     ·exact h'
     ·rw[hr0.fresh b h']at hb;cases hb
    rw[hbase b hlt]
    exact hR.stp.le.nm b q hb
   ·intro b k hb
    obtain⟨r1,r2,k',r3,r4,r5,r6,r7,r8,r9⟩:=hblk b k hb
    obtain⟨B,x,cs,ex,g1,g2,g3,g4,g5⟩:=hR.stp.rel.blk _ _ r3
    exact⟨B,x,cs,ex,by rw[hs b r1];exact g1,by rw[r4];exact g2,yb hs rfl r2 (r8 γ1 cs g3),by rw[r5];exact g4,by rw[r6];exact g5⟩
   ·intro b b' k k' B x x' q1 q2 q3 q4
    obtain⟨r1,_,kk,r3,_⟩:=hblk b k q1
    obtain⟨s1,_,kk',s3,_⟩:=hblk b' k' q2
    rw[hs b r1]at q3
    rw[hs b' s1]at q4
    have heq:=hR.stp.rel.inj _ _ _ _ _ _ _ r3 s3 q3 q4
    have mixed:∀b b' k,(b,k)∈S.m→b<H0.nx→¬b'<H0.nx→dy H0.nx rn b'=true→dC rn b=dC rn b'→False:=by
     intro b b' k hk hb hb' hn he
     rw[iH c2a hb]at he
     unfold dy at hn
     have hany:rn.any (fun p=>Nat.beq p.1 b')=true:=by
      rcases mD hn with h'|h'
      ·exact absurd (aT h') om
      ·exact h'
     have hm':=lN hany
     have:=cK.1 (cK.1 c5 _ hm') _ hk
     simp only[he]at this
     rw[mu]at this
     have hbl:Nat.blt (dC rn b') H0.nx=true:=fW (by rw[←he];exact hb)
     rw[hbl]at this
     cases this
    by_cases hb:b<H0.nx
    ·by_cases hb':b'<H0.nx
     ·rw[iH c2a hb,iH c2a hb']at heq;exact heq
     ·exact(mixed b b' k (hmem _ _ q1) hb hb' s1 heq).elim
    ·by_cases hb':b'<H0.nx
     ·exact(mixed b' b k' (hmem _ _ q2) hb' hb r1 heq.symm).elim
     ·have a1:rn.any (fun p=>Nat.beq p.1 b)=true:=by
       unfold dy at r1
       rcases mD r1 with h'|h'
       ·exact absurd (aT h') om
       ·exact h'
      have a2:rn.any (fun p=>Nat.beq p.1 b')=true:=by
       unfold dy at s1
       rcases mD s1 with h'|h'
       ·exact absurd (aT h') om
       ·exact h'
      have m1:=lN a1
      have m2:=lN a2
      rw[heq]at m1
      exact uJ c4 m1 m2
   ·intro b hb
    show(if b<H0.nx then _ else _)=_
    have hb:S.nx≤b:=hb
    rw[if_neg om,if_neg]
    intro hany
    have:=(hkey b hany).2
    omega
   ·intro b k B x hb ho hg
    obtain⟨r1,r2,k',r3,r4,r5,r6,r7,r8,r9⟩:=hblk b k hb
    rw[hs b r1]at hg
    exact hR.stp.rel.fzo _ k' B x r3 (by rw[←r7];exact ho) hg
   ·intro b k hb ho
    obtain⟨r1,r2,k',r3,r4,r5,r6,r7,r8,r9⟩:=hblk b k hb
    have:=cK.1 c9 _ (hmem b k hb)
    simp only[ho,Bool.false_or]at this
    obtain⟨q1,q2⟩:=bB this
    have hlt:=aT q1
    rw[iH c2a hlt]at r3
    have hk:gA (dC rn) k=k:=by
     obtain⟨view,el,sz,opn,own⟩:=k
     cases view with
     |plain l=>simp only[g7]at q2;simp only[gA,wH,oX q2]
     |con L=>rfl
     |ints kk L=>rfl
     |rows kk L b n=>simp[g7]at q2
     |vals τ L=>rfl
    rw[r9 ho,hk]at r3
    exact hR.stp.ro b k r3 ho
   ·intro b k hb
    obtain⟨r1,r2,k',r3,_⟩:=hblk b k hb
    by_cases hlt:b<H0.nx
    ·rw[iH c2a hlt]at r3
     exact hR.stp.dom b k' r3
    ·exact .inr (hr0.fresh b om)
   ·rw[hbase b hb];exact hR.keep b hb
   ·obtain⟨r1,r2,k',r3,_⟩:=hblk b k q1
    rw[hs b r1]at q2
    exact hn _ k' x r3 q2
def AJ (P:Program)(tabs:List Tb)(gf tD:Nat)(d:Int)(ws:List (Int×Int)):Prop:=
 ∀(n l Bd:Nat)(J:Nat→List Nat→World→Prop)(Jx:World→Prop)(W:World),jU tabs W→
  W.heap[Bd]? =some (.cells #[.int .i64 d] tD (0,0))→
  (∀k L A B b,J k L A→j0 A B→A.heap.size≤b→b<B.heap.size→J k (b::L) B)→(∀k L A B,J k L A→j0 A B→J k L B)→
  (∀m k L x W1,ws[k]? =some x→J k L W1→YieldAt Fence.wide m P l #[.int .i64 x.1,.int .i64 x.2] W1 fun e W'=>FW L W1 W'∧((e=.returned (.bool true)∧J (k+1) L W')∨(e=.returned (.bool false)∧Jx W')))→
  J 0 [] W→CallsIn Fence.wide n P gf (#[.func (.yield l) #[] #[]]++#[tn Bd]) W fun e W'=>(∃v,e=.returned v)∧((∃L,J ws.length L W')∨Jx W')
theorem SJ {P:Program}{E:cj}(hE:eW P E){call:bq}(hc:bV P E.ng call){N n:Nat}{tg tp tq:Nat}{assign body:Code}(hsa:fA assign=true)(hsb:fA body=true)
 {tabs:List Tb}(hgT:tabs.all (fun t=>Nat.blt t.g E.ng)=true){gf tD:Nat}{d:Int}{ws:List (Int×Int)}(hit:AJ P tabs gf tD d ws)(eg:∀args w,(callFunc gf args).run P w=.ok (.enter gf args) w)
 {T0:List (Nat×AV)}{bd nx0 nx1:Nat}(hng:E.ng≤nx0)(hnx:nx0≤nx1)
 (mS:Nat→List (Nat×ag))(fin:df×List (Nat×ag))(K:Nat)
 (hg:(aI T0).get tg=some (.fn gf [.ptr bd 0]))(htp:tp<N)(htq:tq<N)(htop:Nat.ble tp Tr.top=true)(htoq:Nat.ble tq Tr.top=true)
 {pre:Tr ag}(hd:pre.get bd=some ⟨.plain [.vint .i64 d],tD,0,false,true⟩)(hT:∀t∈tabs,qo pre t=true)
 (hsub:∀b k,(aI (mS 0)).get b=some k→pre.get b=some k)
 (T1:Int→Int→Tr AV)(hna:∀k x y q,bb E call fF N 999 [0] assign (aI ((tq,.vint .i64 y)::(tp,.vint .i64 x)::T0)) (cO ⟨[],mS k,nx1⟩ q)=some (.normal,T1 x y,cO ⟨[],mS k,nx1⟩ q))
 (hgo:∀k x,ws[k]? =some x→k<K→∃q ms rn,fo (bb E call fF N 999 [1] body (T1 x.1 x.2) (cO ⟨[],mS k,nx1⟩ q)) .normal ⟨[],mS (k+1),nx1⟩ nx0 rn=some ms∧ar ms)
 (hend:(K=ws.length∧fin=(.normal,mS K))∨(K<ws.length∧fin.1=.ret∧∀x,ws[K]? =some x→∃q ms rn,fo (bb E call fF N 999 [1] body (T1 x.1 x.2) (cO ⟨[],mS K,nx1⟩ q)) .ret ⟨[],fin.2,nx1⟩ nx0 rn=some ms∧ar ms))
 (γ:Gm)(a:Act)(w:World)(hf:cH γ E.ng (aI T0) N a)(hr:aJ γ pre.get nx0 w)(hgl:iO E.ng γ):
 (Code.rangeFunc (.tmp tg) #[tp,tq] assign body).wpIn Fence.wide n P (fun x a' w'=>x=fin.1.den∧∃γ' D,a'=eL [mark D] a∧cH γ' E.ng (aI T0) N a∧bT γ ⟨pre,nx0,[],[]⟩ w γ' ⟨aI fin.2,nx1,[],[]⟩ w'∧w.heap.size≤D∧w'.heap[D]? =some (.deferred (some []))∧γ'.fz D=none) a w:=by
 obtain⟨Bd,_,p1,p2,p3,p4⟩:=R7 hr hd
 cases p3
 have hgv:a.eval (.tmp tg)=.func (.func gf) #[] #[tn Bd]:=by
  have:=hf.tmp tg _ hg
  show a.tmps.getD tg undef=_
  cases hX:a.tmps.getD tg undef<;>rw[hX]at this<;>cases this
  rename_i h
  cases h with|cons h1 h=>
  cases h
  cases h1 with|ptr _ k1=>
  rw[p1]at k1
  cases k1
  rfl
 refine wpIn_rangeFunc ?_
 intro fn hfn
 obtain⟨rec,hrec⟩:∃rec:LoopState→Option Code→Loop,rec=fun st pe=>{state:=st,pending:=pe,fn,tmps:=a.tmps,params:=#[tp,tq],assign,body,defers:=w.heap.size}:=⟨_,rfl⟩
 obtain⟨W1,hW1⟩:∃W1,(w.alloc (.deferred (some []))).alloc (.loop (rec .ready none))=W1:=⟨_,rfl⟩
 have hext:j0 w W1:=by rw[←hW1];exact(uD _ _).trans (uD _ _)
 have hsz1:W1.heap.size=w.heap.size+2:=by rw[←hW1];simp
 have hL1:W1.heap[w.heap.size+1]? =some (.loop (rec .ready none)):=by
  rw[←hW1];have:=World.alloc_heap_new (w.alloc (.deferred (some []))) (.loop (rec .ready none));rwa[World.size_alloc]at this
 have hD1:W1.heap[w.heap.size]? =some (.deferred (some [])):=by
  rw[←hW1];exact(Below.heap_alloc _ _ _ si).trans (World.alloc_heap_new w _)
 have hd1:W1.heap[Bd]? =some (.cells #[.int .i64 d] tD (0,0)):=(hext.heap Bd p4).trans p2
 have hT1:jU tabs W1:=by
  intro t ht
  have h0:i9 t w:=yg hr hgl (aT (cK.1 hgT t ht)) (hT t ht)
  obtain⟨o,ho⟩:=h0.ex
  exact h0.of_eq (hext.heap t.g (eI.1 ho).1)
 -- the state with which the rounds begin
 let H0:Hs:=⟨aI (mS 0),nx0,[],[]⟩
 have hr00:aJ γ (aI (mS 0)).get nx0 w:=hr.sub hsub
 have hr0:aJ γ H0.m.get H0.nx W1:=ES hr00 hext
 have nl:gK γ (aI (mS 0)).get (w.heap.size+1):=yi hr0 hL1 rfl
 have nD:gK γ (aI (mS 0)).get w.heap.size:=yi hr0 hD1 rfl
 have zl:γ.fz (w.heap.size+1)=none:=As hr om
 have zD:γ.fz w.heap.size=none:=As hr om
 have off:∀{l:Nat}{γ1:Gm}{S:Hs}{W:World},bT γ H0 W1 γ1 S W→l<W1.heap.size→gK γ (aI (mS 0)).get l→γ.fz l=none→gK γ1 S.m.get l∧γ1.fz l=none:=fun hR hl h1 h2=>oR hr0 hR.stp hl h1 h2
 let J:Nat→List Nat→World→Prop:=fun k L W=>k≤K∧(∃γ1,bT γ H0 W1 γ1 (cO ⟨[],mS k,nx1⟩ []) W∧∀b∈L,W1.heap.size≤b∧b<W.heap.size∧gK γ1 (aI (mS k)).get b∧γ1.fz b=none)∧W.heap[w.heap.size+1]? =some (.loop (rec .ready none))∧W.heap[w.heap.size]? =some (.deferred (some []))∧W1.heap.size≤W.heap.size
 let Jx:World→Prop:=fun W=>K<ws.length∧(∃γ1,bT γ H0 W1 γ1 (cO ⟨[],fin.2,nx1⟩ []) (W.putObj (w.heap.size+1) (.loop (rec .ready none))))∧W.heap[w.heap.size+1]? =some (.loop (rec .done (some .ret)))∧W.heap[w.heap.size]? =some (.deferred (some []))∧W1.heap.size≤W.heap.size
 refine⟨w.heap.size+1,[mark w.heap.size],W1,{target:=.fn (.func gf) #[tn Bd],args:=#[.func (.yield (w.heap.size+1)) #[] #[]]},W1,gf,
  #[.func (.yield (w.heap.size+1)) #[] #[]]++#[tn Bd],W1,?_,?_,fun _ _=>trivial,?_,fun h=>by simp[Fence.wide]at h,?_⟩
 ·rw[←hW1,hrec];exact run_enterLoop_outer _ _ _ _ _
 ·simp only[resolve,hgv]
  simp[go_sem]
 ·simp[invoke,go_sem,eg]
 have hJ0:J 0 [] W1:=⟨bQ _,⟨γ,⟨be.refl (hr0.nx_mono hnx),hnx,fun _ _=>rfl⟩,fun b hb=>by cases hb⟩,hL1,hD1,bp _⟩
 have hstable:∀k L A B,J k L A→j0 A B→J k L B:=by
  rintro k L A B ⟨j1,⟨γ1,hR,hL⟩,j3,j4,j5⟩ h
  refine⟨j1,⟨γ1,⟨hR.stp.trans (za hR.stp.rel h),hR.nx,hR.keep⟩,fun b hb=>?_⟩,?_,?_,cl j5 h.size⟩
  ·obtain⟨a1,a2,a3,a4⟩:=hL b hb
   exact⟨a1,jE a2 h.size,a3,a4⟩
  ·rw[h.heap _ om];exact j3
  ·rw[h.heap _ om];exact j4
 have hgrow:∀k L A B b,J k L A→j0 A B→A.heap.size≤b→b<B.heap.size→J k (b::L) B:=by
  intro k L A B b hJ h hb1 hb2
  have hJ':=hstable k L A B hJ h
  obtain⟨j1,⟨γ1,hR,hL⟩,j3,j4,j5⟩:=hJ
  refine⟨j1,⟨γ1,⟨hR.stp.trans (za hR.stp.rel h),hR.nx,hR.keep⟩,fun c hc=>?_⟩,hJ'.2.2.1,hJ'.2.2.2.1,hJ'.2.2.2.2⟩
  rcases bC.1 hc with rfl|hc
  ·exact⟨om,hb2,NV hR.stp.rel hb1,As hR.stp.rel hb1⟩
  ·obtain⟨a1,a2,a3,a4⟩:=hL c hc
   exact⟨a1,jE a2 h.size,a3,a4⟩
 refine(hit (n-1) (w.heap.size+1) Bd J Jx W1 hT1 hd1 hgrow hstable ?_ hJ0).mono ?_
 ·-- one round
  rintro m k L x V hx ⟨j1,⟨γ1,hR,hL⟩,j3,j4,j5⟩
  have hrV:aJ γ1 (aI (mS k)).get nx1 V:=hR.stp.rel
  have hf0:=hf.mono hR.stp.le
  have hput1:iu N (aI T0) (some tp) (.vint .i64 x.1)=some (aI ((tp,.vint .i64 x.1)::T0)):=by
   unfold iu
   have:Nat.blt tp N=true:=fW htp
   simp only[this,aU]
   unfold Tr.set
   rw[htop]
   rfl
  have hput2:iu N (aI ((tp,.vint .i64 x.1)::T0)) (some tq) (.vint .i64 x.2)=some (aI ((tq,.vint .i64 x.2)::(tp,.vint .i64 x.1)::T0)):=by
   unfold iu
   have:Nat.blt tq N=true:=fW htq
   simp only[this,aU]
   unfold Tr.set
   rw[htoq]
   rfl
  have hfr:=vL (vL hf0 (V:=.int .i64 x.1) (.vint _ _) hput1) (V:=.int .i64 x.2) (.vint _ _) hput2
  have hd0:a.defers=[]:=hf.defers
  have hact:((a.put (some tp) (.int .i64 x.1)).put (some tq) (.int .i64 x.2))=eL [] {tmps:=(#[tp,tq].zip #[Value.int .i64 x.1,Value.int .i64 x.2]).foldl (fun t (p,v)=>t.setIfInBounds p v) a.tmps,defers:=[]}:=by
   unfold eL Act.put
   simp[hd0]
  have hy:=run_yield (P:=P) (args:=#[Value.int .i64 x.1,Value.int .i64 x.2]) j3 (by rw[hrec];rfl)
  rw[hrec]at hy
  -- the run of the body
  obtain⟨fl,q,ms,rn,Sn,hout,hall,hfl⟩:∃(fl:df) (q:List Bool) (ms:List Prop) (rn:List (Nat×Nat)) (Sn:List (Nat×ag)),fo (bb E call fF N 999 [1] body (T1 x.1 x.2) (cO ⟨[],mS k,nx1⟩ q)) fl ⟨[],Sn,nx1⟩ nx0 rn=some ms∧ar ms∧((fl=.normal∧k+1≤K∧Sn=mS (k+1))∨(fl=.ret∧K<ws.length∧Sn=fin.2)):=by
   rcases bA k K with h|h
   ·obtain⟨q,ms,rn,h1,h2⟩:=hgo k x hx h
    exact⟨_,q,ms,rn,_,h1,h2,.inl ⟨rfl,h,rfl⟩⟩
   ·have e:k=K:=by omega
    subst e
    have hkl:=(xK.1 hx).1
    rcases hend with⟨h1,_⟩|⟨h1,h2,h3⟩
    ·omega
    ·obtain⟨q,ms,rn,h4,h5⟩:=h3 x hx
     exact⟨_,q,ms,rn,_,h4,h5,.inr ⟨rfl,h1,rfl⟩⟩
  cases hev:bb E call fF N 999 [1] body (T1 x.1 x.2) (cO ⟨[],mS k,nx1⟩ q)with
  |none=>rw[hev]at hout;unfold fo at hout;cases hout
  |some res=>
  obtain⟨e',T',H'⟩:=res
  rw[hev]at hout
  have hms:=run_ms hout hall
  refine⟨fn,_,assign,body,hy,roundIn_of_wpIn trivial ?_⟩
  have h1:=rP hE hc (lo:=fF) (N:=N) (ro:=some (w.heap.size+1)) (m:=m) (ds:=[]) 999 [0] assign _ _ _ _ .normal hsa (hna k x.1 x.2 q) (fun q hq=>by cases hq) γ1 _ V hfr hrV
  have hl0:∀b:Act,eL [] b=b:=fun b=>by unfold eL;rw[kf]
  rw[hl0,hact,hl0]at h1
  refine wpIn_mono h1 ?_
  rintro e a₁ w₁ ⟨rfl,γ2,a0,rfl,hf2,hR2⟩
  have hlV:w.heap.size+1<V.heap.size:=by omega
  obtain⟨al,bl⟩:=off hR om nl zl
  obtain⟨aD,bD⟩:=off hR om nD zD
  obtain⟨al2,bl2⟩:=oR hrV hR2.stp hlV al bl
  obtain⟨aD2,bD2⟩:=oR hrV hR2.stp om aD bD
  have hsz2:=hR2.stp.size
  have hl1:w₁.heap[w.heap.size+1]? =some (.loop (rec .ready none)):=(hR2.stp.frame _ hlV al.own).trans j3
  refine⟨_,run_beginRound hl1 (by rw[hrec]),?_⟩
  obtain⟨w₂,hw2⟩:∃w₂,w₂=w₁.putObj (w.heap.size+1) (.loop {rec .ready none with state:=.busy}):=⟨_,rfl⟩
  rw[←hw2]
  have hrel2:aJ γ2 (aI (mS k)).get nx1 w₂:=by rw[hw2];exact yZ hR2.stp.rel al2 bl2 _
  have hsz22:w₂.heap.size=w₁.heap.size:=by rw[hw2];simp
  have h2:=rP hE hc (lo:=fF) (N:=N) (ro:=some (w.heap.size+1)) (m:=m) (ds:=[]) 999 [1] body _ _ _ _ e' hsb hev hms γ2 a0 w₂ hf2 hrel2
  rw[hl0]at h2
  rw[hl0]
  refine wpIn_mono h2 ?_
  rintro e2 a3 W3 ⟨rfl,γ3,a4,rfl,hf3,hR3⟩
  have hl2:w₂.heap[w.heap.size+1]? =some (.loop {rec .ready none with state:=.busy}):=by rw[hw2];exact World.putObj_heap_same om
  have hl3:W3.heap[w.heap.size+1]? =some (.loop {rec .ready none with state:=.busy}):=(hR3.stp.frame _ om al2.own).trans hl2
  have hoth:∀B,B<V.heap.size→B≠w.heap.size+1→gK γ1 (aI (mS k)).get B→gK γ2 (aI (mS k)).get B→W3.heap[B]? =V.heap[B]? :=by
   intro B hB hne i1 i2
   rw[hR3.stp.frame B om i2.own,hw2,lL hne,hR2.stp.frame B hB i1.own]
  have hsz3:=hR3.stp.size
  have hD3:W3.heap[w.heap.size]? =some (.deferred (some [])):=(hoth _ om om aD aD2).trans j4
  -- as though the record were ready
  have hRR:bT γ H0 W1 γ3 H' (W3.putObj (w.heap.size+1) (.loop (rec .ready none))):=by
   have t2:=EQ hrel2 (l:=w.heap.size+1) om al2 bl2 hR3.stp (.loop (rec .ready none))
   rw[hw2,yC _ hl1]at t2
   exact⟨hR.stp.trans (hR2.stp.trans t2),cl hR.nx (cl hR2.nx hR3.nx),fun c hc'=>((hR3.keep c (jE hc' (cl hR.nx hR2.nx))).trans (hR2.keep c (jE hc' hR.nx))).trans (hR.keep c hc')⟩
  have hR12:be γ1 (aI (mS k)).get V γ3 H'.m.get H'.nx (W3.putObj (w.heap.size+1) (.loop (rec .ready none))):=by
   have t2:=EQ hrel2 (l:=w.heap.size+1) om al2 bl2 hR3.stp (.loop (rec .ready none))
   rw[hw2,yC _ hl1]at t2
   exact hR2.stp.trans t2
  obtain⟨he,γ4,g1,g2⟩:=qm (ng:=E.ng) hr0 hng hout ((iZ ms).1 hall) hf3 hRR
  have hkeep:∀o,FW L V (W3.putObj (w.heap.size+1) o):=by
   intro o
   refine⟨by simp;omega,fun i hi=>?_⟩
   obtain⟨a1,a2,a3,a4⟩:=hL i hi
   obtain⟨b1,b2⟩:=oR hrV hR2.stp a2 a3 a4
   rw[lL om]
   exact hoth _ a2 om a3 b1
  have hlt3:w.heap.size+1<W3.heap.size:=by omega
  rcases hfl with⟨rfl,hk,rfl⟩|⟨rfl,hk,rfl⟩
  ·subst he
   have hend3:=run_endRound (P:=P) none hl3
   -- what the iterator has made lies beside what the body knows
   obtain⟨γ5,g5,g6⟩:∃γ5,bT γ H0 W1 γ5 (cO ⟨[],mS (k+1),nx1⟩ []) (W3.putObj (w.heap.size+1) (.loop (rec .ready none)))∧∀b∈L,W1.heap.size≤b∧b<W3.heap.size∧gK γ5 (aI (mS (k+1))).get b∧γ5.fz b=none:=by
    obtain⟨_,γ4,g1,g2,g3⟩:=Oe (ng:=E.ng) hr0 hng hout ((iZ ms).1 hall) hf3 hRR
    refine⟨γ4,g2,fun b hb=>?_⟩
    obtain⟨a1,a2,a3,a4⟩:=hL b hb
    obtain⟨b1,b2⟩:=oR hrV hR12 a2 a3 a4
    obtain⟨c1,c2⟩:=g3 b b1 b2
    exact⟨a1,om,c1,c2⟩
   refine⟨_,_,hend3,hkeep _,.inl ⟨rfl,hk,⟨γ5,?_,?_⟩,?_,?_,?_⟩⟩
   ·rw[hrec]at g5⊢;exact g5
   ·intro b hb
    obtain⟨a1,a2,a3,a4⟩:=g6 b hb
    exact⟨a1,by simpa using a2,a3,a4⟩
   ·rw[hrec];exact World.putObj_heap_same hlt3
   ·rw[lL om];exact hD3
   ·simp;omega
  ·subst he
   have hend3:=run_endRound (P:=P) (some .ret) hl3
   refine⟨_,_,hend3,hkeep _,.inr ⟨rfl,hk,⟨γ4,?_⟩,?_,?_,?_⟩⟩
   ·rw[EO];exact g2
   ·rw[hrec];exact World.putObj_heap_same hlt3
   ·rw[lL om];exact hD3
   ·simp;omega
 ·-- behind the iterator
  have back:∀(W2:World)(S:List (Nat×ag))(γ1:Gm)(st:LoopState)(pe:Option Code),bT γ H0 W1 γ1 (cO ⟨[],S,nx1⟩ []) (W2.putObj (w.heap.size+1) (.loop (rec .ready none)))→W1.heap.size≤W2.heap.size→W2.heap[w.heap.size+1]? =some (.loop (rec st pe))→W2.heap[w.heap.size]? =some (.deferred (some []))→∀o,bT γ ⟨pre,nx0,[],[]⟩ w γ1 ⟨aI S,nx1,[],[]⟩ (W2.putObj (w.heap.size+1) o)∧(W2.putObj (w.heap.size+1) o).heap[w.heap.size]? =some (.deferred (some []))∧γ1.fz w.heap.size=none:=by
   intro W2 S γ1 st pe hR hsz hl hD o
   have hw:sD γ pre.get (aI (mS 0)).get:=fun b k hb=>⟨k,hsub b k hb,rfl,rfl,rfl,rfl,fun _ h=>h,fun _=>rfl⟩
   obtain⟨a2,b2⟩:=off hR om nl zl
   obtain⟨a3,b3⟩:=off hR om nD zD
   have t0:=(za hr hext).trans (hR.stp.weak hw)
   have t2:=ER t0 a2 b2 (.inr om) o
   rw[EO]at t2
   exact⟨⟨t2,cl hnx (bp _),fun c hc'=>hR.keep c hc'⟩,by rw[lL om];exact hD,b3⟩
  have hlift:({a with defers:=[mark w.heap.size]++a.defers}:Act)=eL [mark w.heap.size] a:=by unfold eL;rw[hf.defers];rfl
  rintro e W2 ⟨⟨v,rfl⟩,⟨L,j1,⟨γ1,hR,_⟩,j3,j4,j5⟩|⟨j1,⟨γ1,hR⟩,j3,j4,j5⟩⟩
  ·have hfin:K=ws.length∧fin=(.normal,mS K):=by
    rcases hend with h|⟨h,_⟩
    ·exact h
    ·omega
   have hR':bT γ H0 W1 γ1 (cO ⟨[],mS ws.length,nx1⟩ []) (W2.putObj (w.heap.size+1) (.loop (rec .ready none))):=by rw[NU j3];exact hR
   obtain⟨q1,q2,q3⟩:=back W2 _ γ1 _ _ hR' j5 j3 j4 (.loop {rec .ready none with state:=.exhausted})
   refine⟨none,_,(run_endLoop (P:=P) j3 (by rw[hrec];simp)).trans (congrArg (fun p=>Result.ok p _) (show(rec .ready none).pending=none by rw[hrec])),?_⟩
   show _∧_
   rw[hfin.2,hlift]
   refine⟨rfl,γ1,w.heap.size,rfl,hf.mono q1.stp.le,?_,bp _,?_,q3⟩
   ·rw[hfin.1];exact q1
   ·exact q2
  ·have hfin:fin.1=.ret:=by
    rcases hend with⟨h,_⟩|⟨_,h,_⟩
    ·omega
    ·exact h
   obtain⟨q1,q2,q3⟩:=back W2 _ γ1 _ _ hR j5 j3 j4 (.loop {rec .done (some .ret)with state:=.exhausted})
   refine⟨some .ret,_,(run_endLoop (P:=P) j3 (by rw[hrec];simp)).trans (congrArg (fun p=>Result.ok p _) (show(rec .done (some .ret)).pending=some .ret by rw[hrec])),?_⟩
   refine wpIn_ret ?_
   rw[hfin,hlift]
   refine⟨rfl,γ1,w.heap.size,rfl,hf.mono q1.stp.le,?_,bp _,?_,q3⟩
   ·exact q1
   ·exact q2
theorem Ov {P:Program}{E:cj}(hE:eW P E){call:bq}(hc:bV P E.ng call){f:Nat}{fn:Func}(hfn:P.funcs[f]? =some fn){L:List Code}{D R assign body:Code}{tg tp tq id:Nat}
 (hbd:fn.body=some (jz L (.seq (.seq D (.block id (.rangeFunc (.tmp tg) #[tp,tq] assign body))) R)))(hsp:fA (jz L D)=true)(hsR:fA R=true)(hsa:fA assign=true)(hsb:fA body=true)
 {A:List RV}(hlen:(RV.avl A).length<1000){N:Nat}(hN:N=Nat.max (RV.avl A).length fn.ntmps){tabs:List Tb}(hg:tabs.all (fun t=>Nat.blt t.g E.ng)=true)(hok:eP (dH tabs)=true)(hng:Nat.ble E.ng 1000=true)
 {gf tD:Nat}{d:Int}{ws:List (Int×Int)}(hit:AJ P tabs gf tD d ws)(eg:∀args w,(callFunc gf args).run P w=.ok (.enter gf args) w)
 {T0:List (Nat×AV)}{pre:List (Nat×ag)}{bd nx0 nx1:Nat}(hnx0:1000≤nx0)(hnx:nx0≤nx1)
 (hpre:∃q ms,eM (bb E call fF N 999 [] (jz L D) (Tr.ofList (RV.avl A)) ⟨aI (dH tabs),1000,q,[]⟩) .normal ⟨T0,pre,nx0⟩ 1000=some ms∧ar ms)
 (mS:Nat→List (Nat×ag))(fin:df×List (Nat×ag))(K:Nat)
 (hgt:(aI T0).get tg=some (.fn gf [.ptr bd 0]))(htp:tp<N)(htq:tq<N)(htop:Nat.ble tp Tr.top=true)(htoq:Nat.ble tq Tr.top=true)
 (hd:(aI pre).get bd=some ⟨.plain [.vint .i64 d],tD,0,false,true⟩)(hT:∀t∈tabs,qo (aI pre) t=true)
 (hsub:∀b k,(aI (mS 0)).get b=some k→(aI pre).get b=some k)
 (T1:Int→Int→Tr AV)(hna:∀k x y q,bb E call fF N 999 [0] assign (aI ((tq,.vint .i64 y)::(tp,.vint .i64 x)::T0)) (cO ⟨[],mS k,nx1⟩ q)=some (.normal,T1 x y,cO ⟨[],mS k,nx1⟩ q))
 (hgo:∀k x,ws[k]? =some x→k<K→∃q ms rn,fo (bb E call fF N 999 [1] body (T1 x.1 x.2) (cO ⟨[],mS k,nx1⟩ q)) .normal ⟨[],mS (k+1),nx1⟩ nx0 rn=some ms∧ar ms)
 (hend:(K=ws.length∧fin=(.normal,mS K))∨(K<ws.length∧fin.1=.ret∧∀x,ws[K]? =some x→∃q ms rn,fo (bb E call fF N 999 [1] body (T1 x.1 x.2) (cO ⟨[],mS K,nx1⟩ q)) .ret ⟨[],fin.2,nx1⟩ nx0 rn=some ms∧ar ms))
 {V:RV}(hpost:∃q ms,kx (s8 E call N fn R T0 fin nx1 q) V=some ms∧ar ms):ax P tabs f A V:=by
 obtain⟨q1,ms1,hout1,hall1⟩:=hpre
 obtain⟨q2,ms2,hout2,hall2⟩:=hpost
 have hng0:=aT hng
 -- what comes behind the range
 obtain⟨v,H',m1,hpf,hrd,hm1,hHm⟩:∃v H' m1,s8 E call N fn R T0 fin nx1 q2=some (v,H')∧rd H'.m v V=some m1∧(∀q∈m1,q)∧∀q∈H'.ms,q:=by
  unfold kx at hout2
  split at hout2
  ·cases hout2
  ·rename_i v H' hpf
   split at hout2
   ·cases hout2
   ·rename_i m1 hrd
    cases hout2
    rw[iZ]at hall2
    obtain⟨h1,h2⟩:=dJ hall2
    exact⟨v,H',m1,hpf,hrd,h1,h2⟩
 refine Lw hfn (by rw[hbd];rfl) hg hok hng hrd hm1 ?_
 intro γ w Args hr hA hgl
 have hl:=hA.length
 have hNs:(Args.toArray++Array.replicate (fn.ntmps-Args.toArray.size) undef).size=N:=by
  rw[hN]
  simp only[Array.size_append,pO,Array.size_replicate,hl]
  show _=max _ _
  omega
 have hf:cH γ E.ng (Tr.ofList (RV.avl A)) N {tmps:=Args.toArray++Array.replicate (fn.ntmps-Args.toArray.size) undef,defers:=[]}:=
  ⟨rfl,hNs,fun t v hv=>Ed hA om _ t hv,hgl⟩
 refine(callsIn_wide (n:=0)).1 (callsIn_of_wp_marks hfn hbd trivial ?_ rfl)
 cases hev:bb E call fF N 999 [] (jz L D) (Tr.ofList (RV.avl A)) ⟨aI (dH tabs),1000,q1,[]⟩with
 |none=>rw[hev]at hout1;unfold eM fo at hout1;cases hout1
 |some res=>
 obtain⟨e',T',H1⟩:=res
 rw[hev]at hout1
 have hms1:=run_ms hout1 hall1
 have he0:=Vr hout1
 subst he0
 refine GA hE hc L 999 [] _ _ _ _ hsp hev hms1 γ _ w hf hr ?_
 intro γ1 a1 w1 hf1 hR1
 obtain⟨_,γ2,hf2,hR2⟩:=qm (ng:=E.ng) (H0:=⟨aI (dH tabs),1000,[],[]⟩) hr hng0 hout1 ((iZ ms1).1 hall1) hf1 ⟨hR1.stp,hR1.nx,hR1.keep⟩
 refine wpIn_block (wpIn_mono (SJ hE hc hsa hsb hg hit eg om hnx mS fin K hgt htp htq htop htoq hd hT hsub T1 hna hgo hend γ2 a1 w1 hf2 hR2.stp.rel hf2.glob) ?_)
 rintro x a' w2 ⟨rfl,γ3,Dk,rfl,hf3,hR3,hD1,hD2,hD3⟩
 -- the end, at a state that says T, H
 have finish:∀(e:df)(T:Tr AV)(a4:Act)(w4:World)(γ4:Gm),(∀i,e≠.exit i)→qZ E fn T H'=some (v,H')→cH γ4 E.ng T N a4→bT γ3 ⟨aI fin.2,nx1,[],[]⟩ w2 γ4 H' w4→
  bodyPostM Fence.wide 0 P fn (fun e w'=>∃V γ',e=.returned V∧aj γ' v V∧bT γ ⟨aI (dH tabs),1000,[],[]⟩ w γ' H' w') e.den (eL [mark Dk] a4) w4:=by
  intro e T a4 w4 γ4 hne hres hf4 hR4
  have nD:=yi hR3.stp.rel hD2 rfl
  have hDlt:Dk<w2.heap.size:=(eI.1 hD2).1
  obtain⟨n4,z4⟩:=oR hR3.stp.rel hR4.stp hDlt nD hD3
  have hD4:w4.heap[Dk]? =some (.deferred (some [])):=(hR4.stp.frame _ hDlt nD.own).trans hD2
  have tot:bT γ ⟨aI (dH tabs),1000,[],[]⟩ w γ4 H' (w4.putObj Dk (.deferred none)):=by
   have t1:=(hR2.trans (H1:=⟨aI pre,nx0,[],[]⟩) hR3).trans hR4
   exact⟨ER t1.stp n4 z4 (.inr (cl hR2.stp.size hD1)) _,t1.nx,t1.keep⟩
  unfold qZ at hres
  split at hres
  ·cases hres
  ·rename_i vs hvs
   cases hres
   obtain⟨Vs,h1,h2⟩:=Fn (P:=P) hE.ti hf4 tot.stp.rel fn.results.toList vs hvs
   have hres:(results fn a4.tmps).run P (w4.putObj Dk (.deferred none))=.ok (if hs:Vs.toArray.size=1 then Vs.toArray[0]else .tuple Vs.toArray) (w4.putObj Dk (.deferred none)):=by
    unfold results
    rw[Array.mapM_eq_mapM_toList]
    simp only[Sem.run_bind,Sem.run_map,Sem.run_pure]
    exact congrArg (fun r:Result (List Value)=>(r.andThen fun a w'=>Result.ok a.toArray w').andThen fun a w'=>Result.ok (if h:a.size=1 then a[0]else Value.tuple a) w') h1
   have hd:(eL [mark Dk] a4).defers=[mark Dk]:=by unfold eL;rw[hf4.defers];rfl
   have hleave:LeavesInM Fence.wide 0 P fn (eL [mark Dk] a4).tmps (fun e w'=>∃V γ',e=.returned V∧aj γ' (tJ vs) V∧bT γ ⟨aI (dH tabs),1000,[],[]⟩ w γ' H' w') (eL [mark Dk] a4).defers .returning w4:=by
    rw[hd]
    exact⟨si,.inl ⟨Dk,_,rfl,run_takeDeferred hD4,_,hres,_,γ4,rfl,Fo h2,tot⟩⟩
   cases e with
   |normal=>exact hleave
   |ret=>exact hleave
   |exit i=>exact(hne i rfl).elim
 unfold s8 at hpf
 obtain⟨f1,f2⟩:=fin
 cases f1 with
 |exit i=>cases hpf
 |ret=>
  have hH:H'=⟨aI f2,nx1,[],[]⟩:=by
   simp only[qZ]at hpf
   split at hpf
   ·cases hpf
   ·cases hpf;rfl
  subst hH
  exact finish .ret _ a1 w2 γ3 (fun i h=>by cases h) hpf hf3 (bT.refl hR3.stp.rel)
 |normal=>
  simp only at hpf
  split at hpf
  ·cases hpf
  ·cases hpf
  ·rename_i e4 T4 H4 hne4 hev4
   have hH:H'=H4:=by
    simp only[qZ]at hpf
    split at hpf
    ·cases hpf
    ·cases hpf;rfl
   subst hH
   have h4:=rP hE hc (lo:=fF) (N:=N) (ro:=none) (m:=0) (ds:=[mark Dk]) 999 [2] R _ _ _ _ e4 hsR hev4 hHm γ3 a1 w2 hf3 hR3.stp.rel
   refine wpIn_mono h4 ?_
   rintro x a5 w5 ⟨rfl,γ5,a6,rfl,g1,g2⟩
   exact finish e4 T4 a6 w5 γ5 (fun i h=>hne4 i h) hpf g1 ⟨g2.stp,g2.nx,g2.keep⟩
end Go.QfSy
namespace Go.Proofs.YtdbdoalefmliiaaGreatDoor.S
open Go.RowKit Go.QfSy Go.Lib
section
attribute [local go_sem] Oper.semAt_some
theorem OC {W:World}{B t:Nat}{v:Value}(h:W.heap[B]? =some (.cells #[v] t (0,0))):W.cell? ⟨B,0,none⟩=some v∧W.frozen? ⟨B,0,none⟩=false:=by
 constructor
 ·simp[World.cell?,h]
 ·simp[World.frozen?,h]
def kN (P:List aN)(k:Nat):Int×Int:=((P.getD k aN.zero).prime,(P.getD k aN.zero).exp-(bif Nat.beq k 0 then 1 else 0))
def kd (P:List aN):List (Int×Int):=(List.range P.length).map (kN P)
theorem Fk {P:List aN}{k:Nat}(h:k<P.length):(kd P)[k]? =some (kN P k):=by
 unfold kd;simp[h]
theorem vj (P:List aN):(kd P).length=P.length:=by unfold kd;simp
structure tC (W:World)(B o:Nat)(P:List aN):Prop where
 lt:B<W.heap.size
 c0:∀i,i<P.length→W.cell? ⟨B,o+i*2,none⟩=some (.int .i64 (P.getD i aN.zero).prime)
 c1:∀i,i<P.length→W.cell? ⟨B,o+i*2+1,none⟩=some (.int .i64 (P.getD i aN.zero).exp)
theorem tC.heap {W W':World}{B o:Nat}{P:List aN}(h:tC W B o P)(hs:W.heap.size≤W'.heap.size)(he:W'.heap[B]? =W.heap[B]?):tC W' B o P:=by
 have k:∀j,W'.cell? ⟨B,j,none⟩=W.cell? ⟨B,j,none⟩:=fun j=>by simp only[World.cell?,he]
 exact⟨jE h.lt hs,fun i hi=>by rw[k];exact h.c0 i hi,fun i hi=>by rw[k];exact h.c1 i hi⟩
theorem M6 (d:Nat)(h0:0<d)(hb:d≤10000)(w:World)(hT:jU [aL] w):Calls Tryz.prog 9 #[.int .i64 (2*(d:Int))] w fun e w'=>∃B o c,e=.returned (.tuple #[.slice (some ⟨B,o,none⟩) (ba (2*d)).length c,.int .i64 0])∧j0 w w'∧w.heap.size≤B∧tC w' B o (ba (2*d)):=by
 have hp:=yT (2*d) om om
 have hlen:0<(ba (2*d)).length:=by rw[qa om om];simp
 have h1:=hp.2 w (fun _=>none) [.int .i64 ((2*d:Nat):Int)] hT (fun B x h=>by cases h) (.cons (.int _ _) .nil)
 rw[show((2*d:Nat):Int)=2*(d:Int) by omega]at h1
 refine h1.mono ?_
 rintro e w' ⟨V,F',rfl,_,hV,hF,hR,hb⟩
 cases hR with|tup hR=>
 cases hR with|cons r1 hR=>cases hR with|cons r2 hR=>
 cases hR
 cases r2
 unfold dU at r1
 cases r1 with
 |sl0 _ _ _ _ hn=>have hn:(ba (2*d)).length=0:=hn;omega
 |@sl _ _ B o c _ cs hc hl hf h=>
  have key:∀i,i<(ba (2*d)).length→∀j v,([.int .i64 ((ba (2*d)).getD i aN.zero).prime,.int .i64 ((ba (2*d)).getD i aN.zero).exp]:List Value)[j]? =some v→w'.cell? ⟨B,o+i*2+j,none⟩=some v∧(w.heap.size≤B∧B<w'.heap.size):=by
   intro i hi j v hv
   have e1:cs i=[.int .i64 ((ba (2*d)).getD i aN.zero).prime,.int .i64 ((ba (2*d)).getD i aN.zero).exp]:=by
    have h2:bY F' (aN.rvs ((ba (2*d)).getD i aN.zero)) (cs i):=h i hi
    unfold aN.rvs at h2
    generalize cs i=z at h2
    cases h2 with|cons a b=>cases b with|cons b1 b2=>cases b2;cases a;cases b1;rfl
   obtain⟨cc,el,fr,k1,k2⟩:=hf i j v hi (by rw[e1];exact hv)
   have k3:=hV _ _ k1
   refine⟨?_,?_,(eI.1 k3).1⟩
   ·have k2:cc[o+i*2+j]? =some v:=k2
    simp only[World.cell?,k3,Option.isSome_none,nh,iF]
    exact k2
   ·rcases hF _ _ k1 with h4|h4
    ·cases h4
    ·exact h4
  refine⟨B,o,c,rfl,⟨hb.os,hb.tape,hb.output,hb.drawn,hb.size,hb.block⟩,(key 0 hlen 0 _ rfl).2.1,(key 0 hlen 0 _ rfl).2.2,fun i hi=>(key i hi 0 _ rfl).1,fun i hi=>(key i hi 1 _ rfl).1⟩
theorem D9:∀(f n:Nat),(jy f n).length≤f
 |0,n=>by simp[jy]
 |f+1,n=>by
  unfold jy
  cases Nat.ble n 1 with
  |true=>exact bQ _
  |false=>exact Nat.succ_le_succ (D9 f _)
theorem AO:∀(f p n:Nat),(vG f p n).1≤f
 |0,p,n=>bp _
 |f+1,p,n=>by
  unfold vG
  cases Nat.beq (n%p) 0 with
  |true=>exact Nat.succ_le_succ (AO f p (n/p))
  |false=>exact bQ _
theorem Ea:∀(f n:Nat),∀q∈jy f n,0≤q.exp∧q.exp≤40
 |0,n,q,h=>by simp[jy]at h
 |f+1,n,q,h=>by
  unfold jy at h
  cases hb:Nat.ble n 1 with
  |true=>rw[hb]at h;simp at h
  |false=>
   rw[hb,bt]at h
   rcases bC.1 h with e|h
   ·subst e
    have:(vv (ld n) n).1≤40:=AO 40 _ _
    show 0≤(((vv (ld n) n).1:Nat):Int)∧(((vv (ld n) n).1:Nat):Int)≤40
    omega
   ·exact Ea f _ q h
set_option maxHeartbeats 4000000 in
theorem OD (d:Nat)(h0:0<d)(hb:d≤10000):AJ Tryz.prog [aL] 63 2 (d:Int) (kd (ba (2*d))):=by
 intro n l Bd J Jx W hT hd hgrow hst hY hJ0
 refine callsIn_of_wp Tryz.func63 rfl trivial ?_ rfl
 simp only[tn,Tryz.ntmps63,pO,dg,ic,Nat.reduceAdd,Nat.reduceSub,Array.replicate_succ,Array.replicate_zero,List.push_toArray,List.append_toArray,pQ,kT]
 obtain⟨cd,fd⟩:=OC hd
 have hfac:=fun w hT=>M6 d h0 hb w hT
 have hw2:IntKind.i64.wrap (2*(d:Int))=2*(d:Int):=og om om
 obtain⟨P,hP⟩:∃P,P=ba (2*d):=⟨_,rfl⟩
 rw[←hP]at hfac hY⊢
 have hm:P.length≤1000:=by
  rw[hP]
  exact cl (D9 40 (2*d)) om
 have hex:∀k,k<P.length→0≤(P.getD k aN.zero).exp∧(P.getD k aN.zero).exp≤40:=by
  intro k hk
  rw[hP]at hk⊢
  rw[ev,gS hk]
  exact Ea 40 (2*d) _ (jF hk)
 clear hP
 obtain⟨m,hmP⟩:∃m,m=P.length:=⟨_,rfl⟩
 rw[←hmP]at hfac hm
 gi_wp2
 refine⟨trivial,(fun h=>by first|(cases h;done)|(simp[Fence.wide]at h;done)),(callsIn_wide.2 (hfac _ hT)).mono ?_⟩
 rintro e w' ⟨B,o,c,rfl,hE,hB,hR⟩
 have hJ1:=hgrow _ _ _ _ B hJ0 hE hB hR.lt
 gi_wp2
 gi_loopw [15] (fun i wr=>∃k:Nat,k≤m∧i=.int .i64 (k:Int)∧J k [B] wr∧tC wr B o P) (fun i _=>m-(intOf i).toNat)
 case atStart=>exact⟨0,bQ _,rfl,hJ1,hR⟩
 case round=>
  obtain⟨k,hk,rfl,hJ,hR'⟩:=hrel
  by_cases hlt:k<m
  ·obtain⟨pp,hpp⟩:∃pp,(P.getD k aN.zero).prime=pp:=⟨_,rfl⟩
   obtain⟨ee,hee⟩:∃ee,(P.getD k aN.zero).exp=ee:=⟨_,rfl⟩
   have g0:=hR'.c0 k om
   have g1:=hR'.c1 k om
   rw[hpp]at g0
   rw[hee]at g1
   have hbe:=hex k om
   rw[hee]at hbe
   have hwe:IntKind.i64.wrap (ee-1)=ee-1:=og om om
   have hx:(kd P)[k]? =some (pp,ee-(bif Nat.beq k 0 then 1 else 0)):=by rw[Fk om];unfold kN;rw[hpp,hee]
   clear hpp hee hbe
   have hix:(0:Int)≤(k:Int):=by omega
   have hix':(k:Int)<(m:Int):=by omega
   by_cases hk0:k=0
   ·subst hk0
    have hx:(kd P)[0]? =some (pp,ee-1):=hx
    simp only[kV,fv]at g0 g1
    obtain⟨fn,tmps,assign,body,hy,hRd⟩:=hY (n-1) 0 [B] (pp,ee-1) (wr.alloc (.cells #[.int .i64 pp,.int .i64 (ee-1)] 43)) hx (hst _ _ _ _ hJ (uD _ _))
    simp only at hy hRd
    clear hx
    gi_wp2
    refine⟨(fun h=>by first|(cases h;done)|(simp[Fence.wide]at h;done)),hRd.mono ?_⟩
    rintro e W3 ⟨hk3,⟨rfl,hJ3⟩|⟨rfl,hJx3⟩⟩
    ·gi_wp2
     exact⟨⟨1,om,rfl,hJ3,hR'.heap (cl si hk3.1) ((hk3.2 B si).trans (Below.heap_alloc _ _ _ hR'.lt))⟩,by simp[intOf];omega⟩
    ·gi_wp2
     exact bodyPost_ret (results_none rfl _ _ _) rfl ⟨⟨_,rfl⟩,.inr hJx3⟩
   ·have hx:(kd P)[k]? =some (pp,ee):=by rw[hx];cases k with
     |zero=>exact absurd rfl hk0
     |succ k=>show some (pp,ee-0)=_;rw[Int.sub_zero]
    obtain⟨fn,tmps,assign,body,hy,hRd⟩:=hY (n-1) k [B] (pp,ee) (wr.alloc (.cells #[.int .i64 pp,.int .i64 ee] 43)) hx (hst _ _ _ _ hJ (uD _ _))
    simp only at hy hRd
    have hkb:((k:Int)==0)=false:=by cases hb:((k:Int)==0)with
     |false=>rfl
     |true=>have:=eq_of_beq hb;omega
    clear hx
    gi_wp2
    refine⟨(fun h=>by first|(cases h;done)|(simp[Fence.wide]at h;done)),hRd.mono ?_⟩
    rintro e W3 ⟨hk3,⟨rfl,hJ3⟩|⟨rfl,hJx3⟩⟩
    ·gi_wp2
     exact⟨⟨k+1,om,rfl,hJ3,hR'.heap (cl si hk3.1) ((hk3.2 B si).trans (Below.heap_alloc _ _ _ hR'.lt))⟩,by simp[intOf];omega⟩
    ·gi_wp2
     exact bodyPost_ret (results_none rfl _ _ _) rfl ⟨⟨_,rfl⟩,.inr hJx3⟩
  ·gi_wp2
   refine bodyPost_end (results_none rfl _ _ _) rfl ⟨⟨_,rfl⟩,.inl ⟨[B],?_⟩⟩
   rw[vj,show P.length=k by omega]
   exact hJ
end
end Go.Proofs.YtdbdoalefmliiaaGreatDoor.S
namespace Go.Proofs.YtdbdoalefmliiaaGreatDoor.S
open Go.QfSy Go.RowKit
def xl:Code→Code
 |.rangeFunc _ _ a _=>a
 |c=>c
def ri:Code→Code
 |.rangeFunc _ _ _ b=>b
 |c=>c
def m9 (fn:Func)(p:List Nat):Code:=(eZ p (fn.body.getD .skip)).getD .skip
def Ye:Option (df×Tr AV×Hs)→Tr AV
 |some (_,T,_)=>T
 |none=>.nil
structure JA (g:aG):Prop where
 dim:1≤g.dim∧g.dim≤8
 det:1≤g.det∧g.det≤10000
 len:g.locs.length=(ba (2*g.det.toNat)).length
 pr:∀k,k<g.locs.length→(g.locs.getD k z0l).prime=(kN (ba (2*g.det.toNat)) k).1
 k2:∀k,k<g.locs.length→(g.locs.getD k z0l).prime=2→iQ (g.locs.getD k z0l).prime (g.locs.getD k z0l).list=true
 kp:∀k,k<g.locs.length→(g.locs.getD k z0l).prime≠2→dE (g.locs.getD k z0l).prime (g.locs.getD k z0l).list=true
 ok:∀k,k<g.locs.length→bm (g.locs.getD k z0l).list∧ly (g.locs.getD k z0l).list=g.dim∧lA (g.locs.getD k z0l).list=(kN (ba (2*g.det.toNat)) k).2∧0≤(kN (ba (2*g.det.toNat)) k).2∧(kN (ba (2*g.det.toNat)) k).2≤2147483647
end Go.Proofs.YtdbdoalefmliiaaGreatDoor.S
end
