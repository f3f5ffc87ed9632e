/- A part of the proof of ExistenceGenera: VR, ZY, VU, VG, VP, VH0, VD, VF1, VS, RC, VV, VI, VJ, VW, KB, ZFZ, EH, KC, KD, KE, KF, KG, KH, ZFA, KI. -/
import Derived.Test.YtmeljalphfcieaaGreatDoorPkG3
import Derived.Test.YtmeljalphfcieaaGreatDoorPkG2
set_option linter.unusedSimpArgs false
set_option linter.unusedVariables false
set_option maxRecDepth 100000
open Go.IntKind renaming i64 → w6
open Go.QfSy.Con renaming zero → z0c
noncomputable section
namespace Go.Proofs.YtmeljalphfcieaaGreatDoor.S
open Go.QfSy Go.RowKit
def b8 (n:Nat→Bool):List AV:=[.vbool (n 0),.vbool (n 1),.vbool (n 2),.vbool (n 3),.vbool (n 4),.vbool (n 5),.vbool (n 6),.vbool (n 7)]
theorem Ah {n:Nat→Bool}{s:Nat}(h:s<8):[n 0,n 1,n 2,n 3,n 4,n 5,n 6,n 7].getD s false=n s:=by
 rcases s with _|_|_|_|_|_|_|_|s
 all_goals first|rfl|omega
def CO (c:Con)(o:AV):List AV:=[vi c.exp,vi c.dim,vi c.sign,.vbool c.odd,o]
def kg (c:Con)(M:LC)(l:List Int)(tot:Int)(t:Nat):Bool:=b7 (wO c (t:Int))&&es M l ((tot-(t:Int)+8)%8)
theorem HL (M:LC)(i:Int)(l:List Int)(tot:Int):jq M i l tot=kg (at_ M i.toNat) M l tot:=rfl
def fS (c:Con)(M:LC)(l:List Int)(tot:Int):Option Nat:=fJ (kg c M l tot) 8 0
def xO (M:LC)(l:List Int)(tot:Int)(j:AV):List (Nat×AV):=[(1,(aD M).av),(3,vi tot),(4,.ptr 1000 0),(8,.int .i64 0),(9,.bool false),(10,.ptr 1001 0),(18,(rI .i64 l).av),(19,vi l.length),(20,j)]
def xP (c:Con)(Sg:Nat→Bool):List (Nat×ai):=[(1000,⟨.plain (CO c (vi c.oddity)),53,0,false,true⟩),(1001,⟨.plain (b8 Sg),126,0,false,true⟩)]
def qS (M:LC)(l:List Int)(tot:Int)(j:Nat):List (Nat×AV):=xO M l tot (vi j)++[(13,.ptr 1010 0),(14,.ptr 1011 0)]
def qT (c:Con)(Sg n:Nat→Bool)(cc:Con)(o:AV):List (Nat×ai):=xP c Sg++[(1010,⟨.plain (b8 n),126,0,false,true⟩),(1011,⟨.plain (CO cc o),53,0,false,true⟩)]
def NF (c:Con)(M:LC)(l:List Int)(tot:Int)(j:Nat)(Sg n:Nat→Bool)(cc:Con)(o:Nat):aA:=⟨⟨qS M l tot j++[(36,.agg (b8 Sg)),(37,.int .i64 0)],qT c Sg n cc (vi o),1020⟩,none,fun _=>
 (.exit 4,⟨qS M l tot j,qT c Sg (bh (b7 (wO cc (o:Int))) Sg n o 8) cc (vi o),1020⟩)⟩
theorem WO {s o:Nat}(hs:s<8)(ho:o≤8):((w6.wrap ((s:Int)+(o:Int))).tmod 8).toNat=(s+o)%8:=by
 rw[wo,gh om]
 omega
theorem abE (c:Con)(M:LC)(l:List Int)(tot:Int)(j:Nat)(Sg n:Nat→Bool)(cc:Con)(o:Nat)(ho:o≤8):An 4 Tryz.f74 [0,1,0,0,1,0,0,1,0,1,1,1,0,0,1,1,0,0,1,0,1,1] (NF c M l tot j Sg n cc o):=by
 refine cN (cE m6) aC (fun(s:Nat)=>(⟨qS M l tot j++[(36,.agg (b8 Sg)),(37,vi s)],qT c Sg (bh (b7 (wO cc (o:Int))) Sg n o s) cc (vi o),1020⟩:St)) (fun(s:Nat)=>(8-s:Nat)) (fun(s:Nat)=>(s≤8:Prop)) ?_ ?_
 ·exact st (0) (let t1:=b7 (wO cc (↑o:Int));[lq M,tot=tot,sr l fun j=>[RV.int IntKind.i64 (l.getD j (0:Int))],rq (↑l.length:Int),rq (↑j:Int),rq (Sg (0:Nat)),rq (Sg (1:Nat)),rq (Sg (2:Nat)),rq (Sg (3:Nat)),rq (Sg (4:Nat)),rq (Sg (5:Nat)),rq (Sg (6:Nat)),rq (Sg (7:Nat)),(0:Int)=↑(0:Nat),c.exp=c.exp,c.dim=c.dim,rq c.sign,c.odd=c.odd,rq c.oddity,rq (Sg (0:Nat)),rq (Sg (1:Nat)),rq (Sg (2:Nat)),rq (Sg (3:Nat)),rq (Sg (4:Nat)),rq (Sg (5:Nat)),rq (Sg (6:Nat)),rq (Sg (7:Nat)),n (0:Nat)=bh t1 Sg n o (0:Nat) (0:Nat),n (1:Nat)=bh t1 Sg n o (0:Nat) (1:Nat),n (2:Nat)=bh t1 Sg n o (0:Nat) (2:Nat),n (3:Nat)=bh t1 Sg n o (0:Nat) (3:Nat),n (4:Nat)=bh t1 Sg n o (0:Nat) (4:Nat),n (5:Nat)=bh t1 Sg n o (0:Nat) (5:Nat),n (6:Nat)=bh t1 Sg n o (0:Nat) (6:Nat),n (7:Nat)=bh t1 Sg n o (0:Nat) (7:Nat),rq cc.exp,rq cc.dim,rq cc.sign,rq cc.odd,rq (↑o:Int)]) (by refine⟨?_,?_,?_,?_,?_,?_,?_,?_,?_,?_,?_,?_,?_,?_,?_,?_,?_,?_,?_,?_,?_,?_,?_,?_,?_,?_,?_,?_,?_,?_,?_,?_,?_,?_,?_,?_,?_,?_,?_,(?_:(↑o:Int)=↑o)⟩<;>(first|exact tv|exact(P1 _ _ _ _ _).symm)) (by exact aY _)
 ·intro s hI
  have hs:s≤8:=hI
  have ek:=wk s
  refine(let q1:List Prop→List Prop:=fun l0=>(let v1:=b7 (wO cc (↑o:Int));let v2:=s+1;(lq M)::(tot=tot)::(sr l fun j=>[RV.int IntKind.i64 (l.getD j (0:Int))])::rq (↑l.length:Int)::rq (↑j:Int)::rq (Sg (0:Nat))::rq (Sg (1:Nat))::rq (Sg (2:Nat))::rq (Sg (3:Nat))::rq (Sg (4:Nat))::rq (Sg (5:Nat))::rq (Sg (6:Nat))::rq (Sg (7:Nat))::(w6.wrap ((↑s:Int)+1)=↑v2)::(c.exp=c.exp)::(c.dim=c.dim)::rq c.sign::(c.odd=c.odd)::rq c.oddity::rq (Sg (0:Nat))::rq (Sg (1:Nat))::rq (Sg (2:Nat))::rq (Sg (3:Nat))::rq (Sg (4:Nat))::rq (Sg (5:Nat))::rq (Sg (6:Nat))::rq (Sg (7:Nat))::(bh v1 Sg n o s (0:Nat)=bh v1 Sg n o v2 (0:Nat))::(bh v1 Sg n o s (1:Nat)=bh v1 Sg n o v2 (1:Nat))::(bh v1 Sg n o s (2:Nat)=bh v1 Sg n o v2 (2:Nat))::(bh v1 Sg n o s (3:Nat)=bh v1 Sg n o v2 (3:Nat))::(bh v1 Sg n o s (4:Nat)=bh v1 Sg n o v2 (4:Nat))::(bh v1 Sg n o s (5:Nat)=bh v1 Sg n o v2 (5:Nat))::(bh v1 Sg n o s (6:Nat)=bh v1 Sg n o v2 (6:Nat))::(bh v1 Sg n o s (7:Nat)=bh v1 Sg n o v2 (7:Nat))::rq cc.exp::rq cc.dim::rq cc.sign::rq cc.odd::rq (↑o:Int)::l0);let q2:List Prop→List Prop:=fun l0=>(lq M)::(tot=tot)::(sr l fun j=>[RV.int IntKind.i64 (l.getD j (0:Int))])::rq (↑l.length:Int)::rq (↑j:Int)::l0;oe (decide ((↑s:Int)<8)) (fun d1=>let y1:List Prop:=[(0:Int)≤↑s∧(↑s:Int)<↑(8:Nat)∧s<[Sg (0:Nat),Sg (1:Nat),Sg (2:Nat),Sg (3:Nat),Sg (4:Nat),Sg (5:Nat),Sg (6:Nat),Sg (7:Nat)].length,ty d1];have u1:ao y1:=⟨?_,d1⟩;oe ([Sg (0:Nat),Sg (1:Nat),Sg (2:Nat),Sg (3:Nat),Sg (4:Nat),Sg (5:Nat),Sg (6:Nat),Sg (7:Nat)].getD s false) (fun d2=>oe (b7 (Con.mk cc.exp cc.dim cc.sign cc.odd (↑o:Int))) (fun d3=>aq (tp 111) (s+1) (q2 (let v1:=b7 (wO cc (↑o:Int));let v4:=w6.wrap ((↑s:Int)+↑o);let v2:=(v4.tmod (8:Int)).toNat+0;let v3:=s+1;rq (Sg (0:Nat))::rq (Sg (1:Nat))::rq (Sg (2:Nat))::rq (Sg (3:Nat))::rq (Sg (4:Nat))::rq (Sg (5:Nat))::rq (Sg (6:Nat))::rq (Sg (7:Nat))::(w6.wrap ((↑s:Int)+1)=↑v3)::(c.exp=c.exp)::(c.dim=c.dim)::rq c.sign::(c.odd=c.odd)::rq c.oddity::rq (Sg (0:Nat))::rq (Sg (1:Nat))::rq (Sg (2:Nat))::rq (Sg (3:Nat))::rq (Sg (4:Nat))::rq (Sg (5:Nat))::rq (Sg (6:Nat))::rq (Sg (7:Nat))::((bif Nat.beq (0:Nat) v2 then true else bh v1 Sg n o s (0:Nat))=bh v1 Sg n o v3 (0:Nat))::((bif((0:Nat)+1).beq v2 then true else bh v1 Sg n o s (1:Nat))=bh v1 Sg n o v3 (1:Nat))::((bif((0:Nat)+1+1).beq v2 then true else bh v1 Sg n o s (2:Nat))=bh v1 Sg n o v3 (2:Nat))::((bif((0:Nat)+1+1+1).beq v2 then true else bh v1 Sg n o s (3:Nat))=bh v1 Sg n o v3 (3:Nat))::((bif((0:Nat)+1+1+1+1).beq v2 then true else bh v1 Sg n o s (4:Nat))=bh v1 Sg n o v3 (4:Nat))::((bif((0:Nat)+1+1+1+1+1).beq v2 then true else bh v1 Sg n o s (5:Nat))=bh v1 Sg n o v3 (5:Nat))::((bif((0:Nat)+1+1+1+1+1+1).beq v2 then true else bh v1 Sg n o s (6:Nat))=bh v1 Sg n o v3 (6:Nat))::((bif((0:Nat)+1+1+1+1+1+1+1).beq v2 then true else bh v1 Sg n o s (7:Nat))=bh v1 Sg n o v3 (7:Nat))::rq cc.exp::rq cc.dim::rq cc.sign::rq cc.odd::rq (↑o:Int)::((v4.tmod (8:Int)).toNat+0<[bh v1 Sg n o s (0:Nat),bh v1 Sg n o s (1:Nat),bh v1 Sg n o s (2:Nat),bh v1 Sg n o s (3:Nat),bh v1 Sg n o s (4:Nat),bh v1 Sg n o s (5:Nat),bh v1 Sg n o s (6:Nat),bh v1 Sg n o s (7:Nat)].length)::((0:Int)≤v4.tmod (8:Int)∧v4.tmod (8:Int)<↑(8:Nat))::((8:Int)≠(0:Int))::ty d3::ty d2::y1)) ?_ ?_ ?_)
   (fun d3=>aq (tp 112) (s+1) (q1 (ty d3::ty d2::y1)) ?_ ?_ ?_))
   (fun d2=>aq [true,false] (s+1) (q1 (ty d2::y1)) ?_ ?_ ?_))
   (fun d1=>br [false] (q2 (let v1:=b7 (wO cc (↑o:Int));[c.exp=c.exp,c.dim=c.dim,rq c.sign,c.odd=c.odd,rq c.oddity,rq (Sg (0:Nat)),rq (Sg (1:Nat)),rq (Sg (2:Nat)),rq (Sg (3:Nat)),rq (Sg (4:Nat)),rq (Sg (5:Nat)),rq (Sg (6:Nat)),rq (Sg (7:Nat)),bh v1 Sg n o s (0:Nat)=bh v1 Sg n o (8:Nat) (0:Nat),bh v1 Sg n o s (1:Nat)=bh v1 Sg n o (8:Nat) (1:Nat),bh v1 Sg n o s (2:Nat)=bh v1 Sg n o (8:Nat) (2:Nat),bh v1 Sg n o s (3:Nat)=bh v1 Sg n o (8:Nat) (3:Nat),bh v1 Sg n o s (4:Nat)=bh v1 Sg n o (8:Nat) (4:Nat),bh v1 Sg n o s (5:Nat)=bh v1 Sg n o (8:Nat) (5:Nat),bh v1 Sg n o s (6:Nat)=bh v1 Sg n o (8:Nat) (6:Nat),bh v1 Sg n o s (7:Nat)=bh v1 Sg n o (8:Nat) (7:Nat),rq cc.exp,rq cc.dim,rq cc.sign,rq cc.odd,rq (↑o:Int),ty d1])) ?_))
  all_goals with_reducible repeat' first|exact dA|refine bk ?_ ?_|refine bm ?_
  all_goals((try clear u1);(try clear y1))
  all_goals first|(refine cy.mk ?_;(simp only[dT]at*;show 8-(s+1)<8-s;omega))|(refine bD.mk ?_;(simp only[dT]at*;show s+1≤8;omega))|exact cT|(first|exact tz|decide|((try simp only[ek,bt,dT,dF]at*)<;>first|omega|(have h8:s=8:=om;subst h8;rfl)|(have h7:s<8:=om;have hx:=WO h7 ho;first|(rw[hx];first|exact RX de ho h7 ((Ah h7).symm.trans d2) d3|(have h0:=kA (s+o) (show 0<8 by decide);simp only[cR,iD];omega))|exact F9 (.inl ((Ah h7).symm.trans d2))|exact F9 (.inr d3)|(have h1:=kP (n:=(s:Int)+(o:Int)) om om;rw[h1,gh om];omega)|(simp only[cR,iD];omega))))
def NG (c:Con)(M:LC)(l:List Int)(tot:Int)(j:Nat)(Sg:Nat→Bool)(cc:Con):aA:=⟨⟨qS M l tot j,qT c Sg (dO Sg cc 0) cc (.int .i64 0),1020⟩,none,fun _=>
 (.exit 2,⟨qS M l tot j,qT c Sg (gb Sg cc) cc (.int .i64 8),1020⟩)⟩
theorem WP {Sg:Nat→Bool}{cc:Con}{o q:Nat}:bh (b7 (wO cc (o:Int))) Sg (dO Sg cc o) o 8 q=dO Sg cc (o+1) q:=by
 rw[P2,P0]
theorem abF (c:Con)(M:LC)(l:List Int)(tot:Int)(j:Nat)(Sg:Nat→Bool)(cc:Con):An 4 Tryz.f74 [0,1,0,1,1,1,0,0,1,1,0,0,1,0,1,1] (NG c M l tot j Sg cc):=by
 refine mL (cE m6) (fun(o:Nat)=>(⟨qS M l tot j,qT c Sg (dO Sg cc o) cc (vi o),1020⟩:St)) (fun(o:Nat)=>(8-o:Nat)) (fun(o:Nat)=>(o≤8:Prop)) (fun(o:Nat)=>([([0,1,0,0,1,0,0,1,0,1,1,1,0,0,1,1,0,0,1,0,1,1],NF c M l tot j Sg (dO Sg cc o) cc o)]:List (List Nat×aA))) ?_ ?_ ?_
 ·intro o hI
  exact aW (abE c M l tot j Sg (dO Sg cc o) cc o hI)
 ·exact st (0) [lq M,tot=tot,sr l fun j=>[RV.int IntKind.i64 (l.getD j (0:Int))],rq (↑l.length:Int),rq (↑j:Int),c.exp=c.exp,c.dim=c.dim,rq c.sign,c.odd=c.odd,rq c.oddity,rq (Sg (0:Nat)),rq (Sg (1:Nat)),rq (Sg (2:Nat)),rq (Sg (3:Nat)),rq (Sg (4:Nat)),rq (Sg (5:Nat)),rq (Sg (6:Nat)),rq (Sg (7:Nat)),false=false,false=false,false=false,false=false,false=false,false=false,false=false,false=false,rq cc.exp,rq cc.dim,rq cc.sign,rq cc.odd,(0:Int)=↑(0:Nat)] (by refine⟨?_,?_,?_,?_,?_,?_,?_,?_,?_,?_,?_,?_,?_,?_,?_,?_,?_,?_,?_,?_,?_,?_,?_,?_,?_,?_,?_,?_,?_,?_,(?_:(0:Int)=↑(0:Nat))⟩<;>(first|rfl|exact⟨rfl,rfl⟩|assumption|omega|simp_all)) (by exact aY _)
 ·intro o hI
  have hs:o≤8:=hI
  have ek:=wk o
  refine(let q1:List Prop→List Prop:=fun l0=>(lq M)::(tot=tot)::(sr l fun j=>[RV.int IntKind.i64 (l.getD j (0:Int))])::rq (↑l.length:Int)::rq (↑j:Int)::(c.exp=c.exp)::(c.dim=c.dim)::rq c.sign::(c.odd=c.odd)::rq c.oddity::rq (Sg (0:Nat))::rq (Sg (1:Nat))::rq (Sg (2:Nat))::rq (Sg (3:Nat))::rq (Sg (4:Nat))::rq (Sg (5:Nat))::rq (Sg (6:Nat))::rq (Sg (7:Nat))::l0;oe (decide ((↑o:Int)<8)) (fun d1=>aq [true] (o+1) (q1 (let v1:=b7 (wO cc (↑o:Int));let v2:=o+1;let v3:=dO Sg cc o;[bh v1 Sg v3 o (8:Nat) (0:Nat)=dO Sg cc v2 (0:Nat),bh v1 Sg v3 o (8:Nat) (1:Nat)=dO Sg cc v2 (1:Nat),bh v1 Sg v3 o (8:Nat) (2:Nat)=dO Sg cc v2 (2:Nat),bh v1 Sg v3 o (8:Nat) (3:Nat)=dO Sg cc v2 (3:Nat),bh v1 Sg v3 o (8:Nat) (4:Nat)=dO Sg cc v2 (4:Nat),bh v1 Sg v3 o (8:Nat) (5:Nat)=dO Sg cc v2 (5:Nat),bh v1 Sg v3 o (8:Nat) (6:Nat)=dO Sg cc v2 (6:Nat),bh v1 Sg v3 o (8:Nat) (7:Nat)=dO Sg cc v2 (7:Nat),rq cc.exp,rq cc.dim,rq cc.sign,rq cc.odd,w6.wrap ((↑o:Int)+1)=↑v2,lq M,tot=tot,sr l fun j=>[RV.int IntKind.i64 (l.getD j (0:Int))],rq (↑l.length:Int),rq (↑j:Int),rq (Sg (0:Nat)),rq (Sg (1:Nat)),rq (Sg (2:Nat)),rq (Sg (3:Nat)),rq (Sg (4:Nat)),rq (Sg (5:Nat)),rq (Sg (6:Nat)),rq (Sg (7:Nat)),c.exp=c.exp,c.dim=c.dim,rq c.sign,c.odd=c.odd,rq c.oddity,rq (Sg (0:Nat)),rq (Sg (1:Nat)),rq (Sg (2:Nat)),rq (Sg (3:Nat)),rq (Sg (4:Nat)),rq (Sg (5:Nat)),rq (Sg (6:Nat)),rq (Sg (7:Nat)),rq (dO Sg cc o (0:Nat)),rq (dO Sg cc o (1:Nat)),rq (dO Sg cc o (2:Nat)),rq (dO Sg cc o (3:Nat)),rq (dO Sg cc o (4:Nat)),rq (dO Sg cc o (5:Nat)),rq (dO Sg cc o (6:Nat)),rq (dO Sg cc o (7:Nat)),rq cc.exp,rq cc.dim,rq cc.sign,rq cc.odd,rq (↑o:Int),ty d1])) ?_ ?_ ?_)
   (fun d1=>br [false] (q1 [dO Sg cc o (0:Nat)=gb Sg cc (0:Nat),dO Sg cc o (1:Nat)=gb Sg cc (1:Nat),dO Sg cc o (2:Nat)=gb Sg cc (2:Nat),dO Sg cc o (3:Nat)=gb Sg cc (3:Nat),dO Sg cc o (4:Nat)=gb Sg cc (4:Nat),dO Sg cc o (5:Nat)=gb Sg cc (5:Nat),dO Sg cc o (6:Nat)=gb Sg cc (6:Nat),dO Sg cc o (7:Nat)=gb Sg cc (7:Nat),rq cc.exp,rq cc.dim,rq cc.sign,rq cc.odd,(↑o:Int)=8,ty d1]) ?_))
  all_goals with_reducible repeat' first|exact dA|refine bk ?_ ?_|refine bm ?_
  all_goals first|(refine cy.mk ?_;(simp only[dT]at*;show 8-(o+1)<8-o;omega))|(refine bD.mk ?_;(simp only[dT]at*;show o+1≤8;omega))|exact cT|(first|exact tz|decide|((try simp only[ek,bt,dT,dF]at*)<;>first|omega|(have h8:o=8:=om;subst h8;rfl)|exact WP))
def leA (c:Con)(M:LC)(l:List Int)(tot:Int):aA:=⟨⟨xO M l tot (.int .i64 0),xP c aR,1010⟩,none,fun _=>
 (.exit 0,⟨xO M l tot (vi l.length),xP c (aO M l aR),1010⟩)⟩
theorem RZ {M:LC}{l:List Int}{j:Nat}(hj:j<l.length){S:Nat→Bool}:aO M (l.take (j+1)) S=gb (aO M (l.take j) S) (at_ M (l.getD j 0).toNat):=by
 rw[yT hj,Dp];rfl
theorem abG (c:Con)(M:LC)(l:List Int)(tot:Int)(hl:l.length≤1000)(hr:bR M.length l):An 4 Tryz.f74 [0,1,0,1,1] (leA c M l tot):=by
 refine mL (cE m6) (fun(j:Nat)=>(⟨xO M l tot (vi j),xP c (aO M (l.take j) aR),1010⟩:St)) (fun(j:Nat)=>(l.length-j:Nat)) (fun(j:Nat)=>(j≤l.length:Prop)) (fun(j:Nat)=>([([0,1,0,1,1,1,0,0,1,1,0,0,1,0,1,1],NG c M l tot j (aO M (l.take j) aR) (at_ M (l.getD j 0).toNat))]:List (List Nat×aA))) ?_ ?_ ?_
 ·intro j hI
  exact aW (abF c M l tot j (aO M (l.take j) aR) (at_ M (l.getD j 0).toNat))
 ·exact st (0) [lq M,tot=tot,sr l fun j=>[RV.int IntKind.i64 (l.getD j (0:Int))],rq (↑l.length:Int),(0:Int)=↑(0:Nat),c.exp=c.exp,c.dim=c.dim,rq c.sign,c.odd=c.odd,rq c.oddity,true=true,false=false,false=false,false=false,false=false,false=false,false=false,false=false] (by refine⟨?_,?_,?_,?_,?_,?_,?_,?_,?_,?_,?_,?_,?_,?_,?_,?_,?_,(?_:false=false)⟩<;>(first|exact tz|rfl)) (by exact aY _)
 ·intro j hI
  have hs:j≤l.length:=hI
  have ek:=wk j
  refine(let q1:List Prop→List Prop:=fun l0=>(lq M)::(tot=tot)::(sr l fun j=>[RV.int IntKind.i64 (l.getD j (0:Int))])::rq (↑l.length:Int)::l0;oe (decide ((↑j:Int)<↑l.length)) (fun d1=>aq [true] (j+1) (q1 [w6.wrap ((↑j:Int)+1)=↑(j+1),c.exp=c.exp,c.dim=c.dim,rq c.sign,c.odd=c.odd,rq c.oddity,gb (aO M (List.take j l) aR) (at_ M (l.getD j (0:Int)).toNat) (0:Nat)=aO M (List.take (j+1) l) aR (0:Nat),gb (aO M (List.take j l) aR) (at_ M (l.getD j (0:Int)).toNat) (1:Nat)=aO M (List.take (j+1) l) aR (1:Nat),gb (aO M (List.take j l) aR) (at_ M (l.getD j (0:Int)).toNat) (2:Nat)=aO M (List.take (j+1) l) aR (2:Nat),gb (aO M (List.take j l) aR) (at_ M (l.getD j (0:Int)).toNat) (3:Nat)=aO M (List.take (j+1) l) aR (3:Nat),gb (aO M (List.take j l) aR) (at_ M (l.getD j (0:Int)).toNat) (4:Nat)=aO M (List.take (j+1) l) aR (4:Nat),gb (aO M (List.take j l) aR) (at_ M (l.getD j (0:Int)).toNat) (5:Nat)=aO M (List.take (j+1) l) aR (5:Nat),gb (aO M (List.take j l) aR) (at_ M (l.getD j (0:Int)).toNat) (6:Nat)=aO M (List.take (j+1) l) aR (6:Nat),gb (aO M (List.take j l) aR) (at_ M (l.getD j (0:Int)).toNat) (7:Nat)=aO M (List.take (j+1) l) aR (7:Nat),lq M,tot=tot,sr l fun j=>[RV.int IntKind.i64 (l.getD j (0:Int))],rq (↑l.length:Int),rq (↑j:Int),c.exp=c.exp,c.dim=c.dim,rq c.sign,c.odd=c.odd,rq c.oddity,rq (aO M (List.take j l) aR (0:Nat)),rq (aO M (List.take j l) aR (1:Nat)),rq (aO M (List.take j l) aR (2:Nat)),rq (aO M (List.take j l) aR (3:Nat)),rq (aO M (List.take j l) aR (4:Nat)),rq (aO M (List.take j l) aR (5:Nat)),rq (aO M (List.take j l) aR (6:Nat)),rq (aO M (List.take j l) aR (7:Nat)),false=false,false=false,false=false,false=false,false=false,false=false,false=false,false=false,(M.getD (l.getD j (0:Int)).toNat Con.zero).exp=(at_ M (l.getD j (0:Int)).toNat).exp,(M.getD (l.getD j (0:Int)).toNat Con.zero).dim=(at_ M (l.getD j (0:Int)).toNat).dim,(M.getD (l.getD j (0:Int)).toNat Con.zero).sign=(at_ M (l.getD j (0:Int)).toNat).sign,(M.getD (l.getD j (0:Int)).toNat Con.zero).odd=(at_ M (l.getD j (0:Int)).toNat).odd,(0:Int)≤l.getD j (0:Int)∧l.getD j (0:Int)<↑M.length,(0:Int)≤↑j∧(↑j:Int)<↑l.length,ty d1]) ?_ ?_ ?_)
   (fun d1=>br [false] (q1 (let v1:=List.take j l;[(↑j:Int)=↑l.length,c.exp=c.exp,c.dim=c.dim,rq c.sign,c.odd=c.odd,rq c.oddity,aO M v1 aR (0:Nat)=aO M l aR (0:Nat),aO M v1 aR (1:Nat)=aO M l aR (1:Nat),aO M v1 aR (2:Nat)=aO M l aR (2:Nat),aO M v1 aR (3:Nat)=aO M l aR (3:Nat),aO M v1 aR (4:Nat)=aO M l aR (4:Nat),aO M v1 aR (5:Nat)=aO M l aR (5:Nat),aO M v1 aR (6:Nat)=aO M l aR (6:Nat),aO M v1 aR (7:Nat)=aO M l aR (7:Nat),ty d1])) ?_))
  all_goals with_reducible repeat' first|exact dA|refine bk ?_ ?_|refine bm ?_
  all_goals first|(refine cy.mk ?_;(simp only[dT]at*;show l.length-(j+1)<l.length-j;omega))|(refine bD.mk ?_;(simp only[dT]at*;show j+1≤l.length;omega))|exact cT|(first|exact tz|decide|((try simp only[ek,bt,dT,dF]at*)<;>first|omega|(have h1:=hr.at (t:=j) om;omega)|(rw[RZ om];done)|(rw[iR om];done)|(congr 1;omega)|rfl))
def Kl (c:Con)(F:Nat→Bool)(o:AV):List (Nat×ai):=[(1000,⟨.plain (CO c o),53,0,false,true⟩),(1001,⟨.plain (b8 F),126,0,false,true⟩)]
def Km (tot:Int):List (Nat×AV):=[(3,vi tot),(4,.ptr 1000 0),(10,.ptr 1001 0)]
def leD (c:Con)(M:LC)(l:List Int)(tot:Int):aA:=⟨⟨Km tot,Kl c (aO M l aR) (.int .i64 0),1010⟩,some (fS c M l tot).isSome,fun d=>match d with
 |true=>(.ret,⟨[(8,vi ((fS c M l tot).getD 0:Nat)),(9,.bool true)],[],1010⟩)
 |false=>(.exit 6,⟨[],[],1010⟩)⟩
theorem sN {tot:Int}{t:Nat}(h0:0≤tot)(h1:tot≤7)(ht:t<8):(w6.wrap (w6.wrap (tot-(t:Int))+8)).tmod 8=(tot-(t:Int)+8)%8:=by
 rw[kP (n:=tot-(t:Int)) om om,wo,gh om]
theorem Ai {M:LC}{l:List Int}{x:Int}(h0:0≤x)(h1:x<8):[aO M l aR 0,aO M l aR 1,aO M l aR 2,aO M l aR 3,aO M l aR 4,aO M l aR 5,aO M l aR 6,aO M l aR 7].getD (x.toNat+0) false=es M l x:=by
 rw[gj,Ah (n:=aO M l aR) om,RY om,Int.toNat_of_nonneg h0]
theorem Ei {p:Nat→Bool}{t:Nat}(ht:t<8)(h:p t=true):fJ p (8-t) t=some t:=by
 rw[show 8-t=(8-(t+1))+1 by omega]
 simp only[fJ,h,aM]
theorem E9 {p:Nat→Bool}{t:Nat}(ht:t<8)(h:p t=false):fJ p (8-t) t=fJ p (8-(t+1)) (t+1):=by
 rw[show 8-t=(8-(t+1))+1 by omega]
 simp only[fJ,h,bg]
theorem Gb {c:Con}{M:LC}{l:List Int}{tot:Int}{t:Nat}(h1:b7 (wO c (t:Int))=true)(h2:es M l ((tot-(t:Int)+8)%8)=true):kg c M l tot t=true:=by unfold kg;rw[h1,h2];rfl
theorem Uu {c:Con}{M:LC}{l:List Int}{tot:Int}{t:Nat}(h1:b7 (wO c (t:Int))=false):kg c M l tot t=false:=by unfold kg;rw[h1];rfl
theorem Uv {c:Con}{M:LC}{l:List Int}{tot:Int}{t:Nat}(h2:es M l ((tot-(t:Int)+8)%8)=false):kg c M l tot t=false:=by unfold kg;rw[h2,l3]
theorem abH (c:Con)(M:LC)(l:List Int)(tot:Int)(h0:0≤tot)(h1:tot≤7):An 4 Tryz.f74 [0,1,0,1,1,1] (leD c M l tot):=by
 refine ea (cE m6) aC (fun(t:Nat)=>(⟨Km tot,Kl c (aO M l aR) (vi t),1010⟩:St)) (fun(t:Nat)=>(8-t:Nat)) (fun(d:Bool)=>fun(t:Nat)=>(t≤8∧fJ (kg c M l tot) (8-t) t=fS c M l tot∧(fS c M l tot).isSome=d:Prop)) ?_ ?_
 ·intro d hd
  exact st (0) [tot=tot,c.exp=c.exp,c.dim=c.dim,rq c.sign,c.odd=c.odd,(0:Int)=↑(0:Nat),rq (aO M l aR (0:Nat)),rq (aO M l aR (1:Nat)),rq (aO M l aR (2:Nat)),rq (aO M l aR (3:Nat)),rq (aO M l aR (4:Nat)),rq (aO M l aR (5:Nat)),rq (aO M l aR (6:Nat)),rq (aO M l aR (7:Nat))] (by refine⟨?_,?_,?_,?_,?_,?_,?_,?_,?_,?_,?_,?_,?_,(?_:aO M l aR (7:Nat)=aO M l aR (7:Nat))⟩<;>(first|rfl|assumption|exact⟨rfl,rfl⟩|omega|simp_all)) (by exact⟨aY _,rfl,hd⟩)
 ·rintro d hd t hI
  obtain⟨ht,hf,hs⟩:=hI
  have ht:t≤8:=ht
  have hf:fJ (kg c M l tot) (8-t) t=fS c M l tot:=hf
  have ek:=wk t
  refine(let q1:List Prop→List Prop:=fun l0=>(tot=tot)::(c.exp=c.exp)::(c.dim=c.dim)::rq c.sign::(c.odd=c.odd)::(w6.wrap ((↑t:Int)+1)=↑(t+1))::rq (aO M l aR (0:Nat))::rq (aO M l aR (1:Nat))::rq (aO M l aR (2:Nat))::rq (aO M l aR (3:Nat))::rq (aO M l aR (4:Nat))::rq (aO M l aR (5:Nat))::rq (aO M l aR (6:Nat))::rq (aO M l aR (7:Nat))::l0;oe (decide ((↑t:Int)<8)) (fun d1=>oe (b7 (Con.mk c.exp c.dim c.sign c.odd (↑t:Int))) (fun d2=>let y1:List Prop:=(let v1:=w6.wrap (w6.wrap (tot-↑t)+8);[(v1.tmod (8:Int)).toNat+0<[aO M l aR (0:Nat),aO M l aR (1:Nat),aO M l aR (2:Nat),aO M l aR (3:Nat),aO M l aR (4:Nat),aO M l aR (5:Nat),aO M l aR (6:Nat),aO M l aR (7:Nat)].length,(0:Int)≤v1.tmod (8:Int)∧v1.tmod (8:Int)<↑(8:Nat),(8:Int)≠(0:Int),ty d2,ty d1]);have u1:ao y1:=⟨?_,?_,?_,d2,d1⟩;oe ([aO M l aR (0:Nat),aO M l aR (1:Nat),aO M l aR (2:Nat),aO M l aR (3:Nat),aO M l aR (4:Nat),aO M l aR (5:Nat),aO M l aR (6:Nat),aO M l aR (7:Nat)].getD (((w6.wrap (w6.wrap (tot-↑t)+8)).tmod (8:Int)).toNat+0) false) (fun d3=>aG d true (tp 111) (((↑t:Int)=↑((fS c M l tot).getD (0:Nat)))::ty d3::y1) ⟨?_,d3,u1⟩ ?_)
   (fun d3=>aq (tp 112) (t+1) (q1 (ty d3::y1)) ?_ ?_ ?_))
   (fun d2=>aq [true,false] (t+1) (q1 [ty d2,ty d1]) ?_ ?_ ?_))
   (fun d1=>aG d false [false] [ty d1] d1 ?_))
  all_goals with_reducible repeat' first|exact dA|refine bk ?_ ?_|refine bm ?_
  all_goals((try clear u1);(try clear y1))
  all_goals first|(refine cy.mk ?_;(simp only[dT]at*;show 8-(t+1)<8-t;omega))|(refine bD.mk ?_;(simp only[dT]at*;have h7:t<8:=om;have hx:=sN h0 h1 h7;refine⟨h7,?_,hs⟩;first|(rw[←hf,E9 h7 (Uu d2)];done)|(rw[hx,Ai om om]at d3;rw[←hf,E9 h7 (Uv d3)];done)))|(refine dq.mk ?_;cases d<;>first|rfl|(exfalso;(simp only[dT,dF]at*;first|(have h8:t=8:=om;subst h8;rw[←hf]at hs;cases hs;done)|(have h7:t<8:=om;have hx:=sN h0 h1 h7;rw[hx,Ai om om]at d3;rw[←hf,Ei h7 (Gb d2 d3)]at hs;cases hs;done))))|(first|exact tz|decide|((try simp only[ek,bt,dT,dF]at*)<;>first|omega|(have h7:t<8:=om;have hx:=sN h0 h1 h7;rw[hx];first|omega|(simp only[cR,iD];omega))|(have h7:t<8:=om;have hx:=sN h0 h1 h7;rw[hx,Ai om om]at d3;rw[←hf,Ei h7 (Gb d2 d3)];rfl)))
theorem Uw {o:Option Nat}(h:o.isSome=false):(0:Int)=((o.getD 0:Nat):Int):=by cases o with|none=>rfl|some v=>cases h
theorem Ux {P:Program}{ng N:Nat}{fn:Func}{p q:List Nat}{A B:aA}(h:dy P ng N (cq fn p) A)(k:dy P ng N (cq fn q) B):∀x∈[(p,A),(q,B)],dy P ng N (cq fn x.1) x.2:=fun x hx=>by
 rcases bx.1 hx with rfl|hx
 ·exact h
 ·rw[dU.1 hx];exact k
theorem OW (c:Con)(M:LC)(l:List Int)(tot:Int)(hl:l.length≤1000)(hr:bR M.length l)(h0:0≤tot)(h1:tot≤7):ar Tryz.prog [] 74 [.agg c.rvs,aD M,rI .i64 l,.int .i64 tot] (.tup [.int .i64 (((fS c M l tot).getD 0:Nat):Int),.bool (fS c M l tot).isSome]):=by
 refine pr (cE m6) Tryz.func74 (Ux (abG c M l tot hl hr) (abH c M l tot h0 h1)) ?_
 refine(let y1:List Prop:=[lq M,tot=tot,sr l fun j=>[RV.int IntKind.i64 (l.getD j (0:Int))],rq (↑l.length:Int),c.exp=c.exp,c.dim=c.dim,rq c.sign,c.odd=c.odd,rq c.oddity,true=true,false=false,false=false,false=false,false=false,false=false,false=false,false=false];have u1:ao y1:=⟨?_,?_,?_,?_,?_,?_,?_,?_,?_,?_,?_,?_,?_,?_,?_,?_,(?_:false=false)⟩;oe ((fS c M l tot).isSome) (fun d1=>lr [true] (rq (↑((fS c M l tot).getD (0:Nat)):Int)::(true=(fS c M l tot).isSome)::(tot=tot)::(c.exp=c.exp)::(c.dim=c.dim)::rq c.sign::(c.odd=c.odd)::rq (aO M l aR (0:Nat))::rq (aO M l aR (1:Nat))::rq (aO M l aR (2:Nat))::rq (aO M l aR (3:Nat))::rq (aO M l aR (4:Nat))::rq (aO M l aR (5:Nat))::rq (aO M l aR (6:Nat))::rq (aO M l aR (7:Nat))::ty d1::y1) ?_)
  (fun d1=>lr [false] (((0:Int)=↑((fS c M l tot).getD (0:Nat)))::(false=(fS c M l tot).isSome)::(tot=tot)::(c.exp=c.exp)::(c.dim=c.dim)::rq c.sign::(c.odd=c.odd)::rq (aO M l aR (0:Nat))::rq (aO M l aR (1:Nat))::rq (aO M l aR (2:Nat))::rq (aO M l aR (3:Nat))::rq (aO M l aR (4:Nat))::rq (aO M l aR (5:Nat))::rq (aO M l aR (6:Nat))::rq (aO M l aR (7:Nat))::ty d1::y1) ?_))
 all_goals with_reducible repeat' first|exact dA|refine bk ?_ ?_|refine bm ?_
 all_goals first|(first|exact tv|exact Uw d1|exact d1.symm)
end Go.Proofs.YtmeljalphfcieaaGreatDoor.S
namespace Go.QfSy
open Go.RowKit
def JR:Gm:=⟨fun _=>none,fun _=>none⟩
theorem sa {γ γ':Gm}:∀{M:List Con}{cs:List Value},au γ (M.flatMap Con.avs) cs→au γ' (M.flatMap Con.avs) cs
 |[],cs,h=>by cases h;exact .nil
 |c::M,cs,h=>by
  rw[fo]at h⊢
  unfold Con.avs at h⊢
  simp only[kx,pI]at h⊢
  cases h with|cons h1 h=>cases h with|cons h2 h=>cases h with|cons h3 h=>cases h with|cons h4 h=>cases h with|cons h5 h=>
  cases h1;cases h2;cases h3;cases h4;cases h5
  exact .cons (.vint _ _) (.cons (.vint _ _) (.cons (.vint _ _) (.cons (.vbool _) (.cons (.vint _ _) (sa h)))))
def pa (P:Program)(el:Nat)(f:Nat)(M:List Con)(A:List RV)(r:Bool)(M':List Con):Prop:=
 (∃fn,P.funcs[f]? =some fn∧fn.body.isSome=true)∧
 ∀(w:World)(F:Fz)(Args:List Value)(B x:Nat)(cs ex:List Value),ju F w→F B=none→w.heap[B]? =some (.cells (cs++ex).toArray el (0,0))→au JR (M.flatMap Con.avs) cs→ex.length=x*5→bM F A Args→
  Calls P f (Value.slice (some ⟨B,0,none⟩) M.length (M.length+x)::Args).toArray w fun e w'=>∃cs' ex',e=.returned (.bool r)∧w.heap.size≤w'.heap.size∧w'.os=w.os∧w'.tape=w.tape∧w'.output=w.output∧
   (∀j,j<w.heap.size→j≠B→w'.heap[j]? =w.heap[j]?)∧w'.heap[B]? =some (.cells (cs'++ex').toArray el (0,0))∧au JR (M'.flatMap Con.avs) cs'∧ex'.length=x*5∧w.drawn≤w'.drawn
def wu (el:Nat)(M:List Con)(tp:List Bool):Hs:=⟨bc [(1000,⟨.con M,el,5,true,true⟩)],1001,tp,[]⟩
def JS (el:Nat)(x:Option (AV×Hs))(r:Bool)(M':List Con):Option (List Prop):=match x with
 |none=>none
 |some (v,H)=>match clr v with
  |.bool b=>match H.m.get 1000 with
   |none=>none
   |some k=>bif Nat.beq k.elem el&&Nat.beq k.sz 5 then(match k.view with
    |.con M2=>some ((b=r)::(M2=M')::H.ms)
    |_=>none)else none
  |_=>none
theorem De {P:Program}{E:cb}(hE:fu P E){call:bF}(hcall:ce P E.ng call){f:Nat}{fn:Func}(hf:P.funcs[f]? =some fn){A:List RV}{M M':List Con}{el N:Nat}(hN:N=Nat.max (AV.lo 1000 M.length::RV.avl A).length fn.ntmps){l:List (List Nat×aA)}(hl:∀x∈l,dy P E.ng N (cq fn x.1) x.2)(hng:Nat.ble E.ng 1000=true)
 {r:Bool}{tp:List Bool}{ms:List Prop}(h:JS el (ic E call (fj l) f (.lo 1000 M.length::RV.avl A) (wu el M tp)) r M'=some ms)(hm:ao ms):pa P el f M A r M':=by
 have hlo:∀fn' c,P.funcs[f]? =some fn'→fn'.body=some c→lI P E.ng (Nat.max (AV.lo 1000 M.length::RV.avl A).length fn'.ntmps) (fj l) c:=fun fn' c h1 h2=>by
  rw[hf]at h1
  cases h1
  subst hN
  exact oN h2 hl
 unfold JS at h
 split at h
 ·cases h
 ·rename_i v H' hrun
  split at h
  ·rename_i b hv
   split at h
   ·cases h
   ·rename_i k hk
    obtain⟨hb0,h⟩:=az h
    obtain⟨he1,he2⟩:=bq hb0
    have he1:=co he1
    have he2:=co he2
    split at h
    ·rename_i M2 hM2
     cases h
     rw[jl]at hm
     have hr1:b=r:=hm _ si
     have hr2:M2=M':=hm _ si
     have hm2:∀p∈H'.ms,p:=fun p hp=>hm p (by simp[hp])
     have hb:=(nc hE hcall hlo hrun).2 hm2
     have hng:=aU hng
     refine⟨?_,fun w F Args B x cs ex hF hB hw hcs hex hA=>?_⟩
     ·unfold ic at hrun
      split at hrun
      ·cases hrun
      ·rename_i fn hfn
       rw[hE.fs f]at hfn
       split at hrun
       ·cases hrun
       ·rename_i c hc
        exact⟨fn,hfn,by rw[hc];rfl⟩
     ·have hget:∀b k,(wu el M tp).m.get b=some k→b=1000∧k=⟨.con M,el,5,true,true⟩:=by
       intro b k hb
       have:=jE _ _ _ (by rfl) hb
       simp only[dU,dQ]at this
       exact this
      have hself:((gT E.ng F).put 1000 (some (B,x))) 1000=some (B,x):=Gm.put_same _ _ _
      have hrel:aQ ((gT E.ng F).put 1000 (some (B,x))) (wu el M tp).m.get (wu el M tp).nx w:=by
       refine⟨fun b k hb=>?_,fun b b' k k' B x x' h1 h2 _ _=>?_,fun b hb=>?_,hF,fun b k B' x' hb _ hg=>?_⟩
       ·obtain⟨rfl,rfl⟩:=hget b k hb
        exact⟨B,x,cs,ex,hself,hw,sa hcs,hex,fun h=>by cases h⟩
       ·rw[(hget b k h1).1,(hget b' k' h2).1]
       ·have hb:1001≤b:=hb
        rw[Gm.put_other _ _ om]
        show(if b<E.ng then some (b,0)else none)=none
        rw[if_neg om]
       ·obtain⟨rfl,rfl⟩:=hget b k hb
        rw[hself]at hg
        cases hg
        exact hB
      obtain⟨_,hcalls⟩:=hb ((gT E.ng F).put 1000 (some (B,x))) w (Value.slice (some ⟨B,0,none⟩) M.length (M.length+x)::Args) hrel (.cons (.lo _ hself) (bM.avl (γ:=(gT E.ng F).put 1000 (some (B,x))) hA)) (fun g hg'=>by
       rw[Gm.put_other _ _ om];simp[gT,hg'])
      refine hcalls.mono ?_
      rintro e w' ⟨V,γ',rfl,hV,hR⟩
      have hV:=hV.clr
      rw[hv]at hV
      cases hV
      obtain⟨B',x',cs',ex',g1,g2,g3,g4,_⟩:=hR.stp.rel.blk 1000 k hk
      have:=hR.stp.le.nm _ _ hself
      rw[show γ'.nm 1000=some (B',x')from g1]at this
      cases this
      refine⟨cs',ex',by rw[hr1],hR.stp.size,hR.stp.os,hR.stp.tape,hR.stp.output,fun j hj hne=>hR.stp.frame j hj ?_,by rw[←he1];exact g2,?_,by rw[g4,he2],hR.stp.drawn⟩
      ·rintro⟨b,k,y,q1,_,q3⟩
       obtain⟨rfl,rfl⟩:=hget b k q1
       rw[hself]at q3
       cases q3
       exact hne rfl
      ·have:k.cells=M2.flatMap Con.avs:=by unfold ai.cells;rw[hM2];rfl
       rw[this,hr2]at g3
       exact sa g3
    ·cases h
  ·cases h
def JT (el f0:Nat)(go:List Con→List RV→Option (Bool×List Con×List Prop))(orc:bF):bF:=fun f args H=>
 bif Nat.beq f f0 then(match args with
  |.lo b n::asz=>match H.m.get b with
   |none=>none
   |some k=>bif Nat.beq k.elem el&&Nat.beq k.sz 5&&k.own then(match k.view with
    |.con M=>match oW H.m asz with
     |some (A,false,m1)=>match go M A with
      |none=>none
      |some (r,M',m2)=>match H.m.set b (some {k with view:=.con M'})with
       |none=>none
       |some m'=>some (.vbool r,(⟨m',H.nx,H.tp,H.ms⟩:Hs).must ((n=M.length)::(m1++m2)))
     |_=>none
    |_=>none)else none
  |_=>none)
 else orc f args H
theorem qb {P:Program}{ng el f0:Nat}{go:List Con→List RV→Option (Bool×List Con×List Prop)}(he:∀M A r M' ms,go M A=some (r,M',ms)→(∀p∈ms,p)→pa P el f0 M A r M'){orc:bF}(ho:ce P ng orc):ce P ng (JT el f0 go orc):=by
 intro f args H v H' h
 unfold JT at h
 cases hb0:Nat.beq f f0 with
 |false=>rw[hb0]at h;exact ho f args H v H' h
 |true=>
  rw[hb0]at h
  simp only[aM]at h
  have hf:=co hb0
  subst hf
  split at h
  ·rename_i b n asz
   split at h
   ·cases h
   ·rename_i k hk
    obtain⟨hb1,h⟩:=az h
    obtain⟨hb1,hown⟩:=bq hb1
    obtain⟨he1,he2⟩:=bq hb1
    have he1:=co he1
    have he2:=co he2
    split at h
    ·rename_i M hM
     split at h
     ·rename_i A m1 hA
      split at h
      ·cases h
      ·rename_i r M' m2 hgo
       split at h
       ·cases h
       ·rename_i m' hset
        cases h
        refine⟨fun p hp=>by simp[Hs.must,hp],fun hm γ w Args hr hV hg=>?_⟩
        have hms:∀p∈(n=M.length)::(m1++m2),p:=fun p hp=>hm p (by simp only[Hs.must];exact kv _ hp)
        have hn:n=M.length:=hms _ si
        obtain⟨hm1,hm2⟩:=er (fun p hp=>hms p (fT _ hp))
        obtain⟨hfn,hupd⟩:=he M A r M' m2 hgo hm2
        refine⟨hfn,?_⟩
        cases hV with
        |cons hV0 hVs=>
         cases hV0 with
         |lo _ hgb=>
          rename_i B x
          obtain⟨B',x',cs,ex,g1,g2,g3,g4,g5⟩:=hr.blk b k hk
          rw[hgb]at g1
          cases g1
          have hcells:k.cells=M.flatMap Con.avs:=by unfold ai.cells;rw[hM];rfl
          rw[hcells]at g3
          have hfz:=hr.fzo b k B x hk hown hgb
          have hRs:=oC hr (F:=γ.fz) (fun _ _ h=>h) (fun h=>by cases h) hA hm1 hVs
          subst hn
          refine(hupd w γ.fz _ B x cs ex hr.fzr hfz (by rw[he1]at g2;exact g2) (sa g3) (by rw[g4,he2]) hRs).mono ?_
          rintro e w' ⟨cs',ex',rfl,q1,q2,q3,q4,q5,q6,q7,q8,q9⟩
          have hget:=Tr.get_set hset
          have hBlt:B<w.heap.size:=hr.lt hk hgb
          refine⟨.bool r,γ,rfl,.vbool _,⟨Gm.le_refl γ,⟨fun c kc hc=>?_,fun c c' kc kc' B1 y y' h1 h2=>?_,hr.fresh,fun B1 y hB1=>?_,fun c kc B1 y hc hco=>?_⟩,q1,q2,q3,q4,fun j hj hno=>?_,fun j hj hoi=>?_,fun c kc hc hco=>?_,fun c kc hc=>?_,fun B1 y h1=>.inl h1,q9⟩,aZ _,fun _ _=>rfl⟩
          ·have hc:m'.get c=some kc:=hc
           rw[hget]at hc
           split at hc
           ·rename_i e
            cases hc
            rw[e]
            exact⟨B,x,cs',ex',hgb,by rw[he1];exact q6,sa q7,by rw[q8,he2],g5⟩
           ·rename_i e
            obtain⟨B2,x2,cs2,ex2,p1,p2,p3⟩:=hr.blk c kc hc
            refine⟨B2,x2,cs2,ex2,p1,?_,p3⟩
            rw[q5 B2 (hr.lt hc p1) (fun e2=>e (hr.inj c b kc k B x2 x hc hk (by rw[←e2];exact p1) hgb))]
            exact p2
          ·have hs:∀c kc,m'.get c=some kc→∃kc',H.m.get c=some kc':=by
            intro c kc hc
            rw[hget]at hc
            split at hc
            ·rename_i e;rw[e];exact⟨k,hk⟩
            ·exact⟨kc,hc⟩
           obtain⟨_,s1⟩:=hs _ _ h1
           obtain⟨_,s2⟩:=hs _ _ h2
           exact hr.inj _ _ _ _ _ _ _ s1 s2
          ·have h1:=hr.fzr B1 y hB1
           rw[q5 B1 (fG.1 h1).1 (fun e=>by rw[e,hfz]at hB1;cases hB1)]
           exact h1
          ·have hc:m'.get c=some kc:=hc
           rw[hget]at hc
           split at hc
           ·rename_i e;rw[e];exact hr.fzo b k B1 y hk hown
           ·exact hr.fzo c kc B1 y hc hco
          ·exact q5 j hj (fun e=>hno (e▸⟨b,k,x,hk,hown,hgb⟩))
          ·obtain⟨c,kc,y,s1,s2,s3⟩:=hoi
           have s1:m'.get c=some kc:=s1
           rw[hget]at s1
           split at s1
           ·rename_i e
            rw[e]at s3
            exact⟨b,k,y,hk,hown,s3⟩
           ·exact⟨c,kc,y,s1,s2,s3⟩
          ·have hc:m'.get c=some kc:=hc
           rw[hget]at hc
           split at hc
           ·cases hc;rw[hown]at hco;cases hco
           ·exact hc
          ·have hc:m'.get c=some kc:=hc
           rw[hget]at hc
           split at hc
           ·rename_i e;rw[e];exact .inl ⟨k,hk⟩
           ·exact .inl ⟨kc,hc⟩
     ·cases h
    ·cases h
  ·cases h
end Go.QfSy
namespace Go.Proofs.YtmeljalphfcieaaGreatDoor.S
open Go.QfSy Go.RowKit
def Kw (l:List Int)(k N:Nat):LC→List RV→Option (Bool×LC×List Prop):=fun M A=>match A with
 |[.sl n 1 row,.int .i64 k',.int .i64 t]=>some ((bT (l.drop (k+1)) t M).1,(bT (l.drop (k+1)) t M).2,[n=l.length∧row=(fun j=>[.int .i64 (l.getD j 0)])∧k'=((k+1:Nat):Int)∧0≤t∧t≤7∧M.length=N])
 |_=>none
def xX (l:List Int)(k N:Nat):Prop:=∀(M:LC)(t:Int),M.length=N→0≤t→t≤7→pa Tryz.prog 53 105 M [rI .i64 l,.int .i64 (k:Int),.int .i64 t] (bT (l.drop k) t M).1 (bT (l.drop k) t M).2
theorem Gn {l:List Int}{k N:Nat}(h:xX l (k+1) N):∀M A r M' ms,Kw l k N M A=some (r,M',ms)→(∀p∈ms,p)→pa Tryz.prog 53 105 M A r M':=by
 intro M A r M' ms hq hm
 unfold Kw at hq
 split at hq
 ·cases hq
  obtain⟨h1,h2,h3,h4,h5,h6⟩:=ay hm
  subst h1 h2 h3
  exact h M _ h6 h4 h5
 ·cases hq
def NM (l:List Int)(k N:Nat)(tot:Int)(t:AV):List (Nat×AV):=[(0,.lo 1000 N),(1,(rI .i64 l).av),(2,vi k),(3,vi tot),(9,t)]
def xY (M:LC):List (Nat×ai):=[(1000,⟨.con M,53,5,true,true⟩)]
def aak (l:List Int)(k N:Nat)(tot:Int)(M0:LC):aA:=⟨⟨NM l k N tot (.int .i64 0),xY M0,1010⟩,some (bT (l.drop k) tot M0).1,fun d=>match d with
 |true=>(.ret,⟨[(8,.bool true)],xY (bT (l.drop k) tot M0).2,1010⟩)
 |false=>(.exit 0,⟨[],xY (bT (l.drop k) tot M0).2,1010⟩)⟩
def l8 (l:List Int)(k:Nat)(tot:Int)(t:Nat)(M:LC):LC:=bif b7 (at_ (cG M (l.getD k 0) (t:Int)) (l.getD k 0).toNat)then(bT (l.drop (k+1)) ((tot+8-(t:Int))%8) (cG M (l.getD k 0) (t:Int))).2 else cG M (l.getD k 0) (t:Int)
theorem Jn {g:Int→LC→Bool×LC}{i tot:Int}{t:Nat}{M:LC}(ht:t<8)(h1:b7 (at_ (cG M i (t:Int)) i.toNat)=true)(h2:(g ((tot+8-(t:Int))%8) (cG M i (t:Int))).1=true):gu g i tot (8-t) t M=(true,(g ((tot+8-(t:Int))%8) (cG M i (t:Int))).2):=by
 rw[show 8-t=(8-(t+1))+1 by omega]
 simp only[gu,h1,h2,aM]
theorem aal {g:Int→LC→Bool×LC}{i tot:Int}{t:Nat}{M:LC}(ht:t<8)(h1:b7 (at_ (cG M i (t:Int)) i.toNat)=true)(h2:(g ((tot+8-(t:Int))%8) (cG M i (t:Int))).1=false):gu g i tot (8-t) t M=gu g i tot (8-(t+1)) (t+1) (g ((tot+8-(t:Int))%8) (cG M i (t:Int))).2:=by
 rw[show 8-t=(8-(t+1))+1 by omega]
 simp only[gu,h1,h2,aM,bg]
theorem aam {g:Int→LC→Bool×LC}{i tot:Int}{t:Nat}{M:LC}(ht:t<8)(h1:b7 (at_ (cG M i (t:Int)) i.toNat)=false):gu g i tot (8-t) t M=gu g i tot (8-(t+1)) (t+1) (cG M i (t:Int)):=by
 rw[show 8-t=(8-(t+1))+1 by omega]
 simp only[gu,h1,bg]
theorem Jo {g:Int→LC→Bool×LC}{i tot:Int}{t:Nat}{M:LC}(ht:¬t<8)(h8:t≤8):gu g i tot (8-t) t M=(false,M):=by
 rw[show 8-t=0 by omega];rfl
theorem Jp {l:List Int}{k:Nat}{tot:Int}{t:Nat}{M:LC}(h:b7 (at_ (cG M (l.getD k 0) (t:Int)) (l.getD k 0).toNat)=true):l8 l k tot t M=(bT (l.drop (k+1)) ((tot+8-(t:Int))%8) (cG M (l.getD k 0) (t:Int))).2:=by unfold l8;rw[h];rfl
theorem Jq {l:List Int}{k:Nat}{tot:Int}{t:Nat}{M:LC}(h:b7 (at_ (cG M (l.getD k 0) (t:Int)) (l.getD k 0).toNat)=false):l8 l k tot t M=cG M (l.getD k 0) (t:Int):=by unfold l8;rw[h];rfl
theorem bR.drop {N:Nat}{l:List Int}(h:bR N l)(k:Nat):bR N (l.drop k):=fun x hx=>h x (List.mem_of_mem_drop hx)
theorem zf {N:Nat}{l:List Int}(h:bR N l){tot:Int}{M:LC}(hM:M.length=N):(bT l tot M).2.length=N:=((yC h).2.1 tot M hM).len.trans hM
theorem UQ {N:Nat}{l:List Int}(h:bR N l){k:Nat}{tot:Int}{t:Nat}{M:LC}(hM:M.length=N):(l8 l k tot t M).length=N:=by
 unfold l8
 cases b7 (at_ (cG M (l.getD k 0) (t:Int)) (l.getD k 0).toNat)with
 |false=>rw[bg,md,hM]
 |true=>rw[aM];exact zf (h.drop _) (by rw[md,hM])
theorem Gp {M:LC}{i:Nat}{t:Int}:(fx M i t).length=M.length:=by simp[fx]
theorem UR (l:List Int)(k N:Nat)(tot:Int)(M0:LC)(hk:k<l.length)(hl:l.length≤1000)(hr:bR N l)(h0:0≤tot)(h1:tot≤7)(hM0:M0.length=N)(ih:xX l (k+1) N):An 4 Tryz.f105 [0,1,0,1,1] (aak l k N tot M0):=by
 refine ea (cF (qb (Gn ih) (fq pW))) aC (u2 fun(t:Nat)(M:LC)=>(⟨NM l k N tot (vi t),xY M,1010⟩:St)) (u2 fun(t:Nat)(M:LC)=>(8-t:Nat)) (fun(d:Bool)=>u2 fun(t:Nat)(M:LC)=>(t≤8∧M.length=N∧gu (bT (l.drop (k+1))) (l.getD k 0) tot (8-t) t M=bT (l.drop k) tot M0∧(bT (l.drop k) tot M0).1=d:Prop)) ?_ ?_
 ·intro d hd
  exact st (0,M0) [N=N,sr l fun j=>[RV.int IntKind.i64 (l.getD j (0:Int))],rq (↑k:Int),tot=tot,(0:Int)=↑(0:Nat),M0=M0] (by refine⟨?_,?_,?_,?_,?_,(?_:M0=M0)⟩<;>(first|rfl|assumption|exact⟨rfl,rfl⟩|omega|simp_all)) (by exact⟨aY _,hM0,by rw[m9 hk];rfl,hd⟩)
 ·rintro d hd ⟨t,M⟩ hI
  obtain⟨ht,hM,hf,hs⟩:=hI
  have ht:t≤8:=ht
  have hM:M.length=N:=hM
  have hf:gu (bT (l.drop (k+1))) (l.getD k 0) tot (8-t) t M=bT (l.drop k) tot M0:=hf
  have ek:=wk t
  have hi:=hr.at hk
  have e2:∀b,b7 ((fx M (l.getD k 0).toNat (t:Int)).getD (l.getD k 0).toNat Con.zero)=b→b7 (at_ (cG M (l.getD k 0) (t:Int)) (l.getD k 0).toNat)=b:=fun _ h=>h
  have et:t<8→(w6.wrap (w6.wrap (tot+8)-(t:Int))).tmod 8=(tot+8-(t:Int))%8:=fun h8=>by rw[kP (n:=tot+8) om om,wo,gh om]
  have ew:=wk k
  refine(let q1:List Prop→List Prop:=fun l0=>(N=N)::(sr l fun j=>[RV.int IntKind.i64 (l.getD j (0:Int))])::rq (↑k:Int)::(tot=tot)::(w6.wrap ((↑t:Int)+1)=↑(t+1))::l0;oe (decide ((↑t:Int)<8)) (fun d1=>let y1:List Prop:=(let v1:=l.getD k (0:Int);[v1.toNat<(fx M v1.toNat (↑t:Int)).length,(0:Int)≤l.getD k (0:Int)∧l.getD k (0:Int)<↑N,(0:Int)≤↑k∧(↑k:Int)<↑l.length,v1.toNat<M.length,(0:Int)≤l.getD k (0:Int)∧l.getD k (0:Int)<↑N,(0:Int)≤↑k∧(↑k:Int)<↑l.length,ty d1]);have u1:ao y1:=⟨?_,?_,?_,?_,?_,?_,d1⟩;oe (b7 ((fx M (l.getD k (0:Int)).toNat (↑t:Int)).getD (l.getD k (0:Int)).toNat Con.zero)) (fun d2=>let y2:List Prop:=(let v1:=w6.wrap (w6.wrap (tot+8)-↑t);let v2:=fx M (l.getD k (0:Int)).toNat (↑t:Int);(N=v2.length)::(l.length=l.length∧((fun j=>[RV.int IntKind.i64 (l.getD j (0:Int))])=fun j=>[RV.int IntKind.i64 (l.getD j (0:Int))])∧w6.wrap ((↑k:Int)+1)=↑(k+1)∧(0:Int)≤v1.tmod (8:Int)∧v1.tmod (8:Int)≤7∧v2.length=N)::((8:Int)≠(0:Int))::ty d2::y1);have u2:ao y2:=⟨?_,?_,?_,d2,u1⟩;oe ((bT (List.drop (k+1) l) ((w6.wrap (w6.wrap (tot+8)-↑t)).tmod (8:Int)) (fx M (l.getD k (0:Int)).toNat (↑t:Int))).fst) (fun d3=>aG d true (tp 111) (((bT (List.drop (k+1) l) ((w6.wrap (w6.wrap (tot+8)-↑t)).tmod (8:Int)) (fx M (l.getD k (0:Int)).toNat (↑t:Int))).snd=(bT (List.drop k l) tot M0).snd)::ty d3::y2) ⟨?_,d3,u2⟩ ?_)
   (fun d3=>aq (tp 112) (t+1,l8 l k tot t M) (q1 (((bT (List.drop (k+1) l) ((w6.wrap (w6.wrap (tot+8)-↑t)).tmod (8:Int)) (fx M (l.getD k (0:Int)).toNat (↑t:Int))).snd=l8 l k tot t M)::ty d3::y2)) ⟨?_,?_,?_,?_,?_,?_,d3,u2⟩ ?_ ?_))
   (fun d2=>aq [true,false] (t+1,l8 l k tot t M) (q1 ((fx M (l.getD k (0:Int)).toNat (↑t:Int)=l8 l k tot t M)::ty d2::y1)) ⟨?_,?_,?_,?_,?_,?_,d2,u1⟩ ?_ ?_))
   (fun d1=>aG d false [false] [M=(bT (List.drop k l) tot M0).snd,ty d1] ⟨?_,d1⟩ ?_))
  all_goals first|(refine cy.mk ?_;(simp only[dT]at d1;show 8-(t+1)<8-t;omega))|(refine bD.mk ?_;(simp only[dT]at d1;have h8:t<8:=om;have ex:=et h8;refine⟨h8,UQ hr hM,?_,hs⟩;first|(rw[ex]at d3;rw[Jp (e2 _ d2),←hf,aal h8 (e2 _ d2) d3];done)|(rw[Jq (e2 _ d2),←hf,aam h8 (e2 _ d2)];done)))|(refine dq.mk ?_;cases d<;>first|rfl|(exfalso;(simp only[dT,dF]at d1;first|(rw[←hf,Jo om om]at hs;cases hs;done)|(have h8:t<8:=om;have ex:=et h8;rw[ex]at d3;rw[←hf,Jn h8 (e2 _ d2) d3]at hs;cases hs;done))))|(first|exact tz|decide|((try simp only[ek,dT,dF]at d1⊢)<;>first|omega|(rw[Gp];omega)|(have h8:t=8:=om;rw[←hf,Jo om om];done)|(have h8:t<8:=om;have ex:=et h8;first|exact⟨by trivial,by trivial,ew,by rw[ex];omega,by rw[ex];omega,by rw[Gp];exact hM⟩|(rw[ex]at d3;rw[ex,←hf,Jn h8 (e2 _ d2) d3]<;>rfl)|(rw[ex,Jp (e2 _ d2)]<;>rfl)|(rw[Jq (e2 _ d2)]<;>rfl))))
theorem W1 (l:List Int)(k:Nat)(tot:Int)(M:LC)(hk:k=l.length):pa Tryz.prog 53 105 (M) [rI .i64 l,.int .i64 (k:Int),.int .i64 tot] (tot==0) (M):=by
 have k1:((k:Int)==(l.length:Int))=true:=(by rw[hk];exact e9 _)
 have rr:=fun(tp:List Bool)(ms:List Prop)h hm=>De fB (j6 fB (fq pW) 8) Tryz.func105 (A:=[rI .i64 l,.int .i64 (k:Int),.int .i64 tot]) (M:=M) (M':=M) (el:=53) (N:=Nat.max 4 Tryz.f105.ntmps) rfl aC lJ (r:=tot==0) (tp:=tp) (ms:=ms) h hm
 refine rr [true] [rq (tot==0),M=M,aj ((↑k:Int)==↑l.length) true] kr ⟨?_,?_,k1⟩
 all_goals first|(first|exact tz)
theorem US (l:List Int)(k N:Nat)(tot:Int)(M:LC)(hk:k<l.length)(hl:l.length≤1000)(hr:bR N l)(h0:0≤tot)(h1:tot≤7)(hM0:M.length=N)(ih:xX l (k+1) N):pa Tryz.prog 53 105 (M) [rI .i64 l,.int .i64 (k:Int),.int .i64 tot] ((bT (l.drop k) tot M).1) ((bT (l.drop k) tot M).2):=by
 have k1:((k:Int)==(l.length:Int))=false:=(by rw[bJ];omega)
 have rr:=fun(tp:List Bool)(ms:List Prop)h hm=>De fB (j6 fB (qb (Gn ih) (fq pW)) 8) Tryz.func105 (A:=[rI .i64 l,.int .i64 (k:Int),.int .i64 tot]) (M:=M) (M':=(bT (l.drop k) tot M).2) (el:=53) (N:=Nat.max 4 Tryz.f105.ntmps) rfl (aW (UR l k N tot M hk hl hr h0 h1 hM0 ih)) lJ (r:=(bT (l.drop k) tot M).1) (tp:=tp) (ms:=ms) h hm
 refine oe ((bT (List.drop k l) tot M).fst) (fun d1=>rr [false,true] [true=(bT (List.drop k l) tot M).fst,rq ((bT (List.drop k l) tot M).snd),M.length=N,sr l fun j=>[RV.int IntKind.i64 (l.getD j (0:Int))],rq (↑k:Int),tot=tot,M=M,ty d1,aj ((↑k:Int)==↑l.length) false] kr ⟨?_,?_,?_,?_,?_,?_,?_,d1,k1⟩)
  (fun d1=>rr [false,false] [false=(bT (List.drop k l) tot M).fst,rq ((bT (List.drop k l) tot M).snd),M.length=N,sr l fun j=>[RV.int IntKind.i64 (l.getD j (0:Int))],rq (↑k:Int),tot=tot,M=M,ty d1,aj ((↑k:Int)==↑l.length) false] kr ⟨?_,?_,?_,?_,?_,?_,?_,d1,k1⟩)
 all_goals first|(first|exact tz|exact hM0|exact d1.symm)
theorem Dw {l:List Int}{N:Nat}(hl:l.length≤1000)(hr:bR N l):∀n k,k+n=l.length→xX l k N
 |0,k,h=>fun M t hM h0 h1=>by
  have:=W1 l k t M om
  rw[eL om]
  exact this
 |n+1,k,h=>fun M t hM h0 h1=>US l k N t M om hl hr h0 h1 hM (Dw hl hr n (k+1) om)
def Vd:List bV:=sV++(Az++AP)
theorem uk:∀e∈Vd,ch Tryz.prog e:=by
 intro e he
 rcases dV.1 he with he|he
 ·exact rX e he
 ·rcases dV.1 he with he|he
  ·exact EL e he
  ·exact pW e he
theorem Qk {n k:Nat}(h:k<n):(List.range n).drop k=k::(List.range n).drop (k+1):=by
 rw[kU CG];simp
theorem DA {n k:Nat}(h:k<n)(q:Nat→Bool):((List.range n).drop k).all q=(q k&&((List.range n).drop (k+1)).all q):=by
 rw[Qk h];rfl
theorem Ql {n k:Nat}(h:n≤k)(q:Nat→Bool):((List.range n).drop k).all q=true:=by
 rw[eL CG];rfl
theorem yD {L:LC}{i:Nat}:gS L i=true↔(0≤(at_ L i).oddity∧(at_ L i).oddity≤7)∧((at_ L i).odd=false→(at_ L i).dim.tmod 2=0∧(at_ L i).oddity=0)∧((at_ L i).odd=true→(cI L i).getD 0 0=(i:Int)∨(at_ L i).oddity=0):=by
 simp only[gS,nv,fy,s8]
 cases (at_ L i).odd<;>simp
theorem Sp {L:LC}{i:Nat}(h:¬((0≤(at_ L i).oddity∧(at_ L i).oddity≤7)∧((at_ L i).odd=false→(at_ L i).dim.tmod 2=0∧(at_ L i).oddity=0)∧((at_ L i).odd=true→(cI L i).getD 0 0=(i:Int)∨(at_ L i).oddity=0))):gS L i=false:=by
 cases hf:gS L i with
 |false=>rfl
 |true=>exact absurd (yD.1 hf) h
theorem Qm {L:LC}{i:Nat}(h:i<L.length)(ho:(L.getD i z0c).odd=true):0<(cI L (i:Int)).length:=by
 have:=(yl h (show fy L i=true from ho)).2
 exact lV.2 (fun e=>by rw[e]at this;simp at this)
def Xf (p:Int)(L:LC):aA:=⟨⟨[(1,.ptr 1000 0),(20,(aD L).av),(21,vi L.length),(22,.int .i64 0)],iQ p L,1020⟩,some ((List.range L.length).all (gS L)),fun d=>match d with
 |true=>(.exit 0,⟨[(1,.ptr 1000 0)],iQ p L,1020⟩)
 |false=>(.ret,⟨[(2,.bool false)],[],1020⟩)⟩
set_option maxHeartbeats 2000000 in
theorem Fr (p:Int)(L:LC)(hL:dv L):An 1 Tryz.f96 [0,1,0,1,1] (Xf p L):=by
 refine ea (cE uk) aC (fun(k:Nat)=>(⟨[(1,.ptr 1000 0),(20,(aD L).av),(21,vi L.length),(22,vi k)],iQ p L,1020⟩:St)) (fun(k:Nat)=>(L.length-k:Nat)) (fun(d:Bool)=>fun(k:Nat)=>(k≤L.length∧((List.range L.length).drop k).all (gS L)=d:Prop)) ?_ ?_
 ·intro d hd
  exact st (0) [lq L,rq (↑L.length:Int),(0:Int)=↑(0:Nat),p=p,lq L] pu (by exact⟨aY _,hd⟩)
 ·rintro d hd k hI
  obtain⟨hk,hs⟩:=hI
  have hk:k≤L.length:=hk
  have hl:=hL.1
  have ek:=wk k
  refine(let t1:List Prop→List Prop:=fun l0=>(lq L)::rq (↑L.length:Int)::(w6.wrap ((↑k:Int)+1)=↑(k+1))::(p=p)::(lq L)::l0;oe (decide ((↑k:Int)<↑L.length)) (fun d1=>let y1:List Prop:=[(0:Int)≤↑k∧(↑k:Int)<↑L.length,ty d1];have u1:ao y1:=⟨?_,d1⟩;oe (decide ((L.getD k z0c).oddity<0)) (fun d2=>aG d false [true,true] (ty d2::y1) ⟨d2,u1⟩ ?_)
   (fun d2=>oe (decide ((L.getD k z0c).oddity>7)) (fun d3=>aG d false (tp 121) (ty d3::ty d2::y1) ⟨d3,d2,u1⟩ ?_)
   (fun d3=>let y2:List Prop:=ty d3::ty d2::y1;have u2:ao y2:=⟨d3,d2,u1⟩;oe ((L.getD k z0c).odd) (fun d4=>let y3:List Prop:=(let v1:=ag L.length fun i=>(L.getD i z0c).rvs;((0:Int)≤0∧(0:Int)<(↑(cI v1 (↑k:Int)).length:Int))::((lz L)∧dv v1)::ty d4::ty (dN d4)::y2);have u3:ao y3:=⟨?_,?_,d4,(dN d4),u2⟩;oe ((cI (ag L.length fun i=>(L.getD i z0c).rvs) (↑k:Int)).getD (Int.toNat (0:Int)) (0:Int)==↑k) (fun d5=>aq (tp 122212) (k+1) (t1 (ty (dN d5)::y3)) ⟨?_,?_,?_,?_,?_,(dN d5),u3⟩ ?_ ?_)
   (fun d5=>oe ((L.getD k z0c).oddity==0) (fun d6=>aq (tp 1222112) (k+1) (t1 (ty (dN d6)::ty (dN d5)::y3)) ⟨?_,?_,?_,?_,?_,(dN d6),(dN d5),u3⟩ ?_ ?_)
   (fun d6=>aG d false (tp 1222111) (ty (dN d6)::ty (dN d5)::y3) ⟨(dN d6),(dN d5),u3⟩ ?_)))
   (fun d4=>let y3:List Prop:=((2:Int)≠(0:Int))::ty (dN d4)::y2;have u3:ao y3:=⟨?_,(dN d4),u2⟩;oe ((L.getD k z0c).dim.tmod (2:Int)==0) (fun d5=>oe ((L.getD k z0c).oddity==0) (fun d6=>aq (tp 1221222) (k+1) (t1 (ty d4::ty (dN d6)::ty (dN d5)::y3)) ⟨?_,?_,?_,?_,?_,d4,(dN d6),(dN d5),u3⟩ ?_ ?_)
   (fun d6=>aG d false (tp 122121) (ty (dN d6)::ty (dN d5)::y3) ⟨(dN d6),(dN d5),u3⟩ ?_))
   (fun d5=>aG d false (tp 12211) (ty (dN d5)::y3) ⟨(dN d5),u3⟩ ?_)))))
   (fun d1=>aG d true [false] [p=p,lq L,ty d1] ⟨?_,?_,d1⟩ ?_))
  all_goals((try clear u3);(try clear y3);(try clear u2);(try clear y2);(try clear u1);(try clear y1))
  all_goals first|exact nV|(refine bD.mk ?_;(simp only[dT,dF,bn,bt,ky,b6,bJ,ne_eq,gM]at*;rw[DA om]at hs;rw[show gS L k=true from yD.2 Mb]at hs;exact⟨om,hs⟩))|(refine dq.mk ?_;cases d<;>first|rfl|(exfalso;(simp only[dT,dF,bn,bt,ky,b6,bJ,ne_eq,gM]at*;first|(rw[Ql om]at hs;cases hs;done)|(rw[DA om]at hs;rw[show gS L k=false from Sp (by simp only[at_];first|(rintro⟨q1,q2,q3⟩;omega)|(rintro⟨q1,q2,q3⟩;simp_all;done))]at hs;cases hs;done))))|(first|exact tz|(exact(by decide:(2:Int)≠0))|exact⟨fun _ _=>rfl,by rw[bn];exact hL⟩|((try simp only[ek,bn,bt,ky,dT,dF]at*)<;>first|omega|(have h0:=Qm (L:=L) (i:=k) om aS;omega)))
def BE (P:List (List Int))(j:Nat):List (Nat×AV):=[(1,.ptr 1000 0),(71,(cS .i64 P).av),(72,vi P.length),(73,vi j),(6,(rI .i64 (ab P j)).av)]
def Ig (p:Int)(L:LC)(P:List (List Int))(j:Nat):aA:=⟨⟨BE P j++[(7,.int .i64 0),(77,(rI .i64 (ab P j)).av),(78,vi (ab P j).length),(79,.int .i64 0)],iQ p L,1020⟩,none,fun _=>
 (.exit 4,⟨BE P j++[(7,vi (fv L (ab P j)))],iQ p L,1020⟩)⟩
theorem Sq (p:Int)(L:LC)(P:List (List Int))(j:Nat)(hL:aL L)(hr:bR L.length (ab P j))(hn:(ab P j).length≤1000):An 1 Tryz.f96 [0,1,0,1,1,0,0,1,1,0,0,1,0,1,1,1] (Ig p L P j):=by
 refine cN c0 aC (u2 fun(t:Nat)(n:Int)=>(⟨BE P j++[(7,vi n),(77,(rI .i64 (ab P j)).av),(78,vi (ab P j).length),(79,vi t)],iQ p L,1020⟩:St)) (u2 fun(t:Nat)(n:Int)=>((ab P j).length-t:Nat)) (u2 fun(t:Nat)(n:Int)=>(t≤(ab P j).length∧n=fv L ((ab P j).take t):Prop)) ?_ ?_
 ·exact st (0,0) [sr P fun i=>[rI IntKind.i64 (P.getD i [])],rq (↑P.length:Int),rq (↑j:Int),sr (ab P j) fun j_1=>[RV.int IntKind.i64 ((ab P j).getD j_1 (0:Int))],rq (0:Int),sr (ab P j) fun j_1=>[RV.int IntKind.i64 ((ab P j).getD j_1 (0:Int))],rq (↑(ab P j).length:Int),(0:Int)=↑(0:Nat),p=p,lq L] L7 (by exact⟨aY _,rfl⟩)
 ·rintro ⟨t,n⟩ hI
  obtain⟨ht,hs⟩:=hI
  have ht:t≤(ab P j).length:=ht
  have hs:n=fv L ((ab P j).take t):=hs
  have ek:=wk t
  have hb:=vn hL (l:=(ab P j).take t) (fun x hx=>hr x (rC hx))
  have hb2:(((ab P j).take t).length:Int)≤1000:=by simp only[n8];omega
  refine(let t1:List Prop→List Prop:=fun l0=>(sr P fun i=>[rI IntKind.i64 (P.getD i [])])::rq (↑P.length:Int)::rq (↑j:Int)::(sr (ab P j) fun j_1=>[RV.int IntKind.i64 ((ab P j).getD j_1 (0:Int))])::l0;oe (decide ((↑t:Int)<(↑(ab P j).length:Int))) (fun d1=>aq [true] (t+1,n+(at_ L ((ab P j).getD t 0).toNat).dim) (t1 (let v1:=(ab P j).getD t (0:Int);let v2:=(↑(ab P j).length:Int);[w6.wrap (n+(L.getD v1.toNat z0c).dim)=n+(at_ L v1.toNat).dim,sr (ab P j) fun j_1=>[RV.int IntKind.i64 ((ab P j).getD j_1 (0:Int))],rq v2,w6.wrap ((↑t:Int)+1)=↑(t+1),p=p,lq L,(0:Int)≤(ab P j).getD t (0:Int)∧(ab P j).getD t (0:Int)<↑L.length,(0:Int)≤↑t∧(↑t:Int)<v2,ty d1])) ⟨?_,?_,?_,?_,?_,?_,?_,?_,?_,?_,?_,?_,d1⟩ ?_ ?_)
   (fun d1=>br [false] (t1 [n=fv L (ab P j),p=p,lq L,ty d1]) ⟨?_,?_,?_,?_,?_,?_,?_,d1⟩))
  all_goals first|exact Ca|(refine bD.mk ?_;(simp only[dT,dF,bt,gM]at*;exact⟨om,by rw[D1 om,hs]⟩))|exact cT|exact LN
def Xg (p:Int)(L:LC)(P:List (List Int)):aA:=⟨⟨[(1,.ptr 1000 0),(71,(cS .i64 P).av),(72,vi P.length),(73,.int .i64 0)],iQ p L,1020⟩,some (P.all (nw L)),fun d=>match d with
 |true=>(.exit 2,⟨[],[],1020⟩)
 |false=>(.ret,⟨[(2,.bool false)],[],1020⟩)⟩
theorem Sr (p:Int)(L:LC)(P:List (List Int))(hL:aL L)(hP:∀l∈P,l≠[]∧bR L.length l∧l.length≤L.length)(hm:P.length≤1000):An 1 Tryz.f96 [0,1,0,1,1,1] (Xg p L P):=by
 refine jU c0 (fun(j:Nat)=>(⟨[(1,.ptr 1000 0),(71,(cS .i64 P).av),(72,vi P.length),(73,vi j)],iQ p L,1020⟩:St)) (fun(j:Nat)=>(P.length-j:Nat)) (fun(d:Bool)=>fun(j:Nat)=>(j≤P.length∧(P.drop j).all (nw L)=d:Prop)) (fun(j:Nat)=>([([0,1,0,1,1,0,0,1,1,0,0,1,0,1,1,1],Ig p L P j)]:List (List Nat×aA))) ?_ ?_ ?_
 ·rintro d hd j hI
  exact aW (Sq p L P j hL L8 L5)
 ·intro d hd
  exact st (0) [sr P fun i=>[rI IntKind.i64 (P.getD i [])],rq (↑P.length:Int),(0:Int)=↑(0:Nat),p=p,lq L] pu (by exact⟨aY _,hd⟩)
 ·rintro d hd j hI
  obtain⟨ht,hs⟩:=hI
  have ht:j≤P.length:=ht
  have hl1:=hL.1
  have ek:=wk j
  refine oe (decide ((↑j:Int)<↑P.length)) (fun d1=>let y1:List Prop:=(let v1:=P.getD j [];let v2:=(↑(ab P j).length:Int);[(2:Int)≠(0:Int),(0:Int)≤(ab P j).getD (Int.toNat (0:Int)) (0:Int)∧(ab P j).getD (Int.toNat (0:Int)) (0:Int)<↑L.length,(0:Int)≤0∧(0:Int)<v2,sr P fun i=>[rI IntKind.i64 (P.getD i [])],rq (↑P.length:Int),rq (↑j:Int),v1.length=(ab P j).length∧(fun j_1=>[RV.int IntKind.i64 (v1.getD j_1 (0:Int))])=fun j_1=>[RV.int IntKind.i64 ((ab P j).getD j_1 (0:Int))],v1.length=(ab P j).length∧(fun j_1=>[RV.int IntKind.i64 (v1.getD j_1 (0:Int))])=fun j_1=>[RV.int IntKind.i64 ((ab P j).getD j_1 (0:Int))],(↑v1.length:Int)=v2,p=p,lq L,(0:Int)≤↑j∧(↑j:Int)<↑P.length,ty d1]);have u1:ao y1:=⟨?_,?_,?_,?_,?_,?_,?_,?_,?_,?_,?_,?_,d1⟩;oe ((w6.wrap ((L.getD ((ab P j).getD (Int.toNat (0:Int)) (0:Int)).toNat z0c).oddity-fv L (ab P j))).tmod (2:Int)==0) (fun d2=>aq [true,false] (j+1) ((sr P fun i=>[rI IntKind.i64 (P.getD i [])])::rq (↑P.length:Int)::(w6.wrap ((↑j:Int)+1)=↑(j+1))::(p=p)::(lq L)::ty (dN d2)::y1) ⟨?_,?_,?_,?_,?_,(dN d2),u1⟩ ?_ ?_)
   (fun d2=>aG d false [true,true] (ty (dN d2)::y1) ⟨(dN d2),u1⟩ ?_))
   (fun d1=>aG d true [false] [ty d1] d1 ?_)
  all_goals((try clear u1);(try clear y1))
  all_goals first|exact xn|(refine bD.mk ?_;(simp only[dT,bt,ky]at*;have h0:=hP _ (gE (P:=P) (t:=j) om);rw[rS om,←vO hL h0.1 h0.2.1 om]at hs;refine⟨om,?_⟩;simp only[at_]at hs;rw[d2]at hs;exact hs))|(refine dq.mk ?_;cases d<;>first|rfl|(exfalso;(simp only[dT,dF,bt,ky]at*;first|(rw[eL om]at hs;cases hs;done)|(have h0:=hP _ (gE (P:=P) (t:=j) om);rw[rS om,←vO hL h0.1 h0.2.1 om]at hs;simp only[at_]at hs;rw[d2]at hs;cases hs;done))))|(first|exact tz|(exact(by decide:(2:Int)≠0))|((try simp only[ek,bt,ky,dT,dF]at*)<;>first|omega|(have h0:=hP _ (gE (P:=P) (t:=j) om);have h1:0<(P.getD j []).length:=lV.2 h0.1;have h2:0≤(P.getD j []).getD 0 0∧(P.getD j []).getD 0 0<(L.length:Int):=h0.2.1.at (t:=0) h1;have h3:0<(ab P j).length:=h1;have h4:0≤(ab P j).getD 0 0∧(ab P j).getD 0 0<(L.length:Int):=h2;omega)))
theorem GG {L:LC}(h:ef L=true):L.length≤8∧∀c∈L,(0≤c.exp∧c.exp≤60)∧(1≤c.dim∧c.dim≤8)∧(c.sign=1∨c.sign=-1):=by
 rw[yE]at h
 simp only[aX]at h
 obtain⟨⟨h1,h2⟩,h3⟩:=h
 obtain⟨i1,i2,i3⟩:=vH de de h2
 have hne:L≠[]:=by intro e;rw[e]at h1;cases h1
 have hd:dB L≤8:=by rcases i2 with i2|i2;omega;exact absurd i2 hne
 refine⟨om,fun c hc=>?_⟩
 have h4:=i1 c hc
 exact⟨⟨h4.1,h4.2.1⟩,h4.2.2,oT (bX.1 h3 c hc)⟩
theorem zm {L:LC}(h:ef L=true):dv L:=by
 obtain⟨h1,h2⟩:=GG h
 exact⟨om,fun c hc=>⟨(h2 c hc).1.1,by have:=(h2 c hc).1.2;omega⟩⟩
theorem Ss {L:LC}(h:ef L=true)(hf:(List.range L.length).all (gS L)=true):aL L:=by
 obtain⟨h1,h2⟩:=GG h
 refine⟨om,fun c hc=>?_⟩
 obtain⟨k,hk,rfl⟩:=rD hc
 have h3:=yD.1 (bX.1 hf k (by simpa using hk))
 rw[show at_ L k=L[k] by simp[at_,hk]]at h3
 have:=h2 _ hc
 exact⟨⟨this.1.1,om⟩,⟨this.2.1.1,om⟩,this.2.2,h3.1⟩
theorem Qn (p:Int)(L:LC)(hn:L.length≤1000)(h1:ef L=false):ar Tryz.prog [] 96 [.agg [.int .i64 p,aD L]] (.bool (be p L)):=by
 have k1:ef (ag L.length fun i=>(L.getD i z0c).rvs)=false:=rh
 refine pr (cE uk) Tryz.func96 aC ?_
 refine oe (p==2) (fun d1=>lr [false,true] [false=be p L,aj (!ef (ag L.length fun i=>(L.getD i z0c).rvs)) true,(lz L)∧L.length≤1000,ty (dN d1)] ⟨?_,(dN k1),?_,(dN d1)⟩)
  (fun d1=>lr [true] [false=be p L,ty (dN d1)] ⟨?_,(dN d1)⟩)
 all_goals first|(first|exact tz|exact kt|(unfold be;rw[h1];simp;done))
theorem Qo (p:Int)(L:LC)(hn:L.length≤1000)(h1:ef L=true)(h2:(List.range L.length).all (gS L)=false):ar Tryz.prog [] 96 [.agg [.int .i64 p,aD L]] (.bool (be p L)):=by
 have k1:ef (ag L.length fun i=>(L.getD i z0c).rvs)=true:=rh
 refine pr (cE uk) Tryz.func96 (aW (Fr p L (zm h1))) ?_
 refine oe (p==2) (fun d1=>lr (tp 222) [false=be p L,lq L,rq (↑L.length:Int),p=p,lq L,aj ((List.range L.length).all (gS L)) false,aj (!ef (ag L.length fun i=>(L.getD i z0c).rvs)) false,(lz L)∧L.length≤1000,ty (dN d1)] ⟨?_,?_,?_,?_,?_,h2,(dN k1),?_,(dN d1)⟩)
  (fun d1=>lr [true] [false=be p L,ty (dN d1)] ⟨?_,(dN d1)⟩)
 all_goals first|(first|exact tz|exact kt|(unfold be;rw[h2];simp;done))
theorem Qp (p:Int)(L:LC)(hn:L.length≤1000)(h1:ef L=true)(h2:(List.range L.length).all (gS L)=true):ar Tryz.prog [] 96 [.agg [.int .i64 p,aD L]] (.bool (be p L)):=by
 have k1:ef (ag L.length fun i=>(L.getD i z0c).rvs)=true:=rh
 refine pr (cE uk) Tryz.func96 (yN (Fr p L (zm h1)) (aW (Sr p L (aF L) (Ss h1 h2) jA (cU kB hn)))) ?_
 refine oe (p==2) (fun d1=>let y1:List Prop:=(let v1:=ag L.length fun i=>(L.getD i z0c).rvs;[(lz L)∧dv v1,lq L,rq (↑L.length:Int),p=p,lq L,aj ((List.range L.length).all (gS L)) true,aj (!ef v1) false,(lz L)∧L.length≤1000,ty (dN d1)]);have u1:ao y1:=⟨?_,?_,?_,?_,?_,h2,(dN k1),?_,(dN d1)⟩;oe ((aF L).all (nw L)) (fun d2=>lr (tp 2211) (let v1:=ag L.length fun i=>(L.getD i z0c).rvs;(true=be p L)::((aF v1).length=(aF L).length∧(fun i=>[rI IntKind.i64 ((aF v1).getD i [])])=fun i=>[rI IntKind.i64 ((aF L).getD i [])])::((↑(aF v1).length:Int)=(↑(aF L).length:Int))::(p=p)::(lq L)::ty d2::y1) ⟨?_,?_,?_,?_,?_,d2,u1⟩)
  (fun d2=>lr (tp 2212) (let v1:=ag L.length fun i=>(L.getD i z0c).rvs;(false=be p L)::((aF v1).length=(aF L).length∧(fun i=>[rI IntKind.i64 ((aF v1).getD i [])])=fun i=>[rI IntKind.i64 ((aF L).getD i [])])::((↑(aF v1).length:Int)=(↑(aF L).length:Int))::(p=p)::(lq L)::ty d2::y1) ⟨?_,?_,?_,?_,?_,d2,u1⟩))
  (fun d1=>lr [true] [false=be p L,ty (dN d1)] ⟨?_,(dN d1)⟩)
 all_goals((try clear u1);(try clear y1))
 all_goals first|(first|exact tz|exact kt|exact⟨fun _ _=>rfl,by rw[bn];exact zm h1⟩|exact tU|(unfold be;rw[h1,h2];simp_all;done))
theorem ue (p:Int)(L:LC)(hn:L.length≤1000):ar Tryz.prog [] 96 [.agg [.int .i64 p,aD L]] (.bool (be p L)):=by
 cases h1:ef L with
 |false=>exact Qn p L hn h1
 |true=>
  cases h2:(List.range L.length).all (gS L)with
  |false=>exact Qo p L hn h1 h2
  |true=>exact Qp p L hn h1 h2
theorem Vn {p:Int}{L:List Con}(h:eQ p L=true):p=2:=by
 unfold eQ at h
 simp only[aX,b6]at h
 exact h.1
def dP (p:Int)(L:List Con):Bool:=eQ p L||be p L
theorem oX {p:Int}{L:List Con}(h:be p L=true):p=2:=by
 unfold be at h
 simp only[aX,b6]at h
 exact h.1
theorem Vo {p:Int}{L:List Con}(h:dP p L=true):aL L:=by
 unfold dP at h
 rcases og _ _▸h with h|h
 ·have:=Vn h
  subst this
  exact(S2 h).1
 ·have:=oX h
  subst this
  exact gn h
def sD:List bV:=[
 ⟨75,[],fun A=>match A with
  |[.agg [.int .i64 p,.sl n 5 row]]=>some (.bool (eQ p (ag n row)),[(∀i,i<n→row i=(Con.ofR (row i)).rvs)∧n≤1000])
  |_=>none⟩,
 ⟨72,[],fun A=>match A with
  |[.agg [.int .i64 p,.sl n 5 row]]=>some (.bool (be p (ag n row)),[(∀i,i<n→row i=(Con.ofR (row i)).rvs)∧n≤1000])
  |_=>none⟩,
 ⟨121,[],fun A=>match A with
  |[.agg [.int .i64 p,.sl n 5 row],.int .i64 a]=>some (.bool (ft (ag n row) a.toNat),[(∀i,i<n→row i=(Con.ofR (row i)).rvs)∧aL (ag n row)∧1≤a∧a<(n:Int)])
  |_=>none⟩]
theorem ul:∀e∈sD,ch Tryz.prog e:=by
 intro e he
 simp only[sD,bx,cC,cH]at he
 rcases he with rfl|rfl|rfl
 all_goals
  intro A R ms h hm
  simp only at h
  split at h
  all_goals first|(cases h;done)|cases h
 ·obtain⟨h1,h2⟩:=ay hm
  exact ar.imp (C0 _ _ (by rw[jB];exact h2)) (.cons (.agg (.cons .same (.cons (.con h1) .nil))) .nil)
 ·obtain⟨h1,h2⟩:=ay hm
  exact ar.imp (uf _ _ (by rw[jB];exact h2)) (.cons (.agg (.cons .same (.cons (.con h1) .nil))) .nil)
 ·obtain⟨h1,h3,h4,h5⟩:=ay hm
  rename_i p _ _ a
  have e:((a.toNat:Nat):Int)=a:=by omega
  have:=Oa p _ a.toNat h3 om (by rw[jB];omega)
  rw[e]at this
  exact ar.imp this (.cons (.agg (.cons .same (.cons (.con h1) .nil))) (.cons .same .nil))
def vg:List bV:=[
 ⟨107,[],fun A=>match A with
  |[.agg [.int .i64 p,.sl n 5 row]]=>some (.bool (eQ p (ag n row)),[(∀i,i<n→row i=(Con.ofR (row i)).rvs)∧n≤1000])
  |_=>none⟩,
 ⟨96,[],fun A=>match A with
  |[.agg [.int .i64 p,.sl n 5 row]]=>some (.bool (be p (ag n row)),[(∀i,i<n→row i=(Con.ofR (row i)).rvs)∧n≤1000])
  |_=>none⟩,
 ⟨130,[],fun A=>match A with
  |[.sl n 5 row,.int .i64 a]=>some (.bool (ft (ag n row) a.toNat),[(∀i,i<n→row i=(Con.ofR (row i)).rvs)∧aL (ag n row)∧1≤a∧a<(n:Int)])
  |_=>none⟩]
theorem um:∀e∈vg,ch Tryz.prog e:=by
 intro e he
 simp only[vg,bx,cC,cH]at he
 rcases he with rfl|rfl|rfl
 all_goals
  intro A R ms h hm
  simp only at h
  split at h
  all_goals first|(cases h;done)|cases h
 ·obtain⟨h1,h2⟩:=ay hm
  exact ar.imp (D7 _ _ (by rw[jB];exact h2)) (.cons (.agg (.cons .same (.cons (.con h1) .nil))) .nil)
 ·obtain⟨h1,h2⟩:=ay hm
  exact ar.imp (ue _ _ (by rw[jB];exact h2)) (.cons (.agg (.cons .same (.cons (.con h1) .nil))) .nil)
 ·obtain⟨h1,h3,h4,h5⟩:=ay hm
  rename_i a
  have e:((a.toNat:Nat):Int)=a:=by omega
  have:=Oi _ a.toNat h3 om (by rw[jB];omega)
  rw[e]at this
  exact ar.imp this (.cons (.con h1) (.cons .same .nil))
noncomputable def rK (n:Nat)(M:List Con):List (Nat×ai):=[(1001,⟨.plain [.int .i64 0,.nils],45,0,false,true⟩),(1003,⟨.con M,53,5,true,true⟩)]
def bP (v:Bool):Int:=bif v then 2 else 0
def bL (v:Bool)(M:List Con):List Con:=bif v then M else []
def V9:List bV:=vg++sV
theorem ut:∀e∈V9,ch Tryz.prog e:=by
 intro e he
 rcases dV.1 he with he|he
 ·exact um e he
 ·exact rX e he
def JW:LC→List RV→Option (Bool×LC×List Prop):=fun M A=>match A with
 |[.sl n 1 row,.int .i64 k,.int .i64 t]=>some ((bT (b9 n row) t M).1,(bT (b9 n row) t M).2,[n=(b9 n row).length∧row=(fun j=>[.int .i64 ((b9 n row).getD j 0)])∧k=0∧0≤t∧t≤7∧n≤1000∧bR M.length (b9 n row)])
 |_=>none
theorem uO:∀M A r M' ms,JW M A=some (r,M',ms)→(∀p∈ms,p)→pa Tryz.prog 53 105 M A r M':=by
 intro M A r M' ms hq hm
 unfold JW at hq
 split at hq
 ·rename_i n row k t
  cases hq
  obtain⟨h1,h2,h3,h4,h5,h6,h7⟩:=ay hm
  subst h3
  have:=Dw (l:=b9 n row) (N:=M.length) om h7 (b9 n row).length 0 om M t rfl h4 h5
  rw[mW]at this
  have e:rI .i64 (b9 n row)=.sl n 1 row:=by
   unfold rI
   rw[←h2,←h1]
  rw[e]at this
  exact this
 ·cases hq
theorem Te (L:LC)(l:List Int):0≤eC L l∧eC L l≤7:=by unfold eC;omega
theorem Wa {L M:LC}{P:List (List Int)}{j:Nat}(hj:j<P.length)(h:(bT (ab P j) (eC L (ab P j)) M).1=true):eR L (P.drop j) M=eR L (P.drop (j+1)) (bT (ab P j) (eC L (ab P j)) M).2:=by
 rw[mc hj];simp only[eR,h,aM]
theorem Wb {L M:LC}{P:List (List Int)}{j:Nat}(hj:j<P.length)(h:(bT (ab P j) (eC L (ab P j)) M).1=false):eR L (P.drop j) M=none:=by
 rw[mc hj];simp only[eR,h,bg]
theorem G6 {L M:LC}{P:List (List Int)}{j:Nat}(hj:P.length≤j):eR L (P.drop j) M=some M:=by
 rw[eL hj];rfl
def Lf (P:List (List Int))(j:AV):List (Nat×AV):=[(1,.ptr 1000 0),(2,.ptr 1001 0),(4,.ptr 1012 0),(15,(cS .i64 P).av),(16,vi P.length),(17,j)]
def X1 (L:LC)(P:List (List Int)):aA:=⟨⟨Lf P (.int .i64 0),BQ L L,1020⟩,some (eR L P L).isSome,fun d=>match d with
 |true=>(.exit 0,⟨[(2,.ptr 1001 0),(4,.ptr 1012 0)],BQ L ((eR L P L).getD []),1020⟩)
 |false=>(.ret,⟨[(2,.ptr 1001 0),(3,.bool false)],[(1001,⟨.plain [.int .i64 0,.nils],45,0,false,true⟩)],1020⟩)⟩
theorem FJ (L:LC)(P:List (List Int))(hP:∀l∈P,l≠[]∧bR L.length l∧l.length≤L.length)(hn:P.length≤1000)(hL:aL L):An 1 Tryz.f65 [0,1,0,1,1,1] (X1 L P):=by
 refine ea (cF (qb uO (fq ut))) aC (u2 fun(j:Nat)(M:LC)=>(⟨Lf P (vi j),BQ L M,1020⟩:St)) (u2 fun(j:Nat)(M:LC)=>(P.length-j:Nat)) (fun(d:Bool)=>u2 fun(j:Nat)(M:LC)=>(j≤P.length∧M.length=L.length∧eR L (P.drop j) M=eR L P L∧(eR L P L).isSome=d:Prop)) ?_ ?_
 ·intro d hd
  exact st (0,L) [sr P fun i=>[rI IntKind.i64 (P.getD i [])],rq (↑P.length:Int),(0:Int)=↑(0:Nat),rq (2:Int),lq L,L=L,rq (2:Int),rq L.length] (by refine⟨?_,?_,?_,?_,?_,?_,?_,(?_:L.length=L.length)⟩<;>(first|rfl|exact⟨rfl,rfl⟩|assumption|omega|simp_all)) (by exact⟨aY _,rfl,rfl,hd⟩)
 ·rintro d hd ⟨j,M⟩ hI
  obtain⟨ht,hM,hf,hs⟩:=hI
  have ht:j≤P.length:=ht
  have hM:M.length=L.length:=hM
  have hf:eR L (P.drop j) M=eR L P L:=hf
  have hl1:=hL.1
  have ek:IntKind.i64.wrap ((j:Int)+1)=((j+1:Nat):Int):=by rw[wo];omega
  refine oe (decide ((↑j:Int)<↑P.length)) (fun d1=>let y1:List Prop:=(let v3:=P.getD j [];let v1:=b9 v3.length fun j_1=>[RV.int IntKind.i64 (v3.getD j_1 (0:Int))];let v2:=ag L.length fun i=>(L.getD i z0c).rvs;[L.length=M.length,v3.length=v1.length∧((fun j_1=>[RV.int IntKind.i64 (v3.getD j_1 (0:Int))])=fun j_1=>[RV.int IntKind.i64 ((b9 v3.length fun j_2=>[RV.int IntKind.i64 (v3.getD j_2 (0:Int))]).getD j_1 (0:Int))])∧(0:Int)=0∧(0:Int)≤eC v2 v1∧eC v2 v1≤7∧v3.length≤1000∧bR M.length v1,rq L.length,(lz L)∧(∀(i:Nat),i<v3.length→(fun j_1=>[RV.int IntKind.i64 (v3.getD j_1 (0:Int))]) i=[RV.int IntKind.i64 (ge ((fun j_1=>[RV.int IntKind.i64 (v3.getD j_1 (0:Int))]) i))])∧aL v2∧bR v2.length v1∧v3.length≤1000,(0:Int)≤↑j∧(↑j:Int)<↑P.length,ty d1]);have u1:ao y1:=⟨?_,?_,?_,?_,?_,d1⟩;oe ((bT (b9 (P.getD j []).length fun j_1=>[RV.int IntKind.i64 ((P.getD j []).getD j_1 (0:Int))]) (eC (ag L.length fun i=>(L.getD i z0c).rvs) (b9 (P.getD j []).length fun j_1=>[RV.int IntKind.i64 ((P.getD j []).getD j_1 (0:Int))])) M).fst) (fun d2=>aq [true,false] (j+1,(bT (ab P j) (eC L (ab P j)) M).2) (let v1:=b9 (P.getD j []).length fun j_1=>[RV.int IntKind.i64 ((P.getD j []).getD j_1 (0:Int))];(sr P fun i=>[rI IntKind.i64 (P.getD i [])])::rq (↑P.length:Int)::(IntKind.i64.wrap ((↑j:Int)+1)=↑(j+1))::rq (2:Int)::(lq L)::((bT v1 (eC (ag L.length fun i=>(L.getD i z0c).rvs) v1) M).snd=(bT (ab P j) (eC L (ab P j)) M).snd)::rq (2:Int)::rq L.length::ty (dN d2)::y1) ⟨?_,?_,?_,?_,?_,?_,?_,?_,(dN d2),u1⟩ ?_ ?_)
   (fun d2=>aG d false [true,true] (ty (dN d2)::y1) ⟨(dN d2),u1⟩ ?_))
   (fun d1=>aG d true [false] [rq (2:Int),lq L,M=(eR L P L).getD [],rq (2:Int),rq L.length,ty d1] ⟨?_,?_,?_,?_,?_,d1⟩ ?_)
  all_goals((try clear u1);(try clear y1))
  all_goals first|exact Mr|(refine bD.mk ?_;(simp only[j5,bn,bt,dT]at*;have h0:=hP _ (gE (P:=P) (t:=j) om);exact⟨om,zf h0.2.1 hM,by rw[←hf,Wa om d2],hs⟩))|(refine dq.mk ?_;cases d<;>first|rfl|(exfalso;(simp only[j5,bn,bt,dT,dF]at*;first|(rw[←hf,G6 om]at hs;cases hs;done)|(rw[←hf,Wb om d2]at hs;cases hs;done))))|(first|exact tz|decide|((try simp only[ek,j5,bn,bt,dT,dF]at*)<;>first|omega|(rw[←hf,G6 om];rfl)|(have h0:=hP _ (gE (P:=P) (t:=j) om);have hb:=Te L (ab P j);first|exact⟨fun _ _=>rfl,fun _ _=>rfl,hL,h0.2.1,cU h0.2.2 hl1⟩|exact⟨rfl,rfl,by trivial,hb.1,hb.2,cU h0.2.2 hl1,by rw[hM];exact h0.2.1⟩|exact⟨by trivial,by trivial,by trivial,hb.1,hb.2,cU h0.2.2 hl1,by rw[hM];exact h0.2.1⟩|exact(5:Nat))))
theorem Q6 (L R:LC)(hf:be 2 L=true)(hR:jr L=some R)(hlen:R.length=L.length):ar Tryz.prog [] 65 [.agg [.int .i64 2,aD L]] (.tup [.agg [.int .i64 2,aD R],.bool true]):=by
 have hL:=gn hf;have hl:=hL.1;have hne:=(ma hf).2.1;have k1:be 2 (ag L.length fun i=>(L.getD i z0c).rvs)=true:=nX;have k2:L.length.beq 0=false:=xm;have k3:(eR L (aF L) L).isSome=true:=M3;have k4:(eR L (aF L) L).getD []=R:=M3
 refine pr (cF (qb uO (fq ut))) Tryz.func65 (aW (FJ L (aF L) jA (cU kB (gn hf).1) (gn hf))) ?_
 refine lr (tp 221) (let q1:=ag L.length fun i=>(L.getD i z0c).rvs;let q2:=eR L (aF L) L;[rq (2:Int),L.length=R.length∧L.length=(q2.getD []).length∧∀(i:Nat),i<L.length→(fun i=>(R.getD i z0c).rvs) i=((q2.getD []).getD i z0c).rvs,true=true,(aF q1).length=(aF L).length∧(fun i=>[rI IntKind.i64 ((aF q1).getD i [])])=fun i=>[rI IntKind.i64 ((aF L).getD i [])],(↑(aF q1).length:Int)=(↑(aF L).length:Int),rq (2:Int),lq L,q1=L,rq (2:Int),rq L.length,aj q2.isSome true,(lz L)∧dv q1,rq (2:Int),(0:Nat)<L.length∧L.length≤1000000,lz L,aj (L.length.beq (0:Nat)) false,aj (!be (2:Int) q1) false,(lz L)∧L.length≤1000]) ⟨?_,?_,?_,?_,?_,?_,?_,?_,?_,?_,k3,?_,?_,?_,?_,k2,(dN k1),(?_:(lz L)∧L.length≤1000)⟩
 all_goals first|exact Ns
theorem Pw (L:LC)(hf:be 2 L=true)(hR:jr L=none):ar Tryz.prog [] 65 [.agg [.int .i64 2,aD L]] (.tup [.agg [.int .i64 0,aD []],.bool false]):=by
 have hL:=gn hf;have hl:=hL.1;have hne:=(ma hf).2.1;have k1:be 2 (ag L.length fun i=>(L.getD i z0c).rvs)=true:=nX;have k2:L.length.beq 0=false:=xm;have k3:(eR L (aF L) L).isSome=false:=(by rw[show eR L (aF L) L=none from hR];rfl)
 refine pr (cF (qb uO (fq ut))) Tryz.func65 (aW (FJ L (aF L) jA (cU kB (gn hf).1) (gn hf))) ?_
 refine lr (tp 222) (let q1:=ag L.length fun i=>(L.getD i z0c).rvs;[rq (0:Int),rq (0:Nat),false=false,(aF q1).length=(aF L).length∧(fun i=>[rI IntKind.i64 ((aF q1).getD i [])])=fun i=>[rI IntKind.i64 ((aF L).getD i [])],(↑(aF q1).length:Int)=(↑(aF L).length:Int),rq (2:Int),lq L,q1=L,rq (2:Int),rq L.length,aj (eR L (aF L) L).isSome false,(lz L)∧dv q1,rq (2:Int),(0:Nat)<L.length∧L.length≤1000000,lz L,aj (L.length.beq (0:Nat)) false,aj (!be (2:Int) q1) false,(lz L)∧L.length≤1000]) ⟨?_,?_,?_,?_,?_,?_,?_,?_,?_,?_,k3,?_,?_,?_,?_,k2,(dN k1),(?_:(lz L)∧L.length≤1000)⟩
 all_goals first|exact Nu
theorem Tf (p:Int)(L:LC)(hn:L.length≤1000)(hv:be p L=false):ar Tryz.prog [] 65 [.agg [.int .i64 p,aD L]] (.tup [.agg [.int .i64 0,aD []],.bool false]):=by
 have k1:be p (ag L.length fun i=>(L.getD i z0c).rvs)=false:=Cx
 refine pr (cF (qb uO (fq ut))) Tryz.func65 aC ?_
 refine lr [true] [rq (0:Int),rq (0:Nat),false=false,aj (!be p (ag L.length fun i=>(L.getD i z0c).rvs)) true,(lz L)∧L.length≤1000] ⟨?_,?_,?_,(dN k1),(?_:(lz L)∧L.length≤1000)⟩
 all_goals first|exact xG
def dJ (p:Int)(L:LC):Bool:=be p L&&(jr L).isSome
def lO (L:LC):LC:=(jr L).getD []
theorem EQ {L:LC}:∀{P:List (List Int)}{M R:LC},(∀l∈P,bR L.length l)→M.length=L.length→eR L P M=some R→R.length=L.length
 |[],M,R,_,hM,h=>by cases h;exact hM
 |l::P,M,R,hP,hM,h=>by
  simp only[eR]at h
  cases hc:(bT l (eC L l) M).1 with
  |false=>rw[hc]at h;cases h
  |true=>
   rw[hc,aM]at h
   exact EQ (fun x hx=>hP x (fT _ hx)) (zf (hP l cZ) hM) h
theorem ER {L R:LC}(h:jr L=some R):R.length=L.length:=EQ (fun l hl=>(jA l hl).2.1) rfl h
theorem DT (p:Int)(L:LC)(hn:L.length≤1000):ar Tryz.prog [] 65 [.agg [.int .i64 p,aD L]] (.tup [.agg [.int .i64 (bP (dJ p L)),aD (bL (dJ p L) (lO L))],.bool (dJ p L)]):=by
 unfold dJ
 cases h:be p L with
 |false=>exact Tf p L hn h
 |true=>
  have:=oX h
  subst this
  cases hr:jr L with
  |none=>exact Pw L h hr
  |some R=>
   have e:lO L=R:=by unfold lO;rw[hr];rfl
   rw[e]
   exact Q6 L R h hr (ER hr)
theorem yc {p:Nat→Bool}:∀{n t t0:Nat},fJ p n t=some t0→p t0=true∧t≤t0∧t0<t+n∧∀u,t≤u→u<t0→p u=false
 |0,_,_,h=>by cases h
 |n+1,t,t0,h=>by
  simp only[fJ]at h
  cases hp:p t with
  |true=>
   rw[hp]at h
   cases h
   exact⟨hp,om,om,fun u _ _=>om⟩
  |false=>
   rw[hp]at h
   obtain⟨h1,h2,h3,h4⟩:=yc (show fJ p n (t+1)=some t0 from h)
   refine⟨h1,om,om,fun u hu hu'=>?_⟩
   rcases bA t u with hlt|hlt
   ·exact h4 u om hu'
   ·have:u=t:=by omega
    rw[this];exact hp
def VL:List bV:=(sD++sM)++[
 ⟨74,[],fun A=>match A with
  |[.agg [.int .i64 a,.int .i64 b,.int .i64 c,.bool d,.int .i64 e],.sl n 5 row,.sl m 1 row',.int .i64 t]=>some (.tup [.int .i64 (((fS ⟨a,b,c,d,e⟩ (ag n row) (b9 m row') t).getD 0:Nat):Int),.bool (fS ⟨a,b,c,d,e⟩ (ag n row) (b9 m row') t).isSome],[(∀i,i<n→row i=(Con.ofR (row i)).rvs)∧(∀i,i<m→row' i=[.int .i64 (ge (row' i))])∧m≤1000∧bR n (b9 m row')∧0≤t∧t≤7])
  |_=>none⟩]
theorem rR:∀e∈VL,ch Tryz.prog e:=by
 intro e he
 rcases dV.1 he with he|he
 ·rcases dV.1 he with he|he
  ·exact ul e he
  ·exact rU e he
 ·rw[dU.1 he]
  intro A R ms h hm
  simp only at h
  split at h
  ·cases h
   obtain⟨h1,h2,h3,h4,h5,h6⟩:=ay hm
   exact ar.imp (OW ⟨_,_,_,_,_⟩ _ _ _ (by rw[uw];exact h3) xA h5 h6) (.cons .same (.cons (.con h1) (.cons (.ints h2) (.cons .same .nil))))
  ·cases h
theorem Pl {n:Nat}{L:LC}(h:n=L.length):ag n (fun i=>(L.getD i z0c).rvs)=L:=by subst h;exact bn L
theorem VQ {M:LC}{x:Nat}(h:M.length≤x):at_ M x=z0c:=by simp[at_,h]
theorem yd (k:IntKind)(l:List Int)(s:Nat):b9 (l.length-s) (fun i=>[.int k (l.getD (i+s) 0)])=l.drop s:=by
 apply List.ext_getElem?
 intro m
 unfold b9
 rw[lY,lX]
 rcases bA m (l.length-s)with h|h
 ·rw[List.getElem?_range h]
  have h2:s+m<l.length:=by omega
  simp[ge,eb h2,Nat.add_comm m s]
 ·rw[gL CG,gL om]
  rfl
def lsV (M:LC)(l:List Int)(k:Nat)(tot:Int):Nat:=(fS (at_ M (l.getD k 0).toNat) M (l.drop (k+1)) tot).getD 0
theorem XC (M:LC)(l:List Int)(k:Nat)(tot:Int):lsV M l k tot<8:=by
 unfold lsV
 cases h:fS (at_ M (l.getD k 0).toNat) M (l.drop (k+1)) tot with
 |none=>decide
 |some t=>have:=yc h;simp only[Option.getD_some];omega
theorem XD {M:LC}{l:List Int}{k:Nat}{tot:Int}(hk:k<l.length)(h:(fS (at_ M (l.getD k 0).toNat) M (l.drop (k+1)) tot).isSome=true):eE (l.drop k) tot M=eE (l.drop (k+1)) ((tot-(lsV M l k tot:Int)+8)%8) (cG M (l.getD k 0) (lsV M l k tot:Int)):=by
 rw[m9 hk]
 unfold lsV
 simp only[eE,HL]
 unfold fS at h⊢
 cases hq:fJ (kg (at_ M (l.getD k 0).toNat) M (l.drop (k+1)) tot) 8 0 with
 |none=>rw[hq]at h;cases h
 |some t=>rfl
theorem XE {M:LC}{l:List Int}{k:Nat}{tot:Int}(hk:k<l.length)(h:(fS (at_ M (l.getD k 0).toNat) M (l.drop (k+1)) tot).isSome=false):eE (l.drop k) tot M=none:=by
 rw[m9 hk]
 simp only[eE,HL]
 unfold fS at h
 cases hq:fJ (kg (at_ M (l.getD k 0).toNat) M (l.drop (k+1)) tot) 8 0 with
 |none=>rfl
 |some t=>rw[hq]at h;cases h
theorem It {M:LC}{l:List Int}{k:Nat}{tot:Int}(hk:l.length≤k):eE (l.drop k) tot M=some M:=by
 rw[eL hk];rfl
def w7 (N:Nat)(P:List (List Int))(j:AV):List (Nat×AV):=[(2,.ptr 1001 0),(4,.lo 1003 N),(20,(cS .i64 P).av),(21,vi P.length),(22,j)]
def La (N:Nat)(P:List (List Int))(j:Nat)(tot:Int)(k:AV):List (Nat×AV):=w7 N P (vi j)++[(6,(rI .i64 (ab P j)).av),(7,vi tot),(33,(rI .i64 (ab P j)).av),(34,vi (ab P j).length),(35,k)]
def Lb:en×St:=(.ret,⟨[(2,.ptr 1001 0),(3,.bool false)],[(1001,⟨.plain [.int .i64 0,.nils],45,0,false,true⟩)],1020⟩)
def JN (N:Nat)(P:List (List Int))(j:Nat)(tot:Int)(M:LC):aA:=⟨⟨La N P j tot (.int .i64 0),rK N M,1020⟩,some (eE (ab P j) tot M).isSome,fun d=>match d with
 |true=>(.exit 2,⟨w7 N P (vi j),rK N ((eE (ab P j) tot M).getD []),1020⟩)
 |false=>Lb⟩
theorem XF (N:Nat)(P:List (List Int))(j:Nat)(tot0:Int)(M0:LC)(hr:bR N (ab P j))(hn:(ab P j).length≤1000)(hM0:M0.length=N)(h0:0≤tot0)(h1:tot0≤7):An 1 Tryz.f23 [0,1,1,1,0,0,1,1,0,0,1,0,1,1,1] (JN N P j tot0 M0):=by
 refine ea (cE rR) aC (u3 fun(k:Nat)(tot:Int)(M:LC)=>(⟨La N P j tot (vi k),rK N M,1020⟩:St)) (u3 fun(k:Nat)(tot:Int)(M:LC)=>((ab P j).length-k:Nat)) (fun(d:Bool)(i:Nat×Int×LC)=>(fun(k:Nat)(tot:Int)(M:LC)=>(k≤(ab P j).length∧M.length=N∧(0≤tot∧tot≤7)∧eE ((ab P j).drop k) tot M=eE (ab P j) tot0 M0∧(eE (ab P j) tot0 M0).isSome=d:Prop)) i.1 i.2.1 i.2.2) ?_ ?_
 ·intro d hd
  exact st (0,tot0,M0) [N=N,sr P fun i=>[rI IntKind.i64 (P.getD i [])],rq (↑P.length:Int),rq (↑j:Int),sr (ab P j) fun j_1=>[RV.int IntKind.i64 ((ab P j).getD j_1 (0:Int))],tot0=tot0,sr (ab P j) fun j_1=>[RV.int IntKind.i64 ((ab P j).getD j_1 (0:Int))],rq (↑(ab P j).length:Int),(0:Int)=↑(0:Nat),M0=M0] (by refine⟨?_,?_,?_,?_,?_,?_,?_,?_,?_,(?_:M0=M0)⟩<;>(first|rfl|assumption|exact⟨rfl,rfl⟩|omega|simp_all)) (by exact⟨aY _,hM0,⟨h0,h1⟩,rfl,hd⟩)
 ·rintro d hd ⟨k,tot,M⟩ hI
  obtain⟨ht,hM,hb,hf,hs⟩:=hI
  have ht:k≤(ab P j).length:=ht
  have hM:M.length=N:=hM
  have hb:0≤tot∧tot≤7:=hb
  have hf:eE ((ab P j).drop k) tot M=eE (ab P j) tot0 M0:=hf
  have ek:=wk k
  have ec:ag N (fun i=>(M.getD i z0c).rvs)=M:=Pl hM.symm
  have hv:=XC M (ab P j) k tot
  have el:=sN hb.1 hb.2 hv
  refine(let q1:List Prop→List Prop:=fun l0=>(N=N)::(sr P fun i=>[rI IntKind.i64 (P.getD i [])])::rq (↑P.length:Int)::rq (↑j:Int)::l0;oe (decide ((↑k:Int)<(↑(ab P j).length:Int))) (fun d1=>let y1:List Prop:=(let v1:=w6.wrap ((↑k:Int)+1);let v2:=(↑(ab P j).length:Int);[N=M.length,(∀(i:Nat),i<N→(fun i=>(M.getD i z0c).rvs) i=(Con.ofR ((fun i=>(M.getD i z0c).rvs) i)).rvs)∧(∀(i:Nat),i<(ab P j).length-v1.toNat→(fun i=>(fun j_1=>[RV.int IntKind.i64 ((ab P j).getD j_1 (0:Int))]) (i+v1.toNat)) i=[RV.int IntKind.i64 (ge ((fun i=>(fun j_1=>[RV.int IntKind.i64 ((ab P j).getD j_1 (0:Int))]) (i+v1.toNat)) i))])∧(ab P j).length-v1.toNat≤1000∧bR N (b9 ((ab P j).length-v1.toNat) fun i=>(fun j_1=>[RV.int IntKind.i64 ((ab P j).getD j_1 (0:Int))]) (i+v1.toNat))∧(0:Int)≤tot∧tot≤7,(0:Int)≤w6.wrap ((↑k:Int)+1)∧w6.wrap ((↑k:Int)+1)≤v2,((ab P j).getD k (0:Int)).toNat<M.length,(0:Int)≤(ab P j).getD k (0:Int)∧(ab P j).getD k (0:Int)<↑N,(0:Int)≤↑k∧(↑k:Int)<v2,ty d1]);have u1:ao y1:=⟨?_,?_,?_,?_,?_,?_,d1⟩;oe ((fS (M.getD ((ab P j).getD k (0:Int)).toNat z0c) (ag N fun i=>(M.getD i z0c).rvs) (b9 ((ab P j).length-(w6.wrap ((↑k:Int)+1)).toNat) fun i=>(fun j_1=>[RV.int IntKind.i64 ((ab P j).getD j_1 (0:Int))]) (i+(w6.wrap ((↑k:Int)+1)).toNat)) tot).isSome) (fun d2=>aq [true,false] (k+1,(tot-(lsV M (ab P j) k tot:Int)+8)%8,cG M ((ab P j).getD k 0) (lsV M (ab P j) k tot:Int)) (q1 (let v1:=w6.wrap ((↑k:Int)+1);let v2:=(ab P j).getD k (0:Int);let v3:=ag N fun i=>(M.getD i z0c).rvs;let v4:=(↑(lsV M (ab P j) k tot):Int);let v5:=(ab P j).length-v1.toNat;(sr (ab P j) fun j_1=>[RV.int IntKind.i64 ((ab P j).getD j_1 (0:Int))])::((w6.wrap (w6.wrap (tot-(↑((fS (M.getD v2.toNat z0c) v3 (b9 v5 fun i=>(fun j_1=>[RV.int IntKind.i64 ((ab P j).getD j_1 (0:Int))]) (i+v1.toNat)) tot).getD (0:Nat)):Int))+8)).tmod (8:Int)=(tot-v4+8)%(8:Int))::(sr (ab P j) fun j_1=>[RV.int IntKind.i64 ((ab P j).getD j_1 (0:Int))])::rq (↑(ab P j).length:Int)::(w6.wrap ((↑k:Int)+1)=↑(k+1))::(fx M v2.toNat (↑((fS (M.getD v2.toNat z0c) v3 (b9 v5 fun i=>(fun j_1=>[RV.int IntKind.i64 ((ab P j).getD j_1 (0:Int))]) (i+v1.toNat)) tot).getD (0:Nat)):Int)=cG M v2 v4)::((8:Int)≠(0:Int))::(v2.toNat<M.length)::((0:Int)≤(ab P j).getD k (0:Int)∧(ab P j).getD k (0:Int)<↑N)::ty (dN d2)::y1)) ⟨?_,?_,?_,?_,?_,?_,?_,?_,?_,?_,?_,?_,?_,(dN d2),u1⟩ ?_ ?_)
   (fun d2=>aG d false [true,true] (ty (dN d2)::y1) ⟨(dN d2),u1⟩ ?_))
   (fun d1=>aG d true [false] (q1 [M=(eE (ab P j) tot0 M0).getD [],ty d1]) ⟨?_,?_,?_,?_,?_,d1⟩ ?_))
  all_goals((try clear u1);(try clear y1))
  all_goals first|(refine cy.mk ?_;(simp only[dT]at d1;show(ab P j).length-(k+1)<(ab P j).length-k;omega))|(refine bD.mk ?_;(simp only[ek,ec,yd,bn,bt,dT]at*;exact⟨om,by rw[md];exact hM,om,by rw[←hf,XD om d2],hs⟩))|(refine dq.mk ?_;cases d<;>first|rfl|(exfalso;(simp only[ek,ec,yd,bn,bt,dT,dF]at*;first|(rw[←hf,It om]at hs;cases hs;done)|(rw[←hf,XE om d2]at hs;cases hs;done))))|(first|exact tz|decide|((try simp only[ek,ec,yd,bn,bt,dT,dF]at*)<;>first|omega|(rw[←hf,It om];rfl)|exact el|rfl|(have h2:=hr.at (t:=k) om;first|omega|exact⟨fun _ _=>rfl,fun _ _=>rfl,om,hr.drop _,hb.1,hb.2⟩|exact(5:Nat))))
theorem FD:∀{l:List Int}{tot:Int}{M R:LC},aL M→bR M.length l→eE l tot M=some R→aL R∧R.length=M.length
 |[],tot,M,R,hM,hl,h=>by cases h;exact⟨hM,rfl⟩
 |i::l,tot,M,R,hM,hl,h=>by
  simp only[eE]at h
  cases hq:fJ (jq M i l tot) 8 0 with
  |none=>rw[hq]at h;cases h
  |some t=>
   rw[hq]at h
   have h1:=hl i cZ
   have h2:=yc hq
   have h3:=FD (Tz hM h1 (t:=(t:Int)) ⟨om,om⟩) (by rw[md];exact fun x hx=>hl x (fT _ hx)) h
   rw[md]at h3
   exact h3
theorem XG {M R:LC}{P:List (List Int)}{j:Nat}(hj:j<P.length)(h:eE (ab P j) (at_ M ((ab P j).getD 0 0).toNat).oddity M=some R):fC (P.drop j) M=fC (P.drop (j+1)) R:=by
 rw[mc hj];simp only[fC,h]
theorem XH {M:LC}{P:List (List Int)}{j:Nat}(hj:j<P.length)(h:eE (ab P j) (at_ M ((ab P j).getD 0 0).toNat).oddity M=none):fC (P.drop j) M=none:=by
 rw[mc hj];simp only[fC,h]
theorem Iu {M:LC}{P:List (List Int)}{j:Nat}(hj:P.length≤j):fC (P.drop j) M=some M:=by
 rw[eL hj];rfl
theorem Pm {o:Option LC}(h:o.isSome=true):o=some (o.getD []):=by cases o with|none=>cases h|some x=>rfl
theorem S5 {o:Option LC}(h:o.isSome=false):o=none:=by cases o with|none=>rfl|some x=>cases h
def XI (L:LC)(P:List (List Int)):aA:=⟨⟨w7 L.length P (.int .i64 0),rK L.length L,1020⟩,some (fC P L).isSome,fun d=>match d with
 |true=>(.exit 0,⟨[(2,.ptr 1001 0),(4,.lo 1003 L.length)],rK L.length ((fC P L).getD []),1020⟩)
 |false=>Lb⟩
theorem GX (L:LC)(P:List (List Int))(hP:∀l∈P,l≠[]∧bR L.length l∧l.length≤L.length)(hn:P.length≤1000)(hL:aL L):An 1 Tryz.f23 [0,1,0,1,1,1] (XI L P):=by
 refine jU (cE rR) (u2 fun(j:Nat)(M:LC)=>(⟨w7 L.length P (vi j),rK L.length M,1020⟩:St)) (u2 fun(j:Nat)(M:LC)=>(P.length-j:Nat)) (fun(d:Bool)(i:Nat×LC)=>(fun(j:Nat)(M:LC)=>(j≤P.length∧aL M∧M.length=L.length∧fC (P.drop j) M=fC P L∧(fC P L).isSome=d:Prop)) i.1 i.2) (u2 fun(j:Nat)(M:LC)=>([([0,1,1,1,0,0,1,1,0,0,1,0,1,1,1],JN L.length P j (at_ M ((ab P j).getD 0 0).toNat).oddity M)]:List (List Nat×aA))) ?_ ?_ ?_
 ·rintro d hd ⟨j,M⟩ hI
  obtain⟨ht,hM,hlen,hf,hs⟩:=hI
  have ht:j≤P.length:=ht
  have hM:aL M:=hM
  have hlen:M.length=L.length:=hlen
  have hb:0≤(at_ M ((ab P j).getD 0 0).toNat).oddity∧(at_ M ((ab P j).getD 0 0).toNat).oddity≤7:=by
   rcases bA ((ab P j).getD 0 0).toNat M.length with h|h
   ·exact(hM.at h).2.2.2
   ·rw[VQ h];decide
  have hr:bR L.length (ab P j)∧(ab P j).length≤1000:=by
   have:=hL.1
   rcases bA j P.length with h|h
   ·have h1:=hP _ (gE h)
    exact⟨h1.2.1,om⟩
   ·have e:ab P j=[]:=by simp[ab,h]
    rw[e];exact⟨fun x hx=>by simp at hx,si⟩
  exact aW (XF L.length P j _ M hr.1 hr.2 hlen hb.1 hb.2)
 ·intro d hd
  exact st (0,L) [rq L.length,sr P fun i=>[rI IntKind.i64 (P.getD i [])],rq (↑P.length:Int),(0:Int)=↑(0:Nat),L=L] (by refine⟨?_,?_,?_,?_,(?_:L=L)⟩<;>(first|rfl|assumption|exact⟨rfl,rfl⟩|omega|simp_all)) (by exact⟨aY _,hL,rfl,rfl,hd⟩)
 ·rintro d hd ⟨j,M⟩ hI
  obtain⟨ht,hM,hlen,hf,hs⟩:=hI
  have ht:j≤P.length:=ht
  have hM:aL M:=hM
  have hlen:M.length=L.length:=hlen
  have hf:fC (P.drop j) M=fC P L:=hf
  have ek:=wk j
  refine(let q1:List Prop→List Prop:=fun l0=>rq L.length::(sr P fun i=>[rI IntKind.i64 (P.getD i [])])::rq (↑P.length:Int)::l0;oe (decide ((↑j:Int)<↑P.length)) (fun d1=>let y1:List Prop:=(let v1:=Int.toNat (0:Int);let v2:=P.getD j [];[(v2.getD v1 (0:Int)).toNat<M.length,(0:Int)≤v2.getD v1 (0:Int)∧v2.getD v1 (0:Int)<↑L.length,(0:Int)≤0∧(0:Int)<↑v2.length,(0:Int)≤↑j∧(↑j:Int)<↑P.length,ty d1]);have u1:ao y1:=⟨?_,?_,?_,?_,d1⟩;oe ((eE (ab P j) (at_ M ((ab P j).getD (0:Nat) (0:Int)).toNat).oddity M).isSome) (fun d2=>aq [true,true] (j+1,(eE (ab P j) (at_ M ((ab P j).getD 0 0).toNat).oddity M).getD []) (q1 (let v1:=P.getD j [];let v2:=at_ M ((ab P j).getD (0:Nat) (0:Int)).toNat;(w6.wrap ((↑j:Int)+1)=↑(j+1))::rq ((eE (ab P j) v2.oddity M).getD [])::rq L.length::(sr P fun i=>[rI IntKind.i64 (P.getD i [])])::rq (↑P.length:Int)::rq (↑j:Int)::(v1.length=(ab P j).length∧(fun j_1=>[RV.int IntKind.i64 (v1.getD j_1 (0:Int))])=fun j_1=>[RV.int IntKind.i64 ((ab P j).getD j_1 (0:Int))])::((M.getD (v1.getD (Int.toNat (0:Int)) (0:Int)).toNat z0c).oddity=v2.oddity)::(v1.length=(ab P j).length∧(fun j_1=>[RV.int IntKind.i64 (v1.getD j_1 (0:Int))])=fun j_1=>[RV.int IntKind.i64 ((ab P j).getD j_1 (0:Int))])::((↑v1.length:Int)=(↑(ab P j).length:Int))::(M=M)::ty d2::y1)) ⟨?_,?_,?_,?_,?_,?_,?_,?_,?_,?_,?_,?_,?_,?_,d2,u1⟩ ?_ ?_)
   (fun d2=>aG d false [true,false] (q1 (let v1:=P.getD j [];rq (↑j:Int)::(v1.length=(ab P j).length∧(fun j_1=>[RV.int IntKind.i64 (v1.getD j_1 (0:Int))])=fun j_1=>[RV.int IntKind.i64 ((ab P j).getD j_1 (0:Int))])::((M.getD (v1.getD (Int.toNat (0:Int)) (0:Int)).toNat z0c).oddity=(at_ M ((ab P j).getD (0:Nat) (0:Int)).toNat).oddity)::(v1.length=(ab P j).length∧(fun j_1=>[RV.int IntKind.i64 (v1.getD j_1 (0:Int))])=fun j_1=>[RV.int IntKind.i64 ((ab P j).getD j_1 (0:Int))])::((↑v1.length:Int)=(↑(ab P j).length:Int))::(M=M)::ty d2::y1)) ⟨?_,?_,?_,?_,?_,?_,?_,?_,?_,d2,u1⟩ ?_))
   (fun d1=>aG d true [false] [rq L.length,M=(fC P L).getD [],ty d1] ⟨?_,?_,d1⟩ ?_))
  all_goals((try clear u1);(try clear y1))
  all_goals first|exact Mr|(refine bD.mk ?_;(simp only[dT]at d1;have h0:=hP _ (gE (P:=P) (t:=j) om);have h1:=Pm d2;have h2:=FD hM (by rw[hlen];exact h0.2.1) h1;exact⟨om,h2.1,h2.2.trans hlen,by rw[←hf];exact(XG om h1).symm,hs⟩))|(refine dq.mk ?_;cases d<;>first|rfl|(exfalso;(simp only[dT,dF]at d1;first|(rw[←hf,Iu om]at hs;cases hs;done)|(rw[←hf,XH om (S5 d2)]at hs;cases hs;done))))|(first|exact tz|decide|((try simp only[ek,bt,ky,dT,dF]at*)<;>first|omega|(rw[←hf,Iu om];rfl)|(have h0:=hP _ (gE (P:=P) (t:=j) om);have h1:0<(ab P j).length:=lV.2 h0.1;have h5:0≤(P.getD j []).getD 0 0∧(P.getD j []).getD 0 0<(L.length:Int):=h0.2.1.at (t:=0) h1;have h7:0<(P.getD j []).length:=h1;first|omega)))
theorem QW (L R:LC)(hf:be 2 L=true)(hR:jr L=some R)(hlen:R.length=L.length):ar Tryz.prog [] 23 [.agg [.int .i64 2,aD L]] (.tup [.agg [.int .i64 2,aD R],.bool true]):=by
 have hL:=gn hf;have hl:=hL.1;have hne:=(ma hf).2.1;have k1:be 2 (ag L.length fun i=>(L.getD i z0c).rvs)=true:=nX;have k2:L.length.beq 0=false:=xm;have k0:fC (aF L) L=some R:=(by rw[Eo hf];exact hR);have k3:(fC (aF L) L).isSome=true:=(by rw[k0];rfl);have k4:(fC (aF L) L).getD []=R:=(by rw[k0];rfl)
 refine pr (cE rR) Tryz.func23 (aW (GX L (aF L) jA (cU kB (gn hf).1) (gn hf))) ?_
 refine lr (tp 221) (let t1:=ag L.length fun i=>(L.getD i z0c).rvs;let t2:=fC (aF L) L;[rq (2:Int),L.length=R.length∧L.length=(t2.getD []).length∧∀(i:Nat),i<L.length→(fun i=>(R.getD i z0c).rvs) i=((t2.getD []).getD i z0c).rvs,true=true,rq L.length,(aF t1).length=(aF L).length∧(fun i=>[rI IntKind.i64 ((aF t1).getD i [])])=fun i=>[rI IntKind.i64 ((aF L).getD i [])],(↑(aF t1).length:Int)=(↑(aF L).length:Int),t1=L,aj t2.isSome true,(lz L)∧dv t1,(0:Nat)<L.length∧L.length≤1000000,lz L,aj (L.length.beq (0:Nat)) false,(0:Nat)<L.length,aj (!be (2:Int) t1) false,(lz L)∧L.length≤1000]) ⟨?_,?_,?_,?_,?_,?_,?_,k3,?_,?_,?_,k2,?_,(dN k1),(?_:(lz L)∧L.length≤1000)⟩
 all_goals first|exact Ns
theorem Pn (L:LC)(hf:be 2 L=true)(hR:jr L=none):ar Tryz.prog [] 23 [.agg [.int .i64 2,aD L]] (.tup [.agg [.int .i64 0,aD []],.bool false]):=by
 have hL:=gn hf;have hl:=hL.1;have hne:=(ma hf).2.1;have k1:be 2 (ag L.length fun i=>(L.getD i z0c).rvs)=true:=nX;have k2:L.length.beq 0=false:=xm;have k0:fC (aF L) L=none:=(by rw[Eo hf];exact hR);have k3:(fC (aF L) L).isSome=false:=(by rw[k0];rfl)
 refine pr (cE rR) Tryz.func23 (aW (GX L (aF L) jA (cU kB (gn hf).1) (gn hf))) ?_
 refine lr (tp 222) (let t1:=ag L.length fun i=>(L.getD i z0c).rvs;[rq (0:Int),rq (0:Nat),false=false,rq L.length,(aF t1).length=(aF L).length∧(fun i=>[rI IntKind.i64 ((aF t1).getD i [])])=fun i=>[rI IntKind.i64 ((aF L).getD i [])],(↑(aF t1).length:Int)=(↑(aF L).length:Int),t1=L,aj (fC (aF L) L).isSome false,(lz L)∧dv t1,(0:Nat)<L.length∧L.length≤1000000,lz L,aj (L.length.beq (0:Nat)) false,(0:Nat)<L.length,aj (!be (2:Int) t1) false,(lz L)∧L.length≤1000]) ⟨?_,?_,?_,?_,?_,?_,?_,k3,?_,?_,?_,k2,?_,(dN k1),(?_:(lz L)∧L.length≤1000)⟩
 all_goals first|exact Nu
theorem S6 (p:Int)(L:LC)(hn:L.length≤1000)(hv:be p L=false):ar Tryz.prog [] 23 [.agg [.int .i64 p,aD L]] (.tup [.agg [.int .i64 0,aD []],.bool false]):=by
 have k1:be p (ag L.length fun i=>(L.getD i z0c).rvs)=false:=Cx
 refine pr (cE rR) Tryz.func23 aC ?_
 refine lr [true] [rq (0:Int),rq (0:Nat),false=false,aj (!be p (ag L.length fun i=>(L.getD i z0c).rvs)) true,(lz L)∧L.length≤1000] ⟨?_,?_,?_,(dN k1),(?_:(lz L)∧L.length≤1000)⟩
 all_goals first|exact xG
theorem DO (p:Int)(L:LC)(hn:L.length≤1000):ar Tryz.prog [] 23 [.agg [.int .i64 p,aD L]] (.tup [.agg [.int .i64 (bP (dJ p L)),aD (bL (dJ p L) (lO L))],.bool (dJ p L)]):=by
 unfold dJ
 cases h:be p L with
 |false=>exact S6 p L hn h
 |true=>
  have:=oX h
  subst this
  cases hr:jr L with
  |none=>exact Pn L h hr
  |some R=>
   have e:lO L=R:=by unfold lO;rw[hr];rfl
   rw[e]
   exact QW L R h hr (ER hr)
def ln (L:LC)(k:Nat):Bool:=decide (0<k)&&ft L k
def mB (L:LC)(k:Nat):lQ:=iK (fun _=>true) (ln L) k
def ah (L:LC):List (List Int):=dH (mB L L.length)
def gp (L:LC):List (List Int):=(mB L L.length).1
def iI (L:LC):List Int:=(mB L L.length).2.getD []
def jQ (L:LC)(i:Nat×List (List Int)×Option (List Int)):Prop:=i.1≤L.length∧mB L i.1=i.2
theorem vl {L:LC}{i:Nat×List (List Int)×Option (List Int)}(h:jQ L i):AE (fun _=>true) i.1 i.2:=by rw[←h.2];exact mf _ _ _
theorem yH {L:LC}{k:Nat}{F:List (List Int)}(h:jQ L (k,F,none)):k=0:=by
 have:=((vl h).none rfl).2
 rcases kw k with h0|h0
 ·exact h0
 ·exact absurd (this 0 h0) de
theorem SJ {L:LC}{k:Nat}{F:List (List Int)}(h:jQ L (k,F,none))(hk:k<L.length):jQ L (k+1,[],some [(k:Int)]):=by
 have hF:F=[]:=((vl h).none rfl).1
 subst hF
 refine⟨hk,?_⟩
 show gV true (ln L k) k (mB L k)=_
 rw[h.2];rfl
theorem SK {L:LC}{k:Nat}{F:List (List Int)}{l:List Int}(h:jQ L (k,F,some l))(hk:k<L.length)(h0:0<k)(hj:ft L k=true):jQ L (k+1,F,some (l++[(k:Int)])):=by
 refine⟨hk,?_⟩
 show gV true (ln L k) k (mB L k)=_
 rw[h.2,ln,hj,bZ h0];rfl
theorem QA {L:LC}{k:Nat}{F:List (List Int)}{l:List Int}(h:jQ L (k,F,some l))(hk:k<L.length)(h0:¬0<k):jQ L (k+1,F++[l],some [(k:Int)]):=by
 refine⟨hk,?_⟩
 show gV true (ln L k) k (mB L k)=_
 rw[h.2,ln,bu h0];rfl
theorem QB {L:LC}{k:Nat}{F:List (List Int)}{l:List Int}(h:jQ L (k,F,some l))(hk:k<L.length)(hj:ft L k=false):jQ L (k+1,F++[l],some [(k:Int)]):=by
 refine⟨hk,?_⟩
 show gV true (ln L k) k (mB L k)=_
 rw[h.2,ln,hj,l3];rfl
theorem uN {L:LC}{k:Nat}{F:List (List Int)}{l:List Int}(h:jQ L (k,F,some l))(hk:L.length≤k):gp L=F∧iI L=l:=by
 have h1:k≤L.length:=h.1
 have:k=L.length:=by omega
 subst this
 unfold gp iI
 rw[h.2]
 exact⟨rfl,rfl⟩
theorem Of {L:LC}(h:0<L.length):ah L=gp L++[iI L]:=by
 unfold ah gp iI
 generalize hc:mB L L.length=a
 obtain⟨F,o⟩:=a
 cases o with
 |none=>have:=yH (L:=L) (k:=L.length) (F:=F) ⟨aZ _,hc⟩;omega
 |some l=>rfl
theorem rL {L:LC}:∀l∈ah L,l≠[]∧bR L.length l∧l.length≤L.length:=(mf (fun _=>true) (ln L) L.length).rows
theorem rM {L:LC}:(ah L).length≤L.length:=(mf (fun _=>true) (ln L) L.length).len
def K3 (L:LC)(b:Nat):List (Nat×ai):=[(b,⟨.rows .i64 (gp L) (b+1) (iI L).length,69,1,true,true⟩),(b+1,⟨.ints .i64 (iI L),3,1,true,true⟩)]
def Xr (L:LC):aA:=⟨⟨[(0,(aD L).av),(3,.nils),(6,vi L.length),(7,.int .i64 0)],[],1000⟩,none,fun _=>(.exit 0,⟨[(3,.lo 1001 ((gp L).length+1))],K3 L 1001,1010⟩)⟩
def rcS (L:LC):Nat×List (List Int)×Option (List Int)→St
 |(k,_,none)=>⟨[(0,(aD L).av),(3,.nils),(6,vi L.length),(7,vi k)],[],1010⟩
 |(k,F,some l)=>⟨[(0,(aD L).av),(3,.lo 1001 (F.length+1)),(6,vi L.length),(7,vi k)],[(1001,⟨.rows .i64 F 1002 l.length,69,1,true,true⟩),(1002,⟨.ints .i64 l,3,1,true,true⟩)],1010⟩
theorem SL (L:LC)(hL:aL L)(hne:0<L.length):An 1 Tryz.f100 [0,1,0,1,1] (Xr L):=by
 refine cN (cE um) aC (rcS L) (fun i=>L.length-i.1) (fun i=>jQ L i) ?_ ?_
 ·exact st (0,[],none) [lq L,rq (↑L.length:Int),(0:Int)=↑(0:Nat)] B8 (by exact⟨aY _,rfl⟩)
 ·rintro ⟨k,F,o⟩ hI
  have hG:=vl hI
  have hk:k≤L.length:=hI.1
  have hl:=hL.1
  have ek:=wk k
  have em:w6.wrap ((k:Int)-1)=(k:Int)-1:=wo
  have hFk:F.length≤k:=by have:=hG.len;cases o<;>simp[dH]at this<;>omega
  have eF:w6.wrap (((F.length+1:Nat):Int)-1)=(F.length:Int):=by rw[wo];omega
  rcases o with _|l
  rotate_right
  refine(let q1:List Prop→List Prop:=fun l0=>(lq L)::(F.length+1+1=(F++[l]).length+1)::rq (↑L.length:Int)::(w6.wrap ((↑k:Int)+1)=↑(k+1))::(F++[l]=F++[l]∧(1:Nat)=[(↑k:Int)].length)::rq ([(↑k:Int)])::(F.length+1+1≤1000000)::(F.length+1=F.length+1∧l.length=l.length)::l0;oe (decide ((↑k:Int)<↑L.length)) (fun d1=>oe (decide ((↑k:Int)>0)) (fun d2=>let y1:List Prop:=[(lz L)∧aL (ag L.length fun i=>(L.getD i Con.zero).rvs)∧(1:Int)≤↑k∧(↑k:Int)<↑L.length,ty d2,ty d1];have u1:ao y1:=⟨?_,d2,d1⟩;oe (ft (ag L.length fun i=>(L.getD i Con.zero).rvs) k) (fun d3=>aq (tp 111) (k+1,F,some (l++[(k:Int)])) (let v1:=(↑(F.length+1):Int)-1;let v2:=(0:Int)≤w6.wrap v1∧w6.wrap v1<↑(F.length+1);let v3:=(w6.wrap v1).toNat=F.length;(lq L)::rq (F.length+1)::rq (↑L.length:Int)::(w6.wrap ((↑k:Int)+1)=↑(k+1))::(F=F∧l.length+1=(l++[(↑k:Int)]).length)::rq (l++[(↑k:Int)])::v3::v2::((bN.ints IntKind.i64 l).num=l.length∧l.length+1≤1000000)::v3::v2::ty d3::y1) ?_ ?_ ?_)
   (fun d3=>aq (tp 112) (k+1,F++[l],some [(k:Int)]) (q1 (ty d3::y1)) ?_ ?_ ?_))
   (fun d2=>aq [true,false] (k+1,F++[l],some [(k:Int)]) (q1 [ty d2,ty d1]) ?_ ?_ ?_))
   (fun d1=>br [false] [F.length+1=(gp L).length+1,F=gp L∧l.length=(iI L).length,l=iI L,ty d1] ?_))
  all_goals with_reducible repeat' first|exact dA|refine bk ?_ ?_|refine bm ?_
  rotate_right
  refine oe (decide ((↑k:Int)<↑L.length)) (fun d1=>oe (decide ((↑k:Int)>0)) (fun d2=>l6.no ?_)
   (fun d2=>aq [true,false] (k+1,[],some [(k:Int)]) [lq L,(1:Nat)=0+1,rq (↑L.length:Int),w6.wrap ((↑k:Int)+1)=↑(k+1),([]:List (List Int))=[]∧(1:Nat)=[(↑k:Int)].length,rq ([(↑k:Int)]),ty d2,ty d1] ⟨?_,?_,?_,?_,?_,?_,d2,d1⟩ ?_ ?_))
   (fun d1=>aT.no ?_)
  all_goals((try clear u1);(try clear y1))
  all_goals first|exact xl|exact LQ|(refine aT.mk ?_;exact xv)|(refine l6.mk ?_;exact xv)|exact LB
theorem N2 (L:LC)(hL:aL L)(hne:0<L.length):ar Tryz.prog [] 100 [aD L] (cS .i64 (ah L)):=by
 refine pr (cE um) Tryz.func100 (aW (SL L hL hne)) ?_
 refine lr [] [(gp L).length+1=(ah L).length∧(gp L).length+1=(gp L).length+1∧(iI L).length=(iI L).length∧∀(i:Nat),i<(gp L).length+1→(fun i=>[rI IntKind.i64 ((ah L).getD i [])]) i=[rI IntKind.i64 ((gp L++[iI L]).getD i [])],lq L,rq (↑L.length:Int)] ⟨?_,?_,(?_:(↑L.length:Int)=↑L.length)⟩
 all_goals first|exact M4
def BG (p:Int)(L:LC):List (Nat×ai):=[(1000,⟨.plain [vi p,(aD L).av],45,0,false,true⟩),(1001,⟨.plain [.fn 119 [],.fn 120 [.ptr 1000 0]],125,0,false,true⟩)]
def Im (p:Int)(L:LC):aA:=⟨⟨[(3,.ptr 1001 0),(5,.nils),(8,vi L.length),(9,.int .i64 0)],BG p L,1002⟩,none,fun _=>(.exit 0,⟨[(5,.lo 1003 ((gp L).length+1))],K3 L 1003,1010⟩)⟩
def ctS (p:Int)(L:LC):Nat×List (List Int)×Option (List Int)→St
 |(k,_,none)=>⟨[(3,.ptr 1001 0),(5,.nils),(8,vi L.length),(9,vi k)],BG p L,1010⟩
 |(k,F,some l)=>⟨[(3,.ptr 1001 0),(5,.lo 1003 (F.length+1)),(8,vi L.length),(9,vi k)],BG p L++[(1003,⟨.rows .i64 F 1004 l.length,69,1,true,true⟩),(1004,⟨.ints .i64 l,3,1,true,true⟩)],1010⟩
theorem SM (p:Int)(L:LC)(hL:aL L)(hne:0<L.length):An 2 Tryz.f115 [0,1,0,1,1] (Im p L):=by
 refine cN (cE ul) aC (ctS p L) (fun i=>L.length-i.1) (fun i=>jQ L i) ?_ ?_
 ·exact st (0,[],none) [rq (↑L.length:Int),(0:Int)=↑(0:Nat),p=p,lq L] Mj (by exact⟨aY _,rfl⟩)
 ·rintro ⟨k,F,o⟩ hI
  have hG:=vl hI
  have hk:k≤L.length:=hI.1
  have hl:=hL.1
  have ek:=wk k
  have em:w6.wrap ((k:Int)-1)=(k:Int)-1:=wo
  have hFk:F.length≤k:=by have:=hG.len;cases o<;>simp[dH]at this<;>omega
  have eF:w6.wrap (((F.length+1:Nat):Int)-1)=(F.length:Int):=by rw[wo];omega
  rcases o with _|l
  rotate_right
  refine(let q1:List Prop→List Prop:=fun l0=>(F.length+1+1=(F++[l]).length+1)::rq (↑L.length:Int)::(w6.wrap ((↑k:Int)+1)=↑(k+1))::(p=p)::(lq L)::(F++[l]=F++[l]∧(1:Nat)=[(↑k:Int)].length)::rq ([(↑k:Int)])::(F.length+1+1≤1000000)::(F.length+1=F.length+1∧l.length=l.length)::l0;oe (decide ((↑k:Int)<↑L.length)) (fun d1=>oe (decide ((↑k:Int)>0)) (fun d2=>let y1:List Prop:=[(lz L)∧aL (ag L.length fun i=>(L.getD i Con.zero).rvs)∧(1:Int)≤↑k∧(↑k:Int)<↑L.length,ty d2,ty d1];have u1:ao y1:=⟨?_,d2,d1⟩;oe (ft (ag L.length fun i=>(L.getD i Con.zero).rvs) k) (fun d3=>aq (tp 111) (k+1,F,some (l++[(k:Int)])) (let v1:=(↑(F.length+1):Int)-1;let v2:=(0:Int)≤w6.wrap v1∧w6.wrap v1<↑(F.length+1);let v3:=(w6.wrap v1).toNat=F.length;rq (F.length+1)::rq (↑L.length:Int)::(w6.wrap ((↑k:Int)+1)=↑(k+1))::(p=p)::(lq L)::(F=F∧l.length+1=(l++[(↑k:Int)]).length)::rq (l++[(↑k:Int)])::v3::v2::((bN.ints IntKind.i64 l).num=l.length∧l.length+1≤1000000)::v3::v2::ty d3::y1) ?_ ?_ ?_)
   (fun d3=>aq (tp 112) (k+1,F++[l],some [(k:Int)]) (q1 (ty d3::y1)) ?_ ?_ ?_))
   (fun d2=>aq [true,false] (k+1,F++[l],some [(k:Int)]) (q1 [ty d2,ty d1]) ?_ ?_ ?_))
   (fun d1=>br [false] [F.length+1=(gp L).length+1,F=gp L∧l.length=(iI L).length,l=iI L,ty d1] ?_))
  all_goals with_reducible repeat' first|exact dA|refine bk ?_ ?_|refine bm ?_
  rotate_right
  refine oe (decide ((↑k:Int)<↑L.length)) (fun d1=>oe (decide ((↑k:Int)>0)) (fun d2=>l6.no ?_)
   (fun d2=>aq [true,false] (k+1,[],some [(k:Int)]) [(1:Nat)=0+1,rq (↑L.length:Int),w6.wrap ((↑k:Int)+1)=↑(k+1),p=p,lq L,([]:List (List Int))=[]∧(1:Nat)=[(↑k:Int)].length,rq ([(↑k:Int)]),ty d2,ty d1] ⟨?_,?_,?_,?_,?_,?_,?_,d2,d1⟩ ?_ ?_))
   (fun d1=>aT.no ?_)
  all_goals((try clear u1);(try clear y1))
  all_goals first|exact xl|exact LQ|(refine aT.mk ?_;exact xv)|(refine l6.mk ?_;exact xv)|exact LB
def Xt (p:Int)(L:LC):bF:=wv EV (lA EV (qy EV.ng sD) 8) 115 2 [([0,1,0,1,1],Im p L)] qz
theorem QC (p:Int)(L:LC)(hL:aL L)(hne:0<L.length):ce Tryz.prog EV.ng (Xt p L):=FG fB (j6 fB (fq ul) 8) Tryz.func115 (aW (SM p L hL hne)) (dL _ _)
theorem N3 (p:Int)(L:LC)(hL:aL L)(hne:0<L.length):ar Tryz.prog [] 79 [.agg [.int .i64 p,aD L]] (cS .i64 (ah L)):=by
 have rr:=fun(tp:List Bool)(ms:List Prop)h hm=>yM fB (j6 fB (QC p L hL hne) 4) Tryz.func79 (A:=[.agg [.int .i64 p,aD L]]) rfl aC rfl rfl lJ (tabs:=[]) (R:=cS .i64 (ah L)) (tp:=tp) (ms:=ms) h hm
 refine rr [] [(gp L).length+1=(ah L).length∧(gp L).length+1=(gp L).length+1∧(iI L).length=(iI L).length∧∀(i:Nat),i<(gp L).length+1→(fun i=>[rI IntKind.i64 ((ah L).getD i [])]) i=[rI IntKind.i64 ((gp L++[iI L]).getD i [])],rq (↑L.length:Int),p=p,lq L] kr ⟨?_,?_,?_,(?_:lq L)⟩
 all_goals first|exact M4
noncomputable def GU:List bV:=(sD++sM)++[
 ⟨79,[],fun A=>match A with
  |[.agg [.int .i64 p,.sl n 5 row]]=>some (cS .i64 (ah (ag n row)),[(∀i,i<n→row i=(Con.ofR (row i)).rvs)∧aL (ag n row)∧0<n])
  |_=>none⟩]
theorem DM:∀e∈GU,ch Tryz.prog e:=by
 intro e he
 rcases dV.1 he with he|he
 ·rcases dV.1 he with he|he
  ·exact ul e he
  ·exact rU e he
 ·rw[dU.1 he]
  intro A R ms h hm
  simp only at h
  split at h
  ·cases h
   obtain⟨h1,h2,h3⟩:=ay hm
   exact ar.imp (N3 _ _ h2 mN) (.cons (.agg (.cons .same (.cons (.con h1) .nil))) .nil)
  ·cases h
noncomputable def VF:List bV:=(vg++sV)++[
 ⟨100,[],fun A=>match A with
  |[.sl n 5 row]=>some (cS .i64 (ah (ag n row)),[(∀i,i<n→row i=(Con.ofR (row i)).rvs)∧aL (ag n row)∧0<n])
  |_=>none⟩]
theorem Pj:∀e∈VF,ch Tryz.prog e:=by
 intro e he
 rcases dV.1 he with he|he
 ·rcases dV.1 he with he|he
  ·exact um e he
  ·exact rX e he
 ·rw[dU.1 he]
  intro A R ms h hm
  simp only at h
  split at h
  ·cases h
   obtain⟨h1,h2,h3⟩:=ay hm
   exact ar.imp (N2 _ h2 mN) (.cons (.con h1) .nil)
  ·cases h
theorem QP (p:Int)(L:LC)(hL:aL L)(hne:0<L.length)(hv:dP p L=true):ar Tryz.prog [] 31 [.agg [.int .i64 p,aD L]] (.tup [cS .i64 (ah L),.bool true]):=by
 have hl:=hL.1
 refine pr (cE DM) Tryz.func31 aC ?_
 refine(let q1:List Prop→List Prop:=fun l0=>(let v1:=ag L.length fun i=>(L.getD i Con.zero).rvs;((ah v1).length=(ah L).length∧(fun i=>[rI IntKind.i64 ((ah v1).getD i [])])=fun i=>[rI IntKind.i64 ((ah L).getD i [])])::(true=true)::((lz L)∧aL v1∧(0:Nat)<L.length)::l0);let y1:List Prop:=[(lz L)∧L.length≤1000];have u1:ao y1:=(?_:(lz L)∧L.length≤1000);oe (eQ p (ag L.length fun i=>(L.getD i Con.zero).rvs)) (fun d1=>lr [false] (q1 (ty (dN d1)::y1)) ⟨?_,?_,?_,(dN d1),u1⟩)
  (fun d1=>oe (be p (ag L.length fun i=>(L.getD i Con.zero).rvs)) (fun d2=>lr [true,false] (q1 (ty (dN d2)::((lz L)∧L.length≤1000)::ty (dN d1)::y1)) ⟨?_,?_,?_,(dN d2),?_,(dN d1),u1⟩)
  (fun d2=>aT.no ?_)))
 all_goals first|exact Ce|(first|exact tz|exact pv|exact xp|exact Ct|exact xE|exact rm)
def ey (L:LC)(l:List Int):Bool:=l.all fun i=>!((at_ L i.toNat).sign==-1)
def cu (L:LC)(P:List (List Int)):Bool:=P.all fun l=>ey L (l.drop 1)
theorem Xl {L:LC}{l:List Int}{k:Nat}(hk:k<l.length)(h:((at_ L (l.getD k 0).toNat).sign==-1)=false):ey L (l.drop k)=ey L (l.drop (k+1)):=by
 rw[m9 hk];unfold ey;rw[kZ,h];rfl
theorem Ii {L:LC}{l:List Int}{k:Nat}(hk:k<l.length)(h:((at_ L (l.getD k 0).toNat).sign==-1)=true):ey L (l.drop k)=false:=by
 rw[m9 hk];unfold ey;rw[kZ,h];rfl
theorem Ij {L:LC}{l:List Int}{k:Nat}(hk:l.length≤k):ey L (l.drop k)=true:=by rw[eL hk];rfl
theorem Xm {L:LC}{P:List (List Int)}{j:Nat}(hj:j<P.length)(h:ey L ((ab P j).drop 1)=true):cu L (P.drop j)=cu L (P.drop (j+1)):=by
 rw[mc hj];unfold cu;rw[kZ,h];rfl
theorem Ik {L:LC}{P:List (List Int)}{j:Nat}(hj:j<P.length)(h:ey L ((ab P j).drop 1)=false):cu L (P.drop j)=false:=by
 rw[mc hj];unfold cu;rw[kZ,h];rfl
theorem Il {L:LC}{P:List (List Int)}{j:Nat}(hj:P.length≤j):cu L (P.drop j)=true:=by rw[eL hj];rfl
def dI (l:List Int):AV:=.ro (l.length-1) 1 fun i=>[.int .i64 (l.getD (i+1) 0)]
def wV (L:LC)(j:AV):List (Nat×AV):=[(1,.ptr 1000 0),(9,(cS .i64 (ah L)).av),(10,vi (ah L).length),(11,j)]
def fP (p:Int)(L:LC):List (Nat×ai):=[(1000,⟨.plain [vi p,(aD L).av],45,0,false,true⟩)]
def K1 (L:LC)(j:Nat)(k:AV):List (Nat×AV):=wV L (vi j)++[(16,dI (ab (ah L) j)),(17,vi ((ab (ah L) j).length-1:Nat)),(18,k)]
def JF (p:Int)(L:LC)(j:Nat):aA:=⟨⟨K1 L j (.int .i64 0),fP p L,1020⟩,some (ey L ((ab (ah L) j).drop 1)),fun d=>match d with
 |true=>(.exit 2,⟨wV L (vi j),fP p L,1020⟩)
 |false=>(.ret,⟨[(2,.bool false)],fP p L,1020⟩)⟩
abbrev iO (L:LC)(i:Nat):=(ah L).getD i []
theorem Xn (p:Int)(L:LC)(j:Nat)(hr:bR L.length (ab (ah L) j))(hn:(ab (ah L) j).length≤1000):An 1 Tryz.f60 [0,1,1,0,0,1,1,0,0,1,0,1] (JF p L j):=by
 refine ea c0 aC (fun(k:Nat)=>(⟨K1 L j (vi k),fP p L,1020⟩:St)) (fun(k:Nat)=>((ab (ah L) j).length-k:Nat)) (fun(d:Bool)=>fun(k:Nat)=>(k≤(ab (ah L) j).length-1∧ey L ((ab (ah L) j).drop (k+1))=ey L ((ab (ah L) j).drop 1)∧ey L ((ab (ah L) j).drop 1)=d:Prop)) ?_ ?_
 ·intro d hd
  exact st (0) (let t1:=ab (ah L) j;[sr (ah L) fun i=>[rI IntKind.i64 (iO L i)],rq (↑(ah L).length:Int),rq (↑j:Int),t1.length-1=t1.length-1∧(fun i=>[RV.int IntKind.i64 (t1.getD (i+1) (0:Int))])=fun i=>[RV.int IntKind.i64 (t1.getD (i+1) (0:Int))],rq (↑(t1.length-1):Int),(0:Int)=↑(0:Nat),p=p,lq L]) B4 (by exact⟨aY _,rfl,hd⟩)
 ·rintro d hd k hI
  obtain⟨ht,hf,hs⟩:=hI
  have ht:k≤(ab (ah L) j).length-1:=ht
  have hf:ey L ((ab (ah L) j).drop (k+1))=ey L ((ab (ah L) j).drop 1):=hf
  have ek:=wk k
  refine(let q1:List Prop→List Prop:=fun l0=>(sr (ah L) fun i=>[rI IntKind.i64 (iO L i)])::rq (↑(ah L).length:Int)::rq (↑j:Int)::l0;oe (decide ((↑k:Int)<(↑((ab (ah L) j).length-1):Int))) (fun d1=>let y1:List Prop:=(let v1:=ab (ah L) j;[(0:Int)≤v1.getD (k+1) (0:Int)∧v1.getD (k+1) (0:Int)<↑L.length,(0:Int)≤↑k∧(↑k:Int)<↑(v1.length-1),ty d1]);have u1:ao y1:=⟨?_,?_,d1⟩;oe ((L.getD ((ab (ah L) j).getD (k+1) (0:Int)).toNat z0c).sign==-1) (fun d2=>aG d false [true,true] ((p=p)::(lq L)::ty d2::y1) ⟨?_,?_,d2,u1⟩ ?_)
   (fun d2=>aq [true,false] (k+1) (q1 (let v1:=ab (ah L) j;(v1.length-1=v1.length-1∧(fun i=>[RV.int IntKind.i64 (v1.getD (i+1) (0:Int))])=fun i=>[RV.int IntKind.i64 (v1.getD (i+1) (0:Int))])::rq (↑(v1.length-1):Int)::(w6.wrap ((↑k:Int)+1)=↑(k+1))::(p=p)::(lq L)::ty d2::y1)) ⟨?_,?_,?_,?_,?_,?_,?_,?_,d2,u1⟩ ?_ ?_))
   (fun d1=>aG d true [false] (q1 [p=p,lq L,ty d1]) ⟨?_,?_,?_,?_,?_,d1⟩ ?_))
  all_goals((try clear u1);(try clear y1))
  all_goals first|exact B3|exact Ck|exact BY|exact BW
def Xo (p:Int)(L:LC):aA:=⟨⟨wV L (.int .i64 0),fP p L,1020⟩,some (cu L (ah L)),fun d=>match d with
 |true=>(.exit 0,⟨[],fP p L,1020⟩)
 |false=>(.ret,⟨[(2,.bool false)],fP p L,1020⟩)⟩
theorem Vi (p:Int)(L:LC)(hL:aL L):An 1 Tryz.f60 [0,1,0,1] (Xo p L):=by
 refine jU c0 (fun(j:Nat)=>(⟨wV L (vi j),fP p L,1020⟩:St)) (fun(j:Nat)=>((ah L).length-j:Nat)) (fun(d:Bool)=>fun(j:Nat)=>(j≤(ah L).length∧cu L ((ah L).drop j)=cu L (ah L)∧cu L (ah L)=d:Prop)) (fun(j:Nat)=>([([0,1,1,0,0,1,1,0,0,1,0,1],JF p L j)]:List (List Nat×aA))) ?_ ?_ ?_
 ·rintro d hd j hI
  have hr:bR L.length (ab (ah L) j)∧(ab (ah L) j).length≤1000:=by
   have:=hL.1
   rcases bA j (ah L).length with h|h
   ·have h1:=rL _ (gE h)
    exact⟨h1.2.1,om⟩
   ·have e:ab (ah L) j=[]:=by simp[ab,h]
    rw[e];exact⟨fun x hx=>by simp at hx,si⟩
  exact aW (Xn p L j hr.1 hr.2)
 ·intro d hd
  exact st (0) [sr (ah L) fun i=>[rI IntKind.i64 (iO L i)],rq (↑(ah L).length:Int),(0:Int)=↑(0:Nat),p=p,lq L] pu (by exact⟨aY _,rfl,hd⟩)
 ·rintro d hd j hI
  obtain⟨ht,hf,hs⟩:=hI
  have ht:j≤(ah L).length:=ht
  have hf:cu L ((ah L).drop j)=cu L (ah L):=hf
  have hl:=hL.1
  have hc:=rM (L:=L)
  have ek:=wk j
  refine oe (decide ((↑j:Int)<(↑(ah L).length:Int))) (fun d1=>let y1:List Prop:=[(0:Int)≤1∧(1:Int)≤(↑((ah L).getD j []).length:Int),(0:Int)≤↑j∧(↑j:Int)<(↑(ah L).length:Int),ty d1];have u1:ao y1:=⟨?_,?_,d1⟩;oe (ey L (List.drop (1:Nat) (ab (ah L) j))) (fun d2=>aq [true,true] (j+1) (let v1:=(ah L).getD j [];let v2:=ab (ah L) j;let v3:=(↑(ah L).length:Int);(sr (ah L) fun i=>[rI IntKind.i64 (iO L i)])::rq v3::(w6.wrap ((↑j:Int)+1)=↑(j+1))::(p=p)::(lq L)::(sr (ah L) fun i=>[rI IntKind.i64 (iO L i)])::rq v3::rq (↑j:Int)::(v1.length-Int.toNat (1:Int)=v2.length-1∧(fun i=>(fun j_1=>[RV.int IntKind.i64 (v1.getD j_1 (0:Int))]) (i+Int.toNat (1:Int)))=fun i=>[RV.int IntKind.i64 (v2.getD (i+1) (0:Int))])::((↑(v1.length-Int.toNat (1:Int)):Int)=↑(v2.length-1))::(p=p)::(lq L)::ty d2::y1) ⟨?_,?_,?_,?_,?_,?_,?_,?_,?_,?_,?_,?_,d2,u1⟩ ?_ ?_)
   (fun d2=>aG d false [true,false] (let v1:=(ah L).getD j [];let v2:=ab (ah L) j;(p=p)::(lq L)::(sr (ah L) fun i=>[rI IntKind.i64 (iO L i)])::rq (↑(ah L).length:Int)::rq (↑j:Int)::(v1.length-Int.toNat (1:Int)=v2.length-1∧(fun i=>(fun j_1=>[RV.int IntKind.i64 (v1.getD j_1 (0:Int))]) (i+Int.toNat (1:Int)))=fun i=>[RV.int IntKind.i64 (v2.getD (i+1) (0:Int))])::((↑(v1.length-Int.toNat (1:Int)):Int)=↑(v2.length-1))::(p=p)::(lq L)::ty d2::y1) ⟨?_,?_,?_,?_,?_,?_,?_,?_,?_,d2,u1⟩ ?_))
   (fun d1=>aG d true [false] [p=p,lq L,ty d1] ⟨?_,?_,d1⟩ ?_)
  all_goals((try clear u1);(try clear y1))
  all_goals first|exact B9|exact Cc|exact BX|exact BT
theorem C8 (p:Int)(L:LC)(hL:aL L)(hne:0<L.length):ar Tryz.prog [] 60 [.agg [.int .i64 p,aD L]] (.bool (cu L (ah L))):=by
 refine pr (cE Pj) Tryz.func60 (aW (Vi p L hL)) ?_
 refine(let y1:List Prop:=[(lz L)∧aL (ag L.length fun i=>(L.getD i z0c).rvs)∧(0:Nat)<L.length];have u1:ao y1:=(?_:(lz L)∧aL (ag L.length fun i=>(L.getD i z0c).rvs)∧(0:Nat)<L.length);oe (cu L (ah L)) (fun d1=>lr [true] (let v1:=ag L.length fun i=>(L.getD i z0c).rvs;(true=cu L (ah L))::((ah v1).length=(ah L).length∧(fun i=>[rI IntKind.i64 ((ah v1).getD i [])])=fun i=>[rI IntKind.i64 (iO L i)])::((↑(ah v1).length:Int)=(↑(ah L).length:Int))::(p=p)::(lq L)::ty d1::y1) ⟨?_,?_,?_,?_,?_,d1,u1⟩)
  (fun d1=>lr [false] (let v1:=ag L.length fun i=>(L.getD i z0c).rvs;(false=cu L (ah L))::((ah v1).length=(ah L).length∧(fun i=>[rI IntKind.i64 ((ah v1).getD i [])])=fun i=>[rI IntKind.i64 (iO L i)])::((↑(ah v1).length:Int)=(↑(ah L).length:Int))::(p=p)::(lq L)::ty d1::y1) ⟨?_,?_,?_,?_,?_,d1,u1⟩))
 all_goals first|(first|exact tz|exact Ct|(rw[bn];exact⟨rfl,fun _ _=>rfl⟩)|exact xE|exact rm|exact d1|exact d1.symm)
def dt (p:Int)(L:LC):Bool:=be p L&&(cu L (ah L)&&(jr L).isSome)
def Vj:List bV:=GU++[
 ⟨23,[],fun A=>match A with
  |[.agg [.int .i64 p,.sl n 5 row]]=>some (.tup [.agg [.int .i64 (bP (dJ p (ag n row))),aD (bL (dJ p (ag n row)) (lO (ag n row)))],.bool (dJ p (ag n row))],[(∀i,i<n→row i=(Con.ofR (row i)).rvs)∧n≤1000])
  |_=>none⟩]
theorem DC:∀e∈Vj,ch Tryz.prog e:=by
 intro e he
 rcases dV.1 he with he|he
 ·exact DM e he
 ·rw[dU.1 he]
  intro A R ms h hm
  simp only at h
  split at h
  ·cases h
   obtain⟨h1,h2⟩:=ay hm
   exact ar.imp (DO _ _ fR) (.cons (.agg (.cons .same (.cons (.con h1) .nil))) .nil)
  ·cases h
def wW (L:LC)(j:AV):List (Nat×AV):=[(1,.ptr 1000 0),(13,(cS .i64 (ah L)).av),(14,vi (ah L).length),(15,j)]
def K2 (L:LC)(j:Nat)(k:AV):List (Nat×AV):=wW L (vi j)++[(20,dI (ab (ah L) j)),(21,vi ((ab (ah L) j).length-1:Nat)),(22,k)]
def JG (p:Int)(L:LC)(j:Nat):aA:=⟨⟨K2 L j (.int .i64 0),fP p L,1020⟩,some (ey L ((ab (ah L) j).drop 1)),fun d=>match d with
 |true=>(.exit 2,⟨wW L (vi j),fP p L,1020⟩)
 |false=>(.ret,⟨[(2,.bool false)],fP p L,1020⟩)⟩
theorem Xp (p:Int)(L:LC)(j:Nat)(hr:bR L.length (ab (ah L) j))(hn:(ab (ah L) j).length≤1000):An 1 Tryz.f36 [0,1,1,0,0,1,1,0,0,1,0,1,1] (JG p L j):=by
 refine ea c0 aC (fun(k:Nat)=>(⟨K2 L j (vi k),fP p L,1020⟩:St)) (fun(k:Nat)=>((ab (ah L) j).length-k:Nat)) (fun(d:Bool)=>fun(k:Nat)=>(k≤(ab (ah L) j).length-1∧ey L ((ab (ah L) j).drop (k+1))=ey L ((ab (ah L) j).drop 1)∧ey L ((ab (ah L) j).drop 1)=d:Prop)) ?_ ?_
 ·intro d hd
  exact st (0) (let t1:=ab (ah L) j;[sr (ah L) fun i=>[rI IntKind.i64 (iO L i)],rq (↑(ah L).length:Int),rq (↑j:Int),t1.length-1=t1.length-1∧(fun i=>[RV.int IntKind.i64 (t1.getD (i+1) (0:Int))])=fun i=>[RV.int IntKind.i64 (t1.getD (i+1) (0:Int))],rq (↑(t1.length-1):Int),(0:Int)=↑(0:Nat),p=p,lq L]) B4 (by exact⟨aY _,rfl,hd⟩)
 ·rintro d hd k hI
  obtain⟨ht,hf,hs⟩:=hI
  have ht:k≤(ab (ah L) j).length-1:=ht
  have hf:ey L ((ab (ah L) j).drop (k+1))=ey L ((ab (ah L) j).drop 1):=hf
  have ek:=wk k
  refine(let q1:List Prop→List Prop:=fun l0=>(sr (ah L) fun i=>[rI IntKind.i64 (iO L i)])::rq (↑(ah L).length:Int)::rq (↑j:Int)::l0;oe (decide ((↑k:Int)<(↑((ab (ah L) j).length-1):Int))) (fun d1=>let y1:List Prop:=(let v1:=ab (ah L) j;[(0:Int)≤v1.getD (k+1) (0:Int)∧v1.getD (k+1) (0:Int)<↑L.length,(0:Int)≤↑k∧(↑k:Int)<↑(v1.length-1),ty d1]);have u1:ao y1:=⟨?_,?_,d1⟩;oe ((L.getD ((ab (ah L) j).getD (k+1) (0:Int)).toNat z0c).sign==-1) (fun d2=>aG d false [true,true] ((p=p)::(lq L)::ty d2::y1) ⟨?_,?_,d2,u1⟩ ?_)
   (fun d2=>aq [true,false] (k+1) (q1 (let v1:=ab (ah L) j;(v1.length-1=v1.length-1∧(fun i=>[RV.int IntKind.i64 (v1.getD (i+1) (0:Int))])=fun i=>[RV.int IntKind.i64 (v1.getD (i+1) (0:Int))])::rq (↑(v1.length-1):Int)::(w6.wrap ((↑k:Int)+1)=↑(k+1))::(p=p)::(lq L)::ty d2::y1)) ⟨?_,?_,?_,?_,?_,?_,?_,?_,d2,u1⟩ ?_ ?_))
   (fun d1=>aG d true [false] (q1 [p=p,lq L,ty d1]) ⟨?_,?_,?_,?_,?_,d1⟩ ?_))
  all_goals((try clear u1);(try clear y1))
  all_goals first|exact B3|exact Ck|exact BY|exact BW
def Xq (p:Int)(L:LC):aA:=⟨⟨wW L (.int .i64 0),fP p L,1020⟩,some (cu L (ah L)),fun d=>match d with
 |true=>(.exit 0,⟨[(1,.ptr 1000 0)],fP p L,1020⟩)
 |false=>(.ret,⟨[(2,.bool false)],fP p L,1020⟩)⟩
theorem Vk (p:Int)(L:LC)(hL:aL L):An 1 Tryz.f36 [0,1,0,1,1] (Xq p L):=by
 refine jU c0 (fun(j:Nat)=>(⟨wW L (vi j),fP p L,1020⟩:St)) (fun(j:Nat)=>((ah L).length-j:Nat)) (fun(d:Bool)=>fun(j:Nat)=>(j≤(ah L).length∧cu L ((ah L).drop j)=cu L (ah L)∧cu L (ah L)=d:Prop)) (fun(j:Nat)=>([([0,1,1,0,0,1,1,0,0,1,0,1,1],JG p L j)]:List (List Nat×aA))) ?_ ?_ ?_
 ·rintro d hd j hI
  have hr:bR L.length (ab (ah L) j)∧(ab (ah L) j).length≤1000:=by
   have:=hL.1
   rcases bA j (ah L).length with h|h
   ·have h1:=rL _ (gE h)
    exact⟨h1.2.1,om⟩
   ·have e:ab (ah L) j=[]:=by simp[ab,h]
    rw[e];exact⟨fun x hx=>by simp at hx,si⟩
  exact aW (Xp p L j hr.1 hr.2)
 ·intro d hd
  exact st (0) [sr (ah L) fun i=>[rI IntKind.i64 (iO L i)],rq (↑(ah L).length:Int),(0:Int)=↑(0:Nat),p=p,lq L] pu (by exact⟨aY _,rfl,hd⟩)
 ·rintro d hd j hI
  obtain⟨ht,hf,hs⟩:=hI
  have ht:j≤(ah L).length:=ht
  have hf:cu L ((ah L).drop j)=cu L (ah L):=hf
  have hl:=hL.1
  have hc:=rM (L:=L)
  have ek:=wk j
  refine oe (decide ((↑j:Int)<(↑(ah L).length:Int))) (fun d1=>let y1:List Prop:=[(0:Int)≤1∧(1:Int)≤(↑((ah L).getD j []).length:Int),(0:Int)≤↑j∧(↑j:Int)<(↑(ah L).length:Int),ty d1];have u1:ao y1:=⟨?_,?_,d1⟩;oe (ey L (List.drop (1:Nat) (ab (ah L) j))) (fun d2=>aq [true,true] (j+1) (let v1:=(ah L).getD j [];let v2:=ab (ah L) j;let v3:=(↑(ah L).length:Int);(sr (ah L) fun i=>[rI IntKind.i64 (iO L i)])::rq v3::(w6.wrap ((↑j:Int)+1)=↑(j+1))::(p=p)::(lq L)::(sr (ah L) fun i=>[rI IntKind.i64 (iO L i)])::rq v3::rq (↑j:Int)::(v1.length-Int.toNat (1:Int)=v2.length-1∧(fun i=>(fun j_1=>[RV.int IntKind.i64 (v1.getD j_1 (0:Int))]) (i+Int.toNat (1:Int)))=fun i=>[RV.int IntKind.i64 (v2.getD (i+1) (0:Int))])::((↑(v1.length-Int.toNat (1:Int)):Int)=↑(v2.length-1))::(p=p)::(lq L)::ty d2::y1) ⟨?_,?_,?_,?_,?_,?_,?_,?_,?_,?_,?_,?_,d2,u1⟩ ?_ ?_)
   (fun d2=>aG d false [true,false] (let v1:=(ah L).getD j [];let v2:=ab (ah L) j;(p=p)::(lq L)::(sr (ah L) fun i=>[rI IntKind.i64 (iO L i)])::rq (↑(ah L).length:Int)::rq (↑j:Int)::(v1.length-Int.toNat (1:Int)=v2.length-1∧(fun i=>(fun j_1=>[RV.int IntKind.i64 (v1.getD j_1 (0:Int))]) (i+Int.toNat (1:Int)))=fun i=>[RV.int IntKind.i64 (v2.getD (i+1) (0:Int))])::((↑(v1.length-Int.toNat (1:Int)):Int)=↑(v2.length-1))::(p=p)::(lq L)::ty d2::y1) ⟨?_,?_,?_,?_,?_,?_,?_,?_,?_,d2,u1⟩ ?_))
   (fun d1=>aG d true [false] [p=p,lq L,ty d1] ⟨?_,?_,d1⟩ ?_)
  all_goals((try clear u1);(try clear y1))
  all_goals first|exact B9|exact Cc|exact BX|exact BT
theorem Sv (p:Int)(L:LC)(hL:aL L)(hne:0<L.length)(hf:be p L=true):ar Tryz.prog [] 36 [.agg [.int .i64 p,aD L]] (.bool (cu L (ah L)&&(jr L).isSome)):=by
 have hl:=hL.1;have k1:be p (ag L.length fun i=>(L.getD i z0c).rvs)=true:=nX
 refine pr (cE DC) Tryz.func36 (aW (Vk p L hL)) ?_
 refine(let y1:List Prop:=(let v1:=ag L.length fun i=>(L.getD i z0c).rvs;[(lz L)∧aL v1∧(0:Nat)<L.length,aj (!be p v1) false,(lz L)∧L.length≤1000]);have u1:ao y1:=⟨?_,(dN k1),(?_:(lz L)∧L.length≤1000)⟩;oe (cu L (ah L)) (fun d1=>lr [false,true] (let v1:=ag L.length fun i=>(L.getD i z0c).rvs;(dJ p v1=(cu L (ah L)&&(jr L).isSome))::((lz L)∧L.length≤1000)::((ah v1).length=(ah L).length∧(fun i=>[rI IntKind.i64 ((ah v1).getD i [])])=fun i=>[rI IntKind.i64 (iO L i)])::((↑(ah v1).length:Int)=(↑(ah L).length:Int))::(p=p)::(lq L)::ty d1::y1) ⟨?_,?_,?_,?_,?_,?_,d1,u1⟩)
  (fun d1=>lr [false,false] (let v1:=ag L.length fun i=>(L.getD i z0c).rvs;(false=(cu L (ah L)&&(jr L).isSome))::((ah v1).length=(ah L).length∧(fun i=>[rI IntKind.i64 ((ah v1).getD i [])])=fun i=>[rI IntKind.i64 (iO L i)])::((↑(ah v1).length:Int)=(↑(ah L).length:Int))::(p=p)::(lq L)::ty d1::y1) ⟨?_,?_,?_,?_,?_,d1,u1⟩))
 all_goals first|(first|exact tz|exact pv|exact Ct|(rw[d1];rfl)|(rw[d1,jZ,bn];unfold dJ;rw[hf,jZ];done)|exact xE|exact rm|exact(5:Nat))
theorem Vl (p:Int)(L:LC)(hn:L.length≤1000)(hf:be p L=false):ar Tryz.prog [] 36 [.agg [.int .i64 p,aD L]] (.bool false):=by
 have k1:be p (ag L.length fun i=>(L.getD i z0c).rvs)=false:=nX
 refine pr (cE DC) Tryz.func36 aC ?_
 refine lr [true] [false=false,aj (!be p (ag L.length fun i=>(L.getD i z0c).rvs)) true,(lz L)∧L.length≤1000] ⟨?_,(dN k1),(?_:(lz L)∧L.length≤1000)⟩
 all_goals first|exact xG
theorem Qs (p:Int)(L:LC)(hn:L.length≤1000):ar Tryz.prog [] 36 [.agg [.int .i64 p,aD L]] (.bool (dt p L)):=by
 unfold dt
 cases h:be p L with
 |false=>exact Vl p L hn h
 |true=>
  have:=oX h
  subst this
  exact Sv 2 L (gn h) (ma h).2.1 h
def GJ:List bV:=[
 ⟨96,[],fun A=>match A with
  |[.agg [.int .i64 p,.sl n 5 row]]=>some (.bool (be p (ag n row)),[(∀i,i<n→row i=(Con.ofR (row i)).rvs)∧n≤1000])
  |_=>none⟩,
 ⟨60,[],fun A=>match A with
  |[.agg [.int .i64 p,.sl n 5 row]]=>some (.bool (cu (ag n row) (ah (ag n row))),[(∀i,i<n→row i=(Con.ofR (row i)).rvs)∧aL (ag n row)∧0<n])
  |_=>none⟩,
 ⟨65,[],fun A=>match A with
  |[.agg [.int .i64 p,.sl n 5 row]]=>some (.tup [.agg [.int .i64 (bP (dJ p (ag n row))),aD (bL (dJ p (ag n row)) (lO (ag n row)))],.bool (dJ p (ag n row))],[(∀i,i<n→row i=(Con.ofR (row i)).rvs)∧n≤1000])
  |_=>none⟩]
theorem O7:∀e∈GJ,ch Tryz.prog e:=by
 intro e he
 simp only[GJ,bx,cC,cH]at he
 rcases he with rfl|rfl|rfl
 all_goals
  intro A R ms h hm
  simp only at h
  split at h
  all_goals first|exact fF|cases h
 ·obtain⟨h1,h2⟩:=ay hm
  exact ar.imp (ue _ _ fR) (.cons (.agg (.cons .same (.cons (.con h1) .nil))) .nil)
 ·obtain⟨h1,h2,h3⟩:=ay hm
  exact ar.imp (C8 _ _ h2 mN) (.cons (.agg (.cons .same (.cons (.con h1) .nil))) .nil)
 ·obtain⟨h1,h2⟩:=ay hm
  exact ar.imp (DT _ _ fR) (.cons (.agg (.cons .same (.cons (.con h1) .nil))) .nil)
theorem Qt (p:Int)(L:LC)(hn:L.length≤1000):ar Tryz.prog [] 58 [.agg [.int .i64 p,aD L]] (.bool (dt p L)):=by
 have k0:ag L.length (fun i=>(L.getD i z0c).rvs)=L:=bn L
 refine pr (cE O7) Tryz.func58 aC ?_
 refine(let y1:List Prop:=[(lz L)∧L.length≤1000];have u1:ao y1:=(?_:(lz L)∧L.length≤1000);oe (be p (ag L.length fun i=>(L.getD i z0c).rvs)) (fun d1=>let y2:List Prop:=((lz L)∧aL (ag L.length fun i=>(L.getD i z0c).rvs)∧(0:Nat)<L.length)::ty (dN d1)::y1;have u2:ao y2:=⟨?_,(dN d1),u1⟩;oe (cu (ag L.length fun i=>(L.getD i z0c).rvs) (ah (ag L.length fun i=>(L.getD i z0c).rvs))) (fun d2=>lr [false,false] ((dJ p (ag L.length fun i=>(L.getD i z0c).rvs)=dt p L)::((lz L)∧L.length≤1000)::ty (dN d2)::y2) ⟨?_,?_,(dN d2),u2⟩)
  (fun d2=>lr [false,true] ((false=dt p L)::ty (dN d2)::y2) ⟨?_,(dN d2),u2⟩))
  (fun d1=>lr [true] ((false=dt p L)::ty (dN d1)::y1) ⟨?_,(dN d1),u1⟩))
 all_goals((try clear u2);(try clear y2);(try clear u1);(try clear y1))
 all_goals first|(first|rfl|exact⟨rfl,rfl⟩|exact kt|(rw[k0]at*;have:=oX d1;subst this;exact⟨fun _ _=>rfl,gn d1,(ma d1).2.1⟩)|(simp only[k0]at*;unfold dt;simp_all[dJ];done)|exact(5:Nat))
def eJ (D:Int)(C:LC)(o:Option LL):Option LL:=bif dt 2 C&&gy D 2 C then some (ae o++[⟨2,C⟩])else o
def tB (c:Con):Con:=⟨c.exp,c.dim,-1,c.odd,c.oddity⟩
def aB (D:Int)(F:LC)(h:List Bool):Nat→Nat→LC→Option LL→LC×Option LL
 |0,_,C,o=>(C,eJ D C o)
 |r+1,i,C,o=>bif h.getD i false then aB D F h r (i+1) ((aB D F h r (i+1) (C.set i (F.getD i z0c)) o).1.set i (tB (F.getD i z0c))) (aB D F h r (i+1) (C.set i (F.getD i z0c)) o).2 else aB D F h r (i+1) (C.set i (F.getD i z0c)) o
theorem qf (D:Int)(F:LC)(h:List Bool):∀(r i:Nat)(C:LC)(o:Option LL),(aB D F h r i C o).1.length=C.length
 |0,i,C,o=>rfl
 |r+1,i,C,o=>by
  unfold aB
  cases h.getD i false with
  |true=>rw[aM,qf,fm,qf,fm]
  |false=>rw[bg,qf,fm]
theorem RL (D:Int)(C:LC)(X:LL):eJ D C (some X)=some (ae (eJ D C (some X))):=by
 unfold eJ
 cases dt 2 C&&gy D 2 C<;>rfl
theorem nd (D:Int)(F:LC)(h:List Bool):∀(r i:Nat)(C:LC)(X:LL),(aB D F h r i C (some X)).2=some (ae (aB D F h r i C (some X)).2)
 |0,i,C,X=>RL D C X
 |r+1,i,C,X=>by
  unfold aB
  cases h.getD i false with
  |true=>
   rw[aM,nd D F h r (i+1) (C.set i (F.getD i z0c)) X]
   exact nd D F h r (i+1) _ _
  |false=>
   rw[bg]
   exact nd D F h r (i+1) _ _
theorem WD (D:Int)(C:LC)(o:Option LL):(ae (eJ D C o)).length≤(ae o).length+1:=by
 unfold eJ
 cases dt 2 C&&gy D 2 C<;>simp[ae]
theorem Ad (D:Int)(F:LC)(h:List Bool):∀(r i:Nat)(C:LC)(o:Option LL),(ae (aB D F h r i C o).2).length≤(ae o).length+2^r
 |0,i,C,o=>WD D C o
 |r+1,i,C,o=>by
  unfold aB
  have h1:=Ad D F h r (i+1) (C.set i (F.getD i z0c)) o
  have h2:=iU 2 r
  cases h.getD i false with
  |true=>
   rw[aM]
   have h3:=Ad D F h r (i+1) ((aB D F h r (i+1) (C.set i (F.getD i z0c)) o).1.set i (tB (F.getD i z0c))) (aB D F h r (i+1) (C.set i (F.getD i z0c)) o).2
   omega
  |false=>
   rw[bg]
   omega
def dS (l:List AV)(t:Nat):ai:=⟨.plain l,t,0,false,true⟩
def clH (D:Int)(F:LC)(h:List Bool)(o:Option LL)(b:Nat):List (Nat×ai):=[(1005,dS [lM b o] 30),(1006,dS [vi D] 2),(1007,dS [.lo 1008 h.length] 68),(1008,⟨.vals .flag h,4,1,true,true⟩),(1009,dS [vi 2,(aD F).av] 45)]++lN b o
def xJ (D:Int)(F:LC)(h:List Bool)(C:LC)(o:Option LL)(b:Nat):List (Nat×ai):=[(1000,dS [.lo 1001 C.length] 43),(1001,iy C),(1002,dS [.fn 35 [.ptr 1005 0,.ptr 1006 0]] 75),(1003,dS [.fn 32 [.ptr 1007 0,.ptr 1009 0]] 71),(1004,dS [.fn 80 [.ptr 1000 0,.ptr 1002 0,.ptr 1003 0,.ptr 1004 0]] 41)]++clH D F h o b
def lU (D:Int)(F:LC)(h:List Bool)(r i:Nat)(C:LC)(o:Option LL):cg:=⟨80,[vi i,.ptr 1000 0,.ptr 1002 0,.ptr 1003 0,.ptr 1004 0],xJ D F h C o 1010,1100,(match o with
 |none=>some (aB D F h r i C none).2.isNone
 |some _=>none),fun t=>match o,t with
 |none,true=>(.tup [],xJ D F h (aB D F h r i C none).1 none 1150,1900)
 |none,false=>(.tup [],xJ D F h (aB D F h r i C none).1 (some (ae (aB D F h r i C none).2)) 1150,1900)
 |some X,_=>(.tup [],xJ D F h (aB D F h r i C (some X)).1 (some (ae (aB D F h r i C (some X)).2)) 1150,1900)⟩
def NC (m:Tr ai)(u:AV):Option (Option LL):=match u with
 |.nils=>some none
 |.lo b _=>match m.get b with
  |some k=>match k.view with
   |.vals .loc X=>some (some X)
   |_=>none
  |none=>none
 |_=>none
def xK (m:Tr ai)(b:Nat):Option LC:=match m.get b with
 |some k=>match k.view with
  |.con C=>some C
  |_=>none
 |none=>none
def kS (m:Tr ai)(b:Nat):Option AV:=match m.get b with
 |some k=>match k.view with
  |.plain [v]=>some v
  |_=>none
 |none=>none
def Ki (m:Tr ai)(b:Nat):Option LC:=match kS m b with
 |some (.lo b' _)=>xK m b'
 |_=>none
def nH (m:Tr ai)(b:Nat):Option (Option LL):=match kS m b with
 |some u=>NC m u
 |none=>none
def ru (C:LC)(D p:Int)(o:Option LL):Prop:=0<C.length∧C.length≤1000∧(ae o).length≤100000∧0<D∧D≤2147483647∧2≤p∧p≤2147483647∧(p=2∨p.toNat%2≠0)
theorem Zh {C:LC}{D p:Int}{o:Option LL}(h:ru C D p o):aJ Tryz.prog EV.ng (wZ C D p o):=by
 obtain⟨h1,h2,h3,h4,h5,h6,h7,h8⟩:=h
 cases o with
 |none=>exact Vt C D p h1 h2 h4 h5 h6 h7 h8
 |some X=>exact Vu C D p X h1 h2 h3 h4 h5 h6 h7 h8
def Kj (D p:Int):Nat→List AV→Hs→Option (cg×List Prop):=fun f args H=>bif Nat.beq f 37 then(match args with
 |[u,_,.agg [_,.lo b _]]=>match xK H.m b with
  |none=>none
  |some C=>match NC H.m u with
   |none=>none
   |some o=>some (wZ C D p o,[ru C D p o])
 |_=>none)else none
theorem F8 (D p:Int):∀f args H A ms,Kj D p f args H=some (A,ms)→(∀q∈ms,q)→aJ Tryz.prog EV.ng A:=by
 intro f args H A ms h hm
 unfold Kj at h
 replace h:=(az h).2
 split at h
 ·split at h
  ·cases h
  ·split at h
   ·cases h
   ·cases h
    exact Zh (ay hm)
 ·cases h
def dj (D:Int)(F:LC)(h:List Bool)(r i:Nat)(C:LC)(o:Option LL):Prop:=i+r=C.length∧F.length=C.length∧h.length=C.length∧0<C.length∧C.length≤10∧(ae o).length+2^r≤100000∧0<D∧D≤2147483647
def HA:List bV:=[
 ⟨36,[],fun A=>match A with
  |[.agg [.int .i64 p,.sl n 5 row]]=>some (.bool (dt p (ag n row)),[(∀i,i<n→row i=(Con.ofR (row i)).rvs)∧n≤1000])
  |_=>none⟩]
theorem D9:∀e∈HA,ch Tryz.prog e:=by
 intro e he
 simp only[HA,bx,cC,cH]at he
 subst he
 intro A R ms h hm
 simp only at h
 split at h
 ·cases h
  obtain⟨h1,h2⟩:=ay hm
  exact ar.imp (Qs _ _ fR) (.cons (.agg (.cons .same (.cons (.con h1) .nil))) .nil)
 ·cases h
theorem qP {D:Int}{C:LC}{o:Option LL}(h1:dt 2 C=true)(h2:gy D 2 C=true):eJ D C o=some (ae o++[⟨2,C⟩]):=by unfold eJ;rw[h1,h2];rfl
theorem qQ {D:Int}{C:LC}{o:Option LL}(h1:dt 2 C=false):eJ D C o=o:=by unfold eJ;rw[h1];rfl
theorem qR {D:Int}{C:LC}{o:Option LL}(h2:gy D 2 C=false):eJ D C o=o:=by unfold eJ;rw[h2,l3];rfl
theorem Zi (D:Int)(F:LC)(h:List Bool)(j:Nat)(C:LC)(hc:dj D F h 0 j C none):aJ Tryz.prog EV.ng (lU D F h 0 j C none):=by
 obtain⟨hc1,hc2,hc3,hc4,hc5,hc6,hc7,hc8⟩:=hc
 have hz:((j:Int)==(C.length:Int))=true:=by rw[show j=C.length by omega];exact e9 _
 refine cQ (cF (cV (F8 D 2) (fq D9))) Tryz.func80 aC ?_
 intro d hd
 cases d
 rotate_right
 have hd:((aB D F h 0 j C none).2.isNone)=true:=hd
 refine(let q1:List Prop→List Prop:=fun l0=>(let v1:=aB D F h (0:Nat) j C none;(C.length=v1.fst.length)::(C=v1.fst)::(D=D)::rq h.length::(h=h)::rq (2:Int)::(lq F)::l0);let y1:List Prop:=[rq C.length,(lz C)∧C.length≤1000,aj ((↑j:Int)==↑C.length) true];have u1:ao y1:=⟨?_,?_,hz⟩;oe (dt (2:Int) (ag C.length fun i=>(C.getD i z0c).rvs)) (fun d1=>oe (gy D (2:Int) C) (fun d2=>aT.no ?_)
  (fun d2=>lr (tp 112) (q1 ((ru C D (2:Int) none)::(D=D)::rq (2:Int)::rq C.length::(C=C)::ty d2::ty d1::y1)) ⟨?_,?_,?_,?_,?_,?_,?_,?_,?_,?_,?_,?_,d2,d1,u1⟩))
  (fun d1=>lr [true,false] (q1 (ty d1::y1)) ⟨?_,?_,?_,?_,?_,?_,?_,d1,u1⟩))
 rotate_right
 have hd:((aB D F h 0 j C none).2.isNone)=false:=hd
 refine oe (dt (2:Int) (ag C.length fun i=>(C.getD i z0c).rvs)) (fun d1=>oe (gy D (2:Int) C) (fun d2=>lr (tp 111) (let v1:=aB D F h (0:Nat) j C none;[C.length=v1.fst.length,C=v1.fst,(ae none++[Loc.mk (2:Int) C]).length=(ae v1.snd).length,D=D,rq h.length,h=h,rq (2:Int),lq F,[Loc.mk (2:Int) C]=ae v1.snd,ru C D (2:Int) none,D=D,rq (2:Int),rq C.length,C=C,ty d2,ty d1,rq C.length,(lz C)∧C.length≤1000,aj ((↑j:Int)==↑C.length) true]) ⟨?_,?_,?_,?_,?_,?_,?_,?_,?_,?_,?_,?_,?_,?_,d2,d1,?_,?_,hz⟩)
  (fun d2=>aT.no ?_))
  (fun d1=>aT.no ?_)
 all_goals first|(refine aT.mk ?_;(first|(have e1:=d1;rw[bn]at e1;have hd:(eJ D C none).isNone=_:=hd;first|(rw[qP e1 d2]at hd;cases hd;done)|(rw[qQ e1]at hd;cases hd;done)|(rw[qR d2]at hd;cases hd;done))))|(first|exact tv|exact⟨hc4,om,om,hc7,hc8,de,de,.inl rfl⟩|exact⟨fun _ _=>rfl,om⟩|(have e1:=d1;rw[bn]at e1;first|(show _=(ae (eJ D C none)).length;rw[qP e1 d2]<;>rfl)|(show _=ae (eJ D C none);rw[qP e1 d2]<;>rfl)|(show _=(ae (eJ D C none)).length;rw[qQ e1]<;>rfl)|(show _=ae (eJ D C none);rw[qQ e1]<;>rfl)|(show _=(ae (eJ D C none)).length;rw[qR d2]<;>rfl)|(show _=ae (eJ D C none);rw[qR d2]<;>rfl)))
theorem Zj (D:Int)(F:LC)(h:List Bool)(j:Nat)(C:LC)(X:LL)(hc:dj D F h 0 j C (some X)):aJ Tryz.prog EV.ng (lU D F h 0 j C (some X)):=by
 obtain⟨hc1,hc2,hc3,hc4,hc5,hc6,hc7,hc8⟩:=hc
 have hz:((j:Int)==(C.length:Int))=true:=by rw[show j=C.length by omega];exact e9 _
 refine cQ (cF (cV (F8 D 2) (fq D9))) Tryz.func80 aC ?_
 intro d hd
 cases d
 ·exact Bool.noConfusion (show false=true from hd)
 ·refine(let q1:List Prop→List Prop:=fun l0=>(let v1:=aB D F h (0:Nat) j C (some X);(C.length=v1.fst.length)::(C=v1.fst)::(X.length=(ae v1.snd).length)::(D=D)::rq h.length::(h=h)::rq (2:Int)::(lq F)::(X=ae v1.snd)::l0);let y1:List Prop:=[rq C.length,(lz C)∧C.length≤1000,aj ((↑j:Int)==↑C.length) true];have u1:ao y1:=⟨?_,?_,hz⟩;oe (dt (2:Int) (ag C.length fun i=>(C.getD i z0c).rvs)) (fun d1=>oe (gy D (2:Int) C) (fun d2=>lr (tp 111) (let v1:=aB D F h (0:Nat) j C (some X);(C.length=v1.fst.length)::(C=v1.fst)::((ae (some X)++[Loc.mk (2:Int) C]).length=(ae v1.snd).length)::(D=D)::rq h.length::(h=h)::rq (2:Int)::(lq F)::(ae (some X)++[Loc.mk (2:Int) C]=ae v1.snd)::(ru C D (2:Int) (some X))::rq X.length::(D=D)::rq (2:Int)::rq C.length::(C=C)::(X=X)::ty d2::ty d1::y1) ?_)
   (fun d2=>lr (tp 112) (q1 ((ru C D (2:Int) (some X))::rq X.length::(D=D)::rq (2:Int)::rq C.length::(C=C)::(X=X)::ty d2::ty d1::y1)) ?_))
   (fun d1=>lr [true,false] (q1 (ty d1::y1)) ?_))
  all_goals with_reducible(repeat' first|exact dA|refine bk ?_ ?_|refine bm ?_|(delta aj;assumption))
  all_goals first|(refine aT.mk ?_;(first|(have e1:=d1;rw[bn]at e1;have hd:(eJ D C (some X)).isNone=_:=hd;first|(rw[qP e1 d2]at hd;cases hd;done)|(rw[qQ e1]at hd;cases hd;done)|(rw[qR d2]at hd;cases hd;done))))|(first|exact tv|exact⟨hc4,om,om,hc7,hc8,de,de,.inl rfl⟩|exact⟨fun _ _=>rfl,om⟩|(have e1:=d1;rw[bn]at e1;first|(show _=(ae (eJ D C (some X))).length;rw[qP e1 d2]<;>rfl)|(show _=ae (eJ D C (some X));rw[qP e1 d2]<;>rfl)|(show _=(ae (eJ D C (some X))).length;rw[qQ e1]<;>rfl)|(show _=ae (eJ D C (some X));rw[qQ e1]<;>rfl)|(show _=(ae (eJ D C (some X))).length;rw[qR d2]<;>rfl)|(show _=ae (eJ D C (some X));rw[qR d2]<;>rfl)))
def ND (D:Int)(F:LC)(h:List Bool)(r i:Nat)(go:Nat→List AV→Hs→Option (cg×List Prop)):Nat→List AV→Hs→Option (cg×List Prop):=fun f args H=>bif Nat.beq f 80 then(match args with
 |[_,.ptr b0 _,.ptr b1 _,_,_]=>match Ki H.m b0 with
  |none=>none
  |some C=>match kS H.m b1 with
   |some (.fn _ [.ptr bl _,_])=>match nH H.m bl with
    |none=>none
    |some o=>some (lU D F h r (i+1) C o,[dj D F h r (i+1) C o])
   |_=>none
 |_=>none)else go f args H
theorem HB {D:Int}{F:LC}{h:List Bool}{r i:Nat}(ih:∀C o,dj D F h r (i+1) C o→aJ Tryz.prog EV.ng (lU D F h r (i+1) C o)){go:Nat→List AV→Hs→Option (cg×List Prop)}(hgo:∀f args H A ms,go f args H=some (A,ms)→(∀q∈ms,q)→aJ Tryz.prog EV.ng A):∀f args H A ms,ND D F h r i go f args H=some (A,ms)→(∀q∈ms,q)→aJ Tryz.prog EV.ng A:=by
 intro f args H A ms hq hm
 unfold ND at hq
 cases hb:Nat.beq f 80 with
 |false=>rw[hb]at hq;exact hgo f args H A ms hq hm
 |true=>
  rw[hb]at hq
  simp only[aM]at hq
  split at hq
  ·split at hq
   ·cases hq
   ·split at hq
    ·split at hq
     ·cases hq
     ·cases hq
      exact ih _ _ (ay hm)
    ·cases hq
  ·cases hq
def goN:Nat→List AV→Hs→Option (cg×List Prop):=fun _ _ _=>none
theorem jI:∀f args H A ms,goN f args H=some (A,ms)→(∀q∈ms,q)→aJ Tryz.prog EV.ng A:=fun f args H A ms h _=>by cases h
theorem isN {α:Type}{x:Option α}(h:x.isNone=true):x=none:=by cases x with
 |none=>rfl
 |some a=>cases h
theorem mt {x:Option LL}(h:x.isNone=false):x=some (ae x):=by cases x with
 |none=>cases h
 |some a=>rfl
theorem nI {D:Int}{F:LC}{h:List Bool}{r i:Nat}{C:LC}{o:Option LL}(hd:h.getD i aa.flag.zero=true):aB D F h (r+1) i C o=aB D F h r (i+1) ((aB D F h r (i+1) (C.set i (F.getD i z0c)) o).1.set i (tB (F.getD i z0c))) (aB D F h r (i+1) (C.set i (F.getD i z0c)) o).2:=by
 have hd:h.getD i false=true:=hd
 rw[aB,hd];rfl
theorem Bo {D:Int}{F:LC}{h:List Bool}{r i:Nat}{C:LC}{o:Option LL}(hd:h.getD i aa.flag.zero=false):aB D F h (r+1) i C o=aB D F h r (i+1) (C.set i (F.getD i z0c)) o:=by
 have hd:h.getD i false=false:=hd
 rw[aB,hd];rfl
theorem I2 {D:Int}{F:LC}{h:List Bool}{r i:Nat}{C:LC}{o:Option LL}{x:Con}(hc:dj D F h (r+1) i C o):dj D F h r (i+1) (C.set i x) o:=by
 obtain⟨hc1,hc2,hc3,hc4,hc5,hc6,hc7,hc8⟩:=hc
 have:=iU 2 r
 unfold dj
 rw[fm]
 exact⟨om,hc2,hc3,hc4,hc5,om,hc7,hc8⟩
theorem AW {D:Int}{F:LC}{h:List Bool}{r i:Nat}{C:LC}{o:Option LL}{x y:Con}(hc:dj D F h (r+1) i C o):dj D F h r (i+1) ((aB D F h r (i+1) (C.set i x) o).1.set i y) (aB D F h r (i+1) (C.set i x) o).2:=by
 obtain⟨hc1,hc2,hc3,hc4,hc5,hc6,hc7,hc8⟩:=hc
 have:=iU 2 r
 have hl:=Ad D F h r (i+1) (C.set i x) o
 unfold dj
 rw[fm,qf,fm]
 exact⟨om,hc2,hc3,hc4,hc5,om,hc7,hc8⟩
theorem I3 {D:Int}{F:LC}{h:List Bool}{r i:Nat}{C:LC}{o:Option LL}{x y:Con}(hc:dj D F h (r+1) i C o)(hn:(aB D F h r (i+1) (C.set i x) o).2.isNone=true):dj D F h r (i+1) ((aB D F h r (i+1) (C.set i x) o).1.set i y) none:=by
 have:=AW (x:=x) (y:=y) hc
 rw[isN hn]at this
 exact this
theorem I4 {D:Int}{F:LC}{h:List Bool}{r i:Nat}{C:LC}{o:Option LL}{x y:Con}(hc:dj D F h (r+1) i C o)(hn:(aB D F h r (i+1) (C.set i x) o).2.isNone=false):dj D F h r (i+1) ((aB D F h r (i+1) (C.set i x) o).1.set i y) (some (ae (aB D F h r (i+1) (C.set i x) o).2)):=by
 have:=AW (x:=x) (y:=y) hc
 rw[mt hn]at this
 exact this
theorem I5 {D:Int}{F:LC}{h:List Bool}{r i:Nat}{C:LC}{X:LL}{x y:Con}(hc:dj D F h (r+1) i C (some X)):dj D F h r (i+1) ((aB D F h r (i+1) (C.set i x) (some X)).1.set i y) (some (ae (aB D F h r (i+1) (C.set i x) (some X)).2)):=by
 have:=AW (x:=x) (y:=y) hc
 rw[nd]at this
 exact this
theorem Zk (D:Int)(F:LC)(h:List Bool)(r i:Nat)(C:LC)(hc:dj D F h (r+1) i C none)(ih:∀C o,dj D F h r (i+1) C o→aJ Tryz.prog EV.ng (lU D F h r (i+1) C o)):aJ Tryz.prog EV.ng (lU D F h (r+1) i C none):=by
 have hcc:=hc
 obtain⟨hc1,hc2,hc3,hc4,hc5,hc6,hc7,hc8⟩:=hcc
 have hz:((i:Int)==(C.length:Int))=false:=bJ.2 om
 have hlen:=qf D F h r (i+1) (C.set i (F.getD i z0c)) none
 rw[fm]at hlen
 refine cQ (cF (cV (HB ih jI) (dL _ _))) Tryz.func80 aC ?_
 intro d hd
 cases d
 rotate_right
 have hd:((aB D F h (r+1) i C none).2.isNone)=true:=hd
 refine(let y1:List Prop:=[i<h.length,(0:Int)≤↑i∧(↑i:Int)<↑h.length,aj ((↑i:Int)==↑C.length) false];have u1:ao y1:=⟨?_,?_,hz⟩;oe (h.getD i aa.flag.zero) (fun d1=>oe ((aB D F h r (i+1) (C.set i (F.getD i z0c)) none).snd.isNone) (fun d2=>oe ((aB D F h r (i+1) ((aB D F h r (i+1) (C.set i (F.getD i z0c)) none).fst.set i (Con.mk (F.getD i z0c).exp (F.getD i z0c).dim (-1:Int) (F.getD i z0c).odd (F.getD i z0c).oddity)) none).snd.isNone) (fun d3=>lr (tp 2111) (((aB D F h r (i+1) ((aB D F h r (i+1) (C.set i (F.getD i z0c)) none).fst.set i (Con.mk (F.getD i z0c).exp (F.getD i z0c).dim (-1:Int) (F.getD i z0c).odd (F.getD i z0c).oddity)) none).fst.length=(aB D F h (r+1) i C none).fst.length)::((aB D F h r (i+1) ((aB D F h r (i+1) (C.set i (F.getD i z0c)) none).fst.set i (Con.mk (F.getD i z0c).exp (F.getD i z0c).dim (-1:Int) (F.getD i z0c).odd (F.getD i z0c).oddity)) none).fst=(aB D F h (r+1) i C none).fst)::(D=D)::rq h.length::(h=h)::rq (2:Int)::(lq F)::(dj D F h r (i+1) ((aB D F h r (i+1) (C.set i (F.getD i z0c)) none).fst.set i (Con.mk (F.getD i z0c).exp (F.getD i z0c).dim (-1:Int) (F.getD i z0c).odd (F.getD i z0c).oddity)) none)::(w6.wrap ((↑i:Int)+1)=↑(i+1))::((aB D F h r (i+1) (C.set i (F.getD i z0c)) none).fst.length=((aB D F h r (i+1) (C.set i (F.getD i z0c)) none).fst.set i (Con.mk (F.getD i z0c).exp (F.getD i z0c).dim (-1:Int) (F.getD i z0c).odd (F.getD i z0c).oddity)).length)::rq ((aB D F h r (i+1) (C.set i (F.getD i z0c)) none).fst.set i (Con.mk (F.getD i z0c).exp (F.getD i z0c).dim (-1:Int) (F.getD i z0c).odd (F.getD i z0c).oddity))::(D=D)::rq h.length::(h=h)::rq (2:Int)::(lq F)::ty d3::(i<(aB D F h r (i+1) (C.set i (F.getD i z0c)) none).fst.length)::((0:Int)≤↑i∧(↑i:Int)<(↑(aB D F h r (i+1) (C.set i (F.getD i z0c)) none).fst.length:Int))::(dj D F h r (i+1) (C.set i (F.getD i z0c)) none)::(w6.wrap ((↑i:Int)+1)=↑(i+1))::(C.length=(C.set i (F.getD i z0c)).length)::rq (C.set i (F.getD i z0c))::(D=D)::rq h.length::(h=h)::rq (2:Int)::(lq F)::ty d2::(i<C.length)::((0:Int)≤↑i∧(↑i:Int)<↑C.length)::((0:Int)≤↑i∧(↑i:Int)<↑F.length)::ty d1::y1) ?_)
  (fun d3=>aT.no ?_))
  (fun d2=>aT.no ?_))
  (fun d1=>oe ((aB D F h r (i+1) (C.set i (F.getD i z0c)) none).snd.isNone) (fun d2=>lr (tp 221) (((aB D F h r (i+1) (C.set i (F.getD i z0c)) none).fst.length=(aB D F h (r+1) i C none).fst.length)::((aB D F h r (i+1) (C.set i (F.getD i z0c)) none).fst=(aB D F h (r+1) i C none).fst)::(D=D)::rq h.length::(h=h)::rq (2:Int)::(lq F)::(dj D F h r (i+1) (C.set i (F.getD i z0c)) none)::(w6.wrap ((↑i:Int)+1)=↑(i+1))::(C.length=(C.set i (F.getD i z0c)).length)::rq (C.set i (F.getD i z0c))::(D=D)::rq h.length::(h=h)::rq (2:Int)::(lq F)::ty d2::(i<C.length)::((0:Int)≤↑i∧(↑i:Int)<↑C.length)::((0:Int)≤↑i∧(↑i:Int)<↑F.length)::ty d1::y1) ?_)
  (fun d2=>aT.no ?_)))
 all_goals with_reducible(repeat' first|exact dA|refine bk ?_ ?_|refine bm ?_|(delta aj;assumption))
 rotate_right
 have hd:((aB D F h (r+1) i C none).2.isNone)=false:=hd
 refine(let y1:List Prop:=[i<h.length,(0:Int)≤↑i∧(↑i:Int)<↑h.length,aj ((↑i:Int)==↑C.length) false];have u1:ao y1:=⟨?_,?_,hz⟩;oe (h.getD i aa.flag.zero) (fun d1=>let y2:List Prop:=(i<C.length)::((0:Int)≤↑i∧(↑i:Int)<↑C.length)::((0:Int)≤↑i∧(↑i:Int)<↑F.length)::ty d1::y1;have u2:ao y2:=⟨?_,?_,?_,d1,u1⟩;oe ((aB D F h r (i+1) (C.set i (F.getD i z0c)) none).snd.isNone) (fun d2=>oe ((aB D F h r (i+1) ((aB D F h r (i+1) (C.set i (F.getD i z0c)) none).fst.set i (Con.mk (F.getD i z0c).exp (F.getD i z0c).dim (-1:Int) (F.getD i z0c).odd (F.getD i z0c).oddity)) none).snd.isNone) (fun d3=>aT.no ?_)
  (fun d3=>lr (tp 2112) (let v1:=r+1;((aB D F h r (i+1) ((aB D F h r (i+1) (C.set i (F.getD i z0c)) none).fst.set i (Con.mk (F.getD i z0c).exp (F.getD i z0c).dim (-1:Int) (F.getD i z0c).odd (F.getD i z0c).oddity)) none).fst.length=(aB D F h v1 i C none).fst.length)::((aB D F h r (i+1) ((aB D F h r (i+1) (C.set i (F.getD i z0c)) none).fst.set i (Con.mk (F.getD i z0c).exp (F.getD i z0c).dim (-1:Int) (F.getD i z0c).odd (F.getD i z0c).oddity)) none).fst=(aB D F h v1 i C none).fst)::((ae (aB D F h r (i+1) ((aB D F h r (i+1) (C.set i (F.getD i z0c)) none).fst.set i (Con.mk (F.getD i z0c).exp (F.getD i z0c).dim (-1:Int) (F.getD i z0c).odd (F.getD i z0c).oddity)) none).snd).length=(ae (aB D F h v1 i C none).snd).length)::(D=D)::rq h.length::(h=h)::rq (2:Int)::(lq F)::(ae (aB D F h r (i+1) ((aB D F h r (i+1) (C.set i (F.getD i z0c)) none).fst.set i (Con.mk (F.getD i z0c).exp (F.getD i z0c).dim (-1:Int) (F.getD i z0c).odd (F.getD i z0c).oddity)) none).snd=ae (aB D F h v1 i C none).snd)::(dj D F h r (i+1) ((aB D F h r (i+1) (C.set i (F.getD i z0c)) none).fst.set i (Con.mk (F.getD i z0c).exp (F.getD i z0c).dim (-1:Int) (F.getD i z0c).odd (F.getD i z0c).oddity)) none)::(w6.wrap ((↑i:Int)+1)=↑(i+1))::((aB D F h r (i+1) (C.set i (F.getD i z0c)) none).fst.length=((aB D F h r (i+1) (C.set i (F.getD i z0c)) none).fst.set i (Con.mk (F.getD i z0c).exp (F.getD i z0c).dim (-1:Int) (F.getD i z0c).odd (F.getD i z0c).oddity)).length)::rq ((aB D F h r (i+1) (C.set i (F.getD i z0c)) none).fst.set i (Con.mk (F.getD i z0c).exp (F.getD i z0c).dim (-1:Int) (F.getD i z0c).odd (F.getD i z0c).oddity))::(D=D)::rq h.length::(h=h)::rq (2:Int)::(lq F)::ty d3::(i<(aB D F h r (i+1) (C.set i (F.getD i z0c)) none).fst.length)::((0:Int)≤↑i∧(↑i:Int)<(↑(aB D F h r (i+1) (C.set i (F.getD i z0c)) none).fst.length:Int))::(dj D F h r (i+1) (C.set i (F.getD i z0c)) none)::(w6.wrap ((↑i:Int)+1)=↑(i+1))::(C.length=(C.set i (F.getD i z0c)).length)::rq (C.set i (F.getD i z0c))::(D=D)::rq h.length::(h=h)::rq (2:Int)::(lq F)::ty d2::y2) ?_))
  (fun d2=>lr (tp 212) (let v1:=r+1;((aB D F h r (i+1) ((aB D F h r (i+1) (C.set i (F.getD i z0c)) none).fst.set i (Con.mk (F.getD i z0c).exp (F.getD i z0c).dim (-1:Int) (F.getD i z0c).odd (F.getD i z0c).oddity)) (some (ae (aB D F h r (i+1) (C.set i (F.getD i z0c)) none).snd))).fst.length=(aB D F h v1 i C none).fst.length)::((aB D F h r (i+1) ((aB D F h r (i+1) (C.set i (F.getD i z0c)) none).fst.set i (Con.mk (F.getD i z0c).exp (F.getD i z0c).dim (-1:Int) (F.getD i z0c).odd (F.getD i z0c).oddity)) (some (ae (aB D F h r (i+1) (C.set i (F.getD i z0c)) none).snd))).fst=(aB D F h v1 i C none).fst)::((ae (aB D F h r (i+1) ((aB D F h r (i+1) (C.set i (F.getD i z0c)) none).fst.set i (Con.mk (F.getD i z0c).exp (F.getD i z0c).dim (-1:Int) (F.getD i z0c).odd (F.getD i z0c).oddity)) (some (ae (aB D F h r (i+1) (C.set i (F.getD i z0c)) none).snd))).snd).length=(ae (aB D F h v1 i C none).snd).length)::(D=D)::rq h.length::(h=h)::rq (2:Int)::(lq F)::(ae (aB D F h r (i+1) ((aB D F h r (i+1) (C.set i (F.getD i z0c)) none).fst.set i (Con.mk (F.getD i z0c).exp (F.getD i z0c).dim (-1:Int) (F.getD i z0c).odd (F.getD i z0c).oddity)) (some (ae (aB D F h r (i+1) (C.set i (F.getD i z0c)) none).snd))).snd=ae (aB D F h v1 i C none).snd)::(dj D F h r (i+1) ((aB D F h r (i+1) (C.set i (F.getD i z0c)) none).fst.set i (Con.mk (F.getD i z0c).exp (F.getD i z0c).dim (-1:Int) (F.getD i z0c).odd (F.getD i z0c).oddity)) (some (ae (aB D F h r (i+1) (C.set i (F.getD i z0c)) none).snd)))::(w6.wrap ((↑i:Int)+1)=↑(i+1))::((aB D F h r (i+1) (C.set i (F.getD i z0c)) none).fst.length=((aB D F h r (i+1) (C.set i (F.getD i z0c)) none).fst.set i (Con.mk (F.getD i z0c).exp (F.getD i z0c).dim (-1:Int) (F.getD i z0c).odd (F.getD i z0c).oddity)).length)::rq ((aB D F h r (i+1) (C.set i (F.getD i z0c)) none).fst.set i (Con.mk (F.getD i z0c).exp (F.getD i z0c).dim (-1:Int) (F.getD i z0c).odd (F.getD i z0c).oddity))::rq ((ae (aB D F h r (i+1) (C.set i (F.getD i z0c)) none).snd).length)::(D=D)::rq h.length::(h=h)::rq (2:Int)::(lq F)::rq (ae (aB D F h r (i+1) (C.set i (F.getD i z0c)) none).snd)::(i<(aB D F h r (i+1) (C.set i (F.getD i z0c)) none).fst.length)::((0:Int)≤↑i∧(↑i:Int)<(↑(aB D F h r (i+1) (C.set i (F.getD i z0c)) none).fst.length:Int))::(dj D F h r (i+1) (C.set i (F.getD i z0c)) none)::(w6.wrap ((↑i:Int)+1)=↑(i+1))::(C.length=(C.set i (F.getD i z0c)).length)::rq (C.set i (F.getD i z0c))::(D=D)::rq h.length::(h=h)::rq (2:Int)::(lq F)::ty d2::y2) ?_))
  (fun d1=>oe ((aB D F h r (i+1) (C.set i (F.getD i z0c)) none).snd.isNone) (fun d2=>aT.no ?_)
  (fun d2=>lr (tp 222) (let v1:=r+1;((aB D F h r (i+1) (C.set i (F.getD i z0c)) none).fst.length=(aB D F h v1 i C none).fst.length)::((aB D F h r (i+1) (C.set i (F.getD i z0c)) none).fst=(aB D F h v1 i C none).fst)::((ae (aB D F h r (i+1) (C.set i (F.getD i z0c)) none).snd).length=(ae (aB D F h v1 i C none).snd).length)::(D=D)::rq h.length::(h=h)::rq (2:Int)::(lq F)::(ae (aB D F h r (i+1) (C.set i (F.getD i z0c)) none).snd=ae (aB D F h v1 i C none).snd)::(dj D F h r (i+1) (C.set i (F.getD i z0c)) none)::(w6.wrap ((↑i:Int)+1)=↑(i+1))::(C.length=(C.set i (F.getD i z0c)).length)::rq (C.set i (F.getD i z0c))::(D=D)::rq h.length::(h=h)::rq (2:Int)::(lq F)::ty d2::(i<C.length)::((0:Int)≤↑i∧(↑i:Int)<↑C.length)::((0:Int)≤↑i∧(↑i:Int)<↑F.length)::ty d1::y1) ?_)))
 all_goals with_reducible(repeat' first|exact dA|refine bk ?_ ?_|refine bm ?_|(delta aj;assumption))
 all_goals first|exact LG|(first|exact tz|omega|(rw[fm];done)|exact I2 hc|exact I3 hc d2|exact I4 hc d2|exact I5 hc|(exact wo)|(rw[Bo d1]<;>rfl)|(rw[nI d1,isN d2]<;>rfl)|(rw[nI d1,mt d2]<;>rfl)|(rw[nI d1,nd]<;>rfl))
theorem Zl (D:Int)(F:LC)(h:List Bool)(r i:Nat)(C:LC)(X:LL)(hc:dj D F h (r+1) i C (some X))(ih:∀C o,dj D F h r (i+1) C o→aJ Tryz.prog EV.ng (lU D F h r (i+1) C o)):aJ Tryz.prog EV.ng (lU D F h (r+1) i C (some X)):=by
 have hcc:=hc
 obtain⟨hc1,hc2,hc3,hc4,hc5,hc6,hc7,hc8⟩:=hcc
 have hz:((i:Int)==(C.length:Int))=false:=bJ.2 om
 have hlen:=qf D F h r (i+1) (C.set i (F.getD i z0c)) (some X)
 rw[fm]at hlen
 have he:=nd D F h r (i+1) (C.set i (F.getD i z0c)) X
 refine cQ (cF (cV (HB ih jI) (dL _ _))) Tryz.func80 aC ?_
 intro d hd
 cases d
 ·exact Bool.noConfusion (show false=true from hd)
 ·refine(let y1:List Prop:=[i<h.length,(0:Int)≤↑i∧(↑i:Int)<↑h.length,aj ((↑i:Int)==↑C.length) false];have u1:ao y1:=⟨?_,?_,hz⟩;oe (h.getD i aa.flag.zero) (fun d1=>lr [false,true] (let v1:=r+1;((aB D F h r (i+1) ((aB D F h r (i+1) (C.set i (F.getD i z0c)) (some X)).fst.set i (Con.mk (F.getD i z0c).exp (F.getD i z0c).dim (-1:Int) (F.getD i z0c).odd (F.getD i z0c).oddity)) (some (ae (aB D F h r (i+1) (C.set i (F.getD i z0c)) (some X)).snd))).fst.length=(aB D F h v1 i C (some X)).fst.length)::((aB D F h r (i+1) ((aB D F h r (i+1) (C.set i (F.getD i z0c)) (some X)).fst.set i (Con.mk (F.getD i z0c).exp (F.getD i z0c).dim (-1:Int) (F.getD i z0c).odd (F.getD i z0c).oddity)) (some (ae (aB D F h r (i+1) (C.set i (F.getD i z0c)) (some X)).snd))).fst=(aB D F h v1 i C (some X)).fst)::((ae (aB D F h r (i+1) ((aB D F h r (i+1) (C.set i (F.getD i z0c)) (some X)).fst.set i (Con.mk (F.getD i z0c).exp (F.getD i z0c).dim (-1:Int) (F.getD i z0c).odd (F.getD i z0c).oddity)) (some (ae (aB D F h r (i+1) (C.set i (F.getD i z0c)) (some X)).snd))).snd).length=(ae (aB D F h v1 i C (some X)).snd).length)::(D=D)::rq h.length::(h=h)::rq (2:Int)::(lq F)::(ae (aB D F h r (i+1) ((aB D F h r (i+1) (C.set i (F.getD i z0c)) (some X)).fst.set i (Con.mk (F.getD i z0c).exp (F.getD i z0c).dim (-1:Int) (F.getD i z0c).odd (F.getD i z0c).oddity)) (some (ae (aB D F h r (i+1) (C.set i (F.getD i z0c)) (some X)).snd))).snd=ae (aB D F h v1 i C (some X)).snd)::(dj D F h r (i+1) ((aB D F h r (i+1) (C.set i (F.getD i z0c)) (some X)).fst.set i (Con.mk (F.getD i z0c).exp (F.getD i z0c).dim (-1:Int) (F.getD i z0c).odd (F.getD i z0c).oddity)) (some (ae (aB D F h r (i+1) (C.set i (F.getD i z0c)) (some X)).snd)))::(w6.wrap ((↑i:Int)+1)=↑(i+1))::((aB D F h r (i+1) (C.set i (F.getD i z0c)) (some X)).fst.length=((aB D F h r (i+1) (C.set i (F.getD i z0c)) (some X)).fst.set i (Con.mk (F.getD i z0c).exp (F.getD i z0c).dim (-1:Int) (F.getD i z0c).odd (F.getD i z0c).oddity)).length)::rq ((aB D F h r (i+1) (C.set i (F.getD i z0c)) (some X)).fst.set i (Con.mk (F.getD i z0c).exp (F.getD i z0c).dim (-1:Int) (F.getD i z0c).odd (F.getD i z0c).oddity))::rq ((ae (aB D F h r (i+1) (C.set i (F.getD i z0c)) (some X)).snd).length)::(D=D)::rq h.length::(h=h)::rq (2:Int)::(lq F)::rq (ae (aB D F h r (i+1) (C.set i (F.getD i z0c)) (some X)).snd)::(i<(aB D F h r (i+1) (C.set i (F.getD i z0c)) (some X)).fst.length)::((0:Int)≤↑i∧(↑i:Int)<(↑(aB D F h r (i+1) (C.set i (F.getD i z0c)) (some X)).fst.length:Int))::(dj D F h r (i+1) (C.set i (F.getD i z0c)) (some X))::(w6.wrap ((↑i:Int)+1)=↑(i+1))::(C.length=(C.set i (F.getD i z0c)).length)::rq (C.set i (F.getD i z0c))::rq X.length::(D=D)::rq h.length::(h=h)::rq (2:Int)::(lq F)::(X=X)::(i<C.length)::((0:Int)≤↑i∧(↑i:Int)<↑C.length)::((0:Int)≤↑i∧(↑i:Int)<↑F.length)::ty d1::y1) ?_)
   (fun d1=>lr [false,false] (let v1:=r+1;((aB D F h r (i+1) (C.set i (F.getD i z0c)) (some X)).fst.length=(aB D F h v1 i C (some X)).fst.length)::((aB D F h r (i+1) (C.set i (F.getD i z0c)) (some X)).fst=(aB D F h v1 i C (some X)).fst)::((ae (aB D F h r (i+1) (C.set i (F.getD i z0c)) (some X)).snd).length=(ae (aB D F h v1 i C (some X)).snd).length)::(D=D)::rq h.length::(h=h)::rq (2:Int)::(lq F)::(ae (aB D F h r (i+1) (C.set i (F.getD i z0c)) (some X)).snd=ae (aB D F h v1 i C (some X)).snd)::(dj D F h r (i+1) (C.set i (F.getD i z0c)) (some X))::(w6.wrap ((↑i:Int)+1)=↑(i+1))::(C.length=(C.set i (F.getD i z0c)).length)::rq (C.set i (F.getD i z0c))::rq X.length::(D=D)::rq h.length::(h=h)::rq (2:Int)::(lq F)::(X=X)::(i<C.length)::((0:Int)≤↑i∧(↑i:Int)<↑C.length)::((0:Int)≤↑i∧(↑i:Int)<↑F.length)::ty d1::y1) ?_))
  all_goals with_reducible(repeat' first|exact dA|refine bk ?_ ?_|refine bm ?_|(delta aj;assumption))
  all_goals first|exact LG|(first|exact tz|omega|(rw[fm];done)|exact I2 hc|exact I3 hc d2|exact I4 hc d2|exact I5 hc|(exact wo)|(rw[Bo d1]<;>rfl)|(rw[nI d1,isN d2]<;>rfl)|(rw[nI d1,mt d2]<;>rfl)|(rw[nI d1,he]<;>rfl))
theorem AX (D:Int)(F:LC)(h:List Bool):∀(r i:Nat)(C:LC)(o:Option LL),dj D F h r i C o→aJ Tryz.prog EV.ng (lU D F h r i C o)
 |0,i,C,none,hc=>Zi D F h i C hc
 |0,i,C,some X,hc=>Zj D F h i C X hc
 |r+1,i,C,none,hc=>Zk D F h r i C hc (fun C o k=>AX D F h r (i+1) C o k)
 |r+1,i,C,some X,hc=>Zl D F h r i C X hc (fun C o k=>AX D F h r (i+1) C o k)
end Go.Proofs.YtmeljalphfcieaaGreatDoor.S
namespace Go.QfSy
open Go.RowKit
def aav (v:bN):Option aa:=match v with
 |.con _=>some .con
 |.ints k _=>some (.num k)
 |.vals τ _=>some τ
 |_=>none
def wQ (h:Tr ai)(v:AV):Option (AV×Tr ai×List Prop):=match v with
 |.lo b n=>match h.get b with
  |none=>none
  |some k=>match aav k.view with
   |none=>none
   |some τ=>match lu h τ (.lo b n)with
    |none=>none
    |some (L,h',ms)=>some ((aI τ L).av,h',ms)
 |v=>some (v,h,[])
def wR (h:Tr ai):List AV→Option (List AV×Tr ai×List Prop)
 |[]=>some ([],h,[])
 |v::l=>match wQ h v with
  |none=>none
  |some (u,h1,m1)=>match wR h1 l with
   |none=>none
   |some (us,h2,m2)=>some (u::us,h2,m1++m2)
def BB (h:Tr ai)(v:AV):Option (AV×Tr ai×List Prop):=match v with
 |.agg vs=>match wR h vs with
  |none=>none
  |some (us,h',ms)=>some (.agg us,h',ms)
 |v=>wQ h v
def wS (h:Tr ai):List AV→Option (List AV×Tr ai×List Prop)
 |[]=>some ([],h,[])
 |v::l=>match BB h v with
  |none=>none
  |some (u,h1,m1)=>match wS h1 l with
   |none=>none
   |some (us,h2,m2)=>some (u::us,h2,m1++m2)
theorem Gt {γ:Gm}{h h':Tr ai}{nx:Nat}{w:World}(hr:aQ γ h.get nx w){v u:AV}{ms:List Prop}(hq:wQ h v=some (u,h',ms))(hm:∀p∈ms,p):
 ∃γ',eB γ h nx w γ' h'∧∀γ2:Gm,γ'.le γ2→∀V,ap γ2 v V→ap γ2 u V:=by
 unfold wQ at hq
 split at hq
 ·split at hq
  ·cases hq
  ·split at hq
   ·cases hq
   ·split at hq
    ·cases hq
    ·rename_i L h1 m1 hl
     cases hq
     obtain⟨_,γ',h2,h3⟩:=oE hr hl hm
     exact⟨γ',h2,fun γ2 hle V hV=>.ro (h3 γ2 hle V hV)⟩
 ·cases hq
  exact⟨γ,eB.refl hr,fun γ2 _ V hV=>hV⟩
theorem Gu {nx:Nat}{w:World}:∀{vs us:List AV}{γ:Gm}{h h':Tr ai}{ms:List Prop},aQ γ h.get nx w→wR h vs=some (us,h',ms)→(∀p∈ms,p)→
 ∃γ',eB γ h nx w γ' h'∧∀γ2:Gm,γ'.le γ2→∀Vs,au γ2 vs Vs→au γ2 us Vs
 |[],us,γ,h,h',ms,hr,hq,hm=>by
  cases hq
  exact⟨γ,eB.refl hr,fun γ2 _ Vs hV=>hV⟩
 |v::l,us,γ,h,h',ms,hr,hq,hm=>by
  simp only[wR]at hq
  split at hq
  ·cases hq
  ·rename_i u h1 m1 h0
   split at hq
   ·cases hq
   ·rename_i us' h2 m2 hl
    cases hq
    obtain⟨γ1,a1,a2⟩:=Gt hr h0 (fun p hp=>hm p (kv _ hp))
    obtain⟨γ2,b1,b2⟩:=Gu a1.stp.rel hl (fun p hp=>hm p (ji _ hp))
    exact⟨γ2,a1.trans b1,fun γ3 hle Vs hV=>by
     cases hV with|cons hv ht=>
     exact .cons (a2 γ3 (Gm.le_trans b1.stp.le hle) _ hv) (b2 γ3 hle _ ht)⟩
theorem U3 {γ:Gm}{h h':Tr ai}{nx:Nat}{w:World}(hr:aQ γ h.get nx w){v u:AV}{ms:List Prop}(hq:BB h v=some (u,h',ms))(hm:∀p∈ms,p):
 ∃γ',eB γ h nx w γ' h'∧∀γ2:Gm,γ'.le γ2→∀V,ap γ2 v V→ap γ2 u V:=by
 unfold BB at hq
 split at hq
 ·split at hq
  ·cases hq
  ·rename_i us h1 m1 hl
   cases hq
   obtain⟨γ',a1,a2⟩:=Gu hr hl hm
   exact⟨γ',a1,fun γ2 hle V hV=>by cases hV with|agg hV=>exact .agg (a2 γ2 hle _ hV)⟩
 ·exact Gt hr hq hm
theorem Gv {nx:Nat}{w:World}:∀{vs us:List AV}{γ:Gm}{h h':Tr ai}{ms:List Prop},aQ γ h.get nx w→wS h vs=some (us,h',ms)→(∀p∈ms,p)→
 ∃γ',eB γ h nx w γ' h'∧∀γ2:Gm,γ'.le γ2→∀Vs,au γ2 vs Vs→au γ2 us Vs
 |[],us,γ,h,h',ms,hr,hq,hm=>by
  cases hq
  exact⟨γ,eB.refl hr,fun γ2 _ Vs hV=>hV⟩
 |v::l,us,γ,h,h',ms,hr,hq,hm=>by
  simp only[wS]at hq
  split at hq
  ·cases hq
  ·rename_i u h1 m1 h0
   split at hq
   ·cases hq
   ·rename_i us' h2 m2 hl
    cases hq
    obtain⟨γ1,a1,a2⟩:=U3 hr h0 (fun p hp=>hm p (kv _ hp))
    obtain⟨γ2,b1,b2⟩:=Gv a1.stp.rel hl (fun p hp=>hm p (ji _ hp))
    exact⟨γ2,a1.trans b1,fun γ3 hle Vs hV=>by
     cases hV with|cons hv ht=>
     exact .cons (a2 γ3 (Gm.le_trans b1.stp.le hle) _ hv) (b2 γ3 hle _ ht)⟩
def KW (g:Nat)(call:bF):bF:=fun f args H=>bif Nat.beq f g then(match wS H.m args with
 |none=>none
 |some (args',m',ms)=>call f args' ⟨m',H.nx,H.tp,ms++H.ms⟩)else call f args H
theorem sA {P:Program}{ng g:Nat}{call:bF}(hc:ce P ng call):ce P ng (KW g call):=by
 intro f args H v H' hq
 unfold KW at hq
 cases hb:Nat.beq f g with
 |false=>rw[hb]at hq;exact hc f args H v H' hq
 |true=>
  rw[hb]at hq
  simp only[aM]at hq
  split at hq
  ·cases hq
  ·rename_i args' m' ms hf
   obtain⟨h1,h2⟩:=hc f args' _ v H' hq
   refine⟨fun p hp=>h1 p (ji _ hp),fun hm γ w Args hr hV hg=>?_⟩
   obtain⟨γ',a1,a2⟩:=Gv hr hf (fun p hp=>hm p (h1 p (kv _ hp)))
   have hg':ki ng γ':=fun b hb=>by
    have:=hg b hb
    show γ'.nm b=_
    rw[a1.nm]
    exact this
   obtain⟨q1,q2⟩:=h2 hm γ' w Args a1.stp.rel (a2 γ' (Gm.le_refl _) Args (hV.mono a1.stp.le)) hg'
   refine⟨q1,q2.mono ?_⟩
   rintro e w' ⟨V,γ2,rfl,k1,k2⟩
   refine⟨V,γ2,rfl,k1,⟨a1.stp.trans k2.stp,k2.nx,fun b hb=>?_⟩⟩
   have h3:=k2.keep b hb
   rw[h3]
   show γ'.nm b=γ.nm b
   rw[a1.nm]
end Go.QfSy
namespace Go.Proofs.YtmeljalphfcieaaGreatDoor.S
open Go.QfSy Go.RowKit
def w3 (L:LC)(j:AV):List (Nat×AV):=[(1,.ptr 1000 0),(17,(cS .i64 (ah L)).av),(18,vi (ah L).length),(19,j)]
def K9 (L:LC)(j:Nat)(k:AV):List (Nat×AV):=w3 L (vi j)++[(24,dI (ab (ah L) j)),(25,vi ((ab (ah L) j).length-1:Nat)),(26,k)]
def JK (p:Int)(L:LC)(j:Nat):aA:=⟨⟨K9 L j (.int .i64 0),fP p L,1020⟩,some (ey L ((ab (ah L) j).drop 1)),fun d=>match d with
 |true=>(.exit 2,⟨w3 L (vi j),fP p L,1020⟩)
 |false=>(.ret,⟨[(2,.bool false)],fP p L,1020⟩)⟩
theorem Xz (p:Int)(L:LC)(j:Nat)(hr:bR L.length (ab (ah L) j))(hn:(ab (ah L) j).length≤1000):An 1 Tryz.f69 [0,1,1,0,0,1,1,0,0,1,0,1,1,1] (JK p L j):=by
 refine ea c0 aC (fun(k:Nat)=>(⟨K9 L j (vi k),fP p L,1020⟩:St)) (fun(k:Nat)=>((ab (ah L) j).length-k:Nat)) (fun(d:Bool)=>fun(k:Nat)=>(k≤(ab (ah L) j).length-1∧ey L ((ab (ah L) j).drop (k+1))=ey L ((ab (ah L) j).drop 1)∧ey L ((ab (ah L) j).drop 1)=d:Prop)) ?_ ?_
 ·intro d hd
  exact st (0) (let t1:=ab (ah L) j;[sr (ah L) fun i=>[rI IntKind.i64 ((ah L).getD i [])],rq (↑(ah L).length:Int),rq (↑j:Int),t1.length-1=t1.length-1∧(fun i=>[RV.int IntKind.i64 (t1.getD (i+1) (0:Int))])=fun i=>[RV.int IntKind.i64 (t1.getD (i+1) (0:Int))],rq (↑(t1.length-1):Int),(0:Int)=↑(0:Nat),p=p,lq L]) B4 (by exact⟨aY _,rfl,hd⟩)
 ·rintro d hd k hI
  obtain⟨ht,hf,hs⟩:=hI
  have ht:k≤(ab (ah L) j).length-1:=ht
  have hf:ey L ((ab (ah L) j).drop (k+1))=ey L ((ab (ah L) j).drop 1):=hf
  have ek:=wk k
  refine(let q1:List Prop→List Prop:=fun l0=>(sr (ah L) fun i=>[rI IntKind.i64 ((ah L).getD i [])])::rq (↑(ah L).length:Int)::rq (↑j:Int)::l0;oe (decide ((↑k:Int)<(↑((ab (ah L) j).length-1):Int))) (fun d1=>let y1:List Prop:=(let v1:=ab (ah L) j;[(0:Int)≤v1.getD (k+1) (0:Int)∧v1.getD (k+1) (0:Int)<↑L.length,(0:Int)≤↑k∧(↑k:Int)<↑(v1.length-1),ty d1]);have u1:ao y1:=⟨?_,?_,d1⟩;oe ((L.getD ((ab (ah L) j).getD (k+1) (0:Int)).toNat Con.zero).sign==-1) (fun d2=>aG d false [true,true] ((p=p)::(lq L)::ty d2::y1) ⟨?_,?_,d2,u1⟩ ?_)
   (fun d2=>aq [true,false] (k+1) (q1 (let v1:=ab (ah L) j;(v1.length-1=v1.length-1∧(fun i=>[RV.int IntKind.i64 (v1.getD (i+1) (0:Int))])=fun i=>[RV.int IntKind.i64 (v1.getD (i+1) (0:Int))])::rq (↑(v1.length-1):Int)::(w6.wrap ((↑k:Int)+1)=↑(k+1))::(p=p)::(lq L)::ty d2::y1)) ⟨?_,?_,?_,?_,?_,?_,?_,?_,d2,u1⟩ ?_ ?_))
   (fun d1=>aG d true [false] (q1 [p=p,lq L,ty d1]) ⟨?_,?_,?_,?_,?_,d1⟩ ?_))
  all_goals((try clear u1);(try clear y1))
  all_goals first|exact B3|exact Ck|exact BY|exact BW
def XA (p:Int)(L:LC):aA:=⟨⟨w3 L (.int .i64 0),fP p L,1020⟩,some (cu L (ah L)),fun d=>match d with
 |true=>(.exit 0,⟨[(1,.ptr 1000 0)],fP p L,1020⟩)
 |false=>(.ret,⟨[(2,.bool false)],fP p L,1020⟩)⟩
theorem Vz (p:Int)(L:LC)(hL:aL L):An 1 Tryz.f69 [0,1,0,1,1,1] (XA p L):=by
 refine jU c0 (fun(j:Nat)=>(⟨w3 L (vi j),fP p L,1020⟩:St)) (fun(j:Nat)=>((ah L).length-j:Nat)) (fun(d:Bool)=>fun(j:Nat)=>(j≤(ah L).length∧cu L ((ah L).drop j)=cu L (ah L)∧cu L (ah L)=d:Prop)) (fun(j:Nat)=>([([0,1,1,0,0,1,1,0,0,1,0,1,1,1],JK p L j)]:List (List Nat×aA))) ?_ ?_ ?_
 ·rintro d hd j hI
  have hr:bR L.length (ab (ah L) j)∧(ab (ah L) j).length≤1000:=by
   have:=hL.1
   rcases bA j (ah L).length with h|h
   ·have h1:=rL _ (gE h)
    exact⟨h1.2.1,om⟩
   ·have e:ab (ah L) j=[]:=by simp[ab,h]
    rw[e];exact⟨fun x hx=>by simp at hx,si⟩
  exact aW (Xz p L j hr.1 hr.2)
 ·intro d hd
  exact st (0) [sr (ah L) fun i=>[rI IntKind.i64 ((ah L).getD i [])],rq (↑(ah L).length:Int),(0:Int)=↑(0:Nat),p=p,lq L] pu (by exact⟨aY _,rfl,hd⟩)
 ·rintro d hd j hI
  obtain⟨ht,hf,hs⟩:=hI
  have ht:j≤(ah L).length:=ht
  have hf:cu L ((ah L).drop j)=cu L (ah L):=hf
  have hl:=hL.1
  have hc:=rM (L:=L)
  have ek:=wk j
  refine oe (decide ((↑j:Int)<(↑(ah L).length:Int))) (fun d1=>let y1:List Prop:=[(0:Int)≤1∧(1:Int)≤(↑((ah L).getD j []).length:Int),(0:Int)≤↑j∧(↑j:Int)<(↑(ah L).length:Int),ty d1];have u1:ao y1:=⟨?_,?_,d1⟩;oe (ey L (List.drop (1:Nat) (ab (ah L) j))) (fun d2=>aq [true,true] (j+1) (let v1:=(ah L).getD j [];let v2:=ab (ah L) j;let v3:=(↑(ah L).length:Int);(sr (ah L) fun i=>[rI IntKind.i64 ((ah L).getD i [])])::rq v3::(w6.wrap ((↑j:Int)+1)=↑(j+1))::(p=p)::(lq L)::(sr (ah L) fun i=>[rI IntKind.i64 ((ah L).getD i [])])::rq v3::rq (↑j:Int)::(v1.length-Int.toNat (1:Int)=v2.length-1∧(fun i=>(fun j_1=>[RV.int IntKind.i64 (v1.getD j_1 (0:Int))]) (i+Int.toNat (1:Int)))=fun i=>[RV.int IntKind.i64 (v2.getD (i+1) (0:Int))])::((↑(v1.length-Int.toNat (1:Int)):Int)=↑(v2.length-1))::(p=p)::(lq L)::ty d2::y1) ⟨?_,?_,?_,?_,?_,?_,?_,?_,?_,?_,?_,?_,d2,u1⟩ ?_ ?_)
   (fun d2=>aG d false [true,false] (let v1:=(ah L).getD j [];let v2:=ab (ah L) j;(p=p)::(lq L)::(sr (ah L) fun i=>[rI IntKind.i64 ((ah L).getD i [])])::rq (↑(ah L).length:Int)::rq (↑j:Int)::(v1.length-Int.toNat (1:Int)=v2.length-1∧(fun i=>(fun j_1=>[RV.int IntKind.i64 (v1.getD j_1 (0:Int))]) (i+Int.toNat (1:Int)))=fun i=>[RV.int IntKind.i64 (v2.getD (i+1) (0:Int))])::((↑(v1.length-Int.toNat (1:Int)):Int)=↑(v2.length-1))::(p=p)::(lq L)::ty d2::y1) ⟨?_,?_,?_,?_,?_,?_,?_,?_,?_,d2,u1⟩ ?_))
   (fun d1=>aG d true [false] [p=p,lq L,ty d1] ⟨?_,?_,d1⟩ ?_)
  all_goals((try clear u1);(try clear y1))
  all_goals first|exact B9|exact Cc|exact BX|exact BT
def nS (p:Int)(L:LC):Bool:=be p L&&cu L (ah L)
def GS:List bV:=[
 ⟨72,[],fun A=>match A with
  |[.agg [.int .i64 p,.sl n 5 row]]=>some (.bool (be p (ag n row)),[(∀i,i<n→row i=(Con.ofR (row i)).rvs)∧n≤1000])
  |_=>none⟩,
 ⟨31,[],fun A=>match A with
  |[.agg [.int .i64 p,.sl n 5 row]]=>some (.tup [cS .i64 (ah (ag n row)),.bool true],[(∀i,i<n→row i=(Con.ofR (row i)).rvs)∧aL (ag n row)∧0<n∧dP p (ag n row)=true])
  |_=>none⟩]
theorem up:∀e∈GS,ch Tryz.prog e:=by
 intro e he
 simp only[GS,bx,cC,cH]at he
 rcases he with rfl|rfl
 all_goals
  intro A R ms h hm
  simp only at h
  split at h
  all_goals first|exact fF|cases h
 ·obtain⟨h1,h2⟩:=ay hm
  exact ar.imp (uf _ _ fR) (.cons (.agg (.cons .same (.cons (.con h1) .nil))) .nil)
 ·obtain⟨h1,h2,h3,h4⟩:=ay hm
  exact ar.imp (QP _ _ h2 mN h4) (.cons (.agg (.cons .same (.cons (.con h1) .nil))) .nil)
theorem VE (p:Int)(L:LC)(hL:aL L)(hne:0<L.length)(hf:be p L=true):ar Tryz.prog [] 69 [.agg [.int .i64 p,aD L]] (.bool (cu L (ah L))):=by
 have hl:=hL.1;have k1:be p (ag L.length fun i=>(L.getD i Con.zero).rvs)=true:=nX
 have k2:dP p L=true:=Cr
 refine pr (cE up) Tryz.func69 (aW (Vz p L hL)) ?_
 refine(let y1:List Prop:=(let v1:=ag L.length fun i=>(L.getD i Con.zero).rvs;[(lz L)∧aL v1∧(0:Nat)<L.length∧dP p v1=true,aj (!be p v1) false,(lz L)∧L.length≤1000]);have u1:ao y1:=⟨?_,(dN k1),(?_:(lz L)∧L.length≤1000)⟩;oe (cu L (ah L)) (fun d1=>lr [false,true] (let v1:=ag L.length fun i=>(L.getD i Con.zero).rvs;(true=cu L (ah L))::((ah v1).length=(ah L).length∧(fun i=>[rI IntKind.i64 ((ah v1).getD i [])])=fun i=>[rI IntKind.i64 ((ah L).getD i [])])::((↑(ah v1).length:Int)=(↑(ah L).length:Int))::(p=p)::(lq L)::ty d1::y1) ⟨?_,?_,?_,?_,?_,d1,u1⟩)
  (fun d1=>lr [false,false] (let v1:=ag L.length fun i=>(L.getD i Con.zero).rvs;(false=cu L (ah L))::((ah v1).length=(ah L).length∧(fun i=>[rI IntKind.i64 ((ah v1).getD i [])])=fun i=>[rI IntKind.i64 ((ah L).getD i [])])::((↑(ah v1).length:Int)=(↑(ah L).length:Int))::(p=p)::(lq L)::ty d1::y1) ⟨?_,?_,?_,?_,?_,d1,u1⟩))
 all_goals first|(first|exact tr|exact d1.symm|exact⟨rfl,rfl⟩|exact pv|exact⟨fun _ _=>rfl,by rw[bn];exact hL,hne,by rw[bn];exact k2⟩|(rw[d1];rfl)|exact xE|exact rm)
theorem XB (p:Int)(L:LC)(hn:L.length≤1000)(hf:be p L=false):ar Tryz.prog [] 69 [.agg [.int .i64 p,aD L]] (.bool false):=by
 have k1:be p (ag L.length fun i=>(L.getD i Con.zero).rvs)=false:=nX
 refine pr (cE up) Tryz.func69 aC ?_
 refine lr [true] [false=false,aj (!be p (ag L.length fun i=>(L.getD i Con.zero).rvs)) true,(lz L)∧L.length≤1000] ⟨?_,(dN k1),(?_:(lz L)∧L.length≤1000)⟩
 all_goals first|exact xG
theorem Og (p:Int)(L:LC)(hn:L.length≤1000):ar Tryz.prog [] 69 [.agg [.int .i64 p,aD L]] (.bool (nS p L)):=by
 unfold nS
 cases h:be p L with
 |false=>exact XB p L hn h
 |true=>
  have:=oX h
  subst this
  exact VE 2 L (gn h) (ma h).2.1 h
def tJ (rows:List (List Int))(h:List Bool):List Bool:=rows.foldl (fun h r=>h.set (r.getD 0 0).toNat true) h
def eS (F:LC):List Bool:=tJ (ah F) (List.replicate F.length false)
def iC (D:Int)(F:LC)(o:Option LL):Option LL:=(aB D F (eS F) F.length 0 F o).2
def ra (D:Int)(o:Option LL)(b:Nat):List (Nat×ai):=[(1000,dS [lM b o] 30),(1001,dS [vi D] 2)]++lN b o
def xb (D:Int)(F:LC)(o:Option LL):cg:=⟨30,[.agg [vi 2,(aD F).av],.ptr 1000 0,.ptr 1001 0],ra D o 1010,1100,(match o with
 |none=>some (iC D F none).isNone
 |some _=>none),fun t=>match o,t with
 |none,true=>(.tup [],ra D none 1150,1900)
 |none,false=>(.tup [],ra D (some (ae (iC D F none))) 1150,1900)
 |some X,_=>(.tup [],ra D (some (ae (iC D F (some X)))) 1150,1900)⟩
def ab1:List bV:=[
 ⟨31,[],fun A=>match A with
  |[.agg [.int .i64 p,.sl n 5 row]]=>some (.tup [cS .i64 (ah (ag n row)),.bool true],[(∀i,i<n→row i=(Con.ofR (row i)).rvs)∧aL (ag n row)∧0<n∧dP p (ag n row)=true])
  |_=>none⟩]
def ej (F:LC)(k:Nat):List Bool:=tJ ((ah F).take k) (List.replicate F.length false)
def Lh (D:Int)(F:LC)(o:Option LL)(h:List Bool):List (Nat×ai):=ra D o 1010++[(1100,dS [vi 2,(aD F).av] 45),(1101,⟨.vals .flag h,4,1,true,true⟩),(1102,dS [.lo 1101 h.length] 68)]
def Bj (D:Int)(F:LC)(o:Option LL)(k:AV)(h:List Bool):St:=⟨[(1,.ptr 1000 0),(2,.ptr 1001 0),(3,.ptr 1100 0),(6,.ptr 1102 0),(19,(cS .i64 (ah F)).av),(20,vi (ah F).length),(21,k)],Lh D F o h,1103⟩
def Li (D:Int)(F:LC)(o:Option LL):aA:=⟨Bj D F o (.int .i64 0) (List.replicate F.length false),none,fun _=>(.exit 0,⟨[(1,.ptr 1000 0),(2,.ptr 1001 0),(3,.ptr 1100 0),(6,.ptr 1102 0)],Lh D F o (eS F),1103⟩)⟩
theorem zA:∀(rows:List (List Int))(h:List Bool),(tJ rows h).length=h.length
 |[],h=>rfl
 |r::rows,h=>by
  show(tJ rows (h.set _ true)).length=_
  rw[zA rows,fm]
theorem qd (F:LC)(k:Nat):(ej F k).length=F.length:=by unfold ej;rw[zA,rz]
theorem Ra (F:LC):(eS F).length=F.length:=by unfold eS;rw[zA,rz]
theorem Yp {F:LC}{k:Nat}(hk:k<(ah F).length):(ej F k).set (((ah F).getD k []).getD (Int.toNat 0) 0).toNat true=ej F (k+1):=by
 unfold ej tJ
 rw[tY hk,mU]
 have e:(ah F).getD k []=(ah F)[k]:=by rw[cj,eb hk];rfl
 rw[e]
 rfl
theorem IS {F:LC}{k:Nat}(hk:k=(ah F).length):ej F k=eS F:=by
 unfold ej eS
 rw[hk,pG]
theorem abi {F:LC}{k:Nat}(hk:k<(ah F).length):0<((ah F).getD k []).length∧0≤((ah F).getD k []).getD 0 0∧((ah F).getD k []).getD 0 0<(F.length:Int):=by
 obtain⟨h1,h2,h3⟩:=rL _ (gE (P:=ah F) (t:=k) hk)
 have h0:0<(ab (ah F) k).length:=lV.2 h1
 exact⟨h0,h2.at h0⟩
abbrev pk (F:LC):=List.replicate F.length false
theorem abj (D:Int)(F:LC)(hL:aL F):An 3 Tryz.f30 [0,1,0,1,1,1] (Li D F none):=by
 refine cN c0 aC (fun(k:Nat)=>(Bj D F none (vi k) (ej F k):St)) (fun(k:Nat)=>((ah F).length-k:Nat)) (fun(k:Nat)=>(k≤(ah F).length:Prop)) ?_ ?_
 ·exact st (0) [sr (ah F) fun i=>[rI IntKind.i64 ((ah F).getD i [])],rq (↑(ah F).length:Int),(0:Int)=↑(0:Nat),D=D,rq (2:Int),lq F,List.replicate F.length false=ej F (0:Nat),(pk F).length=(ej F (0:Nat)).length] (by refine⟨?_,?_,?_,?_,?_,?_,?_,(?_:(pk F).length=(ej F (0:Nat)).length)⟩<;>(first|exact tv|(rw[qd,rz]))) (by exact aY _)
 ·intro k hI
  have ht:k≤(ah F).length:=hI
  have hl:=hL.1
  have hc:=rM (L:=F)
  have ek:=wk k
  refine oe (decide ((↑k:Int)<(↑(ah F).length:Int))) (fun d1=>aq [true] (k+1) (let v1:=(ah F).getD k [];let v2:=Int.toNat (0:Int);let v3:=(↑(ah F).length:Int);[sr (ah F) fun i=>[rI IntKind.i64 ((ah F).getD i [])],rq v3,w6.wrap ((↑k:Int)+1)=↑(k+1),D=D,rq (2:Int),lq F,(ej F k).set (v1.getD v2 (0:Int)).toNat true=ej F (k+1),(ej F k).length=(ej F (k+1)).length,(v1.getD v2 (0:Int)).toNat<(ej F k).length,(0:Int)≤v1.getD v2 (0:Int)∧v1.getD v2 (0:Int)<(↑(ej F k).length:Int),(0:Int)≤0∧(0:Int)<↑v1.length,(0:Int)≤↑k∧(↑k:Int)<v3,ty d1]) ⟨?_,?_,?_,?_,?_,?_,?_,?_,?_,?_,?_,?_,d1⟩ ?_ ?_)
   (fun d1=>br [false] [D=D,rq (2:Int),lq F,ej F k=eS F,(ej F k).length=(eS F).length,ty d1] ⟨?_,?_,?_,?_,?_,d1⟩)
  all_goals first|exact Ml|exact MZ|exact cT|exact Np
theorem abk (D:Int)(F:LC)(X:LL)(hL:aL F):An 3 Tryz.f30 [0,1,0,1,1,1] (Li D F (some X)):=by
 refine cN c0 aC (fun(k:Nat)=>(Bj D F (some X) (vi k) (ej F k):St)) (fun(k:Nat)=>((ah F).length-k:Nat)) (fun(k:Nat)=>(k≤(ah F).length:Prop)) ?_ ?_
 ·exact st (0) [sr (ah F) fun i=>[rI IntKind.i64 ((ah F).getD i [])],rq (↑(ah F).length:Int),(0:Int)=↑(0:Nat),rq X.length,D=D,X=X,rq (2:Int),lq F,List.replicate F.length false=ej F (0:Nat),(pk F).length=(ej F (0:Nat)).length] (by refine⟨?_,?_,?_,?_,?_,?_,?_,?_,?_,(?_:(pk F).length=(ej F (0:Nat)).length)⟩<;>(first|exact tv|(rw[qd,rz]))) (by exact aY _)
 ·intro k hI
  have ht:k≤(ah F).length:=hI
  have hl:=hL.1
  have hc:=rM (L:=F)
  have ek:=wk k
  refine oe (decide ((↑k:Int)<(↑(ah F).length:Int))) (fun d1=>aq [true] (k+1) (let v1:=(ah F).getD k [];let v2:=Int.toNat (0:Int);let v3:=(↑(ah F).length:Int);[sr (ah F) fun i=>[rI IntKind.i64 ((ah F).getD i [])],rq v3,w6.wrap ((↑k:Int)+1)=↑(k+1),rq X.length,D=D,X=X,rq (2:Int),lq F,(ej F k).set (v1.getD v2 (0:Int)).toNat true=ej F (k+1),(ej F k).length=(ej F (k+1)).length,(v1.getD v2 (0:Int)).toNat<(ej F k).length,(0:Int)≤v1.getD v2 (0:Int)∧v1.getD v2 (0:Int)<(↑(ej F k).length:Int),(0:Int)≤0∧(0:Int)<↑v1.length,(0:Int)≤↑k∧(↑k:Int)<v3,ty d1]) ⟨?_,?_,?_,?_,?_,?_,?_,?_,?_,?_,?_,?_,?_,?_,d1⟩ ?_ ?_)
   (fun d1=>br [false] [rq X.length,D=D,X=X,rq (2:Int),lq F,ej F k=eS F,(ej F k).length=(eS F).length,ty d1] ⟨?_,?_,?_,?_,?_,?_,?_,d1⟩)
  all_goals first|exact Ml|exact MZ|exact cT|exact Np
def kR (D:Int)(F:LC)(o:Option LL):Prop:=be 2 F=true∧0<F.length∧F.length≤10∧(ae o).length+2^F.length≤100000∧0<D∧D≤2147483647
theorem Wm {D:Int}{F:LC}{o:Option LL}(h:kR D F o):dj D F (eS F) F.length 0 F o:=by
 obtain⟨h1,h2,h3,h4,h5,h6⟩:=h
 exact⟨om,rfl,Ra F,h2,h3,h4,h5,h6⟩
def J2 (D:Int)(F:LC):Nat→List AV→Hs→Option (cg×List Prop):=fun f args H=>bif Nat.beq f 80 then(match args with
 |[_,_,.ptr b1 _,_,_]=>match kS H.m b1 with
  |some (.fn _ [.ptr bl _,_])=>match nH H.m bl with
   |none=>none
   |some o=>some (lU D F (eS F) F.length 0 F o,[dj D F (eS F) F.length 0 F o])
  |_=>none
 |_=>none)else none
theorem FS (D:Int)(F:LC):∀f args H A ms,J2 D F f args H=some (A,ms)→(∀q∈ms,q)→aJ Tryz.prog EV.ng A:=by
 intro f args H A ms hq hm
 unfold J2 at hq
 replace hq:=(az hq).2
 split at hq
 ·split at hq
  ·split at hq
   ·cases hq
   ·cases hq
    exact AX D F _ _ _ _ _ (ay hm)
  ·cases hq
 ·cases hq
theorem abl (D:Int)(F:LC)(hc:kR D F none):aJ Tryz.prog EV.ng (xb D F none):=by
 have hcc:=hc
 obtain⟨hf,h0,hl,ho,hd1,hd2⟩:=hcc
 have hb:F.length.beq 0=false:=(by cases hq:F.length.beq 0 with
  |false=>rfl
  |true=>have:=co hq;omega)
 have hL:=gn hf
 have k2:dP 2 F=true:=Cr
 refine cQ (cF (cV (FS D F) (fq up))) Tryz.func30 (aW (abj D F hL)) ?_
 intro d hd
 cases d
 rotate_right
 have hd:((iC D F none).isNone)=true:=hd
 refine oe ((aB D F (eS F) F.length (0:Nat) F none).snd.isNone) (fun d1=>lr [false,true] (let v1:=ag F.length fun i=>(F.getD i z0c).rvs;let v2:=(↑F.length:Int);[D=D,dj D F (eS F) F.length (0:Nat) F none,(0:Int)=↑(0:Nat),rq F.length,v1=F,D=D,rq ((eS F).length),rq (eS F),rq (2:Int),lq F,ty d1,(0:Nat)<F.length∧F.length≤1000000,lz F,aj (F.length.beq (0:Nat)) false,(0:Nat)<F.length,(ah v1).length=(ah F).length∧(fun i=>[rI IntKind.i64 ((ah v1).getD i [])])=fun i=>[rI IntKind.i64 ((ah F).getD i [])],(↑(ah v1).length:Int)=(↑(ah F).length:Int),D=D,rq (2:Int),lq F,List.replicate F.length aa.flag.zero=List.replicate F.length false,F.length=(pk F).length,(0:Int)≤v2∧v2≤1000000∧v2=v2,(lz F)∧aL v1∧(0:Nat)<F.length∧dP (2:Int) v1=true]) ⟨?_,?_,?_,?_,?_,?_,?_,?_,?_,?_,d1,?_,?_,hb,?_,?_,?_,?_,?_,?_,?_,?_,?_,(?_:(lz F)∧aL (ag F.length fun i=>(F.getD i z0c).rvs)∧(0:Nat)<F.length∧dP (2:Int) (ag F.length fun i=>(F.getD i z0c).rvs)=true)⟩)
  (fun d1=>aT.no ?_)
 rotate_right
 have hd:((iC D F none).isNone)=false:=hd
 refine oe ((aB D F (eS F) F.length (0:Nat) F none).snd.isNone) (fun d1=>aT.no ?_)
  (fun d1=>lr [false,false] (let v1:=ag F.length fun i=>(F.getD i z0c).rvs;let v2:=(↑F.length:Int);let v3:=aB D F (eS F) F.length (0:Nat) F none;[(ae v3.snd).length=(ae (iC D F none)).length,D=D,ae v3.snd=ae (iC D F none),dj D F (eS F) F.length (0:Nat) F none,(0:Int)=↑(0:Nat),rq F.length,v1=F,D=D,rq ((eS F).length),rq (eS F),rq (2:Int),lq F,ty d1,(0:Nat)<F.length∧F.length≤1000000,lz F,aj (F.length.beq (0:Nat)) false,(0:Nat)<F.length,(ah v1).length=(ah F).length∧(fun i=>[rI IntKind.i64 ((ah v1).getD i [])])=fun i=>[rI IntKind.i64 ((ah F).getD i [])],(↑(ah v1).length:Int)=(↑(ah F).length:Int),D=D,rq (2:Int),lq F,List.replicate F.length aa.flag.zero=List.replicate F.length false,F.length=(pk F).length,(0:Int)≤v2∧v2≤1000000∧v2=v2,(lz F)∧aL v1∧(0:Nat)<F.length∧dP (2:Int) v1=true]) ⟨?_,?_,?_,?_,?_,?_,?_,?_,?_,?_,?_,?_,d1,?_,?_,hb,?_,?_,?_,?_,?_,?_,?_,?_,?_,(?_:(lz F)∧aL (ag F.length fun i=>(F.getD i z0c).rvs)∧(0:Nat)<F.length∧dP (2:Int) (ag F.length fun i=>(F.getD i z0c).rvs)=true)⟩)
 all_goals first|exact LU|exact Nt
theorem abm (D:Int)(F:LC)(X:LL)(hc:kR D F (some X)):aJ Tryz.prog EV.ng (xb D F (some X)):=by
 have hcc:=hc
 obtain⟨hf,h0,hl,ho,hd1,hd2⟩:=hcc
 have hb:F.length.beq 0=false:=(by cases hq:F.length.beq 0 with
  |false=>rfl
  |true=>have:=co hq;omega)
 have hL:=gn hf
 have k2:dP 2 F=true:=Cr
 refine cQ (cF (cV (FS D F) (fq up))) Tryz.func30 (aW (abk D F X hL)) ?_
 intro d hd
 cases d
 ·exact Bool.noConfusion (show false=true from hd)
 ·refine lr [false] (let y1:=ag F.length fun i=>(F.getD i z0c).rvs;let y2:=(↑F.length:Int);let y3:=aB D F (eS F) F.length (0:Nat) F (some X);[(ae y3.snd).length=(ae (iC D F (some X))).length,D=D,ae y3.snd=ae (iC D F (some X)),dj D F (eS F) F.length (0:Nat) F (some X),(0:Int)=↑(0:Nat),rq F.length,y1=F,rq X.length,D=D,rq ((eS F).length),rq (eS F),rq (2:Int),lq F,X=X,(0:Nat)<F.length∧F.length≤1000000,lz F,aj (F.length.beq (0:Nat)) false,(0:Nat)<F.length,(ah y1).length=(ah F).length∧(fun i=>[rI IntKind.i64 ((ah y1).getD i [])])=fun i=>[rI IntKind.i64 ((ah F).getD i [])],(↑(ah y1).length:Int)=(↑(ah F).length:Int),rq X.length,D=D,X=X,rq (2:Int),lq F,List.replicate F.length aa.flag.zero=List.replicate F.length false,F.length=(pk F).length,(0:Int)≤y2∧y2≤1000000∧y2=y2,(lz F)∧aL y1∧(0:Nat)<F.length∧dP (2:Int) y1=true]) ⟨?_,?_,?_,?_,?_,?_,?_,?_,?_,?_,?_,?_,?_,?_,?_,?_,hb,?_,?_,?_,?_,?_,?_,?_,?_,?_,?_,?_,(?_:(lz F)∧aL (ag F.length fun i=>(F.getD i z0c).rvs)∧(0:Nat)<F.length∧dP (2:Int) (ag F.length fun i=>(F.getD i z0c).rvs)=true)⟩
  all_goals first|exact LU|exact Nt
theorem Yq (D:Int)(F:LC):∀o:Option LL,kR D F o→aJ Tryz.prog EV.ng (xb D F o)
 |none,h=>abl D F h
 |some X,h=>abm D F X h
def fL (c:Con)(t:Int):Con:=⟨c.exp,c.dim,c.sign,true,t⟩
def aV (c:Con):LC:=(bif decide (c.dim%2=0)then [c]else [])++[fL c 0,fL c 1,fL c 2,fL c 3,fL c 4,fL c 5,fL c 6,fL c 7]
theorem Ys {c:Con}(h0:0≤c.dim)(h:(c.dim.tmod 2==0)=true):aV c=[c,fL c 0,fL c 1,fL c 2,fL c 3,fL c 4,fL c 5,fL c 6,fL c 7]:=by
 have:=eq_of_beq h
 rw[gh h0]at this
 unfold aV
 rw[show decide (c.dim%2=0)=true from bZ this]
 rfl
theorem Yt {c:Con}(h0:0≤c.dim)(h:(c.dim.tmod 2==0)=false):aV c=[fL c 0,fL c 1,fL c 2,fL c 3,fL c 4,fL c 5,fL c 6,fL c 7]:=by
 have:=bJ.1 h
 rw[gh h0]at this
 unfold aV
 rw[show decide (c.dim%2=0)=false from bu this]
 rfl
theorem Tw (c:Con):(aV c).length≤9:=by
 unfold aV
 cases decide (c.dim%2=0)<;>simp
theorem Lj:w6.wrap ((0:Int)+1)=1:=by decide
theorem Lk:w6.wrap ((1:Int)+1)=2:=by decide
theorem Ll:w6.wrap ((2:Int)+1)=3:=by decide
theorem Lm:w6.wrap ((3:Int)+1)=4:=by decide
theorem Ln:w6.wrap ((4:Int)+1)=5:=by decide
theorem Lo:w6.wrap ((5:Int)+1)=6:=by decide
theorem Lp:w6.wrap ((6:Int)+1)=7:=by decide
theorem Lq:w6.wrap ((7:Int)+1)=8:=by decide
theorem Yu (c:Con)(h0:0≤c.dim):ar Tryz.prog [] 78 [.agg c.rvs] (aD (aV c)):=by
 refine pr c0 Tryz.func78 aC ?_
 refine oe (c.dim.tmod (2:Int)==0) (fun d1=>lr [true] (let v1:=w6.wrap (w6.wrap ((0:Int)+1)+1)+1;let v8:=w6.wrap (w6.wrap v1+1)+1;let v7:=[Con.mk c.exp c.dim c.sign true (w6.wrap v1)];let v10:=[Con.mk c.exp c.dim c.sign true (w6.wrap v8)];let v3:=[Con.mk c.exp c.dim c.sign true (w6.wrap (w6.wrap ((0:Int)+1)+1))];let v4:=[Con.mk c.exp c.dim c.sign true (w6.wrap ((0:Int)+1))];let v5:=[Con.mk c.exp c.dim c.sign true (0:Int)];let v6:=[Con.mk c.exp c.dim c.sign true (w6.wrap (w6.wrap v1+1))];let v2:=[c]++v5++v4++v3++v7++v6++v10++[Con.mk c.exp c.dim c.sign true (w6.wrap (w6.wrap v8+1))]++[Con.mk c.exp c.dim c.sign true (w6.wrap (w6.wrap (w6.wrap v8+1)+1))];let v9:=(1000000:Nat);[(1:Nat)+1+1+1+1+1+1+1+1=(aV c).length∧(1:Nat)+1+1+1+1+1+1+1+1=v2.length∧∀(i:Nat),i<1+1+1+1+1+1+1+1+1→(fun i=>((aV c).getD i z0c).rvs) i=(v2.getD i z0c).rvs,(bN.con ([c]++v5++v4++v3++v7++v6++v10++[Con.mk c.exp c.dim c.sign true (w6.wrap (w6.wrap v8+1))])).num=1+1+1+1+1+1+1+1∧(1:Nat)+1+1+1+1+1+1+1+1≤v9,(bN.con ([c]++v5++v4++v3++v7++v6++v10)).num=1+1+1+1+1+1+1∧(1:Nat)+1+1+1+1+1+1+1≤v9,(bN.con ([c]++v5++v4++v3++v7++v6)).num=1+1+1+1+1+1∧(1:Nat)+1+1+1+1+1+1≤v9,(bN.con ([c]++v5++v4++v3++v7)).num=1+1+1+1+1∧(1:Nat)+1+1+1+1+1≤v9,(bN.con ([c]++v5++v4++v3)).num=1+1+1+1∧(1:Nat)+1+1+1+1≤v9,(bN.con ([c]++v5++v4)).num=1+1+1∧(1:Nat)+1+1+1≤v9,(bN.con ([c]++v5)).num=1+1∧(1:Nat)+1+1≤v9,(bN.con [c]).num=1∧(1:Nat)+1≤v9,(0:Nat)<1∧(1:Nat)≤v9,ty d1,(2:Int)≠(0:Int)]) ⟨?_,?_,?_,?_,?_,?_,?_,?_,?_,?_,d1,(?_:(2:Int)≠(0:Int))⟩)
  (fun d1=>lr [false] (let v1:=w6.wrap (w6.wrap ((0:Int)+1)+1)+1;let v8:=w6.wrap (w6.wrap v1+1)+1;let v7:=[Con.mk c.exp c.dim c.sign true (w6.wrap v1)];let v10:=[Con.mk c.exp c.dim c.sign true (w6.wrap v8)];let v3:=[Con.mk c.exp c.dim c.sign true (w6.wrap (w6.wrap ((0:Int)+1)+1))];let v4:=[Con.mk c.exp c.dim c.sign true (w6.wrap ((0:Int)+1))];let v5:=[Con.mk c.exp c.dim c.sign true (0:Int)];let v6:=[Con.mk c.exp c.dim c.sign true (w6.wrap (w6.wrap v1+1))];let v2:=v5++v4++v3++v7++v6++v10++[Con.mk c.exp c.dim c.sign true (w6.wrap (w6.wrap v8+1))]++[Con.mk c.exp c.dim c.sign true (w6.wrap (w6.wrap (w6.wrap v8+1)+1))];let v9:=(1000000:Nat);[(1:Nat)+1+1+1+1+1+1+1=(aV c).length∧(1:Nat)+1+1+1+1+1+1+1=v2.length∧∀(i:Nat),i<1+1+1+1+1+1+1+1→(fun i=>((aV c).getD i z0c).rvs) i=(v2.getD i z0c).rvs,(bN.con (v5++v4++v3++v7++v6++v10++[Con.mk c.exp c.dim c.sign true (w6.wrap (w6.wrap v8+1))])).num=1+1+1+1+1+1+1∧(1:Nat)+1+1+1+1+1+1+1≤v9,(bN.con (v5++v4++v3++v7++v6++v10)).num=1+1+1+1+1+1∧(1:Nat)+1+1+1+1+1+1≤v9,(bN.con (v5++v4++v3++v7++v6)).num=1+1+1+1+1∧(1:Nat)+1+1+1+1+1≤v9,(bN.con (v5++v4++v3++v7)).num=1+1+1+1∧(1:Nat)+1+1+1+1≤v9,(bN.con (v5++v4++v3)).num=1+1+1∧(1:Nat)+1+1+1≤v9,(bN.con (v5++v4)).num=1+1∧(1:Nat)+1+1≤v9,(bN.con v5).num=1∧(1:Nat)+1≤v9,(0:Nat)<1∧(1:Nat)≤v9,ty d1,(2:Int)≠(0:Int)]) ⟨?_,?_,?_,?_,?_,?_,?_,?_,?_,d1,(?_:(2:Int)≠(0:Int))⟩)
 all_goals first|(first|exact tr|decide|exact⟨rfl,de⟩|(rw[Ys h0 d1];simp only[Lj,Lk,Ll,Lm,Ln,Lo,Lp,Lq];first|exact⟨rfl,rfl⟩|exact re|rfl)|(rw[Yt h0 d1];simp only[Lj,Lk,Ll,Lm,Ln,Lo,Lp,Lq];first|exact⟨rfl,rfl⟩|exact re|rfl))
def fM (C:LC)(i:Nat)(c:Con):Bool:=c.odd&&(!decide (c.oddity=0)&&(decide (0<i)&&((at_ C (i-1)).odd&&decide (w6.wrap ((at_ C (i-1)).exp+1)=c.exp))))
def gJ (D:Int)(C:LC)(o:Option LL):Option LL:=bif be 2 C then iC D C o else o
def bp (D:Int)(S:LC):Nat→Nat→LC×Option LL→LC×Option LL
 |0,_=>fun s=>(s.1,gJ D s.1 s.2)
 |r+1,i=>fun s=>(aV (at_ S i)).foldl (fun s c=>bif fM s.1 i c then s else bp D S r (i+1) (s.1.set i c,s.2)) s
def kq (D:Int)(S:LC)(r i:Nat)(s:LC×Option LL)(c:Con):LC×Option LL:=bif fM s.1 i c then s else bp D S r (i+1) (s.1.set i c,s.2)
def mI (D:Int)(S:LC)(r i:Nat)(s:LC×Option LL)(k:Nat):LC×Option LL:=((aV (at_ S i)).take k).foldl (kq D S r i) s
def jT (D:Int)(S C:LC)(o:Option LL)(b:Nat):List (Nat×ai):=[(1000,dS [.lo 1001 C.length] 43),(1001,iy C),(1002,dS [.fn 30 [.ptr 1005 0,.ptr 1006 0]] 76),(1003,dS [.lo 1007 S.length] 43),(1004,dS [.fn 77 [.ptr 1000 0,.ptr 1002 0,.ptr 1003 0,.ptr 1004 0]] 41),(1005,dS [lM b o] 30),(1006,dS [vi D] 2),(1007,iy S)]++lN b o
def ks (D:Int)(S:LC)(r i:Nat)(C:LC)(o:Option LL):cg:=⟨77,[vi i,.ptr 1000 0,.ptr 1002 0,.ptr 1003 0,.ptr 1004 0],jT D S C o 1010,1100,(match o with
 |none=>some (bp D S r i (C,none)).2.isNone
 |some _=>none),fun t=>match o,t with
 |none,true=>(.tup [],jT D S (bp D S r i (C,none)).1 none 1150,1900)
 |none,false=>(.tup [],jT D S (bp D S r i (C,none)).1 (some (ae (bp D S r i (C,none)).2)) 1150,1900)
 |some X,_=>(.tup [],jT D S (bp D S r i (C,some X)).1 (some (ae (bp D S r i (C,some X)).2)) 1150,1900)⟩
def cM (D:Int)(S:LC)(r i:Nat)(C:LC)(o:Option LL):Prop:=i+r=C.length∧S.length=C.length∧0<C.length∧C.length≤10∧(ae (bp D S r i (C,o)).2).length≤50000∧(0<D∧D≤2147483647)∧aL S∧∀c∈S,c.oddity=0
def Hi:List bV:=[
 ⟨78,[],fun A=>match A with
  |[.agg [.int .i64 a,.int .i64 b,.int .i64 c,.bool d,.int .i64 e]]=>some (aD (aV ⟨a,b,c,d,e⟩),[0≤b])
  |_=>none⟩,
 ⟨72,[],fun A=>match A with
  |[.agg [.int .i64 p,.sl n 5 row]]=>some (.bool (be p (ag n row)),[(∀i,i<n→row i=(Con.ofR (row i)).rvs)∧n≤1000])
  |_=>none⟩]
theorem uv:∀e∈Hi,ch Tryz.prog e:=by
 intro e he
 simp only[Hi,bx,cC,cH]at he
 rcases he with rfl|rfl
 all_goals
  intro A R ms h hm
  simp only at h
  split at h
  all_goals first|exact fF|cases h
 ·exact Yu ⟨_,_,_,_,_⟩ (ay hm)
 ·obtain⟨h1,h2⟩:=ay hm
  exact ar.imp (uf _ _ fR) (.cons (.agg (.cons .same (.cons (.con h1) .nil))) .nil)
def Lr (D:Int)(C:LC):Nat→List AV→Hs→Option (cg×List Prop):=fun f args H=>bif Nat.beq f 30 then(match args with
 |[_,.ptr bl _,_]=>match nH H.m bl with
  |none=>none
  |some o=>some (xb D C o,[kR D C o])
 |_=>none)else none
theorem Hj (D:Int)(C:LC):∀f args H A ms,Lr D C f args H=some (A,ms)→(∀q∈ms,q)→aJ Tryz.prog EV.ng A:=by
 intro f args H A ms hq hm
 unfold Lr at hq
 replace hq:=(az hq).2
 split at hq
 ·split at hq
  ·cases hq
  ·cases hq
   exact Yq D C _ (ay hm)
 ·cases hq
theorem Wn (D:Int)(C:LC)(o:Option LL):(ae o).length≤(ae (eJ D C o)).length:=by
 unfold eJ
 cases dt 2 C&&gy D 2 C<;>simp[ae]
theorem zZ (D:Int)(F:LC)(h:List Bool):∀(r i:Nat)(C:LC)(o:Option LL),(ae o).length≤(ae (aB D F h r i C o).2).length
 |0,i,C,o=>Wn D C o
 |r+1,i,C,o=>by
  unfold aB
  have h1:=zZ D F h r (i+1) (C.set i (F.getD i z0c)) o
  cases h.getD i false with
  |true=>
   rw[aM]
   have h3:=zZ D F h r (i+1) ((aB D F h r (i+1) (C.set i (F.getD i z0c)) o).1.set i (tB (F.getD i z0c))) (aB D F h r (i+1) (C.set i (F.getD i z0c)) o).2
   omega
  |false=>
   rw[bg]
   exact h1
theorem sX {D:Int}{C:LC}{o:Option LL}(h:be 2 C=true):gJ D C o=iC D C o:=by unfold gJ;rw[h];rfl
theorem sY {D:Int}{C:LC}{o:Option LL}(h:be 2 C=false):gJ D C o=o:=by unfold gJ;rw[h];rfl
theorem Hk (D:Int)(C:LC)(o:Option LL):(ae o).length≤(ae (gJ D C o)).length:=by
 unfold gJ
 cases be 2 C with
 |true=>exact zZ _ _ _ _ _ _ _
 |false=>exact aZ _
theorem Hl {D:Int}{S:LC}{i:Nat}{C:LC}{o:Option LL}(h:cM D S 0 i C o)(hf:be 2 C=true):kR D C o:=by
 obtain⟨h1,h2,h3,h4,h5,h6,h7⟩:=h
 have hg:=Hk D C o
 have h5:(ae (gJ D C o)).length≤50000:=h5
 have hp:2^C.length≤2^10:=rB om h4
 exact⟨hf,h3,h4,om,h6⟩
theorem Yv (D:Int)(S:LC)(i:Nat)(C:LC)(hc:cM D S 0 i C none):aJ Tryz.prog EV.ng (ks D S 0 i C none):=by
 have hcc:=hc
 obtain⟨hc1,hc2,hc3,hc4,hc5,hc6,hc7⟩:=hcc
 have hz:((i:Int)==(C.length:Int))=true:=by rw[show i=C.length by omega];exact e9 _
 have hb:C.length.beq 0=false:=(by cases hq:C.length.beq 0 with
  |false=>rfl
  |true=>have:=co hq;omega)
 refine cQ (cF (sA (g:=30) (cV (Hj D C) (fq uv)))) Tryz.func77 aC ?_
 intro d hd
 cases d
 rotate_right
 have hd:((bp D S 0 i (C,none)).2.isNone)=true:=hd
 refine(let y1:List Prop:=[rq C.length,(lz C)∧C.length≤1000,aj ((↑i:Int)==↑C.length) true];have u1:ao y1:=⟨?_,?_,hz⟩;oe (be (2:Int) (ag C.length fun i=>(C.getD i z0c).rvs)) (fun d1=>oe ((iC D C none).isNone) (fun d2=>lr (tp 111) ((C.length=(bp D S (0:Nat) i (C,none)).fst.length)::(C=(bp D S (0:Nat) i (C,none)).fst)::rq S.length::(D=D)::(S=S)::(kR D C none)::rq (2:Int)::(C.length=C.length∧(fun i=>aa.con.rvs (C.getD i aa.con.zero))=fun i=>(C.getD i z0c).rvs)::(D=D)::ty d2::rq C.length::((0:Nat)<C.length∧C.length≤1000000)::rq C.length::ty d1::y1) ⟨?_,?_,?_,?_,?_,?_,?_,?_,?_,d2,?_,?_,?_,d1,u1⟩)
  (fun d2=>aT.no ?_))
  (fun d1=>lr [true,false] (let v1:=(bp D S (0:Nat) i (C,none));(C.length=v1.fst.length)::(C=v1.fst)::rq S.length::(D=D)::(S=S)::ty d1::y1) ⟨?_,?_,?_,?_,?_,d1,u1⟩))
 rotate_right
 have hd:((bp D S 0 i (C,none)).2.isNone)=false:=hd
 refine oe (be (2:Int) (ag C.length fun i=>(C.getD i z0c).rvs)) (fun d1=>oe ((iC D C none).isNone) (fun d2=>aT.no ?_)
  (fun d2=>lr (tp 112) [C.length=(bp D S (0:Nat) i (C,none)).fst.length,C=(bp D S (0:Nat) i (C,none)).fst,rq S.length,(ae (iC D C none)).length=(ae (bp D S (0:Nat) i (C,none)).snd).length,D=D,S=S,ae (iC D C none)=ae (bp D S (0:Nat) i (C,none)).snd,kR D C none,rq (2:Int),C.length=C.length∧(fun i=>aa.con.rvs (C.getD i aa.con.zero))=fun i=>(C.getD i z0c).rvs,D=D,ty d2,rq C.length,(0:Nat)<C.length∧C.length≤1000000,rq C.length,ty d1,rq C.length,(lz C)∧C.length≤1000,aj ((↑i:Int)==↑C.length) true] ⟨?_,?_,?_,?_,?_,?_,?_,?_,?_,?_,?_,d2,?_,?_,?_,d1,?_,?_,hz⟩))
  (fun d1=>aT.no ?_)
 all_goals first|exact LI|(first|exact tv|(have e1:=d1;rw[bn]at e1;first|exact Hl hc e1|(show _=(ae (gJ D C none)).length;rw[sX e1];done)|(show _=ae (gJ D C none);rw[sX e1];done)|(show _=(ae (gJ D C none)).length;rw[sY e1]<;>rfl)|(show _=ae (gJ D C none);rw[sY e1]<;>rfl))|exact⟨hc3,om⟩|exact⟨fun _ _=>rfl,om⟩)
theorem Yw (D:Int)(S:LC)(i:Nat)(C:LC)(X:LL)(hc:cM D S 0 i C (some X)):aJ Tryz.prog EV.ng (ks D S 0 i C (some X)):=by
 have hcc:=hc
 obtain⟨hc1,hc2,hc3,hc4,hc5,hc6,hc7⟩:=hcc
 have hz:((i:Int)==(C.length:Int))=true:=by rw[show i=C.length by omega];exact e9 _
 have hb:C.length.beq 0=false:=(by cases hq:C.length.beq 0 with
  |false=>rfl
  |true=>have:=co hq;omega)
 refine cQ (cF (sA (g:=30) (cV (Hj D C) (fq uv)))) Tryz.func77 aC ?_
 intro d hd
 cases d
 ·exact Bool.noConfusion (show false=true from hd)
 ·refine(let y1:List Prop:=[rq C.length,(lz C)∧C.length≤1000,aj ((↑i:Int)==↑C.length) true];have u1:ao y1:=⟨?_,?_,hz⟩;oe (be (2:Int) (ag C.length fun i=>(C.getD i z0c).rvs)) (fun d1=>lr [true,true] ((C.length=(bp D S (0:Nat) i (C,some X)).fst.length)::(C=(bp D S (0:Nat) i (C,some X)).fst)::rq S.length::((ae (iC D C (some X))).length=(ae (bp D S (0:Nat) i (C,some X)).snd).length)::(D=D)::(S=S)::(ae (iC D C (some X))=ae (bp D S (0:Nat) i (C,some X)).snd)::(kR D C (some X))::rq (2:Int)::(C.length=C.length∧(fun i=>aa.con.rvs (C.getD i aa.con.zero))=fun i=>(C.getD i z0c).rvs)::rq X.length::(D=D)::(X=X)::rq C.length::((0:Nat)<C.length∧C.length≤1000000)::rq C.length::ty d1::y1) ⟨?_,?_,?_,?_,?_,?_,?_,?_,?_,?_,?_,?_,?_,?_,?_,?_,d1,u1⟩)
   (fun d1=>lr [true,false] (let v1:=(bp D S (0:Nat) i (C,some X));(C.length=v1.fst.length)::(C=v1.fst)::rq S.length::(X.length=(ae v1.snd).length)::(D=D)::(S=S)::(X=ae v1.snd)::ty d1::y1) ⟨?_,?_,?_,?_,?_,?_,?_,d1,u1⟩))
  all_goals first|exact LI|(first|exact tv|(have e1:=d1;rw[bn]at e1;first|exact Hl hc e1|(show _=(ae (gJ D C (some X))).length;rw[sX e1];done)|(show _=ae (gJ D C (some X));rw[sX e1];done)|(show _=(ae (gJ D C (some X))).length;rw[sY e1]<;>rfl)|(show _=ae (gJ D C (some X));rw[sY e1]<;>rfl))|exact⟨hc3,om⟩|exact⟨fun _ _=>rfl,om⟩)
def qY (S:LC)(i:Nat)(k:AV):List (Nat×AV):=[(0,vi i),(1,.ptr 1000 0),(2,.ptr 1002 0),(3,.ptr 1003 0),(4,.ptr 1004 0),(27,(aD (aV (at_ S i))).av),(28,vi (aV (at_ S i)).length),(29,k)]
def aa5 (D:Int)(S:LC)(i:Nat):Nat×LC×Option LL→St
 |(k,C,none)=>⟨qY S i (vi k),jT D S C none 1010,1300⟩
 |(k,C,some X)=>⟨qY S i (vi k),jT D S C (some X) 1210,1300⟩
def aa6 (D:Int)(S:LC)(i:Nat):Nat×LC×LL×Bool→St
 |(k,C,X,false)=>⟨qY S i (vi k),jT D S C (some X) 1010,1300⟩
 |(k,C,X,true)=>⟨qY S i (vi k),jT D S C (some X) 1210,1300⟩
def aa7 (D:Int)(S:LC)(r i:Nat)(C:LC):aA:=⟨⟨qY S i (.int .i64 0),jT D S C none 1010,1200⟩,some (bp D S (r+1) i (C,none)).2.isNone,fun d=>match d with
 |true=>(.exit 0,⟨[],jT D S (bp D S (r+1) i (C,none)).1 none 1010,1300⟩)
 |false=>(.exit 0,⟨[],jT D S (bp D S (r+1) i (C,none)).1 (some (ae (bp D S (r+1) i (C,none)).2)) 1210,1300⟩)⟩
def Le (D:Int)(S:LC)(r i:Nat):Nat→List AV→Hs→Option (cg×List Prop):=fun f args H=>bif Nat.beq f 77 then(match args with
 |[_,.ptr b0 _,.ptr b1 _,_,_]=>match Ki H.m b0 with
  |none=>none
  |some C=>match kS H.m b1 with
   |some (.fn _ [.ptr bl _,_])=>match nH H.m bl with
    |none=>none
    |some o=>some (ks D S r (i+1) C o,[cM D S r (i+1) C o])
   |_=>none
 |_=>none)else none
theorem G1 {D:Int}{S:LC}{r i:Nat}(ih:∀C o,cM D S r (i+1) C o→aJ Tryz.prog EV.ng (ks D S r (i+1) C o)):∀f args H A ms,Le D S r i f args H=some (A,ms)→(∀q∈ms,q)→aJ Tryz.prog EV.ng A:=by
 intro f args H A ms hq hm
 unfold Le at hq
 replace hq:=(az hq).2
 split at hq
 ·split at hq
  ·cases hq
  ·split at hq
   ·split at hq
    ·cases hq
    ·cases hq
     exact ih _ _ (ay hm)
   ·cases hq
 ·cases hq
theorem zw (D:Int)(S:LC):∀(r i:Nat)(s:LC×Option LL),(bp D S r i s).1.length=s.1.length
 |0,i,s=>rfl
 |r+1,i,s=>by
  show((aV (at_ S i)).foldl (kq D S r i) s).1.length=_
  generalize aV (at_ S i)=l
  induction l generalizing s with
  |nil=>rfl
  |cons c l ih=>
   rw[lZ,ih]
   unfold kq
   cases fM s.1 i c with
   |true=>rfl
   |false=>rw[bg,zw D S r (i+1)];exact fm
theorem zx {D:Int}{S:LC}{r i:Nat}(h:∀s,(ae s.2).length≤(ae (bp D S r (i+1) s).2).length):∀(l:LC)(s:LC×Option LL),(ae s.2).length≤(ae (l.foldl (kq D S r i) s).2).length
 |[],s=>aZ _
 |c::l,s=>by
  rw[lZ]
  refine cU ?_ (zx h l _)
  unfold kq
  cases fM s.1 i c with
  |true=>exact aZ _
  |false=>exact h (s.1.set i c,s.2)
theorem zT (D:Int)(S:LC):∀(r i:Nat)(s:LC×Option LL),(ae s.2).length≤(ae (bp D S r i s).2).length
 |0,i,s=>Hk D s.1 s.2
 |r+1,i,s=>zx (fun s=>zT D S r (i+1) s) (aV (at_ S i)) s
theorem Iy {D:Int}{S:LC}{r i k:Nat}{s:LC×Option LL}(hk:k<(aV (at_ S i)).length):mI D S r i s (k+1)=kq D S r i (mI D S r i s k) ((aV (at_ S i)).getD k z0c):=by
 unfold mI
 rw[tY hk,mU,cj,eb hk]
 rfl
theorem XO {D:Int}{S:LC}{r i k:Nat}{s:LC×Option LL}(hk:(aV (at_ S i)).length≤k):mI D S r i s k=bp D S (r+1) i s:=by
 unfold mI
 rw[iR hk]
 rfl
theorem VZ {D:Int}{S:LC}{r i k:Nat}{s:LC×Option LL}:(ae (mI D S r i s k).2).length≤(ae (bp D S (r+1) i s).2).length:=by
 have e:bp D S (r+1) i s=((aV (at_ S i)).drop k).foldl (kq D S r i) (mI D S r i s k):=by
  unfold mI
  rw[←mU,kV]
  rfl
 rw[e]
 exact zx (fun s=>zT D S r (i+1) s) _ _
theorem Q3 (D:Int)(C:LC)(X:LL):gJ D C (some X)=some (ae (gJ D C (some X))):=by
 unfold gJ
 cases be 2 C with
 |true=>exact nd D C _ _ _ _ X
 |false=>rfl
theorem yL (D:Int)(S:LC):∀(r i:Nat)(C:LC)(X:LL),(bp D S r i (C,some X)).2=some (ae (bp D S r i (C,some X)).2)
 |0,i,C,X=>Q3 D C X
 |r+1,i,C,X=>by
  show((aV (at_ S i)).foldl (kq D S r i) (C,some X)).2=some (ae ((aV (at_ S i)).foldl (kq D S r i) (C,some X)).2)
  generalize aV (at_ S i)=l
  induction l generalizing C X with
  |nil=>rfl
  |cons c l ih=>
   rw[lZ]
   unfold kq
   cases fM C i c with
   |true=>exact ih C X
   |false=>
    simp only[bg]
    have h:=yL D S r (i+1) (C.set i c) X
    have e:bp D S r (i+1) (C.set i c,some X)=((bp D S r (i+1) (C.set i c,some X)).1,some (ae (bp D S r (i+1) (C.set i c,some X)).2)):=by rw[←h]
    rw[e]
    exact ih _ _
theorem w8 {i:Nat}(h:0<i)(hb:i≤10):(w6.wrap ((i:Int)-1)).toNat=i-1:=by rw[wo];omega
theorem XP {C:LC}{i:Nat}{c:Con}(h:c.odd=false):fM C i c=false:=by unfold fM;rw[h];rfl
theorem Iz {C:LC}{i:Nat}{c:Con}(h:(c.oddity==0)=true):fM C i c=false:=by unfold fM;rw[eq_of_beq h];simp
theorem XQ {C:LC}{i:Nat}{c:Con}(h:decide ((i:Int)>0)=false):fM C i c=false:=by
 have:=oF h
 unfold fM;rw[show decide (0<i)=false from bu om];simp
theorem XR {C:LC}{i:Nat}{c:Con}(hb:i≤10)(h0:decide ((i:Int)>0)=true)(h:(C.getD (w6.wrap ((i:Int)-1)).toNat z0c).odd=false):fM C i c=false:=by
 have:=oT h0
 rw[w8 om hb]at h
 have h:(at_ C (i-1)).odd=false:=h
 unfold fM;rw[h];simp
theorem XS {C:LC}{i:Nat}{c:Con}(hb:i≤10)(h0:decide ((i:Int)>0)=true)(h:(w6.wrap ((C.getD (w6.wrap ((i:Int)-1)).toNat z0c).exp+1)==c.exp)=false):fM C i c=false:=by
 have:=oT h0
 rw[w8 om hb]at h
 have h:(w6.wrap ((at_ C (i-1)).exp+1)==c.exp)=false:=h
 unfold fM;rw[show decide (w6.wrap ((at_ C (i-1)).exp+1)=c.exp)=false from bu (bJ.1 h)];simp
theorem AB {C:LC}{i:Nat}{c:Con}(hb:i≤10)(h1:c.odd=true)(h2:(c.oddity==0)=false)(h0:decide ((i:Int)>0)=true)(h4:(C.getD (w6.wrap ((i:Int)-1)).toNat z0c).odd=true)(h:(w6.wrap ((C.getD (w6.wrap ((i:Int)-1)).toNat z0c).exp+1)==c.exp)=true):fM C i c=true:=by
 have:=oT h0
 rw[w8 om hb]at h h4
 have h:(w6.wrap ((at_ C (i-1)).exp+1)==c.exp)=true:=h
 have h4:(at_ C (i-1)).odd=true:=h4
 unfold fM;rw[h1,h4,show decide (c.oddity=0)=false from bu (bJ.1 h2),show decide (0<i)=true from bZ om,show decide (w6.wrap ((at_ C (i-1)).exp+1)=c.exp)=true from bZ (eq_of_beq h)];rfl
theorem S8 (c:Con):0<(aV c).length:=by
 unfold aV
 cases decide (c.dim%2=0)<;>simp
theorem XT {c:Con}(h:c.oddity=0):((aV c).getD 0 z0c).oddity=0:=by
 unfold aV
 cases decide (c.dim%2=0)with
 |true=>exact h
 |false=>rfl
theorem V0 {S:LC}{i:Nat}(hi:i<S.length):at_ S i∈S:=by
 have:at_ S i=S[i]:=by simp[at_,hi]
 rw[this];exact fp hi
def iB (D:Int)(S:LC)(r i:Nat)(C:LC)(o:Option LL)(k:Nat)(C1:LC)(o1:Option LL):Prop:=k≤(aV (at_ S i)).length∧mI D S r i (C,o) k=(C1,o1)∧cM D S (r+1) i C o∧C1.length=C.length
section
variable {D:Int}{S:LC}{r i:Nat}{C:LC}{o:Option LL}{k:Nat}{C1:LC}{o1:Option LL}
theorem IA (hc:cM D S (r+1) i C o):iB D S r i C o 0 C o:=⟨aY _,rfl,hc,rfl⟩
theorem IB (hI:iB D S r i C o k C1 o1):i≤10∧i<C1.length∧k≤9∧C1.length≤10:=by
 obtain⟨h1,h2,⟨h3,h4,h5,h6,h7,h8,h9⟩,h10⟩:=hI
 have:=Tw (at_ S i)
 omega
theorem EO (hI:iB D S r i C o k C1 o1)(hk:k<(aV (at_ S i)).length)(hb:fM C1 i ((aV (at_ S i)).getD k z0c)=true):iB D S r i C o (k+1) C1 o1:=by
 obtain⟨h1,h2,h3,h4⟩:=hI
 exact⟨hk,by rw[Iy hk,h2];unfold kq;rw[hb];rfl,h3,h4⟩
theorem uC (hI:iB D S r i C o k C1 o1)(hk:k<(aV (at_ S i)).length)(hb:fM C1 i ((aV (at_ S i)).getD k z0c)=false):iB D S r i C o (k+1) (bp D S r (i+1) (C1.set i ((aV (at_ S i)).getD k z0c),o1)).1 (bp D S r (i+1) (C1.set i ((aV (at_ S i)).getD k z0c),o1)).2:=by
 obtain⟨h1,h2,h3,h4⟩:=hI
 exact⟨hk,by rw[Iy hk,h2];unfold kq;rw[hb];rfl,h3,by rw[zw,fm];exact h4⟩
theorem V5 (hI:iB D S r i C o k C1 o1)(hk:k<(aV (at_ S i)).length)(hb:fM C1 i ((aV (at_ S i)).getD k z0c)=false):cM D S r (i+1) (C1.set i ((aV (at_ S i)).getD k z0c)) o1:=by
 have hI':=uC hI hk hb
 obtain⟨h1,h2,⟨h3,h4,h5,h6,h7,h8,h9⟩,h10⟩:=hI
 have hg:=VZ (D:=D) (S:=S) (r:=r) (i:=i) (k:=k+1) (s:=(C,o))
 rw[hI'.2.1]at hg
 unfold cM
 rw[fm]
 exact⟨om,om,om,om,cU hg h7,h8,h9⟩
theorem AC (hI:iB D S r i C o k C1 o1)(hk:¬k<(aV (at_ S i)).length):bp D S (r+1) i (C,o)=(C1,o1):=by
 obtain⟨h1,h2,h3⟩:=hI
 rw[←XO (k:=k) om]
 exact h2
theorem XU (hI:iB D S r i C o k C1 o1)(hk:k<(aV (at_ S i)).length)(hb:fM C1 i ((aV (at_ S i)).getD k z0c)=false)(hn:(bp D S r (i+1) (C1.set i ((aV (at_ S i)).getD k z0c),o1)).2.isNone=true):iB D S r i C o (k+1) (bp D S r (i+1) (C1.set i ((aV (at_ S i)).getD k z0c),o1)).1 none:=by
 have:=uC hI hk hb
 rw[isN hn]at this
 exact this
theorem XV (hI:iB D S r i C o k C1 o1)(hk:k<(aV (at_ S i)).length)(hb:fM C1 i ((aV (at_ S i)).getD k z0c)=false)(hn:(bp D S r (i+1) (C1.set i ((aV (at_ S i)).getD k z0c),o1)).2.isNone=false):iB D S r i C o (k+1) (bp D S r (i+1) (C1.set i ((aV (at_ S i)).getD k z0c),o1)).1 (some (ae (bp D S r (i+1) (C1.set i ((aV (at_ S i)).getD k z0c),o1)).2)):=by
 have:=uC hI hk hb
 rw[mt hn]at this
 exact this
theorem IC {X:LL}(hI:iB D S r i C o k C1 (some X))(hk:k<(aV (at_ S i)).length)(hb:fM C1 i ((aV (at_ S i)).getD k z0c)=false):iB D S r i C o (k+1) (bp D S r (i+1) (C1.set i ((aV (at_ S i)).getD k z0c),some X)).1 (some (ae (bp D S r (i+1) (C1.set i ((aV (at_ S i)).getD k z0c),some X)).2)):=by
 have:=uC hI hk hb
 rw[yL]at this
 exact this
theorem V6 (hI:iB D S r i C o 0 C1 o1):fM C1 i ((aV (at_ S i)).getD 0 z0c)=false:=by
 obtain⟨h1,h2,⟨h3,h4,h5,h6,h7,h8,h9,h10⟩,h11⟩:=hI
 exact Iz (by rw[XT (h10 _ (V0 om))];rfl)
end
def aa8 (D:Int)(S:LC)(r i:Nat)(C:LC)(X:LL):aA:=⟨⟨qY S i (.int .i64 0),jT D S C (some X) 1010,1200⟩,none,fun _=>(.exit 0,⟨[],jT D S (bp D S (r+1) i (C,some X)).1 (some (ae (bp D S (r+1) i (C,some X)).2)) 1210,1300⟩)⟩
set_option maxHeartbeats 4000000 in
abbrev w9 (D:Int)(S:LC)(r:Nat)(i:Nat)(C1:LC)(k:Nat)(X:LL):=bp D S r (i+1) (C1.set i ((aV (at_ S i)).getD k z0c),some X)
abbrev gH (D:Int)(S:LC)(r:Nat)(i:Nat)(C1:LC)(k:Nat):=bp D S r (i+1) (C1.set i ((aV (at_ S i)).getD k z0c),none)
abbrev du (S:LC)(i:Nat)(k:Nat):=(aV (at_ S i)).getD k z0c
abbrev mD (k:Nat)(D:Int)(S:LC)(r:Nat)(i:Nat)(C1:LC)(X:LL):=(k+1,(w9 D S r i C1 k X).1,some (ae (w9 D S r i C1 k X).2))
abbrev mE (k:Nat)(D:Int)(S:LC)(r:Nat)(i:Nat)(C1:LC):=(k+1,(gH D S r i C1 k).1,some (ae (gH D S r i C1 k).2))
theorem XW (D:Int)(S:LC)(r i:Nat)(C:LC)(hc:cM D S (r+1) i C none)(ih:∀C o,cM D S r (i+1) C o→aJ Tryz.prog EV.ng (ks D S r (i+1) C o)):An 5 Tryz.f77 [0,1,1] (aa7 D S r i C):=by
 refine ea (cF (cV (G1 ih) (dL _ _))) aC (aa5 D S i) (fun q=>(aV (at_ S i)).length-q.1) (fun _ q=>iB D S r i C none q.1 q.2.1 q.2.2) ?_ ?_
 ·intro d hd
  exact st (0,C,none) (let t1:=aV (at_ S i);[rq (↑i:Int),lq t1,rq (↑t1.length:Int),(0:Int)=↑(0:Nat),rq C.length,C=C,rq S.length,D=D,S=S]) (by refine⟨?_,?_,?_,?_,?_,?_,?_,?_,(?_:S=S)⟩<;>(first|exact tv)) (by exact IA hc)
 ·rintro d hd ⟨k,C1,o⟩ hI
  have hj:=IB hI
  simp only at hj
  obtain⟨hi1,hi2,hi3,hi4⟩:=hj
  have ek:=wk k
  have ei:=wk i
  rcases o with _|X
  rotate_right
  refine(let q1:List Prop→List Prop:=fun l0=>(let v2:=aV (at_ S i);let v1:=(bp D S r (i+1) (C1.set i (v2.getD k z0c),some X));let v3:=C1.set i (v2.getD k z0c);rq (↑i:Int)::(lq v2)::rq (↑v2.length:Int)::(w6.wrap ((↑k:Int)+1)=↑(k+1))::rq (v1.fst.length)::rq (v1.fst)::rq S.length::rq ((ae v1.snd).length)::(D=D)::(S=S)::rq (ae v1.snd)::(cM D S r (i+1) v3 (some X))::(w6.wrap ((↑i:Int)+1)=↑(i+1))::(C1.length=v3.length)::rq v3::rq S.length::rq X.length::(D=D)::(S=S)::(X=X)::(i<C1.length)::((0:Int)≤↑i∧(↑i:Int)<↑C1.length)::l0);oe (decide ((↑k:Int)<(↑(aV (at_ S i)).length:Int))) (fun d1=>let y1:List Prop:=[(0:Int)≤↑k∧(↑k:Int)<(↑(aV (at_ S i)).length:Int),ty d1];have u1:ao y1:=⟨?_,d1⟩;oe (decide ((↑i:Int)>0)) (fun d2=>let y2:List Prop:=(let v1:=(↑i:Int)-1;((w6.wrap v1).toNat<C1.length)::((0:Int)≤w6.wrap v1∧w6.wrap v1<↑C1.length)::ty d2::y1);have u2:ao y2:=⟨?_,?_,d2,u1⟩;oe ((C1.getD (w6.wrap ((↑i:Int)-1)).toNat z0c).odd) (fun d3=>let y3:List Prop:=(let v1:=(↑i:Int)-1;((w6.wrap v1).toNat<C1.length)::((0:Int)≤w6.wrap v1∧w6.wrap v1<↑C1.length)::ty d3::y2);have u3:ao y3:=⟨?_,?_,d3,u2⟩;oe ((du S i k).odd) (fun d4=>oe ((du S i k).oddity==0) (fun d5=>aq (tp 11112) (mD k D S r i C1 X) (q1 (ty (dN d5)::ty d4::y3)) ?_ ?_ ?_)
   (fun d5=>oe (w6.wrap ((C1.getD (w6.wrap ((↑i:Int)-1)).toNat z0c).exp+1)==(du S i k).exp) (fun d6=>aq (tp 111111) (k+1,C1,some X) (let v1:=aV (at_ S i);rq (↑i:Int)::(lq v1)::rq (↑v1.length:Int)::(w6.wrap ((↑k:Int)+1)=↑(k+1))::rq C1.length::(C1=C1)::rq S.length::rq X.length::(D=D)::(S=S)::(X=X)::ty d6::ty (dN d5)::ty d4::y3) ?_ ?_ ?_)
   (fun d6=>aq (tp 111112) (mD k D S r i C1 X) (q1 (ty d6::ty (dN d5)::ty d4::y3)) ?_ ?_ ?_)))
   (fun d4=>aq (tp 1112) (mD k D S r i C1 X) (q1 (ty d4::y3)) ?_ ?_ ?_))
   (fun d3=>oe ((du S i k).odd) (fun d4=>oe ((du S i k).oddity==0) (fun d5=>aq (tp 11212) (mD k D S r i C1 X) (q1 (ty (dN d5)::ty d4::ty d3::y2)) ?_ ?_ ?_)
   (fun d5=>aq (tp 11211) (mD k D S r i C1 X) (q1 (ty (dN d5)::ty d4::ty d3::y2)) ?_ ?_ ?_))
   (fun d4=>aq (tp 1122) (mD k D S r i C1 X) (q1 (ty d4::ty d3::y2)) ?_ ?_ ?_)))
   (fun d2=>oe ((du S i k).odd) (fun d3=>oe ((du S i k).oddity==0) (fun d4=>aq (tp 1212) (mD k D S r i C1 X) (q1 (ty (dN d4)::ty d3::ty d2::y1)) ?_ ?_ ?_)
   (fun d4=>aq (tp 1211) (mD k D S r i C1 X) (q1 (ty (dN d4)::ty d3::ty d2::y1)) ?_ ?_ ?_))
   (fun d3=>aq (tp 122) (mD k D S r i C1 X) (q1 (ty d3::ty d2::y1)) ?_ ?_ ?_)))
   (fun d1=>aG d false [false] (let v1:=(bp D S (r+1) i (C,none));[C1.length=v1.fst.length,C1=v1.fst,rq S.length,X.length=(ae v1.snd).length,D=D,S=S,X=ae v1.snd,ty d1]) ⟨?_,?_,?_,?_,?_,?_,?_,d1⟩ ?_))
  all_goals with_reducible repeat' first|exact dA|refine bk ?_ ?_|refine bm ?_
  rotate_right
  refine(let q1:List Prop→List Prop:=fun l0=>(let v1:=aV (at_ S i);let v2:=(bp D S r (i+1) (C1.set i (v1.getD k z0c),none));rq (↑i:Int)::(lq v1)::rq (↑v1.length:Int)::(w6.wrap ((↑k:Int)+1)=↑(k+1))::rq (v2.fst.length)::rq (v2.fst)::rq S.length::l0);oe (decide ((↑k:Int)<(↑(aV (at_ S i)).length:Int))) (fun d1=>let y1:List Prop:=[(0:Int)≤↑k∧(↑k:Int)<(↑(aV (at_ S i)).length:Int),ty d1];have u1:ao y1:=⟨?_,d1⟩;oe (decide ((↑i:Int)>0)) (fun d2=>let y2:List Prop:=(let v1:=(↑i:Int)-1;((w6.wrap v1).toNat<C1.length)::((0:Int)≤w6.wrap v1∧w6.wrap v1<↑C1.length)::ty d2::y1);have u2:ao y2:=⟨?_,?_,d2,u1⟩;oe ((C1.getD (w6.wrap ((↑i:Int)-1)).toNat z0c).odd) (fun d3=>let y3:List Prop:=(let v1:=(↑i:Int)-1;((w6.wrap v1).toNat<C1.length)::((0:Int)≤w6.wrap v1∧w6.wrap v1<↑C1.length)::ty d3::y2);have u3:ao y3:=⟨?_,?_,d3,u2⟩;oe ((du S i k).odd) (fun d4=>oe ((du S i k).oddity==0) (fun d5=>let y4:List Prop:=(i<C1.length)::((0:Int)≤↑i∧(↑i:Int)<↑C1.length)::ty (dN d5)::ty d4::y3;have u4:ao y4:=⟨?_,?_,(dN d5),d4,u3⟩;oe ((gH D S r i C1 k).snd.isNone) (fun d6=>aq (tp 111121) (k+1,(gH D S r i C1 k).1,none) (q1 (let v1:=C1.set i (du S i k);(D=D)::(S=S)::(cM D S r (i+1) v1 none)::(w6.wrap ((↑i:Int)+1)=↑(i+1))::(C1.length=v1.length)::rq v1::rq S.length::(D=D)::(S=S)::ty d6::y4)) ?_ ?_ ?_)
   (fun d6=>aq (tp 111122) (mE k D S r i C1) (q1 (let v1:=(aV (at_ S i)).getD k z0c;let v2:=(ae (bp D S r (i+1) (C1.set i v1,none)).snd);rq (v2.length)::(D=D)::(S=S)::rq v2::(cM D S r (i+1) (C1.set i v1) none)::(w6.wrap ((↑i:Int)+1)=↑(i+1))::(C1.length=(C1.set i v1).length)::rq (C1.set i v1)::rq S.length::(D=D)::(S=S)::ty d6::y4)) ?_ ?_ ?_))
   (fun d5=>oe (w6.wrap ((C1.getD (w6.wrap ((↑i:Int)-1)).toNat z0c).exp+1)==(du S i k).exp) (fun d6=>aq (tp 111111) (k+1,C1,none) (let v1:=aV (at_ S i);rq (↑i:Int)::(lq v1)::rq (↑v1.length:Int)::(w6.wrap ((↑k:Int)+1)=↑(k+1))::rq C1.length::(C1=C1)::rq S.length::(D=D)::(S=S)::ty d6::ty (dN d5)::ty d4::y3) ?_ ?_ ?_)
   (fun d6=>let y4:List Prop:=(i<C1.length)::((0:Int)≤↑i∧(↑i:Int)<↑C1.length)::ty d6::ty (dN d5)::ty d4::y3;have u4:ao y4:=⟨?_,?_,d6,(dN d5),d4,u3⟩;oe ((gH D S r i C1 k).snd.isNone) (fun d7=>aq (tp 1111121) (k+1,(gH D S r i C1 k).1,none) (q1 (let v1:=C1.set i (du S i k);(D=D)::(S=S)::(cM D S r (i+1) v1 none)::(w6.wrap ((↑i:Int)+1)=↑(i+1))::(C1.length=v1.length)::rq v1::rq S.length::(D=D)::(S=S)::ty d7::y4)) ?_ ?_ ?_)
   (fun d7=>aq (tp 1111122) (mE k D S r i C1) (q1 (let v1:=(aV (at_ S i)).getD k z0c;let v2:=(ae (bp D S r (i+1) (C1.set i v1,none)).snd);rq (v2.length)::(D=D)::(S=S)::rq v2::(cM D S r (i+1) (C1.set i v1) none)::(w6.wrap ((↑i:Int)+1)=↑(i+1))::(C1.length=(C1.set i v1).length)::rq (C1.set i v1)::rq S.length::(D=D)::(S=S)::ty d7::y4)) ?_ ?_ ?_))))
   (fun d4=>let y4:List Prop:=(i<C1.length)::((0:Int)≤↑i∧(↑i:Int)<↑C1.length)::ty d4::y3;have u4:ao y4:=⟨?_,?_,d4,u3⟩;oe ((gH D S r i C1 k).snd.isNone) (fun d5=>aq (tp 11121) (k+1,(gH D S r i C1 k).1,none) (q1 (let v1:=C1.set i (du S i k);(D=D)::(S=S)::(cM D S r (i+1) v1 none)::(w6.wrap ((↑i:Int)+1)=↑(i+1))::(C1.length=v1.length)::rq v1::rq S.length::(D=D)::(S=S)::ty d5::y4)) ?_ ?_ ?_)
   (fun d5=>aq (tp 11122) (mE k D S r i C1) (q1 (let v1:=(aV (at_ S i)).getD k z0c;let v2:=(ae (bp D S r (i+1) (C1.set i v1,none)).snd);rq (v2.length)::(D=D)::(S=S)::rq v2::(cM D S r (i+1) (C1.set i v1) none)::(w6.wrap ((↑i:Int)+1)=↑(i+1))::(C1.length=(C1.set i v1).length)::rq (C1.set i v1)::rq S.length::(D=D)::(S=S)::ty d5::y4)) ?_ ?_ ?_)))
   (fun d3=>oe ((du S i k).odd) (fun d4=>oe ((du S i k).oddity==0) (fun d5=>let y3:List Prop:=(i<C1.length)::((0:Int)≤↑i∧(↑i:Int)<↑C1.length)::ty (dN d5)::ty d4::ty d3::y2;have u3:ao y3:=⟨?_,?_,(dN d5),d4,d3,u2⟩;oe ((gH D S r i C1 k).snd.isNone) (fun d6=>aq (tp 112121) (k+1,(gH D S r i C1 k).1,none) (q1 (let v1:=C1.set i (du S i k);(D=D)::(S=S)::(cM D S r (i+1) v1 none)::(w6.wrap ((↑i:Int)+1)=↑(i+1))::(C1.length=v1.length)::rq v1::rq S.length::(D=D)::(S=S)::ty d6::y3)) ?_ ?_ ?_)
   (fun d6=>aq (tp 112122) (mE k D S r i C1) (q1 (let v1:=(aV (at_ S i)).getD k z0c;let v2:=(ae (bp D S r (i+1) (C1.set i v1,none)).snd);rq (v2.length)::(D=D)::(S=S)::rq v2::(cM D S r (i+1) (C1.set i v1) none)::(w6.wrap ((↑i:Int)+1)=↑(i+1))::(C1.length=(C1.set i v1).length)::rq (C1.set i v1)::rq S.length::(D=D)::(S=S)::ty d6::y3)) ?_ ?_ ?_))
   (fun d5=>let y3:List Prop:=(i<C1.length)::((0:Int)≤↑i∧(↑i:Int)<↑C1.length)::ty (dN d5)::ty d4::ty d3::y2;have u3:ao y3:=⟨?_,?_,(dN d5),d4,d3,u2⟩;oe ((gH D S r i C1 k).snd.isNone) (fun d6=>aq (tp 112111) (k+1,(gH D S r i C1 k).1,none) (q1 (let v1:=C1.set i (du S i k);(D=D)::(S=S)::(cM D S r (i+1) v1 none)::(w6.wrap ((↑i:Int)+1)=↑(i+1))::(C1.length=v1.length)::rq v1::rq S.length::(D=D)::(S=S)::ty d6::y3)) ?_ ?_ ?_)
   (fun d6=>aq (tp 112112) (mE k D S r i C1) (q1 (let v1:=(aV (at_ S i)).getD k z0c;let v2:=(ae (bp D S r (i+1) (C1.set i v1,none)).snd);rq (v2.length)::(D=D)::(S=S)::rq v2::(cM D S r (i+1) (C1.set i v1) none)::(w6.wrap ((↑i:Int)+1)=↑(i+1))::(C1.length=(C1.set i v1).length)::rq (C1.set i v1)::rq S.length::(D=D)::(S=S)::ty d6::y3)) ?_ ?_ ?_)))
   (fun d4=>let y3:List Prop:=(i<C1.length)::((0:Int)≤↑i∧(↑i:Int)<↑C1.length)::ty d4::ty d3::y2;have u3:ao y3:=⟨?_,?_,d4,d3,u2⟩;oe ((gH D S r i C1 k).snd.isNone) (fun d5=>aq (tp 11221) (k+1,(gH D S r i C1 k).1,none) (q1 (let v1:=C1.set i (du S i k);(D=D)::(S=S)::(cM D S r (i+1) v1 none)::(w6.wrap ((↑i:Int)+1)=↑(i+1))::(C1.length=v1.length)::rq v1::rq S.length::(D=D)::(S=S)::ty d5::y3)) ?_ ?_ ?_)
   (fun d5=>aq (tp 11222) (mE k D S r i C1) (q1 (let v1:=(aV (at_ S i)).getD k z0c;let v2:=(ae (bp D S r (i+1) (C1.set i v1,none)).snd);rq (v2.length)::(D=D)::(S=S)::rq v2::(cM D S r (i+1) (C1.set i v1) none)::(w6.wrap ((↑i:Int)+1)=↑(i+1))::(C1.length=(C1.set i v1).length)::rq (C1.set i v1)::rq S.length::(D=D)::(S=S)::ty d5::y3)) ?_ ?_ ?_))))
   (fun d2=>oe ((du S i k).odd) (fun d3=>oe ((du S i k).oddity==0) (fun d4=>let y2:List Prop:=(i<C1.length)::((0:Int)≤↑i∧(↑i:Int)<↑C1.length)::ty (dN d4)::ty d3::ty d2::y1;have u2:ao y2:=⟨?_,?_,(dN d4),d3,d2,u1⟩;oe ((gH D S r i C1 k).snd.isNone) (fun d5=>aq (tp 12121) (k+1,(gH D S r i C1 k).1,none) (q1 (let v1:=C1.set i (du S i k);(D=D)::(S=S)::(cM D S r (i+1) v1 none)::(w6.wrap ((↑i:Int)+1)=↑(i+1))::(C1.length=v1.length)::rq v1::rq S.length::(D=D)::(S=S)::ty d5::y2)) ?_ ?_ ?_)
   (fun d5=>aq (tp 12122) (mE k D S r i C1) (q1 (let v1:=(aV (at_ S i)).getD k z0c;let v2:=(ae (bp D S r (i+1) (C1.set i v1,none)).snd);rq (v2.length)::(D=D)::(S=S)::rq v2::(cM D S r (i+1) (C1.set i v1) none)::(w6.wrap ((↑i:Int)+1)=↑(i+1))::(C1.length=(C1.set i v1).length)::rq (C1.set i v1)::rq S.length::(D=D)::(S=S)::ty d5::y2)) ?_ ?_ ?_))
   (fun d4=>let y2:List Prop:=(i<C1.length)::((0:Int)≤↑i∧(↑i:Int)<↑C1.length)::ty (dN d4)::ty d3::ty d2::y1;have u2:ao y2:=⟨?_,?_,(dN d4),d3,d2,u1⟩;oe ((gH D S r i C1 k).snd.isNone) (fun d5=>aq (tp 12111) (k+1,(gH D S r i C1 k).1,none) (q1 (let v1:=C1.set i (du S i k);(D=D)::(S=S)::(cM D S r (i+1) v1 none)::(w6.wrap ((↑i:Int)+1)=↑(i+1))::(C1.length=v1.length)::rq v1::rq S.length::(D=D)::(S=S)::ty d5::y2)) ?_ ?_ ?_)
   (fun d5=>aq (tp 12112) (mE k D S r i C1) (q1 (let v1:=(aV (at_ S i)).getD k z0c;let v2:=(ae (bp D S r (i+1) (C1.set i v1,none)).snd);rq (v2.length)::(D=D)::(S=S)::rq v2::(cM D S r (i+1) (C1.set i v1) none)::(w6.wrap ((↑i:Int)+1)=↑(i+1))::(C1.length=(C1.set i v1).length)::rq (C1.set i v1)::rq S.length::(D=D)::(S=S)::ty d5::y2)) ?_ ?_ ?_)))
   (fun d3=>let y2:List Prop:=(i<C1.length)::((0:Int)≤↑i∧(↑i:Int)<↑C1.length)::ty d3::ty d2::y1;have u2:ao y2:=⟨?_,?_,d3,d2,u1⟩;oe ((gH D S r i C1 k).snd.isNone) (fun d4=>aq (tp 1221) (k+1,(gH D S r i C1 k).1,none) (q1 (let v1:=C1.set i (du S i k);(D=D)::(S=S)::(cM D S r (i+1) v1 none)::(w6.wrap ((↑i:Int)+1)=↑(i+1))::(C1.length=v1.length)::rq v1::rq S.length::(D=D)::(S=S)::ty d4::y2)) ?_ ?_ ?_)
   (fun d4=>aq (tp 1222) (mE k D S r i C1) (q1 (let v1:=(aV (at_ S i)).getD k z0c;let v2:=(ae (bp D S r (i+1) (C1.set i v1,none)).snd);rq (v2.length)::(D=D)::(S=S)::rq v2::(cM D S r (i+1) (C1.set i v1) none)::(w6.wrap ((↑i:Int)+1)=↑(i+1))::(C1.length=(C1.set i v1).length)::rq (C1.set i v1)::rq S.length::(D=D)::(S=S)::ty d4::y2)) ?_ ?_ ?_))))
   (fun d1=>aG d true [false] (let v1:=(bp D S (r+1) i (C,none));[C1.length=v1.fst.length,C1=v1.fst,rq S.length,D=D,S=S,ty d1]) ⟨?_,?_,?_,?_,?_,d1⟩ ?_))
  all_goals with_reducible repeat' first|exact dA|refine bk ?_ ?_|refine bm ?_
  all_goals((try clear u4);(try clear y4);(try clear u3);(try clear y3);(try clear u2);(try clear y2);(try clear u1);(try clear y1))
  all_goals first|exact Mc|(refine bD.mk ?_;((have hk:k<(aV (at_ S i)).length:=bY;first|exact EO hI hk (AB hi1 aS aS aS aS aS)|exact XU hI hk tP aS|exact XV hI hk tP aS|exact IC hI hk tP)))|(refine dq.mk ?_;cases d<;>first|rfl|(exfalso;(first|(have hk:¬k<(aV (at_ S i)).length:=eZ;have e:=AC hI hk;have hd:(bp D S (r+1) i (C,none)).2.isNone=_:=hd;rw[e]at hd;cases hd))))|exact Nn
set_option maxHeartbeats 4000000 in
abbrev ig (k:Nat)(D:Int)(S:LC)(r:Nat)(i:Nat)(C1:LC)(X:LL):=(k+1,(w9 D S r i C1 k X).1,ae (w9 D S r i C1 k X).2,true)
theorem XX (D:Int)(S:LC)(r i:Nat)(C:LC)(X0:LL)(hc:cM D S (r+1) i C (some X0))(ih:∀C o,cM D S r (i+1) C o→aJ Tryz.prog EV.ng (ks D S r (i+1) C o)):An 5 Tryz.f77 [0,1,1] (aa8 D S r i C X0):=by
 refine cN (cF (cV (G1 ih) (dL _ _))) aC (aa6 D S i) (fun q=>(aV (at_ S i)).length-q.1) (fun q=>iB D S r i C (some X0) q.1 q.2.1 (some q.2.2.1)∧(q.2.2.2=false→q.1=0)) ?_ ?_
 ·exact st (0,C,X0,false) (let t1:=aV (at_ S i);[rq (↑i:Int),lq t1,rq (↑t1.length:Int),(0:Int)=↑(0:Nat),rq C.length,C=C,rq S.length,rq X0.length,D=D,S=S,X0=X0]) (by refine⟨?_,?_,?_,?_,?_,?_,?_,?_,?_,?_,(?_:X0=X0)⟩<;>(first|exact tv)) (by exact⟨IA hc,fun _=>rfl⟩)
 ·rintro ⟨k,C1,X,fl⟩ hI
  obtain⟨hI,hfl⟩:=hI
  simp only at hI hfl
  have hj:=IB hI
  obtain⟨hi1,hi2,hi3,hi4⟩:=hj
  have ek:=wk k
  have ei:=wk i
  rcases fl with _|_
  rotate_right
  refine(let q1:List Prop→List Prop:=fun l0=>(let v2:=aV (at_ S i);let v1:=(bp D S r (i+1) (C1.set i (v2.getD k z0c),some X));let v3:=C1.set i (v2.getD k z0c);rq (↑i:Int)::(lq v2)::rq (↑v2.length:Int)::(w6.wrap ((↑k:Int)+1)=↑(k+1))::rq (v1.fst.length)::rq (v1.fst)::rq S.length::rq ((ae v1.snd).length)::(D=D)::(S=S)::rq (ae v1.snd)::(cM D S r (i+1) v3 (some X))::(w6.wrap ((↑i:Int)+1)=↑(i+1))::(C1.length=v3.length)::rq v3::rq S.length::rq X.length::(D=D)::(S=S)::(X=X)::(i<C1.length)::((0:Int)≤↑i∧(↑i:Int)<↑C1.length)::l0);oe (decide ((↑k:Int)<(↑(aV (at_ S i)).length:Int))) (fun d1=>let y1:List Prop:=[(0:Int)≤↑k∧(↑k:Int)<(↑(aV (at_ S i)).length:Int),ty d1];have u1:ao y1:=⟨?_,d1⟩;oe (decide ((↑i:Int)>0)) (fun d2=>let y2:List Prop:=(let v1:=(↑i:Int)-1;((w6.wrap v1).toNat<C1.length)::((0:Int)≤w6.wrap v1∧w6.wrap v1<↑C1.length)::ty d2::y1);have u2:ao y2:=⟨?_,?_,d2,u1⟩;oe ((C1.getD (w6.wrap ((↑i:Int)-1)).toNat z0c).odd) (fun d3=>let y3:List Prop:=(let v1:=(↑i:Int)-1;((w6.wrap v1).toNat<C1.length)::((0:Int)≤w6.wrap v1∧w6.wrap v1<↑C1.length)::ty d3::y2);have u3:ao y3:=⟨?_,?_,d3,u2⟩;oe ((du S i k).odd) (fun d4=>oe ((du S i k).oddity==0) (fun d5=>aq (tp 11112) (ig k D S r i C1 X) (q1 (ty (dN d5)::ty d4::y3)) ?_ ?_ ?_)
   (fun d5=>oe (w6.wrap ((C1.getD (w6.wrap ((↑i:Int)-1)).toNat z0c).exp+1)==(du S i k).exp) (fun d6=>aq (tp 111111) (k+1,C1,X,true) (let v1:=aV (at_ S i);rq (↑i:Int)::(lq v1)::rq (↑v1.length:Int)::(w6.wrap ((↑k:Int)+1)=↑(k+1))::rq C1.length::(C1=C1)::rq S.length::rq X.length::(D=D)::(S=S)::(X=X)::ty d6::ty (dN d5)::ty d4::y3) ?_ ?_ ?_)
   (fun d6=>aq (tp 111112) (ig k D S r i C1 X) (q1 (ty d6::ty (dN d5)::ty d4::y3)) ?_ ?_ ?_)))
   (fun d4=>aq (tp 1112) (ig k D S r i C1 X) (q1 (ty d4::y3)) ?_ ?_ ?_))
   (fun d3=>oe ((du S i k).odd) (fun d4=>oe ((du S i k).oddity==0) (fun d5=>aq (tp 11212) (ig k D S r i C1 X) (q1 (ty (dN d5)::ty d4::ty d3::y2)) ?_ ?_ ?_)
   (fun d5=>aq (tp 11211) (ig k D S r i C1 X) (q1 (ty (dN d5)::ty d4::ty d3::y2)) ?_ ?_ ?_))
   (fun d4=>aq (tp 1122) (ig k D S r i C1 X) (q1 (ty d4::ty d3::y2)) ?_ ?_ ?_)))
   (fun d2=>oe ((du S i k).odd) (fun d3=>oe ((du S i k).oddity==0) (fun d4=>aq (tp 1212) (ig k D S r i C1 X) (q1 (ty (dN d4)::ty d3::ty d2::y1)) ?_ ?_ ?_)
   (fun d4=>aq (tp 1211) (ig k D S r i C1 X) (q1 (ty (dN d4)::ty d3::ty d2::y1)) ?_ ?_ ?_))
   (fun d3=>aq (tp 122) (ig k D S r i C1 X) (q1 (ty d3::ty d2::y1)) ?_ ?_ ?_)))
   (fun d1=>br [false] (let v1:=(bp D S (r+1) i (C,some X0));[C1.length=v1.fst.length,C1=v1.fst,rq S.length,X.length=(ae v1.snd).length,D=D,S=S,X=ae v1.snd,ty d1]) ?_))
  all_goals with_reducible repeat' first|exact dA|refine bk ?_ ?_|refine bm ?_
  rotate_right
  refine(let q1:List Prop→List Prop:=fun l0=>(let v2:=aV (at_ S i);let v1:=(bp D S r (i+1) (C1.set i (v2.getD k z0c),some X));let v3:=C1.set i (v2.getD k z0c);rq (↑i:Int)::(lq v2)::rq (↑v2.length:Int)::(w6.wrap ((↑k:Int)+1)=↑(k+1))::rq (v1.fst.length)::rq (v1.fst)::rq S.length::rq ((ae v1.snd).length)::(D=D)::(S=S)::rq (ae v1.snd)::(cM D S r (i+1) v3 (some X))::(w6.wrap ((↑i:Int)+1)=↑(i+1))::(C1.length=v3.length)::rq v3::rq S.length::rq X.length::(D=D)::(S=S)::(X=X)::(i<C1.length)::((0:Int)≤↑i∧(↑i:Int)<↑C1.length)::l0);oe (decide ((↑k:Int)<(↑(aV (at_ S i)).length:Int))) (fun d1=>let y1:List Prop:=[(0:Int)≤↑k∧(↑k:Int)<(↑(aV (at_ S i)).length:Int),ty d1];have u1:ao y1:=⟨?_,d1⟩;oe (decide ((↑i:Int)>0)) (fun d2=>let y2:List Prop:=(let v1:=(↑i:Int)-1;((w6.wrap v1).toNat<C1.length)::((0:Int)≤w6.wrap v1∧w6.wrap v1<↑C1.length)::ty d2::y1);have u2:ao y2:=⟨?_,?_,d2,u1⟩;oe ((C1.getD (w6.wrap ((↑i:Int)-1)).toNat z0c).odd) (fun d3=>let y3:List Prop:=(let v1:=(↑i:Int)-1;((w6.wrap v1).toNat<C1.length)::((0:Int)≤w6.wrap v1∧w6.wrap v1<↑C1.length)::ty d3::y2);have u3:ao y3:=⟨?_,?_,d3,u2⟩;oe ((du S i k).odd) (fun d4=>oe ((du S i k).oddity==0) (fun d5=>aq (tp 11112) (ig k D S r i C1 X) (q1 (ty (dN d5)::ty d4::y3)) ?_ ?_ ?_)
   (fun d5=>oe (w6.wrap ((C1.getD (w6.wrap ((↑i:Int)-1)).toNat z0c).exp+1)==(du S i k).exp) (fun d6=>aq (tp 111111) (k+1,C1,X,false) (let v1:=aV (at_ S i);rq (↑i:Int)::(lq v1)::rq (↑v1.length:Int)::(w6.wrap ((↑k:Int)+1)=↑(k+1))::rq C1.length::(C1=C1)::rq S.length::rq X.length::(D=D)::(S=S)::(X=X)::ty d6::ty (dN d5)::ty d4::y3) ?_ ?_ ?_)
   (fun d6=>aq (tp 111112) (ig k D S r i C1 X) (q1 (ty d6::ty (dN d5)::ty d4::y3)) ?_ ?_ ?_)))
   (fun d4=>aq (tp 1112) (ig k D S r i C1 X) (q1 (ty d4::y3)) ?_ ?_ ?_))
   (fun d3=>oe ((du S i k).odd) (fun d4=>oe ((du S i k).oddity==0) (fun d5=>aq (tp 11212) (ig k D S r i C1 X) (q1 (ty (dN d5)::ty d4::ty d3::y2)) ?_ ?_ ?_)
   (fun d5=>aq (tp 11211) (ig k D S r i C1 X) (q1 (ty (dN d5)::ty d4::ty d3::y2)) ?_ ?_ ?_))
   (fun d4=>aq (tp 1122) (ig k D S r i C1 X) (q1 (ty d4::ty d3::y2)) ?_ ?_ ?_)))
   (fun d2=>oe ((du S i k).odd) (fun d3=>oe ((du S i k).oddity==0) (fun d4=>aq (tp 1212) (ig k D S r i C1 X) (q1 (ty (dN d4)::ty d3::ty d2::y1)) ?_ ?_ ?_)
   (fun d4=>aq (tp 1211) (ig k D S r i C1 X) (q1 (ty (dN d4)::ty d3::ty d2::y1)) ?_ ?_ ?_))
   (fun d3=>aq (tp 122) (ig k D S r i C1 X) (q1 (ty d3::ty d2::y1)) ?_ ?_ ?_)))
   (fun d1=>br [false] (let v1:=(bp D S (r+1) i (C,some X0));[C1.length=v1.fst.length,C1=v1.fst,rq S.length,X.length=(ae v1.snd).length,D=D,S=S,X=ae v1.snd,ty d1]) ?_))
  all_goals with_reducible repeat' first|exact dA|refine bk ?_ ?_|refine bm ?_
  all_goals((try clear u3);(try clear y3);(try clear u2);(try clear y2);(try clear u1);(try clear y1))
  all_goals first|exact Mc|(refine bD.mk ?_;((have hk:k<(aV (at_ S i)).length:=bY;first|(refine⟨IC hI hk tP,?_⟩;intro h;cases h;done)|(refine⟨EO hI hk (AB hi1 aS aS aS aS aS),?_⟩;intro h;cases h;done)|(have h0:=hfl rfl;subst h0;exact(Bool.noConfusion ((V6 hI).symm.trans (AB hi1 aS aS aS aS aS)))))))|(refine aT.mk ?_;(first|(have hk:¬k<(aV (at_ S i)).length:=eZ;have h0:=hfl rfl;subst h0;have:=S8 (at_ S i);omega)))|exact Nn
theorem Y9 (D:Int)(S:LC)(r i:Nat)(C:LC)(hc:cM D S (r+1) i C none)(ih:∀C o,cM D S r (i+1) C o→aJ Tryz.prog EV.ng (ks D S r (i+1) C o)):aJ Tryz.prog EV.ng (ks D S (r+1) i C none):=by
 have hcc:=hc
 obtain⟨hc1,hc2,hc3,hc4,hc5,hc6,hc7,hc8⟩:=hcc
 have hz:((i:Int)==(C.length:Int))=false:=bJ.2 om
 have h0:0≤(S.getD i z0c).dim:=Mu
 refine cQ (cE uv) Tryz.func77 (aW (XW D S r i C hc ih)) ?_
 intro d hd
 cases d
 rotate_right
 have hd:((bp D S (r+1) i (C,none)).2.isNone)=true:=hd
 refine oe ((bp D S (r+1) i (C,none)).snd.isNone) (fun d1=>lr [false,true] (let v1:=S.getD i z0c;let v2:=(bp D S (r+1) i (C,none));let v3:=aV (at_ S i);[rq (v2.fst.length),rq (v2.fst),rq S.length,D=D,S=S,rq (↑i:Int),(aV v1).length=v3.length∧(fun i_1=>((aV v1).getD i_1 z0c).rvs)=fun i_1=>(v3.getD i_1 z0c).rvs,(↑(aV v1).length:Int)=↑v3.length,rq C.length,C=C,rq S.length,D=D,S=S,ty d1,(0:Int)≤v1.dim,i<S.length,(0:Int)≤↑i∧(↑i:Int)<↑S.length,aj ((↑i:Int)==↑C.length) false]) ⟨?_,?_,?_,?_,?_,?_,?_,?_,?_,?_,?_,?_,?_,d1,?_,?_,?_,hz⟩)
  (fun d1=>aT.no ?_)
 rotate_right
 have hd:((bp D S (r+1) i (C,none)).2.isNone)=false:=hd
 refine oe ((bp D S (r+1) i (C,none)).snd.isNone) (fun d1=>aT.no ?_)
  (fun d1=>lr [false,false] (let v1:=(bp D S (r+1) i (C,none));let v2:=S.getD i z0c;let v3:=aV (at_ S i);[rq (v1.fst.length),rq (v1.fst),rq S.length,rq ((ae v1.snd).length),D=D,S=S,rq (ae v1.snd),rq (↑i:Int),(aV v2).length=v3.length∧(fun i_1=>((aV v2).getD i_1 z0c).rvs)=fun i_1=>(v3.getD i_1 z0c).rvs,(↑(aV v2).length:Int)=↑v3.length,rq C.length,C=C,rq S.length,D=D,S=S,ty d1,(0:Int)≤v2.dim,i<S.length,(0:Int)≤↑i∧(↑i:Int)<↑S.length,aj ((↑i:Int)==↑C.length) false]) ⟨?_,?_,?_,?_,?_,?_,?_,?_,?_,?_,?_,?_,?_,?_,?_,d1,?_,?_,?_,hz⟩)
 all_goals first|exact LW|(first|exact tv|omega|exact h0)
theorem Za (D:Int)(S:LC)(r i:Nat)(C:LC)(X:LL)(hc:cM D S (r+1) i C (some X))(ih:∀C o,cM D S r (i+1) C o→aJ Tryz.prog EV.ng (ks D S r (i+1) C o)):aJ Tryz.prog EV.ng (ks D S (r+1) i C (some X)):=by
 have hcc:=hc
 obtain⟨hc1,hc2,hc3,hc4,hc5,hc6,hc7,hc8⟩:=hcc
 have hz:((i:Int)==(C.length:Int))=false:=bJ.2 om
 have h0:0≤(S.getD i z0c).dim:=Mu
 refine cQ (cE uv) Tryz.func77 (aW (XX D S r i C X hc ih)) ?_
 intro d hd
 cases d
 ·exact Bool.noConfusion (show false=true from hd)
 ·refine lr [false] (let y1:=(bp D S (r+1) i (C,some X));let y2:=S.getD i z0c;let y3:=aV (at_ S i);[rq (y1.fst.length),rq (y1.fst),rq S.length,rq ((ae y1.snd).length),D=D,S=S,rq (ae y1.snd),rq (↑i:Int),(aV y2).length=y3.length∧(fun i_1=>((aV y2).getD i_1 z0c).rvs)=fun i_1=>(y3.getD i_1 z0c).rvs,(↑(aV y2).length:Int)=↑y3.length,rq C.length,C=C,rq S.length,rq X.length,D=D,S=S,X=X,(0:Int)≤y2.dim,i<S.length,(0:Int)≤↑i∧(↑i:Int)<↑S.length,aj ((↑i:Int)==↑C.length) false]) ⟨?_,?_,?_,?_,?_,?_,?_,?_,?_,?_,?_,?_,?_,?_,?_,?_,?_,?_,?_,?_,hz⟩
  all_goals first|exact LW|(first|exact tv|omega|exact h0)
theorem AR (D:Int)(S:LC):∀(r i:Nat)(C:LC)(o:Option LL),cM D S r i C o→aJ Tryz.prog EV.ng (ks D S r i C o)
 |0,i,C,none,hc=>Yv D S i C hc
 |0,i,C,some X,hc=>Yw D S i C X hc
 |r+1,i,C,none,hc=>Y9 D S r i C hc (fun C o k=>AR D S r (i+1) C o k)
 |r+1,i,C,some X,hc=>Za D S r i C X hc (fun C o k=>AR D S r (i+1) C o k)
def ax (D:Int)(S:LC)(o:Option LL):Option LL:=(bp D S S.length 0 (S,o)).2
def mP (D:Int)(S:LC)(o:Option LL):Prop:=cM D S S.length 0 S o
def xM (D:Int)(S:LC)(o:Option LL)(b:Nat):List (Nat×ai):=(1002,iy S)::ra D o b
def xN (D:Int)(S:LC)(o:Option LL):cg:=⟨28,[.lo 1002 S.length,.ptr 1000 0,.ptr 1001 0],xM D S o 1010,1100,(match o with
 |none=>some (ax D S none).isNone
 |some _=>none),fun t=>match o,t with
 |none,true=>(.tup [],xM D S none 1150,1900)
 |none,false=>(.tup [],xM D S (some (ae (ax D S none))) 1150,1900)
 |some X,_=>(.tup [],xM D S (some (ae (ax D S (some X)))) 1150,1900)⟩
def NE (D:Int)(S:LC):Nat→List AV→Hs→Option (cg×List Prop):=fun f args H=>bif Nat.beq f 77 then(match args with
 |[_,_,.ptr b1 _,_,_]=>match kS H.m b1 with
  |some (.fn _ [.ptr bl _,_])=>match nH H.m bl with
   |none=>none
   |some o=>some (ks D S S.length 0 S o,[cM D S S.length 0 S o])
  |_=>none
 |_=>none)else none
theorem HK (D:Int)(S:LC):∀f args H A ms,NE D S f args H=some (A,ms)→(∀q∈ms,q)→aJ Tryz.prog EV.ng A:=by
 intro f args H A ms hq hm
 unfold NE at hq
 replace hq:=(az hq).2
 split at hq
 ·split at hq
  ·split at hq
   ·cases hq
   ·cases hq
    exact AR D S _ _ _ _ (ay hm)
  ·cases hq
 ·cases hq
theorem abC (D:Int)(S:LC)(hc:mP D S none):aJ Tryz.prog EV.ng (xN D S none):=by
 have hcc:=hc
 obtain⟨hc1,hc2,hc3,hc4,hc5,hc6,hc7,hc8⟩:=hcc
 have hb:S.length.beq 0=false:=(by cases hq:S.length.beq 0 with
  |false=>rfl
  |true=>have:=co hq;omega)
 refine cQ (cF (cV (HK D S) (dL _ _))) Tryz.func28 aC ?_
 intro d hd
 cases d
 rotate_right
 have hd:((ax D S none).isNone)=true:=hd
 refine oe ((bp D S S.length (0:Nat) (S,none)).snd.isNone) (fun d1=>lr [true] [S=S,D=D,cM D S S.length (0:Nat) S none,(0:Int)=↑(0:Nat),rq S.length,S=S,rq S.length,D=D,S=S,ty d1,(0:Nat)<S.length∧S.length≤1000000,rq S.length] ⟨?_,?_,?_,?_,?_,?_,?_,?_,?_,d1,?_,(?_:S.length=S.length)⟩)
  (fun d1=>aT.no ?_)
 rotate_right
 have hd:((ax D S none).isNone)=false:=hd
 refine oe ((bp D S S.length (0:Nat) (S,none)).snd.isNone) (fun d1=>aT.no ?_)
  (fun d1=>lr [false] (let v1:=(bp D S S.length (0:Nat) (S,none));[S=S,(ae v1.snd).length=(ae (ax D S none)).length,D=D,ae v1.snd=ae (ax D S none),cM D S S.length (0:Nat) S none,(0:Int)=↑(0:Nat),rq S.length,S=S,rq S.length,D=D,S=S,ty d1,(0:Nat)<S.length∧S.length≤1000000,rq S.length]) ⟨?_,?_,?_,?_,?_,?_,?_,?_,?_,?_,?_,d1,?_,(?_:S.length=S.length)⟩)
 all_goals first|(refine aT.mk ?_;(first|(have hd:(bp D S S.length 0 (S,none)).2.isNone=_:=hd;exact Bool.noConfusion (hd.symm.trans d1))))|(first|exact tv|exact hc|omega|exact⟨hc3,om⟩)
theorem abD (D:Int)(S:LC)(X:LL)(hc:mP D S (some X)):aJ Tryz.prog EV.ng (xN D S (some X)):=by
 have hcc:=hc
 obtain⟨hc1,hc2,hc3,hc4,hc5,hc6,hc7,hc8⟩:=hcc
 have hb:S.length.beq 0=false:=(by cases hq:S.length.beq 0 with
  |false=>rfl
  |true=>have:=co hq;omega)
 refine cQ (cF (cV (HK D S) (dL _ _))) Tryz.func28 aC ?_
 intro d hd
 cases d
 ·exact Bool.noConfusion (show false=true from hd)
 ·refine lr [] (let y1:=(bp D S S.length (0:Nat) (S,some X));[S=S,(ae y1.snd).length=(ae (ax D S (some X))).length,D=D,ae y1.snd=ae (ax D S (some X)),cM D S S.length (0:Nat) S (some X),(0:Int)=↑(0:Nat),rq S.length,S=S,rq S.length,rq X.length,D=D,S=S,X=X,(0:Nat)<S.length∧S.length≤1000000,rq S.length]) ⟨?_,?_,?_,?_,?_,?_,?_,?_,?_,?_,?_,?_,?_,?_,(?_:S.length=S.length)⟩
  all_goals first|(refine aT.mk ?_;((exact(5:Nat))))|(first|exact tv|exact hc|omega|exact⟨hc3,om⟩)
theorem Zt (D:Int)(S:LC):∀o:Option LL,mP D S o→aJ Tryz.prog EV.ng (xN D S o)
 |none,h=>abC D S h
 |some X,h=>abD D S X h
abbrev dx:=Option (List QfSy.Loc)
def ee (e n a:Nat):Nat:=bif Nat.beq e 0 then n else Nat.min n (a/e)
def qU (e d:Nat):Con:=⟨(e:Int),(d:Int),1,false,0⟩
def aE (fnd:List Con→dx→dx):Nat→Nat→Nat→Nat→List Con→dx→dx
 |0,_,_,_,_,o=>o
 |f+1,e,n,a,L,o=>bif Nat.beq n 0 then(bif Nat.beq a 0 then fnd L o else o)else bif Nat.blt a (n*e)then o else(List.range (ee e n a)).foldl (fun o k=>aE fnd f (e+1) (n-(k+1)) (a-(k+1)*e) (L++[qU e (k+1)]) o) (aE fnd f (e+1) n a L o)
section
variable (fnd:List Con→dx→dx)
def fa (f e n a:Nat)(L:List Con)(o:dx)(k:Nat):dx:=aE fnd f (e+1) (n-(k+1)) (a-(k+1)*e) (L++[qU e (k+1)]) o
def dX (f e n a:Nat)(L:List Con)(o:dx)(k:Nat):dx:=(List.range k).foldl (fa fnd f e n a L) o
variable {fnd}
theorem qv {e n a k:Nat}:k<ee e n a↔k+1≤n∧(k+1)*e≤a:=by
 unfold ee
 cases h:Nat.beq e 0 with
 |true=>
  have h0:e=0:=co h
  subst h0
  simp only[aM,Nat.mul_zero]
  omega
 |false=>
  have h0:0<e:=rE (lW h)
  simp only[bg]
  rw[←Nat.le_div_iff_mul_le h0]
  show k<min n (a/e)↔_
  omega
theorem U2 {e n a:Nat}(h0:0<n)(h:n*e≤a):0<ee e n a:=by
 rw[qv]
 refine⟨h0,cU ?_ h⟩
 rw[gN]
 exact il e h0
theorem qw {e n a:Nat}:ee e n a≤n:=by
 rcases bA n (ee e n a)with h|h
 ·have:=(qv.1 h).1;omega
 ·exact h
theorem Ao {f e a:Nat}{L:List Con}{o:dx}:aE fnd (f+1) e 0 a L o=bif Nat.beq a 0 then fnd L o else o:=rfl
theorem qi {f e n a:Nat}{L:List Con}{o:dx}(h0:0<n)(h:a<n*e):aE fnd (f+1) e n a L o=o:=by
 have h1:Nat.beq n 0=false:=by cases hb:Nat.beq n 0 with
  |false=>rfl
  |true=>have:=co hb;omega
 rw[aE,h1,show Nat.blt a (n*e)=true from gK h];rfl
theorem jJ {f e n a:Nat}{L:List Con}{o:dx}(h0:0<n)(h:n*e≤a):aE fnd (f+1) e n a L o=dX fnd f e n a L (aE fnd f (e+1) n a L o) (ee e n a):=by
 have h1:Nat.beq n 0=false:=by cases hb:Nat.beq n 0 with
  |false=>rfl
  |true=>have:=co hb;omega
 have h2:Nat.blt a (n*e)=false:=by cases hb:Nat.blt a (n*e)with
  |false=>rfl
  |true=>have:=aU hb;omega
 rw[aE,h1,h2];rfl
theorem tm {f e n a k:Nat}{L:List Con}{o:dx}:dX fnd f e n a L o (k+1)=fa fnd f e n a L (dX fnd f e n a L o k) k:=by
 unfold dX
 rw[n9,mU]
 rfl
theorem Ap (hf:∀L o,(ae o).length≤(ae (fnd L o)).length):∀(f e n a:Nat)(L:List Con)(o:dx),(ae o).length≤(ae (aE fnd f e n a L o)).length
 |0,_,_,_,_,o=>aZ _
 |f+1,e,n,a,L,o=>by
  rcases kw n with h0|h0
  ·subst h0
   rw[Ao]
   cases Nat.beq a 0 with
   |true=>exact hf L o
   |false=>exact aZ _
  ·rcases bA a (n*e)with h|h
   ·rw[qi h0 h];exact aZ _
   ·rw[jJ h0 h]
    have key:∀(k:Nat)(o:dx),(ae o).length≤(ae (dX fnd f e n a L o k)).length:=by
     intro k
     induction k with
     |zero=>intro o;exact aZ _
     |succ k ih=>
      intro o
      rw[tm]
      exact cU (ih o) (Ap hf f _ _ _ _ _)
    exact cU (Ap hf f _ _ _ _ _) (key _ _)
theorem H5 (hf:∀L o,(ae o).length≤(ae (fnd L o)).length){f e n a:Nat}{L:List Con}{o:dx}{k m:Nat}(h:k≤m):(ae (dX fnd f e n a L o k)).length≤(ae (dX fnd f e n a L o m)).length:=by
 induction m with
 |zero=>rw[show k=0 by omega];exact aZ _
 |succ m ih=>
  rcases bA m k with h1|h1
  ·rw[show k=m+1 by omega];exact aZ _
  ·rw[tm]
   exact cU (ih h1) (Ap hf f _ _ _ _ _)
theorem oH (hs:∀L X,fnd L (some X)=some (ae (fnd L (some X)))):∀(f e n a:Nat)(L:List Con)(X:List QfSy.Loc),aE fnd f e n a L (some X)=some (ae (aE fnd f e n a L (some X)))
 |0,_,_,_,_,X=>rfl
 |f+1,e,n,a,L,X=>by
  rcases kw n with h0|h0
  ·subst h0
   rw[Ao]
   cases Nat.beq a 0 with
   |true=>exact hs L X
   |false=>rfl
  ·rcases bA a (n*e)with h|h
   ·rw[qi h0 h];rfl
   ·rw[jJ h0 h]
    have key:∀(k:Nat)(X:List QfSy.Loc),dX fnd f e n a L (some X) k=some (ae (dX fnd f e n a L (some X) k)):=by
     intro k
     induction k with
     |zero=>intro X;rfl
     |succ k ih=>
      intro X
      rw[tm,ih X]
      exact oH hs f _ _ _ _ _
    rw[oH hs f (e+1) n a L X]
    exact key _ _
end
end Go.Proofs.YtmeljalphfcieaaGreatDoor.S
namespace Go.QfSy
section
open Go.RowKit
end
end Go.QfSy
namespace Go.Proofs.YtmeljalphfcieaaGreatDoor.S
open Go.QfSy Go.RowKit
def abd (b:Nat):Option LC→AV
 |none=>.nils
 |some L=>.lo b L.length
def abe (b:Nat):Option LC→List (Nat×ai)
 |none=>[]
 |some L=>[(b,iy L)]
def bv:Option LC→LC
 |none=>[]
 |some L=>L
theorem Hc (D:Int)(S:LC)(o:dx):(ae o).length≤(ae (ax D S o)).length:=zT D S S.length 0 (S,o)
theorem pU (D:Int)(S:LC)(X:LL):ax D S (some X)=some (ae (ax D S (some X))):=yL D S S.length 0 S X
theorem Ye {D:Int}{L:LC}{o:dx}(h1:0<L.length)(h2:L.length≤10)(h3:(ae (ax D L o)).length≤50000)(h4:0<D∧D≤2147483647)(h5:∀c∈L,jy c∧c.oddity=0):mP D L o:=⟨om,rfl,h1,h2,h3,h4,⟨om,fun c hc=>(h5 c hc).1⟩,fun c hc=>(h5 c hc).2⟩
def mG (D:Int)(l:Option LC)(lb:Nat)(o:dx)(b:Nat):List (Nat×ai):=[(1000,dS [.fn 28 [.ptr 1003 0,.ptr 1004 0]] 75),(1001,dS [abd lb l] 43),(1002,dS [.fn 76 [.ptr 1000 0,.ptr 1001 0,.ptr 1002 0]] 98)]++[(1003,dS [lM b o] 30),(1004,dS [vi D] 2)]++abe lb l++lN b o
def bH (D:Int)(f e n a:Nat)(L:LC)(o:dx):Prop:=a+2≤e+f∧1≤f∧L.length+n≤10∧(L.length=0→1≤n)∧(∀c∈L,jy c∧c.oddity=0)∧e≤101∧a≤100∧(ae (aE (ax D) f e n a L o)).length≤50000∧(0<D∧D≤2147483647)
def cW (D:Int)(f e n a:Nat)(l0 l1:Option LC)(o:dx):cg:=⟨76,[vi e,vi n,vi a,.ptr 1000 0,.ptr 1001 0,.ptr 1002 0],mG D l0 1008 o 1010,1100,(match o with
 |none=>some (aE (ax D) f e n a (bv l0) none).isNone
 |some _=>none),fun t=>match o,t with
 |none,true=>(.tup [],mG D l1 1140 none 1150,1900)
 |none,false=>(.tup [],mG D l1 1140 (some (ae (aE (ax D) f e n a (bv l0) none))) 1150,1900)
 |some X,_=>(.tup [],mG D l1 1140 (some (ae (aE (ax D) f e n a (bv l0) (some X)))) 1150,1900)⟩
def JY (m:Tr ai)(b:Nat):Option (Option LC):=match kS m b with
 |some .nils=>some none
 |some (.lo b' _)=>match xK m b' with
  |none=>none
  |some L=>some (some L)
 |_=>none
def JZ (D:Int)(f:Nat)(go:Nat→List AV→Hs→Option (cg×List Prop)):Nat→List AV→Hs→Option (cg×List Prop):=fun g args H=>bif Nat.beq g 76 then(match args with
 |[e',n',a',.ptr b0 _,.ptr b1 _,_]=>match clr e',clr n',clr a' with
  |.int .i64 e,.int .i64 n,.int .i64 a=>match JY H.m b1 with
   |some (some L)=>match kS H.m b0 with
    |some (.fn _ (.ptr bl _::_))=>match nH H.m bl with
     |none=>none
     |some o=>some (cW D f e.toNat n.toNat a.toNat (some L) (some L) o,[bH D f e.toNat n.toNat a.toNat L o])
    |_=>none
   |_=>none
  |_,_,_=>none
 |_=>none)else go g args H
theorem jG (D:Int){f:Nat}(ih:∀e n a L o,bH D f e n a L o→aJ Tryz.prog EV.ng (cW D f e n a (some L) (some L) o)){go:Nat→List AV→Hs→Option (cg×List Prop)}(hgo:∀f args H A ms,go f args H=some (A,ms)→(∀q∈ms,q)→aJ Tryz.prog EV.ng A):∀g args H A ms,JZ D f go g args H=some (A,ms)→(∀q∈ms,q)→aJ Tryz.prog EV.ng A:=by
 intro g args H A ms hq hm
 unfold JZ at hq
 cases hb:Nat.beq g 76 with
 |false=>rw[hb]at hq;exact hgo g args H A ms hq hm
 |true=>
  rw[hb]at hq
  simp only[aM]at hq
  split at hq
  ·split at hq
   ·split at hq
    ·split at hq
     ·split at hq
      ·cases hq
      ·cases hq
       exact ih _ _ _ _ _ (ay hm)
     ·cases hq
    ·cases hq
   ·cases hq
  ·cases hq
def J0 (D:Int):Nat→List AV→Hs→Option (cg×List Prop):=fun g args H=>bif Nat.beq g 28 then(match args with
 |.lo bL _::.ptr bl _::_=>match xK H.m bL with
  |none=>none
  |some L=>match nH H.m bl with
   |none=>none
   |some o=>some (xN D L o,[mP D L o])
 |_=>none)else none
theorem sn (D:Int):∀f args H A ms,J0 D f args H=some (A,ms)→(∀q∈ms,q)→aJ Tryz.prog EV.ng A:=by
 intro f args H A ms hq hm
 unfold J0 at hq
 replace hq:=(az hq).2
 split at hq
 ·split at hq
  ·cases hq
  ·split at hq
   ·cases hq
   ·cases hq
    exact Zt D _ _ (ay hm)
 ·cases hq
theorem J1 {x:Con}:0≤w6.wrap (([x].length:Int)-1)∧w6.wrap (([x].length:Int)-1)≤([x].length:Int):=(by decide:0≤w6.wrap (((1:Nat):Int)-1)∧w6.wrap (((1:Nat):Int)-1)≤((1:Nat):Int))
theorem wB {L:LC}{x:Con}:L.length+1=(L++[x]).length:=by rw[bU];rfl
theorem Bh {L:LC}{x:Con}(h:L.length≤10):w6.wrap (((L++[x]).length:Int)-1)=(L.length:Int):=by
 rw[bU]
 simp only[cR,iD]
 rw[wo]
 omega
theorem Bi {L:LC}{x:Con}(h:L.length≤10):(w6.wrap (((L++[x]).length:Int)-1)).toNat≤(L++[x]).length∧(L++[x]).length=(L++[x]).length:=by
 rw[Bh h,bt]
 exact⟨by rw[←wB];omega,rfl⟩
def Lg (e n a:Nat)(d:AV):List (Nat×AV):=[(0,vi e),(1,vi n),(2,vi a),(3,.ptr 1000 0),(4,.ptr 1001 0),(5,.ptr 1002 0),(9,d)]
def nC (D:Int)(e n a k:Nat)(l:Option LC)(o:dx):St:=⟨Lg e n a (vi (k+1:Nat)),mG D l 2008 o 2010,2100⟩
def abf (D:Int)(e n a:Nat)(L:LC):Nat×dx→St
 |(k,none)=>nC D e n a k (some L) none
 |(k,some X)=>nC D e n a k (some L) (some X)
def abg (D:Int)(e n a:Nat):Option (Nat×dx)→St
 |none=>nC D e n a 0 none none
 |some (k,none)=>nC D e n a k (some []) none
 |some (k,some X)=>nC D e n a k (some []) (some X)
def abh (D:Int)(e n a:Nat)(X0:LL):Option (Nat×LL)→St
 |none=>nC D e n a 0 none (some X0)
 |some (k,X)=>nC D e n a k (some []) (some X)
def fQ (D:Int)(f e n a:Nat)(L:LC)(o0:dx)(k:Nat)(o:dx):Prop:=k≤ee e n a∧dX (ax D) f e n a L o0 k=o
def qJ (D:Int)(f e n a:Nat)(L:LC)(o0:dx):Prop:=a+1≤e+f∧1≤n∧n*e≤a∧L.length+n≤10∧(∀c∈L,jy c∧c.oddity=0)∧e≤100∧a≤100∧(ae (dX (ax D) f e n a L o0 (ee e n a))).length≤50000∧(0<D∧D≤2147483647)
def wC (D:Int)(f e n a:Nat)(L:LC)(l0:Option LC)(o:dx):aA:=⟨⟨Lg e n a (.int .i64 1),mG D l0 1140 o 1150,2000⟩,(match o with
 |none=>some (dX (ax D) f e n a L none (ee e n a)).isNone
 |some _=>none),fun d=>match o,d with
 |none,true=>(.exit 0,⟨[],mG D (some L) 2008 none 2010,2100⟩)
 |none,false=>(.exit 0,⟨[],mG D (some L) 2008 (some (ae (dX (ax D) f e n a L none (ee e n a)))) 2010,2100⟩)
 |some X,_=>(.exit 0,⟨[],mG D (some L) 2008 (some (ae (dX (ax D) f e n a L (some X) (ee e n a)))) 2010,2100⟩)⟩
section
variable {D:Int}
variable {f e n a k:Nat}{L:LC}{o0 o:dx}
theorem jK (he:e≤101):w6.wrap ((e:Int)+1)=((e+1:Nat):Int):=by rw[wo];omega
theorem lv (hn:n≤10)(hk:k+1≤n):w6.wrap ((n:Int)-((k+1:Nat):Int))=((n-(k+1):Nat):Int):=by rw[wo];omega
theorem kF {x y:Nat}(hx:x≤1000)(hy:y≤1000):w6.wrap ((x:Int)*(y:Int))=((x*y:Nat):Int):=by
 have h:x*y≤1000*1000:=kX hx hy
 have e:(x:Int)*(y:Int)=((x*y:Nat):Int):=by simp
 rw[e,wo]
theorem lw (ha:a≤100)(hk1:k+1≤10)(he:e≤100)(hk:(k+1)*e≤a):w6.wrap ((a:Int)-w6.wrap (((k+1:Nat):Int)*(e:Int)))=((a-(k+1)*e:Nat):Int):=by
 rw[kF om om,wo];omega
theorem Yf (h:∀c∈L,jy c∧c.oddity=0)(he:e≤1000)(hk:k+1≤1000):∀c∈L++[qU e (k+1)],jy c∧c.oddity=0:=by
 intro c hc
 rcases dV.1 hc with h1|h1
 ·exact h c h1
 ·rw[dU.1 h1]
  exact⟨⟨⟨by show(0:Int)≤(e:Int);omega,by show(e:Int)≤1000;omega⟩,⟨by show(1:Int)≤((k+1:Nat):Int);omega,by show((k+1:Nat):Int)≤1000;omega⟩,.inl rfl,⟨Int.le_refl 0,(by decide:(0:Int)≤7)⟩⟩,rfl⟩
theorem IK:(dX (ax D) f e n a L o0 k)=o→dX (ax D) f e n a L o0 (k+1)=fa (ax D) f e n a L o k:=by intro h;rw[tm,h]
theorem zW (hc:qJ D f e n a L o0)(hI:fQ D f e n a L o0 k o)(h1:k+1≤n)(h2:(k+1)*e≤a):bH D f (e+1) (n-(k+1)) (a-(k+1)*e) (L++[qU e (k+1)]) o:=by
 obtain⟨c1,c2,c3,c4,c5,c6,c7,c8,c9⟩:=hc
 obtain⟨i1,i2⟩:=hI
 have hk:k<ee e n a:=qv.2 ⟨h1,h2⟩
 have hg:=H5 (Hc D) (f:=f) (e:=e) (n:=n) (a:=a) (L:=L) (o:=o0) (k:=k+1) (m:=ee e n a) hk
 rw[IK i2]at hg
 have hen:e≤a:=cU (by
  have:=il e c2
  omega) c3
 refine⟨?_,?_,?_,?_,Yf c5 om om,om,om,cU hg c8,c9⟩
 ·omega
 ·omega
 ·rw[bU];simp only[cR,iD];omega
 ·rw[bU];simp only[cR,iD];omega
theorem AD (hI:fQ D f e n a L o0 k o)(h1:k+1≤n)(h2:(k+1)*e≤a):fQ D f e n a L o0 (k+1) (fa (ax D) f e n a L o k):=⟨qv.2 ⟨h1,h2⟩,IK hI.2⟩
theorem IL (hI:fQ D f e n a L o0 k o)(h1:k+1≤n)(h2:(k+1)*e≤a)(h:(aE (ax D) f (e+1) (n-(k+1)) (a-(k+1)*e) (L++[qU e (k+1)]) o).isNone=true):fQ D f e n a L o0 (k+1) none:=by
 have:=AD hI h1 h2
 rw[show fa (ax D) f e n a L o k=none from isN h]at this
 exact this
theorem IM (hI:fQ D f e n a L o0 k o)(h1:k+1≤n)(h2:(k+1)*e≤a)(h:(aE (ax D) f (e+1) (n-(k+1)) (a-(k+1)*e) (L++[qU e (k+1)]) o).isNone=false):fQ D f e n a L o0 (k+1) (some (ae (fa (ax D) f e n a L o k))):=by
 have:=AD hI h1 h2
 rw[show fa (ax D) f e n a L o k=some (ae (fa (ax D) f e n a L o k))from mt h]at this
 exact this
theorem IN {X:LL}(hI:fQ D f e n a L o0 k (some X))(h1:k+1≤n)(h2:(k+1)*e≤a):fQ D f e n a L o0 (k+1) (some (ae (fa (ax D) f e n a L (some X) k))):=by
 have:=AD hI h1 h2
 rw[show fa (ax D) f e n a L (some X) k=some (ae (fa (ax D) f e n a L (some X) k))from oH (pU D) _ _ _ _ _ _]at this
 exact this
theorem We (hI:fQ D f e n a L o0 k o)(h:¬(k+1≤n∧(k+1)*e≤a)):k=ee e n a:=by
 have h1:=hI.1
 rcases bA k (ee e n a)with h2|h2
 ·exact absurd (qv.1 h2) h
 ·omega
theorem vM (hI:fQ D f e n a L o0 k o)(h:¬(k+1≤n∧(k+1)*e≤a)):dX (ax D) f e n a L o0 (ee e n a)=o:=by
 rw[←We hI h];exact hI.2
theorem qK (h1:1≤n)(h3:n*e≤a)(hI:fQ D f e n a L o0 0 o):0+1≤n∧(0+1)*e≤a:=qv.1 (U2 h1 h3)
end
set_option maxHeartbeats 4000000 in
theorem IO (D:Int)(f e n a:Nat)(L:LC)(hc:qJ D f e n a L none)(ih:∀e n a L o,bH D f e n a L o→aJ Tryz.prog EV.ng (cW D f e n a (some L) (some L) o)):An 6 Tryz.f76 [0,1,1,1,1] (wC D f e n a L (some L) none):=by
 have hcc:=hc
 obtain⟨c1,c2,c3,c4,c5,c6,c7,c8,c9⟩:=hcc
 refine ea (cF (cV (jG D ih jI) (dL _ _))) aC (abf D e n a L) (fun q=>n+1-q.1) (fun _ q=>fQ D f e n a L none q.1 q.2) ?_ ?_
 ·intro d hd
  exact st (0,none) [rq (↑e:Int),rq (↑n:Int),rq (↑a:Int),(1:Int)=↑((0:Nat)+1),rq L.length,D=D,L=L] (by refine⟨?_,?_,?_,?_,?_,?_,(?_:L=L)⟩<;>(first|exact tv)) (by exact⟨aY _,rfl⟩)
 ·rintro d hd ⟨k,o⟩ hI
  have hI:fQ D f e n a L none k o:=hI
  have hk0:k≤n:=cU hI.1 qw
  have we:w6.wrap ((e:Int)+1)=((e+1:Nat):Int):=jK om
  have wm:w6.wrap (((k+1:Nat):Int)*(e:Int))=(((k+1)*e:Nat):Int):=kF om om
  have hl:L.length≤10:=by omega
  have ek:w6.wrap (((k+1:Nat):Int)+1)=((k+1+1:Nat):Int):=by rw[wo];omega
  rcases o with _|X
  rotate_right
  refine(let t1:List Prop→List Prop:=fun l0=>(let v1:=dX (ax D) f e n a L none (ee e n a);rq L.length::(X.length=(ae v1).length)::(D=D)::(L=L)::(X=ae v1)::l0);oe (decide ((↑(k+1):Int)≤↑n)) (fun d1=>oe (decide (w6.wrap ((↑(k+1):Int)*↑e)≤↑a)) (fun d2=>aq [true,true] (k+1,some (ae (fa (ax D) f e n a L (some X) k))) (let v1:=L++[Con.mk (↑e:Int) (↑(k+1):Int) (1:Int) false (0:Int)];let v2:=(↑a:Int)-w6.wrap ((↑(k+1):Int)*↑e);let v5:=(↑n:Int)-↑(k+1);let v6:=(↑e:Int)+1;let v3:=aE (ax D) f (w6.wrap v6).toNat (w6.wrap v5).toNat (w6.wrap v2).toNat (bv (some v1)) (some X);let v4:=(↑v1.length:Int)-1;let v7:=w6.wrap v4;let v8:=fa (ax D) f e n a L (some X) k;[rq (↑e:Int),rq (↑n:Int),rq (↑a:Int),w6.wrap ((↑(k+1):Int)+1)=↑(k+1+1),v7.toNat=L.length,(ae v3).length=(ae v8).length,D=D,List.take v7.toNat v1=L,ae v3=ae v8,v7.toNat≤v1.length∧v1.length=v1.length,(0:Int)≤w6.wrap v4∧w6.wrap v4≤↑v1.length,bH D f (w6.wrap v6).toNat (w6.wrap v5).toNat (w6.wrap v2).toNat v1 (some X),w6.wrap v6=(↑(w6.wrap v6).toNat:Int),w6.wrap v5=(↑(w6.wrap v5).toNat:Int),w6.wrap v2=(↑(w6.wrap v2).toNat:Int),L.length+1=v1.length,rq X.length,D=D,rq v1,X=X,(iy L).view.num=L.length∧L.length+1≤1000000,ty d2,ty d1]) ?_ ?_ ?_)
   (fun d2=>?e3))
   (fun d1=>?e4))
  all_goals with_reducible repeat' first|exact dA|refine bk ?_ ?_|refine bm ?_
  case' e3=>
   cases d
   rotate_right
   refine aT.no ?_
   rotate_right
   refine br [true,false] (t1 [ty d2,ty d1]) ?_
   all_goals with_reducible repeat' first|exact dA|refine bk ?_ ?_|refine bm ?_
  case' e4=>
   cases d
   rotate_right
   refine aT.no ?_
   rotate_right
   refine br [false] (t1 [ty d1]) ?_
   all_goals with_reducible repeat' first|exact dA|refine bk ?_ ?_|refine bm ?_
  rotate_right
  refine(let t1:List Prop→List Prop:=fun l0=>rq (↑e:Int)::rq (↑n:Int)::rq (↑a:Int)::(w6.wrap ((↑(k+1):Int)+1)=↑(k+1+1))::((w6.wrap ((↑(L++[Con.mk (↑e:Int) (↑(k+1):Int) (1:Int) false (0:Int)]).length:Int)-1)).toNat=L.length)::l0;oe (decide ((↑(k+1):Int)≤↑n)) (fun d1=>oe (decide (w6.wrap ((↑(k+1):Int)*↑e)≤↑a)) (fun d2=>let y1:List Prop:=[(iy L).view.num=L.length∧L.length+1≤1000000,ty d2,ty d1];have u1:ao y1:=⟨?_,d2,d1⟩;oe (Option.isNone (aE (ax D) f (w6.wrap ((↑e:Int)+1)).toNat (w6.wrap ((↑n:Int)-↑(k+1))).toNat (w6.wrap ((↑a:Int)-w6.wrap ((↑(k+1):Int)*↑e))).toNat (bv (some (L++[Con.mk (↑e:Int) (↑(k+1):Int) (1:Int) false (0:Int)]))) none)) (fun d3=>aq (tp 111) (k+1,none) (t1 (let v1:=L++[Con.mk (↑e:Int) (↑(k+1):Int) (1:Int) false (0:Int)];let v2:=(↑a:Int)-w6.wrap ((↑(k+1):Int)*↑e);let v3:=(↑v1.length:Int)-1;let v4:=(↑n:Int)-↑(k+1);let v5:=(↑e:Int)+1;(D=D)::(List.take (w6.wrap v3).toNat v1=L)::((w6.wrap v3).toNat≤v1.length∧v1.length=v1.length)::((0:Int)≤w6.wrap v3∧w6.wrap v3≤↑v1.length)::(bH D f (w6.wrap v5).toNat (w6.wrap v4).toNat (w6.wrap v2).toNat v1 none)::(w6.wrap v5=(↑(w6.wrap v5).toNat:Int))::(w6.wrap v4=(↑(w6.wrap v4).toNat:Int))::(w6.wrap v2=(↑(w6.wrap v2).toNat:Int))::(L.length+1=v1.length)::(D=D)::rq v1::ty d3::y1)) ?_ ?_ ?_)
   (fun d3=>aq (tp 112) (k+1,(some (ae (fa (ax D) f e n a L none k)))) (t1 (let v1:=L++[Con.mk (↑e:Int) (↑(k+1):Int) (1:Int) false (0:Int)];let v2:=(↑a:Int)-w6.wrap ((↑(k+1):Int)*↑e);let v5:=(↑n:Int)-↑(k+1);let v6:=(↑e:Int)+1;let v3:=aE (ax D) f (w6.wrap v6).toNat (w6.wrap v5).toNat (w6.wrap v2).toNat (bv (some v1)) none;let v4:=(↑v1.length:Int)-1;let v7:=fa (ax D) f e n a L none k;((ae v3).length=(ae v7).length)::(D=D)::(List.take (w6.wrap v4).toNat v1=L)::(ae v3=ae v7)::((w6.wrap v4).toNat≤v1.length∧v1.length=v1.length)::((0:Int)≤w6.wrap v4∧w6.wrap v4≤↑v1.length)::(bH D f (w6.wrap v6).toNat (w6.wrap v5).toNat (w6.wrap v2).toNat v1 none)::(w6.wrap v6=(↑(w6.wrap v6).toNat:Int))::(w6.wrap v5=(↑(w6.wrap v5).toNat:Int))::(w6.wrap v2=(↑(w6.wrap v2).toNat:Int))::(L.length+1=v1.length)::(D=D)::rq v1::ty d3::y1)) ?_ ?_ ?_))
   (fun d2=>?e1))
   (fun d1=>?e2))
  all_goals with_reducible repeat' first|exact dA|refine bk ?_ ?_|refine bm ?_
  case' e1=>
   cases d
   rotate_right
   refine br [true,false] [rq L.length,D=D,L=L,ty d2,ty d1] ?_
   all_goals with_reducible repeat' first|exact dA|refine bk ?_ ?_|refine bm ?_
   rotate_right
   refine aT.no ?_
  case' e2=>
   cases d
   rotate_right
   refine br [false] [rq L.length,D=D,L=L,ty d1] ?_
   all_goals with_reducible repeat' first|exact dA|refine bk ?_ ?_|refine bm ?_
   rotate_right
   refine aT.no ?_
  all_goals first|(refine cy.mk ?_;exact Cq)|exact Nm|exact Nr|exact Nl
set_option maxHeartbeats 4000000 in
theorem vN (D:Int)(f e n a:Nat)(L:LC)(X0:LL)(hc:qJ D f e n a L (some X0))(ih:∀e n a L o,bH D f e n a L o→aJ Tryz.prog EV.ng (cW D f e n a (some L) (some L) o)):An 6 Tryz.f76 [0,1,1,1,1] (wC D f e n a L (some L) (some X0)):=by
 have hcc:=hc
 obtain⟨c1,c2,c3,c4,c5,c6,c7,c8,c9⟩:=hcc
 refine cN (cF (cV (jG D ih jI) (dL _ _))) aC (fun(q:Nat×LL)=>nC D e n a q.1 (some L) (some q.2)) (fun q=>n+1-q.1) (fun q=>fQ D f e n a L (some X0) q.1 (some q.2)) ?_ ?_
 ·exact st (0,X0) [rq (↑e:Int),rq (↑n:Int),rq (↑a:Int),(1:Int)=↑((0:Nat)+1),rq L.length,rq X0.length,D=D,L=L,X0=X0] (by refine⟨?_,?_,?_,?_,?_,?_,?_,?_,(?_:X0=X0)⟩<;>(first|exact tv)) (by exact⟨aY _,rfl⟩)
 ·rintro ⟨k,X⟩ hI
  have hI:fQ D f e n a L (some X0) k (some X):=hI
  have hk0:k≤n:=cU hI.1 qw
  have we:w6.wrap ((e:Int)+1)=((e+1:Nat):Int):=jK om
  have wm:w6.wrap (((k+1:Nat):Int)*(e:Int))=(((k+1)*e:Nat):Int):=kF om om
  have hl:L.length≤10:=by omega
  have ek:w6.wrap (((k+1:Nat):Int)+1)=((k+1+1:Nat):Int):=by rw[wo];omega
  refine(let t1:List Prop→List Prop:=fun l0=>(let v1:=dX (ax D) f e n a L (some X0) (ee e n a);rq L.length::(X.length=(ae v1).length)::(D=D)::(L=L)::(X=ae v1)::l0);oe (decide ((↑(k+1):Int)≤↑n)) (fun d1=>oe (decide (w6.wrap ((↑(k+1):Int)*↑e)≤↑a)) (fun d2=>aq [true,true] (k+1,(ae (fa (ax D) f e n a L (some X) k))) (let v1:=L++[Con.mk (↑e:Int) (↑(k+1):Int) (1:Int) false (0:Int)];let v2:=(↑a:Int)-w6.wrap ((↑(k+1):Int)*↑e);let v5:=(↑n:Int)-↑(k+1);let v6:=(↑e:Int)+1;let v3:=aE (ax D) f (w6.wrap v6).toNat (w6.wrap v5).toNat (w6.wrap v2).toNat (bv (some v1)) (some X);let v4:=(↑v1.length:Int)-1;let v7:=w6.wrap v4;let v8:=fa (ax D) f e n a L (some X) k;[rq (↑e:Int),rq (↑n:Int),rq (↑a:Int),w6.wrap ((↑(k+1):Int)+1)=↑(k+1+1),v7.toNat=L.length,(ae v3).length=(ae v8).length,D=D,List.take v7.toNat v1=L,ae v3=ae v8,v7.toNat≤v1.length∧v1.length=v1.length,(0:Int)≤w6.wrap v4∧w6.wrap v4≤↑v1.length,bH D f (w6.wrap v6).toNat (w6.wrap v5).toNat (w6.wrap v2).toNat v1 (some X),w6.wrap v6=(↑(w6.wrap v6).toNat:Int),w6.wrap v5=(↑(w6.wrap v5).toNat:Int),w6.wrap v2=(↑(w6.wrap v2).toNat:Int),L.length+1=v1.length,rq X.length,D=D,rq v1,X=X,(iy L).view.num=L.length∧L.length+1≤1000000,ty d2,ty d1]) ?_ ?_ ?_)
   (fun d2=>br [true,false] (t1 [ty d2,ty d1]) ?_))
   (fun d1=>br [false] (t1 [ty d1]) ?_))
  all_goals with_reducible repeat' first|exact dA|refine bk ?_ ?_|refine bm ?_
  all_goals first|(refine cy.mk ?_;exact Cq)|exact Nm|exact Nr|exact Nl
theorem tu {a:Nat}{b:Bool}(h:((a:Int)==0)=b):Nat.beq a 0=b:=by
 subst h
 cases a with
 |zero=>rfl
 |succ a=>
  cases hb:(((a+1:Nat):Int)==0)with
  |false=>rfl
  |true=>have:=eq_of_beq hb;omega
theorem ltF {x y:Nat}(h:y≤x):decide ((y:Int)>(x:Int))=false:=bu om
theorem ltT {x y:Nat}(h:x<y):decide ((y:Int)>(x:Int))=true:=bZ om
section
variable {D:Int}
variable {f e n a:Nat}{L:LC}{o:dx}
theorem mi (hc:bH D (f+1) e n a L o)(h0:0<n)(h:n*e≤a):bH D f (e+1) n a L o:=by
 obtain⟨c1,c2,c3,c4,c5,c6,c7,c8,c9⟩:=hc
 have hen:e≤a:=cU (Nat.le_mul_of_pos_left e h0) h
 rw[jJ h0 h]at c8
 have hg:=H5 (Hc D) (f:=f) (e:=e) (n:=n) (a:=a) (L:=L) (o:=aE (ax D) f (e+1) n a L o) (aY (ee e n a))
 exact⟨om,om,c3,fun _=>h0,c5,om,c7,cU hg c8,c9⟩
theorem mj (hc:bH D (f+1) e n a L o)(h0:0<n)(h:n*e≤a):qJ D f e n a L (aE (ax D) f (e+1) n a L o):=by
 obtain⟨c1,c2,c3,c4,c5,c6,c7,c8,c9⟩:=hc
 have hen:e≤a:=cU (Nat.le_mul_of_pos_left e h0) h
 rw[jJ h0 h]at c8
 exact⟨om,h0,h,c3,c5,om,c7,c8,c9⟩
theorem IQ (hc:bH D (f+1) e n a L o)(hn:n=0)(ha:Nat.beq a 0=true):mP D L o:=by
 obtain⟨c1,c2,c3,c4,c5,c6,c7,c8,c9⟩:=hc
 subst hn
 rw[Ao,ha]at c8
 exact Ye (rE fun h=>by have:=c4 h;omega) om c8 c9 c5
end
theorem Wf (D:Int)(f e n a:Nat)(L:LC)(hc:bH D (f+1) e n a L none)(hn:n=0):aJ Tryz.prog EV.ng (cW D (f+1) e n a (some L) (some L) none):=by
 have hz:((n:Int)==0)=true:=(by subst hn;rfl)
 have hs:aE (ax D) (f+1) e n a L none=bif Nat.beq a 0 then(ax D) L none else none:=by subst hn;rfl
 refine cQ (cF (cV (sn D) (dL _ _))) Tryz.func76 aC ?_
 intro d hd
 cases d
 rotate_right
 have hd:((aE (ax D) (f+1) e n a (bv (some L)) none).isNone)=true:=hd
 refine oe ((↑a:Int)==0) (fun d1=>oe ((ax D L none).isNone) (fun d2=>lr (tp 1111) [rq L.length,D=D,L=L,aj ((↑n:Int)==0) true,mP D L none,rq L.length,L=L,D=D,ty d2,ty d1,aj ((↑n:Int)==0) true] ?_)
  (fun d2=>aT.no ?_))
  (fun d1=>lr (tp 121) [rq L.length,D=D,L=L,aj ((↑n:Int)==0) true,ty d1,aj ((↑n:Int)==0) true] ?_)
 all_goals with_reducible(repeat' first|exact dA|refine bk ?_ ?_|refine bm ?_|(delta aj;assumption))
 rotate_right
 have hd:((aE (ax D) (f+1) e n a (bv (some L)) none).isNone)=false:=hd
 refine oe ((↑a:Int)==0) (fun d1=>oe ((ax D L none).isNone) (fun d2=>aT.no ?_)
  (fun d2=>lr (tp 1121) (let v1:=aE (ax D) (f+1) e n a (bv (some L)) none;[rq L.length,(ae (ax D L none)).length=(ae v1).length,D=D,L=L,ae (ax D L none)=ae v1,aj ((↑n:Int)==0) true,mP D L none,rq L.length,L=L,D=D,ty d2,ty d1,aj ((↑n:Int)==0) true]) ?_))
  (fun d1=>aT.no ?_)
 all_goals with_reducible(repeat' first|exact dA|refine bk ?_ ?_|refine bm ?_|(delta aj;assumption))
 all_goals first|exact LM|(first|exact tv|exact IQ hc hn (tu d1)|(have e1:=tu d1;rw[e1]at hs;first|exact xq|exact xt))
theorem Wg (D:Int)(f e n a:Nat)(L:LC)(X:LL)(hc:bH D (f+1) e n a L (some X))(hn:n=0):aJ Tryz.prog EV.ng (cW D (f+1) e n a (some L) (some L) (some X)):=by
 have hz:((n:Int)==0)=true:=(by subst hn;rfl)
 have hs:aE (ax D) (f+1) e n a L (some X)=bif Nat.beq a 0 then(ax D) L (some X)else(some X):=by subst hn;rfl
 refine cQ (cF (cV (sn D) (dL _ _))) Tryz.func76 aC ?_
 intro d hd
 cases d
 ·exact Bool.noConfusion (show false=true from hd)
 ·refine oe ((↑a:Int)==0) (fun d1=>lr (tp 111) (let v1:=aE (ax D) (f+1) e n a (bv (some L)) (some X);[rq L.length,(ae (ax D L (some X))).length=(ae v1).length,D=D,L=L,ae (ax D L (some X))=ae v1,aj ((↑n:Int)==0) true,mP D L (some X),rq L.length,L=L,rq X.length,D=D,X=X,ty d1,aj ((↑n:Int)==0) true]) ?_)
   (fun d1=>lr (tp 121) (let v1:=aE (ax D) (f+1) e n a (bv (some L)) (some X);[rq L.length,X.length=(ae v1).length,D=D,L=L,X=ae v1,aj ((↑n:Int)==0) true,ty d1,aj ((↑n:Int)==0) true]) ?_)
  all_goals with_reducible(repeat' first|exact dA|refine bk ?_ ?_|refine bm ?_|(delta aj;assumption))
  all_goals first|exact LM|(first|exact tv|exact IQ hc hn (tu d1)|(have e1:=tu d1;rw[e1]at hs;first|exact Cm|exact Cp))
theorem Yg (D:Int)(f e n a:Nat)(L:LC)(h1:0<n)(h2:n≤10)(h3:e≤101)(h4:a≤100)(h5:a<n*e):aJ Tryz.prog EV.ng (cW D (f+1) e n a (some L) (some L) none):=by
 have hz:((n:Int)==0)=false:=bJ.2 om
 have hy:decide (w6.wrap ((n:Int)*(e:Int))>(a:Int))=true:=xy
 have hs:aE (ax D) (f+1) e n a L none=none:=qi h1 h5
 refine cQ c0 Tryz.func76 aC ?_
 intro d hd
 cases d
 rotate_right
 have hd:((aE (ax D) (f+1) e n a (bv (some L)) none).isNone)=true:=hd
 refine lr (tp 221) [rq L.length,D=D,L=L,aj (decide (w6.wrap ((↑n:Int)*↑e)>↑a)) true,aj ((↑n:Int)==0) false,aj ((↑n:Int)==0) false] ?_
 all_goals with_reducible(repeat' first|exact dA|refine bk ?_ ?_|refine bm ?_|(delta aj;assumption))
 rotate_right
 have hd:((aE (ax D) (f+1) e n a (bv (some L)) none).isNone)=false:=hd
 refine aT.no ?_
 all_goals first|exact Mf|(first|exact tv|exact xq|exact xt)
theorem Yh (D:Int)(f e n a:Nat)(L:LC)(X:LL)(h1:0<n)(h2:n≤10)(h3:e≤101)(h4:a≤100)(h5:a<n*e):aJ Tryz.prog EV.ng (cW D (f+1) e n a (some L) (some L) (some X)):=by
 have hz:((n:Int)==0)=false:=bJ.2 om
 have hy:decide (w6.wrap ((n:Int)*(e:Int))>(a:Int))=true:=xy
 have hs:aE (ax D) (f+1) e n a L (some X)=(some X):=qi h1 h5
 refine cQ c0 Tryz.func76 aC ?_
 intro d hd
 cases d
 ·exact Bool.noConfusion (show false=true from hd)
 ·refine lr (tp 221) (let z1:=aE (ax D) (f+1) e n a (bv (some L)) (some X);[rq L.length,X.length=(ae z1).length,D=D,L=L,X=ae z1,aj (decide (w6.wrap ((↑n:Int)*↑e)>↑a)) true,aj ((↑n:Int)==0) false,aj ((↑n:Int)==0) false]) ?_
  all_goals with_reducible(repeat' first|exact dA|refine bk ?_ ?_|refine bm ?_|(delta aj;assumption))
  all_goals first|exact Mf|(first|exact tv|exact Cm|exact Cp)
theorem Yi (D:Int)(f e n a:Nat)(h1:0<n)(h2:n≤10)(h3:e≤101)(h4:a≤100)(h5:a<n*e):aJ Tryz.prog EV.ng (cW D (f+1) e n a none none none):=by
 have hz:((n:Int)==0)=false:=bJ.2 om
 have hy:decide (w6.wrap ((n:Int)*(e:Int))>(a:Int))=true:=xy
 have hs:aE (ax D) (f+1) e n a [] none=none:=qi h1 h5
 refine cQ c0 Tryz.func76 aC ?_
 intro d hd
 cases d
 rotate_right
 have hd:((aE (ax D) (f+1) e n a (bv none) none).isNone)=true:=hd
 refine lr (tp 221) [D=D,aj (decide (w6.wrap ((↑n:Int)*↑e)>↑a)) true,aj ((↑n:Int)==0) false,aj ((↑n:Int)==0) false] ?_
 all_goals with_reducible(repeat' first|exact dA|refine bk ?_ ?_|refine bm ?_|(delta aj;assumption))
 rotate_right
 have hd:((aE (ax D) (f+1) e n a (bv none) none).isNone)=false:=hd
 refine aT.no ?_
 all_goals first|exact Me|(first|exact tv|(show _=(ae (aE (ax D) (f+1) e n a [] none)).length;rw[hs]<;>rfl)|(show _=ae (aE (ax D) (f+1) e n a [] none);rw[hs]<;>rfl))
theorem Yj (D:Int)(f e n a:Nat)(X:LL)(h1:0<n)(h2:n≤10)(h3:e≤101)(h4:a≤100)(h5:a<n*e):aJ Tryz.prog EV.ng (cW D (f+1) e n a none none (some X)):=by
 have hz:((n:Int)==0)=false:=bJ.2 om
 have hy:decide (w6.wrap ((n:Int)*(e:Int))>(a:Int))=true:=xy
 have hs:aE (ax D) (f+1) e n a [] (some X)=(some X):=qi h1 h5
 refine cQ c0 Tryz.func76 aC ?_
 intro d hd
 cases d
 ·exact Bool.noConfusion (show false=true from hd)
 ·refine lr (tp 221) (let z1:=aE (ax D) (f+1) e n a (bv none) (some X);[X.length=(ae z1).length,D=D,X=ae z1,aj (decide (w6.wrap ((↑n:Int)*↑e)>↑a)) true,aj ((↑n:Int)==0) false,aj ((↑n:Int)==0) false]) ?_
  all_goals with_reducible(repeat' first|exact dA|refine bk ?_ ?_|refine bm ?_|(delta aj;assumption))
  all_goals first|exact Me|(first|exact tv|exact Cl|exact Co)
end Go.Proofs.YtmeljalphfcieaaGreatDoor.S
end
