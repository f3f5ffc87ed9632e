/- A part of the proof of ExistenceGenera: KN. -/
import Derived.Test.YtmeljalphfcieaaGreatDoorPkG5
set_option linter.unusedSimpArgs false
set_option linter.unusedVariables false
set_option maxRecDepth 100000
noncomputable section
namespace Go.Proofs.YtmeljalphfcieaaGreatDoor.S
open Go.QfSy Go.RowKit
def loM (D p:Int)(C:List Con)(o:Option (List QfSy.Loc)):Option (List QfSy.Loc):=bif gy D p C then some (ae o++[⟨p,C⟩])else o
def w4 (D p:Int)(S:List Con):Nat→Nat→List Con→Option (List QfSy.Loc)→List Con×Option (List QfSy.Loc)
 |0,_,C,o=>(C,loM D p C o)
 |r+1,i,C,o=>w4 D p S r (i+1) ((w4 D p S r (i+1) (C.set i (S.getD i Con.zero)) o).1.set i (tB (S.getD i Con.zero))) (w4 D p S r (i+1) (C.set i (S.getD i Con.zero)) o).2
def olM (D p:Int)(S:List Con)(o:Option (List QfSy.Loc)):Option (List QfSy.Loc):=(w4 D p S S.length 0 S o).2
def gU (n d p:Nat):List QfSy.Loc:=ae (aE (olM (d:Int) (p:Int)) 102 0 n (vv p d).1 [] none)
def olTab (a b:Nat):Bool:=(List.range 16).all fun i=>((bz (2*(16*b+i)+2)).drop 1).all fun q=>mg 11 [] [ii (a+1),ii (16*b+i+1),.int .i64 q.prime] (dR (gU (a+1) (16*b+i+1) q.prime.toNat))
theorem aaR:olTab 0 0=true:=by kernel_rfl
theorem aaS:olTab 0 1=true:=by kernel_rfl
theorem aaT:olTab 0 2=true:=by kernel_rfl
theorem aaU:olTab 1 0=true:=by kernel_rfl
theorem aaV:olTab 1 1=true:=by kernel_rfl
theorem aaW:olTab 1 2=true:=by kernel_rfl
theorem aaX:olTab 2 0=true:=by kernel_rfl
theorem aaY:olTab 2 1=true:=by kernel_rfl
theorem aaZ:olTab 2 2=true:=by kernel_rfl
theorem aa0:olTab 3 0=true:=by kernel_rfl
theorem aa1:olTab 3 1=true:=by kernel_rfl
theorem aa2:olTab 3 2=true:=by kernel_rfl
theorem S1 {a b:Nat}(ha:a<4)(hb:b<3):olTab a b=true:=by
 rcases(show a=0∨a=1∨a=2∨a=3 by omega)with rfl|rfl|rfl|rfl<;>rcases(show b=0∨b=1∨b=2 by omega)with rfl|rfl|rfl
 ·exact aaR
 ·exact aaS
 ·exact aaT
 ·exact aaU
 ·exact aaV
 ·exact aaW
 ·exact aaX
 ·exact aaY
 ·exact aaZ
 ·exact aa0
 ·exact aa1
 ·exact aa2
theorem QN (n d:Nat)(q:bB)(hn:1≤n∧n≤4)(hd:0<d∧d≤48)(hq:q∈(bz (2*d)).drop 1):ar Tryz.prog [] 11 [.int .i64 (n:Int),.int .i64 (d:Int),.int .i64 q.prime] (dR (gU n d q.prime.toNat)):=by
 have h:=bX.1 (S1 (a:=n-1) (b:=(d-1)/16) om om) ((d-1)%16) (jj.2 om)
 rw[show n-1+1=n by omega,show 16*((d-1)/16)+(d-1)%16+1=d by omega,show 2*(16*((d-1)/16)+(d-1)%16)+2=2*d by omega]at h
 exact pM (bX.1 h q hq)
end Go.Proofs.YtmeljalphfcieaaGreatDoor.S
end
