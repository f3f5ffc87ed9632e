/- ExistenceOne returns true whatever the input, and its arguments read as before: the tied card; its conditions are those of the card. With: QR, CardExistenceOne, TiedExistenceOne. -/
import Derived.Test.YtdbdoalefmliiaaGreatDoorPkE9
import Derived.Test.YtdbdoalefmliiaaGreatDoorPkE10
import Derived.Test.YtdbdoalefmliiaaGreatDoorPkE2
set_option linter.unusedSimpArgs false
set_option linter.unusedVariables false
set_option maxRecDepth 100000
noncomputable section
namespace Go.Proofs.YtdbdoalefmliiaaGreatDoor.S
open Go.QfSy Go.RowKit
theorem O9 (n:Nat)(hn:0<n∧n≤10000):rK n (ba (2*n))=true:=by
 rcases bA n 5001 with h|h
 ·rcases bA n 2501 with h|h
  ·rcases bA n 1001 with h|h
   ·rcases bA n 501 with h|h
    ·exact gl Xt om om
    ·exact gl SL om om
   ·rcases bA n 1501 with h|h
    ·exact gl Qc om om
    ·rcases bA n 2001 with h|h
     ·exact gl Qd om om
     ·exact gl Qe om om
  ·rcases bA n 3501 with h|h
   ·rcases bA n 3001 with h|h
    ·exact gl Qf om om
    ·exact gl Qg om om
   ·rcases bA n 4001 with h|h
    ·exact gl Qh om om
    ·rcases bA n 4501 with h|h
     ·exact gl Qi om om
     ·exact gl Qj om om
 ·rcases bA n 7501 with h|h
  ·rcases bA n 6001 with h|h
   ·rcases bA n 5501 with h|h
    ·exact gl Rb om om
    ·exact gl Rc om om
   ·rcases bA n 6501 with h|h
    ·exact gl Rd om om
    ·rcases bA n 7001 with h|h
     ·exact gl Re om om
     ·exact gl Rf om om
  ·rcases bA n 8501 with h|h
   ·rcases bA n 8001 with h|h
    ·exact gl Rg om om
    ·exact gl Rh om om
   ·rcases bA n 9001 with h|h
    ·exact gl Ri om om
    ·rcases bA n 9501 with h|h
     ·exact gl Rj om om
     ·exact gl Rk om om
theorem RL:Ce 2 1=true:=by kernel_rfl
theorem RM:Ce 2 3=true:=by kernel_rfl
theorem RN:Nat.beq (pB 2 1).length 1=true:=by kernel_rfl
theorem RO:Nat.beq (pB 2 3).length 2=true:=by kernel_rfl
theorem RP:Ch (pB 2 1) (pB 2 3):=by
 obtain⟨p1,o1⟩:=FK 2 1 om om RL
 obtain⟨p3,o3⟩:=FK 2 3 om om RM
 obtain⟨a1,a2,a3,a4,a5⟩:=W5 o1 (k:=0) o1.pos
 exact⟨p1,p3,co RN,co RO,a3,a5⟩
theorem LZ (x:Int)(hx:0≤x∧x≤65535):ax Tryz.prog [aL] 3 [.int .u16 x] (.bool true):=by
 have hn:0<(1+x%10000).toNat∧(1+x%10000).toNat≤10000:=by omega
 exact PA x _ _ (Rv hn (O9 _ hn) (RA _ _ RP)) hx om
end Go.Proofs.YtdbdoalefmliiaaGreatDoor.S
namespace Go.Proofs.YtdbdoalefmliiaaGreatDoor.existenceOne
open Go.ChangeShapes Go.WideShapes Go.ChangeAt Go.RowKit Go.Joins Go.Deep
open Go.QfSy (Con RV bZ bY mP bg Fz Tb jU ax)
open S
theorem readable:∀t∈Tryz.f3.params.toList,Tryz.prog.readableRec t=true∧t<Tryz.prog.types.size:=by
 have h:(Tryz.f3.params.toList.all fun t=>Tryz.prog.readableRec t&&Nat.blt t Tryz.prog.types.size)=true:=by kernel_rfl
 intro t ht
 have:=List.all_eq_true.1 h t ht
 simp only[Bool.and_eq_true]at this
 exact⟨this.1,Nat.le_of_ble_eq_true this.2⟩
theorem contract (H:Type)(enc:TypeId×Value→H)(W:World)(base:Nat)(args:Array Value)(ds gs:List (DataW H))(before:List MemPlace)
 (hval:∀(j:Nat)t v,Tryz.f3.params[j]? =some t→args[j]? =some v→Value.okWide Tryz.prog W .any base t v)
 (hW:DataW.Whole enc Tryz.prog Tryz.f3.params.toList Rows.existenceOneSpec.vars false W args.toList ds gs before)(hO:jU tabs W):
 Calls Tryz.prog 3 args W fun e W'=>∃v,e=.returned v∧Rows.existenceOneSpec.post enc Tryz.prog Tryz.f3 false true false false W args v W':=by
 have hW':=hW
 obtain⟨p,q,hA0,hV,rfl,hfz,hnd⟩:=hW
 have hA:DataW.TrodAll enc Tryz.prog W 0 (fun _=>true) true Tryz.f3.params.toList args.toList ds p:=hA0
 rw[Tryz.params3]at hA hval
 obtain⟨v0,vs0,d0,ds0,p0,q0,hargs0,rfl,rfl,h0,r0⟩:=trodAll_cons hA
 obtain⟨rfl,rfl,rfl⟩:=trodAll_nil r0
 obtain rfl:args=#[v0]:=by cases args;simp_all
 obtain⟨z0,rfl,rfl,rfl,hz0⟩:=open_int Tryz.underlying22 (hval 0 22 v0 rfl rfl) h0
 have hr0:bZ (Wz W) (.int .u16 z0) (.int .u16 z0):=.int _ _
 refine(Mi (LZ z0 (by have h9:=hz0;simp only[Lit.wf,Bool.and_eq_true,decide_eq_true_eq]at h9;exact h9)) hO (.cons hr0 .nil)).mono fun e W' ⟨he,hb⟩=>?_
 exact⟨_,he,OP PY readable rfl Tryz.underlying4 rfl hW' rfl hb⟩
def wArgs:Array Value:=#[.int .u16 0]
theorem laid_met (os:Os):laidMet Tryz.prog Rows.existenceOneRow.laid ((yp os).forCall (fun _ _=>0) ⟨#[],wArgs,[]⟩).memory:=
 laidMet_of_run' 8 (by kernel_rfl) (by kernel_rfl)
theorem reads (os:Os){H:Type}(enc:TypeId×Value→H):∃ds places,DataW.whole enc Tryz.prog ((yp os).forCall (fun _ _=>0) ⟨#[],wArgs,[]⟩).memory Tryz.f3.params.toList Rows.existenceOneSpec.vars false wArgs.toList 8=some (ds,[],places):=
 ⟨[.lit (.int .u16 0)],[],by kernel_rfl⟩
theorem lifted (os:Os)(started:os.Started)(H:Type)(enc:TypeId×Value→H)(F:Stop.Interp):
 ReturnsInHanded {} Tryz.checked os 3 .any ((OpenSpec.ofChange Rows.existenceOneSpec).preRow enc Tryz.prog Tryz.f3 Rows.existenceOneRow.domain false Rows.existenceOneRow.laid) (((OpenSpec.ofChange Rows.existenceOneSpec).at F).post enc Tryz.prog Tryz.f3 false true false false):=by
 refine returnsInHanded_of_row (C:=Tryz.checked) (s:=OpenSpec.ofChange Rows.existenceOneSpec) own started (by kernel_rfl) Tryz.func3
  (witness_row_at (enc:=enc) (C:=Tryz.checked) false (yp os) wArgs rfl (by kernel_rfl) (by kernel_rfl) (by kernel_rfl)
    (OpenSpec.preRow_of_cond 8 (reads os enc).choose_spec.choose_spec (by kernel_rfl) (fun k hk=>by cases hk) (by kernel_rfl) (laid_met os))) ?_
 intro W base args ds gs before hval hW _ _ _ hL hS _
 exact contract H enc W base args ds gs before hval hW (PZ hL hS)
theorem named:Tryz.prog.funcNamed Rows.existenceOneRow.func=some 3:=by kernel_rfl
theorem facts:joinedFacts Tryz.prog 3 Tryz.f3 (OpenSpec.ofChange Rows.existenceOneSpec).bare Rows.existenceOneRow=true:=by kernel_rfl
theorem inst:Tryz.f3.isInstance Tryz.prog Rows.existenceOneRow.origin Rows.existenceOneRow.targs:=of_decide_eq_true (by kernel_rfl)
theorem wrap:Tryz.f3.isWrapper Tryz.prog Rows.existenceOneRow.wrapper Rows.existenceOneRow.mainSum:=by
 unfold Func.isWrapper;first|(rw[if_pos (by decide+kernel)];kernel_rfl)|(rw[if_neg (by decide+kernel)];exact⟨rfl,rfl⟩)
theorem said:Rows.ExistenceOneSaid:=
 OpenClaim.holds_of_cond 3 Tryz.f3 rfl rfl rfl rfl rfl rfl rfl ⟨rfl,rfl,rfl,rfl,rfl⟩ rfl rfl rfl rfl rfl named Tryz.func3 facts inst wrap
  (fun os started H enc _ F=>by rw[OpenClaim.pre_eq_preRow];exact lifted os started H enc F)
end Go.Proofs.YtdbdoalefmliiaaGreatDoor.existenceOne
namespace Go.Proofs.YtdbdoalefmliiaaGreatDoor.existenceOne
open Go.ChangeShapes Go.WideShapes Go.ChangeAt Go.RowKit Go.Joins Go.Deep
theorem stands:(Tryz.f3.params.toList.all fun t=>!Tryz.prog.wantsStandIn t)=true:=by kernel_rfl
theorem looks:false=Tryz.prog.looks []:=by kernel_rfl
theorem plain (f:FuncId)(fn:Func)(hf:Tryz.pinned.checked.prog.funcNamed "quadform/quadformlaw29.ExistenceOne" =some f)(hfn:Tryz.pinned.checked.prog.funcs[f]? =some fn):
 false=Tryz.pinned.checked.prog.looks []∧∀(j:Nat)t,fn.params[j]? =some t→Tryz.pinned.checked.prog.wantsStandIn t=false:=by
 obtain rfl:f=3:=Option.some.inj (named.symm.trans hf) |>.symm
 obtain rfl:fn=Tryz.f3:=(Option.some.inj (Tryz.func3.symm.trans hfn)).symm
 refine⟨looks,fun j t ht=>?_⟩
 have:=List.all_eq_true.1 stands t (by simpa using Array.mem_of_getElem? ht)
 exact(by simpa using this:Tryz.prog.wantsStandIn t=false)
theorem holds:Rows.ExistenceOneCardSaid:=
 Claim7.holds_tied_plain_at .later [] _ _ _ _ said (fun _ h=>by cases h) (by kernel_rfl) (fun _ h=>by cases h) existenceOne_row_tie rfl ⟨rfl,rfl⟩ (by kernel_rfl) rfl plain (by kernel_rfl)
end Go.Proofs.YtdbdoalefmliiaaGreatDoor.existenceOne
end
