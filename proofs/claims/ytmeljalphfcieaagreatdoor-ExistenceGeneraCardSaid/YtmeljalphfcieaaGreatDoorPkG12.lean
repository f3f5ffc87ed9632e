/- ExistenceGenera returns true whatever the input, and its arguments read as before: the tied card; its conditions are those of the card. With: LH, CardExistenceGenera, TiedExistenceGenera. -/
import Derived.Test.YtmeljalphfcieaaGreatDoorPkG9
import Derived.Test.YtmeljalphfcieaaGreatDoorPkG10
import Derived.Test.YtmeljalphfcieaaGreatDoorPkG11
import Derived.Test.YtmeljalphfcieaaGreatDoorPkG2
set_option linter.unusedSimpArgs false
set_option linter.unusedVariables false
set_option maxRecDepth 100000
noncomputable section
namespace Go.Proofs.YtmeljalphfcieaaGreatDoor.S
open Go.QfSy Go.RowKit
theorem zr (n D:Nat)(hn:1≤n∧n≤4)(hd:1≤D∧D≤48):pz n D=true:=by
 have h:n=1∨n=2∨n=3∨n=4:=by omega
 rcases h with rfl|rfl|rfl|rfl
 ·exact jn U0 om om
 ·rcases bA D 17 with h|h
  ·exact jn U1 om om
  ·rcases bA D 33 with h|h
   ·exact jn Sf om om
   ·exact jn Sh om om
 ·rcases bA D 17 with h|h
  ·exact jn Td om om
  ·rcases bA D 33 with h|h
   ·exact jn Q5 om om
   ·exact jn Q7 om om
 ·rcases bA D 8 with h|h
  ·exact jn Th om om
  ·rcases bA D 17 with h|h
   ·exact jn TU om om
   ·rcases bA D 32 with h|h
    ·exact jn Qz om om
    ·rcases bA D 33 with h|h
     ·exact jn QH om om
     ·rcases bA D 41 with h|h
      ·exact jn QI om om
      ·exact jn Q8 om om
theorem Xx:Nat.beq (my 2 1).length 1=true:=by kernel_rfl
theorem Xy:Nat.beq (my 2 3).length 2=true:=by kernel_rfl
theorem JJ:CU (my 2 1) (my 2 3):=by
 obtain⟨p1,o1⟩:=zJ 2 1 om om (AY (zr 2 1 om om))
 obtain⟨p3,o3⟩:=zJ 2 3 om om (AY (zr 2 3 om om))
 obtain⟨a1,a2,a3,a4,a5⟩:=aaF o1 (k:=0) o1.pos
 exact⟨p1,p3,co Xx,co Xy,a3,a5⟩
theorem Vw (n D:Nat)(hn:1≤n∧n≤4)(hd:1≤D∧D≤48):xa (fun p q=>p=(n:Int)∧q=(D:Int)) (my n D) 0:=by
 have h:=zr n D hn hd
 obtain⟨p,o⟩:=zJ n D om om (AY h)
 obtain⟨r,e⟩:=Zq om om om om h
 have h1:=o.pos
 have h2:=o.len
 have q:=Qd n D r (by rw[e];exact h1) (by rw[e];exact h2)
 rw[e]at q
 exact⟨fun a b hab=>by rw[hab.1,hab.2];exact p,fun a b hab=>by rw[hab.1,hab.2];exact q,Gx _ _ JJ,om,fun g hg=>(o.al g hg).2.2.2.2⟩
theorem NT (a b x y:Int)(w:Bool)(hx:0≤x∧x≤255)(hy:0≤y∧y≤255):ar Tryz.prog [ci] 3 [.int .i64 a,.int .i64 b,.int .u8 x,.int .u8 y,.bool w] (.bool true):=by
 cases w with
 |true=>exact abb a b x y 1 ⟨fun p q h=>pgr p q h,fun p q h=>rgr p q h,Gx _ _ JJ,aY _,fun g hg=>by cases hg⟩
 |false=>exact abc a b x y (1+x%4).toNat (1+y%48).toNat _ (Vw _ _ om om) hx hy om om
end Go.Proofs.YtmeljalphfcieaaGreatDoor.S
namespace Go.Proofs.YtmeljalphfcieaaGreatDoor.existenceGenera
open Go.ChangeShapes Go.WideShapes Go.ChangeAt Go.RowKit Go.Joins Go.Deep
open Go.QfSy (Con RV bW bM lB aD Fz Tb kK ar)
open S
theorem readable:∀t∈Tryz.f3.params.toList,Tryz.prog.readableRec t=true∧t<Tryz.prog.types.size:=by
 have h:(Tryz.f3.params.toList.all fun t=>Tryz.prog.readableRec t&&Nat.blt t Tryz.prog.types.size)=true:=by kernel_rfl
 intro t ht
 have:=List.all_eq_true.1 h t ht
 simp only[Bool.and_eq_true]at this
 exact⟨this.1,Nat.le_of_ble_eq_true this.2⟩
theorem contract (H:Type)(enc:TypeId×Value→H)(W:World)(base:Nat)(args:Array Value)(ds gs:List (DataW H))(before:List MemPlace)
 (hval:∀(j:Nat)t v,Tryz.f3.params[j]? =some t→args[j]? =some v→Value.okWide Tryz.prog W .any base t v)
 (hW:DataW.Whole enc Tryz.prog Tryz.f3.params.toList Rows.existenceGeneraSpec.vars false W args.toList ds gs before)(hO:kK tabs W):
 Calls Tryz.prog 3 args W fun e W'=>∃v,e=.returned v∧Rows.existenceGeneraSpec.post enc Tryz.prog Tryz.f3 false true false false W args v W':=by
 have hW':=hW
 obtain⟨p,q,hA0,hV,rfl,hfz,hnd⟩:=hW
 have hA:DataW.TrodAll enc Tryz.prog W 0 (fun _=>true) true Tryz.f3.params.toList args.toList ds p:=hA0
 rw[Tryz.params3]at hA hval
 obtain⟨v0,vs0,d0,ds0,p0,q0,hargs0,rfl,rfl,h0,r0⟩:=trodAll_cons hA
 obtain⟨v1,vs1,d1,ds1,p1,q1,hargs1,rfl,rfl,h1,r1⟩:=trodAll_cons r0
 obtain⟨v2,vs2,d2,ds2,p2,q2,hargs2,rfl,rfl,h2,r2⟩:=trodAll_cons r1
 obtain⟨v3,vs3,d3,ds3,p3,q3,hargs3,rfl,rfl,h3,r3⟩:=trodAll_cons r2
 obtain⟨v4,vs4,d4,ds4,p4,q4,hargs4,rfl,rfl,h4,r4⟩:=trodAll_cons r3
 obtain⟨rfl,rfl,rfl⟩:=trodAll_nil r4
 obtain rfl:args=#[v0,v1,v2,v3,v4]:=by cases args;simp_all
 obtain⟨z0,rfl,rfl,rfl,hz0⟩:=open_int Tryz.underlying3 (hval 0 3 v0 rfl rfl) h0
 have hr0:bW (Wz W) (.int .i64 z0) (.int .i64 z0):=.int _ _
 obtain⟨z1,rfl,rfl,rfl,hz1⟩:=open_int Tryz.underlying2 (hval 1 2 v1 rfl rfl) h1
 have hr1:bW (Wz W) (.int .i64 z1) (.int .i64 z1):=.int _ _
 obtain⟨z2,rfl,rfl,rfl,hz2⟩:=open_int Tryz.underlying5 (hval 2 5 v2 rfl rfl) h2
 have hr2:bW (Wz W) (.int .u8 z2) (.int .u8 z2):=.int _ _
 obtain⟨z3,rfl,rfl,rfl,hz3⟩:=open_int Tryz.underlying5 (hval 3 5 v3 rfl rfl) h3
 have hr3:bW (Wz W) (.int .u8 z3) (.int .u8 z3):=.int _ _
 obtain⟨b4,rfl,rfl,rfl⟩:=open_bool Tryz.underlying4 (hval 4 4 v4 rfl rfl) h4
 have hr4:bW (Wz W) (.bool b4) (.bool b4):=.bool _
 refine(OX (NT z0 z1 z2 z3 b4 (I8 hz2) (I8 hz3)) hO (.cons hr0 (.cons hr1 (.cons hr2 (.cons hr3 (.cons hr4 .nil)))))).mono fun e W' ⟨he,hb⟩=>?_
 exact⟨_,he,R0 TV readable rfl Tryz.underlying4 rfl hW' rfl hb⟩
def wArgs:Array Value:=#[.int .i64 0,.int .i64 0,.int .u8 0,.int .u8 0,.bool false]
theorem laid_met (os:Os):laidMet Tryz.prog Rows.existenceGeneraRow.laid ((yq os).forCall (fun _ _=>0) ⟨#[],wArgs,[]⟩).memory:=
 laidMet_of_run' 8 (by kernel_rfl) (by kernel_rfl)
theorem reads (os:Os){H:Type}(enc:TypeId×Value→H):∃ds places,DataW.whole enc Tryz.prog ((yq os).forCall (fun _ _=>0) ⟨#[],wArgs,[]⟩).memory Tryz.f3.params.toList Rows.existenceGeneraSpec.vars false wArgs.toList 8=some (ds,[],places):=
 ⟨[.lit (.int .i64 0),.lit (.int .i64 0),.lit (.int .u8 0),.lit (.int .u8 0),.lit (.bool false)],[],by kernel_rfl⟩
theorem lifted (os:Os)(started:os.Started)(H:Type)(enc:TypeId×Value→H)(F:Stop.Interp):
 ReturnsInHanded {} Tryz.checked os 3 .any ((OpenSpec.ofChange Rows.existenceGeneraSpec).preRow enc Tryz.prog Tryz.f3 Rows.existenceGeneraRow.domain false Rows.existenceGeneraRow.laid) (((OpenSpec.ofChange Rows.existenceGeneraSpec).at F).post enc Tryz.prog Tryz.f3 false true false false):=by
 refine returnsInHanded_of_row (C:=Tryz.checked) (s:=OpenSpec.ofChange Rows.existenceGeneraSpec) own started (by kernel_rfl) Tryz.func3
  (witness_row_at (enc:=enc) (C:=Tryz.checked) false (yq os) wArgs rfl (by kernel_rfl) (by kernel_rfl) (by kernel_rfl)
    (OpenSpec.preRow_of_cond 8 (reads os enc).choose_spec.choose_spec (by kernel_rfl) (fun k hk=>by cases hk) (by kernel_rfl) (laid_met os))) ?_
 intro W base args ds gs before hval hW _ _ _ hL hS _
 exact contract H enc W base args ds gs before hval hW (TW hL hS)
theorem named:Tryz.prog.funcNamed Rows.existenceGeneraRow.func=some 3:=by kernel_rfl
theorem facts:joinedFacts Tryz.prog 3 Tryz.f3 (OpenSpec.ofChange Rows.existenceGeneraSpec).bare Rows.existenceGeneraRow=true:=by kernel_rfl
theorem inst:Tryz.f3.isInstance Tryz.prog Rows.existenceGeneraRow.origin Rows.existenceGeneraRow.targs:=of_decide_eq_true (by kernel_rfl)
theorem wrap:Tryz.f3.isWrapper Tryz.prog Rows.existenceGeneraRow.wrapper Rows.existenceGeneraRow.mainSum:=by
 unfold Func.isWrapper;first|(rw[if_pos (by decide+kernel)];kernel_rfl)|(rw[if_neg (by decide+kernel)];exact⟨rfl,rfl⟩)
theorem said:Rows.ExistenceGeneraSaid:=
 OpenClaim.holds_of_cond 3 Tryz.f3 rfl rfl rfl rfl rfl rfl rfl ⟨rfl,rfl,rfl,rfl,rfl⟩ rfl rfl rfl rfl rfl named Tryz.func3 facts inst wrap
  (fun os started H enc _ F=>by rw[OpenClaim.pre_eq_preRow];exact lifted os started H enc F)
end Go.Proofs.YtmeljalphfcieaaGreatDoor.existenceGenera
namespace Go.Proofs.YtmeljalphfcieaaGreatDoor.existenceGenera
open Go.ChangeShapes Go.WideShapes Go.ChangeAt Go.RowKit Go.Joins Go.Deep
theorem stands:(Tryz.f3.params.toList.all fun t=>!Tryz.prog.wantsStandIn t)=true:=by kernel_rfl
theorem looks:false=Tryz.prog.looks []:=by kernel_rfl
theorem plain (f:FuncId)(fn:Func)(hf:Tryz.pinned.checked.prog.funcNamed "quadform/quadformlaw29.ExistenceGenera" =some f)(hfn:Tryz.pinned.checked.prog.funcs[f]? =some fn):
 false=Tryz.pinned.checked.prog.looks []∧∀(j:Nat)t,fn.params[j]? =some t→Tryz.pinned.checked.prog.wantsStandIn t=false:=by
 obtain rfl:f=3:=Option.some.inj (named.symm.trans hf) |>.symm
 obtain rfl:fn=Tryz.f3:=(Option.some.inj (Tryz.func3.symm.trans hfn)).symm
 refine⟨looks,fun j t ht=>?_⟩
 have:=List.all_eq_true.1 stands t (by simpa using Array.mem_of_getElem? ht)
 exact(by simpa using this:Tryz.prog.wantsStandIn t=false)
theorem holds:Rows.ExistenceGeneraCardSaid:=
 Claim7.holds_tied_plain_at .later [] _ _ _ _ said (fun _ h=>by cases h) (by kernel_rfl) (fun _ h=>by cases h) existenceGenera_row_tie rfl ⟨rfl,rfl⟩ (by kernel_rfl) rfl plain (by kernel_rfl)
end Go.Proofs.YtmeljalphfcieaaGreatDoor.existenceGenera
end
