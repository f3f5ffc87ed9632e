/- A part of the proof of ExistenceOrder: VH0, VD, VF1, VS, RC, VV, VI, VJ, VW, KB, ZFZ, EH, KC, KD, KE, KF, KG, KH, ZFA, KJ, KI. -/
import Derived.Test.YtmeljalphfcieaaDoorPkO3
set_option linter.unusedSimpArgs false
set_option linter.unusedVariables false
set_option maxRecDepth 100000
open Go.IntKind renaming i64 → w6
open Go.QfSy.Con renaming zero → z0c
noncomputable section
namespace Go.Proofs.YtmeljalphfcieaaDoor.S
open Go.QfSy Go.RowKit
noncomputable def shV (p:Int)(L:List Con):Bool:=val2M p L||fusM p L
theorem fus_p {p:Int}{L:List Con}(h:fusM p L=true):p=2:=by
 unfold fusM at h
 simp only[Bool.and_eq_true,beq_iff_eq]at h
 exact h.1
theorem shV_ok {p:Int}{L:List Con}(h:shV p L=true):okL L:=by
 unfold shV at h
 rcases Bool.or_eq_true _ _▸h with h|h
 ·have:=val2_p h
  subst this
  exact(val2_ok h).1
 ·have:=fus_p h
  subst this
  exact fus_okL h
noncomputable def entsT3:List OEnt:=[
 ⟨56,[],fun A=>match A with
  |[.agg [.int .i64 p,.sl n 5 row]]=>some (.bool (val2M p (consR n row)),[(∀i,i<n→row i=(Con.ofR (row i)).rvs)∧n≤1000])
  |_=>none⟩,
 ⟨49,[],fun A=>match A with
  |[.agg [.int .i64 p,.sl n 5 row]]=>some (.bool (fusM p (consR n row)),[(∀i,i<n→row i=(Con.ofR (row i)).rvs)∧n≤1000])
  |_=>none⟩,
 ⟨80,[],fun A=>match A with
  |[.agg [.int .i64 p,.sl n 5 row],.int .i64 a]=>some (.bool (linkM (consR n row) a.toNat),[(∀i,i<n→row i=(Con.ofR (row i)).rvs)∧okL (consR n row)∧1≤a∧a<(n:Int)])
  |_=>none⟩]
theorem entsT3_ok:∀e∈entsT3,EntOk Tryd.prog e:=by
 intro e he
 simp only[entsT3,List.mem_cons,List.not_mem_nil,or_false]at he
 rcases he with rfl|rfl|rfl
 all_goals
  intro A R ms h hm
  simp only at h
  split at h
  all_goals first|(cases h;done)|cases h
 ·obtain⟨h1,h2⟩:=all_one hm
  exact PureC.imp (tvalid_pure _ _ (by rw[consR_len];exact h2)) (.cons (.agg (.cons .same (.cons (.con h1) .nil))) .nil)
 ·obtain⟨h1,h2⟩:=all_one hm
  exact PureC.imp (tfused_pure _ _ (by rw[consR_len];exact h2)) (.cons (.agg (.cons .same (.cons (.con h1) .nil))) .nil)
 ·obtain⟨h1,h3,h4,h5⟩:=all_one hm
  rename_i p _ _ a
  have e:((a.toNat:Nat):Int)=a:=by omega
  have:=tlinked_pure p _ a.toNat h3 (by omega) (by rw[consR_len];omega)
  rw[e]at this
  exact PureC.imp this (.cons (.agg (.cons .same (.cons (.con h1) .nil))) (.cons .same .nil))
noncomputable def tfH (n:Nat)(M:List Con):List (Nat×Blk):=[(1001,⟨.plain [.int .i64 0,.nils],46,0,false,true⟩),(1003,⟨.con M,54,5,true,true⟩)]
def bP (v:Bool):Int:=bif v then 2 else 0
def bL (v:Bool)(M:List Con):List Con:=bif v then M else []
noncomputable def rfB (p:Int)(L:List Con):Bool:=fusM p L&&(refM L).isSome
noncomputable def rfL (L:List Con):List Con:=(refM L).getD []
theorem refG_len {L:List Con}:∀{P:List (List Int)}{M R:List Con},(∀l∈P,inR L.length l)→M.length=L.length→refG L P M=some R→R.length=L.length
 |[],M,R,_,hM,h=>by cases h;exact hM
 |l::P,M,R,hP,hM,h=>by
  simp only[refG]at h
  cases hc:(refF l (totM L l) M).1 with
  |false=>rw[hc]at h;cases h
  |true=>
   rw[hc,cond_true]at h
   exact refG_len (fun x hx=>hP x (List.mem_cons_of_mem _ hx)) (refF_len (hP l List.mem_cons_self) hM) h
theorem refM_len {L R:List Con}(h:refM L=some R):R.length=L.length:=refG_len (fun l hl=>(parts_rows l hl).2.1) rfl h
theorem findT_some {p:Nat→Bool}:∀{n t t0:Nat},findT p n t=some t0→p t0=true∧t≤t0∧t0<t+n∧∀u,t≤u→u<t0→p u=false
 |0,_,_,h=>by cases h
 |n+1,t,t0,h=>by
  simp only[findT]at h
  cases hp:p t with
  |true=>
   rw[hp]at h
   cases h
   exact⟨hp,by omega,by omega,fun u _ _=>by omega⟩
  |false=>
   rw[hp]at h
   obtain⟨h1,h2,h3,h4⟩:=findT_some (show findT p n (t+1)=some t0 from h)
   refine⟨h1,by omega,by omega,fun u hu hu'=>?_⟩
   rcases Nat.lt_or_ge t u with hlt|hlt
   ·exact h4 u (by omega) hu'
   ·have:u=t:=by omega
    rw[this];exact hp
def entsTR:List OEnt:=(entsT3++entsVC)++[
 ⟨55,[],fun A=>match A with
  |[.agg [.int .i64 a,.int .i64 b,.int .i64 c,.bool d,.int .i64 e],.sl n 5 row,.sl m 1 row',.int .i64 t]=>some (.tup [.int .i64 (((lsF ⟨a,b,c,d,e⟩ (consR n row) (intsR m row') t).getD 0:Nat):Int),.bool (lsF ⟨a,b,c,d,e⟩ (consR n row) (intsR m row') t).isSome],[(∀i,i<n→row i=(Con.ofR (row i)).rvs)∧(∀i,i<m→row' i=[.int .i64 (intR (row' i))])∧m≤1000∧inR n (intsR m row')∧0≤t∧t≤7])
  |_=>none⟩]
theorem entsTR_ok:∀e∈entsTR,EntOk Tryd.prog e:=by
 intro e he
 rcases List.mem_append.1 he with he|he
 ·rcases List.mem_append.1 he with he|he
  ·exact entsT3_ok e he
  ·exact entsVC_ok e he
 ·rw[List.mem_singleton.1 he]
  intro A R ms h hm
  simp only at h
  split at h
  ·cases h
   obtain⟨h1,h2,h3,h4,h5,h6⟩:=all_one hm
   exact PureC.imp (least_pure ⟨_,_,_,_,_⟩ _ _ _ (by rw[intsR_len];exact h3) (by rw[consR_len];exact h4) h5 h6) (.cons .same (.cons (.con h1) (.cons (.ints h2) (.cons .same .nil))))
  ·cases h
theorem consR_ro2 {n:Nat}{L:List Con}(h:n=L.length):consR n (fun i=>(L.getD i z0c).rvs)=L:=by subst h;exact consR_ro L
theorem at_out {M:List Con}{x:Nat}(h:M.length≤x):at_ M x=z0c:=by simp[at_,h]
theorem intsR_drop (k:IntKind)(l:List Int)(s:Nat):intsR (l.length-s) (fun i=>[.int k (l.getD (i+s) 0)])=l.drop s:=by
 apply List.ext_getElem?
 intro m
 unfold intsR
 rw[List.getElem?_map,List.getElem?_drop]
 rcases Nat.lt_or_ge m (l.length-s)with h|h
 ·rw[List.getElem?_range h]
  have h2:s+m<l.length:=by omega
  simp[intR,List.getElem?_eq_getElem h2,Nat.add_comm m s]
 ·rw[List.getElem?_eq_none (by simpa using h),List.getElem?_eq_none (by omega)]
  rfl
def lsV (M:List Con)(l:List Int)(k:Nat)(tot:Int):Nat:=(lsF (at_ M (l.getD k 0).toNat) M (l.drop (k+1)) tot).getD 0
theorem lsV_b (M:List Con)(l:List Int)(k:Nat)(tot:Int):lsV M l k tot<8:=by
 unfold lsV
 cases h:lsF (at_ M (l.getD k 0).toNat) M (l.drop (k+1)) tot with
 |none=>decide
 |some t=>have:=findT_some h;simp only[Option.getD_some];omega
theorem trF_1 {M:List Con}{l:List Int}{k:Nat}{tot:Int}(hk:k<l.length)(h:(lsF (at_ M (l.getD k 0).toNat) M (l.drop (k+1)) tot).isSome=true):trF (l.drop k) tot M=trF (l.drop (k+1)) ((tot-(lsV M l k tot:Int)+8)%8) (setO M (l.getD k 0) (lsV M l k tot:Int)):=by
 rw[drop_int hk]
 unfold lsV
 simp only[trF,lstC_P]
 unfold lsF at h⊢
 cases hq:findT (lstC (at_ M (l.getD k 0).toNat) M (l.drop (k+1)) tot) 8 0 with
 |none=>rw[hq]at h;cases h
 |some t=>rfl
theorem trF_2 {M:List Con}{l:List Int}{k:Nat}{tot:Int}(hk:k<l.length)(h:(lsF (at_ M (l.getD k 0).toNat) M (l.drop (k+1)) tot).isSome=false):trF (l.drop k) tot M=none:=by
 rw[drop_int hk]
 simp only[trF,lstC_P]
 unfold lsF at h
 cases hq:findT (lstC (at_ M (l.getD k 0).toNat) M (l.drop (k+1)) tot) 8 0 with
 |none=>rfl
 |some t=>rw[hq]at h;cases h
theorem trF_3 {M:List Con}{l:List Int}{k:Nat}{tot:Int}(hk:l.length≤k):trF (l.drop k) tot M=some M:=by
 rw[List.drop_eq_nil_of_le hk];rfl
def trT (N:Nat)(P:List (List Int))(j:AV):List (Nat×AV):=[(2,.ptr 1001 0),(4,.lo 1003 N),(20,(roR .i64 P).av),(21,.vint .i64 P.length),(22,j)]
def trI (N:Nat)(P:List (List Int))(j:Nat)(tot:Int)(k:AV):List (Nat×AV):=trT N P (.vint .i64 (j:Int))++[(6,(rI .i64 (rowAt P j)).av),(7,.vint .i64 tot),(33,(rI .i64 (rowAt P j)).av),(34,.vint .i64 (rowAt P j).length),(35,k)]
def trZ:AEx×St:=(.ret,⟨[(2,.ptr 1001 0),(3,.bool false)],[(1001,⟨.plain [.int .i64 0,.nils],46,0,false,true⟩)],1020⟩)
def trIn (N:Nat)(P:List (List Int))(j:Nat)(tot:Int)(M:List Con):Ann:=⟨⟨trI N P j tot (.int .i64 0),tfH N M,1020⟩,some (trF (rowAt P j) tot M).isSome,fun d=>match d with
 |true=>(.exit 2,⟨trT N P (.vint .i64 (j:Int)),tfH N ((trF (rowAt P j) tot M).getD []),1020⟩)
 |false=>trZ⟩
theorem tr_in (N:Nat)(P:List (List Int))(j:Nat)(tot0:Int)(M0:List Con)(hr:inR N (rowAt P j))(hn:(rowAt P j).length≤1000)(hM0:M0.length=N)(h0:0≤tot0)(h1:tot0≤7):AnnOk Tryd.prog EV.ng (Nat.max 1 Tryd.f21.ntmps) (bodyAt Tryd.f21 [0,1,1,1,0,0,1,1,0,0,1,0,1,1,1]) (trIn N P j tot0 M0):=by
 refine ann_of evOk (callF_ok evOk (orcOf_ok entsTR_ok) 8) none_ann (by kernel_rfl) (by kernel_rfl) (fun i:Nat×Int×List Con=>(fun(k:Nat)(tot:Int)(M:List Con)=>(⟨trI N P j tot (.vint .i64 (k:Int)),tfH N M,1020⟩:St)) i.1 i.2.1 i.2.2) (fun i:Nat×Int×List Con=>(fun(k:Nat)(tot:Int)(M:List Con)=>((rowAt P j).length-k:Nat)) i.1 i.2.1 i.2.2) (fun(d:Bool)(i:Nat×Int×List Con)=>(fun(k:Nat)(tot:Int)(M:List Con)=>(k≤(rowAt P j).length∧M.length=N∧(0≤tot∧tot≤7)∧trF ((rowAt P j).drop k) tot M=trF (rowAt P j) tot0 M0∧(trF (rowAt P j) tot0 M0).isSome=d:Prop)) i.1 i.2.1 i.2.2) ?_ ?_
 ·intro d hd
  exact⟨(0,tot0,M0),[N=N,P.length=P.length∧(fun i=>[rI IntKind.i64 (P.getD i [])])=fun i=>[rI IntKind.i64 (P.getD i [])],rq (↑P.length:Int),rq (↑j:Int),(rowAt P j).length=(rowAt P j).length∧(fun j_1=>[RV.int IntKind.i64 ((rowAt P j).getD j_1 (0:Int))])=fun j_1=>[RV.int IntKind.i64 ((rowAt P j).getD j_1 (0:Int))],tot0=tot0,(rowAt P j).length=(rowAt P j).length∧(fun j_1=>[RV.int IntKind.i64 ((rowAt P j).getD j_1 (0:Int))])=fun j_1=>[RV.int IntKind.i64 ((rowAt P j).getD j_1 (0:Int))],rq (↑(rowAt P j).length:Int),(0:Int)=↑(0:Nat),M0=M0],by kernel_rfl,(by refine⟨?_,?_,?_,?_,?_,?_,?_,?_,?_,(?_:M0=M0)⟩<;>(first|rfl|assumption|omega|simp_all)),(by exact⟨Nat.zero_le _,hM0,⟨h0,h1⟩,rfl,hd⟩)⟩
 ·rintro d hd ⟨k,tot,M⟩ hI
  obtain⟨ht,hM,hb,hf,hs⟩:=hI
  have ht:k≤(rowAt P j).length:=ht
  have hM:M.length=N:=hM
  have hb:0≤tot∧tot≤7:=hb
  have hf:trF ((rowAt P j).drop k) tot M=trF (rowAt P j) tot0 M0:=hf
  have ek:w6.wrap ((k:Int)+1)=((k+1:Nat):Int):=by rw[w64 (by omega) (by omega)];omega
  have ec:consR N (fun i=>(M.getD i z0c).rvs)=M:=consR_ro2 hM.symm
  have hv:=lsV_b M (rowAt P j) k tot
  have el:=le_tot hb.1 hb.2 hv
  refine(let q1:List Prop→List Prop:=fun l0=>(N=N)::(P.length=P.length∧(fun i=>[rI IntKind.i64 (P.getD i [])])=fun i=>[rI IntKind.i64 (P.getD i [])])::rq (↑P.length:Int)::rq (↑j:Int)::l0;oe (decide ((↑k:Int)<(↑(rowAt P j).length:Int))) (fun d1=>let y1:List Prop:=(let v1:=w6.wrap ((↑k:Int)+1);let v2:=(↑(rowAt P j).length:Int);[N=M.length,(∀(i:Nat),i<N→(fun i=>(M.getD i z0c).rvs) i=(Con.ofR ((fun i=>(M.getD i z0c).rvs) i)).rvs)∧(∀(i:Nat),i<(rowAt P j).length-v1.toNat→(fun i=>(fun j_1=>[RV.int IntKind.i64 ((rowAt P j).getD j_1 (0:Int))]) (i+v1.toNat)) i=[RV.int IntKind.i64 (intR ((fun i=>(fun j_1=>[RV.int IntKind.i64 ((rowAt P j).getD j_1 (0:Int))]) (i+v1.toNat)) i))])∧(rowAt P j).length-v1.toNat≤1000∧inR N (intsR ((rowAt P j).length-v1.toNat) fun i=>(fun j_1=>[RV.int IntKind.i64 ((rowAt P j).getD j_1 (0:Int))]) (i+v1.toNat))∧(0:Int)≤tot∧tot≤7,(0:Int)≤w6.wrap ((↑k:Int)+1)∧w6.wrap ((↑k:Int)+1)≤v2,((rowAt P j).getD k (0:Int)).toNat<M.length,(0:Int)≤(rowAt P j).getD k (0:Int)∧(rowAt P j).getD k (0:Int)<↑N,(0:Int)≤↑k∧(↑k:Int)<v2,ty d1]);have u1:allP y1:=⟨?_,?_,?_,?_,?_,?_,d1⟩;oe ((lsF (M.getD ((rowAt P j).getD k (0:Int)).toNat z0c) (consR N fun i=>(M.getD i z0c).rvs) (intsR ((rowAt P j).length-(w6.wrap ((↑k:Int)+1)).toNat) fun i=>(fun j_1=>[RV.int IntKind.i64 ((rowAt P j).getD j_1 (0:Int))]) (i+(w6.wrap ((↑k:Int)+1)).toNat)) tot).isSome) (fun d2=>lfI [true,false] (k+1,(tot-(lsV M (rowAt P j) k tot:Int)+8)%8,setO M ((rowAt P j).getD k 0) (lsV M (rowAt P j) k tot:Int)) (q1 (let v1:=w6.wrap ((↑k:Int)+1);let v2:=(rowAt P j).getD k (0:Int);let v3:=consR N fun i=>(M.getD i z0c).rvs;let v4:=(↑(lsV M (rowAt P j) k tot):Int);let v5:=(rowAt P j).length-v1.toNat;((rowAt P j).length=(rowAt P j).length∧(fun j_1=>[RV.int IntKind.i64 ((rowAt P j).getD j_1 (0:Int))])=fun j_1=>[RV.int IntKind.i64 ((rowAt P j).getD j_1 (0:Int))])::((w6.wrap (w6.wrap (tot-(↑((lsF (M.getD v2.toNat z0c) v3 (intsR v5 fun i=>(fun j_1=>[RV.int IntKind.i64 ((rowAt P j).getD j_1 (0:Int))]) (i+v1.toNat)) tot).getD (0:Nat)):Int))+8)).tmod (8:Int)=(tot-v4+8)%(8:Int))::((rowAt P j).length=(rowAt P j).length∧(fun j_1=>[RV.int IntKind.i64 ((rowAt P j).getD j_1 (0:Int))])=fun j_1=>[RV.int IntKind.i64 ((rowAt P j).getD j_1 (0:Int))])::rq (↑(rowAt P j).length:Int)::(w6.wrap ((↑k:Int)+1)=↑(k+1))::(updT M v2.toNat (↑((lsF (M.getD v2.toNat z0c) v3 (intsR v5 fun i=>(fun j_1=>[RV.int IntKind.i64 ((rowAt P j).getD j_1 (0:Int))]) (i+v1.toNat)) tot).getD (0:Nat)):Int)=setO M v2 v4)::((8:Int)≠(0:Int))::(v2.toNat<M.length)::((0:Int)≤(rowAt P j).getD k (0:Int)∧(rowAt P j).getD k (0:Int)<↑N)::ty (dN d2)::y1)) (by kernel_rfl) ⟨?_,?_,?_,?_,?_,?_,?_,?_,?_,?_,?_,?_,?_,(dN d2),u1⟩ ?_ ?_)
   (fun d2=>?e1))
   (fun d1=>?e2))
  case' e1=>
   cases d
   rotate_right
   refine CtG.no ?_
   rotate_right
   refine lfR [true,true] (ty (dN d2)::y1) (by kernel_rfl) ⟨(dN d2),u1⟩ rfl
  case' e2=>
   cases d
   rotate_right
   refine lfR [false] (q1 [M=(trF (rowAt P j) tot0 M0).getD [],ty d1]) (by kernel_rfl) ⟨?_,?_,?_,?_,?_,d1⟩ rfl
   rotate_right
   refine CtG.no ?_
  all_goals((try clear u1);(try clear y1))
  all_goals first|(refine MuG.mk ?_;(simp only[decide_eq_true_eq]at d1;show(rowAt P j).length-(k+1)<(rowAt P j).length-k;omega))|(refine InG.mk ?_;(simp only[ek,ec,intsR_drop,consR_ro,Int.toNat_natCast,decide_eq_true_eq]at*;exact⟨by omega,by rw[setO_len];exact hM,by omega,by rw[←hf,trF_1 (by omega) d2],hs⟩))|(refine CtG.mk ?_;(simp only[ek,ec,intsR_drop,consR_ro,Int.toNat_natCast,decide_eq_true_eq,decide_eq_false_iff_not]at*;first|(rw[←hf,trF_3 (by omega)]at hs;cases hs;done)|(rw[←hf,trF_2 (by omega) d2]at hs;cases hs;done)))|(first|(with_reducible rfl)|exact⟨rfl,rfl⟩|decide|((try simp only[ek,ec,intsR_drop,consR_ro,Int.toNat_natCast,decide_eq_true_eq,decide_eq_false_iff_not]at*)<;>first|omega|(rw[←hf,trF_3 (by omega)];rfl)|exact el|rfl|(have h2:=hr.at (t:=k) (by omega);first|omega|exact⟨fun _ _=>rfl,fun _ _=>rfl,by omega,hr.drop _,hb.1,hb.2⟩|exact(5:Nat))))
theorem trF_ok2:∀{l:List Int}{tot:Int}{M R:List Con},okL M→inR M.length l→trF l tot M=some R→okL R∧R.length=M.length
 |[],tot,M,R,hM,hl,h=>by cases h;exact⟨hM,rfl⟩
 |i::l,tot,M,R,hM,hl,h=>by
  simp only[trF]at h
  cases hq:findT (lstP M i l tot) 8 0 with
  |none=>rw[hq]at h;cases h
  |some t=>
   rw[hq]at h
   have h1:=hl i List.mem_cons_self
   have h2:=findT_some hq
   have h3:=trF_ok2 (setO_ok hM h1 (t:=(t:Int)) ⟨by omega,by omega⟩) (by rw[setO_len];exact fun x hx=>hl x (List.mem_cons_of_mem _ hx)) h
   rw[setO_len]at h3
   exact h3
theorem trG_1 {M R:List Con}{P:List (List Int)}{j:Nat}(hj:j<P.length)(h:trF (rowAt P j) (at_ M ((rowAt P j).getD 0 0).toNat).oddity M=some R):trG (P.drop j) M=trG (P.drop (j+1)) R:=by
 rw[drop_row hj];simp only[trG,h]
theorem trG_2 {M:List Con}{P:List (List Int)}{j:Nat}(hj:j<P.length)(h:trF (rowAt P j) (at_ M ((rowAt P j).getD 0 0).toNat).oddity M=none):trG (P.drop j) M=none:=by
 rw[drop_row hj];simp only[trG,h]
theorem trG_3 {M:List Con}{P:List (List Int)}{j:Nat}(hj:P.length≤j):trG (P.drop j) M=some M:=by
 rw[List.drop_eq_nil_of_le hj];rfl
theorem some_getD {o:Option (List Con)}(h:o.isSome=true):o=some (o.getD []):=by cases o with|none=>cases h|some x=>rfl
theorem none_of {o:Option (List Con)}(h:o.isSome=false):o=none:=by cases o with|none=>rfl|some x=>cases h
def trOut (L:List Con)(P:List (List Int)):Ann:=⟨⟨trT L.length P (.int .i64 0),tfH L.length L,1020⟩,some (trG P L).isSome,fun d=>match d with
 |true=>(.exit 0,⟨[(2,.ptr 1001 0),(4,.lo 1003 L.length)],tfH L.length ((trG P L).getD []),1020⟩)
 |false=>trZ⟩
theorem tr_out (L:List Con)(P:List (List Int))(hP:∀l∈P,l≠[]∧inR L.length l∧l.length≤L.length)(hn:P.length≤1000)(hL:okL L):AnnOk Tryd.prog EV.ng (Nat.max 1 Tryd.f21.ntmps) (bodyAt Tryd.f21 [0,1,0,1,1,1]) (trOut L P):=by
 refine ann_ofI evOk (callF_ok evOk (orcOf_ok entsTR_ok) 8) (by kernel_rfl) (by kernel_rfl) (fun i:Nat×List Con=>(fun(j:Nat)(M:List Con)=>(⟨trT L.length P (.vint .i64 (j:Int)),tfH L.length M,1020⟩:St)) i.1 i.2) (fun i:Nat×List Con=>(fun(j:Nat)(M:List Con)=>(P.length-j:Nat)) i.1 i.2) (fun(d:Bool)(i:Nat×List Con)=>(fun(j:Nat)(M:List Con)=>(j≤P.length∧okL M∧M.length=L.length∧trG (P.drop j) M=trG P L∧(trG P L).isSome=d:Prop)) i.1 i.2) (fun i:Nat×List Con=>(fun(j:Nat)(M:List Con)=>([([0,1,1,1,0,0,1,1,0,0,1,0,1,1,1],trIn L.length P j (at_ M ((rowAt P j).getD 0 0).toNat).oddity M)]:List (List Nat×Ann))) i.1 i.2) ?_ ?_ ?_
 ·rintro d hd ⟨j,M⟩ hI
  obtain⟨ht,hM,hlen,hf,hs⟩:=hI
  have ht:j≤P.length:=ht
  have hM:okL M:=hM
  have hlen:M.length=L.length:=hlen
  have hb:0≤(at_ M ((rowAt P j).getD 0 0).toNat).oddity∧(at_ M ((rowAt P j).getD 0 0).toNat).oddity≤7:=by
   rcases Nat.lt_or_ge ((rowAt P j).getD 0 0).toNat M.length with h|h
   ·exact(hM.at h).2.2.2
   ·rw[at_out h];decide
  have hr:inR L.length (rowAt P j)∧(rowAt P j).length≤1000:=by
   have:=hL.1
   rcases Nat.lt_or_ge j P.length with h|h
   ·have h1:=hP _ (rowAt_mem h)
    exact⟨h1.2.1,by omega⟩
   ·have e:rowAt P j=[]:=by simp[rowAt,h]
    rw[e];exact⟨fun x hx=>by simp at hx,by simp⟩
  exact one_ann (tr_in L.length P j _ M hr.1 hr.2 hlen hb.1 hb.2)
 ·intro d hd
  exact⟨(0,L),[rq L.length,P.length=P.length∧(fun i=>[rI IntKind.i64 (P.getD i [])])=fun i=>[rI IntKind.i64 (P.getD i [])],rq (↑P.length:Int),(0:Int)=↑(0:Nat),L=L],by kernel_rfl,(by refine⟨?_,?_,?_,?_,(?_:L=L)⟩<;>(first|rfl|assumption|omega|simp_all)),(by exact⟨Nat.zero_le _,hL,rfl,rfl,hd⟩)⟩
 ·rintro d hd ⟨j,M⟩ hI
  obtain⟨ht,hM,hlen,hf,hs⟩:=hI
  have ht:j≤P.length:=ht
  have hM:okL M:=hM
  have hlen:M.length=L.length:=hlen
  have hf:trG (P.drop j) M=trG P L:=hf
  have ek:w6.wrap ((j:Int)+1)=((j+1:Nat):Int):=by rw[w64 (by omega) (by omega)];omega
  refine(let q1:List Prop→List Prop:=fun l0=>rq L.length::(P.length=P.length∧(fun i=>[rI IntKind.i64 (P.getD i [])])=fun i=>[rI IntKind.i64 (P.getD i [])])::rq (↑P.length:Int)::l0;oe (decide ((↑j:Int)<↑P.length)) (fun d1=>let y1:List Prop:=(let v1:=Int.toNat (0:Int);let v2:=P.getD j [];[(v2.getD v1 (0:Int)).toNat<M.length,(0:Int)≤v2.getD v1 (0:Int)∧v2.getD v1 (0:Int)<↑L.length,(0:Int)≤0∧(0:Int)<↑v2.length,(0:Int)≤↑j∧(↑j:Int)<↑P.length,ty d1]);have u1:allP y1:=⟨?_,?_,?_,?_,d1⟩;oe ((trF (rowAt P j) (at_ M ((rowAt P j).getD (0:Nat) (0:Int)).toNat).oddity M).isSome) (fun d2=>lfI [true,true] (j+1,(trF (rowAt P j) (at_ M ((rowAt P j).getD 0 0).toNat).oddity M).getD []) (q1 (let v1:=P.getD j [];let v2:=at_ M ((rowAt P j).getD (0:Nat) (0:Int)).toNat;(w6.wrap ((↑j:Int)+1)=↑(j+1))::rq ((trF (rowAt P j) v2.oddity M).getD [])::rq L.length::(P.length=P.length∧(fun i=>[rI IntKind.i64 (P.getD i [])])=fun i=>[rI IntKind.i64 (P.getD i [])])::rq (↑P.length:Int)::rq (↑j:Int)::(v1.length=(rowAt P j).length∧(fun j_1=>[RV.int IntKind.i64 (v1.getD j_1 (0:Int))])=fun j_1=>[RV.int IntKind.i64 ((rowAt P j).getD j_1 (0:Int))])::((M.getD (v1.getD (Int.toNat (0:Int)) (0:Int)).toNat z0c).oddity=v2.oddity)::(v1.length=(rowAt P j).length∧(fun j_1=>[RV.int IntKind.i64 (v1.getD j_1 (0:Int))])=fun j_1=>[RV.int IntKind.i64 ((rowAt P j).getD j_1 (0:Int))])::((↑v1.length:Int)=(↑(rowAt P j).length:Int))::(M=M)::ty d2::y1)) (by kernel_rfl) ⟨?_,?_,?_,?_,?_,?_,?_,?_,?_,?_,?_,?_,?_,?_,d2,u1⟩ ?_ ?_)
   (fun d2=>?e3))
   (fun d1=>?e4))
  case' e3=>
   cases d
   rotate_right
   refine CtG.no ?_
   rotate_right
   refine lfR [true,false] (q1 (let v1:=P.getD j [];rq (↑j:Int)::(v1.length=(rowAt P j).length∧(fun j_1=>[RV.int IntKind.i64 (v1.getD j_1 (0:Int))])=fun j_1=>[RV.int IntKind.i64 ((rowAt P j).getD j_1 (0:Int))])::((M.getD (v1.getD (Int.toNat (0:Int)) (0:Int)).toNat z0c).oddity=(at_ M ((rowAt P j).getD (0:Nat) (0:Int)).toNat).oddity)::(v1.length=(rowAt P j).length∧(fun j_1=>[RV.int IntKind.i64 (v1.getD j_1 (0:Int))])=fun j_1=>[RV.int IntKind.i64 ((rowAt P j).getD j_1 (0:Int))])::((↑v1.length:Int)=(↑(rowAt P j).length:Int))::(M=M)::ty d2::y1)) (by kernel_rfl) ⟨?_,?_,?_,?_,?_,?_,?_,?_,?_,d2,u1⟩ rfl
  case' e4=>
   cases d
   rotate_right
   refine lfR [false] [rq L.length,M=(trG P L).getD [],ty d1] (by kernel_rfl) ⟨?_,?_,d1⟩ rfl
   rotate_right
   refine CtG.no ?_
  all_goals((try clear u1);(try clear y1))
  all_goals first|(refine MuG.mk ?_;(simp only[decide_eq_true_eq]at d1;show P.length-(j+1)<P.length-j;omega))|(refine InG.mk ?_;(simp only[decide_eq_true_eq]at d1;have h0:=hP _ (rowAt_mem (P:=P) (t:=j) (by omega));have h1:=some_getD d2;have h2:=trF_ok2 hM (by rw[hlen];exact h0.2.1) h1;exact⟨by omega,h2.1,h2.2.trans hlen,by rw[←hf];exact(trG_1 (by omega) h1).symm,hs⟩))|(refine CtG.mk ?_;(simp only[decide_eq_true_eq,decide_eq_false_iff_not]at d1;first|(rw[←hf,trG_3 (by omega)]at hs;cases hs;done)|(rw[←hf,trG_2 (by omega) (none_of d2)]at hs;cases hs;done)))|(first|(with_reducible rfl)|exact⟨rfl,rfl⟩|decide|((try simp only[ek,Int.toNat_natCast,Int.toNat_zero,decide_eq_true_eq,decide_eq_false_iff_not]at*)<;>first|omega|(rw[←hf,trG_3 (by omega)];rfl)|(have h0:=hP _ (rowAt_mem (P:=P) (t:=j) (by omega));have h1:0<(rowAt P j).length:=List.length_pos_iff.2 h0.1;have h5:0≤(P.getD j []).getD 0 0∧(P.getD j []).getD 0 0<(L.length:Int):=h0.2.1.at (t:=0) h1;have h7:0<(P.getD j []).length:=h1;first|omega)))
theorem tref_yes (L R:List Con)(hf:fusM 2 L=true)(hR:refM L=some R)(hlen:R.length=L.length):PureC Tryd.prog [] 21 [.agg [.int .i64 2,roC L]] (.tup [.agg [.int .i64 2,roC R],.bool true]):=by
 have hL:=fus_okL hf;have hl:=hL.1;have hne:=(fus_parts hf).2.1;have k1:fusM 2 (consR L.length fun i=>(L.getD i z0c).rvs)=true:=(by rw[consR_ro];exact hf);have k2:L.length.beq 0=false:=(by cases h:L.length.beq 0 with|false=>rfl|true=>have:=Nat.eq_of_beq_eq_true h;omega);have k0:trG (partsM L) L=some R:=(by rw[trG_refM hf];exact hR);have k3:(trG (partsM L) L).isSome=true:=(by rw[k0];rfl);have k4:(trG (partsM L) L).getD []=R:=(by rw[k0];rfl)
 have rr:=fun(tp:List Bool)(ms:List Prop)h hm=>pure_run evOk (callF_ok evOk (orcOf_ok entsTR_ok) 8) Tryd.func21 (A:=[.agg [.int .i64 2,roC L]]) (N:=Nat.max 1 Tryd.f21.ntmps) rfl (one_ann (tr_out L (partsM L) parts_rows (Nat.le_trans parts_len (fus_okL hf).1) (fus_okL hf))) rfl rfl evNg (tabs:=[]) (R:=.tup [.agg [.int .i64 2,roC R],.bool true]) (tp:=tp) (ms:=ms) h hm
 refine rr (tp 221) (let t1:=consR L.length fun i=>(L.getD i z0c).rvs;let t2:=trG (partsM L) L;[rq (2:Int),L.length=R.length∧L.length=(t2.getD []).length∧∀(i:Nat),i<L.length→(fun i=>(R.getD i z0c).rvs) i=((t2.getD []).getD i z0c).rvs,true=true,rq L.length,(partsM t1).length=(partsM L).length∧(fun i=>[rI IntKind.i64 ((partsM t1).getD i [])])=fun i=>[rI IntKind.i64 ((partsM L).getD i [])],(↑(partsM t1).length:Int)=(↑(partsM L).length:Int),t1=L,Dec t2.isSome true,(lz L)∧okE t1,(0:Nat)<L.length∧L.length≤1000000,lz L,Dec (L.length.beq (0:Nat)) false,(0:Nat)<L.length,Dec (!fusM (2:Int) t1) false,(lz L)∧L.length≤1000]) (by kernel_rfl) ⟨?_,?_,?_,?_,?_,?_,?_,k3,?_,?_,?_,k2,?_,(dN k1),(?_:(lz L)∧L.length≤1000)⟩
 all_goals first|(first|(with_reducible rfl)|exact⟨rfl,rfl⟩|exact consR_ro L|exact⟨hne,by omega⟩|exact hne|exact fun _ _=>rfl|exact⟨fun _ _=>rfl,by rw[consR_ro];exact hL.e⟩|exact⟨fun _ _=>rfl,hl⟩|(rw[consR_ro];first|done|rfl|exact⟨rfl,rfl⟩)|(rw[k4];exact⟨hlen.symm,hlen.symm,fun _ _=>rfl⟩)|exact(5:Nat))
theorem tref_none (L:List Con)(hf:fusM 2 L=true)(hR:refM L=none):PureC Tryd.prog [] 21 [.agg [.int .i64 2,roC L]] (.tup [.agg [.int .i64 0,roC []],.bool false]):=by
 have hL:=fus_okL hf;have hl:=hL.1;have hne:=(fus_parts hf).2.1;have k1:fusM 2 (consR L.length fun i=>(L.getD i z0c).rvs)=true:=(by rw[consR_ro];exact hf);have k2:L.length.beq 0=false:=(by cases h:L.length.beq 0 with|false=>rfl|true=>have:=Nat.eq_of_beq_eq_true h;omega);have k0:trG (partsM L) L=none:=(by rw[trG_refM hf];exact hR);have k3:(trG (partsM L) L).isSome=false:=(by rw[k0];rfl)
 have rr:=fun(tp:List Bool)(ms:List Prop)h hm=>pure_run evOk (callF_ok evOk (orcOf_ok entsTR_ok) 8) Tryd.func21 (A:=[.agg [.int .i64 2,roC L]]) (N:=Nat.max 1 Tryd.f21.ntmps) rfl (one_ann (tr_out L (partsM L) parts_rows (Nat.le_trans parts_len (fus_okL hf).1) (fus_okL hf))) rfl rfl evNg (tabs:=[]) (R:=.tup [.agg [.int .i64 0,roC []],.bool false]) (tp:=tp) (ms:=ms) h hm
 refine rr (tp 222) (let t1:=consR L.length fun i=>(L.getD i z0c).rvs;[rq (0:Int),rq (0:Nat),false=false,rq L.length,(partsM t1).length=(partsM L).length∧(fun i=>[rI IntKind.i64 ((partsM t1).getD i [])])=fun i=>[rI IntKind.i64 ((partsM L).getD i [])],(↑(partsM t1).length:Int)=(↑(partsM L).length:Int),t1=L,Dec (trG (partsM L) L).isSome false,(lz L)∧okE t1,(0:Nat)<L.length∧L.length≤1000000,lz L,Dec (L.length.beq (0:Nat)) false,(0:Nat)<L.length,Dec (!fusM (2:Int) t1) false,(lz L)∧L.length≤1000]) (by kernel_rfl) ⟨?_,?_,?_,?_,?_,?_,?_,k3,?_,?_,?_,k2,?_,(dN k1),(?_:(lz L)∧L.length≤1000)⟩
 all_goals first|(first|(with_reducible rfl)|exact⟨rfl,rfl⟩|exact consR_ro L|exact⟨hne,by omega⟩|exact hne|exact fun _ _=>rfl|exact⟨fun _ _=>rfl,by rw[consR_ro];exact hL.e⟩|exact⟨fun _ _=>rfl,hl⟩|(rw[consR_ro];first|done|rfl|exact⟨rfl,rfl⟩)|exact(5:Nat))
theorem tref_no (p:Int)(L:List Con)(hn:L.length≤1000)(hv:fusM p L=false):PureC Tryd.prog [] 21 [.agg [.int .i64 p,roC L]] (.tup [.agg [.int .i64 0,roC []],.bool false]):=by
 have k1:fusM p (consR L.length fun i=>(L.getD i z0c).rvs)=false:=(by rw[consR_ro];exact hv)
 have rr:=fun(tp:List Bool)(ms:List Prop)h hm=>pure_run evOk (callF_ok evOk (orcOf_ok entsTR_ok) 8) Tryd.func21 (A:=[.agg [.int .i64 p,roC L]]) rfl none_ann rfl rfl evNg (tabs:=[]) (R:=.tup [.agg [.int .i64 0,roC []],.bool false]) (tp:=tp) (ms:=ms) h hm
 refine rr [true] [rq (0:Int),rq (0:Nat),false=false,Dec (!fusM p (consR L.length fun i=>(L.getD i z0c).rvs)) true,(lz L)∧L.length≤1000] (by kernel_rfl) ⟨?_,?_,?_,(dN k1),(?_:(lz L)∧L.length≤1000)⟩
 all_goals first|(first|rfl|exact⟨rfl,rfl⟩|exact⟨fun _ _=>rfl,hn⟩)
theorem tref_pure (p:Int)(L:List Con)(hn:L.length≤1000):PureC Tryd.prog [] 21 [.agg [.int .i64 p,roC L]] (.tup [.agg [.int .i64 (bP (rfB p L)),roC (bL (rfB p L) (rfL L))],.bool (rfB p L)]):=by
 unfold rfB
 cases h:fusM p L with
 |false=>exact tref_no p L hn h
 |true=>
  have:=fus_p h
  subst this
  cases hr:refM L with
  |none=>exact tref_none L h hr
  |some R=>
   have e:rfL L=R:=by unfold rfL;rw[hr];rfl
   rw[e]
   exact tref_yes L R h hr (refM_len hr)
def linkJ (L:List Con)(k:Nat):Bool:=decide (0<k)&&linkM L k
def chA (L:List Con)(k:Nat):Acc:=grpA (fun _=>true) (linkJ L) k
def chainsM (L:List Con):List (List Int):=allA (chA L L.length)
def chFin (L:List Con):List (List Int):=(chA L L.length).1
def chLst (L:List Con):List Int:=(chA L L.length).2.getD []
def chI (L:List Con)(i:Nat×List (List Int)×Option (List Int)):Prop:=i.1≤L.length∧chA L i.1=i.2
theorem chI_ok {L:List Con}{i:Nat×List (List Int)×Option (List Int)}(h:chI L i):GrpOk (fun _=>true) i.1 i.2:=by rw[←h.2];exact grp_ok _ _ _
theorem chI_none {L:List Con}{k:Nat}{F:List (List Int)}(h:chI L (k,F,none)):k=0:=by
 have:=((chI_ok h).none rfl).2
 rcases Nat.eq_zero_or_pos k with h0|h0
 ·exact h0
 ·exact absurd (this 0 h0) (by decide)
theorem chI_one {L:List Con}{k:Nat}{F:List (List Int)}(h:chI L (k,F,none))(hk:k<L.length):chI L (k+1,[],some [(k:Int)]):=by
 have hF:F=[]:=((chI_ok h).none rfl).1
 subst hF
 refine⟨hk,?_⟩
 show grpS true (linkJ L k) k (chA L k)=_
 rw[h.2];rfl
theorem chI_app {L:List Con}{k:Nat}{F:List (List Int)}{l:List Int}(h:chI L (k,F,some l))(hk:k<L.length)(h0:0<k)(hj:linkM L k=true):chI L (k+1,F,some (l++[(k:Int)])):=by
 refine⟨hk,?_⟩
 show grpS true (linkJ L k) k (chA L k)=_
 rw[h.2,linkJ,hj,decide_eq_true h0];rfl
theorem chI_new1 {L:List Con}{k:Nat}{F:List (List Int)}{l:List Int}(h:chI L (k,F,some l))(hk:k<L.length)(h0:¬0<k):chI L (k+1,F++[l],some [(k:Int)]):=by
 refine⟨hk,?_⟩
 show grpS true (linkJ L k) k (chA L k)=_
 rw[h.2,linkJ,decide_eq_false h0];rfl
theorem chI_new2 {L:List Con}{k:Nat}{F:List (List Int)}{l:List Int}(h:chI L (k,F,some l))(hk:k<L.length)(hj:linkM L k=false):chI L (k+1,F++[l],some [(k:Int)]):=by
 refine⟨hk,?_⟩
 show grpS true (linkJ L k) k (chA L k)=_
 rw[h.2,linkJ,hj,Bool.and_false];rfl
theorem chI_fin {L:List Con}{k:Nat}{F:List (List Int)}{l:List Int}(h:chI L (k,F,some l))(hk:L.length≤k):chFin L=F∧chLst L=l:=by
 have h1:k≤L.length:=h.1
 have:k=L.length:=by omega
 subst this
 unfold chFin chLst
 rw[h.2]
 exact⟨rfl,rfl⟩
theorem chains_cons {L:List Con}(h:0<L.length):chainsM L=chFin L++[chLst L]:=by
 unfold chainsM chFin chLst
 generalize hc:chA L L.length=a
 obtain⟨F,o⟩:=a
 cases o with
 |none=>have:=chI_none (L:=L) (k:=L.length) (F:=F) ⟨Nat.le_refl _,hc⟩;omega
 |some l=>rfl
theorem chains_rows {L:List Con}:∀l∈chainsM L,l≠[]∧inR L.length l∧l.length≤L.length:=(grp_ok (fun _=>true) (linkJ L) L.length).rows
theorem chains_len {L:List Con}:(chainsM L).length≤L.length:=(grp_ok (fun _=>true) (linkJ L) L.length).len
def chB (L:List Con)(b:Nat):List (Nat×Blk):=[(b,⟨.rows .i64 (chFin L) (b+1) (chLst L).length,74,1,true,true⟩),(b+1,⟨.ints .i64 (chLst L),3,1,true,true⟩)]
def rcS (L:List Con):Nat×List (List Int)×Option (List Int)→St
 |(k,_,none)=>⟨[(0,(roC L).av),(3,.nils),(6,.vint .i64 L.length),(7,.vint .i64 (k:Int))],[],1010⟩
 |(k,F,some l)=>⟨[(0,(roC L).av),(3,.lo 1001 (F.length+1)),(6,.vint .i64 L.length),(7,.vint .i64 (k:Int))],[(1001,⟨.rows .i64 F 1002 l.length,74,1,true,true⟩),(1002,⟨.ints .i64 l,3,1,true,true⟩)],1010⟩
def ctH (p:Int)(L:List Con):List (Nat×Blk):=[(1000,⟨.plain [.vint .i64 p,(roC L).av],46,0,false,true⟩),(1001,⟨.plain [.fn 78 [],.fn 79 [.ptr 1000 0]],113,0,false,true⟩)]
def ctAnn (p:Int)(L:List Con):Ann:=⟨⟨[(3,.ptr 1001 0),(5,.nils),(8,.vint .i64 L.length),(9,.int .i64 0)],ctH p L,1002⟩,none,fun _=>(.exit 0,⟨[(5,.lo 1003 ((chFin L).length+1))],chB L 1003,1010⟩)⟩
def ctS (p:Int)(L:List Con):Nat×List (List Int)×Option (List Int)→St
 |(k,_,none)=>⟨[(3,.ptr 1001 0),(5,.nils),(8,.vint .i64 L.length),(9,.vint .i64 (k:Int))],ctH p L,1010⟩
 |(k,F,some l)=>⟨[(3,.ptr 1001 0),(5,.lo 1003 (F.length+1)),(8,.vint .i64 L.length),(9,.vint .i64 (k:Int))],ctH p L++[(1003,⟨.rows .i64 F 1004 l.length,74,1,true,true⟩),(1004,⟨.ints .i64 l,3,1,true,true⟩)],1010⟩
theorem ct_loop (p:Int)(L:List Con)(hL:okL L)(hne:0<L.length):AnnOk Tryd.prog EV.ng (Nat.max 2 Tryd.f77.ntmps) (bodyAt Tryd.f77 [0,1,0,1,1]) (ctAnn p L):=by
 refine ann_of evOk (callF_ok evOk (orcOf_ok entsT3_ok) 8) none_ann (by kernel_rfl) (by kernel_rfl) (ctS p L) (fun i=>L.length-i.1) (fun _ i=>chI L i) ?_ ?_
 ·intro d hd
  exact⟨(0,[],none),[rq (↑L.length:Int),(0:Int)=↑(0:Nat),p=p,lq L],by kernel_rfl,(by refine⟨?_,?_,?_,(?_:lq L)⟩<;>(first|rfl|exact⟨rfl,rfl⟩|assumption|omega|simp_all)),(by exact⟨Nat.zero_le _,rfl⟩)⟩
 ·rintro d hd ⟨k,F,o⟩ hI
  cases d
  ·exact Bool.noConfusion (show false=true from hd)
  ·have hG:=chI_ok hI
   have hk:k≤L.length:=hI.1
   have hl:=hL.1
   have ek:w6.wrap ((k:Int)+1)=((k+1:Nat):Int):=by rw[w64 (by omega) (by omega)];omega
   have em:w6.wrap ((k:Int)-1)=(k:Int)-1:=w64 (by omega) (by omega)
   have hFk:F.length≤k:=by have:=hG.len;cases o<;>simp[allA]at this<;>omega
   have eF:w6.wrap (((F.length+1:Nat):Int)-1)=(F.length:Int):=by rw[w64 (by omega) (by omega)];omega
   rcases o with _|l
   rotate_right
   refine(let q1:List Prop→List Prop:=fun l0=>(F.length+1+1=(F++[l]).length+1)::rq (↑L.length:Int)::(w6.wrap ((↑k:Int)+1)=↑(k+1))::(p=p)::(lq L)::(F++[l]=F++[l]∧(1:Nat)=[(↑k:Int)].length)::rq ([(↑k:Int)])::(F.length+1+1≤1000000)::(F.length+1=F.length+1∧l.length=l.length)::l0;oe (decide ((↑k:Int)<↑L.length)) (fun d1=>oe (decide ((↑k:Int)>0)) (fun d2=>let y1:List Prop:=[(lz L)∧okL (consR L.length fun i=>(L.getD i Con.zero).rvs)∧(1:Int)≤↑k∧(↑k:Int)<↑L.length,ty d2,ty d1];have u1:allP y1:=⟨?_,d2,d1⟩;oe (linkM (consR L.length fun i=>(L.getD i Con.zero).rvs) k) (fun d3=>lfI (tp 111) (k+1,F,some (l++[(k:Int)])) (let v1:=(↑(F.length+1):Int)-1;let v2:=(0:Int)≤w6.wrap v1∧w6.wrap v1<↑(F.length+1);let v3:=(w6.wrap v1).toNat=F.length;rq (F.length+1)::rq (↑L.length:Int)::(w6.wrap ((↑k:Int)+1)=↑(k+1))::(p=p)::(lq L)::(F=F∧l.length+1=(l++[(↑k:Int)]).length)::rq (l++[(↑k:Int)])::v3::v2::((View.ints IntKind.i64 l).num=l.length∧l.length+1≤1000000)::v3::v2::ty d3::y1) (by kernel_rfl) ?_ ?_ ?_)
    (fun d3=>lfI (tp 112) (k+1,F++[l],some [(k:Int)]) (q1 (ty d3::y1)) (by kernel_rfl) ?_ ?_ ?_))
    (fun d2=>lfI [true,false] (k+1,F++[l],some [(k:Int)]) (q1 [ty d2,ty d1]) (by kernel_rfl) ?_ ?_ ?_))
    (fun d1=>lfR [false] [F.length+1=(chFin L).length+1,F=chFin L∧l.length=(chLst L).length,l=chLst L,ty d1] (by kernel_rfl) ?_ rfl))
   all_goals with_reducible(repeat' first|assumption|refine alC ?_ ?_|refine al1 ?_)
   rotate_right
   refine oe (decide ((↑k:Int)<↑L.length)) (fun d1=>oe (decide ((↑k:Int)>0)) (fun d2=>GnG.no ?_)
    (fun d2=>lfI [true,false] (k+1,[],some [(k:Int)]) [(1:Nat)=0+1,rq (↑L.length:Int),w6.wrap ((↑k:Int)+1)=↑(k+1),p=p,lq L,([]:List (List Int))=[]∧(1:Nat)=[(↑k:Int)].length,rq ([(↑k:Int)]),ty d2,ty d1] (by kernel_rfl) ⟨?_,?_,?_,?_,?_,?_,?_,d2,d1⟩ ?_ ?_))
    (fun d1=>CtG.no ?_)
   all_goals((try clear u1);(try clear y1))
   all_goals first|(refine MuG.mk ?_;(simp only[decide_eq_true_eq,decide_eq_false_iff_not]at*;show L.length-(k+1)<L.length-k;omega))|(refine InG.mk ?_;(simp only[consR_ro,Int.toNat_natCast,decide_eq_true_eq,decide_eq_false_iff_not,gt_iff_lt]at*;first|exact chI_one hI (by omega)|exact chI_app hI (by omega) (by omega) d3|exact chI_new1 hI (by omega) (by omega)|exact chI_new2 hI (by omega) d3))|(refine CtG.mk ?_;(simp only[decide_eq_true_eq,decide_eq_false_iff_not,gt_iff_lt]at*;have:=chI_none hI;omega))|(refine GnG.mk ?_;(simp only[decide_eq_true_eq,decide_eq_false_iff_not,gt_iff_lt]at*;have:=chI_none hI;omega))|(first|(with_reducible rfl)|exact⟨rfl,rfl⟩|((try simp only[em,ek,eF,consR_ro,Int.toNat_natCast,decide_eq_true_eq,decide_eq_false_iff_not,gt_iff_lt,View.num]at*)<;>first|omega|exact⟨rfl,rfl⟩|exact⟨fun _ _=>rfl,hL,by omega,by omega⟩|(have:=(hG.rows l (by simp[allA])).2.2;exact⟨by trivial,by omega⟩)|(rw[(chI_fin hI (by omega)).1];done)|(rw[(chI_fin hI (by omega)).2];done)|(rw[(chI_fin hI (by omega)).1,(chI_fin hI (by omega)).2];exact⟨rfl,rfl⟩)|(simp;done)|(exfalso;have:=chI_none hI;omega)))
def orcCt (p:Int)(L:List Con):CallF:=orcB EV (callF EV (orcOf EV.ng entsT3) 8) 77 2 [([0,1,0,1,1],ctAnn p L)] noOrc
theorem orcCt_ok (p:Int)(L:List Con)(hL:okL L)(hne:0<L.length):CallOk Tryd.prog EV.ng (orcCt p L):=orcB_ok evOk (callF_ok evOk (orcOf_ok entsT3_ok) 8) Tryd.func77 (one_ann (ct_loop p L hL hne)) (noOrc_ok _ _)
theorem ttrains_pure (p:Int)(L:List Con)(hL:okL L)(hne:0<L.length):PureC Tryd.prog [] 50 [.agg [.int .i64 p,roC L]] (roR .i64 (chainsM L)):=by
 have rr:=fun(tp:List Bool)(ms:List Prop)h hm=>pure_run evOk (callF_ok evOk (orcCt_ok p L hL hne) 4) Tryd.func50 (A:=[.agg [.int .i64 p,roC L]]) rfl none_ann rfl rfl evNg (tabs:=[]) (R:=roR .i64 (chainsM L)) (tp:=tp) (ms:=ms) h hm
 refine rr [] [(chFin L).length+1=(chainsM L).length∧(chFin L).length+1=(chFin L).length+1∧(chLst L).length=(chLst L).length∧∀(i:Nat),i<(chFin L).length+1→(fun i=>[rI IntKind.i64 ((chainsM L).getD i [])]) i=[rI IntKind.i64 ((chFin L++[chLst L]).getD i [])],rq (↑L.length:Int),p=p,lq L] (by kernel_rfl) ⟨?_,?_,?_,(?_:lq L)⟩
 all_goals first|(first|(with_reducible rfl)|exact⟨rfl,rfl⟩|(rw[chains_cons hne];exact⟨by simp,rfl,rfl,fun i _=>rfl⟩))
noncomputable def entsJT:List OEnt:=(entsT3++entsVC)++[
 ⟨50,[],fun A=>match A with
  |[.agg [.int .i64 p,.sl n 5 row]]=>some (roR .i64 (chainsM (consR n row)),[(∀i,i<n→row i=(Con.ofR (row i)).rvs)∧okL (consR n row)∧0<n])
  |_=>none⟩]
theorem entsJT_ok:∀e∈entsJT,EntOk Tryd.prog e:=by
 intro e he
 rcases List.mem_append.1 he with he|he
 ·rcases List.mem_append.1 he with he|he
  ·exact entsT3_ok e he
  ·exact entsVC_ok e he
 ·rw[List.mem_singleton.1 he]
  intro A R ms h hm
  simp only at h
  split at h
  ·cases h
   obtain⟨h1,h2,h3⟩:=all_one hm
   exact PureC.imp (ttrains_pure _ _ h2 (by rw[consR_len];exact h3)) (.cons (.agg (.cons .same (.cons (.con h1) .nil))) .nil)
  ·cases h
theorem ttrn_yes (p:Int)(L:List Con)(hL:okL L)(hne:0<L.length)(hv:shV p L=true):PureC Tryd.prog [] 34 [.agg [.int .i64 p,roC L]] (.tup [roR .i64 (chainsM L),.bool true]):=by
 have hl:=hL.1
 have rr:=fun(tp:List Bool)(ms:List Prop)h hm=>pure_run evOk (callF_ok evOk (orcOf_ok entsJT_ok) 8) Tryd.func34 (A:=[.agg [.int .i64 p,roC L]]) rfl none_ann rfl rfl evNg (tabs:=[]) (R:=.tup [roR .i64 (chainsM L),.bool true]) (tp:=tp) (ms:=ms) h hm
 refine(let q1:List Prop→List Prop:=fun l0=>(let v1:=consR L.length fun i=>(L.getD i Con.zero).rvs;((chainsM v1).length=(chainsM L).length∧(fun i=>[rI IntKind.i64 ((chainsM v1).getD i [])])=fun i=>[rI IntKind.i64 ((chainsM L).getD i [])])::(true=true)::((lz L)∧okL v1∧(0:Nat)<L.length)::l0);let y1:List Prop:=[(lz L)∧L.length≤1000];have u1:allP y1:=(?_:(lz L)∧L.length≤1000);oe (val2M p (consR L.length fun i=>(L.getD i Con.zero).rvs)) (fun d1=>rr [false] (q1 (ty (dN d1)::y1)) (by kernel_rfl) ⟨?_,?_,?_,(dN d1),u1⟩)
  (fun d1=>oe (fusM p (consR L.length fun i=>(L.getD i Con.zero).rvs)) (fun d2=>rr [true,false] (q1 (ty (dN d2)::((lz L)∧L.length≤1000)::ty (dN d1)::y1)) (by kernel_rfl) ⟨?_,?_,?_,(dN d2),?_,(dN d1),u1⟩)
  (fun d2=>CtG.no ?_)))
 all_goals first|(refine CtG.mk ?_;(rw[consR_ro]at d1 d2;unfold shV at hv;rw[d1,d2]at hv;cases hv))|(first|(with_reducible rfl)|exact⟨rfl,rfl⟩|exact⟨fun _ _=>rfl,hl⟩|exact⟨fun _ _=>rfl,by rw[consR_ro];exact hL.e⟩|exact⟨fun _ _=>rfl,by rw[consR_ro];exact hL,hne⟩|(rw[consR_ro];exact⟨rfl,rfl⟩)|(rw[consR_ro];done))
def sgR (L:List Con)(l:List Int):Bool:=l.all fun i=>!((at_ L i.toNat).sign==-1)
def fstM (L:List Con)(P:List (List Int)):Bool:=P.all fun l=>sgR L (l.drop 1)
theorem sgR_1 {L:List Con}{l:List Int}{k:Nat}(hk:k<l.length)(h:((at_ L (l.getD k 0).toNat).sign==-1)=false):sgR L (l.drop k)=sgR L (l.drop (k+1)):=by
 rw[drop_int hk];unfold sgR;rw[List.all_cons,h];rfl
theorem sgR_2 {L:List Con}{l:List Int}{k:Nat}(hk:k<l.length)(h:((at_ L (l.getD k 0).toNat).sign==-1)=true):sgR L (l.drop k)=false:=by
 rw[drop_int hk];unfold sgR;rw[List.all_cons,h];rfl
theorem sgR_3 {L:List Con}{l:List Int}{k:Nat}(hk:l.length≤k):sgR L (l.drop k)=true:=by rw[List.drop_eq_nil_of_le hk];rfl
theorem fst_1 {L:List Con}{P:List (List Int)}{j:Nat}(hj:j<P.length)(h:sgR L ((rowAt P j).drop 1)=true):fstM L (P.drop j)=fstM L (P.drop (j+1)):=by
 rw[drop_row hj];unfold fstM;rw[List.all_cons,h];rfl
theorem fst_2 {L:List Con}{P:List (List Int)}{j:Nat}(hj:j<P.length)(h:sgR L ((rowAt P j).drop 1)=false):fstM L (P.drop j)=false:=by
 rw[drop_row hj];unfold fstM;rw[List.all_cons,h];rfl
theorem fst_3 {L:List Con}{P:List (List Int)}{j:Nat}(hj:P.length≤j):fstM L (P.drop j)=true:=by rw[List.drop_eq_nil_of_le hj];rfl
def dI (l:List Int):AV:=.ro (l.length-1) 1 fun i=>[.int .i64 (l.getD (i+1) 0)]
def fiT (L:List Con)(j:AV):List (Nat×AV):=[(1,.ptr 1000 0),(9,(roR .i64 (chainsM L)).av),(10,.vint .i64 (chainsM L).length),(11,j)]
def fiH (p:Int)(L:List Con):List (Nat×Blk):=[(1000,⟨.plain [.vint .i64 p,(roC L).av],46,0,false,true⟩)]
def fiI (L:List Con)(j:Nat)(k:AV):List (Nat×AV):=fiT L (.vint .i64 (j:Int))++[(16,dI (rowAt (chainsM L) j)),(17,.vint .i64 (((rowAt (chainsM L) j).length-1:Nat):Int)),(18,k)]
def fiIn (p:Int)(L:List Con)(j:Nat):Ann:=⟨⟨fiI L j (.int .i64 0),fiH p L,1020⟩,some (sgR L ((rowAt (chainsM L) j).drop 1)),fun d=>match d with
 |true=>(.exit 2,⟨fiT L (.vint .i64 (j:Int)),fiH p L,1020⟩)
 |false=>(.ret,⟨[(2,.bool false)],fiH p L,1020⟩)⟩
def icM (p:Int)(L:List Con):Bool:=fusM p L&&(fstM L (chainsM L)&&(refM L).isSome)
def entsIC:List OEnt:=entsJT++[
 ⟨21,[],fun A=>match A with
  |[.agg [.int .i64 p,.sl n 5 row]]=>some (.tup [.agg [.int .i64 (bP (rfB p (consR n row))),roC (bL (rfB p (consR n row)) (rfL (consR n row)))],.bool (rfB p (consR n row))],[(∀i,i<n→row i=(Con.ofR (row i)).rvs)∧n≤1000])
  |_=>none⟩]
theorem entsIC_ok:∀e∈entsIC,EntOk Tryd.prog e:=by
 intro e he
 rcases List.mem_append.1 he with he|he
 ·exact entsJT_ok e he
 ·rw[List.mem_singleton.1 he]
  intro A R ms h hm
  simp only at h
  split at h
  ·cases h
   obtain⟨h1,h2⟩:=all_one hm
   exact PureC.imp (tref_pure _ _ (by rw[consR_len];exact h2)) (.cons (.agg (.cons .same (.cons (.con h1) .nil))) .nil)
  ·cases h
def icT (L:List Con)(j:AV):List (Nat×AV):=[(1,.ptr 1000 0),(13,(roR .i64 (chainsM L)).av),(14,.vint .i64 (chainsM L).length),(15,j)]
def icI (L:List Con)(j:Nat)(k:AV):List (Nat×AV):=icT L (.vint .i64 (j:Int))++[(20,dI (rowAt (chainsM L) j)),(21,.vint .i64 (((rowAt (chainsM L) j).length-1:Nat):Int)),(22,k)]
def icIn (p:Int)(L:List Con)(j:Nat):Ann:=⟨⟨icI L j (.int .i64 0),fiH p L,1020⟩,some (sgR L ((rowAt (chainsM L) j).drop 1)),fun d=>match d with
 |true=>(.exit 2,⟨icT L (.vint .i64 (j:Int)),fiH p L,1020⟩)
 |false=>(.ret,⟨[(2,.bool false)],fiH p L,1020⟩)⟩
theorem ic_in (p:Int)(L:List Con)(j:Nat)(hr:inR L.length (rowAt (chainsM L) j))(hn:(rowAt (chainsM L) j).length≤1000):AnnOk Tryd.prog EV.ng (Nat.max 1 Tryd.f16.ntmps) (bodyAt Tryd.f16 [0,1,1,0,0,1,1,0,0,1,0,1,1]) (icIn p L j):=by
 refine ann_of evOk (callF_ok evOk (noOrc_ok _ _) 8) none_ann (by kernel_rfl) (by kernel_rfl) (fun i:Nat=>(fun(k:Nat)=>(⟨icI L j (.vint .i64 (k:Int)),fiH p L,1020⟩:St)) i) (fun i:Nat=>(fun(k:Nat)=>((rowAt (chainsM L) j).length-k:Nat)) i) (fun(d:Bool)(i:Nat)=>(fun(k:Nat)=>(k≤(rowAt (chainsM L) j).length-1∧sgR L ((rowAt (chainsM L) j).drop (k+1))=sgR L ((rowAt (chainsM L) j).drop 1)∧sgR L ((rowAt (chainsM L) j).drop 1)=d:Prop)) i) ?_ ?_
 ·intro d hd
  exact⟨(0),(let t1:=rowAt (chainsM L) j;[(chainsM L).length=(chainsM L).length∧(fun i=>[rI IntKind.i64 ((chainsM L).getD i [])])=fun i=>[rI IntKind.i64 ((chainsM L).getD i [])],rq (↑(chainsM L).length:Int),rq (↑j:Int),t1.length-1=t1.length-1∧(fun i=>[RV.int IntKind.i64 (t1.getD (i+1) (0:Int))])=fun i=>[RV.int IntKind.i64 (t1.getD (i+1) (0:Int))],rq (↑(t1.length-1):Int),(0:Int)=↑(0:Nat),p=p,lq L]),by kernel_rfl,(by refine⟨?_,?_,?_,?_,?_,?_,?_,(?_:lq L)⟩<;>(first|rfl|exact⟨rfl,rfl⟩|assumption|omega|simp_all)),(by exact⟨Nat.zero_le _,rfl,hd⟩)⟩
 ·rintro d hd k hI
  obtain⟨ht,hf,hs⟩:=hI
  have ht:k≤(rowAt (chainsM L) j).length-1:=ht
  have hf:sgR L ((rowAt (chainsM L) j).drop (k+1))=sgR L ((rowAt (chainsM L) j).drop 1):=hf
  have ek:w6.wrap ((k:Int)+1)=((k+1:Nat):Int):=by rw[w64 (by omega) (by omega)];omega
  refine(let q1:List Prop→List Prop:=fun l0=>((chainsM L).length=(chainsM L).length∧(fun i=>[rI IntKind.i64 ((chainsM L).getD i [])])=fun i=>[rI IntKind.i64 ((chainsM L).getD i [])])::rq (↑(chainsM L).length:Int)::rq (↑j:Int)::l0;oe (decide ((↑k:Int)<(↑((rowAt (chainsM L) j).length-1):Int))) (fun d1=>let y1:List Prop:=(let v1:=rowAt (chainsM L) j;[(0:Int)≤v1.getD (k+1) (0:Int)∧v1.getD (k+1) (0:Int)<↑L.length,(0:Int)≤↑k∧(↑k:Int)<↑(v1.length-1),ty d1]);have u1:allP y1:=⟨?_,?_,d1⟩;oe ((L.getD ((rowAt (chainsM L) j).getD (k+1) (0:Int)).toNat Con.zero).sign==-1) (fun d2=>?e1)
   (fun d2=>lfI [true,false] (k+1) (q1 (let v1:=rowAt (chainsM L) j;(v1.length-1=v1.length-1∧(fun i=>[RV.int IntKind.i64 (v1.getD (i+1) (0:Int))])=fun i=>[RV.int IntKind.i64 (v1.getD (i+1) (0:Int))])::rq (↑(v1.length-1):Int)::(w6.wrap ((↑k:Int)+1)=↑(k+1))::(p=p)::(lq L)::ty d2::y1)) (by kernel_rfl) ⟨?_,?_,?_,?_,?_,?_,?_,?_,d2,u1⟩ ?_ ?_))
   (fun d1=>?e2))
  case' e1=>
   cases d
   rotate_right
   refine CtG.no ?_
   rotate_right
   refine lfR [true,true] ((p=p)::(lq L)::ty d2::y1) (by kernel_rfl) ⟨?_,?_,d2,u1⟩ rfl
  case' e2=>
   cases d
   rotate_right
   refine lfR [false] (q1 [p=p,lq L,ty d1]) (by kernel_rfl) ⟨?_,?_,?_,?_,?_,d1⟩ rfl
   rotate_right
   refine CtG.no ?_
  all_goals((try clear u1);(try clear y1))
  all_goals first|(refine MuG.mk ?_;(simp only[decide_eq_true_eq]at d1;show(rowAt (chainsM L) j).length-(k+1)<(rowAt (chainsM L) j).length-k;omega))|(refine InG.mk ?_;(simp only[ek,decide_eq_true_eq]at*;exact⟨by omega,by rw[←hf,sgR_1 (by omega) d2],hs⟩))|(refine CtG.mk ?_;(simp only[decide_eq_true_eq,decide_eq_false_iff_not]at*;first|(rw[←hf,sgR_3 (by omega)]at hs;cases hs;done)|(rw[←hf,sgR_2 (by omega) d2]at hs;cases hs;done)))|(first|(with_reducible rfl)|exact⟨rfl,rfl⟩|decide|((try simp only[ek,Int.toNat_natCast,decide_eq_true_eq,decide_eq_false_iff_not]at*)<;>first|omega|(rw[←hf,sgR_3 (by omega)];done)|(rw[←hf,sgR_2 (by omega) d2];done)|(have h2:=hr.at (t:=k+1) (by omega);omega)))
def icOut (p:Int)(L:List Con):Ann:=⟨⟨icT L (.int .i64 0),fiH p L,1020⟩,some (fstM L (chainsM L)),fun d=>match d with
 |true=>(.exit 0,⟨[(1,.ptr 1000 0)],fiH p L,1020⟩)
 |false=>(.ret,⟨[(2,.bool false)],fiH p L,1020⟩)⟩
theorem ic_out (p:Int)(L:List Con)(hL:okL L):AnnOk Tryd.prog EV.ng (Nat.max 1 Tryd.f16.ntmps) (bodyAt Tryd.f16 [0,1,0,1,1]) (icOut p L):=by
 refine ann_ofI evOk (callF_ok evOk (noOrc_ok _ _) 8) (by kernel_rfl) (by kernel_rfl) (fun i:Nat=>(fun(j:Nat)=>(⟨icT L (.vint .i64 (j:Int)),fiH p L,1020⟩:St)) i) (fun i:Nat=>(fun(j:Nat)=>((chainsM L).length-j:Nat)) i) (fun(d:Bool)(i:Nat)=>(fun(j:Nat)=>(j≤(chainsM L).length∧fstM L ((chainsM L).drop j)=fstM L (chainsM L)∧fstM L (chainsM L)=d:Prop)) i) (fun i:Nat=>(fun(j:Nat)=>([([0,1,1,0,0,1,1,0,0,1,0,1,1],icIn p L j)]:List (List Nat×Ann))) i) ?_ ?_ ?_
 ·rintro d hd j hI
  have hr:inR L.length (rowAt (chainsM L) j)∧(rowAt (chainsM L) j).length≤1000:=by
   have:=hL.1
   rcases Nat.lt_or_ge j (chainsM L).length with h|h
   ·have h1:=chains_rows _ (rowAt_mem h)
    exact⟨h1.2.1,by omega⟩
   ·have e:rowAt (chainsM L) j=[]:=by simp[rowAt,h]
    rw[e];exact⟨fun x hx=>by simp at hx,by simp⟩
  exact one_ann (ic_in p L j hr.1 hr.2)
 ·intro d hd
  exact⟨(0),[(chainsM L).length=(chainsM L).length∧(fun i=>[rI IntKind.i64 ((chainsM L).getD i [])])=fun i=>[rI IntKind.i64 ((chainsM L).getD i [])],rq (↑(chainsM L).length:Int),(0:Int)=↑(0:Nat),p=p,lq L],by kernel_rfl,(by refine⟨?_,?_,?_,?_,(?_:lq L)⟩<;>(first|rfl|exact⟨rfl,rfl⟩|assumption|omega|simp_all)),(by exact⟨Nat.zero_le _,rfl,hd⟩)⟩
 ·rintro d hd j hI
  obtain⟨ht,hf,hs⟩:=hI
  have ht:j≤(chainsM L).length:=ht
  have hf:fstM L ((chainsM L).drop j)=fstM L (chainsM L):=hf
  have hl:=hL.1
  have hc:=chains_len (L:=L)
  have ek:w6.wrap ((j:Int)+1)=((j+1:Nat):Int):=by rw[w64 (by omega) (by omega)];omega
  refine oe (decide ((↑j:Int)<(↑(chainsM L).length:Int))) (fun d1=>let y1:List Prop:=[(0:Int)≤1∧(1:Int)≤(↑((chainsM L).getD j []).length:Int),(0:Int)≤↑j∧(↑j:Int)<(↑(chainsM L).length:Int),ty d1];have u1:allP y1:=⟨?_,?_,d1⟩;oe (sgR L (List.drop (1:Nat) (rowAt (chainsM L) j))) (fun d2=>lfI [true,true] (j+1) (let v1:=(chainsM L).getD j [];let v2:=rowAt (chainsM L) j;let v3:=(↑(chainsM L).length:Int);((chainsM L).length=(chainsM L).length∧(fun i=>[rI IntKind.i64 ((chainsM L).getD i [])])=fun i=>[rI IntKind.i64 ((chainsM L).getD i [])])::rq v3::(w6.wrap ((↑j:Int)+1)=↑(j+1))::(p=p)::(lq L)::((chainsM L).length=(chainsM L).length∧(fun i=>[rI IntKind.i64 ((chainsM L).getD i [])])=fun i=>[rI IntKind.i64 ((chainsM L).getD i [])])::rq v3::rq (↑j:Int)::(v1.length-Int.toNat (1:Int)=v2.length-1∧(fun i=>(fun j_1=>[RV.int IntKind.i64 (v1.getD j_1 (0:Int))]) (i+Int.toNat (1:Int)))=fun i=>[RV.int IntKind.i64 (v2.getD (i+1) (0:Int))])::((↑(v1.length-Int.toNat (1:Int)):Int)=↑(v2.length-1))::(p=p)::(lq L)::ty d2::y1) (by kernel_rfl) ⟨?_,?_,?_,?_,?_,?_,?_,?_,?_,?_,?_,?_,d2,u1⟩ ?_ ?_)
   (fun d2=>?e3))
   (fun d1=>?e4)
  case' e3=>
   cases d
   rotate_right
   refine CtG.no ?_
   rotate_right
   refine lfR [true,false] (let v1:=(chainsM L).getD j [];let v2:=rowAt (chainsM L) j;(p=p)::(lq L)::((chainsM L).length=(chainsM L).length∧(fun i=>[rI IntKind.i64 ((chainsM L).getD i [])])=fun i=>[rI IntKind.i64 ((chainsM L).getD i [])])::rq (↑(chainsM L).length:Int)::rq (↑j:Int)::(v1.length-Int.toNat (1:Int)=v2.length-1∧(fun i=>(fun j_1=>[RV.int IntKind.i64 (v1.getD j_1 (0:Int))]) (i+Int.toNat (1:Int)))=fun i=>[RV.int IntKind.i64 (v2.getD (i+1) (0:Int))])::((↑(v1.length-Int.toNat (1:Int)):Int)=↑(v2.length-1))::(p=p)::(lq L)::ty d2::y1) (by kernel_rfl) ⟨?_,?_,?_,?_,?_,?_,?_,?_,?_,d2,u1⟩ rfl
  case' e4=>
   cases d
   rotate_right
   refine lfR [false] [p=p,lq L,ty d1] (by kernel_rfl) ⟨?_,?_,d1⟩ rfl
   rotate_right
   refine CtG.no ?_
  all_goals((try clear u1);(try clear y1))
  all_goals first|(refine MuG.mk ?_;(simp only[decide_eq_true_eq]at d1;show(chainsM L).length-(j+1)<(chainsM L).length-j;omega))|(refine InG.mk ?_;(simp only[decide_eq_true_eq]at d1;exact⟨by omega,by rw[←hf];exact(fst_1 (by omega) d2).symm,hs⟩))|(refine CtG.mk ?_;(simp only[decide_eq_true_eq,decide_eq_false_iff_not]at d1;first|(rw[←hf,fst_3 (by omega)]at hs;cases hs;done)|(rw[←hf,fst_2 (by omega) d2]at hs;cases hs;done)))|(first|(with_reducible rfl)|exact⟨rfl,rfl⟩|decide|((try simp only[ek,Int.toNat_natCast,Int.toNat_zero,decide_eq_true_eq,decide_eq_false_iff_not]at*)<;>first|omega|(rw[←hf,fst_3 (by omega)];done)|(rw[←hf,fst_2 (by omega) d2];done)|(have h0:=chains_rows _ (rowAt_mem (P:=chainsM L) (t:=j) (by omega));have h1:0<(rowAt (chainsM L) j).length:=List.length_pos_iff.2 h0.1;have h2:0<((chainsM L).getD j []).length:=h1;first|omega|rfl)))
theorem tic_yes (p:Int)(L:List Con)(hL:okL L)(hne:0<L.length)(hf:fusM p L=true):PureC Tryd.prog [] 16 [.agg [.int .i64 p,roC L]] (.bool (fstM L (chainsM L)&&(refM L).isSome)):=by
 have hl:=hL.1;have k1:fusM p (consR L.length fun i=>(L.getD i Con.zero).rvs)=true:=(by rw[consR_ro];exact hf)
 have rr:=fun(tp:List Bool)(ms:List Prop)h hm=>pure_run evOk (callF_ok evOk (orcOf_ok entsIC_ok) 8) Tryd.func16 (A:=[.agg [.int .i64 p,roC L]]) (N:=Nat.max 1 Tryd.f16.ntmps) rfl (one_ann (ic_out p L hL)) rfl rfl evNg (tabs:=[]) (R:=.bool (fstM L (chainsM L)&&(refM L).isSome)) (tp:=tp) (ms:=ms) h hm
 refine(let y1:List Prop:=(let v1:=consR L.length fun i=>(L.getD i Con.zero).rvs;[(lz L)∧okL v1∧(0:Nat)<L.length,Dec (!fusM p v1) false,(lz L)∧L.length≤1000]);have u1:allP y1:=⟨?_,(dN k1),(?_:(lz L)∧L.length≤1000)⟩;oe (fstM L (chainsM L)) (fun d1=>rr [false,true] (let v1:=consR L.length fun i=>(L.getD i Con.zero).rvs;(rfB p v1=(fstM L (chainsM L)&&(refM L).isSome))::((lz L)∧L.length≤1000)::((chainsM v1).length=(chainsM L).length∧(fun i=>[rI IntKind.i64 ((chainsM v1).getD i [])])=fun i=>[rI IntKind.i64 ((chainsM L).getD i [])])::((↑(chainsM v1).length:Int)=(↑(chainsM L).length:Int))::(p=p)::(lq L)::ty d1::y1) (by kernel_rfl) ⟨?_,?_,?_,?_,?_,?_,d1,u1⟩)
  (fun d1=>rr [false,false] (let v1:=consR L.length fun i=>(L.getD i Con.zero).rvs;(false=(fstM L (chainsM L)&&(refM L).isSome))::((chainsM v1).length=(chainsM L).length∧(fun i=>[rI IntKind.i64 ((chainsM v1).getD i [])])=fun i=>[rI IntKind.i64 ((chainsM L).getD i [])])::((↑(chainsM v1).length:Int)=(↑(chainsM L).length:Int))::(p=p)::(lq L)::ty d1::y1) (by kernel_rfl) ⟨?_,?_,?_,?_,?_,d1,u1⟩))
 all_goals first|(first|(with_reducible rfl)|exact⟨rfl,rfl⟩|exact⟨fun _ _=>rfl,hl⟩|exact⟨fun _ _=>rfl,by rw[consR_ro];exact hL,hne⟩|(rw[d1];rfl)|(rw[d1,Bool.true_and,consR_ro];unfold rfB;rw[hf,Bool.true_and];done)|(rw[consR_ro];exact⟨rfl,rfl⟩)|(rw[consR_ro];done)|exact(5:Nat))
theorem tic_no (p:Int)(L:List Con)(hn:L.length≤1000)(hf:fusM p L=false):PureC Tryd.prog [] 16 [.agg [.int .i64 p,roC L]] (.bool false):=by
 have k1:fusM p (consR L.length fun i=>(L.getD i Con.zero).rvs)=false:=(by rw[consR_ro];exact hf)
 have rr:=fun(tp:List Bool)(ms:List Prop)h hm=>pure_run evOk (callF_ok evOk (orcOf_ok entsIC_ok) 8) Tryd.func16 (A:=[.agg [.int .i64 p,roC L]]) rfl none_ann rfl rfl evNg (tabs:=[]) (R:=.bool false) (tp:=tp) (ms:=ms) h hm
 refine rr [true] [false=false,Dec (!fusM p (consR L.length fun i=>(L.getD i Con.zero).rvs)) true,(lz L)∧L.length≤1000] (by kernel_rfl) ⟨?_,(dN k1),(?_:(lz L)∧L.length≤1000)⟩
 all_goals first|(first|rfl|exact⟨rfl,rfl⟩|exact⟨fun _ _=>rfl,hn⟩)
theorem tic_pure (p:Int)(L:List Con)(hn:L.length≤1000):PureC Tryd.prog [] 16 [.agg [.int .i64 p,roC L]] (.bool (icM p L)):=by
 unfold icM
 cases h:fusM p L with
 |false=>exact tic_no p L hn h
 |true=>
  have:=fus_p h
  subst this
  exact tic_yes 2 L (fus_okL h) (fus_parts h).2.1 h
def lfM (D:Int)(C:List Con)(o:Option (List QfSy.Loc)):Option (List QfSy.Loc):=bif icM 2 C&&keM D 2 C then some (liL o++[⟨2,C⟩])else o
def negC (c:Con):Con:=⟨c.exp,c.dim,-1,c.odd,c.oddity⟩
def chM (D:Int)(F:List Con)(h:List Bool):Nat→Nat→List Con→Option (List QfSy.Loc)→List Con×Option (List QfSy.Loc)
 |0,_,C,o=>(C,lfM D C o)
 |r+1,i,C,o=>bif h.getD i false then chM D F h r (i+1) ((chM D F h r (i+1) (C.set i (F.getD i z0c)) o).1.set i (negC (F.getD i z0c))) (chM D F h r (i+1) (C.set i (F.getD i z0c)) o).2 else chM D F h r (i+1) (C.set i (F.getD i z0c)) o
theorem chM_len (D:Int)(F:List Con)(h:List Bool):∀(r i:Nat)(C:List Con)(o:Option (List QfSy.Loc)),(chM D F h r i C o).1.length=C.length
 |0,i,C,o=>rfl
 |r+1,i,C,o=>by
  unfold chM
  cases h.getD i false with
  |true=>rw[cond_true,chM_len,List.length_set,chM_len,List.length_set]
  |false=>rw[cond_false,chM_len,List.length_set]
theorem lfM_some (D:Int)(C:List Con)(X:List QfSy.Loc):lfM D C (some X)=some (liL (lfM D C (some X))):=by
 unfold lfM
 cases icM 2 C&&keM D 2 C<;>rfl
theorem chM_some (D:Int)(F:List Con)(h:List Bool):∀(r i:Nat)(C:List Con)(X:List QfSy.Loc),(chM D F h r i C (some X)).2=some (liL (chM D F h r i C (some X)).2)
 |0,i,C,X=>lfM_some D C X
 |r+1,i,C,X=>by
  unfold chM
  cases h.getD i false with
  |true=>
   rw[cond_true,chM_some D F h r (i+1) (C.set i (F.getD i z0c)) X]
   exact chM_some D F h r (i+1) _ _
  |false=>
   rw[cond_false]
   exact chM_some D F h r (i+1) _ _
theorem lfM_le (D:Int)(C:List Con)(o:Option (List QfSy.Loc)):(liL (lfM D C o)).length≤(liL o).length+1:=by
 unfold lfM
 cases icM 2 C&&keM D 2 C<;>simp[liL]
theorem chM_le (D:Int)(F:List Con)(h:List Bool):∀(r i:Nat)(C:List Con)(o:Option (List QfSy.Loc)),(liL (chM D F h r i C o).2).length≤(liL o).length+2^r
 |0,i,C,o=>lfM_le D C o
 |r+1,i,C,o=>by
  unfold chM
  have h1:=chM_le D F h r (i+1) (C.set i (F.getD i z0c)) o
  have h2:=Nat.pow_succ 2 r
  cases h.getD i false with
  |true=>
   rw[cond_true]
   have h3:=chM_le D F h r (i+1) ((chM D F h r (i+1) (C.set i (F.getD i z0c)) o).1.set i (negC (F.getD i z0c))) (chM D F h r (i+1) (C.set i (F.getD i z0c)) o).2
   omega
  |false=>
   rw[cond_false]
   omega
def plB (l:List AV)(t:Nat):Blk:=⟨.plain l,t,0,false,true⟩
def clH (D:Int)(F:List Con)(h:List Bool)(o:Option (List QfSy.Loc))(b:Nat):List (Nat×Blk):=[(1005,plB [liA b o] 27),(1006,plB [.vint .i64 D] 2),(1007,plB [.lo 1008 h.length] 73),(1008,⟨.vals .flag h,4,1,true,true⟩),(1009,plB [.vint .i64 2,(roC F).av] 46)]++liB b o
def c1H (D:Int)(F:List Con)(h:List Bool)(C:List Con)(o:Option (List QfSy.Loc))(b:Nat):List (Nat×Blk):=[(1000,plB [.lo 1001 C.length] 44),(1001,conB C),(1002,plB [.fn 38 [.ptr 1005 0,.ptr 1006 0]] 79),(1003,plB [.fn 35 [.ptr 1007 0,.ptr 1009 0]] 76),(1004,plB [.fn 65 [.ptr 1000 0,.ptr 1002 0,.ptr 1003 0,.ptr 1004 0]] 42)]++clH D F h o b
def c1A (D:Int)(F:List Con)(h:List Bool)(r i:Nat)(C:List Con)(o:Option (List QfSy.Loc)):FnA:=⟨65,[.vint .i64 (i:Int),.ptr 1000 0,.ptr 1002 0,.ptr 1003 0,.ptr 1004 0],c1H D F h C o 1010,1100,(match o with
 |none=>some (chM D F h r i C none).2.isNone
 |some _=>none),fun t=>match o,t with
 |none,true=>(.tup [],c1H D F h (chM D F h r i C none).1 none 1150,1900)
 |none,false=>(.tup [],c1H D F h (chM D F h r i C none).1 (some (liL (chM D F h r i C none).2)) 1150,1900)
 |some X,_=>(.tup [],c1H D F h (chM D F h r i C (some X)).1 (some (liL (chM D F h r i C (some X)).2)) 1150,1900)⟩
def oOf (m:Tr Blk)(u:AV):Option (Option (List QfSy.Loc)):=match u with
 |.nils=>some none
 |.lo b _=>match m.get b with
  |some k=>match k.view with
   |.vals .loc X=>some (some X)
   |_=>none
  |none=>none
 |_=>none
def cOf (m:Tr Blk)(b:Nat):Option (List Con):=match m.get b with
 |some k=>match k.view with
  |.con C=>some C
  |_=>none
 |none=>none
def vOf (m:Tr Blk)(b:Nat):Option AV:=match m.get b with
 |some k=>match k.view with
  |.plain [v]=>some v
  |_=>none
 |none=>none
def cVar (m:Tr Blk)(b:Nat):Option (List Con):=match vOf m b with
 |some (.lo b' _)=>cOf m b'
 |_=>none
def oVar (m:Tr Blk)(b:Nat):Option (Option (List QfSy.Loc)):=match vOf m b with
 |some u=>oOf m u
 |none=>none
def ke0 (C:List Con)(D p:Int)(o:Option (List QfSy.Loc)):Prop:=0<C.length∧C.length≤1000∧(liL o).length≤100000∧0<D∧D≤2147483647∧2≤p∧p≤2147483647∧(p=2∨p.toNat%2≠0)
theorem ke_ok {C:List Con}{D p:Int}{o:Option (List QfSy.Loc)}(h:ke0 C D p o):FnOk Tryd.prog EV.ng (keA C D p o):=by
 obtain⟨h1,h2,h3,h4,h5,h6,h7,h8⟩:=h
 cases o with
 |none=>exact ke_fn0 C D p h1 h2 h4 h5 h6 h7 h8
 |some X=>exact ke_fn1 C D p X h1 h2 h3 h4 h5 h6 h7 h8
def goKe (D p:Int):Nat→List AV→Hs→Option (FnA×List Prop):=fun f args H=>bif Nat.beq f 39 then(match args with
 |[u,_,.agg [_,.lo b _]]=>match cOf H.m b with
  |none=>none
  |some C=>match oOf H.m u with
   |none=>none
   |some o=>some (keA C D p o,[ke0 C D p o])
 |_=>none)else none
theorem goKe_ok (D p:Int):∀f args H A ms,goKe D p f args H=some (A,ms)→(∀q∈ms,q)→FnOk Tryd.prog EV.ng A:=by
 intro f args H A ms h hm
 unfold goKe at h
 replace h:=(bif_some h).2
 split at h
 ·split at h
  ·cases h
  ·split at h
   ·cases h
   ·cases h
    exact ke_ok (all_one hm)
 ·cases h
def c10 (D:Int)(F:List Con)(h:List Bool)(r i:Nat)(C:List Con)(o:Option (List QfSy.Loc)):Prop:=i+r=C.length∧F.length=C.length∧h.length=C.length∧0<C.length∧C.length≤10∧(liL o).length+2^r≤100000∧0<D∧D≤2147483647
def entsIc:List OEnt:=[
 ⟨16,[],fun A=>match A with
  |[.agg [.int .i64 p,.sl n 5 row]]=>some (.bool (icM p (consR n row)),[(∀i,i<n→row i=(Con.ofR (row i)).rvs)∧n≤1000])
  |_=>none⟩]
theorem entsIc_ok:∀e∈entsIc,EntOk Tryd.prog e:=by
 intro e he
 simp only[entsIc,List.mem_cons,List.not_mem_nil,or_false]at he
 subst he
 intro A R ms h hm
 simp only at h
 split at h
 ·cases h
  obtain⟨h1,h2⟩:=all_one hm
  exact PureC.imp (tic_pure _ _ (by rw[consR_len];exact h2)) (.cons (.agg (.cons .same (.cons (.con h1) .nil))) .nil)
 ·cases h
theorem lf_t {D:Int}{C:List Con}{o:Option (List QfSy.Loc)}(h1:icM 2 C=true)(h2:keM D 2 C=true):lfM D C o=some (liL o++[⟨2,C⟩]):=by unfold lfM;rw[h1,h2];rfl
theorem lf_1 {D:Int}{C:List Con}{o:Option (List QfSy.Loc)}(h1:icM 2 C=false):lfM D C o=o:=by unfold lfM;rw[h1];rfl
theorem lf_2 {D:Int}{C:List Con}{o:Option (List QfSy.Loc)}(h2:keM D 2 C=false):lfM D C o=o:=by unfold lfM;rw[h2,Bool.and_false];rfl
theorem c1_b0 (D:Int)(F:List Con)(h:List Bool)(j:Nat)(C:List Con)(hc:c10 D F h 0 j C none):FnOk Tryd.prog EV.ng (c1A D F h 0 j C none):=by
 obtain⟨hc1,hc2,hc3,hc4,hc5,hc6,hc7,hc8⟩:=hc
 have hz:((j:Int)==(C.length:Int))=true:=by rw[show j=C.length by omega];exact beq_self_eq_true _
 refine fn_of_run evOk (callF_ok evOk (orcFnM_ok (goKe_ok D 2) (orcOf_ok entsIc_ok)) 8) (A:=c1A D F h 0 j C none) Tryd.func65 rfl (N:=(Nat.max 5 Tryd.f65.ntmps)) rfl none_ann evNg ?_
 intro d hd
 cases d
 rotate_right
 have hd:((chM D F h 0 j C none).2.isNone)=true:=hd
 refine(let q1:List Prop→List Prop:=fun l0=>(let v1:=chM D F h (0:Nat) j C none;(C.length=v1.fst.length)::(C=v1.fst)::(D=D)::rq h.length::(h=h)::rq (2:Int)::(lq F)::l0);let y1:List Prop:=[rq C.length,(lz C)∧C.length≤1000,Dec ((↑j:Int)==↑C.length) true];have u1:allP y1:=⟨?_,?_,hz⟩;oe (icM (2:Int) (consR C.length fun i=>(C.getD i z0c).rvs)) (fun d1=>oe (keM D (2:Int) C) (fun d2=>CtG.no ?_)
  (fun d2=>⟨(tp 112),(q1 ((ke0 C D (2:Int) none)::(D=D)::rq (2:Int)::rq C.length::(C=C)::ty d2::ty d1::y1)),by kernel_rfl,⟨?_,?_,?_,?_,?_,?_,?_,?_,?_,?_,?_,?_,d2,d1,u1⟩⟩))
  (fun d1=>⟨[true,false],(q1 (ty d1::y1)),by kernel_rfl,⟨?_,?_,?_,?_,?_,?_,?_,d1,u1⟩⟩))
 rotate_right
 have hd:((chM D F h 0 j C none).2.isNone)=false:=hd
 refine oe (icM (2:Int) (consR C.length fun i=>(C.getD i z0c).rvs)) (fun d1=>oe (keM D (2:Int) C) (fun d2=>⟨(tp 111),(let v1:=chM D F h (0:Nat) j C none;[C.length=v1.fst.length,C=v1.fst,(liL none++[Loc.mk (2:Int) C]).length=(liL v1.snd).length,D=D,rq h.length,h=h,rq (2:Int),lq F,[Loc.mk (2:Int) C]=liL v1.snd,ke0 C D (2:Int) none,D=D,rq (2:Int),rq C.length,C=C,ty d2,ty d1,rq C.length,(lz C)∧C.length≤1000,Dec ((↑j:Int)==↑C.length) true]),by kernel_rfl,⟨?_,?_,?_,?_,?_,?_,?_,?_,?_,?_,?_,?_,?_,?_,d2,d1,?_,?_,hz⟩⟩)
  (fun d2=>CtG.no ?_))
  (fun d1=>CtG.no ?_)
 all_goals first|(refine CtG.mk ?_;(first|(have e1:=d1;rw[consR_ro]at e1;have hd:(lfM D C none).isNone=_:=hd;first|(rw[lf_t e1 d2]at hd;cases hd;done)|(rw[lf_1 e1]at hd;cases hd;done)|(rw[lf_2 d2]at hd;cases hd;done))))|(first|(with_reducible rfl)|exact⟨rfl,rfl⟩|rfl|exact⟨hc4,by omega,by omega,hc7,hc8,by decide,by decide,.inl rfl⟩|exact⟨fun _ _=>rfl,by omega⟩|(have e1:=d1;rw[consR_ro]at e1;first|(show _=(liL (lfM D C none)).length;rw[lf_t e1 d2]<;>rfl)|(show _=liL (lfM D C none);rw[lf_t e1 d2]<;>rfl)|(show _=(liL (lfM D C none)).length;rw[lf_1 e1]<;>rfl)|(show _=liL (lfM D C none);rw[lf_1 e1]<;>rfl)|(show _=(liL (lfM D C none)).length;rw[lf_2 d2]<;>rfl)|(show _=liL (lfM D C none);rw[lf_2 d2]<;>rfl)))
theorem c1_b1 (D:Int)(F:List Con)(h:List Bool)(j:Nat)(C:List Con)(X:List QfSy.Loc)(hc:c10 D F h 0 j C (some X)):FnOk Tryd.prog EV.ng (c1A D F h 0 j C (some X)):=by
 obtain⟨hc1,hc2,hc3,hc4,hc5,hc6,hc7,hc8⟩:=hc
 have hz:((j:Int)==(C.length:Int))=true:=by rw[show j=C.length by omega];exact beq_self_eq_true _
 refine fn_of_run evOk (callF_ok evOk (orcFnM_ok (goKe_ok D 2) (orcOf_ok entsIc_ok)) 8) (A:=c1A D F h 0 j C (some X)) Tryd.func65 rfl (N:=(Nat.max 5 Tryd.f65.ntmps)) rfl none_ann evNg ?_
 intro d hd
 cases d
 ·exact Bool.noConfusion (show false=true from hd)
 ·refine(let q1:List Prop→List Prop:=fun l0=>(let v1:=chM D F h (0:Nat) j C (some X);(C.length=v1.fst.length)::(C=v1.fst)::(X.length=(liL v1.snd).length)::(D=D)::rq h.length::(h=h)::rq (2:Int)::(lq F)::(X=liL v1.snd)::l0);let y1:List Prop:=[rq C.length,(lz C)∧C.length≤1000,Dec ((↑j:Int)==↑C.length) true];have u1:allP y1:=⟨?_,?_,hz⟩;oe (icM (2:Int) (consR C.length fun i=>(C.getD i z0c).rvs)) (fun d1=>oe (keM D (2:Int) C) (fun d2=>⟨(tp 111),(let v1:=chM D F h (0:Nat) j C (some X);(C.length=v1.fst.length)::(C=v1.fst)::((liL (some X)++[Loc.mk (2:Int) C]).length=(liL v1.snd).length)::(D=D)::rq h.length::(h=h)::rq (2:Int)::(lq F)::(liL (some X)++[Loc.mk (2:Int) C]=liL v1.snd)::(ke0 C D (2:Int) (some X))::rq X.length::(D=D)::rq (2:Int)::rq C.length::(C=C)::(X=X)::ty d2::ty d1::y1),by kernel_rfl,?_⟩)
   (fun d2=>⟨(tp 112),(q1 ((ke0 C D (2:Int) (some X))::rq X.length::(D=D)::rq (2:Int)::rq C.length::(C=C)::(X=X)::ty d2::ty d1::y1)),by kernel_rfl,?_⟩))
   (fun d1=>⟨[true,false],(q1 (ty d1::y1)),by kernel_rfl,?_⟩))
  all_goals with_reducible(repeat' first|assumption|refine alC ?_ ?_|refine al1 ?_|(delta Dec;assumption))
  all_goals first|(refine CtG.mk ?_;(first|(have e1:=d1;rw[consR_ro]at e1;have hd:(lfM D C (some X)).isNone=_:=hd;first|(rw[lf_t e1 d2]at hd;cases hd;done)|(rw[lf_1 e1]at hd;cases hd;done)|(rw[lf_2 d2]at hd;cases hd;done))))|(first|(with_reducible rfl)|exact⟨rfl,rfl⟩|rfl|exact⟨hc4,by omega,by omega,hc7,hc8,by decide,by decide,.inl rfl⟩|exact⟨fun _ _=>rfl,by omega⟩|(have e1:=d1;rw[consR_ro]at e1;first|(show _=(liL (lfM D C (some X))).length;rw[lf_t e1 d2]<;>rfl)|(show _=liL (lfM D C (some X));rw[lf_t e1 d2]<;>rfl)|(show _=(liL (lfM D C (some X))).length;rw[lf_1 e1]<;>rfl)|(show _=liL (lfM D C (some X));rw[lf_1 e1]<;>rfl)|(show _=(liL (lfM D C (some X))).length;rw[lf_2 d2]<;>rfl)|(show _=liL (lfM D C (some X));rw[lf_2 d2]<;>rfl)))
def goC (D:Int)(F:List Con)(h:List Bool)(r i:Nat)(go:Nat→List AV→Hs→Option (FnA×List Prop)):Nat→List AV→Hs→Option (FnA×List Prop):=fun f args H=>bif Nat.beq f 65 then(match args with
 |[_,.ptr b0 _,.ptr b1 _,_,_]=>match cVar H.m b0 with
  |none=>none
  |some C=>match vOf H.m b1 with
   |some (.fn _ [.ptr bl _,_])=>match oVar H.m bl with
    |none=>none
    |some o=>some (c1A D F h r (i+1) C o,[c10 D F h r (i+1) C o])
   |_=>none
 |_=>none)else go f args H
theorem goC_ok {D:Int}{F:List Con}{h:List Bool}{r i:Nat}(ih:∀C o,c10 D F h r (i+1) C o→FnOk Tryd.prog EV.ng (c1A D F h r (i+1) C o)){go:Nat→List AV→Hs→Option (FnA×List Prop)}(hgo:∀f args H A ms,go f args H=some (A,ms)→(∀q∈ms,q)→FnOk Tryd.prog EV.ng A):∀f args H A ms,goC D F h r i go f args H=some (A,ms)→(∀q∈ms,q)→FnOk Tryd.prog EV.ng A:=by
 intro f args H A ms hq hm
 unfold goC at hq
 cases hb:Nat.beq f 65 with
 |false=>rw[hb]at hq;exact hgo f args H A ms hq hm
 |true=>
  rw[hb]at hq
  simp only[cond_true]at hq
  split at hq
  ·split at hq
   ·cases hq
   ·split at hq
    ·split at hq
     ·cases hq
     ·cases hq
      exact ih _ _ (all_one hm)
    ·cases hq
  ·cases hq
def goN:Nat→List AV→Hs→Option (FnA×List Prop):=fun _ _ _=>none
theorem goN_ok:∀f args H A ms,goN f args H=some (A,ms)→(∀q∈ms,q)→FnOk Tryd.prog EV.ng A:=fun f args H A ms h _=>by cases h
theorem isN {α:Type}{x:Option α}(h:x.isNone=true):x=none:=by cases x with
 |none=>rfl
 |some a=>cases h
theorem isSm {x:Option (List QfSy.Loc)}(h:x.isNone=false):x=some (liL x):=by cases x with
 |none=>cases h
 |some a=>rfl
theorem ch_t {D:Int}{F:List Con}{h:List Bool}{r i:Nat}{C:List Con}{o:Option (List QfSy.Loc)}(hd:h.getD i Rty.flag.zero=true):chM D F h (r+1) i C o=chM D F h r (i+1) ((chM D F h r (i+1) (C.set i (F.getD i z0c)) o).1.set i (negC (F.getD i z0c))) (chM D F h r (i+1) (C.set i (F.getD i z0c)) o).2:=by
 have hd:h.getD i false=true:=hd
 rw[chM,hd];rfl
theorem ch_f {D:Int}{F:List Con}{h:List Bool}{r i:Nat}{C:List Con}{o:Option (List QfSy.Loc)}(hd:h.getD i Rty.flag.zero=false):chM D F h (r+1) i C o=chM D F h r (i+1) (C.set i (F.getD i z0c)) o:=by
 have hd:h.getD i false=false:=hd
 rw[chM,hd];rfl
theorem c10_1 {D:Int}{F:List Con}{h:List Bool}{r i:Nat}{C:List Con}{o:Option (List QfSy.Loc)}{x:Con}(hc:c10 D F h (r+1) i C o):c10 D F h r (i+1) (C.set i x) o:=by
 obtain⟨hc1,hc2,hc3,hc4,hc5,hc6,hc7,hc8⟩:=hc
 have:=Nat.pow_succ 2 r
 unfold c10
 rw[List.length_set]
 exact⟨by omega,hc2,hc3,hc4,hc5,by omega,hc7,hc8⟩
theorem c10_2 {D:Int}{F:List Con}{h:List Bool}{r i:Nat}{C:List Con}{o:Option (List QfSy.Loc)}{x y:Con}(hc:c10 D F h (r+1) i C o):c10 D F h r (i+1) ((chM D F h r (i+1) (C.set i x) o).1.set i y) (chM D F h r (i+1) (C.set i x) o).2:=by
 obtain⟨hc1,hc2,hc3,hc4,hc5,hc6,hc7,hc8⟩:=hc
 have:=Nat.pow_succ 2 r
 have hl:=chM_le D F h r (i+1) (C.set i x) o
 unfold c10
 rw[List.length_set,chM_len,List.length_set]
 exact⟨by omega,hc2,hc3,hc4,hc5,by omega,hc7,hc8⟩
theorem c10_N {D:Int}{F:List Con}{h:List Bool}{r i:Nat}{C:List Con}{o:Option (List QfSy.Loc)}{x y:Con}(hc:c10 D F h (r+1) i C o)(hn:(chM D F h r (i+1) (C.set i x) o).2.isNone=true):c10 D F h r (i+1) ((chM D F h r (i+1) (C.set i x) o).1.set i y) none:=by
 have:=c10_2 (x:=x) (y:=y) hc
 rw[isN hn]at this
 exact this
theorem c10_S {D:Int}{F:List Con}{h:List Bool}{r i:Nat}{C:List Con}{o:Option (List QfSy.Loc)}{x y:Con}(hc:c10 D F h (r+1) i C o)(hn:(chM D F h r (i+1) (C.set i x) o).2.isNone=false):c10 D F h r (i+1) ((chM D F h r (i+1) (C.set i x) o).1.set i y) (some (liL (chM D F h r (i+1) (C.set i x) o).2)):=by
 have:=c10_2 (x:=x) (y:=y) hc
 rw[isSm hn]at this
 exact this
theorem c10_X {D:Int}{F:List Con}{h:List Bool}{r i:Nat}{C:List Con}{X:List QfSy.Loc}{x y:Con}(hc:c10 D F h (r+1) i C (some X)):c10 D F h r (i+1) ((chM D F h r (i+1) (C.set i x) (some X)).1.set i y) (some (liL (chM D F h r (i+1) (C.set i x) (some X)).2)):=by
 have:=c10_2 (x:=x) (y:=y) hc
 rw[chM_some]at this
 exact this
theorem c1_s0 (D:Int)(F:List Con)(h:List Bool)(r i:Nat)(C:List Con)(hc:c10 D F h (r+1) i C none)(ih:∀C o,c10 D F h r (i+1) C o→FnOk Tryd.prog EV.ng (c1A D F h r (i+1) C o)):FnOk Tryd.prog EV.ng (c1A D F h (r+1) i C none):=by
 have hcc:=hc
 obtain⟨hc1,hc2,hc3,hc4,hc5,hc6,hc7,hc8⟩:=hcc
 have hz:((i:Int)==(C.length:Int))=false:=beq_eq_false_iff_ne.2 (by omega)
 have hlen:=chM_len D F h r (i+1) (C.set i (F.getD i z0c)) none
 rw[List.length_set]at hlen
 refine fn_of_run evOk (callF_ok evOk (orcFnM_ok (goC_ok ih goN_ok) (noOrc_ok _ _)) 8) (A:=c1A D F h (r+1) i C none) Tryd.func65 rfl (N:=(Nat.max 5 Tryd.f65.ntmps)) rfl none_ann evNg ?_
 intro d hd
 cases d
 rotate_right
 have hd:((chM D F h (r+1) i C none).2.isNone)=true:=hd
 refine(let y1:List Prop:=[i<h.length,(0:Int)≤↑i∧(↑i:Int)<↑h.length,Dec ((↑i:Int)==↑C.length) false];have u1:allP y1:=⟨?_,?_,hz⟩;oe (h.getD i Rty.flag.zero) (fun d1=>oe ((chM D F h r (i+1) (C.set i (F.getD i z0c)) none).snd.isNone) (fun d2=>oe ((chM D F h r (i+1) ((chM D F h r (i+1) (C.set i (F.getD i z0c)) none).fst.set i (Con.mk (F.getD i z0c).exp (F.getD i z0c).dim (-1:Int) (F.getD i z0c).odd (F.getD i z0c).oddity)) none).snd.isNone) (fun d3=>⟨(tp 2111),(((chM D F h r (i+1) ((chM D F h r (i+1) (C.set i (F.getD i z0c)) none).fst.set i (Con.mk (F.getD i z0c).exp (F.getD i z0c).dim (-1:Int) (F.getD i z0c).odd (F.getD i z0c).oddity)) none).fst.length=(chM D F h (r+1) i C none).fst.length)::((chM D F h r (i+1) ((chM D F h r (i+1) (C.set i (F.getD i z0c)) none).fst.set i (Con.mk (F.getD i z0c).exp (F.getD i z0c).dim (-1:Int) (F.getD i z0c).odd (F.getD i z0c).oddity)) none).fst=(chM D F h (r+1) i C none).fst)::(D=D)::rq h.length::(h=h)::rq (2:Int)::(lq F)::(c10 D F h r (i+1) ((chM D F h r (i+1) (C.set i (F.getD i z0c)) none).fst.set i (Con.mk (F.getD i z0c).exp (F.getD i z0c).dim (-1:Int) (F.getD i z0c).odd (F.getD i z0c).oddity)) none)::(w6.wrap ((↑i:Int)+1)=↑(i+1))::((chM D F h r (i+1) (C.set i (F.getD i z0c)) none).fst.length=((chM D F h r (i+1) (C.set i (F.getD i z0c)) none).fst.set i (Con.mk (F.getD i z0c).exp (F.getD i z0c).dim (-1:Int) (F.getD i z0c).odd (F.getD i z0c).oddity)).length)::rq ((chM D F h r (i+1) (C.set i (F.getD i z0c)) none).fst.set i (Con.mk (F.getD i z0c).exp (F.getD i z0c).dim (-1:Int) (F.getD i z0c).odd (F.getD i z0c).oddity))::(D=D)::rq h.length::(h=h)::rq (2:Int)::(lq F)::ty d3::(i<(chM D F h r (i+1) (C.set i (F.getD i z0c)) none).fst.length)::((0:Int)≤↑i∧(↑i:Int)<(↑(chM D F h r (i+1) (C.set i (F.getD i z0c)) none).fst.length:Int))::(c10 D F h r (i+1) (C.set i (F.getD i z0c)) none)::(w6.wrap ((↑i:Int)+1)=↑(i+1))::(C.length=(C.set i (F.getD i z0c)).length)::rq (C.set i (F.getD i z0c))::(D=D)::rq h.length::(h=h)::rq (2:Int)::(lq F)::ty d2::(i<C.length)::((0:Int)≤↑i∧(↑i:Int)<↑C.length)::((0:Int)≤↑i∧(↑i:Int)<↑F.length)::ty d1::y1),by kernel_rfl,?_⟩)
  (fun d3=>CtG.no ?_))
  (fun d2=>CtG.no ?_))
  (fun d1=>oe ((chM D F h r (i+1) (C.set i (F.getD i z0c)) none).snd.isNone) (fun d2=>⟨(tp 221),(((chM D F h r (i+1) (C.set i (F.getD i z0c)) none).fst.length=(chM D F h (r+1) i C none).fst.length)::((chM D F h r (i+1) (C.set i (F.getD i z0c)) none).fst=(chM D F h (r+1) i C none).fst)::(D=D)::rq h.length::(h=h)::rq (2:Int)::(lq F)::(c10 D F h r (i+1) (C.set i (F.getD i z0c)) none)::(w6.wrap ((↑i:Int)+1)=↑(i+1))::(C.length=(C.set i (F.getD i z0c)).length)::rq (C.set i (F.getD i z0c))::(D=D)::rq h.length::(h=h)::rq (2:Int)::(lq F)::ty d2::(i<C.length)::((0:Int)≤↑i∧(↑i:Int)<↑C.length)::((0:Int)≤↑i∧(↑i:Int)<↑F.length)::ty d1::y1),by kernel_rfl,?_⟩)
  (fun d2=>CtG.no ?_)))
 all_goals with_reducible(repeat' first|assumption|refine alC ?_ ?_|refine al1 ?_|(delta Dec;assumption))
 rotate_right
 have hd:((chM D F h (r+1) i C none).2.isNone)=false:=hd
 refine(let y1:List Prop:=[i<h.length,(0:Int)≤↑i∧(↑i:Int)<↑h.length,Dec ((↑i:Int)==↑C.length) false];have u1:allP y1:=⟨?_,?_,hz⟩;oe (h.getD i Rty.flag.zero) (fun d1=>let y2:List Prop:=(i<C.length)::((0:Int)≤↑i∧(↑i:Int)<↑C.length)::((0:Int)≤↑i∧(↑i:Int)<↑F.length)::ty d1::y1;have u2:allP y2:=⟨?_,?_,?_,d1,u1⟩;oe ((chM D F h r (i+1) (C.set i (F.getD i z0c)) none).snd.isNone) (fun d2=>oe ((chM D F h r (i+1) ((chM D F h r (i+1) (C.set i (F.getD i z0c)) none).fst.set i (Con.mk (F.getD i z0c).exp (F.getD i z0c).dim (-1:Int) (F.getD i z0c).odd (F.getD i z0c).oddity)) none).snd.isNone) (fun d3=>CtG.no ?_)
  (fun d3=>⟨(tp 2112),(let v1:=r+1;((chM D F h r (i+1) ((chM D F h r (i+1) (C.set i (F.getD i z0c)) none).fst.set i (Con.mk (F.getD i z0c).exp (F.getD i z0c).dim (-1:Int) (F.getD i z0c).odd (F.getD i z0c).oddity)) none).fst.length=(chM D F h v1 i C none).fst.length)::((chM D F h r (i+1) ((chM D F h r (i+1) (C.set i (F.getD i z0c)) none).fst.set i (Con.mk (F.getD i z0c).exp (F.getD i z0c).dim (-1:Int) (F.getD i z0c).odd (F.getD i z0c).oddity)) none).fst=(chM D F h v1 i C none).fst)::((liL (chM D F h r (i+1) ((chM D F h r (i+1) (C.set i (F.getD i z0c)) none).fst.set i (Con.mk (F.getD i z0c).exp (F.getD i z0c).dim (-1:Int) (F.getD i z0c).odd (F.getD i z0c).oddity)) none).snd).length=(liL (chM D F h v1 i C none).snd).length)::(D=D)::rq h.length::(h=h)::rq (2:Int)::(lq F)::(liL (chM D F h r (i+1) ((chM D F h r (i+1) (C.set i (F.getD i z0c)) none).fst.set i (Con.mk (F.getD i z0c).exp (F.getD i z0c).dim (-1:Int) (F.getD i z0c).odd (F.getD i z0c).oddity)) none).snd=liL (chM D F h v1 i C none).snd)::(c10 D F h r (i+1) ((chM D F h r (i+1) (C.set i (F.getD i z0c)) none).fst.set i (Con.mk (F.getD i z0c).exp (F.getD i z0c).dim (-1:Int) (F.getD i z0c).odd (F.getD i z0c).oddity)) none)::(w6.wrap ((↑i:Int)+1)=↑(i+1))::((chM D F h r (i+1) (C.set i (F.getD i z0c)) none).fst.length=((chM D F h r (i+1) (C.set i (F.getD i z0c)) none).fst.set i (Con.mk (F.getD i z0c).exp (F.getD i z0c).dim (-1:Int) (F.getD i z0c).odd (F.getD i z0c).oddity)).length)::rq ((chM D F h r (i+1) (C.set i (F.getD i z0c)) none).fst.set i (Con.mk (F.getD i z0c).exp (F.getD i z0c).dim (-1:Int) (F.getD i z0c).odd (F.getD i z0c).oddity))::(D=D)::rq h.length::(h=h)::rq (2:Int)::(lq F)::ty d3::(i<(chM D F h r (i+1) (C.set i (F.getD i z0c)) none).fst.length)::((0:Int)≤↑i∧(↑i:Int)<(↑(chM D F h r (i+1) (C.set i (F.getD i z0c)) none).fst.length:Int))::(c10 D F h r (i+1) (C.set i (F.getD i z0c)) none)::(w6.wrap ((↑i:Int)+1)=↑(i+1))::(C.length=(C.set i (F.getD i z0c)).length)::rq (C.set i (F.getD i z0c))::(D=D)::rq h.length::(h=h)::rq (2:Int)::(lq F)::ty d2::y2),by kernel_rfl,?_⟩))
  (fun d2=>⟨(tp 212),(let v1:=r+1;((chM D F h r (i+1) ((chM D F h r (i+1) (C.set i (F.getD i z0c)) none).fst.set i (Con.mk (F.getD i z0c).exp (F.getD i z0c).dim (-1:Int) (F.getD i z0c).odd (F.getD i z0c).oddity)) (some (liL (chM D F h r (i+1) (C.set i (F.getD i z0c)) none).snd))).fst.length=(chM D F h v1 i C none).fst.length)::((chM D F h r (i+1) ((chM D F h r (i+1) (C.set i (F.getD i z0c)) none).fst.set i (Con.mk (F.getD i z0c).exp (F.getD i z0c).dim (-1:Int) (F.getD i z0c).odd (F.getD i z0c).oddity)) (some (liL (chM D F h r (i+1) (C.set i (F.getD i z0c)) none).snd))).fst=(chM D F h v1 i C none).fst)::((liL (chM D F h r (i+1) ((chM D F h r (i+1) (C.set i (F.getD i z0c)) none).fst.set i (Con.mk (F.getD i z0c).exp (F.getD i z0c).dim (-1:Int) (F.getD i z0c).odd (F.getD i z0c).oddity)) (some (liL (chM D F h r (i+1) (C.set i (F.getD i z0c)) none).snd))).snd).length=(liL (chM D F h v1 i C none).snd).length)::(D=D)::rq h.length::(h=h)::rq (2:Int)::(lq F)::(liL (chM D F h r (i+1) ((chM D F h r (i+1) (C.set i (F.getD i z0c)) none).fst.set i (Con.mk (F.getD i z0c).exp (F.getD i z0c).dim (-1:Int) (F.getD i z0c).odd (F.getD i z0c).oddity)) (some (liL (chM D F h r (i+1) (C.set i (F.getD i z0c)) none).snd))).snd=liL (chM D F h v1 i C none).snd)::(c10 D F h r (i+1) ((chM D F h r (i+1) (C.set i (F.getD i z0c)) none).fst.set i (Con.mk (F.getD i z0c).exp (F.getD i z0c).dim (-1:Int) (F.getD i z0c).odd (F.getD i z0c).oddity)) (some (liL (chM D F h r (i+1) (C.set i (F.getD i z0c)) none).snd)))::(w6.wrap ((↑i:Int)+1)=↑(i+1))::((chM D F h r (i+1) (C.set i (F.getD i z0c)) none).fst.length=((chM D F h r (i+1) (C.set i (F.getD i z0c)) none).fst.set i (Con.mk (F.getD i z0c).exp (F.getD i z0c).dim (-1:Int) (F.getD i z0c).odd (F.getD i z0c).oddity)).length)::rq ((chM D F h r (i+1) (C.set i (F.getD i z0c)) none).fst.set i (Con.mk (F.getD i z0c).exp (F.getD i z0c).dim (-1:Int) (F.getD i z0c).odd (F.getD i z0c).oddity))::rq ((liL (chM D F h r (i+1) (C.set i (F.getD i z0c)) none).snd).length)::(D=D)::rq h.length::(h=h)::rq (2:Int)::(lq F)::rq (liL (chM D F h r (i+1) (C.set i (F.getD i z0c)) none).snd)::(i<(chM D F h r (i+1) (C.set i (F.getD i z0c)) none).fst.length)::((0:Int)≤↑i∧(↑i:Int)<(↑(chM D F h r (i+1) (C.set i (F.getD i z0c)) none).fst.length:Int))::(c10 D F h r (i+1) (C.set i (F.getD i z0c)) none)::(w6.wrap ((↑i:Int)+1)=↑(i+1))::(C.length=(C.set i (F.getD i z0c)).length)::rq (C.set i (F.getD i z0c))::(D=D)::rq h.length::(h=h)::rq (2:Int)::(lq F)::ty d2::y2),by kernel_rfl,?_⟩))
  (fun d1=>oe ((chM D F h r (i+1) (C.set i (F.getD i z0c)) none).snd.isNone) (fun d2=>CtG.no ?_)
  (fun d2=>⟨(tp 222),(let v1:=r+1;((chM D F h r (i+1) (C.set i (F.getD i z0c)) none).fst.length=(chM D F h v1 i C none).fst.length)::((chM D F h r (i+1) (C.set i (F.getD i z0c)) none).fst=(chM D F h v1 i C none).fst)::((liL (chM D F h r (i+1) (C.set i (F.getD i z0c)) none).snd).length=(liL (chM D F h v1 i C none).snd).length)::(D=D)::rq h.length::(h=h)::rq (2:Int)::(lq F)::(liL (chM D F h r (i+1) (C.set i (F.getD i z0c)) none).snd=liL (chM D F h v1 i C none).snd)::(c10 D F h r (i+1) (C.set i (F.getD i z0c)) none)::(w6.wrap ((↑i:Int)+1)=↑(i+1))::(C.length=(C.set i (F.getD i z0c)).length)::rq (C.set i (F.getD i z0c))::(D=D)::rq h.length::(h=h)::rq (2:Int)::(lq F)::ty d2::(i<C.length)::((0:Int)≤↑i∧(↑i:Int)<↑C.length)::((0:Int)≤↑i∧(↑i:Int)<↑F.length)::ty d1::y1),by kernel_rfl,?_⟩)))
 all_goals with_reducible(repeat' first|assumption|refine alC ?_ ?_|refine al1 ?_|(delta Dec;assumption))
 all_goals first|(refine CtG.mk ?_;(first|(rw[ch_f d1]at hd;exact Bool.noConfusion (hd.symm.trans d2))|(rw[ch_t d1,isN d2]at hd;exact Bool.noConfusion (hd.symm.trans d3))|(rw[ch_t d1,isSm d2,chM_some]at hd;exact Bool.noConfusion hd)))|(first|(with_reducible rfl)|exact⟨rfl,rfl⟩|omega|(rw[List.length_set];done)|exact c10_1 hc|exact c10_N hc d2|exact c10_S hc d2|exact c10_X hc|(exact w64 (by omega) (by omega))|(rw[ch_f d1]<;>rfl)|(rw[ch_t d1,isN d2]<;>rfl)|(rw[ch_t d1,isSm d2]<;>rfl)|(rw[ch_t d1,chM_some]<;>rfl))
theorem c1_s1 (D:Int)(F:List Con)(h:List Bool)(r i:Nat)(C:List Con)(X:List QfSy.Loc)(hc:c10 D F h (r+1) i C (some X))(ih:∀C o,c10 D F h r (i+1) C o→FnOk Tryd.prog EV.ng (c1A D F h r (i+1) C o)):FnOk Tryd.prog EV.ng (c1A D F h (r+1) i C (some X)):=by
 have hcc:=hc
 obtain⟨hc1,hc2,hc3,hc4,hc5,hc6,hc7,hc8⟩:=hcc
 have hz:((i:Int)==(C.length:Int))=false:=beq_eq_false_iff_ne.2 (by omega)
 have hlen:=chM_len D F h r (i+1) (C.set i (F.getD i z0c)) (some X)
 rw[List.length_set]at hlen
 have he:=chM_some D F h r (i+1) (C.set i (F.getD i z0c)) X
 refine fn_of_run evOk (callF_ok evOk (orcFnM_ok (goC_ok ih goN_ok) (noOrc_ok _ _)) 8) (A:=c1A D F h (r+1) i C (some X)) Tryd.func65 rfl (N:=(Nat.max 5 Tryd.f65.ntmps)) rfl none_ann evNg ?_
 intro d hd
 cases d
 ·exact Bool.noConfusion (show false=true from hd)
 ·refine(let y1:List Prop:=[i<h.length,(0:Int)≤↑i∧(↑i:Int)<↑h.length,Dec ((↑i:Int)==↑C.length) false];have u1:allP y1:=⟨?_,?_,hz⟩;oe (h.getD i Rty.flag.zero) (fun d1=>⟨[false,true],(let v1:=r+1;((chM D F h r (i+1) ((chM D F h r (i+1) (C.set i (F.getD i z0c)) (some X)).fst.set i (Con.mk (F.getD i z0c).exp (F.getD i z0c).dim (-1:Int) (F.getD i z0c).odd (F.getD i z0c).oddity)) (some (liL (chM D F h r (i+1) (C.set i (F.getD i z0c)) (some X)).snd))).fst.length=(chM D F h v1 i C (some X)).fst.length)::((chM D F h r (i+1) ((chM D F h r (i+1) (C.set i (F.getD i z0c)) (some X)).fst.set i (Con.mk (F.getD i z0c).exp (F.getD i z0c).dim (-1:Int) (F.getD i z0c).odd (F.getD i z0c).oddity)) (some (liL (chM D F h r (i+1) (C.set i (F.getD i z0c)) (some X)).snd))).fst=(chM D F h v1 i C (some X)).fst)::((liL (chM D F h r (i+1) ((chM D F h r (i+1) (C.set i (F.getD i z0c)) (some X)).fst.set i (Con.mk (F.getD i z0c).exp (F.getD i z0c).dim (-1:Int) (F.getD i z0c).odd (F.getD i z0c).oddity)) (some (liL (chM D F h r (i+1) (C.set i (F.getD i z0c)) (some X)).snd))).snd).length=(liL (chM D F h v1 i C (some X)).snd).length)::(D=D)::rq h.length::(h=h)::rq (2:Int)::(lq F)::(liL (chM D F h r (i+1) ((chM D F h r (i+1) (C.set i (F.getD i z0c)) (some X)).fst.set i (Con.mk (F.getD i z0c).exp (F.getD i z0c).dim (-1:Int) (F.getD i z0c).odd (F.getD i z0c).oddity)) (some (liL (chM D F h r (i+1) (C.set i (F.getD i z0c)) (some X)).snd))).snd=liL (chM D F h v1 i C (some X)).snd)::(c10 D F h r (i+1) ((chM D F h r (i+1) (C.set i (F.getD i z0c)) (some X)).fst.set i (Con.mk (F.getD i z0c).exp (F.getD i z0c).dim (-1:Int) (F.getD i z0c).odd (F.getD i z0c).oddity)) (some (liL (chM D F h r (i+1) (C.set i (F.getD i z0c)) (some X)).snd)))::(w6.wrap ((↑i:Int)+1)=↑(i+1))::((chM D F h r (i+1) (C.set i (F.getD i z0c)) (some X)).fst.length=((chM D F h r (i+1) (C.set i (F.getD i z0c)) (some X)).fst.set i (Con.mk (F.getD i z0c).exp (F.getD i z0c).dim (-1:Int) (F.getD i z0c).odd (F.getD i z0c).oddity)).length)::rq ((chM D F h r (i+1) (C.set i (F.getD i z0c)) (some X)).fst.set i (Con.mk (F.getD i z0c).exp (F.getD i z0c).dim (-1:Int) (F.getD i z0c).odd (F.getD i z0c).oddity))::rq ((liL (chM D F h r (i+1) (C.set i (F.getD i z0c)) (some X)).snd).length)::(D=D)::rq h.length::(h=h)::rq (2:Int)::(lq F)::rq (liL (chM D F h r (i+1) (C.set i (F.getD i z0c)) (some X)).snd)::(i<(chM D F h r (i+1) (C.set i (F.getD i z0c)) (some X)).fst.length)::((0:Int)≤↑i∧(↑i:Int)<(↑(chM D F h r (i+1) (C.set i (F.getD i z0c)) (some X)).fst.length:Int))::(c10 D F h r (i+1) (C.set i (F.getD i z0c)) (some X))::(w6.wrap ((↑i:Int)+1)=↑(i+1))::(C.length=(C.set i (F.getD i z0c)).length)::rq (C.set i (F.getD i z0c))::rq X.length::(D=D)::rq h.length::(h=h)::rq (2:Int)::(lq F)::(X=X)::(i<C.length)::((0:Int)≤↑i∧(↑i:Int)<↑C.length)::((0:Int)≤↑i∧(↑i:Int)<↑F.length)::ty d1::y1),by kernel_rfl,?_⟩)
   (fun d1=>⟨[false,false],(let v1:=r+1;((chM D F h r (i+1) (C.set i (F.getD i z0c)) (some X)).fst.length=(chM D F h v1 i C (some X)).fst.length)::((chM D F h r (i+1) (C.set i (F.getD i z0c)) (some X)).fst=(chM D F h v1 i C (some X)).fst)::((liL (chM D F h r (i+1) (C.set i (F.getD i z0c)) (some X)).snd).length=(liL (chM D F h v1 i C (some X)).snd).length)::(D=D)::rq h.length::(h=h)::rq (2:Int)::(lq F)::(liL (chM D F h r (i+1) (C.set i (F.getD i z0c)) (some X)).snd=liL (chM D F h v1 i C (some X)).snd)::(c10 D F h r (i+1) (C.set i (F.getD i z0c)) (some X))::(w6.wrap ((↑i:Int)+1)=↑(i+1))::(C.length=(C.set i (F.getD i z0c)).length)::rq (C.set i (F.getD i z0c))::rq X.length::(D=D)::rq h.length::(h=h)::rq (2:Int)::(lq F)::(X=X)::(i<C.length)::((0:Int)≤↑i∧(↑i:Int)<↑C.length)::((0:Int)≤↑i∧(↑i:Int)<↑F.length)::ty d1::y1),by kernel_rfl,?_⟩))
  all_goals with_reducible(repeat' first|assumption|refine alC ?_ ?_|refine al1 ?_|(delta Dec;assumption))
  all_goals first|(refine CtG.mk ?_;(first|(rw[ch_f d1]at hd;exact Bool.noConfusion (hd.symm.trans d2))|(rw[ch_t d1,isN d2]at hd;exact Bool.noConfusion (hd.symm.trans d3))|(rw[ch_t d1,isSm d2,chM_some]at hd;exact Bool.noConfusion hd)))|(first|(with_reducible rfl)|exact⟨rfl,rfl⟩|omega|(rw[List.length_set];done)|exact c10_1 hc|exact c10_N hc d2|exact c10_S hc d2|exact c10_X hc|(exact w64 (by omega) (by omega))|(rw[ch_f d1]<;>rfl)|(rw[ch_t d1,isN d2]<;>rfl)|(rw[ch_t d1,isSm d2]<;>rfl)|(rw[ch_t d1,he]<;>rfl))
theorem c1_ok (D:Int)(F:List Con)(h:List Bool):∀(r i:Nat)(C:List Con)(o:Option (List QfSy.Loc)),c10 D F h r i C o→FnOk Tryd.prog EV.ng (c1A D F h r i C o)
 |0,i,C,none,hc=>c1_b0 D F h i C hc
 |0,i,C,some X,hc=>c1_b1 D F h i C X hc
 |r+1,i,C,none,hc=>c1_s0 D F h r i C hc (fun C o k=>c1_ok D F h r (i+1) C o k)
 |r+1,i,C,some X,hc=>c1_s1 D F h r i C X hc (fun C o k=>c1_ok D F h r (i+1) C o k)
end Go.Proofs.YtmeljalphfcieaaDoor.S
namespace Go.QfSy
open Go.RowKit
def kindV (v:View):Option Rty:=match v with
 |.con _=>some .con
 |.ints k _=>some (.num k)
 |.vals τ _=>some τ
 |_=>none
def frz1 (h:Tr Blk)(v:AV):Option (AV×Tr Blk×List Prop):=match v with
 |.lo b n=>match h.get b with
  |none=>none
  |some k=>match kindV k.view with
   |none=>none
   |some τ=>match listA h τ (.lo b n)with
    |none=>none
    |some (L,h',ms)=>some ((slV τ L).av,h',ms)
 |v=>some (v,h,[])
def frzL (h:Tr Blk):List AV→Option (List AV×Tr Blk×List Prop)
 |[]=>some ([],h,[])
 |v::l=>match frz1 h v with
  |none=>none
  |some (u,h1,m1)=>match frzL h1 l with
   |none=>none
   |some (us,h2,m2)=>some (u::us,h2,m1++m2)
def frz2 (h:Tr Blk)(v:AV):Option (AV×Tr Blk×List Prop):=match v with
 |.agg vs=>match frzL h vs with
  |none=>none
  |some (us,h',ms)=>some (.agg us,h',ms)
 |v=>frz1 h v
def frzA (h:Tr Blk):List AV→Option (List AV×Tr Blk×List Prop)
 |[]=>some ([],h,[])
 |v::l=>match frz2 h v with
  |none=>none
  |some (u,h1,m1)=>match frzA h1 l with
   |none=>none
   |some (us,h2,m2)=>some (u::us,h2,m1++m2)
theorem frz1_ok {γ:Gm}{h h':Tr Blk}{nx:Nat}{w:World}(hr:HRel γ h.get nx w){v u:AV}{ms:List Prop}(hq:frz1 h v=some (u,h',ms))(hm:∀p∈ms,p):
 ∃γ',FrzOk γ h nx w γ' h'∧∀γ2:Gm,γ'.le γ2→∀V,VRel γ2 v V→VRel γ2 u V:=by
 unfold frz1 at hq
 split at hq
 ·split at hq
  ·cases hq
  ·split at hq
   ·cases hq
   ·split at hq
    ·cases hq
    ·rename_i L h1 m1 hl
     cases hq
     obtain⟨_,γ',h2,h3⟩:=listA_ok hr hl hm
     exact⟨γ',h2,fun γ2 hle V hV=>.ro (h3 γ2 hle V hV)⟩
 ·cases hq
  exact⟨γ,FrzOk.refl hr,fun γ2 _ V hV=>hV⟩
theorem frzL_ok {nx:Nat}{w:World}:∀{vs us:List AV}{γ:Gm}{h h':Tr Blk}{ms:List Prop},HRel γ h.get nx w→frzL h vs=some (us,h',ms)→(∀p∈ms,p)→
 ∃γ',FrzOk γ h nx w γ' h'∧∀γ2:Gm,γ'.le γ2→∀Vs,VsRel γ2 vs Vs→VsRel γ2 us Vs
 |[],us,γ,h,h',ms,hr,hq,hm=>by
  cases hq
  exact⟨γ,FrzOk.refl hr,fun γ2 _ Vs hV=>hV⟩
 |v::l,us,γ,h,h',ms,hr,hq,hm=>by
  simp only[frzL]at hq
  split at hq
  ·cases hq
  ·rename_i u h1 m1 h0
   split at hq
   ·cases hq
   ·rename_i us' h2 m2 hl
    cases hq
    obtain⟨γ1,a1,a2⟩:=frz1_ok hr h0 (fun p hp=>hm p (List.mem_append_left _ hp))
    obtain⟨γ2,b1,b2⟩:=frzL_ok a1.stp.rel hl (fun p hp=>hm p (List.mem_append_right _ hp))
    exact⟨γ2,a1.trans b1,fun γ3 hle Vs hV=>by
     cases hV with|cons hv ht=>
     exact .cons (a2 γ3 (Gm.le_trans b1.stp.le hle) _ hv) (b2 γ3 hle _ ht)⟩
theorem frz2_ok {γ:Gm}{h h':Tr Blk}{nx:Nat}{w:World}(hr:HRel γ h.get nx w){v u:AV}{ms:List Prop}(hq:frz2 h v=some (u,h',ms))(hm:∀p∈ms,p):
 ∃γ',FrzOk γ h nx w γ' h'∧∀γ2:Gm,γ'.le γ2→∀V,VRel γ2 v V→VRel γ2 u V:=by
 unfold frz2 at hq
 split at hq
 ·split at hq
  ·cases hq
  ·rename_i us h1 m1 hl
   cases hq
   obtain⟨γ',a1,a2⟩:=frzL_ok hr hl hm
   exact⟨γ',a1,fun γ2 hle V hV=>by cases hV with|agg hV=>exact .agg (a2 γ2 hle _ hV)⟩
 ·exact frz1_ok hr hq hm
theorem frzA_ok {nx:Nat}{w:World}:∀{vs us:List AV}{γ:Gm}{h h':Tr Blk}{ms:List Prop},HRel γ h.get nx w→frzA h vs=some (us,h',ms)→(∀p∈ms,p)→
 ∃γ',FrzOk γ h nx w γ' h'∧∀γ2:Gm,γ'.le γ2→∀Vs,VsRel γ2 vs Vs→VsRel γ2 us Vs
 |[],us,γ,h,h',ms,hr,hq,hm=>by
  cases hq
  exact⟨γ,FrzOk.refl hr,fun γ2 _ Vs hV=>hV⟩
 |v::l,us,γ,h,h',ms,hr,hq,hm=>by
  simp only[frzA]at hq
  split at hq
  ·cases hq
  ·rename_i u h1 m1 h0
   split at hq
   ·cases hq
   ·rename_i us' h2 m2 hl
    cases hq
    obtain⟨γ1,a1,a2⟩:=frz2_ok hr h0 (fun p hp=>hm p (List.mem_append_left _ hp))
    obtain⟨γ2,b1,b2⟩:=frzA_ok a1.stp.rel hl (fun p hp=>hm p (List.mem_append_right _ hp))
    exact⟨γ2,a1.trans b1,fun γ3 hle Vs hV=>by
     cases hV with|cons hv ht=>
     exact .cons (a2 γ3 (Gm.le_trans b1.stp.le hle) _ hv) (b2 γ3 hle _ ht)⟩
def orcZ (g:Nat)(call:CallF):CallF:=fun f args H=>bif Nat.beq f g then(match frzA H.m args with
 |none=>none
 |some (args',m',ms)=>call f args' ⟨m',H.nx,H.tp,ms++H.ms⟩)else call f args H
theorem orcZ_ok {P:Program}{ng g:Nat}{call:CallF}(hc:CallOk P ng call):CallOk P ng (orcZ g call):=by
 intro f args H v H' hq
 unfold orcZ at hq
 cases hb:Nat.beq f g with
 |false=>rw[hb]at hq;exact hc f args H v H' hq
 |true=>
  rw[hb]at hq
  simp only[cond_true]at hq
  split at hq
  ·cases hq
  ·rename_i args' m' ms hf
   obtain⟨h1,h2⟩:=hc f args' _ v H' hq
   refine⟨fun p hp=>h1 p (List.mem_append_right _ hp),fun hm γ w Args hr hV hg=>?_⟩
   obtain⟨γ',a1,a2⟩:=frzA_ok hr hf (fun p hp=>hm p (h1 p (List.mem_append_left _ hp)))
   have hg':Glob ng γ':=fun b hb=>by
    have:=hg b hb
    show γ'.nm b=_
    rw[a1.nm]
    exact this
   obtain⟨q1,q2⟩:=h2 hm γ' w Args a1.stp.rel (a2 γ' (Gm.le_refl _) Args (hV.mono a1.stp.le)) hg'
   refine⟨q1,q2.mono ?_⟩
   rintro e w' ⟨V,γ2,rfl,k1,k2⟩
   refine⟨V,γ2,rfl,k1,⟨a1.stp.trans k2.stp,k2.nx,fun b hb=>?_⟩⟩
   have h3:=k2.keep b hb
   rw[h3]
   show γ'.nm b=γ.nm b
   rw[a1.nm]
end Go.QfSy
namespace Go.Proofs.YtmeljalphfcieaaDoor.S
open Go.QfSy Go.RowKit
def heT (L:List Con)(j:AV):List (Nat×AV):=[(1,.ptr 1000 0),(17,(roR .i64 (chainsM L)).av),(18,.vint .i64 (chainsM L).length),(19,j)]
def heI (L:List Con)(j:Nat)(k:AV):List (Nat×AV):=heT L (.vint .i64 (j:Int))++[(24,dI (rowAt (chainsM L) j)),(25,.vint .i64 (((rowAt (chainsM L) j).length-1:Nat):Int)),(26,k)]
def heIn (p:Int)(L:List Con)(j:Nat):Ann:=⟨⟨heI L j (.int .i64 0),fiH p L,1020⟩,some (sgR L ((rowAt (chainsM L) j).drop 1)),fun d=>match d with
 |true=>(.exit 2,⟨heT L (.vint .i64 (j:Int)),fiH p L,1020⟩)
 |false=>(.ret,⟨[(2,.bool false)],fiH p L,1020⟩)⟩
theorem he_in (p:Int)(L:List Con)(j:Nat)(hr:inR L.length (rowAt (chainsM L) j))(hn:(rowAt (chainsM L) j).length≤1000):AnnOk Tryd.prog EV.ng (Nat.max 1 Tryd.f52.ntmps) (bodyAt Tryd.f52 [0,1,1,0,0,1,1,0,0,1,0,1,1,1]) (heIn p L j):=by
 refine ann_of evOk (callF_ok evOk (noOrc_ok _ _) 8) none_ann (by kernel_rfl) (by kernel_rfl) (fun i:Nat=>(fun(k:Nat)=>(⟨heI L j (.vint .i64 (k:Int)),fiH p L,1020⟩:St)) i) (fun i:Nat=>(fun(k:Nat)=>((rowAt (chainsM L) j).length-k:Nat)) i) (fun(d:Bool)(i:Nat)=>(fun(k:Nat)=>(k≤(rowAt (chainsM L) j).length-1∧sgR L ((rowAt (chainsM L) j).drop (k+1))=sgR L ((rowAt (chainsM L) j).drop 1)∧sgR L ((rowAt (chainsM L) j).drop 1)=d:Prop)) i) ?_ ?_
 ·intro d hd
  exact⟨(0),(let t1:=rowAt (chainsM L) j;[(chainsM L).length=(chainsM L).length∧(fun i=>[rI IntKind.i64 ((chainsM L).getD i [])])=fun i=>[rI IntKind.i64 ((chainsM L).getD i [])],rq (↑(chainsM L).length:Int),rq (↑j:Int),t1.length-1=t1.length-1∧(fun i=>[RV.int IntKind.i64 (t1.getD (i+1) (0:Int))])=fun i=>[RV.int IntKind.i64 (t1.getD (i+1) (0:Int))],rq (↑(t1.length-1):Int),(0:Int)=↑(0:Nat),p=p,lq L]),by kernel_rfl,(by refine⟨?_,?_,?_,?_,?_,?_,?_,(?_:lq L)⟩<;>(first|rfl|exact⟨rfl,rfl⟩|assumption|omega|simp_all)),(by exact⟨Nat.zero_le _,rfl,hd⟩)⟩
 ·rintro d hd k hI
  obtain⟨ht,hf,hs⟩:=hI
  have ht:k≤(rowAt (chainsM L) j).length-1:=ht
  have hf:sgR L ((rowAt (chainsM L) j).drop (k+1))=sgR L ((rowAt (chainsM L) j).drop 1):=hf
  have ek:w6.wrap ((k:Int)+1)=((k+1:Nat):Int):=by rw[w64 (by omega) (by omega)];omega
  refine(let q1:List Prop→List Prop:=fun l0=>((chainsM L).length=(chainsM L).length∧(fun i=>[rI IntKind.i64 ((chainsM L).getD i [])])=fun i=>[rI IntKind.i64 ((chainsM L).getD i [])])::rq (↑(chainsM L).length:Int)::rq (↑j:Int)::l0;oe (decide ((↑k:Int)<(↑((rowAt (chainsM L) j).length-1):Int))) (fun d1=>let y1:List Prop:=(let v1:=rowAt (chainsM L) j;[(0:Int)≤v1.getD (k+1) (0:Int)∧v1.getD (k+1) (0:Int)<↑L.length,(0:Int)≤↑k∧(↑k:Int)<↑(v1.length-1),ty d1]);have u1:allP y1:=⟨?_,?_,d1⟩;oe ((L.getD ((rowAt (chainsM L) j).getD (k+1) (0:Int)).toNat Con.zero).sign==-1) (fun d2=>?e1)
   (fun d2=>lfI [true,false] (k+1) (q1 (let v1:=rowAt (chainsM L) j;(v1.length-1=v1.length-1∧(fun i=>[RV.int IntKind.i64 (v1.getD (i+1) (0:Int))])=fun i=>[RV.int IntKind.i64 (v1.getD (i+1) (0:Int))])::rq (↑(v1.length-1):Int)::(w6.wrap ((↑k:Int)+1)=↑(k+1))::(p=p)::(lq L)::ty d2::y1)) (by kernel_rfl) ⟨?_,?_,?_,?_,?_,?_,?_,?_,d2,u1⟩ ?_ ?_))
   (fun d1=>?e2))
  case' e1=>
   cases d
   rotate_right
   refine CtG.no ?_
   rotate_right
   refine lfR [true,true] ((p=p)::(lq L)::ty d2::y1) (by kernel_rfl) ⟨?_,?_,d2,u1⟩ rfl
  case' e2=>
   cases d
   rotate_right
   refine lfR [false] (q1 [p=p,lq L,ty d1]) (by kernel_rfl) ⟨?_,?_,?_,?_,?_,d1⟩ rfl
   rotate_right
   refine CtG.no ?_
  all_goals((try clear u1);(try clear y1))
  all_goals first|(refine MuG.mk ?_;(simp only[decide_eq_true_eq]at d1;show(rowAt (chainsM L) j).length-(k+1)<(rowAt (chainsM L) j).length-k;omega))|(refine InG.mk ?_;(simp only[ek,decide_eq_true_eq]at*;exact⟨by omega,by rw[←hf,sgR_1 (by omega) d2],hs⟩))|(refine CtG.mk ?_;(simp only[decide_eq_true_eq,decide_eq_false_iff_not]at*;first|(rw[←hf,sgR_3 (by omega)]at hs;cases hs;done)|(rw[←hf,sgR_2 (by omega) d2]at hs;cases hs;done)))|(first|(with_reducible rfl)|exact⟨rfl,rfl⟩|decide|((try simp only[ek,Int.toNat_natCast,decide_eq_true_eq,decide_eq_false_iff_not]at*)<;>first|omega|(rw[←hf,sgR_3 (by omega)];done)|(rw[←hf,sgR_2 (by omega) d2];done)|(have h2:=hr.at (t:=k+1) (by omega);omega)))
def heOut (p:Int)(L:List Con):Ann:=⟨⟨heT L (.int .i64 0),fiH p L,1020⟩,some (fstM L (chainsM L)),fun d=>match d with
 |true=>(.exit 0,⟨[(1,.ptr 1000 0)],fiH p L,1020⟩)
 |false=>(.ret,⟨[(2,.bool false)],fiH p L,1020⟩)⟩
theorem he_out (p:Int)(L:List Con)(hL:okL L):AnnOk Tryd.prog EV.ng (Nat.max 1 Tryd.f52.ntmps) (bodyAt Tryd.f52 [0,1,0,1,1,1]) (heOut p L):=by
 refine ann_ofI evOk (callF_ok evOk (noOrc_ok _ _) 8) (by kernel_rfl) (by kernel_rfl) (fun i:Nat=>(fun(j:Nat)=>(⟨heT L (.vint .i64 (j:Int)),fiH p L,1020⟩:St)) i) (fun i:Nat=>(fun(j:Nat)=>((chainsM L).length-j:Nat)) i) (fun(d:Bool)(i:Nat)=>(fun(j:Nat)=>(j≤(chainsM L).length∧fstM L ((chainsM L).drop j)=fstM L (chainsM L)∧fstM L (chainsM L)=d:Prop)) i) (fun i:Nat=>(fun(j:Nat)=>([([0,1,1,0,0,1,1,0,0,1,0,1,1,1],heIn p L j)]:List (List Nat×Ann))) i) ?_ ?_ ?_
 ·rintro d hd j hI
  have hr:inR L.length (rowAt (chainsM L) j)∧(rowAt (chainsM L) j).length≤1000:=by
   have:=hL.1
   rcases Nat.lt_or_ge j (chainsM L).length with h|h
   ·have h1:=chains_rows _ (rowAt_mem h)
    exact⟨h1.2.1,by omega⟩
   ·have e:rowAt (chainsM L) j=[]:=by simp[rowAt,h]
    rw[e];exact⟨fun x hx=>by simp at hx,by simp⟩
  exact one_ann (he_in p L j hr.1 hr.2)
 ·intro d hd
  exact⟨(0),[(chainsM L).length=(chainsM L).length∧(fun i=>[rI IntKind.i64 ((chainsM L).getD i [])])=fun i=>[rI IntKind.i64 ((chainsM L).getD i [])],rq (↑(chainsM L).length:Int),(0:Int)=↑(0:Nat),p=p,lq L],by kernel_rfl,(by refine⟨?_,?_,?_,?_,(?_:lq L)⟩<;>(first|rfl|exact⟨rfl,rfl⟩|assumption|omega|simp_all)),(by exact⟨Nat.zero_le _,rfl,hd⟩)⟩
 ·rintro d hd j hI
  obtain⟨ht,hf,hs⟩:=hI
  have ht:j≤(chainsM L).length:=ht
  have hf:fstM L ((chainsM L).drop j)=fstM L (chainsM L):=hf
  have hl:=hL.1
  have hc:=chains_len (L:=L)
  have ek:w6.wrap ((j:Int)+1)=((j+1:Nat):Int):=by rw[w64 (by omega) (by omega)];omega
  refine oe (decide ((↑j:Int)<(↑(chainsM L).length:Int))) (fun d1=>let y1:List Prop:=[(0:Int)≤1∧(1:Int)≤(↑((chainsM L).getD j []).length:Int),(0:Int)≤↑j∧(↑j:Int)<(↑(chainsM L).length:Int),ty d1];have u1:allP y1:=⟨?_,?_,d1⟩;oe (sgR L (List.drop (1:Nat) (rowAt (chainsM L) j))) (fun d2=>lfI [true,true] (j+1) (let v1:=(chainsM L).getD j [];let v2:=rowAt (chainsM L) j;let v3:=(↑(chainsM L).length:Int);((chainsM L).length=(chainsM L).length∧(fun i=>[rI IntKind.i64 ((chainsM L).getD i [])])=fun i=>[rI IntKind.i64 ((chainsM L).getD i [])])::rq v3::(w6.wrap ((↑j:Int)+1)=↑(j+1))::(p=p)::(lq L)::((chainsM L).length=(chainsM L).length∧(fun i=>[rI IntKind.i64 ((chainsM L).getD i [])])=fun i=>[rI IntKind.i64 ((chainsM L).getD i [])])::rq v3::rq (↑j:Int)::(v1.length-Int.toNat (1:Int)=v2.length-1∧(fun i=>(fun j_1=>[RV.int IntKind.i64 (v1.getD j_1 (0:Int))]) (i+Int.toNat (1:Int)))=fun i=>[RV.int IntKind.i64 (v2.getD (i+1) (0:Int))])::((↑(v1.length-Int.toNat (1:Int)):Int)=↑(v2.length-1))::(p=p)::(lq L)::ty d2::y1) (by kernel_rfl) ⟨?_,?_,?_,?_,?_,?_,?_,?_,?_,?_,?_,?_,d2,u1⟩ ?_ ?_)
   (fun d2=>?e3))
   (fun d1=>?e4)
  case' e3=>
   cases d
   rotate_right
   refine CtG.no ?_
   rotate_right
   refine lfR [true,false] (let v1:=(chainsM L).getD j [];let v2:=rowAt (chainsM L) j;(p=p)::(lq L)::((chainsM L).length=(chainsM L).length∧(fun i=>[rI IntKind.i64 ((chainsM L).getD i [])])=fun i=>[rI IntKind.i64 ((chainsM L).getD i [])])::rq (↑(chainsM L).length:Int)::rq (↑j:Int)::(v1.length-Int.toNat (1:Int)=v2.length-1∧(fun i=>(fun j_1=>[RV.int IntKind.i64 (v1.getD j_1 (0:Int))]) (i+Int.toNat (1:Int)))=fun i=>[RV.int IntKind.i64 (v2.getD (i+1) (0:Int))])::((↑(v1.length-Int.toNat (1:Int)):Int)=↑(v2.length-1))::(p=p)::(lq L)::ty d2::y1) (by kernel_rfl) ⟨?_,?_,?_,?_,?_,?_,?_,?_,?_,d2,u1⟩ rfl
  case' e4=>
   cases d
   rotate_right
   refine lfR [false] [p=p,lq L,ty d1] (by kernel_rfl) ⟨?_,?_,d1⟩ rfl
   rotate_right
   refine CtG.no ?_
  all_goals((try clear u1);(try clear y1))
  all_goals first|(refine MuG.mk ?_;(simp only[decide_eq_true_eq]at d1;show(chainsM L).length-(j+1)<(chainsM L).length-j;omega))|(refine InG.mk ?_;(simp only[decide_eq_true_eq]at d1;exact⟨by omega,by rw[←hf];exact(fst_1 (by omega) d2).symm,hs⟩))|(refine CtG.mk ?_;(simp only[decide_eq_true_eq,decide_eq_false_iff_not]at d1;first|(rw[←hf,fst_3 (by omega)]at hs;cases hs;done)|(rw[←hf,fst_2 (by omega) d2]at hs;cases hs;done)))|(first|(with_reducible rfl)|exact⟨rfl,rfl⟩|decide|((try simp only[ek,Int.toNat_natCast,Int.toNat_zero,decide_eq_true_eq,decide_eq_false_iff_not]at*)<;>first|omega|(rw[←hf,fst_3 (by omega)];done)|(rw[←hf,fst_2 (by omega) d2];done)|(have h0:=chains_rows _ (rowAt_mem (P:=chainsM L) (t:=j) (by omega));have h1:0<(rowAt (chainsM L) j).length:=List.length_pos_iff.2 h0.1;have h2:0<((chainsM L).getD j []).length:=h1;first|omega|rfl)))
def hdM (p:Int)(L:List Con):Bool:=fusM p L&&fstM L (chainsM L)
def entsHe:List OEnt:=[
 ⟨49,[],fun A=>match A with
  |[.agg [.int .i64 p,.sl n 5 row]]=>some (.bool (fusM p (consR n row)),[(∀i,i<n→row i=(Con.ofR (row i)).rvs)∧n≤1000])
  |_=>none⟩,
 ⟨34,[],fun A=>match A with
  |[.agg [.int .i64 p,.sl n 5 row]]=>some (.tup [roR .i64 (chainsM (consR n row)),.bool true],[(∀i,i<n→row i=(Con.ofR (row i)).rvs)∧okL (consR n row)∧0<n∧shV p (consR n row)=true])
  |_=>none⟩]
theorem entsHe_ok:∀e∈entsHe,EntOk Tryd.prog e:=by
 intro e he
 simp only[entsHe,List.mem_cons,List.not_mem_nil,or_false]at he
 rcases he with rfl|rfl
 all_goals
  intro A R ms h hm
  simp only at h
  split at h
  all_goals first|(cases h;done)|cases h
 ·obtain⟨h1,h2⟩:=all_one hm
  exact PureC.imp (tfused_pure _ _ (by rw[consR_len];exact h2)) (.cons (.agg (.cons .same (.cons (.con h1) .nil))) .nil)
 ·obtain⟨h1,h2,h3,h4⟩:=all_one hm
  exact PureC.imp (ttrn_yes _ _ h2 (by rw[consR_len];exact h3) h4) (.cons (.agg (.cons .same (.cons (.con h1) .nil))) .nil)
theorem he_yes (p:Int)(L:List Con)(hL:okL L)(hne:0<L.length)(hf:fusM p L=true):PureC Tryd.prog [] 52 [.agg [.int .i64 p,roC L]] (.bool (fstM L (chainsM L))):=by
 have hl:=hL.1;have k1:fusM p (consR L.length fun i=>(L.getD i Con.zero).rvs)=true:=(by rw[consR_ro];exact hf)
 have k2:shV p L=true:=(by unfold shV;rw[hf,Bool.or_true])
 have rr:=fun(tp:List Bool)(ms:List Prop)h hm=>pure_run evOk (callF_ok evOk (orcOf_ok entsHe_ok) 8) Tryd.func52 (A:=[.agg [.int .i64 p,roC L]]) (N:=Nat.max 1 Tryd.f52.ntmps) rfl (one_ann (he_out p L hL)) rfl rfl evNg (tabs:=[]) (R:=.bool (fstM L (chainsM L))) (tp:=tp) (ms:=ms) h hm
 refine(let y1:List Prop:=(let v1:=consR L.length fun i=>(L.getD i Con.zero).rvs;[(lz L)∧okL v1∧(0:Nat)<L.length∧shV p v1=true,Dec (!fusM p v1) false,(lz L)∧L.length≤1000]);have u1:allP y1:=⟨?_,(dN k1),(?_:(lz L)∧L.length≤1000)⟩;oe (fstM L (chainsM L)) (fun d1=>rr [false,true] (let v1:=consR L.length fun i=>(L.getD i Con.zero).rvs;(true=fstM L (chainsM L))::((chainsM v1).length=(chainsM L).length∧(fun i=>[rI IntKind.i64 ((chainsM v1).getD i [])])=fun i=>[rI IntKind.i64 ((chainsM L).getD i [])])::((↑(chainsM v1).length:Int)=(↑(chainsM L).length:Int))::(p=p)::(lq L)::ty d1::y1) (by kernel_rfl) ⟨?_,?_,?_,?_,?_,d1,u1⟩)
  (fun d1=>rr [false,false] (let v1:=consR L.length fun i=>(L.getD i Con.zero).rvs;(false=fstM L (chainsM L))::((chainsM v1).length=(chainsM L).length∧(fun i=>[rI IntKind.i64 ((chainsM v1).getD i [])])=fun i=>[rI IntKind.i64 ((chainsM L).getD i [])])::((↑(chainsM v1).length:Int)=(↑(chainsM L).length:Int))::(p=p)::(lq L)::ty d1::y1) (by kernel_rfl) ⟨?_,?_,?_,?_,?_,d1,u1⟩))
 all_goals first|(first|(with_reducible rfl)|exact d1.symm|exact⟨rfl,rfl⟩|exact⟨fun _ _=>rfl,hl⟩|exact⟨fun _ _=>rfl,by rw[consR_ro];exact hL,hne,by rw[consR_ro];exact k2⟩|(rw[d1];rfl)|(rw[consR_ro];exact⟨rfl,rfl⟩)|(rw[consR_ro];done))
theorem he_no (p:Int)(L:List Con)(hn:L.length≤1000)(hf:fusM p L=false):PureC Tryd.prog [] 52 [.agg [.int .i64 p,roC L]] (.bool false):=by
 have k1:fusM p (consR L.length fun i=>(L.getD i Con.zero).rvs)=false:=(by rw[consR_ro];exact hf)
 have rr:=fun(tp:List Bool)(ms:List Prop)h hm=>pure_run evOk (callF_ok evOk (orcOf_ok entsHe_ok) 8) Tryd.func52 (A:=[.agg [.int .i64 p,roC L]]) rfl none_ann rfl rfl evNg (tabs:=[]) (R:=.bool false) (tp:=tp) (ms:=ms) h hm
 refine rr [true] [false=false,Dec (!fusM p (consR L.length fun i=>(L.getD i Con.zero).rvs)) true,(lz L)∧L.length≤1000] (by kernel_rfl) ⟨?_,(dN k1),(?_:(lz L)∧L.length≤1000)⟩
 all_goals first|(first|rfl|exact⟨rfl,rfl⟩|exact⟨fun _ _=>rfl,hn⟩)
theorem headed_pure (p:Int)(L:List Con)(hn:L.length≤1000):PureC Tryd.prog [] 52 [.agg [.int .i64 p,roC L]] (.bool (hdM p L)):=by
 unfold hdM
 cases h:fusM p L with
 |false=>exact he_no p L hn h
 |true=>
  have:=fus_p h
  subst this
  exact he_yes 2 L (fus_okL h) (fus_parts h).2.1 h
def hdS (rows:List (List Int))(h:List Bool):List Bool:=rows.foldl (fun h r=>h.set (r.getD 0 0).toNat true) h
def hdsM (F:List Con):List Bool:=hdS (chainsM F) (List.replicate F.length false)
def lcM (D:Int)(F:List Con)(o:Option (List QfSy.Loc)):Option (List QfSy.Loc):=(chM D F (hdsM F) F.length 0 F o).2
def lcH (D:Int)(o:Option (List QfSy.Loc))(b:Nat):List (Nat×Blk):=[(1000,plB [liA b o] 27),(1001,plB [.vint .i64 D] 2)]++liB b o
def lcA (D:Int)(F:List Con)(o:Option (List QfSy.Loc)):FnA:=⟨33,[.agg [.vint .i64 2,(roC F).av],.ptr 1000 0,.ptr 1001 0],lcH D o 1010,1100,(match o with
 |none=>some (lcM D F none).isNone
 |some _=>none),fun t=>match o,t with
 |none,true=>(.tup [],lcH D none 1150,1900)
 |none,false=>(.tup [],lcH D (some (liL (lcM D F none))) 1150,1900)
 |some X,_=>(.tup [],lcH D (some (liL (lcM D F (some X)))) 1150,1900)⟩
def entsTr:List OEnt:=[
 ⟨34,[],fun A=>match A with
  |[.agg [.int .i64 p,.sl n 5 row]]=>some (.tup [roR .i64 (chainsM (consR n row)),.bool true],[(∀i,i<n→row i=(Con.ofR (row i)).rvs)∧okL (consR n row)∧0<n∧shV p (consR n row)=true])
  |_=>none⟩]
def hdK (F:List Con)(k:Nat):List Bool:=hdS ((chainsM F).take k) (List.replicate F.length false)
def hdH (D:Int)(F:List Con)(o:Option (List QfSy.Loc))(h:List Bool):List (Nat×Blk):=lcH D o 1010++[(1100,plB [.vint .i64 2,(roC F).av] 46),(1101,⟨.vals .flag h,4,1,true,true⟩),(1102,plB [.lo 1101 h.length] 73)]
def hdSt (D:Int)(F:List Con)(o:Option (List QfSy.Loc))(k:AV)(h:List Bool):St:=⟨[(1,.ptr 1000 0),(2,.ptr 1001 0),(3,.ptr 1100 0),(6,.ptr 1102 0),(19,(roR .i64 (chainsM F)).av),(20,.vint .i64 ((chainsM F).length:Int)),(21,k)],hdH D F o h,1103⟩
def hdA (D:Int)(F:List Con)(o:Option (List QfSy.Loc)):Ann:=⟨hdSt D F o (.int .i64 0) (List.replicate F.length false),none,fun _=>(.exit 0,⟨[(1,.ptr 1000 0),(2,.ptr 1001 0),(3,.ptr 1100 0),(6,.ptr 1102 0)],hdH D F o (hdsM F),1103⟩)⟩
theorem hdS_len:∀(rows:List (List Int))(h:List Bool),(hdS rows h).length=h.length
 |[],h=>rfl
 |r::rows,h=>by
  show(hdS rows (h.set _ true)).length=_
  rw[hdS_len rows,List.length_set]
theorem hdK_len (F:List Con)(k:Nat):(hdK F k).length=F.length:=by unfold hdK;rw[hdS_len,List.length_replicate]
theorem hdsM_len (F:List Con):(hdsM F).length=F.length:=by unfold hdsM;rw[hdS_len,List.length_replicate]
theorem hdK_s {F:List Con}{k:Nat}(hk:k<(chainsM F).length):(hdK F k).set (((chainsM F).getD k []).getD (Int.toNat 0) 0).toNat true=hdK F (k+1):=by
 unfold hdK hdS
 rw[List.take_succ_eq_append_getElem hk,List.foldl_append]
 have e:(chainsM F).getD k []=(chainsM F)[k]:=by rw[List.getD_eq_getElem?_getD,List.getElem?_eq_getElem hk];rfl
 rw[e]
 rfl
theorem hdK_e {F:List Con}{k:Nat}(hk:k=(chainsM F).length):hdK F k=hdsM F:=by
 unfold hdK hdsM
 rw[hk,List.take_length]
theorem row0 {F:List Con}{k:Nat}(hk:k<(chainsM F).length):0<((chainsM F).getD k []).length∧0≤((chainsM F).getD k []).getD 0 0∧((chainsM F).getD k []).getD 0 0<(F.length:Int):=by
 obtain⟨h1,h2,h3⟩:=chains_rows _ (rowAt_mem (P:=chainsM F) (t:=k) hk)
 have h0:0<(rowAt (chainsM F) k).length:=List.length_pos_iff.2 h1
 exact⟨h0,h2.at h0⟩
theorem hd_0 (D:Int)(F:List Con)(hL:okL F):AnnOk Tryd.prog EV.ng (Nat.max 3 Tryd.f33.ntmps) (bodyAt Tryd.f33 [0,1,0,1,1,1]) (hdA D F none):=by
 refine ann_of evOk (callF_ok evOk (noOrc_ok _ _) 8) none_ann (by kernel_rfl) (by kernel_rfl) (fun i:Nat=>(fun(k:Nat)=>(hdSt D F none (.vint .i64 (k:Int)) (hdK F k):St)) i) (fun i:Nat=>(fun(k:Nat)=>((chainsM F).length-k:Nat)) i) (fun(d:Bool)(i:Nat)=>(fun(k:Nat)=>(k≤(chainsM F).length:Prop)) i) ?_ ?_
 ·intro d hd
  exact⟨(0),[(chainsM F).length=(chainsM F).length∧(fun i=>[rI IntKind.i64 ((chainsM F).getD i [])])=fun i=>[rI IntKind.i64 ((chainsM F).getD i [])],rq (↑(chainsM F).length:Int),(0:Int)=↑(0:Nat),D=D,rq (2:Int),lq F,List.replicate F.length false=hdK F (0:Nat),(List.replicate F.length false).length=(hdK F (0:Nat)).length],by kernel_rfl,(by refine⟨?_,?_,?_,?_,?_,?_,?_,(?_:(List.replicate F.length false).length=(hdK F (0:Nat)).length)⟩<;>(first|(with_reducible rfl)|exact⟨rfl,rfl⟩|rfl|(rw[hdK_len,List.length_replicate]))),(by exact Nat.zero_le _)⟩
 ·rintro d hd k hI
  cases d
  ·exact Bool.noConfusion (show false=true from hd)
  ·have ht:k≤(chainsM F).length:=hI
   have hl:=hL.1
   have hc:=chains_len (L:=F)
   have ek:w6.wrap ((k:Int)+1)=((k+1:Nat):Int):=by rw[w64 (by omega) (by omega)];omega
   refine oe (decide ((↑k:Int)<(↑(chainsM F).length:Int))) (fun d1=>lfI [true] (k+1) (let v1:=(chainsM F).getD k [];let v2:=Int.toNat (0:Int);let v3:=(↑(chainsM F).length:Int);[(chainsM F).length=(chainsM F).length∧(fun i=>[rI IntKind.i64 ((chainsM F).getD i [])])=fun i=>[rI IntKind.i64 ((chainsM F).getD i [])],rq v3,w6.wrap ((↑k:Int)+1)=↑(k+1),D=D,rq (2:Int),lq F,(hdK F k).set (v1.getD v2 (0:Int)).toNat true=hdK F (k+1),(hdK F k).length=(hdK F (k+1)).length,(v1.getD v2 (0:Int)).toNat<(hdK F k).length,(0:Int)≤v1.getD v2 (0:Int)∧v1.getD v2 (0:Int)<(↑(hdK F k).length:Int),(0:Int)≤0∧(0:Int)<↑v1.length,(0:Int)≤↑k∧(↑k:Int)<v3,ty d1]) (by kernel_rfl) ⟨?_,?_,?_,?_,?_,?_,?_,?_,?_,?_,?_,?_,d1⟩ ?_ ?_)
    (fun d1=>lfR [false] [D=D,rq (2:Int),lq F,hdK F k=hdsM F,(hdK F k).length=(hdsM F).length,ty d1] (by kernel_rfl) ⟨?_,?_,?_,?_,?_,d1⟩ rfl)
   all_goals first|(refine MuG.mk ?_;(have hk:=of_decide_eq_true d1;show(chainsM F).length-(k+1)<(chainsM F).length-k;omega))|(refine InG.mk ?_;(have hk:=of_decide_eq_true d1;show k+1≤(chainsM F).length;omega))|(refine CtG.mk ?_;(simp_all))|(first|(with_reducible rfl)|exact⟨rfl,rfl⟩|exact ek|(have hk:k<(chainsM F).length:=(by have:=of_decide_eq_true d1;omega);obtain⟨r1,r2,r3⟩:=row0 hk;first|exact hdK_s hk|omega|(rw[hdK_len,hdK_len];done)|(rw[hdK_len];exact(Int.toNat_lt r2).2 r3)|(rw[hdK_len];exact⟨r2,r3⟩))|(have hk:k=(chainsM F).length:=(by have:=of_decide_eq_false d1;omega);first|exact hdK_e hk|(rw[hdK_e hk];done)))
theorem hd_1 (D:Int)(F:List Con)(X:List QfSy.Loc)(hL:okL F):AnnOk Tryd.prog EV.ng (Nat.max 3 Tryd.f33.ntmps) (bodyAt Tryd.f33 [0,1,0,1,1,1]) (hdA D F (some X)):=by
 refine ann_of evOk (callF_ok evOk (noOrc_ok _ _) 8) none_ann (by kernel_rfl) (by kernel_rfl) (fun i:Nat=>(fun(k:Nat)=>(hdSt D F (some X) (.vint .i64 (k:Int)) (hdK F k):St)) i) (fun i:Nat=>(fun(k:Nat)=>((chainsM F).length-k:Nat)) i) (fun(d:Bool)(i:Nat)=>(fun(k:Nat)=>(k≤(chainsM F).length:Prop)) i) ?_ ?_
 ·intro d hd
  exact⟨(0),[(chainsM F).length=(chainsM F).length∧(fun i=>[rI IntKind.i64 ((chainsM F).getD i [])])=fun i=>[rI IntKind.i64 ((chainsM F).getD i [])],rq (↑(chainsM F).length:Int),(0:Int)=↑(0:Nat),rq X.length,D=D,X=X,rq (2:Int),lq F,List.replicate F.length false=hdK F (0:Nat),(List.replicate F.length false).length=(hdK F (0:Nat)).length],by kernel_rfl,(by refine⟨?_,?_,?_,?_,?_,?_,?_,?_,?_,(?_:(List.replicate F.length false).length=(hdK F (0:Nat)).length)⟩<;>(first|(with_reducible rfl)|exact⟨rfl,rfl⟩|rfl|(rw[hdK_len,List.length_replicate]))),(by exact Nat.zero_le _)⟩
 ·rintro d hd k hI
  cases d
  ·exact Bool.noConfusion (show false=true from hd)
  ·have ht:k≤(chainsM F).length:=hI
   have hl:=hL.1
   have hc:=chains_len (L:=F)
   have ek:w6.wrap ((k:Int)+1)=((k+1:Nat):Int):=by rw[w64 (by omega) (by omega)];omega
   refine oe (decide ((↑k:Int)<(↑(chainsM F).length:Int))) (fun d1=>lfI [true] (k+1) (let v1:=(chainsM F).getD k [];let v2:=Int.toNat (0:Int);let v3:=(↑(chainsM F).length:Int);[(chainsM F).length=(chainsM F).length∧(fun i=>[rI IntKind.i64 ((chainsM F).getD i [])])=fun i=>[rI IntKind.i64 ((chainsM F).getD i [])],rq v3,w6.wrap ((↑k:Int)+1)=↑(k+1),rq X.length,D=D,X=X,rq (2:Int),lq F,(hdK F k).set (v1.getD v2 (0:Int)).toNat true=hdK F (k+1),(hdK F k).length=(hdK F (k+1)).length,(v1.getD v2 (0:Int)).toNat<(hdK F k).length,(0:Int)≤v1.getD v2 (0:Int)∧v1.getD v2 (0:Int)<(↑(hdK F k).length:Int),(0:Int)≤0∧(0:Int)<↑v1.length,(0:Int)≤↑k∧(↑k:Int)<v3,ty d1]) (by kernel_rfl) ⟨?_,?_,?_,?_,?_,?_,?_,?_,?_,?_,?_,?_,?_,?_,d1⟩ ?_ ?_)
    (fun d1=>lfR [false] [rq X.length,D=D,X=X,rq (2:Int),lq F,hdK F k=hdsM F,(hdK F k).length=(hdsM F).length,ty d1] (by kernel_rfl) ⟨?_,?_,?_,?_,?_,?_,?_,d1⟩ rfl)
   all_goals first|(refine MuG.mk ?_;(have hk:=of_decide_eq_true d1;show(chainsM F).length-(k+1)<(chainsM F).length-k;omega))|(refine InG.mk ?_;(have hk:=of_decide_eq_true d1;show k+1≤(chainsM F).length;omega))|(refine CtG.mk ?_;(simp_all))|(first|(with_reducible rfl)|exact⟨rfl,rfl⟩|exact ek|(have hk:k<(chainsM F).length:=(by have:=of_decide_eq_true d1;omega);obtain⟨r1,r2,r3⟩:=row0 hk;first|exact hdK_s hk|omega|(rw[hdK_len,hdK_len];done)|(rw[hdK_len];exact(Int.toNat_lt r2).2 r3)|(rw[hdK_len];exact⟨r2,r3⟩))|(have hk:k=(chainsM F).length:=(by have:=of_decide_eq_false d1;omega);first|exact hdK_e hk|(rw[hdK_e hk];done)))
def c11 (D:Int)(F:List Con)(o:Option (List QfSy.Loc)):Prop:=fusM 2 F=true∧0<F.length∧F.length≤10∧(liL o).length+2^F.length≤100000∧0<D∧D≤2147483647
theorem c11_10 {D:Int}{F:List Con}{o:Option (List QfSy.Loc)}(h:c11 D F o):c10 D F (hdsM F) F.length 0 F o:=by
 obtain⟨h1,h2,h3,h4,h5,h6⟩:=h
 exact⟨by omega,rfl,hdsM_len F,h2,h3,h4,h5,h6⟩
def go11 (D:Int)(F:List Con):Nat→List AV→Hs→Option (FnA×List Prop):=fun f args H=>bif Nat.beq f 65 then(match args with
 |[_,_,.ptr b1 _,_,_]=>match vOf H.m b1 with
  |some (.fn _ [.ptr bl _,_])=>match oVar H.m bl with
   |none=>none
   |some o=>some (c1A D F (hdsM F) F.length 0 F o,[c10 D F (hdsM F) F.length 0 F o])
  |_=>none
 |_=>none)else none
theorem go11_ok (D:Int)(F:List Con):∀f args H A ms,go11 D F f args H=some (A,ms)→(∀q∈ms,q)→FnOk Tryd.prog EV.ng A:=by
 intro f args H A ms hq hm
 unfold go11 at hq
 replace hq:=(bif_some hq).2
 split at hq
 ·split at hq
  ·split at hq
   ·cases hq
   ·cases hq
    exact c1_ok D F _ _ _ _ _ (all_one hm)
  ·cases hq
 ·cases hq
theorem lc_0 (D:Int)(F:List Con)(hc:c11 D F none):FnOk Tryd.prog EV.ng (lcA D F none):=by
 have hcc:=hc
 obtain⟨hf,h0,hl,ho,hd1,hd2⟩:=hcc
 have hb:F.length.beq 0=false:=(by cases hq:F.length.beq 0 with
  |false=>rfl
  |true=>have:=Nat.eq_of_beq_eq_true hq;omega)
 have hL:=fus_okL hf
 have k2:shV 2 F=true:=(by unfold shV;rw[hf,Bool.or_true])
 refine fn_of_run evOk (callF_ok evOk (orcFnM_ok (go11_ok D F) (orcOf_ok entsHe_ok)) 8) (A:=lcA D F none) Tryd.func33 rfl (N:=(Nat.max 3 Tryd.f33.ntmps)) rfl (one_ann (hd_0 D F hL)) evNg ?_
 intro d hd
 cases d
 rotate_right
 have hd:((lcM D F none).isNone)=true:=hd
 refine oe ((chM D F (hdsM F) F.length (0:Nat) F none).snd.isNone) (fun d1=>⟨[false,true],(let v1:=consR F.length fun i=>(F.getD i z0c).rvs;let v2:=(↑F.length:Int);[D=D,c10 D F (hdsM F) F.length (0:Nat) F none,(0:Int)=↑(0:Nat),rq F.length,v1=F,D=D,rq ((hdsM F).length),rq (hdsM F),rq (2:Int),lq F,ty d1,(0:Nat)<F.length∧F.length≤1000000,lz F,Dec (F.length.beq (0:Nat)) false,(0:Nat)<F.length,(chainsM v1).length=(chainsM F).length∧(fun i=>[rI IntKind.i64 ((chainsM v1).getD i [])])=fun i=>[rI IntKind.i64 ((chainsM F).getD i [])],(↑(chainsM v1).length:Int)=(↑(chainsM F).length:Int),D=D,rq (2:Int),lq F,List.replicate F.length Rty.flag.zero=List.replicate F.length false,F.length=(List.replicate F.length false).length,(0:Int)≤v2∧v2≤1000000∧v2=v2,(lz F)∧okL v1∧(0:Nat)<F.length∧shV (2:Int) v1=true]),by kernel_rfl,⟨?_,?_,?_,?_,?_,?_,?_,?_,?_,?_,d1,?_,?_,hb,?_,?_,?_,?_,?_,?_,?_,?_,?_,(?_:(lz F)∧okL (consR F.length fun i=>(F.getD i z0c).rvs)∧(0:Nat)<F.length∧shV (2:Int) (consR F.length fun i=>(F.getD i z0c).rvs)=true)⟩⟩)
  (fun d1=>CtG.no ?_)
 rotate_right
 have hd:((lcM D F none).isNone)=false:=hd
 refine oe ((chM D F (hdsM F) F.length (0:Nat) F none).snd.isNone) (fun d1=>CtG.no ?_)
  (fun d1=>⟨[false,false],(let v1:=consR F.length fun i=>(F.getD i z0c).rvs;let v2:=(↑F.length:Int);let v3:=chM D F (hdsM F) F.length (0:Nat) F none;[(liL v3.snd).length=(liL (lcM D F none)).length,D=D,liL v3.snd=liL (lcM D F none),c10 D F (hdsM F) F.length (0:Nat) F none,(0:Int)=↑(0:Nat),rq F.length,v1=F,D=D,rq ((hdsM F).length),rq (hdsM F),rq (2:Int),lq F,ty d1,(0:Nat)<F.length∧F.length≤1000000,lz F,Dec (F.length.beq (0:Nat)) false,(0:Nat)<F.length,(chainsM v1).length=(chainsM F).length∧(fun i=>[rI IntKind.i64 ((chainsM v1).getD i [])])=fun i=>[rI IntKind.i64 ((chainsM F).getD i [])],(↑(chainsM v1).length:Int)=(↑(chainsM F).length:Int),D=D,rq (2:Int),lq F,List.replicate F.length Rty.flag.zero=List.replicate F.length false,F.length=(List.replicate F.length false).length,(0:Int)≤v2∧v2≤1000000∧v2=v2,(lz F)∧okL v1∧(0:Nat)<F.length∧shV (2:Int) v1=true]),by kernel_rfl,⟨?_,?_,?_,?_,?_,?_,?_,?_,?_,?_,?_,?_,d1,?_,?_,hb,?_,?_,?_,?_,?_,?_,?_,?_,?_,(?_:(lz F)∧okL (consR F.length fun i=>(F.getD i z0c).rvs)∧(0:Nat)<F.length∧shV (2:Int) (consR F.length fun i=>(F.getD i z0c).rvs)=true)⟩⟩)
 all_goals first|(refine CtG.mk ?_;(first|(have hd:(chM D F (hdsM F) F.length 0 F none).2.isNone=_:=hd;exact Bool.noConfusion (hd.symm.trans d1))))|(first|(with_reducible rfl)|exact⟨rfl,rfl⟩|exact c11_10 hc|rfl|exact consR_ro F|(rw[consR_ro];first|done|rfl|exact⟨rfl,rfl⟩)|(rw[consR_ro];done)|exact⟨fun _ _=>rfl,by rw[consR_ro];exact hL,h0,by rw[consR_ro];exact k2⟩|(rw[List.length_replicate];done)|omega|exact fun _ _=>rfl)
theorem lc_1 (D:Int)(F:List Con)(X:List QfSy.Loc)(hc:c11 D F (some X)):FnOk Tryd.prog EV.ng (lcA D F (some X)):=by
 have hcc:=hc
 obtain⟨hf,h0,hl,ho,hd1,hd2⟩:=hcc
 have hb:F.length.beq 0=false:=(by cases hq:F.length.beq 0 with
  |false=>rfl
  |true=>have:=Nat.eq_of_beq_eq_true hq;omega)
 have hL:=fus_okL hf
 have k2:shV 2 F=true:=(by unfold shV;rw[hf,Bool.or_true])
 refine fn_of_run evOk (callF_ok evOk (orcFnM_ok (go11_ok D F) (orcOf_ok entsHe_ok)) 8) (A:=lcA D F (some X)) Tryd.func33 rfl (N:=(Nat.max 3 Tryd.f33.ntmps)) rfl (one_ann (hd_1 D F X hL)) evNg ?_
 intro d hd
 cases d
 ·exact Bool.noConfusion (show false=true from hd)
 ·refine⟨[false],(let y1:=consR F.length fun i=>(F.getD i z0c).rvs;let y2:=(↑F.length:Int);let y3:=chM D F (hdsM F) F.length (0:Nat) F (some X);[(liL y3.snd).length=(liL (lcM D F (some X))).length,D=D,liL y3.snd=liL (lcM D F (some X)),c10 D F (hdsM F) F.length (0:Nat) F (some X),(0:Int)=↑(0:Nat),rq F.length,y1=F,rq X.length,D=D,rq ((hdsM F).length),rq (hdsM F),rq (2:Int),lq F,X=X,(0:Nat)<F.length∧F.length≤1000000,lz F,Dec (F.length.beq (0:Nat)) false,(0:Nat)<F.length,(chainsM y1).length=(chainsM F).length∧(fun i=>[rI IntKind.i64 ((chainsM y1).getD i [])])=fun i=>[rI IntKind.i64 ((chainsM F).getD i [])],(↑(chainsM y1).length:Int)=(↑(chainsM F).length:Int),rq X.length,D=D,X=X,rq (2:Int),lq F,List.replicate F.length Rty.flag.zero=List.replicate F.length false,F.length=(List.replicate F.length false).length,(0:Int)≤y2∧y2≤1000000∧y2=y2,(lz F)∧okL y1∧(0:Nat)<F.length∧shV (2:Int) y1=true]),by kernel_rfl,⟨?_,?_,?_,?_,?_,?_,?_,?_,?_,?_,?_,?_,?_,?_,?_,?_,hb,?_,?_,?_,?_,?_,?_,?_,?_,?_,?_,?_,(?_:(lz F)∧okL (consR F.length fun i=>(F.getD i z0c).rvs)∧(0:Nat)<F.length∧shV (2:Int) (consR F.length fun i=>(F.getD i z0c).rvs)=true)⟩⟩
  all_goals first|(refine CtG.mk ?_;(first|(have hd:(chM D F (hdsM F) F.length 0 F none).2.isNone=_:=hd;exact Bool.noConfusion (hd.symm.trans d1))))|(first|(with_reducible rfl)|exact⟨rfl,rfl⟩|exact c11_10 hc|rfl|exact consR_ro F|(rw[consR_ro];first|done|rfl|exact⟨rfl,rfl⟩)|(rw[consR_ro];done)|exact⟨fun _ _=>rfl,by rw[consR_ro];exact hL,h0,by rw[consR_ro];exact k2⟩|(rw[List.length_replicate];done)|omega|exact fun _ _=>rfl)
theorem lc_ok (D:Int)(F:List Con):∀o:Option (List QfSy.Loc),c11 D F o→FnOk Tryd.prog EV.ng (lcA D F o)
 |none,h=>lc_0 D F h
 |some X,h=>lc_1 D F X h
def oddC (c:Con)(t:Int):Con:=⟨c.exp,c.dim,c.sign,true,t⟩
def parM (c:Con):List Con:=(bif decide (c.dim%2=0)then [c]else [])++[oddC c 0,oddC c 1,oddC c 2,oddC c 3,oddC c 4,oddC c 5,oddC c 6,oddC c 7]
theorem par_t {c:Con}(h0:0≤c.dim)(h:(c.dim.tmod 2==0)=true):parM c=[c,oddC c 0,oddC c 1,oddC c 2,oddC c 3,oddC c 4,oddC c 5,oddC c 6,oddC c 7]:=by
 have:=eq_of_beq h
 rw[Int.tmod_eq_emod_of_nonneg h0]at this
 unfold parM
 rw[show decide (c.dim%2=0)=true from decide_eq_true this]
 rfl
theorem par_f {c:Con}(h0:0≤c.dim)(h:(c.dim.tmod 2==0)=false):parM c=[oddC c 0,oddC c 1,oddC c 2,oddC c 3,oddC c 4,oddC c 5,oddC c 6,oddC c 7]:=by
 have:=beq_eq_false_iff_ne.1 h
 rw[Int.tmod_eq_emod_of_nonneg h0]at this
 unfold parM
 rw[show decide (c.dim%2=0)=false from decide_eq_false this]
 rfl
theorem par_len (c:Con):(parM c).length≤9:=by
 unfold parM
 cases decide (c.dim%2=0)<;>simp
theorem wk0:w6.wrap ((0:Int)+1)=1:=by decide
theorem wk1:w6.wrap ((1:Int)+1)=2:=by decide
theorem wk2:w6.wrap ((2:Int)+1)=3:=by decide
theorem wk3:w6.wrap ((3:Int)+1)=4:=by decide
theorem wk4:w6.wrap ((4:Int)+1)=5:=by decide
theorem wk5:w6.wrap ((5:Int)+1)=6:=by decide
theorem wk6:w6.wrap ((6:Int)+1)=7:=by decide
theorem wk7:w6.wrap ((7:Int)+1)=8:=by decide
theorem par_a (c:Con)(h0:0≤c.dim):PureC Tryd.prog [] 64 [.agg c.rvs] (roC (parM c)):=by
 have rr:=fun(tp:List Bool)(ms:List Prop)h hm=>pure_run evOk (callF_ok evOk (noOrc_ok _ _) 8) Tryd.func64 (A:=[.agg c.rvs]) rfl none_ann rfl rfl evNg (tabs:=[]) (R:=roC (parM c)) (tp:=tp) (ms:=ms) h hm
 refine oe (c.dim.tmod (2:Int)==0) (fun d1=>rr [true] (let v1:=w6.wrap (w6.wrap ((0:Int)+1)+1)+1;let v7:=[Con.mk c.exp c.dim c.sign true (w6.wrap v1)];let v6:=[Con.mk c.exp c.dim c.sign true (w6.wrap (w6.wrap v1+1))];let v5:=[Con.mk c.exp c.dim c.sign true (0:Int)];let v3:=[Con.mk c.exp c.dim c.sign true (w6.wrap (w6.wrap ((0:Int)+1)+1))];let v8:=w6.wrap (w6.wrap v1+1)+1;let v10:=[Con.mk c.exp c.dim c.sign true (w6.wrap v8)];let v4:=[Con.mk c.exp c.dim c.sign true (w6.wrap ((0:Int)+1))];let v2:=[c]++v5++v4++v3++v7++v6++v10++[Con.mk c.exp c.dim c.sign true (w6.wrap (w6.wrap v8+1))]++[Con.mk c.exp c.dim c.sign true (w6.wrap (w6.wrap (w6.wrap v8+1)+1))];let v9:=(1000000:Nat);[(1:Nat)+1+1+1+1+1+1+1+1=(parM c).length∧(1:Nat)+1+1+1+1+1+1+1+1=v2.length∧∀(i:Nat),i<1+1+1+1+1+1+1+1+1→(fun i=>((parM c).getD i z0c).rvs) i=(v2.getD i z0c).rvs,(View.con ([c]++v5++v4++v3++v7++v6++v10++[Con.mk c.exp c.dim c.sign true (w6.wrap (w6.wrap v8+1))])).num=1+1+1+1+1+1+1+1∧(1:Nat)+1+1+1+1+1+1+1+1≤v9,(View.con ([c]++v5++v4++v3++v7++v6++v10)).num=1+1+1+1+1+1+1∧(1:Nat)+1+1+1+1+1+1+1≤v9,(View.con ([c]++v5++v4++v3++v7++v6)).num=1+1+1+1+1+1∧(1:Nat)+1+1+1+1+1+1≤v9,(View.con ([c]++v5++v4++v3++v7)).num=1+1+1+1+1∧(1:Nat)+1+1+1+1+1≤v9,(View.con ([c]++v5++v4++v3)).num=1+1+1+1∧(1:Nat)+1+1+1+1≤v9,(View.con ([c]++v5++v4)).num=1+1+1∧(1:Nat)+1+1+1≤v9,(View.con ([c]++v5)).num=1+1∧(1:Nat)+1+1≤v9,(View.con [c]).num=1∧(1:Nat)+1≤v9,(0:Nat)<1∧(1:Nat)≤v9,ty d1,(2:Int)≠(0:Int)]) (by kernel_rfl) ⟨?_,?_,?_,?_,?_,?_,?_,?_,?_,?_,d1,(?_:(2:Int)≠(0:Int))⟩)
  (fun d1=>rr [false] (let v1:=w6.wrap (w6.wrap ((0:Int)+1)+1)+1;let v7:=[Con.mk c.exp c.dim c.sign true (w6.wrap v1)];let v6:=[Con.mk c.exp c.dim c.sign true (w6.wrap (w6.wrap v1+1))];let v5:=[Con.mk c.exp c.dim c.sign true (0:Int)];let v3:=[Con.mk c.exp c.dim c.sign true (w6.wrap (w6.wrap ((0:Int)+1)+1))];let v8:=w6.wrap (w6.wrap v1+1)+1;let v10:=[Con.mk c.exp c.dim c.sign true (w6.wrap v8)];let v4:=[Con.mk c.exp c.dim c.sign true (w6.wrap ((0:Int)+1))];let v2:=v5++v4++v3++v7++v6++v10++[Con.mk c.exp c.dim c.sign true (w6.wrap (w6.wrap v8+1))]++[Con.mk c.exp c.dim c.sign true (w6.wrap (w6.wrap (w6.wrap v8+1)+1))];let v9:=(1000000:Nat);[(1:Nat)+1+1+1+1+1+1+1=(parM c).length∧(1:Nat)+1+1+1+1+1+1+1=v2.length∧∀(i:Nat),i<1+1+1+1+1+1+1+1→(fun i=>((parM c).getD i z0c).rvs) i=(v2.getD i z0c).rvs,(View.con (v5++v4++v3++v7++v6++v10++[Con.mk c.exp c.dim c.sign true (w6.wrap (w6.wrap v8+1))])).num=1+1+1+1+1+1+1∧(1:Nat)+1+1+1+1+1+1+1≤v9,(View.con (v5++v4++v3++v7++v6++v10)).num=1+1+1+1+1+1∧(1:Nat)+1+1+1+1+1+1≤v9,(View.con (v5++v4++v3++v7++v6)).num=1+1+1+1+1∧(1:Nat)+1+1+1+1+1≤v9,(View.con (v5++v4++v3++v7)).num=1+1+1+1∧(1:Nat)+1+1+1+1≤v9,(View.con (v5++v4++v3)).num=1+1+1∧(1:Nat)+1+1+1≤v9,(View.con (v5++v4)).num=1+1∧(1:Nat)+1+1≤v9,(View.con v5).num=1∧(1:Nat)+1≤v9,(0:Nat)<1∧(1:Nat)≤v9,ty d1,(2:Int)≠(0:Int)]) (by kernel_rfl) ⟨?_,?_,?_,?_,?_,?_,?_,?_,?_,d1,(?_:(2:Int)≠(0:Int))⟩)
 all_goals first|(first|(with_reducible rfl)|decide|exact⟨rfl,by decide⟩|(rw[par_t h0 d1];simp only[wk0,wk1,wk2,wk3,wk4,wk5,wk6,wk7];first|exact⟨rfl,rfl⟩|exact⟨rfl,rfl,fun _ _=>rfl⟩|rfl)|(rw[par_f h0 d1];simp only[wk0,wk1,wk2,wk3,wk4,wk5,wk6,wk7];first|exact⟨rfl,rfl⟩|exact⟨rfl,rfl,fun _ _=>rfl⟩|rfl))
def behM (C:List Con)(i:Nat)(c:Con):Bool:=c.odd&&(!decide (c.oddity=0)&&(decide (0<i)&&((at_ C (i-1)).odd&&decide (w6.wrap ((at_ C (i-1)).exp+1)=c.exp))))
def lf2 (D:Int)(C:List Con)(o:Option (List QfSy.Loc)):Option (List QfSy.Loc):=bif fusM 2 C then lcM D C o else o
def fzM (D:Int)(S:List Con):Nat→Nat→List Con×Option (List QfSy.Loc)→List Con×Option (List QfSy.Loc)
 |0,_=>fun s=>(s.1,lf2 D s.1 s.2)
 |r+1,i=>fun s=>(parM (at_ S i)).foldl (fun s c=>bif behM s.1 i c then s else fzM D S r (i+1) (s.1.set i c,s.2)) s
def fzP (D:Int)(S:List Con)(r i:Nat)(s:List Con×Option (List QfSy.Loc))(c:Con):List Con×Option (List QfSy.Loc):=bif behM s.1 i c then s else fzM D S r (i+1) (s.1.set i c,s.2)
def fzK (D:Int)(S:List Con)(r i:Nat)(s:List Con×Option (List QfSy.Loc))(k:Nat):List Con×Option (List QfSy.Loc):=((parM (at_ S i)).take k).foldl (fzP D S r i) s
def fzH (D:Int)(S C:List Con)(o:Option (List QfSy.Loc))(b:Nat):List (Nat×Blk):=[(1000,plB [.lo 1001 C.length] 44),(1001,conB C),(1002,plB [.fn 33 [.ptr 1005 0,.ptr 1006 0]] 80),(1003,plB [.lo 1007 S.length] 44),(1004,plB [.fn 63 [.ptr 1000 0,.ptr 1002 0,.ptr 1003 0,.ptr 1004 0]] 42),(1005,plB [liA b o] 27),(1006,plB [.vint .i64 D] 2),(1007,conB S)]++liB b o
def fzA (D:Int)(S:List Con)(r i:Nat)(C:List Con)(o:Option (List QfSy.Loc)):FnA:=⟨63,[.vint .i64 (i:Int),.ptr 1000 0,.ptr 1002 0,.ptr 1003 0,.ptr 1004 0],fzH D S C o 1010,1100,(match o with
 |none=>some (fzM D S r i (C,none)).2.isNone
 |some _=>none),fun t=>match o,t with
 |none,true=>(.tup [],fzH D S (fzM D S r i (C,none)).1 none 1150,1900)
 |none,false=>(.tup [],fzH D S (fzM D S r i (C,none)).1 (some (liL (fzM D S r i (C,none)).2)) 1150,1900)
 |some X,_=>(.tup [],fzH D S (fzM D S r i (C,some X)).1 (some (liL (fzM D S r i (C,some X)).2)) 1150,1900)⟩
def c12 (D:Int)(S:List Con)(r i:Nat)(C:List Con)(o:Option (List QfSy.Loc)):Prop:=i+r=C.length∧S.length=C.length∧0<C.length∧C.length≤10∧(liL (fzM D S r i (C,o)).2).length≤50000∧(0<D∧D≤2147483647)∧okL S∧∀c∈S,c.oddity=0
def entsPa:List OEnt:=[
 ⟨64,[],fun A=>match A with
  |[.agg [.int .i64 a,.int .i64 b,.int .i64 c,.bool d,.int .i64 e]]=>some (roC (parM ⟨a,b,c,d,e⟩),[0≤b])
  |_=>none⟩,
 ⟨49,[],fun A=>match A with
  |[.agg [.int .i64 p,.sl n 5 row]]=>some (.bool (fusM p (consR n row)),[(∀i,i<n→row i=(Con.ofR (row i)).rvs)∧n≤1000])
  |_=>none⟩]
theorem entsPa_ok:∀e∈entsPa,EntOk Tryd.prog e:=by
 intro e he
 simp only[entsPa,List.mem_cons,List.not_mem_nil,or_false]at he
 rcases he with rfl|rfl
 all_goals
  intro A R ms h hm
  simp only at h
  split at h
  all_goals first|(cases h;done)|cases h
 ·exact par_a ⟨_,_,_,_,_⟩ (all_one hm)
 ·obtain⟨h1,h2⟩:=all_one hm
  exact PureC.imp (tfused_pure _ _ (by rw[consR_len];exact h2)) (.cons (.agg (.cons .same (.cons (.con h1) .nil))) .nil)
def goL (D:Int)(C:List Con):Nat→List AV→Hs→Option (FnA×List Prop):=fun f args H=>bif Nat.beq f 33 then(match args with
 |[_,.ptr bl _,_]=>match oVar H.m bl with
  |none=>none
  |some o=>some (lcA D C o,[c11 D C o])
 |_=>none)else none
theorem goL_ok (D:Int)(C:List Con):∀f args H A ms,goL D C f args H=some (A,ms)→(∀q∈ms,q)→FnOk Tryd.prog EV.ng A:=by
 intro f args H A ms hq hm
 unfold goL at hq
 replace hq:=(bif_some hq).2
 split at hq
 ·split at hq
  ·cases hq
  ·cases hq
   exact lc_ok D C _ (all_one hm)
 ·cases hq
theorem lfM_ge (D:Int)(C:List Con)(o:Option (List QfSy.Loc)):(liL o).length≤(liL (lfM D C o)).length:=by
 unfold lfM
 cases icM 2 C&&keM D 2 C<;>simp[liL]
theorem chM_ge (D:Int)(F:List Con)(h:List Bool):∀(r i:Nat)(C:List Con)(o:Option (List QfSy.Loc)),(liL o).length≤(liL (chM D F h r i C o).2).length
 |0,i,C,o=>lfM_ge D C o
 |r+1,i,C,o=>by
  unfold chM
  have h1:=chM_ge D F h r (i+1) (C.set i (F.getD i z0c)) o
  cases h.getD i false with
  |true=>
   rw[cond_true]
   have h3:=chM_ge D F h r (i+1) ((chM D F h r (i+1) (C.set i (F.getD i z0c)) o).1.set i (negC (F.getD i z0c))) (chM D F h r (i+1) (C.set i (F.getD i z0c)) o).2
   omega
  |false=>
   rw[cond_false]
   exact h1
theorem lf2_t {D:Int}{C:List Con}{o:Option (List QfSy.Loc)}(h:fusM 2 C=true):lf2 D C o=lcM D C o:=by unfold lf2;rw[h];rfl
theorem lf2_f {D:Int}{C:List Con}{o:Option (List QfSy.Loc)}(h:fusM 2 C=false):lf2 D C o=o:=by unfold lf2;rw[h];rfl
theorem lf2_ge (D:Int)(C:List Con)(o:Option (List QfSy.Loc)):(liL o).length≤(liL (lf2 D C o)).length:=by
 unfold lf2
 cases fusM 2 C with
 |true=>exact chM_ge _ _ _ _ _ _ _
 |false=>exact Nat.le_refl _
theorem c12_11 {D:Int}{S:List Con}{i:Nat}{C:List Con}{o:Option (List QfSy.Loc)}(h:c12 D S 0 i C o)(hf:fusM 2 C=true):c11 D C o:=by
 obtain⟨h1,h2,h3,h4,h5,h6,h7⟩:=h
 have hg:=lf2_ge D C o
 have h5:(liL (lf2 D C o)).length≤50000:=h5
 have hp:2^C.length≤2^10:=Nat.pow_le_pow_right (by omega) h4
 exact⟨hf,h3,h4,by omega,h6⟩
theorem fz_b0 (D:Int)(S:List Con)(i:Nat)(C:List Con)(hc:c12 D S 0 i C none):FnOk Tryd.prog EV.ng (fzA D S 0 i C none):=by
 have hcc:=hc
 obtain⟨hc1,hc2,hc3,hc4,hc5,hc6,hc7⟩:=hcc
 have hz:((i:Int)==(C.length:Int))=true:=by rw[show i=C.length by omega];exact beq_self_eq_true _
 have hb:C.length.beq 0=false:=(by cases hq:C.length.beq 0 with
  |false=>rfl
  |true=>have:=Nat.eq_of_beq_eq_true hq;omega)
 refine fn_of_run evOk (callF_ok evOk (orcZ_ok (g:=33) (orcFnM_ok (goL_ok D C) (orcOf_ok entsPa_ok))) 8) (A:=fzA D S 0 i C none) Tryd.func63 rfl (N:=(Nat.max 5 Tryd.f63.ntmps)) rfl none_ann evNg ?_
 intro d hd
 cases d
 rotate_right
 have hd:((fzM D S 0 i (C,none)).2.isNone)=true:=hd
 refine(let y1:List Prop:=[rq C.length,(lz C)∧C.length≤1000,Dec ((↑i:Int)==↑C.length) true];have u1:allP y1:=⟨?_,?_,hz⟩;oe (fusM (2:Int) (consR C.length fun i=>(C.getD i z0c).rvs)) (fun d1=>oe ((lcM D C none).isNone) (fun d2=>⟨(tp 111),((C.length=(fzM D S (0:Nat) i (C,none)).fst.length)::(C=(fzM D S (0:Nat) i (C,none)).fst)::rq S.length::(D=D)::(S=S)::(c11 D C none)::rq (2:Int)::(C.length=C.length∧(fun i=>Rty.con.rvs (C.getD i Rty.con.zero))=fun i=>(C.getD i z0c).rvs)::(D=D)::ty d2::rq C.length::((0:Nat)<C.length∧C.length≤1000000)::rq C.length::ty d1::y1),by kernel_rfl,⟨?_,?_,?_,?_,?_,?_,?_,?_,?_,d2,?_,?_,?_,d1,u1⟩⟩)
  (fun d2=>CtG.no ?_))
  (fun d1=>⟨[true,false],(let v1:=(fzM D S (0:Nat) i (C,none));(C.length=v1.fst.length)::(C=v1.fst)::rq S.length::(D=D)::(S=S)::ty d1::y1),by kernel_rfl,⟨?_,?_,?_,?_,?_,d1,u1⟩⟩))
 rotate_right
 have hd:((fzM D S 0 i (C,none)).2.isNone)=false:=hd
 refine oe (fusM (2:Int) (consR C.length fun i=>(C.getD i z0c).rvs)) (fun d1=>oe ((lcM D C none).isNone) (fun d2=>CtG.no ?_)
  (fun d2=>⟨(tp 112),[C.length=(fzM D S (0:Nat) i (C,none)).fst.length,C=(fzM D S (0:Nat) i (C,none)).fst,rq S.length,(liL (lcM D C none)).length=(liL (fzM D S (0:Nat) i (C,none)).snd).length,D=D,S=S,liL (lcM D C none)=liL (fzM D S (0:Nat) i (C,none)).snd,c11 D C none,rq (2:Int),C.length=C.length∧(fun i=>Rty.con.rvs (C.getD i Rty.con.zero))=fun i=>(C.getD i z0c).rvs,D=D,ty d2,rq C.length,(0:Nat)<C.length∧C.length≤1000000,rq C.length,ty d1,rq C.length,(lz C)∧C.length≤1000,Dec ((↑i:Int)==↑C.length) true],by kernel_rfl,⟨?_,?_,?_,?_,?_,?_,?_,?_,?_,?_,?_,d2,?_,?_,?_,d1,?_,?_,hz⟩⟩))
  (fun d1=>CtG.no ?_)
 all_goals first|(refine CtG.mk ?_;(first|(have e1:=d1;rw[consR_ro]at e1;have hd:(lf2 D C none).isNone=_:=hd;first|(rw[lf2_t e1]at hd;exact Bool.noConfusion (hd.symm.trans d2))|(rw[lf2_f e1]at hd;cases hd))))|(first|(with_reducible rfl)|exact⟨rfl,rfl⟩|rfl|(have e1:=d1;rw[consR_ro]at e1;first|exact c12_11 hc e1|(show _=(liL (lf2 D C none)).length;rw[lf2_t e1];done)|(show _=liL (lf2 D C none);rw[lf2_t e1];done)|(show _=(liL (lf2 D C none)).length;rw[lf2_f e1]<;>rfl)|(show _=liL (lf2 D C none);rw[lf2_f e1]<;>rfl))|exact⟨hc3,by omega⟩|exact⟨fun _ _=>rfl,by omega⟩)
theorem fz_b1 (D:Int)(S:List Con)(i:Nat)(C:List Con)(X:List QfSy.Loc)(hc:c12 D S 0 i C (some X)):FnOk Tryd.prog EV.ng (fzA D S 0 i C (some X)):=by
 have hcc:=hc
 obtain⟨hc1,hc2,hc3,hc4,hc5,hc6,hc7⟩:=hcc
 have hz:((i:Int)==(C.length:Int))=true:=by rw[show i=C.length by omega];exact beq_self_eq_true _
 have hb:C.length.beq 0=false:=(by cases hq:C.length.beq 0 with
  |false=>rfl
  |true=>have:=Nat.eq_of_beq_eq_true hq;omega)
 refine fn_of_run evOk (callF_ok evOk (orcZ_ok (g:=33) (orcFnM_ok (goL_ok D C) (orcOf_ok entsPa_ok))) 8) (A:=fzA D S 0 i C (some X)) Tryd.func63 rfl (N:=(Nat.max 5 Tryd.f63.ntmps)) rfl none_ann evNg ?_
 intro d hd
 cases d
 ·exact Bool.noConfusion (show false=true from hd)
 ·refine(let y1:List Prop:=[rq C.length,(lz C)∧C.length≤1000,Dec ((↑i:Int)==↑C.length) true];have u1:allP y1:=⟨?_,?_,hz⟩;oe (fusM (2:Int) (consR C.length fun i=>(C.getD i z0c).rvs)) (fun d1=>⟨[true,true],((C.length=(fzM D S (0:Nat) i (C,some X)).fst.length)::(C=(fzM D S (0:Nat) i (C,some X)).fst)::rq S.length::((liL (lcM D C (some X))).length=(liL (fzM D S (0:Nat) i (C,some X)).snd).length)::(D=D)::(S=S)::(liL (lcM D C (some X))=liL (fzM D S (0:Nat) i (C,some X)).snd)::(c11 D C (some X))::rq (2:Int)::(C.length=C.length∧(fun i=>Rty.con.rvs (C.getD i Rty.con.zero))=fun i=>(C.getD i z0c).rvs)::rq X.length::(D=D)::(X=X)::rq C.length::((0:Nat)<C.length∧C.length≤1000000)::rq C.length::ty d1::y1),by kernel_rfl,⟨?_,?_,?_,?_,?_,?_,?_,?_,?_,?_,?_,?_,?_,?_,?_,?_,d1,u1⟩⟩)
   (fun d1=>⟨[true,false],(let v1:=(fzM D S (0:Nat) i (C,some X));(C.length=v1.fst.length)::(C=v1.fst)::rq S.length::(X.length=(liL v1.snd).length)::(D=D)::(S=S)::(X=liL v1.snd)::ty d1::y1),by kernel_rfl,⟨?_,?_,?_,?_,?_,?_,?_,d1,u1⟩⟩))
  all_goals first|(refine CtG.mk ?_;(first|(have e1:=d1;rw[consR_ro]at e1;have hd:(lf2 D C none).isNone=_:=hd;first|(rw[lf2_t e1]at hd;exact Bool.noConfusion (hd.symm.trans d2))|(rw[lf2_f e1]at hd;cases hd))))|(first|(with_reducible rfl)|exact⟨rfl,rfl⟩|rfl|(have e1:=d1;rw[consR_ro]at e1;first|exact c12_11 hc e1|(show _=(liL (lf2 D C (some X))).length;rw[lf2_t e1];done)|(show _=liL (lf2 D C (some X));rw[lf2_t e1];done)|(show _=(liL (lf2 D C (some X))).length;rw[lf2_f e1]<;>rfl)|(show _=liL (lf2 D C (some X));rw[lf2_f e1]<;>rfl))|exact⟨hc3,by omega⟩|exact⟨fun _ _=>rfl,by omega⟩)
def fzT (S:List Con)(i:Nat)(k:AV):List (Nat×AV):=[(0,.vint .i64 (i:Int)),(1,.ptr 1000 0),(2,.ptr 1002 0),(3,.ptr 1003 0),(4,.ptr 1004 0),(27,(roC (parM (at_ S i))).av),(28,.vint .i64 ((parM (at_ S i)).length:Int)),(29,k)]
def fzS0 (D:Int)(S:List Con)(i:Nat):Nat×List Con×Option (List QfSy.Loc)→St
 |(k,C,none)=>⟨fzT S i (.vint .i64 (k:Int)),fzH D S C none 1010,1300⟩
 |(k,C,some X)=>⟨fzT S i (.vint .i64 (k:Int)),fzH D S C (some X) 1210,1300⟩
def fzS1 (D:Int)(S:List Con)(i:Nat):Nat×List Con×List QfSy.Loc×Bool→St
 |(k,C,X,false)=>⟨fzT S i (.vint .i64 (k:Int)),fzH D S C (some X) 1010,1300⟩
 |(k,C,X,true)=>⟨fzT S i (.vint .i64 (k:Int)),fzH D S C (some X) 1210,1300⟩
def fzL0 (D:Int)(S:List Con)(r i:Nat)(C:List Con):Ann:=⟨⟨fzT S i (.int .i64 0),fzH D S C none 1010,1200⟩,some (fzM D S (r+1) i (C,none)).2.isNone,fun d=>match d with
 |true=>(.exit 0,⟨[],fzH D S (fzM D S (r+1) i (C,none)).1 none 1010,1300⟩)
 |false=>(.exit 0,⟨[],fzH D S (fzM D S (r+1) i (C,none)).1 (some (liL (fzM D S (r+1) i (C,none)).2)) 1210,1300⟩)⟩
def goF (D:Int)(S:List Con)(r i:Nat):Nat→List AV→Hs→Option (FnA×List Prop):=fun f args H=>bif Nat.beq f 63 then(match args with
 |[_,.ptr b0 _,.ptr b1 _,_,_]=>match cVar H.m b0 with
  |none=>none
  |some C=>match vOf H.m b1 with
   |some (.fn _ [.ptr bl _,_])=>match oVar H.m bl with
    |none=>none
    |some o=>some (fzA D S r (i+1) C o,[c12 D S r (i+1) C o])
   |_=>none
 |_=>none)else none
theorem goF_ok {D:Int}{S:List Con}{r i:Nat}(ih:∀C o,c12 D S r (i+1) C o→FnOk Tryd.prog EV.ng (fzA D S r (i+1) C o)):∀f args H A ms,goF D S r i f args H=some (A,ms)→(∀q∈ms,q)→FnOk Tryd.prog EV.ng A:=by
 intro f args H A ms hq hm
 unfold goF at hq
 replace hq:=(bif_some hq).2
 split at hq
 ·split at hq
  ·cases hq
  ·split at hq
   ·split at hq
    ·cases hq
    ·cases hq
     exact ih _ _ (all_one hm)
   ·cases hq
 ·cases hq
theorem fzM_len (D:Int)(S:List Con):∀(r i:Nat)(s:List Con×Option (List QfSy.Loc)),(fzM D S r i s).1.length=s.1.length
 |0,i,s=>rfl
 |r+1,i,s=>by
  show((parM (at_ S i)).foldl (fzP D S r i) s).1.length=_
  generalize parM (at_ S i)=l
  induction l generalizing s with
  |nil=>rfl
  |cons c l ih=>
   rw[List.foldl_cons,ih]
   unfold fzP
   cases behM s.1 i c with
   |true=>rfl
   |false=>rw[cond_false,fzM_len D S r (i+1)];exact List.length_set
theorem fold_ge {D:Int}{S:List Con}{r i:Nat}(h:∀s,(liL s.2).length≤(liL (fzM D S r (i+1) s).2).length):∀(l:List Con)(s:List Con×Option (List QfSy.Loc)),(liL s.2).length≤(liL (l.foldl (fzP D S r i) s).2).length
 |[],s=>Nat.le_refl _
 |c::l,s=>by
  rw[List.foldl_cons]
  refine Nat.le_trans ?_ (fold_ge h l _)
  unfold fzP
  cases behM s.1 i c with
  |true=>exact Nat.le_refl _
  |false=>exact h (s.1.set i c,s.2)
theorem fzM_ge (D:Int)(S:List Con):∀(r i:Nat)(s:List Con×Option (List QfSy.Loc)),(liL s.2).length≤(liL (fzM D S r i s).2).length
 |0,i,s=>lf2_ge D s.1 s.2
 |r+1,i,s=>fold_ge (fun s=>fzM_ge D S r (i+1) s) (parM (at_ S i)) s
theorem fzK_s {D:Int}{S:List Con}{r i k:Nat}{s:List Con×Option (List QfSy.Loc)}(hk:k<(parM (at_ S i)).length):fzK D S r i s (k+1)=fzP D S r i (fzK D S r i s k) ((parM (at_ S i)).getD k z0c):=by
 unfold fzK
 rw[List.take_succ_eq_append_getElem hk,List.foldl_append,List.getD_eq_getElem?_getD,List.getElem?_eq_getElem hk]
 rfl
theorem fzK_e {D:Int}{S:List Con}{r i k:Nat}{s:List Con×Option (List QfSy.Loc)}(hk:(parM (at_ S i)).length≤k):fzK D S r i s k=fzM D S (r+1) i s:=by
 unfold fzK
 rw[List.take_of_length_le hk]
 rfl
theorem fzK_ge {D:Int}{S:List Con}{r i k:Nat}{s:List Con×Option (List QfSy.Loc)}:(liL (fzK D S r i s k).2).length≤(liL (fzM D S (r+1) i s).2).length:=by
 have e:fzM D S (r+1) i s=((parM (at_ S i)).drop k).foldl (fzP D S r i) (fzK D S r i s k):=by
  unfold fzK
  rw[←List.foldl_append,List.take_append_drop]
  rfl
 rw[e]
 exact fold_ge (fun s=>fzM_ge D S r (i+1) s) _ _
theorem lf2_some (D:Int)(C:List Con)(X:List QfSy.Loc):lf2 D C (some X)=some (liL (lf2 D C (some X))):=by
 unfold lf2
 cases fusM 2 C with
 |true=>exact chM_some D C _ _ _ _ X
 |false=>rfl
theorem fzM_some (D:Int)(S:List Con):∀(r i:Nat)(C:List Con)(X:List QfSy.Loc),(fzM D S r i (C,some X)).2=some (liL (fzM D S r i (C,some X)).2)
 |0,i,C,X=>lf2_some D C X
 |r+1,i,C,X=>by
  show((parM (at_ S i)).foldl (fzP D S r i) (C,some X)).2=some (liL ((parM (at_ S i)).foldl (fzP D S r i) (C,some X)).2)
  generalize parM (at_ S i)=l
  induction l generalizing C X with
  |nil=>rfl
  |cons c l ih=>
   rw[List.foldl_cons]
   unfold fzP
   cases behM C i c with
   |true=>exact ih C X
   |false=>
    simp only[cond_false]
    have h:=fzM_some D S r (i+1) (C.set i c) X
    have e:fzM D S r (i+1) (C.set i c,some X)=((fzM D S r (i+1) (C.set i c,some X)).1,some (liL (fzM D S r (i+1) (C.set i c,some X)).2)):=by rw[←h]
    rw[e]
    exact ih _ _
theorem wi1 {i:Nat}(h:0<i)(hb:i≤10):(w6.wrap ((i:Int)-1)).toNat=i-1:=by rw[w64 (by omega) (by omega)];omega
theorem beh_1 {C:List Con}{i:Nat}{c:Con}(h:c.odd=false):behM C i c=false:=by unfold behM;rw[h];rfl
theorem beh_2 {C:List Con}{i:Nat}{c:Con}(h:(c.oddity==0)=true):behM C i c=false:=by unfold behM;rw[eq_of_beq h];simp
theorem beh_3 {C:List Con}{i:Nat}{c:Con}(h:decide ((i:Int)>0)=false):behM C i c=false:=by
 have:=of_decide_eq_false h
 unfold behM;rw[show decide (0<i)=false from decide_eq_false (by omega)];simp
theorem beh_4 {C:List Con}{i:Nat}{c:Con}(hb:i≤10)(h0:decide ((i:Int)>0)=true)(h:(C.getD (w6.wrap ((i:Int)-1)).toNat z0c).odd=false):behM C i c=false:=by
 have:=of_decide_eq_true h0
 rw[wi1 (by omega) hb]at h
 have h:(at_ C (i-1)).odd=false:=h
 unfold behM;rw[h];simp
theorem beh_5 {C:List Con}{i:Nat}{c:Con}(hb:i≤10)(h0:decide ((i:Int)>0)=true)(h:(w6.wrap ((C.getD (w6.wrap ((i:Int)-1)).toNat z0c).exp+1)==c.exp)=false):behM C i c=false:=by
 have:=of_decide_eq_true h0
 rw[wi1 (by omega) hb]at h
 have h:(w6.wrap ((at_ C (i-1)).exp+1)==c.exp)=false:=h
 unfold behM;rw[show decide (w6.wrap ((at_ C (i-1)).exp+1)=c.exp)=false from decide_eq_false (beq_eq_false_iff_ne.1 h)];simp
theorem beh_t {C:List Con}{i:Nat}{c:Con}(hb:i≤10)(h1:c.odd=true)(h2:(c.oddity==0)=false)(h0:decide ((i:Int)>0)=true)(h4:(C.getD (w6.wrap ((i:Int)-1)).toNat z0c).odd=true)(h:(w6.wrap ((C.getD (w6.wrap ((i:Int)-1)).toNat z0c).exp+1)==c.exp)=true):behM C i c=true:=by
 have:=of_decide_eq_true h0
 rw[wi1 (by omega) hb]at h h4
 have h:(w6.wrap ((at_ C (i-1)).exp+1)==c.exp)=true:=h
 have h4:(at_ C (i-1)).odd=true:=h4
 unfold behM;rw[h1,h4,show decide (c.oddity=0)=false from decide_eq_false (beq_eq_false_iff_ne.1 h2),show decide (0<i)=true from decide_eq_true (by omega),show decide (w6.wrap ((at_ C (i-1)).exp+1)=c.exp)=true from decide_eq_true (eq_of_beq h)];rfl
theorem par_pos (c:Con):0<(parM c).length:=by
 unfold parM
 cases decide (c.dim%2=0)<;>simp
theorem par_0 {c:Con}(h:c.oddity=0):((parM c).getD 0 z0c).oddity=0:=by
 unfold parM
 cases decide (c.dim%2=0)with
 |true=>exact h
 |false=>rfl
theorem at_mem {S:List Con}{i:Nat}(hi:i<S.length):at_ S i∈S:=by
 have:at_ S i=S[i]:=by simp[at_,hi]
 rw[this];exact List.getElem_mem hi
def fzI (D:Int)(S:List Con)(r i:Nat)(C:List Con)(o:Option (List QfSy.Loc))(k:Nat)(C1:List Con)(o1:Option (List QfSy.Loc)):Prop:=k≤(parM (at_ S i)).length∧fzK D S r i (C,o) k=(C1,o1)∧c12 D S (r+1) i C o∧C1.length=C.length
section
variable {D:Int}{S:List Con}{r i:Nat}{C:List Con}{o:Option (List QfSy.Loc)}{k:Nat}{C1:List Con}{o1:Option (List QfSy.Loc)}
theorem fzI_0 (hc:c12 D S (r+1) i C o):fzI D S r i C o 0 C o:=⟨Nat.zero_le _,rfl,hc,rfl⟩
theorem fzI_i (hI:fzI D S r i C o k C1 o1):i≤10∧i<C1.length∧k≤9∧C1.length≤10:=by
 obtain⟨h1,h2,⟨h3,h4,h5,h6,h7,h8,h9⟩,h10⟩:=hI
 have:=par_len (at_ S i)
 omega
theorem fzI_skip (hI:fzI D S r i C o k C1 o1)(hk:k<(parM (at_ S i)).length)(hb:behM C1 i ((parM (at_ S i)).getD k z0c)=true):fzI D S r i C o (k+1) C1 o1:=by
 obtain⟨h1,h2,h3,h4⟩:=hI
 exact⟨hk,by rw[fzK_s hk,h2];unfold fzP;rw[hb];rfl,h3,h4⟩
theorem fzI_call (hI:fzI D S r i C o k C1 o1)(hk:k<(parM (at_ S i)).length)(hb:behM C1 i ((parM (at_ S i)).getD k z0c)=false):fzI D S r i C o (k+1) (fzM D S r (i+1) (C1.set i ((parM (at_ S i)).getD k z0c),o1)).1 (fzM D S r (i+1) (C1.set i ((parM (at_ S i)).getD k z0c),o1)).2:=by
 obtain⟨h1,h2,h3,h4⟩:=hI
 exact⟨hk,by rw[fzK_s hk,h2];unfold fzP;rw[hb];rfl,h3,by rw[fzM_len,List.length_set];exact h4⟩
theorem fzI_12 (hI:fzI D S r i C o k C1 o1)(hk:k<(parM (at_ S i)).length)(hb:behM C1 i ((parM (at_ S i)).getD k z0c)=false):c12 D S r (i+1) (C1.set i ((parM (at_ S i)).getD k z0c)) o1:=by
 have hI':=fzI_call hI hk hb
 obtain⟨h1,h2,⟨h3,h4,h5,h6,h7,h8,h9⟩,h10⟩:=hI
 have hg:=fzK_ge (D:=D) (S:=S) (r:=r) (i:=i) (k:=k+1) (s:=(C,o))
 rw[hI'.2.1]at hg
 unfold c12
 rw[List.length_set]
 exact⟨by omega,by omega,by omega,by omega,Nat.le_trans hg h7,h8,h9⟩
theorem fzI_e (hI:fzI D S r i C o k C1 o1)(hk:¬k<(parM (at_ S i)).length):fzM D S (r+1) i (C,o)=(C1,o1):=by
 obtain⟨h1,h2,h3⟩:=hI
 rw[←fzK_e (k:=k) (by omega)]
 exact h2
theorem fzI_N (hI:fzI D S r i C o k C1 o1)(hk:k<(parM (at_ S i)).length)(hb:behM C1 i ((parM (at_ S i)).getD k z0c)=false)(hn:(fzM D S r (i+1) (C1.set i ((parM (at_ S i)).getD k z0c),o1)).2.isNone=true):fzI D S r i C o (k+1) (fzM D S r (i+1) (C1.set i ((parM (at_ S i)).getD k z0c),o1)).1 none:=by
 have:=fzI_call hI hk hb
 rw[isN hn]at this
 exact this
theorem fzI_S (hI:fzI D S r i C o k C1 o1)(hk:k<(parM (at_ S i)).length)(hb:behM C1 i ((parM (at_ S i)).getD k z0c)=false)(hn:(fzM D S r (i+1) (C1.set i ((parM (at_ S i)).getD k z0c),o1)).2.isNone=false):fzI D S r i C o (k+1) (fzM D S r (i+1) (C1.set i ((parM (at_ S i)).getD k z0c),o1)).1 (some (liL (fzM D S r (i+1) (C1.set i ((parM (at_ S i)).getD k z0c),o1)).2)):=by
 have:=fzI_call hI hk hb
 rw[isSm hn]at this
 exact this
theorem fzI_X {X:List QfSy.Loc}(hI:fzI D S r i C o k C1 (some X))(hk:k<(parM (at_ S i)).length)(hb:behM C1 i ((parM (at_ S i)).getD k z0c)=false):fzI D S r i C o (k+1) (fzM D S r (i+1) (C1.set i ((parM (at_ S i)).getD k z0c),some X)).1 (some (liL (fzM D S r (i+1) (C1.set i ((parM (at_ S i)).getD k z0c),some X)).2)):=by
 have:=fzI_call hI hk hb
 rw[fzM_some]at this
 exact this
theorem fzI_b0 (hI:fzI D S r i C o 0 C1 o1):behM C1 i ((parM (at_ S i)).getD 0 z0c)=false:=by
 obtain⟨h1,h2,⟨h3,h4,h5,h6,h7,h8,h9,h10⟩,h11⟩:=hI
 exact beh_2 (by rw[par_0 (h10 _ (at_mem (by omega)))];rfl)
end
def fzL1 (D:Int)(S:List Con)(r i:Nat)(C:List Con)(X:List QfSy.Loc):Ann:=⟨⟨fzT S i (.int .i64 0),fzH D S C (some X) 1010,1200⟩,none,fun _=>(.exit 0,⟨[],fzH D S (fzM D S (r+1) i (C,some X)).1 (some (liL (fzM D S (r+1) i (C,some X)).2)) 1210,1300⟩)⟩
set_option maxHeartbeats 4000000 in
theorem fz_l0 (D:Int)(S:List Con)(r i:Nat)(C:List Con)(hc:c12 D S (r+1) i C none)(ih:∀C o,c12 D S r (i+1) C o→FnOk Tryd.prog EV.ng (fzA D S r (i+1) C o)):AnnOk Tryd.prog EV.ng (Nat.max 5 Tryd.f63.ntmps) (bodyAt Tryd.f63 [0,1,1]) (fzL0 D S r i C):=by
 refine ann_of evOk (callF_ok evOk (orcFnM_ok (goF_ok ih) (noOrc_ok _ _)) 8) none_ann (by kernel_rfl) (by kernel_rfl) (fzS0 D S i) (fun q=>(parM (at_ S i)).length-q.1) (fun _ q=>fzI D S r i C none q.1 q.2.1 q.2.2) ?_ ?_
 ·intro d hd
  exact⟨(0,C,none),(let t1:=parM (at_ S i);[rq (↑i:Int),lq t1,rq (↑t1.length:Int),(0:Int)=↑(0:Nat),rq C.length,C=C,rq S.length,D=D,S=S]),by kernel_rfl,(by refine⟨?_,?_,?_,?_,?_,?_,?_,?_,(?_:S=S)⟩<;>(first|(with_reducible rfl)|rfl|exact⟨rfl,rfl⟩)),(by exact fzI_0 hc)⟩
 ·rintro d hd ⟨k,C1,o⟩ hI
  have hj:=fzI_i hI
  simp only at hj
  obtain⟨hi1,hi2,hi3,hi4⟩:=hj
  have ek:w6.wrap ((k:Int)+1)=((k+1:Nat):Int):=by rw[w64 (by omega) (by omega)];omega
  have ei:w6.wrap ((i:Int)+1)=((i+1:Nat):Int):=by rw[w64 (by omega) (by omega)];omega
  rcases o with _|X
  rotate_right
  refine(let q1:List Prop→List Prop:=fun l0=>(let v2:=parM (at_ S i);let v1:=(fzM D S r (i+1) (C1.set i (v2.getD k z0c),some X));let v3:=C1.set i (v2.getD k z0c);rq (↑i:Int)::(lq v2)::rq (↑v2.length:Int)::(w6.wrap ((↑k:Int)+1)=↑(k+1))::rq (v1.fst.length)::rq (v1.fst)::rq S.length::rq ((liL v1.snd).length)::(D=D)::(S=S)::rq (liL v1.snd)::(c12 D S r (i+1) v3 (some X))::(w6.wrap ((↑i:Int)+1)=↑(i+1))::(C1.length=v3.length)::rq v3::rq S.length::rq X.length::(D=D)::(S=S)::(X=X)::(i<C1.length)::((0:Int)≤↑i∧(↑i:Int)<↑C1.length)::l0);oe (decide ((↑k:Int)<(↑(parM (at_ S i)).length:Int))) (fun d1=>let y1:List Prop:=[(0:Int)≤↑k∧(↑k:Int)<(↑(parM (at_ S i)).length:Int),ty d1];have u1:allP y1:=⟨?_,d1⟩;oe (decide ((↑i:Int)>0)) (fun d2=>let y2:List Prop:=(let v1:=(↑i:Int)-1;((w6.wrap v1).toNat<C1.length)::((0:Int)≤w6.wrap v1∧w6.wrap v1<↑C1.length)::ty d2::y1);have u2:allP y2:=⟨?_,?_,d2,u1⟩;oe ((C1.getD (w6.wrap ((↑i:Int)-1)).toNat z0c).odd) (fun d3=>let y3:List Prop:=(let v1:=(↑i:Int)-1;((w6.wrap v1).toNat<C1.length)::((0:Int)≤w6.wrap v1∧w6.wrap v1<↑C1.length)::ty d3::y2);have u3:allP y3:=⟨?_,?_,d3,u2⟩;oe (((parM (at_ S i)).getD k z0c).odd) (fun d4=>oe (((parM (at_ S i)).getD k z0c).oddity==0) (fun d5=>lfI (tp 11112) (k+1,(fzM D S r (i+1) (C1.set i ((parM (at_ S i)).getD k z0c),some X)).1,some (liL (fzM D S r (i+1) (C1.set i ((parM (at_ S i)).getD k z0c),some X)).2)) (q1 (ty (dN d5)::ty d4::y3)) (by kernel_rfl) ?_ ?_ ?_)
   (fun d5=>oe (w6.wrap ((C1.getD (w6.wrap ((↑i:Int)-1)).toNat z0c).exp+1)==((parM (at_ S i)).getD k z0c).exp) (fun d6=>lfI (tp 111111) (k+1,C1,some X) (let v1:=parM (at_ S i);rq (↑i:Int)::(lq v1)::rq (↑v1.length:Int)::(w6.wrap ((↑k:Int)+1)=↑(k+1))::rq C1.length::(C1=C1)::rq S.length::rq X.length::(D=D)::(S=S)::(X=X)::ty d6::ty (dN d5)::ty d4::y3) (by kernel_rfl) ?_ ?_ ?_)
   (fun d6=>lfI (tp 111112) (k+1,(fzM D S r (i+1) (C1.set i ((parM (at_ S i)).getD k z0c),some X)).1,some (liL (fzM D S r (i+1) (C1.set i ((parM (at_ S i)).getD k z0c),some X)).2)) (q1 (ty d6::ty (dN d5)::ty d4::y3)) (by kernel_rfl) ?_ ?_ ?_)))
   (fun d4=>lfI (tp 1112) (k+1,(fzM D S r (i+1) (C1.set i ((parM (at_ S i)).getD k z0c),some X)).1,some (liL (fzM D S r (i+1) (C1.set i ((parM (at_ S i)).getD k z0c),some X)).2)) (q1 (ty d4::y3)) (by kernel_rfl) ?_ ?_ ?_))
   (fun d3=>oe (((parM (at_ S i)).getD k z0c).odd) (fun d4=>oe (((parM (at_ S i)).getD k z0c).oddity==0) (fun d5=>lfI (tp 11212) (k+1,(fzM D S r (i+1) (C1.set i ((parM (at_ S i)).getD k z0c),some X)).1,some (liL (fzM D S r (i+1) (C1.set i ((parM (at_ S i)).getD k z0c),some X)).2)) (q1 (ty (dN d5)::ty d4::ty d3::y2)) (by kernel_rfl) ?_ ?_ ?_)
   (fun d5=>lfI (tp 11211) (k+1,(fzM D S r (i+1) (C1.set i ((parM (at_ S i)).getD k z0c),some X)).1,some (liL (fzM D S r (i+1) (C1.set i ((parM (at_ S i)).getD k z0c),some X)).2)) (q1 (ty (dN d5)::ty d4::ty d3::y2)) (by kernel_rfl) ?_ ?_ ?_))
   (fun d4=>lfI (tp 1122) (k+1,(fzM D S r (i+1) (C1.set i ((parM (at_ S i)).getD k z0c),some X)).1,some (liL (fzM D S r (i+1) (C1.set i ((parM (at_ S i)).getD k z0c),some X)).2)) (q1 (ty d4::ty d3::y2)) (by kernel_rfl) ?_ ?_ ?_)))
   (fun d2=>oe (((parM (at_ S i)).getD k z0c).odd) (fun d3=>oe (((parM (at_ S i)).getD k z0c).oddity==0) (fun d4=>lfI (tp 1212) (k+1,(fzM D S r (i+1) (C1.set i ((parM (at_ S i)).getD k z0c),some X)).1,some (liL (fzM D S r (i+1) (C1.set i ((parM (at_ S i)).getD k z0c),some X)).2)) (q1 (ty (dN d4)::ty d3::ty d2::y1)) (by kernel_rfl) ?_ ?_ ?_)
   (fun d4=>lfI (tp 1211) (k+1,(fzM D S r (i+1) (C1.set i ((parM (at_ S i)).getD k z0c),some X)).1,some (liL (fzM D S r (i+1) (C1.set i ((parM (at_ S i)).getD k z0c),some X)).2)) (q1 (ty (dN d4)::ty d3::ty d2::y1)) (by kernel_rfl) ?_ ?_ ?_))
   (fun d3=>lfI (tp 122) (k+1,(fzM D S r (i+1) (C1.set i ((parM (at_ S i)).getD k z0c),some X)).1,some (liL (fzM D S r (i+1) (C1.set i ((parM (at_ S i)).getD k z0c),some X)).2)) (q1 (ty d3::ty d2::y1)) (by kernel_rfl) ?_ ?_ ?_)))
   (fun d1=>?e2))
  all_goals with_reducible(repeat' first|assumption|refine alC ?_ ?_|refine al1 ?_|exact dN (by assumption))
  case' e2=>
   cases d
   rotate_right
   refine CtG.no ?_
   rotate_right
   refine lfR [false] (let v1:=(fzM D S (r+1) i (C,none));[C1.length=v1.fst.length,C1=v1.fst,rq S.length,X.length=(liL v1.snd).length,D=D,S=S,X=liL v1.snd,ty d1]) (by kernel_rfl) ⟨?_,?_,?_,?_,?_,?_,?_,d1⟩ rfl
  rotate_right
  refine(let q1:List Prop→List Prop:=fun l0=>(let v1:=parM (at_ S i);let v2:=(fzM D S r (i+1) (C1.set i (v1.getD k z0c),none));rq (↑i:Int)::(lq v1)::rq (↑v1.length:Int)::(w6.wrap ((↑k:Int)+1)=↑(k+1))::rq (v2.fst.length)::rq (v2.fst)::rq S.length::l0);oe (decide ((↑k:Int)<(↑(parM (at_ S i)).length:Int))) (fun d1=>let y1:List Prop:=[(0:Int)≤↑k∧(↑k:Int)<(↑(parM (at_ S i)).length:Int),ty d1];have u1:allP y1:=⟨?_,d1⟩;oe (decide ((↑i:Int)>0)) (fun d2=>let y2:List Prop:=(let v1:=(↑i:Int)-1;((w6.wrap v1).toNat<C1.length)::((0:Int)≤w6.wrap v1∧w6.wrap v1<↑C1.length)::ty d2::y1);have u2:allP y2:=⟨?_,?_,d2,u1⟩;oe ((C1.getD (w6.wrap ((↑i:Int)-1)).toNat z0c).odd) (fun d3=>let y3:List Prop:=(let v1:=(↑i:Int)-1;((w6.wrap v1).toNat<C1.length)::((0:Int)≤w6.wrap v1∧w6.wrap v1<↑C1.length)::ty d3::y2);have u3:allP y3:=⟨?_,?_,d3,u2⟩;oe (((parM (at_ S i)).getD k z0c).odd) (fun d4=>oe (((parM (at_ S i)).getD k z0c).oddity==0) (fun d5=>let y4:List Prop:=(i<C1.length)::((0:Int)≤↑i∧(↑i:Int)<↑C1.length)::ty (dN d5)::ty d4::y3;have u4:allP y4:=⟨?_,?_,(dN d5),d4,u3⟩;oe ((fzM D S r (i+1) (C1.set i ((parM (at_ S i)).getD k z0c),none)).snd.isNone) (fun d6=>lfI (tp 111121) (k+1,(fzM D S r (i+1) (C1.set i ((parM (at_ S i)).getD k z0c),none)).1,none) (q1 (let v1:=C1.set i ((parM (at_ S i)).getD k z0c);(D=D)::(S=S)::(c12 D S r (i+1) v1 none)::(w6.wrap ((↑i:Int)+1)=↑(i+1))::(C1.length=v1.length)::rq v1::rq S.length::(D=D)::(S=S)::ty d6::y4)) (by kernel_rfl) ?_ ?_ ?_)
   (fun d6=>lfI (tp 111122) (k+1,(fzM D S r (i+1) (C1.set i ((parM (at_ S i)).getD k z0c),none)).1,some (liL (fzM D S r (i+1) (C1.set i ((parM (at_ S i)).getD k z0c),none)).2)) (q1 (let v1:=(parM (at_ S i)).getD k z0c;let v2:=(liL (fzM D S r (i+1) (C1.set i v1,none)).snd);rq (v2.length)::(D=D)::(S=S)::rq v2::(c12 D S r (i+1) (C1.set i v1) none)::(w6.wrap ((↑i:Int)+1)=↑(i+1))::(C1.length=(C1.set i v1).length)::rq (C1.set i v1)::rq S.length::(D=D)::(S=S)::ty d6::y4)) (by kernel_rfl) ?_ ?_ ?_))
   (fun d5=>oe (w6.wrap ((C1.getD (w6.wrap ((↑i:Int)-1)).toNat z0c).exp+1)==((parM (at_ S i)).getD k z0c).exp) (fun d6=>lfI (tp 111111) (k+1,C1,none) (let v1:=parM (at_ S i);rq (↑i:Int)::(lq v1)::rq (↑v1.length:Int)::(w6.wrap ((↑k:Int)+1)=↑(k+1))::rq C1.length::(C1=C1)::rq S.length::(D=D)::(S=S)::ty d6::ty (dN d5)::ty d4::y3) (by kernel_rfl) ?_ ?_ ?_)
   (fun d6=>let y4:List Prop:=(i<C1.length)::((0:Int)≤↑i∧(↑i:Int)<↑C1.length)::ty d6::ty (dN d5)::ty d4::y3;have u4:allP y4:=⟨?_,?_,d6,(dN d5),d4,u3⟩;oe ((fzM D S r (i+1) (C1.set i ((parM (at_ S i)).getD k z0c),none)).snd.isNone) (fun d7=>lfI (tp 1111121) (k+1,(fzM D S r (i+1) (C1.set i ((parM (at_ S i)).getD k z0c),none)).1,none) (q1 (let v1:=C1.set i ((parM (at_ S i)).getD k z0c);(D=D)::(S=S)::(c12 D S r (i+1) v1 none)::(w6.wrap ((↑i:Int)+1)=↑(i+1))::(C1.length=v1.length)::rq v1::rq S.length::(D=D)::(S=S)::ty d7::y4)) (by kernel_rfl) ?_ ?_ ?_)
   (fun d7=>lfI (tp 1111122) (k+1,(fzM D S r (i+1) (C1.set i ((parM (at_ S i)).getD k z0c),none)).1,some (liL (fzM D S r (i+1) (C1.set i ((parM (at_ S i)).getD k z0c),none)).2)) (q1 (let v1:=(parM (at_ S i)).getD k z0c;let v2:=(liL (fzM D S r (i+1) (C1.set i v1,none)).snd);rq (v2.length)::(D=D)::(S=S)::rq v2::(c12 D S r (i+1) (C1.set i v1) none)::(w6.wrap ((↑i:Int)+1)=↑(i+1))::(C1.length=(C1.set i v1).length)::rq (C1.set i v1)::rq S.length::(D=D)::(S=S)::ty d7::y4)) (by kernel_rfl) ?_ ?_ ?_))))
   (fun d4=>let y4:List Prop:=(i<C1.length)::((0:Int)≤↑i∧(↑i:Int)<↑C1.length)::ty d4::y3;have u4:allP y4:=⟨?_,?_,d4,u3⟩;oe ((fzM D S r (i+1) (C1.set i ((parM (at_ S i)).getD k z0c),none)).snd.isNone) (fun d5=>lfI (tp 11121) (k+1,(fzM D S r (i+1) (C1.set i ((parM (at_ S i)).getD k z0c),none)).1,none) (q1 (let v1:=C1.set i ((parM (at_ S i)).getD k z0c);(D=D)::(S=S)::(c12 D S r (i+1) v1 none)::(w6.wrap ((↑i:Int)+1)=↑(i+1))::(C1.length=v1.length)::rq v1::rq S.length::(D=D)::(S=S)::ty d5::y4)) (by kernel_rfl) ?_ ?_ ?_)
   (fun d5=>lfI (tp 11122) (k+1,(fzM D S r (i+1) (C1.set i ((parM (at_ S i)).getD k z0c),none)).1,some (liL (fzM D S r (i+1) (C1.set i ((parM (at_ S i)).getD k z0c),none)).2)) (q1 (let v1:=(parM (at_ S i)).getD k z0c;let v2:=(liL (fzM D S r (i+1) (C1.set i v1,none)).snd);rq (v2.length)::(D=D)::(S=S)::rq v2::(c12 D S r (i+1) (C1.set i v1) none)::(w6.wrap ((↑i:Int)+1)=↑(i+1))::(C1.length=(C1.set i v1).length)::rq (C1.set i v1)::rq S.length::(D=D)::(S=S)::ty d5::y4)) (by kernel_rfl) ?_ ?_ ?_)))
   (fun d3=>oe (((parM (at_ S i)).getD k z0c).odd) (fun d4=>oe (((parM (at_ S i)).getD k z0c).oddity==0) (fun d5=>let y3:List Prop:=(i<C1.length)::((0:Int)≤↑i∧(↑i:Int)<↑C1.length)::ty (dN d5)::ty d4::ty d3::y2;have u3:allP y3:=⟨?_,?_,(dN d5),d4,d3,u2⟩;oe ((fzM D S r (i+1) (C1.set i ((parM (at_ S i)).getD k z0c),none)).snd.isNone) (fun d6=>lfI (tp 112121) (k+1,(fzM D S r (i+1) (C1.set i ((parM (at_ S i)).getD k z0c),none)).1,none) (q1 (let v1:=C1.set i ((parM (at_ S i)).getD k z0c);(D=D)::(S=S)::(c12 D S r (i+1) v1 none)::(w6.wrap ((↑i:Int)+1)=↑(i+1))::(C1.length=v1.length)::rq v1::rq S.length::(D=D)::(S=S)::ty d6::y3)) (by kernel_rfl) ?_ ?_ ?_)
   (fun d6=>lfI (tp 112122) (k+1,(fzM D S r (i+1) (C1.set i ((parM (at_ S i)).getD k z0c),none)).1,some (liL (fzM D S r (i+1) (C1.set i ((parM (at_ S i)).getD k z0c),none)).2)) (q1 (let v1:=(parM (at_ S i)).getD k z0c;let v2:=(liL (fzM D S r (i+1) (C1.set i v1,none)).snd);rq (v2.length)::(D=D)::(S=S)::rq v2::(c12 D S r (i+1) (C1.set i v1) none)::(w6.wrap ((↑i:Int)+1)=↑(i+1))::(C1.length=(C1.set i v1).length)::rq (C1.set i v1)::rq S.length::(D=D)::(S=S)::ty d6::y3)) (by kernel_rfl) ?_ ?_ ?_))
   (fun d5=>let y3:List Prop:=(i<C1.length)::((0:Int)≤↑i∧(↑i:Int)<↑C1.length)::ty (dN d5)::ty d4::ty d3::y2;have u3:allP y3:=⟨?_,?_,(dN d5),d4,d3,u2⟩;oe ((fzM D S r (i+1) (C1.set i ((parM (at_ S i)).getD k z0c),none)).snd.isNone) (fun d6=>lfI (tp 112111) (k+1,(fzM D S r (i+1) (C1.set i ((parM (at_ S i)).getD k z0c),none)).1,none) (q1 (let v1:=C1.set i ((parM (at_ S i)).getD k z0c);(D=D)::(S=S)::(c12 D S r (i+1) v1 none)::(w6.wrap ((↑i:Int)+1)=↑(i+1))::(C1.length=v1.length)::rq v1::rq S.length::(D=D)::(S=S)::ty d6::y3)) (by kernel_rfl) ?_ ?_ ?_)
   (fun d6=>lfI (tp 112112) (k+1,(fzM D S r (i+1) (C1.set i ((parM (at_ S i)).getD k z0c),none)).1,some (liL (fzM D S r (i+1) (C1.set i ((parM (at_ S i)).getD k z0c),none)).2)) (q1 (let v1:=(parM (at_ S i)).getD k z0c;let v2:=(liL (fzM D S r (i+1) (C1.set i v1,none)).snd);rq (v2.length)::(D=D)::(S=S)::rq v2::(c12 D S r (i+1) (C1.set i v1) none)::(w6.wrap ((↑i:Int)+1)=↑(i+1))::(C1.length=(C1.set i v1).length)::rq (C1.set i v1)::rq S.length::(D=D)::(S=S)::ty d6::y3)) (by kernel_rfl) ?_ ?_ ?_)))
   (fun d4=>let y3:List Prop:=(i<C1.length)::((0:Int)≤↑i∧(↑i:Int)<↑C1.length)::ty d4::ty d3::y2;have u3:allP y3:=⟨?_,?_,d4,d3,u2⟩;oe ((fzM D S r (i+1) (C1.set i ((parM (at_ S i)).getD k z0c),none)).snd.isNone) (fun d5=>lfI (tp 11221) (k+1,(fzM D S r (i+1) (C1.set i ((parM (at_ S i)).getD k z0c),none)).1,none) (q1 (let v1:=C1.set i ((parM (at_ S i)).getD k z0c);(D=D)::(S=S)::(c12 D S r (i+1) v1 none)::(w6.wrap ((↑i:Int)+1)=↑(i+1))::(C1.length=v1.length)::rq v1::rq S.length::(D=D)::(S=S)::ty d5::y3)) (by kernel_rfl) ?_ ?_ ?_)
   (fun d5=>lfI (tp 11222) (k+1,(fzM D S r (i+1) (C1.set i ((parM (at_ S i)).getD k z0c),none)).1,some (liL (fzM D S r (i+1) (C1.set i ((parM (at_ S i)).getD k z0c),none)).2)) (q1 (let v1:=(parM (at_ S i)).getD k z0c;let v2:=(liL (fzM D S r (i+1) (C1.set i v1,none)).snd);rq (v2.length)::(D=D)::(S=S)::rq v2::(c12 D S r (i+1) (C1.set i v1) none)::(w6.wrap ((↑i:Int)+1)=↑(i+1))::(C1.length=(C1.set i v1).length)::rq (C1.set i v1)::rq S.length::(D=D)::(S=S)::ty d5::y3)) (by kernel_rfl) ?_ ?_ ?_))))
   (fun d2=>oe (((parM (at_ S i)).getD k z0c).odd) (fun d3=>oe (((parM (at_ S i)).getD k z0c).oddity==0) (fun d4=>let y2:List Prop:=(i<C1.length)::((0:Int)≤↑i∧(↑i:Int)<↑C1.length)::ty (dN d4)::ty d3::ty d2::y1;have u2:allP y2:=⟨?_,?_,(dN d4),d3,d2,u1⟩;oe ((fzM D S r (i+1) (C1.set i ((parM (at_ S i)).getD k z0c),none)).snd.isNone) (fun d5=>lfI (tp 12121) (k+1,(fzM D S r (i+1) (C1.set i ((parM (at_ S i)).getD k z0c),none)).1,none) (q1 (let v1:=C1.set i ((parM (at_ S i)).getD k z0c);(D=D)::(S=S)::(c12 D S r (i+1) v1 none)::(w6.wrap ((↑i:Int)+1)=↑(i+1))::(C1.length=v1.length)::rq v1::rq S.length::(D=D)::(S=S)::ty d5::y2)) (by kernel_rfl) ?_ ?_ ?_)
   (fun d5=>lfI (tp 12122) (k+1,(fzM D S r (i+1) (C1.set i ((parM (at_ S i)).getD k z0c),none)).1,some (liL (fzM D S r (i+1) (C1.set i ((parM (at_ S i)).getD k z0c),none)).2)) (q1 (let v1:=(parM (at_ S i)).getD k z0c;let v2:=(liL (fzM D S r (i+1) (C1.set i v1,none)).snd);rq (v2.length)::(D=D)::(S=S)::rq v2::(c12 D S r (i+1) (C1.set i v1) none)::(w6.wrap ((↑i:Int)+1)=↑(i+1))::(C1.length=(C1.set i v1).length)::rq (C1.set i v1)::rq S.length::(D=D)::(S=S)::ty d5::y2)) (by kernel_rfl) ?_ ?_ ?_))
   (fun d4=>let y2:List Prop:=(i<C1.length)::((0:Int)≤↑i∧(↑i:Int)<↑C1.length)::ty (dN d4)::ty d3::ty d2::y1;have u2:allP y2:=⟨?_,?_,(dN d4),d3,d2,u1⟩;oe ((fzM D S r (i+1) (C1.set i ((parM (at_ S i)).getD k z0c),none)).snd.isNone) (fun d5=>lfI (tp 12111) (k+1,(fzM D S r (i+1) (C1.set i ((parM (at_ S i)).getD k z0c),none)).1,none) (q1 (let v1:=C1.set i ((parM (at_ S i)).getD k z0c);(D=D)::(S=S)::(c12 D S r (i+1) v1 none)::(w6.wrap ((↑i:Int)+1)=↑(i+1))::(C1.length=v1.length)::rq v1::rq S.length::(D=D)::(S=S)::ty d5::y2)) (by kernel_rfl) ?_ ?_ ?_)
   (fun d5=>lfI (tp 12112) (k+1,(fzM D S r (i+1) (C1.set i ((parM (at_ S i)).getD k z0c),none)).1,some (liL (fzM D S r (i+1) (C1.set i ((parM (at_ S i)).getD k z0c),none)).2)) (q1 (let v1:=(parM (at_ S i)).getD k z0c;let v2:=(liL (fzM D S r (i+1) (C1.set i v1,none)).snd);rq (v2.length)::(D=D)::(S=S)::rq v2::(c12 D S r (i+1) (C1.set i v1) none)::(w6.wrap ((↑i:Int)+1)=↑(i+1))::(C1.length=(C1.set i v1).length)::rq (C1.set i v1)::rq S.length::(D=D)::(S=S)::ty d5::y2)) (by kernel_rfl) ?_ ?_ ?_)))
   (fun d3=>let y2:List Prop:=(i<C1.length)::((0:Int)≤↑i∧(↑i:Int)<↑C1.length)::ty d3::ty d2::y1;have u2:allP y2:=⟨?_,?_,d3,d2,u1⟩;oe ((fzM D S r (i+1) (C1.set i ((parM (at_ S i)).getD k z0c),none)).snd.isNone) (fun d4=>lfI (tp 1221) (k+1,(fzM D S r (i+1) (C1.set i ((parM (at_ S i)).getD k z0c),none)).1,none) (q1 (let v1:=C1.set i ((parM (at_ S i)).getD k z0c);(D=D)::(S=S)::(c12 D S r (i+1) v1 none)::(w6.wrap ((↑i:Int)+1)=↑(i+1))::(C1.length=v1.length)::rq v1::rq S.length::(D=D)::(S=S)::ty d4::y2)) (by kernel_rfl) ?_ ?_ ?_)
   (fun d4=>lfI (tp 1222) (k+1,(fzM D S r (i+1) (C1.set i ((parM (at_ S i)).getD k z0c),none)).1,some (liL (fzM D S r (i+1) (C1.set i ((parM (at_ S i)).getD k z0c),none)).2)) (q1 (let v1:=(parM (at_ S i)).getD k z0c;let v2:=(liL (fzM D S r (i+1) (C1.set i v1,none)).snd);rq (v2.length)::(D=D)::(S=S)::rq v2::(c12 D S r (i+1) (C1.set i v1) none)::(w6.wrap ((↑i:Int)+1)=↑(i+1))::(C1.length=(C1.set i v1).length)::rq (C1.set i v1)::rq S.length::(D=D)::(S=S)::ty d4::y2)) (by kernel_rfl) ?_ ?_ ?_))))
   (fun d1=>?e1))
  all_goals with_reducible(repeat' first|assumption|refine alC ?_ ?_|refine al1 ?_|exact dN (by assumption))
  case' e1=>
   cases d
   rotate_right
   refine lfR [false] (let v1:=(fzM D S (r+1) i (C,none));[C1.length=v1.fst.length,C1=v1.fst,rq S.length,D=D,S=S,ty d1]) (by kernel_rfl) ⟨?_,?_,?_,?_,?_,d1⟩ rfl
   rotate_right
   refine CtG.no ?_
  all_goals((try clear u4);(try clear y4);(try clear u3);(try clear y3);(try clear u2);(try clear y2);(try clear u1);(try clear y1))
  all_goals first|(refine MuG.mk ?_;(have hk:=of_decide_eq_true d1;show(parM (at_ S i)).length-(k+1)<(parM (at_ S i)).length-k;omega))|(refine InG.mk ?_;((have hk:k<(parM (at_ S i)).length:=(by have:=of_decide_eq_true d1;omega);first|exact fzI_skip hI hk (beh_t hi1 (by assumption) (by assumption) (by assumption) (by assumption) (by assumption))|exact fzI_N hI hk (by first|exact beh_1 (by assumption)|exact beh_2 (by assumption)|exact beh_3 (by assumption)|exact beh_4 hi1 (by assumption) (by assumption)|exact beh_5 hi1 (by assumption) (by assumption)) (by assumption)|exact fzI_S hI hk (by first|exact beh_1 (by assumption)|exact beh_2 (by assumption)|exact beh_3 (by assumption)|exact beh_4 hi1 (by assumption) (by assumption)|exact beh_5 hi1 (by assumption) (by assumption)) (by assumption)|exact fzI_X hI hk (by first|exact beh_1 (by assumption)|exact beh_2 (by assumption)|exact beh_3 (by assumption)|exact beh_4 hi1 (by assumption) (by assumption)|exact beh_5 hi1 (by assumption) (by assumption)))))|(refine CtG.mk ?_;(first|(have hk:¬k<(parM (at_ S i)).length:=(by have:=of_decide_eq_false d1;omega);have e:=fzI_e hI hk;have hd:(fzM D S (r+1) i (C,none)).2.isNone=_:=hd;rw[e]at hd;cases hd)))|(first|(with_reducible rfl)|exact⟨rfl,rfl⟩|exact ek|exact ei|omega|(have hk:=of_decide_eq_true d1;exact⟨by omega,hk⟩)|(rw[List.length_set];done)|(rw[fzM_len,List.length_set];done)|exact fzI_12 hI (by have:=of_decide_eq_true d1;omega) (by first|exact beh_1 (by assumption)|exact beh_2 (by assumption)|exact beh_3 (by assumption)|exact beh_4 hi1 (by assumption) (by assumption)|exact beh_5 hi1 (by assumption) (by assumption))|(have hk:¬k<(parM (at_ S i)).length:=(by have:=of_decide_eq_false d1;omega);first|(rw[fzI_e hI hk];done)|(rw[fzI_e hI hk];rfl))|(have hp:decide ((i:Int)>0)=true:=(by assumption);have:=of_decide_eq_true hp;first|(rw[wi1 (by omega) hi1];omega)|(rw[w64 (by omega) (by omega)];omega)))
set_option maxHeartbeats 4000000 in
theorem fz_l1 (D:Int)(S:List Con)(r i:Nat)(C:List Con)(X0:List QfSy.Loc)(hc:c12 D S (r+1) i C (some X0))(ih:∀C o,c12 D S r (i+1) C o→FnOk Tryd.prog EV.ng (fzA D S r (i+1) C o)):AnnOk Tryd.prog EV.ng (Nat.max 5 Tryd.f63.ntmps) (bodyAt Tryd.f63 [0,1,1]) (fzL1 D S r i C X0):=by
 refine ann_of evOk (callF_ok evOk (orcFnM_ok (goF_ok ih) (noOrc_ok _ _)) 8) none_ann (by kernel_rfl) (by kernel_rfl) (fzS1 D S i) (fun q=>(parM (at_ S i)).length-q.1) (fun _ q=>fzI D S r i C (some X0) q.1 q.2.1 (some q.2.2.1)∧(q.2.2.2=false→q.1=0)) ?_ ?_
 ·intro d hd
  exact⟨(0,C,X0,false),(let t1:=parM (at_ S i);[rq (↑i:Int),lq t1,rq (↑t1.length:Int),(0:Int)=↑(0:Nat),rq C.length,C=C,rq S.length,rq X0.length,D=D,S=S,X0=X0]),by kernel_rfl,(by refine⟨?_,?_,?_,?_,?_,?_,?_,?_,?_,?_,(?_:X0=X0)⟩<;>(first|(with_reducible rfl)|rfl|exact⟨rfl,rfl⟩)),(by exact⟨fzI_0 hc,fun _=>rfl⟩)⟩
 ·rintro d hd ⟨k,C1,X,fl⟩ hI
  cases d
  ·exact Bool.noConfusion (show false=true from hd)
  ·obtain⟨hI,hfl⟩:=hI
   simp only at hI hfl
   have hj:=fzI_i hI
   obtain⟨hi1,hi2,hi3,hi4⟩:=hj
   have ek:w6.wrap ((k:Int)+1)=((k+1:Nat):Int):=by rw[w64 (by omega) (by omega)];omega
   have ei:w6.wrap ((i:Int)+1)=((i+1:Nat):Int):=by rw[w64 (by omega) (by omega)];omega
   rcases fl with _|_
   rotate_right
   refine(let q1:List Prop→List Prop:=fun l0=>(let v2:=parM (at_ S i);let v1:=(fzM D S r (i+1) (C1.set i (v2.getD k z0c),some X));let v3:=C1.set i (v2.getD k z0c);rq (↑i:Int)::(lq v2)::rq (↑v2.length:Int)::(w6.wrap ((↑k:Int)+1)=↑(k+1))::rq (v1.fst.length)::rq (v1.fst)::rq S.length::rq ((liL v1.snd).length)::(D=D)::(S=S)::rq (liL v1.snd)::(c12 D S r (i+1) v3 (some X))::(w6.wrap ((↑i:Int)+1)=↑(i+1))::(C1.length=v3.length)::rq v3::rq S.length::rq X.length::(D=D)::(S=S)::(X=X)::(i<C1.length)::((0:Int)≤↑i∧(↑i:Int)<↑C1.length)::l0);oe (decide ((↑k:Int)<(↑(parM (at_ S i)).length:Int))) (fun d1=>let y1:List Prop:=[(0:Int)≤↑k∧(↑k:Int)<(↑(parM (at_ S i)).length:Int),ty d1];have u1:allP y1:=⟨?_,d1⟩;oe (decide ((↑i:Int)>0)) (fun d2=>let y2:List Prop:=(let v1:=(↑i:Int)-1;((w6.wrap v1).toNat<C1.length)::((0:Int)≤w6.wrap v1∧w6.wrap v1<↑C1.length)::ty d2::y1);have u2:allP y2:=⟨?_,?_,d2,u1⟩;oe ((C1.getD (w6.wrap ((↑i:Int)-1)).toNat z0c).odd) (fun d3=>let y3:List Prop:=(let v1:=(↑i:Int)-1;((w6.wrap v1).toNat<C1.length)::((0:Int)≤w6.wrap v1∧w6.wrap v1<↑C1.length)::ty d3::y2);have u3:allP y3:=⟨?_,?_,d3,u2⟩;oe (((parM (at_ S i)).getD k z0c).odd) (fun d4=>oe (((parM (at_ S i)).getD k z0c).oddity==0) (fun d5=>lfI (tp 11112) (k+1,(fzM D S r (i+1) (C1.set i ((parM (at_ S i)).getD k z0c),some X)).1,liL (fzM D S r (i+1) (C1.set i ((parM (at_ S i)).getD k z0c),some X)).2,true) (q1 (ty (dN d5)::ty d4::y3)) (by kernel_rfl) ?_ ?_ ?_)
    (fun d5=>oe (w6.wrap ((C1.getD (w6.wrap ((↑i:Int)-1)).toNat z0c).exp+1)==((parM (at_ S i)).getD k z0c).exp) (fun d6=>lfI (tp 111111) (k+1,C1,X,true) (let v1:=parM (at_ S i);rq (↑i:Int)::(lq v1)::rq (↑v1.length:Int)::(w6.wrap ((↑k:Int)+1)=↑(k+1))::rq C1.length::(C1=C1)::rq S.length::rq X.length::(D=D)::(S=S)::(X=X)::ty d6::ty (dN d5)::ty d4::y3) (by kernel_rfl) ?_ ?_ ?_)
    (fun d6=>lfI (tp 111112) (k+1,(fzM D S r (i+1) (C1.set i ((parM (at_ S i)).getD k z0c),some X)).1,liL (fzM D S r (i+1) (C1.set i ((parM (at_ S i)).getD k z0c),some X)).2,true) (q1 (ty d6::ty (dN d5)::ty d4::y3)) (by kernel_rfl) ?_ ?_ ?_)))
    (fun d4=>lfI (tp 1112) (k+1,(fzM D S r (i+1) (C1.set i ((parM (at_ S i)).getD k z0c),some X)).1,liL (fzM D S r (i+1) (C1.set i ((parM (at_ S i)).getD k z0c),some X)).2,true) (q1 (ty d4::y3)) (by kernel_rfl) ?_ ?_ ?_))
    (fun d3=>oe (((parM (at_ S i)).getD k z0c).odd) (fun d4=>oe (((parM (at_ S i)).getD k z0c).oddity==0) (fun d5=>lfI (tp 11212) (k+1,(fzM D S r (i+1) (C1.set i ((parM (at_ S i)).getD k z0c),some X)).1,liL (fzM D S r (i+1) (C1.set i ((parM (at_ S i)).getD k z0c),some X)).2,true) (q1 (ty (dN d5)::ty d4::ty d3::y2)) (by kernel_rfl) ?_ ?_ ?_)
    (fun d5=>lfI (tp 11211) (k+1,(fzM D S r (i+1) (C1.set i ((parM (at_ S i)).getD k z0c),some X)).1,liL (fzM D S r (i+1) (C1.set i ((parM (at_ S i)).getD k z0c),some X)).2,true) (q1 (ty (dN d5)::ty d4::ty d3::y2)) (by kernel_rfl) ?_ ?_ ?_))
    (fun d4=>lfI (tp 1122) (k+1,(fzM D S r (i+1) (C1.set i ((parM (at_ S i)).getD k z0c),some X)).1,liL (fzM D S r (i+1) (C1.set i ((parM (at_ S i)).getD k z0c),some X)).2,true) (q1 (ty d4::ty d3::y2)) (by kernel_rfl) ?_ ?_ ?_)))
    (fun d2=>oe (((parM (at_ S i)).getD k z0c).odd) (fun d3=>oe (((parM (at_ S i)).getD k z0c).oddity==0) (fun d4=>lfI (tp 1212) (k+1,(fzM D S r (i+1) (C1.set i ((parM (at_ S i)).getD k z0c),some X)).1,liL (fzM D S r (i+1) (C1.set i ((parM (at_ S i)).getD k z0c),some X)).2,true) (q1 (ty (dN d4)::ty d3::ty d2::y1)) (by kernel_rfl) ?_ ?_ ?_)
    (fun d4=>lfI (tp 1211) (k+1,(fzM D S r (i+1) (C1.set i ((parM (at_ S i)).getD k z0c),some X)).1,liL (fzM D S r (i+1) (C1.set i ((parM (at_ S i)).getD k z0c),some X)).2,true) (q1 (ty (dN d4)::ty d3::ty d2::y1)) (by kernel_rfl) ?_ ?_ ?_))
    (fun d3=>lfI (tp 122) (k+1,(fzM D S r (i+1) (C1.set i ((parM (at_ S i)).getD k z0c),some X)).1,liL (fzM D S r (i+1) (C1.set i ((parM (at_ S i)).getD k z0c),some X)).2,true) (q1 (ty d3::ty d2::y1)) (by kernel_rfl) ?_ ?_ ?_)))
    (fun d1=>lfR [false] (let v1:=(fzM D S (r+1) i (C,some X0));[C1.length=v1.fst.length,C1=v1.fst,rq S.length,X.length=(liL v1.snd).length,D=D,S=S,X=liL v1.snd,ty d1]) (by kernel_rfl) ?_ rfl))
   all_goals with_reducible(repeat' first|assumption|refine alC ?_ ?_|refine al1 ?_|exact dN (by assumption))
   rotate_right
   refine(let q1:List Prop→List Prop:=fun l0=>(let v2:=parM (at_ S i);let v1:=(fzM D S r (i+1) (C1.set i (v2.getD k z0c),some X));let v3:=C1.set i (v2.getD k z0c);rq (↑i:Int)::(lq v2)::rq (↑v2.length:Int)::(w6.wrap ((↑k:Int)+1)=↑(k+1))::rq (v1.fst.length)::rq (v1.fst)::rq S.length::rq ((liL v1.snd).length)::(D=D)::(S=S)::rq (liL v1.snd)::(c12 D S r (i+1) v3 (some X))::(w6.wrap ((↑i:Int)+1)=↑(i+1))::(C1.length=v3.length)::rq v3::rq S.length::rq X.length::(D=D)::(S=S)::(X=X)::(i<C1.length)::((0:Int)≤↑i∧(↑i:Int)<↑C1.length)::l0);oe (decide ((↑k:Int)<(↑(parM (at_ S i)).length:Int))) (fun d1=>let y1:List Prop:=[(0:Int)≤↑k∧(↑k:Int)<(↑(parM (at_ S i)).length:Int),ty d1];have u1:allP y1:=⟨?_,d1⟩;oe (decide ((↑i:Int)>0)) (fun d2=>let y2:List Prop:=(let v1:=(↑i:Int)-1;((w6.wrap v1).toNat<C1.length)::((0:Int)≤w6.wrap v1∧w6.wrap v1<↑C1.length)::ty d2::y1);have u2:allP y2:=⟨?_,?_,d2,u1⟩;oe ((C1.getD (w6.wrap ((↑i:Int)-1)).toNat z0c).odd) (fun d3=>let y3:List Prop:=(let v1:=(↑i:Int)-1;((w6.wrap v1).toNat<C1.length)::((0:Int)≤w6.wrap v1∧w6.wrap v1<↑C1.length)::ty d3::y2);have u3:allP y3:=⟨?_,?_,d3,u2⟩;oe (((parM (at_ S i)).getD k z0c).odd) (fun d4=>oe (((parM (at_ S i)).getD k z0c).oddity==0) (fun d5=>lfI (tp 11112) (k+1,(fzM D S r (i+1) (C1.set i ((parM (at_ S i)).getD k z0c),some X)).1,liL (fzM D S r (i+1) (C1.set i ((parM (at_ S i)).getD k z0c),some X)).2,true) (q1 (ty (dN d5)::ty d4::y3)) (by kernel_rfl) ?_ ?_ ?_)
    (fun d5=>oe (w6.wrap ((C1.getD (w6.wrap ((↑i:Int)-1)).toNat z0c).exp+1)==((parM (at_ S i)).getD k z0c).exp) (fun d6=>lfI (tp 111111) (k+1,C1,X,false) (let v1:=parM (at_ S i);rq (↑i:Int)::(lq v1)::rq (↑v1.length:Int)::(w6.wrap ((↑k:Int)+1)=↑(k+1))::rq C1.length::(C1=C1)::rq S.length::rq X.length::(D=D)::(S=S)::(X=X)::ty d6::ty (dN d5)::ty d4::y3) (by kernel_rfl) ?_ ?_ ?_)
    (fun d6=>lfI (tp 111112) (k+1,(fzM D S r (i+1) (C1.set i ((parM (at_ S i)).getD k z0c),some X)).1,liL (fzM D S r (i+1) (C1.set i ((parM (at_ S i)).getD k z0c),some X)).2,true) (q1 (ty d6::ty (dN d5)::ty d4::y3)) (by kernel_rfl) ?_ ?_ ?_)))
    (fun d4=>lfI (tp 1112) (k+1,(fzM D S r (i+1) (C1.set i ((parM (at_ S i)).getD k z0c),some X)).1,liL (fzM D S r (i+1) (C1.set i ((parM (at_ S i)).getD k z0c),some X)).2,true) (q1 (ty d4::y3)) (by kernel_rfl) ?_ ?_ ?_))
    (fun d3=>oe (((parM (at_ S i)).getD k z0c).odd) (fun d4=>oe (((parM (at_ S i)).getD k z0c).oddity==0) (fun d5=>lfI (tp 11212) (k+1,(fzM D S r (i+1) (C1.set i ((parM (at_ S i)).getD k z0c),some X)).1,liL (fzM D S r (i+1) (C1.set i ((parM (at_ S i)).getD k z0c),some X)).2,true) (q1 (ty (dN d5)::ty d4::ty d3::y2)) (by kernel_rfl) ?_ ?_ ?_)
    (fun d5=>lfI (tp 11211) (k+1,(fzM D S r (i+1) (C1.set i ((parM (at_ S i)).getD k z0c),some X)).1,liL (fzM D S r (i+1) (C1.set i ((parM (at_ S i)).getD k z0c),some X)).2,true) (q1 (ty (dN d5)::ty d4::ty d3::y2)) (by kernel_rfl) ?_ ?_ ?_))
    (fun d4=>lfI (tp 1122) (k+1,(fzM D S r (i+1) (C1.set i ((parM (at_ S i)).getD k z0c),some X)).1,liL (fzM D S r (i+1) (C1.set i ((parM (at_ S i)).getD k z0c),some X)).2,true) (q1 (ty d4::ty d3::y2)) (by kernel_rfl) ?_ ?_ ?_)))
    (fun d2=>oe (((parM (at_ S i)).getD k z0c).odd) (fun d3=>oe (((parM (at_ S i)).getD k z0c).oddity==0) (fun d4=>lfI (tp 1212) (k+1,(fzM D S r (i+1) (C1.set i ((parM (at_ S i)).getD k z0c),some X)).1,liL (fzM D S r (i+1) (C1.set i ((parM (at_ S i)).getD k z0c),some X)).2,true) (q1 (ty (dN d4)::ty d3::ty d2::y1)) (by kernel_rfl) ?_ ?_ ?_)
    (fun d4=>lfI (tp 1211) (k+1,(fzM D S r (i+1) (C1.set i ((parM (at_ S i)).getD k z0c),some X)).1,liL (fzM D S r (i+1) (C1.set i ((parM (at_ S i)).getD k z0c),some X)).2,true) (q1 (ty (dN d4)::ty d3::ty d2::y1)) (by kernel_rfl) ?_ ?_ ?_))
    (fun d3=>lfI (tp 122) (k+1,(fzM D S r (i+1) (C1.set i ((parM (at_ S i)).getD k z0c),some X)).1,liL (fzM D S r (i+1) (C1.set i ((parM (at_ S i)).getD k z0c),some X)).2,true) (q1 (ty d3::ty d2::y1)) (by kernel_rfl) ?_ ?_ ?_)))
    (fun d1=>lfR [false] (let v1:=(fzM D S (r+1) i (C,some X0));[C1.length=v1.fst.length,C1=v1.fst,rq S.length,X.length=(liL v1.snd).length,D=D,S=S,X=liL v1.snd,ty d1]) (by kernel_rfl) ?_ rfl))
   all_goals with_reducible(repeat' first|assumption|refine alC ?_ ?_|refine al1 ?_|exact dN (by assumption))
   all_goals((try clear u3);(try clear y3);(try clear u2);(try clear y2);(try clear u1);(try clear y1))
   all_goals first|(refine MuG.mk ?_;(have hk:=of_decide_eq_true d1;show(parM (at_ S i)).length-(k+1)<(parM (at_ S i)).length-k;omega))|(refine InG.mk ?_;((have hk:k<(parM (at_ S i)).length:=(by have:=of_decide_eq_true d1;omega);first|(refine⟨fzI_X hI hk (by first|exact beh_1 (by assumption)|exact beh_2 (by assumption)|exact beh_3 (by assumption)|exact beh_4 hi1 (by assumption) (by assumption)|exact beh_5 hi1 (by assumption) (by assumption)),?_⟩;intro h;cases h;done)|(refine⟨fzI_skip hI hk (beh_t hi1 (by assumption) (by assumption) (by assumption) (by assumption) (by assumption)),?_⟩;intro h;cases h;done)|(have h0:=hfl rfl;subst h0;exact(Bool.noConfusion ((fzI_b0 hI).symm.trans (beh_t hi1 (by assumption) (by assumption) (by assumption) (by assumption) (by assumption))))))))|(refine CtG.mk ?_;(first|(have hk:¬k<(parM (at_ S i)).length:=(by have:=of_decide_eq_false d1;omega);have h0:=hfl rfl;subst h0;have:=par_pos (at_ S i);omega)))|(first|(with_reducible rfl)|exact⟨rfl,rfl⟩|exact ek|exact ei|omega|(have hk:=of_decide_eq_true d1;exact⟨by omega,hk⟩)|(rw[List.length_set];done)|(rw[fzM_len,List.length_set];done)|exact fzI_12 hI (by have:=of_decide_eq_true d1;omega) (by first|exact beh_1 (by assumption)|exact beh_2 (by assumption)|exact beh_3 (by assumption)|exact beh_4 hi1 (by assumption) (by assumption)|exact beh_5 hi1 (by assumption) (by assumption))|(have hk:¬k<(parM (at_ S i)).length:=(by have:=of_decide_eq_false d1;omega);first|(rw[fzI_e hI hk];done)|(rw[fzI_e hI hk];rfl))|(have hp:decide ((i:Int)>0)=true:=(by assumption);have:=of_decide_eq_true hp;first|(rw[wi1 (by omega) hi1];omega)|(rw[w64 (by omega) (by omega)];omega)))
theorem fz_s0 (D:Int)(S:List Con)(r i:Nat)(C:List Con)(hc:c12 D S (r+1) i C none)(ih:∀C o,c12 D S r (i+1) C o→FnOk Tryd.prog EV.ng (fzA D S r (i+1) C o)):FnOk Tryd.prog EV.ng (fzA D S (r+1) i C none):=by
 have hcc:=hc
 obtain⟨hc1,hc2,hc3,hc4,hc5,hc6,hc7,hc8⟩:=hcc
 have hz:((i:Int)==(C.length:Int))=false:=beq_eq_false_iff_ne.2 (by omega)
 have h0:0≤(S.getD i z0c).dim:=(by have:=(hc7.at (k:=i) (by omega)).2.1;show 0≤(at_ S i).dim;omega)
 refine fn_of_run evOk (callF_ok evOk (orcOf_ok entsPa_ok) 8) (A:=fzA D S (r+1) i C none) Tryd.func63 rfl (N:=(Nat.max 5 Tryd.f63.ntmps)) rfl (one_ann (fz_l0 D S r i C hc ih)) evNg ?_
 intro d hd
 cases d
 rotate_right
 have hd:((fzM D S (r+1) i (C,none)).2.isNone)=true:=hd
 refine oe ((fzM D S (r+1) i (C,none)).snd.isNone) (fun d1=>⟨[false,true],(let v1:=S.getD i z0c;let v2:=(fzM D S (r+1) i (C,none));let v3:=parM (at_ S i);[rq (v2.fst.length),rq (v2.fst),rq S.length,D=D,S=S,rq (↑i:Int),(parM v1).length=v3.length∧(fun i_1=>((parM v1).getD i_1 z0c).rvs)=fun i_1=>(v3.getD i_1 z0c).rvs,(↑(parM v1).length:Int)=↑v3.length,rq C.length,C=C,rq S.length,D=D,S=S,ty d1,(0:Int)≤v1.dim,i<S.length,(0:Int)≤↑i∧(↑i:Int)<↑S.length,Dec ((↑i:Int)==↑C.length) false]),by kernel_rfl,⟨?_,?_,?_,?_,?_,?_,?_,?_,?_,?_,?_,?_,?_,d1,?_,?_,?_,hz⟩⟩)
  (fun d1=>CtG.no ?_)
 rotate_right
 have hd:((fzM D S (r+1) i (C,none)).2.isNone)=false:=hd
 refine oe ((fzM D S (r+1) i (C,none)).snd.isNone) (fun d1=>CtG.no ?_)
  (fun d1=>⟨[false,false],(let v1:=(fzM D S (r+1) i (C,none));let v2:=S.getD i z0c;let v3:=parM (at_ S i);[rq (v1.fst.length),rq (v1.fst),rq S.length,rq ((liL v1.snd).length),D=D,S=S,rq (liL v1.snd),rq (↑i:Int),(parM v2).length=v3.length∧(fun i_1=>((parM v2).getD i_1 z0c).rvs)=fun i_1=>(v3.getD i_1 z0c).rvs,(↑(parM v2).length:Int)=↑v3.length,rq C.length,C=C,rq S.length,D=D,S=S,ty d1,(0:Int)≤v2.dim,i<S.length,(0:Int)≤↑i∧(↑i:Int)<↑S.length,Dec ((↑i:Int)==↑C.length) false]),by kernel_rfl,⟨?_,?_,?_,?_,?_,?_,?_,?_,?_,?_,?_,?_,?_,?_,?_,d1,?_,?_,?_,hz⟩⟩)
 all_goals first|(refine CtG.mk ?_;(first|(have hd:(fzM D S (r+1) i (C,none)).2.isNone=_:=hd;exact Bool.noConfusion (hd.symm.trans d1))))|(first|(with_reducible rfl)|exact⟨rfl,rfl⟩|rfl|omega|exact h0)
theorem fz_s1 (D:Int)(S:List Con)(r i:Nat)(C:List Con)(X:List QfSy.Loc)(hc:c12 D S (r+1) i C (some X))(ih:∀C o,c12 D S r (i+1) C o→FnOk Tryd.prog EV.ng (fzA D S r (i+1) C o)):FnOk Tryd.prog EV.ng (fzA D S (r+1) i C (some X)):=by
 have hcc:=hc
 obtain⟨hc1,hc2,hc3,hc4,hc5,hc6,hc7,hc8⟩:=hcc
 have hz:((i:Int)==(C.length:Int))=false:=beq_eq_false_iff_ne.2 (by omega)
 have h0:0≤(S.getD i z0c).dim:=(by have:=(hc7.at (k:=i) (by omega)).2.1;show 0≤(at_ S i).dim;omega)
 refine fn_of_run evOk (callF_ok evOk (orcOf_ok entsPa_ok) 8) (A:=fzA D S (r+1) i C (some X)) Tryd.func63 rfl (N:=(Nat.max 5 Tryd.f63.ntmps)) rfl (one_ann (fz_l1 D S r i C X hc ih)) evNg ?_
 intro d hd
 cases d
 ·exact Bool.noConfusion (show false=true from hd)
 ·refine⟨[false],(let y1:=(fzM D S (r+1) i (C,some X));let y2:=S.getD i z0c;let y3:=parM (at_ S i);[rq (y1.fst.length),rq (y1.fst),rq S.length,rq ((liL y1.snd).length),D=D,S=S,rq (liL y1.snd),rq (↑i:Int),(parM y2).length=y3.length∧(fun i_1=>((parM y2).getD i_1 z0c).rvs)=fun i_1=>(y3.getD i_1 z0c).rvs,(↑(parM y2).length:Int)=↑y3.length,rq C.length,C=C,rq S.length,rq X.length,D=D,S=S,X=X,(0:Int)≤y2.dim,i<S.length,(0:Int)≤↑i∧(↑i:Int)<↑S.length,Dec ((↑i:Int)==↑C.length) false]),by kernel_rfl,⟨?_,?_,?_,?_,?_,?_,?_,?_,?_,?_,?_,?_,?_,?_,?_,?_,?_,?_,?_,?_,hz⟩⟩
  all_goals first|(refine CtG.mk ?_;(first|(have hd:(fzM D S (r+1) i (C,none)).2.isNone=_:=hd;exact Bool.noConfusion (hd.symm.trans d1))))|(first|(with_reducible rfl)|exact⟨rfl,rfl⟩|rfl|omega|exact h0)
theorem fz_ok (D:Int)(S:List Con):∀(r i:Nat)(C:List Con)(o:Option (List QfSy.Loc)),c12 D S r i C o→FnOk Tryd.prog EV.ng (fzA D S r i C o)
 |0,i,C,none,hc=>fz_b0 D S i C hc
 |0,i,C,some X,hc=>fz_b1 D S i C X hc
 |r+1,i,C,none,hc=>fz_s0 D S r i C hc (fun C o k=>fz_ok D S r (i+1) C o k)
 |r+1,i,C,some X,hc=>fz_s1 D S r i C X hc (fun C o k=>fz_ok D S r (i+1) C o k)
def tlM (D:Int)(S:List Con)(o:Option (List QfSy.Loc)):Option (List QfSy.Loc):=(fzM D S S.length 0 (S,o)).2
def c13 (D:Int)(S:List Con)(o:Option (List QfSy.Loc)):Prop:=c12 D S S.length 0 S o
def tlH (D:Int)(S:List Con)(o:Option (List QfSy.Loc))(b:Nat):List (Nat×Blk):=(1002,conB S)::lcH D o b
def tlA (D:Int)(S:List Con)(o:Option (List QfSy.Loc)):FnA:=⟨31,[.lo 1002 S.length,.ptr 1000 0,.ptr 1001 0],tlH D S o 1010,1100,(match o with
 |none=>some (tlM D S none).isNone
 |some _=>none),fun t=>match o,t with
 |none,true=>(.tup [],tlH D S none 1150,1900)
 |none,false=>(.tup [],tlH D S (some (liL (tlM D S none))) 1150,1900)
 |some X,_=>(.tup [],tlH D S (some (liL (tlM D S (some X)))) 1150,1900)⟩
def goT (D:Int)(S:List Con):Nat→List AV→Hs→Option (FnA×List Prop):=fun f args H=>bif Nat.beq f 63 then(match args with
 |[_,_,.ptr b1 _,_,_]=>match vOf H.m b1 with
  |some (.fn _ [.ptr bl _,_])=>match oVar H.m bl with
   |none=>none
   |some o=>some (fzA D S S.length 0 S o,[c12 D S S.length 0 S o])
  |_=>none
 |_=>none)else none
theorem goT_ok (D:Int)(S:List Con):∀f args H A ms,goT D S f args H=some (A,ms)→(∀q∈ms,q)→FnOk Tryd.prog EV.ng A:=by
 intro f args H A ms hq hm
 unfold goT at hq
 replace hq:=(bif_some hq).2
 split at hq
 ·split at hq
  ·split at hq
   ·cases hq
   ·cases hq
    exact fz_ok D S _ _ _ _ (all_one hm)
  ·cases hq
 ·cases hq
theorem tl_0 (D:Int)(S:List Con)(hc:c13 D S none):FnOk Tryd.prog EV.ng (tlA D S none):=by
 have hcc:=hc
 obtain⟨hc1,hc2,hc3,hc4,hc5,hc6,hc7,hc8⟩:=hcc
 have hb:S.length.beq 0=false:=(by cases hq:S.length.beq 0 with
  |false=>rfl
  |true=>have:=Nat.eq_of_beq_eq_true hq;omega)
 refine fn_of_run evOk (callF_ok evOk (orcFnM_ok (goT_ok D S) (noOrc_ok _ _)) 8) (A:=tlA D S none) Tryd.func31 rfl (N:=(Nat.max 3 Tryd.f31.ntmps)) rfl none_ann evNg ?_
 intro d hd
 cases d
 rotate_right
 have hd:((tlM D S none).isNone)=true:=hd
 refine oe ((fzM D S S.length (0:Nat) (S,none)).snd.isNone) (fun d1=>⟨[true],[S=S,D=D,c12 D S S.length (0:Nat) S none,(0:Int)=↑(0:Nat),rq S.length,S=S,rq S.length,D=D,S=S,ty d1,(0:Nat)<S.length∧S.length≤1000000,rq S.length],by kernel_rfl,⟨?_,?_,?_,?_,?_,?_,?_,?_,?_,d1,?_,(?_:S.length=S.length)⟩⟩)
  (fun d1=>CtG.no ?_)
 rotate_right
 have hd:((tlM D S none).isNone)=false:=hd
 refine oe ((fzM D S S.length (0:Nat) (S,none)).snd.isNone) (fun d1=>CtG.no ?_)
  (fun d1=>⟨[false],(let v1:=(fzM D S S.length (0:Nat) (S,none));[S=S,(liL v1.snd).length=(liL (tlM D S none)).length,D=D,liL v1.snd=liL (tlM D S none),c12 D S S.length (0:Nat) S none,(0:Int)=↑(0:Nat),rq S.length,S=S,rq S.length,D=D,S=S,ty d1,(0:Nat)<S.length∧S.length≤1000000,rq S.length]),by kernel_rfl,⟨?_,?_,?_,?_,?_,?_,?_,?_,?_,?_,?_,d1,?_,(?_:S.length=S.length)⟩⟩)
 all_goals first|(refine CtG.mk ?_;(first|(have hd:(fzM D S S.length 0 (S,none)).2.isNone=_:=hd;exact Bool.noConfusion (hd.symm.trans d1))))|(first|(with_reducible rfl)|exact⟨rfl,rfl⟩|rfl|exact hc|omega|exact⟨hc3,by omega⟩)
theorem tl_1 (D:Int)(S:List Con)(X:List QfSy.Loc)(hc:c13 D S (some X)):FnOk Tryd.prog EV.ng (tlA D S (some X)):=by
 have hcc:=hc
 obtain⟨hc1,hc2,hc3,hc4,hc5,hc6,hc7,hc8⟩:=hcc
 have hb:S.length.beq 0=false:=(by cases hq:S.length.beq 0 with
  |false=>rfl
  |true=>have:=Nat.eq_of_beq_eq_true hq;omega)
 refine fn_of_run evOk (callF_ok evOk (orcFnM_ok (goT_ok D S) (noOrc_ok _ _)) 8) (A:=tlA D S (some X)) Tryd.func31 rfl (N:=(Nat.max 3 Tryd.f31.ntmps)) rfl none_ann evNg ?_
 intro d hd
 cases d
 ·exact Bool.noConfusion (show false=true from hd)
 ·refine⟨[],(let y1:=(fzM D S S.length (0:Nat) (S,some X));[S=S,(liL y1.snd).length=(liL (tlM D S (some X))).length,D=D,liL y1.snd=liL (tlM D S (some X)),c12 D S S.length (0:Nat) S (some X),(0:Int)=↑(0:Nat),rq S.length,S=S,rq S.length,rq X.length,D=D,S=S,X=X,(0:Nat)<S.length∧S.length≤1000000,rq S.length]),by kernel_rfl,⟨?_,?_,?_,?_,?_,?_,?_,?_,?_,?_,?_,?_,?_,?_,(?_:S.length=S.length)⟩⟩
  all_goals first|(refine CtG.mk ?_;((exact(5:Nat))))|(first|(with_reducible rfl)|exact⟨rfl,rfl⟩|rfl|exact hc|omega|exact⟨hc3,by omega⟩)
theorem tl_ok (D:Int)(S:List Con):∀o:Option (List QfSy.Loc),c13 D S o→FnOk Tryd.prog EV.ng (tlA D S o)
 |none,h=>tl_0 D S h
 |some X,h=>tl_1 D S X h
abbrev LcO:=Option (List QfSy.Loc)
def dmx (e n a:Nat):Nat:=bif Nat.beq e 0 then n else Nat.min n (a/e)
def newC (e d:Nat):Con:=⟨(e:Int),(d:Int),1,false,0⟩
def scM (fnd:List Con→LcO→LcO):Nat→Nat→Nat→Nat→List Con→LcO→LcO
 |0,_,_,_,_,o=>o
 |f+1,e,n,a,L,o=>bif Nat.beq n 0 then(bif Nat.beq a 0 then fnd L o else o)else bif Nat.blt a (n*e)then o else(List.range (dmx e n a)).foldl (fun o k=>scM fnd f (e+1) (n-(k+1)) (a-(k+1)*e) (L++[newC e (k+1)]) o) (scM fnd f (e+1) n a L o)
section
variable (fnd:List Con→LcO→LcO)
def scP (f e n a:Nat)(L:List Con)(o:LcO)(k:Nat):LcO:=scM fnd f (e+1) (n-(k+1)) (a-(k+1)*e) (L++[newC e (k+1)]) o
def scK (f e n a:Nat)(L:List Con)(o:LcO)(k:Nat):LcO:=(List.range k).foldl (scP fnd f e n a L) o
variable {fnd}
theorem dmx_lt {e n a k:Nat}:k<dmx e n a↔k+1≤n∧(k+1)*e≤a:=by
 unfold dmx
 cases h:Nat.beq e 0 with
 |true=>
  have h0:e=0:=Nat.eq_of_beq_eq_true h
  subst h0
  simp only[cond_true,Nat.mul_zero]
  omega
 |false=>
  have h0:0<e:=Nat.pos_of_ne_zero (Nat.ne_of_beq_eq_false h)
  simp only[cond_false]
  rw[←Nat.le_div_iff_mul_le h0]
  show k<min n (a/e)↔_
  omega
theorem dmx_pos {e n a:Nat}(h0:0<n)(h:n*e≤a):0<dmx e n a:=by
 rw[dmx_lt]
 refine⟨h0,Nat.le_trans ?_ h⟩
 rw[Nat.zero_add]
 exact Nat.mul_le_mul_right e h0
theorem dmx_le {e n a:Nat}:dmx e n a≤n:=by
 rcases Nat.lt_or_ge n (dmx e n a)with h|h
 ·have:=(dmx_lt.1 h).1;omega
 ·exact h
theorem scM_n0 {f e a:Nat}{L:List Con}{o:LcO}:scM fnd (f+1) e 0 a L o=bif Nat.beq a 0 then fnd L o else o:=rfl
theorem scM_end {f e n a:Nat}{L:List Con}{o:LcO}(h0:0<n)(h:a<n*e):scM fnd (f+1) e n a L o=o:=by
 have h1:Nat.beq n 0=false:=by cases hb:Nat.beq n 0 with
  |false=>rfl
  |true=>have:=Nat.eq_of_beq_eq_true hb;omega
 rw[scM,h1,show Nat.blt a (n*e)=true from Nat.ble_eq_true_of_le h];rfl
theorem scM_go {f e n a:Nat}{L:List Con}{o:LcO}(h0:0<n)(h:n*e≤a):scM fnd (f+1) e n a L o=scK fnd f e n a L (scM fnd f (e+1) n a L o) (dmx e n a):=by
 have h1:Nat.beq n 0=false:=by cases hb:Nat.beq n 0 with
  |false=>rfl
  |true=>have:=Nat.eq_of_beq_eq_true hb;omega
 have h2:Nat.blt a (n*e)=false:=by cases hb:Nat.blt a (n*e)with
  |false=>rfl
  |true=>have:=Nat.le_of_ble_eq_true hb;omega
 rw[scM,h1,h2];rfl
theorem scK_s {f e n a k:Nat}{L:List Con}{o:LcO}:scK fnd f e n a L o (k+1)=scP fnd f e n a L (scK fnd f e n a L o k) k:=by
 unfold scK
 rw[List.range_succ,List.foldl_append]
 rfl
theorem scM_ge (hf:∀L o,(liL o).length≤(liL (fnd L o)).length):∀(f e n a:Nat)(L:List Con)(o:LcO),(liL o).length≤(liL (scM fnd f e n a L o)).length
 |0,_,_,_,_,o=>Nat.le_refl _
 |f+1,e,n,a,L,o=>by
  rcases Nat.eq_zero_or_pos n with h0|h0
  ·subst h0
   rw[scM_n0]
   cases Nat.beq a 0 with
   |true=>exact hf L o
   |false=>exact Nat.le_refl _
  ·rcases Nat.lt_or_ge a (n*e)with h|h
   ·rw[scM_end h0 h];exact Nat.le_refl _
   ·rw[scM_go h0 h]
    have key:∀(k:Nat)(o:LcO),(liL o).length≤(liL (scK fnd f e n a L o k)).length:=by
     intro k
     induction k with
     |zero=>intro o;exact Nat.le_refl _
     |succ k ih=>
      intro o
      rw[scK_s]
      exact Nat.le_trans (ih o) (scM_ge hf f _ _ _ _ _)
    exact Nat.le_trans (scM_ge hf f _ _ _ _ _) (key _ _)
theorem scK_ge (hf:∀L o,(liL o).length≤(liL (fnd L o)).length){f e n a:Nat}{L:List Con}{o:LcO}{k m:Nat}(h:k≤m):(liL (scK fnd f e n a L o k)).length≤(liL (scK fnd f e n a L o m)).length:=by
 induction m with
 |zero=>rw[show k=0 by omega];exact Nat.le_refl _
 |succ m ih=>
  rcases Nat.lt_or_ge m k with h1|h1
  ·rw[show k=m+1 by omega];exact Nat.le_refl _
  ·rw[scK_s]
   exact Nat.le_trans (ih h1) (scM_ge hf f _ _ _ _ _)
theorem scM_some (hs:∀L X,fnd L (some X)=some (liL (fnd L (some X)))):∀(f e n a:Nat)(L:List Con)(X:List QfSy.Loc),scM fnd f e n a L (some X)=some (liL (scM fnd f e n a L (some X)))
 |0,_,_,_,_,X=>rfl
 |f+1,e,n,a,L,X=>by
  rcases Nat.eq_zero_or_pos n with h0|h0
  ·subst h0
   rw[scM_n0]
   cases Nat.beq a 0 with
   |true=>exact hs L X
   |false=>rfl
  ·rcases Nat.lt_or_ge a (n*e)with h|h
   ·rw[scM_end h0 h];rfl
   ·rw[scM_go h0 h]
    have key:∀(k:Nat)(X:List QfSy.Loc),scK fnd f e n a L (some X) k=some (liL (scK fnd f e n a L (some X) k)):=by
     intro k
     induction k with
     |zero=>intro X;rfl
     |succ k ih=>
      intro X
      rw[scK_s,ih X]
      exact scM_some hs f _ _ _ _ _
    rw[scM_some hs f (e+1) n a L X]
    exact key _ _
end
end Go.Proofs.YtmeljalphfcieaaDoor.S
namespace Go.QfSy
section
open Go.RowKit
end
end Go.QfSy
namespace Go.Proofs.YtmeljalphfcieaaDoor.S
open Go.QfSy Go.RowKit
def loM (D p:Int)(C:List Con)(o:Option (List QfSy.Loc)):Option (List QfSy.Loc):=bif keM D p C then some (liL o++[⟨p,C⟩])else o
def oxM (D p:Int)(S:List Con):Nat→Nat→List Con→Option (List QfSy.Loc)→List Con×Option (List QfSy.Loc)
 |0,_,C,o=>(C,loM D p C o)
 |r+1,i,C,o=>oxM D p S r (i+1) ((oxM D p S r (i+1) (C.set i (S.getD i z0c)) o).1.set i (negC (S.getD i z0c))) (oxM D p S r (i+1) (C.set i (S.getD i z0c)) o).2
theorem oxM_len (D p:Int)(S:List Con):∀(r i:Nat)(C:List Con)(o:Option (List QfSy.Loc)),(oxM D p S r i C o).1.length=C.length
 |0,i,C,o=>rfl
 |r+1,i,C,o=>by unfold oxM;rw[oxM_len,List.length_set,oxM_len,List.length_set]
theorem loM_some (D p:Int)(C:List Con)(X:List QfSy.Loc):loM D p C (some X)=some (liL (loM D p C (some X))):=by
 unfold loM
 cases keM D p C<;>rfl
theorem oxM_some (D p:Int)(S:List Con):∀(r i:Nat)(C:List Con)(X:List QfSy.Loc),(oxM D p S r i C (some X)).2=some (liL (oxM D p S r i C (some X)).2)
 |0,i,C,X=>loM_some D p C X
 |r+1,i,C,X=>by
  unfold oxM
  rw[oxM_some D p S r (i+1) (C.set i (S.getD i z0c)) X]
  exact oxM_some D p S r (i+1) _ _
theorem loM_le (D p:Int)(C:List Con)(o:Option (List QfSy.Loc)):(liL (loM D p C o)).length≤(liL o).length+1:=by
 unfold loM
 cases keM D p C<;>simp[liL]
theorem loM_ge (D p:Int)(C:List Con)(o:Option (List QfSy.Loc)):(liL o).length≤(liL (loM D p C o)).length:=by
 unfold loM
 cases keM D p C<;>simp[liL]
theorem oxM_le (D p:Int)(S:List Con):∀(r i:Nat)(C:List Con)(o:Option (List QfSy.Loc)),(liL (oxM D p S r i C o).2).length≤(liL o).length+2^r
 |0,i,C,o=>loM_le D p C o
 |r+1,i,C,o=>by
  unfold oxM
  have h1:=oxM_le D p S r (i+1) (C.set i (S.getD i z0c)) o
  have h2:=Nat.pow_succ 2 r
  have h3:=oxM_le D p S r (i+1) ((oxM D p S r (i+1) (C.set i (S.getD i z0c)) o).1.set i (negC (S.getD i z0c))) (oxM D p S r (i+1) (C.set i (S.getD i z0c)) o).2
  omega
theorem oxM_ge (D p:Int)(S:List Con):∀(r i:Nat)(C:List Con)(o:Option (List QfSy.Loc)),(liL o).length≤(liL (oxM D p S r i C o).2).length
 |0,i,C,o=>loM_ge D p C o
 |r+1,i,C,o=>by
  unfold oxM
  have h1:=oxM_ge D p S r (i+1) (C.set i (S.getD i z0c)) o
  have h3:=oxM_ge D p S r (i+1) ((oxM D p S r (i+1) (C.set i (S.getD i z0c)) o).1.set i (negC (S.getD i z0c))) (oxM D p S r (i+1) (C.set i (S.getD i z0c)) o).2
  omega
def oxH (D p:Int)(S C:List Con)(o:Option (List QfSy.Loc))(b:Nat):List (Nat×Blk):=[(1000,plB [.lo 1001 C.length] 44),(1001,conB C),(1002,plB [.fn 43 [.ptr 1005 0,.ptr 1006 0,.ptr 1007 0]] 79),(1003,plB [.fn 42 [.ptr 1008 0]] 76),(1004,plB [.fn 65 [.ptr 1000 0,.ptr 1002 0,.ptr 1003 0,.ptr 1004 0]] 42),(1005,plB [liA b o] 27),(1006,plB [.vint .i64 D] 2),(1007,plB [.vint .i64 p] 2),(1008,plB [.lo 1009 S.length] 44),(1009,conB S)]++liB b o
def oxA (D p:Int)(S:List Con)(r i:Nat)(C:List Con)(o:Option (List QfSy.Loc)):FnA:=⟨65,[.vint .i64 (i:Int),.ptr 1000 0,.ptr 1002 0,.ptr 1003 0,.ptr 1004 0],oxH D p S C o 1010,1100,(match o with
 |none=>some (oxM D p S r i C none).2.isNone
 |some _=>none),fun t=>match o,t with
 |none,true=>(.tup [],oxH D p S (oxM D p S r i C none).1 none 1150,1900)
 |none,false=>(.tup [],oxH D p S (oxM D p S r i C none).1 (some (liL (oxM D p S r i C none).2)) 1150,1900)
 |some X,_=>(.tup [],oxH D p S (oxM D p S r i C (some X)).1 (some (liL (oxM D p S r i C (some X)).2)) 1150,1900)⟩
def c20 (D p:Int)(S:List Con)(r i:Nat)(C:List Con)(o:Option (List QfSy.Loc)):Prop:=i+r=C.length∧S.length=C.length∧0<C.length∧C.length≤10∧(liL o).length+2^r≤100000∧(0<D∧D≤2147483647)∧2≤p∧p≤2147483647∧p.toNat%2≠0
theorem lo_t {D p:Int}{C:List Con}{o:Option (List QfSy.Loc)}(h2:keM D p C=true):loM D p C o=some (liL o++[⟨p,C⟩]):=by unfold loM;rw[h2];rfl
theorem lo_f {D p:Int}{C:List Con}{o:Option (List QfSy.Loc)}(h2:keM D p C=false):loM D p C o=o:=by unfold loM;rw[h2];rfl
theorem ox_b0 (D p:Int)(S:List Con)(j:Nat)(C:List Con)(hc:c20 D p S 0 j C none):FnOk Tryd.prog EV.ng (oxA D p S 0 j C none):=by
 obtain⟨hc1,hc2,hc3,hc4,hc5,hc6,hc7,hc8,hc9⟩:=hc
 have hz:((j:Int)==(C.length:Int))=true:=by rw[show j=C.length by omega];exact beq_self_eq_true _
 refine fn_of_run evOk (callF_ok evOk (orcFnM_ok (goKe_ok D p) (noOrc_ok _ _)) 8) (A:=oxA D p S 0 j C none) Tryd.func65 rfl (N:=(Nat.max 5 Tryd.f65.ntmps)) rfl none_ann evNg ?_
 intro d hd
 cases d
 rotate_right
 have hd:((oxM D p S 0 j C none).2.isNone)=true:=hd
 refine oe (keM D p C) (fun d1=>CtG.no ?_)
  (fun d1=>⟨[true,false],(let v1:=oxM D p S (0:Nat) j C none;[C.length=v1.fst.length,C=v1.fst,D=D,p=p,rq S.length,S=S,ke0 C D p none,D=D,p=p,rq C.length,C=C,ty d1,Dec ((↑j:Int)==↑C.length) true]),by kernel_rfl,⟨?_,?_,?_,?_,?_,?_,?_,?_,?_,?_,?_,d1,hz⟩⟩)
 rotate_right
 have hd:((oxM D p S 0 j C none).2.isNone)=false:=hd
 refine oe (keM D p C) (fun d1=>⟨[true,true],(let v1:=oxM D p S (0:Nat) j C none;[C.length=v1.fst.length,C=v1.fst,(liL none++[Loc.mk p C]).length=(liL v1.snd).length,D=D,p=p,rq S.length,S=S,[Loc.mk p C]=liL v1.snd,ke0 C D p none,D=D,p=p,rq C.length,C=C,ty d1,Dec ((↑j:Int)==↑C.length) true]),by kernel_rfl,⟨?_,?_,?_,?_,?_,?_,?_,?_,?_,?_,?_,?_,?_,d1,hz⟩⟩)
  (fun d1=>CtG.no ?_)
 all_goals first|(refine CtG.mk ?_;(first|(have hd:(loM D p C none).isNone=_:=hd;first|(rw[lo_t d1]at hd;cases hd;done)|(rw[lo_f d1]at hd;cases hd;done))))|(first|(with_reducible rfl)|exact⟨rfl,rfl⟩|rfl|exact⟨hc3,by omega,by omega,hc6.1,hc6.2,hc7,hc8,.inr hc9⟩|(show _=(liL (loM D p C none)).length;rw[lo_t d1]<;>rfl)|(show _=liL (loM D p C none);rw[lo_t d1]<;>rfl)|(show _=(liL (loM D p C none)).length;rw[lo_f d1]<;>rfl)|(show _=liL (loM D p C none);rw[lo_f d1]<;>rfl))
theorem ox_b1 (D p:Int)(S:List Con)(j:Nat)(C:List Con)(X:List QfSy.Loc)(hc:c20 D p S 0 j C (some X)):FnOk Tryd.prog EV.ng (oxA D p S 0 j C (some X)):=by
 obtain⟨hc1,hc2,hc3,hc4,hc5,hc6,hc7,hc8,hc9⟩:=hc
 have hz:((j:Int)==(C.length:Int))=true:=by rw[show j=C.length by omega];exact beq_self_eq_true _
 refine fn_of_run evOk (callF_ok evOk (orcFnM_ok (goKe_ok D p) (noOrc_ok _ _)) 8) (A:=oxA D p S 0 j C (some X)) Tryd.func65 rfl (N:=(Nat.max 5 Tryd.f65.ntmps)) rfl none_ann evNg ?_
 intro d hd
 cases d
 ·exact Bool.noConfusion (show false=true from hd)
 ·refine oe (keM D p C) (fun d1=>⟨[true,true],(let v1:=oxM D p S (0:Nat) j C (some X);[C.length=v1.fst.length,C=v1.fst,(liL (some X)++[Loc.mk p C]).length=(liL v1.snd).length,D=D,p=p,rq S.length,S=S,liL (some X)++[Loc.mk p C]=liL v1.snd,ke0 C D p (some X),rq X.length,D=D,p=p,rq C.length,C=C,X=X,ty d1,Dec ((↑j:Int)==↑C.length) true]),by kernel_rfl,?_⟩)
   (fun d1=>⟨[true,false],(let v1:=oxM D p S (0:Nat) j C (some X);[C.length=v1.fst.length,C=v1.fst,X.length=(liL v1.snd).length,D=D,p=p,rq S.length,S=S,X=liL v1.snd,ke0 C D p (some X),rq X.length,D=D,p=p,rq C.length,C=C,X=X,ty d1,Dec ((↑j:Int)==↑C.length) true]),by kernel_rfl,?_⟩)
  all_goals with_reducible(repeat' first|assumption|refine alC ?_ ?_|refine al1 ?_|(delta Dec;assumption))
  all_goals first|(refine CtG.mk ?_;(first|(have hd:(loM D p C (some X)).isNone=_:=hd;first|(rw[lo_t d1]at hd;cases hd;done)|(rw[lo_f d1]at hd;cases hd;done))))|(first|(with_reducible rfl)|exact⟨rfl,rfl⟩|rfl|exact⟨hc3,by omega,by omega,hc6.1,hc6.2,hc7,hc8,.inr hc9⟩|(show _=(liL (loM D p C (some X))).length;rw[lo_t d1]<;>rfl)|(show _=liL (loM D p C (some X));rw[lo_t d1]<;>rfl)|(show _=(liL (loM D p C (some X))).length;rw[lo_f d1]<;>rfl)|(show _=liL (loM D p C (some X));rw[lo_f d1]<;>rfl))
def goO (D p:Int)(S:List Con)(r i:Nat):Nat→List AV→Hs→Option (FnA×List Prop):=fun f args H=>bif Nat.beq f 65 then(match args with
 |[_,.ptr b0 _,.ptr b1 _,_,_]=>match cVar H.m b0 with
  |none=>none
  |some C=>match vOf H.m b1 with
   |some (.fn _ [.ptr bl _,_,_])=>match oVar H.m bl with
    |none=>none
    |some o=>some (oxA D p S r i C o,[c20 D p S r i C o])
   |_=>none
 |_=>none)else none
theorem goO_ok {D p:Int}{S:List Con}{r i:Nat}(ih:∀C o,c20 D p S r i C o→FnOk Tryd.prog EV.ng (oxA D p S r i C o)):∀f args H A ms,goO D p S r i f args H=some (A,ms)→(∀q∈ms,q)→FnOk Tryd.prog EV.ng A:=by
 intro f args H A ms hq hm
 unfold goO at hq
 replace hq:=(bif_some hq).2
 split at hq
 ·split at hq
  ·cases hq
  ·split at hq
   ·split at hq
    ·cases hq
    ·cases hq
     exact ih _ _ (all_one hm)
   ·cases hq
 ·cases hq
section
variable {D p:Int}{S:List Con}{r i:Nat}{C:List Con}{o:Option (List QfSy.Loc)}{x y:Con}
theorem ox_s:oxM D p S (r+1) i C o=oxM D p S r (i+1) ((oxM D p S r (i+1) (C.set i (S.getD i z0c)) o).1.set i (negC (S.getD i z0c))) (oxM D p S r (i+1) (C.set i (S.getD i z0c)) o).2:=rfl
theorem c20_1 (hc:c20 D p S (r+1) i C o):c20 D p S r (i+1) (C.set i x) o:=by
 obtain⟨hc1,hc2,hc3,hc4,hc5,hc6⟩:=hc
 have:=Nat.pow_succ 2 r
 unfold c20
 rw[List.length_set]
 exact⟨by omega,hc2,hc3,hc4,by omega,hc6⟩
theorem c20_2 (hc:c20 D p S (r+1) i C o):c20 D p S r (i+1) ((oxM D p S r (i+1) (C.set i x) o).1.set i y) (oxM D p S r (i+1) (C.set i x) o).2:=by
 obtain⟨hc1,hc2,hc3,hc4,hc5,hc6⟩:=hc
 have:=Nat.pow_succ 2 r
 have hl:=oxM_le D p S r (i+1) (C.set i x) o
 unfold c20
 rw[List.length_set,oxM_len,List.length_set]
 exact⟨by omega,hc2,hc3,hc4,by omega,hc6⟩
theorem c20_N (hc:c20 D p S (r+1) i C o)(hn:(oxM D p S r (i+1) (C.set i x) o).2.isNone=true):c20 D p S r (i+1) ((oxM D p S r (i+1) (C.set i x) o).1.set i y) none:=by
 have:=c20_2 (x:=x) (y:=y) hc
 rw[isN hn]at this
 exact this
theorem c20_S (hc:c20 D p S (r+1) i C o)(hn:(oxM D p S r (i+1) (C.set i x) o).2.isNone=false):c20 D p S r (i+1) ((oxM D p S r (i+1) (C.set i x) o).1.set i y) (some (liL (oxM D p S r (i+1) (C.set i x) o).2)):=by
 have:=c20_2 (x:=x) (y:=y) hc
 rw[isSm hn]at this
 exact this
theorem c20_X {X:List QfSy.Loc}(hc:c20 D p S (r+1) i C (some X)):c20 D p S r (i+1) ((oxM D p S r (i+1) (C.set i x) (some X)).1.set i y) (some (liL (oxM D p S r (i+1) (C.set i x) (some X)).2)):=by
 have:=c20_2 (x:=x) (y:=y) hc
 rw[oxM_some]at this
 exact this
end
theorem ox_s0 (D p:Int)(S:List Con)(r i:Nat)(C:List Con)(hc:c20 D p S (r+1) i C none)(ih:∀C o,c20 D p S r (i+1) C o→FnOk Tryd.prog EV.ng (oxA D p S r (i+1) C o)):FnOk Tryd.prog EV.ng (oxA D p S (r+1) i C none):=by
 have hcc:=hc
 obtain⟨hc1,hc2,hc3,hc4,hc5,hc6,hc7,hc8,hc9⟩:=hcc
 have hz:((i:Int)==(C.length:Int))=false:=beq_eq_false_iff_ne.2 (by omega)
 have hlen:=oxM_len D p S r (i+1) (C.set i (S.getD i z0c)) none
 rw[List.length_set]at hlen
 refine fn_of_run evOk (callF_ok evOk (orcFnM_ok (goO_ok ih) (noOrc_ok _ _)) 8) (A:=oxA D p S (r+1) i C none) Tryd.func65 rfl (N:=(Nat.max 5 Tryd.f65.ntmps)) rfl none_ann evNg ?_
 intro d hd
 cases d
 rotate_right
 have hd:((oxM D p S (r+1) i C none).2.isNone)=true:=hd
 refine oe ((oxM D p S r (i+1) (C.set i (S.getD i z0c)) none).snd.isNone) (fun d1=>oe ((oxM D p S r (i+1) ((oxM D p S r (i+1) (C.set i (S.getD i z0c)) none).fst.set i (Con.mk (S.getD i z0c).exp (S.getD i z0c).dim (-1:Int) (S.getD i z0c).odd (S.getD i z0c).oddity)) none).snd.isNone) (fun d2=>⟨(tp 211),(let v3:=i+1;let v2:=C.set i (S.getD i z0c);let v4:=oxM D p S r v3 v2 none;let v1:=v4.fst.set i (Con.mk (S.getD i z0c).exp (S.getD i z0c).dim (-1:Int) (S.getD i z0c).odd (S.getD i z0c).oddity);let v5:=oxM D p S (r+1) i C none;[(oxM D p S r v3 v1 none).fst.length=v5.fst.length,(oxM D p S r v3 v1 none).fst=v5.fst,D=D,p=p,rq S.length,S=S,c20 D p S r v3 v1 none,w6.wrap ((↑i:Int)+1)=↑v3,v4.fst.length=v1.length,rq v1,D=D,p=p,rq S.length,S=S,ty d2,i<v4.fst.length,(0:Int)≤↑i∧(↑i:Int)<↑v4.fst.length,c20 D p S r v3 v2 none,w6.wrap ((↑i:Int)+1)=↑v3,C.length=v2.length,rq v2,D=D,p=p,rq S.length,S=S,ty d1,i<C.length,(0:Int)≤↑i∧(↑i:Int)<↑C.length,i<S.length,(0:Int)≤↑i∧(↑i:Int)<↑S.length,Dec ((↑i:Int)==↑C.length) false]),by kernel_rfl,⟨?_,?_,?_,?_,?_,?_,?_,?_,?_,?_,?_,?_,?_,?_,d2,?_,?_,?_,?_,?_,?_,?_,?_,?_,?_,d1,?_,?_,?_,?_,hz⟩⟩)
  (fun d2=>CtG.no ?_))
  (fun d1=>CtG.no ?_)
 rotate_right
 have hd:((oxM D p S (r+1) i C none).2.isNone)=false:=hd
 refine(let y1:List Prop:=[i<C.length,(0:Int)≤↑i∧(↑i:Int)<↑C.length,i<S.length,(0:Int)≤↑i∧(↑i:Int)<↑S.length,Dec ((↑i:Int)==↑C.length) false];have u1:allP y1:=⟨?_,?_,?_,?_,hz⟩;oe ((oxM D p S r (i+1) (C.set i (S.getD i z0c)) none).snd.isNone) (fun d1=>oe ((oxM D p S r (i+1) ((oxM D p S r (i+1) (C.set i (S.getD i z0c)) none).fst.set i (Con.mk (S.getD i z0c).exp (S.getD i z0c).dim (-1:Int) (S.getD i z0c).odd (S.getD i z0c).oddity)) none).snd.isNone) (fun d2=>CtG.no ?_)
  (fun d2=>⟨(tp 212),(let v3:=i+1;let v2:=C.set i (S.getD i z0c);let v7:=oxM D p S r v3 v2 none;let v1:=v7.fst.set i (Con.mk (S.getD i z0c).exp (S.getD i z0c).dim (-1:Int) (S.getD i z0c).odd (S.getD i z0c).oddity);let v4:=oxM D p S (r+1) i C none;let v5:=oxM D p S r v3 v1 none;let v6:=w6.wrap ((↑i:Int)+1)=↑v3;(v5.fst.length=v4.fst.length)::(v5.fst=v4.fst)::((liL v5.snd).length=(liL v4.snd).length)::(D=D)::(p=p)::rq S.length::(S=S)::(liL v5.snd=liL v4.snd)::(c20 D p S r v3 v1 none)::v6::(v7.fst.length=v1.length)::rq v1::(D=D)::(p=p)::rq S.length::(S=S)::ty d2::(i<v7.fst.length)::((0:Int)≤↑i∧(↑i:Int)<↑v7.fst.length)::(c20 D p S r v3 v2 none)::v6::(C.length=v2.length)::rq v2::(D=D)::(p=p)::rq S.length::(S=S)::ty d1::y1),by kernel_rfl,?_⟩))
  (fun d1=>⟨[false,false],(let v6:=C.set i (S.getD i z0c);let v2:=oxM D p S r (i+1) v6 none;let v1:=v2.fst.set i (Con.mk (S.getD i z0c).exp (S.getD i z0c).dim (-1:Int) (S.getD i z0c).odd (S.getD i z0c).oddity);let v3:=oxM D p S r (i+1) v1 (some (liL v2.snd));let v4:=oxM D p S (r+1) i C none;let v5:=w6.wrap ((↑i:Int)+1)=↑(i+1);(v3.fst.length=v4.fst.length)::(v3.fst=v4.fst)::((liL v3.snd).length=(liL v4.snd).length)::(D=D)::(p=p)::rq S.length::(S=S)::(liL v3.snd=liL v4.snd)::(c20 D p S r (i+1) v1 (some (liL v2.snd)))::v5::(v2.fst.length=v1.length)::rq v1::rq ((liL v2.snd).length)::(D=D)::(p=p)::rq S.length::(S=S)::rq (liL v2.snd)::(i<v2.fst.length)::((0:Int)≤↑i∧(↑i:Int)<↑v2.fst.length)::(c20 D p S r (i+1) v6 none)::v5::(C.length=v6.length)::rq v6::(D=D)::(p=p)::rq S.length::(S=S)::ty d1::y1),by kernel_rfl,?_⟩))
 all_goals with_reducible(repeat' first|assumption|refine alC ?_ ?_|refine al1 ?_|(delta Dec;assumption))
 all_goals first|(refine CtG.mk ?_;(first|(rw[ox_s,isN d1]at hd;exact Bool.noConfusion (hd.symm.trans d2))|(rw[ox_s,isSm d1,oxM_some]at hd;exact Bool.noConfusion hd)))|(first|(with_reducible rfl)|exact⟨rfl,rfl⟩|omega|(rw[List.length_set];done)|exact c20_1 hc|exact c20_N hc d1|exact c20_S hc d1|exact c20_X hc|(exact w64 (by omega) (by omega))|(rw[ox_s,isN d1]<;>rfl)|(rw[ox_s,isSm d1]<;>rfl))
theorem ox_s1 (D p:Int)(S:List Con)(r i:Nat)(C:List Con)(X:List QfSy.Loc)(hc:c20 D p S (r+1) i C (some X))(ih:∀C o,c20 D p S r (i+1) C o→FnOk Tryd.prog EV.ng (oxA D p S r (i+1) C o)):FnOk Tryd.prog EV.ng (oxA D p S (r+1) i C (some X)):=by
 have hcc:=hc
 obtain⟨hc1,hc2,hc3,hc4,hc5,hc6,hc7,hc8,hc9⟩:=hcc
 have hz:((i:Int)==(C.length:Int))=false:=beq_eq_false_iff_ne.2 (by omega)
 have hlen:=oxM_len D p S r (i+1) (C.set i (S.getD i z0c)) (some X)
 rw[List.length_set]at hlen
 have he:=oxM_some D p S r (i+1) (C.set i (S.getD i z0c)) X
 refine fn_of_run evOk (callF_ok evOk (orcFnM_ok (goO_ok ih) (noOrc_ok _ _)) 8) (A:=oxA D p S (r+1) i C (some X)) Tryd.func65 rfl (N:=(Nat.max 5 Tryd.f65.ntmps)) rfl none_ann evNg ?_
 intro d hd
 cases d
 ·exact Bool.noConfusion (show false=true from hd)
 ·refine⟨[false],(let q5:=C.set i (S.getD i z0c);let q6:=i+1;let q2:=oxM D p S r q6 q5 (some X);let q1:=q2.fst.set i (Con.mk (S.getD i z0c).exp (S.getD i z0c).dim (-1:Int) (S.getD i z0c).odd (S.getD i z0c).oddity);let q3:=oxM D p S r q6 q1 (some (liL q2.snd));let q4:=oxM D p S (r+1) i C (some X);[q3.fst.length=q4.fst.length,q3.fst=q4.fst,(liL q3.snd).length=(liL q4.snd).length,D=D,p=p,rq S.length,S=S,liL q3.snd=liL q4.snd,c20 D p S r q6 q1 (some (liL q2.snd)),w6.wrap ((↑i:Int)+1)=↑q6,q2.fst.length=q1.length,rq q1,rq ((liL q2.snd).length),D=D,p=p,rq S.length,S=S,rq (liL q2.snd),i<q2.fst.length,(0:Int)≤↑i∧(↑i:Int)<↑q2.fst.length,c20 D p S r q6 q5 (some X),w6.wrap ((↑i:Int)+1)=↑q6,C.length=q5.length,rq q5,rq X.length,D=D,p=p,rq S.length,S=S,X=X,i<C.length,(0:Int)≤↑i∧(↑i:Int)<↑C.length,i<S.length,(0:Int)≤↑i∧(↑i:Int)<↑S.length,Dec ((↑i:Int)==↑C.length) false]),by kernel_rfl,?_⟩
  all_goals with_reducible(repeat' first|assumption|refine alC ?_ ?_|refine al1 ?_|(delta Dec;assumption))
  all_goals first|(refine CtG.mk ?_;(first|(rw[ox_s,isN d1]at hd;exact Bool.noConfusion (hd.symm.trans d2))|(rw[ox_s,isSm d1,oxM_some]at hd;exact Bool.noConfusion hd)))|(first|(with_reducible rfl)|exact⟨rfl,rfl⟩|omega|(rw[List.length_set];done)|exact c20_1 hc|exact c20_N hc d1|exact c20_S hc d1|exact c20_X hc|(exact w64 (by omega) (by omega))|(rw[ox_s,isN d1]<;>rfl)|(rw[ox_s,isSm d1]<;>rfl)|(rw[ox_s,he]<;>rfl))
theorem ox_ok (D p:Int)(S:List Con):∀(r i:Nat)(C:List Con)(o:Option (List QfSy.Loc)),c20 D p S r i C o→FnOk Tryd.prog EV.ng (oxA D p S r i C o)
 |0,i,C,none,hc=>ox_b0 D p S i C hc
 |0,i,C,some X,hc=>ox_b1 D p S i C X hc
 |r+1,i,C,none,hc=>ox_s0 D p S r i C hc (fun C o k=>ox_ok D p S r (i+1) C o k)
 |r+1,i,C,some X,hc=>ox_s1 D p S r i C X hc (fun C o k=>ox_ok D p S r (i+1) C o k)
def olM (D p:Int)(S:List Con)(o:Option (List QfSy.Loc)):Option (List QfSy.Loc):=(oxM D p S S.length 0 S o).2
def c21 (D p:Int)(S:List Con)(o:Option (List QfSy.Loc)):Prop:=c20 D p S S.length 0 S o
def olH (D p:Int)(S:List Con)(o:Option (List QfSy.Loc))(b:Nat):List (Nat×Blk):=[(1003,conB S),(1000,plB [liA b o] 27),(1001,plB [.vint .i64 D] 2),(1002,plB [.vint .i64 p] 2)]++liB b o
def olA (D p:Int)(S:List Con)(o:Option (List QfSy.Loc)):FnA:=⟨41,[.lo 1003 S.length,.ptr 1000 0,.ptr 1001 0,.ptr 1002 0],olH D p S o 1010,1100,(match o with
 |none=>some (olM D p S none).isNone
 |some _=>none),fun t=>match o,t with
 |none,true=>(.tup [],olH D p S none 1150,1900)
 |none,false=>(.tup [],olH D p S (some (liL (olM D p S none))) 1150,1900)
 |some X,_=>(.tup [],olH D p S (some (liL (olM D p S (some X)))) 1150,1900)⟩
theorem ol_0 (D p:Int)(S:List Con)(hc:c21 D p S none):FnOk Tryd.prog EV.ng (olA D p S none):=by
 have hcc:=hc
 obtain⟨hc1,hc2,hc3,hc4,hc5,hc6,hc7,hc8,hc9⟩:=hcc
 have hb:S.length.beq 0=false:=(by cases hq:S.length.beq 0 with
  |false=>rfl
  |true=>have:=Nat.eq_of_beq_eq_true hq;omega)
 refine fn_of_run evOk (callF_ok evOk (orcFnM_ok (goO_ok (ox_ok D p S S.length 0)) (noOrc_ok _ _)) 8) (A:=olA D p S none) Tryd.func41 rfl (N:=(Nat.max 4 Tryd.f41.ntmps)) rfl none_ann evNg ?_
 intro d hd
 cases d
 rotate_right
 have hd:((olM D p S none).isNone)=true:=hd
 refine oe ((oxM D p S S.length (0:Nat) S none).snd.isNone) (fun d1=>⟨[true],[S=S,D=D,p=p,c20 D p S S.length (0:Nat) S none,(0:Int)=↑(0:Nat),rq S.length,S=S,D=D,p=p,rq S.length,S=S,ty d1,(0:Nat)<S.length∧S.length≤1000000,rq S.length],by kernel_rfl,⟨?_,?_,?_,?_,?_,?_,?_,?_,?_,?_,?_,d1,?_,(?_:S.length=S.length)⟩⟩)
  (fun d1=>CtG.no ?_)
 rotate_right
 have hd:((olM D p S none).isNone)=false:=hd
 refine oe ((oxM D p S S.length (0:Nat) S none).snd.isNone) (fun d1=>CtG.no ?_)
  (fun d1=>⟨[false],(let v1:=oxM D p S S.length (0:Nat) S none;[S=S,(liL v1.snd).length=(liL (olM D p S none)).length,D=D,p=p,liL v1.snd=liL (olM D p S none),c20 D p S S.length (0:Nat) S none,(0:Int)=↑(0:Nat),rq S.length,S=S,D=D,p=p,rq S.length,S=S,ty d1,(0:Nat)<S.length∧S.length≤1000000,rq S.length]),by kernel_rfl,⟨?_,?_,?_,?_,?_,?_,?_,?_,?_,?_,?_,?_,?_,d1,?_,(?_:S.length=S.length)⟩⟩)
 all_goals first|(refine CtG.mk ?_;(first|(have hd:(oxM D p S S.length 0 S none).2.isNone=_:=hd;exact Bool.noConfusion (hd.symm.trans d1))))|(first|(with_reducible rfl)|exact⟨rfl,rfl⟩|rfl|exact hc|omega|exact⟨hc3,by omega⟩)
theorem ol_1 (D p:Int)(S:List Con)(X:List QfSy.Loc)(hc:c21 D p S (some X)):FnOk Tryd.prog EV.ng (olA D p S (some X)):=by
 have hcc:=hc
 obtain⟨hc1,hc2,hc3,hc4,hc5,hc6,hc7,hc8,hc9⟩:=hcc
 have hb:S.length.beq 0=false:=(by cases hq:S.length.beq 0 with
  |false=>rfl
  |true=>have:=Nat.eq_of_beq_eq_true hq;omega)
 refine fn_of_run evOk (callF_ok evOk (orcFnM_ok (goO_ok (ox_ok D p S S.length 0)) (noOrc_ok _ _)) 8) (A:=olA D p S (some X)) Tryd.func41 rfl (N:=(Nat.max 4 Tryd.f41.ntmps)) rfl none_ann evNg ?_
 intro d hd
 cases d
 ·exact Bool.noConfusion (show false=true from hd)
 ·refine⟨[],(let q1:=oxM D p S S.length (0:Nat) S (some X);[S=S,(liL q1.snd).length=(liL (olM D p S (some X))).length,D=D,p=p,liL q1.snd=liL (olM D p S (some X)),c20 D p S S.length (0:Nat) S (some X),(0:Int)=↑(0:Nat),rq S.length,S=S,rq X.length,D=D,p=p,rq S.length,S=S,X=X,(0:Nat)<S.length∧S.length≤1000000,rq S.length]),by kernel_rfl,⟨?_,?_,?_,?_,?_,?_,?_,?_,?_,?_,?_,?_,?_,?_,?_,?_,(?_:S.length=S.length)⟩⟩
  all_goals first|(refine CtG.mk ?_;(first|(have hd:(oxM D p S S.length 0 S none).2.isNone=_:=hd;exact Bool.noConfusion (hd.symm.trans d1))))|(first|(with_reducible rfl)|exact⟨rfl,rfl⟩|rfl|exact hc|omega|exact⟨hc3,by omega⟩)
theorem ol_ok (D p:Int)(S:List Con):∀o:Option (List QfSy.Loc),c21 D p S o→FnOk Tryd.prog EV.ng (olA D p S o)
 |none,h=>ol_0 D p S h
 |some X,h=>ol_1 D p S X h
def scAv (b:Nat):Option (List Con)→AV
 |none=>.nils
 |some L=>.lo b L.length
def scBk (b:Nat):Option (List Con)→List (Nat×Blk)
 |none=>[]
 |some L=>[(b,conB L)]
def scLs:Option (List Con)→List Con
 |none=>[]
 |some L=>L
structure EG (n:Nat)(p:Prop):Prop where
 mk::out:p
theorem eo (n:Nat){p:Prop}(h:EG n p):p:=h.out
theorem em (n:Nat){p:Prop}(h:p):EG n p:=⟨h⟩
def pp (tw:Bool)(p:Int)(l:List Prop):List Prop:=bif tw then l else(p=p)::l
theorem alP {tw:Bool}{p:Int}{q r:Prop}{l:List Prop}(h:q)(h2:allP (r::l)):allP (q::pp tw p (r::l)):=by cases tw;exact⟨h,rfl,h2⟩;exact⟨h,h2⟩
theorem alQ {tw:Bool}{p:Int}{q:Prop}(h:q):allP (q::pp tw p []):=by cases tw;exact⟨h,rfl⟩;exact h
theorem both {P:Bool→Prop}(h1:let t:=true;P t)(h2:let t:=false;P t)(t:Bool):P t:=by cases t;exact h2;exact h1
def twM (tw:Bool)(D p:Int):List Con→LcO→LcO:=bif tw then tlM D else olM D p
def cW (tw:Bool)(D p:Int)(L:List Con)(o:LcO):Prop:=bif tw then c13 D L o else c21 D p L o
def dW (tw:Bool)(D p:Int):Prop:=(0<D∧D≤2147483647)∧(tw=false→2≤p∧p≤2147483647∧p.toNat%2≠0)
def twA (tw:Bool)(D p:Int)(L:List Con)(o:LcO):FnA:=bif tw then tlA D L o else olA D p L o
theorem tw_ok (tw:Bool)(D p:Int)(L:List Con)(o:LcO)(h:cW tw D p L o):FnOk Tryd.prog EV.ng (twA tw D p L o):=by cases tw;exact ol_ok D p _ _ h;exact tl_ok D _ _ h
theorem twM_ge (tw:Bool)(D p:Int)(S:List Con)(o:LcO):(liL o).length≤(liL (twM tw D p S o)).length:=by cases tw;exact oxM_ge D p S S.length 0 S o;exact fzM_ge D S S.length 0 (S,o)
theorem twM_some (tw:Bool)(D p:Int)(S:List Con)(X:List QfSy.Loc):twM tw D p S (some X)=some (liL (twM tw D p S (some X))):=by cases tw;exact oxM_some D p S S.length 0 S X;exact fzM_some D S S.length 0 S X
theorem sT_cb {tw:Bool}{D p:Int}{L:List Con}{o:LcO}(h1:0<L.length)(h2:L.length≤10)(h3:(liL (twM tw D p L o)).length≤50000)(h4:dW tw D p)(h5:∀c∈L,okC c∧c.oddity=0):cW tw D p L o:=by
 cases tw
 ·have hg:=twM_ge false D p L o
  have hp:2^L.length≤2^10:=Nat.pow_le_pow_right (by omega) h2
  exact⟨by omega,rfl,h1,h2,by omega,h4.1,h4.2 rfl⟩
 ·exact⟨by omega,rfl,h1,h2,h3,h4.1,⟨by omega,fun c hc=>(h5 c hc).1⟩,fun c hc=>(h5 c hc).2⟩
def sTH (tw:Bool)(D p:Int)(l:Option (List Con))(lb:Nat)(o:LcO)(b:Nat):List (Nat×Blk):=[(1000,plB [.fn (bif tw then 31 else 41) (.ptr 1003 0::.ptr 1004 0::bif tw then []else [.ptr 1005 0])] 79),(1001,plB [scAv lb l] 44),(1002,plB [.fn 62 [.ptr 1000 0,.ptr 1001 0,.ptr 1002 0]] 96)]++((1003,plB [liA b o] 27)::(1004,plB [.vint .i64 D] 2)::bif tw then []else [(1005,plB [.vint .i64 p] 2)])++scBk lb l++liB b o
def sTC (tw:Bool)(D p:Int)(f e n a:Nat)(L:List Con)(o:LcO):Prop:=a+2≤e+f∧1≤f∧L.length+n≤10∧(L.length=0→1≤n)∧(∀c∈L,okC c∧c.oddity=0)∧e≤101∧a≤100∧(liL (scM (twM tw D p) f e n a L o)).length≤50000∧dW tw D p
def sTA (tw:Bool)(D p:Int)(f e n a:Nat)(l0 l1:Option (List Con))(o:LcO):FnA:=⟨62,[.vint .i64 (e:Int),.vint .i64 (n:Int),.vint .i64 (a:Int),.ptr 1000 0,.ptr 1001 0,.ptr 1002 0],sTH tw D p l0 1008 o 1010,1100,(match o with
 |none=>some (scM (twM tw D p) f e n a (scLs l0) none).isNone
 |some _=>none),fun t=>match o,t with
 |none,true=>(.tup [],sTH tw D p l1 1140 none 1150,1900)
 |none,false=>(.tup [],sTH tw D p l1 1140 (some (liL (scM (twM tw D p) f e n a (scLs l0) none))) 1150,1900)
 |some X,_=>(.tup [],sTH tw D p l1 1140 (some (liL (scM (twM tw D p) f e n a (scLs l0) (some X)))) 1150,1900)⟩
def lVar (m:Tr Blk)(b:Nat):Option (Option (List Con)):=match vOf m b with
 |some .nils=>some none
 |some (.lo b' _)=>match cOf m b' with
  |none=>none
  |some L=>some (some L)
 |_=>none
def sTGo (tw:Bool)(D p:Int)(f:Nat)(go:Nat→List AV→Hs→Option (FnA×List Prop)):Nat→List AV→Hs→Option (FnA×List Prop):=fun g args H=>bif Nat.beq g 62 then(match args with
 |[e',n',a',.ptr b0 _,.ptr b1 _,_]=>match clr e',clr n',clr a' with
  |.int .i64 e,.int .i64 n,.int .i64 a=>match lVar H.m b1 with
   |some (some L)=>match vOf H.m b0 with
    |some (.fn _ (.ptr bl _::_))=>match oVar H.m bl with
     |none=>none
     |some o=>some (sTA tw D p f e.toNat n.toNat a.toNat (some L) (some L) o,[sTC tw D p f e.toNat n.toNat a.toNat L o])
    |_=>none
   |_=>none
  |_,_,_=>none
 |_=>none)else go g args H
theorem sTGo_ok (tw:Bool)(D p:Int){f:Nat}(ih:∀e n a L o,sTC tw D p f e n a L o→FnOk Tryd.prog EV.ng (sTA tw D p f e n a (some L) (some L) o)){go:Nat→List AV→Hs→Option (FnA×List Prop)}(hgo:∀f args H A ms,go f args H=some (A,ms)→(∀q∈ms,q)→FnOk Tryd.prog EV.ng A):∀g args H A ms,sTGo tw D p f go g args H=some (A,ms)→(∀q∈ms,q)→FnOk Tryd.prog EV.ng A:=by
 intro g args H A ms hq hm
 unfold sTGo at hq
 cases hb:Nat.beq g 62 with
 |false=>rw[hb]at hq;exact hgo g args H A ms hq hm
 |true=>
  rw[hb]at hq
  simp only[cond_true]at hq
  split at hq
  ·split at hq
   ·split at hq
    ·split at hq
     ·split at hq
      ·cases hq
      ·cases hq
       exact ih _ _ _ _ _ (all_one hm)
     ·cases hq
    ·cases hq
   ·cases hq
  ·cases hq
def sTCb (tw:Bool)(D p:Int):Nat→List AV→Hs→Option (FnA×List Prop):=fun g args H=>bif Nat.beq g (bif tw then 31 else 41)then(match args with
 |.lo bL _::.ptr bl _::_=>match cOf H.m bL with
  |none=>none
  |some L=>match oVar H.m bl with
   |none=>none
   |some o=>some (twA tw D p L o,[cW tw D p L o])
 |_=>none)else none
theorem sTCb_ok (tw:Bool)(D p:Int):∀f args H A ms,sTCb tw D p f args H=some (A,ms)→(∀q∈ms,q)→FnOk Tryd.prog EV.ng A:=by
 intro f args H A ms hq hm
 unfold sTCb at hq
 replace hq:=(bif_some hq).2
 split at hq
 ·split at hq
  ·cases hq
  ·split at hq
   ·cases hq
   ·cases hq
    exact tw_ok tw D p _ _ (all_one hm)
 ·cases hq
theorem cut0 {x:Con}:0≤w6.wrap (([x].length:Int)-1)∧w6.wrap (([x].length:Int)-1)≤([x].length:Int):=(by decide:0≤w6.wrap (((1:Nat):Int)-1)∧w6.wrap (((1:Nat):Int)-1)≤((1:Nat):Int))
theorem cutl {L:List Con}{x:Con}:L.length+1=(L++[x]).length:=by rw[List.length_append];rfl
theorem cutw {L:List Con}{x:Con}(h:L.length≤10):w6.wrap (((L++[x]).length:Int)-1)=(L.length:Int):=by
 rw[List.length_append]
 simp only[List.length_cons,List.length_nil]
 rw[w64 (by omega) (by omega)]
 omega
theorem cutm {L:List Con}{x:Con}(h:L.length≤10):(w6.wrap (((L++[x]).length:Int)-1)).toNat≤(L++[x]).length∧(L++[x]).length=(L++[x]).length:=by
 rw[cutw h,Int.toNat_natCast]
 exact⟨by rw[←cutl];omega,rfl⟩
def sTT (e n a:Nat)(d:AV):List (Nat×AV):=[(0,.vint .i64 (e:Int)),(1,.vint .i64 (n:Int)),(2,.vint .i64 (a:Int)),(3,.ptr 1000 0),(4,.ptr 1001 0),(5,.ptr 1002 0),(9,d)]
def sTSt (tw:Bool)(D p:Int)(e n a k:Nat)(l:Option (List Con))(o:LcO):St:=⟨sTT e n a (.vint .i64 ((k+1:Nat):Int)),sTH tw D p l 2008 o 2010,2100⟩
def sTS1 (tw:Bool)(D p:Int)(e n a:Nat)(L:List Con):Nat×LcO→St
 |(k,none)=>sTSt tw D p e n a k (some L) none
 |(k,some X)=>sTSt tw D p e n a k (some L) (some X)
def sTS3 (tw:Bool)(D p:Int)(e n a:Nat):Option (Nat×LcO)→St
 |none=>sTSt tw D p e n a 0 none none
 |some (k,none)=>sTSt tw D p e n a k (some []) none
 |some (k,some X)=>sTSt tw D p e n a k (some []) (some X)
def sTS4 (tw:Bool)(D p:Int)(e n a:Nat)(X0:List QfSy.Loc):Option (Nat×List QfSy.Loc)→St
 |none=>sTSt tw D p e n a 0 none (some X0)
 |some (k,X)=>sTSt tw D p e n a k (some []) (some X)
def sTI (tw:Bool)(D p:Int)(f e n a:Nat)(L:List Con)(o0:LcO)(k:Nat)(o:LcO):Prop:=k≤dmx e n a∧scK (twM tw D p) f e n a L o0 k=o
def sTC2 (tw:Bool)(D p:Int)(f e n a:Nat)(L:List Con)(o0:LcO):Prop:=a+1≤e+f∧1≤n∧n*e≤a∧L.length+n≤10∧(∀c∈L,okC c∧c.oddity=0)∧e≤100∧a≤100∧(liL (scK (twM tw D p) f e n a L o0 (dmx e n a))).length≤50000∧dW tw D p
def sTAn (tw:Bool)(D p:Int)(f e n a:Nat)(L:List Con)(l0:Option (List Con))(o:LcO):Ann:=⟨⟨sTT e n a (.int .i64 1),sTH tw D p l0 1140 o 1150,2000⟩,(match o with
 |none=>some (scK (twM tw D p) f e n a L none (dmx e n a)).isNone
 |some _=>none),fun d=>match o,d with
 |none,true=>(.exit 0,⟨[],sTH tw D p (some L) 2008 none 2010,2100⟩)
 |none,false=>(.exit 0,⟨[],sTH tw D p (some L) 2008 (some (liL (scK (twM tw D p) f e n a L none (dmx e n a)))) 2010,2100⟩)
 |some X,_=>(.exit 0,⟨[],sTH tw D p (some L) 2008 (some (liL (scK (twM tw D p) f e n a L (some X) (dmx e n a)))) 2010,2100⟩)⟩
section
variable {tw:Bool}{D p:Int}
variable {f e n a k:Nat}{L:List Con}{o0 o:LcO}
theorem sTw_e (he:e≤101):w6.wrap ((e:Int)+1)=((e+1:Nat):Int):=by rw[w64 (by omega) (by omega)];omega
theorem sTw_n (hn:n≤10)(hk:k+1≤n):w6.wrap ((n:Int)-((k+1:Nat):Int))=((n-(k+1):Nat):Int):=by rw[w64 (by omega) (by omega)];omega
theorem sTw_m {x y:Nat}(hx:x≤1000)(hy:y≤1000):w6.wrap ((x:Int)*(y:Int))=((x*y:Nat):Int):=by
 have h:x*y≤1000*1000:=Nat.mul_le_mul hx hy
 have e:(x:Int)*(y:Int)=((x*y:Nat):Int):=by simp
 rw[e,w64 (by omega) (by omega)]
theorem sTw_a (ha:a≤100)(hk1:k+1≤10)(he:e≤100)(hk:(k+1)*e≤a):w6.wrap ((a:Int)-w6.wrap (((k+1:Nat):Int)*(e:Int)))=((a-(k+1)*e:Nat):Int):=by
 rw[sTw_m (by omega) (by omega),w64 (by omega) (by omega)];omega
theorem sTmem (h:∀c∈L,okC c∧c.oddity=0)(he:e≤1000)(hk:k+1≤1000):∀c∈L++[newC e (k+1)],okC c∧c.oddity=0:=by
 intro c hc
 rcases List.mem_append.1 hc with h1|h1
 ·exact h c h1
 ·rw[List.mem_singleton.1 h1]
  exact⟨⟨⟨by show(0:Int)≤(e:Int);omega,by show(e:Int)≤1000;omega⟩,⟨by show(1:Int)≤((k+1:Nat):Int);omega,by show((k+1:Nat):Int)≤1000;omega⟩,.inl rfl,⟨Int.le_refl 0,(by decide:(0:Int)≤7)⟩⟩,rfl⟩
theorem sTlen:(scK (twM tw D p) f e n a L o0 k)=o→scK (twM tw D p) f e n a L o0 (k+1)=scP (twM tw D p) f e n a L o k:=by intro h;rw[scK_s,h]
theorem sTcall (hc:sTC2 tw D p f e n a L o0)(hI:sTI tw D p f e n a L o0 k o)(h1:k+1≤n)(h2:(k+1)*e≤a):sTC tw D p f (e+1) (n-(k+1)) (a-(k+1)*e) (L++[newC e (k+1)]) o:=by
 obtain⟨c1,c2,c3,c4,c5,c6,c7,c8,c9⟩:=hc
 obtain⟨i1,i2⟩:=hI
 have hk:k<dmx e n a:=dmx_lt.2 ⟨h1,h2⟩
 have hg:=scK_ge (twM_ge tw D p) (f:=f) (e:=e) (n:=n) (a:=a) (L:=L) (o:=o0) (k:=k+1) (m:=dmx e n a) hk
 rw[sTlen i2]at hg
 have hen:e≤a:=Nat.le_trans (by
  have:=Nat.mul_le_mul_right e c2
  omega) c3
 refine⟨?_,?_,?_,?_,sTmem c5 (by omega) (by omega),by omega,by omega,Nat.le_trans hg c8,c9⟩
 ·omega
 ·omega
 ·rw[List.length_append];simp only[List.length_cons,List.length_nil];omega
 ·rw[List.length_append];simp only[List.length_cons,List.length_nil];omega
theorem sTnxt (hI:sTI tw D p f e n a L o0 k o)(h1:k+1≤n)(h2:(k+1)*e≤a):sTI tw D p f e n a L o0 (k+1) (scP (twM tw D p) f e n a L o k):=⟨dmx_lt.2 ⟨h1,h2⟩,sTlen hI.2⟩
theorem sTnxN (hI:sTI tw D p f e n a L o0 k o)(h1:k+1≤n)(h2:(k+1)*e≤a)(h:(scM (twM tw D p) f (e+1) (n-(k+1)) (a-(k+1)*e) (L++[newC e (k+1)]) o).isNone=true):sTI tw D p f e n a L o0 (k+1) none:=by
 have:=sTnxt hI h1 h2
 rw[show scP (twM tw D p) f e n a L o k=none from isN h]at this
 exact this
theorem sTnxS (hI:sTI tw D p f e n a L o0 k o)(h1:k+1≤n)(h2:(k+1)*e≤a)(h:(scM (twM tw D p) f (e+1) (n-(k+1)) (a-(k+1)*e) (L++[newC e (k+1)]) o).isNone=false):sTI tw D p f e n a L o0 (k+1) (some (liL (scP (twM tw D p) f e n a L o k))):=by
 have:=sTnxt hI h1 h2
 rw[show scP (twM tw D p) f e n a L o k=some (liL (scP (twM tw D p) f e n a L o k))from isSm h]at this
 exact this
theorem sTnxX {X:List QfSy.Loc}(hI:sTI tw D p f e n a L o0 k (some X))(h1:k+1≤n)(h2:(k+1)*e≤a):sTI tw D p f e n a L o0 (k+1) (some (liL (scP (twM tw D p) f e n a L (some X) k))):=by
 have:=sTnxt hI h1 h2
 rw[show scP (twM tw D p) f e n a L (some X) k=some (liL (scP (twM tw D p) f e n a L (some X) k))from scM_some (twM_some tw D p) _ _ _ _ _ _]at this
 exact this
theorem sTend1 (hI:sTI tw D p f e n a L o0 k o)(h:¬(k+1≤n∧(k+1)*e≤a)):k=dmx e n a:=by
 have h1:=hI.1
 rcases Nat.lt_or_ge k (dmx e n a)with h2|h2
 ·exact absurd (dmx_lt.1 h2) h
 ·omega
theorem sTend (hI:sTI tw D p f e n a L o0 k o)(h:¬(k+1≤n∧(k+1)*e≤a)):scK (twM tw D p) f e n a L o0 (dmx e n a)=o:=by
 rw[←sTend1 hI h];exact hI.2
theorem sTs0 (h1:1≤n)(h3:n*e≤a)(hI:sTI tw D p f e n a L o0 0 o):0+1≤n∧(0+1)*e≤a:=dmx_lt.1 (dmx_pos h1 h3)
end
set_option maxHeartbeats 4000000 in
theorem sT_l1:∀(tw:Bool)(D p:Int)(f e n a:Nat)(L:List Con)(hc:sTC2 tw D p f e n a L none)(ih:∀e n a L o,sTC tw D p f e n a L o→FnOk Tryd.prog EV.ng (sTA tw D p f e n a (some L) (some L) o)),AnnOk Tryd.prog EV.ng (Nat.max 6 Tryd.f62.ntmps) (bodyAt Tryd.f62 [0,1,1,1,1]) (sTAn tw D p f e n a L (some L) none):=by
 refine both ?_ ?_<;>(
  intro tw D p f e n a L hc ih
  have hcc:=hc
  obtain⟨c1,c2,c3,c4,c5,c6,c7,c8,c9⟩:=hcc
  refine ann_of evOk (callF_ok evOk (orcFnM_ok (sTGo_ok tw D p ih goN_ok) (noOrc_ok _ _)) 8) none_ann (by kernel_rfl) (by kernel_rfl) (sTS1 tw D p e n a L) (fun q=>n+1-q.1) (fun _ q=>sTI tw D p f e n a L none q.1 q.2) ?_ ?_
  ·intro d hd
   exact⟨(0,none),((rq (↑e:Int))::(rq (↑n:Int))::(rq (↑a:Int))::((1:Int)=↑((0:Nat)+1))::(rq L.length)::(D=D)::pp tw p ([L=L])),by kernel_rfl,(by(with_reducible(repeat' first|refine alC ?_ ?_|refine alP ?_ ?_|refine alQ ?_|refine al1 ?_))<;>(first|(with_reducible rfl)|rfl|exact⟨rfl,rfl⟩)),(by exact⟨Nat.zero_le _,rfl⟩)⟩
  ·rintro d hd ⟨k,o⟩ hI
   have hI:sTI tw D p f e n a L none k o:=hI
   have hk0:k≤n:=Nat.le_trans hI.1 dmx_le
   have we:w6.wrap ((e:Int)+1)=((e+1:Nat):Int):=sTw_e (by omega)
   have wm:w6.wrap (((k+1:Nat):Int)*(e:Int))=(((k+1)*e:Nat):Int):=sTw_m (by omega) (by omega)
   have hl:L.length≤10:=by omega
   have ek:w6.wrap (((k+1:Nat):Int)+1)=((k+1+1:Nat):Int):=by rw[w64 (by omega) (by omega)];omega
   rcases o with _|X
   rotate_right
   refine(let t1:List Prop→List Prop:=fun l0=>(let v1:=scK (twM tw D p) f e n a L none (dmx e n a);rq L.length::(X.length=(liL v1).length)::(D=D)::pp tw p ((L=L)::(X=liL v1)::l0));oe (decide ((↑(k+1):Int)≤↑n)) (fun d1=>oe (decide (w6.wrap ((↑(k+1):Int)*↑e)≤↑a)) (fun d2=>lfI [true,true] (k+1,some (liL (scP (twM tw D p) f e n a L (some X) k))) (let v1:=L++[Con.mk (↑e:Int) (↑(k+1):Int) (1:Int) false (0:Int)];let v2:=(↑a:Int)-w6.wrap ((↑(k+1):Int)*↑e);let v6:=(↑e:Int)+1;let v5:=(↑n:Int)-↑(k+1);let v3:=scM (twM tw D p) f (w6.wrap v6).toNat (w6.wrap v5).toNat (w6.wrap v2).toNat (scLs (some v1)) (some X);let v4:=(↑v1.length:Int)-1;let v7:=w6.wrap v4;let v8:=scP (twM tw D p) f e n a L (some X) k;((rq (↑e:Int))::(rq (↑n:Int))::(rq (↑a:Int))::(w6.wrap ((↑(k+1):Int)+1)=↑(k+1+1))::(v7.toNat=L.length)::((liL v3).length=(liL v8).length)::(D=D)::pp tw p ((List.take v7.toNat v1=L)::(liL v3=liL v8)::(v7.toNat≤v1.length∧v1.length=v1.length)::((0:Int)≤w6.wrap v4∧w6.wrap v4≤↑v1.length)::(sTC tw D p f (w6.wrap v6).toNat (w6.wrap v5).toNat (w6.wrap v2).toNat v1 (some X))::(w6.wrap v6=(↑(w6.wrap v6).toNat:Int))::(w6.wrap v5=(↑(w6.wrap v5).toNat:Int))::(w6.wrap v2=(↑(w6.wrap v2).toNat:Int))::(L.length+1=v1.length)::(rq X.length)::(D=D)::pp tw p ([rq v1,X=X,(conB L).view.num=L.length∧L.length+1≤1000000,ty d2,ty d1])))) (by kernel_rfl) ?_ ?_ ?_)
    (fun d2=>(eo 3 ?_)))
    (fun d1=>(eo 4 ?_)))
   all_goals with_reducible(repeat' first|assumption|refine alC ?_ ?_|refine alP ?_ ?_|refine alQ ?_|refine al1 ?_)
   all_goals try(
    refine em 3 ?_
    cases d
    rotate_right
    refine CtG.no ?_
    rotate_right
    refine lfR [true,false] (t1 [ty d2,ty d1]) (by kernel_rfl) ?_ rfl
    all_goals with_reducible(repeat' first|assumption|refine alC ?_ ?_|refine alP ?_ ?_|refine alQ ?_|refine al1 ?_))
   all_goals try(
    refine em 4 ?_
    cases d
    rotate_right
    refine CtG.no ?_
    rotate_right
    refine lfR [false] (t1 [ty d1]) (by kernel_rfl) ?_ rfl
    all_goals with_reducible(repeat' first|assumption|refine alC ?_ ?_|refine alP ?_ ?_|refine alQ ?_|refine al1 ?_))
   rotate_right
   refine(let t1:List Prop→List Prop:=fun l0=>rq (↑e:Int)::rq (↑n:Int)::rq (↑a:Int)::(w6.wrap ((↑(k+1):Int)+1)=↑(k+1+1))::((w6.wrap ((↑(L++[Con.mk (↑e:Int) (↑(k+1):Int) (1:Int) false (0:Int)]).length:Int)-1)).toNat=L.length)::l0;oe (decide ((↑(k+1):Int)≤↑n)) (fun d1=>oe (decide (w6.wrap ((↑(k+1):Int)*↑e)≤↑a)) (fun d2=>let y1:List Prop:=[(conB L).view.num=L.length∧L.length+1≤1000000,ty d2,ty d1];have u1:allP y1:=⟨?_,d2,d1⟩;oe (Option.isNone (scM (twM tw D p) f (w6.wrap ((↑e:Int)+1)).toNat (w6.wrap ((↑n:Int)-↑(k+1))).toNat (w6.wrap ((↑a:Int)-w6.wrap ((↑(k+1):Int)*↑e))).toNat (scLs (some (L++[Con.mk (↑e:Int) (↑(k+1):Int) (1:Int) false (0:Int)]))) none)) (fun d3=>lfI (tp 111) (k+1,none) (t1 (let v1:=L++[Con.mk (↑e:Int) (↑(k+1):Int) (1:Int) false (0:Int)];let v2:=(↑a:Int)-w6.wrap ((↑(k+1):Int)*↑e);let v3:=(↑v1.length:Int)-1;let v4:=(↑n:Int)-↑(k+1);let v5:=(↑e:Int)+1;(D=D)::pp tw p ((List.take (w6.wrap v3).toNat v1=L)::((w6.wrap v3).toNat≤v1.length∧v1.length=v1.length)::((0:Int)≤w6.wrap v3∧w6.wrap v3≤↑v1.length)::(sTC tw D p f (w6.wrap v5).toNat (w6.wrap v4).toNat (w6.wrap v2).toNat v1 none)::(w6.wrap v5=(↑(w6.wrap v5).toNat:Int))::(w6.wrap v4=(↑(w6.wrap v4).toNat:Int))::(w6.wrap v2=(↑(w6.wrap v2).toNat:Int))::(L.length+1=v1.length)::(D=D)::pp tw p (rq v1::ty d3::y1)))) (by kernel_rfl) ?_ ?_ ?_)
    (fun d3=>lfI (tp 112) (k+1,(some (liL (scP (twM tw D p) f e n a L none k)))) (t1 (let v1:=L++[Con.mk (↑e:Int) (↑(k+1):Int) (1:Int) false (0:Int)];let v2:=(↑a:Int)-w6.wrap ((↑(k+1):Int)*↑e);let v6:=(↑e:Int)+1;let v5:=(↑n:Int)-↑(k+1);let v3:=scM (twM tw D p) f (w6.wrap v6).toNat (w6.wrap v5).toNat (w6.wrap v2).toNat (scLs (some v1)) none;let v4:=(↑v1.length:Int)-1;let v7:=scP (twM tw D p) f e n a L none k;((liL v3).length=(liL v7).length)::(D=D)::pp tw p ((List.take (w6.wrap v4).toNat v1=L)::(liL v3=liL v7)::((w6.wrap v4).toNat≤v1.length∧v1.length=v1.length)::((0:Int)≤w6.wrap v4∧w6.wrap v4≤↑v1.length)::(sTC tw D p f (w6.wrap v6).toNat (w6.wrap v5).toNat (w6.wrap v2).toNat v1 none)::(w6.wrap v6=(↑(w6.wrap v6).toNat:Int))::(w6.wrap v5=(↑(w6.wrap v5).toNat:Int))::(w6.wrap v2=(↑(w6.wrap v2).toNat:Int))::(L.length+1=v1.length)::(D=D)::pp tw p (rq v1::ty d3::y1)))) (by kernel_rfl) ?_ ?_ ?_))
    (fun d2=>(eo 1 ?_)))
    (fun d1=>(eo 2 ?_)))
   all_goals with_reducible(repeat' first|assumption|refine alC ?_ ?_|refine alP ?_ ?_|refine alQ ?_|refine al1 ?_)
   all_goals try(
    refine em 1 ?_
    cases d
    rotate_right
    refine lfR [true,false] ((rq L.length)::(D=D)::pp tw p ([L=L,ty d2,ty d1])) (by kernel_rfl) ?_ rfl
    all_goals with_reducible(repeat' first|assumption|refine alC ?_ ?_|refine alP ?_ ?_|refine alQ ?_|refine al1 ?_)
    rotate_right
    refine CtG.no ?_)
   all_goals try(
    refine em 2 ?_
    cases d
    rotate_right
    refine lfR [false] ((rq L.length)::(D=D)::pp tw p ([L=L,ty d1])) (by kernel_rfl) ?_ rfl
    all_goals with_reducible(repeat' first|assumption|refine alC ?_ ?_|refine alP ?_ ?_|refine alQ ?_|refine al1 ?_)
    rotate_right
    refine CtG.no ?_)
   all_goals first|(refine MuG.mk ?_;(have hk:=of_decide_eq_true d1;show n+1-(k+1)<n+1-k;omega))|(refine InG.mk ?_;((have h1:k+1≤n:=(by have:=of_decide_eq_true d1;omega);have h2:(k+1)*e≤a:=(Int.ofNat_le.1 (by have:=d2;rw[sTw_m (by omega) (by omega)]at this;exact of_decide_eq_true this));have wn:w6.wrap ((n:Int)-((k+1:Nat):Int))=((n-(k+1):Nat):Int):=sTw_n (by omega) h1;have wa:w6.wrap ((a:Int)-w6.wrap (((k+1:Nat):Int)*(e:Int)))=((a-(k+1)*e:Nat):Int):=sTw_a (by omega) (by omega) (by omega) h2;(try simp only[we,wn,wa,Int.toNat_natCast]at d3);first|exact sTnxN hI h1 h2 d3|exact sTnxS hI h1 h2 d3|exact sTnxX hI h1 h2)))|(refine CtG.mk ?_;((have hx:¬(k+1≤n∧(k+1)*e≤a):=(by rintro⟨q1,q2⟩;first|(have:=of_decide_eq_false d1;omega)|(have h9:=d2;rw[wm]at h9;exact(of_decide_eq_false h9) (Int.ofNat_le.2 q2)));have e1:=sTend hI hx;have hd:(scK (twM tw D p) f e n a L none (dmx e n a)).isNone=_:=hd;rw[e1]at hd;cases hd)))|(first|(with_reducible rfl)|exact⟨rfl,rfl⟩|rfl|exact ek|exact⟨rfl,by omega⟩|exact cutl|exact cutm hl|(have h1:k+1≤n:=(by have:=of_decide_eq_true d1;omega);have h2:(k+1)*e≤a:=(Int.ofNat_le.1 (by have:=d2;rw[sTw_m (by omega) (by omega)]at this;exact of_decide_eq_true this));have wn:w6.wrap ((n:Int)-((k+1:Nat):Int))=((n-(k+1):Nat):Int):=sTw_n (by omega) h1;have wa:w6.wrap ((a:Int)-w6.wrap (((k+1:Nat):Int)*(e:Int)))=((a-(k+1)*e:Nat):Int):=sTw_a (by omega) (by omega) (by omega) h2;first|omega|(simp only[we,wn,wa,cutw hl,Int.toNat_natCast];first|done|rfl|exact⟨rfl,rfl⟩|omega|exact sTcall hc hI h1 h2|exact List.take_left|exact List.length_append.symm|(refine⟨?_,rfl⟩;rw[List.length_append];exact Nat.le_add_right _ _)|(simp only[List.length_append,List.length_cons,List.length_nil];first|omega|exact⟨by omega,rfl⟩|exact⟨by omega,by omega⟩))|(simp only[List.length_append,List.length_cons,List.length_nil];omega))|(have hx:¬(k+1≤n∧(k+1)*e≤a):=(by rintro⟨q1,q2⟩;first|(have:=of_decide_eq_false d1;omega)|(have h9:=d2;rw[wm]at h9;exact(of_decide_eq_false h9) (Int.ofNat_le.2 q2)));have e1:=sTend hI hx;first|(rw[e1];done)|(rw[e1];rfl))))
set_option maxHeartbeats 4000000 in
theorem sT_l2:∀(tw:Bool)(D p:Int)(f e n a:Nat)(L:List Con)(X0:List QfSy.Loc)(hc:sTC2 tw D p f e n a L (some X0))(ih:∀e n a L o,sTC tw D p f e n a L o→FnOk Tryd.prog EV.ng (sTA tw D p f e n a (some L) (some L) o)),AnnOk Tryd.prog EV.ng (Nat.max 6 Tryd.f62.ntmps) (bodyAt Tryd.f62 [0,1,1,1,1]) (sTAn tw D p f e n a L (some L) (some X0)):=by
 refine both ?_ ?_<;>(
  intro tw D p f e n a L X0 hc ih
  have hcc:=hc
  obtain⟨c1,c2,c3,c4,c5,c6,c7,c8,c9⟩:=hcc
  refine ann_of evOk (callF_ok evOk (orcFnM_ok (sTGo_ok tw D p ih goN_ok) (noOrc_ok _ _)) 8) none_ann (by kernel_rfl) (by kernel_rfl) (fun(q:Nat×List QfSy.Loc)=>sTSt tw D p e n a q.1 (some L) (some q.2)) (fun q=>n+1-q.1) (fun _ q=>sTI tw D p f e n a L (some X0) q.1 (some q.2)) ?_ ?_
  ·intro d hd
   exact⟨(0,X0),((rq (↑e:Int))::(rq (↑n:Int))::(rq (↑a:Int))::((1:Int)=↑((0:Nat)+1))::(rq L.length)::(rq X0.length)::(D=D)::pp tw p ([L=L,X0=X0])),by kernel_rfl,(by(with_reducible(repeat' first|refine alC ?_ ?_|refine alP ?_ ?_|refine alQ ?_|refine al1 ?_))<;>(first|(with_reducible rfl)|rfl|exact⟨rfl,rfl⟩)),(by exact⟨Nat.zero_le _,rfl⟩)⟩
  ·rintro d hd ⟨k,X⟩ hI
   cases d
   ·exact Bool.noConfusion (show false=true from hd)
   ·have hI:sTI tw D p f e n a L (some X0) k (some X):=hI
    have hk0:k≤n:=Nat.le_trans hI.1 dmx_le
    have we:w6.wrap ((e:Int)+1)=((e+1:Nat):Int):=sTw_e (by omega)
    have wm:w6.wrap (((k+1:Nat):Int)*(e:Int))=(((k+1)*e:Nat):Int):=sTw_m (by omega) (by omega)
    have hl:L.length≤10:=by omega
    have ek:w6.wrap (((k+1:Nat):Int)+1)=((k+1+1:Nat):Int):=by rw[w64 (by omega) (by omega)];omega
    refine(let t1:List Prop→List Prop:=fun l0=>(let v1:=scK (twM tw D p) f e n a L (some X0) (dmx e n a);rq L.length::(X.length=(liL v1).length)::(D=D)::pp tw p ((L=L)::(X=liL v1)::l0));oe (decide ((↑(k+1):Int)≤↑n)) (fun d1=>oe (decide (w6.wrap ((↑(k+1):Int)*↑e)≤↑a)) (fun d2=>lfI [true,true] (k+1,(liL (scP (twM tw D p) f e n a L (some X) k))) (let v1:=L++[Con.mk (↑e:Int) (↑(k+1):Int) (1:Int) false (0:Int)];let v2:=(↑a:Int)-w6.wrap ((↑(k+1):Int)*↑e);let v6:=(↑e:Int)+1;let v5:=(↑n:Int)-↑(k+1);let v3:=scM (twM tw D p) f (w6.wrap v6).toNat (w6.wrap v5).toNat (w6.wrap v2).toNat (scLs (some v1)) (some X);let v4:=(↑v1.length:Int)-1;let v7:=w6.wrap v4;let v8:=scP (twM tw D p) f e n a L (some X) k;((rq (↑e:Int))::(rq (↑n:Int))::(rq (↑a:Int))::(w6.wrap ((↑(k+1):Int)+1)=↑(k+1+1))::(v7.toNat=L.length)::((liL v3).length=(liL v8).length)::(D=D)::pp tw p ((List.take v7.toNat v1=L)::(liL v3=liL v8)::(v7.toNat≤v1.length∧v1.length=v1.length)::((0:Int)≤w6.wrap v4∧w6.wrap v4≤↑v1.length)::(sTC tw D p f (w6.wrap v6).toNat (w6.wrap v5).toNat (w6.wrap v2).toNat v1 (some X))::(w6.wrap v6=(↑(w6.wrap v6).toNat:Int))::(w6.wrap v5=(↑(w6.wrap v5).toNat:Int))::(w6.wrap v2=(↑(w6.wrap v2).toNat:Int))::(L.length+1=v1.length)::(rq X.length)::(D=D)::pp tw p ([rq v1,X=X,(conB L).view.num=L.length∧L.length+1≤1000000,ty d2,ty d1])))) (by kernel_rfl) ?_ ?_ ?_)
     (fun d2=>lfR [true,false] (t1 [ty d2,ty d1]) (by kernel_rfl) ?_ rfl))
     (fun d1=>lfR [false] (t1 [ty d1]) (by kernel_rfl) ?_ rfl))
    all_goals with_reducible(repeat' first|assumption|refine alC ?_ ?_|refine alP ?_ ?_|refine alQ ?_|refine al1 ?_)
    all_goals first|(refine MuG.mk ?_;(have hk:=of_decide_eq_true d1;show n+1-(k+1)<n+1-k;omega))|(refine InG.mk ?_;((have h1:k+1≤n:=(by have:=of_decide_eq_true d1;omega);have h2:(k+1)*e≤a:=(Int.ofNat_le.1 (by have:=d2;rw[sTw_m (by omega) (by omega)]at this;exact of_decide_eq_true this));have wn:w6.wrap ((n:Int)-((k+1:Nat):Int))=((n-(k+1):Nat):Int):=sTw_n (by omega) h1;have wa:w6.wrap ((a:Int)-w6.wrap (((k+1:Nat):Int)*(e:Int)))=((a-(k+1)*e:Nat):Int):=sTw_a (by omega) (by omega) (by omega) h2;(try simp only[we,wn,wa,Int.toNat_natCast]at d3);first|exact sTnxN hI h1 h2 d3|exact sTnxS hI h1 h2 d3|exact sTnxX hI h1 h2)))|(refine CtG.mk ?_;((have hx:¬(k+1≤n∧(k+1)*e≤a):=(by rintro⟨q1,q2⟩;first|(have:=of_decide_eq_false d1;omega)|(have h9:=d2;rw[wm]at h9;exact(of_decide_eq_false h9) (Int.ofNat_le.2 q2)));have e1:=sTend hI hx;have hd:(scK (twM tw D p) f e n a L none (dmx e n a)).isNone=_:=hd;rw[e1]at hd;cases hd)))|(first|(with_reducible rfl)|exact⟨rfl,rfl⟩|rfl|exact ek|exact⟨rfl,by omega⟩|exact cutl|exact cutm hl|(have h1:k+1≤n:=(by have:=of_decide_eq_true d1;omega);have h2:(k+1)*e≤a:=(Int.ofNat_le.1 (by have:=d2;rw[sTw_m (by omega) (by omega)]at this;exact of_decide_eq_true this));have wn:w6.wrap ((n:Int)-((k+1:Nat):Int))=((n-(k+1):Nat):Int):=sTw_n (by omega) h1;have wa:w6.wrap ((a:Int)-w6.wrap (((k+1:Nat):Int)*(e:Int)))=((a-(k+1)*e:Nat):Int):=sTw_a (by omega) (by omega) (by omega) h2;first|omega|(simp only[we,wn,wa,cutw hl,Int.toNat_natCast];first|done|rfl|exact⟨rfl,rfl⟩|omega|exact sTcall hc hI h1 h2|exact List.take_left|exact List.length_append.symm|(refine⟨?_,rfl⟩;rw[List.length_append];exact Nat.le_add_right _ _)|(simp only[List.length_append,List.length_cons,List.length_nil];first|omega|exact⟨by omega,rfl⟩|exact⟨by omega,by omega⟩))|(simp only[List.length_append,List.length_cons,List.length_nil];omega))|(have hx:¬(k+1≤n∧(k+1)*e≤a):=(by rintro⟨q1,q2⟩;first|(have:=of_decide_eq_false d1;omega)|(have h9:=d2;rw[wm]at h9;exact(of_decide_eq_false h9) (Int.ofNat_le.2 q2)));have e1:=sTend hI hx;first|(rw[e1];done)|(rw[e1];rfl))))
theorem beq0 {a:Nat}{b:Bool}(h:((a:Int)==0)=b):Nat.beq a 0=b:=by
 subst h
 cases a with
 |zero=>rfl
 |succ a=>
  cases hb:(((a+1:Nat):Int)==0)with
  |false=>rfl
  |true=>have:=eq_of_beq hb;omega
theorem ltF {x y:Nat}(h:y≤x):decide ((y:Int)>(x:Int))=false:=decide_eq_false (by omega)
theorem ltT {x y:Nat}(h:x<y):decide ((y:Int)>(x:Int))=true:=decide_eq_true (by omega)
section
variable {tw:Bool}{D p:Int}
variable {f e n a:Nat}{L:List Con}{o:LcO}
theorem sTrec (hc:sTC tw D p (f+1) e n a L o)(h0:0<n)(h:n*e≤a):sTC tw D p f (e+1) n a L o:=by
 obtain⟨c1,c2,c3,c4,c5,c6,c7,c8,c9⟩:=hc
 have hen:e≤a:=Nat.le_trans (Nat.le_mul_of_pos_left e h0) h
 rw[scM_go h0 h]at c8
 have hg:=scK_ge (twM_ge tw D p) (f:=f) (e:=e) (n:=n) (a:=a) (L:=L) (o:=scM (twM tw D p) f (e+1) n a L o) (Nat.zero_le (dmx e n a))
 exact⟨by omega,by omega,c3,fun _=>h0,c5,by omega,c7,Nat.le_trans hg c8,c9⟩
theorem sTlop (hc:sTC tw D p (f+1) e n a L o)(h0:0<n)(h:n*e≤a):sTC2 tw D p f e n a L (scM (twM tw D p) f (e+1) n a L o):=by
 obtain⟨c1,c2,c3,c4,c5,c6,c7,c8,c9⟩:=hc
 have hen:e≤a:=Nat.le_trans (Nat.le_mul_of_pos_left e h0) h
 rw[scM_go h0 h]at c8
 exact⟨by omega,h0,h,c3,c5,by omega,c7,c8,c9⟩
theorem sTcbc (hc:sTC tw D p (f+1) e n a L o)(hn:n=0)(ha:Nat.beq a 0=true):cW tw D p L o:=by
 obtain⟨c1,c2,c3,c4,c5,c6,c7,c8,c9⟩:=hc
 subst hn
 rw[scM_n0,ha]at c8
 exact sT_cb (Nat.pos_of_ne_zero fun h=>by have:=c4 h;omega) (by omega) c8 c9 c5
end
theorem sT_n0a:∀(tw:Bool)(D p:Int)(f e n a:Nat)(L:List Con)(hc:sTC tw D p (f+1) e n a L none)(hn:n=0),FnOk Tryd.prog EV.ng (sTA tw D p (f+1) e n a (some L) (some L) none):=by
 refine both ?_ ?_<;>(
  intro tw D p f e n a L hc hn
  have hz:((n:Int)==0)=true:=(by subst hn;rfl)
  have hs:scM (twM tw D p) (f+1) e n a L none=bif Nat.beq a 0 then(twM tw D p) L none else none:=by subst hn;rfl
  refine fn_of_run evOk (callF_ok evOk (orcFnM_ok (sTCb_ok tw D p) (noOrc_ok _ _)) 8) (A:=sTA tw D p (f+1) e n a (some L) (some L) none) Tryd.func62 rfl (N:=(Nat.max 6 Tryd.f62.ntmps)) rfl none_ann evNg ?_
  intro d hd
  cases d
  rotate_right
  have hd:((scM (twM tw D p) (f+1) e n a (scLs (some L)) none).isNone)=true:=hd
  refine oe ((↑a:Int)==0) (fun d1=>oe ((twM tw D p L none).isNone) (fun d2=>⟨(tp 1111),((rq L.length)::(D=D)::pp tw p ((L=L)::(Dec ((↑n:Int)==0) true)::(cW tw D p L none)::(rq L.length)::(L=L)::(D=D)::pp tw p ([ty d2,ty d1,Dec ((↑n:Int)==0) true]))),by kernel_rfl,?_⟩)
   (fun d2=>CtG.no ?_))
   (fun d1=>⟨(tp 121),((rq L.length)::(D=D)::pp tw p ([L=L,Dec ((↑n:Int)==0) true,ty d1,Dec ((↑n:Int)==0) true])),by kernel_rfl,?_⟩)
  all_goals with_reducible(repeat' first|assumption|refine alC ?_ ?_|refine alP ?_ ?_|refine alQ ?_|refine al1 ?_|(delta Dec;assumption))
  rotate_right
  have hd:((scM (twM tw D p) (f+1) e n a (scLs (some L)) none).isNone)=false:=hd
  refine oe ((↑a:Int)==0) (fun d1=>oe ((twM tw D p L none).isNone) (fun d2=>CtG.no ?_)
   (fun d2=>⟨(tp 1121),(let v1:=scM (twM tw D p) (f+1) e n a (scLs (some L)) none;((rq L.length)::((liL (twM tw D p L none)).length=(liL v1).length)::(D=D)::pp tw p ((L=L)::(liL (twM tw D p L none)=liL v1)::(Dec ((↑n:Int)==0) true)::(cW tw D p L none)::(rq L.length)::(L=L)::(D=D)::pp tw p ([ty d2,ty d1,Dec ((↑n:Int)==0) true])))),by kernel_rfl,?_⟩))
   (fun d1=>CtG.no ?_)
  all_goals with_reducible(repeat' first|assumption|refine alC ?_ ?_|refine alP ?_ ?_|refine alQ ?_|refine al1 ?_|(delta Dec;assumption))
  all_goals first|(refine CtG.mk ?_;(first|(have hd:(scM (twM tw D p) (f+1) e n a L none).isNone=_:=hd;have e1:=beq0 d1;rw[e1]at hs;rw[hs]at hd;first|exact Bool.noConfusion (hd.symm.trans d2)|(cases hd;done))))|(first|(with_reducible rfl)|exact⟨rfl,rfl⟩|rfl|exact sTcbc hc hn (beq0 d1)|(have e1:=beq0 d1;rw[e1]at hs;first|(show _=(liL (scM (twM tw D p) (f+1) e n a L none)).length;rw[hs]<;>rfl)|(show _=liL (scM (twM tw D p) (f+1) e n a L none);rw[hs]<;>rfl))))
theorem sT_n0b:∀(tw:Bool)(D p:Int)(f e n a:Nat)(L:List Con)(X:List QfSy.Loc)(hc:sTC tw D p (f+1) e n a L (some X))(hn:n=0),FnOk Tryd.prog EV.ng (sTA tw D p (f+1) e n a (some L) (some L) (some X)):=by
 refine both ?_ ?_<;>(
  intro tw D p f e n a L X hc hn
  have hz:((n:Int)==0)=true:=(by subst hn;rfl)
  have hs:scM (twM tw D p) (f+1) e n a L (some X)=bif Nat.beq a 0 then(twM tw D p) L (some X)else(some X):=by subst hn;rfl
  refine fn_of_run evOk (callF_ok evOk (orcFnM_ok (sTCb_ok tw D p) (noOrc_ok _ _)) 8) (A:=sTA tw D p (f+1) e n a (some L) (some L) (some X)) Tryd.func62 rfl (N:=(Nat.max 6 Tryd.f62.ntmps)) rfl none_ann evNg ?_
  intro d hd
  cases d
  ·exact Bool.noConfusion (show false=true from hd)
  ·refine oe ((↑a:Int)==0) (fun d1=>⟨(tp 111),(let v1:=scM (twM tw D p) (f+1) e n a (scLs (some L)) (some X);((rq L.length)::((liL (twM tw D p L (some X))).length=(liL v1).length)::(D=D)::pp tw p ((L=L)::(liL (twM tw D p L (some X))=liL v1)::(Dec ((↑n:Int)==0) true)::(cW tw D p L (some X))::(rq L.length)::(L=L)::(rq X.length)::(D=D)::pp tw p ([X=X,ty d1,Dec ((↑n:Int)==0) true])))),by kernel_rfl,?_⟩)
    (fun d1=>⟨(tp 121),(let v1:=scM (twM tw D p) (f+1) e n a (scLs (some L)) (some X);((rq L.length)::(X.length=(liL v1).length)::(D=D)::pp tw p ([L=L,X=liL v1,Dec ((↑n:Int)==0) true,ty d1,Dec ((↑n:Int)==0) true]))),by kernel_rfl,?_⟩)
   all_goals with_reducible(repeat' first|assumption|refine alC ?_ ?_|refine alP ?_ ?_|refine alQ ?_|refine al1 ?_|(delta Dec;assumption))
   all_goals first|(refine CtG.mk ?_;(first|(have hd:(scM (twM tw D p) (f+1) e n a L none).isNone=_:=hd;have e1:=beq0 d1;rw[e1]at hs;rw[hs]at hd;first|exact Bool.noConfusion (hd.symm.trans d2)|(cases hd;done))))|(first|(with_reducible rfl)|exact⟨rfl,rfl⟩|rfl|exact sTcbc hc hn (beq0 d1)|(have e1:=beq0 d1;rw[e1]at hs;first|(show _=(liL (scM (twM tw D p) (f+1) e n a L (some X))).length;rw[hs]<;>rfl)|(show _=liL (scM (twM tw D p) (f+1) e n a L (some X));rw[hs]<;>rfl))))
theorem sT_ea:∀(tw:Bool)(D p:Int)(f e n a:Nat)(L:List Con)(h1:0<n)(h2:n≤10)(h3:e≤101)(h4:a≤100)(h5:a<n*e),FnOk Tryd.prog EV.ng (sTA tw D p (f+1) e n a (some L) (some L) none):=by
 refine both ?_ ?_<;>(
  intro tw D p f e n a L h1 h2 h3 h4 h5
  have hz:((n:Int)==0)=false:=beq_eq_false_iff_ne.2 (by omega)
  have hy:decide (w6.wrap ((n:Int)*(e:Int))>(a:Int))=true:=(by rw[sTw_m (by omega) (by omega)];exact ltT h5)
  have hs:scM (twM tw D p) (f+1) e n a L none=none:=scM_end h1 h5
  refine fn_of_run evOk (callF_ok evOk (noOrc_ok _ _) 8) (A:=sTA tw D p (f+1) e n a (some L) (some L) none) Tryd.func62 rfl (N:=(Nat.max 6 Tryd.f62.ntmps)) rfl none_ann evNg ?_
  intro d hd
  cases d
  rotate_right
  have hd:((scM (twM tw D p) (f+1) e n a (scLs (some L)) none).isNone)=true:=hd
  refine⟨(tp 221),((rq L.length)::(D=D)::pp tw p ([L=L,Dec (decide (w6.wrap ((↑n:Int)*↑e)>↑a)) true,Dec ((↑n:Int)==0) false,Dec ((↑n:Int)==0) false])),by kernel_rfl,?_⟩
  all_goals with_reducible(repeat' first|assumption|refine alC ?_ ?_|refine alP ?_ ?_|refine alQ ?_|refine al1 ?_|(delta Dec;assumption))
  rotate_right
  have hd:((scM (twM tw D p) (f+1) e n a (scLs (some L)) none).isNone)=false:=hd
  refine CtG.no ?_
  all_goals first|(refine CtG.mk ?_;((have hd:(scM (twM tw D p) (f+1) e n a L none).isNone=_:=hd;rw[hs]at hd;cases hd)))|(first|(with_reducible rfl)|exact⟨rfl,rfl⟩|rfl|(show _=(liL (scM (twM tw D p) (f+1) e n a L none)).length;rw[hs]<;>rfl)|(show _=liL (scM (twM tw D p) (f+1) e n a L none);rw[hs]<;>rfl)))
theorem sT_eb:∀(tw:Bool)(D p:Int)(f e n a:Nat)(L:List Con)(X:List QfSy.Loc)(h1:0<n)(h2:n≤10)(h3:e≤101)(h4:a≤100)(h5:a<n*e),FnOk Tryd.prog EV.ng (sTA tw D p (f+1) e n a (some L) (some L) (some X)):=by
 refine both ?_ ?_<;>(
  intro tw D p f e n a L X h1 h2 h3 h4 h5
  have hz:((n:Int)==0)=false:=beq_eq_false_iff_ne.2 (by omega)
  have hy:decide (w6.wrap ((n:Int)*(e:Int))>(a:Int))=true:=(by rw[sTw_m (by omega) (by omega)];exact ltT h5)
  have hs:scM (twM tw D p) (f+1) e n a L (some X)=(some X):=scM_end h1 h5
  refine fn_of_run evOk (callF_ok evOk (noOrc_ok _ _) 8) (A:=sTA tw D p (f+1) e n a (some L) (some L) (some X)) Tryd.func62 rfl (N:=(Nat.max 6 Tryd.f62.ntmps)) rfl none_ann evNg ?_
  intro d hd
  cases d
  ·exact Bool.noConfusion (show false=true from hd)
  ·refine⟨(tp 221),(let z1:=scM (twM tw D p) (f+1) e n a (scLs (some L)) (some X);((rq L.length)::(X.length=(liL z1).length)::(D=D)::pp tw p ([L=L,X=liL z1,Dec (decide (w6.wrap ((↑n:Int)*↑e)>↑a)) true,Dec ((↑n:Int)==0) false,Dec ((↑n:Int)==0) false]))),by kernel_rfl,?_⟩
   all_goals with_reducible(repeat' first|assumption|refine alC ?_ ?_|refine alP ?_ ?_|refine alQ ?_|refine al1 ?_|(delta Dec;assumption))
   all_goals first|(refine CtG.mk ?_;((have hd:(scM (twM tw D p) (f+1) e n a L none).isNone=_:=hd;rw[hs]at hd;cases hd)))|(first|(with_reducible rfl)|exact⟨rfl,rfl⟩|rfl|(show _=(liL (scM (twM tw D p) (f+1) e n a L (some X))).length;rw[hs]<;>rfl)|(show _=liL (scM (twM tw D p) (f+1) e n a L (some X));rw[hs]<;>rfl)))
theorem sT_ec:∀(tw:Bool)(D p:Int)(f e n a:Nat)(h1:0<n)(h2:n≤10)(h3:e≤101)(h4:a≤100)(h5:a<n*e),FnOk Tryd.prog EV.ng (sTA tw D p (f+1) e n a none none none):=by
 refine both ?_ ?_<;>(
  intro tw D p f e n a h1 h2 h3 h4 h5
  have hz:((n:Int)==0)=false:=beq_eq_false_iff_ne.2 (by omega)
  have hy:decide (w6.wrap ((n:Int)*(e:Int))>(a:Int))=true:=(by rw[sTw_m (by omega) (by omega)];exact ltT h5)
  have hs:scM (twM tw D p) (f+1) e n a [] none=none:=scM_end h1 h5
  refine fn_of_run evOk (callF_ok evOk (noOrc_ok _ _) 8) (A:=sTA tw D p (f+1) e n a none none none) Tryd.func62 rfl (N:=(Nat.max 6 Tryd.f62.ntmps)) rfl none_ann evNg ?_
  intro d hd
  cases d
  rotate_right
  have hd:((scM (twM tw D p) (f+1) e n a (scLs none) none).isNone)=true:=hd
  refine⟨(tp 221),((D=D)::pp tw p ([Dec (decide (w6.wrap ((↑n:Int)*↑e)>↑a)) true,Dec ((↑n:Int)==0) false,Dec ((↑n:Int)==0) false])),by kernel_rfl,?_⟩
  all_goals with_reducible(repeat' first|assumption|refine alC ?_ ?_|refine alP ?_ ?_|refine alQ ?_|refine al1 ?_|(delta Dec;assumption))
  rotate_right
  have hd:((scM (twM tw D p) (f+1) e n a (scLs none) none).isNone)=false:=hd
  refine CtG.no ?_
  all_goals first|(refine CtG.mk ?_;((have hd:(scM (twM tw D p) (f+1) e n a [] none).isNone=_:=hd;rw[hs]at hd;cases hd)))|(first|(with_reducible rfl)|exact⟨rfl,rfl⟩|rfl|(show _=(liL (scM (twM tw D p) (f+1) e n a [] none)).length;rw[hs]<;>rfl)|(show _=liL (scM (twM tw D p) (f+1) e n a [] none);rw[hs]<;>rfl)))
theorem sT_ed:∀(tw:Bool)(D p:Int)(f e n a:Nat)(X:List QfSy.Loc)(h1:0<n)(h2:n≤10)(h3:e≤101)(h4:a≤100)(h5:a<n*e),FnOk Tryd.prog EV.ng (sTA tw D p (f+1) e n a none none (some X)):=by
 refine both ?_ ?_<;>(
  intro tw D p f e n a X h1 h2 h3 h4 h5
  have hz:((n:Int)==0)=false:=beq_eq_false_iff_ne.2 (by omega)
  have hy:decide (w6.wrap ((n:Int)*(e:Int))>(a:Int))=true:=(by rw[sTw_m (by omega) (by omega)];exact ltT h5)
  have hs:scM (twM tw D p) (f+1) e n a [] (some X)=(some X):=scM_end h1 h5
  refine fn_of_run evOk (callF_ok evOk (noOrc_ok _ _) 8) (A:=sTA tw D p (f+1) e n a none none (some X)) Tryd.func62 rfl (N:=(Nat.max 6 Tryd.f62.ntmps)) rfl none_ann evNg ?_
  intro d hd
  cases d
  ·exact Bool.noConfusion (show false=true from hd)
  ·refine⟨(tp 221),(let z1:=scM (twM tw D p) (f+1) e n a (scLs none) (some X);((X.length=(liL z1).length)::(D=D)::pp tw p ([X=liL z1,Dec (decide (w6.wrap ((↑n:Int)*↑e)>↑a)) true,Dec ((↑n:Int)==0) false,Dec ((↑n:Int)==0) false]))),by kernel_rfl,?_⟩
   all_goals with_reducible(repeat' first|assumption|refine alC ?_ ?_|refine alP ?_ ?_|refine alQ ?_|refine al1 ?_|(delta Dec;assumption))
   all_goals first|(refine CtG.mk ?_;((have hd:(scM (twM tw D p) (f+1) e n a [] none).isNone=_:=hd;rw[hs]at hd;cases hd)))|(first|(with_reducible rfl)|exact⟨rfl,rfl⟩|rfl|(show _=(liL (scM (twM tw D p) (f+1) e n a [] (some X))).length;rw[hs]<;>rfl)|(show _=liL (scM (twM tw D p) (f+1) e n a [] (some X));rw[hs]<;>rfl)))
end Go.Proofs.YtmeljalphfcieaaDoor.S
end
