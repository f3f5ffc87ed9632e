/- A part of the proof of ExistenceGenera: ZFN, EP, ZTY, YL, EB, EC, ED, EE, ZFP, KA, YN, YP, VA, YQ, VB, TA, TB, YB, YC, YD, Y1, YA, YR, YK, TE, TM, VC, TC, YU, TD, TF, TG, TH, TI, RB, RH. -/
import Derived.Test.YtmeljalphfcieaaGreatDoorPkG2
set_option linter.unusedSimpArgs false
set_option linter.unusedVariables false
set_option maxRecDepth 100000
open Go.IntKind renaming i64 → w6
open Go.QfSy.Con renaming zero → z0c
open Go.QfSy.Loc renaming zero → z0l
noncomputable section
namespace Go.QfSy
open Go.RowKit
structure cg where
 f:Nat
 args:List AV
 pre:List (Nat×ai)
 nx:Nat
 test:Option Bool
 post:Bool→AV×List (Nat×ai)×Nat
def cg.TestOk (A:cg)(d:Bool):Prop:=match A.test with
 |none=>d=true
 |some c=>c=d
def aJ (P:Program)(ng:Nat)(A:cg):Prop:=
 (∃fn,P.funcs[A.f]? =some fn∧fn.body.isSome=true)∧∀d,A.TestOk d→∀γ w Args,aQ γ (bc A.pre).get A.nx w→au γ A.args Args→ki ng γ→
   Calls P A.f Args.toArray w fun e w'=>∃V γ',e=.returned V∧ap γ' (A.post d).1 V∧bj γ (bc A.pre).get w γ' (bc (A.post d).2.1).get (A.post d).2.2 w'∧∀b,b<A.nx→γ' b=γ b
mutual
theorem zF {γ1 γ2:Gm}{σ:Nat→Nat}{p:Nat→Bool}(hs:∀b,p b=true→γ2 (σ b)=γ1 b)(hz:γ2.fz=γ1.fz):∀{v:AV}{V:Value},i6 p v=true→ap γ1 v V→ap γ2 (bI σ v) V:=by
 intro v V hn h
 cases v with
 |ptr b o=>simp only[bI];cases h with|ptr _ hg=>exact .ptr _ (by rw[hs b hn];exact hg)
 |slc b o n c=>simp only[bI];cases h with|slc _ _ _ hg=>exact .slc _ _ _ (by rw[hs b hn];exact hg)
 |lo b n=>simp only[bI];cases h with|lo _ hg=>exact .lo _ (by rw[hs b hn];exact hg)
 |lp b i z j=>simp only[bI];cases h with|lp _ _ _ hg=>exact .lp _ _ _ (by rw[hs b hn];exact hg)
 |ls b o z n e=>simp only[bI];cases h with|ls _ _ _ hg ha hc he=>exact .ls _ _ _ (by rw[hs b hn];exact hg) ha hc he
 |fn f vs=>simp only[bI];cases h with|fn _ hv=>exact .fn _ (pY hs hz hn hv)
 |ifc t u=>simp only[bI];cases h with|ifc _ hv=>exact .ifc _ (zF hs hz hn hv)
 |agg vs=>simp only[bI];cases h with|agg hv=>exact .agg (pY hs hz hn hv)
 |tup vs=>simp only[bI];cases h with|tup hv=>exact .tup (pY hs hz hn hv)
 |vbool b=>simp only[bI];cases h;exact .vbool _
 |vint k n=>simp only[bI];cases h;exact .vint _ _
 |vstr s=>simp only[bI];cases h;exact .vstr _
 |verr b=>simp only[bI];cases h with|verr hR=>exact .verr hR
 |vnum k=>simp only[bI];cases h;exact .vnum _ _
 |ro n sz row=>simp only[bI];cases h with|ro hR=>exact .ro (by rw[hz];exact hR)
 |rp cs j=>simp only[bI];cases h with|rp hR hf=>exact .rp (by rw[hz];exact hR) (fun i v hv=>by rw[hz];exact hf i v hv)
 |z0=>simp only[bI];cases h;exact .z0 _
 |bool b=>simp only[bI];cases h;exact .bool _
 |int k n=>simp only[bI];cases h;exact .int _ _
 |str s=>simp only[bI];cases h;exact .str _
 |nilp=>simp only[bI];cases h;exact .nilp
 |nils=>simp only[bI];cases h;exact .nils
 |emp=>simp only[bI];cases h;exact .emp _ _
 |zer=>simp only[bI];cases h;exact .zer _
 |nilfn=>simp only[bI];cases h;exact .nilfn
 |nilif=>simp only[bI];cases h;exact .nilif
theorem pY {γ1 γ2:Gm}{σ:Nat→Nat}{p:Nat→Bool}(hs:∀b,p b=true→γ2 (σ b)=γ1 b)(hz:γ2.fz=γ1.fz):∀{vs:List AV}{Vs:List Value},iq p vs=true→au γ1 vs Vs→au γ2 (fX σ vs) Vs:=by
 intro vs Vs hn h
 cases vs with
 |nil=>simp only[fX];cases h;exact .nil
 |cons v vs=>
  simp only[fX]
  simp only[iq,aX]at hn
  cases h with
  |cons hv ht=>exact .cons (zF hs hz hn.1 hv) (pY hs hz hn.2 ht)
end
theorem E5 (σ:Nat→Nat):∀(a b:List AV),fX σ (a++b)=fX σ a++fX σ b
 |[],b=>rfl
 |v::a,b=>by simp only[kx,fX,E5 σ a b]
theorem HD (σ:Nat→Nat)(kk:IntKind):∀L:List (List Int),fX σ (L.map (fZ kk))=L.map (fZ kk)
 |[]=>rfl
 |l::L=>by simp only[jY,fX,HD σ kk L];rfl
theorem HE {p:Nat→Bool}(kk:IntKind){b n:Nat}:∀L:List (List Int),p b=true→iq p (L.map (fZ kk)++[.lo b n])=true
 |[],h=>by simp[iq,i6,h]
 |l::L,h=>by simp only[jY,kx,iq,HE kk L h,Bool.and_true];rfl
theorem RQ {γ1 γ2:Gm}{σ:Nat→Nat}{p:Nat→Bool}(hs:∀b,p b=true→γ2 (σ b)=γ1 b)(hz:γ2.fz=γ1.fz){k:ai}(hn:jc p k.view=true){cs:List Value}(h:au γ1 k.cells cs):au γ2 (iM σ k).cells cs:=by
 obtain⟨view,el,sz,opn,own⟩:=k
 cases view with
 |plain l=>exact pY hs hz hn h
 |con L=>exact yx L cs h
 |ints kk L=>exact yy kk L cs h
 |vals τ L=>exact yz hz L cs h
 |rows kk L b n=>
  have h:au γ1 (L.map (fZ kk)++[.lo b n]) cs:=h
  show au γ2 (L.map (fZ kk)++[.lo (σ b) n]) cs
  have e:fX σ (L.map (fZ kk)++[.lo b n])=L.map (fZ kk)++[.lo (σ b) n]:=by
   rw[E5,HD];rfl
  rw[←e]
  exact pY hs hz (HE kk L hn) h
def qg (ng:Nat)(m:Tr ai):List (Nat×ai)→List (Nat×Nat)→List (Nat×Nat)
 |[],rn=>rn
 |(b,k)::l,rn=>match m.get (fh rn b)with
  |none=>qg ng m l rn
  |some k'=>match k.view,k'.view with
   |.plain cs,.plain cs'=>qg ng m l (ns ng (nk cs cs') rn)
   |.rows _ _ c _,.rows _ _ c' _=>qg ng m l (ns ng [(c,c')] rn)
   |_,_=>qg ng m l rn
def uS (rn:List (Nat×Nat)):List (Nat×ai)→Tr ai→Option (Tr ai)
 |[],m=>some m
 |(b,_)::l,m=>match m.set (fh rn b) none with
  |none=>none
  |some m'=>uS rn l m'
def vt (τ:Nat→Nat):List (Nat×ai)→Tr ai→Option (Tr ai)
 |[],m=>some m
 |(b,k)::l,m=>match m.set (τ b) (some (iM τ k))with
  |none=>none
  |some m'=>vt τ l m'
def Ag (rn:List (Nat×Nat))(a n b:Nat):Nat:=bif Nat.blt b a then fh rn b else b-a+n
def HF (ng:Nat)(A:cg)(rn:List (Nat×Nat))(nx:Nat)(post:AV×List (Nat×ai)×Nat):Bool:=
 rn.all (fun p=>Nat.ble ng p.1&&Nat.blt p.1 A.nx&&Nat.ble ng p.2&&Nat.blt p.2 nx)&&lj (rn.map (·.1))&&lj (rn.map (·.2))&&eN A.pre&&eN post.2.1&&Nat.ble ng A.nx&&Nat.ble A.nx post.2.2&&iq (eG ng rn) A.args&&
 i6 (fun b=>eG ng rn b||(Nat.ble A.nx b&&Nat.blt b post.2.2)) post.1&&
 post.2.1.all (fun q=>(eG ng rn q.1||(Nat.ble A.nx q.1&&Nat.blt q.1 post.2.2))&&jc (fun b=>eG ng rn b||(Nat.ble A.nx b&&Nat.blt b post.2.2)) q.2.view&&(q.2.own||(Nat.blt q.1 ng&&jc (fun _=>false) q.2.view)))&&lj (post.2.1.map (·.1))
def tc (ng:Nat)(A:cg)(args:List AV)(H:Hs):Option (AV×Hs):=
 let rn:=qg ng H.m A.pre (ns ng (nk A.args args) [])
 match nr args (fX (fh rn) A.args)with
 |none=>none
 |some m0=>match te (fh rn) (eG ng rn) H.m A.pre with
  |none=>none
  |some m1=>match(match A.test with
   |none=>(true,H)
   |some b=>H.ask b)with
   |(d,H1)=>bif HF ng A rn H.nx (A.post d)&&Nat.ble ng H.nx then
      (match uS rn A.pre H.m with
      |none=>none
      |some m2=>match vt (Ag rn A.nx H.nx) (A.post d).2.1 m2 with
       |none=>none
       |some m3=>some (bI (Ag rn A.nx H.nx) (A.post d).1,⟨m3,H.nx+((A.post d).2.2-A.nx),H1.tp,m0++(m1++H1.ms)⟩))
    else none
theorem C3 {rn:List (Nat×Nat)}:∀{l:List (Nat×ai)}{m m':Tr ai},uS rn l m=some m'→∀c k,m'.get c=some k→m.get c=some k∧∀q∈l,c≠fh rn q.1
 |[],m,m',h,c,k,hc=>by cases h;exact⟨hc,fun q hq=>by cases hq⟩
 |(b,kb)::l,m,m',h,c,k,hc=>by
  simp only[uS]at h
  split at h
  ·cases h
  ·rename_i m1 hs
   obtain⟨h1,h2⟩:=C3 h c k hc
   rw[eo hs]at h1
   by_cases e:c=fh rn b
   ·subst e;rw[fb]at h1;cases h1
   ·rw[dl _ _ e]at h1
    refine⟨h1,fun q hq=>?_⟩
    rcases bx.1 hq with rfl|hq
    ·exact e
    ·exact h2 q hq
theorem Dm {τ:Nat→Nat}:∀{l:List (Nat×ai)}{m m':Tr ai},vt τ l m=some m'→∀c k,m'.get c=some k→(∃q∈l,c=τ q.1∧k=iM τ q.2)∨m.get c=some k
 |[],m,m',h,c,k,hc=>by cases h;exact .inr hc
 |(b,kb)::l,m,m',h,c,k,hc=>by
  simp only[vt]at h
  split at h
  ·cases h
  ·rename_i m1 hs
   rcases Dm h c k hc with⟨q,h1,h2⟩|h1
   ·exact .inl ⟨q,fT _ h1,h2⟩
   ·rw[eo hs]at h1
    by_cases e:c=τ b
    ·subst e;rw[fb]at h1;cases h1;exact .inl ⟨(b,kb),cZ,rfl,rfl⟩
    ·rw[dl _ _ e]at h1;exact .inr h1
theorem E6 {α:Type}:∀{l:List (Nat×α)},eN l=true→lj (l.map (·.1))=true→∀{b:Nat}{k:α},(b,k)∈l→(bc l).get b=some k
 |[],_,_,b,k,h=>by cases h
 |(a,x)::l,hn,ha,b,k,h=>by
  simp only[eN,kZ,aX]at hn
  simp only[jY,lj,aX]at ha
  have hj:=aU hn.1
  simp only[bc]
  rw[Tr.get_setF 40 _ a b _ (by simp only[Tr.top]at hj;omega)]
  rcases bx.1 h with e|h
  ·cases e;rw[if_pos rfl]
  ·have hne:b≠a:=by
    intro e
    have:=bX.1 ha.1 b (j0.2 ⟨(b,k),h,rfl⟩)
    rw[e,mY]at this
    cases this
   rw[if_neg hne]
   exact E6 hn.2 ha.2 h
theorem xL {a b:Bool}:(a||b)=true↔a=true∨b=true:=by simp
theorem RS {P:Program}{ng:Nat}{A:cg}(hA:aJ P ng A){args:List AV}{H H':Hs}{v:AV}(h:tc ng A args H=some (v,H')):
 (∀p∈H.ms,p∈H'.ms)∧((∀p∈H'.ms,p)→∀γ w Args,aQ γ H.m.get H.nx w→au γ args Args→ki ng γ→
 (∃fn,P.funcs[A.f]? =some fn∧fn.body.isSome=true)∧
 Calls P A.f Args.toArray w fun e w'=>∃V γ',e=.returned V∧ap γ' v V∧dh γ H w γ' H' w'):=by
 unfold tc at h
 simp only at h
 generalize hrn:qg ng H.m A.pre (ns ng (nk A.args args) [])=rn at h
 split at h
 ·cases h
 rename_i m0 h0
 split at h
 ·cases h
 rename_i m1 h1
 have hask:∀d H1,(match A.test with
  |none=>(true,H)
  |some b=>H.ask b)=(d,H1)→(∀p∈H.ms,p∈H1.ms)∧((∀p∈H1.ms,p)→A.TestOk d):=by
  intro d H1 he
  unfold cg.TestOk
  split at he
  ·cases he;exact⟨fun p hp=>hp,fun _=>rfl⟩
  ·rename_i c hc
   have k:=lg H c
   rw[he]at k
   exact⟨fun p hp=>by rw[k];exact fT _ hp,fun hm=>hm (aj c d) (by rw[k];exact cZ)⟩
 generalize hr0:(match A.test with
  |none=>(true,H)
  |some b=>H.ask b)=r at h
 obtain⟨d,H1⟩:=r
 obtain⟨hask1,hask2⟩:=hask d H1 hr0
 simp only at h
 obtain⟨hgood,h'⟩:=az h
 clear h
 obtain⟨hgood,hngH⟩:=bq hgood
 have hngH:=aU hngH
 split at h'
 ·cases h'
 rename_i m2 hkill
 split at h'
 ·cases h'
 rename_i m3 hput
 cases h'
 refine⟨fun p hp=>by simp[hask1 p hp],fun hm γ w Args hr hV hg=>⟨hA.1,?_⟩⟩
 have hm0:∀p∈m0,p:=fun p hp=>hm p (by simp[hp])
 have hm1:∀p∈m1,p:=fun p hp=>hm p (by simp[hp])
 have htest:A.TestOk d:=hask2 (fun p hp=>hm p (by simp[hp]))
 generalize hpost:A.post d=post at hgood hput
 obtain⟨v0,pm,pnx⟩:=post
 unfold HF at hgood
 simp only[aX]at hgood
 obtain⟨⟨⟨⟨⟨⟨⟨⟨⟨⟨c1,c2⟩,c3⟩,c4⟩,c5⟩,c6⟩,c7⟩,c8⟩,c9⟩,dj⟩,kR⟩:=hgood
 have c6:=aU c6
 have c7:=aU c7
 have ca:∀p∈rn,ng≤p.1∧p.1<A.nx∧ng≤p.2∧p.2<H.nx:=by
  intro p hp
  have:=bX.1 c1 p hp
  simp only[aX]at this
  obtain⟨⟨⟨a1,a2⟩,a3⟩,a4⟩:=this
  exact⟨aU a1,aU a2,aU a3,aU a4⟩
 have ckeys:rn.all (fun p=>Nat.ble ng p.1)=true:=by
  rw[bX]
  intro p hp
  exact gK (ca p hp).1
 let σ:=fh rn
 have hin:∀b,eG ng rn b=true→(b<ng∧σ b=b)∨(ng≤b∧b<A.nx∧(b,σ b)∈rn):=by
  intro b hb
  unfold eG at hb
  rcases xL.1 hb with h'|h'
  ·have h':=aU h'
   exact .inl ⟨h',k9 ckeys h'⟩
  ·have hmem:=pZ h'
   have:=ca _ hmem
   exact .inr ⟨this.1,this.2.1,hmem⟩
 have hσlt:∀b,eG ng rn b=true→σ b<H.nx:=by
  intro b hb
  rcases hin b hb with⟨h1,h2⟩|⟨_,_,h3⟩
  ·rw[h2];omega
  ·exact(ca _ h3).2.2.2
 have hilt:∀b,eG ng rn b=true→b<A.nx:=by
  intro b hb
  rcases hin b hb with⟨h1,h2⟩|⟨_,h2,h3⟩<;>omega
 have hσinj:∀b b',eG ng rn b=true→eG ng rn b'=true→σ b=σ b'→b=b':=by
  intro b b' hb hb' he
  rcases hin b hb with⟨h1,h2⟩|⟨h1,h2,h3⟩
  ·rcases hin b' hb' with⟨k1,k2⟩|⟨k1,k2,k3⟩
   ·rw[h2,k2]at he;exact he
   ·have:=(ca _ k3).2.2.1
    rw[←he,h2]at this
    omega
  ·rcases hin b' hb' with⟨k1,k2⟩|⟨k1,k2,k3⟩
   ·have:=(ca _ h3).2.2.1
    simp only at this
    rw[he,k2]at this
    omega
   ·rw[he]at h3
    exact yw c3 h3 k3
 let γ2:Gm:=⟨fun b=>if eG ng rn b=true then γ (σ b)else none,γ.fz⟩
 have hs:∀b,eG ng rn b=true→γ2 b=γ (σ b):=by
  intro b hb
  show(if _ then _ else _)=_
  rw[if_pos hb]
 have hpre:∀b k,(bc A.pre).get b=some k→eG ng rn b=true∧jc (eG ng rn) k.view=true∧∃k',H.m.get (σ b)=some k'∧k.elem=k'.elem∧k.sz=k'.sz∧k.opn=k'.opn∧k.own=k'.own∧(∀γ cs,au γ k'.cells cs→au γ (iM σ k).cells cs)∧(k.own=false→k'=iM σ k):=
  fun b k hb=>yZ _ _ h1 hm1 b k (jE _ _ _ c4 hb)
 have hown:∀B,fI γ2 (bc A.pre).get B→fI γ H.m.get B:=by
  rintro B ⟨b,k,x,q1,q2,q3⟩
  obtain⟨r1,r2,k',r3,r4,r5,r6,r7,r8,r9⟩:=hpre b k q1
  exact⟨σ b,k',x,r3,by rw[←r7];exact q2,by rw[←hs b r1];exact q3⟩
 have hR2:aQ γ2 (bc A.pre).get A.nx w:=by
  refine⟨fun b k hb=>?_,fun b b' k k' B x x' q1 q2 q3 q4=>?_,fun b hb=>?_,hr.fzr,fun b k B x hb ho hgb=>?_⟩
  ·obtain⟨r1,r2,k',r3,r4,r5,r6,r7,r8,r9⟩:=hpre b k hb
   obtain⟨B,x,cs,ex,g1,g2,g3,g4,g5⟩:=hr.blk _ _ r3
   exact⟨B,x,cs,ex,by rw[hs b r1];exact g1,by rw[r4];exact g2,Do hs rfl r2 (r8 γ cs g3),by rw[r5];exact g4,by rw[r6];exact g5⟩
  ·obtain⟨r1,_,kk,r3,_⟩:=hpre b k q1
   obtain⟨s1,_,kk',s3,_⟩:=hpre b' k' q2
   rw[hs b r1]at q3
   rw[hs b' s1]at q4
   exact hσinj b b' r1 s1 (hr.inj _ _ _ _ _ _ _ r3 s3 q3 q4)
  ·show(if _ then _ else _)=_
   rw[if_neg]
   intro hn
   have:=hilt b hn
   omega
  ·obtain⟨r1,r2,k',r3,r4,r5,r6,r7,r8,r9⟩:=hpre b k hb
   rw[hs b r1]at hgb
   exact hr.fzo _ k' B x r3 (by rw[←r7];exact ho) hgb
 have hargs:au γ2 A.args Args:=oB hs rfl c8 (pO h0 hm0 γ Args hV)
 have hglob:ki ng γ2:=by
  intro g hg'
  have hn:eG ng rn g=true:=xL.2 (.inl (gK hg'))
  rw[hs g hn,show σ g=g from k9 ckeys hg']
  exact hg g hg'
 refine(hA.2 d htest γ2 w Args hR2 hargs hglob).mono ?_
 rintro e w' ⟨V,γ',rfl,hv,hst,hkeep⟩
 rw[hpost]at hv hst
 simp only at hv hst
 let τ:=Ag rn A.nx H.nx
 let N:=H.nx+(pnx-A.nx)
 let pq:Nat→Bool:=fun b=>eG ng rn b||(Nat.ble A.nx b&&Nat.blt b pnx)
 have hτlo:∀b,b<A.nx→τ b=σ b:=by
  intro b hb
  show(bif Nat.blt b A.nx then _ else _)=_
  rw[show Nat.blt b A.nx=true from gK hb]
  rfl
 have hτhi:∀b,A.nx≤b→τ b=b-A.nx+H.nx:=by
  intro b hb
  have:Nat.blt b A.nx=false:=by
   cases hx:Nat.blt b A.nx with
   |false=>rfl
   |true=>have:=aU hx;omega
  show(bif Nat.blt b A.nx then _ else _)=_
  rw[this]
  rfl
 have hpq:∀b,pq b=true→eG ng rn b=true∨(A.nx≤b∧b<pnx):=by
  intro b hb
  rcases xL.1 hb with h'|h'
  ·exact .inl h'
  ·obtain⟨k1,k2⟩:=bq h'
   exact .inr ⟨aU k1,aU k2⟩
 let γ3:Gm:=⟨fun b=>if b<H.nx then γ b else if b<N then γ' (b-H.nx+A.nx)else none,γ'.fz⟩
 have hold:∀b,b<H.nx→γ3 b=γ b:=by
  intro b hb
  show(if b<H.nx then _ else _)=_
  rw[if_pos hb]
 have ht:∀b,pq b=true→γ3 (τ b)=γ' b:=by
  intro b hb
  rcases hpq b hb with h'|⟨k1,k2⟩
  ·have hlt:=hilt b h'
   rw[hτlo b hlt,hold _ (hσlt b h'),hkeep b hlt,hs b h']
  ·rw[hτhi b k1]
   show(if _ then _ else _)=_
   rw[if_neg om]
   show(if b-A.nx+H.nx<H.nx+(pnx-A.nx)then _ else _)=_
   rw[if_pos om]
   congr 1
   omega
 have hpm:∀q∈pm,pq q.1=true∧jc pq q.2.view=true∧(q.2.own=true∨(q.1<ng∧jc (fun _=>false) q.2.view=true)):=by
  intro q hq
  have:=bX.1 dj q hq
  simp only[aX]at this
  obtain⟨⟨a1,a2⟩,a3⟩:=this
  refine⟨a1,a2,?_⟩
  rcases xL.1 a3 with h'|h'
  ·exact .inl h'
  ·obtain⟨k1,k2⟩:=bq h'
   exact .inr ⟨aU k1,k2⟩
 have hget:∀c kk,m3.get c=some kk→(∃q∈pm,c=τ q.1∧kk=iM τ q.2)∨(H.m.get c=some kk∧∀q∈A.pre,c≠σ q.1):=by
  intro c kk hc
  rcases Dm hput c kk hc with h'|h'
  ·exact .inl h'
  ·exact .inr (C3 hkill c kk h')
 have hpmget:∀q∈pm,(bc pm).get q.1=some q.2:=fun q hq=>E6 c5 kR (b:=q.1) (k:=q.2) hq
 have hle:γ.le γ3:=by
  refine⟨fun b p hb=>?_,hst.le.fz⟩
  have hlt:b<H.nx:=by
   rcases bA b H.nx with h'|h'
   ·exact h'
   ·rw[hr.fresh b h']at hb;cases hb
  rw[hold b hlt];exact hb
 -- old blocks that the callee does not see
 have hsafe:∀c kk B x,H.m.get c=some kk→(∀q∈A.pre,c≠σ q.1)→γ c=some (B,x)→B<w.heap.size∧¬fI γ2 (bc A.pre).get B∧c<H.nx:=by
  intro c kk B x hc hne hgc
  refine⟨hr.lt hc hgc,?_,?_⟩
  ·rintro⟨b,k,y,q1,q2,q3⟩
   obtain⟨r1,r2,k',r3,_⟩:=hpre b k q1
   rw[hs b r1]at q3
   exact hne (b,k) (jE _ _ _ c4 q1) (hr.inj c (σ b) kk k' B x y hc r3 hgc q3)
  ·rcases bA c H.nx with h'|h'
   ·exact h'
   ·rw[hr.fresh c h']at hgc;cases hgc
 have hcross:∀q c kk B x x',q∈pm→H.m.get c=some kk→(∀q∈A.pre,c≠σ q.1)→γ' q.1=some (B,x)→γ c=some (B,x')→False:=by
  intro q c kk B x x' hq hc hne hgq hgc
  obtain⟨s1,s2,s3⟩:=hsafe c kk B x' hc hne hgc
  have hqg:=hpmget q hq
  cases ho:q.2.own with
  |true=>exact s2 (hst.own B s1 ⟨q.1,q.2,x,hqg,ho,hgq⟩)
  |false=>
   have hpq':=hst.ro q.1 q.2 hqg ho
   obtain⟨r1,r2,k',r3,_⟩:=hpre q.1 q.2 hpq'
   rw[hkeep q.1 (hilt _ r1),hs _ r1]at hgq
   exact hne (q.1,q.2) (jE _ _ _ c4 hpq') (hr.inj c (σ q.1) kk k' B x' x hc r3 hgc hgq)
 refine⟨V,γ3,rfl,zF ht rfl c9 hv,⟨⟨hle,⟨fun c kk hc=>?_,fun c c' kk kk' B x x' q1 q2 q3 q4=>?_,fun b hb=>?_,hst.rel.fzr,fun c kk B x hc ho hgc=>?_⟩,hst.size,hst.os,hst.tape,hst.output,fun k hk hn=>hst.frame k hk (fun hx=>hn (hown k hx)),fun k hk ho=>?_,fun c kk hc ho=>?_,fun c kk hc=>?_,fun B x hB=>?_,hst.drawn⟩,kW _ _,hold⟩⟩
 ·rcases hget c kk hc with⟨q,hq,rfl,rfl⟩|⟨hc,hne⟩
  ·obtain⟨B,x,cs,ex,g1,g2,g3,g4,g5⟩:=hst.rel.blk q.1 q.2 (hpmget q hq)
   obtain⟨a1,a2,a3⟩:=hpm q hq
   exact⟨B,x,cs,ex,by rw[ht q.1 a1];exact g1,g2,RQ ht rfl a2 g3,g4,g5⟩
  ·obtain⟨B,x,cs,ex,g1,g2,g3,g4,g5⟩:=hr.blk c kk hc
   obtain⟨s1,s2,s3⟩:=hsafe c kk B x hc hne g1
   exact⟨B,x,cs,ex,by rw[hold c s3];exact g1,by rw[hst.frame B s1 s2];exact g2,g3.mono hle,g4,g5⟩
 ·rcases hget c kk q1 with⟨q,hq,rfl,rfl⟩|⟨hc,hne⟩
  ·rw[ht q.1 (hpm q hq).1]at q3
   rcases hget c' kk' q2 with⟨q',hq',rfl,rfl⟩|⟨hc',hne'⟩
   ·rw[ht q'.1 (hpm q' hq').1]at q4
    rw[hst.rel.inj _ _ _ _ _ _ _ (hpmget q hq) (hpmget q' hq') q3 q4]
   ·obtain⟨B0,x0,_,_,g1,_⟩:=hr.blk c' kk' hc'
    have hlt:=(hsafe c' kk' B0 x0 hc' hne' g1).2.2
    rw[hold c' hlt]at q4
    exact(hcross q c' kk' B x x' hq hc' hne' q3 q4).elim
  ·obtain⟨B0,x0,_,_,g1,_⟩:=hr.blk c kk hc
   have hlt:=(hsafe c kk B0 x0 hc hne g1).2.2
   rw[hold c hlt]at q3
   rcases hget c' kk' q2 with⟨q',hq',rfl,rfl⟩|⟨hc',hne'⟩
   ·rw[ht q'.1 (hpm q' hq').1]at q4
    exact(hcross q' c kk B x' x hq' hc hne q4 q3).elim
   ·obtain⟨B1,x1,_,_,g1',_⟩:=hr.blk c' kk' hc'
    have hlt':=(hsafe c' kk' B1 x1 hc' hne' g1').2.2
    rw[hold c' hlt']at q4
    exact hr.inj _ _ _ _ _ _ _ hc hc' q3 q4
 ·show(if b<H.nx then _ else _)=_
  have hb:N≤b:=hb
  have:H.nx≤N:=kW _ _
  rw[if_neg om,if_neg om]
 ·rcases hget c kk hc with⟨q,hq,rfl,rfl⟩|⟨hc,hne⟩
  ·rw[ht q.1 (hpm q hq).1]at hgc
   exact hst.rel.fzo q.1 q.2 B x (hpmget q hq) ho hgc
  ·obtain⟨B0,x0,_,_,g1,_⟩:=hr.blk c kk hc
   have hlt:=(hsafe c kk B0 x0 hc hne g1).2.2
   rw[hold c hlt]at hgc
   obtain⟨s1,s2,s3⟩:=hsafe c kk B x hc hne hgc
   show γ'.fz B=none
   cases hz:γ'.fz B with
   |none=>rfl
   |some y=>
    rcases hst.fzn B y hz with h'|h'|h'
    ·have h':γ.fz B=some y:=h'
     rw[hr.fzo c kk B x hc ho hgc]at h';cases h'
    ·omega
    ·exact(s2 h').elim
 ·obtain⟨c,kk,x,q1,q2,q3⟩:=ho
  rcases hget c kk q1 with⟨q,hq,rfl,rfl⟩|⟨hc,hne⟩
  ·rw[ht q.1 (hpm q hq).1]at q3
   exact hown k (hst.own k hk ⟨q.1,q.2,x,hpmget q hq,q2,q3⟩)
  ·obtain⟨B0,x0,_,_,g1,_⟩:=hr.blk c kk hc
   rw[hold c (hsafe c kk B0 x0 hc hne g1).2.2]at q3
   exact⟨c,kk,x,hc,q2,q3⟩
 ·rcases hget c kk hc with⟨q,hq,rfl,rfl⟩|⟨hc,hne⟩
  ·obtain⟨a1,a2,a3⟩:=hpm q hq
   have ho':q.2.own=false:=ho
   rcases a3 with a3|⟨a3,a4⟩
   ·rw[a3]at ho';cases ho'
   ·have hren:∀ρ:Nat→Nat,iM ρ q.2=q.2:=by
     intro ρ
     obtain⟨b,view,el,sz,opn,own⟩:=q
     cases view with
     |plain l=>simp only[jc]at a4;simp only[iM,Bu,pR a4]
     |con L=>rfl
     |ints kk L=>rfl
     |rows kk L b n=>simp[jc]at a4
     |vals τ L=>rfl
    obtain⟨r1,r2,k',r3,r4,r5,r6,r7,r8,r9⟩:=hpre q.1 q.2 (hst.ro q.1 q.2 (hpmget q hq) ho')
    have hσq:σ q.1=q.1:=k9 ckeys a3
    rw[hτlo q.1 om,hren τ,r3,r9 ho',hren σ]
  ·exact hc
 ·rcases hget c kk hc with⟨q,hq,rfl,rfl⟩|⟨hc,hne⟩
  ·rcases hpq q.1 (hpm q hq).1 with h'|⟨k1,k2⟩
   ·rw[hτlo q.1 (hilt _ h')]
    rcases hst.dom q.1 q.2 (hpmget q hq)with⟨k',hk'⟩|hn
    ·obtain⟨r1,r2,k2,r3,_⟩:=hpre q.1 k' hk'
     exact .inl ⟨k2,r3⟩
    ·rw[hs q.1 h']at hn
     exact .inr hn
   ·right
    rw[hτhi q.1 k1]
    exact hr.fresh _ om
  ·exact .inl ⟨kk,hc⟩
 ·rcases hst.fzn B x hB with h'|h'|h'
  ·exact .inl h'
  ·exact .inr (.inl h')
  ·exact .inr (.inr (hown B h'))
def Bq (x:Option (AV×Hs))(post:AV×List (Nat×ai)×Nat)(base:Nat):Option (List Prop):=match x with
 |none=>none
 |some (v,H)=>fU (some (.normal,bc [(0,v)],H)) .normal ⟨[(0,post.1)],post.2.1,post.2.2⟩ base
theorem Uk {x:en×Tr AV×Hs}{e:en}{S:St}{base:Nat}{ms:List Prop}(h:fU (some x) e S base=some ms)(hm:ao ms):∀q∈x.2.2.ms,q:=by
 intro q hq
 rw[jl]at hm
 obtain⟨e',T',H'⟩:=x
 unfold fU kf at h
 simp only at h
 replace h:=(az h).2
 split at h
 ·cases h
 ·split at h
  ·cases h
  ·cases h
   exact hm q (ji _ hq)
theorem PV {P:Program}{E:cb}(hE:fu P E){call:bF}(hcall:ce P E.ng call){A:cg}{fn:Func}(hf:P.funcs[A.f]? =some fn)(hb:fn.body.isSome=true){N:Nat}(hN:N=Nat.max A.args.length fn.ntmps){l:List (List Nat×aA)}(hl:∀x∈l,dy P E.ng N (cq fn x.1) x.2)(hng:Nat.ble E.ng A.nx=true)
 (h:∀d,A.TestOk d→∃tp ms,Bq (ic E call (fj l) A.f A.args ⟨bc A.pre,A.nx,tp,[]⟩) (A.post d) A.nx=some ms∧ao ms):aJ P E.ng A:=by
 have hng:=aU hng
 refine⟨⟨fn,hf,hb⟩,fun d hd γ w Args hr hV hg=>?_⟩
 obtain⟨tp,ms,h1,h2⟩:=h d hd
 unfold Bq at h1
 split at h1
 ·cases h1
 ·rename_i v H' hrun
  have hms:=Uk h1 h2
  have hbf:=(nc hE hcall (fun fn' c q1 q2=>by
   rw[hf]at q1
   cases q1
   subst hN
   exact oN q2 hl) hrun).2 hms
  obtain⟨_,hcalls⟩:=hbf γ w Args hr hV hg
  refine hcalls.mono ?_
  rintro e w' ⟨V,γ',rfl,hv,hR⟩
  have hF:dD γ' E.ng (bc [(0,v)]) 1 ⟨#[V],[]⟩:=by
   refine⟨rfl,rfl,fun t u hu=>?_,fun g hg'=>by rw[hR.keep g (pE hg' hng)];exact hg g hg'⟩
   have:=jE _ _ _ (by rfl) hu
   simp only[dU,dQ]at this
   obtain⟨rfl,rfl⟩:=this
   exact hv
  obtain⟨_,γ2,g1,g2⟩:=uW (ng:=E.ng) (N:=1) (H0:=⟨bc A.pre,A.nx,tp,[]⟩) hr hng h1 ((jl ms).1 h2) hF hR
  have hv2:=g1.tmp 0 (A.post d).1 (by rfl)
  exact⟨V,γ2,rfl,hv2,g2.stp,g2.keep⟩
end Go.QfSy
namespace Go.Proofs.YtmeljalphfcieaaGreatDoor.S
open Go.QfSy
def dZ (n m:Nat):Prop:=∀d,2≤d→d<m→n%d≠0
def rb:Nat→Nat→Nat→Nat
 |0,_,n=>n
 |f+1,d,n=>bif Nat.blt n (d*d)then n else bif Nat.beq (n%d) 0 then d else rb f (d+1) n
def ld (n:Nat):Nat:=rb 50000 2 n
theorem yv {n d:Nat}(hd:2≤d)(hn:2≤n)(h:dZ n d)(hlt:n<d*d):dZ n n:=by
 intro e he hen hm
 rcases bA e d with h1|h1
 ·exact h e he h1 hm
 ·have hq:n=e*(n/e):=by have:=Nat.div_add_mod n e;omega
  have h2:n/e<d:=by
   rcases bA (n/e) d with h3|h3
   ·exact h3
   ·have:d*d≤e*(n/e):=kX h1 h3
    omega
  have h3:2≤n/e:=by
   generalize n/e=q at hq h2
   rcases bA q 2 with h4|h4
   ·have:q=0∨q=1:=by omega
    rcases this with h5|h5
    ·rw[h5]at hq;omega
    ·rw[h5]at hq;omega
   ·exact h4
  refine h (n/e) h3 h2 ?_
  have:n%(n/e)=(e*(n/e))%(n/e):=by rw[←hq]
  rw[this,Nat.mul_mod_left]
theorem EY:∀(f d n:Nat),2≤d→2≤n→dZ n d→n<(d+f)*(d+f)→2≤rb f d n∧n%rb f d n=0∧dZ n (rb f d n)
 |0,d,n,hd,hn,h,hf=>⟨hn,Nat.mod_self n,yv hd hn h hf⟩
 |f+1,d,n,hd,hn,h,hf=>by
  unfold rb
  cases h1:Nat.blt n (d*d)with
  |true=>exact⟨hn,Nat.mod_self n,yv hd hn h (aU h1)⟩
  |false=>
   simp only[bg]
   cases h2:Nat.beq (n%d) 0 with
   |true=>exact⟨hd,co h2,h⟩
   |false=>
    simp only[bg]
    refine EY f (d+1) n om hn (fun e he hlt hm=>?_) (by rw[show d+1+f=d+(f+1) by omega];exact hf)
    rcases bA e d with h3|h3
    ·exact h e he h3 hm
    ·have:e=d:=by omega
     subst this
     exact lW h2 hm
theorem sw {n:Nat}(hn:2≤n)(hb:n≤2147483647):2≤ld n∧n%ld n=0∧dZ n (ld n):=
 EY 50000 2 n (aZ _) hn (fun d h1 h2=>om) om
theorem qD {n m:Nat}(hn:2≤n)(hb:n≤2147483647)(h1:2≤m)(h2:n%m=0)(h3:dZ n m):ld n=m:=by
 obtain⟨k1,k2,k3⟩:=sw hn hb
 rcases t6 (ld n) m with h|h|h
 ·exact absurd k2 (h3 _ k1 h)
 ·exact h
 ·exact absurd h2 (k3 _ h1 h)
theorem FU {n d:Nat}(hd:2≤d)(hn:2≤n)(hb:n≤2147483647)(h:dZ n d)(hlt:n<d*d):ld n=n:=qD hn hb hn (Nat.mod_self n) (yv hd hn h hlt)
theorem ab2 {n:Nat}(hn:2≤n)(hb:n≤2147483647):ld n≤n:=by
 obtain⟨k1,k2,k3⟩:=sw hn hb
 exact Nat.le_of_dvd om (pD k2)
def vG:Nat→Nat→Nat→Nat×Nat
 |0,_,n=>(0,n)
 |f+1,p,n=>bif Nat.beq (n%p) 0 then((vG f p (n/p)).1+1,(vG f p (n/p)).2)else(0,n)
def vv (p n:Nat):Nat×Nat:=vG 40 p n
theorem FV:∀(f g p n:Nat),2≤p→0<n→n<2^f→n<2^g→vG f p n=vG g p n
 |0,g,p,n,hp,h0,h1,h2=>by simp at h1;omega
 |f+1,0,p,n,hp,h0,h1,h2=>by simp at h2;omega
 |f+1,g+1,p,n,hp,h0,h1,h2=>by
  unfold vG
  cases h:Nat.beq (n%p) 0 with
  |false=>rfl
  |true=>
   simp only[aM]
   have hm:=co h
   have hq:n=p*(n/p):=by have:=Nat.div_add_mod n p;omega
   have hpos:0<n/p:=by
    rcases kw (n/p)with h3|h3
    ·rw[h3]at hq;omega
    ·exact h3
   have hle:n/p≤n/2:=Nat.div_le_div_left hp om
   have e:vG f p (n/p)=vG g p (n/p):=FV f g p (n/p) hp hpos (by rw[iU]at h1;omega) (by rw[iU]at h2;omega)
   rw[e]
theorem uR {p n:Nat}(hp:2≤p)(h0:0<n)(hb:n≤2147483647)(hm:n%p=0):vv p n=((vv p (n/p)).1+1,(vv p (n/p)).2):=by
 have hq:n=p*(n/p):=by have:=Nat.div_add_mod n p;omega
 have hpos:0<n/p:=by
  rcases kw (n/p)with h3|h3
  ·rw[h3]at hq;omega
  ·exact h3
 have hle:n/p≤n/2:=Nat.div_le_div_left hp om
 have e:vG 39 p (n/p)=vG 40 p (n/p):=FV 39 40 p (n/p) hp hpos om om
 have:vv p n=(bif Nat.beq (n%p) 0 then((vG 39 p (n/p)).1+1,(vG 39 p (n/p)).2)else(0,n)):=rfl
 rw[this,hm,e]
 rfl
theorem Aa {p n:Nat}(hm:n%p≠0):vv p n=(0,n):=by
 have:vv p n=(bif Nat.beq (n%p) 0 then((vG 39 p (n/p)).1+1,(vG 39 p (n/p)).2)else(0,n)):=rfl
 rw[this]
 cases h:Nat.beq (n%p) 0 with
 |true=>exact absurd (co h) hm
 |false=>rfl
theorem sc {p n:Nat}(hp:2≤p)(h0:0<n)(hm:n%p=0):0<n/p∧n/p<n:=by
 have hq:n=p*(n/p):=by have:=Nat.div_add_mod n p;omega
 refine⟨?_,Nat.div_lt_self h0 hp⟩
 rcases kw (n/p)with h3|h3
 ·rw[h3]at hq;omega
 ·exact h3
theorem pX {p:Nat}(hp:2≤p):∀(n:Nat),0<n→n≤2147483647→0<(vv p n).2∧(vv p n).2≤n∧(vv p n).2%p≠0∧(vv p n).1≤n∧(n%p=0→(vv p n).2<n):=by
 intro n
 induction n using Nat.strongRecOn with
 |_ n ih=>
  intro h0 hb
  by_cases hm:n%p=0
  ·obtain⟨d1,d2⟩:=sc hp h0 hm
   obtain⟨i1,i2,i3,i4,i5⟩:=ih (n/p) d2 d1 om
   rw[uR hp h0 hb hm]
   exact⟨i1,by show(vv p (n/p)).2≤n;omega,i3,by show(vv p (n/p)).1+1≤n;omega,fun _=>by show(vv p (n/p)).2<n;omega⟩
  ·rw[Aa hm]
   exact⟨h0,aZ _,hm,aY _,fun h=>absurd h hm⟩
def nD:Nat→Nat→List bB
 |0,_=>[]
 |f+1,n=>bif Nat.ble n 1 then []else⟨(ld n:Nat),((vv (ld n) n).1:Nat)⟩::nD f (vv (ld n) n).2
def bz (n:Nat):List bB:=nD 40 n
theorem oz {n:Nat}(hn:2≤n)(hb:n≤2147483647):0<(vv (ld n) n).2∧(vv (ld n) n).2≤n/2:=by
 obtain⟨k1,k2,k3⟩:=sw hn hb
 obtain⟨b1,b2,b3,b4,b5⟩:=pX k1 n om hb
 refine⟨b1,?_⟩
 obtain⟨d1,d2⟩:=sc k1 om k2
 have:(vv (ld n) n).2=(vv (ld n) (n/ld n)).2:=by rw[uR k1 om hb k2]
 rw[this]
 have h2:=(pX k1 (n/ld n) d1 om).2.1
 have h3:n/ld n≤n/2:=Nat.div_le_div_left k1 om
 omega
theorem D8:∀(f g n:Nat),0<n→n≤2147483647→n<2^f→n<2^g→nD f n=nD g n
 |0,g,n,h0,hb,h1,h2=>by simp at h1;omega
 |f+1,0,n,h0,hb,h1,h2=>by simp at h2;omega
 |f+1,g+1,n,h0,hb,h1,h2=>by
  unfold nD
  cases h:Nat.ble n 1 with
  |true=>rfl
  |false=>
   simp only[bg]
   have hn:2≤n:=by
    rcases bA n 2 with h3|h3
    ·have:Nat.ble n 1=true:=gK om
     rw[this]at h;cases h
    ·exact h3
   obtain⟨r1,r2⟩:=oz hn hb
   rw[D8 f g (vv (ld n) n).2 r1 om (by rw[iU]at h1;omega) (by rw[iU]at h2;omega)]
theorem zD {n:Nat}(hn:n≤1):bz n=[]:=by
 show(bif Nat.ble n 1 then _ else _)=_
 rw[gK hn]
 rfl
theorem oD {n:Nat}(hn:2≤n)(hb:n≤2147483647):bz n=⟨(ld n:Nat),((vv (ld n) n).1:Nat)⟩::bz (vv (ld n) n).2:=by
 have h:Nat.ble n 1=false:=by
  cases h:Nat.ble n 1 with
  |false=>rfl
  |true=>have:=aU h;omega
 obtain⟨r1,r2⟩:=oz hn hb
 have e:nD 39 (vv (ld n) n).2=nD 40 (vv (ld n) n).2:=D8 39 40 _ r1 om om om
 show(bif Nat.ble n 1 then []else(⟨(ld n:Nat),((vv (ld n) n).1:Nat)⟩:bB)::nD 39 (vv (ld n) n).2)=_
 rw[h,e]
 rfl
theorem iW {n m:Nat}(h2:n%2≠0)(h3:n%3≠0)(h5:n%5≠0)(h:dZ n m){g:Nat}(hm:n%m≠0)(hg:∀j,m<j→j<m+g→j%2=0∨j%3=0∨j%5=0):dZ n (m+g):=by
 intro d hd hlt hz
 rcases t6 d m with h1|h1|h1
 ·exact h d hd h1 hz
 ·rw[h1]at hz;exact hm hz
 ·have hdv:=pD hz
  rcases hg d h1 hlt with k|k|k
  ·exact h2 (Nat.mod_eq_zero_of_dvd (Nat.dvd_trans (pD k) hdv))
  ·exact h3 (Nat.mod_eq_zero_of_dvd (Nat.dvd_trans (pD k) hdv))
  ·exact h5 (Nat.mod_eq_zero_of_dvd (Nat.dvd_trans (pD k) hdv))
theorem iZ {k o g:Nat}(h:(List.range 37).all (fun j=>!(Nat.blt o j&&Nat.blt j (o+g))||(Nat.beq (j%2) 0||Nat.beq (j%3) 0||Nat.beq (j%5) 0))=true)(hg:o+g≤37):∀j,30*k+o<j→j<30*k+o+g→j%2=0∨j%3=0∨j%5=0:=by
 intro j h1 h2
 have hj:j-30*k<37:=by omega
 have:=bX.1 h (j-30*k) (jj.2 hj)
 have e1:Nat.blt o (j-30*k)=true:=gK om
 have e2:Nat.blt (j-30*k) (o+g)=true:=gK om
 rw[e1,e2]at this
 simp only[Bool.and_self,oh,pK,og]at this
 rcases this with(a|a)|a
 ·left;have:=co a;omega
 ·right;left;have:=co a;omega
 ·right;right;have:=co a;omega
theorem YZ {n:Nat}(h2:n%2≠0)(h3:n%3≠0)(h5:n%5≠0):dZ n 7:=by
 intro d hd hlt hz
 have:d=2∨d=3∨d=4∨d=5∨d=6:=by omega
 rcases this with e|e|e|e|e<;>subst e<;>omega
end Go.Proofs.YtmeljalphfcieaaGreatDoor.S
namespace Go.QfSy
abbrev ty {p:Prop}(_:p):Prop:=p
abbrev rq {α:Type}(x:α):Prop:=x=x
theorem oe (c:Bool){P:Prop}(h:c=true→P)(h2:c=false→P):P:=Or.elim (Bool.eq_false_or_eq_true c) h h2
end Go.QfSy
namespace Go.Proofs.YtmeljalphfcieaaGreatDoor.S
open Go.QfSy Go.RowKit
/- a tape from its digits: 1 is true, 2 is false -/
def LA:Nat→Nat→List Bool→List Bool
 |0,_,l=>l
 |f+1,n,l=>bif Nat.beq n 0 then l else LA f (n/10) (Nat.beq (n%10) 1::l)
def tp (n:Nat):List Bool:=LA 40 n []
theorem bk {p q:Prop}{l:List Prop}(h:p)(h2:ao (q::l)):ao (p::q::l):=⟨h,h2⟩
theorem bm {p:Prop}(h:p):ao [p]:=h
theorem aq {ι:Type}{Q:List Bool→ι→Option (List Prop)}{M I:ι→Prop}{R:List Bool→Prop}(t:List Bool)(j:ι)(ms:List Prop)(a:ao ms)(m:cy (M j))(i:bD (I j))(h:Q t j=some ms:=by kernel_rfl):∃t,(∃j ms,Q t j=some ms∧ao ms∧M j∧I j)∨R t:=⟨t,.inl ⟨j,ms,h,a,m.out,i.out⟩⟩
theorem br {Q:List Bool→Option (List Prop)}{b:Prop}{L:List Bool→Prop}(t:List Bool)(ms:List Prop)(a:ao ms)(h:Q t=some ms:=by kernel_rfl)(i:b:=by rfl):∃t,L t∨(∃ms,Q t=some ms∧ao ms∧b):=⟨t,.inr ⟨ms,h,a,i⟩⟩
theorem lr {Q:List Bool→Option (List Prop)}(t:List Bool)(ms:List Prop)(a:ao ms)(h:Q t=some ms:=by kernel_rfl):∃t ms,Q t=some ms∧ao ms:=⟨t,ms,h,a⟩
theorem st {ι:Type}{Q:ι→Option (List Prop)}{I:ι→Prop}(i:ι)(ms:List Prop)(a:ao ms)(b:I i)(h:Q i=some ms:=by kernel_rfl):∃i ms,Q i=some ms∧ao ms∧I i:=⟨i,ms,h,a,b⟩
/- calls -/
theorem c0:ce Tryz.prog EV.ng (lA EV qz 8):=j6 fB (dL _ _) 8
theorem cE {l:List bV}(h:∀e∈l,ch Tryz.prog e):ce Tryz.prog EV.ng (lA EV (qy EV.ng l) 8):=j6 fB (fq h) 8
theorem cF {o:bF}(h:ce Tryz.prog EV.ng o):ce Tryz.prog EV.ng (lA EV o 8):=j6 fB h 8
/- a contract, a told call, told loops, out of runs -/
theorem pr {call:bF}(hc:ce Tryz.prog EV.ng call){f:Nat}{fn:Func}(hf:Tryz.prog.funcs[f]? =some fn){n:Nat}{l:List (List Nat×aA)}(hl:∀x∈l,dy Tryz.prog EV.ng (Nat.max n fn.ntmps) (cq fn x.1) x.2){A:List RV}{tabs:List Tb}{R:RV}
 (h:∃tp ms,ny (ic EV call (fj l) f (RV.avl A) ⟨bc (fe tabs),1000,tp,[]⟩) R=some ms∧ao ms)(hn:n=(RV.avl A).length:=by rfl)(hg:tabs.all (fun t=>Nat.blt t.g EV.ng)=true:=by rfl)(hok:eN (fe tabs)=true:=by rfl):ar Tryz.prog tabs f A R:=by
 obtain⟨tp,ms,h1,h2⟩:=h
 exact yM fB hc hf (by rw[hn]) hl hg hok lJ h1 h2
theorem cQ {call:bF}(hc:ce Tryz.prog EV.ng call){A:cg}{fn:Func}(hf:Tryz.prog.funcs[A.f]? =some fn){n:Nat}{l:List (List Nat×aA)}(hl:∀x∈l,dy Tryz.prog EV.ng (Nat.max n fn.ntmps) (cq fn x.1) x.2)
 (h:∀d,A.TestOk d→∃tp ms,Bq (ic EV call (fj l) A.f A.args ⟨bc A.pre,A.nx,tp,[]⟩) (A.post d) A.nx=some ms∧ao ms)(hb:fn.body.isSome=true:=by rfl)(hn:n=A.args.length:=by rfl)(hg:Nat.ble EV.ng A.nx=true:=by rfl):aJ Tryz.prog EV.ng A:=
 PV fB hc hf hb (by rw[hn]) hl hg h
theorem ea {call:bF}(hc:ce Tryz.prog EV.ng call){fn:Func}{n:Nat}{inner:List (List Nat×aA)}(hin:∀x∈inner,dy Tryz.prog EV.ng (Nat.max n fn.ntmps) (cq fn x.1) x.2){p:List Nat}{A:aA}{ι:Type}(S:ι→St)(μ:ι→Nat)(I:Bool→ι→Prop)
 (hs:∀d,TestOk A d→∃i ms,fU (some (.normal,bc A.pre.T,f8 A.pre [])) .normal (S i) A.pre.nx=some ms∧ao ms∧I d i)
 (hb:∀d,TestOk A d→∀i,I d i→∃tp,
   (∃j ms,fU (bK EV call (fj inner) (Nat.max n fn.ntmps) 100000 (0::p) (cq fn p) (bc (S i).T) (f8 (S i) tp)) .normal (S j) A.pre.nx=some ms∧ao ms∧μ j<μ i∧I d j)∨
   (∃ms,fU (bK EV call (fj inner) (Nat.max n fn.ntmps) 100000 (0::p) (cq fn p) (bc (S i).T) (f8 (S i) tp)) (A.post d).1 (A.post d).2 A.pre.nx=some ms∧ao ms∧ke (A.post d).1 .normal=false))
 (hp:nl fn p=true:=by kernel_rfl)(hg:Nat.ble EV.ng A.pre.nx=true:=by kernel_rfl):dy Tryz.prog EV.ng (Nat.max n fn.ntmps) (cq fn p) A:=
 G7 fB hc hin hp hg S μ I hs hb
theorem cN {call:bF}(hc:ce Tryz.prog EV.ng call){fn:Func}{n:Nat}{inner:List (List Nat×aA)}(hin:∀x∈inner,dy Tryz.prog EV.ng (Nat.max n fn.ntmps) (cq fn x.1) x.2){p:List Nat}{A:aA}{ι:Type}(S:ι→St)(μ:ι→Nat)(I:ι→Prop)
 (hs:∃i ms,fU (some (.normal,bc A.pre.T,f8 A.pre [])) .normal (S i) A.pre.nx=some ms∧ao ms∧I i)
 (hb:∀i,I i→∃tp,
   (∃j ms,fU (bK EV call (fj inner) (Nat.max n fn.ntmps) 100000 (0::p) (cq fn p) (bc (S i).T) (f8 (S i) tp)) .normal (S j) A.pre.nx=some ms∧ao ms∧μ j<μ i∧I j)∨
   (∃ms,fU (bK EV call (fj inner) (Nat.max n fn.ntmps) 100000 (0::p) (cq fn p) (bc (S i).T) (f8 (S i) tp)) (A.post true).1 (A.post true).2 A.pre.nx=some ms∧ao ms∧ke (A.post true).1 .normal=false))
 (ht:A.test=none:=by rfl)(hp:nl fn p=true:=by kernel_rfl)(hg:Nat.ble EV.ng A.pre.nx=true:=by kernel_rfl):dy Tryz.prog EV.ng (Nat.max n fn.ntmps) (cq fn p) A:=by
 have key:∀d,TestOk A d→d=true:=fun d hd=>by unfold TestOk at hd;rw[ht]at hd;exact hd
 refine G7 fB hc hin hp hg S μ (fun _=>I) (fun d _=>hs) (fun d hd=>?_)
 rw[key d hd]
 exact hb
theorem jU {call:bF}(hc:ce Tryz.prog EV.ng call){fn:Func}{n:Nat}{p:List Nat}{A:aA}{ι:Type}(S:ι→St)(μ:ι→Nat)(I:Bool→ι→Prop)(inner:ι→List (List Nat×aA))(hin:∀d,TestOk A d→∀i,I d i→∀x∈inner i,dy Tryz.prog EV.ng (Nat.max n fn.ntmps) (cq fn x.1) x.2)
 (hs:∀d,TestOk A d→∃i ms,fU (some (.normal,bc A.pre.T,f8 A.pre [])) .normal (S i) A.pre.nx=some ms∧ao ms∧I d i)
 (hb:∀d,TestOk A d→∀i,I d i→∃tp,
   (∃j ms,fU (bK EV call (fj (inner i)) (Nat.max n fn.ntmps) 100000 (0::p) (cq fn p) (bc (S i).T) (f8 (S i) tp)) .normal (S j) A.pre.nx=some ms∧ao ms∧μ j<μ i∧I d j)∨
   (∃ms,fU (bK EV call (fj (inner i)) (Nat.max n fn.ntmps) 100000 (0::p) (cq fn p) (bc (S i).T) (f8 (S i) tp)) (A.post d).1 (A.post d).2 A.pre.nx=some ms∧ao ms∧ke (A.post d).1 .normal=false))
 (hp:nl fn p=true:=by kernel_rfl)(hg:Nat.ble EV.ng A.pre.nx=true:=by kernel_rfl):dy Tryz.prog EV.ng (Nat.max n fn.ntmps) (cq fn p) A:=
 FM fB hc hp hg S μ I inner hin hs hb
theorem mL {call:bF}(hc:ce Tryz.prog EV.ng call){fn:Func}{n:Nat}{p:List Nat}{A:aA}{ι:Type}(S:ι→St)(μ:ι→Nat)(I:ι→Prop)(inner:ι→List (List Nat×aA))(hin:∀i,I i→∀x∈inner i,dy Tryz.prog EV.ng (Nat.max n fn.ntmps) (cq fn x.1) x.2)
 (hs:∃i ms,fU (some (.normal,bc A.pre.T,f8 A.pre [])) .normal (S i) A.pre.nx=some ms∧ao ms∧I i)
 (hb:∀i,I i→∃tp,
   (∃j ms,fU (bK EV call (fj (inner i)) (Nat.max n fn.ntmps) 100000 (0::p) (cq fn p) (bc (S i).T) (f8 (S i) tp)) .normal (S j) A.pre.nx=some ms∧ao ms∧μ j<μ i∧I j)∨
   (∃ms,fU (bK EV call (fj (inner i)) (Nat.max n fn.ntmps) 100000 (0::p) (cq fn p) (bc (S i).T) (f8 (S i) tp)) (A.post true).1 (A.post true).2 A.pre.nx=some ms∧ao ms∧ke (A.post true).1 .normal=false))
 (ht:A.test=none:=by rfl)(hp:nl fn p=true:=by kernel_rfl)(hg:Nat.ble EV.ng A.pre.nx=true:=by kernel_rfl):dy Tryz.prog EV.ng (Nat.max n fn.ntmps) (cq fn p) A:=by
 have key:∀d,TestOk A d→d=true:=fun d hd=>by unfold TestOk at hd;rw[ht]at hd;exact hd
 refine FM fB hc hp hg S μ (fun _=>I) inner (fun d _=>hin) (fun d _=>hs) (fun d hd=>?_)
 rw[key d hd]
 exact hb
abbrev u2 {α β γ:Type _}(f:α→β→γ)(i:α×β):γ:=f i.1 i.2
abbrev u3 {α β γ δ:Type _}(f:α→β→γ→δ)(i:α×β×γ):δ:=f i.1 i.2.1 i.2.2
abbrev u4 {α β γ δ ε:Type _}(f:α→β→γ→δ→ε)(i:α×β×γ×δ):ε:=f i.1 i.2.1 i.2.2.1 i.2.2.2
abbrev u5 {α β γ δ ε ζ:Type _}(f:α→β→γ→δ→ε→ζ)(i:α×β×γ×δ×ε):ζ:=f i.1 i.2.1 i.2.2.1 i.2.2.2.1 i.2.2.2.2
structure dq (a b:Bool):Prop where
 mk::out:a=b
theorem aG (d:Bool){x:List Bool→Option (en×Tr AV×Hs)}{A:aA}{base:Nat}{L:List Bool→Prop}(v:Bool)(t:List Bool)(ms:List Prop)(a:ao ms)(e:dq d v)(h:fU (x t) (A.post v).1 (A.post v).2 base=some ms:=by kernel_rfl)(i:ke (A.post v).1 .normal=false:=by rfl):∃t,L t∨(∃ms,fU (x t) (A.post d).1 (A.post d).2 base=some ms∧ao ms∧ke (A.post d).1 .normal=false):=by
 cases e.out;exact⟨t,.inr ⟨ms,h,a,i⟩⟩
theorem tr {p:Prop}(h:p:=by with_reducible rfl):p:=h
theorem tz {p:Prop}(h:p:=by first|(with_reducible rfl)|exact⟨rfl,rfl⟩):p:=h
theorem tv {p:Prop}(h:p:=by first|(with_reducible rfl)|rfl|exact⟨rfl,rfl⟩):p:=h
theorem wo {n:Int}(h1:-9223372036854775808≤n:=by omega)(h2:n≤9223372036854775807:=by omega):IntKind.i64.wrap n=n:=kP h1 h2
theorem wk (k:Nat)(h:k≤1000000000000:=by omega):IntKind.i64.wrap ((k:Int)+1)=((k+1:Nat):Int):=by rw[wo];omega
theorem oT {p:Prop} [Decidable p](h:decide p=true):p:=dE h
theorem oF {p:Prop} [Decidable p](h:decide p=false):¬p:=of_decide_eq_false h
theorem dT {p:Prop} [Decidable p]:(decide p=true)=p:=gC
theorem dF {p:Prop} [Decidable p]:decide p=false↔¬p:=decide_eq_false_iff_not
theorem dA {p:Prop}(h:p:=by first|assumption|exact dN aS):p:=h
abbrev vi (x:Int):AV:=.vint .i64 x
abbrev LC:Type:=List Con
abbrev LL:Type:=List QfSy.Loc
abbrev lq (L:List Con):Prop:=L.length=L.length∧(fun i=>(L.getD i Con.zero).rvs)=fun i=>(L.getD i Con.zero).rvs
abbrev lz (L:List Con):Prop:=∀(i:Nat),i<L.length→(fun i=>(L.getD i Con.zero).rvs) i=(Con.ofR ((fun i=>(L.getD i Con.zero).rvs) i)).rvs
/- a list that is matched with itself; a told loop of this program -/
abbrev sq (τ:aa)(L:List τ.car):Prop:=L.length=L.length∧(fun i=>τ.rvs (L.getD i τ.zero))=fun i=>τ.rvs (L.getD i τ.zero)
abbrev sl (L:List QfSy.Loc):Prop:=L.length=L.length∧(fun i=>(L.getD i QfSy.Loc.zero).rvs)=fun i=>(L.getD i QfSy.Loc.zero).rvs
abbrev sr {α:Type}(L:List α)(r:Nat→List RV):Prop:=L.length=L.length∧r=r
abbrev An (n:Nat)(f:Func)(p:List Nat)(A:aA):Prop:=dy Tryz.prog EV.ng (Nat.max n f.ntmps) (cq f p) A
section
variable {p:Prop}
abbrev tN(h:p:=by first|exact tv|exact fun _ _=>rfl|exact ek|exact ei|omega|(rw[fm]<;>fail)|(rw[zl];rw[fm]<;>fail)|(have hk:k<(Ls.getD i []).length:=(by have:=oT d1;omega);first|omega|exact⟨om,om⟩|(rw[eK];first|done|rfl|exact vD hc hI hk (aY _)|exact vD hc hI hk (by have:=oF d2;show X.length≤64;omega))|exact vD hc hI hk (aY _)|exact vD hc hI hk (by have:=oF d2;show X.length≤64;omega)|exact⟨om,om⟩|(have e1:=If hI (show 64<(aH (some X)).length from by have:=oT d2;show 64<X.length;omega);first|(rw[e1]<;>fail)|(rw[e1];rfl)))|(have e1:=Ie hI (show¬k<(Ls.getD i []).length from by have:=oF d1;omega);first|(rw[e1]<;>fail)|(rw[e1];rfl))):=h
abbrev bY(h:p:=by have:=oT d1;omega):=h
abbrev rc(h:p:=by refine aT.mk ?_;(first|(have hd:(aE (ax D) (f+1) e n a [] none).isNone=_:=hd;rw[hs]at hd;first|exact Bool.noConfusion (hd.symm.trans d1)|(cases hd<;>fail))|(have hd:(aE (ax D) (f+1) e n a [] none).isNone=_:=hd;rw[hs,Fp (pU D)]at hd;cases hd<;>fail))):=h
abbrev cT(h:p:=by refine aT.mk ?_;(simp_all)):=h
abbrev eZ(h:p:=by have:=oF d1;omega):=h
abbrev xf(h:p:=by rintro⟨q1,q2⟩;first|(have:=oF d1;omega)|(have h9:=d2;rw[wm]at h9;exact(oF h9) (pB.2 q2))):=h
abbrev xg(h:p:=by first|exact tv|(simp only[we,bt];first|done|rfl|exact⟨rfl,rfl⟩|exact hr|exact⟨hr,h1,hg⟩)|(show _=(ae (aE (ax D) (f+1) e n a [] none)).length;rw[hs]<;>rfl)|(show _=ae (aE (ax D) (f+1) e n a [] none);rw[hs]<;>rfl)):=h
abbrev BT(h:p:=by first|exact tz|decide|((try simp only[ek,bt,ky,dT,dF]at*)<;>first|omega|(rw[←hf,Il om]<;>fail)|(rw[←hf,Ik om d2]<;>fail)|(have h0:=rL _ (gE (P:=ah L) (t:=j) om);have h1:0<(ab (ah L) j).length:=lV.2 h0.1;have h2:0<((ah L).getD j []).length:=h1;first|omega|rfl))):=h
abbrev fR(h:p:=by rw[jB];exact h2):=h
abbrev pu(h:p:=by refine⟨?_,?_,?_,?_,(?_:lq L)⟩<;>(first|rfl|exact⟨rfl,rfl⟩|assumption|omega|simp_all)):=h
abbrev tO(h:p:=by simp only[we,bt];first|done|rfl|exact⟨rfl,rfl⟩|exact hr|exact⟨hr,h1,hg⟩):=h
abbrev kab(h:p:=by have:=oF d2;show X.length≤64;omega):=h
abbrev BU(h:p:=by refine aT.mk ?_;(first|(have hd:(aE (ax D) (f+1) e n a L none).isNone=_:=hd;rw[hs]at hd;first|exact Bool.noConfusion (hd.symm.trans d1)|(cases hd<;>fail))|(have hd:(aE (ax D) (f+1) e n a L none).isNone=_:=hd;rw[hs,Fp (pU D)]at hd;cases hd<;>fail))):=h
abbrev tP(h:p:=by first|exact XP aS|exact Iz aS|exact XQ aS|exact XR hi1 aS aS|exact XS hi1 aS aS):=h
abbrev tQ(h:p:=by refine aT.mk ?_;(first|(have hd:(aK n D Ls (r+1) i (C,none)).2.isNone=_:=hd;exact Bool.noConfusion (hd.symm.trans hz)))):=h
abbrev nV(h:p:=by refine cy.mk ?_;(simp only[dT]at*;show L.length-(k+1)<L.length-k;omega)):=h
abbrev tR(h:p:=by refine cy.mk ?_;(have hk:=oT d1;show(Ls.getD i []).length-(k+1)<(Ls.getD i []).length-k;omega)):=h
abbrev xh(h:p:=by have:=d2;rw[kF om om]at this;exact oT this):=h
abbrev LB(h:p:=by first|exact tz|((try simp only[em,ek,eF,bn,bt,dT,dF,gM,bN.num]at*)<;>first|omega|exact⟨rfl,rfl⟩|exact⟨fun _ _=>rfl,hL,om,om⟩|(have:=(hG.rows l (by simp[dH])).2.2;exact⟨by trivial,om⟩)|(rw[(uN hI om).1]<;>fail)|(rw[(uN hI om).2]<;>fail)|(rw[(uN hI om).1,(uN hI om).2];exact⟨rfl,rfl⟩)|(simp<;>fail)|(exfalso;have:=yH hI;omega))):=h
abbrev LD(h:p:=by first|exact tz|(exact(by decide:(2:Int)≠0))|((try simp only[at_]at hc)<;>(try simp only[ek,at_,bt,dT,dF,b6,bJ,ne_eq]at*)<;>first|omega|(rw[e1,wo];rw[WF (by rw[←gh om];assumption) aS];omega)|(rw[e1];rw[WG (by rw[←gh om];first|(exact fun h=>absurd h.1 aS)|(exact fun h=>absurd h.2 aS))])|(have e:k=L.length:=om;subst e;rw[hs]<;>fail))):=h
abbrev BV(h:p:=by first|exact tr|(rw[ew];omega)|(refine Js ?_;rintro⟨a1,a2,a3,a4,a5,a6⟩;first|omega|(have:=oT d1;omega)|(have:=oT d2;omega)|(have:=oT d3;omega)|(have:=oT d4;omega))):=h
abbrev BW(h:p:=by first|exact tz|decide|((try simp only[ek,bt,dT,dF]at*)<;>first|omega|(rw[←hf,Ij om]<;>fail)|(rw[←hf,Ii om d2]<;>fail)|(have h2:=hr.at (t:=k+1) om;omega))):=h
abbrev xi(h:p:=by refine⟨?_,?_,?_,?_,(?_:(0:Int)=↑(0:Nat))⟩<;>(first|rfl|exact⟨rfl,rfl⟩|assumption|omega|simp_all)):=h
abbrev BX(h:p:=by refine dq.mk ?_;cases d<;>first|rfl|(exfalso;(simp only[dT,dF]at d1;first|(rw[←hf,Il om]at hs;cases hs<;>fail)|(rw[←hf,Ik om d2]at hs;cases hs<;>fail)))):=h
abbrev LF(h:p:=by first|rfl|exact⟨rfl,rfl⟩|((try simp only[em,ek,et,eF,ew,bt,dT,dF,gM,bN.num]at*)<;>first|omega|exact⟨rfl,rfl⟩|(have:=(hG.rows l (by simp[dH])).2.2;exact⟨by trivial,om⟩)|(rw[(ug hI om).1]<;>fail)|(rw[(ug hI om).2]<;>fail)|(rw[(ug hI om).1,(ug hI om).2];exact⟨rfl,rfl⟩)|(simp<;>fail))):=h
abbrev BY(h:p:=by refine dq.mk ?_;cases d<;>first|rfl|(exfalso;(simp only[dT,dF]at*;first|(rw[←hf,Ij om]at hs;cases hs<;>fail)|(rw[←hf,Ii om d2]at hs;cases hs<;>fail)))):=h
abbrev BZ(h:p:=by ((try simp only[dT,dF,gM]at*);first|(exfalso;simp at d1<;>fail)|(exfalso;simp at d2<;>fail)|(unfold ba;split<;>first|omega|(split<;>omega)))):=h
abbrev jg(h:p:=by rw[wo];omega):=h
abbrev tS(h:p:=by refine cy.mk ?_;(have dd:=oT d1;show L.length-(k+1)<L.length-k;omega)):=h
abbrev xj(h:p:=by refine⟨?_,?_,?_,(?_:(0:Int)=↑(0:Nat))⟩<;>(first|exact tr|rfl|omega|exact⟨rfl,rfl⟩)):=h
abbrev mM(h:p:=by rw[kF om om];exact ltF h5):=h
abbrev tT(h:p:=by refine cy.mk ?_;(obtain⟨d3,d4⟩:=sc hp g1 (zz rfl d1);exact d4)):=h
abbrev tU(h:p:=by rw[bn];first|done|rfl|exact⟨rfl,rfl⟩):=h
abbrev nW(h:p:=by first|exact tz|exact⟨rfl,rfl,fun _ _=>rfl⟩):=h
abbrev xk(h:p:=by first|exact tr|exact x5 om|(rw[wo];omega)|omega|(rw[Gr hI (nz rfl d1)]<;>fail)|rfl):=h
abbrev re(h:p:=by exact⟨rfl,rfl,fun _ _=>rfl⟩):=h
abbrev kb0(h:p:=by simp only[we,wn,wa,Bh hl,bt];first|done|rfl|exact⟨rfl,rfl⟩|omega|exact zW hc hI h1 h2|exact List.take_left|exact List.length_append.symm|(refine⟨?_,rfl⟩;rw[bU];exact kW _ _)|(simp only[bU,cR,iD];first|omega|exact⟨om,rfl⟩|exact⟨om,om⟩)):=h
abbrev B3(h:p:=by refine cy.mk ?_;(simp only[dT]at d1;show(ab (ah L) j).length-(k+1)<(ab (ah L) j).length-k;omega)):=h
abbrev LG(h:p:=by refine aT.mk ?_;(first|(rw[Bo d1]at hd;exact Bool.noConfusion (hd.symm.trans d2))|(rw[nI d1,isN d2]at hd;exact Bool.noConfusion (hd.symm.trans d3))|(rw[nI d1,mt d2,nd]at hd;exact Bool.noConfusion hd))):=h
abbrev xl(h:p:=by refine cy.mk ?_;(simp only[dT,dF]at*;show L.length-(k+1)<L.length-k;omega)):=h
abbrev mN(h:p:=by rw[jB];exact h3):=h
abbrev xm(h:p:=by cases h:L.length.beq 0 with|false=>rfl|true=>have:=co h;omega):=h
abbrev xn(h:p:=by refine cy.mk ?_;(simp only[dT]at*;show P.length-(j+1)<P.length-j;omega)):=h
abbrev lS(h:p:=by with_reducible exact⟨rfl,rfl⟩):=h
abbrev B4(h:p:=by refine⟨?_,?_,?_,?_,?_,?_,?_,(?_:lq L)⟩<;>(first|rfl|exact⟨rfl,rfl⟩|assumption|omega|simp_all)):=h
abbrev B5(h:p:=by refine⟨?_,?_,?_,?_,?_,(?_:sl g.locs)⟩<;>(first|rfl|assumption|exact⟨rfl,rfl⟩|omega|simp_all)):=h
abbrev B6(h:p:=by refine⟨?_,?_,?_,(?_:(0:Int)=↑(0:Nat))⟩<;>(first|rfl|exact⟨rfl,rfl⟩|assumption|omega|simp_all)):=h
abbrev B7(h:p:=by refine⟨?_,?_,?_,(?_:(0:Int)=↑(0:Nat))⟩<;>(first|rfl|assumption|exact⟨rfl,rfl⟩|omega|simp_all)):=h
abbrev tV(h:p:=by refine bD.mk ?_;(exact Sc hp hb hI (zz rfl d1))):=h
abbrev B8(h:p:=by refine⟨?_,?_,(?_:(0:Int)=↑(0:Nat))⟩<;>(first|rfl|exact⟨rfl,rfl⟩|assumption|omega|simp_all)):=h
abbrev LI(h:p:=by refine aT.mk ?_;(first|(have e1:=d1;rw[bn]at e1;have hd:(gJ D C none).isNone=_:=hd;first|(rw[sX e1]at hd;exact Bool.noConfusion (hd.symm.trans d2))|(rw[sY e1]at hd;cases hd)))):=h
abbrev LJ(h:p:=by refine dq.mk ?_;cases d<;>first|rfl|(exfalso;(simp only[dT,dF]at*;first|(rw[eL om]at hs;cases hs<;>fail)|(rw[uH om]at hs;rw[show b7 (at_ L k)=false from d2]at hs;cases hs<;>fail)))):=h
abbrev LK(h:p:=by refine l6.mk ?_;(have h0:=((uo hI).none rfl).2 (k-1) (by simp only[dT]at d3;show k-1<k;omega);simp only[em,et]at d4;exact Bool.noConfusion ((show false=_ from h0.symm).trans d4))):=h
abbrev xp(h:p:=by exact⟨fun _ _=>rfl,by rw[bn];exact hL.e⟩):=h
abbrev LM(h:p:=by refine aT.mk ?_;(first|(have hd:(aE (ax D) (f+1) e n a L none).isNone=_:=hd;have e1:=tu d1;rw[e1]at hs;rw[hs]at hd;first|exact Bool.noConfusion (hd.symm.trans d2)|(cases hd<;>fail)))):=h
abbrev kt(h:p:=by exact⟨fun _ _=>rfl,hn⟩):=h
abbrev LN(h:p:=by first|exact tz|((try simp only[ek,bt,dT,dF,gM]at*)<;>first|omega|(have h1:=hr.at (t:=t) om;omega)|(have h2:=Yn (t:=t) hL hr om;simp only[at_]at h2⊢;exact wo)|(rw[hs,iR om]<;>fail))):=h
abbrev xq(h:p:=by show _=(ae (aE (ax D) (f+1) e n a L none)).length;rw[hs]<;>rfl):=h
abbrev B9(h:p:=by refine cy.mk ?_;(simp only[dT]at d1;show(ah L).length-(j+1)<(ah L).length-j;omega)):=h
abbrev LP(h:p:=by first|rfl|exact⟨rfl,rfl⟩|((try simp only[bn]at*)<;>first|rfl|trivial|exact⟨rfl,rfl⟩|exact⟨trivial,trivial⟩|exact⟨fun _ _=>rfl,hL⟩|(show(eP a (aF L)).length=0;rw[Di d1];rfl))):=h
abbrev nX(h:p:=by rw[bn];exact hf):=h
abbrev Ca(h:p:=by refine cy.mk ?_;(simp only[dT]at*;show(ab P j).length-(t+1)<(ab P j).length-t;omega)):=h
abbrev kbq(h:p:=by simp only[we,wn,wa,Bh hl,bt];first|done|rfl|exact⟨rfl,rfl⟩|omega|exact zW hc hJ h1 h2|exact List.take_left|(simp only[bU,cR,iD];first|omega|exact⟨om,rfl⟩|exact⟨om,om⟩)):=h
abbrev Cb(h:p:=by rw[IW h6];exact⟨(oG _).length_eq.symm,(oG _).length_eq.symm,fun _ _=>rfl⟩):=h
abbrev rf(h:p:=by simp only[we,bt];exact hz2):=h
abbrev fk(h:p:=by rw[wo];omega):=h
abbrev Cc(h:p:=by refine bD.mk ?_;(simp only[dT]at d1;exact⟨om,by rw[←hf];exact(Xm om d2).symm,hs⟩)):=h
abbrev LQ(h:p:=by refine bD.mk ?_;(simp only[bn,bt,dT,dF,gM]at*;first|exact SJ hI om|exact SK hI om om d3|exact QA hI om om|exact QB hI om d3)):=h
abbrev xr(h:p:=by refine bD.mk ?_;(have dd:=oT d1;show k+1≤L.length;omega)):=h
abbrev LR(h:p:=by rw[show eA (g.locs.getD j z0l).prime.toNat (g.locs.getD j z0l).list (g.locs.getD j z0l).list.length%8=mK (aP g j)from he.symm];omega):=h
abbrev xt(h:p:=by show _=ae (aE (ax D) (f+1) e n a L none);rw[hs]<;>rfl):=h
abbrev Cd(h:p:=by refine cy.mk ?_;(have hk:=oT d1;show g.locs.length-(j+1)<g.locs.length-j;omega)):=h
abbrev Ce(h:p:=by refine aT.mk ?_;(rw[bn]at d1 d2;unfold dP at hv;rw[d1,d2]at hv;cases hv)):=h
abbrev LS(h:p:=by refine aT.mk ?_;(first|(have e1:=BK d1;have hd:(gI n D C none).isNone=_:=hd;first|(rw[tq e1]at hd;cases hd<;>fail)|(rw[tt e1]at hd;cases hd<;>fail)))):=h
abbrev Cf(h:p:=by refine⟨?_,?_,?_,?_,?_,?_,?_,?_,?_,(?_:Ls=Ls)⟩<;>(first|exact tv)):=h
abbrev Cg(h:p:=by refine⟨?_,?_,(?_:(0:Int)=↑(0:Nat))⟩<;>(first|exact tr|rfl|omega)):=h
abbrev Ch(h:p:=by exact⟨fun _ _=>rfl,by have:=(hE.at dd).l1;show(R.getD k []).length≤16;omega,rfl⟩):=h
abbrev Ci(h:p:=by refine bD.mk ?_;(have dd:=oT d1;first|exact⟨rA (aY k),om⟩|exact⟨aZ 1,om⟩)):=h
abbrev Cj(h:p:=by refine cy.mk ?_;(simp only[dT]at*;show A.length-(k+1)<A.length-k;omega)):=h
abbrev Ck(h:p:=by refine bD.mk ?_;(simp only[ek,dT]at*;exact⟨om,by rw[←hf,Xl om d2],hs⟩)):=h
abbrev Cl(h:p:=by show _=(ae (aE (ax D) (f+1) e n a [] (some X))).length;rw[hs]<;>rfl):=h
abbrev xu(h:p:=by first|rfl|assumption|exact⟨rfl,rfl⟩|omega|simp_all):=h
abbrev Cm(h:p:=by show _=(ae (aE (ax D) (f+1) e n a L (some X))).length;rw[hs]<;>rfl):=h
abbrev LT(h:p:=by first|exact tr|(exact⟨de,de⟩)|((try simp only[b6,bJ,ne_eq]at*)<;>(unfold eT;simp only[cP, *,fH,iV,not_false_iff,not_true]<;>fail))):=h
abbrev rh(h:p:=by rw[bn];exact h1):=h
abbrev LU(h:p:=by refine aT.mk ?_;(first|(have hd:(aB D F (eS F) F.length 0 F none).2.isNone=_:=hd;exact Bool.noConfusion (hd.symm.trans d1)))):=h
abbrev xv(h:p:=by simp only[dT,dF,gM]at*;have:=yH hI;omega):=h
abbrev LV(h:p:=by exact⟨congrArg (fun z=>(cD z.length z 0).length) hc,congrArg (fun z=>fun i=>aa.rvs (.list .con) ((cD z.length z 0).getD i [])) hc⟩):=h
abbrev fF(h:p:=by cases h<;>fail):=h
abbrev jV(h:p:=by exact(fun _ _=>rfl)):=h
abbrev Cn(h:p:=by first|rfl|exact⟨rfl,rfl⟩|((try simp only[ek,bt,dT,dF]at*)<;>omega)):=h
abbrev LW(h:p:=by refine aT.mk ?_;(first|(have hd:(bp D S (r+1) i (C,none)).2.isNone=_:=hd;exact Bool.noConfusion (hd.symm.trans d1)))):=h
abbrev pv(h:p:=by exact⟨fun _ _=>rfl,hl⟩):=h
abbrev Co(h:p:=by show _=ae (aE (ax D) (f+1) e n a [] (some X));rw[hs]<;>rfl):=h
abbrev xw(h:p:=by have dd:=oF d1;rw[show k=L.length by omega]):=h
abbrev LX(h:p:=by exact⟨congrArg (fun z=>(dC n D z).length) he,congrArg (fun z=>fun i=>aa.loc.rvs ((dC n D z).getD i aa.loc.zero)) he⟩):=h
abbrev Cp(h:p:=by show _=ae (aE (ax D) (f+1) e n a L (some X));rw[hs]<;>rfl):=h
abbrev LZ(h:p:=by refine cy.mk ?_;(first|(have dd:=oT d1;show Q.length-(k+1)<Q.length-k;omega)|(show Q.length-1<Q.length+1;omega))):=h
abbrev L3(h:p:=by refine dq.mk ?_;cases d<;>first|rfl|(exfalso;(simp only[dF]at*;have h0:=Db hI om;rw[h0]at hD;cases hD))):=h
abbrev L4(h:p:=by first|exact tz|decide|exact⟨hd1,hd2,hp1,hp2,hp3⟩|omega|rfl|(show _=_∧_;refine⟨?_,?_⟩<;>simp[ae]<;>omega)|(simp[ae]<;>fail)):=h
abbrev ri(h:p:=by have:=hG.n1;omega):=h
abbrev rj(h:p:=by have:=hG.d1;omega):=h
abbrev L5(h:p:=by have:=hL.1;rcases bA j P.length with h|h;have:=(hP _ (gE h)).2.2;omega;simp[ab,h]):=h
abbrev L6(h:p:=by refine bD.mk ?_;(simp only[dT]at*;rw[uH om]at hs;rw[show b7 (at_ L k)=true from d2]at hs;exact⟨om,hs⟩)):=h
abbrev Cq(h:p:=by have hk:=oT d1;show n+1-(k+1)<n+1-k;omega):=h
abbrev L7(h:p:=by refine⟨?_,?_,?_,?_,?_,?_,?_,?_,?_,(?_:lq L)⟩<;>(first|rfl|exact⟨rfl,rfl⟩|assumption|omega|simp_all)):=h
abbrev L8(h:p:=by rcases bA j P.length with h|h;exact(hP _ (gE h)).2.1;intro x hx;simp[ab,h]at hx):=h
abbrev tW(h:p:=by first|exact tv|omega|exact⟨om,om⟩):=h
abbrev xy(h:p:=by rw[kF om om];exact ltT h5):=h
abbrev L9(h:p:=by first|exact tz|decide|((try simp only[ek,bt,dT,dF]at*)<;>first|omega|rfl|(rw[show k=C.length by omega]))):=h
abbrev xz(h:p:=by exact fun _ _=>rfl):=h
abbrev Ma(h:p:=by exact⟨congrArg (fun z=>(dw z).length) hc,congrArg (fun z=>fun i=>aa.rvs (.list .con) ((dw z).getD i [])) hc⟩):=h
abbrev rk(h:p:=by rw[he];exact d2):=h
abbrev Mb(h:p:=by simp only[at_];refine⟨?_,?_,?_⟩<;>first|omega|(intro ho;simp_all<;>fail)|(simp_all<;>fail)):=h
abbrev Mc(h:p:=by refine cy.mk ?_;(have hk:=oT d1;show(aV (at_ S i)).length-(k+1)<(aV (at_ S i)).length-k;omega)):=h
abbrev Md(h:p:=by refine⟨?_,?_,?_,?_,?_,?_,(?_:(0:Int)=↑(0:Nat))⟩<;>(first|exact tr|rfl|omega|exact⟨rfl,rfl⟩)):=h
abbrev kd8(h:p:=by exact GE hc hI hk (aY _) d2):=h
abbrev kd9(h:p:=by exact Vb hc hI hk (aY _) d2):=h
abbrev Me(h:p:=by refine aT.mk ?_;((have hd:(aE (ax D) (f+1) e n a [] none).isNone=_:=hd;rw[hs]at hd;cases hd))):=h
abbrev Mf(h:p:=by refine aT.mk ?_;((have hd:(aE (ax D) (f+1) e n a L none).isNone=_:=hd;rw[hs]at hd;cases hd))):=h
abbrev Mg(h:p:=by exact⟨congrArg (fun z=>z.locs.length) he,congrArg (fun z=>fun i=>(z.locs.getD i QfSy.Loc.zero).rvs) he⟩):=h
abbrev Mh(h:p:=by have e1:=Ie hI (show¬k<(Ls.getD i []).length from by have:=oF d1;omega);rw[e1]at hz;cases hz):=h
abbrev Mi(h:p:=by first|exact YS d2 d3|exact IZ d2 d3|exact IZ (l:=aP g j) d2 d3):=h
abbrev Mj(h:p:=by refine⟨?_,?_,?_,(?_:lq L)⟩<;>(first|rfl|exact⟨rfl,rfl⟩|assumption|omega|simp_all)):=h
abbrev Mk(h:p:=by first|rfl|exact⟨rfl,rfl⟩|(rw[Pg d1];rfl)|(rw[OJ d1];exact⟨si,rfl,rfl,fun i _=>rfl⟩)):=h
abbrev Ml(h:p:=by refine cy.mk ?_;(have hk:=oT d1;show(ah F).length-(k+1)<(ah F).length-k;omega)):=h
abbrev xA(h:p:=by rw[jB];exact h4):=h
abbrev rl(h:p:=by have:=oT d1;omega):=h
abbrev Mm(h:p:=by first|exact tz|((try simp only[ek,e8,at_,bt,dT,dF,gM]at*)<;>first|omega|(exact wo))):=h
abbrev Mn(h:p:=by exact congrArg List.length h9):=h
abbrev xB(h:p:=by simpa [bb]using h2):=h
abbrev Mo(h:p:=by refine⟨?_,?_,?_,?_,?_,?_,?_,?_,?_,?_,?_,(?_:X0=X0)⟩<;>(first|exact tv)):=h
abbrev xC(h:p:=by have hX:=uZ hI;exact⟨rfl,om⟩):=h
abbrev Mp(h:p:=by simp only[we,wn,wa,bt];first|done|rfl|exact⟨rfl,rfl⟩|omega|exact zW hc hJ h1 h2):=h
abbrev Cr(h:p:=by unfold dP;rw[hf,Bool.or_true]):=h
abbrev Ct(h:p:=by exact⟨fun _ _=>rfl,by rw[bn];exact hL,hne⟩):=h
abbrev Mq(h:p:=by exact⟨fun _ _=>rfl,(congrArg dK (iF (R.getD k []))).mpr (hE.at dd),rfl,rfl⟩):=h
abbrev Mr(h:p:=by refine cy.mk ?_;(simp only[dT]at d1;show P.length-(j+1)<P.length-j;omega)):=h
abbrev Ms(h:p:=by refine cy.mk ?_;(simp only[dT]at d1;show C.length-(k+1)<C.length-k;omega)):=h
abbrev xD(h:p:=by rw[←hs];assumption):=h
abbrev Mt(h:p:=by refine cy.mk ?_;(simp only[dT]at*;show l.length-(t+1)<l.length-t;omega)):=h
abbrev Mu(h:p:=by have:=(hc7.at (k:=i) om).2.1;show 0≤(at_ S i).dim;omega):=h
abbrev Mv(h:p:=by simp only[bU,cR,iD];omega):=h
abbrev Mw(h:p:=by refine cy.mk ?_;(have hk:=oT d1;show P.length-(j+1)<P.length-j;omega)):=h
abbrev Mx(h:p:=by refine cy.mk ?_;(have hk:=oT d1;show L.length-(k+1)<L.length-k;omega)):=h
abbrev My(h:p:=by refine cy.mk ?_;(have hk:=oT d1;show C.length-(k+1)<C.length-k;omega)):=h
abbrev Mz(h:p:=by exact⟨fun _ _=>rfl,(congrArg dv (iF (R.getD k []))).mpr (hE.at dd).e⟩):=h
abbrev Cu(h:p:=by have:=Ko he;exact this):=h
abbrev Cv(h:p:=by have:=Kp he;exact this):=h
abbrev rm(h:p:=by rw[bn]<;>fail):=h
abbrev MW(h:p:=by exact⟨rfl,by have:=hc7;show X.length+1≤1000000;have h9:X.length≤64:=hc7;omega⟩):=h
abbrev MZ(h:p:=by refine bD.mk ?_;(have hk:=oT d1;show k+1≤(ah F).length;omega)):=h
abbrev M3(h:p:=by rw[show eR L (aF L) L=some R from hR];rfl):=h
abbrev kea(h:p:=by exact⟨fun _ _=>rfl,by rw[bn];exact hL,h0,by rw[bn];exact k2⟩):=h
abbrev Cw(h:p:=by rw[uw];exact h5):=h
abbrev xE(h:p:=by rw[bn];exact⟨rfl,rfl⟩):=h
abbrev M4(h:p:=by first|exact tz|(rw[Of hne];exact⟨si,rfl,rfl,fun i _=>rfl⟩)):=h
abbrev M5(h:p:=by first|exact JD d2 d3 d4|exact JE d2 d3 d4):=h
abbrev Cx(h:p:=by rw[bn];exact hv):=h
abbrev Cy(h:p:=by exact⟨by have:=OD hC0;omega,om⟩):=h
abbrev M6(h:p:=by exact congrArg (fun z=>(((cD z.length z 0).length:Nat):Int)) hc):=h
abbrev Cz(h:p:=by have:=Ja he;omega):=h
abbrev CA(h:p:=by have:=I9 he;omega):=h
abbrev M7(h:p:=by refine bD.mk ?_;(simp only[dT]at d1;show k+1≤C.length;omega)):=h
abbrev M8(h:p:=by first|exact Ky d3 d4|exact Kz d3 d4):=h
abbrev M9(h:p:=by have h9:=d2;rw[kF om om]at h9;exact(oF h9) (pB.2 h2)):=h
abbrev Na(h:p:=by rw[show C.length=i by omega];exact hc6):=h
abbrev Nb(h:p:=by refine bD.mk ?_;(simp only[dT]at*;exact⟨om,by rw[hs];rfl⟩)):=h
abbrev Nc(h:p:=by refine bD.mk ?_;(have hk:=oT d1;show k+1≤L.length;omega)):=h
abbrev Nd(h:p:=by refine bD.mk ?_;(have hk:=oT d1;show k+1≤C.length;omega)):=h
abbrev CB(h:p:=by exact⟨om,IM hJ h1 h2 d3⟩):=h
abbrev CC(h:p:=by exact⟨om,IL hJ h1 h2 d3⟩):=h
abbrev Nf(h:p:=by exact congrArg (fun z=>(((dC n D z).length:Nat):Int)) he):=h
abbrev Ng(h:p:=by refine aT.mk ?_;(have dd:=oF d1;exact absurd hQ0 om)):=h
abbrev CD(h:p:=by exact⟨fun _ _=>rfl,sg hL j⟩):=h
abbrev Nh(h:p:=by exact congrArg (fun z=>(((dw z).length:Nat):Int)) hc):=h
abbrev Ni(h:p:=by rw[jB];exact ay hm):=h
abbrev CE(h:p:=by first|exact tv|exact(5:Nat)):=h
abbrev CF(h:p:=by exact⟨om,IN hJ h1 h2⟩):=h
abbrev CG(h:p:=by simpa using h):=h
abbrev tX(h:p:=by refine bD.mk ?_;((have hk:k<(Ls.getD i []).length:=bY;(try rw[eK]at d2);first|exact kd9|exact kd8|exact Vc hc hI hk kab|exact(5:Nat)))):=h
abbrev Nj(h:p:=by obtain⟨hp,hJ⟩:=hI;have hk0:k≤n:=cU hJ.1 qw;have wm:w6.wrap (((k+1:Nat):Int)*(e:Int))=(((k+1)*e:Nat):Int):=kF om om;have ek:w6.wrap (((k+1:Nat):Int)+1)=((k+1+1:Nat):Int):=jg;(have h1:k+1≤n:=bY;have h2:(k+1)*e≤a:=(pB.1 xh);have wn:w6.wrap ((n:Int)-((k+1:Nat):Int))=((n-(k+1):Nat):Int):=lv om h1;have wa:w6.wrap ((a:Int)-w6.wrap (((k+1:Nat):Int)*(e:Int)))=((a-(k+1)*e:Nat):Int):=lw om om om h2;(try simp only[we,wn,wa,bt]at d3);first|exact CC|exact CB|exact CF)):=h
abbrev Nk(h:p:=by obtain⟨hp,hJ⟩:=hI;have hk0:k≤n:=cU hJ.1 qw;have wm:w6.wrap (((k+1:Nat):Int)*(e:Int))=(((k+1)*e:Nat):Int):=kF om om;have ek:w6.wrap (((k+1:Nat):Int)+1)=((k+1+1:Nat):Int):=jg;(have h1:k+1≤n:=bY;have h2:(k+1)*e≤a:=(pB.1 xh);have wn:w6.wrap ((n:Int)-((k+1:Nat):Int))=((n-(k+1):Nat):Int):=lv om h1;have wa:w6.wrap ((a:Int)-w6.wrap (((k+1:Nat):Int)*(e:Int)))=((a-(k+1)*e:Nat):Int):=lw om om om h2;first|exact ek|omega|exact kbq|exact Mv)):=h
abbrev pw(h:p:=by refine cy.mk ?_;(have dd:k<R.length:=bY;show R.length-(k+1)<R.length-k;omega)):=h
abbrev Nl(h:p:=by first|exact tv|exact ek|exact⟨rfl,om⟩|exact wB|exact Bi hl|(have h1:k+1≤n:=bY;have h2:(k+1)*e≤a:=(pB.1 xh);have wn:w6.wrap ((n:Int)-((k+1:Nat):Int))=((n-(k+1):Nat):Int):=lv om h1;have wa:w6.wrap ((a:Int)-w6.wrap (((k+1:Nat):Int)*(e:Int)))=((a-(k+1)*e:Nat):Int):=lw om om om h2;first|omega|exact kb0|exact Mv)|(have hx:¬(k+1≤n∧(k+1)*e≤a):=xf;have e1:=vM hI hx;first|(rw[e1]<;>fail)|(rw[e1];rfl))):=h
abbrev Nm(h:p:=by refine bD.mk ?_;((have h1:k+1≤n:=bY;have h2:(k+1)*e≤a:=(pB.1 xh);have wn:w6.wrap ((n:Int)-((k+1:Nat):Int))=((n-(k+1):Nat):Int):=lv om h1;have wa:w6.wrap ((a:Int)-w6.wrap (((k+1:Nat):Int)*(e:Int)))=((a-(k+1)*e:Nat):Int):=lw om om om h2;(try simp only[we,wn,wa,bt]at d3);first|exact IL hI h1 h2 d3|exact IM hI h1 h2 d3|exact IN hI h1 h2))):=h
abbrev Nn(h:p:=by first|exact tz|exact ek|exact ei|omega|(have hk:=oT d1;exact⟨om,hk⟩)|(rw[fm]<;>fail)|(rw[zw,fm]<;>fail)|exact V5 hI bY tP|(have hk:¬k<(aV (at_ S i)).length:=eZ;first|(rw[AC hI hk]<;>fail)|(rw[AC hI hk];rfl))|(have hp:decide ((i:Int)>0)=true:=aS;have:=oT hp;first|(rw[w8 om hi1];omega)|exact fk)):=h
abbrev No(h:p:=by obtain⟨hp,hJ⟩:=hI;have hk0:k≤n:=cU hJ.1 qw;have wm:w6.wrap (((k+1:Nat):Int)*(e:Int))=(((k+1)*e:Nat):Int):=kF om om;have ek:w6.wrap (((k+1:Nat):Int)+1)=((k+1+1:Nat):Int):=jg;have hx:¬(k+1≤n∧(k+1)*e≤a):=xf;have e1:=vM hJ hx;have hd:(dX (ax D) f e n a [] none (ee e n a)).isNone=_:=hd;rw[e1]at hd;cases hd):=h
abbrev Np(h:p:=by first|exact tz|exact ek|(have hk:k<(ah F).length:=bY;obtain⟨r1,r2,r3⟩:=abi hk;first|exact Yp hk|omega|(rw[qd,qd]<;>fail)|(rw[qd];exact(Int.toNat_lt r2).2 r3)|(rw[qd];exact⟨r2,r3⟩))|(have hk:k=(ah F).length:=eZ;first|exact IS hk|(rw[IS hk]<;>fail))):=h
abbrev Nq(h:p:=by obtain⟨hp,hJ⟩:=hI;have hk0:k≤n:=cU hJ.1 qw;have wm:w6.wrap (((k+1:Nat):Int)*(e:Int))=(((k+1)*e:Nat):Int):=kF om om;have ek:w6.wrap (((k+1:Nat):Int)+1)=((k+1+1:Nat):Int):=jg;have hx:¬(k+1≤n∧(k+1)*e≤a):=xf;have e1:=vM hJ hx;first|(rw[e1]<;>fail)|(rw[e1];rfl)):=h
abbrev xF(h:p:=by have dd:¬k<R.length:=eZ;have h9:=tg hI dd;first|exact h9|exact Mn):=h
abbrev Nr(h:p:=by refine aT.mk ?_;((have hx:¬(k+1≤n∧(k+1)*e≤a):=xf;have e1:=vM hI hx;have hd:(dX (ax D) f e n a L none (ee e n a)).isNone=_:=hd;rw[e1]at hd;cases hd))):=h
abbrev Ns(h:p:=by first|exact tz|exact bn L|exact⟨hne,om⟩|exact hne|exact xz|exact xp|exact pv|exact tU|(rw[k4];exact⟨hlen.symm,hlen.symm,fun _ _=>rfl⟩)|exact(5:Nat)):=h
abbrev CH(h:p:=by have dd:¬k<R.length:=eZ;have h9:k=R.length:=om;rw[h9,HM]):=h
abbrev Nt(h:p:=by first|exact tz|exact Wm hc|rfl|exact bn F|exact tU|exact rm|exact kea|(rw[rz]<;>fail)|omega|exact xz):=h
abbrev Nu(h:p:=by first|exact tz|exact bn L|exact⟨hne,om⟩|exact hne|exact xz|exact xp|exact pv|exact tU|exact(5:Nat)):=h
abbrev CI(h:p:=by refine bD.mk ?_;(have dd:k<R.length:=bY;exact dd)):=h
abbrev xG(h:p:=by first|rfl|exact⟨rfl,rfl⟩|exact kt):=h
abbrev Nv(h:p:=by refine aT.mk ?_;(first|(obtain⟨j,j1,j2⟩:=hR;have h8:=hI.2.2.2.2 j eZ;omega))):=h
abbrev Nw(h:p:=by have dd:¬k<Q.length:=eZ;first|(rw[iT];omega)|exact GB n D _ Q hI.2 dd):=h
abbrev Nx(h:p:=by have h8:=hE k bY;rw[hI.2.1]at h8;have h9:X.length≤64:=h8;have:=oT d2;omega):=h
abbrev Ny(h:p:=by first|exact tz|exact pv|(exact(by decide:(8:Int)≠0))|(exact gh hs.1)):=h
abbrev Nz(h:p:=by refine cy.mk ?_;(first|exact Cq|(show n+1-(0+1)<n+2;omega))):=h
end
def ci:Tb:=⟨0,.i64,[7,11,13,17,19,23,29,31],100⟩
theorem nz {n m:Nat}{x:Int}(hx:x=(m:Int))(h:((n:Int).tmod x==0)=false):n%m≠0:=by
 subst hx
 intro e
 have:(n:Int).tmod (m:Int)=((n%m:Nat):Int):=rfl
 rw[this,e]at h
 cases h
theorem zz {n m:Nat}{x:Int}(hx:x=(m:Int))(h:((n:Int).tmod x==0)=true):n%m=0:=by
 subst hx
 have e:(n:Int).tmod (m:Int)=((n%m:Nat):Int):=rfl
 rw[e]at h
 have:=eq_of_beq h
 omega
theorem BS {a:Nat}(h:a≤2000000000):w6.wrap ((a:Int)*(a:Int))=((a*a:Nat):Int):=by
 have h1:a*a≤2000000000*2000000000:=kX h h
 have e:(a:Int)*(a:Int)=((a*a:Nat):Int):=by simp
 rw[e,wo]
theorem nU {n a:Nat}{x:Int}(hx:x=(a:Int))(ha:a≤2000000000)(h:decide (w6.wrap (x*x)>(n:Int))=true):n<a*a:=by
 subst hx
 rw[BS ha]at h
 have:=oT h
 omega
theorem sqF {n a:Nat}{x:Int}(hx:x=(a:Int))(ha:a≤2000000000)(h:decide (w6.wrap (x*x)>(n:Int))=false):a*a≤n:=by
 subst hx
 rw[BS ha]at h
 have:=oF h
 omega
theorem nE {n a:Nat}(ha:2≤a)(hn:2≤n)(hb:n≤2147483647)(h:dZ n a)(hlt:n<a*a):(n:Int)=((ld n:Nat):Int):=by rw[FU ha hn hb h hlt]
theorem nG {n a:Nat}{x:Int}(hx:x=(a:Int))(ha:2≤a)(hn:2≤n)(hb:n≤2147483647)(h:dZ n a)(hm:n%a=0):x=((ld n:Nat):Int):=by rw[qD hn hb ha hm h,hx]
theorem tA {n:Nat}(hn:2≤n)(hb:n≤2147483647)(h:n%2=0):ld n=2:=qD hn hb om h (fun d h1 h2=>om)
theorem J8 {n:Nat}(hn:2≤n)(hb:n≤2147483647)(h2:n%2≠0)(h:n%3=0):ld n=3:=by
 refine qD hn hb om h (fun d h1 h3 hz=>?_)
 have:d=2:=by omega
 subst this
 exact h2 hz
theorem J9 {n:Nat}(hn:2≤n)(hb:n≤2147483647)(h2:n%2≠0)(h3:n%3≠0)(h:n%5=0):ld n=5:=by
 refine qD hn hb om h (fun d h1 h4 hz=>?_)
 have:d=2∨d=3∨d=4:=by omega
 rcases this with e|e|e<;>subst e<;>omega
theorem pp {n m:Nat}{x:Int}(hx:x=(m:Int))(h:n%m≠0):((n:Int).tmod x==0)=false:=by
 subst hx
 rw[show(n:Int).tmod (m:Int)=((n%m:Nat):Int)from rfl]
 cases hb:(((n%m:Nat):Int)==0)with
 |false=>rfl
 |true=>have:=eq_of_beq hb;omega
theorem Lz {n m:Nat}{x:Int}(hx:x=(m:Int))(h:n%m=0):((n:Int).tmod x==0)=true:=by
 subst hx
 rw[show(n:Int).tmod (m:Int)=((n%m:Nat):Int)from rfl,h]
 rfl
noncomputable def lsS (n:Nat)(k:Nat):St:=⟨[(0,vi n),(5,vi n),(6,vi (30*k:Nat))],[(0,ci.blk)],1000⟩
noncomputable def lsA (n:Nat):aA:=⟨⟨[(0,vi n),(5,vi n),(6,.int .i64 0)],[(0,ci.blk)],1000⟩,none,fun _=>(.exit 2,⟨[(5,vi (ld n:Nat))],[(0,ci.blk)],1000⟩)⟩
set_option maxHeartbeats 8000000 in
theorem T2 (n:Nat)(h2:n%2≠0)(h3:n%3≠0)(h5:n%5≠0)(hn:2≤n)(hb:n≤2147483647):An 1 Tryz.f38 [0,1,0,1,1,1,0,1] (lsA n):=by
 refine cN c0 aC (fun(k:Nat)=>(lsS n k:St)) (fun(k:Nat)=>(n-k:Nat)) (fun(k:Nat)=>(dZ n (30*k+7)∧(30*k+1)*(30*k+1)≤n:Prop)) ?_ ?_
 ·exact st (0) [rq (↑n:Int),rq (↑n:Int),(0:Int)=↑((30:Nat)*0)] (by refine⟨?_,?_,(?_:(0:Int)=↑((30:Nat)*0))⟩<;>(first|exact tr|rfl|omega)) (by exact⟨YZ h2 h3 h5,om⟩)
 ·intro k hI
  obtain⟨q0,hsq⟩:=hI
  have hk:30*k+1≤46341:=(by rcases bA 46341 (30*k+1)with h|h<;>first|(have:=kX h h;omega)|omega)
  have e7:w6.wrap (((30*k:Nat):Int)+7)=((30*k+7:Nat):Int):=jg
  have e11:w6.wrap (((30*k:Nat):Int)+11)=((30*k+11:Nat):Int):=jg
  have e13:w6.wrap (((30*k:Nat):Int)+13)=((30*k+13:Nat):Int):=jg
  have e17:w6.wrap (((30*k:Nat):Int)+17)=((30*k+17:Nat):Int):=jg
  have e19:w6.wrap (((30*k:Nat):Int)+19)=((30*k+19:Nat):Int):=jg
  have e23:w6.wrap (((30*k:Nat):Int)+23)=((30*k+23:Nat):Int):=jg
  have e29:w6.wrap (((30*k:Nat):Int)+29)=((30*k+29:Nat):Int):=jg
  have e31:w6.wrap (((30*k:Nat):Int)+31)=((30*k+31:Nat):Int):=jg
  have e30:w6.wrap (((30*k:Nat):Int)+30)=((30*k+30:Nat):Int):=jg
  refine oe (decide (w6.wrap (w6.wrap ((↑((30:Nat)*k):Int)+7)*w6.wrap ((↑((30:Nat)*k):Int)+7))>↑n)) (fun d1=>br [true] [(↑n:Int)=↑(ld n),ty d1] ?_)
   (fun d1=>let y1:List Prop:=[w6.wrap ((↑((30:Nat)*k):Int)+7)≠(0:Int),ty d1];have u1:ao y1:=⟨?_,d1⟩;oe ((↑n:Int).tmod (w6.wrap ((↑((30:Nat)*k):Int)+7))==0) (fun d2=>br [false,true] ((w6.wrap ((↑((30:Nat)*k):Int)+7)=↑(ld n))::ty d2::y1) ?_)
   (fun d2=>let y2:List Prop:=ty d2::y1;have u2:ao y2:=⟨d2,u1⟩;oe (decide (w6.wrap (w6.wrap ((↑((30:Nat)*k):Int)+11)*w6.wrap ((↑((30:Nat)*k):Int)+11))>↑n)) (fun d3=>br (tp 221) (((↑n:Int)=↑(ld n))::ty d3::y2) ?_)
   (fun d3=>let y3:List Prop:=(w6.wrap ((↑((30:Nat)*k):Int)+11)≠(0:Int))::ty d3::y2;have u3:ao y3:=⟨?_,d3,u2⟩;oe ((↑n:Int).tmod (w6.wrap ((↑((30:Nat)*k):Int)+11))==0) (fun d4=>br (tp 2221) ((w6.wrap ((↑((30:Nat)*k):Int)+11)=↑(ld n))::ty d4::y3) ?_)
   (fun d4=>let y4:List Prop:=ty d4::y3;have u4:ao y4:=⟨d4,u3⟩;oe (decide (w6.wrap (w6.wrap ((↑((30:Nat)*k):Int)+13)*w6.wrap ((↑((30:Nat)*k):Int)+13))>↑n)) (fun d5=>br (tp 22221) (((↑n:Int)=↑(ld n))::ty d5::y4) ?_)
   (fun d5=>let y5:List Prop:=(w6.wrap ((↑((30:Nat)*k):Int)+13)≠(0:Int))::ty d5::y4;have u5:ao y5:=⟨?_,d5,u4⟩;oe ((↑n:Int).tmod (w6.wrap ((↑((30:Nat)*k):Int)+13))==0) (fun d6=>br (tp 222221) ((w6.wrap ((↑((30:Nat)*k):Int)+13)=↑(ld n))::ty d6::y5) ?_)
   (fun d6=>let y6:List Prop:=ty d6::y5;have u6:ao y6:=⟨d6,u5⟩;oe (decide (w6.wrap (w6.wrap ((↑((30:Nat)*k):Int)+17)*w6.wrap ((↑((30:Nat)*k):Int)+17))>↑n)) (fun d7=>br (tp 2222221) (((↑n:Int)=↑(ld n))::ty d7::y6) ?_)
   (fun d7=>let y7:List Prop:=(w6.wrap ((↑((30:Nat)*k):Int)+17)≠(0:Int))::ty d7::y6;have u7:ao y7:=⟨?_,d7,u6⟩;oe ((↑n:Int).tmod (w6.wrap ((↑((30:Nat)*k):Int)+17))==0) (fun d8=>br (tp 22222221) ((w6.wrap ((↑((30:Nat)*k):Int)+17)=↑(ld n))::ty d8::y7) ?_)
   (fun d8=>let y8:List Prop:=ty d8::y7;have u8:ao y8:=⟨d8,u7⟩;oe (decide (w6.wrap (w6.wrap ((↑((30:Nat)*k):Int)+19)*w6.wrap ((↑((30:Nat)*k):Int)+19))>↑n)) (fun d9=>br (tp 222222221) (((↑n:Int)=↑(ld n))::ty d9::y8) ?_)
   (fun d9=>let y9:List Prop:=(w6.wrap ((↑((30:Nat)*k):Int)+19)≠(0:Int))::ty d9::y8;have u9:ao y9:=⟨?_,d9,u8⟩;oe ((↑n:Int).tmod (w6.wrap ((↑((30:Nat)*k):Int)+19))==0) (fun d10=>br (tp 2222222221) ((w6.wrap ((↑((30:Nat)*k):Int)+19)=↑(ld n))::ty d10::y9) ?_)
   (fun d10=>let y10:List Prop:=ty d10::y9;have u10:ao y10:=⟨d10,u9⟩;oe (decide (w6.wrap (w6.wrap ((↑((30:Nat)*k):Int)+23)*w6.wrap ((↑((30:Nat)*k):Int)+23))>↑n)) (fun d11=>br (tp 22222222221) (((↑n:Int)=↑(ld n))::ty d11::y10) ?_)
   (fun d11=>let y11:List Prop:=(w6.wrap ((↑((30:Nat)*k):Int)+23)≠(0:Int))::ty d11::y10;have u11:ao y11:=⟨?_,d11,u10⟩;oe ((↑n:Int).tmod (w6.wrap ((↑((30:Nat)*k):Int)+23))==0) (fun d12=>br (tp 222222222221) ((w6.wrap ((↑((30:Nat)*k):Int)+23)=↑(ld n))::ty d12::y11) ?_)
   (fun d12=>oe (decide (w6.wrap (w6.wrap ((↑((30:Nat)*k):Int)+29)*w6.wrap ((↑((30:Nat)*k):Int)+29))>↑n)) (fun d13=>br (tp 2222222222221) (((↑n:Int)=↑(ld n))::ty d13::ty d12::y11) ?_)
   (fun d13=>let y12:List Prop:=(w6.wrap ((↑((30:Nat)*k):Int)+29)≠(0:Int))::ty d13::ty d12::y11;have u12:ao y12:=⟨?_,d13,d12,u11⟩;oe ((↑n:Int).tmod (w6.wrap ((↑((30:Nat)*k):Int)+29))==0) (fun d14=>br (tp 22222222222221) ((w6.wrap ((↑((30:Nat)*k):Int)+29)=↑(ld n))::ty d14::y12) ?_)
   (fun d14=>oe (decide (w6.wrap (w6.wrap ((↑((30:Nat)*k):Int)+31)*w6.wrap ((↑((30:Nat)*k):Int)+31))>↑n)) (fun d15=>br (tp 222222222222221) (((↑n:Int)=↑(ld n))::ty d15::ty d14::y12) ?_)
   (fun d15=>let y13:List Prop:=(w6.wrap ((↑((30:Nat)*k):Int)+31)≠(0:Int))::ty d15::ty d14::y12;have u13:ao y13:=⟨?_,d15,d14,u12⟩;oe ((↑n:Int).tmod (w6.wrap ((↑((30:Nat)*k):Int)+31))==0) (fun d16=>br (tp 2222222222222221) ((w6.wrap ((↑((30:Nat)*k):Int)+31)=↑(ld n))::ty d16::y13) ?_)
   (fun d16=>aq (tp 2222222222222222) (k+1) (rq (↑n:Int)::rq (↑n:Int)::(w6.wrap ((↑((30:Nat)*k):Int)+30)=(↑((30:Nat)*(k+1)):Int))::ty d16::y13) ?_ ?_ ?_))))))))))))))))
  all_goals with_reducible repeat' first|exact dA|refine bk ?_ ?_|refine bm ?_
  all_goals((try clear u13);(try clear y13);(try clear u12);(try clear y12);(try clear u11);(try clear y11);(try clear u10);(try clear y10);(try clear u9);(try clear y9);(try clear u8);(try clear y8);(try clear u7);(try clear y7);(try clear u6);(try clear y6);(try clear u5);(try clear y5);(try clear u4);(try clear y4);(try clear u3);(try clear y3);(try clear u2);(try clear y2);(try clear u1);(try clear y1))
  all_goals first|(refine cy.mk ?_;(have:=kX (aZ (30*k+1)) (show 1≤30*k+1 by omega);show n-(k+1)<n-k;omega))|(refine bD.mk ?_;(have z0:=hsq;have q1:dZ n (30*k+11):=iW (g:=4) h2 h3 h5 q0 (nz e7 d2) (iZ (k:=k) (o:=7) (g:=4) de de);have q2:dZ n (30*k+13):=iW (g:=2) h2 h3 h5 q1 (nz e11 d4) (iZ (k:=k) (o:=11) (g:=2) de de);have q3:dZ n (30*k+17):=iW (g:=4) h2 h3 h5 q2 (nz e13 d6) (iZ (k:=k) (o:=13) (g:=4) de de);have q4:dZ n (30*k+19):=iW (g:=2) h2 h3 h5 q3 (nz e17 d8) (iZ (k:=k) (o:=17) (g:=2) de de);have q5:dZ n (30*k+23):=iW (g:=4) h2 h3 h5 q4 (nz e19 d10) (iZ (k:=k) (o:=19) (g:=4) de de);have q6:dZ n (30*k+29):=iW (g:=6) h2 h3 h5 q5 (nz e23 d12) (iZ (k:=k) (o:=23) (g:=6) de de);have q7:dZ n (30*k+31):=iW (g:=2) h2 h3 h5 q6 (nz e29 d14) (iZ (k:=k) (o:=29) (g:=2) de de);have q8:dZ n (30*k+37):=iW (g:=6) h2 h3 h5 q7 (nz e31 d16) (iZ (k:=k) (o:=31) (g:=6) de de);exact⟨(by rw[show 30*(k+1)+7=30*k+37 by omega];exact q8),(by rw[show 30*(k+1)+1=30*k+31 by omega];exact sqF e31 om d15)⟩))|exact cT|(first|exact tr|(rw[e7];omega)|(rw[e11];omega)|(rw[e13];omega)|(rw[e17];omega)|(rw[e19];omega)|(rw[e23];omega)|(rw[e29];omega)|(rw[e31];omega)|(rw[e30];omega)|(first|exact nE om hn hb q0 (nU e7 om d1)|exact nG e7 om hn hb q0 (zz e7 d2)|(have q1:dZ n (30*k+11):=iW (g:=4) h2 h3 h5 q0 (nz e7 d2) (iZ (k:=k) (o:=7) (g:=4) de de);first|exact nE om hn hb q1 (nU e11 om d3)|exact nG e11 om hn hb q1 (zz e11 d4)|(have q2:dZ n (30*k+13):=iW (g:=2) h2 h3 h5 q1 (nz e11 d4) (iZ (k:=k) (o:=11) (g:=2) de de);first|exact nE om hn hb q2 (nU e13 om d5)|exact nG e13 om hn hb q2 (zz e13 d6)|(have q3:dZ n (30*k+17):=iW (g:=4) h2 h3 h5 q2 (nz e13 d6) (iZ (k:=k) (o:=13) (g:=4) de de);first|exact nE om hn hb q3 (nU e17 om d7)|exact nG e17 om hn hb q3 (zz e17 d8)|(have q4:dZ n (30*k+19):=iW (g:=2) h2 h3 h5 q3 (nz e17 d8) (iZ (k:=k) (o:=17) (g:=2) de de);first|exact nE om hn hb q4 (nU e19 om d9)|exact nG e19 om hn hb q4 (zz e19 d10)|(have q5:dZ n (30*k+23):=iW (g:=4) h2 h3 h5 q4 (nz e19 d10) (iZ (k:=k) (o:=19) (g:=4) de de);first|exact nE om hn hb q5 (nU e23 om d11)|exact nG e23 om hn hb q5 (zz e23 d12)|(have q6:dZ n (30*k+29):=iW (g:=6) h2 h3 h5 q5 (nz e23 d12) (iZ (k:=k) (o:=23) (g:=6) de de);first|exact nE om hn hb q6 (nU e29 om d13)|exact nG e29 om hn hb q6 (zz e29 d14)|(have q7:dZ n (30*k+31):=iW (g:=2) h2 h3 h5 q6 (nz e29 d14) (iZ (k:=k) (o:=29) (g:=2) de de);first|exact nE om hn hb q7 (nU e31 om d15)|exact nG e31 om hn hb q7 (zz e31 d16))))))))))
theorem T3 (n:Nat)(hn:2≤n)(hb:n≤2147483647)(h2:n%2=0):ar Tryz.prog [ci] 38 [.int .i64 (n:Int)] (.int .i64 ((ld n:Nat):Int)):=by
 have k2:((n:Int).tmod 2==0)=true:=(by rw[show(n:Int).tmod 2=((n%2:Nat):Int)from rfl,h2];rfl)
 refine pr c0 Tryz.func38 aC ?_
 refine lr [true] [(2:Int)=↑(ld n),aj ((↑n:Int).tmod (2:Int)==0) true,(2:Int)≠(0:Int)] ⟨?_,k2,(?_:(2:Int)≠(0:Int))⟩
 all_goals first|(first|exact tr|(rw[tA hn hb h2];done)|(rw[tA hn hb h2];rfl)|decide)
theorem T4 (n:Nat)(hn:2≤n)(hb:n≤2147483647)(h2:n%2≠0)(h3:n%3=0):ar Tryz.prog [ci] 38 [.int .i64 (n:Int)] (.int .i64 ((ld n:Nat):Int)):=by
 have k2:=pp (n:=n) (m:=2) rfl h2
 have k3:=Lz (n:=n) (m:=3) rfl h3
 refine pr c0 Tryz.func38 aC ?_
 refine lr [false,true] [(3:Int)=↑(ld n),aj ((↑n:Int).tmod (3:Int)==0) true,(3:Int)≠(0:Int),aj ((↑n:Int).tmod (2:Int)==0) false,(2:Int)≠(0:Int)] ⟨?_,k3,?_,k2,(?_:(2:Int)≠(0:Int))⟩
 all_goals first|(first|exact tr|(rw[J8 hn hb h2 h3];done)|(rw[J8 hn hb h2 h3];rfl)|decide)
theorem T5 (n:Nat)(hn:2≤n)(hb:n≤2147483647)(h2:n%2≠0)(h3:n%3≠0)(h5:n%5=0):ar Tryz.prog [ci] 38 [.int .i64 (n:Int)] (.int .i64 ((ld n:Nat):Int)):=by
 have k2:=pp (n:=n) (m:=2) rfl h2
 have k3:=pp (n:=n) (m:=3) rfl h3
 have k5:=Lz (n:=n) (m:=5) rfl h5
 refine pr c0 Tryz.func38 aC ?_
 refine lr (tp 221) [(5:Int)=↑(ld n),aj ((↑n:Int).tmod (5:Int)==0) true,(5:Int)≠(0:Int),aj ((↑n:Int).tmod (3:Int)==0) false,(3:Int)≠(0:Int),aj ((↑n:Int).tmod (2:Int)==0) false,(2:Int)≠(0:Int)] ⟨?_,k5,?_,k3,?_,k2,(?_:(2:Int)≠(0:Int))⟩
 all_goals first|(first|exact tr|(rw[J9 hn hb h2 h3 h5];done)|(rw[J9 hn hb h2 h3 h5];rfl)|decide)
theorem T6 (n:Nat)(hn:2≤n)(hb:n≤2147483647)(h2:n%2≠0)(h3:n%3≠0)(h5:n%5≠0):ar Tryz.prog [ci] 38 [.int .i64 (n:Int)] (.int .i64 ((ld n:Nat):Int)):=by
 have k2:=pp (n:=n) (m:=2) rfl h2
 have k3:=pp (n:=n) (m:=3) rfl h3
 have k5:=pp (n:=n) (m:=5) rfl h5
 have hl0:=T2 n h2 h3 h5 hn hb
 refine pr c0 Tryz.func38 (aW hl0) ?_
 refine lr (tp 222) [rq (↑(ld n):Int),rq (↑n:Int),rq (↑n:Int),aj ((↑n:Int).tmod (5:Int)==0) false,(5:Int)≠(0:Int),aj ((↑n:Int).tmod (3:Int)==0) false,(3:Int)≠(0:Int),aj ((↑n:Int).tmod (2:Int)==0) false,(2:Int)≠(0:Int)] ⟨?_,?_,?_,k5,?_,k3,?_,k2,(?_:(2:Int)≠(0:Int))⟩
 all_goals first|(first|exact tr|decide)
theorem Ou (n:Nat)(hn:2≤n)(hb:n≤2147483647):ar Tryz.prog [ci] 38 [.int .i64 (n:Int)] (.int .i64 ((ld n:Nat):Int)):=by
 by_cases h2:n%2=0
 ·exact T3 n hn hb h2
 ·by_cases h3:n%3=0
  ·exact T4 n hn hb h2 h3
  ·by_cases h5:n%5=0
   ·exact T5 n hn hb h2 h3 h5
   ·exact T6 n hn hb h2 h3 h5
def H4:List bV:=[
 ⟨38,[ci],fun A=>match A with
  |[.int .i64 n]=>some (.int .i64 ((ld n.toNat:Nat):Int),[2≤n∧n≤2147483647])
  |_=>none⟩]
theorem yA:∀e∈H4,ch Tryz.prog e:=by
 intro e he
 simp only[H4,bx,cC,cH]at he
 subst he
 intro A R ms h hm
 simp only at h
 split at h
 ·rename_i n
  cases h
  obtain⟨h1,h2⟩:=hm _ cZ
  have e:n=((n.toNat:Nat):Int):=by omega
  rw[e]
  exact Ou n.toNat om om
 ·cases h
def jk:List (Nat×ai):=[(0,ci.blk)]
def uc (L:List bB):ai:=⟨.vals .pow L,39,2,true,true⟩
def faS:Nat×Option (List bB)→St
 |(n,none)=>⟨[(0,vi n),(4,.nils)],jk,1010⟩
 |(n,some L)=>⟨[(0,vi n),(4,.lo 1001 L.length)],(1001,uc L)::jk,1010⟩
def faA (n:Nat):aA:=⟨⟨[(0,vi n),(4,.nils)],jk,1000⟩,some (Nat.ble n 1),fun d=>match d with
 |true=>(.exit 0,⟨[(4,.nils)],jk,1010⟩)
 |false=>(.exit 0,⟨[(4,.lo 1001 (bz n).length)],(1001,uc (bz n))::jk,1010⟩)⟩
def xZ (p:Nat)(e:Int):ai:=⟨.plain [vi p,vi e],39,0,false,true⟩
def KJ (p:Nat):ai:=⟨.plain [vi p,.int .i64 0],39,0,false,true⟩
def KK (n p:Nat):aA:=⟨⟨[(0,vi n),(4,.nils),(5,.ptr 1010 0)],(1010,KJ p)::jk,1011⟩,none,fun _=>(.exit 2,⟨[(0,vi (vv p n).2),(4,.nils),(5,.ptr 1010 0)],(1010,xZ p ((vv p n).1:Int))::jk,1011⟩)⟩
def KM (n p:Nat)(L:List bB):aA:=⟨⟨[(0,vi n),(4,.lo 1001 L.length),(5,.ptr 1010 0)],(1010,KJ p)::(1001,uc L)::jk,1011⟩,none,fun _=>(.exit 2,⟨[(0,vi (vv p n).2),(4,.lo 1001 L.length),(5,.ptr 1010 0)],(1010,xZ p ((vv p n).1:Int))::(1001,uc L)::jk,1011⟩)⟩
def pfI (p n0:Nat)(q:Nat×Nat):Prop:=0<q.1∧q.1+q.2≤n0∧vv p n0=(q.2+(vv p q.1).1,(vv p q.1).2)
theorem tl {p n0:Nat}(h:0<n0):pfI p n0 (n0,0):=⟨h,si,si⟩
theorem Sc {p n0 n e:Nat}(hp:2≤p)(hb:n0≤2147483647)(h:pfI p n0 (n,e))(hm:n%p=0):pfI p n0 (n/p,e+1):=by
 obtain⟨h1,h2,h3⟩:=h
 simp only at h1 h2 h3
 obtain⟨d1,d2⟩:=sc hp h1 hm
 refine⟨d1,by show n/p+(e+1)≤n0;omega,?_⟩
 rw[h3,uR hp h1 om hm]
 show(e+((vv p (n/p)).1+1),_)=(e+1+(vv p (n/p)).1,_)
 congr 1;omega
theorem Gr {p n0 n e:Nat}(h:pfI p n0 (n,e))(hm:n%p≠0):vv p n0=(e,n):=by
 obtain⟨h1,h2,h3⟩:=h
 rw[h3]
 simp only[Aa hm]
 rfl
theorem x5 {n p:Nat}(hb:n≤2147483647):w6.wrap ((n:Int).tdiv (p:Int))=((n/p:Nat):Int):=by
 have e:(n:Int).tdiv (p:Int)=((n/p:Nat):Int):=rfl
 have h:n/p≤n:=Nat.div_le_self _ _
 rw[e]
 generalize n/p=q at h
 rw[wo]
theorem Sd (n0 p:Nat)(hp:2≤p)(h0:0<n0)(hb:n0≤2147483647):An 1 Tryz.f10 [0,0,1,0,1,0,0,0,1,1,1] (KK n0 p):=by
 refine cN c0 aC (fun(q:Nat×Nat)=>(⟨[(0,vi q.1),(4,.nils),(5,.ptr 1010 0)],(1010,xZ p (q.2:Int))::jk,1011⟩:St)) (fun(q:Nat×Nat)=>(q.1:Nat)) (fun(q:Nat×Nat)=>(pfI p n0 q:Prop)) ?_ ?_
 ·exact st ((n0,0)) [rq (↑n0:Int),rq (↑p:Int),(0:Int)=↑(0:Nat)] Cg (by exact tl h0)
 ·intro q hI
  obtain⟨g1,g2,g3⟩:=id hI
  refine oe ((↑q.fst:Int).tmod (↑p:Int)==0) (fun d1=>aq [true] ((q.1/p,q.2+1)) [w6.wrap ((↑q.fst:Int).tdiv (↑p:Int))=↑(q.fst/p),rq (↑p:Int),w6.wrap ((↑q.snd:Int)+1)=↑(q.snd+1),(↑p:Int)≠(0:Int),ty d1,(↑p:Int)≠(0:Int)] ⟨?_,?_,?_,?_,d1,(?_:(↑p:Int)≠(0:Int))⟩ ?_ ?_)
   (fun d1=>br [false] [(↑q.fst:Int)=(↑(vv p n0).snd:Int),rq (↑p:Int),(↑q.snd:Int)=(↑(vv p n0).fst:Int),ty d1,(↑p:Int)≠(0:Int)] ⟨?_,?_,?_,d1,(?_:(↑p:Int)≠(0:Int))⟩)
  all_goals first|exact tT|exact tV|exact cT|exact xk
theorem Se (n0 p:Nat)(L:List bB)(hp:2≤p)(h0:0<n0)(hb:n0≤2147483647):An 1 Tryz.f10 [0,0,1,0,1,0,0,0,1,1,1] (KM n0 p L):=by
 refine cN c0 aC (fun(q:Nat×Nat)=>(⟨[(0,vi q.1),(4,.lo 1001 L.length),(5,.ptr 1010 0)],(1010,xZ p (q.2:Int))::(1001,uc L)::jk,1011⟩:St)) (fun(q:Nat×Nat)=>(q.1:Nat)) (fun(q:Nat×Nat)=>(pfI p n0 q:Prop)) ?_ ?_
 ·exact st ((n0,0)) [rq (↑n0:Int),rq L.length,rq (↑p:Int),(0:Int)=↑(0:Nat),L=L] (by refine⟨?_,?_,?_,?_,(?_:L=L)⟩<;>(first|exact tr|rfl|omega)) (by exact tl h0)
 ·intro q hI
  obtain⟨g1,g2,g3⟩:=id hI
  refine oe ((↑q.fst:Int).tmod (↑p:Int)==0) (fun d1=>aq [true] ((q.1/p,q.2+1)) [w6.wrap ((↑q.fst:Int).tdiv (↑p:Int))=↑(q.fst/p),rq L.length,rq (↑p:Int),w6.wrap ((↑q.snd:Int)+1)=↑(q.snd+1),L=L,(↑p:Int)≠(0:Int),ty d1,(↑p:Int)≠(0:Int)] ⟨?_,?_,?_,?_,?_,?_,d1,(?_:(↑p:Int)≠(0:Int))⟩ ?_ ?_)
   (fun d1=>br [false] [(↑q.fst:Int)=(↑(vv p n0).snd:Int),rq L.length,rq (↑p:Int),(↑q.snd:Int)=(↑(vv p n0).fst:Int),L=L,ty d1,(↑p:Int)≠(0:Int)] ⟨?_,?_,?_,?_,?_,d1,(?_:(↑p:Int)≠(0:Int))⟩)
  all_goals first|exact tT|exact tV|exact cT|exact xk
def jz (n:Nat):Nat:=Nat.max 2 (ld n)
theorem aas (n:Nat):2≤jz n:=Nat.le_max_left _ _
theorem W3 {n:Nat}(hn:(n:Int)>1)(hb:n≤2147483647):jz n=ld n:=Nat.max_eq_right (sw om hb).1
def ou (n0:Nat)(i:Nat×Option (List bB)):Prop:=0<i.1∧i.1≤n0∧(match i.2 with
 |none=>i.1=n0
 |some L=>L++bz i.1=bz n0∧2^L.length*i.1≤n0∧2≤n0)
theorem Fn {n0 n:Nat}(h:ou n0 (n,none)):n=n0:=h.2.2
theorem aat {n0 n:Nat}(hb:n0≤2147483647)(h:ou n0 (n,none))(hn:(n:Int)>1):ou n0 ((vv (ld n) n).2,some [⟨((ld n:Nat):Int),((vv (ld n) n).1:Int)⟩]):=by
 have e:=Fn h
 subst e
 obtain⟨r1,r2⟩:=oz (n:=n) om hb
 refine⟨r1,by show(vv (ld n) n).2≤n;omega,?_,?_,om⟩
 ·show [_]++bz _=_
  rw[oD (n:=n) om hb];rfl
 ·show 2^1*(vv (ld n) n).2≤n
  omega
theorem aau {n0 n:Nat}{L:List bB}(hb:n0≤2147483647)(h:ou n0 (n,some L))(hn:(n:Int)>1):ou n0 ((vv (ld n) n).2,some (L++[⟨((ld n:Nat):Int),((vv (ld n) n).1:Int)⟩])):=by
 obtain⟨h1,h2,h3,h4,h5⟩:=h
 simp only at h1 h2 h3 h4
 obtain⟨r1,r2⟩:=oz (n:=n) om om
 refine⟨r1,by show(vv (ld n) n).2≤n0;omega,?_,?_,h5⟩
 ·show(L++[_])++bz _=_
  rw[←h3,oD (n:=n) om om,mV];rfl
 ·show 2^(L++[_]).length*(vv (ld n) n).2≤n0
  rw[bU,cR,iD,iU,Nat.mul_assoc]
  have:2^L.length*(2*(vv (ld n) n).2)≤2^L.length*n:=Nat.mul_le_mul_left _ om
  omega
theorem UY {n0 n:Nat}{L:List bB}(hb:n0≤2147483647)(h:ou n0 (n,some L)):L.length<31:=by
 obtain⟨h1,h2,h3,h4,h5⟩:=h
 simp only at h1 h4
 have:2^L.length*1≤2^L.length*n:=Nat.mul_le_mul_left _ h1
 have h6:2^L.length<2^31:=by omega
 exact(Nat.pow_lt_pow_iff_right om).1 h6
theorem Gs {n0 n:Nat}{L:List bB}(h:ou n0 (n,some L))(hn:¬(n:Int)>1):L=bz n0:=by
 obtain⟨h1,h2,h3,h4,h5⟩:=h
 simp only at h3
 rw[←h3,zD (n:=n) om,gi]
theorem UZ (n0:Nat)(h0:0<n0)(hb:n0≤2147483647):An 1 Tryz.f10 [0,0,1,1,1] (faA n0):=by
 refine jU (cE yA) (faS) (fun i=>i.1) (fun _ i=>ou n0 i) (fun i:Nat×Option (List bB)=>match i with|(n,none)=>[([0,0,1,0,1,0,0,0,1,1,1],KK n (jz n))]|(n,some L)=>[([0,0,1,0,1,0,0,0,1,1,1],KM n (jz n) L)]) ?_ ?_ ?_
 ·rintro d hd ⟨n,o⟩ hI
  have hp:=aas n
  have g1:=hI.1
  have g2:=hI.2.1
  simp only at g1 g2
  rcases o with _|L
  ·exact aW (Sd n (jz n) hp g1 om)
  ·exact aW (Se n (jz n) L hp g1 om)
 ·intro d hd
  exact st (n0,none) [rq (↑n0:Int)] (by refine(?_:(↑n0:Int)=↑n0)<;>(first|exact tr|rfl|omega)) (by exact⟨h0,aZ _,rfl⟩)
 ·rintro d hd ⟨n,o⟩ hI
  have g1:=hI.1
  have g2:=hI.2.1
  simp only at g1 g2
  rcases o with _|L
  rotate_right
  refine oe (decide ((↑n:Int)>1)) (fun d1=>aq [true] ((vv (ld n) n).2,some (L++[⟨((ld n:Nat):Int),((vv (ld n) n).1:Int)⟩])) (let v1:=[QfSy.bB.mk (↑(jz n):Int) (↑(vv (jz n) n).fst:Int)];let v2:=[QfSy.bB.mk (↑(ld n):Int) (↑(vv (ld n) n).fst:Int)];[(↑(vv (jz n) n).snd:Int)=(↑(vv (ld n) n).snd:Int),L.length+1=(L++v2).length,L++v1=L++v2,L.length=L.length∧L.length+1≤1000000,(1:Nat)=v1.length,rq (↑n:Int),rq L.length,(↑(ld n):Int)=↑(jz n),L=L,(2:Int)≤↑n∧(↑n:Int)≤2147483647,ty d1]) ⟨?_,?_,?_,?_,?_,?_,?_,?_,?_,?_,d1⟩ ?_ ?_)
   (fun d1=>aG d false [false] [L.length=(bz n0).length,L=bz n0,ty d1] ⟨?_,?_,d1⟩ ?_)
  rotate_right
  refine oe (decide ((↑n:Int)>1)) (fun d1=>aq [true] ((vv (ld n) n).2,some [⟨((ld n:Nat):Int),((vv (ld n) n).1:Int)⟩]) (let v1:=[QfSy.bB.mk (↑(jz n):Int) (↑(vv (jz n) n).fst:Int)];let v2:=[QfSy.bB.mk (↑(ld n):Int) (↑(vv (ld n) n).fst:Int)];[(↑(vv (jz n) n).snd:Int)=(↑(vv (ld n) n).snd:Int),(1:Nat)=v2.length,v1=v2,(0:Nat)<1∧(1:Nat)≤1000000,(1:Nat)=v1.length,rq (↑n:Int),(↑(ld n):Int)=↑(jz n),(2:Int)≤↑n∧(↑n:Int)≤2147483647,ty d1]) ⟨?_,?_,?_,?_,?_,?_,?_,?_,d1⟩ ?_ ?_)
   (fun d1=>aG d true [false] [ty d1] d1 ?_)
  all_goals first|(refine cy.mk ?_;(have dd:=oT d1;have hr:=oz (n:=n) om om;show(vv (ld n) n).2<n;omega))|(refine bD.mk ?_;(first|exact aat hb hI (oT d1)|exact aau hb hI (oT d1)))|(refine dq.mk ?_;cases d<;>first|rfl|(exfalso;(first|(have e:=Fn hI;subst e;have hd:Nat.ble n 1=_:=hd;first|(have dd:=oT d1;have:=aU hd;omega)|(have dd:=oF d1;have h9:Nat.ble n 1=true:=gK om;rw[hd]at h9;cases h9))|(obtain⟨k1,k2,k3,k4,k5⟩:=hI;have hd:Nat.ble n0 1=true:=hd;have:=aU hd;omega))))|(first|exact tr|decide|(have dd:=oT d1;have hl:=W3 dd om;first|(rw[hl];done)|omega|exact⟨om,om⟩)|(rw[bU];rfl)|(have hl:=UY hb hI;exact⟨rfl,om⟩)|(have dd:=oF d1;rw[Gs hI dd];done)|exact Gs hI (oF d1)|rfl)
theorem Fo (n:Nat)(h0:0<n)(hb:n≤2147483647):ar Tryz.prog [ci] 10 [.int .i64 (n:Int)] (.tup [aI .pow (bz n),.int .i64 0]):=by
 have hl0:=UZ n om om
 have k1:decide ((n:Int)<1)=false:=bu om
 have k2:decide ((n:Int)>2147483647)=false:=bu om
 refine pr (cE yA) Tryz.func10 (aW hl0) ?_
 refine(let y1:List Prop:=[aj (decide ((↑n:Int)>2147483647)) false,aj (decide ((↑n:Int)<1)) false];have u1:ao y1:=⟨k2,k1⟩;oe (n.ble (1:Nat)) (fun d1=>lr (tp 221) (((bz n).length=0)::rq (0:Int)::rq (↑n:Int)::ty d1::y1) ⟨?_,?_,?_,d1,u1⟩)
  (fun d1=>lr (tp 222) (((bz n).length=(bz n).length∧(bz n).length=(bz n).length∧∀(i:Nat),i<(bz n).length→(fun i=>aa.pow.rvs ((bz n).getD i aa.pow.zero)) i=aa.pow.rvs ((bz n).getD i aa.pow.zero))::rq (0:Int)::rq (↑n:Int)::ty d1::y1) ⟨?_,?_,?_,d1,u1⟩))
 all_goals first|(first|exact tr|(rw[zD (aU d1)];rfl)|exact re)
def spA (p n:Nat):aA:=⟨⟨[(0,vi n),(1,vi p),(6,.int .i64 0)],[],1000⟩,none,fun _=>(.exit 0,⟨[(0,vi (vv p n).2),(6,vi (vv p n).1)],[],1000⟩)⟩
theorem UF (n0 p:Nat)(hp:2≤p)(h0:0<n0)(hb:n0≤2147483647):An 2 Tryz.f26 [0,0,1,1] (spA p n0):=by
 refine cN c0 aC (fun(q:Nat×Nat)=>(⟨[(0,vi q.1),(1,vi p),(6,vi q.2)],[],1000⟩:St)) (fun(q:Nat×Nat)=>(q.1:Nat)) (fun(q:Nat×Nat)=>(pfI p n0 q:Prop)) ?_ ?_
 ·exact st ((n0,0)) [rq (↑n0:Int),rq (↑p:Int),(0:Int)=↑(0:Nat)] Cg (by exact tl h0)
 ·intro q hI
  obtain⟨g1,g2,g3⟩:=id hI
  refine oe ((↑q.fst:Int).tmod (↑p:Int)==0) (fun d1=>aq [true] ((q.1/p,q.2+1)) [w6.wrap ((↑q.fst:Int).tdiv (↑p:Int))=↑(q.fst/p),rq (↑p:Int),w6.wrap ((↑q.snd:Int)+1)=↑(q.snd+1),(↑p:Int)≠(0:Int),ty d1,(↑p:Int)≠(0:Int)] ⟨?_,?_,?_,?_,d1,(?_:(↑p:Int)≠(0:Int))⟩ ?_ ?_)
   (fun d1=>br [false] [(↑q.fst:Int)=(↑(vv p n0).snd:Int),(↑q.snd:Int)=(↑(vv p n0).fst:Int),ty d1,(↑p:Int)≠(0:Int)] ⟨?_,?_,d1,(?_:(↑p:Int)≠(0:Int))⟩)
  all_goals first|exact tT|exact tV|exact cT|exact xk
theorem yg (n p:Nat)(hp:2≤p)(h0:0<n)(hb:n≤2147483647):ar Tryz.prog [] 26 [.int .i64 (n:Int),.int .i64 (p:Int)] (.tup [.int .i64 ((vv p n).1:Int),.int .i64 ((vv p n).2:Int)]):=by
 have hl0:=UF n p hp h0 hb
 refine pr c0 Tryz.func26 (aW hl0) ?_
 refine lr [] [rq (↑(vv p n).fst:Int),rq (↑(vv p n).snd:Int),rq (↑n:Int),rq (↑p:Int)] ⟨?_,?_,?_,(?_:(↑p:Int)=↑p)⟩
 all_goals first|exact xu
theorem aac {a n:Nat}(ha:a≤2147483647)(hb:n≤2147483647)(h0:0<n):(w6.wrap ((a:Int).tmod (n:Int)+(n:Int))).tmod (n:Int)=((a%n:Nat):Int):=by
 rw[show(a:Int).tmod (n:Int)=((a%n:Nat):Int)from rfl]
 have h1:a%n<n:=kA _ h0
 generalize hr:a%n=r at h1⊢
 rw[wo,show(r:Int)+(n:Int)=((r+n:Nat):Int) by simp]
 rw[show((r+n:Nat):Int).tmod (n:Int)=(((r+n)%n:Nat):Int)from rfl,Nat.add_mod_right,Nat.mod_eq_of_lt h1]
theorem Ob (a n:Nat)(h0:0<n)(hb:n≤2147483647)(ha:a≤2147483647):ar Tryz.prog [] 112 [.int .i64 (a:Int),.int .i64 (n:Int)] (.int .i64 ((a%n:Nat):Int)):=by
 refine pr c0 Tryz.func112 aC ?_
 refine lr [] [(w6.wrap ((↑a:Int).tmod (↑n:Int)+↑n)).tmod (↑n:Int)=↑(a%n),(↑n:Int)≠(0:Int),(↑n:Int)≠(0:Int)] ⟨?_,?_,(?_:(↑n:Int)≠(0:Int))⟩
 all_goals first|(first|exact tr|exact aac ha hb h0|omega)
theorem l7 (n m k:Nat):((n:Int).tmod (m:Int)==(k:Int))=Nat.beq (n%m) k:=by
 rw[show(n:Int).tmod (m:Int)=((n%m:Nat):Int)from rfl]
 cases h:Nat.beq (n%m) k with
 |true=>rw[co h];exact e9 _
 |false=>
  have:=lW h
  cases h2:(((n%m:Nat):Int)==(k:Int))with
  |false=>rfl
  |true=>exact absurd (by have:=eq_of_beq h2;omega) this
def iE (n:Nat)(s:Int):Int:=bif Nat.beq (n%8) 3||Nat.beq (n%8) 5 then-s else s
def rG:Nat→Nat→Nat→Int→Nat×Int
 |0,a,_,s=>(a,s)
 |f+1,a,n,s=>bif Nat.beq (a%2) 0 then rG f (a/2) n (iE n s)else(a,s)
def jt (a n:Nat)(s:Int):Nat×Int:=rG a a n s
theorem Fc:∀(f g a n:Nat)(s:Int),0<a→a≤f→a≤g→rG f a n s=rG g a n s
 |0,g,a,n,s,h0,h1,h2=>by omega
 |f+1,0,a,n,s,h0,h1,h2=>by omega
 |f+1,g+1,a,n,s,h0,h1,h2=>by
  unfold rG
  cases h:Nat.beq (a%2) 0 with
  |false=>rfl
  |true=>
   have:=co h
   simp only[aM]
   exact Fc f g (a/2) n _ om om om
theorem Gi {a n:Nat}{s:Int}(h0:0<a)(hm:a%2=0):jt a n s=jt (a/2) n (iE n s):=by
 unfold jt
 cases a with
 |zero=>omega
 |succ a=>
  show(bif Nat.beq ((a+1)%2) 0 then rG a ((a+1)/2) n (iE n s)else(a+1,s))=_
  rw[hm]
  exact Fc _ _ _ _ _ om om om
theorem HQ {a n:Nat}{s:Int}(hm:a%2≠0):jt a n s=(a,s):=by
 unfold jt
 cases a with
 |zero=>rfl
 |succ a=>
  show(bif Nat.beq ((a+1)%2) 0 then _ else(a+1,s))=_
  cases h:Nat.beq ((a+1)%2) 0 with
  |true=>exact absurd (co h) hm
  |false=>rfl
def gO (s:Int):Prop:=s=1∨s=-1
theorem Jm {n:Nat}{s:Int}(h:gO s):gO (iE n s):=by
 unfold iE
 cases (Nat.beq (n%8) 3||Nat.beq (n%8) 5)with
 |true=>rcases h with rfl|rfl<;>simp[gO]
 |false=>exact h
theorem p8 (n:Nat):∀(a:Nat)(s:Int),0<a→gO s→0<(jt a n s).1∧(jt a n s).1≤a∧(jt a n s).1%2≠0∧gO (jt a n s).2:=by
 intro a
 induction a using Nat.strongRecOn with
 |_ a ih=>
  intro s h0 hs
  by_cases hm:a%2=0
  ·rw[Gi h0 hm]
   obtain⟨i1,i2,i3,i4⟩:=ih (a/2) om (iE n s) om (Jm hs)
   exact⟨i1,om,i3,i4⟩
  ·rw[HQ hm]
   exact⟨h0,aZ _,hm,hs⟩
theorem A6 {s:Int}(h:gO s):w6.wrap ((0:Int)-s)=-s:=by rcases h with rfl|rfl<;>rfl
theorem aad {n:Nat}{s:Int}(hs:gO s)(h:((n:Int).tmod 8==3)=true):w6.wrap ((0:Int)-s)=iE n s:=by
 have h1:Nat.beq (n%8) 3=true:=(l7 n 8 3).symm.trans h
 rw[A6 hs];unfold iE;rw[h1];rfl
theorem aae {n:Nat}{s:Int}(hs:gO s)(h:((n:Int).tmod 8==5)=true):w6.wrap ((0:Int)-s)=iE n s:=by
 have h1:Nat.beq (n%8) 5=true:=(l7 n 8 5).symm.trans h
 rw[A6 hs];unfold iE;rw[h1,Bool.or_true];rfl
theorem aaf {n:Nat}{s:Int}(h:((n:Int).tmod 8==3)=false)(h':((n:Int).tmod 8==5)=false):s=iE n s:=by
 have h1:Nat.beq (n%8) 3=false:=(l7 n 8 3).symm.trans h
 have h2:Nat.beq (n%8) 5=false:=(l7 n 8 5).symm.trans h'
 unfold iE;rw[h1,h2];rfl
def NK (a n:Nat)(s:Int):aA:=⟨⟨[(0,vi a),(1,vi n),(5,vi s)],[],1000⟩,none,fun _=>(.exit 2,⟨[(0,vi (jt a n s).1),(1,vi n),(5,vi (jt a n s).2)],[],1000⟩)⟩
theorem UG (a0 n:Nat)(s0:Int)(h0:0<a0)(hb:a0≤2147483647)(hs:gO s0):An 2 Tryz.f113 [0,0,0,1,0,0,0,1,1] (NK a0 n s0):=by
 refine cN c0 aC (fun(q:Nat×Int)=>(⟨[(0,vi q.1),(1,vi n),(5,vi q.2)],[],1000⟩:St)) (fun(q:Nat×Int)=>(q.1:Nat)) (fun(q:Nat×Int)=>(0<q.1∧q.1≤a0∧gO q.2∧jt q.1 n q.2=jt a0 n s0:Prop)) ?_ ?_
 ·exact st ((a0,s0)) [rq (↑a0:Int),rq (↑n:Int),s0=s0] (by refine⟨?_,?_,(?_:s0=s0)⟩<;>(first|rfl|assumption|exact⟨rfl,rfl⟩|omega|simp_all)) (by exact⟨h0,aZ _,hs,rfl⟩)
 ·intro q hI
  obtain⟨g1,g2,g3,g4⟩:=hI
  refine(let q1:List Prop→List Prop:=fun l0=>(w6.wrap ((↑q.fst:Int).tdiv (2:Int))=↑(q.fst/(2:Nat)))::rq (↑n:Int)::(w6.wrap ((0:Int)-q.snd)=iE n q.snd)::l0;let y1:List Prop:=[(2:Int)≠(0:Int)];have u1:ao y1:=(?_:(2:Int)≠(0:Int));oe ((↑q.fst:Int).tmod (2:Int)==0) (fun d1=>let y2:List Prop:=((8:Int)≠(0:Int))::((2:Int)≠(0:Int))::ty d1::y1;have u2:ao y2:=⟨?_,?_,d1,u1⟩;oe ((↑n:Int).tmod (8:Int)==3) (fun d2=>aq [true,true] ((q.1/2,iE n q.2)) (q1 (ty d2::y2)) ⟨?_,?_,?_,d2,u2⟩ ?_ ?_)
   (fun d2=>oe ((↑n:Int).tmod (8:Int)==5) (fun d3=>aq (tp 121) ((q.1/2,iE n q.2)) (q1 (ty d3::((8:Int)≠(0:Int))::ty d2::y2)) ⟨?_,?_,?_,d3,?_,d2,u2⟩ ?_ ?_)
   (fun d3=>aq (tp 122) ((q.1/2,iE n q.2)) ((w6.wrap ((↑q.fst:Int).tdiv (2:Int))=↑(q.fst/(2:Nat)))::rq (↑n:Int)::(q.snd=iE n q.snd)::ty d3::((8:Int)≠(0:Int))::ty d2::y2) ⟨?_,?_,?_,d3,?_,d2,u2⟩ ?_ ?_)))
   (fun d1=>br [false] (((↑q.fst:Int)=(↑(jt a0 n s0).fst:Int))::rq (↑n:Int)::(q.snd=(jt a0 n s0).snd)::ty d1::y1) ⟨?_,?_,?_,d1,u1⟩))
  all_goals((try clear u2);(try clear y2);(try clear u1);(try clear y1))
  all_goals first|(refine cy.mk ?_;(have:=zz (m:=2) rfl d1;show q.1/2<q.1;omega))|(refine bD.mk ?_;(have hz:=zz (m:=2) rfl d1;exact⟨by show 0<q.1/2;omega,by show q.1/2≤a0;omega,Jm g3,by rw[←g4];exact(Gi g1 hz).symm⟩))|exact cT|(first|exact tr|exact x5 (p:=2) om|decide|exact aad g3 d2|exact aae g3 d3|exact aaf d2 d3|(rw[←g4,HQ (nz (m:=2) rfl d1)];done))
def jN (a n:Nat)(s:Int):Int:=bif Nat.beq (a%4) 3&&Nat.beq (n%4) 3 then-s else s
def oo:Nat→Nat→Nat→Int→Nat×Int
 |0,_,n,s=>(n,s)
 |f+1,a,n,s=>bif Nat.beq a 0 then(n,s)else oo f (n%(jt a n s).1) (jt a n s).1 (jN (jt a n s).1 n (jt a n s).2)
def ja (a n:Nat)(s:Int):Nat×Int:=oo (a+1) a n s
theorem vA {a n:Nat}{s:Int}(h:gO s):gO (jN a n s):=by
 unfold jN
 cases (Nat.beq (a%4) 3&&Nat.beq (n%4) 3)with
 |true=>rcases h with rfl|rfl<;>simp[gO]
 |false=>exact h
theorem Fd:∀(f g a n:Nat)(s:Int),gO s→a<f→a<g→oo f a n s=oo g a n s
 |0,g,a,n,s,hs,h1,h2=>by omega
 |f+1,0,a,n,s,hs,h1,h2=>by omega
 |f+1,g+1,a,n,s,hs,h1,h2=>by
  unfold oo
  cases h:Nat.beq a 0 with
  |true=>rfl
  |false=>
   have h0:0<a:=rE (lW h)
   simp only[bg]
   obtain⟨b1,b2,b3,b4⟩:=p8 n a s h0 hs
   have hlt:n%(jt a n s).1<(jt a n s).1:=kA _ b1
   exact Fd f g _ _ _ (vA b4) om om
theorem Gj {n:Nat}{s:Int}:ja 0 n s=(n,s):=rfl
theorem UH {a n:Nat}{s:Int}(h0:0<a)(hs:gO s):ja a n s=ja (n%(jt a n s).1) (jt a n s).1 (jN (jt a n s).1 n (jt a n s).2):=by
 have h:Nat.beq a 0=false:=by
  cases h:Nat.beq a 0 with
  |false=>rfl
  |true=>have:=co h;omega
 show(bif Nat.beq a 0 then(n,s)else oo a _ _ _)=_
 rw[h]
 obtain⟨b1,b2,b3,b4⟩:=p8 n a s h0 hs
 have hlt:n%(jt a n s).1<(jt a n s).1:=kA _ b1
 exact Fd _ _ _ _ _ (vA b4) om om
theorem WX {a n:Nat}{s:Int}(hs:gO s)(h:((a:Int).tmod 4==3)=true)(h':((n:Int).tmod 4==3)=true):w6.wrap ((0:Int)-s)=jN a n s:=by
 have h1:Nat.beq (a%4) 3=true:=(l7 a 4 3).symm.trans h
 have h2:Nat.beq (n%4) 3=true:=(l7 n 4 3).symm.trans h'
 rw[A6 hs];unfold jN;rw[h1,h2];rfl
theorem WY {a n:Nat}{s:Int}(h:((a:Int).tmod 4==3)=false):s=jN a n s:=by
 have h1:Nat.beq (a%4) 3=false:=(l7 a 4 3).symm.trans h
 unfold jN;rw[h1];rfl
theorem WZ {a n:Nat}{s:Int}(h:((n:Int).tmod 4==3)=false):s=jN a n s:=by
 have h1:Nat.beq (n%4) 3=false:=(l7 n 4 3).symm.trans h
 unfold jN;rw[h1,l3];rfl
def jaA (a n:Nat):aA:=⟨⟨[(0,vi a),(1,vi n),(5,.int .i64 1)],[],1000⟩,none,fun _=>(.exit 0,⟨[(1,vi (ja a n 1).1),(5,vi (ja a n 1).2)],[],1000⟩)⟩
def mw (a:Nat):Nat:=Nat.max 1 a
theorem zH {a:Nat}(h:0<a):mw a=a:=Nat.max_eq_right h
theorem R3 (a:Nat):0<mw a:=Nat.le_max_left _ _
theorem UI {a:Nat}(h:a≤2147483647):mw a≤2147483647:=Nat.max_le.2 ⟨om,h⟩
theorem zb {a:Nat}(h:((a:Int)==0)=false):0<a:=by
 rcases kw a with e|e
 ·subst e;cases h
 ·exact e
theorem zt {a:Nat}(h:((a:Int)==0)=true):a=0:=by have:=eq_of_beq h;omega
abbrev CR (q:Nat×Nat×Int):=(q.2.1%(jt q.1 q.2.1 q.2.2).1,(jt q.1 q.2.1 q.2.2).1,jN (jt q.1 q.2.1 q.2.2).1 q.2.1 (jt q.1 q.2.1 q.2.2).2)
theorem UJ (a0 n0:Nat)(hb:a0≤2147483647)(hn:n0≤2147483647):An 2 Tryz.f113 [0,0,1,1] (jaA a0 n0):=by
 refine mL c0 (fun(q:Nat×Nat×Int)=>(⟨[(0,vi q.1),(1,vi q.2.1),(5,vi q.2.2)],[],1000⟩:St)) (fun(q:Nat×Nat×Int)=>(q.1:Nat)) (fun(q:Nat×Nat×Int)=>(q.1≤2147483647∧q.2.1≤2147483647∧gO q.2.2∧ja q.1 q.2.1 q.2.2=ja a0 n0 1:Prop)) (fun(q:Nat×Nat×Int)=>([([0,0,0,1,0,0,0,1,1],NK (mw q.1) q.2.1 q.2.2)]:List (List Nat×aA))) ?_ ?_ ?_
 ·intro q hI
  obtain⟨g1,g2,g3,g4⟩:=hI
  exact aW (UG (mw q.1) q.2.1 q.2.2 (R3 _) (UI g1) g3)
 ·exact st ((a0,n0,1)) [rq (↑a0:Int),(↑n0:Int)=(↑(n0,(1:Int)).fst:Int),(1:Int)=(n0,(1:Int)).snd] (by refine⟨?_,?_,(?_:(1:Int)=(n0,(1:Int)).snd)⟩<;>(first|exact tr|rfl)) (by exact⟨hb,hn,.inl rfl,rfl⟩)
 ·intro q hI
  obtain⟨g1,g2,g3,g4⟩:=hI
  refine(let q1:List Prop→List Prop:=fun l0=>(let v1:=jt q.fst q.snd.fst q.snd.snd;let v2:=jt (mw q.fst) q.snd.fst q.snd.snd;let v3:=(v1.fst,jN v1.fst q.snd.fst v1.snd);let v4:=(↑v2.fst:Int);((↑q.snd.fst:Int).tmod v4=↑(q.snd.fst%v1.fst))::(v4=↑v3.fst)::(v2.snd=v3.snd)::(v4≠(0:Int))::l0);oe ((↑q.fst:Int)==0) (fun d1=>br [false] [(↑q.snd.fst:Int)=(↑(ja a0 n0 (1:Int)).fst:Int),q.snd.snd=(ja a0 n0 (1:Int)).snd,ty (dN d1)] ⟨?_,?_,(dN d1)⟩)
   (fun d1=>let y1:List Prop:=[(4:Int)≠(0:Int),(↑q.fst:Int)=↑(mw q.fst),rq (↑q.snd.fst:Int),rq q.snd.snd,ty (dN d1)];have u1:ao y1:=⟨?_,?_,?_,?_,(dN d1)⟩;oe ((↑(jt (mw q.fst) q.snd.fst q.snd.snd).fst:Int).tmod (4:Int)==3) (fun d2=>oe ((↑q.snd.fst:Int).tmod (4:Int)==3) (fun d3=>aq (tp 111) (CR q) (let v1:=jt q.fst q.snd.fst q.snd.snd;let v2:=jt (mw q.fst) q.snd.fst q.snd.snd;let v3:=(v1.fst,jN v1.fst q.snd.fst v1.snd);let v4:=(↑v2.fst:Int);((↑q.snd.fst:Int).tmod v4=↑(q.snd.fst%v1.fst))::(v4=↑v3.fst)::(w6.wrap ((0:Int)-v2.snd)=v3.snd)::(v4≠(0:Int))::ty d3::((4:Int)≠(0:Int))::ty d2::y1) ⟨?_,?_,?_,?_,d3,?_,d2,u1⟩ ?_ ?_)
   (fun d3=>aq (tp 112) (CR q) (q1 (ty d3::((4:Int)≠(0:Int))::ty d2::y1)) ⟨?_,?_,?_,?_,d3,?_,d2,u1⟩ ?_ ?_))
   (fun d2=>aq [true,false] (CR q) (q1 (ty d2::y1)) ⟨?_,?_,?_,?_,d2,u1⟩ ?_ ?_)))
  all_goals((try clear u1);(try clear y1))
  all_goals first|(refine cy.mk ?_;(have hq:=zb d1;obtain⟨b1,b2,b3,b4⟩:=p8 q.2.1 q.1 q.2.2 hq g3;have:=kA q.2.1 b1;show q.2.1%(jt q.1 q.2.1 q.2.2).1<q.1;omega))|(refine bD.mk ?_;(have hq:=zb d1;obtain⟨b1,b2,b3,b4⟩:=p8 q.2.1 q.1 q.2.2 hq g3;have:=kA q.2.1 b1;exact⟨by show q.2.1%(jt q.1 q.2.1 q.2.2).1≤_;omega,by show(jt q.1 q.2.1 q.2.2).1≤_;omega,vA b4,by rw[←g4];exact(UH hq g3).symm⟩))|exact cT|(first|exact tr|decide|(have hq:=zb d1;first|(rw[zH hq];done)|(rw[zH hq];rfl)|(rw[zH hq]at d2⊢;obtain⟨b1,b2,b3,b4⟩:=p8 q.2.1 q.1 q.2.2 hq g3;first|exact WX b4 d2 d3|exact WY d2|exact WZ d3|omega))|(have h0:=zt d1;rw[←g4,h0,Gj];done)|(have h0:=zt d1;rw[←g4,h0,Gj];rfl))
theorem abQ {a:Nat}{x y:Int}(h:((a:Int)==1)=true):x=bif Nat.beq a 1 then x else y:=by
 have:a=1:=by have:=eq_of_beq h;omega
 rw[this];rfl
theorem abR {a:Nat}{x y:Int}(h:((a:Int)==1)=false):y=bif Nat.beq a 1 then x else y:=by
 cases hb:Nat.beq a 1 with
 |false=>rfl
 |true=>
  have e:=co hb
  rw[e]at h
  cases h
theorem R4 (a n:Nat)(hb:a≤2147483647)(hn:n≤2147483647):ar Tryz.prog [] 113 [.int .i64 (a:Int),.int .i64 (n:Int)] (.int .i64 (bif Nat.beq (ja a n 1).1 1 then(ja a n 1).2 else 0)):=by
 have hl0:=UJ a n hb hn
 refine pr c0 Tryz.func113 (aW hl0) ?_
 refine oe ((↑(ja a n (1:Int)).fst:Int)==1) (fun d1=>lr [false] (let v1:=ja a n (1:Int);[v1.snd=bif v1.fst.beq (1:Nat)then v1.snd else(0:Int),ty (dN d1),rq (↑a:Int),rq (↑n:Int)]) ⟨?_,(dN d1),?_,(?_:(↑n:Int)=↑n)⟩)
  (fun d1=>lr [true] [(0:Int)=bif(ja a n (1:Int)).fst.beq (1:Nat)then(ja a n (1:Int)).snd else(0:Int),ty (dN d1),rq (↑a:Int),rq (↑n:Int)] ⟨?_,(dN d1),?_,(?_:(↑n:Int)=↑n)⟩)
 all_goals first|(first|exact tr|exact abQ d1|exact abR d1)
def rH (a n:Nat):Int:=bif Nat.beq (ja a n 1).1 1 then(ja a n 1).2 else 0
def HR:List bV:=[
 ⟨113,[],fun A=>match A with
  |[.int .i64 a,.int .i64 n]=>some (.int .i64 (rH a.toNat n.toNat),[0≤a∧a≤2147483647∧0≤n∧n≤2147483647])
  |_=>none⟩,
 ⟨112,[],fun A=>match A with
  |[.int .i64 a,.int .i64 n]=>some (.int .i64 ((a.toNat%n.toNat:Nat):Int),[0≤a∧a≤2147483647∧0<n∧n≤2147483647])
  |_=>none⟩]
theorem P7:∀e∈HR,ch Tryz.prog e:=by
 intro e he
 simp only[HR,bx,cC,cH]at he
 rcases he with rfl|rfl
 all_goals
  intro A R ms h hm
  simp only at h
  split at h
  all_goals first|exact fF|skip
  rename_i a n
  cases h
  obtain⟨h1,h2,h3,h4⟩:=hm _ cZ
  have e:a=((a.toNat:Nat):Int):=by omega
  have e':n=((n.toNat:Nat):Int):=by omega
  rw[e,e']
  first
   |exact R4 a.toNat n.toNat om om
   |exact Ob a.toNat n.toNat om om om
def oq (a n:Nat):Int:=rH (a%n) n
theorem ID:∀(f a n:Nat)(s:Int),gO s→gO (oo f a n s).2
 |0,a,n,s,h=>h
 |f+1,a,n,s,h=>by
  unfold oo
  cases hb:Nat.beq a 0 with
  |true=>exact h
  |false=>
   have h0:0<a:=rE (lW hb)
   simp only[bg]
   obtain⟨b1,b2,b3,b4⟩:=p8 n a s h0 h
   exact ID f _ _ _ (vA b4)
theorem XY (a n:Nat):IntKind.i64.wrap ((1:Int)*rH a n)=rH a n:=by
 unfold rH
 have h:=ID (a+1) a n 1 (.inl rfl)
 show IntKind.i64.wrap ((1:Int)*(bif Nat.beq (ja a n 1).1 1 then(ja a n 1).2 else 0))=_
 have h:gO (ja a n 1).2:=h
 generalize (ja a n 1).2=s at h
 cases Nat.beq (ja a n 1).1 1 with
 |false=>rfl
 |true=>rcases h with rfl|rfl<;>rfl
theorem XZ {a n:Nat}(h0:0<n)(hn:n≤2147483647):a%n≤2147483647:=by have:=kA a h0;omega
theorem Pv (a n:Nat)(ha:a≤2147483647)(h0:0<n)(hn:n≤2147483647)(ho:n%2≠0):ar Tryz.prog [] 71 [.int .i64 (a:Int),.int .i64 (n:Int)] (.tup [.int .i64 (oq a n),.int .i64 0]):=by
 have q1:decide ((a:Int)< -2147483647)=false:=bu om
 have q2:decide ((a:Int)>2147483647)=false:=bu om
 have q3:decide ((n:Int)< -2147483647)=false:=bu om
 have q4:decide ((n:Int)>2147483647)=false:=bu om
 have q5:((n:Int)==0)=false:=by cases h:((n:Int)==0)with|false=>rfl|true=>have:=eq_of_beq h;omega
 have q6:decide ((n:Int)<0)=false:=bu om
 have q7:=pp (n:=n) (m:=2) rfl ho
 have hmo:=XZ (a:=a) h0 hn
 refine pr (cE P7) Tryz.func71 aC ?_
 refine lr (tp 2222222) (let y1:=(2147483647:Int);[IntKind.i64.wrap ((1:Int)*rH (a%n) n)=oq a n,rq (0:Int),(0:Int)≤↑(a%n)∧(↑(a%n):Int)≤y1∧(0:Int)≤↑n∧(↑n:Int)≤y1,(0:Int)≤↑a∧(↑a:Int)≤y1∧(0:Int)<↑n∧(↑n:Int)≤y1,aj ((↑n:Int).tmod (2:Int)==0) false,(2:Int)≠(0:Int),aj (decide ((↑n:Int)<0)) false,aj ((↑n:Int)==0) false,aj (decide ((↑n:Int)>y1)) false,aj (decide ((↑n:Int)< -2147483647)) false,aj (decide ((↑a:Int)>y1)) false,aj (decide ((↑a:Int)< -2147483647)) false]) ⟨?_,?_,?_,?_,q7,?_,q6,q5,q4,q3,q2,q1⟩
 all_goals first|(first|exact tr|exact XY _ _|decide|exact⟨om,om,om,om⟩)
noncomputable def G2:List bV:=[
 ⟨71,[],fun A=>match A with
  |[.int .i64 a,.int .i64 n]=>some (.tup [.int .i64 (oq a.toNat n.toNat),.int .i64 0],[0≤a∧a≤2147483647∧0<n∧n≤2147483647∧n.toNat%2≠0])
  |_=>none⟩,
 ⟨26,[],fun A=>match A with
  |[.int .i64 d,.int .i64 p]=>some (.tup [.int .i64 ((vv p.toNat d.toNat).1:Int),.int .i64 ((vv p.toNat d.toNat).2:Int)],[2≤p∧0<d∧d≤2147483647])
  |_=>none⟩]
theorem DQ:∀e∈G2,ch Tryz.prog e:=by
 intro e he
 simp only[G2,bx,cC,cH]at he
 rcases he with rfl|rfl
 all_goals
  intro A R ms h hm
  simp only at h
  split at h
  all_goals first|exact fF|skip
  rename_i a n
  cases h
 ·obtain⟨h1,h2,h3,h4,h5⟩:=hm _ cZ
  have e:a=((a.toNat:Nat):Int):=by omega
  have e':n=((n.toNat:Nat):Int):=by omega
  have:=Pv a.toNat n.toNat om om om h5
  rw[←e,←e']at this
  exact this
 ·obtain⟨h1,h2,h3⟩:=hm _ cZ
  have e:a=((a.toNat:Nat):Int):=by omega
  have e':n=((n.toNat:Nat):Int):=by omega
  have:=yg a.toNat n.toNat om om om
  rw[←e,←e']at this
  exact this
def iP (d p:Nat):Int:=bif Nat.beq p 2 then oq 2 (vv 2 d).2 else oq (vv p d).2 p
theorem G3 (d:Nat)(h0:0<d)(hb:d≤2147483647):ar Tryz.prog [] 22 [.int .i64 (d:Int),.int .i64 2] (.int .i64 (iP d 2)):=by
 have q2:((2:Int)==2)=true:=rfl
 obtain⟨v1,v2,v3,v4,v5⟩:=pX (p:=2) om d h0 hb
 refine pr (cE DQ) Tryz.func22 aC ?_
 refine lr [true] (let y1:=vv (Int.toNat (2:Int)) d;let y2:=(2147483647:Int);[oq (Int.toNat (2:Int)) y1.snd=iP d (2:Nat),(0:Int)≤2∧(2:Int)≤y2∧(0:Int)<↑y1.snd∧(↑y1.snd:Int)≤y2∧y1.snd%(2:Nat)≠(0:Nat),aj ((2:Int)==2) true,(2:Int)≤2∧(0:Int)<↑d∧(↑d:Int)≤y2]) ⟨?_,?_,q2,(?_:(2:Int)≤2∧(0:Int)<↑d∧(↑d:Int)≤2147483647)⟩
 all_goals first|(first|exact tr|rfl|((try simp only[show Int.toNat (2:Int)=2 from rfl]);first|exact⟨om,om,om,om,v3⟩|exact⟨om,om,om⟩))
theorem G4 (d p:Nat)(h0:0<d)(hb:d≤2147483647)(hp:2<p)(hq:p≤2147483647)(ho:p%2≠0):ar Tryz.prog [] 22 [.int .i64 (d:Int),.int .i64 (p:Int)] (.int .i64 (iP d p)):=by
 have q1:((p:Int)==2)=false:=by cases h:((p:Int)==2)with|false=>rfl|true=>have:=eq_of_beq h;omega
 obtain⟨v1,v2,v3,v4,v5⟩:=pX (p:=p) om d h0 hb
 have q2:iP d p=oq (vv p d).2 p:=by unfold iP;rw[show Nat.beq p 2=false by(cases h:Nat.beq p 2 with|false=>rfl|true=>have:=co h;omega)];rfl
 refine pr (cE DQ) Tryz.func22 aC ?_
 refine lr [false] (let y1:=(2147483647:Int);[oq (vv p d).snd p=iP d p,(0:Int)≤(↑(vv p d).snd:Int)∧(↑(vv p d).snd:Int)≤y1∧(0:Int)<↑p∧(↑p:Int)≤y1∧p%(2:Nat)≠(0:Nat),aj ((↑p:Int)==2) false,(2:Int)≤↑p∧(0:Int)<↑d∧(↑d:Int)≤y1]) ⟨?_,?_,q1,(?_:(2:Int)≤↑p∧(0:Int)<↑d∧(↑d:Int)≤2147483647)⟩
 all_goals first|(first|exact tr|(rw[q2];done)|exact⟨om,om,om,om,ho⟩|exact⟨om,om,om⟩)
end Go.Proofs.YtmeljalphfcieaaGreatDoor.S
namespace Go.QfSy
open Go.RowKit
theorem R5 {ng:Nat}{A:cg}{args:List AV}{H H':Hs}{v:AV}(h:tc ng A args H=some (v,H')):∀p∈H.ms,p∈H'.ms:=by
 unfold tc at h
 simp only at h
 split at h
 ·cases h
 split at h
 ·cases h
 replace h:=(az h).2
 split at h
 ·cases h
 split at h
 ·cases h
 cases h
 intro p hp
 simp only[dV]
 refine Or.inr (Or.inr ?_)
 cases A.test with
 |none=>exact hp
 |some c=>
  show p∈(H.ask c).2.ms
  rw[lg H c]
  exact fT _ hp
noncomputable def HS (ng:Nat)(go:Nat→List AV→Hs→Option (cg×List Prop))(orc:bF):bF:=fun f args H=>match go f args H with
 |none=>orc f args H
 |some (A,ms)=>bif Nat.beq A.f f then(match tc ng A args H with
  |none=>none
  |some (v,H')=>some (v,⟨H'.m,H'.nx,H'.tp,ms++H'.ms⟩))else none
theorem cV {P:Program}{ng:Nat}{go:Nat→List AV→Hs→Option (cg×List Prop)}(hgo:∀f args H A ms,go f args H=some (A,ms)→(∀p∈ms,p)→aJ P ng A){orc:bF}(ho:ce P ng orc):ce P ng (HS ng go orc):=by
 intro f args H v H' h
 unfold HS at h
 split at h
 ·exact ho f args H v H' h
 ·rename_i A ms hA
  obtain⟨hf,h'⟩:=az h
  have hf:=aN hf
  subst hf
  split at h'
  ·cases h'
  ·rename_i v1 H1 happ
   cases h'
   have hms:∀p∈H.ms,p∈H1.ms:=by
    exact(R5 happ)
   refine⟨fun p hp=>ji _ (hms p hp),fun hm γ w Args hr hV hg=>?_⟩
   have hok:=hgo _ _ _ _ _ hA (fun p hp=>hm p (kv _ hp))
   obtain⟨h1,h2⟩:=(RS hok happ).2 (fun p hp=>hm p (ji _ hp)) γ w Args hr hV hg
   refine⟨h1,h2.mono ?_⟩
   rintro e w' ⟨V,γ',rfl,hv,hR⟩
   exact⟨V,γ',rfl,hv,hR.stp,hR.nx,hR.keep⟩
end Go.QfSy
namespace Go.Proofs.YtmeljalphfcieaaGreatDoor.S
open Go.QfSy Go.RowKit
def cO (C:LC):Nat→Int
 |0=>1
 |k+1=>w6.wrap (cO C k*(at_ C k).sign)
def gy (d:Int)(p:Int)(C:LC):Bool:=decide (cO C C.length=iP d.toNat p.toNat)
def GP:List bV:=[
 ⟨22,[],fun A=>match A with
  |[.int .i64 d,.int .i64 p]=>some (.int .i64 (iP d.toNat p.toNat),[0<d∧d≤2147483647∧2≤p∧p≤2147483647∧(p=2∨p.toNat%2≠0)])
  |_=>none⟩]
theorem DJ:∀e∈GP,ch Tryz.prog e:=by
 intro e he
 simp only[GP,bx,cC,cH]at he
 subst he
 intro A R ms h hm
 simp only at h
 split at h
 ·rename_i d p
  cases h
  obtain⟨h0,hb,hp,hq,ho⟩:=hm _ cZ
  have ed:((d.toNat:Nat):Int)=d:=by omega
  have ep:((p.toNat:Nat):Int)=p:=by omega
  by_cases h2:p=2
  ·subst h2
   have:=G3 d.toNat om om
   rw[ed]at this
   exact this
  ·have:=G4 d.toNat p.toNat om om om om om
   rw[ed,ep]at this
   exact this
 ·cases h
def iy (C:LC):ai:=⟨.con C,53,5,true,true⟩
def fw (X:LL):ai:=⟨.vals .loc X,45,2,true,true⟩
def BI (p:Int)(C:LC):ai:=⟨.plain [vi p,.lo 1000 C.length],45,0,false,true⟩
def lM (b:Nat):Option LL→AV
 |none=>.nils
 |some X=>.lo b X.length
def lN (b:Nat):Option LL→List (Nat×ai)
 |none=>[]
 |some X=>[(b,fw X)]
def ae:Option LL→LL
 |none=>[]
 |some X=>X
def Iq (C:LC)(D p:Int)(o:Option LL):aA:=⟨⟨[(0,lM 1001 o),(1,vi D),(5,.ptr 1100 0),(7,.int .i64 1),(11,.lo 1000 C.length),(12,vi C.length),(13,.int .i64 0)],(1000,iy C)::(1100,BI p C)::lN 1001 o,1101⟩,none,fun _=>(.exit 0,⟨[(0,lM 1001 o),(1,vi D),(5,.ptr 1100 0),(7,vi (cO C C.length))],(1000,iy C)::(1100,BI p C)::lN 1001 o,1101⟩)⟩
def keS (C:LC)(D p:Int)(o:Option LL)(k:Nat):St:=⟨[(0,lM 1001 o),(1,vi D),(5,.ptr 1100 0),(7,vi (cO C k)),(11,.lo 1000 C.length),(12,vi C.length),(13,vi k)],(1000,iy C)::(1100,BI p C)::lN 1001 o,1101⟩
theorem QF (C:LC)(D p:Int)(hC:C.length≤1000):An 3 Tryz.f37 [0,1,0,1,1] (Iq C D p none):=by
 refine cN c0 aC (fun(k:Nat)=>(keS C D p none k:St)) (fun(k:Nat)=>(C.length-k:Nat)) (fun(k:Nat)=>(k≤C.length:Prop)) ?_ ?_
 ·exact st (0) [D=D,(1:Int)=cO C (0:Nat),rq C.length,rq (↑C.length:Int),(0:Int)=↑(0:Nat),C=C,p=p,rq C.length] (by refine⟨?_,?_,?_,?_,?_,?_,?_,(?_:C.length=C.length)⟩<;>(first|rfl|assumption|exact⟨rfl,rfl⟩|omega|simp_all)) (by exact aY _)
 ·intro k hI
  have ht:k≤C.length:=hI
  have ek:=wk k
  refine oe (decide ((↑k:Int)<↑C.length)) (fun d1=>aq [true] (k+1) [D=D,w6.wrap (cO C k*(C.getD k Con.zero).sign)=cO C (k+1),rq C.length,rq (↑C.length:Int),w6.wrap ((↑k:Int)+1)=↑(k+1),C=C,p=p,rq C.length,k<C.length,(0:Int)≤↑k∧(↑k:Int)<↑C.length,ty d1] ⟨?_,?_,?_,?_,?_,?_,?_,?_,?_,?_,d1⟩ ?_ ?_)
   (fun d1=>br [false] [D=D,cO C k=cO C C.length,C=C,p=p,rq C.length,ty d1] ⟨?_,?_,?_,?_,?_,d1⟩)
  all_goals first|exact Ms|exact M7|exact cT|exact L9
theorem QG (C:LC)(D p:Int)(X:LL)(hC:C.length≤1000):An 3 Tryz.f37 [0,1,0,1,1] (Iq C D p (some X)):=by
 refine cN c0 aC (fun(k:Nat)=>(keS C D p (some X) k:St)) (fun(k:Nat)=>(C.length-k:Nat)) (fun(k:Nat)=>(k≤C.length:Prop)) ?_ ?_
 ·exact st (0) [rq X.length,D=D,(1:Int)=cO C (0:Nat),rq C.length,rq (↑C.length:Int),(0:Int)=↑(0:Nat),C=C,p=p,rq C.length,X=X] (by refine⟨?_,?_,?_,?_,?_,?_,?_,?_,?_,(?_:X=X)⟩<;>(first|rfl|assumption|exact⟨rfl,rfl⟩|omega|simp_all)) (by exact aY _)
 ·intro k hI
  have ht:k≤C.length:=hI
  have ek:=wk k
  refine oe (decide ((↑k:Int)<↑C.length)) (fun d1=>aq [true] (k+1) [rq X.length,D=D,w6.wrap (cO C k*(C.getD k Con.zero).sign)=cO C (k+1),rq C.length,rq (↑C.length:Int),w6.wrap ((↑k:Int)+1)=↑(k+1),C=C,p=p,rq C.length,X=X,k<C.length,(0:Int)≤↑k∧(↑k:Int)<↑C.length,ty d1] ⟨?_,?_,?_,?_,?_,?_,?_,?_,?_,?_,?_,?_,d1⟩ ?_ ?_)
   (fun d1=>br [false] [rq X.length,D=D,cO C k=cO C C.length,C=C,p=p,rq C.length,X=X,ty d1] ⟨?_,?_,?_,?_,?_,?_,?_,d1⟩)
  all_goals first|exact Ms|exact M7|exact cT|exact L9
def wZ (C:LC)(D p:Int)(o:Option LL):cg:=⟨37,[lM 1001 o,vi D,.agg [vi p,.lo 1000 C.length]],(1000,iy C)::lN 1001 o,1100,some (gy D p C),fun t=>match t with
 |true=>(lM 1150 (some (ae o++[⟨p,C⟩])),(1000,iy C)::lN 1150 (some (ae o++[⟨p,C⟩])),1200)
 |false=>(lM 1001 o,(1000,iy C)::lN 1001 o,1200)⟩
theorem ke_t {D p:Int}{C:LC}{b:Bool}(h:(cO C C.length==iP D.toNat p.toNat)=b):gy D p C=b:=by
 subst h
 unfold gy
 rcases Bool.eq_false_or_eq_true (cO C C.length==iP D.toNat p.toNat)with h|h
 ·rw[h];exact bZ (eq_of_beq h)
 ·rw[h];exact bu (by intro e;rw[e,e9]at h;cases h)
theorem Vt (C:LC)(D p:Int)(hC0:0<C.length)(hC:C.length≤1000)(hd1:0<D)(hd2:D≤2147483647)(hp1:2≤p)(hp2:p≤2147483647)(hp3:p=2∨p.toNat%2≠0):aJ Tryz.prog EV.ng (wZ C D p none):=by
 refine cQ (cE DJ) Tryz.func37 (aW (QF C D p hC)) ?_
 intro d hd
 cases d
 rotate_right
 have hd:(gy D p C)=true:=hd
 refine oe (cO C C.length==iP D.toNat p.toNat) (fun d1=>lr [false] [(1:Nat)=(ae none++[Loc.mk p C]).length,C=C,rq ([Loc.mk p C]),(0:Nat)<1∧(1:Nat)≤1000000,(1:Nat)=[Loc.mk p C].length,rq C.length,p=p,(0:Nat)<C.length∧C.length≤1000000,rq C.length,ty (dN d1),(0:Int)<D∧D≤2147483647∧(2:Int)≤p∧p≤2147483647∧(p=2∨p.toNat%(2:Nat)≠(0:Nat)),D=D,rq C.length,rq (↑C.length:Int),C=C,p=p,rq C.length] ⟨?_,?_,?_,?_,?_,?_,?_,?_,?_,(dN d1),?_,?_,?_,?_,?_,?_,(?_:C.length=C.length)⟩)
  (fun d1=>aT.no ?_)
 rotate_right
 have hd:(gy D p C)=false:=hd
 refine oe (cO C C.length==iP D.toNat p.toNat) (fun d1=>aT.no ?_)
  (fun d1=>lr [true] [C=C,ty (dN d1),(0:Int)<D∧D≤2147483647∧(2:Int)≤p∧p≤2147483647∧(p=2∨p.toNat%(2:Nat)≠(0:Nat)),D=D,rq C.length,rq (↑C.length:Int),C=C,p=p,rq C.length] ⟨?_,(dN d1),?_,?_,?_,?_,?_,?_,(?_:C.length=C.length)⟩)
 all_goals first|(refine aT.mk ?_;(rw[ke_t d1]at hd;cases hd))|exact L4
theorem Vu (C:LC)(D p:Int)(X:LL)(hC0:0<C.length)(hC:C.length≤1000)(hX:X.length≤100000)(hd1:0<D)(hd2:D≤2147483647)(hp1:2≤p)(hp2:p≤2147483647)(hp3:p=2∨p.toNat%2≠0):aJ Tryz.prog EV.ng (wZ C D p (some X)):=by
 refine cQ (cE DJ) Tryz.func37 (aW (QG C D p X hC)) ?_
 intro d hd
 cases d
 rotate_right
 have hd:(gy D p C)=true:=hd
 refine oe (cO C C.length==iP D.toNat p.toNat) (fun d1=>lr [false] (let v1:=[Loc.mk p C];[X.length+1=(ae (some X)++v1).length,C=C,X++v1=ae (some X)++v1,X.length=X.length∧X.length+1≤1000000,(1:Nat)=v1.length,rq C.length,p=p,(0:Nat)<C.length∧C.length≤1000000,rq C.length,ty (dN d1),(0:Int)<D∧D≤2147483647∧(2:Int)≤p∧p≤2147483647∧(p=2∨p.toNat%(2:Nat)≠(0:Nat)),rq X.length,D=D,rq C.length,rq (↑C.length:Int),C=C,p=p,rq C.length,X=X]) ⟨?_,?_,?_,?_,?_,?_,?_,?_,?_,(dN d1),?_,?_,?_,?_,?_,?_,?_,?_,(?_:X=X)⟩)
  (fun d1=>aT.no ?_)
 rotate_right
 have hd:(gy D p C)=false:=hd
 refine oe (cO C C.length==iP D.toNat p.toNat) (fun d1=>aT.no ?_)
  (fun d1=>lr [true] [rq X.length,C=C,X=X,ty (dN d1),(0:Int)<D∧D≤2147483647∧(2:Int)≤p∧p≤2147483647∧(p=2∨p.toNat%(2:Nat)≠(0:Nat)),rq X.length,D=D,rq C.length,rq (↑C.length:Int),C=C,p=p,rq C.length,X=X] ⟨?_,?_,?_,(dN d1),?_,?_,?_,?_,?_,?_,?_,?_,(?_:X=X)⟩)
 all_goals first|(refine aT.mk ?_;(rw[ke_t d1]at hd;cases hd))|exact L4
def fN (a b:RV):Prop:=∀F V,bW F a V→bW F b V
def nu (A B:List RV):Prop:=∀F Vs,bM F A Vs→bM F B Vs
theorem fN.same {a:RV}:fN a a:=fun _ _ h=>h
theorem nu.nil:nu [] []:=fun _ _ h=>h
theorem nu.cons {a b:RV}{A B:List RV}(h:fN a b)(t:nu A B):nu (a::A) (b::B):=fun F Vs k=>by
 cases k with
 |cons k1 k2=>exact .cons (h _ _ k1) (t _ _ k2)
theorem fN.agg {A B:List RV}(h:nu A B):fN (.agg A) (.agg B):=fun F V k=>by
 cases k with
 |agg k=>exact .agg (h _ _ k)
theorem fN.con {n:Nat}{row:Nat→List RV}(h:∀i,i<n→row i=(Con.ofR (row i)).rvs):fN (.sl n 5 row) (aD (ag n row)):=fun F V k=>V8 h k
theorem j5 (k:IntKind)(l:List Int):b9 l.length (fun i=>[.int k (l.getD i 0)])=l:=by
 apply List.ext_getElem
 ·simp[b9]
 ·intro i h1 h2
  simp[b9,ge,h2]
theorem fN.ints {n:Nat}{row:Nat→List RV}(h:∀i,i<n→row i=[.int .i64 (ge (row i))]):fN (.sl n 1 row) (rI .i64 (b9 n row)):=fun F V k=>by
 unfold rI
 have hn:(b9 n row).length=n:=by simp[b9]
 rw[hn]
 refine k.rows (fun i hi=>?_)
 rw[h i hi]
 simp[b9,hi]
theorem ar.imp {P:Program}{tabs:List Tb}{f:Nat}{A A':List RV}{R:RV}(h:ar P tabs f A' R)(ha:nu A A'):ar P tabs f A R:=h.args ha
theorem jB {n:Nat}{row:Nat→List RV}:(ag n row).length=n:=by simp[ag]
theorem uw {n:Nat}{row:Nat→List RV}:(b9 n row).length=n:=by simp[b9]
def jy (c:Con):Prop:=(0≤c.exp∧c.exp≤1000)∧(1≤c.dim∧c.dim≤1000)∧(c.sign=1∨c.sign=-1)∧(0≤c.oddity∧c.oddity≤7)
def aL (L:List Con):Prop:=L.length≤1000∧∀c∈L,jy c
def dv (L:List Con):Prop:=L.length≤1000∧∀c∈L,0≤c.exp∧c.exp≤1000
theorem aL.e {L:List Con}(h:aL L):dv L:=⟨h.1,fun c hc=>(h.2 c hc).1⟩
theorem aL.at {L:List Con}(h:aL L){k:Nat}(hk:k<L.length):jy (at_ L k):=by
 have:at_ L k=L[k]:=by simp[at_,hk]
 rw[this];exact h.2 _ (fp hk)
theorem dv.at {L:List Con}(h:dv L){k:Nat}(hk:k<L.length):0≤(at_ L k).exp∧(at_ L k).exp≤1000:=by
 have:at_ L k=L[k]:=by simp[at_,hk]
 rw[this];exact h.2 _ (fp hk)
theorem dv.at' {L:List Con}(h:dv L)(k:Nat):0≤(at_ L k).exp∧(at_ L k).exp≤1000:=by
 rcases bA k L.length with hk|hk
 ·exact h.at hk
 ·have:at_ L k=Con.zero:=by simp[at_,hk]
  rw[this];decide
theorem aL.set {L:List Con}(h:aL L){c:Con}(hc:jy c)(k:Nat):aL (L.set k c):=by
 refine⟨by simpa using h.1,fun x hx=>?_⟩
 rcases List.mem_or_eq_of_mem_set hx with h1|h1
 ·exact h.2 x h1
 ·rw[h1];exact hc
theorem Hn {L:List Con}{k i:Nat}{c:Con}:at_ (L.set k c) i=if k=i∧i<L.length then c else at_ L i:=by
 simp only[at_,cj,List.getElem?_set]
 by_cases h1:k=i
 ·subst h1
  by_cases h2:k<L.length
  ·simp[h2]
  ·simp[h2]
 ·simp[h1]
abbrev lQ:=List (List Int)×Option (List Int)
def dH:lQ→List (List Int)
 |(F,none)=>F
 |(F,some l)=>F++[l]
def gV (b j:Bool)(k:Nat)(a:lQ):lQ:=bif b then(match a.2 with
 |none=>(a.1,some [(k:Int)])
 |some l=>bif j then(a.1,some (l++[(k:Int)]))else(a.1++[l],some [(k:Int)]))else a
def iK (b j:Nat→Bool):Nat→lQ
 |0=>([],none)
 |k+1=>gV (b k) (j k) k (iK b j k)
def bR (n:Nat)(l:List Int):Prop:=∀x∈l,0≤x∧x<(n:Int)
theorem bR.at {n:Nat}{l:List Int}(h:bR n l){t:Nat}(ht:t<l.length):0≤l.getD t 0∧l.getD t 0<(n:Int):=by
 have:l.getD t 0=l[t]:=by simp[ht]
 rw[this];exact h _ (fp ht)
theorem bR.mono {n m:Nat}{l:List Int}(h:bR n l)(hm:n≤m):bR m l:=fun x hx=>⟨(h x hx).1,by have:=(h x hx).2;omega⟩
structure AE (b:Nat→Bool)(k:Nat)(a:lQ):Prop where
 none:a.2=none→a.1=[]∧∀i,i<k→b i=false
 rows:∀l∈dH a,l≠[]∧bR k l∧l.length≤k
 len:(dH a).length≤k
theorem mf (b j:Nat→Bool):∀k,AE b k (iK b j k)
 |0=>⟨fun _=>⟨rfl,fun i hi=>om⟩,fun l hl=>by simp[iK,dH]at hl,by simp[iK,dH]⟩
 |k+1=>by
  have ih:=mf b j k
  have e:iK b j (k+1)=gV (b k) (j k) k (iK b j k):=rfl
  rw[e]
  generalize iK b j k=a at ih
  obtain⟨F,o⟩:=a
  obtain⟨h1,h2,h3⟩:=ih
  have new:([(k:Int)]:List Int)≠[]∧bR (k+1) [(k:Int)]∧([(k:Int)]:List Int).length≤k+1:=⟨si,fun x hx=>by rw[dU.1 hx];omega,si⟩
  cases hb:b k with
  |false=>
   simp only[gV,bg]
   refine⟨fun h=>⟨(h1 h).1,fun i hi=>?_⟩,fun l hl=>⟨(h2 l hl).1,(h2 l hl).2.1.mono om,by have:=(h2 l hl).2.2;omega⟩,om⟩
   rcases bA i k with h'|h'
   ·exact(h1 h).2 i h'
   ·have:i=k:=by omega
    subst this;exact hb
  |true=>
   cases o with
   |none=>
    simp only[gV,aM]
    have hF:F=[]:=(h1 rfl).1
    refine⟨fun h=>(by cases h),fun l hl=>?_,?_⟩
    ·rw[hF]at hl
     simp only[dH,pI,dU]at hl
     subst hl;exact new
    ·rw[hF];simp[dH]
   |some l0=>
    have h0:=h2 l0 (by simp[dH])
    cases hj:j k with
    |true=>
     simp only[gV,aM]
     refine⟨fun h=>(by cases h),fun l hl=>?_,by simp only[dH,bU,cR,iD]at h3⊢;omega⟩
     simp only[dH,dV,dU]at hl
     rcases hl with hl|hl
     ·have:=h2 l (by simp[dH,hl])
      exact⟨this.1,this.2.1.mono om,by have:=this.2.2;omega⟩
     ·subst hl
      refine⟨si,fun x hx=>?_,by have:=h0.2.2;simp;omega⟩
      rcases dV.1 hx with hx|hx
      ·have:=h0.2.1 x hx;omega
      ·rw[dU.1 hx];omega
    |false=>
     simp only[gV,aM,bg]
     refine⟨fun h=>(by cases h),fun l hl=>?_,by simp only[dH,bU,cR,iD]at h3⊢;omega⟩
     simp only[dH,dV,dU]at hl
     rcases hl with(hl|hl)|hl
     ·have:=h2 l (by simp[dH,hl])
      exact⟨this.1,this.2.1.mono om,by have:=this.2.2;omega⟩
     ·subst hl;exact⟨h0.1,h0.2.1.mono om,by have:=h0.2.2;omega⟩
     ·subst hl;exact new
def fy (L:List Con)(k:Nat):Bool:=(at_ L k).odd
def eO (L:List Con)(k:Nat):Bool:=decide (0<k)&&((at_ L (k-1)).odd&&decide ((at_ L (k-1)).exp=(at_ L k).exp-1))
def ga (L:List Con)(k:Nat):lQ:=iK (fy L) (eO L) k
def aF (L:List Con):List (List Int):=dH (ga L L.length)
theorem jA {L:List Con}:∀l∈aF L,l≠[]∧bR L.length l∧l.length≤L.length:=(mf (fy L) (eO L) L.length).rows
theorem kB {L:List Con}:(aF L).length≤L.length:=(mf (fy L) (eO L) L.length).len
abbrev ab (P:List (List Int))(t:Nat):List Int:=P.getD t []
theorem gE {P:List (List Int)}{t:Nat}(ht:t<P.length):ab P t∈P:=by
 have:ab P t=P[t]:=by simp[ab,ht]
 rw[this];exact fp ht
theorem mc {P:List (List Int)}{t:Nat}(ht:t<P.length):P.drop t=ab P t::P.drop (t+1):=by
 rw[kU ht];simp[ab,ht]
theorem m9 {l:List Int}{t:Nat}(ht:t<l.length):l.drop t=l.getD t 0::l.drop (t+1):=by
 rw[kU ht];simp[ht]
theorem yT {l:List Int}{t:Nat}(ht:t<l.length):l.take (t+1)=l.take t++[l.getD t 0]:=by
 rw[tY ht];simp[ht]
def fA (i:Int):List Int→Bool
 |[]=>false
 |x::l=>(x==i)||fA i l
def eP (i:Int):List (List Int)→List Int
 |[]=>[]
 |l::P=>bif fA i l then l else eP i P
theorem D2 {i:Int}:∀{P:List (List Int)},eP i P=[]∨eP i P∈P
 |[]=>.inl rfl
 |l::P=>by
  simp only[eP]
  cases fA i l with
  |true=>exact .inr si
  |false=>
   rcases D2 (i:=i) (P:=P)with h|h
   ·exact .inl h
   ·exact .inr (by simp[h])
def kM (i:Int):List (List Int)→Bool
 |[]=>false
 |l::P=>fA i l||kM i P
theorem Di {i:Int}:∀{P:List (List Int)},kM i P=false→eP i P=[]
 |[],_=>rfl
 |l::P,h=>by
  simp only[kM,Bool.or_eq_false_iff]at h
  simp only[eP,h.1,bg]
  exact Di h.2
def cI (L:List Con)(i:Int):List Int:=eP i (aF L)
theorem ET {L:List Con}{i:Int}:bR L.length (cI L i)∧(cI L i).length≤L.length:=by
 unfold cI
 rcases D2 (i:=i) (P:=aF L)with h|h
 ·rw[h];exact⟨fun x hx=>by simp at hx,si⟩
 ·exact(jA _ h).2
def fO (L:List Con):List Int→Int
 |[]=>0
 |i::l=>(at_ L i.toNat).oddity+fO L l
theorem Om (L:List Con)(a b:List Int):fO L (a++b)=fO L a+fO L b:=by
 induction a with
 |nil=>simp[fO]
 |cons c a ih=>simp only[kx,fO,ih];omega
theorem z6 {L:List Con}(hL:aL L):∀{l:List Int},bR L.length l→0≤fO L l∧fO L l≤7*l.length
 |[],_=>by simp[fO]
 |i::l,h=>by
  have h1:=h i si
  have h2:=(hL.at (k:=i.toNat) om).2.2.2
  have ih:=z6 hL (l:=l) (fun x hx=>h x (by simp[hx]))
  simp only[fO,cR]
  omega
def eC (L:List Con)(l:List Int):Int:=fO L l%8
def gd (L:List Con)(l:List Int):Bool:=decide (l.length=2)&&((at_ L (l.getD 0 0).toNat).dim==1&&((at_ L (l.getD 1 0).toNat).dim==1&&(eC L l%4==0)))
def ft (L:List Con)(k:Nat):Bool:=
 bif(at_ L k).exp-(at_ L (k-1)).exp==1 then((at_ L (k-1)).odd !=(at_ L k).odd)||((at_ L (k-1)).odd&&!gd L (cI L k))
 else bif(at_ L k).exp-(at_ L (k-1)).exp==2 then(at_ L (k-1)).odd&&(at_ L k).odd else false
def cG (L:List Con)(i t:Int):List Con:=L.set i.toNat {at_ L i.toNat with oddity:=t}
theorem md {L:List Con}{i t:Int}:(cG L i t).length=L.length:=by simp[cG]
theorem Tz {L:List Con}(h:aL L){i t:Int}(hi:0≤i∧i<(L.length:Int))(ht:0≤t∧t≤7):aL (cG L i t):=by
 have:=h.at (k:=i.toNat) om
 exact h.set (show jy {at_ L i.toNat with oddity:=t}from⟨this.1,this.2.1,this.2.2.1,ht⟩) _
theorem Wo (L:List Con)(l:List Int):0≤eC L l∧eC L l≤7:=by unfold eC;omega
def iG (L:LC):List (List Int):=(ga L L.length).1
def g7 (L:LC):List Int:=(ga L L.length).2.getD []
def QL (L:LC):aA:=⟨⟨[(0,(aD L).av),(3,.nils),(6,(aD L).av),(7,vi L.length),(8,.int .i64 0)],[],1000⟩,some (ga L L.length).2.isNone,fun d=>match d with
 |true=>(.exit 0,⟨[(3,.nils)],[],1003⟩)
 |false=>(.exit 0,⟨[(3,.lo 1001 ((iG L).length+1))],[(1001,⟨.rows .i64 (iG L) 1002 (g7 L).length,69,1,true,true⟩),(1002,⟨.ints .i64 (g7 L),3,1,true,true⟩)],1003⟩)⟩
def Vx (L:LC):Nat×List (List Int)×Option (List Int)→St
 |(k,_,none)=>⟨[(0,(aD L).av),(3,.nils),(6,(aD L).av),(7,vi L.length),(8,vi k)],[],1003⟩
 |(k,F,some l)=>⟨[(0,(aD L).av),(3,.lo 1001 (F.length+1)),(6,(aD L).av),(7,vi L.length),(8,vi k)],[(1001,⟨.rows .i64 F 1002 l.length,69,1,true,true⟩),(1002,⟨.ints .i64 l,3,1,true,true⟩)],1003⟩
def jH (L:LC)(i:Nat×List (List Int)×Option (List Int)):Prop:=i.1≤L.length∧ga L i.1=i.2
theorem uo {L:LC}{i:Nat×List (List Int)×Option (List Int)}(h:jH L i):AE (fy L) i.1 i.2:=by rw[←h.2];exact mf _ _ _
theorem DK {L:LC}{k:Nat}{a:lQ}(h:jH L (k,a))(hk:k<L.length)(ho:(at_ L k).odd=false):jH L (k+1,a):=by
 refine⟨hk,?_⟩
 show gV (fy L k) (eO L k) k (ga L k)=a
 rw[h.2,show fy L k=false from ho];rfl
theorem pN {L:LC}{k:Nat}{F:List (List Int)}{l:List Int}(h:jH L (k,F,some l))(hk:k<L.length)(ho:(at_ L k).odd=true)(hj:eO L k=false):jH L (k+1,F++[l],some [(k:Int)]):=by
 refine⟨hk,?_⟩
 show gV (fy L k) (eO L k) k (ga L k)=_
 rw[h.2,show fy L k=true from ho,hj];rfl
theorem C9 {L:LC}{k:Nat}{F:List (List Int)}{l:List Int}(h:jH L (k,F,some l))(hk:k<L.length)(ho:(at_ L k).odd=true)(hj:eO L k=true):jH L (k+1,F,some (l++[(k:Int)])):=by
 refine⟨hk,?_⟩
 show gV (fy L k) (eO L k) k (ga L k)=_
 rw[h.2,show fy L k=true from ho,hj];rfl
theorem Da {L:LC}{k:Nat}{F:List (List Int)}(h:jH L (k,F,none))(hk:k<L.length)(ho:(at_ L k).odd=true):jH L (k+1,[],some [(k:Int)]):=by
 have hF:F=[]:=((uo h).none rfl).1
 subst hF
 refine⟨hk,?_⟩
 show gV (fy L k) (eO L k) k (ga L k)=_
 rw[h.2,show fy L k=true from ho];rfl
theorem Db {L:LC}{k:Nat}{a:lQ}(h:jH L (k,a))(hk:L.length≤k):ga L L.length=a:=by
 have h1:k≤L.length:=h.1
 have:k=L.length:=by omega
 subst this;exact h.2
theorem ug {L:LC}{k:Nat}{F:List (List Int)}{l:List Int}(h:jH L (k,F,some l))(hk:L.length≤k):iG L=F∧g7 L=l:=by
 have:=Db h hk
 unfold iG g7
 rw[this]
 exact⟨rfl,rfl⟩
theorem Fw {L:LC}{k:Nat}(h1:0<k)(h2:(at_ L (k-1)).odd=true)(h3:(at_ L (k-1)).exp=(at_ L k).exp-1):eO L k=true:=by
 unfold eO;rw[h2,h3];simp[h1]
theorem Fx {L:LC}{k:Nat}(h1:¬0<k):eO L k=false:=by unfold eO;simp[h1]
theorem Fy {L:LC}{k:Nat}(h1:(at_ L (k-1)).odd=false):eO L k=false:=by unfold eO;rw[h1];simp
theorem FA {L:LC}{k:Nat}(h1:¬(at_ L (k-1)).exp=(at_ L k).exp-1):eO L k=false:=by unfold eO;simp only[h1,decide_false,l3]
theorem Pg {L:LC}(h:(ga L L.length).2.isNone=true):aF L=[]:=by
 have h1:=mf (fy L) (eO L) L.length
 have h2:(ga L L.length).2=none:=by simpa using h
 have h3:=h1.none h2
 unfold aF
 generalize hp:ga L L.length=a at h2
 obtain⟨F,o⟩:=a
 have h2:o=none:=h2
 subst h2
 have h4:(ga L L.length).1=[]:=h3.1
 rw[hp]at h4
 exact h4
theorem OJ {L:LC}(h:(ga L L.length).2.isNone=false):aF L=iG L++[g7 L]:=by
 unfold aF iG g7
 generalize ga L L.length=a at h
 obtain⟨F,o⟩:=a
 cases o with
 |none=>cases h
 |some l=>rfl
theorem OK (L:LC)(hL:dv L):An 1 Tryz.f57 [0,1,0,1,1] (QL L):=by
 refine ea c0 aC (Vx L) (fun i=>L.length-i.1) (fun d i=>jH L i∧d=(ga L L.length).2.isNone) ?_ ?_
 ·intro d hd
  exact st (0,[],none) [lq L,lq L,rq (↑L.length:Int),(0:Int)=↑(0:Nat)] B6 (by exact⟨⟨aY _,rfl⟩,hd.symm⟩)
 ·rintro d hd ⟨k,F,o⟩ hI
  obtain⟨hI,hD⟩:=hI
  have hG:=uo hI
  have hk:k≤L.length:=hI.1
  have hl:=hL.1
  have ek:=wk k
  have em:w6.wrap ((k:Int)-1)=(k:Int)-1:=wo
  have et:((k:Int)-1).toNat=k-1:=by omega
  have ew:w6.wrap ((at_ L k).exp-1)=(at_ L k).exp-1:=by have:=hL.at' k;exact wo
  have hFk:F.length≤k:=by have:=hG.len;cases o<;>simp[dH]at this<;>omega
  have eF:w6.wrap (((F.length+1:Nat):Int)-1)=(F.length:Int):=by rw[wo];omega
  rcases o with _|l
  rotate_right
  refine(let q1:List Prop→List Prop:=fun l0=>(lq L)::(F.length+1+1=(F++[l]).length+1)::(lq L)::rq (↑L.length:Int)::(w6.wrap ((↑k:Int)+1)=↑(k+1))::(F++[l]=F++[l]∧(1:Nat)=[(↑k:Int)].length)::rq ([(↑k:Int)])::(F.length+1+1≤1000000)::(F.length+1=F.length+1∧l.length=l.length)::l0;let q2:List Prop→List Prop:=fun l0=>(lq L)::rq (F.length+1)::(lq L)::rq (↑L.length:Int)::(w6.wrap ((↑k:Int)+1)=↑(k+1))::l0;oe (decide ((↑k:Int)<↑L.length)) (fun d1=>let y1:List Prop:=[(0:Int)≤↑k∧(↑k:Int)<↑L.length,ty d1];have u1:ao y1:=⟨?_,d1⟩;oe ((L.getD k Con.zero).odd) (fun d2=>oe (decide ((↑k:Int)>0)) (fun d3=>let y2:List Prop:=((0:Int)≤w6.wrap ((↑k:Int)-1)∧w6.wrap ((↑k:Int)-1)<↑L.length)::ty d3::ty (dN d2)::y1;have u2:ao y2:=⟨?_,d3,(dN d2),u1⟩;oe ((L.getD (w6.wrap ((↑k:Int)-1)).toNat Con.zero).odd) (fun d4=>let y3:List Prop:=((0:Int)≤w6.wrap ((↑k:Int)-1)∧w6.wrap ((↑k:Int)-1)<↑L.length)::ty d4::y2;have u3:ao y3:=⟨?_,d4,u2⟩;oe ((L.getD (w6.wrap ((↑k:Int)-1)).toNat Con.zero).exp==w6.wrap ((L.getD k Con.zero).exp-1)) (fun d5=>aq (tp 12111) (k+1,F,some (l++[(k:Int)])) (q2 (let v1:=(↑(F.length+1):Int)-1;let v2:=(0:Int)≤w6.wrap v1∧w6.wrap v1<↑(F.length+1);let v3:=(w6.wrap v1).toNat=F.length;(F=F∧l.length+1=(l++[(↑k:Int)]).length)::rq (l++[(↑k:Int)])::v3::v2::((bN.ints IntKind.i64 l).num=l.length∧l.length+1≤1000000)::v3::v2::ty d5::y3)) ?_ ?_ ?_)
   (fun d5=>aq (tp 12112) (k+1,F++[l],some [(k:Int)]) (q1 (ty d5::y3)) ?_ ?_ ?_))
   (fun d4=>aq (tp 1212) (k+1,F++[l],some [(k:Int)]) (q1 (ty d4::y2)) ?_ ?_ ?_))
   (fun d3=>aq (tp 122) (k+1,F++[l],some [(k:Int)]) (q1 (ty d3::ty (dN d2)::y1)) ?_ ?_ ?_))
   (fun d2=>aq [true,true] (k+1,F,some l) (q2 ((F=F∧l.length=l.length)::(l=l)::ty (dN d2)::y1)) ?_ ?_ ?_))
   (fun d1=>aG d false [false] [F.length+1=(iG L).length+1,F=iG L∧l.length=(g7 L).length,l=g7 L,ty d1] ⟨?_,?_,?_,d1⟩ ?_))
  all_goals with_reducible repeat' first|exact dA|refine bk ?_ ?_|refine bm ?_
  rotate_right
  refine(let q1:List Prop→List Prop:=fun l0=>(lq L)::((1:Nat)=0+1)::(lq L)::rq (↑L.length:Int)::(w6.wrap ((↑k:Int)+1)=↑(k+1))::(([]:List (List Int))=[]∧(1:Nat)=[(↑k:Int)].length)::rq ([(↑k:Int)])::l0;oe (decide ((↑k:Int)<↑L.length)) (fun d1=>let y1:List Prop:=[(0:Int)≤↑k∧(↑k:Int)<↑L.length,ty d1];have u1:ao y1:=⟨?_,d1⟩;oe ((L.getD k Con.zero).odd) (fun d2=>oe (decide ((↑k:Int)>0)) (fun d3=>oe ((L.getD (w6.wrap ((↑k:Int)-1)).toNat Con.zero).odd) (fun d4=>l6.no ?_)
   (fun d4=>aq (tp 1212) (k+1,[],some [(k:Int)]) (q1 (ty d4::((0:Int)≤w6.wrap ((↑k:Int)-1)∧w6.wrap ((↑k:Int)-1)<↑L.length)::ty d3::ty (dN d2)::y1)) ⟨?_,?_,?_,?_,?_,?_,?_,d4,?_,d3,(dN d2),u1⟩ ?_ ?_))
   (fun d3=>aq (tp 122) (k+1,[],some [(k:Int)]) (q1 (ty d3::ty (dN d2)::y1)) ⟨?_,?_,?_,?_,?_,?_,?_,d3,(dN d2),u1⟩ ?_ ?_))
   (fun d2=>aq [true,true] (k+1,F,none) ((lq L)::(lq L)::rq (↑L.length:Int)::(w6.wrap ((↑k:Int)+1)=↑(k+1))::ty (dN d2)::y1) ⟨?_,?_,?_,?_,(dN d2),u1⟩ ?_ ?_))
   (fun d1=>aG d true [false] [ty d1] d1 ?_))
  all_goals((try clear u3);(try clear y3);(try clear u2);(try clear y2);(try clear u1);(try clear y1))
  all_goals first|exact xl|(refine bD.mk ?_;(simp only[em,et,ew,dT,dF,gM,b6,bJ,ne_eq]at*;first|exact⟨DK hI om d2,hD⟩|exact⟨Da hI om d2,hD⟩|exact⟨C9 hI om d2 (Fw om d4 d5),hD⟩|exact⟨pN hI om d2 (Fx om),hD⟩|exact⟨pN hI om d2 (Fy d4),hD⟩|exact⟨pN hI om d2 (FA d5),hD⟩))|exact L3|exact LK|exact LF
theorem Dc (L:LC)(hL:dv L):ar Tryz.prog [] 57 [aD L] (cS .i64 (aF L)):=by
 refine pr c0 Tryz.func57 (aW (OK L hL)) ?_
 refine oe ((ga L L.length).snd.isNone) (fun d1=>lr [true] [(aF L).length=0,lq L,lq L,rq (↑L.length:Int),ty d1] ⟨?_,?_,?_,?_,d1⟩)
  (fun d1=>lr [false] (let v1:=iG L;[v1.length+1=(aF L).length∧v1.length+1=v1.length+1∧(g7 L).length=(g7 L).length∧∀(i:Nat),i<v1.length+1→(fun i=>[rI IntKind.i64 ((aF L).getD i [])]) i=[rI IntKind.i64 ((iG L++[g7 L]).getD i [])],lq L,lq L,rq (↑L.length:Int),ty d1]) ⟨?_,?_,?_,?_,d1⟩)
 all_goals first|exact Mk
def Vy (L:LC)(l:List Int):aA:=⟨⟨[(0,(aD L).av),(5,.int .i64 0),(8,(rI .i64 l).av),(9,vi l.length),(10,.int .i64 0)],[],1000⟩,none,fun _=>(.exit 0,⟨[(5,vi (fO L l))],[],1000⟩)⟩
theorem Ph {L:LC}{l:List Int}{t:Nat}(ht:t<l.length):fO L (l.take (t+1))=fO L (l.take t)+(at_ L (l.getD t 0).toNat).oddity:=by
 rw[yT ht,Om];simp[fO]
theorem Is {L:LC}{l:List Int}{t:Nat}(hL:aL L)(hl:bR L.length l)(ht:t<l.length):0≤(at_ L (l.getD t 0).toNat).oddity∧(at_ L (l.getD t 0).toNat).oddity≤7:=by
 have h1:=hl.at ht
 exact(hL.at (k:=(l.getD t 0).toNat) om).2.2.2
theorem QM (L:LC)(l:List Int)(hL:aL L)(hl:bR L.length l)(hn:l.length≤1000):An 2 Tryz.f106 [0,1,0,1,1] (Vy L l):=by
 refine cN c0 aC (u2 fun(t:Nat)(n:Int)=>(⟨[(0,(aD L).av),(5,vi n),(8,(rI .i64 l).av),(9,vi l.length),(10,vi t)],[],1000⟩:St)) (u2 fun(t:Nat)(n:Int)=>(l.length-t:Nat)) (u2 fun(t:Nat)(n:Int)=>(t≤l.length∧n=fO L (l.take t):Prop)) ?_ ?_
 ·exact st (0,0) [lq L,rq (0:Int),sr l fun j=>[RV.int IntKind.i64 (l.getD j (0:Int))],rq (↑l.length:Int),(0:Int)=↑(0:Nat)] xi (by exact⟨aY _,rfl⟩)
 ·rintro ⟨t,n⟩ hI
  obtain⟨ht,hs⟩:=hI
  have ek:=wk t
  have hb:=z6 hL (l:=l.take t) (fun x hx=>hl x (rC hx))
  have hb2:((l.take t).length:Int)≤1000:=by simp only[n8];omega
  refine oe (decide ((↑t:Int)<↑l.length)) (fun d1=>aq [true] (t+1,n+(at_ L (l.getD t 0).toNat).oddity) [lq L,w6.wrap (n+(L.getD (l.getD t (0:Int)).toNat Con.zero).oddity)=n+(at_ L (l.getD t (0:Int)).toNat).oddity,sr l fun j=>[RV.int IntKind.i64 (l.getD j (0:Int))],rq (↑l.length:Int),w6.wrap ((↑t:Int)+1)=↑(t+1),(0:Int)≤l.getD t (0:Int)∧l.getD t (0:Int)<↑L.length,(0:Int)≤↑t∧(↑t:Int)<↑l.length,ty d1] ⟨?_,?_,?_,?_,?_,?_,?_,d1⟩ ?_ ?_)
   (fun d1=>br [false] [n=fO L l,ty d1] ⟨?_,d1⟩)
  all_goals first|exact Mt|(refine bD.mk ?_;(simp only[dT]at*;exact⟨om,by rw[Ph om,hs]⟩))|exact cT|(first|rfl|exact⟨rfl,rfl⟩|((try simp only[ek,bt,dT,dF]at*)<;>first|omega|(have h1:=hl.at (t:=t) om;omega)|(have h2:=Is (t:=t) hL hl om;simp only[at_]at h2⊢;exact wo)|(rw[hs,iR om];done)))
theorem OL (L:LC)(l:List Int)(hL:aL L)(hl:bR L.length l)(hn:l.length≤1000):ar Tryz.prog [] 106 [aD L,rI .i64 l] (.int .i64 (eC L l)):=by
 refine pr c0 Tryz.func106 (aW (QM L l hL hl hn)) ?_
 refine lr [] [(fO L l).tmod (8:Int)=eC L l,(8:Int)≠(0:Int),lq L,sr l fun j=>[RV.int IntKind.i64 (l.getD j (0:Int))],rq (↑l.length:Int)] ⟨?_,?_,?_,?_,(?_:(↑l.length:Int)=↑l.length)⟩
 all_goals first|(first|rfl|exact⟨rfl,rfl⟩|decide|(exact gh (z6 hL hl).1))
def CJ (p:Int)(L:LC):List (Nat×ai):=[(1000,⟨.plain [vi p,(aD L).av],45,0,false,true⟩),(1001,⟨.plain [.fn 116 [.ptr 1000 0],.fn 117 [.ptr 1000 0]],125,0,false,true⟩)]
def I0 (p:Int)(L:LC):aA:=⟨⟨[(3,.ptr 1001 0),(5,.nils),(8,vi L.length),(9,.int .i64 0)],CJ p L,1002⟩,some (ga L L.length).2.isNone,fun d=>match d with
 |true=>(.exit 0,⟨[(5,.nils)],[],1010⟩)
 |false=>(.exit 0,⟨[(5,.lo 1003 ((iG L).length+1))],[(1003,⟨.rows .i64 (iG L) 1004 (g7 L).length,69,1,true,true⟩),(1004,⟨.ints .i64 (g7 L),3,1,true,true⟩)],1010⟩)⟩
def coS (p:Int)(L:LC):Nat×List (List Int)×Option (List Int)→St
 |(k,_,none)=>⟨[(3,.ptr 1001 0),(5,.nils),(8,vi L.length),(9,vi k)],CJ p L,1010⟩
 |(k,F,some l)=>⟨[(3,.ptr 1001 0),(5,.lo 1003 (F.length+1)),(8,vi L.length),(9,vi k)],CJ p L++[(1003,⟨.rows .i64 F 1004 l.length,69,1,true,true⟩),(1004,⟨.ints .i64 l,3,1,true,true⟩)],1010⟩
theorem Rq {L:LC}{k:Nat}(h1:0<k)(h2:(at_ L (k-1)).odd=true)(h3:(at_ L k).exp=(at_ L (k-1)).exp+1):eO L k=true:=Fw h1 h2 om
theorem Rr {L:LC}{k:Nat}(h1:¬(at_ L k).exp=(at_ L (k-1)).exp+1):eO L k=false:=FA om
theorem T9 (p:Int)(L:LC)(hL:dv L):An 2 Tryz.f115 [0,1,0,1,1] (I0 p L):=by
 refine ea c0 aC (coS p L) (fun i=>L.length-i.1) (fun d i=>jH L i∧d=(ga L L.length).2.isNone) ?_ ?_
 ·intro d hd
  exact st (0,[],none) [rq (↑L.length:Int),(0:Int)=↑(0:Nat),p=p,lq L] Mj (by exact⟨⟨aY _,rfl⟩,hd.symm⟩)
 ·rintro d hd ⟨k,F,o⟩ hI
  obtain⟨hI,hD⟩:=hI
  have hG:=uo hI
  have hk:k≤L.length:=hI.1
  have hl:=hL.1
  have ek:=wk k
  have em:w6.wrap ((k:Int)-1)=(k:Int)-1:=wo
  have et:((k:Int)-1).toNat=k-1:=by omega
  have ew:w6.wrap ((at_ L (k-1)).exp+1)=(at_ L (k-1)).exp+1:=by have:=hL.at' (k-1);exact wo
  have hFk:F.length≤k:=by have:=hG.len;cases o<;>simp[dH]at this<;>omega
  have eF:w6.wrap (((F.length+1:Nat):Int)-1)=(F.length:Int):=by rw[wo];omega
  rcases o with _|l
  rotate_right
  refine(let q1:List Prop→List Prop:=fun l0=>(F.length+1+1=(F++[l]).length+1)::rq (↑L.length:Int)::(w6.wrap ((↑k:Int)+1)=↑(k+1))::(p=p)::(lq L)::(F++[l]=F++[l]∧(1:Nat)=[(↑k:Int)].length)::rq ([(↑k:Int)])::(F.length+1+1≤1000000)::(F.length+1=F.length+1∧l.length=l.length)::l0;let q2:List Prop→List Prop:=fun l0=>rq (F.length+1)::rq (↑L.length:Int)::(w6.wrap ((↑k:Int)+1)=↑(k+1))::(p=p)::(lq L)::l0;oe (decide ((↑k:Int)<↑L.length)) (fun d1=>let y1:List Prop:=[(0:Int)≤↑k∧(↑k:Int)<↑L.length,ty d1];have u1:ao y1:=⟨?_,d1⟩;oe ((L.getD k Con.zero).odd) (fun d2=>oe (decide ((↑k:Int)>0)) (fun d3=>let y2:List Prop:=((0:Int)≤w6.wrap ((↑k:Int)-1)∧w6.wrap ((↑k:Int)-1)<↑L.length)::ty d3::ty (dN d2)::y1;have u2:ao y2:=⟨?_,d3,(dN d2),u1⟩;oe ((L.getD (w6.wrap ((↑k:Int)-1)).toNat Con.zero).odd) (fun d4=>let y3:List Prop:=((0:Int)≤w6.wrap ((↑k:Int)-1)∧w6.wrap ((↑k:Int)-1)<↑L.length)::((0:Int)≤↑k∧(↑k:Int)<↑L.length)::ty d4::y2;have u3:ao y3:=⟨?_,?_,d4,u2⟩;oe ((L.getD k Con.zero).exp==w6.wrap ((L.getD (w6.wrap ((↑k:Int)-1)).toNat Con.zero).exp+1)) (fun d5=>aq (tp 12111) (k+1,F,some (l++[(k:Int)])) (q2 (let v1:=(↑(F.length+1):Int)-1;let v2:=(0:Int)≤w6.wrap v1∧w6.wrap v1<↑(F.length+1);let v3:=(w6.wrap v1).toNat=F.length;(F=F∧l.length+1=(l++[(↑k:Int)]).length)::rq (l++[(↑k:Int)])::v3::v2::((bN.ints IntKind.i64 l).num=l.length∧l.length+1≤1000000)::v3::v2::ty d5::y3)) ?_ ?_ ?_)
   (fun d5=>aq (tp 12112) (k+1,F++[l],some [(k:Int)]) (q1 (ty d5::y3)) ?_ ?_ ?_))
   (fun d4=>aq (tp 1212) (k+1,F++[l],some [(k:Int)]) (q1 (ty d4::y2)) ?_ ?_ ?_))
   (fun d3=>aq (tp 122) (k+1,F++[l],some [(k:Int)]) (q1 (ty d3::ty (dN d2)::y1)) ?_ ?_ ?_))
   (fun d2=>aq [true,true] (k+1,F,some l) (q2 ((F=F∧l.length=l.length)::(l=l)::ty (dN d2)::y1)) ?_ ?_ ?_))
   (fun d1=>aG d false [false] [F.length+1=(iG L).length+1,F=iG L∧l.length=(g7 L).length,l=g7 L,ty d1] ⟨?_,?_,?_,d1⟩ ?_))
  all_goals with_reducible repeat' first|exact dA|refine bk ?_ ?_|refine bm ?_
  rotate_right
  refine(let q1:List Prop→List Prop:=fun l0=>((1:Nat)=0+1)::rq (↑L.length:Int)::(w6.wrap ((↑k:Int)+1)=↑(k+1))::(p=p)::(lq L)::(([]:List (List Int))=[]∧(1:Nat)=[(↑k:Int)].length)::rq ([(↑k:Int)])::l0;oe (decide ((↑k:Int)<↑L.length)) (fun d1=>let y1:List Prop:=[(0:Int)≤↑k∧(↑k:Int)<↑L.length,ty d1];have u1:ao y1:=⟨?_,d1⟩;oe ((L.getD k Con.zero).odd) (fun d2=>oe (decide ((↑k:Int)>0)) (fun d3=>oe ((L.getD (w6.wrap ((↑k:Int)-1)).toNat Con.zero).odd) (fun d4=>l6.no ?_)
   (fun d4=>aq (tp 1212) (k+1,[],some [(k:Int)]) (q1 (ty d4::((0:Int)≤w6.wrap ((↑k:Int)-1)∧w6.wrap ((↑k:Int)-1)<↑L.length)::ty d3::ty (dN d2)::y1)) ⟨?_,?_,?_,?_,?_,?_,?_,d4,?_,d3,(dN d2),u1⟩ ?_ ?_))
   (fun d3=>aq (tp 122) (k+1,[],some [(k:Int)]) (q1 (ty d3::ty (dN d2)::y1)) ⟨?_,?_,?_,?_,?_,?_,?_,d3,(dN d2),u1⟩ ?_ ?_))
   (fun d2=>aq [true,true] (k+1,F,none) (rq (↑L.length:Int)::(w6.wrap ((↑k:Int)+1)=↑(k+1))::(p=p)::(lq L)::ty (dN d2)::y1) ⟨?_,?_,?_,?_,(dN d2),u1⟩ ?_ ?_))
   (fun d1=>aG d true [false] [ty d1] d1 ?_))
  all_goals((try clear u3);(try clear y3);(try clear u2);(try clear y2);(try clear u1);(try clear y1))
  all_goals first|exact xl|(refine bD.mk ?_;(simp only[em,et,ew,dT,dF,gM,b6,bJ,ne_eq]at*;first|exact⟨DK hI om d2,hD⟩|exact⟨Da hI om d2,hD⟩|exact⟨C9 hI om d2 (Rq om d4 d5),hD⟩|exact⟨pN hI om d2 (Fx om),hD⟩|exact⟨pN hI om d2 (Fy d4),hD⟩|exact⟨pN hI om d2 (Rr d5),hD⟩))|exact L3|exact LK|exact LF
def Y8 (p:Int)(L:LC):bF:=wv EV (lA EV qz 4) 115 2 [([0,1,0,1,1],I0 p L)] qz
theorem Rs (p:Int)(L:LC)(hL:dv L):ce Tryz.prog EV.ng (Y8 p L):=FG fB (j6 fB (dL _ _) 4) Tryz.func115 (aW (T9 p L hL)) (dL _ _)
theorem OR (p:Int)(L:LC)(hL:dv L):ar Tryz.prog [] 73 [.agg [.int .i64 p,aD L]] (cS .i64 (aF L)):=by
 have rr:=fun(tp:List Bool)(ms:List Prop)h hm=>yM fB (j6 fB (Rs p L hL) 4) Tryz.func73 (A:=[.agg [.int .i64 p,aD L]]) rfl aC rfl rfl lJ (tabs:=[]) (R:=cS .i64 (aF L)) (tp:=tp) (ms:=ms) h hm
 refine oe ((ga L L.length).snd.isNone) (fun d1=>rr [true] [(aF L).length=0,rq (↑L.length:Int),p=p,lq L,ty d1] kr ⟨?_,?_,?_,?_,d1⟩)
  (fun d1=>rr [false] (let v1:=iG L;[v1.length+1=(aF L).length∧v1.length+1=v1.length+1∧(g7 L).length=(g7 L).length∧∀(i:Nat),i<v1.length+1→(fun i=>[rI IntKind.i64 ((aF L).getD i [])]) i=[rI IntKind.i64 ((iG L++[g7 L]).getD i [])],rq (↑L.length:Int),p=p,lq L,ty d1]) kr ⟨?_,?_,?_,?_,d1⟩)
 all_goals first|exact Mk
def sV:List bV:=[
 ⟨57,[],fun A=>match A with
  |[.sl n 5 row]=>some (cS .i64 (aF (ag n row)),[(∀i,i<n→row i=(Con.ofR (row i)).rvs)∧dv (ag n row)])
  |_=>none⟩,
 ⟨106,[],fun A=>match A with
  |[.sl n 5 row,.sl m 1 row']=>some (.int .i64 (eC (ag n row) (b9 m row')),[(∀i,i<n→row i=(Con.ofR (row i)).rvs)∧(∀i,i<m→row' i=[.int .i64 (ge (row' i))])∧aL (ag n row)∧bR (ag n row).length (b9 m row')∧m≤1000])
  |_=>none⟩]
theorem rX:∀e∈sV,ch Tryz.prog e:=by
 intro e he
 simp only[sV,bx,cC,cH]at he
 rcases he with rfl|rfl
 all_goals
  intro A R ms h hm
  simp only at h
  split at h
  all_goals first|exact fF|cases h
 ·obtain⟨h1,h2⟩:=ay hm
  exact ar.imp (Dc _ h2) (.cons (.con h1) .nil)
 ·obtain⟨h1,h2,h3,h4,h5⟩:=ay hm
  exact ar.imp (OL _ _ h3 h4 Cw) (.cons (.con h1) (.cons (.ints h2) .nil))
theorem uq {i:Int}{l:List Int}{t:Nat}(ht:t<l.length):fA i (l.drop t)=((l.getD t 0==i)||fA i (l.drop (t+1))):=by
 rw[m9 ht];rfl
theorem ur {i:Int}{P:List (List Int)}{j:Nat}(hj:j<P.length):kM i (P.drop j)=(fA i (ab P j)||kM i (P.drop (j+1))):=by
 rw[mc hj];rfl
theorem uh {i:Int}{P:List (List Int)}{j:Nat}(hj:j<P.length):eP i (P.drop j)=(bif fA i (ab P j)then ab P j else eP i (P.drop (j+1))):=by
 rw[mc hj];rfl
def JQ (P:List (List Int))(a:Int)(j:Nat):aA:=⟨⟨[(1,vi a),(10,(cS .i64 P).av),(11,vi P.length),(12,vi j),(6,(rI .i64 (ab P j)).av),(16,(rI .i64 (ab P j)).av),(17,vi (ab P j).length),(18,.int .i64 0)],[],1000⟩,some (fA a (ab P j)),fun d=>match d with
 |true=>(.ret,⟨[(4,(rI .i64 (ab P j)).av)],[],1000⟩)
 |false=>(.exit 2,⟨[(1,vi a),(10,(cS .i64 P).av),(11,vi P.length),(12,vi j)],[],1000⟩)⟩
theorem XK (P:List (List Int))(a:Int)(j:Nat)(hn:(ab P j).length≤1000):An 2 Tryz.f128 [0,1,1,0,0,1,1,0,0,1,0,1] (JQ P a j):=by
 refine ea c0 aC (fun(t:Nat)=>(⟨[(1,vi a),(10,(cS .i64 P).av),(11,vi P.length),(12,vi j),(6,(rI .i64 (ab P j)).av),(16,(rI .i64 (ab P j)).av),(17,vi (ab P j).length),(18,vi t)],[],1000⟩:St)) (fun(t:Nat)=>((ab P j).length-t:Nat)) (fun(d:Bool)=>fun(t:Nat)=>(t≤(ab P j).length∧fA a ((ab P j).drop t)=d:Prop)) ?_ ?_
 ·intro d hd
  exact st (0) [a=a,sr P fun i=>[rI IntKind.i64 (P.getD i [])],rq (↑P.length:Int),rq (↑j:Int),sr (ab P j) fun j_1=>[RV.int IntKind.i64 ((ab P j).getD j_1 (0:Int))],sr (ab P j) fun j_1=>[RV.int IntKind.i64 ((ab P j).getD j_1 (0:Int))],rq (↑(ab P j).length:Int),(0:Int)=↑(0:Nat)] (by refine⟨?_,?_,?_,?_,?_,?_,?_,(?_:(0:Int)=↑(0:Nat))⟩<;>(first|rfl|assumption|exact⟨rfl,rfl⟩|omega|simp_all)) (by exact⟨aY _,hd⟩)
 ·rintro d hd t hI
  obtain⟨ht,hs⟩:=hI
  have ek:=wk t
  refine(let q1:List Prop→List Prop:=fun l0=>(a=a)::(sr P fun i=>[rI IntKind.i64 (P.getD i [])])::rq (↑P.length:Int)::rq (↑j:Int)::l0;oe (decide ((↑t:Int)<(↑(ab P j).length:Int))) (fun d1=>let y1:List Prop:=[(0:Int)≤↑t∧(↑t:Int)<(↑(ab P j).length:Int),ty d1];have u1:ao y1:=⟨?_,d1⟩;oe ((ab P j).getD t (0:Int)==a) (fun d2=>aG d true [true,true] ((sr (ab P j) fun j_1=>[RV.int IntKind.i64 ((ab P j).getD j_1 (0:Int))])::ty d2::y1) ⟨?_,d2,u1⟩ ?_)
   (fun d2=>aq [true,false] (t+1) (q1 ((sr (ab P j) fun j_1=>[RV.int IntKind.i64 ((ab P j).getD j_1 (0:Int))])::(sr (ab P j) fun j_1=>[RV.int IntKind.i64 ((ab P j).getD j_1 (0:Int))])::rq (↑(ab P j).length:Int)::(w6.wrap ((↑t:Int)+1)=↑(t+1))::ty d2::y1)) ⟨?_,?_,?_,?_,?_,?_,?_,?_,d2,u1⟩ ?_ ?_))
   (fun d1=>aG d false [false] (q1 [ty d1]) ⟨?_,?_,?_,?_,d1⟩ ?_))
  all_goals((try clear u1);(try clear y1))
  all_goals first|exact Ca|(refine bD.mk ?_;(simp only[dT]at*;rw[uq om,d2]at hs;exact⟨om,hs⟩))|(refine dq.mk ?_;cases d<;>first|rfl|(exfalso;(simp only[dT,dF]at*;first|(rw[eL om]at hs;cases hs;done)|(rw[uq om,d2]at hs;cases hs;done))))|exact Cn
def XL (P:List (List Int))(a:Int):aA:=⟨⟨[(1,vi a),(10,(cS .i64 P).av),(11,vi P.length),(12,.int .i64 0)],[],1000⟩,some (kM a P),fun d=>match d with
 |true=>(.ret,⟨[(4,(rI .i64 (eP a P)).av)],[],1000⟩)
 |false=>(.exit 0,⟨[],[],1000⟩)⟩
theorem VT (P:List (List Int))(a:Int)(hn:∀l∈P,l.length≤1000)(hm:P.length≤1000):An 2 Tryz.f128 [0,1,0,1] (XL P a):=by
 refine jU c0 (fun(j:Nat)=>(⟨[(1,vi a),(10,(cS .i64 P).av),(11,vi P.length),(12,vi j)],[],1000⟩:St)) (fun(j:Nat)=>(P.length-j:Nat)) (fun(d:Bool)=>fun(j:Nat)=>(j≤P.length∧kM a (P.drop j)=d∧eP a (P.drop j)=eP a P:Prop)) (fun(j:Nat)=>([([0,1,1,0,0,1,1,0,0,1,0,1],JQ P a j)]:List (List Nat×aA))) ?_ ?_ ?_
 ·rintro d hd j hI
  exact aW (XK P a j (by rcases bA j P.length with h|h;exact hn _ (gE h);simp[ab,h]))
 ·intro d hd
  exact st (0) [a=a,sr P fun i=>[rI IntKind.i64 (P.getD i [])],rq (↑P.length:Int),(0:Int)=↑(0:Nat)] B7 (by exact⟨aY _,hd,rfl⟩)
 ·rintro d hd j hI
  obtain⟨ht,hs,hf⟩:=hI
  have ek:=wk j
  refine oe (decide ((↑j:Int)<↑P.length)) (fun d1=>let y1:List Prop:=[(0:Int)≤↑j∧(↑j:Int)<↑P.length,ty d1];have u1:ao y1:=⟨?_,d1⟩;oe (fA a (ab P j)) (fun d2=>aG d true [true,true] (((ab P j).length=(eP a P).length∧(fun j_1=>[RV.int IntKind.i64 ((ab P j).getD j_1 (0:Int))])=fun j=>[RV.int IntKind.i64 ((eP a P).getD j (0:Int))])::(a=a)::(sr P fun i=>[rI IntKind.i64 (P.getD i [])])::rq (↑P.length:Int)::rq (↑j:Int)::((P.getD j []).length=(ab P j).length∧(fun j_1=>[RV.int IntKind.i64 ((P.getD j []).getD j_1 (0:Int))])=fun j_1=>[RV.int IntKind.i64 ((ab P j).getD j_1 (0:Int))])::((P.getD j []).length=(ab P j).length∧(fun j_1=>[RV.int IntKind.i64 ((P.getD j []).getD j_1 (0:Int))])=fun j_1=>[RV.int IntKind.i64 ((ab P j).getD j_1 (0:Int))])::((↑(P.getD j []).length:Int)=(↑(ab P j).length:Int))::ty d2::y1) ⟨?_,?_,?_,?_,?_,?_,?_,?_,d2,u1⟩ ?_)
   (fun d2=>aq [true,false] (j+1) (let v1:=P.getD j [];(a=a)::(sr P fun i=>[rI IntKind.i64 (P.getD i [])])::rq (↑P.length:Int)::(w6.wrap ((↑j:Int)+1)=↑(j+1))::(a=a)::(sr P fun i=>[rI IntKind.i64 (P.getD i [])])::rq (↑P.length:Int)::rq (↑j:Int)::(v1.length=(ab P j).length∧(fun j_1=>[RV.int IntKind.i64 (v1.getD j_1 (0:Int))])=fun j_1=>[RV.int IntKind.i64 ((ab P j).getD j_1 (0:Int))])::(v1.length=(ab P j).length∧(fun j_1=>[RV.int IntKind.i64 (v1.getD j_1 (0:Int))])=fun j_1=>[RV.int IntKind.i64 ((ab P j).getD j_1 (0:Int))])::((↑v1.length:Int)=(↑(ab P j).length:Int))::ty d2::y1) ⟨?_,?_,?_,?_,?_,?_,?_,?_,?_,?_,?_,d2,u1⟩ ?_ ?_))
   (fun d1=>aG d false [false] [ty d1] d1 ?_)
  all_goals((try clear u1);(try clear y1))
  all_goals first|exact xn|(refine bD.mk ?_;(simp only[dT]at*;rw[ur om,d2]at hs;rw[uh om,d2]at hf;exact⟨om,hs,hf⟩))|(refine dq.mk ?_;cases d<;>first|rfl|(exfalso;(simp only[dT,dF]at*;first|(rw[eL om]at hs;cases hs;done)|(rw[ur om,d2]at hs;cases hs;done))))|(first|rfl|exact⟨rfl,rfl⟩|((try simp only[ek,bt,dT,dF]at*)<;>first|omega|(rw[←hf,uh om,d2];exact⟨rfl,rfl⟩)))
theorem Oh (L:LC)(a:Int)(hL:dv L):ar Tryz.prog [] 128 [aD L,.int .i64 a] (rI .i64 (cI L a)):=by
 refine pr (cE rX) Tryz.func128 (aW (VT (aF L) a (fun l hl=>cU (jA l hl).2.2 hL.1) (cU kB hL.1))) ?_
 refine(let y1:List Prop:=[(lz L)∧dv (ag L.length fun i=>(L.getD i z0c).rvs)];have u1:ao y1:=(?_:(lz L)∧dv (ag L.length fun i=>(L.getD i z0c).rvs));oe (kM a (aF L)) (fun d1=>lr [true] (let v1:=ag L.length fun i=>(L.getD i z0c).rvs;((eP a (aF L)).length=(cI L a).length∧(fun j=>[RV.int IntKind.i64 ((eP a (aF L)).getD j (0:Int))])=fun j=>[RV.int IntKind.i64 ((cI L a).getD j (0:Int))])::(a=a)::((aF v1).length=(aF L).length∧(fun i=>[rI IntKind.i64 ((aF v1).getD i [])])=fun i=>[rI IntKind.i64 ((aF L).getD i [])])::((↑(aF v1).length:Int)=(↑(aF L).length:Int))::ty d1::y1) ⟨?_,?_,?_,?_,d1,u1⟩)
  (fun d1=>lr [false] (let v1:=ag L.length fun i=>(L.getD i z0c).rvs;((cI L a).length=0)::(a=a)::((aF v1).length=(aF L).length∧(fun i=>[rI IntKind.i64 ((aF v1).getD i [])])=fun i=>[rI IntKind.i64 ((aF L).getD i [])])::((↑(aF v1).length:Int)=(↑(aF L).length:Int))::ty d1::y1) ⟨?_,?_,?_,?_,d1,u1⟩))
 all_goals((try clear u1);(try clear y1))
 all_goals first|exact LP
theorem QY (L:LC)(l:List Int)(hL:aL L)(hl:bR L.length l)(hn:l.length≤1000):ar Tryz.prog [] 138 [aD L,rI .i64 l] (.bool (gd L l)):=by
 refine pr (cE rX) Tryz.func138 aC ?_
 refine oe ((↑l.length:Int)==2) (fun d1=>let y1:List Prop:=[(0:Int)≤l.getD (Int.toNat (0:Int)) (0:Int)∧l.getD (Int.toNat (0:Int)) (0:Int)<↑L.length,(0:Int)≤0∧(0:Int)<↑l.length,ty d1];have u1:ao y1:=⟨?_,?_,d1⟩;oe ((L.getD (l.getD (Int.toNat (0:Int)) (0:Int)).toNat z0c).dim==1) (fun d2=>let y2:List Prop:=((0:Int)≤l.getD (Int.toNat (1:Int)) (0:Int)∧l.getD (Int.toNat (1:Int)) (0:Int)<↑L.length)::((0:Int)≤1∧(1:Int)<↑l.length)::ty d2::y1;have u2:ao y2:=⟨?_,?_,d2,u1⟩;oe ((L.getD (l.getD (Int.toNat (1:Int)) (0:Int)).toNat z0c).dim==1) (fun d3=>lr (tp 111) (let v1:=ag L.length fun i=>(L.getD i z0c).rvs;let v2:=b9 l.length fun j=>[RV.int IntKind.i64 (l.getD j (0:Int))];(((eC v1 v2).tmod (4:Int)==0)=gd L l)::((4:Int)≠(0:Int))::((lz L)∧(∀(i:Nat),i<l.length→(fun j=>[RV.int IntKind.i64 (l.getD j (0:Int))]) i=[RV.int IntKind.i64 (ge ((fun j=>[RV.int IntKind.i64 (l.getD j (0:Int))]) i))])∧aL v1∧bR v1.length v2∧l.length≤1000)::ty d3::y2) ⟨?_,?_,?_,d3,u2⟩)
  (fun d3=>lr (tp 112) ((false=gd L l)::ty d3::y2) ⟨?_,d3,u2⟩))
  (fun d2=>lr [true,false] ((false=gd L l)::ty d2::y1) ⟨?_,d2,u1⟩))
  (fun d1=>lr [false] [false=gd L l,ty d1] ⟨?_,d1⟩)
 all_goals((try clear u2);(try clear y2);(try clear u1);(try clear y1))
 all_goals first|(first|rfl|exact⟨rfl,rfl⟩|decide|(simp only[bn,j5,b6,bJ,ne_eq]at* <;>first|omega|exact⟨fun _ _=>rfl,fun _ _=>rfl,hL,hl,hn⟩|(have h0:=hl.at (t:=0) om;exact h0)|(have h0:=hl.at (t:=1) om;exact h0)|(rw[gh (Wo L l).1];have e:l.length=2:=om;unfold gd;simp[e];simp_all;done)|(unfold gd;have e:l.length=2:=om;simp_all;done)|(unfold gd;have e:¬l.length=2:=om;simp[e];done)))
def Az:List bV:=[
 ⟨128,[],fun A=>match A with
  |[.sl n 5 row,.int .i64 a]=>some (rI .i64 (cI (ag n row) a),[(∀i,i<n→row i=(Con.ofR (row i)).rvs)∧dv (ag n row)])
  |_=>none⟩,
 ⟨138,[],fun A=>match A with
  |[.sl n 5 row,.sl m 1 row']=>some (.bool (gd (ag n row) (b9 m row')),[(∀i,i<n→row i=(Con.ofR (row i)).rvs)∧(∀i,i<m→row' i=[.int .i64 (ge (row' i))])∧aL (ag n row)∧bR (ag n row).length (b9 m row')∧m≤1000])
  |_=>none⟩]
theorem EL:∀e∈Az,ch Tryz.prog e:=by
 intro e he
 simp only[Az,bx,cC,cH]at he
 rcases he with rfl|rfl
 all_goals
  intro A R ms h hm
  simp only at h
  split at h
  all_goals first|exact fF|cases h
 ·obtain⟨h1,h2⟩:=ay hm
  exact ar.imp (Oh _ _ h2) (.cons (.con h1) (.cons .same .nil))
 ·obtain⟨h1,h2,h3,h4,h5⟩:=ay hm
  exact ar.imp (QY _ _ h3 h4 Cw) (.cons (.con h1) (.cons (.ints h2) .nil))
theorem Oi (L:LC)(k:Nat)(hL:aL L)(h1:1≤k)(h2:k<L.length):ar Tryz.prog [] 130 [aD L,.int .i64 (k:Int)] (.bool (ft L k)):=by
 have hl:=hL.1;have a1:=hL.e.at' k;have a2:=hL.e.at' (k-1);have em:w6.wrap ((k:Int)-1)=(k:Int)-1:=wo;have et:((k:Int)-1).toNat=k-1:=om;have ed:w6.wrap ((at_ L k).exp-(at_ L (k-1)).exp)=(at_ L k).exp-(at_ L (k-1)).exp:=wo;have hp:=ET (L:=L) (i:=(k:Int))
 refine pr (cE EL) Tryz.func130 aC ?_
 refine(let y1:List Prop:=(let v1:=L.getD k z0c;[rq (v1.exp),rq (v1.dim),rq (v1.sign),rq (v1.odd),rq (v1.oddity),(0:Int)≤↑k∧(↑k:Int)<↑L.length,(0:Int)≤w6.wrap ((↑k:Int)-1)∧w6.wrap ((↑k:Int)-1)<↑L.length]);have u1:ao y1:=⟨?_,?_,?_,?_,?_,?_,(?_:(0:Int)≤w6.wrap ((↑k:Int)-1)∧w6.wrap ((↑k:Int)-1)<↑L.length)⟩;oe (w6.wrap ((L.getD k z0c).exp-(L.getD (w6.wrap ((↑k:Int)-1)).toNat z0c).exp)==1) (fun d1=>oe ((L.getD (w6.wrap ((↑k:Int)-1)).toNat z0c).odd==(L.getD k z0c).odd) (fun d2=>oe ((L.getD (w6.wrap ((↑k:Int)-1)).toNat z0c).odd) (fun d3=>lr (tp 121) (let v1:=ag L.length fun i=>(L.getD i z0c).rvs;let v2:=cI v1 (↑k:Int);let v3:=b9 v2.length fun j=>[RV.int IntKind.i64 (v2.getD j (0:Int))];((!gd v1 v3)=ft L k)::((lz L)∧(∀(i:Nat),i<v2.length→(fun j=>[RV.int IntKind.i64 (v2.getD j (0:Int))]) i=[RV.int IntKind.i64 (ge ((fun j=>[RV.int IntKind.i64 (v2.getD j (0:Int))]) i))])∧aL v1∧bR v1.length v3∧v2.length≤1000)::((lz L)∧dv v1)::ty d3::ty (dN d2)::ty d1::y1) ⟨?_,?_,?_,d3,(dN d2),d1,u1⟩)
  (fun d3=>lr (tp 122) ((false=ft L k)::ty d3::ty (dN d2)::ty d1::y1) ⟨?_,d3,(dN d2),d1,u1⟩))
  (fun d2=>lr [true,true] ((true=ft L k)::ty (dN d2)::ty d1::y1) ⟨?_,(dN d2),d1,u1⟩))
  (fun d1=>oe (w6.wrap ((L.getD k z0c).exp-(L.getD (w6.wrap ((↑k:Int)-1)).toNat z0c).exp)==2) (fun d2=>oe ((L.getD (w6.wrap ((↑k:Int)-1)).toNat z0c).odd) (fun d3=>lr (tp 211) (((L.getD k z0c).odd=ft L k)::ty d3::ty d2::ty d1::y1) ⟨?_,d3,d2,d1,u1⟩)
  (fun d3=>lr (tp 212) ((false=ft L k)::ty d3::ty d2::ty d1::y1) ⟨?_,d3,d2,d1,u1⟩))
  (fun d2=>lr [false,false] ((false=ft L k)::ty d2::ty d1::y1) ⟨?_,d2,d1,u1⟩)))
 all_goals((try clear u1);(try clear y1))
 all_goals first|(first|rfl|exact⟨rfl,rfl⟩|decide|((try simp only[at_,em,et,ed,bn,j5,bt]at*)<;>first|rfl|trivial|omega|exact⟨fun _ _=>rfl,hL.e⟩|exact⟨fun _ _=>rfl,fun _ _=>rfl,hL,hp.1,om⟩|(simp only[ft,at_, *];done)|(simp_all[ft];done)))
def idxN (a:Int):List Int→Nat
 |[]=>0
 |x::l=>bif x==a then 0 else idxN a l+1
def nK (a:Int)(l:List Int):Int:=bif fA a l then(idxN a l:Int)else-1
theorem Eh {a:Int}{l:List Int}{t:Nat}(ht:t<l.length):idxN a (l.drop t)=(bif l.getD t 0==a then 0 else idxN a (l.drop (t+1))+1):=by
 rw[m9 ht];rfl
def Zr (l:List Int)(a:Int):aA:=⟨⟨[(0,(rI .i64 l).av),(1,vi a),(7,vi l.length),(8,.int .i64 0)],[],1000⟩,some (fA a l),fun d=>match d with
 |true=>(.ret,⟨[(4,vi (idxN a l:Int))],[],1000⟩)
 |false=>(.exit 0,⟨[],[],1000⟩)⟩
theorem Uo (l:List Int)(a:Int)(hn:l.length≤1000):An 2 Tryz.f141 [0,1,0,1] (Zr l a):=by
 refine ea c0 aC (fun(t:Nat)=>(⟨[(0,(rI .i64 l).av),(1,vi a),(7,vi l.length),(8,vi t)],[],1000⟩:St)) (fun(t:Nat)=>(l.length-t:Nat)) (fun(d:Bool)=>fun(t:Nat)=>(t≤l.length∧fA a (l.drop t)=d∧t+idxN a (l.drop t)=idxN a l:Prop)) ?_ ?_
 ·intro d hd
  exact st (0) [sr l fun j=>[RV.int IntKind.i64 (l.getD j (0:Int))],a=a,rq (↑l.length:Int),(0:Int)=↑(0:Nat)] B7 (by exact⟨aY _,hd,gN _⟩)
 ·rintro d hd t hI
  obtain⟨ht,hs,hx⟩:=hI
  have ek:=wk t
  refine oe (decide ((↑t:Int)<↑l.length)) (fun d1=>let y1:List Prop:=[(0:Int)≤↑t∧(↑t:Int)<↑l.length,ty d1];have u1:ao y1:=⟨?_,d1⟩;oe (a==l.getD t (0:Int)) (fun d2=>aG d true [true,true] (((↑t:Int)=↑(idxN a l))::ty d2::y1) ⟨?_,d2,u1⟩ ?_)
   (fun d2=>aq [true,false] (t+1) ((sr l fun j=>[RV.int IntKind.i64 (l.getD j (0:Int))])::(a=a)::rq (↑l.length:Int)::(w6.wrap ((↑t:Int)+1)=↑(t+1))::ty d2::y1) ⟨?_,?_,?_,?_,d2,u1⟩ ?_ ?_))
   (fun d1=>aG d false [false] [ty d1] d1 ?_)
  all_goals((try clear u1);(try clear y1))
  all_goals first|exact Mt|(refine bD.mk ?_;(simp only[dT,bt]at*;have d3:(l.getD t 0==a)=false:=(by rw[bJ]at d2⊢;exact fun h=>d2 h.symm);rw[uq om,d3]at hs;rw[Eh om,d3]at hx;simp only[bg]at hx;exact⟨om,hs,om⟩))|(refine dq.mk ?_;cases d<;>first|rfl|(exfalso;(simp only[dT,dF,bt]at*;first|(rw[eL om]at hs;cases hs;done)|(rw[b6]at d2;rw[uq om,←d2,e9]at hs;cases hs;done))))|(first|exact tz|((try simp only[ek,bt,dT,dF,b6]at*)<;>first|omega|(rw[Eh om,d2.symm,e9]at hx;simp only[aM]at hx;omega)|exact⟨rfl,rfl⟩))
theorem OV (l:List Int)(a:Int)(hn:l.length≤1000):ar Tryz.prog [] 141 [rI .i64 l,.int .i64 a] (.int .i64 (nK a l)):=by
 refine pr c0 Tryz.func141 (aW (Uo l a hn)) ?_
 refine oe (fA a l) (fun d1=>lr [true] [(↑(idxN a l):Int)=nK a l,sr l fun j=>[RV.int IntKind.i64 (l.getD j (0:Int))],a=a,rq (↑l.length:Int),ty d1] ⟨?_,?_,?_,?_,d1⟩)
  (fun d1=>lr [false] [(-1:Int)=nK a l,sr l fun j=>[RV.int IntKind.i64 (l.getD j (0:Int))],a=a,rq (↑l.length:Int),ty d1] ⟨?_,?_,?_,?_,d1⟩)
 all_goals first|(first|exact tz|(unfold nK;rw[d1];rfl))
def HH:List bV:=[
 ⟨141,[],fun A=>match A with
  |[.sl m 1 row',.int .i64 a]=>some (.int .i64 (nK a (b9 m row')),[(∀i,i<m→row' i=[.int .i64 (ge (row' i))])∧m≤1000])
  |_=>none⟩]
theorem PW:∀e∈HH,ch Tryz.prog e:=by
 intro e he
 simp only[HH,bx,cC,cH]at he
 rcases he with rfl
 intro A R ms h hm
 simp only at h
 split at h
 all_goals first|exact fF|cases h
 obtain⟨h1,h2⟩:=ay hm
 exact ar.imp (OV _ _ (by rw[uw];exact h2)) (.cons (.ints h1) (.cons .same .nil))
theorem WM (a:Int)(l:List Int):decide (nK a l≥0)=fA a l:=by
 unfold nK
 cases fA a l
 ·rfl
 ·simp only[aM,dT];omega
theorem N0 (l:List Int)(a:Int)(hn:l.length≤1000):ar Tryz.prog [] 139 [rI .i64 l,.int .i64 a] (.bool (fA a l)):=by
 refine pr (cE PW) Tryz.func139 aC ?_
 refine lr [] [decide (nK a (b9 l.length fun j=>[RV.int IntKind.i64 (l.getD j (0:Int))])≥0)=fA a l,(∀(i:Nat),i<l.length→(fun j=>[RV.int IntKind.i64 (l.getD j (0:Int))]) i=[RV.int IntKind.i64 (ge ((fun j=>[RV.int IntKind.i64 (l.getD j (0:Int))]) i))])∧l.length≤1000] ⟨?_,(?_:(∀(i:Nat),i<l.length→(fun j=>[RV.int IntKind.i64 (l.getD j (0:Int))]) i=[RV.int IntKind.i64 (ge ((fun j=>[RV.int IntKind.i64 (l.getD j (0:Int))]) i))])∧l.length≤1000)⟩
 all_goals first|(first|exact tr|exact kt|(rw[j5];exact WM a l))
def sM:List bV:=[
 ⟨139,[],fun A=>match A with
  |[.sl m 1 row',.int .i64 a]=>some (.bool (fA a (b9 m row')),[(∀i,i<m→row' i=[.int .i64 (ge (row' i))])∧m≤1000])
  |_=>none⟩,
 ⟨73,[],fun A=>match A with
  |[.agg [.int .i64 p,.sl n 5 row]]=>some (cS .i64 (aF (ag n row)),[(∀i,i<n→row i=(Con.ofR (row i)).rvs)∧dv (ag n row)])
  |_=>none⟩]
theorem rU:∀e∈sM,ch Tryz.prog e:=by
 intro e he
 simp only[sM,bx,cC,cH]at he
 rcases he with rfl|rfl
 all_goals
  intro A R ms h hm
  simp only at h
  split at h
  all_goals first|exact fF|cases h
 ·obtain⟨h1,h2⟩:=ay hm
  exact ar.imp (N0 _ _ (by rw[uw];exact h2)) (.cons (.ints h1) (.cons .same .nil))
 ·obtain⟨h1,h2⟩:=ay hm
  exact ar.imp (OR _ _ h2) (.cons (.agg (.cons .same (.cons (.con h1) .nil))) .nil)
def Zs (P:List (List Int))(a:Int):aA:=⟨⟨[(1,vi a),(8,(cS .i64 P).av),(9,vi P.length),(10,.int .i64 0)],[],1010⟩,some (kM a P),fun d=>match d with
 |true=>(.ret,⟨[(4,(rI .i64 (eP a P)).av)],[],1010⟩)
 |false=>(.exit 0,⟨[],[],1010⟩)⟩
theorem Up (P:List (List Int))(a:Int)(hn:∀l∈P,l.length≤1000)(hm:P.length≤1000):An 2 Tryz.f135 [0,1,0,1] (Zs P a):=by
 refine ea (cE rU) aC (fun(j:Nat)=>(⟨[(1,vi a),(8,(cS .i64 P).av),(9,vi P.length),(10,vi j)],[],1010⟩:St)) (fun(j:Nat)=>(P.length-j:Nat)) (fun(d:Bool)=>fun(j:Nat)=>(j≤P.length∧kM a (P.drop j)=d∧eP a (P.drop j)=eP a P:Prop)) ?_ ?_
 ·intro d hd
  exact st (0) [a=a,sr P fun i=>[rI IntKind.i64 (P.getD i [])],rq (↑P.length:Int),(0:Int)=↑(0:Nat)] B7 (by exact⟨aY _,hd,rfl⟩)
 ·rintro d hd j hI
  obtain⟨ht,hs,hf⟩:=hI
  have ek:=wk j
  refine oe (decide ((↑j:Int)<↑P.length)) (fun d1=>let y1:List Prop:=(let v1:=P.getD j [];[(∀(i:Nat),i<v1.length→(fun j_1=>[RV.int IntKind.i64 (v1.getD j_1 (0:Int))]) i=[RV.int IntKind.i64 (ge ((fun j_1=>[RV.int IntKind.i64 (v1.getD j_1 (0:Int))]) i))])∧v1.length≤1000,(0:Int)≤↑j∧(↑j:Int)<↑P.length,ty d1]);have u1:ao y1:=⟨?_,?_,d1⟩;oe (fA a (b9 (P.getD j []).length fun j_1=>[RV.int IntKind.i64 ((P.getD j []).getD j_1 (0:Int))])) (fun d2=>aG d true [true,true] (((P.getD j []).length=(eP a P).length∧(fun j_1=>[RV.int IntKind.i64 ((P.getD j []).getD j_1 (0:Int))])=fun j=>[RV.int IntKind.i64 ((eP a P).getD j (0:Int))])::ty d2::y1) ⟨?_,d2,u1⟩ ?_)
   (fun d2=>aq [true,false] (j+1) ((a=a)::(sr P fun i=>[rI IntKind.i64 (P.getD i [])])::rq (↑P.length:Int)::(w6.wrap ((↑j:Int)+1)=↑(j+1))::ty d2::y1) ⟨?_,?_,?_,?_,d2,u1⟩ ?_ ?_))
   (fun d1=>aG d false [false] [ty d1] d1 ?_)
  all_goals((try clear u1);(try clear y1))
  all_goals first|exact xn|(refine bD.mk ?_;(simp only[dT,j5,bt]at*;rw[ur om,d2]at hs;rw[uh om,d2]at hf;exact⟨om,hs,hf⟩))|(refine dq.mk ?_;cases d<;>first|rfl|(exfalso;(simp only[dT,dF,j5,bt]at*;first|(rw[eL om]at hs;cases hs;done)|(rw[ur om,d2]at hs;cases hs;done))))|(first|exact tz|((try simp only[ek,j5,bt,dT,dF]at*)<;>first|omega|exact⟨fun _ _=>rfl,hn _ (gE om)⟩|(rw[←hf,uh om,d2];exact⟨rfl,rfl⟩)))
theorem PX (p:Int)(L:LC)(a:Int)(hL:dv L):ar Tryz.prog [] 135 [.agg [.int .i64 p,aD L],.int .i64 a] (rI .i64 (cI L a)):=by
 refine pr (cE rU) Tryz.func135 (aW (Up (aF L) a (fun l hl=>cU (jA l hl).2.2 hL.1) (cU kB hL.1))) ?_
 refine(let y1:List Prop:=[(lz L)∧dv (ag L.length fun i=>(L.getD i z0c).rvs)];have u1:ao y1:=(?_:(lz L)∧dv (ag L.length fun i=>(L.getD i z0c).rvs));oe (kM a (aF L)) (fun d1=>lr [true] (let v1:=ag L.length fun i=>(L.getD i z0c).rvs;((eP a (aF L)).length=(cI L a).length∧(fun j=>[RV.int IntKind.i64 ((eP a (aF L)).getD j (0:Int))])=fun j=>[RV.int IntKind.i64 ((cI L a).getD j (0:Int))])::(a=a)::((aF v1).length=(aF L).length∧(fun i=>[rI IntKind.i64 ((aF v1).getD i [])])=fun i=>[rI IntKind.i64 ((aF L).getD i [])])::((↑(aF v1).length:Int)=(↑(aF L).length:Int))::ty d1::y1) ⟨?_,?_,?_,?_,d1,u1⟩)
  (fun d1=>lr [false] (let v1:=ag L.length fun i=>(L.getD i z0c).rvs;((cI L a).length=0)::(a=a)::((aF v1).length=(aF L).length∧(fun i=>[rI IntKind.i64 ((aF v1).getD i [])])=fun i=>[rI IntKind.i64 ((aF L).getD i [])])::((↑(aF v1).length:Int)=(↑(aF L).length:Int))::ty d1::y1) ⟨?_,?_,?_,?_,d1,u1⟩))
 all_goals((try clear u1);(try clear y1))
 all_goals first|exact LP
theorem WN {L:LC}{l:List Int}(h:¬l.length=2):(true:Bool)=!gd L l:=by unfold gd;simp[h]
theorem Uq {L:LC}{l:List Int}(hL:aL L)(hl:bR L.length l)(h:l.length=2):(!gd L l)=(!((at_ L (l.getD 0 0).toNat).dim==1)||(!((at_ L (l.getD 1 0).toNat).dim==1)||!((w6.wrap ((at_ L (l.getD 0 0).toNat).oddity+(at_ L (l.getD 1 0).toNat).oddity)).tmod 4==0))):=by
 match l,h,hl with
 |[a,b],_,hl=>
  have ha:=hl a si
  have hb:=hl b si
  have h1:=(hL.at (k:=a.toNat) om).2.2.2
  have h2:=(hL.at (k:=b.toNat) om).2.2.2
  simp only[List.getD_cons_zero,List.getD_cons_succ]
  rw[wo,gh om]
  unfold gd eC
  simp only[cR,iD,mZ,jZ,List.getD_cons_zero,List.getD_cons_succ,fO,Bool.not_and]
  rw[show((at_ L a.toNat).oddity+((at_ L b.toNat).oddity+0))%8%4=((at_ L a.toNat).oddity+(at_ L b.toNat).oddity)%4 by omega]
theorem PY (p:Int)(L:LC)(l:List Int)(hL:aL L)(hl:bR L.length l)(hn:l.length≤1000):ar Tryz.prog [] 134 [.agg [.int .i64 p,aD L],rI .i64 l] (.bool (!gd L l)):=by
 refine pr c0 Tryz.func134 aC ?_
 refine oe ((↑l.length:Int)==2) (fun d1=>let y1:List Prop:=(let v2:=Int.toNat (1:Int);let v1:=L.getD (l.getD v2 (0:Int)).toNat z0c;[rq (v1.exp),rq (v1.dim),rq (v1.sign),rq (v1.odd),rq (v1.oddity),rq (l.getD v2 (0:Int)),lq L,(0:Int)≤l.getD v2 (0:Int)∧l.getD v2 (0:Int)<↑L.length,(0:Int)≤1∧(1:Int)<↑l.length,(0:Int)≤l.getD (Int.toNat (0:Int)) (0:Int)∧l.getD (Int.toNat (0:Int)) (0:Int)<↑L.length,(0:Int)≤0∧(0:Int)<↑l.length,ty (dN d1)]);have u1:ao y1:=⟨?_,?_,?_,?_,?_,?_,?_,?_,?_,?_,?_,(dN d1)⟩;oe ((L.getD (l.getD (Int.toNat (0:Int)) (0:Int)).toNat z0c).dim==1) (fun d2=>oe ((L.getD (l.getD (Int.toNat (1:Int)) (0:Int)).toNat z0c).dim==1) (fun d3=>lr (tp 222) ((((w6.wrap ((L.getD (l.getD (Int.toNat (0:Int)) (0:Int)).toNat z0c).oddity+(L.getD (l.getD (Int.toNat (1:Int)) (0:Int)).toNat z0c).oddity)).tmod (4:Int)!=(0:Int))=!gd L l)::((4:Int)≠(0:Int))::ty (dN d3)::ty (dN d2)::y1) ⟨?_,?_,(dN d3),(dN d2),u1⟩)
  (fun d3=>lr (tp 221) ((true=!gd L l)::ty (dN d3)::ty (dN d2)::y1) ⟨?_,(dN d3),(dN d2),u1⟩))
  (fun d2=>lr [false,true] ((true=!gd L l)::ty (dN d2)::y1) ⟨?_,(dN d2),u1⟩))
  (fun d1=>lr [true] [true=!gd L l,ty (dN d1)] ⟨?_,(dN d1)⟩)
 all_goals((try clear u1);(try clear y1))
 all_goals first|(first|exact tz|decide|(simp only[ky,show(1:Int).toNat=1 from rfl,b6,bJ,ne_eq]at* <;>first|omega|(have h0:=hl.at (t:=0) om;exact h0)|(have h0:=hl.at (t:=1) om;exact h0)|exact WN om|(rw[Uq hL hl om];simp_all[at_,bne];done)))
def HJ:List bV:=[
 ⟨135,[],fun A=>match A with
  |[.agg [.int .i64 p,.sl n 5 row],.int .i64 a]=>some (rI .i64 (cI (ag n row) a),[(∀i,i<n→row i=(Con.ofR (row i)).rvs)∧dv (ag n row)])
  |_=>none⟩,
 ⟨134,[],fun A=>match A with
  |[.agg [.int .i64 p,.sl n 5 row],.sl m 1 row']=>some (.bool (!gd (ag n row) (b9 m row')),[(∀i,i<n→row i=(Con.ofR (row i)).rvs)∧(∀i,i<m→row' i=[.int .i64 (ge (row' i))])∧aL (ag n row)∧bR (ag n row).length (b9 m row')∧m≤1000])
  |_=>none⟩]
theorem PZ:∀e∈HJ,ch Tryz.prog e:=by
 intro e he
 simp only[HJ,bx,cC,cH]at he
 rcases he with rfl|rfl
 all_goals
  intro A R ms h hm
  simp only at h
  split at h
  all_goals first|exact fF|cases h
 ·obtain⟨h1,h2⟩:=ay hm
  exact ar.imp (PX _ _ _ h2) (.cons (.agg (.cons .same (.cons (.con h1) .nil))) (.cons .same .nil))
 ·obtain⟨h1,h2,h3,h4,h5⟩:=ay hm
  exact ar.imp (PY _ _ _ h3 h4 Cw) (.cons (.agg (.cons .same (.cons (.con h1) .nil))) (.cons (.ints h2) .nil))
theorem Oa (p:Int)(L:LC)(k:Nat)(hL:aL L)(h1:1≤k)(h2:k<L.length):ar Tryz.prog [] 121 [.agg [.int .i64 p,aD L],.int .i64 (k:Int)] (.bool (ft L k)):=by
 have hl:=hL.1;have a1:=hL.e.at' k;have a2:=hL.e.at' (k-1);have em:w6.wrap ((k:Int)-1)=(k:Int)-1:=wo;have et:((k:Int)-1).toNat=k-1:=om;have ed:w6.wrap ((at_ L k).exp-(at_ L (k-1)).exp)=(at_ L k).exp-(at_ L (k-1)).exp:=wo;have hp:=ET (L:=L) (i:=(k:Int))
 refine pr (cE PZ) Tryz.func121 aC ?_
 refine(let y1:List Prop:=(let v1:=L.getD k z0c;[rq (v1.exp),rq (v1.dim),rq (v1.sign),rq (v1.odd),rq (v1.oddity),lq L,(0:Int)≤↑k∧(↑k:Int)<↑L.length,(0:Int)≤w6.wrap ((↑k:Int)-1)∧w6.wrap ((↑k:Int)-1)<↑L.length]);have u1:ao y1:=⟨?_,?_,?_,?_,?_,?_,?_,(?_:(0:Int)≤w6.wrap ((↑k:Int)-1)∧w6.wrap ((↑k:Int)-1)<↑L.length)⟩;oe (w6.wrap ((L.getD k z0c).exp-(L.getD (w6.wrap ((↑k:Int)-1)).toNat z0c).exp)==1) (fun d1=>oe ((L.getD (w6.wrap ((↑k:Int)-1)).toNat z0c).odd) (fun d2=>oe ((L.getD k z0c).odd) (fun d3=>lr (tp 111) (let v1:=ag L.length fun i=>(L.getD i z0c).rvs;let v2:=cI v1 (↑k:Int);let v3:=b9 v2.length fun j=>[RV.int IntKind.i64 (v2.getD j (0:Int))];((!gd v1 v3)=ft L k)::((lz L)∧(∀(i:Nat),i<v2.length→(fun j=>[RV.int IntKind.i64 (v2.getD j (0:Int))]) i=[RV.int IntKind.i64 (ge ((fun j=>[RV.int IntKind.i64 (v2.getD j (0:Int))]) i))])∧aL v1∧bR v1.length v3∧v2.length≤1000)::(p=p)::(lq L)::((lz L)∧dv v1)::ty d3::ty d2::ty d1::y1) ?_)
  (fun d3=>lr (tp 1121) ((true=ft L k)::ty d2::ty d3::ty d2::ty d1::y1) ?_))
  (fun d2=>lr (tp 122) (((L.getD k z0c).odd=ft L k)::ty d2::ty d2::ty d1::y1) ?_))
  (fun d1=>oe (w6.wrap ((L.getD k z0c).exp-(L.getD (w6.wrap ((↑k:Int)-1)).toNat z0c).exp)==2) (fun d2=>oe ((L.getD (w6.wrap ((↑k:Int)-1)).toNat z0c).odd) (fun d3=>lr (tp 211) (((L.getD k z0c).odd=ft L k)::ty d3::ty d2::ty d1::y1) ?_)
  (fun d3=>lr (tp 212) ((false=ft L k)::ty d3::ty d2::ty d1::y1) ?_))
  (fun d2=>lr [false,false] ((false=ft L k)::ty d2::ty d1::y1) ?_)))
 all_goals with_reducible repeat' first|exact dA|refine bk ?_ ?_|refine bm ?_
 all_goals((try clear u1);(try clear y1))
 all_goals first|(first|exact tz|decide|((try simp only[at_,em,et,ed,bn,j5,bt]at*)<;>first|exact tr|trivial|omega|exact⟨fun _ _=>rfl,hL.e⟩|exact⟨fun _ _=>rfl,fun _ _=>rfl,hL,hp.1,om⟩|(simp only[ft,at_, *];done)|(simp_all[ft];done)))
def gl (s:Nat):Nat→List Int
 |0=>[]
 |n+1=>(s:Int)::gl (s+1) n
theorem O5 (s n:Nat):gl s (n+1)=gl s n++[((s+n:Nat):Int)]:=by
 induction n generalizing s with
 |zero=>simp[gl]
 |succ n ih=>
  rw[gl,ih (s+1)]
  show _=(s:Int)::gl (s+1) n++_
  simp only[kx]
  rw[show s+1+n=s+(n+1) by omega]
theorem U5 (s n:Nat):(gl s n).length=n:=by
 induction n generalizing s with
 |zero=>rfl
 |succ n ih=>simp[gl,ih]
theorem vc {s n:Nat}{x:Int}:x∈gl s n↔(s:Int)≤x∧x<((s+n:Nat):Int):=by
 induction n generalizing s with
 |zero=>simp only[gl,cC,gj,false_iff];omega
 |succ n ih=>
  simp only[gl,bx,ih]
  omega
theorem Si {s n t:Nat}(h:t<n):(gl s n).getD t 0=((s+t:Nat):Int):=by
 induction n generalizing s t with
 |zero=>omega
 |succ n ih=>
  cases t with
  |zero=>simp[gl]
  |succ t=>
   simp only[gl,List.getD_cons_succ]
   rw[ih om]
   congr 1;omega
def A9 (b j:Nat→Bool)(l:List Int):Prop:=∃s n,l=gl s (n+1)∧j s=false∧∀t,t≤n→b (s+t)=true∧(0<t→j (s+t)=true)
structure Jz (b j:Nat→Bool)(k:Nat)(a:lQ):Prop where
 rows:∀l∈dH a,A9 b j l
 flat:(dH a).flatten=((List.range k).filter b).map Int.ofNat
 last:∀l,a.2=some l→0<k→b (k-1)=true→∃s n,l=gl s (n+1)∧s+n+1=k
theorem H7 {b j:Nat→Bool}(hj:∀k,j (k+1)=true→b k=true)(h0:j 0=false):∀k,Jz b j k (iK b j k)
 |0=>⟨fun l hl=>by simp[iK,dH]at hl,by simp[iK,dH],fun l hl=>by simp[iK]at hl⟩
 |k+1=>by
  have ih:=H7 hj h0 k
  have ok:=mf b j k
  have e:iK b j (k+1)=gV (b k) (j k) k (iK b j k):=rfl
  rw[e]
  generalize iK b j k=a at ih ok
  obtain⟨F,o⟩:=a
  obtain⟨h1,h2,h3⟩:=ih
  have hr:((List.range (k+1)).filter b).map Int.ofNat=((List.range k).filter b).map Int.ofNat++(if b k=true then [(k:Int)]else []):=by
   rw[n9,List.filter_append,rF]
   congr 1
   by_cases hb:b k=true
   ·simp[hb]
   ·simp[hb]
  cases hb:b k with
  |false=>
   simp only[gV,bg]
   refine⟨h1,by rw[hr,h2,hb];simp,fun l hl _ hbk=>?_⟩
   have:b k=true:=by simpa using hbk
   rw[hb]at this;cases this
  |true=>
   have new:j k=false→A9 b j [(k:Int)]:=fun hjk=>⟨k,0,rfl,hjk,fun t ht=>by
    have:t=0:=by omega
    subst this;exact⟨by simpa using hb,fun h=>om⟩⟩
   have one:∃s n,([(k:Int)]:List Int)=gl s (n+1)∧s+n+1=k+1:=⟨k,0,rfl,rfl⟩
   have nojoin:o=none→j k=false:=by
    intro ho
    cases hjk:j k with
    |false=>rfl
    |true=>
     cases k with
     |zero=>rw[h0]at hjk;cases hjk
     |succ k=>
      have h4:=(ok.none ho).2 k om
      rw[hj k hjk]at h4;cases h4
   cases o with
   |none=>
    have hF:F=[]:=(ok.none rfl).1
    subst hF
    simp only[gV,aM]
    refine⟨fun l hl=>?_,?_,fun l hl _ _=>?_⟩
    ·simp only[dH,pI,dU]at hl
     subst hl;exact new (nojoin rfl)
    ·rw[hr,←h2,hb];simp[dH]
    ·cases hl;exact one
   |some l0=>
    cases hjk:j k with
    |true=>
     simp only[gV,aM]
     have hk:0<k:=by
      rcases kw k with h|h
      ·subst h;rw[h0]at hjk;cases hjk
      ·exact h
     have hbk:b (k-1)=true:=hj (k-1) (by rw[show k-1+1=k by omega];exact hjk)
     obtain⟨s,n,e1,e2⟩:=h3 l0 rfl hk hbk
     obtain⟨s',n',e3,e4,e5⟩:=h1 l0 (by simp[dH])
     have hn:n'=n:=by have:=congrArg List.length (e1.symm.trans e3);simp only[U5]at this;omega
     have hs:s'=s:=by
      have:=e1.symm.trans e3
      simp only[gl,List.cons.injEq]at this
      omega
     subst hn hs
     have e6:l0++[(k:Int)]=gl s' (n'+1+1):=by
      rw[O5 s' (n'+1),←e1,show s'+(n'+1)=k by omega]
     refine⟨fun l hl=>?_,?_,fun l hl _ _=>?_⟩
     ·simp only[dH,dV,dU]at hl
      rcases hl with hl|hl
      ·exact h1 l (by simp[dH,hl])
      ·subst hl
       refine⟨s',n'+1,e6,e4,fun t ht=>?_⟩
       rcases bA t (n'+1)with h|h
       ·exact e5 t om
       ·have:s'+t=k:=by omega
        rw[this];exact⟨hb,fun _=>hjk⟩
     ·rw[hr,←h2,hb];simp[dH]
     ·cases hl;exact⟨s',n'+1,e6,om⟩
    |false=>
     simp only[gV,aM,bg]
     refine⟨fun l hl=>?_,?_,fun l hl _ _=>?_⟩
     ·simp only[dH,dV,dU]at hl
      rcases hl with(hl|hl)|hl
      ·exact h1 l (by simp[dH,hl])
      ·exact h1 l (by simp[dH,hl])
      ·subst hl;exact new hjk
     ·rw[hr,←h2,hb];simp[dH]
     ·cases hl;exact one
theorem zg (L:List Con):Jz (fy L) (eO L) L.length (ga L L.length):=by
 refine H7 (fun k h=>?_) (by simp[eO]) _
 unfold eO at h
 simp only[aX,Nat.add_sub_cancel]at h
 exact h.2.1
theorem yO {x:Int}:∀{l:List Int},fA x l=true↔x∈l
 |[]=>by simp[fA]
 |y::l=>by
  simp only[fA,og,b6,bx,yO (l:=l)]
  constructor
  ·rintro(h|h)
   ·exact .inl h.symm
   ·exact .inr h
  ·rintro(h|h)
   ·exact .inl h.symm
   ·exact .inr h
theorem Dg {x:Int}:∀{P:List (List Int)},x∈P.flatten→eP x P∈P∧x∈eP x P
 |[],h=>by simp at h
 |l::P,h=>by
  simp only[eP]
  cases hl:fA x l with
  |true=>exact⟨si,yO.1 hl⟩
  |false=>
   have:x∈P.flatten:=by
    simp only[List.flatten_cons,dV]at h
    rcases h with h|h
    ·rw[yO.2 h]at hl;cases hl
    ·exact h
   obtain⟨h1,h2⟩:=Dg this
   exact⟨by simp[h1],h2⟩
theorem Py {L:List Con}{i:Nat}:(i:Int)∈(aF L).flatten↔i<L.length∧fy L i=true:=by
 unfold aF
 rw[(zg L).flat]
 simp only[j0,List.mem_filter,jj]
 constructor
 ·rintro⟨k,h1,h2⟩
  have h3:((k:Nat):Int)=(i:Int):=h2
  have:k=i:=by omega
  subst this;exact h1
 ·intro h
  exact⟨i,h,rfl⟩
theorem yl {L:List Con}{i:Nat}(h:i<L.length)(ho:fy L i=true):cI L i∈aF L∧(i:Int)∈cI L i:=Dg (Py.2 ⟨h,ho⟩)
theorem ES {L:List Con}{l:List Int}(h:l∈aF L):A9 (fy L) (eO L) l:=(zg L).rows l h
theorem FN {L:List Con}{i:Nat}(h:i<L.length)(ho:fy L i=true):∃s n t,cI L i=gl s (n+1)∧i=s+t∧t≤n∧eO L s=false∧∀u,u≤n→fy L (s+u)=true∧(0<u→eO L (s+u)=true):=by
 obtain⟨h1,h2⟩:=yl h ho
 obtain⟨s,n,e,hs,hr⟩:=ES h1
 rw[e,vc]at h2
 exact⟨s,n,i-s,e,om,om,hs,hr⟩
theorem Dh {L:List Con}{i:Nat}(h:i<L.length)(ho:fy L i=true):(cI L i).getD 0 0=(i:Int)↔eO L i=false:=by
 obtain⟨s,n,t,e,h1,h2,h3,h4⟩:=FN h ho
 rw[e,Si om,gj]
 constructor
 ·intro h5
  have:i=s:=by omega
  rw[this];exact h3
 ·intro h5
  rcases kw t with h6|h6
  ·subst h6;rw[h1];simp
  ·have:=(h4 t h2).2 h6
   rw[←h1,h5]at this;cases this
theorem Ol (L:List Con):(aF L).flatten.Nodup:=by
 unfold aF
 rw[(zg L).flat]
 refine List.Pairwise.map _ (fun a b h=>?_) (List.nodup_range.filter _)
 intro e
 exact h (Int.ofNat.inj e)
end Go.Proofs.YtmeljalphfcieaaGreatDoor.S
namespace Go.Proofs.YtmeljalphfcieaaGreatDoor.S
section
open Go.QfSy Go.RowKit
end
section
open Go.QfSy Go.RowKit
end
section
open Go.QfSy Go.RowKit
end
end Go.Proofs.YtmeljalphfcieaaGreatDoor.S
namespace Go.Proofs.YtmeljalphfcieaaGreatDoor.S
open Go.QfSy Go.RowKit
noncomputable def cp (e d s:Int)(o:Bool)(t:Int):Bool:=(bif decide (e<0)then false else(bif decide (e>60)then false else(bif decide (d<1)then false else(bif decide (d>8)then false else(bif s==1 then(bif decide (t<0)then false else(bif decide (t>7)then false else(bif o then(bif(w6.wrap (t-d)).tmod (2:Int)==0 then(bif d==1 then(bif t==1 then true else(t==7))else(bif d==2 then(t !=(4:Int))else true))else false)else(bif d.tmod (2:Int)==0 then(t==0)else false))))else(bif s==-1 then(bif decide (t<0)then false else(bif decide (t>7)then false else(bif o then(bif(w6.wrap (t-d)).tmod (2:Int)==0 then(bif d==1 then(bif t==3 then true else(t==5))else(bif d==2 then(t !=(0:Int))else true))else false)else(bif d.tmod (2:Int)==0 then(t==0)else false))))else false))))))
theorem Wr (e d s:Int)(o:Bool)(t:Int):ar Tryz.prog [] 118 [.agg (Con.mk e d s o t).rvs] (.bool (cp e d s o t)):=by
 refine pr c0 Tryz.func118 aC ?_
 refine oe (decide (e<0)) (fun d1=>lr [true] [false=cp e d s o t,ty d1] ⟨(((ct d1).trans rfl):cp e d s o t=_).symm,d1⟩)
  (fun d1=>let y1:List Prop:=[ty d1];have u1:ao y1:=d1;oe (decide (e>60)) (fun d2=>lr [false,true] ((false=cp e d s o t)::ty d2::y1) ⟨(((cf d1).trans ((ct d2).trans rfl)):cp e d s o t=_).symm,d2,u1⟩)
  (fun d2=>let y2:List Prop:=ty d2::y1;have u2:ao y2:=⟨d2,u1⟩;oe (decide (d<1)) (fun d3=>lr (tp 221) ((false=cp e d s o t)::ty d3::y2) ⟨(((cf d1).trans ((cf d2).trans ((ct d3).trans rfl))):cp e d s o t=_).symm,d3,u2⟩)
  (fun d3=>let y3:List Prop:=ty d3::y2;have u3:ao y3:=⟨d3,u2⟩;oe (decide (d>8)) (fun d4=>lr (tp 2221) ((false=cp e d s o t)::ty d4::y3) ⟨(((cf d1).trans ((cf d2).trans ((cf d3).trans ((ct d4).trans rfl)))):cp e d s o t=_).symm,d4,u3⟩)
  (fun d4=>let y4:List Prop:=ty d4::y3;have u4:ao y4:=⟨d4,u3⟩;oe (s==1) (fun d5=>let y5:List Prop:=ty (dN d5)::y4;have u5:ao y5:=⟨(dN d5),u4⟩;oe (decide (t<0)) (fun d6=>lr (tp 222221) ((false=cp e d s o t)::ty d6::y5) ⟨(((cf d1).trans ((cf d2).trans ((cf d3).trans ((cf d4).trans ((ct d5).trans ((ct d6).trans rfl)))))):cp e d s o t=_).symm,d6,u5⟩)
  (fun d6=>let y6:List Prop:=ty d6::y5;have u6:ao y6:=⟨d6,u5⟩;oe (decide (t>7)) (fun d7=>lr (tp 2222221) ((false=cp e d s o t)::ty d7::y6) ⟨(((cf d1).trans ((cf d2).trans ((cf d3).trans ((cf d4).trans ((ct d5).trans ((cf d6).trans ((ct d7).trans rfl))))))):cp e d s o t=_).symm,d7,u6⟩)
  (fun d7=>oe (o) (fun d8=>let y7:List Prop:=((2:Int)≠(0:Int))::ty (dN d8)::ty d7::y6;have u7:ao y7:=⟨?_,(dN d8),d7,u6⟩;oe ((w6.wrap (t-d)).tmod (2:Int)==0) (fun d9=>oe (d==1) (fun d10=>oe (t==1) (fun d11=>lr (tp 222222222111) ((true=cp e d s o t)::ty d11::ty d5::ty d10::ty (dN d9)::y7) ⟨(((cf d1).trans ((cf d2).trans ((cf d3).trans ((cf d4).trans ((ct d5).trans ((cf d6).trans ((cf d7).trans ((ct d8).trans ((ct d9).trans ((ct d10).trans ((ct d11).trans rfl))))))))))):cp e d s o t=_).symm,d11,d5,d10,(dN d9),u7⟩)
  (fun d11=>lr (tp 222222222112) (((t==7)=cp e d s o t)::ty d11::ty d5::ty d10::ty (dN d9)::y7) ⟨(((cf d1).trans ((cf d2).trans ((cf d3).trans ((cf d4).trans ((ct d5).trans ((cf d6).trans ((cf d7).trans ((ct d8).trans ((ct d9).trans ((ct d10).trans ((cf d11).trans rfl))))))))))):cp e d s o t=_).symm,d11,d5,d10,(dN d9),u7⟩))
  (fun d10=>oe (d==2) (fun d11=>lr (tp 2222222222211) (((t !=(4:Int))=cp e d s o t)::ty d5::ty d11::ty d10::ty d10::ty (dN d9)::y7) ⟨(((cf d1).trans ((cf d2).trans ((cf d3).trans ((cf d4).trans ((ct d5).trans ((cf d6).trans ((cf d7).trans ((ct d8).trans ((ct d9).trans ((cf d10).trans ((ct d11).trans rfl))))))))))):cp e d s o t=_).symm,d5,d11,d10,d10,(dN d9),u7⟩)
  (fun d11=>lr (tp 2222222222222) ((true=cp e d s o t)::ty d11::ty d11::ty d10::ty d10::ty (dN d9)::y7) ⟨(((cf d1).trans ((cf d2).trans ((cf d3).trans ((cf d4).trans ((ct d5).trans ((cf d6).trans ((cf d7).trans ((ct d8).trans ((ct d9).trans ((cf d10).trans ((cf d11).trans rfl))))))))))):cp e d s o t=_).symm,d11,d11,d10,d10,(dN d9),u7⟩)))
  (fun d9=>lr (tp 222222221) ((false=cp e d s o t)::ty (dN d9)::y7) ⟨(((cf d1).trans ((cf d2).trans ((cf d3).trans ((cf d4).trans ((ct d5).trans ((cf d6).trans ((cf d7).trans ((ct d8).trans ((cf d9).trans rfl))))))))):cp e d s o t=_).symm,(dN d9),u7⟩))
  (fun d8=>oe (d.tmod (2:Int)==0) (fun d9=>lr (tp 222222211) (((t==0)=cp e d s o t)::ty d9::((2:Int)≠(0:Int))::ty (dN d8)::ty d7::y6) ⟨(((cf d1).trans ((cf d2).trans ((cf d3).trans ((cf d4).trans ((ct d5).trans ((cf d6).trans ((cf d7).trans ((cf d8).trans ((ct d9).trans rfl))))))))):cp e d s o t=_).symm,d9,?_,(dN d8),d7,u6⟩)
  (fun d9=>lr (tp 222222212) ((false=cp e d s o t)::ty d9::((2:Int)≠(0:Int))::ty (dN d8)::ty d7::y6) ⟨(((cf d1).trans ((cf d2).trans ((cf d3).trans ((cf d4).trans ((ct d5).trans ((cf d6).trans ((cf d7).trans ((cf d8).trans ((cf d9).trans rfl))))))))):cp e d s o t=_).symm,d9,?_,(dN d8),d7,u6⟩)))))
  (fun d5=>let y5:List Prop:=ty (dN d5)::y4;have u5:ao y5:=⟨(dN d5),u4⟩;oe (s==-1) (fun d6=>let y6:List Prop:=ty (dN d6)::y5;have u6:ao y6:=⟨(dN d6),u5⟩;oe (decide (t<0)) (fun d7=>lr (tp 2222121) ((false=cp e d s o t)::ty d7::y6) ⟨(((cf d1).trans ((cf d2).trans ((cf d3).trans ((cf d4).trans ((cf d5).trans ((ct d6).trans ((ct d7).trans rfl))))))):cp e d s o t=_).symm,d7,u6⟩)
  (fun d7=>let y7:List Prop:=ty d7::y6;have u7:ao y7:=⟨d7,u6⟩;oe (decide (t>7)) (fun d8=>lr (tp 22221221) ((false=cp e d s o t)::ty d8::y7) ⟨(((cf d1).trans ((cf d2).trans ((cf d3).trans ((cf d4).trans ((cf d5).trans ((ct d6).trans ((cf d7).trans ((ct d8).trans rfl)))))))):cp e d s o t=_).symm,d8,u7⟩)
  (fun d8=>oe (o) (fun d9=>let y8:List Prop:=((2:Int)≠(0:Int))::ty (dN d9)::ty d8::y7;have u8:ao y8:=⟨?_,(dN d9),d8,u7⟩;oe ((w6.wrap (t-d)).tmod (2:Int)==0) (fun d10=>oe (d==1) (fun d11=>oe (t==3) (fun d12=>lr (tp 22221222221211) ((true=cp e d s o t)::ty d12::ty d11::ty d5::ty d11::ty (dN d10)::y8) ⟨(((cf d1).trans ((cf d2).trans ((cf d3).trans ((cf d4).trans ((cf d5).trans ((ct d6).trans ((cf d7).trans ((cf d8).trans ((ct d9).trans ((ct d10).trans ((ct d11).trans ((ct d12).trans rfl)))))))))))):cp e d s o t=_).symm,d12,d11,d5,d11,(dN d10),u8⟩)
  (fun d12=>lr (tp 22221222221212) (((t==5)=cp e d s o t)::ty d12::ty d11::ty d5::ty d11::ty (dN d10)::y8) ⟨(((cf d1).trans ((cf d2).trans ((cf d3).trans ((cf d4).trans ((cf d5).trans ((ct d6).trans ((cf d7).trans ((cf d8).trans ((ct d9).trans ((ct d10).trans ((ct d11).trans ((cf d12).trans rfl)))))))))))):cp e d s o t=_).symm,d12,d11,d5,d11,(dN d10),u8⟩))
  (fun d11=>oe (d==2) (fun d12=>lr (tp 222212222222121) (((t !=(0:Int))=cp e d s o t)::ty d12::ty d5::ty d12::ty d11::ty d11::ty (dN d10)::y8) ⟨(((cf d1).trans ((cf d2).trans ((cf d3).trans ((cf d4).trans ((cf d5).trans ((ct d6).trans ((cf d7).trans ((cf d8).trans ((ct d9).trans ((ct d10).trans ((cf d11).trans ((ct d12).trans rfl)))))))))))):cp e d s o t=_).symm,d12,d5,d12,d11,d11,(dN d10),u8⟩)
  (fun d12=>lr (tp 22221222222222) ((true=cp e d s o t)::ty d12::ty d12::ty d11::ty d11::ty (dN d10)::y8) ⟨(((cf d1).trans ((cf d2).trans ((cf d3).trans ((cf d4).trans ((cf d5).trans ((ct d6).trans ((cf d7).trans ((cf d8).trans ((ct d9).trans ((ct d10).trans ((cf d11).trans ((cf d12).trans rfl)))))))))))):cp e d s o t=_).symm,d12,d12,d11,d11,(dN d10),u8⟩)))
  (fun d10=>lr (tp 2222122221) ((false=cp e d s o t)::ty (dN d10)::y8) ⟨(((cf d1).trans ((cf d2).trans ((cf d3).trans ((cf d4).trans ((cf d5).trans ((ct d6).trans ((cf d7).trans ((cf d8).trans ((ct d9).trans ((cf d10).trans rfl)))))))))):cp e d s o t=_).symm,(dN d10),u8⟩))
  (fun d9=>oe (d.tmod (2:Int)==0) (fun d10=>lr (tp 2222122211) (((t==0)=cp e d s o t)::ty d10::((2:Int)≠(0:Int))::ty (dN d9)::ty d8::y7) ⟨(((cf d1).trans ((cf d2).trans ((cf d3).trans ((cf d4).trans ((cf d5).trans ((ct d6).trans ((cf d7).trans ((cf d8).trans ((cf d9).trans ((ct d10).trans rfl)))))))))):cp e d s o t=_).symm,d10,?_,(dN d9),d8,u7⟩)
  (fun d10=>lr (tp 2222122212) ((false=cp e d s o t)::ty d10::((2:Int)≠(0:Int))::ty (dN d9)::ty d8::y7) ⟨(((cf d1).trans ((cf d2).trans ((cf d3).trans ((cf d4).trans ((cf d5).trans ((ct d6).trans ((cf d7).trans ((cf d8).trans ((cf d9).trans ((cf d10).trans rfl)))))))))):cp e d s o t=_).symm,d10,?_,(dN d9),d8,u7⟩)))))
  (fun d6=>lr (tp 222211) ((false=cp e d s o t)::ty (dN d6)::y5) ⟨(((cf d1).trans ((cf d2).trans ((cf d3).trans ((cf d4).trans ((cf d5).trans ((cf d6).trans rfl)))))):cp e d s o t=_).symm,(dN d6),u5⟩))))))
 all_goals first|(decide)
noncomputable def cd (e d s:Int)(o:Bool)(t:Int):Bool:=(bif decide (e<0)then false else(bif decide (e>60)then false else(bif decide (d<1)then false else(bif decide (d>8)then false else(bif s==1 then(bif decide (t<0)then false else(bif decide (t>7)then false else(bif o then(bif(w6.wrap (t-d)).tmod (2:Int)==0 then(bif d==1 then(bif t==1 then true else(t==7))else(bif d==2 then(t !=(4:Int))else true))else false)else(bif d.tmod (2:Int)==0 then(t==0)else false))))else(bif s==-1 then(bif decide (t<0)then false else(bif decide (t>7)then false else(bif o then(bif(w6.wrap (t-d)).tmod (2:Int)==0 then(bif d==1 then(bif t==3 then true else(t==5))else(bif d==2 then(t !=(0:Int))else true))else false)else(bif d.tmod (2:Int)==0 then(t==0)else false))))else false))))))
theorem Ws (e d s:Int)(o:Bool)(t:Int):ar Tryz.prog [] 132 [.agg (Con.mk e d s o t).rvs] (.bool (cd e d s o t)):=by
 refine pr c0 Tryz.func132 aC ?_
 refine oe (decide (e<0)) (fun d1=>lr [true] [false=cd e d s o t,ty d1] ⟨(((ct d1).trans rfl):cd e d s o t=_).symm,d1⟩)
  (fun d1=>let y1:List Prop:=[ty d1];have u1:ao y1:=d1;oe (decide (e>60)) (fun d2=>lr [false,true] ((false=cd e d s o t)::ty d2::y1) ⟨(((cf d1).trans ((ct d2).trans rfl)):cd e d s o t=_).symm,d2,u1⟩)
  (fun d2=>let y2:List Prop:=ty d2::y1;have u2:ao y2:=⟨d2,u1⟩;oe (decide (d<1)) (fun d3=>lr (tp 221) ((false=cd e d s o t)::ty d3::y2) ⟨(((cf d1).trans ((cf d2).trans ((ct d3).trans rfl))):cd e d s o t=_).symm,d3,u2⟩)
  (fun d3=>let y3:List Prop:=ty d3::y2;have u3:ao y3:=⟨d3,u2⟩;oe (decide (d>8)) (fun d4=>lr (tp 2221) ((false=cd e d s o t)::ty d4::y3) ⟨(((cf d1).trans ((cf d2).trans ((cf d3).trans ((ct d4).trans rfl)))):cd e d s o t=_).symm,d4,u3⟩)
  (fun d4=>let y4:List Prop:=ty d4::y3;have u4:ao y4:=⟨d4,u3⟩;oe (s==1) (fun d5=>let y5:List Prop:=ty (dN d5)::y4;have u5:ao y5:=⟨(dN d5),u4⟩;oe (decide (t<0)) (fun d6=>lr (tp 222221) ((false=cd e d s o t)::ty d6::y5) ⟨(((cf d1).trans ((cf d2).trans ((cf d3).trans ((cf d4).trans ((ct d5).trans ((ct d6).trans rfl)))))):cd e d s o t=_).symm,d6,u5⟩)
  (fun d6=>let y6:List Prop:=ty d6::y5;have u6:ao y6:=⟨d6,u5⟩;oe (decide (t>7)) (fun d7=>lr (tp 2222221) ((false=cd e d s o t)::ty d7::y6) ⟨(((cf d1).trans ((cf d2).trans ((cf d3).trans ((cf d4).trans ((ct d5).trans ((cf d6).trans ((ct d7).trans rfl))))))):cd e d s o t=_).symm,d7,u6⟩)
  (fun d7=>oe (o) (fun d8=>let y7:List Prop:=((2:Int)≠(0:Int))::ty (dN d8)::ty d7::y6;have u7:ao y7:=⟨?_,(dN d8),d7,u6⟩;oe ((w6.wrap (t-d)).tmod (2:Int)==0) (fun d9=>oe (d==1) (fun d10=>oe (t==1) (fun d11=>lr (tp 222222222111) ((true=cd e d s o t)::ty d11::ty d5::ty d10::ty (dN d9)::y7) ⟨(((cf d1).trans ((cf d2).trans ((cf d3).trans ((cf d4).trans ((ct d5).trans ((cf d6).trans ((cf d7).trans ((ct d8).trans ((ct d9).trans ((ct d10).trans ((ct d11).trans rfl))))))))))):cd e d s o t=_).symm,d11,d5,d10,(dN d9),u7⟩)
  (fun d11=>lr (tp 222222222112) (((t==7)=cd e d s o t)::ty d11::ty d5::ty d10::ty (dN d9)::y7) ⟨(((cf d1).trans ((cf d2).trans ((cf d3).trans ((cf d4).trans ((ct d5).trans ((cf d6).trans ((cf d7).trans ((ct d8).trans ((ct d9).trans ((ct d10).trans ((cf d11).trans rfl))))))))))):cd e d s o t=_).symm,d11,d5,d10,(dN d9),u7⟩))
  (fun d10=>oe (d==2) (fun d11=>lr (tp 2222222222211) (((t !=(4:Int))=cd e d s o t)::ty d5::ty d11::ty d10::ty d10::ty (dN d9)::y7) ⟨(((cf d1).trans ((cf d2).trans ((cf d3).trans ((cf d4).trans ((ct d5).trans ((cf d6).trans ((cf d7).trans ((ct d8).trans ((ct d9).trans ((cf d10).trans ((ct d11).trans rfl))))))))))):cd e d s o t=_).symm,d5,d11,d10,d10,(dN d9),u7⟩)
  (fun d11=>lr (tp 2222222222222) ((true=cd e d s o t)::ty d11::ty d11::ty d10::ty d10::ty (dN d9)::y7) ⟨(((cf d1).trans ((cf d2).trans ((cf d3).trans ((cf d4).trans ((ct d5).trans ((cf d6).trans ((cf d7).trans ((ct d8).trans ((ct d9).trans ((cf d10).trans ((cf d11).trans rfl))))))))))):cd e d s o t=_).symm,d11,d11,d10,d10,(dN d9),u7⟩)))
  (fun d9=>lr (tp 222222221) ((false=cd e d s o t)::ty (dN d9)::y7) ⟨(((cf d1).trans ((cf d2).trans ((cf d3).trans ((cf d4).trans ((ct d5).trans ((cf d6).trans ((cf d7).trans ((ct d8).trans ((cf d9).trans rfl))))))))):cd e d s o t=_).symm,(dN d9),u7⟩))
  (fun d8=>oe (d.tmod (2:Int)==0) (fun d9=>lr (tp 222222211) (((t==0)=cd e d s o t)::ty d9::((2:Int)≠(0:Int))::ty (dN d8)::ty d7::y6) ⟨(((cf d1).trans ((cf d2).trans ((cf d3).trans ((cf d4).trans ((ct d5).trans ((cf d6).trans ((cf d7).trans ((cf d8).trans ((ct d9).trans rfl))))))))):cd e d s o t=_).symm,d9,?_,(dN d8),d7,u6⟩)
  (fun d9=>lr (tp 222222212) ((false=cd e d s o t)::ty d9::((2:Int)≠(0:Int))::ty (dN d8)::ty d7::y6) ⟨(((cf d1).trans ((cf d2).trans ((cf d3).trans ((cf d4).trans ((ct d5).trans ((cf d6).trans ((cf d7).trans ((cf d8).trans ((cf d9).trans rfl))))))))):cd e d s o t=_).symm,d9,?_,(dN d8),d7,u6⟩)))))
  (fun d5=>let y5:List Prop:=ty (dN d5)::y4;have u5:ao y5:=⟨(dN d5),u4⟩;oe (s==-1) (fun d6=>let y6:List Prop:=ty (dN d6)::y5;have u6:ao y6:=⟨(dN d6),u5⟩;oe (decide (t<0)) (fun d7=>lr (tp 2222121) ((false=cd e d s o t)::ty d7::y6) ⟨(((cf d1).trans ((cf d2).trans ((cf d3).trans ((cf d4).trans ((cf d5).trans ((ct d6).trans ((ct d7).trans rfl))))))):cd e d s o t=_).symm,d7,u6⟩)
  (fun d7=>let y7:List Prop:=ty d7::y6;have u7:ao y7:=⟨d7,u6⟩;oe (decide (t>7)) (fun d8=>lr (tp 22221221) ((false=cd e d s o t)::ty d8::y7) ⟨(((cf d1).trans ((cf d2).trans ((cf d3).trans ((cf d4).trans ((cf d5).trans ((ct d6).trans ((cf d7).trans ((ct d8).trans rfl)))))))):cd e d s o t=_).symm,d8,u7⟩)
  (fun d8=>oe (o) (fun d9=>let y8:List Prop:=((2:Int)≠(0:Int))::ty (dN d9)::ty d8::y7;have u8:ao y8:=⟨?_,(dN d9),d8,u7⟩;oe ((w6.wrap (t-d)).tmod (2:Int)==0) (fun d10=>oe (d==1) (fun d11=>oe (t==3) (fun d12=>lr (tp 22221222221211) ((true=cd e d s o t)::ty d12::ty d11::ty d5::ty d11::ty (dN d10)::y8) ⟨(((cf d1).trans ((cf d2).trans ((cf d3).trans ((cf d4).trans ((cf d5).trans ((ct d6).trans ((cf d7).trans ((cf d8).trans ((ct d9).trans ((ct d10).trans ((ct d11).trans ((ct d12).trans rfl)))))))))))):cd e d s o t=_).symm,d12,d11,d5,d11,(dN d10),u8⟩)
  (fun d12=>lr (tp 22221222221212) (((t==5)=cd e d s o t)::ty d12::ty d11::ty d5::ty d11::ty (dN d10)::y8) ⟨(((cf d1).trans ((cf d2).trans ((cf d3).trans ((cf d4).trans ((cf d5).trans ((ct d6).trans ((cf d7).trans ((cf d8).trans ((ct d9).trans ((ct d10).trans ((ct d11).trans ((cf d12).trans rfl)))))))))))):cd e d s o t=_).symm,d12,d11,d5,d11,(dN d10),u8⟩))
  (fun d11=>oe (d==2) (fun d12=>lr (tp 222212222222121) (((t !=(0:Int))=cd e d s o t)::ty d12::ty d5::ty d12::ty d11::ty d11::ty (dN d10)::y8) ⟨(((cf d1).trans ((cf d2).trans ((cf d3).trans ((cf d4).trans ((cf d5).trans ((ct d6).trans ((cf d7).trans ((cf d8).trans ((ct d9).trans ((ct d10).trans ((cf d11).trans ((ct d12).trans rfl)))))))))))):cd e d s o t=_).symm,d12,d5,d12,d11,d11,(dN d10),u8⟩)
  (fun d12=>lr (tp 22221222222222) ((true=cd e d s o t)::ty d12::ty d12::ty d11::ty d11::ty (dN d10)::y8) ⟨(((cf d1).trans ((cf d2).trans ((cf d3).trans ((cf d4).trans ((cf d5).trans ((ct d6).trans ((cf d7).trans ((cf d8).trans ((ct d9).trans ((ct d10).trans ((cf d11).trans ((cf d12).trans rfl)))))))))))):cd e d s o t=_).symm,d12,d12,d11,d11,(dN d10),u8⟩)))
  (fun d10=>lr (tp 2222122221) ((false=cd e d s o t)::ty (dN d10)::y8) ⟨(((cf d1).trans ((cf d2).trans ((cf d3).trans ((cf d4).trans ((cf d5).trans ((ct d6).trans ((cf d7).trans ((cf d8).trans ((ct d9).trans ((cf d10).trans rfl)))))))))):cd e d s o t=_).symm,(dN d10),u8⟩))
  (fun d9=>oe (d.tmod (2:Int)==0) (fun d10=>lr (tp 2222122211) (((t==0)=cd e d s o t)::ty d10::((2:Int)≠(0:Int))::ty (dN d9)::ty d8::y7) ⟨(((cf d1).trans ((cf d2).trans ((cf d3).trans ((cf d4).trans ((cf d5).trans ((ct d6).trans ((cf d7).trans ((cf d8).trans ((cf d9).trans ((ct d10).trans rfl)))))))))):cd e d s o t=_).symm,d10,?_,(dN d9),d8,u7⟩)
  (fun d10=>lr (tp 2222122212) ((false=cd e d s o t)::ty d10::((2:Int)≠(0:Int))::ty (dN d9)::ty d8::y7) ⟨(((cf d1).trans ((cf d2).trans ((cf d3).trans ((cf d4).trans ((cf d5).trans ((ct d6).trans ((cf d7).trans ((cf d8).trans ((cf d9).trans ((cf d10).trans rfl)))))))))):cd e d s o t=_).symm,d10,?_,(dN d9),d8,u7⟩)))))
  (fun d6=>lr (tp 222211) ((false=cd e d s o t)::ty (dN d6)::y5) ⟨(((cf d1).trans ((cf d2).trans ((cf d3).trans ((cf d4).trans ((cf d5).trans ((cf d6).trans rfl)))))):cd e d s o t=_).symm,(dN d6),u5⟩))))))
 all_goals first|(decide)
def V7 (L:LC):aA:=⟨⟨[(0,(aD L).av),(3,.int .i64 0),(6,(aD L).av),(7,vi L.length),(8,.int .i64 0)],[],1000⟩,some (gF L (-1) 0),fun d=>match d with
 |true=>(.exit 0,⟨[(3,vi (dB L))],[],1000⟩)
 |false=>(.ret,⟨[(2,.bool false)],[],1000⟩)⟩
theorem OP (L:LC)(hn:L.length≤1000000):An 1 Tryz.f127 [0,1,0,1,1] (V7 L):=by
 refine ea c0 aC (u2 fun(k:Nat)(s:Int)=>(⟨[(0,(aD L).av),(3,vi s),(6,(aD L).av),(7,vi L.length),(8,vi k)],[],1000⟩:St)) (u2 fun(k:Nat)(s:Int)=>(L.length-k:Nat)) (fun(d:Bool)=>u2 fun(k:Nat)(s:Int)=>(k≤L.length∧0≤s∧s≤8∧s=dB (L.take k)∧gF (L.drop k) (lm L k) s=d:Prop)) ?_ ?_
 ·intro d hd
  exact st (0,0) [lq L,rq (0:Int),lq L,rq (↑L.length:Int),(0:Int)=↑(0:Nat)] xi (by exact⟨aY _,de,de,rfl,hd⟩)
 ·rintro d hd ⟨k,s⟩ hI
  obtain⟨hk,hs0,hs8,hsum,hord⟩:=hI
  have e8:w6.wrap ((8:Int)-s)=8-s:=wo
  have ek:=wk k
  have em:w6.wrap ((k:Int)-1)=(k:Int)-1:=wo
  have et:((k:Int)-1).toNat=k-1:=by omega
  have hiff:=@SI L k s
  refine(let q1:List Prop→List Prop:=fun l0=>(lq L)::(w6.wrap (s+(L.getD k z0c).dim)=s+(at_ L k).dim)::(lq L)::rq (↑L.length:Int)::(w6.wrap ((↑k:Int)+1)=↑(k+1))::l0;oe (decide ((↑k:Int)<↑L.length)) (fun d1=>let y1:List Prop:=[(0:Int)≤↑k∧(↑k:Int)<↑L.length,ty d1];have u1:ao y1:=⟨?_,d1⟩;oe (decide ((L.getD k z0c).exp<0)) (fun d2=>aG d false [true,true] (ty d2::y1) ⟨d2,u1⟩ ?_)
   (fun d2=>let y2:List Prop:=ty d2::y1;have u2:ao y2:=⟨d2,u1⟩;oe (decide ((L.getD k z0c).exp>60)) (fun d3=>aG d false (tp 121) (ty d3::y2) ⟨d3,u2⟩ ?_)
   (fun d3=>let y3:List Prop:=ty d3::y2;have u3:ao y3:=⟨d3,u2⟩;oe (decide ((↑k:Int)>0)) (fun d4=>let y4:List Prop:=((0:Int)≤w6.wrap ((↑k:Int)-1)∧w6.wrap ((↑k:Int)-1)<↑L.length)::ty d4::y3;have u4:ao y4:=⟨?_,d4,u3⟩;oe (decide ((L.getD k z0c).exp≤(L.getD (w6.wrap ((↑k:Int)-1)).toNat z0c).exp)) (fun d5=>aG d false (tp 12211) (ty d5::y4) ⟨d5,u4⟩ ?_)
   (fun d5=>oe ((L.getD k z0c).sign==1) (fun d6=>oe (decide ((L.getD k z0c).dim<1)) (fun d7=>aG d false (tp 1221221) (ty d7::ty (dN d6)::ty d5::y4) ⟨d7,(dN d6),d5,u4⟩ ?_)
   (fun d7=>oe (decide ((L.getD k z0c).dim>w6.wrap ((8:Int)-s))) (fun d8=>aG d false (tp 12212221) (ty d8::ty d7::ty (dN d6)::ty d5::y4) ⟨d8,d7,(dN d6),d5,u4⟩ ?_)
   (fun d8=>aq (tp 12212222) (k+1,s+(at_ L k).dim) (q1 (ty d8::ty d7::ty (dN d6)::ty d5::y4)) ?_ ?_ ?_)))
   (fun d6=>let y5:List Prop:=ty (dN d6)::ty d5::y4;have u5:ao y5:=⟨(dN d6),d5,u4⟩;oe ((L.getD k z0c).sign==-1) (fun d7=>oe (decide ((L.getD k z0c).dim<1)) (fun d8=>aG d false (tp 12212121) (ty d8::ty (dN d7)::y5) ⟨d8,(dN d7),u5⟩ ?_)
   (fun d8=>oe (decide ((L.getD k z0c).dim>w6.wrap ((8:Int)-s))) (fun d9=>aG d false (tp 122121221) (ty d9::ty d8::ty (dN d7)::y5) ⟨d9,d8,(dN d7),u5⟩ ?_)
   (fun d9=>aq (tp 122121222) (k+1,s+(at_ L k).dim) (q1 (ty d9::ty d8::ty (dN d7)::y5)) ?_ ?_ ?_)))
   (fun d7=>aG d false (tp 1221211) (ty (dN d7)::y5) ⟨(dN d7),u5⟩ ?_))))
   (fun d4=>oe ((L.getD k z0c).sign==1) (fun d5=>oe (decide ((L.getD k z0c).dim<1)) (fun d6=>aG d false (tp 122221) (ty d6::ty (dN d5)::ty d4::y3) ⟨d6,(dN d5),d4,u3⟩ ?_)
   (fun d6=>oe (decide ((L.getD k z0c).dim>w6.wrap ((8:Int)-s))) (fun d7=>aG d false (tp 1222221) (ty d7::ty d6::ty (dN d5)::ty d4::y3) ⟨d7,d6,(dN d5),d4,u3⟩ ?_)
   (fun d7=>aq (tp 1222222) (k+1,s+(at_ L k).dim) (q1 (ty d7::ty d6::ty (dN d5)::ty d4::y3)) ?_ ?_ ?_)))
   (fun d5=>let y4:List Prop:=ty (dN d5)::ty d4::y3;have u4:ao y4:=⟨(dN d5),d4,u3⟩;oe ((L.getD k z0c).sign==-1) (fun d6=>oe (decide ((L.getD k z0c).dim<1)) (fun d7=>aG d false (tp 1222121) (ty d7::ty (dN d6)::y4) ⟨d7,(dN d6),u4⟩ ?_)
   (fun d7=>oe (decide ((L.getD k z0c).dim>w6.wrap ((8:Int)-s))) (fun d8=>aG d false (tp 12221221) (ty d8::ty d7::ty (dN d6)::y4) ⟨d8,d7,(dN d6),u4⟩ ?_)
   (fun d8=>aq (tp 12221222) (k+1,s+(at_ L k).dim) (q1 (ty d8::ty d7::ty (dN d6)::y4)) ?_ ?_ ?_)))
   (fun d6=>aG d false (tp 122211) (ty (dN d6)::y4) ⟨(dN d6),u4⟩ ?_))))))
   (fun d1=>aG d true [false] [s=dB L,ty d1] ⟨?_,d1⟩ ?_))
  all_goals with_reducible repeat' first|exact dA|refine bk ?_ ?_|refine bm ?_
  all_goals((try clear u5);(try clear y5);(try clear u4);(try clear y4);(try clear u3);(try clear y3);(try clear u2);(try clear y2);(try clear u1);(try clear y1))
  all_goals first|(refine cy.mk ?_;(simp only[dT]at d1;show L.length-(k+1)<L.length-k;omega))|(refine bD.mk ?_;(simp only[at_,e8,em,et,dT,dF,bt,b6,bJ,ne_eq]at*;have hlt:k<L.length:=om;have ho:=hiff.2 (by refine⟨?_,?_,?_,?_,?_,?_⟩<;>omega);exact⟨om,om,om,by rw[O9 hlt,hsum],by rw[Qx hlt ho,hord]⟩))|(refine dq.mk ?_;cases d<;>first|rfl|(exfalso;(simp only[at_,e8,em,et,dT,dF,bt,b6,bJ,ne_eq]at*;first|(have:=SH (L:=L) (k:=k) om (lm L k) s;simp_all;done)|(have hlt:k<L.length:=om;rw[nh hlt]at hord;simp only[gF,aX]at hord;have:=hiff.1 hord.1;omega))))|(first|rfl|exact⟨rfl,rfl⟩|(simp only[at_,e8,em,ek,et,dT,dF,bt]at* <;>first|omega|(rw[wo])|(rw[hsum];exact Qy om)))
theorem Df (L:LC)(hn:L.length≤1000000):ar Tryz.prog [] 127 [aD L] (.bool (ef L)):=by
 refine pr c0 Tryz.func127 (aW (OP L hn)) ?_
 refine oe (gF L (-1:Int) (0:Int)) (fun d1=>lr [true] [decide (dB L>0)=ef L,lq L,lq L,rq (↑L.length:Int),ty d1] ⟨?_,?_,?_,?_,d1⟩)
  (fun d1=>lr [false] [false=ef L,lq L,lq L,rq (↑L.length:Int),ty d1] ⟨?_,?_,?_,?_,d1⟩)
 all_goals first|(first|rfl|exact⟨rfl,rfl⟩|(simp only[ef,d1,jZ,Bool.false_and,Bool.and_true]))
def qr (c:Con):Prop:=(0≤c.exp∧c.exp≤60)∧(1≤c.dim∧c.dim≤8)∧(c.sign=1∨c.sign=-1)∧(0≤c.oddity∧c.oddity≤7)∧
 (c.odd=false→c.dim%2=0∧c.oddity=0)∧
 (c.odd=true→(c.oddity-c.dim)%2=0∧(c.dim=1→c.sign=1→c.oddity=1∨c.oddity=7)∧(c.dim=1→c.sign=-1→c.oddity=3∨c.oddity=5)∧(c.dim=2→c.sign=1→c.oddity≠4)∧(c.dim=2→c.sign=-1→c.oddity≠0))
instance (c:Con):Decidable (qr c):=by unfold qr;exact inferInstance
def b7 (c:Con):Bool:=decide (qr c)
theorem s8 (a:Int):a.tmod 2=0↔a%2=0:=by
 rw[←Int.dvd_iff_tmod_eq_zero,←Int.dvd_iff_emod_eq_zero]
theorem D6 (c:Con):cd c.exp c.dim c.sign c.odd c.oddity=b7 c:=by
 obtain⟨e,d,s,o,t⟩:=c
 rw[pJ]
 rw[show(b7 ⟨e,d,s,o,t⟩=true)↔qr ⟨e,d,s,o,t⟩from by simp[b7]]
 unfold qr
 simp only
 by_cases hb:(0≤e∧e≤60)∧(1≤d∧d≤8)∧(0≤t∧t≤7)
 ·have hw:IntKind.i64.wrap (t-d)=t-d:=wo
  unfold cd
  have h1:decide (e<0)=false:=by simp;omega
  have h2:decide (e>60)=false:=by simp;omega
  have h3:decide (d<1)=false:=by simp;omega
  have h4:decide (d>8)=false:=by simp;omega
  have h5:decide (t<0)=false:=by simp;omega
  have h6:decide (t>7)=false:=by simp;omega
  have h7:=s8 (t-d)
  have h8:=s8 d
  rw[hw,h1,h2,h3,h4,h5,h6]
  simp only[bg,Bool.cond_eq_ite,b6]
  cases o
  ·simp only[n5,iV,false_implies,true_implies,and_true]
   repeat' split
   all_goals simp_all
   all_goals omega
  ·simp only[fH,true_implies,h7]
   repeat' split
   all_goals simp_all
   all_goals omega
 ·constructor
  ·intro h
   exfalso
   have:cd e d s o t=false:=by
    unfold cd
    by_cases h1:e<0
    ·simp only[h1,mZ,aM]
    by_cases h2:e>60
    ·simp only[h1,h2,mZ,decide_false,aM,bg]
    by_cases h3:d<1
    ·simp only[h1,h2,h3,mZ,decide_false,aM,bg]
    by_cases h4:d>8
    ·simp only[h1,h2,h3,h4,mZ,decide_false,aM,bg]
    by_cases h5:t<0
    ·simp only[h1,h2,h3,h4,h5,mZ,decide_false,aM,bg]
     cases s==1<;>cases s==-1<;>rfl
    by_cases h6:t>7
    ·simp only[h1,h2,h3,h4,h5,h6,mZ,decide_false,aM,bg]
     cases s==1<;>cases s==-1<;>rfl
    exact absurd ⟨⟨om,om⟩,⟨om,om⟩,⟨om,om⟩⟩ hb
   rw[this]at h
   cases h
  ·rintro⟨a,b,c,d,_⟩
   exact absurd ⟨a,b,d⟩ hb
def eQ (p:Int)(L:LC):Bool:=(p==2)&&(ef L&&L.all b7)
def AP:List bV:=[
 ⟨132,[],fun A=>match A with
  |[.agg [.int .i64 e,.int .i64 d,.int .i64 s,.bool o,.int .i64 t]]=>some (.bool (b7 ⟨e,d,s,o,t⟩),[])
  |_=>none⟩,
 ⟨127,[],fun A=>match A with
  |[.sl n 5 row]=>some (.bool (ef (ag n row)),[(∀i,i<n→row i=(Con.ofR (row i)).rvs)∧n≤1000])
  |_=>none⟩]
theorem pW:∀e∈AP,ch Tryz.prog e:=by
 intro e he
 simp only[AP,bx,cC,cH]at he
 rcases he with rfl|rfl
 all_goals
  intro A R ms h hm
  simp only at h
  split at h
  all_goals first|exact fF|cases h
 ·rw[←D6];exact Ws _ _ _ _ _
 ·obtain⟨h1,h3⟩:=ay hm
  exact ar.imp (Df _ (by rw[jB];omega)) (.cons (.con h1) .nil)
def YI (L:LC):aA:=⟨⟨[(15,(aD L).av),(16,vi L.length),(17,.int .i64 0)],[],1001⟩,some (L.all b7),fun d=>match d with
 |true=>(.exit 0,⟨[],[],1001⟩)
 |false=>(.ret,⟨[(2,.bool false)],[],1001⟩)⟩
theorem uH {L:LC}{k:Nat}(hk:k<L.length)(q:Con→Bool):(L.drop k).all q=(q (at_ L k)&&(L.drop (k+1)).all q):=by
 rw[nh hk];rfl
theorem PJ (L:LC)(hn:L.length≤1000):An 1 Tryz.f107 [0,1,0,1,1] (YI L):=by
 refine ea (cE pW) aC (fun(k:Nat)=>(⟨[(15,(aD L).av),(16,vi L.length),(17,vi k)],[],1001⟩:St)) (fun(k:Nat)=>(L.length-k:Nat)) (fun(d:Bool)=>fun(k:Nat)=>(k≤L.length∧(L.drop k).all b7=d:Prop)) ?_ ?_
 ·intro d hd
  exact st (0) [lq L,rq (↑L.length:Int),(0:Int)=↑(0:Nat)] B8 (by exact⟨aY _,hd⟩)
 ·rintro d hd k hI
  obtain⟨hk,hs⟩:=hI
  have ek:IntKind.i64.wrap ((k:Int)+1)=((k+1:Nat):Int):=by rw[wo];omega
  refine oe (decide ((↑k:Int)<↑L.length)) (fun d1=>let y1:List Prop:=[(0:Int)≤↑k∧(↑k:Int)<↑L.length,ty d1];have u1:ao y1:=⟨?_,d1⟩;oe (b7 (L.getD k Con.zero)) (fun d2=>aq [true,false] (k+1) ((lq L)::rq (↑L.length:Int)::(IntKind.i64.wrap ((↑k:Int)+1)=↑(k+1))::ty (dN d2)::y1) ⟨?_,?_,?_,(dN d2),u1⟩ ?_ ?_)
   (fun d2=>aG d false [true,true] (ty (dN d2)::y1) ⟨(dN d2),u1⟩ ?_))
   (fun d1=>aG d true [false] [ty d1] d1 ?_)
  all_goals((try clear u1);(try clear y1))
  all_goals first|exact nV|exact L6|exact LJ|exact Cn
theorem D7 (p:Int)(L:LC)(hn:L.length≤1000):ar Tryz.prog [] 107 [.agg [.int .i64 p,aD L]] (.bool (eQ p L)):=by
 refine pr (cE pW) Tryz.func107 (aW (PJ L hn)) ?_
 refine oe (p==2) (fun d1=>let y1:List Prop:=[(lz L)∧L.length≤1000,ty (dN d1)];have u1:ao y1:=⟨?_,(dN d1)⟩;oe (ef (ag L.length fun i=>(L.getD i Con.zero).rvs)) (fun d2=>oe (L.all b7) (fun d3=>lr (tp 221) ((true=eQ p L)::(lq L)::rq (↑L.length:Int)::ty d3::ty (dN d2)::y1) ⟨?_,?_,?_,d3,(dN d2),u1⟩)
  (fun d3=>lr (tp 222) ((false=eQ p L)::(lq L)::rq (↑L.length:Int)::ty d3::ty (dN d2)::y1) ⟨?_,?_,?_,d3,(dN d2),u1⟩))
  (fun d2=>lr [false,true] ((false=eQ p L)::ty (dN d2)::y1) ⟨?_,(dN d2),u1⟩))
  (fun d1=>lr [true] [false=eQ p L,ty (dN d1)] ⟨?_,(dN d1)⟩)
 all_goals((try clear u1);(try clear y1))
 all_goals first|(first|rfl|exact⟨rfl,rfl⟩|((try simp only[bn]at*)<;>first|rfl|trivial|exact⟨fun _ _=>rfl,hn⟩|(simp_all[eQ];done)))
def BQ (L M:LC):List (Nat×ai):=[(1000,⟨.plain [vi 2,(aD L).av],45,0,false,true⟩),(1001,⟨.plain [.int .i64 0,.nils],45,0,false,true⟩),(1011,⟨.con M,53,5,true,true⟩),(1012,⟨.plain [vi 2,.lo 1011 L.length],45,0,false,true⟩)]
theorem Ey:∀{L:List Con}{l s:Int},s≤8→gF L l s=true→(L.length:Int)+s≤8
 |[],l,s,h,_=>by simp;omega
 |c::L,l,s,h,ho=>by
  simp only[gF,jP,aX,gC]at ho
  have:=Ey (L:=L) om ho.2
  simp only[cR]
  omega
theorem N5 {L:List Con}(h:ef L=true):gF L (-1) 0=true∧0<L.length∧L.length≤8:=by
 unfold ef at h
 rw[aX,gC]at h
 refine⟨h.1,?_,?_⟩
 ·cases L with
  |nil=>simp[dB]at h
  |cons c l=>simp
 ·have:=Ey de h.1;omega
theorem S2 {L:List Con}(h:eQ 2 L=true):aL L∧(∀c∈L,Kn c)∧0<L.length∧L.length≤8:=by
 unfold eQ at h
 simp only[aX]at h
 obtain⟨_,h1,h2⟩:=h
 obtain⟨h3,h4,h5⟩:=N5 h1
 have key:∀c∈L,qr c:=fun c hc=>dE (bX.1 h2 c hc)
 refine⟨⟨om,fun c hc=>?_⟩,fun c hc=>?_,h4,h5⟩
 ·obtain⟨a,b,d,e,_⟩:=key c hc
  exact⟨⟨a.1,om⟩,⟨b.1,om⟩,d,e⟩
 ·obtain⟨a,b,d,e,_⟩:=key c hc
  unfold Kn qX
  omega
def ph (c:Con)(last s:Int):Bool:=decide (last<c.exp∧c.exp≤60∧1≤c.dim∧c.dim≤8-s)
def iA:List Con→Int→Int→Bool
 |[],_,_=>true
 |c::l,last,s=>ph c last s&&iA l c.exp (s+c.dim)
def ff (p:Int)(L:List Con):Bool:=(p==2)&&(!L.isEmpty&&iA L (-1) 0)
def nN (c:Con):Bool:=decide (c.sign=1∨c.sign=-1)
theorem zK:∀{L:List Con}{l s:Int},-1≤l→gF L l s=(iA L l s&&L.all nN)
 |[],_,_,_=>rfl
 |c::L,l,s,h=>by
  rw[pJ]
  simp only[gF,iA,jP,ph,nN,kZ,aX,gC]
  constructor
  ·rintro⟨h1,h2⟩
   rw[zK om,aX]at h2
   exact⟨⟨⟨h1.2.2.1,h1.2.1,h1.2.2.2.2.1,h1.2.2.2.2.2⟩,h2.1⟩,h1.2.2.2.1,h2.2⟩
  ·rintro⟨⟨h1,h2⟩,h3,h4⟩
   refine⟨⟨om,h1.2.1,h1.1,h3,h1.2.2.1,h1.2.2.2⟩,?_⟩
   rw[zK om,aX]
   exact⟨h2,h4⟩
theorem GH:∀{L:List Con}{l s:Int},iA L l s=true→0≤dB L∧(L≠[]→0<dB L)
 |[],_,_,_=>by simp[dB]
 |c::L,l,s,h=>by
  simp only[iA,ph,aX,gC]at h
  have:=GH h.2
  simp only[dB]
  exact⟨om,fun _=>om⟩
theorem yE (L:List Con):ef L=(!L.isEmpty&&iA L (-1) 0&&L.all nN):=by
 unfold ef
 rw[zK de]
 cases hs:iA L (-1) 0 with
 |false=>simp
 |true=>
  have hp:=GH hs
  cases L with
  |nil=>simp[dB]
  |cons c l=>
   have:=hp.2 si
   simp[this]
theorem Su (p:Int)(L:List Con):eQ p L=(ff p L&&L.all b7):=by
 unfold eQ ff
 rw[yE]
 have hl:L.all b7=true→L.all nN=true:=by
  intro h
  rw[bX]at h⊢
  intro c hc
  have:=dE (h c hc)
  exact bZ this.2.2.1
 cases h1:L.all b7 with
 |false=>simp
 |true=>rw[hl h1];simp
def nv (c:Con):Bool:=decide (0≤c.oddity∧c.oddity≤7)&&(c.odd||(decide (c.dim%2=0)&&decide (c.oddity=0)))
def gS (L:List Con)(i:Nat):Bool:=nv (at_ L i)&&!(fy L i&&(!((cI L i).getD 0 0==(i:Int))&&!((at_ L i).oddity==0)))
def fv (L:List Con):List Int→Int
 |[]=>0
 |i::l=>(at_ L i.toNat).dim+fv L l
def nw (L:List Con)(l:List Int):Bool:=decide (((at_ L (l.getD 0 0).toNat).oddity-fv L l)%2=0)
def lC (L:List Con)(l:List Int):Bool:=l.tail.all fun i=>(at_ L i.toNat).oddity==0
def be (p:Int)(L:List Con):Bool:=(p==2)&&(ef L&&((List.range L.length).all (gS L)&&(aF L).all (nw L)))
def j9 (p:Int)(L:List Con):Bool:=ff p L&&(L.all (fun c=>nN c&&nv c)&&(aF L).all (fun l=>lC L l&&nw L l))
theorem Er {s n:Nat}:(gl s (n+1)).tail=gl (s+1) n:=rfl
theorem Qq {L:List Con}:(∀i,i<L.length→fy L i=true→(cI L i).getD 0 0≠(i:Int)→(at_ L i).oddity=0)↔(∀l∈aF L,lC L l=true):=by
 constructor
 ·intro h l hl
  obtain⟨s,n,e,hs,hr⟩:=ES hl
  have hin:=(jA l hl).2.1
  unfold lC
  rw[bX]
  intro x hx
  rw[e,Er,vc]at hx
  have hx2:x∈l:=by rw[e,vc];omega
  have hlt:=hin x hx2
  obtain⟨h1,h2⟩:=hr (x.toNat-s) om
  rw[show s+(x.toNat-s)=x.toNat by omega]at h1 h2
  have h3:=h x.toNat om h1 (fun e2=>by rw[Dh om h1,h2 om]at e2;cases e2)
  rw[h3];rfl
 ·intro h i hi ho hne
  obtain⟨s,n,t,e,h1,h2,h3,h4⟩:=FN hi ho
  have hz:=h _ (yl hi ho).1
  unfold lC at hz
  rw[bX]at hz
  have ht:0<t:=by
   rcases kw t with h0|h0
   ·subst h0
    rw[gj]at h1
    exact absurd ((Dh hi ho).2 (by rw[h1];exact h3)) hne
   ·exact h0
  have:=hz (i:Int) (by rw[e,Er,vc];omega)
  simpa using this
theorem zL {L:List Con}(q:Con→Bool):L.all q=true↔∀i,i<L.length→q (at_ L i)=true:=by
 rw[bX]
 constructor
 ·intro h i hi
  have:at_ L i=L[i]:=by simp[at_,hi]
  rw[this];exact h _ (fp hi)
 ·intro h c hc
  obtain⟨i,hi,rfl⟩:=rD hc
  have:at_ L i=L[i]:=by simp[at_,hi]
  rw[←this];exact h i hi
theorem zM (p:Int)(L:List Con):j9 p L=be p L:=by
 rw[pJ]
 unfold j9 be ff
 rw[yE]
 simp only[aX,bX (l:=aF L),bX (l:=List.range L.length),jj,zL]
 have key:(∀i,i<L.length→gS L i=true)↔(∀i,i<L.length→nv (at_ L i)=true)∧(∀l∈aF L,lC L l=true):=by
  rw[←Qq]
  constructor
  ·intro h
   refine⟨fun i hi=>?_,fun i hi ho hne=>?_⟩
   ·have:=h i hi
    unfold gS at this
    rw[aX]at this
    exact this.1
   ·have:=h i hi
    unfold gS at this
    simp only[ho,aX,jZ,n7,Bool.and_eq_false_iff,Bool.not_eq_false',b6]at this
    rcases this.2 with h1|h1
    ·exact absurd h1 hne
    ·exact h1
  ·rintro⟨h1,h2⟩ i hi
   unfold gS
   rw[aX]
   refine⟨h1 i hi,?_⟩
   cases ho:fy L i with
   |false=>rfl
   |true=>
    by_cases hf:(cI L i).getD 0 0=(i:Int)
    ·rw[b6.2 hf];rfl
    ·rw[b6.2 (h2 i hi ho hf)];simp only[oh,l3,kY]
 constructor
 ·rintro⟨⟨h1,h2,h3⟩,h4,h5⟩
  exact⟨h1,⟨⟨h2,h3⟩,fun i hi=>(h4 i hi).1⟩,key.2 ⟨fun i hi=>(h4 i hi).2,fun l hl=>(h5 l hl).1⟩,fun l hl=>(h5 l hl).2⟩
 ·rintro⟨h1,⟨⟨h2,h3⟩,h4⟩,h5,h6⟩
  have:=key.1 h5
  exact⟨⟨h1,h2,h3⟩,fun i hi=>⟨h4 i hi,this.1 i hi⟩,fun l hl=>⟨this.2 l hl,h6 l hl⟩⟩
theorem vH:∀{L:List Con}{l s:Int},-1≤l→0≤s→iA L l s=true→(∀c∈L,0≤c.exp∧c.exp≤60∧1≤c.dim∧c.dim≤8)∧(dB L≤8-s∨L=[])∧(L.length:Int)≤dB L
 |[],_,_,_,_,_=>⟨fun c hc=>by simp at hc,.inr rfl,by simp[dB]⟩
 |c::L,l,s,h0,hs,h=>by
  simp only[iA,ph,aX,gC]at h
  obtain⟨h1,h2⟩:=h
  obtain⟨i1,i2,i3⟩:=vH (L:=L) (l:=c.exp) (s:=s+c.dim) om om h2
  refine⟨fun x hx=>?_,.inl ?_,?_⟩
  ·rcases bx.1 hx with rfl|hx
   ·omega
   ·exact i1 x hx
  ·simp only[dB]
   rcases i2 with i2|i2
   ·omega
   ·rw[i2];simp only[dB];omega
  ·simp only[dB,cR]
   omega
structure Xu (c:Con):Prop where
 exp:0≤c.exp∧c.exp≤60
 dim:1≤c.dim∧c.dim≤8
 sign:c.sign=1∨c.sign=-1
 odt:0≤c.oddity∧c.oddity≤7
 even:c.odd=false→c.dim%2=0∧c.oddity=0
theorem ma {L:List Con}(h:be 2 L=true):iA L (-1) 0=true∧0<L.length∧L.length≤8∧dB L≤8∧∀k,k<L.length→Xu (at_ L k):=by
 rw[←zM]at h
 simp only[j9,ff,aX]at h
 obtain⟨⟨_,h1,h2⟩,h3,_⟩:=h
 obtain⟨i1,i2,i3⟩:=vH de de h2
 have hne:L≠[]:=by intro e;rw[e]at h1;cases h1
 have hd:dB L≤8:=by rcases i2 with i2|i2;omega;exact absurd i2 hne
 refine⟨h2,lV.2 hne,om,hd,fun k hk=>?_⟩
 have e:at_ L k=L[k]:=by simp[at_,hk]
 have h4:=i1 _ (fp hk)
 have h5:=(zL _).1 h3 k hk
 rw[←e]at h4
 simp only[aX,nN,nv,gC,og]at h5
 exact⟨⟨h4.1,h4.2.1⟩,h4.2.2,h5.1,h5.2.1,fun ho=>by rcases h5.2.2 with h|h;rw[ho]at h;cases h;exact h⟩
theorem gn {L:List Con}(h:be 2 L=true):aL L:=by
 obtain⟨_,_,h1,_,h2⟩:=ma h
 refine⟨om,fun c hc=>?_⟩
 obtain⟨k,hk,rfl⟩:=rD hc
 have:=h2 k hk
 rw[show at_ L k=L[k] by simp[at_,hk]]at this
 exact⟨⟨this.exp.1,by have:=this.exp.2;omega⟩,⟨this.dim.1,by have:=this.dim.2;omega⟩,this.sign,this.odt⟩
theorem FQ {L:LC}{k:Nat}(hk:k<L.length)(l s:Int):iA (L.drop k) l s=(ph (at_ L k) l s&&iA (L.drop (k+1)) (at_ L k).exp (s+(at_ L k).dim)):=by
 rw[nh hk];rfl
def Yk (L:LC):aA:=⟨⟨[(3,.int .i64 0),(4,.int .i64 (-1)),(17,(aD L).av),(18,vi L.length),(19,.int .i64 0)],[],1001⟩,some (iA L (-1) 0),fun d=>match d with
 |true=>(.exit 0,⟨[],[],1001⟩)
 |false=>(.ret,⟨[(2,.bool false)],[],1001⟩)⟩
theorem Tj (L:LC)(hn:L.length≤1000):An 1 Tryz.f114 [0,1,0,1,1,1] (Yk L):=by
 refine ea c0 aC (u3 fun(k:Nat)(s e:Int)=>(⟨[(3,vi s),(4,vi e),(17,(aD L).av),(18,vi L.length),(19,vi k)],[],1001⟩:St)) (u3 fun(k:Nat)(s e:Int)=>(L.length-k:Nat)) (fun(d:Bool)=>u3 fun(k:Nat)(s e:Int)=>(k≤L.length∧(0≤s∧s≤8)∧iA (L.drop k) e s=d:Prop)) ?_ ?_
 ·intro d hd
  exact st (0,0,-1) [rq (0:Int),rq (-1:Int),lq L,rq (↑L.length:Int),(0:Int)=↑(0:Nat)] xi (by exact⟨aY _,de,hd⟩)
 ·rintro d hd ⟨k,s,e⟩ hI
  obtain⟨hk,hs,hd'⟩:=hI
  have hs:0≤s∧s≤8:=hs
  have hd':iA (L.drop k) e s=_:=hd'
  have hk:k≤L.length:=hk
  have ek:=wk k
  have e8:w6.wrap (8-s)=8-s:=wo
  refine oe (decide ((↑k:Int)<↑L.length)) (fun d1=>let y1:List Prop:=[(0:Int)≤↑k∧(↑k:Int)<↑L.length,ty d1];have u1:ao y1:=⟨?_,d1⟩;oe (decide ((L.getD k z0c).exp≤e)) (fun d2=>aG d false [true,true] (ty d2::y1) ⟨d2,u1⟩ ?_)
   (fun d2=>oe (decide ((L.getD k z0c).exp>60)) (fun d3=>aG d false (tp 121) (ty d3::ty d2::y1) ⟨d3,d2,u1⟩ ?_)
   (fun d3=>oe (decide ((L.getD k z0c).dim<1)) (fun d4=>aG d false (tp 1221) (ty d4::ty d3::ty d2::y1) ⟨d4,d3,d2,u1⟩ ?_)
   (fun d4=>oe (decide ((L.getD k z0c).dim>w6.wrap ((8:Int)-s))) (fun d5=>aG d false (tp 12221) (ty d5::ty d4::ty d3::ty d2::y1) ⟨d5,d4,d3,d2,u1⟩ ?_)
   (fun d5=>aq (tp 12222) (k+1,s+(at_ L k).dim,(at_ L k).exp) ((w6.wrap (s+(L.getD k z0c).dim)=s+(at_ L k).dim)::((L.getD k z0c).exp=(at_ L k).exp)::(lq L)::rq (↑L.length:Int)::(w6.wrap ((↑k:Int)+1)=↑(k+1))::ty d5::ty d4::ty d3::ty d2::y1) ⟨?_,?_,?_,?_,?_,d5,d4,d3,d2,u1⟩ ?_ ?_)))))
   (fun d1=>aG d true [false] [ty d1] d1 ?_)
  all_goals((try clear u1);(try clear y1))
  all_goals first|exact nV|(refine bD.mk ?_;(simp only[e8,bt,dT,dF,gM]at*;rw[FQ om,show ph (at_ L k) e s=true from bZ ⟨by simp only[at_];omega,by simp only[at_];omega,by simp only[at_];omega,by simp only[at_];omega⟩]at hd';exact⟨om,by simp only[at_];omega,hd'⟩))|(refine dq.mk ?_;cases d<;>first|rfl|(exfalso;(simp only[e8,bt,dT,dF,gM]at*;first|(rw[eL om]at hd';cases hd';done)|(rw[FQ om,show ph (at_ L k) e s=false from bu (by simp only[at_];omega)]at hd';cases hd';done))))|exact Mm
theorem Tk (p:Int)(L:LC)(hn:L.length≤1000):ar Tryz.prog [] 114 [.agg [.int .i64 p,aD L]] (.bool (ff p L)):=by
 refine pr c0 Tryz.func114 (aW (Tj L hn)) ?_
 refine oe (p==2) (fun d1=>oe ((↑L.length:Int)==0) (fun d2=>lr [false,true] [false=ff p L,ty d2,ty (dN d1)] ⟨?_,d2,(dN d1)⟩)
  (fun d2=>oe (iA L (-1:Int) (0:Int)) (fun d3=>lr (tp 221) [true=ff p L,lq L,rq (↑L.length:Int),ty d3,ty d2,ty (dN d1)] ⟨?_,?_,?_,d3,d2,(dN d1)⟩)
  (fun d3=>lr (tp 222) [false=ff p L,lq L,rq (↑L.length:Int),ty d3,ty d2,ty (dN d1)] ⟨?_,?_,?_,d3,d2,(dN d1)⟩)))
  (fun d1=>lr [true] [false=ff p L,ty (dN d1)] ⟨?_,(dN d1)⟩)
 all_goals first|(refine l6.mk ?_;(simp_all))|(first|exact tz|(unfold ff;simp_all;done))
theorem PB (c:Con):cp c.exp c.dim c.sign c.odd c.oddity=b7 c:=D6 c
def zX:List bV:=[
 ⟨118,[],fun A=>match A with
  |[.agg [.int .i64 e,.int .i64 d,.int .i64 s,.bool o,.int .i64 t]]=>some (.bool (b7 ⟨e,d,s,o,t⟩),[])
  |_=>none⟩,
 ⟨114,[],fun A=>match A with
  |[.agg [.int .i64 p,.sl n 5 row]]=>some (.bool (ff p (ag n row)),[(∀i,i<n→row i=(Con.ofR (row i)).rvs)∧n≤1000])
  |_=>none⟩]
theorem m6:∀e∈zX,ch Tryz.prog e:=by
 intro e he
 simp only[zX,bx,cC,cH]at he
 rcases he with rfl|rfl
 all_goals
  intro A R ms h hm
  simp only at h
  split at h
  all_goals first|exact fF|cases h
 ·rw[←PB];exact Wr _ _ _ _ _
 ·obtain⟨h1,h2⟩:=ay hm
  exact ar.imp (Tk _ _ fR) (.cons (.agg (.cons .same (.cons (.con h1) .nil))) .nil)
def Yl (L:LC):aA:=⟨⟨[(9,(aD L).av),(10,vi L.length),(11,.int .i64 0)],[],1001⟩,some (L.all b7),fun d=>match d with
 |true=>(.exit 0,⟨[],[],1001⟩)
 |false=>(.ret,⟨[(2,.bool false)],[],1001⟩)⟩
theorem Tl (L:LC)(hn:L.length≤1000):An 1 Tryz.f75 [0,1,0,1,1] (Yl L):=by
 refine ea (cE m6) aC (fun(k:Nat)=>(⟨[(9,(aD L).av),(10,vi L.length),(11,vi k)],[],1001⟩:St)) (fun(k:Nat)=>(L.length-k:Nat)) (fun(d:Bool)=>fun(k:Nat)=>(k≤L.length∧(L.drop k).all b7=d:Prop)) ?_ ?_
 ·intro d hd
  exact st (0) [lq L,rq (↑L.length:Int),(0:Int)=↑(0:Nat)] B8 (by exact⟨aY _,hd⟩)
 ·rintro d hd k hI
  obtain⟨hk,hs⟩:=hI
  have ek:=wk k
  refine oe (decide ((↑k:Int)<↑L.length)) (fun d1=>let y1:List Prop:=[(0:Int)≤↑k∧(↑k:Int)<↑L.length,ty d1];have u1:ao y1:=⟨?_,d1⟩;oe (b7 (L.getD k z0c)) (fun d2=>aq [true,false] (k+1) ((lq L)::rq (↑L.length:Int)::(w6.wrap ((↑k:Int)+1)=↑(k+1))::ty (dN d2)::y1) ⟨?_,?_,?_,(dN d2),u1⟩ ?_ ?_)
   (fun d2=>aG d false [true,true] (ty (dN d2)::y1) ⟨(dN d2),u1⟩ ?_))
   (fun d1=>aG d true [false] [ty d1] d1 ?_)
  all_goals((try clear u1);(try clear y1))
  all_goals first|exact nV|exact L6|exact LJ|exact Cn
theorem C0 (p:Int)(L:LC)(hn:L.length≤1000):ar Tryz.prog [] 75 [.agg [.int .i64 p,aD L]] (.bool (eQ p L)):=by
 refine pr (cE m6) Tryz.func75 (aW (Tl L hn)) ?_
 refine(let y1:List Prop:=[(lz L)∧L.length≤1000];have u1:ao y1:=(?_:(lz L)∧L.length≤1000);oe (ff p (ag L.length fun i=>(L.getD i z0c).rvs)) (fun d1=>oe (L.all b7) (fun d2=>lr [false,true] ((true=eQ p L)::(lq L)::rq (↑L.length:Int)::ty d2::ty (dN d1)::y1) ⟨?_,?_,?_,d2,(dN d1),u1⟩)
  (fun d2=>lr [false,false] ((false=eQ p L)::(lq L)::rq (↑L.length:Int)::ty d2::ty (dN d1)::y1) ⟨?_,?_,?_,d2,(dN d1),u1⟩))
  (fun d1=>lr [true] ((false=eQ p L)::ty (dN d1)::y1) ⟨?_,(dN d1),u1⟩))
 all_goals((try clear u1);(try clear y1))
 all_goals first|(first|exact tz|exact kt|((try simp only[bn]at*)<;>first|trivial|(rw[Su];simp_all;done)))
def i9 (c:Con):Bool:=nN c&&nv c
def iQ (p:Int)(L:LC):List (Nat×ai):=[(1000,⟨.plain [vi p,(aD L).av],45,0,false,true⟩)]
def Ym (p:Int)(L:LC):aA:=⟨⟨[(1,.ptr 1000 0),(14,(aD L).av),(15,vi L.length),(16,.int .i64 0)],iQ p L,1010⟩,some (L.all i9),fun d=>match d with
 |true=>(.exit 0,⟨[(1,.ptr 1000 0)],iQ p L,1010⟩)
 |false=>(.ret,⟨[(2,.bool false)],[],1010⟩)⟩
theorem yR {c:Con}:i9 c=true↔(c.sign=1∨c.sign=-1)∧(0≤c.oddity∧c.oddity≤7)∧(c.odd=false→c.dim.tmod 2=0∧c.oddity=0):=by
 simp only[i9,nN,nv,aX,dT,og,s8]
 cases c.odd<;>simp
theorem Tm {c:Con}(h:¬((c.sign=1∨c.sign=-1)∧(0≤c.oddity∧c.oddity≤7)∧(c.odd=false→c.dim.tmod 2=0∧c.oddity=0))):i9 c=false:=by
 cases hf:i9 c with
 |false=>rfl
 |true=>exact absurd (yR.1 hf) h
theorem FR (p:Int)(L:LC)(hn:L.length≤1000):An 1 Tryz.f72 [0,1,0,1,1] (Ym p L):=by
 refine ea c0 aC (fun(k:Nat)=>(⟨[(1,.ptr 1000 0),(14,(aD L).av),(15,vi L.length),(16,vi k)],iQ p L,1010⟩:St)) (fun(k:Nat)=>(L.length-k:Nat)) (fun(d:Bool)=>fun(k:Nat)=>(k≤L.length∧(L.drop k).all i9=d:Prop)) ?_ ?_
 ·intro d hd
  exact st (0) [lq L,rq (↑L.length:Int),(0:Int)=↑(0:Nat),p=p,lq L] pu (by exact⟨aY _,hd⟩)
 ·rintro d hd k hI
  obtain⟨hk,hs⟩:=hI
  have ek:=wk k
  refine(let t1:List Prop→List Prop:=fun l0=>(lq L)::rq (↑L.length:Int)::(w6.wrap ((↑k:Int)+1)=↑(k+1))::(p=p)::(lq L)::l0;oe (decide ((↑k:Int)<↑L.length)) (fun d1=>let y1:List Prop:=[(0:Int)≤↑k∧(↑k:Int)<↑L.length,ty d1];have u1:ao y1:=⟨?_,d1⟩;oe ((L.getD k z0c).sign==1) (fun d2=>let y2:List Prop:=ty (dN d2)::y1;have u2:ao y2:=⟨(dN d2),u1⟩;oe (decide ((L.getD k z0c).oddity<0)) (fun d3=>aG d false (tp 121) (ty d3::y2) ⟨d3,u2⟩ ?_)
   (fun d3=>oe (decide ((L.getD k z0c).oddity>7)) (fun d4=>aG d false (tp 1221) (ty d4::ty d3::y2) ⟨d4,d3,u2⟩ ?_)
   (fun d4=>oe ((L.getD k z0c).odd) (fun d5=>aq (tp 12222) (k+1) (t1 (ty (dN d5)::ty d4::ty d3::y2)) ?_ ?_ ?_)
   (fun d5=>let y3:List Prop:=((2:Int)≠(0:Int))::ty (dN d5)::ty d4::ty d3::y2;have u3:ao y3:=⟨?_,(dN d5),d4,d3,u2⟩;oe ((L.getD k z0c).dim.tmod (2:Int)==0) (fun d6=>oe ((L.getD k z0c).oddity==0) (fun d7=>aq (tp 1222122) (k+1) (t1 (ty (dN d7)::ty (dN d6)::y3)) ?_ ?_ ?_)
   (fun d7=>aG d false (tp 1222121) (ty (dN d7)::ty (dN d6)::y3) ⟨(dN d7),(dN d6),u3⟩ ?_))
   (fun d6=>aG d false (tp 122211) (ty (dN d6)::y3) ⟨(dN d6),u3⟩ ?_)))))
   (fun d2=>let y2:List Prop:=ty (dN d2)::y1;have u2:ao y2:=⟨(dN d2),u1⟩;oe ((L.getD k z0c).sign==-1) (fun d3=>let y3:List Prop:=ty (dN d3)::y2;have u3:ao y3:=⟨(dN d3),u2⟩;oe (decide ((L.getD k z0c).oddity<0)) (fun d4=>aG d false (tp 1121) (ty d4::y3) ⟨d4,u3⟩ ?_)
   (fun d4=>oe (decide ((L.getD k z0c).oddity>7)) (fun d5=>aG d false (tp 11221) (ty d5::ty d4::y3) ⟨d5,d4,u3⟩ ?_)
   (fun d5=>oe ((L.getD k z0c).odd) (fun d6=>aq (tp 112222) (k+1) (t1 (ty (dN d6)::ty d5::ty d4::y3)) ?_ ?_ ?_)
   (fun d6=>let y4:List Prop:=((2:Int)≠(0:Int))::ty (dN d6)::ty d5::ty d4::y3;have u4:ao y4:=⟨?_,(dN d6),d5,d4,u3⟩;oe ((L.getD k z0c).dim.tmod (2:Int)==0) (fun d7=>oe ((L.getD k z0c).oddity==0) (fun d8=>aq (tp 11222122) (k+1) (t1 (ty (dN d8)::ty (dN d7)::y4)) ?_ ?_ ?_)
   (fun d8=>aG d false (tp 11222121) (ty (dN d8)::ty (dN d7)::y4) ⟨(dN d8),(dN d7),u4⟩ ?_))
   (fun d7=>aG d false (tp 1122211) (ty (dN d7)::y4) ⟨(dN d7),u4⟩ ?_)))))
   (fun d3=>aG d false (tp 111) (ty (dN d3)::y2) ⟨(dN d3),u2⟩ ?_)))
   (fun d1=>aG d true [false] [p=p,lq L,ty d1] ⟨?_,?_,d1⟩ ?_))
  all_goals with_reducible repeat' first|exact dA|refine bk ?_ ?_|refine bm ?_
  all_goals((try clear u4);(try clear y4);(try clear u3);(try clear y3);(try clear u2);(try clear y2);(try clear u1);(try clear y1))
  all_goals first|exact nV|(refine bD.mk ?_;(simp only[dT,dF,bt,b6,bJ,ne_eq,gM]at*;rw[uH om]at hs;rw[show i9 (at_ L k)=true from yR.2 Mb]at hs;exact⟨om,hs⟩))|(refine dq.mk ?_;cases d<;>first|rfl|(exfalso;(simp only[dT,dF,bt,b6,bJ,ne_eq,gM]at*;first|(rw[eL om]at hs;cases hs;done)|(rw[uH om]at hs;rw[show i9 (at_ L k)=false from Tm (by simp only[at_];first|(intro hq;omega)|(rintro⟨q1,q2,q3⟩;have q4:=q3 aS;first|omega|(simp_all;done)))]at hs;cases hs;done))))|(first|exact tz|decide|((try simp only[ek,bt,dT,dF]at*)<;>omega))
theorem vn {L:LC}(hL:aL L):∀{l:List Int},bR L.length l→0≤fv L l∧fv L l≤1000*l.length
 |[],_=>by simp[fv]
 |i::l,h=>by
  have h1:=h i si
  have h2:=(hL.at (k:=i.toNat) om).2.1
  have ih:=vn hL (l:=l) (fun x hx=>h x (by simp[hx]))
  simp only[fv,cR]
  omega
theorem Q9 (L:LC)(a b:List Int):fv L (a++b)=fv L a+fv L b:=by
 induction a with
 |nil=>simp[fv]
 |cons c a ih=>simp only[kx,fv,ih];omega
theorem D1 {L:LC}{l:List Int}{t:Nat}(ht:t<l.length):fv L (l.take (t+1))=fv L (l.take t)+(at_ L (l.getD t 0).toNat).dim:=by
 rw[yT ht,Q9];simp[fv]
theorem Yn {L:LC}{l:List Int}{t:Nat}(hL:aL L)(hl:bR L.length l)(ht:t<l.length):0≤(at_ L (l.getD t 0).toNat).dim∧(at_ L (l.getD t 0).toNat).dim≤1000:=by
 have h1:=hl.at ht
 have:=(hL.at (k:=(l.getD t 0).toNat) om).2.1
 omega
def kL (L:LC)(l:List Int)(t:Nat):Bool:=(l.drop (Nat.max t 1)).all fun i=>(at_ L i.toNat).oddity==0
theorem Wh {L:LC}{l:List Int}:kL L l 0=lC L l:=by unfold kL lC;rw[show Nat.max 0 1=1 from rfl,List.drop_one]
theorem Wi {L:LC}{l:List Int}{t:Nat}(h:¬0<t):kL L l (t+1)=kL L l t:=by
 have:t=0:=by omega
 subst this;rfl
theorem Hd {L:LC}{l:List Int}{t:Nat}(h:0<t)(ht:t<l.length):kL L l t=((at_ L (l.getD t 0).toNat).oddity==0&&kL L l (t+1)):=by
 unfold kL
 rw[show Nat.max t 1=t by simp only[Nat.max_def];split<;>omega,show Nat.max (t+1) 1=t+1 by simp only[Nat.max_def];split<;>omega,m9 ht];rfl
theorem Wj {L:LC}{l:List Int}{t:Nat}(ht:l.length≤t):kL L l t=true:=by
 unfold kL
 rw[eL (by simp only[Nat.max_def];split<;>omega)];rfl
def BL (P:List (List Int))(j:Nat):List (Nat×AV):=[(1,.ptr 1000 0),(54,(cS .i64 P).av),(55,vi P.length),(56,vi j),(6,(rI .i64 (ab P j)).av)]
def IR (p:Int)(L:LC)(P:List (List Int))(j:Nat):aA:=⟨⟨BL P j++[(7,.int .i64 0),(60,(rI .i64 (ab P j)).av),(61,vi (ab P j).length),(62,.int .i64 0)],iQ p L,1010⟩,some (lC L (ab P j)),fun d=>match d with
 |true=>(.exit 4,⟨BL P j++[(7,vi (fv L (ab P j)))],iQ p L,1010⟩)
 |false=>(.ret,⟨[(2,.bool false)],[],1010⟩)⟩
theorem Tn (p:Int)(L:LC)(P:List (List Int))(j:Nat)(hL:aL L)(hr:bR L.length (ab P j))(hn:(ab P j).length≤1000):An 1 Tryz.f72 [0,1,0,1,1,0,0,1,1,0,0,1,0,1,1,1] (IR p L P j):=by
 refine ea c0 aC (u2 fun(t:Nat)(n:Int)=>(⟨BL P j++[(7,vi n),(60,(rI .i64 (ab P j)).av),(61,vi (ab P j).length),(62,vi t)],iQ p L,1010⟩:St)) (u2 fun(t:Nat)(n:Int)=>((ab P j).length-t:Nat)) (fun(d:Bool)=>u2 fun(t:Nat)(n:Int)=>(t≤(ab P j).length∧n=fv L ((ab P j).take t)∧kL L (ab P j) t=d:Prop)) ?_ ?_
 ·intro d hd
  exact st (0,0) [sr P fun i=>[rI IntKind.i64 (P.getD i [])],rq (↑P.length:Int),rq (↑j:Int),sr (ab P j) fun j_1=>[RV.int IntKind.i64 ((ab P j).getD j_1 (0:Int))],rq (0:Int),sr (ab P j) fun j_1=>[RV.int IntKind.i64 ((ab P j).getD j_1 (0:Int))],rq (↑(ab P j).length:Int),(0:Int)=↑(0:Nat),p=p,lq L] L7 (by exact⟨aY _,rfl,Wh.trans hd⟩)
 ·rintro d hd ⟨t,n⟩ hI
  obtain⟨ht,hs,hz⟩:=hI
  have ht:t≤(ab P j).length:=ht
  have hs:n=fv L ((ab P j).take t):=hs
  have ek:=wk t
  have hb:=vn hL (l:=(ab P j).take t) (fun x hx=>hr x (rC hx))
  have hb2:(((ab P j).take t).length:Int)≤1000:=by simp only[n8];omega
  refine(let t1:List Prop→List Prop:=fun l0=>(let v1:=(ab P j).getD t (0:Int);(sr P fun i=>[rI IntKind.i64 (P.getD i [])])::rq (↑P.length:Int)::rq (↑j:Int)::(sr (ab P j) fun j_1=>[RV.int IntKind.i64 ((ab P j).getD j_1 (0:Int))])::(w6.wrap (n+(L.getD v1.toNat z0c).dim)=n+(at_ L v1.toNat).dim)::(sr (ab P j) fun j_1=>[RV.int IntKind.i64 ((ab P j).getD j_1 (0:Int))])::rq (↑(ab P j).length:Int)::(w6.wrap ((↑t:Int)+1)=↑(t+1))::(p=p)::(lq L)::l0);oe (decide ((↑t:Int)<(↑(ab P j).length:Int))) (fun d1=>let y1:List Prop:=[(0:Int)≤(ab P j).getD t (0:Int)∧(ab P j).getD t (0:Int)<↑L.length,(0:Int)≤↑t∧(↑t:Int)<(↑(ab P j).length:Int),ty d1];have u1:ao y1:=⟨?_,?_,d1⟩;oe (decide ((↑t:Int)>0)) (fun d2=>let y2:List Prop:=((0:Int)≤(ab P j).getD t (0:Int)∧(ab P j).getD t (0:Int)<↑L.length)::ty d2::y1;have u2:ao y2:=⟨?_,d2,u1⟩;oe ((L.getD ((ab P j).getD t (0:Int)).toNat z0c).oddity==0) (fun d3=>aq (tp 112) (t+1,n+(at_ L ((ab P j).getD t 0).toNat).dim) (t1 (ty (dN d3)::y2)) ⟨?_,?_,?_,?_,?_,?_,?_,?_,?_,?_,(dN d3),u2⟩ ?_ ?_)
   (fun d3=>aG d false (tp 111) (ty (dN d3)::y2) ⟨(dN d3),u2⟩ ?_))
   (fun d2=>aq [true,false] (t+1,n+(at_ L ((ab P j).getD t 0).toNat).dim) (t1 (ty d2::y1)) ⟨?_,?_,?_,?_,?_,?_,?_,?_,?_,?_,d2,u1⟩ ?_ ?_))
   (fun d1=>aG d true [false] [sr P fun i=>[rI IntKind.i64 (P.getD i [])],rq (↑P.length:Int),rq (↑j:Int),sr (ab P j) fun j_1=>[RV.int IntKind.i64 ((ab P j).getD j_1 (0:Int))],n=fv L (ab P j),p=p,lq L,ty d1] ⟨?_,?_,?_,?_,?_,?_,?_,d1⟩ ?_))
  all_goals((try clear u2);(try clear y2);(try clear u1);(try clear y1))
  all_goals first|exact Ca|(refine bD.mk ?_;(simp only[dT,dF,bt,gM]at*;refine⟨om,by rw[D1 om,hs],?_⟩;first|(show kL L (ab P j) (t+1)=_;rw[Wi om];exact hz)|(rw[Hd om om,show((at_ L ((ab P j).getD t 0).toNat).oddity==0)=true from d3]at hz;exact hz)))|(refine dq.mk ?_;cases d<;>first|rfl|(exfalso;(simp only[dT,dF,bt,gM]at*;first|(rw[Wj om]at hz;cases hz;done)|(rw[Hd om om,show((at_ L ((ab P j).getD t 0).toNat).oddity==0)=false from d3]at hz;cases hz;done))))|exact LN
def pb (L:LC)(l:List Int):Bool:=lC L l&&nw L l
theorem rS {P:List (List Int)}{j:Nat}(hj:j<P.length)(q:List Int→Bool):(P.drop j).all q=(q (ab P j)&&(P.drop (j+1)).all q):=by
 rw[mc hj];rfl
theorem vO {L:LC}(hL:aL L){l:List Int}(hne:l≠[])(hl:bR L.length l)(hn:l.length≤1000):((w6.wrap ((at_ L (l.getD 0 0).toNat).oddity-fv L l)).tmod 2==0)=nw L l:=by
 have hb:=vn hL hl
 have ho:=Is (t:=0) hL hl (lV.2 hne)
 rw[wo]
 unfold nw
 rw[pJ,b6,dT]
 exact s8 _
def Yo (p:Int)(L:LC)(P:List (List Int)):aA:=⟨⟨[(1,.ptr 1000 0),(54,(cS .i64 P).av),(55,vi P.length),(56,.int .i64 0)],iQ p L,1010⟩,some (P.all (pb L)),fun d=>match d with
 |true=>(.exit 2,⟨[],[],1010⟩)
 |false=>(.ret,⟨[(2,.bool false)],[],1010⟩)⟩
theorem To (p:Int)(L:LC)(P:List (List Int))(hL:aL L)(hP:∀l∈P,l≠[]∧bR L.length l∧l.length≤L.length)(hm:P.length≤1000):An 1 Tryz.f72 [0,1,0,1,1,1] (Yo p L P):=by
 refine jU c0 (fun(j:Nat)=>(⟨[(1,.ptr 1000 0),(54,(cS .i64 P).av),(55,vi P.length),(56,vi j)],iQ p L,1010⟩:St)) (fun(j:Nat)=>(P.length-j:Nat)) (fun(d:Bool)=>fun(j:Nat)=>(j≤P.length∧(P.drop j).all (pb L)=d:Prop)) (fun(j:Nat)=>([([0,1,0,1,1,0,0,1,1,0,0,1,0,1,1,1],IR p L P j)]:List (List Nat×aA))) ?_ ?_ ?_
 ·rintro d hd j hI
  exact aW (Tn p L P j hL L8 L5)
 ·intro d hd
  exact st (0) [sr P fun i=>[rI IntKind.i64 (P.getD i [])],rq (↑P.length:Int),(0:Int)=↑(0:Nat),p=p,lq L] pu (by exact⟨aY _,hd⟩)
 ·rintro d hd j hI
  obtain⟨ht,hs⟩:=hI
  have ht:j≤P.length:=ht
  have hl1:=hL.1
  have ek:=wk j
  refine oe (decide ((↑j:Int)<↑P.length)) (fun d1=>let y1:List Prop:=[(0:Int)≤↑j∧(↑j:Int)<↑P.length,ty d1];have u1:ao y1:=⟨?_,d1⟩;oe (lC L (ab P j)) (fun d2=>let y2:List Prop:=(let v1:=P.getD j [];let v2:=(↑(ab P j).length:Int);((2:Int)≠(0:Int))::((0:Int)≤(ab P j).getD (Int.toNat (0:Int)) (0:Int)∧(ab P j).getD (Int.toNat (0:Int)) (0:Int)<↑L.length)::((0:Int)≤0∧(0:Int)<v2)::(sr P fun i=>[rI IntKind.i64 (P.getD i [])])::rq (↑P.length:Int)::rq (↑j:Int)::(v1.length=(ab P j).length∧(fun j_1=>[RV.int IntKind.i64 (v1.getD j_1 (0:Int))])=fun j_1=>[RV.int IntKind.i64 ((ab P j).getD j_1 (0:Int))])::(v1.length=(ab P j).length∧(fun j_1=>[RV.int IntKind.i64 (v1.getD j_1 (0:Int))])=fun j_1=>[RV.int IntKind.i64 ((ab P j).getD j_1 (0:Int))])::((↑v1.length:Int)=v2)::(p=p)::(lq L)::ty d2::y1);have u2:ao y2:=⟨?_,?_,?_,?_,?_,?_,?_,?_,?_,?_,?_,d2,u1⟩;oe ((w6.wrap ((L.getD ((ab P j).getD (Int.toNat (0:Int)) (0:Int)).toNat z0c).oddity-fv L (ab P j))).tmod (2:Int)==0) (fun d3=>aq (tp 112) (j+1) ((sr P fun i=>[rI IntKind.i64 (P.getD i [])])::rq (↑P.length:Int)::(w6.wrap ((↑j:Int)+1)=↑(j+1))::(p=p)::(lq L)::ty (dN d3)::y2) ⟨?_,?_,?_,?_,?_,(dN d3),u2⟩ ?_ ?_)
   (fun d3=>aG d false (tp 111) (ty (dN d3)::y2) ⟨(dN d3),u2⟩ ?_))
   (fun d2=>aG d false [true,false] (let v1:=P.getD j [];(sr P fun i=>[rI IntKind.i64 (P.getD i [])])::rq (↑P.length:Int)::rq (↑j:Int)::(v1.length=(ab P j).length∧(fun j_1=>[RV.int IntKind.i64 (v1.getD j_1 (0:Int))])=fun j_1=>[RV.int IntKind.i64 ((ab P j).getD j_1 (0:Int))])::(v1.length=(ab P j).length∧(fun j_1=>[RV.int IntKind.i64 (v1.getD j_1 (0:Int))])=fun j_1=>[RV.int IntKind.i64 ((ab P j).getD j_1 (0:Int))])::((↑v1.length:Int)=(↑(ab P j).length:Int))::(p=p)::(lq L)::ty d2::y1) ⟨?_,?_,?_,?_,?_,?_,?_,?_,d2,u1⟩ ?_))
   (fun d1=>aG d true [false] [ty d1] d1 ?_)
  all_goals((try clear u2);(try clear y2);(try clear u1);(try clear y1))
  all_goals first|exact xn|(refine bD.mk ?_;(simp only[dT,bt,ky]at*;have h0:=hP _ (gE (P:=P) (t:=j) om);rw[rS om,pb,d2,←vO hL h0.1 h0.2.1 om]at hs;refine⟨om,?_⟩;simp only[at_]at hs;first|(rw[d3]at hs;exact hs)|(simp only[Bool.not_eq_eq_eq_not,bne]at d3 hs;rw[d3]at hs;exact hs)))|(refine dq.mk ?_;cases d<;>first|rfl|(exfalso;(simp only[dT,dF,bt,ky]at*;first|(rw[eL om]at hs;cases hs;done)|(rw[rS om,pb,d2]at hs;cases hs;done)|(have h0:=hP _ (gE (P:=P) (t:=j) om);rw[rS om,pb,d2,←vO hL h0.1 h0.2.1 om]at hs;simp only[at_]at hs;rw[d3]at hs;cases hs;done))))|(first|exact tz|decide|((try simp only[ek,bt,ky,dT,dF]at*)<;>first|omega|(have h0:=hP _ (gE (P:=P) (t:=j) om);have h1:0<(ab P j).length:=lV.2 h0.1;first|omega|(have h2:=h0.2.1.at (t:=0) h1;omega))))
theorem Wk {p:Int}{L:LC}(h1:ff p L=true)(h2:L.all i9=true):aL L:=by
 simp only[ff,aX]at h1
 obtain⟨i1,i2,i3⟩:=vH de de h1.2.2
 have hne:L≠[]:=by intro e;rw[e]at h1;cases h1.2.1
 have hd:dB L≤8:=by rcases i2 with i2|i2;omega;exact absurd i2 hne
 refine⟨om,fun c hc=>?_⟩
 have h4:=i1 c hc
 have h5:=yR.1 (bX.1 h2 c hc)
 exact⟨⟨h4.1,om⟩,⟨h4.2.2.1,om⟩,h5.1,h5.2.1⟩
def Wl:List bV:=sM++zX
theorem ym:∀e∈Wl,ch Tryz.prog e:=by
 intro e he
 rcases dV.1 he with he|he
 ·exact rU e he
 ·exact m6 e he
theorem zy (p:Int)(L:LC):j9 p L=(ff p L&&(L.all i9&&(aF L).all (pb L))):=rfl
theorem Tp (p:Int)(L:LC)(hn:L.length≤1000)(h1:ff p L=false):ar Tryz.prog [] 72 [.agg [.int .i64 p,aD L]] (.bool (j9 p L)):=by
 have k1:ff p (ag L.length fun i=>(L.getD i z0c).rvs)=false:=rh
 refine pr (cE ym) Tryz.func72 aC ?_
 refine lr [true] [false=j9 p L,aj (!ff p (ag L.length fun i=>(L.getD i z0c).rvs)) true,(lz L)∧L.length≤1000] ⟨?_,(dN k1),(?_:(lz L)∧L.length≤1000)⟩
 all_goals first|(first|exact tz|exact kt|(rw[zy,h1];rfl))
theorem Tq (p:Int)(L:LC)(hn:L.length≤1000)(h1:ff p L=true)(h2:L.all i9=false):ar Tryz.prog [] 72 [.agg [.int .i64 p,aD L]] (.bool (j9 p L)):=by
 have k1:ff p (ag L.length fun i=>(L.getD i z0c).rvs)=true:=rh
 refine pr (cE ym) Tryz.func72 (aW (FR p L hn)) ?_
 refine lr [false,false] [false=j9 p L,lq L,rq (↑L.length:Int),p=p,lq L,aj (L.all i9) false,aj (!ff p (ag L.length fun i=>(L.getD i z0c).rvs)) false,(lz L)∧L.length≤1000] ⟨?_,?_,?_,?_,?_,h2,(dN k1),(?_:(lz L)∧L.length≤1000)⟩
 all_goals first|(first|exact tz|exact kt|(rw[zy,h1,h2];rfl))
theorem Ts (p:Int)(L:LC)(hn:L.length≤1000)(hL:aL L)(h1:ff p L=true)(h2:L.all i9=true):ar Tryz.prog [] 72 [.agg [.int .i64 p,aD L]] (.bool (j9 p L)):=by
 have k1:ff p (ag L.length fun i=>(L.getD i z0c).rvs)=true:=rh
 refine pr (cE ym) Tryz.func72 (yN (FR p L hn) (aW (To p L (aF L) hL jA (cU kB hn)))) ?_
 refine(let y1:List Prop:=(let v1:=ag L.length fun i=>(L.getD i z0c).rvs;[(lz L)∧dv v1,lq L,rq (↑L.length:Int),p=p,lq L,aj (L.all i9) true,aj (!ff p v1) false,(lz L)∧L.length≤1000]);have u1:ao y1:=⟨?_,?_,?_,?_,?_,h2,(dN k1),(?_:(lz L)∧L.length≤1000)⟩;oe ((aF L).all (pb L)) (fun d1=>lr (tp 211) (let v1:=ag L.length fun i=>(L.getD i z0c).rvs;(true=j9 p L)::((aF v1).length=(aF L).length∧(fun i=>[rI IntKind.i64 ((aF v1).getD i [])])=fun i=>[rI IntKind.i64 ((aF L).getD i [])])::((↑(aF v1).length:Int)=(↑(aF L).length:Int))::(p=p)::(lq L)::ty d1::y1) ⟨?_,?_,?_,?_,?_,d1,u1⟩)
  (fun d1=>lr (tp 212) (let v1:=ag L.length fun i=>(L.getD i z0c).rvs;(false=j9 p L)::((aF v1).length=(aF L).length∧(fun i=>[rI IntKind.i64 ((aF v1).getD i [])])=fun i=>[rI IntKind.i64 ((aF L).getD i [])])::((↑(aF v1).length:Int)=(↑(aF L).length:Int))::(p=p)::(lq L)::ty d1::y1) ⟨?_,?_,?_,?_,?_,d1,u1⟩))
 all_goals first|(first|exact tz|exact kt|exact xp|exact tU|(rw[zy,h1,h2,d1];rfl))
theorem uf (p:Int)(L:LC)(hn:L.length≤1000):ar Tryz.prog [] 72 [.agg [.int .i64 p,aD L]] (.bool (be p L)):=by
 rw[←zM]
 cases h1:ff p L with
 |false=>exact Tp p L hn h1
 |true=>
  cases h2:L.all i9 with
  |false=>exact Tq p L hn h1 h2
  |true=>exact Ts p L hn (Wk h1 h2) h1 h2
theorem Sn {L:List Con}{i t:Int}{k:Nat}(h:k≠i.toNat):at_ (cG L i t) k=at_ L k:=by
 unfold cG
 rw[Hn,if_neg]
 intro e;exact h e.1.symm
end Go.Proofs.YtmeljalphfcieaaGreatDoor.S
namespace Go.Proofs.YtmeljalphfcieaaGreatDoor.S
section
open Go.QfSy Go.RowKit
end
section
open Go.QfSy Go.RowKit
end
end Go.Proofs.YtmeljalphfcieaaGreatDoor.S
namespace Go.Proofs.YtmeljalphfcieaaGreatDoor.S
open Go.QfSy Go.RowKit
theorem Qr {L M:List Con}(h:L.length=M.length)(k:∀i,i<L.length→at_ L i=at_ M i):L=M:=by
 refine List.ext_getElem h (fun i h1 h2=>?_)
 have:=k i h1
 simpa [at_,h1,h2]using this
end Go.Proofs.YtmeljalphfcieaaGreatDoor.S
namespace Go.Proofs.YtmeljalphfcieaaGreatDoor.S
section
open Go.QfSy Go.RowKit
end
end Go.Proofs.YtmeljalphfcieaaGreatDoor.S
namespace Go.Proofs.YtmeljalphfcieaaGreatDoor.S
open Go.QfSy Go.RowKit
theorem qa {L:List Con}{i t:Int}{k:Nat}:at_ (cG L i t) k=if i.toNat=k∧k<L.length then{at_ L k with oddity:=t}else at_ L k:=by
 unfold cG
 rw[Hn]
 split
 ·rename_i h;rw[h.1]
 ·rfl
end Go.Proofs.YtmeljalphfcieaaGreatDoor.S
namespace Go.Proofs.YtmeljalphfcieaaGreatDoor.S
section
open Go.QfSy Go.RowKit
end
end Go.Proofs.YtmeljalphfcieaaGreatDoor.S
namespace Go.Proofs.YtmeljalphfcieaaGreatDoor.S
open Go.QfSy Go.RowKit
def wO (c:Con)(t:Int):Con:={c with oddity:=t}
def es (L:List Con):List Int→Int→Bool
 |[]=>fun tot=>tot==0
 |i::l=>fun tot=>(List.range 8).any fun t=>b7 (wO (at_ L i.toNat) (t:Int))&&es L l ((tot+8-(t:Int))%8)
def gu (g:Int→List Con→Bool×List Con)(i tot:Int):Nat→Nat→List Con→Bool×List Con
 |0,_,M=>(false,M)
 |n+1,t,M=>bif b7 (at_ (cG M i (t:Int)) i.toNat)then
  (bif(g ((tot+8-(t:Int))%8) (cG M i (t:Int))).1 then(true,(g ((tot+8-(t:Int))%8) (cG M i (t:Int))).2)else gu g i tot n (t+1) (g ((tot+8-(t:Int))%8) (cG M i (t:Int))).2)
  else gu g i tot n (t+1) (cG M i (t:Int))
def bT:List Int→Int→List Con→Bool×List Con
 |[]=>fun tot M=>(tot==0,M)
 |i::l=>fun tot M=>gu (bT l) i tot 8 0 M
def fJ (p:Nat→Bool):Nat→Nat→Option Nat
 |0,_=>none
 |n+1,t=>bif p t then some t else fJ p n (t+1)
def jq (M:List Con)(i:Int)(l:List Int)(tot:Int)(t:Nat):Bool:=b7 (wO (at_ M i.toNat) (t:Int))&&es M l ((tot-(t:Int)+8)%8)
def eE:List Int→Int→List Con→Option (List Con)
 |[]=>fun _ M=>some M
 |i::l=>fun tot M=>match fJ (jq M i l tot) 8 0 with
  |none=>none
  |some t=>eE l ((tot-(t:Int)+8)%8) (cG M i (t:Int))
structure eW (l:List Int)(A B:List Con):Prop where
 len:A.length=B.length
 eq:∀k,wO (at_ A k) 0=wO (at_ B k) 0
 out:∀k:Nat,(k:Int)∉l→at_ A k=at_ B k
theorem eW.refl (l:List Int)(A:List Con):eW l A A:=⟨rfl,fun _=>rfl,fun _ _=>rfl⟩
theorem eW.trans {l:List Int}{A B C:List Con}(h:eW l A B)(k:eW l B C):eW l A C:=⟨h.len.trans k.len,fun j=>(h.eq j).trans (k.eq j),fun j hj=>(h.out j hj).trans (k.out j hj)⟩
theorem eW.symm {l:List Int}{A B:List Con}(h:eW l A B):eW l B A:=⟨h.len.symm,fun j=>(h.eq j).symm,fun j hj=>(h.out j hj).symm⟩
theorem eW.mono {l l':List Int}{A B:List Con}(h:eW l A B)(k:∀x∈l,x∈l'):eW l' A B:=⟨h.len,h.eq,fun j hj=>h.out j (fun hm=>hj (k _ hm))⟩
theorem vC {c d:Con}(h:wO c 0=wO d 0)(t:Int):wO c t=wO d t:=by
 have:wO (wO c 0) t=wO (wO d 0) t:=by rw[h]
 exact this
theorem Qe {l:List Int}{A:List Con}{i t:Int}(h0:0≤i)(hi:i∈l):eW l (cG A i t) A:=by
 refine⟨md,fun k=>?_,fun k hk=>?_⟩
 ·rw[qa]
  split
  ·rfl
  ·rfl
 ·exact Sn (fun e=>hk (by rw[e];rw[Int.toNat_of_nonneg h0];exact hi))
theorem Dx {l:List Int}{A B:List Con}{i t:Int}(h0:0≤i)(h:eW (i::l) A B):eW l (cG A i t) (cG B i t):=by
 refine⟨by rw[md,md];exact h.len,fun k=>?_,fun k hk=>?_⟩
 ·rw[qa,qa,h.len]
  split
  ·exact h.eq k
  ·exact h.eq k
 ·rw[qa,qa,h.len]
  by_cases hk':i.toNat=k
  ·by_cases hl:k<B.length
   ·rw[if_pos ⟨hk',hl⟩,if_pos ⟨hk',hl⟩]
    exact vC (h.eq k) t
   ·rw[if_neg (fun e=>hl e.2),if_neg (fun e=>hl e.2)]
    have e1:at_ A k=Con.zero:=by have:=h.len;simp[at_,cj,gL (show A.length≤k by omega)]
    have e2:at_ B k=Con.zero:=by simp[at_,cj,gL (show B.length≤k by omega)]
    rw[e1,e2]
  ·rw[if_neg (fun e=>hk' e.1),if_neg (fun e=>hk' e.1)]
   refine h.out k (fun hm=>?_)
   rcases bx.1 hm with e|e
   ·exact hk' (by rw[←e];rfl)
   ·exact hk e
theorem uA {A B:List Con}(h:∀k,wO (at_ A k) 0=wO (at_ B k) 0):∀{l:List Int}{tot:Int},es A l tot=es B l tot
 |[],_=>rfl
 |i::l,tot=>by
  simp only[es]
  congr 1
  funext t
  rw[vC (h i.toNat) t,uA h]
theorem Qf {A B:List Con}(h:∀k,wO (at_ A k) 0=wO (at_ B k) 0)(i:Int)(l:List Int)(tot:Int):jq A i l tot=jq B i l tot:=by
 funext t
 unfold jq
 rw[vC (h i.toNat) t,uA h]
theorem Dy {p:Nat→Bool}:∀{n t:Nat},(fJ p n t).isSome=(List.range' t n).any p
 |0,_=>rfl
 |n+1,t=>by
  simp only[fJ,List.range'_succ,List.any_cons]
  cases p t with
  |true=>rfl
  |false=>simp only[bg,pK];exact Dy
theorem zk (tot:Int)(t:Nat):(tot-(t:Int)+8)%8=(tot+8-(t:Int))%8:=by congr 1;omega
theorem yi (M:List Con)(i:Int)(l:List Int)(tot:Int):es M (i::l) tot=(fJ (jq M i l tot) 8 0).isSome:=by
 rw[Dy,←List.range_eq_range']
 simp only[es]
 congr 1
 funext t
 unfold jq
 rw[zk]
theorem U7 {M:List Con}{i t:Int}(hi:i.toNat<M.length):at_ (cG M i t) i.toNat=wO (at_ M i.toNat) t:=by
 rw[qa,if_pos ⟨rfl,hi⟩];rfl
theorem rP {l:List Int}{i tot:Int}{M:List Con}(h0:0≤i)(hi:i.toNat<M.length)
 (ih1:∀tot M0,M0.length=M.length→(bT l tot M0).1=es M0 l tot)(ih2:∀tot M0,M0.length=M.length→eW l (bT l tot M0).2 M0):∀{n t:Nat}{M0:List Con},eW (i::l) M0 M→
 eW (i::l) (gu (bT l) i tot n t M0).2 M∧(match fJ (jq M i l tot) n t with
  |none=>(gu (bT l) i tot n t M0).1=false
  |some t0=>(gu (bT l) i tot n t M0).1=true∧∃M1,eW l M1 (cG M i (t0:Int))∧es M1 l ((tot+8-(t0:Int))%8)=true∧(gu (bT l) i tot n t M0).2=(bT l ((tot+8-(t0:Int))%8) M1).2)
 |0,t,M0,hM=>⟨hM,rfl⟩
 |n+1,t,M0,hM=>by
  have hi0:i.toNat<M0.length:=by rw[hM.len];exact hi
  have hs:eW (i::l) (cG M0 i (t:Int)) M:=(Qe h0 cZ).trans hM
  have e1:b7 (at_ (cG M0 i (t:Int)) i.toNat)=b7 (wO (at_ M i.toNat) (t:Int)):=by rw[U7 hi0,vC (hM.eq _)]
  have e2:(bT l ((tot+8-(t:Int))%8) (cG M0 i (t:Int))).1=es M l ((tot+8-(t:Int))%8):=by rw[ih1 _ _ hs.len,uA hs.eq]
  have e3:jq M i l tot t=(b7 (wO (at_ M i.toNat) (t:Int))&&es M l ((tot+8-(t:Int))%8)):=by unfold jq;rw[zk]
  have hlen:(cG M0 i (t:Int)).length=M.length:=hs.len
  have h2:eW (i::l) (bT l ((tot+8-(t:Int))%8) (cG M0 i (t:Int))).2 M:=((ih2 _ _ hlen).mono (fun x hx=>fT _ hx)).trans hs
  simp only[gu,fJ,e1,e2,e3]
  cases hl:b7 (wO (at_ M i.toNat) (t:Int))with
  |false=>
   simp only[bg,Bool.false_and]
   exact rP h0 hi ih1 ih2 hs
  |true=>
   cases hc:es M l ((tot+8-(t:Int))%8)with
   |false=>
    simp only[bg,aM,l3]
    exact rP h0 hi ih1 ih2 h2
   |true=>
    simp only[aM,Bool.and_true]
    exact⟨h2,by trivial,cG M0 i (t:Int),Dx h0 hM,by rw[uA hs.eq];exact hc,by trivial⟩
theorem yC:∀{l:List Int}{n:Nat},bR n l→(∀tot M,M.length=n→(bT l tot M).1=es M l tot)∧(∀tot M,M.length=n→eW l (bT l tot M).2 M)∧
 (∀tot M M',M.length=n→es M l tot=true→eW l M' M→eE l tot M'=some (bT l tot M).2)
 |[],n,_=>⟨fun _ _ _=>rfl,fun _ _ _=>.refl _ _,fun tot M M' hn _ h=>by
  simp only[eE,bT]
  congr 1
  refine Qr h.len (fun k _=>h.out k si)⟩
 |i::l,n,hl=>by
  obtain⟨a1,a2,a3⟩:=yC (l:=l) (n:=n) (fun x hx=>hl x (fT _ hx))
  have hi:=hl i cZ
  have b1:∀M:List Con,M.length=n→∀tot M0,M0.length=M.length→(bT l tot M0).1=es M0 l tot:=fun M hM tot M0 h=>a1 tot M0 (h.trans hM)
  have b2:∀M:List Con,M.length=n→∀tot M0,M0.length=M.length→eW l (bT l tot M0).2 M0:=fun M hM tot M0 h=>a2 tot M0 (h.trans hM)
  refine⟨fun tot M hn=>?_,fun tot M hn=>?_,fun tot M M' hn hc h=>?_⟩
  ·have:=(rP (tot:=tot) hi.1 om (b1 M hn) (b2 M hn) (n:=8) (t:=0) (eW.refl _ M)).2
   rw[yi]
   show(gu (bT l) i tot 8 0 M).1=_
   revert this
   cases fJ (jq M i l tot) 8 0 with
   |none=>exact fun h=>h
   |some t0=>exact fun h=>h.1
  ·exact(rP (tot:=tot) hi.1 om (b1 M hn) (b2 M hn) (n:=8) (t:=0) (eW.refl _ M)).1
  ·have:=(rP (tot:=tot) hi.1 om (b1 M hn) (b2 M hn) (n:=8) (t:=0) (eW.refl _ M)).2
   rw[yi]at hc
   simp only[eE]
   rw[Qf h.eq]
   revert this hc
   cases fJ (jq M i l tot) 8 0 with
   |none=>intro hc;cases hc
   |some t0=>
    rintro _ ⟨_,M1,h1,h2,h3⟩
    show eE l ((tot-(t0:Int)+8)%8) (cG M' i (t0:Int))=some (gu (bT l) i tot 8 0 M).2
    rw[h3,zk]
    exact a3 _ M1 _ (by rw[h1.len,md];exact hn) h2 ((Dx hi.1 h).trans h1.symm)
def eR (L0:List Con):List (List Int)→List Con→Option (List Con)
 |[],M=>some M
 |l::P,M=>bif(bT l (eC L0 l) M).1 then eR L0 P (bT l (eC L0 l) M).2 else none
def fC:List (List Int)→List Con→Option (List Con)
 |[],M=>some M
 |l::P,M=>match eE l (at_ M (l.getD 0 0).toNat).oddity M with
  |none=>none
  |some M1=>fC P M1
theorem Qg {l:List Int}{tot:Int}{M:List Con}(hne:l≠[])(h:es M l tot=false):eE l tot M=none:=by
 cases l with
 |nil=>exact absurd rfl hne
 |cons i l=>
  rw[yi]at h
  simp only[eE]
  cases hf:fJ (jq M i l tot) 8 0 with
  |none=>rfl
  |some t=>rw[hf]at h;cases h
theorem GA {L0:List Con}:∀{P:List (List Int)}{M:List Con},M.length=L0.length→P.flatten.Nodup→(∀l∈P,l≠[]∧bR L0.length l∧eC L0 l=(at_ L0 (l.getD 0 0).toNat).oddity)→(∀x∈P.flatten,at_ M x.toNat=at_ L0 x.toNat)→fC P M=eR L0 P M
 |[],M,_,_,_,_=>rfl
 |l::P,M,hn,hd,hP,hM=>by
  obtain⟨h1,h2,h3⟩:=hP l cZ
  obtain⟨a1,a2,a3⟩:=yC (l:=l) (n:=L0.length) h2
  have hmem:l.getD 0 0∈l:=by cases l with|nil=>exact absurd rfl h1|cons a l=>simp
  have e:(at_ M (l.getD 0 0).toNat).oddity=eC L0 l:=by rw[h3,hM _ (by simp only[List.flatten_cons,dV];exact .inl hmem)]
  simp only[fC,eR]
  rw[e,a1 _ _ hn]
  cases hc:es M l (eC L0 l)with
  |false=>rw[Qg h1 hc];rfl
  |true=>
   rw[a3 _ M M hn hc (.refl _ _)]
   simp only[aM]
   simp only[List.flatten_cons,List.nodup_append]at hd
   have g:=a2 (eC L0 l) M hn
   refine GA (g.len.trans hn) hd.2.1 (fun x hx=>hP x (fT _ hx)) (fun x hx=>?_)
   have hx0:0≤x:=by
    obtain⟨q,hq,hxq⟩:=List.mem_flatten.1 hx
    exact((hP q (fT _ hq)).2.1 x hxq).1
   rw[g.out x.toNat (fun hm=>by rw[Int.toNat_of_nonneg hx0]at hm;exact hd.2.2 x hm x hx rfl)]
   exact hM x (by simp only[List.flatten_cons,dV];exact .inr hx)
theorem Dz {L:List Con}:∀{l:List Int},(l.all fun i=>(at_ L i.toNat).oddity==0)=true→fO L l=0
 |[],_=>rfl
 |i::l,h=>by
  simp only[kZ,aX,b6]at h
  simp only[fO,h.1,Dz h.2];rfl
theorem So {p:Int}{L:List Con}(h:be p L=true):∀l∈aF L,l≠[]∧bR L.length l∧eC L l=(at_ L (l.getD 0 0).toNat).oddity:=by
 intro l hl
 obtain⟨h1,h2,_⟩:=jA l hl
 refine⟨h1,h2,?_⟩
 rw[←zM]at h
 simp only[j9,aX]at h
 obtain⟨_,h3,h4⟩:=h
 have h5:=bX.1 h4 l hl
 simp only[aX]at h5
 cases l with
 |nil=>exact absurd rfl h1
 |cons i l=>
  have hz:fO L l=0:=Dz h5.1
  have hi:=h2 i cZ
  have hf:=(zL _).1 h3 i.toNat om
  simp only[aX,nv,gC]at hf
  show(fO L (i::l))%8=(at_ L i.toNat).oddity
  simp only[fO,hz]
  have:=hf.2.1
  omega
def jr (L:List Con):Option (List Con):=eR L (aF L) L
theorem Eo {p:Int}{L:List Con}(h:be p L=true):fC (aF L) L=jr L:=
 GA rfl (Ol L) (So h) (fun _ _=>rfl)
def gb (S:Nat→Bool)(c:Con)(q:Nat):Bool:=(List.range 8).any fun o=>b7 (wO c (o:Int))&&S ((q+8-o)%8)
def aO (M:List Con):List Int→(Nat→Bool)→Nat→Bool
 |[],S=>S
 |i::l,S=>aO M l (gb S (at_ M i.toNat))
def dO (S:Nat→Bool)(c:Con)(o q:Nat):Bool:=(List.range o).any fun a=>b7 (wO c (a:Int))&&S ((q+8-a)%8)
theorem P0 (S:Nat→Bool)(c:Con)(o q:Nat):dO S c (o+1) q=(dO S c o q||(b7 (wO c (o:Int))&&S ((q+8-o)%8))):=by
 unfold dO
 rw[n9,List.any_append]
 simp
def bh (g:Bool)(S n:Nat→Bool)(o s q:Nat):Bool:=n q||(g&&(Nat.blt ((q+8-o)%8) s&&S ((q+8-o)%8)))
theorem P1 (g:Bool)(S n:Nat→Bool)(o q:Nat):bh g S n o 0 q=n q:=by
 unfold bh
 have:Nat.blt ((q+8-o)%8) 0=false:=by
  cases h:Nat.blt ((q+8-o)%8) 0 with
  |false=>rfl
  |true=>have:=aU h;omega
 rw[this];simp
theorem P2 (g:Bool)(S n:Nat→Bool)(o q:Nat):bh g S n o 8 q=(n q||(g&&S ((q+8-o)%8))):=by
 unfold bh
 have:Nat.blt ((q+8-o)%8) 8=true:=gK om
 rw[this,jZ]
theorem uX {a b:Nat}:Nat.blt a b=decide (a<b):=by
 cases h:Nat.blt a b with
 |true=>have:a+1≤b:=aU h;simp;omega
 |false=>
  cases h2:decide (a<b)with
  |false=>rfl
  |true=>
   have:Nat.blt a b=true:=gK (dE h2)
   rw[h]at this;cases this
theorem RX {g:Bool}{S n:Nat→Bool}{o s q:Nat}(hq:q<8)(ho:o≤8)(hs:s<8)(h1:S s=true)(h2:g=true):(bif Nat.beq q ((s+o)%8)then true else bh g S n o s q)=bh g S n o (s+1) q:=by
 unfold bh
 rw[uX,uX,h2]
 cases h:Nat.beq q ((s+o)%8)with
 |true=>
  have e:=co h
  have e2:(q+8-o)%8=s:=by omega
  rw[e2,h1];simp
 |false=>
  have e:q≠(s+o)%8:=fun e=>by rw[←e,mY]at h;cases h
  have e2:(q+8-o)%8≠s:=by omega
  have e3:decide ((q+8-o)%8<s+1)=decide ((q+8-o)%8<s):=by
   rw[decide_eq_decide];omega
  rw[e3];rfl
theorem F9 {g:Bool}{S n:Nat→Bool}{o s q:Nat}(h:S s=false∨g=false):bh g S n o s q=bh g S n o (s+1) q:=by
 unfold bh
 rw[uX,uX]
 rcases h with h|h
 ·by_cases e:(q+8-o)%8=s
  ·rw[e,h];simp
  ·have e3:decide ((q+8-o)%8<s+1)=decide ((q+8-o)%8<s):=by
    rw[decide_eq_decide];omega
   rw[e3]
 ·rw[h];rfl
theorem uY {p:Nat→Bool}{n:Nat}:(List.range n).any p=true↔∃a,a<n∧p a=true:=by
 rw[List.any_eq_true]
 constructor
 ·rintro⟨a,h1,h2⟩;exact⟨a,jj.1 h1,h2⟩
 ·rintro⟨a,h1,h2⟩;exact⟨a,jj.2 h1,h2⟩
theorem uK {M:List Con}{l:List Int}{a b:Int}(h:a=b):es M l a=es M l b:=by rw[h]
theorem Ga {M:List Con}:∀{l:List Int}{S:Nat→Bool}{q:Nat},q<8→(aO M l S q=true↔∃a,a<8∧S a=true∧es M l (((q+8-a)%8:Nat):Int)=true)
 |[],S,q,hq=>by
  show S q=true↔_
  constructor
  ·intro h
   refine⟨q,hq,h,?_⟩
   have:(q+8-q)%8=0:=by omega
   rw[this];rfl
  ·rintro⟨a,h1,h2,h3⟩
   have h3:((((q+8-a)%8:Nat):Int)==0)=true:=h3
   rw[b6]at h3
   have:a=q:=by omega
   rw[←this];exact h2
 |i::l,S,q,hq=>by
  show aO M l (gb S (at_ M i.toNat)) q=true↔_
  rw[Ga hq]
  constructor
  ·rintro⟨a,h1,h2,h3⟩
   obtain⟨o,ho,h4⟩:=uY.1 h2
   rw[aX]at h4
   refine⟨(a+8-o)%8,om,h4.2,?_⟩
   simp only[es]
   refine uY.2 ⟨o,ho,?_⟩
   rw[aX]
   refine⟨h4.1,?_⟩
   rw[←h3]
   exact uK om
  ·rintro⟨a,h1,h2,h3⟩
   simp only[es]at h3
   obtain⟨o,ho,h4⟩:=uY.1 h3
   rw[aX]at h4
   refine⟨(a+o)%8,om,uY.2 ⟨o,ho,?_⟩,?_⟩
   ·rw[aX]
    refine⟨h4.1,?_⟩
    have:((a+o)%8+8-o)%8=a:=by omega
    rw[this];exact h2
   ·rw[←h4.2]
    exact uK om
def aR (q:Nat):Bool:=Nat.beq q 0
theorem RY {M:List Con}{l:List Int}{q:Nat}(hq:q<8):aO M l aR q=es M l (q:Int):=by
 have h:=Ga (M:=M) (l:=l) (S:=aR) hq
 have e:(∃a,a<8∧aR a=true∧es M l (((q+8-a)%8:Nat):Int)=true)↔es M l (q:Int)=true:=by
  constructor
  ·rintro⟨a,h1,h2,h3⟩
   have h2:a=0:=co h2
   subst h2
   rw[←h3];exact uK om
  ·intro h
   refine⟨0,om,rfl,?_⟩
   rw[←h];exact uK om
 rw[e]at h
 cases h1:aO M l aR q<;>cases h2:es M l (q:Int)<;>simp_all
theorem Dp {M:List Con}:∀{a b:List Int}{S:Nat→Bool},aO M (a++b) S=aO M b (aO M a S)
 |[],_,_=>rfl
 |i::a,b,S=>by show aO M (a++b) _=aO M b (aO M a _);rw[Dp]
end Go.Proofs.YtmeljalphfcieaaGreatDoor.S
end
