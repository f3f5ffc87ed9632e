/- A part of the proof of ExistenceOne: ZFN, ZFP, ZFZ, ZFQ, ZTY, YM, YL, QA, ZFA, QB, QC, EP, EB. -/
import Derived.Test.YtdbdoalefmliiaaGreatDoorPkE2
import Derived.Laws.Bits64
set_option linter.unusedSimpArgs false
set_option linter.unusedVariables false
set_option maxRecDepth 100000
open Go.IntKind renaming i64 → w6
noncomputable section
namespace Go.QfSy
open Go.RowKit
structure cS where
 f:Nat
 args:List AV
 pre:List (Nat×ag)
 nx:Nat
 test:Option Bool
 post:Bool→AV×List (Nat×ag)×Nat
def cS.TestOk (A:cS)(d:Bool):Prop:=match A.test with
 |none=>d=true
 |some c=>c=d
def aP (P:Program)(ng:Nat)(A:cS):Prop:=
 (∃fn,P.funcs[A.f]? =some fn∧fn.body.isSome=true)∧∀d,A.TestOk d→∀γ w Args,aJ γ (aI A.pre).get A.nx w→ap γ A.args Args→iO ng γ→
   Calls P A.f Args.toArray w fun e w'=>∃V γ',e=.returned V∧aj γ' (A.post d).1 V∧be γ (aI A.pre).get w γ' (aI (A.post d).2.1).get (A.post d).2.2 w'∧∀b,b<A.nx→γ' b=γ b
mutual
theorem zk {γ1 γ2:Gm}{σ:Nat→Nat}{p:Nat→Bool}(hs:∀b,p b=true→γ2 (σ b)=γ1 b)(hz:γ2.fz=γ1.fz):∀{v:AV}{V:Value},je p v=true→aj γ1 v V→aj γ2 (bW σ v) V:=by
 intro v V hn h
 cases v with
 |ptr b o=>simp only[bW];cases h with|ptr _ hg=>exact .ptr _ (by rw[hs b hn];exact hg)
 |slc b o n c=>simp only[bW];cases h with|slc _ _ _ hg=>exact .slc _ _ _ (by rw[hs b hn];exact hg)
 |lo b n=>simp only[bW];cases h with|lo _ hg=>exact .lo _ (by rw[hs b hn];exact hg)
 |lp b i z j=>simp only[bW];cases h with|lp _ _ _ hg=>exact .lp _ _ _ (by rw[hs b hn];exact hg)
 |ls b o z n e=>simp only[bW];cases h with|ls _ _ _ hg ha hc he=>exact .ls _ _ _ (by rw[hs b hn];exact hg) ha hc he
 |fn f vs=>simp only[bW];cases h with|fn _ hv=>exact .fn _ (qc hs hz hn hv)
 |ifc t u=>simp only[bW];cases h with|ifc _ hv=>exact .ifc _ (zk hs hz hn hv)
 |agg vs=>simp only[bW];cases h with|agg hv=>exact .agg (qc hs hz hn hv)
 |tup vs=>simp only[bW];cases h with|tup hv=>exact .tup (qc hs hz hn hv)
 |vbool b=>simp only[bW];cases h;exact .vbool _
 |vint k n=>simp only[bW];cases h;exact .vint _ _
 |vstr s=>simp only[bW];cases h;exact .vstr _
 |verr b=>simp only[bW];cases h with|verr hR=>exact .verr hR
 |vnum k=>simp only[bW];cases h;exact .vnum _ _
 |ro n sz row=>simp only[bW];cases h with|ro hR=>exact .ro (by rw[hz];exact hR)
 |rp cs j=>simp only[bW];cases h with|rp hR hf=>exact .rp (by rw[hz];exact hR) (fun i v hv=>by rw[hz];exact hf i v hv)
 |z0=>simp only[bW];cases h;exact .z0 _
 |bool b=>simp only[bW];cases h;exact .bool _
 |int k n=>simp only[bW];cases h;exact .int _ _
 |str s=>simp only[bW];cases h;exact .str _
 |nilp=>simp only[bW];cases h;exact .nilp
 |nils=>simp only[bW];cases h;exact .nils
 |emp=>simp only[bW];cases h;exact .emp _ _
 |zer=>simp only[bW];cases h;exact .zer _
 |nilfn=>simp only[bW];cases h;exact .nilfn
 |nilif=>simp only[bW];cases h;exact .nilif
theorem qc {γ1 γ2:Gm}{σ:Nat→Nat}{p:Nat→Bool}(hs:∀b,p b=true→γ2 (σ b)=γ1 b)(hz:γ2.fz=γ1.fz):∀{vs:List AV}{Vs:List Value},io p vs=true→ap γ1 vs Vs→ap γ2 (fQ σ vs) Vs:=by
 intro vs Vs hn h
 cases vs with
 |nil=>simp only[fQ];cases h;exact .nil
 |cons v vs=>
  simp only[fQ]
  simp only[io,bj]at hn
  cases h with
  |cons hv ht=>exact .cons (zk hs hz hn.1 hv) (qc hs hz hn.2 ht)
end
theorem Eg (σ:Nat→Nat):∀(a b:List AV),fQ σ (a++b)=fQ σ a++fQ σ b
 |[],b=>rfl
 |v::a,b=>by simp only[kT,fQ,Eg σ a b]
theorem Gw (σ:Nat→Nat)(kk:IntKind):∀L:List (List Int),fQ σ (L.map (fU kk))=L.map (fU kk)
 |[]=>rfl
 |l::L=>by simp only[jH,fQ,Gw σ kk L];rfl
theorem Gx {p:Nat→Bool}(kk:IntKind){b n:Nat}:∀L:List (List Int),p b=true→io p (L.map (fU kk)++[.lo b n])=true
 |[],h=>by simp[io,je,h]
 |l::L,h=>by simp only[jH,kT,io,Gx kk L h,Bool.and_true];rfl
theorem OH {γ1 γ2:Gm}{σ:Nat→Nat}{p:Nat→Bool}(hs:∀b,p b=true→γ2 (σ b)=γ1 b)(hz:γ2.fz=γ1.fz){k:ag}(hn:g7 p k.view=true){cs:List Value}(h:ap γ1 k.cells cs):ap γ2 (gA σ k).cells cs:=by
 obtain⟨view,el,sz,opn,own⟩:=k
 cases view with
 |plain l=>exact qc hs hz hn h
 |con L=>exact yr L cs h
 |ints kk L=>exact yu kk L cs h
 |vals τ L=>exact yv hz L cs h
 |rows kk L b n=>
  have h:ap γ1 (L.map (fU kk)++[.lo b n]) cs:=h
  show ap γ2 (L.map (fU kk)++[.lo (σ b) n]) cs
  have e:fQ σ (L.map (fU kk)++[.lo b n])=L.map (fU kk)++[.lo (σ b) n]:=by
   rw[Eg,Gw];rfl
  rw[←e]
  exact qc hs hz (Gx kk L hn) h
def ql (ng:Nat)(m:Tr ag):List (Nat×ag)→List (Nat×Nat)→List (Nat×Nat)
 |[],rn=>rn
 |(b,k)::l,rn=>match m.get (dC rn b)with
  |none=>ql ng m l rn
  |some k'=>match k.view,k'.view with
   |.plain cs,.plain cs'=>ql ng m l (nJ ng (nB cs cs') rn)
   |.rows _ _ c _,.rows _ _ c' _=>ql ng m l (nJ ng [(c,c')] rn)
   |_,_=>ql ng m l rn
def vm (rn:List (Nat×Nat)):List (Nat×ag)→Tr ag→Option (Tr ag)
 |[],m=>some m
 |(b,_)::l,m=>match m.set (dC rn b) none with
  |none=>none
  |some m'=>vm rn l m'
def vF (τ:Nat→Nat):List (Nat×ag)→Tr ag→Option (Tr ag)
 |[],m=>some m
 |(b,k)::l,m=>match m.set (τ b) (some (gA τ k))with
  |none=>none
  |some m'=>vF τ l m'
def z6 (rn:List (Nat×Nat))(a n b:Nat):Nat:=bif Nat.blt b a then dC rn b else b-a+n
def Gy (ng:Nat)(A:cS)(rn:List (Nat×Nat))(nx:Nat)(post:AV×List (Nat×ag)×Nat):Bool:=
 rn.all (fun p=>Nat.ble ng p.1&&Nat.blt p.1 A.nx&&Nat.ble ng p.2&&Nat.blt p.2 nx)&&lR (rn.map (·.1))&&lR (rn.map (·.2))&&eP A.pre&&eP post.2.1&&Nat.ble ng A.nx&&Nat.ble A.nx post.2.2&&io (dy ng rn) A.args&&
 je (fun b=>dy ng rn b||(Nat.ble A.nx b&&Nat.blt b post.2.2)) post.1&&
 post.2.1.all (fun q=>(dy ng rn q.1||(Nat.ble A.nx q.1&&Nat.blt q.1 post.2.2))&&g7 (fun b=>dy ng rn b||(Nat.ble A.nx b&&Nat.blt b post.2.2)) q.2.view&&(q.2.own||(Nat.blt q.1 ng&&g7 (fun _=>false) q.2.view)))&&lR (post.2.1.map (·.1))
def sZ (ng:Nat)(A:cS)(args:List AV)(H:Hs):Option (AV×Hs):=
 let rn:=ql ng H.m A.pre (nJ ng (nB A.args args) [])
 match nH args (fQ (dC rn) A.args)with
 |none=>none
 |some m0=>match s9 (dC rn) (dy ng rn) H.m A.pre with
  |none=>none
  |some m1=>match(match A.test with
   |none=>(true,H)
   |some b=>H.ask b)with
   |(d,H1)=>bif Gy ng A rn H.nx (A.post d)&&Nat.ble ng H.nx then
      (match vm rn A.pre H.m with
      |none=>none
      |some m2=>match vF (z6 rn A.nx H.nx) (A.post d).2.1 m2 with
       |none=>none
       |some m3=>some (bW (z6 rn A.nx H.nx) (A.post d).1,⟨m3,H.nx+((A.post d).2.2-A.nx),H1.tp,m0++(m1++H1.ms)⟩))
    else none
theorem Cr {rn:List (Nat×Nat)}:∀{l:List (Nat×ag)}{m m':Tr ag},vm rn l m=some m'→∀c k,m'.get c=some k→m.get c=some k∧∀q∈l,c≠dC rn q.1
 |[],m,m',h,c,k,hc=>by cases h;exact⟨hc,fun q hq=>by cases hq⟩
 |(b,kb)::l,m,m',h,c,k,hc=>by
  simp only[vm]at h
  split at h
  ·cases h
  ·rename_i m1 hs
   obtain⟨h1,h2⟩:=Cr h c k hc
   rw[ej hs]at h1
   by_cases e:c=dC rn b
   ·subst e;rw[eU]at h1;cases h1
   ·rw[dj _ _ e]at h1
    refine⟨h1,fun q hq=>?_⟩
    rcases bC.1 hq with rfl|hq
    ·exact e
    ·exact h2 q hq
theorem CG {τ:Nat→Nat}:∀{l:List (Nat×ag)}{m m':Tr ag},vF τ l m=some m'→∀c k,m'.get c=some k→(∃q∈l,c=τ q.1∧k=gA τ q.2)∨m.get c=some k
 |[],m,m',h,c,k,hc=>by cases h;exact .inr hc
 |(b,kb)::l,m,m',h,c,k,hc=>by
  simp only[vF]at h
  split at h
  ·cases h
  ·rename_i m1 hs
   rcases CG h c k hc with⟨q,h1,h2⟩|h1
   ·exact .inl ⟨q,fk _ h1,h2⟩
   ·rw[ej hs]at h1
    by_cases e:c=τ b
    ·subst e;rw[eU]at h1;cases h1;exact .inl ⟨(b,kb),eB,rfl,rfl⟩
    ·rw[dj _ _ e]at h1;exact .inr h1
theorem Eh {α:Type}:∀{l:List (Nat×α)},eP l=true→lR (l.map (·.1))=true→∀{b:Nat}{k:α},(b,k)∈l→(aI l).get b=some k
 |[],_,_,b,k,h=>by cases h
 |(a,x)::l,hn,ha,b,k,h=>by
  simp only[eP,lI,bj]at hn
  simp only[jH,lR,bj]at ha
  have hj:=aT hn.1
  simp only[aI]
  rw[Tr.get_setF 40 _ a b _ (by simp only[Tr.top]at hj;omega)]
  rcases bC.1 h with e|h
  ·cases e;rw[if_pos rfl]
  ·have hne:b≠a:=by
    intro e
    have:=cK.1 ha.1 b (gv.2 ⟨(b,k),h,rfl⟩)
    rw[e,mu]at this
    cases this
   rw[if_neg hne]
   exact Eh hn.2 ha.2 h
theorem xD {a b:Bool}:(a||b)=true↔a=true∨b=true:=by simp
theorem OI {P:Program}{ng:Nat}{A:cS}(hA:aP P ng A){args:List AV}{H H':Hs}{v:AV}(h:sZ ng A args H=some (v,H')):
 (∀p∈H.ms,p∈H'.ms)∧((∀p∈H'.ms,p)→∀γ w Args,aJ γ H.m.get H.nx w→ap γ args Args→iO ng γ→
 (∃fn,P.funcs[A.f]? =some fn∧fn.body.isSome=true)∧
 Calls P A.f Args.toArray w fun e w'=>∃V γ',e=.returned V∧aj γ' v V∧bT γ H w γ' H' w'):=by
 unfold sZ at h
 simp only at h
 generalize hrn:ql ng H.m A.pre (nJ ng (nB A.args args) [])=rn at h
 split at h
 ·cases h
 rename_i m0 h0
 split at h
 ·cases h
 rename_i m1 h1
 have hask:∀d H1,(match A.test with
  |none=>(true,H)
  |some b=>H.ask b)=(d,H1)→(∀p∈H.ms,p∈H1.ms)∧((∀p∈H1.ms,p)→A.TestOk d):=by
  intro d H1 he
  unfold cS.TestOk
  split at he
  ·cases he;exact⟨fun p hp=>hp,fun _=>rfl⟩
  ·rename_i c hc
   have k:=kq H c
   rw[he]at k
   exact⟨fun p hp=>by rw[k];exact fk _ hp,fun hm=>hm (aa c d) (by rw[k];exact eB)⟩
 generalize hr0:(match A.test with
  |none=>(true,H)
  |some b=>H.ask b)=r at h
 obtain⟨d,H1⟩:=r
 obtain⟨hask1,hask2⟩:=hask d H1 hr0
 simp only at h
 obtain⟨hgood,h'⟩:=ay h
 clear h
 obtain⟨hgood,hngH⟩:=bB hgood
 have hngH:=aT hngH
 split at h'
 ·cases h'
 rename_i m2 hkill
 split at h'
 ·cases h'
 rename_i m3 hput
 cases h'
 refine⟨fun p hp=>by simp[hask1 p hp],fun hm γ w Args hr hV hg=>⟨hA.1,?_⟩⟩
 have hm0:∀p∈m0,p:=fun p hp=>hm p (by simp[hp])
 have hm1:∀p∈m1,p:=fun p hp=>hm p (by simp[hp])
 have htest:A.TestOk d:=hask2 (fun p hp=>hm p (by simp[hp]))
 generalize hpost:A.post d=post at hgood hput
 obtain⟨v0,pm,pnx⟩:=post
 unfold Gy at hgood
 simp only[bj]at hgood
 obtain⟨⟨⟨⟨⟨⟨⟨⟨⟨⟨c1,c2⟩,c3⟩,c4⟩,c5⟩,c6⟩,c7⟩,c8⟩,c9⟩,dr⟩,lB⟩:=hgood
 have c6:=aT c6
 have c7:=aT c7
 have ca:∀p∈rn,ng≤p.1∧p.1<A.nx∧ng≤p.2∧p.2<H.nx:=by
  intro p hp
  have:=cK.1 c1 p hp
  simp only[bj]at this
  obtain⟨⟨⟨a1,a2⟩,a3⟩,a4⟩:=this
  exact⟨aT a1,aT a2,aT a3,aT a4⟩
 have ckeys:rn.all (fun p=>Nat.ble ng p.1)=true:=by
  rw[cK]
  intro p hp
  exact fW (ca p hp).1
 let σ:=dC rn
 have hin:∀b,dy ng rn b=true→(b<ng∧σ b=b)∨(ng≤b∧b<A.nx∧(b,σ b)∈rn):=by
  intro b hb
  unfold dy at hb
  rcases xD.1 hb with h'|h'
  ·have h':=aT h'
   exact .inl ⟨h',iH ckeys h'⟩
  ·have hmem:=lN h'
   have:=ca _ hmem
   exact .inr ⟨this.1,this.2.1,hmem⟩
 have hσlt:∀b,dy ng rn b=true→σ b<H.nx:=by
  intro b hb
  rcases hin b hb with⟨h1,h2⟩|⟨_,_,h3⟩
  ·rw[h2];omega
  ·exact(ca _ h3).2.2.2
 have hilt:∀b,dy ng rn b=true→b<A.nx:=by
  intro b hb
  rcases hin b hb with⟨h1,h2⟩|⟨_,h2,h3⟩<;>omega
 have hσinj:∀b b',dy ng rn b=true→dy ng rn b'=true→σ b=σ b'→b=b':=by
  intro b b' hb hb' he
  rcases hin b hb with⟨h1,h2⟩|⟨h1,h2,h3⟩
  ·rcases hin b' hb' with⟨k1,k2⟩|⟨k1,k2,k3⟩
   ·rw[h2,k2]at he;exact he
   ·have:=(ca _ k3).2.2.1
    rw[←he,h2]at this
    omega
  ·rcases hin b' hb' with⟨k1,k2⟩|⟨k1,k2,k3⟩
   ·have:=(ca _ h3).2.2.1
    simp only at this
    rw[he,k2]at this
    omega
   ·rw[he]at h3
    exact uJ c3 h3 k3
 let γ2:Gm:=⟨fun b=>if dy ng rn b=true then γ (σ b)else none,γ.fz⟩
 have hs:∀b,dy ng rn b=true→γ2 b=γ (σ b):=by
  intro b hb
  show(if _ then _ else _)=_
  rw[if_pos hb]
 have hpre:∀b k,(aI A.pre).get b=some k→dy ng rn b=true∧g7 (dy ng rn) k.view=true∧∃k',H.m.get (σ b)=some k'∧k.elem=k'.elem∧k.sz=k'.sz∧k.opn=k'.opn∧k.own=k'.own∧(∀γ cs,ap γ k'.cells cs→ap γ (gA σ k).cells cs)∧(k.own=false→k'=gA σ k):=
  fun b k hb=>uX _ _ h1 hm1 b k (i7 _ _ _ c4 hb)
 have hown:∀B,eQ γ2 (aI A.pre).get B→eQ γ H.m.get B:=by
  rintro B ⟨b,k,x,q1,q2,q3⟩
  obtain⟨r1,r2,k',r3,r4,r5,r6,r7,r8,r9⟩:=hpre b k q1
  exact⟨σ b,k',x,r3,by rw[←r7];exact q2,by rw[←hs b r1];exact q3⟩
 have hR2:aJ γ2 (aI A.pre).get A.nx w:=by
  refine⟨fun b k hb=>?_,fun b b' k k' B x x' q1 q2 q3 q4=>?_,fun b hb=>?_,hr.fzr,fun b k B x hb ho hgb=>?_⟩
  ·obtain⟨r1,r2,k',r3,r4,r5,r6,r7,r8,r9⟩:=hpre b k hb
   obtain⟨B,x,cs,ex,g1,g2,g3,g4,g5⟩:=hr.blk _ _ r3
   exact⟨B,x,cs,ex,by rw[hs b r1];exact g1,by rw[r4];exact g2,yb hs rfl r2 (r8 γ cs g3),by rw[r5];exact g4,by rw[r6];exact g5⟩
  ·obtain⟨r1,_,kk,r3,_⟩:=hpre b k q1
   obtain⟨s1,_,kk',s3,_⟩:=hpre b' k' q2
   rw[hs b r1]at q3
   rw[hs b' s1]at q4
   exact hσinj b b' r1 s1 (hr.inj _ _ _ _ _ _ _ r3 s3 q3 q4)
  ·show(if _ then _ else _)=_
   rw[if_neg]
   intro hn
   have:=hilt b hn
   omega
  ·obtain⟨r1,r2,k',r3,r4,r5,r6,r7,r8,r9⟩:=hpre b k hb
   rw[hs b r1]at hgb
   exact hr.fzo _ k' B x r3 (by rw[←r7];exact ho) hgb
 have hargs:ap γ2 A.args Args:=oW hs rfl c8 (pT h0 hm0 γ Args hV)
 have hglob:iO ng γ2:=by
  intro g hg'
  have hn:dy ng rn g=true:=xD.2 (.inl (fW hg'))
  rw[hs g hn,show σ g=g from iH ckeys hg']
  exact hg g hg'
 refine(hA.2 d htest γ2 w Args hR2 hargs hglob).mono ?_
 rintro e w' ⟨V,γ',rfl,hv,hst,hkeep⟩
 rw[hpost]at hv hst
 simp only at hv hst
 let τ:=z6 rn A.nx H.nx
 let N:=H.nx+(pnx-A.nx)
 let pq:Nat→Bool:=fun b=>dy ng rn b||(Nat.ble A.nx b&&Nat.blt b pnx)
 have hτlo:∀b,b<A.nx→τ b=σ b:=by
  intro b hb
  show(bif Nat.blt b A.nx then _ else _)=_
  rw[show Nat.blt b A.nx=true from fW hb]
  rfl
 have hτhi:∀b,A.nx≤b→τ b=b-A.nx+H.nx:=by
  intro b hb
  have:Nat.blt b A.nx=false:=by
   cases hx:Nat.blt b A.nx with
   |false=>rfl
   |true=>have:=aT hx;omega
  show(bif Nat.blt b A.nx then _ else _)=_
  rw[this]
  rfl
 have hpq:∀b,pq b=true→dy ng rn b=true∨(A.nx≤b∧b<pnx):=by
  intro b hb
  rcases xD.1 hb with h'|h'
  ·exact .inl h'
  ·obtain⟨k1,k2⟩:=bB h'
   exact .inr ⟨aT k1,aT k2⟩
 let γ3:Gm:=⟨fun b=>if b<H.nx then γ b else if b<N then γ' (b-H.nx+A.nx)else none,γ'.fz⟩
 have hold:∀b,b<H.nx→γ3 b=γ b:=by
  intro b hb
  show(if b<H.nx then _ else _)=_
  rw[if_pos hb]
 have ht:∀b,pq b=true→γ3 (τ b)=γ' b:=by
  intro b hb
  rcases hpq b hb with h'|⟨k1,k2⟩
  ·have hlt:=hilt b h'
   rw[hτlo b hlt,hold _ (hσlt b h'),hkeep b hlt,hs b h']
  ·rw[hτhi b k1]
   show(if _ then _ else _)=_
   rw[if_neg om]
   show(if b-A.nx+H.nx<H.nx+(pnx-A.nx)then _ else _)=_
   rw[if_pos om]
   congr 1
   omega
 have hpm:∀q∈pm,pq q.1=true∧g7 pq q.2.view=true∧(q.2.own=true∨(q.1<ng∧g7 (fun _=>false) q.2.view=true)):=by
  intro q hq
  have:=cK.1 dr q hq
  simp only[bj]at this
  obtain⟨⟨a1,a2⟩,a3⟩:=this
  refine⟨a1,a2,?_⟩
  rcases xD.1 a3 with h'|h'
  ·exact .inl h'
  ·obtain⟨k1,k2⟩:=bB h'
   exact .inr ⟨aT k1,k2⟩
 have hget:∀c kk,m3.get c=some kk→(∃q∈pm,c=τ q.1∧kk=gA τ q.2)∨(H.m.get c=some kk∧∀q∈A.pre,c≠σ q.1):=by
  intro c kk hc
  rcases CG hput c kk hc with h'|h'
  ·exact .inl h'
  ·exact .inr (Cr hkill c kk h')
 have hpmget:∀q∈pm,(aI pm).get q.1=some q.2:=fun q hq=>Eh c5 lB (b:=q.1) (k:=q.2) hq
 have hle:γ.le γ3:=by
  refine⟨fun b p hb=>?_,hst.le.fz⟩
  have hlt:b<H.nx:=by
   rcases bA b H.nx with h'|h'
   ·exact h'
   ·rw[hr.fresh b h']at hb;cases hb
  rw[hold b hlt];exact hb
 -- old blocks that the callee does not see
 have hsafe:∀c kk B x,H.m.get c=some kk→(∀q∈A.pre,c≠σ q.1)→γ c=some (B,x)→B<w.heap.size∧¬eQ γ2 (aI A.pre).get B∧c<H.nx:=by
  intro c kk B x hc hne hgc
  refine⟨hr.lt hc hgc,?_,?_⟩
  ·rintro⟨b,k,y,q1,q2,q3⟩
   obtain⟨r1,r2,k',r3,_⟩:=hpre b k q1
   rw[hs b r1]at q3
   exact hne (b,k) (i7 _ _ _ c4 q1) (hr.inj c (σ b) kk k' B x y hc r3 hgc q3)
  ·rcases bA c H.nx with h'|h'
   ·exact h'
   ·rw[hr.fresh c h']at hgc;cases hgc
 have hcross:∀q c kk B x x',q∈pm→H.m.get c=some kk→(∀q∈A.pre,c≠σ q.1)→γ' q.1=some (B,x)→γ c=some (B,x')→False:=by
  intro q c kk B x x' hq hc hne hgq hgc
  obtain⟨s1,s2,s3⟩:=hsafe c kk B x' hc hne hgc
  have hqg:=hpmget q hq
  cases ho:q.2.own with
  |true=>exact s2 (hst.own B s1 ⟨q.1,q.2,x,hqg,ho,hgq⟩)
  |false=>
   have hpq':=hst.ro q.1 q.2 hqg ho
   obtain⟨r1,r2,k',r3,_⟩:=hpre q.1 q.2 hpq'
   rw[hkeep q.1 (hilt _ r1),hs _ r1]at hgq
   exact hne (q.1,q.2) (i7 _ _ _ c4 hpq') (hr.inj c (σ q.1) kk k' B x' x hc r3 hgc hgq)
 refine⟨V,γ3,rfl,zk ht rfl c9 hv,⟨⟨hle,⟨fun c kk hc=>?_,fun c c' kk kk' B x x' q1 q2 q3 q4=>?_,fun b hb=>?_,hst.rel.fzr,fun c kk B x hc ho hgc=>?_⟩,hst.size,hst.os,hst.tape,hst.output,fun k hk hn=>hst.frame k hk (fun hx=>hn (hown k hx)),fun k hk ho=>?_,fun c kk hc ho=>?_,fun c kk hc=>?_,fun B x hB=>?_,hst.drawn⟩,mn _ _,hold⟩⟩
 ·rcases hget c kk hc with⟨q,hq,rfl,rfl⟩|⟨hc,hne⟩
  ·obtain⟨B,x,cs,ex,g1,g2,g3,g4,g5⟩:=hst.rel.blk q.1 q.2 (hpmget q hq)
   obtain⟨a1,a2,a3⟩:=hpm q hq
   exact⟨B,x,cs,ex,by rw[ht q.1 a1];exact g1,g2,OH ht rfl a2 g3,g4,g5⟩
  ·obtain⟨B,x,cs,ex,g1,g2,g3,g4,g5⟩:=hr.blk c kk hc
   obtain⟨s1,s2,s3⟩:=hsafe c kk B x hc hne g1
   exact⟨B,x,cs,ex,by rw[hold c s3];exact g1,by rw[hst.frame B s1 s2];exact g2,g3.mono hle,g4,g5⟩
 ·rcases hget c kk q1 with⟨q,hq,rfl,rfl⟩|⟨hc,hne⟩
  ·rw[ht q.1 (hpm q hq).1]at q3
   rcases hget c' kk' q2 with⟨q',hq',rfl,rfl⟩|⟨hc',hne'⟩
   ·rw[ht q'.1 (hpm q' hq').1]at q4
    rw[hst.rel.inj _ _ _ _ _ _ _ (hpmget q hq) (hpmget q' hq') q3 q4]
   ·obtain⟨B0,x0,_,_,g1,_⟩:=hr.blk c' kk' hc'
    have hlt:=(hsafe c' kk' B0 x0 hc' hne' g1).2.2
    rw[hold c' hlt]at q4
    exact(hcross q c' kk' B x x' hq hc' hne' q3 q4).elim
  ·obtain⟨B0,x0,_,_,g1,_⟩:=hr.blk c kk hc
   have hlt:=(hsafe c kk B0 x0 hc hne g1).2.2
   rw[hold c hlt]at q3
   rcases hget c' kk' q2 with⟨q',hq',rfl,rfl⟩|⟨hc',hne'⟩
   ·rw[ht q'.1 (hpm q' hq').1]at q4
    exact(hcross q' c kk B x' x hq' hc hne q4 q3).elim
   ·obtain⟨B1,x1,_,_,g1',_⟩:=hr.blk c' kk' hc'
    have hlt':=(hsafe c' kk' B1 x1 hc' hne' g1').2.2
    rw[hold c' hlt']at q4
    exact hr.inj _ _ _ _ _ _ _ hc hc' q3 q4
 ·show(if b<H.nx then _ else _)=_
  have hb:N≤b:=hb
  have:H.nx≤N:=mn _ _
  rw[if_neg om,if_neg om]
 ·rcases hget c kk hc with⟨q,hq,rfl,rfl⟩|⟨hc,hne⟩
  ·rw[ht q.1 (hpm q hq).1]at hgc
   exact hst.rel.fzo q.1 q.2 B x (hpmget q hq) ho hgc
  ·obtain⟨B0,x0,_,_,g1,_⟩:=hr.blk c kk hc
   have hlt:=(hsafe c kk B0 x0 hc hne g1).2.2
   rw[hold c hlt]at hgc
   obtain⟨s1,s2,s3⟩:=hsafe c kk B x hc hne hgc
   show γ'.fz B=none
   cases hz:γ'.fz B with
   |none=>rfl
   |some y=>
    rcases hst.fzn B y hz with h'|h'|h'
    ·have h':γ.fz B=some y:=h'
     rw[hr.fzo c kk B x hc ho hgc]at h';cases h'
    ·omega
    ·exact(s2 h').elim
 ·obtain⟨c,kk,x,q1,q2,q3⟩:=ho
  rcases hget c kk q1 with⟨q,hq,rfl,rfl⟩|⟨hc,hne⟩
  ·rw[ht q.1 (hpm q hq).1]at q3
   exact hown k (hst.own k hk ⟨q.1,q.2,x,hpmget q hq,q2,q3⟩)
  ·obtain⟨B0,x0,_,_,g1,_⟩:=hr.blk c kk hc
   rw[hold c (hsafe c kk B0 x0 hc hne g1).2.2]at q3
   exact⟨c,kk,x,hc,q2,q3⟩
 ·rcases hget c kk hc with⟨q,hq,rfl,rfl⟩|⟨hc,hne⟩
  ·obtain⟨a1,a2,a3⟩:=hpm q hq
   have ho':q.2.own=false:=ho
   rcases a3 with a3|⟨a3,a4⟩
   ·rw[a3]at ho';cases ho'
   ·have hren:∀ρ:Nat→Nat,gA ρ q.2=q.2:=by
     intro ρ
     obtain⟨b,view,el,sz,opn,own⟩:=q
     cases view with
     |plain l=>simp only[g7]at a4;simp only[gA,wH,oX a4]
     |con L=>rfl
     |ints kk L=>rfl
     |rows kk L b n=>simp[g7]at a4
     |vals τ L=>rfl
    obtain⟨r1,r2,k',r3,r4,r5,r6,r7,r8,r9⟩:=hpre q.1 q.2 (hst.ro q.1 q.2 (hpmget q hq) ho')
    have hσq:σ q.1=q.1:=iH ckeys a3
    rw[hτlo q.1 om,hren τ,r3,r9 ho',hren σ]
  ·exact hc
 ·rcases hget c kk hc with⟨q,hq,rfl,rfl⟩|⟨hc,hne⟩
  ·rcases hpq q.1 (hpm q hq).1 with h'|⟨k1,k2⟩
   ·rw[hτlo q.1 (hilt _ h')]
    rcases hst.dom q.1 q.2 (hpmget q hq)with⟨k',hk'⟩|hn
    ·obtain⟨r1,r2,k2,r3,_⟩:=hpre q.1 k' hk'
     exact .inl ⟨k2,r3⟩
    ·rw[hs q.1 h']at hn
     exact .inr hn
   ·right
    rw[hτhi q.1 k1]
    exact hr.fresh _ om
  ·exact .inl ⟨kk,hc⟩
 ·rcases hst.fzn B x hB with h'|h'|h'
  ·exact .inl h'
  ·exact .inr (.inl h')
  ·exact .inr (.inr (hown B h'))
def Bi (x:Option (AV×Hs))(post:AV×List (Nat×ag)×Nat)(base:Nat):Option (List Prop):=match x with
 |none=>none
 |some (v,H)=>eM (some (.normal,aI [(0,v)],H)) .normal ⟨[(0,post.1)],post.2.1,post.2.2⟩ base
theorem Ql {x:df×Tr AV×Hs}{e:df}{S:St}{base:Nat}{ms:List Prop}(h:eM (some x) e S base=some ms)(hm:ar ms):∀q∈x.2.2.ms,q:=by
 intro q hq
 rw[iZ]at hm
 obtain⟨e',T',H'⟩:=x
 unfold eM fo at h
 simp only at h
 replace h:=(ay h).2
 split at h
 ·cases h
 ·split at h
  ·cases h
  ·cases h
   exact hm q (jo _ hq)
theorem Nb {P:Program}{E:cj}(hE:eW P E){call:bq}(hcall:bV P E.ng call){A:cS}{fn:Func}(hf:P.funcs[A.f]? =some fn)(hb:fn.body.isSome=true){N:Nat}(hN:N=Nat.max A.args.length fn.ntmps){l:List (List Nat×aO)}(hl:∀x∈l,dB P E.ng N (cz fn x.1) x.2)(hng:Nat.ble E.ng A.nx=true)
 (h:∀d,A.TestOk d→∃tp ms,Bi (iJ E call (fq l) A.f A.args ⟨aI A.pre,A.nx,tp,[]⟩) (A.post d) A.nx=some ms∧ar ms):aP P E.ng A:=by
 have hng:=aT hng
 refine⟨⟨fn,hf,hb⟩,fun d hd γ w Args hr hV hg=>?_⟩
 obtain⟨tp,ms,h1,h2⟩:=h d hd
 unfold Bi at h1
 split at h1
 ·cases h1
 ·rename_i v H' hrun
  have hms:=Ql h1 h2
  have hbf:=(oZ hE hcall (fun fn' c q1 q2=>by
   rw[hf]at q1
   cases q1
   subst hN
   exact pa q2 hl) hrun).2 hms
  obtain⟨_,hcalls⟩:=hbf γ w Args hr hV hg
  refine hcalls.mono ?_
  rintro e w' ⟨V,γ',rfl,hv,hR⟩
  have hF:cH γ' E.ng (aI [(0,v)]) 1 ⟨#[V],[]⟩:=by
   refine⟨rfl,rfl,fun t u hu=>?_,fun g hg'=>by rw[hR.keep g (jE hg' hng)];exact hg g hg'⟩
   have:=i7 _ _ _ (by rfl) hu
   simp only[fJ,dh]at this
   obtain⟨rfl,rfl⟩:=this
   exact hv
  obtain⟨_,γ2,g1,g2⟩:=qm (ng:=E.ng) (N:=1) (H0:=⟨aI A.pre,A.nx,tp,[]⟩) hr hng h1 ((iZ ms).1 h2) hF hR
  have hv2:=g1.tmp 0 (A.post d).1 (by rfl)
  exact⟨V,γ2,rfl,hv2,g2.stp,g2.keep⟩
theorem OV {ng:Nat}{A:cS}{args:List AV}{H H':Hs}{v:AV}(h:sZ ng A args H=some (v,H')):∀p∈H.ms,p∈H'.ms:=by
 unfold sZ at h
 simp only at h
 split at h
 ·cases h
 split at h
 ·cases h
 replace h:=(ay h).2
 split at h
 ·cases h
 split at h
 ·cases h
 cases h
 intro p hp
 simp only[fX]
 refine Or.inr (Or.inr ?_)
 cases A.test with
 |none=>exact hp
 |some c=>
  show p∈(H.ask c).2.ms
  rw[kq H c]
  exact fk _ hp
noncomputable def GM (ng:Nat)(go:Nat→List AV→Hs→Option (cS×List Prop))(orc:bq):bq:=fun f args H=>match go f args H with
 |none=>orc f args H
 |some (A,ms)=>bif Nat.beq A.f f then(match sZ ng A args H with
  |none=>none
  |some (v,H')=>some (v,⟨H'.m,H'.nx,H'.tp,ms++H'.ms⟩))else none
theorem cD {P:Program}{ng:Nat}{go:Nat→List AV→Hs→Option (cS×List Prop)}(hgo:∀f args H A ms,go f args H=some (A,ms)→(∀p∈ms,p)→aP P ng A){orc:bq}(ho:bV P ng orc):bV P ng (GM ng go orc):=by
 intro f args H v H' h
 unfold GM at h
 split at h
 ·exact ho f args H v H' h
 ·rename_i A ms hA
  obtain⟨hf,h'⟩:=ay h
  have hf:=aM hf
  subst hf
  split at h'
  ·cases h'
  ·rename_i v1 H1 happ
   cases h'
   have hms:∀p∈H.ms,p∈H1.ms:=by
    exact(OV happ)
   refine⟨fun p hp=>jo _ (hms p hp),fun hm γ w Args hr hV hg=>?_⟩
   have hok:=hgo _ _ _ _ _ hA (fun p hp=>hm p (lE _ hp))
   obtain⟨h1,h2⟩:=(OI hok happ).2 (fun p hp=>hm p (jo _ hp)) γ w Args hr hV hg
   refine⟨h1,h2.mono ?_⟩
   rintro e w' ⟨V,γ',rfl,hv,hR⟩
   exact⟨V,γ',rfl,hv,hR.stp,hR.nx,hR.keep⟩
def WP (v:b6):Option ae:=match v with
 |.con _=>some .con
 |.ints k _=>some (.num k)
 |.vals τ _=>some τ
 |_=>none
def wS (h:Tr ag)(v:AV):Option (AV×Tr ag×List Prop):=match v with
 |.lo b n=>match h.get b with
  |none=>none
  |some k=>match WP k.view with
   |none=>none
   |some τ=>match lW h τ (.lo b n)with
    |none=>none
    |some (L,h',ms)=>some ((dU τ L).av,h',ms)
 |v=>some (v,h,[])
def wT (h:Tr ag):List AV→Option (List AV×Tr ag×List Prop)
 |[]=>some ([],h,[])
 |v::l=>match wS h v with
  |none=>none
  |some (u,h1,m1)=>match wT h1 l with
   |none=>none
   |some (us,h2,m2)=>some (u::us,h2,m1++m2)
def Bq (h:Tr ag)(v:AV):Option (AV×Tr ag×List Prop):=match v with
 |.agg vs=>match wT h vs with
  |none=>none
  |some (us,h',ms)=>some (.agg us,h',ms)
 |v=>wS h v
def wU (h:Tr ag):List AV→Option (List AV×Tr ag×List Prop)
 |[]=>some ([],h,[])
 |v::l=>match Bq h v with
  |none=>none
  |some (u,h1,m1)=>match wU h1 l with
   |none=>none
   |some (us,h2,m2)=>some (u::us,h2,m1++m2)
theorem FF {γ:Gm}{h h':Tr ag}{nx:Nat}{w:World}(hr:aJ γ h.get nx w){v u:AV}{ms:List Prop}(hq:wS h v=some (u,h',ms))(hm:∀p∈ms,p):
 ∃γ',dm γ h nx w γ' h'∧∀γ2:Gm,γ'.le γ2→∀V,aj γ2 v V→aj γ2 u V:=by
 unfold wS at hq
 split at hq
 ·split at hq
  ·cases hq
  ·split at hq
   ·cases hq
   ·split at hq
    ·cases hq
    ·rename_i L h1 m1 hl
     cases hq
     obtain⟨_,γ',h2,h3⟩:=o6 hr hl hm
     exact⟨γ',h2,fun γ2 hle V hV=>.ro (h3 γ2 hle V hV)⟩
 ·cases hq
  exact⟨γ,dm.refl hr,fun γ2 _ V hV=>hV⟩
theorem FG {nx:Nat}{w:World}:∀{vs us:List AV}{γ:Gm}{h h':Tr ag}{ms:List Prop},aJ γ h.get nx w→wT h vs=some (us,h',ms)→(∀p∈ms,p)→
 ∃γ',dm γ h nx w γ' h'∧∀γ2:Gm,γ'.le γ2→∀Vs,ap γ2 vs Vs→ap γ2 us Vs
 |[],us,γ,h,h',ms,hr,hq,hm=>by
  cases hq
  exact⟨γ,dm.refl hr,fun γ2 _ Vs hV=>hV⟩
 |v::l,us,γ,h,h',ms,hr,hq,hm=>by
  simp only[wT]at hq
  split at hq
  ·cases hq
  ·rename_i u h1 m1 h0
   split at hq
   ·cases hq
   ·rename_i us' h2 m2 hl
    cases hq
    obtain⟨γ1,a1,a2⟩:=FF hr h0 (fun p hp=>hm p (lE _ hp))
    obtain⟨γ2,b1,b2⟩:=FG a1.stp.rel hl (fun p hp=>hm p (jo _ hp))
    exact⟨γ2,a1.trans b1,fun γ3 hle Vs hV=>by
     cases hV with|cons hv ht=>
     exact .cons (a2 γ3 (Gm.le_trans b1.stp.le hle) _ hv) (b2 γ3 hle _ ht)⟩
theorem Rt {γ:Gm}{h h':Tr ag}{nx:Nat}{w:World}(hr:aJ γ h.get nx w){v u:AV}{ms:List Prop}(hq:Bq h v=some (u,h',ms))(hm:∀p∈ms,p):
 ∃γ',dm γ h nx w γ' h'∧∀γ2:Gm,γ'.le γ2→∀V,aj γ2 v V→aj γ2 u V:=by
 unfold Bq at hq
 split at hq
 ·split at hq
  ·cases hq
  ·rename_i us h1 m1 hl
   cases hq
   obtain⟨γ',a1,a2⟩:=FG hr hl hm
   exact⟨γ',a1,fun γ2 hle V hV=>by cases hV with|agg hV=>exact .agg (a2 γ2 hle _ hV)⟩
 ·exact FF hr hq hm
theorem FH {nx:Nat}{w:World}:∀{vs us:List AV}{γ:Gm}{h h':Tr ag}{ms:List Prop},aJ γ h.get nx w→wU h vs=some (us,h',ms)→(∀p∈ms,p)→
 ∃γ',dm γ h nx w γ' h'∧∀γ2:Gm,γ'.le γ2→∀Vs,ap γ2 vs Vs→ap γ2 us Vs
 |[],us,γ,h,h',ms,hr,hq,hm=>by
  cases hq
  exact⟨γ,dm.refl hr,fun γ2 _ Vs hV=>hV⟩
 |v::l,us,γ,h,h',ms,hr,hq,hm=>by
  simp only[wU]at hq
  split at hq
  ·cases hq
  ·rename_i u h1 m1 h0
   split at hq
   ·cases hq
   ·rename_i us' h2 m2 hl
    cases hq
    obtain⟨γ1,a1,a2⟩:=Rt hr h0 (fun p hp=>hm p (lE _ hp))
    obtain⟨γ2,b1,b2⟩:=FH a1.stp.rel hl (fun p hp=>hm p (jo _ hp))
    exact⟨γ2,a1.trans b1,fun γ3 hle Vs hV=>by
     cases hV with|cons hv ht=>
     exact .cons (a2 γ3 (Gm.le_trans b1.stp.le hle) _ hv) (b2 γ3 hle _ ht)⟩
def I9 (g:Nat)(call:bq):bq:=fun f args H=>bif Nat.beq f g then(match wU H.m args with
 |none=>none
 |some (args',m',ms)=>call f args' ⟨m',H.nx,H.tp,ms++H.ms⟩)else call f args H
theorem FI {P:Program}{ng g:Nat}{call:bq}(hc:bV P ng call):bV P ng (I9 g call):=by
 intro f args H v H' hq
 unfold I9 at hq
 cases hb:Nat.beq f g with
 |false=>rw[hb]at hq;exact hc f args H v H' hq
 |true=>
  rw[hb]at hq
  simp only[aU]at hq
  split at hq
  ·cases hq
  ·rename_i args' m' ms hf
   obtain⟨h1,h2⟩:=hc f args' _ v H' hq
   refine⟨fun p hp=>h1 p (jo _ hp),fun hm γ w Args hr hV hg=>?_⟩
   obtain⟨γ',a1,a2⟩:=FH hr hf (fun p hp=>hm p (h1 p (lE _ hp)))
   have hg':iO ng γ':=fun b hb=>by
    have:=hg b hb
    show γ'.nm b=_
    rw[a1.nm]
    exact this
   obtain⟨q1,q2⟩:=h2 hm γ' w Args a1.stp.rel (a2 γ' (Gm.le_refl _) Args (hV.mono a1.stp.le)) hg'
   refine⟨q1,q2.mono ?_⟩
   rintro e w' ⟨V,γ2,rfl,k1,k2⟩
   refine⟨V,γ2,rfl,k1,⟨a1.stp.trans k2.stp,k2.nx,fun b hb=>?_⟩⟩
   have h3:=k2.keep b hb
   rw[h3]
   show γ'.nm b=γ.nm b
   rw[a1.nm]
def qV (g:Tr ag→AV→Option (RV×Tr ag)):Tr ag→List AV→Option (List RV×Tr ag)
 |h,[]=>some ([],h)
 |h,v::l=>match g h v with
  |none=>none
  |some (r,h1)=>match qV g h1 l with
   |none=>none
   |some (rs,h2)=>some (r::rs,h2)
def JB {β:Type}(n:Nat):(Nat→β)→β:=Nat.rec (motive:=fun _=>(Nat→β)→β) (fun c=>c 0) (fun _ ih c=>ih (fun m=>c (m+1))) n
def JC {α β:Type}(l:List α):(List α→β)→β:=List.rec (motive:=fun _=>(List α→β)→β) (fun c=>c []) (fun x _ ih c=>ih (fun l=>c (x::l))) l
theorem Gj {β:Type}:∀(n:Nat)(c:Nat→β),JB n c=c n
 |0,_=>rfl
 |n+1,c=>Gj n (fun m=>c (m+1))
theorem Gk {α β:Type}:∀(l:List α)(c:List α→β),JC l c=c l
 |[],_=>rfl
 |x::l,c=>Gk l (fun l=>c (x::l))
def tB:Nat→Tr ag→AV→Option (RV×Tr ag)
 |0,_,_=>none
 |f+1,h,v=>match v with
  |.vint k a=>some (.int k a,h)
  |.int k a=>some (.int k a,h)
  |.vbool a=>some (.bool a,h)
  |.bool a=>some (.bool a,h)
  |.ro n z r=>some (.sl n z r,h)
  |.nils=>some (.sl 0 1 (fun _=>[]),h)
  |.agg vs=>match qV (tB f) h vs with
   |none=>none
   |some (rs,h')=>some (.agg rs,h')
  |.slc b o n c=>match h.get b with
   |none=>none
   |some k=>match qV (tB f) h k.cells with
    |none=>none
    |some (rs,h1)=>match h1.get b with
     |none=>none
     |some _=>bif k.own&&Nat.ble n c&&Nat.ble (o+n*k.sz) k.cells.length then(match h1.set b none with
      |none=>none
      |some h2=>JB k.sz fun z=>bif Nat.beq n 1 then(JC ((rs.drop o).take z) fun l=>some (.sl n z (fun _=>l),h2))else some (.sl n z (fun i=>(rs.drop (o+i*z)).take z),h2))else none
  |_=>none
theorem vg {g:Tr ag→AV→Option (RV×Tr ag)}{nx:Nat}{w:World}(hg:∀(γ:Gm)(h h':Tr ag)(v:AV)(r:RV),aJ γ h.get nx w→g h v=some (r,h')→∃γ',dm γ h nx w γ' h'∧∀γ2:Gm,γ'.le γ2→∀V,aj γ2 v V→bZ γ2.fz r V):
 ∀{vs:List AV}{γ:Gm}{h h':Tr ag}{rs:List RV},aJ γ h.get nx w→qV g h vs=some (rs,h')→∃γ',dm γ h nx w γ' h'∧∀γ2:Gm,γ'.le γ2→∀Vs,ap γ2 vs Vs→bY γ2.fz rs Vs
 |[],γ,h,h',rs,hr,hq=>by
  cases hq
  exact⟨γ,dm.refl hr,fun γ2 _ Vs hV=>by cases hV;exact .nil⟩
 |v::l,γ,h,h',rs,hr,hq=>by
  simp only[qV]at hq
  split at hq
  ·cases hq
  ·rename_i r h1 h0
   split at hq
   ·cases hq
   ·rename_i rs' h2 hl
    cases hq
    obtain⟨γ1,a1,a2⟩:=hg _ _ _ _ _ hr h0
    obtain⟨γ2,b1,b2⟩:=vg hg a1.stp.rel hl
    exact⟨γ2,a1.trans b1,fun γ3 hle Vs hV=>by
     cases hV with|cons hv ht=>
     exact .cons (a2 γ3 (Gm.le_trans b1.stp.le hle) _ hv) (b2 γ3 hle _ ht)⟩
theorem zh {nx:Nat}{w:World}:∀(f:Nat)(γ:Gm)(h h':Tr ag)(v:AV)(r:RV),aJ γ h.get nx w→tB f h v=some (r,h')→∃γ',dm γ h nx w γ' h'∧∀γ2:Gm,γ'.le γ2→∀V,aj γ2 v V→bZ γ2.fz r V
 |0,_,_,_,_,_,_,hq=>by cases hq
 |f+1,γ,h,h',v,r,hr,hq=>by
  unfold tB at hq
  split at hq
  ·cases hq;exact⟨γ,dm.refl hr,fun γ2 _ V hV=>by cases hV;exact .int _ _⟩
  ·cases hq;exact⟨γ,dm.refl hr,fun γ2 _ V hV=>by cases hV;exact .int _ _⟩
  ·cases hq;exact⟨γ,dm.refl hr,fun γ2 _ V hV=>by cases hV;exact .bool _⟩
  ·cases hq;exact⟨γ,dm.refl hr,fun γ2 _ V hV=>by cases hV;exact .bool _⟩
  ·cases hq;exact⟨γ,dm.refl hr,fun γ2 _ V hV=>by cases hV with|ro h=>exact h⟩
  ·cases hq;exact⟨γ,dm.refl hr,fun γ2 _ V hV=>by cases hV;exact .sl0 _ _ _ _ rfl⟩
  ·split at hq
   ·cases hq
   ·rename_i rs h1 hl
    cases hq
    obtain⟨γ',a1,a2⟩:=vg (fun γ h h' v r=>zh f γ h h' v r) hr hl
    exact⟨γ',a1,fun γ2 hle V hV=>by cases hV with|agg hV=>exact .agg (a2 γ2 hle _ hV)⟩
  ·rename_i b o n c
   split at hq
   ·cases hq
   ·rename_i k hk
    split at hq
    ·cases hq
    ·rename_i rs h1 hl
     split at hq
     ·cases hq
     ·rename_i k1 hk1
      obtain⟨hc,hq'⟩:=ay hq
      clear hq
      split at hq'
      ·cases hq'
      ·rename_i h2 hset
       obtain⟨row,hrow,hr',hh⟩:∃row:Nat→List RV,(∀i,i<n→(rs.drop (o+i*k.sz)).take k.sz=row i)∧r=.sl n k.sz row∧h'=h2:=by
        simp only[Gj,Gk]at hq'
        cases hb:Nat.beq n 1 with
        |true=>
         rw[hb]at hq'
         cases hq'
         have:=aM hb
         exact⟨_,fun i hi=>by rw[show i=0 by omega,kV,fv],rfl,rfl⟩
        |false=>
         rw[hb]at hq'
         cases hq'
         exact⟨_,fun i hi=>rfl,rfl,rfl⟩
       subst hr'
       subst hh
       clear hq'
       obtain⟨hc,c3⟩:=bB hc
       obtain⟨c1,c2⟩:=bB hc
       have c2:=aT c2
       have c3:=aT c3
       obtain⟨γ1,a1,a2⟩:=vg (fun γ h h' v r=>zh f γ h h' v r) hr hl
       have e1:=a1.sub b k1 hk1
       rw[hk]at e1
       cases e1
       obtain⟨B,x,cs,ex,g1,g2,g3,g4,g5⟩:=a1.stp.rel.blk b k hk1
       have hfz:=a1.stp.rel.freeze hk1 c1 g1 g2
       refine⟨⟨γ1.nm,fun B'=>if B'=B then some (Obj.cells (cs++ex).toArray k.elem)else γ1.fz B'⟩,a1.trans ⟨by rw[ej hset];exact hfz,rfl,fun c kc hc=>?_⟩,fun γ2 hle V hV=>?_⟩
       ·rw[ej hset]at hc
        by_cases e:c=b
        ·subst e;rw[eU]at hc;cases hc
        ·rw[dj _ _ e]at hc;exact hc
       ·cases hV with
        |slc _ _ _ hg=>
         have:=hle.nm b _ (show γ1.nm b=_ from g1)
         rw[hg]at this
         cases this
         have hFB:=hle.fz B (Obj.cells (cs++ex).toArray k.elem) (by show(if B=B then _ else _)=_;rw[if_pos rfl])
         have hrs:=a2 γ2 (Gm.le_trans hfz.le hle) cs (g3.mono (Gm.le_trans hfz.le hle))
         have hcl:=g3.length
         have hiz:∀i,i<n→i*k.sz+k.sz≤n*k.sz:=fun i hi=>by rw[←Nat.succ_mul];exact iT _ hi
         refine .sl (fun i=>(cs.drop (o+i*k.sz)).take k.sz) om (fun i hi=>by have:=hiz i hi;simp;omega) (fun i j v hi hv=>?_) (fun i hi=>by rw[←hrow i hi];exact(hrs.drop _).take _)
         have:=hiz i hi
         refine⟨_,_,_,hFB,?_⟩
         rw[ow]at hv
         split at hv
         ·rw[lG]at hv
          rw[ke,gg om]
          exact hv
         ·cases hv
  ·cases hq
def wD (gs:List Nat)(call:bq):bq:=fun f args H=>bif gs.any (Nat.beq f)then(match qV (tB 9) H.m args with
 |none=>none
 |some (rs,m')=>call f (RV.avl rs) ⟨m',H.nx,H.tp,H.ms⟩)else call f args H
theorem Fc {P:Program}{ng:Nat}{gs:List Nat}{call:bq}(hc:bV P ng call):bV P ng (wD gs call):=by
 intro f args H v H' hq
 unfold wD at hq
 cases hb:gs.any (Nat.beq f)with
 |false=>rw[hb]at hq;exact hc f args H v H' hq
 |true=>
  rw[hb]at hq
  simp only[aU]at hq
  split at hq
  ·cases hq
  ·rename_i rs m' hf
   obtain⟨h1,h2⟩:=hc f _ _ v H' hq
   refine⟨fun p hp=>h1 p hp,fun hm γ w Args hr hV hg=>?_⟩
   obtain⟨γ',a1,a2⟩:=vg (fun γ h h' v r=>zh 9 γ h h' v r) hr hf
   have hg':iO ng γ':=fun b hb=>by
    have:=hg b hb
    show γ'.nm b=_
    rw[a1.nm]
    exact this
   obtain⟨q1,q2⟩:=h2 hm γ' w Args a1.stp.rel (a2 γ' (Gm.le_refl _) Args (hV.mono a1.stp.le)).avl hg'
   refine⟨q1,q2.mono ?_⟩
   rintro e w' ⟨V,γ2,rfl,k1,k2⟩
   refine⟨V,γ2,rfl,k1,⟨a1.stp.trans k2.stp,k2.nx,fun b hb=>?_⟩⟩
   have h3:=k2.keep b hb
   rw[h3]
   show γ'.nm b=γ.nm b
   rw[a1.nm]
def rj (g:AV→RV→Option (List Prop)):List AV→List RV→Option (List Prop)
 |[],[]=>some []
 |v::vs,r::rs=>match g v r with
  |none=>none
  |some m1=>match rj g vs rs with
   |none=>none
   |some m2=>some (m1++m2)
 |_,_=>none
def xm (g:Nat→Option (List Prop)):Nat→Option (List Prop)
 |0=>some []
 |n+1=>match xm g n with
  |none=>none
  |some m1=>match g n with
   |none=>none
   |some m2=>some (m1++m2)
def rk (m:Tr ag):Nat→AV→RV→Option (List Prop)
 |0,_,_=>none
 |f+1,v,r=>match v,r with
  |.slc b o n c,.sl n' z row=>match m.get b with
   |none=>none
   |some k=>bif k.own&&Nat.beq n n'&&Nat.ble n c&&Nat.ble (o+n*z) k.cells.length then xm (fun i=>rj (rk m f) ((k.cells.drop (o+i*z)).take z) (row i)) n else none
  |.agg vs,.agg rs=>rj (rk m f) vs rs
  |.tup vs,.tup rs=>rj (rk m f) vs rs
  |v,r=>rd m v r
theorem Gl {g:Nat→Option (List Prop)}:∀{n i:Nat}{ms:List Prop},xm g n=some ms→(∀p∈ms,p)→i<n→∃m1,g i=some m1∧∀p∈m1,p
 |0,i,_,_,_,h=>absurd h (Nat.not_lt_zero i)
 |n+1,i,ms,hq,hm,h=>by
  simp only[xm]at hq
  split at hq
  ·cases hq
  ·rename_i m1 h1
   split at hq
   ·cases hq
   ·rename_i m2 h2
    cases hq
    obtain⟨hm1,hm2⟩:=dJ hm
    rcases bA i n with h3|h3
    ·exact Gl h1 hm1 h3
    ·rw[show i=n by omega];exact⟨m2,h2,hm2⟩
theorem vC {γ:Gm}{F:Fz}{g:AV→RV→Option (List Prop)}(hg:∀v r ms V,g v r=some ms→(∀p∈ms,p)→aj γ v V→bZ F r V):∀{vs:List AV}{rs:List RV}{Vs:List Value}{ms:List Prop},rj g vs rs=some ms→(∀p∈ms,p)→ap γ vs Vs→bY F rs Vs
 |[],[],_,_,_,_,h=>by cases h;exact .nil
 |v::vs,r::rs,_,ms,hq,hm,h=>by
  simp only[rj]at hq
  split at hq
  ·cases hq
  ·rename_i m1 h1
   split at hq
   ·cases hq
   ·rename_i m2 h2
    cases hq
    obtain⟨hm1,hm2⟩:=dJ hm
    cases h with|cons hv ht=>exact .cons (hg _ _ _ _ h1 hm1 hv) (vC hg h2 hm2 ht)
 |[],_::_,_,_,hq,_,_=>by cases hq
 |_::_,[],_,_,hq,_,_=>by cases hq
theorem vD {γ:Gm}{h:Tr ag}{nx:Nat}{w:World}(hr:aJ γ h.get nx w){F:Fz}(hF:γ.fz.le F)(hO:∀b k B x y,h.get b=some k→k.own=true→γ b=some (B,x)→w.heap[B]? =some y→F B=some y):∀(f:Nat)(v:AV)(r:RV)(ms:List Prop)(V:Value),rk h f v r=some ms→(∀p∈ms,p)→aj γ v V→bZ F r V
 |0,_,_,_,_,hq,_,_=>by cases hq
 |f+1,v,r,ms,V,hq,hm,hV=>by
  unfold rk at hq
  split at hq
  ·rename_i b o n c n' z row
   cases hV with
   |slc _ _ _ hg=>
    rename_i B x
    split at hq
    ·cases hq
    ·rename_i k hk
     obtain⟨hq,h5⟩:=ay hq
     obtain⟨hq,h4⟩:=bB hq
     obtain⟨hq,h3⟩:=bB hq
     obtain⟨h1,h2⟩:=bB hq
     have h2:=aM h2
     subst h2
     have h3:=aT h3
     have h4:=aT h4
     obtain⟨B',x',cs,ex,g1,g2,g3,g4,g5⟩:=hr.blk b k hk
     rw[hg]at g1
     cases g1
     have hFB:=hO b k B x _ hk h1 hg g2
     have hcl:=g3.length
     have hiz:∀i,i<n→i*z+z≤n*z:=fun i hi=>by rw[←Nat.succ_mul];exact iT _ hi
     refine .sl (fun i=>(cs.drop (o+i*z)).take z) om (fun i hi=>by have:=hiz i hi;simp;omega) (fun i j v hi hv=>?_) (fun i hi=>?_)
     ·have:=hiz i hi
      refine⟨_,_,_,hFB,?_⟩
      rw[ow]at hv
      split at hv
      ·rw[lG]at hv
       rw[ke,gg om]
       exact hv
      ·cases hv
     ·obtain⟨m1,e1,e2⟩:=Gl h5 hm hi
      exact vC (fun _ _ _ _=>vD hr hF hO f _ _ _ _) e1 e2 ((g3.drop _).take _)
  ·cases hV with|agg hv=>exact .agg (vC (fun _ _ _ _=>vD hr hF hO f _ _ _ _) hq hm hv)
  ·cases hV with|tup hv=>exact .tup (vC (fun _ _ _ _=>vD hr hF hO f _ _ _ _) hq hm hv)
  ·exact nI hr hF hO hq hm hV
def Iu (x:Option (AV×Hs))(R:RV):Option (List Prop):=match x with
 |none=>none
 |some (v,H)=>match rk H.m 9 v R with
  |none=>none
  |some ms=>some (ms++H.ms)
theorem cx {P:Program}{E:cj}(hE:eW P E){call:bq}(hcall:bV P E.ng call){f:Nat}{fn:Func}(hf:P.funcs[f]? =some fn){A:List RV}{N:Nat}(hN:N=Nat.max (RV.avl A).length fn.ntmps){l:List (List Nat×aO)}(hl:∀x∈l,dB P E.ng N (cz fn x.1) x.2){tabs:List Tb}(hg:tabs.all (fun t=>Nat.blt t.g E.ng)=true)(hok:eP (dH tabs)=true)(hng:Nat.ble E.ng 1000=true)
 {R:RV}{tp:List Bool}{ms:List Prop}(h:Iu (iJ E call (fq l) f (RV.avl A) ⟨aI (dH tabs),1000,tp,[]⟩) R=some ms)(hm:ar ms):ax P tabs f A R:=by
 unfold Iu at h
 split at h
 ·cases h
 ·rename_i v H' hrun
  split at h
  ·cases h
  ·rename_i m1 hrd
   cases h
   rw[iZ]at hm
   obtain⟨hm1,hm2⟩:=dJ hm
   exact Ck hE hcall (fun γ F Args e h=>by subst e;exact h.avl) (fun fn' c h1 h2=>by
    rw[hf]at h1
    cases h1
    subst hN
    exact pa h2 hl) hg hok hng hrun hm2 fun γ w F hr hF hO V hV=>vD hr hF hO 9 _ _ _ _ hrd hm1 hV
end Go.QfSy
namespace Go.QfSy
abbrev ty {p:Prop}(_:p):Prop:=p
abbrev rq {α:Type}(x:α):Prop:=x=x
theorem oe (c:Bool){P:Prop}(h:c=true→P)(h2:c=false→P):P:=Or.elim (Bool.eq_false_or_eq_true c) h h2
end Go.QfSy
namespace Go.Proofs.YtdbdoalefmliiaaGreatDoor.S
open Go.QfSy Go.RowKit
theorem og {n:Int}(h1:-9223372036854775808≤n)(h2:n≤9223372036854775807):IntKind.i64.wrap n=n:=by
 rw[IntKind.wrap_i64];omega
abbrev at_ (L:List Con)(i:Nat):Con:=L.getD i Con.zero
theorem sb {L:List Con}{k:Nat}(h:k<L.length):L.drop k=at_ L k::L.drop (k+1):=by
 rw[pL h]
 simp[at_,h]
def gZ:List Con→Int
 |[]=>0
 |c::l=>c.dim+gZ l
def Bs (c:Con)(last s:Int):Bool:=decide (0≤c.exp∧c.exp≤60∧last<c.exp∧(c.sign=1∨c.sign=-1)∧1≤c.dim∧c.dim≤8-s)
def px:List Con→Int→Int→Bool
 |[],_,_=>true
 |c::l,last,s=>Bs c last s&&px l c.exp (s+c.dim)
def qq (L:List Con):Bool:=px L (-1) 0&&decide (gZ L>0)
/- a tape from its digits: 1 is true, 2 is false -/
def JG:Nat→Nat→List Bool→List Bool
 |0,_,l=>l
 |f+1,n,l=>bif Nat.beq n 0 then l else JG f (n/10) (Nat.beq (n%10) 1::l)
def tp (n:Nat):List Bool:=JG 40 n []
theorem bx {p q:Prop}{l:List Prop}(h:p)(h2:ar (q::l)):ar (p::q::l):=⟨h,h2⟩
theorem bz {p:Prop}(h:p):ar [p]:=h
theorem aH {ι:Type}{Q:List Bool→ι→Option (List Prop)}{M I:ι→Prop}{R:List Bool→Prop}(t:List Bool)(j:ι)(ms:List Prop)(a:ar ms)(m:dO (M j))(i:cL (I j))(h:Q t j=some ms:=by kernel_rfl):∃t,(∃j ms,Q t j=some ms∧ar ms∧M j∧I j)∨R t:=⟨t,.inl ⟨j,ms,h,a,m.out,i.out⟩⟩
theorem b9 {Q:List Bool→Option (List Prop)}{b:Prop}{L:List Bool→Prop}(t:List Bool)(ms:List Prop)(a:ar ms)(h:Q t=some ms:=by kernel_rfl)(i:b:=by rfl):∃t,L t∨(∃ms,Q t=some ms∧ar ms∧b):=⟨t,.inr ⟨ms,h,a,i⟩⟩
theorem lr {Q:List Bool→Option (List Prop)}(t:List Bool)(ms:List Prop)(a:ar ms)(h:Q t=some ms:=by kernel_rfl):∃t ms,Q t=some ms∧ar ms:=⟨t,ms,h,a⟩
theorem st {ι:Type}{Q:ι→Option (List Prop)}{I:ι→Prop}(i:ι)(ms:List Prop)(a:ar ms)(b:I i)(h:Q i=some ms:=by kernel_rfl):∃i ms,Q i=some ms∧ar ms∧I i:=⟨i,ms,h,a,b⟩
/- calls -/
theorem c0:bV Tryz.prog EV.ng (ll EV sI 8):=bU fS (cm _ _) 8
theorem cE {l:List cq}(h:∀e∈l,cJ Tryz.prog e):bV Tryz.prog EV.ng (ll EV (kt EV.ng l) 8):=bU fS (eE h) 8
theorem cF {o:bq}(h:bV Tryz.prog EV.ng o):bV Tryz.prog EV.ng (ll EV o 8):=bU fS h 8
/- a contract, a told call, told loops, out of runs -/
theorem pr {call:bq}(hc:bV Tryz.prog EV.ng call){f:Nat}{fn:Func}(hf:Tryz.prog.funcs[f]? =some fn){n:Nat}{l:List (List Nat×aO)}(hl:∀x∈l,dB Tryz.prog EV.ng (Nat.max n fn.ntmps) (cz fn x.1) x.2){A:List RV}{tabs:List Tb}{R:RV}
 (h:∃tp ms,kx (iJ EV call (fq l) f (RV.avl A) ⟨aI (dH tabs),1000,tp,[]⟩) R=some ms∧ar ms)(hn:n=(RV.avl A).length:=by rfl)(hg:tabs.all (fun t=>Nat.blt t.g EV.ng)=true:=by rfl)(hok:eP (dH tabs)=true:=by rfl):ax Tryz.prog tabs f A R:=by
 obtain⟨tp,ms,h1,h2⟩:=h
 exact uP fS hc hf (by rw[hn]) hl hg hok rb h1 h2
theorem cT {call:bq}(hc:bV Tryz.prog EV.ng call){A:cS}{fn:Func}(hf:Tryz.prog.funcs[A.f]? =some fn){n:Nat}{l:List (List Nat×aO)}(hl:∀x∈l,dB Tryz.prog EV.ng (Nat.max n fn.ntmps) (cz fn x.1) x.2)
 (h:∀d,A.TestOk d→∃tp ms,Bi (iJ EV call (fq l) A.f A.args ⟨aI A.pre,A.nx,tp,[]⟩) (A.post d) A.nx=some ms∧ar ms)(hb:fn.body.isSome=true:=by rfl)(hn:n=A.args.length:=by rfl)(hg:Nat.ble EV.ng A.nx=true:=by rfl):aP Tryz.prog EV.ng A:=
 Nb fS hc hf hb (by rw[hn]) hl hg h
theorem iB {call:bq}(hc:bV Tryz.prog EV.ng call){fn:Func}{n:Nat}{inner:List (List Nat×aO)}(hin:∀x∈inner,dB Tryz.prog EV.ng (Nat.max n fn.ntmps) (cz fn x.1) x.2){p:List Nat}{A:aO}{ι:Type}(S:ι→St)(μ:ι→Nat)(I:Bool→ι→Prop)
 (hs:∀d,TestOk A d→∃i ms,eM (some (.normal,aI A.pre.T,cO A.pre [])) .normal (S i) A.pre.nx=some ms∧ar ms∧I d i)
 (hb:∀d,TestOk A d→∀i,I d i→∃tp,
   (∃j ms,eM (bb EV call (fq inner) (Nat.max n fn.ntmps) 100000 (0::p) (cz fn p) (aI (S i).T) (cO (S i) tp)) .normal (S j) A.pre.nx=some ms∧ar ms∧μ j<μ i∧I d j)∨
   (∃ms,eM (bb EV call (fq inner) (Nat.max n fn.ntmps) 100000 (0::p) (cz fn p) (aI (S i).T) (cO (S i) tp)) (A.post d).1 (A.post d).2 A.pre.nx=some ms∧ar ms∧kA (A.post d).1 .normal=false))
 (hp:nC fn p=true:=by kernel_rfl)(hg:Nat.ble EV.ng A.pre.nx=true:=by kernel_rfl):dB Tryz.prog EV.ng (Nat.max n fn.ntmps) (cz fn p) A:=
 sB fS hc hin hp hg S μ I hs hb
theorem fj {call:bq}(hc:bV Tryz.prog EV.ng call){fn:Func}{n:Nat}{inner:List (List Nat×aO)}(hin:∀x∈inner,dB Tryz.prog EV.ng (Nat.max n fn.ntmps) (cz fn x.1) x.2){p:List Nat}{A:aO}{ι:Type}(S:ι→St)(μ:ι→Nat)(I:ι→Prop)
 (hs:∃i ms,eM (some (.normal,aI A.pre.T,cO A.pre [])) .normal (S i) A.pre.nx=some ms∧ar ms∧I i)
 (hb:∀i,I i→∃tp,
   (∃j ms,eM (bb EV call (fq inner) (Nat.max n fn.ntmps) 100000 (0::p) (cz fn p) (aI (S i).T) (cO (S i) tp)) .normal (S j) A.pre.nx=some ms∧ar ms∧μ j<μ i∧I j)∨
   (∃ms,eM (bb EV call (fq inner) (Nat.max n fn.ntmps) 100000 (0::p) (cz fn p) (aI (S i).T) (cO (S i) tp)) (A.post true).1 (A.post true).2 A.pre.nx=some ms∧ar ms∧kA (A.post true).1 .normal=false))
 (ht:A.test=none:=by rfl)(hp:nC fn p=true:=by kernel_rfl)(hg:Nat.ble EV.ng A.pre.nx=true:=by kernel_rfl):dB Tryz.prog EV.ng (Nat.max n fn.ntmps) (cz fn p) A:=by
 have key:∀d,TestOk A d→d=true:=fun d hd=>by unfold TestOk at hd;rw[ht]at hd;exact hd
 refine sB fS hc hin hp hg S μ (fun _=>I) (fun d _=>hs) (fun d hd=>?_)
 rw[key d hd]
 exact hb
theorem pI {call:bq}(hc:bV Tryz.prog EV.ng call){fn:Func}{n:Nat}{p:List Nat}{A:aO}{ι:Type}(S:ι→St)(μ:ι→Nat)(I:Bool→ι→Prop)(inner:ι→List (List Nat×aO))(hin:∀d,TestOk A d→∀i,I d i→∀x∈inner i,dB Tryz.prog EV.ng (Nat.max n fn.ntmps) (cz fn x.1) x.2)
 (hs:∀d,TestOk A d→∃i ms,eM (some (.normal,aI A.pre.T,cO A.pre [])) .normal (S i) A.pre.nx=some ms∧ar ms∧I d i)
 (hb:∀d,TestOk A d→∀i,I d i→∃tp,
   (∃j ms,eM (bb EV call (fq (inner i)) (Nat.max n fn.ntmps) 100000 (0::p) (cz fn p) (aI (S i).T) (cO (S i) tp)) .normal (S j) A.pre.nx=some ms∧ar ms∧μ j<μ i∧I d j)∨
   (∃ms,eM (bb EV call (fq (inner i)) (Nat.max n fn.ntmps) 100000 (0::p) (cz fn p) (aI (S i).T) (cO (S i) tp)) (A.post d).1 (A.post d).2 A.pre.nx=some ms∧ar ms∧kA (A.post d).1 .normal=false))
 (hp:nC fn p=true:=by kernel_rfl)(hg:Nat.ble EV.ng A.pre.nx=true:=by kernel_rfl):dB Tryz.prog EV.ng (Nat.max n fn.ntmps) (cz fn p) A:=
 E3 fS hc hp hg S μ I inner hin hs hb
theorem tR {call:bq}(hc:bV Tryz.prog EV.ng call){fn:Func}{n:Nat}{p:List Nat}{A:aO}{ι:Type}(S:ι→St)(μ:ι→Nat)(I:ι→Prop)(inner:ι→List (List Nat×aO))(hin:∀i,I i→∀x∈inner i,dB Tryz.prog EV.ng (Nat.max n fn.ntmps) (cz fn x.1) x.2)
 (hs:∃i ms,eM (some (.normal,aI A.pre.T,cO A.pre [])) .normal (S i) A.pre.nx=some ms∧ar ms∧I i)
 (hb:∀i,I i→∃tp,
   (∃j ms,eM (bb EV call (fq (inner i)) (Nat.max n fn.ntmps) 100000 (0::p) (cz fn p) (aI (S i).T) (cO (S i) tp)) .normal (S j) A.pre.nx=some ms∧ar ms∧μ j<μ i∧I j)∨
   (∃ms,eM (bb EV call (fq (inner i)) (Nat.max n fn.ntmps) 100000 (0::p) (cz fn p) (aI (S i).T) (cO (S i) tp)) (A.post true).1 (A.post true).2 A.pre.nx=some ms∧ar ms∧kA (A.post true).1 .normal=false))
 (ht:A.test=none:=by rfl)(hp:nC fn p=true:=by kernel_rfl)(hg:Nat.ble EV.ng A.pre.nx=true:=by kernel_rfl):dB Tryz.prog EV.ng (Nat.max n fn.ntmps) (cz fn p) A:=by
 have key:∀d,TestOk A d→d=true:=fun d hd=>by unfold TestOk at hd;rw[ht]at hd;exact hd
 refine E3 fS hc hp hg S μ (fun _=>I) inner (fun d _=>hin) (fun d _=>hs) (fun d hd=>?_)
 rw[key d hd]
 exact hb
abbrev u2 {α β γ:Type _}(f:α→β→γ)(i:α×β):γ:=f i.1 i.2
abbrev u3 {α β γ δ:Type _}(f:α→β→γ→δ)(i:α×β×γ):δ:=f i.1 i.2.1 i.2.2
abbrev u4 {α β γ δ ε:Type _}(f:α→β→γ→δ→ε)(i:α×β×γ×δ):ε:=f i.1 i.2.1 i.2.2.1 i.2.2.2
abbrev u5 {α β γ δ ε ζ:Type _}(f:α→β→γ→δ→ε→ζ)(i:α×β×γ×δ×ε):ζ:=f i.1 i.2.1 i.2.2.1 i.2.2.2.1 i.2.2.2.2
structure gu (a b:Bool):Prop where
 mk::out:a=b
theorem bH (d:Bool){x:List Bool→Option (df×Tr AV×Hs)}{A:aO}{base:Nat}{L:List Bool→Prop}(v:Bool)(t:List Bool)(ms:List Prop)(a:ar ms)(e:gu d v)(h:eM (x t) (A.post v).1 (A.post v).2 base=some ms:=by kernel_rfl)(i:kA (A.post v).1 .normal=false:=by rfl):∃t,L t∨(∃ms,eM (x t) (A.post d).1 (A.post d).2 base=some ms∧ar ms∧kA (A.post d).1 .normal=false):=by
 cases e.out;exact⟨t,.inr ⟨ms,h,a,i⟩⟩
theorem tr {p:Prop}(h:p:=by with_reducible rfl):p:=h
theorem tz {p:Prop}(h:p:=by first|(with_reducible rfl)|exact⟨rfl,rfl⟩):p:=h
theorem tv {p:Prop}(h:p:=by first|(with_reducible rfl)|rfl|exact⟨rfl,rfl⟩):p:=h
theorem wo {n:Int}(h1:-9223372036854775808≤n:=by omega)(h2:n≤9223372036854775807:=by omega):IntKind.i64.wrap n=n:=og h1 h2
theorem wk (k:Nat)(h:k≤1000000000000:=by omega):IntKind.i64.wrap ((k:Int)+1)=((k+1:Nat):Int):=by rw[wo];omega
theorem oT {p:Prop} [Decidable p](h:decide p=true):p:=ea h
theorem oF {p:Prop} [Decidable p](h:decide p=false):¬p:=of_decide_eq_false h
theorem dT {p:Prop} [Decidable p]:(decide p=true)=p:=ib
theorem dF {p:Prop} [Decidable p]:decide p=false↔¬p:=decide_eq_false_iff_not
theorem dA {p:Prop}(h:p:=by first|assumption|exact dN aS):p:=h
abbrev vi (x:Int):AV:=.vint .i64 x
abbrev LC:Type:=List Con
abbrev LL:Type:=List QfSy.Loc
abbrev lq (L:List Con):Prop:=L.length=L.length∧(fun i=>(L.getD i Con.zero).rvs)=fun i=>(L.getD i Con.zero).rvs
abbrev lz (L:List Con):Prop:=∀(i:Nat),i<L.length→(fun i=>(L.getD i Con.zero).rvs) i=(Con.ofR ((fun i=>(L.getD i Con.zero).rvs) i)).rvs
/- a list that is matched with itself; a told loop of this program -/
abbrev sq (τ:ae)(L:List τ.car):Prop:=L.length=L.length∧(fun i=>τ.rvs (L.getD i τ.zero))=fun i=>τ.rvs (L.getD i τ.zero)
abbrev sl (L:List QfSy.Loc):Prop:=L.length=L.length∧(fun i=>(L.getD i QfSy.Loc.zero).rvs)=fun i=>(L.getD i QfSy.Loc.zero).rvs
abbrev sr {α:Type}(L:List α)(r:Nat→List RV):Prop:=L.length=L.length∧r=r
abbrev An (n:Nat)(f:Func)(p:List Nat)(A:aO):Prop:=dB Tryz.prog EV.ng (Nat.max n f.ntmps) (cz f p) A
section
variable {p:Prop}
abbrev tS(h:p:=by first|exact tv|exact fun _ _=>rfl|exact ek|exact ei|omega|(rw[dZ]<;>fail)|(rw[yW];rw[dZ]<;>fail)|(have hk:k<(Ls.getD i []).length:=(by have:=oT d1;omega);first|omega|exact⟨om,om⟩|(rw[eK];first|done|rfl|exact vN hc hI hk (bQ _)|exact vN hc hI hk (by have:=oF d2;show X.length≤64;omega))|exact vN hc hI hk (bQ _)|exact vN hc hI hk (by have:=oF d2;show X.length≤64;omega)|exact⟨om,om⟩|(have e1:=G4 hI (show 64<(aC (some X)).length from by have:=oT d2;show 64<X.length;omega);first|(rw[e1]<;>fail)|(rw[e1];rfl)))|(have e1:=G3 hI (show¬k<(Ls.getD i []).length from by have:=oF d1;omega);first|(rw[e1]<;>fail)|(rw[e1];rfl))):=h
abbrev rm(h:p:=by refine a8.mk ?_;(first|(have hd:(az (au tw D p) (f+1) e n a [] none).isNone=_:=hd;rw[hs]at hd;first|exact Bool.noConfusion (hd.symm.trans d1)|(cases hd<;>fail))|(have hd:(az (au tw D p) (f+1) e n a [] none).isNone=_:=hd;rw[hs,EJ (p6 tw D p)]at hd;cases hd<;>fail))):=h
abbrev tT(h:p:=by refine cL.mk ?_;((have hk:k<(Ls.getD i []).length:=(by have:=oT d1;omega);(try rw[eK]at d2);first|exact RJ hc hI hk (bQ _) d2|exact FO hc hI hk (bQ _) d2|exact RK hc hI hk (by have:=oF d2;show X.length≤64;omega)|exact(5:Nat)))):=h
abbrev jA(h:p:=by first|exact tr|(with_reducible exact⟨rfl,rfl⟩)|(rw[fw];rfl)|rfl|decide):=h
abbrev JH(h:p:=by first|exact tv|exact ek|exact⟨rfl,om⟩|exact wB|exact A8 hl|(have h1:k+1≤n:=(by have:=oT d1;omega);have h2:(k+1)*e≤a:=(ot.1 (by have:=d2;rw[jT om om]at this;exact oT this));have wn:w6.wrap ((n:Int)-((k+1:Nat):Int))=((n-(k+1):Nat):Int):=lX om h1;have wa:w6.wrap ((a:Int)-w6.wrap (((k+1:Nat):Int)*(e:Int)))=((a-(k+1)*e:Nat):Int):=lY om om om h2;first|omega|(simp only[we,wn,wa,A7 hl,cg];first|done|rfl|exact⟨rfl,rfl⟩|omega|exact zG hc hI h1 h2|exact List.take_left|exact List.length_append.symm|(refine⟨?_,rfl⟩;rw[fV];exact mn _ _)|(simp only[fV,dg,ic];first|omega|exact⟨om,rfl⟩|exact⟨om,om⟩))|(simp only[fV,dg,ic];omega))|(have hx:¬(k+1≤n∧(k+1)*e≤a):=(by rintro⟨q1,q2⟩;first|(have:=oF d1;omega)|(have h9:=d2;rw[wm]at h9;exact(oF h9) (ot.2 q2)));have e1:=vS hI hx;first|(rw[e1]<;>fail)|(rw[e1];rfl))):=h
abbrev JI(h:p:=by obtain⟨hp,hJ⟩:=hI;have hk0:k≤n:=cl hJ.1 qD;have wm:w6.wrap (((k+1:Nat):Int)*(e:Int))=(((k+1)*e:Nat):Int):=jT om om;have ek:w6.wrap (((k+1:Nat):Int)+1)=((k+1+1:Nat):Int):=(by rw[wo];omega);(have h1:k+1≤n:=(by have:=oT d1;omega);have h2:(k+1)*e≤a:=(ot.1 (by have:=d2;rw[jT om om]at this;exact oT this));have wn:w6.wrap ((n:Int)-((k+1:Nat):Int))=((n-(k+1):Nat):Int):=lX om h1;have wa:w6.wrap ((a:Int)-w6.wrap (((k+1:Nat):Int)*(e:Int)))=((a-(k+1)*e:Nat):Int):=lY om om om h2;first|exact ek|omega|(simp only[we,wn,wa,A7 hl,cg];first|done|rfl|exact⟨rfl,rfl⟩|omega|exact zG hc hJ h1 h2|exact List.take_left|(simp only[fV,dg,ic];first|omega|exact⟨om,rfl⟩|exact⟨om,om⟩))|(simp only[fV,dg,ic];omega))):=h
abbrev iC(h:p:=by have:=oT d1;omega):=h
abbrev xn(h:p:=by first|exact tv|(simp only[we,cg];first|done|rfl|exact⟨rfl,rfl⟩|exact hr|exact⟨hr,h1,hg⟩)|(show _=(ab (az (au tw D p) (f+1) e n a [] none)).length;rw[hs]<;>rfl)|(show _=ab (az (au tw D p) (f+1) e n a [] none);rw[hs]<;>rfl)):=h
abbrev BB(h:p:=by rintro⟨q1,q2⟩;first|(have:=oF d1;omega)|(have h9:=d2;rw[wm]at h9;exact(oF h9) (ot.2 q2))):=h
abbrev BC(h:p:=by refine a8.mk ?_;(first|(have hd:(az (au tw D p) (f+1) e n a L none).isNone=_:=hd;rw[hs]at hd;first|exact Bool.noConfusion (hd.symm.trans d1)|(cases hd<;>fail))|(have hd:(az (au tw D p) (f+1) e n a L none).isNone=_:=hd;rw[hs,EJ (p6 tw D p)]at hd;cases hd<;>fail))):=h
abbrev tU(h:p:=by simp only[we,cg];first|done|rfl|exact⟨rfl,rfl⟩|exact hr|exact⟨hr,h1,hg⟩):=h
abbrev tV(h:p:=by first|exact Ub aS|exact Hi aS|exact Uc aS|exact Ud hi1 aS aS|exact Ue hi1 aS aS):=h
abbrev fu(h:p:=by refine a8.mk ?_;(simp_all)):=h
abbrev tW(h:p:=by refine a8.mk ?_;(first|(have hd:(aK n D Ls (r+1) i (C,none)).2.isNone=_:=hd;exact Bool.noConfusion (hd.symm.trans hz)))):=h
abbrev rt(h:p:=by with_reducible exact⟨rfl,rfl⟩):=h
abbrev tX(h:p:=by refine dO.mk ?_;(have hk:=oT d1;show(Ls.getD i []).length-(k+1)<(Ls.getD i []).length-k;omega)):=h
abbrev JJ(h:p:=by have:=d2;rw[jT om om]at this;exact oT this):=h
abbrev tY(h:p:=by rw[HJ h6];exact⟨(o7 _).length_eq.symm,(o7 _).length_eq.symm,fun _ _=>rfl⟩):=h
abbrev BD(h:p:=by first|exact tr|(rw[ew];omega)|(refine H6 ?_;rintro⟨a1,a2,a3,a4,a5,a6⟩;first|omega|(have:=oT d1;omega)|(have:=oT d2;omega)|(have:=oT d3;omega)|(have:=oT d4;omega))):=h
abbrev j9(h:p:=by rw[pU];exact h2):=h
abbrev JK(h:p:=by first|exact tz|decide|((try simp only[ek,cg,pP,dT,dF]at*)<;>first|omega|(rw[←hf,G8 om]<;>fail)|(rw[←hf,G7 om d2]<;>fail)|(have h0:=ux _ (iX (P:=ao L) (t:=j) om);have h1:0<(ah (ao L) j).length:=nf.2 h0.1;have h2:0<((ao L).getD j []).length:=h1;first|omega|rfl))):=h
abbrev kJ(h:p:=by have:=oF d1;omega):=h
abbrev tZ(h:p:=by refine dO.mk ?_;(simp only[dT]at*;show L.length-(k+1)<L.length-k;omega)):=h
abbrev xp(h:p:=by refine⟨?_,?_,?_,?_,(?_:lq L)⟩<;>(first|rfl|exact⟨rfl,rfl⟩|assumption|omega|simp_all)):=h
abbrev nb(h:p:=by rw[jT om om];exact Yb h5):=h
abbrev BE(h:p:=by first|rfl|exact⟨rfl,rfl⟩|exact kb|exact e2|exact e4|decide|(exact fun _ _=>rfl)|(exact⟨rfl,rfl,fun i hi=>by rw[show i=0 by omega];rfl⟩)):=h
abbrev kK(h:p:=by rw[wo];omega):=h
abbrev JL(h:p:=by first|exact tz|exact Sv hc|rfl|exact cb F|(rw[cb];first|done|rfl|exact⟨rfl,rfl⟩)|(rw[cb]<;>fail)|exact⟨fun _ _=>rfl,by rw[cb];exact hL,h0,by rw[cb];exact k2⟩|(rw[rB]<;>fail)|omega|exact fun _ _=>rfl):=h
abbrev JM(h:p:=by refine a8.mk ?_;(first|(rw[Bg d1]at hd;exact Bool.noConfusion (hd.symm.trans d2))|(rw[nW d1,isN d2]at hd;exact Bool.noConfusion (hd.symm.trans d3))|(rw[nW d1,jW d2,nu]at hd;exact Bool.noConfusion hd))):=h
abbrev xq(h:p:=by show _=(ab (az (au tw D p) (f+1) e n a L none)).length;rw[hs]<;>rfl):=h
abbrev JN(h:p:=by refine a8.mk ?_;(first|(have hd:(az (au tw D p) (f+1) e n a L none).isNone=_:=hd;have e1:=tu d1;rw[e1]at hs;rw[hs]at hd;first|exact Bool.noConfusion (hd.symm.trans d2)|(cases hd<;>fail)))):=h
abbrev JO(h:p:=by refine a8.mk ?_;(first|(have e1:=d1;rw[cb]at e1;have hd:(gE D C none).isNone=_:=hd;first|(rw[sP e1]at hd;exact Bool.noConfusion (hd.symm.trans d2))|(rw[sQ e1]at hd;cases hd)))):=h
abbrev mf(h:p:=by have:=hG.n1;omega):=h
abbrev mg(h:p:=by have:=hG.d1;omega):=h
abbrev xr(h:p:=by rw[cb];first|done|rfl|exact⟨rfl,rfl⟩):=h
abbrev jB(h:p:=by exact⟨rfl,by rw[x0]⟩):=h
abbrev xt(h:p:=by show _=ab (az (au tw D p) (f+1) e n a L none);rw[hs]<;>rfl):=h
abbrev BF(h:p:=by first|exact tr|exact Lk om|(rw[wo];omega)|omega|(rw[Rp hI (nz rfl d1)]<;>fail)|rfl):=h
abbrev ru(h:p:=by simp only[we,cg];exact hz2):=h
abbrev JP(h:p:=by refine a8.mk ?_;(first|(have e1:=By d1;have hd:(eu n D C none).isNone=_:=hd;first|(rw[to e1]at hd;cases hd<;>fail)|(rw[tt e1]at hd;cases hd<;>fail)))):=h
abbrev JQ(h:p:=by first|exact tz|decide|((try simp only[ek,cg,dT,dF]at*)<;>first|omega|(rw[←hf,G6 om]<;>fail)|(rw[←hf,G5 om d2]<;>fail)|(have h2:=hr.at (t:=k+1) om;omega))):=h
abbrev JR(h:p:=by refine gu.mk ?_;cases d<;>first|rfl|(exfalso;(simp only[dT,dF]at d1;first|(rw[←hf,G8 om]at hs;cases hs<;>fail)|(rw[←hf,G7 om d2]at hs;cases hs<;>fail)))):=h
abbrev JS(h:p:=by refine gu.mk ?_;cases d<;>first|rfl|(exfalso;(simp only[dT,dF]at*;first|(rw[←hf,G6 om]at hs;cases hs<;>fail)|(rw[←hf,G5 om d2]at hs;cases hs<;>fail)))):=h
abbrev t6(h:p:=by exact⟨fun _ _=>rfl,by rw[cb];exact hL.e⟩):=h
abbrev JT(h:p:=by refine a8.mk ?_;(first|(rw[pz,isN d1]at hd;exact Bool.noConfusion (hd.symm.trans d2))|(rw[pz,jW d1,p7]at hd;exact Bool.noConfusion hd))):=h
abbrev ka(h:p:=by exact⟨rfl,s1.2.1.pos⟩):=h
abbrev BG(h:p:=by refine⟨?_,?_,?_,?_,?_,?_,?_,?_,?_,(?_:Ls=Ls)⟩<;>(first|exact tv)):=h
abbrev BH(h:p:=by cases h:L.length.beq 0 with|false=>rfl|true=>have:=co h;omega):=h
abbrev BI(h:p:=by show _=(ab (az (au tw D p) (f+1) e n a [] (some X))).length;rw[hs]<;>rfl):=h
abbrev BJ(h:p:=by show _=(ab (az (au tw D p) (f+1) e n a L (some X))).length;rw[hs]<;>rfl):=h
abbrev JU(h:p:=by ((try simp only[dT,dF,iV]at*);first|(exfalso;simp at d1<;>fail)|(exfalso;simp at d2<;>fail)|(unfold bw;split<;>first|omega|(split<;>omega)))):=h
abbrev BK(h:p:=by refine dO.mk ?_;(simp only[dT]at*;show P.length-(j+1)<P.length-j;omega)):=h
abbrev xu(h:p:=by first|rfl|assumption|exact⟨rfl,rfl⟩|omega|simp_all):=h
abbrev rx(h:p:=by rw[cb];exact hf):=h
abbrev JV(h:p:=by refine a8.mk ?_;(first|(have hd:(aB D F (eY F) F.length 0 F none).2.isNone=_:=hd;exact Bool.noConfusion (hd.symm.trans d1)))):=h
abbrev BL(h:p:=by refine dO.mk ?_;(obtain⟨d3,d4⟩:=rW hp g1 (zz rfl d1);exact d4)):=h
abbrev BM(h:p:=by show _=ab (az (au tw D p) (f+1) e n a [] (some X));rw[hs]<;>rfl):=h
abbrev BN(h:p:=by show _=ab (az (au tw D p) (f+1) e n a L (some X));rw[hs]<;>rfl):=h
abbrev JW(h:p:=by refine a8.mk ?_;(first|(have hd:(bR D p S S.length 0 S none).2.isNone=_:=hd;exact Bool.noConfusion (hd.symm.trans d1)))):=h
abbrev lD(h:p:=by exact⟨rfl,s2.2.1.pos⟩):=h
abbrev jl(h:p:=by exact⟨rfl,hn.pos⟩):=h
abbrev JX(h:p:=by refine a8.mk ?_;(first|(have hd:(br D S (r+1) i (C,none)).2.isNone=_:=hd;exact Bool.noConfusion (hd.symm.trans d1)))):=h
abbrev jC(h:p:=by exact⟨rfl,rfl,rfl⟩):=h
abbrev JY(h:p:=by refine dO.mk ?_;(simp only[dT]at d1;show(ah (ao L) j).length-(k+1)<(ah (ao L) j).length-k;omega)):=h
abbrev JZ(h:p:=by first|exact tz|decide|exact⟨hd1,hd2,hp1,hp2,hp3⟩|omega|rfl|(show _=_∧_;refine⟨?_,?_⟩<;>simp[ab]<;>omega)|(simp[ab]<;>fail)):=h
abbrev t7(h:p:=by rw[pU];exact h3):=h
abbrev xv(h:p:=by first|exact tv|exact hc|omega|exact⟨hc3,om⟩):=h
abbrev J0(h:p:=by have:=hL.1;rcases bA j P.length with h|h;have:=(hP _ (iX h)).2.2;omega;simp[ah,h]):=h
abbrev BO(h:p:=by have hk:=oT d1;show n+1-(k+1)<n+1-k;omega):=h
abbrev J1(h:p:=by rcases bA j P.length with h|h;exact(hP _ (iX h)).2.1;intro x hx;simp[ah,h]at hx):=h
abbrev t8(h:p:=by first|exact tv|omega|exact⟨om,om⟩):=h
abbrev xw(h:p:=by rw[jT om om];exact Yc h5):=h
abbrev J2(h:p:=by first|exact tz|decide|((try simp only[ek,cg,dT,dF]at*)<;>first|omega|rfl|(rw[show k=C.length by omega]))):=h
abbrev pJ(h:p:=by exact⟨fun _ _=>rfl,hn⟩):=h
abbrev J3(h:p:=by refine⟨?_,?_,?_,?_,(?_:(0:Int)=↑(0:Nat))⟩<;>(first|rfl|exact⟨rfl,rfl⟩|assumption|omega|simp_all)):=h
abbrev J4(h:p:=by refine⟨?_,?_,?_,?_,?_,?_,?_,(?_:lq L)⟩<;>(first|rfl|exact⟨rfl,rfl⟩|assumption|omega|simp_all)):=h
abbrev J5(h:p:=by refine⟨?_,?_,?_,?_,?_,(?_:sl g.locs)⟩<;>(first|rfl|assumption|exact⟨rfl,rfl⟩|omega|simp_all)):=h
abbrev BP(h:p:=by refine cL.mk ?_;(exact O2 hp hb hI (zz rfl d1))):=h
abbrev J6(h:p:=by refine a8.mk ?_;((have hd:(az (au tw D p) (f+1) e n a [] none).isNone=_:=hd;rw[hs]at hd;cases hd))):=h
abbrev J7(h:p:=by refine⟨?_,?_,?_,(?_:(0:Int)=↑(0:Nat))⟩<;>(first|rfl|assumption|exact⟨rfl,rfl⟩|omega|simp_all)):=h
abbrev J8(h:p:=by refine a8.mk ?_;((have hd:(az (au tw D p) (f+1) e n a L none).isNone=_:=hd;rw[hs]at hd;cases hd))):=h
abbrev J9(h:p:=by refine dO.mk ?_;(have hk:=oT d1;show(aZ (at_ S i)).length-(k+1)<(aZ (at_ S i)).length-k;omega)):=h
abbrev Ka(h:p:=by have e1:=G3 hI (show¬k<(Ls.getD i []).length from by have:=oF d1;omega);rw[e1]at hz;cases hz):=h
abbrev Kb(h:p:=by refine dO.mk ?_;(simp only[dT]at d1;show(ao L).length-(j+1)<(ao L).length-j;omega)):=h
abbrev Kc(h:p:=by refine⟨?_,?_,?_,?_,(?_:L=L)⟩<;>(first|rfl|assumption|exact⟨rfl,rfl⟩|omega|simp_all)):=h
abbrev oo(h:p:=by exact⟨fun _ _=>rfl,hl⟩):=h
abbrev Kd(h:p:=by refine dO.mk ?_;(simp only[dT]at*;show(ah P j).length-(t+1)<(ah P j).length-t;omega)):=h
abbrev Yn(h:p:=by have hp:decide ((i:Int)>0)=true:=aS;have:=oT hp;first|(rw[w8 om hi1];omega)|(rw[wo];omega)):=h
abbrev Ke(h:p:=by refine⟨?_,?_,?_,(?_:lq L)⟩<;>(first|rfl|exact⟨rfl,rfl⟩|assumption|omega|simp_all)):=h
abbrev Kf(h:p:=by refine dO.mk ?_;(have hk:=oT d1;show(ao F).length-(k+1)<(ao F).length-k;omega)):=h
abbrev ua(h:p:=by exact⟨rfl,rfl,gv.2 ⟨q1,si,rfl⟩⟩):=h
abbrev Kg(h:p:=by first|exact tz|((try simp only[ek,e8,at_,cg,dT,dF,iV]at*)<;>first|omega|(exact wo))):=h
abbrev oq(h:p:=by exact⟨rfl,s3.2.1.pos⟩):=h
abbrev Kh(h:p:=by refine⟨?_,?_,?_,?_,?_,?_,?_,?_,?_,?_,?_,(?_:X0=X0)⟩<;>(first|exact tv)):=h
abbrev Ki(h:p:=by simp only[we,wn,wa,cg];first|done|rfl|exact⟨rfl,rfl⟩|omega|exact zG hc hJ h1 h2):=h
abbrev Kj(h:p:=by refine dO.mk ?_;(have hk:=oT d1;show g.locs.length-(j+1)<g.locs.length-j;omega)):=h
abbrev Kk(h:p:=by refine a8.mk ?_;(rw[cb]at d1 d2;unfold en at hv;rw[d1,d2]at hv;cases hv)):=h
abbrev BQ(h:p:=by unfold en;rw[hf,Bool.or_true]):=h
abbrev Kl(h:p:=by refine cL.mk ?_;(simp only[dT]at d1;exact⟨om,by rw[←hf];exact(TO om d2).symm,hs⟩)):=h
abbrev ub(h:p:=by have:=oT d1;omega):=h
abbrev Km(h:p:=by refine⟨?_,?_,(?_:(0:Int)=↑(0:Nat))⟩<;>(first|exact tr|rfl|omega)):=h
abbrev Kn(h:p:=by refine dO.mk ?_;(simp only[dT,dF]at*;show L.length-(k+1)<L.length-k;omega)):=h
abbrev Ko(h:p:=by refine dO.mk ?_;(simp only[dT]at d1;show C.length-(k+1)<C.length-k;omega)):=h
abbrev xy(h:p:=by rw[←hs];assumption):=h
abbrev uc(h:p:=by exact⟨rfl,rfl,fun _ _=>rfl⟩):=h
abbrev kcx(h:p:=by have:=H0.hp;omega):=h
abbrev Kp(h:p:=by refine dO.mk ?_;(simp only[dT]at*;show A.length-(k+1)<A.length-k;omega)):=h
abbrev Kq(h:p:=by have:=(hc7.at (k:=i) om).2.1;show 0≤(at_ S i).dim;omega):=h
abbrev Kr(h:p:=by refine dO.mk ?_;(have hk:=oT d1;show L.length-(k+1)<L.length-k;omega)):=h
abbrev Ks(h:p:=by refine dO.mk ?_;(have hk:=oT d1;show C.length-(k+1)<C.length-k;omega)):=h
abbrev Kt(h:p:=by refine cL.mk ?_;(simp only[ek,dT]at*;exact⟨om,by rw[←hf,TN om d2],hs⟩)):=h
abbrev Ku(h:p:=by exact⟨rfl,by have:=hc7;show X.length+1≤1000000;have h9:X.length≤64:=hc7;omega⟩):=h
abbrev Kv(h:p:=by refine cL.mk ?_;(have hk:=oT d1;show k+1≤(ao F).length;omega)):=h
abbrev BR(h:p:=by rw[pU];exact h4):=h
abbrev kL(h:p:=by cases h<;>fail):=h
abbrev BS(h:p:=by simpa [cn]using h2):=h
abbrev BT(h:p:=by rw[cb];exact hv):=h
abbrev BU(h:p:=by rw[cb];exact h1):=h
abbrev Kw(h:p:=by refine cL.mk ?_;(simp only[dT]at d1;show k+1≤C.length;omega)):=h
abbrev ud(h:p:=by have:=hG.d1;exact wo):=h
abbrev Kx(h:p:=by first|exact I1 d3 d4|exact I2 d3 d4):=h
abbrev Ky(h:p:=by have h9:=d2;rw[jT om om]at h9;exact(oF h9) (ot.2 h2)):=h
abbrev Kz(h:p:=by rw[show C.length=i by omega];exact hc6):=h
abbrev KK(h:p:=by refine cL.mk ?_;(have hk:=oT d1;show k+1≤L.length;omega)):=h
abbrev KM(h:p:=by refine cL.mk ?_;(have hk:=oT d1;show k+1≤C.length;omega)):=h
abbrev BV(h:p:=by exact⟨om,Hv hJ h1 h2 d3⟩):=h
abbrev BW(h:p:=by exact⟨om,Hu hJ h1 h2 d3⟩):=h
abbrev BX(h:p:=by have:=h.hp;omega):=h
abbrev BY(h:p:=by have:=h.he;omega):=h
abbrev BZ(h:p:=by have:=H.he;omega):=h
abbrev ue(h:p:=by exact⟨rfl,s5.2.1.pos⟩):=h
abbrev uf(h:p:=by exact(HK h6).symm):=h
abbrev ug(h:p:=by exact(U4 h6).symm):=h
abbrev KO(h:p:=by simp only[dT,dF,iV]at*;have:=yB hI;omega):=h
abbrev B3(h:p:=by exact⟨om,Hw hJ h1 h2⟩):=h
abbrev uh(h:p:=by exact⟨oT rfl,oT rfl⟩):=h
abbrev KW(h:p:=by obtain⟨hp,hJ⟩:=hI;have hk0:k≤n:=cl hJ.1 qD;have wm:w6.wrap (((k+1:Nat):Int)*(e:Int))=(((k+1)*e:Nat):Int):=jT om om;have ek:w6.wrap (((k+1:Nat):Int)+1)=((k+1+1:Nat):Int):=kK;(have h1:k+1≤n:=iC;have h2:(k+1)*e≤a:=(ot.1 JJ);have wn:w6.wrap ((n:Int)-((k+1:Nat):Int))=((n-(k+1):Nat):Int):=lX om h1;have wa:w6.wrap ((a:Int)-w6.wrap (((k+1:Nat):Int)*(e:Int)))=((a-(k+1)*e:Nat):Int):=lY om om om h2;(try simp only[we,wn,wa,cg]at d3);first|exact BW|exact BV|exact B3)):=h
abbrev KX(h:p:=by refine cL.mk ?_;((have h1:k+1≤n:=iC;have h2:(k+1)*e≤a:=(ot.1 JJ);have wn:w6.wrap ((n:Int)-((k+1:Nat):Int))=((n-(k+1):Nat):Int):=lX om h1;have wa:w6.wrap ((a:Int)-w6.wrap (((k+1:Nat):Int)*(e:Int)))=((a-(k+1)*e:Nat):Int):=lY om om om h2;(try simp only[we,wn,wa,cg]at d3);first|exact Hu hI h1 h2 d3|exact Hv hI h1 h2 d3|exact Hw hI h1 h2))):=h
abbrev KY(h:p:=by obtain⟨hp,hJ⟩:=hI;have hk0:k≤n:=cl hJ.1 qD;have wm:w6.wrap (((k+1:Nat):Int)*(e:Int))=(((k+1)*e:Nat):Int):=jT om om;have ek:w6.wrap (((k+1:Nat):Int)+1)=((k+1+1:Nat):Int):=kK;have hx:¬(k+1≤n∧(k+1)*e≤a):=BB;have e1:=vS hJ hx;have hd:(eh (au tw D p) f e n a [] none (dG e n a)).isNone=_:=hd;rw[e1]at hd;cases hd):=h
abbrev KZ(h:p:=by first|exact tz|exact ek|(have hk:k<(ao F).length:=iC;obtain⟨r1,r2,r3⟩:=Xl hk;first|exact UH hk|omega|(rw[qj,qj]<;>fail)|(rw[qj];exact(Int.toNat_lt r2).2 r3)|(rw[qj];exact⟨r2,r3⟩))|(have hk:k=(ao F).length:=kJ;first|exact HB hk|(rw[HB hk]<;>fail))):=h
abbrev K0(h:p:=by obtain⟨hp,hJ⟩:=hI;have hk0:k≤n:=cl hJ.1 qD;have wm:w6.wrap (((k+1:Nat):Int)*(e:Int))=(((k+1)*e:Nat):Int):=jT om om;have ek:w6.wrap (((k+1:Nat):Int)+1)=((k+1+1:Nat):Int):=kK;have hx:¬(k+1≤n∧(k+1)*e≤a):=BB;have e1:=vS hJ hx;first|(rw[e1]<;>fail)|(rw[e1];rfl)):=h
abbrev K1(h:p:=by first|exact tz|exact ek|exact ei|omega|(have hk:=oT d1;exact⟨om,hk⟩)|(rw[dZ]<;>fail)|(rw[zd,dZ]<;>fail)|exact Sf hI iC tV|(have hk:¬k<(aZ (at_ S i)).length:=kJ;first|(rw[Az hI hk]<;>fail)|(rw[Az hI hk];rfl))|exact Yn):=h
abbrev K2(h:p:=by refine a8.mk ?_;((have hx:¬(k+1≤n∧(k+1)*e≤a):=BB;have e1:=vS hI hx;have hd:(eh (au tw D p) f e n a L none (dG e n a)).isNone=_:=hd;rw[e1]at hd;cases hd))):=h
abbrev K3(h:p:=by first|exact tr|exact jl|(rw[jX om om];omega)|(have:=hn.pos;omega)|decide|rfl):=h
abbrev K4(h:p:=by refine a8.mk ?_;(first|(obtain⟨j,j1,j2⟩:=hR;have h8:=hI.2.2.2.2 j kJ;omega))):=h
abbrev K5(h:p:=by have h8:=hE k iC;rw[hI.2.1]at h8;have h9:X.length≤64:=h8;have:=oT d2;omega):=h
abbrev K6(h:p:=by refine dO.mk ?_;(first|exact BO|(show n+1-(0+1)<n+2;omega))):=h
abbrev B4(h:p:=by first|rfl|exact⟨rfl,rfl⟩|exact pJ):=h
end
noncomputable def aQ (n:Nat):RV:=.agg [.bool false,.sl 1 1 (fun _=>[.int .u32 (n:Int)])]
theorem pw (n:Nat)(h:n<4294967296):IntKind.u32.wrap (n:Int)=n:=by rw[IntKind.wrap_u32];omega
theorem mQ (n:Nat)(h:n<18446744073709551616):IntKind.u64.wrap (n:Int)=n:=by rw[IntKind.wrap_u64];omega
theorem TL (n:Nat)(h:n<9223372036854775808):w6.wrap (n:Int)=n:=by rw[IntKind.wrap_i64];omega
noncomputable abbrev oc (x:Int):Int:=x.fdiv ((2:Int)^min (Int.toNat (32:Int)) IntKind.u64.bits)
noncomputable abbrev cM (x:Int):Int:=IntKind.u64.wrap (↑(BitVec.ofInt IntKind.u64.bits (0:Int)|||BitVec.ofInt IntKind.u64.bits (IntKind.u64.wrap (IntKind.u64.wrap x*2^min (w6.wrap ((32:Int)*0)).toNat IntKind.u64.bits))).toNat:Int)
theorem wv (n:Nat)(h:n<4294967296):oc (IntKind.u64.wrap (n:Int))=0:=by
 rw[mQ n om]
 show(n:Int).fdiv 4294967296=0
 rw[Int.fdiv_eq_ediv_of_nonneg _ de]
 omega
theorem jx (n:Nat)(h:n<4294967296):cM (n:Int)=n:=by
 show IntKind.u64.wrap (↑(BitVec.ofInt 64 (0:Int)|||BitVec.ofInt 64 (IntKind.u64.wrap (IntKind.u64.wrap (n:Int)*1))).toNat:Int)=n
 rw[Int.mul_one,mQ n om,mQ n om]
 rw[show BitVec.ofInt 64 (0:Int)=0#64 from rfl,BitVec.zero_or,BitVec.ofInt_natCast,BitVec.toNat_ofNat,rD om,mQ n om]
theorem gP (n:Nat)(h:0<n):((n:Int)==0)=false:=cp.2 om
theorem L3 (n:Nat)(h0:0<n)(hb:n<4294967296):ax Tryz.prog [] 58 [.int .i64 (n:Int)] (aQ n):=by
 have k1:decide ((↑n:Int)<0)=false:=bI om
 have k2:(IntKind.u32.wrap (oc (IntKind.u64.wrap (↑n:Int)))==0)=true:=by rw[wv n hb];rfl
 have k3:(IntKind.u32.wrap (IntKind.u64.wrap (↑n:Int))==0)=false:=by rw[mQ n om,pw n hb];exact gP n h0
 have rr:=fun(tp:List Bool)(ms:List Prop)h hm=>cx aX (bU aX (cm _ _) 8) Tryz.func58 (A:=[.int .i64 (n:Int)]) rfl aE rfl rfl cv (tabs:=[]) (R:=aQ n) (tp:=tp) (ms:=ms) h hm
 refine rr (tp 212) (let v1:=IntKind.u64.wrap (↑n:Int);[false=false,IntKind.u32.wrap v1=↑n,aa (IntKind.u32.wrap v1==0) false,aa (IntKind.u32.wrap (v1.fdiv ((2:Int)^min (Int.toNat (32:Int)) IntKind.u64.bits))==0) true,aa (decide ((↑n:Int)<0)) false]) kr ⟨?_,?_,k3,k2,k1⟩
 all_goals first|(first|rfl|(rw[mQ n om,pw n hb]))
theorem NG (n:Nat)(h0:0<n)(hb:n<4294967296):ax Tryz.prog [] 98 [aQ n] (.int .i64 1):=by
 have rr:=fun(tp:List Bool)(ms:List Prop)h hm=>cx aX (bU aX (cm _ _) 8) Tryz.func98 (A:=[aQ n]) rfl aE rfl rfl cv (tabs:=[]) (R:=.int .i64 1) (tp:=tp) (ms:=ms) h hm
 refine rr [false,false] (let v1:=(↑(1:Nat):Int);[rq (1:Int),aa false false,aa ((↑n:Int)==0) false,(0:Int)≤w6.wrap (v1-1)∧w6.wrap (v1-1)<v1]) kr ⟨?_,rfl,gP n h0,(?_:(0:Int)≤w6.wrap ((↑(1:Nat):Int)-1)∧w6.wrap ((↑(1:Nat):Int)-1)<↑(1:Nat))⟩
 all_goals first|(first|rfl|decide)
theorem Mn (row:Nat→List RV):ax Tryz.prog [] 98 [.agg [.bool false,.sl 0 1 row]] (.int .i64 0):=by
 have rr:=fun(tp:List Bool)(ms:List Prop)h hm=>cx aX (bU aX (cm _ _) 8) Tryz.func98 (A:=[.agg [.bool false,.sl 0 1 row]]) rfl aE rfl rfl cv (tabs:=[]) (R:=.int .i64 0) (tp:=tp) (ms:=ms) h hm
 refine rr [] [rq (0:Int)] kr (?_:(0:Int)=0)
 all_goals first|exact xu
theorem Mo (n:Nat)(h0:0<n)(hb:n<4294967296):ax Tryz.prog [] 103 [aQ n] (aQ n):=by
 have rr:=fun(tp:List Bool)(ms:List Prop)h hm=>cx aX (bU aX (cm _ _) 8) Tryz.func103 (A:=[aQ n]) rfl aE rfl rfl cv (tabs:=[]) (R:=aQ n) (tp:=tp) (ms:=ms) h hm
 refine rr [false,false] (let v1:=[RV.int IntKind.u32 (↑n:Int)];let v2:=dQ (1:Nat) fun(x:Nat)=>v1;let v3:=(↑(1:Nat):Int);[false=false,(1:Nat)=1∧(1:Nat)=v2.length∧∀(i:Nat),i<1→(fun(x:Nat)=>v1) i=[RV.int IntKind.u32 (v2.getD i (0:Int))],false=false,(0:Nat)<1∧(1:Nat)≤1000000,∀(i:Nat),i<1→(fun(x:Nat)=>v1) i=[RV.int IntKind.u32 (gN ((fun(x:Nat)=>v1) i))],aa false false,(0:Nat)<1,false=false,aa ((↑n:Int)==0) false,(0:Int)≤w6.wrap (v3-1)∧w6.wrap (v3-1)<v3]) kr ⟨?_,?_,?_,?_,?_,rfl,?_,?_,gP n h0,(?_:(0:Int)≤w6.wrap ((↑(1:Nat):Int)-1)∧w6.wrap ((↑(1:Nat):Int)-1)<↑(1:Nat))⟩
 all_goals first|(first|rfl|decide|(exact fun _ _=>rfl)|(exact⟨rfl,rfl,fun i hi=>by rw[show i=0 by omega];rfl⟩))
theorem L4 (n:Nat)(h0:0<n)(hb:n<4294967296):ax Tryz.prog [] 19 [aQ n] (.tup [.int .i64 (n:Int),.bool true]):=by
 have k1:decide (cM (n:Int)<9223372036854775808)=true:=by rw[jx n hb];exact bJ om
 have k2:w6.wrap (cM (n:Int))=(n:Int):=by rw[jx n hb,TL n om]
 have rr:=fun(tp:List Bool)(ms:List Prop)h hm=>cx aX (bU aX (cm _ _) 8) Tryz.func19 (A:=[aQ n]) rfl aE rfl rfl cv (tabs:=[]) (R:=.tup [.int .i64 (n:Int),.bool true]) (tp:=tp) (ms:=ms) h hm
 refine rr (tp 2211) (let v1:=(↑(BitVec.ofInt IntKind.u64.bits (0:Int)|||BitVec.ofInt IntKind.u64.bits (IntKind.u64.wrap (IntKind.u64.wrap (↑n:Int)*2^min (w6.wrap ((32:Int)*0)).toNat IntKind.u64.bits))).toNat:Int);let v2:=(↑(1:Nat):Int);[w6.wrap (IntKind.u64.wrap v1)=↑n,true=true,aa (decide (IntKind.u64.wrap v1<9223372036854775808)) true,aa (!false) true,aa false false,(0:Int)≤0∧(0:Int)<v2,aa ((↑n:Int)==0) false,(0:Int)≤w6.wrap (v2-1)∧w6.wrap (v2-1)<v2]) kr ⟨?_,?_,k1,(dN rfl),rfl,?_,gP n h0,(?_:(0:Int)≤w6.wrap ((↑(1:Nat):Int)-1)∧w6.wrap ((↑(1:Nat):Int)-1)<↑(1:Nat))⟩
 all_goals first|(first|rfl|exact k2|decide)
theorem NH (a b:Nat)(ha:0<a)(hb:0<b)(hab:a*b<4294967296):ax Tryz.prog [] 100 [aQ a,aQ b] (aQ (a*b)):=by
 have a1:a<4294967296:=pN (Nat.le_mul_of_pos_right a hb) hab
 have b1:b<4294967296:=pN (Nat.le_mul_of_pos_left b ha) hab
 have ab0:=Nat.mul_pos ha hb
 have e:cM (a:Int)*cM (b:Int)=((a*b:Nat):Int):=by rw[jx a a1,jx b b1,Int.natCast_mul]
 have k1:(IntKind.u32.wrap (oc (IntKind.u64.wrap (cM (a:Int)*cM (b:Int))))==0)=true:=by rw[e,wv _ hab];rfl
 have k3:IntKind.u32.wrap (IntKind.u64.wrap (cM (a:Int)*cM (b:Int)))=((a*b:Nat):Int):=by rw[e,mQ _ om,pw _ hab]
 have k2:(IntKind.u32.wrap (IntKind.u64.wrap (cM (a:Int)*cM (b:Int)))==0)=false:=by rw[k3];exact gP _ ab0
 have rr:=fun(tp:List Bool)(ms:List Prop)h hm=>cx aX (bU aX (cm _ _) 8) Tryz.func100 (A:=[aQ a,aQ b]) rfl aE rfl rfl cv (tabs:=[]) (R:=aQ (a*b)) (tp:=tp) (ms:=ms) h hm
 refine rr (tp 2212) (let v1:=IntKind.u64.wrap (IntKind.u64.wrap (↑(BitVec.ofInt IntKind.u64.bits (0:Int)|||BitVec.ofInt IntKind.u64.bits (IntKind.u64.wrap (IntKind.u64.wrap (↑a:Int)*2^min (w6.wrap ((32:Int)*0)).toNat IntKind.u64.bits))).toNat:Int)*IntKind.u64.wrap (↑(BitVec.ofInt IntKind.u64.bits (0:Int)|||BitVec.ofInt IntKind.u64.bits (IntKind.u64.wrap (IntKind.u64.wrap (↑b:Int)*2^min (w6.wrap ((32:Int)*0)).toNat IntKind.u64.bits))).toNat:Int));let v2:=(↑(1:Nat):Int);let v3:=v2-1;let v4:=[RV.int IntKind.u32 (↑b:Int)];[(!false==false)=false,IntKind.u32.wrap v1=↑(a*b),false=false,false=false,aa (IntKind.u32.wrap v1==0) false,aa (IntKind.u32.wrap (v1.fdiv ((2:Int)^min (Int.toNat (32:Int)) IntKind.u64.bits))==0) true,(0:Int)≤0∧(0:Int)<v2,(0:Int)≤0∧(0:Int)<v2,false=false,false=false,aa ((↑b:Int)==0) false,(0:Int)≤w6.wrap v3∧w6.wrap v3<v2,(1:Nat)=1∧(fun(x:Nat)=>v4)=fun(x:Nat)=>v4,false=false,false=false,aa ((↑a:Int)==0) false,(0:Int)≤w6.wrap v3∧w6.wrap v3<v2]) kr ⟨?_,?_,?_,?_,k2,k1,?_,?_,?_,?_,gP b hb,?_,?_,?_,?_,gP a ha,(?_:(0:Int)≤w6.wrap ((↑(1:Nat):Int)-1)∧w6.wrap ((↑(1:Nat):Int)-1)<↑(1:Nat))⟩
 all_goals first|(first|rfl|exact k3|exact⟨rfl,rfl⟩|decide)
end Go.Proofs.YtdbdoalefmliiaaGreatDoor.S
namespace Go.QfSy
open Go.RowKit
noncomputable def zT (cond:Nat→List AV→Hs→Option Bool)(call1 call2 call:bq):bq:=fun f args H=>match cond f args H with
 |none=>call f args H
 |some b=>match H.ask b with
  |(d,H1)=>bif d then call1 f args H1 else call2 f args H1
theorem MZ {P:Program}{ng:Nat}{cond:Nat→List AV→Hs→Option Bool}{call1 call2 call:bq}(h1:bV P ng call1)(h2:bV P ng call2)(h0:bV P ng call):bV P ng (zT cond call1 call2 call):=by
 intro f args H v H' hq
 unfold zT at hq
 split at hq
 ·exact h0 f args H v H' hq
 ·rename_i b hb
  have hms:=kq H b
  have hmm:(H.ask b).2.m=H.m∧(H.ask b).2.nx=H.nx:=by
   unfold Hs.ask
   split<;>exact⟨rfl,rfl⟩
  generalize H.ask b=r at hq hms hmm
  obtain⟨d,H1⟩:=r
  simp only at hq hms hmm
  obtain⟨e1,e2⟩:=hmm
  have key:∀c:bq,bV P ng c→c f args H1=some (v,H')→(∀p∈H.ms,p∈H'.ms)∧((∀p∈H'.ms,p)→∀γ w Args,aJ γ H.m.get H.nx w→ap γ args Args→iO ng γ→
   (∃fn,P.funcs[f]? =some fn∧fn.body.isSome=true)∧
   Calls P f Args.toArray w fun e w'=>∃V γ',e=.returned V∧aj γ' v V∧bT γ H w γ' H' w'):=by
   intro c hc hrun
   obtain⟨k1,k2⟩:=hc f args H1 v H' hrun
   refine⟨fun p hp=>k1 p (by rw[hms];exact fk _ hp),fun hm γ w Args hr hV hg=>?_⟩
   obtain⟨q1,q2⟩:=k2 hm γ w Args (by rw[e1,e2];exact hr) hV hg
   refine⟨q1,q2.mono ?_⟩
   rintro e w' ⟨V,γ',rfl,a1,a2⟩
   exact⟨V,γ',rfl,a1,⟨by have:=a2.stp;rw[e1]at this;exact this,by rw[←e2];exact a2.nx,fun b hb=>a2.keep b (by rw[e2];exact hb)⟩⟩
  cases d with
  |true=>exact key call1 h1 hq
  |false=>exact key call2 h2 hq
end Go.QfSy
namespace Go.Proofs.YtdbdoalefmliiaaGreatDoor.S
open Go.QfSy Go.RowKit
theorem IR (n:Nat)(h:n<4294967296):oc (n:Int)=0:=by
 show(n:Int).fdiv 4294967296=0
 rw[Int.fdiv_eq_ediv_of_nonneg _ de]
 omega
theorem S4 (a b:Nat)(ha:0<a)(hb:b<4294967296)(hab:a<b):ax Tryz.prog [] 101 [aQ a,aQ b] (.tup [.agg [.bool false,.sl 0 1 (fun _=>[.int .u32 ((0:Nat):Int)])],aQ a,.bool true]):=by
 have k0:decide ((↑a:Int)<↑b)=true:=bJ om
 have rr:=fun(tp:List Bool)(ms:List Prop)h hm=>cx aX (bU aX (cm _ _) 8) Tryz.func101 (A:=[aQ a,aQ b]) rfl aE rfl rfl cv (tabs:=[]) (R:=.tup [.agg [.bool false,.sl 0 1 (fun _=>[.int .u32 ((0:Nat):Int)])],aQ a,.bool true]) (tp:=tp) (ms:=ms) h hm
 refine rr (tp 221222) (let z3:=(↑(1:Nat):Int);let z1:=z3-1;let z2:=[RV.int IntKind.u32 (↑a:Int)];let z4:=dQ (1:Nat) fun(x:Nat)=>z2;[false=false,rq (0:Nat),false=false,(1:Nat)=1∧(1:Nat)=z4.length∧∀(i:Nat),i<1→(fun(x:Nat)=>z2) i=[RV.int IntKind.u32 (z4.getD i (0:Int))],true=true,aa false false,aa false false,(0:Nat)<1∧(1:Nat)≤1000000,∀(i:Nat),i<1→(fun(x:Nat)=>z2) i=[RV.int IntKind.u32 (gN ((fun(x:Nat)=>z2) i))],aa false false,(0:Nat)<1,aa (decide ((↑a:Int)<↑b)) true,(0:Int)≤w6.wrap z1∧w6.wrap z1<z3,(0:Int)≤w6.wrap z1∧w6.wrap z1<z3,aa ((↑a:Int)==0) false,(0:Int)≤w6.wrap z1∧w6.wrap z1<z3,aa ((↑b:Int)==0) false,(0:Int)≤w6.wrap z1∧w6.wrap z1<z3]) kr ⟨?_,?_,?_,?_,?_,rfl,rfl,?_,?_,rfl,?_,k0,?_,?_,gP a ha,?_,gP b om,(?_:(0:Int)≤w6.wrap ((↑(1:Nat):Int)-1)∧w6.wrap ((↑(1:Nat):Int)-1)<↑(1:Nat))⟩
 all_goals first|exact BE
theorem VQ (a b:Nat)(ha:a<4294967296)(hb:0<b)(hab:b≤a)(h0:a%b=0):ax Tryz.prog [] 101 [aQ a,aQ b] (.tup [aQ (a/b),.agg [.bool false,.sl 0 1 (fun _=>[])],.bool true]):=by
 have b1:b<4294967296:=by omega
 have q1:a/b<4294967296:=pN (Nat.div_le_self _ _) ha
 have q0:0<a/b:=Nat.div_pos hab hb
 have r1:a%b<4294967296:=pN (Nat.mod_le _ _) ha
 have eq:(cM (a:Int)).tdiv (cM (b:Int))=((a/b:Nat):Int):=by rw[jx a ha,jx b b1];rfl
 have er:(cM (a:Int)).tmod (cM (b:Int))=((a%b:Nat):Int):=by rw[jx a ha,jx b b1];rfl
 have k0:decide ((↑a:Int)<↑b)=false:=bI om
 have k1:(IntKind.u32.wrap (oc (IntKind.u64.wrap ((cM (a:Int)).tdiv (cM (b:Int)))))==0)=true:=by rw[eq,wv _ q1];rfl
 have e2:IntKind.u32.wrap (IntKind.u64.wrap ((cM (a:Int)).tdiv (cM (b:Int))))=((a/b:Nat):Int):=by rw[eq,mQ _ om,pw _ q1]
 have k2:(IntKind.u32.wrap (IntKind.u64.wrap ((cM (a:Int)).tdiv (cM (b:Int))))==0)=false:=by rw[e2];exact gP _ q0
 have k3:(IntKind.u32.wrap (oc ((cM (a:Int)).tmod (cM (b:Int))))==0)=true:=by rw[er,IR _ r1];rfl
 have e4:IntKind.u32.wrap ((cM (a:Int)).tmod (cM (b:Int)))=((a%b:Nat):Int):=by rw[er,pw _ r1]
 have kb:cM (b:Int)≠(0:Int):=by rw[jx b b1];omega
 have k4:(IntKind.u32.wrap ((cM (a:Int)).tmod (cM (b:Int)))==0)=true:=by rw[e4,h0];rfl
 have rr:=fun(tp:List Bool)(ms:List Prop)h hm=>cx aX (bU aX (cm _ _) 8) Tryz.func101 (A:=[aQ a,aQ b]) rfl aE rfl rfl cv (tabs:=[]) (R:=.tup [aQ (a/b),.agg [.bool false,.sl 0 1 (fun _=>[])],.bool true]) (tp:=tp) (ms:=ms) h hm
 refine(let w1:List Prop→List Prop:=fun l0=>(let v1:=(↑(BitVec.ofInt IntKind.u64.bits (0:Int)|||BitVec.ofInt IntKind.u64.bits (IntKind.u64.wrap (IntKind.u64.wrap (↑b:Int)*2^min (w6.wrap ((32:Int)*0)).toNat IntKind.u64.bits))).toNat:Int);let v2:=IntKind.u64.wrap (↑(BitVec.ofInt IntKind.u64.bits (0:Int)|||BitVec.ofInt IntKind.u64.bits (IntKind.u64.wrap (IntKind.u64.wrap (↑a:Int)*2^min (w6.wrap ((32:Int)*0)).toNat IntKind.u64.bits))).toNat:Int);let v3:=IntKind.u64.wrap (v2.tdiv (IntKind.u64.wrap v1));let v4:=(0:Int)≤0∧(0:Int)<↑(1:Nat);let v5:=(2:Int)^min (Int.toNat (32:Int)) IntKind.u64.bits;let v6:=IntKind.u64.wrap v1≠(0:Int);let v7:=v2.tmod (IntKind.u64.wrap v1);(false=false)::(IntKind.u32.wrap v3=↑(a/b))::(false=false)::rq (0:Nat)::(true=true)::(aa false false)::(aa false false)::(aa (IntKind.u32.wrap v7==0) true)::(aa (IntKind.u32.wrap (v7.fdiv v5)==0) true)::v6::(aa (IntKind.u32.wrap v3==0) false)::(aa (IntKind.u32.wrap (v3.fdiv v5)==0) true)::v6::v4::v4::l0);let y1:List Prop:=(let v2:=(↑(1:Nat):Int);let v1:=v2-1;[(0:Int)≤w6.wrap v1∧w6.wrap v1<v2,(0:Int)≤w6.wrap v1∧w6.wrap v1<v2,aa (decide ((↑a:Int)<↑b)) false,(0:Int)≤w6.wrap v1∧w6.wrap v1<v2,(0:Int)≤w6.wrap v1∧w6.wrap v1<v2,aa ((↑a:Int)==0) false,(0:Int)≤w6.wrap v1∧w6.wrap v1<v2,aa ((↑b:Int)==0) false,(0:Int)≤w6.wrap v1∧w6.wrap v1<v2]);have t1:ar y1:=⟨?_,?_,k0,?_,?_,gP a om,?_,gP b hb,(?_:(0:Int)≤w6.wrap ((↑(1:Nat):Int)-1)∧w6.wrap ((↑(1:Nat):Int)-1)<↑(1:Nat))⟩;oe (decide ((↑a:Int)>↑b)) (fun d1=>rr (tp 2221121122) (w1 (ty d1::y1)) kr ⟨?_,?_,?_,?_,?_,rfl,rfl,k4,k3,?_,k2,k1,?_,?_,?_,d1,t1⟩)
  (fun d1=>rr (tp 2222121122) (w1 (ty d1::y1)) kr ⟨?_,?_,?_,?_,?_,rfl,rfl,k4,k3,?_,k2,k1,?_,?_,?_,d1,t1⟩))
 all_goals first|exact BE
theorem VT (a b:Nat)(ha:a<4294967296)(hb:0<b)(hab:b≤a)(h0:0<a%b):ax Tryz.prog [] 101 [aQ a,aQ b] (.tup [aQ (a/b),aQ (a%b),.bool true]):=by
 have b1:b<4294967296:=by omega
 have q1:a/b<4294967296:=pN (Nat.div_le_self _ _) ha
 have q0:0<a/b:=Nat.div_pos hab hb
 have r1:a%b<4294967296:=pN (Nat.mod_le _ _) ha
 have eq:(cM (a:Int)).tdiv (cM (b:Int))=((a/b:Nat):Int):=by rw[jx a ha,jx b b1];rfl
 have er:(cM (a:Int)).tmod (cM (b:Int))=((a%b:Nat):Int):=by rw[jx a ha,jx b b1];rfl
 have k0:decide ((↑a:Int)<↑b)=false:=bI om
 have k1:(IntKind.u32.wrap (oc (IntKind.u64.wrap ((cM (a:Int)).tdiv (cM (b:Int)))))==0)=true:=by rw[eq,wv _ q1];rfl
 have e2:IntKind.u32.wrap (IntKind.u64.wrap ((cM (a:Int)).tdiv (cM (b:Int))))=((a/b:Nat):Int):=by rw[eq,mQ _ om,pw _ q1]
 have k2:(IntKind.u32.wrap (IntKind.u64.wrap ((cM (a:Int)).tdiv (cM (b:Int))))==0)=false:=by rw[e2];exact gP _ q0
 have k3:(IntKind.u32.wrap (oc ((cM (a:Int)).tmod (cM (b:Int))))==0)=true:=by rw[er,IR _ r1];rfl
 have e4:IntKind.u32.wrap ((cM (a:Int)).tmod (cM (b:Int)))=((a%b:Nat):Int):=by rw[er,pw _ r1]
 have kb:cM (b:Int)≠(0:Int):=by rw[jx b b1];omega
 have k4:(IntKind.u32.wrap ((cM (a:Int)).tmod (cM (b:Int)))==0)=false:=by rw[e4];exact gP _ h0
 have rr:=fun(tp:List Bool)(ms:List Prop)h hm=>cx aX (bU aX (cm _ _) 8) Tryz.func101 (A:=[aQ a,aQ b]) rfl aE rfl rfl cv (tabs:=[]) (R:=.tup [aQ (a/b),aQ (a%b),.bool true]) (tp:=tp) (ms:=ms) h hm
 refine(let w1:List Prop→List Prop:=fun l0=>(let v1:=(↑(BitVec.ofInt IntKind.u64.bits (0:Int)|||BitVec.ofInt IntKind.u64.bits (IntKind.u64.wrap (IntKind.u64.wrap (↑b:Int)*2^min (w6.wrap ((32:Int)*0)).toNat IntKind.u64.bits))).toNat:Int);let v2:=IntKind.u64.wrap (↑(BitVec.ofInt IntKind.u64.bits (0:Int)|||BitVec.ofInt IntKind.u64.bits (IntKind.u64.wrap (IntKind.u64.wrap (↑a:Int)*2^min (w6.wrap ((32:Int)*0)).toNat IntKind.u64.bits))).toNat:Int);let v3:=IntKind.u64.wrap (v2.tdiv (IntKind.u64.wrap v1));let v4:=(0:Int)≤0∧(0:Int)<↑(1:Nat);let v5:=v2.tmod (IntKind.u64.wrap v1);let v6:=(2:Int)^min (Int.toNat (32:Int)) IntKind.u64.bits;let v7:=IntKind.u64.wrap v1≠(0:Int);(false=false)::(IntKind.u32.wrap v3=↑(a/b))::(false=false)::(IntKind.u32.wrap v5=↑(a%b))::(true=true)::(aa false false)::(aa false false)::(aa (IntKind.u32.wrap v5==0) false)::(aa (IntKind.u32.wrap (v5.fdiv v6)==0) true)::v7::(aa (IntKind.u32.wrap v3==0) false)::(aa (IntKind.u32.wrap (v3.fdiv v6)==0) true)::v7::v4::v4::l0);let y1:List Prop:=(let v2:=(↑(1:Nat):Int);let v1:=v2-1;[(0:Int)≤w6.wrap v1∧w6.wrap v1<v2,(0:Int)≤w6.wrap v1∧w6.wrap v1<v2,aa (decide ((↑a:Int)<↑b)) false,(0:Int)≤w6.wrap v1∧w6.wrap v1<v2,(0:Int)≤w6.wrap v1∧w6.wrap v1<v2,aa ((↑a:Int)==0) false,(0:Int)≤w6.wrap v1∧w6.wrap v1<v2,aa ((↑b:Int)==0) false,(0:Int)≤w6.wrap v1∧w6.wrap v1<v2]);have t1:ar y1:=⟨?_,?_,k0,?_,?_,gP a om,?_,gP b hb,(?_:(0:Int)≤w6.wrap ((↑(1:Nat):Int)-1)∧w6.wrap ((↑(1:Nat):Int)-1)<↑(1:Nat))⟩;oe (decide ((↑a:Int)>↑b)) (fun d1=>rr (tp 2221121222) (w1 (ty d1::y1)) kr ⟨?_,?_,?_,?_,?_,rfl,rfl,k4,k3,?_,k2,k1,?_,?_,?_,d1,t1⟩)
  (fun d1=>rr (tp 2222121222) (w1 (ty d1::y1)) kr ⟨?_,?_,?_,?_,?_,rfl,rfl,k4,k3,?_,k2,k1,?_,?_,?_,d1,t1⟩))
 all_goals first|exact BE
def rf (A:List RV)(g:Nat→Option (RV×List Prop)):Option (RV×List Prop):=match A with
 |[.agg [.bool b,.sl n z row]]=>(match row 0 with
  |[.int .u32 k]=>(match g k.toNat with
   |some (R,ms)=>some (R,(RV.agg [.bool b,.sl n z row]=aQ k.toNat∧0<k.toNat∧k.toNat<4294967296)::ms)
   |none=>none)
  |_=>none)
 |_=>none
def tM (A:List RV)(g:Nat→Nat→Option (RV×List Prop)):Option (RV×List Prop):=match A with
 |[x,.agg [.bool b,.sl n z row]]=>(match row 0 with
  |[.int .u32 k]=>rf [x] fun a=>(match g a k.toNat with
   |some (R,ms)=>some (R,(RV.agg [.bool b,.sl n z row]=aQ k.toNat∧0<k.toNat∧k.toNat<4294967296)::ms)
   |none=>none)
  |_=>none)
 |_=>none
theorem vA {A:List RV}{g:Nat→Option (RV×List Prop)}{R:RV}{ms:List Prop}(h:rf A g=some (R,ms))(hm:∀p∈ms,p):∃a ms',A=[aQ a]∧0<a∧a<4294967296∧g a=some (R,ms')∧∀p∈ms',p:=by
 unfold rf at h
 split at h
 ·rename_i b n z row
  split at h
  ·rename_i k _
   split at h
   ·rename_i R' ms' hg
    cases h
    obtain⟨h1,h2,h3⟩:=hm _ eB
    exact⟨_,_,by rw[h1],h2,h3,hg,fun p hp=>hm p (fk _ hp)⟩
   ·cases h
  ·cases h
 ·cases h
theorem zH {A:List RV}{g:Nat→Nat→Option (RV×List Prop)}{R:RV}{ms:List Prop}(h:tM A g=some (R,ms))(hm:∀p∈ms,p):∃a b ms',A=[aQ a,aQ b]∧0<a∧a<4294967296∧0<b∧b<4294967296∧g a b=some (R,ms')∧∀p∈ms',p:=by
 unfold tM at h
 split at h
 ·rename_i x b n z row
  split at h
  ·rename_i k _
   obtain⟨a,m1,e1,a1,a2,hg,hm1⟩:=vA h hm
   split at hg
   ·rename_i R' ms' hg'
    cases hg
    obtain⟨h1,h2,h3⟩:=hm1 _ eB
    rw[List.cons.injEq]at e1
    exact⟨a,_,_,by rw[e1.1,h1],a1,a2,h2,h3,hg',fun p hp=>hm1 p (fk _ hp)⟩
   ·cases hg
  ·cases h
 ·cases h
def vU:List cq:=[
 ⟨58,[],fun A=>match A with
  |[.int .i64 k]=>some (aQ k.toNat,[0<k∧k<4294967296])
  |_=>none⟩,
 ⟨98,[],fun A=>match A with
  |[.agg [.bool b,.sl n z row]]=>bif Nat.beq n 0 then some (.int .i64 0,[b=false∧n=0∧z=1])else rf [.agg [.bool b,.sl n z row]] fun _=>some (.int .i64 1,[])
  |_=>none⟩,
 ⟨103,[],fun A=>rf A fun a=>some (aQ a,[])⟩,
 ⟨19,[],fun A=>rf A fun a=>some (.tup [.int .i64 (a:Int),.bool true],[])⟩,
 ⟨100,[],fun A=>tM A fun a b=>some (aQ (a*b),[a*b<4294967296])⟩]
theorem D2:∀e∈vU,cJ Tryz.prog e:=by
 intro e he
 simp only[vU,bC,cU,cY]at he
 rcases he with rfl|rfl|rfl|rfl|rfl
 ·intro A R ms h hm
  simp only at h
  split at h
  ·rename_i k
   cases h
   obtain⟨h1,h2⟩:=aA hm
   have:=L3 k.toNat om om
   rwa[ov om]at this
  ·cases h
 ·intro A R ms h hm
  simp only at h
  split at h
  ·rename_i b n z row
   cases hb:Nat.beq n 0 with
   |true=>
    rw[hb]at h
    cases h
    obtain⟨rfl,rfl,rfl⟩:=aA hm
    exact Mn row
   |false=>
    rw[hb]at h
    simp only[bt]at h
    obtain⟨a,m1,e1,a1,a2,hg,hm1⟩:=vA h hm
    cases hg
    rw[e1]
    exact NG a a1 a2
  ·cases h
 ·intro A R ms h hm
  simp only at h
  obtain⟨a,m1,e1,a1,a2,hg,hm1⟩:=vA h hm
  cases hg
  rw[e1]
  exact Mo a a1 a2
 ·intro A R ms h hm
  simp only at h
  obtain⟨a,m1,e1,a1,a2,hg,hm1⟩:=vA h hm
  cases hg
  rw[e1]
  exact L4 a a1 a2
 ·intro A R ms h hm
  simp only at h
  obtain⟨a,b,m1,e1,a1,a2,b1,b2,hg,hm1⟩:=zH h hm
  cases hg
  rw[e1]
  exact NH a b a1 b1 (aA hm1)
def zI:List cq:=[⟨101,[],fun A=>tM A fun a b=>some (.tup [aQ (a/b),.agg [.bool false,.sl 0 1 (fun _=>[])],.bool true],[a%b=0])⟩]
def zJ:List cq:=[⟨101,[],fun A=>tM A fun a b=>some (.tup [.agg [.bool false,.sl (if a<b then 0 else 1) 1 (fun _=>[.int .u32 ((a/b:Nat):Int)])],aQ (a%b),.bool true],[0<a%b])⟩]
theorem MM:∀e∈zI,cJ Tryz.prog e:=by
 intro e he
 simp only[zI,bC,cU,cY]at he
 subst he
 intro A R ms h hm
 simp only at h
 obtain⟨a,b,m1,e1,a1,a2,b1,b2,hg,hm1⟩:=zH h hm
 cases hg
 rw[e1]
 have h0:=aA hm1
 exact VQ a b a2 b1 (Nat.le_of_dvd a1 (ml h0)) h0
theorem MN:∀e∈zJ,cJ Tryz.prog e:=by
 intro e he
 simp only[zJ,bC,cU,cY]at he
 subst he
 intro A R ms h hm
 simp only at h
 obtain⟨a,b,m1,e1,a1,a2,b1,b2,hg,hm1⟩:=zH h hm
 cases hg
 rw[e1]
 have h0:=aA hm1
 by_cases hl:a<b
 ·rw[if_pos hl,Nat.div_eq_of_lt hl,rD hl]
  exact S4 a b a1 b2 hl
 ·rw[if_neg hl]
  exact VT a b a2 b1 om h0
def UB:Nat→List AV→Hs→Option Bool:=fun f args H=>bif Nat.beq f 101 then(match ph H.m args with
 |some ([.agg [_,.sl _ _ r1],.agg [_,.sl _ _ r2]],_,_)=>(match r1 0,r2 0 with
  |[.int _ a],[.int _ b]=>some (decide (a.toNat%b.toNat=0))
  |_,_=>none)
 |_=>none)else none
def Is (ents:List cq):bq:=zT UB (kt EC.ng zI) (kt EC.ng zJ) (kt EC.ng (vU++ents))
theorem gV {ents:List cq}(h:∀e∈ents,cJ Tryz.prog e):bV Tryz.prog EC.ng (Is ents):=
 MZ (eE MM) (eE MN) (eE fun e he=>(fX.1 he).elim (D2 e) (h e))
end Go.Proofs.YtdbdoalefmliiaaGreatDoor.S
namespace Go.Proofs.YtdbdoalefmliiaaGreatDoor.S
open Go.QfSy
def eS (n m:Nat):Prop:=∀d,2≤d→d<m→n%d≠0
def rl:Nat→Nat→Nat→Nat
 |0,_,n=>n
 |f+1,d,n=>bif Nat.blt n (d*d)then n else bif Nat.beq (n%d) 0 then d else rl f (d+1) n
def ld (n:Nat):Nat:=rl 50000 2 n
theorem yq {n d:Nat}(hd:2≤d)(hn:2≤n)(h:eS n d)(hlt:n<d*d):eS n n:=by
 intro e he hen hm
 rcases bA e d with h1|h1
 ·exact h e he h1 hm
 ·have hq:n=e*(n/e):=by have:=Nat.div_add_mod n e;omega
  have h2:n/e<d:=by
   rcases bA (n/e) d with h3|h3
   ·exact h3
   ·have:d*d≤e*(n/e):=mr h1 h3
    omega
  have h3:2≤n/e:=by
   generalize n/e=q at hq h2
   rcases bA q 2 with h4|h4
   ·have:q=0∨q=1:=by omega
    rcases this with h5|h5
    ·rw[h5]at hq;omega
    ·rw[h5]at hq;omega
   ·exact h4
  refine h (n/e) h3 h2 ?_
  have:n%(n/e)=(e*(n/e))%(n/e):=by rw[←hq]
  rw[this,Nat.mul_mod_left]
theorem D6:∀(f d n:Nat),2≤d→2≤n→eS n d→n<(d+f)*(d+f)→2≤rl f d n∧n%rl f d n=0∧eS n (rl f d n)
 |0,d,n,hd,hn,h,hf=>⟨hn,Nat.mod_self n,yq hd hn h hf⟩
 |f+1,d,n,hd,hn,h,hf=>by
  unfold rl
  cases h1:Nat.blt n (d*d)with
  |true=>exact⟨hn,Nat.mod_self n,yq hd hn h (aT h1)⟩
  |false=>
   simp only[bt]
   cases h2:Nat.beq (n%d) 0 with
   |true=>exact⟨hd,co h2,h⟩
   |false=>
    simp only[bt]
    refine D6 f (d+1) n om hn (fun e he hlt hm=>?_) (by rw[show d+1+f=d+(f+1) by omega];exact hf)
    rcases bA e d with h3|h3
    ·exact h e he h3 hm
    ·have:e=d:=by omega
     subst this
     exact jn h2 hm
theorem sj {n:Nat}(hn:2≤n)(hb:n≤2147483647):2≤ld n∧n%ld n=0∧eS n (ld n):=
 D6 50000 2 n (bp _) hn (fun d h1 h2=>om) om
theorem sW {n m:Nat}(hn:2≤n)(hb:n≤2147483647)(h1:2≤m)(h2:n%m=0)(h3:eS n m):ld n=m:=by
 obtain⟨k1,k2,k3⟩:=sj hn hb
 rcases uo (ld n) m with h|h|h
 ·exact absurd k2 (h3 _ k1 h)
 ·exact h
 ·exact absurd h2 (k3 _ h1 h)
theorem P0 {n d:Nat}(hd:2≤d)(hn:2≤n)(hb:n≤2147483647)(h:eS n d)(hlt:n<d*d):ld n=n:=sW hn hb hn (Nat.mod_self n) (yq hd hn h hlt)
theorem YV {n:Nat}(hn:2≤n)(hb:n≤2147483647):ld n≤n:=by
 obtain⟨k1,k2,k3⟩:=sj hn hb
 exact Nat.le_of_dvd om (ml k2)
def vG:Nat→Nat→Nat→Nat×Nat
 |0,_,n=>(0,n)
 |f+1,p,n=>bif Nat.beq (n%p) 0 then((vG f p (n/p)).1+1,(vG f p (n/p)).2)else(0,n)
def vv (p n:Nat):Nat×Nat:=vG 40 p n
theorem Fd:∀(f g p n:Nat),2≤p→0<n→n<2^f→n<2^g→vG f p n=vG g p n
 |0,g,p,n,hp,h0,h1,h2=>by simp at h1;omega
 |f+1,0,p,n,hp,h0,h1,h2=>by simp at h2;omega
 |f+1,g+1,p,n,hp,h0,h1,h2=>by
  unfold vG
  cases h:Nat.beq (n%p) 0 with
  |false=>rfl
  |true=>
   simp only[aU]
   have hm:=co h
   have hq:n=p*(n/p):=by have:=Nat.div_add_mod n p;omega
   have hpos:0<n/p:=by
    rcases kS (n/p)with h3|h3
    ·rw[h3]at hq;omega
    ·exact h3
   have hle:n/p≤n/2:=Nat.div_le_div_left hp om
   have e:vG f p (n/p)=vG g p (n/p):=Fd f g p (n/p) hp hpos (by rw[jp]at h1;omega) (by rw[jp]at h2;omega)
   rw[e]
theorem vh {p n:Nat}(hp:2≤p)(h0:0<n)(hb:n≤2147483647)(hm:n%p=0):vv p n=((vv p (n/p)).1+1,(vv p (n/p)).2):=by
 have hq:n=p*(n/p):=by have:=Nat.div_add_mod n p;omega
 have hpos:0<n/p:=by
  rcases kS (n/p)with h3|h3
  ·rw[h3]at hq;omega
  ·exact h3
 have hle:n/p≤n/2:=Nat.div_le_div_left hp om
 have e:vG 39 p (n/p)=vG 40 p (n/p):=Fd 39 40 p (n/p) hp hpos om om
 have:vv p n=(bif Nat.beq (n%p) 0 then((vG 39 p (n/p)).1+1,(vG 39 p (n/p)).2)else(0,n)):=rfl
 rw[this,hm,e]
 rfl
theorem zU {p n:Nat}(hm:n%p≠0):vv p n=(0,n):=by
 have:vv p n=(bif Nat.beq (n%p) 0 then((vG 39 p (n/p)).1+1,(vG 39 p (n/p)).2)else(0,n)):=rfl
 rw[this]
 cases h:Nat.beq (n%p) 0 with
 |true=>exact absurd (co h) hm
 |false=>rfl
theorem rW {p n:Nat}(hp:2≤p)(h0:0<n)(hm:n%p=0):0<n/p∧n/p<n:=by
 have hq:n=p*(n/p):=by have:=Nat.div_add_mod n p;omega
 refine⟨?_,Nat.div_lt_self h0 hp⟩
 rcases kS (n/p)with h3|h3
 ·rw[h3]at hq;omega
 ·exact h3
theorem rX {p:Nat}(hp:2≤p):∀(n:Nat),0<n→n≤2147483647→0<(vv p n).2∧(vv p n).2≤n∧(vv p n).2%p≠0∧(vv p n).1≤n∧(n%p=0→(vv p n).2<n):=by
 intro n
 induction n using Nat.strongRecOn with
 |_ n ih=>
  intro h0 hb
  by_cases hm:n%p=0
  ·obtain⟨d1,d2⟩:=rW hp h0 hm
   obtain⟨i1,i2,i3,i4,i5⟩:=ih (n/p) d2 d1 om
   rw[vh hp h0 hb hm]
   exact⟨i1,by show(vv p (n/p)).2≤n;omega,i3,by show(vv p (n/p)).1+1≤n;omega,fun _=>by show(vv p (n/p)).2<n;omega⟩
  ·rw[zU hm]
   exact⟨h0,bp _,hm,bQ _,fun h=>absurd h hm⟩
def jy:Nat→Nat→List aN
 |0,_=>[]
 |f+1,n=>bif Nat.ble n 1 then []else⟨(ld n:Nat),((vv (ld n) n).1:Nat)⟩::jy f (vv (ld n) n).2
def ba (n:Nat):List aN:=jy 40 n
theorem oU {n:Nat}(hn:2≤n)(hb:n≤2147483647):0<(vv (ld n) n).2∧(vv (ld n) n).2≤n/2:=by
 obtain⟨k1,k2,k3⟩:=sj hn hb
 obtain⟨b1,b2,b3,b4,b5⟩:=rX k1 n om hb
 refine⟨b1,?_⟩
 obtain⟨d1,d2⟩:=rW k1 om k2
 have:(vv (ld n) n).2=(vv (ld n) (n/ld n)).2:=by rw[vh k1 om hb k2]
 rw[this]
 have h2:=(rX k1 (n/ld n) d1 om).2.1
 have h3:n/ld n≤n/2:=Nat.div_le_div_left k1 om
 omega
theorem Do:∀(f g n:Nat),0<n→n≤2147483647→n<2^f→n<2^g→jy f n=jy g n
 |0,g,n,h0,hb,h1,h2=>by simp at h1;omega
 |f+1,0,n,h0,hb,h1,h2=>by simp at h2;omega
 |f+1,g+1,n,h0,hb,h1,h2=>by
  unfold jy
  cases h:Nat.ble n 1 with
  |true=>rfl
  |false=>
   simp only[bt]
   have hn:2≤n:=by
    rcases bA n 2 with h3|h3
    ·have:Nat.ble n 1=true:=fW om
     rw[this]at h;cases h
    ·exact h3
   obtain⟨r1,r2⟩:=oU hn hb
   rw[Do f g (vv (ld n) n).2 r1 om (by rw[jp]at h1;omega) (by rw[jp]at h2;omega)]
theorem zi {n:Nat}(hn:n≤1):ba n=[]:=by
 show(bif Nat.ble n 1 then _ else _)=_
 rw[fW hn]
 rfl
theorem qa {n:Nat}(hn:2≤n)(hb:n≤2147483647):ba n=⟨(ld n:Nat),((vv (ld n) n).1:Nat)⟩::ba (vv (ld n) n).2:=by
 have h:Nat.ble n 1=false:=by
  cases h:Nat.ble n 1 with
  |false=>rfl
  |true=>have:=aT h;omega
 obtain⟨r1,r2⟩:=oU hn hb
 have e:jy 39 (vv (ld n) n).2=jy 40 (vv (ld n) n).2:=Do 39 40 _ r1 om om om
 show(bif Nat.ble n 1 then []else(⟨(ld n:Nat),((vv (ld n) n).1:Nat)⟩:aN)::jy 39 (vv (ld n) n).2)=_
 rw[h,e]
 rfl
theorem i6 {n m:Nat}(h2:n%2≠0)(h3:n%3≠0)(h5:n%5≠0)(h:eS n m){g:Nat}(hm:n%m≠0)(hg:∀j,m<j→j<m+g→j%2=0∨j%3=0∨j%5=0):eS n (m+g):=by
 intro d hd hlt hz
 rcases uo d m with h1|h1|h1
 ·exact h d hd h1 hz
 ·rw[h1]at hz;exact hm hz
 ·have hdv:=ml hz
  rcases hg d h1 hlt with k|k|k
  ·exact h2 (xN (Nat.dvd_trans (ml k) hdv))
  ·exact h3 (xN (Nat.dvd_trans (ml k) hdv))
  ·exact h5 (xN (Nat.dvd_trans (ml k) hdv))
theorem jd {k o g:Nat}(h:(List.range 37).all (fun j=>!(Nat.blt o j&&Nat.blt j (o+g))||(Nat.beq (j%2) 0||Nat.beq (j%3) 0||Nat.beq (j%5) 0))=true)(hg:o+g≤37):∀j,30*k+o<j→j<30*k+o+g→j%2=0∨j%3=0∨j%5=0:=by
 intro j h1 h2
 have hj:j-30*k<37:=by omega
 have:=cK.1 h (j-30*k) (List.mem_range.2 hj)
 have e1:Nat.blt o (j-30*k)=true:=fW om
 have e2:Nat.blt (j-30*k) (o+g)=true:=fW om
 rw[e1,e2]at this
 simp only[Bool.and_self,oD,Bool.false_or,nj]at this
 rcases this with(a|a)|a
 ·left;have:=co a;omega
 ·right;left;have:=co a;omega
 ·right;right;have:=co a;omega
theorem U5 {n:Nat}(h2:n%2≠0)(h3:n%3≠0)(h5:n%5≠0):eS n 7:=by
 intro d hd hlt hz
 have:d=2∨d=3∨d=4∨d=5∨d=6:=by omega
 rcases this with e|e|e|e|e<;>subst e<;>omega
end Go.Proofs.YtdbdoalefmliiaaGreatDoor.S
namespace Go.Proofs.YtdbdoalefmliiaaGreatDoor.S
open Go.QfSy Go.RowKit
def aL:Tb:=⟨0,.i64,[7,11,13,17,19,23,29,31],128⟩
theorem nz {n m:Nat}{x:Int}(hx:x=(m:Int))(h:((n:Int).tmod x==0)=false):n%m≠0:=by
 subst hx
 intro e
 have:(n:Int).tmod (m:Int)=((n%m:Nat):Int):=rfl
 rw[this,e]at h
 cases h
theorem zz {n m:Nat}{x:Int}(hx:x=(m:Int))(h:((n:Int).tmod x==0)=true):n%m=0:=by
 subst hx
 have e:(n:Int).tmod (m:Int)=((n%m:Nat):Int):=rfl
 rw[e]at h
 have:=eq_of_beq h
 omega
theorem JE {a:Nat}(h:a≤2000000000):w6.wrap ((a:Int)*(a:Int))=((a*a:Nat):Int):=by
 have h1:a*a≤2000000000*2000000000:=mr h h
 have e:(a:Int)*(a:Int)=((a*a:Nat):Int):=by simp
 rw[e,wo]
theorem ol {n a:Nat}{x:Int}(hx:x=(a:Int))(ha:a≤2000000000)(h:decide (w6.wrap (x*x)>(n:Int))=true):n<a*a:=by
 subst hx
 rw[JE ha]at h
 have:=oT h
 omega
theorem Yl {n a:Nat}{x:Int}(hx:x=(a:Int))(ha:a≤2000000000)(h:decide (w6.wrap (x*x)>(n:Int))=false):a*a≤n:=by
 subst hx
 rw[JE ha]at h
 have:=oF h
 omega
theorem nS {n a:Nat}(ha:2≤a)(hn:2≤n)(hb:n≤2147483647)(h:eS n a)(hlt:n<a*a):(n:Int)=((ld n:Nat):Int):=by rw[P0 ha hn hb h hlt]
theorem nU {n a:Nat}{x:Int}(hx:x=(a:Int))(ha:2≤a)(hn:2≤n)(hb:n≤2147483647)(h:eS n a)(hm:n%a=0):x=((ld n:Nat):Int):=by rw[sW hn hb ha hm h,hx]
theorem wE {n:Nat}(hn:2≤n)(hb:n≤2147483647)(h:n%2=0):ld n=2:=sW hn hb om h (fun d h1 h2=>om)
theorem IB {n:Nat}(hn:2≤n)(hb:n≤2147483647)(h2:n%2≠0)(h:n%3=0):ld n=3:=by
 refine sW hn hb om h (fun d h1 h3 hz=>?_)
 have:d=2:=by omega
 subst this
 exact h2 hz
theorem IC {n:Nat}(hn:2≤n)(hb:n≤2147483647)(h2:n%2≠0)(h3:n%3≠0)(h:n%5=0):ld n=5:=by
 refine sW hn hb om h (fun d h1 h4 hz=>?_)
 have:d=2∨d=3∨d=4:=by omega
 rcases this with e|e|e<;>subst e<;>omega
theorem pH {n m:Nat}{x:Int}(hx:x=(m:Int))(h:n%m≠0):((n:Int).tmod x==0)=false:=by
 subst hx
 rw[show(n:Int).tmod (m:Int)=((n%m:Nat):Int)from rfl]
 cases hb:(((n%m:Nat):Int)==0)with
 |false=>rfl
 |true=>have:=eq_of_beq hb;omega
theorem JF {n m:Nat}{x:Int}(hx:x=(m:Int))(h:n%m=0):((n:Int).tmod x==0)=true:=by
 subst hx
 rw[show(n:Int).tmod (m:Int)=((n%m:Nat):Int)from rfl,h]
 rfl
noncomputable def lsS (n:Nat)(k:Nat):St:=⟨[(0,vi n),(5,vi n),(6,vi (30*k:Nat))],[(0,aL.blk)],1000⟩
noncomputable def Ym (n:Nat):aO:=⟨⟨[(0,vi n),(5,vi n),(6,.int .i64 0)],[(0,aL.blk)],1000⟩,none,fun _=>(.exit 2,⟨[(5,vi (ld n:Nat))],[(0,aL.blk)],1000⟩)⟩
set_option maxHeartbeats 8000000 in
theorem P1 (n:Nat)(h2:n%2≠0)(h3:n%3≠0)(h5:n%5≠0)(hn:2≤n)(hb:n≤2147483647):An 1 Tryz.f35 [0,1,0,1,1,1,0,1] (Ym n):=by
 refine fj c0 aE (fun(k:Nat)=>(lsS n k:St)) (fun(k:Nat)=>(n-k:Nat)) (fun(k:Nat)=>(eS n (30*k+7)∧(30*k+1)*(30*k+1)≤n:Prop)) ?_ ?_
 ·exact st (0) [rq (↑n:Int),rq (↑n:Int),(0:Int)=↑((30:Nat)*0)] (by refine⟨?_,?_,(?_:(0:Int)=↑((30:Nat)*0))⟩<;>(first|exact tr|rfl|omega)) (by exact⟨U5 h2 h3 h5,om⟩)
 ·intro k hI
  obtain⟨q0,hsq⟩:=hI
  have hk:30*k+1≤46341:=(by rcases bA 46341 (30*k+1)with h|h<;>first|(have:=mr h h;omega)|omega)
  have e7:w6.wrap (((30*k:Nat):Int)+7)=((30*k+7:Nat):Int):=kK
  have e11:w6.wrap (((30*k:Nat):Int)+11)=((30*k+11:Nat):Int):=kK
  have e13:w6.wrap (((30*k:Nat):Int)+13)=((30*k+13:Nat):Int):=kK
  have e17:w6.wrap (((30*k:Nat):Int)+17)=((30*k+17:Nat):Int):=kK
  have e19:w6.wrap (((30*k:Nat):Int)+19)=((30*k+19:Nat):Int):=kK
  have e23:w6.wrap (((30*k:Nat):Int)+23)=((30*k+23:Nat):Int):=kK
  have e29:w6.wrap (((30*k:Nat):Int)+29)=((30*k+29:Nat):Int):=kK
  have e31:w6.wrap (((30*k:Nat):Int)+31)=((30*k+31:Nat):Int):=kK
  have e30:w6.wrap (((30*k:Nat):Int)+30)=((30*k+30:Nat):Int):=kK
  refine oe (decide (w6.wrap (w6.wrap ((↑((30:Nat)*k):Int)+7)*w6.wrap ((↑((30:Nat)*k):Int)+7))>↑n)) (fun d1=>b9 [true] [(↑n:Int)=↑(ld n),ty d1] ?_)
   (fun d1=>let y1:List Prop:=[w6.wrap ((↑((30:Nat)*k):Int)+7)≠(0:Int),ty d1];have u1:ar y1:=⟨?_,d1⟩;oe ((↑n:Int).tmod (w6.wrap ((↑((30:Nat)*k):Int)+7))==0) (fun d2=>b9 [false,true] ((w6.wrap ((↑((30:Nat)*k):Int)+7)=↑(ld n))::ty d2::y1) ?_)
   (fun d2=>let y2:List Prop:=ty d2::y1;have u2:ar y2:=⟨d2,u1⟩;oe (decide (w6.wrap (w6.wrap ((↑((30:Nat)*k):Int)+11)*w6.wrap ((↑((30:Nat)*k):Int)+11))>↑n)) (fun d3=>b9 (tp 221) (((↑n:Int)=↑(ld n))::ty d3::y2) ?_)
   (fun d3=>let y3:List Prop:=(w6.wrap ((↑((30:Nat)*k):Int)+11)≠(0:Int))::ty d3::y2;have u3:ar y3:=⟨?_,d3,u2⟩;oe ((↑n:Int).tmod (w6.wrap ((↑((30:Nat)*k):Int)+11))==0) (fun d4=>b9 (tp 2221) ((w6.wrap ((↑((30:Nat)*k):Int)+11)=↑(ld n))::ty d4::y3) ?_)
   (fun d4=>let y4:List Prop:=ty d4::y3;have u4:ar y4:=⟨d4,u3⟩;oe (decide (w6.wrap (w6.wrap ((↑((30:Nat)*k):Int)+13)*w6.wrap ((↑((30:Nat)*k):Int)+13))>↑n)) (fun d5=>b9 (tp 22221) (((↑n:Int)=↑(ld n))::ty d5::y4) ?_)
   (fun d5=>let y5:List Prop:=(w6.wrap ((↑((30:Nat)*k):Int)+13)≠(0:Int))::ty d5::y4;have u5:ar y5:=⟨?_,d5,u4⟩;oe ((↑n:Int).tmod (w6.wrap ((↑((30:Nat)*k):Int)+13))==0) (fun d6=>b9 (tp 222221) ((w6.wrap ((↑((30:Nat)*k):Int)+13)=↑(ld n))::ty d6::y5) ?_)
   (fun d6=>let y6:List Prop:=ty d6::y5;have u6:ar y6:=⟨d6,u5⟩;oe (decide (w6.wrap (w6.wrap ((↑((30:Nat)*k):Int)+17)*w6.wrap ((↑((30:Nat)*k):Int)+17))>↑n)) (fun d7=>b9 (tp 2222221) (((↑n:Int)=↑(ld n))::ty d7::y6) ?_)
   (fun d7=>let y7:List Prop:=(w6.wrap ((↑((30:Nat)*k):Int)+17)≠(0:Int))::ty d7::y6;have u7:ar y7:=⟨?_,d7,u6⟩;oe ((↑n:Int).tmod (w6.wrap ((↑((30:Nat)*k):Int)+17))==0) (fun d8=>b9 (tp 22222221) ((w6.wrap ((↑((30:Nat)*k):Int)+17)=↑(ld n))::ty d8::y7) ?_)
   (fun d8=>let y8:List Prop:=ty d8::y7;have u8:ar y8:=⟨d8,u7⟩;oe (decide (w6.wrap (w6.wrap ((↑((30:Nat)*k):Int)+19)*w6.wrap ((↑((30:Nat)*k):Int)+19))>↑n)) (fun d9=>b9 (tp 222222221) (((↑n:Int)=↑(ld n))::ty d9::y8) ?_)
   (fun d9=>let y9:List Prop:=(w6.wrap ((↑((30:Nat)*k):Int)+19)≠(0:Int))::ty d9::y8;have u9:ar y9:=⟨?_,d9,u8⟩;oe ((↑n:Int).tmod (w6.wrap ((↑((30:Nat)*k):Int)+19))==0) (fun d10=>b9 (tp 2222222221) ((w6.wrap ((↑((30:Nat)*k):Int)+19)=↑(ld n))::ty d10::y9) ?_)
   (fun d10=>let y10:List Prop:=ty d10::y9;have u10:ar y10:=⟨d10,u9⟩;oe (decide (w6.wrap (w6.wrap ((↑((30:Nat)*k):Int)+23)*w6.wrap ((↑((30:Nat)*k):Int)+23))>↑n)) (fun d11=>b9 (tp 22222222221) (((↑n:Int)=↑(ld n))::ty d11::y10) ?_)
   (fun d11=>let y11:List Prop:=(w6.wrap ((↑((30:Nat)*k):Int)+23)≠(0:Int))::ty d11::y10;have u11:ar y11:=⟨?_,d11,u10⟩;oe ((↑n:Int).tmod (w6.wrap ((↑((30:Nat)*k):Int)+23))==0) (fun d12=>b9 (tp 222222222221) ((w6.wrap ((↑((30:Nat)*k):Int)+23)=↑(ld n))::ty d12::y11) ?_)
   (fun d12=>oe (decide (w6.wrap (w6.wrap ((↑((30:Nat)*k):Int)+29)*w6.wrap ((↑((30:Nat)*k):Int)+29))>↑n)) (fun d13=>b9 (tp 2222222222221) (((↑n:Int)=↑(ld n))::ty d13::ty d12::y11) ?_)
   (fun d13=>let y12:List Prop:=(w6.wrap ((↑((30:Nat)*k):Int)+29)≠(0:Int))::ty d13::ty d12::y11;have u12:ar y12:=⟨?_,d13,d12,u11⟩;oe ((↑n:Int).tmod (w6.wrap ((↑((30:Nat)*k):Int)+29))==0) (fun d14=>b9 (tp 22222222222221) ((w6.wrap ((↑((30:Nat)*k):Int)+29)=↑(ld n))::ty d14::y12) ?_)
   (fun d14=>oe (decide (w6.wrap (w6.wrap ((↑((30:Nat)*k):Int)+31)*w6.wrap ((↑((30:Nat)*k):Int)+31))>↑n)) (fun d15=>b9 (tp 222222222222221) (((↑n:Int)=↑(ld n))::ty d15::ty d14::y12) ?_)
   (fun d15=>let y13:List Prop:=(w6.wrap ((↑((30:Nat)*k):Int)+31)≠(0:Int))::ty d15::ty d14::y12;have u13:ar y13:=⟨?_,d15,d14,u12⟩;oe ((↑n:Int).tmod (w6.wrap ((↑((30:Nat)*k):Int)+31))==0) (fun d16=>b9 (tp 2222222222222221) ((w6.wrap ((↑((30:Nat)*k):Int)+31)=↑(ld n))::ty d16::y13) ?_)
   (fun d16=>aH (tp 2222222222222222) (k+1) (rq (↑n:Int)::rq (↑n:Int)::(w6.wrap ((↑((30:Nat)*k):Int)+30)=(↑((30:Nat)*(k+1)):Int))::ty d16::y13) ?_ ?_ ?_))))))))))))))))
  all_goals with_reducible repeat' first|exact dA|refine bx ?_ ?_|refine bz ?_
  all_goals((try clear u13);(try clear y13);(try clear u12);(try clear y12);(try clear u11);(try clear y11);(try clear u10);(try clear y10);(try clear u9);(try clear y9);(try clear u8);(try clear y8);(try clear u7);(try clear y7);(try clear u6);(try clear y6);(try clear u5);(try clear y5);(try clear u4);(try clear y4);(try clear u3);(try clear y3);(try clear u2);(try clear y2);(try clear u1);(try clear y1))
  all_goals first|(refine dO.mk ?_;(have:=mr (bp (30*k+1)) (show 1≤30*k+1 by omega);show n-(k+1)<n-k;omega))|(refine cL.mk ?_;(have z0:=hsq;have q1:eS n (30*k+11):=i6 (g:=4) h2 h3 h5 q0 (nz e7 d2) (jd (k:=k) (o:=7) (g:=4) de de);have q2:eS n (30*k+13):=i6 (g:=2) h2 h3 h5 q1 (nz e11 d4) (jd (k:=k) (o:=11) (g:=2) de de);have q3:eS n (30*k+17):=i6 (g:=4) h2 h3 h5 q2 (nz e13 d6) (jd (k:=k) (o:=13) (g:=4) de de);have q4:eS n (30*k+19):=i6 (g:=2) h2 h3 h5 q3 (nz e17 d8) (jd (k:=k) (o:=17) (g:=2) de de);have q5:eS n (30*k+23):=i6 (g:=4) h2 h3 h5 q4 (nz e19 d10) (jd (k:=k) (o:=19) (g:=4) de de);have q6:eS n (30*k+29):=i6 (g:=6) h2 h3 h5 q5 (nz e23 d12) (jd (k:=k) (o:=23) (g:=6) de de);have q7:eS n (30*k+31):=i6 (g:=2) h2 h3 h5 q6 (nz e29 d14) (jd (k:=k) (o:=29) (g:=2) de de);have q8:eS n (30*k+37):=i6 (g:=6) h2 h3 h5 q7 (nz e31 d16) (jd (k:=k) (o:=31) (g:=6) de de);exact⟨(by rw[show 30*(k+1)+7=30*k+37 by omega];exact q8),(by rw[show 30*(k+1)+1=30*k+31 by omega];exact Yl e31 om d15)⟩))|exact fu|(first|exact tr|(rw[e7];omega)|(rw[e11];omega)|(rw[e13];omega)|(rw[e17];omega)|(rw[e19];omega)|(rw[e23];omega)|(rw[e29];omega)|(rw[e31];omega)|(rw[e30];omega)|(first|exact nS om hn hb q0 (ol e7 om d1)|exact nU e7 om hn hb q0 (zz e7 d2)|(have q1:eS n (30*k+11):=i6 (g:=4) h2 h3 h5 q0 (nz e7 d2) (jd (k:=k) (o:=7) (g:=4) de de);first|exact nS om hn hb q1 (ol e11 om d3)|exact nU e11 om hn hb q1 (zz e11 d4)|(have q2:eS n (30*k+13):=i6 (g:=2) h2 h3 h5 q1 (nz e11 d4) (jd (k:=k) (o:=11) (g:=2) de de);first|exact nS om hn hb q2 (ol e13 om d5)|exact nU e13 om hn hb q2 (zz e13 d6)|(have q3:eS n (30*k+17):=i6 (g:=4) h2 h3 h5 q2 (nz e13 d6) (jd (k:=k) (o:=13) (g:=4) de de);first|exact nS om hn hb q3 (ol e17 om d7)|exact nU e17 om hn hb q3 (zz e17 d8)|(have q4:eS n (30*k+19):=i6 (g:=2) h2 h3 h5 q3 (nz e17 d8) (jd (k:=k) (o:=17) (g:=2) de de);first|exact nS om hn hb q4 (ol e19 om d9)|exact nU e19 om hn hb q4 (zz e19 d10)|(have q5:eS n (30*k+23):=i6 (g:=4) h2 h3 h5 q4 (nz e19 d10) (jd (k:=k) (o:=19) (g:=4) de de);first|exact nS om hn hb q5 (ol e23 om d11)|exact nU e23 om hn hb q5 (zz e23 d12)|(have q6:eS n (30*k+29):=i6 (g:=6) h2 h3 h5 q5 (nz e23 d12) (jd (k:=k) (o:=23) (g:=6) de de);first|exact nS om hn hb q6 (ol e29 om d13)|exact nU e29 om hn hb q6 (zz e29 d14)|(have q7:eS n (30*k+31):=i6 (g:=2) h2 h3 h5 q6 (nz e29 d14) (jd (k:=k) (o:=29) (g:=2) de de);first|exact nS om hn hb q7 (ol e31 om d15)|exact nU e31 om hn hb q7 (zz e31 d16))))))))))
theorem P2 (n:Nat)(hn:2≤n)(hb:n≤2147483647)(h2:n%2=0):ax Tryz.prog [aL] 35 [.int .i64 (n:Int)] (.int .i64 ((ld n:Nat):Int)):=by
 have k2:((n:Int).tmod 2==0)=true:=(by rw[show(n:Int).tmod 2=((n%2:Nat):Int)from rfl,h2];rfl)
 refine pr c0 Tryz.func35 aE ?_
 refine lr [true] [(2:Int)=↑(ld n),aa ((↑n:Int).tmod (2:Int)==0) true,(2:Int)≠(0:Int)] ⟨?_,k2,(?_:(2:Int)≠(0:Int))⟩
 all_goals first|(first|exact tr|(rw[wE hn hb h2];done)|(rw[wE hn hb h2];rfl)|decide)
theorem P3 (n:Nat)(hn:2≤n)(hb:n≤2147483647)(h2:n%2≠0)(h3:n%3=0):ax Tryz.prog [aL] 35 [.int .i64 (n:Int)] (.int .i64 ((ld n:Nat):Int)):=by
 have k2:=pH (n:=n) (m:=2) rfl h2
 have k3:=JF (n:=n) (m:=3) rfl h3
 refine pr c0 Tryz.func35 aE ?_
 refine lr [false,true] [(3:Int)=↑(ld n),aa ((↑n:Int).tmod (3:Int)==0) true,(3:Int)≠(0:Int),aa ((↑n:Int).tmod (2:Int)==0) false,(2:Int)≠(0:Int)] ⟨?_,k3,?_,k2,(?_:(2:Int)≠(0:Int))⟩
 all_goals first|(first|exact tr|(rw[IB hn hb h2 h3];done)|(rw[IB hn hb h2 h3];rfl)|decide)
theorem P4 (n:Nat)(hn:2≤n)(hb:n≤2147483647)(h2:n%2≠0)(h3:n%3≠0)(h5:n%5=0):ax Tryz.prog [aL] 35 [.int .i64 (n:Int)] (.int .i64 ((ld n:Nat):Int)):=by
 have k2:=pH (n:=n) (m:=2) rfl h2
 have k3:=pH (n:=n) (m:=3) rfl h3
 have k5:=JF (n:=n) (m:=5) rfl h5
 refine pr c0 Tryz.func35 aE ?_
 refine lr (tp 221) [(5:Int)=↑(ld n),aa ((↑n:Int).tmod (5:Int)==0) true,(5:Int)≠(0:Int),aa ((↑n:Int).tmod (3:Int)==0) false,(3:Int)≠(0:Int),aa ((↑n:Int).tmod (2:Int)==0) false,(2:Int)≠(0:Int)] ⟨?_,k5,?_,k3,?_,k2,(?_:(2:Int)≠(0:Int))⟩
 all_goals first|(first|exact tr|(rw[IC hn hb h2 h3 h5];done)|(rw[IC hn hb h2 h3 h5];rfl)|decide)
theorem P5 (n:Nat)(hn:2≤n)(hb:n≤2147483647)(h2:n%2≠0)(h3:n%3≠0)(h5:n%5≠0):ax Tryz.prog [aL] 35 [.int .i64 (n:Int)] (.int .i64 ((ld n:Nat):Int)):=by
 have k2:=pH (n:=n) (m:=2) rfl h2
 have k3:=pH (n:=n) (m:=3) rfl h3
 have k5:=pH (n:=n) (m:=5) rfl h5
 have hl0:=P1 n h2 h3 h5 hn hb
 refine pr c0 Tryz.func35 (bX hl0) ?_
 refine lr (tp 222) [rq (↑(ld n):Int),rq (↑n:Int),rq (↑n:Int),aa ((↑n:Int).tmod (5:Int)==0) false,(5:Int)≠(0:Int),aa ((↑n:Int).tmod (3:Int)==0) false,(3:Int)≠(0:Int),aa ((↑n:Int).tmod (2:Int)==0) false,(2:Int)≠(0:Int)] ⟨?_,?_,?_,k5,?_,k3,?_,k2,(?_:(2:Int)≠(0:Int))⟩
 all_goals first|(first|exact tr|decide)
theorem Cp (n:Nat)(hn:2≤n)(hb:n≤2147483647):ax Tryz.prog [aL] 35 [.int .i64 (n:Int)] (.int .i64 ((ld n:Nat):Int)):=by
 by_cases h2:n%2=0
 ·exact P2 n hn hb h2
 ·by_cases h3:n%3=0
  ·exact P3 n hn hb h2 h3
  ·by_cases h5:n%5=0
   ·exact P4 n hn hb h2 h3 h5
   ·exact P5 n hn hb h2 h3 h5
end Go.Proofs.YtdbdoalefmliiaaGreatDoor.S
end
