/- A part of the proof of ExistenceOne: ZW3, ZW4, ZJ, ZK, ZL, ZM, ZN, ZO, ZP, ZQ, ZR, Y0, YO, YT, ZX. -/
import Derived.Test.YtdbdoalefmliiaaGreatDoorPkE1
import Derived.Scope
import Derived.Below
import Derived.Deep.LoopGhost
import Derived.Test.YtdbdoalefmliiaaGreatDoorChecked
import Derived.Lib.SmallJoins
import Derived.WideKeyArgs
import Derived.Deep.Slices
import Derived.OpenShut
import Derived.ChangeSame
import Derived.Lib.LaidTab
import Derived.ProofKit
import Derived.Deep.DeepHandedRow
import Derived.Test.YtdbdoalefmliiaaGreatDoorRows
import Derived.Test.YtdbdoalefmliiaaGreatDoorTie
import Derived.Test.YtdbdoalefmliiaaGreatDoorCards
import Derived.Stop.LaidErr
set_option linter.unusedSimpArgs false
set_option linter.unusedVariables false
set_option maxRecDepth 100000
noncomputable section
namespace Go.QfSy
def nZ (ti:Tr TypeInfo)(conT:Nat):Nat→Nat→Option ae
 |0,_=>none
 |f+1,t=>bif Nat.beq t conT then some .con else match bN ti t with
  |some (.int k)=>some (.num k)
  |some .bool=>some .flag
  |some (.slice e)=>match nZ ti conT f e with
   |some τ=>some (.list τ)
   |none=>none
  |some (.struct fs)=>match fs.toList.map (fun f=>bN ti f.type)with
   |[some (.int .i64),some (.slice e)]=>match nZ ti conT f e with
    |some .con=>some .loc
    |_=>none
   |[some (.int .i64),some (.int .i64),some (.slice e)]=>match nZ ti conT f e with
    |some .loc=>some .gen
    |_=>none
   |[some (.int .i64),some (.int .i64)]=>some .pow
   |[some (.int .i64),some (.int .i64),some (.int .i64),some (.int .i64),some (.int .i64)]=>some .jb
   |[some .bool,some (.slice e)]=>match nZ ti conT f e with
    |some (.num .u32)=>some .bint
    |_=>none
   |_=>none
  |_=>none
def vH (τ:ae):Nat→Tr ag→List AV→Option (List τ.car×Tr ag×List Prop)
 |_,h,[]=>some ([],h,[])
 |0,_,_=>none
 |f+1,h,v::vs=>bif Nat.beq ((v::vs).take τ.sz).length τ.sz then(match wN h τ τ.zero 0 ((v::vs).take τ.sz)with
  |none=>none
  |some (c,h1,m1)=>match vH τ f h1 ((v::vs).drop τ.sz)with
   |none=>none
   |some (L,h2,m2)=>some (c::L,h2,m1++m2))else none
theorem Dt {nx:Nat}{w:World}{τ:ae}:∀{f:Nat}{γ:Gm}{h h':Tr ag}{vs:List AV}{L:List τ.car}{ms:List Prop},aJ γ h.get nx w→vH τ f h vs=some (L,h',ms)→(∀p∈ms,p)→
 ∃γ',dm γ h nx w γ' h'∧∀γ2:Gm,γ'.le γ2→∀Vs,ap γ2 vs Vs→ap γ2 (ce τ L) Vs
 |f,γ,h,h',[],L,ms,hr,hq,hm=>by
  have hq:some (([]:List τ.car),h,([]:List Prop))=some (L,h',ms):=by cases f<;>exact hq
  cases hq
  exact⟨γ,dm.refl hr,fun γ2 _ Vs hVs=>by cases hVs;exact .nil⟩
 |0,γ,h,h',v::vs,L,ms,hr,hq,hm=>by cases hq
 |f+1,γ,h,h',v::vs,L,ms,hr,hq,hm=>by
  unfold vH at hq
  obtain⟨hlen,hq'⟩:=ay hq
  clear hq
  have hlen:=aM hlen
  split at hq'
  ·cases hq'
  ·rename_i c h1 m1 hs1
   split at hq'
   ·cases hq'
   ·rename_i L2 h2 m2 hs2
    cases hq'
    obtain⟨hm1,hm2⟩:=dJ hm
    obtain⟨γ1,rs,hF1,hS⟩:=FC hr hs1 hm1
    obtain⟨γ3,hF2,hR⟩:=Dt hF1.stp.rel hs2 hm2
    refine⟨γ3,hF1.trans hF2,fun γ2 hle Vs hVs=>?_⟩
    have e:τ.rvs c=rs:=by
     have h0:=hS.eq
     rw[List.take_zero,pQ,gF,hlen,List.drop_of_length_le (by rw[ae.rvs_len];exact bp _),kf]at h0
     exact h0
    rw[←ou τ.sz (v::vs)]at hVs
    obtain⟨V1,V2,rfl,r1,r2⟩:=ap.parts hVs
    have hle1:γ1.le γ2:=Gm.le_trans hF2.stp.le hle
    have:=(bY.avl (hS.rel γ2 hle1 V1 r1)).append (hR γ2 hle V2 r2)
    rw[←e]at this
    exact this
theorem Du {τ:ae}:∀(o:Nat)(L:List τ.car),(ce τ L).drop (o*τ.sz)=ce τ (List.drop (α:=τ.car) o L)
 |0,L=>by rw[kV];rfl
 |o+1,[]=>by simp[ce]
 |o+1,c::L=>by
  have h1:ce τ (c::L)=RV.avl (τ.rvs c)++ce τ L:=rfl
  have h2:(RV.avl (τ.rvs c)).length=τ.sz:=by rw[←ae.rvs_len τ c];exact o9 _
  rw[h1,gG,ig,Nat.add_comm,←List.drop_drop,List.drop_append_of_le_length om,List.drop_of_length_le (l:=RV.avl (τ.rvs c)) om,pQ]
  exact Du o L
def mM:AV→Bool
 |.ro _ _ _=>true
 |.lo _ _=>true
 |.nils=>true
 |_=>false
def wG (ti:Tr TypeInfo)(h:Tr ag)(τ:ae)(e t:Nat)(x:AV):Option (Nat×List τ.car×Tr ag×List Prop):=
 match x with
 |.ro n sz row=>match bN ti t with
  |some (.slice _)=>bif Nat.beq sz τ.sz then some (n,eX τ n row,h,[∀i,i<n→row i=τ.rvs (τ.of (row i))])else none
  |_=>none
 |.lo b n=>match bN ti t with
  |some (.slice _)=>match h.get b with
   |none=>none
   |some k=>match pu τ k.view with
    |none=>none
    |some L=>some (n,L,h,[n=L.length])
  |_=>none
 |.ls b o sz n _=>match bN ti t with
  |some (.slice _)=>match h.get b with
   |none=>none
   |some k=>match pu τ k.view with
    |none=>none
    |some L=>bif Nat.beq sz τ.sz then some (n,List.drop (α:=τ.car) o L,h,[n=(List.drop (α:=τ.car) o L).length])else none
  |_=>none
 |_=>match nP ti h e τ.sz t x with
  |none=>none
  |some (n,vs)=>match vH τ (n+1) h vs with
   |none=>none
   |some (L,h',ms)=>some (n,L,h',(n=L.length)::ms)
section
variable {P:Program}{ti:Tr TypeInfo}(ht:dL P ti)
include ht in
theorem vn {γ:Gm}{h h':Tr ag}{nx:Nat}{w:World}(hr:aJ γ h.get nx w){τ:ae}{e t:Nat}(hz:cC ti e=some τ.sz){x:AV}{X:Value}(hx:aj γ x X){n:Nat}{L:List τ.car}{ms:List Prop}(hq:wG ti h τ e t x=some (n,L,h',ms))(hm:∀p∈ms,p)
 {ts:Array TypeId}(ht1:ts[1]? =some t):∃γ',dm γ h nx w γ' h'∧pi P γ' w e τ.sz ts X n (ce τ L)∧n=L.length:=by
 unfold wG at hq
 split at hq
 ·rename_i n0 sz row
  split at hq
  ·rename_i e' hd
   obtain⟨hsz,hq'⟩:=ay hq
   clear hq
   have hsz:=aM hsz
   subst hsz
   cases hq'
   have hrow:=aA hm
   have hlr:n=(eX τ n row).length:=by rw[u0];simp
   have hZ:(fN ts).run P w=.ok false w:=by simp[fN,ht1,bF ht hd]
   refine⟨γ,dm.refl hr,?_,hlr⟩
   have hcells:ce τ (eX τ n row)=(List.range n).flatMap (fun i=>RV.avl (row i)):=by
    unfold ce
    rw[u0,List.flatMap_map]
    clear hlr hx hm
    induction n with
    |zero=>rfl
    |succ k ih=>
     rw[oy,kQ,kQ,ih (fun i hi=>hrow i om)]
     simp only[gh,List.flatMap_nil,kf]
     rw[←hrow k om]
   rw[hcells]
   cases hx with
   |ro hR=>
    cases hR with
    |sl0 _ _ a c hn=>
     subst hn
     refine⟨false,[],hZ,by simp[fO,Builtin.lenOf],fun w' _=>?_,by simp;exact .nil,si⟩
     cases a<;>simp[gp,Builtin.firstCells,loadCells,loadCellsFrom]
    |sl cs hc hl hf hrow'=>
     rename_i B o c
     refine⟨false,(List.range n).flatMap cs,hZ,by simp[fO,Builtin.lenOf],fun w' hw'=>?_,yz n (fun i hi=>bY.avl (hrow' i hi)),uN n hl⟩
     simp only[gp,lH,fx]
     refine run_firstCells_some (P:=P) w' τ.sz n _ _ _ _ (uN n hl) (fun j v hv=>?_)
     obtain⟨i,j',h1,h2,h3⟩:=yX n hl j v hv
     have:=(hf i j' v h1 h3).cell hr
     rw[dl,h2,←Nat.add_assoc]
     simpa [World.cell?,hw']using this
  ·cases hq
 ·rename_i b n0
  split at hq
  ·rename_i e' hd
   have hZ:(fN ts).run P w=.ok false w:=by simp[fN,ht1,bF ht hd]
   split at hq
   ·cases hq
   ·rename_i k hk
    split at hq
    ·cases hq
    ·rename_i L' hL
     cases hq
     have hn:=aA hm
     have hcells:k.cells=ce τ L:=rZ hL
     refine⟨γ,dm.refl hr,?_,hn⟩
     cases hx with
     |lo _ hg=>
      rename_i B x
      obtain⟨Vs,p1,p2,p3⟩:=hr.load hk hg 0 (n*τ.sz) (by rw[hcells,jN,hn];omega)
      rw[oB,iS (by rw[hcells,jN,hn];exact bp _),hcells]at p1
      refine⟨false,Vs,hZ,by simp[fO,Builtin.lenOf],fun w' hw'=>?_,p1,p2⟩
      simp only[gp,lH,fx]
      refine run_firstCells_some (P:=P) w' τ.sz n _ _ _ _ p2 (fun j v hv=>?_)
      have:=p3 j v hv
      rw[dl]at this⊢
      simpa [World.cell?,hw']using this
  ·cases hq
 ·rename_i b o sz n0 ex
  split at hq
  ·rename_i e' hd
   have hZ:(fN ts).run P w=.ok false w:=by simp[fN,ht1,bF ht hd]
   split at hq
   ·cases hq
   ·rename_i k hk
    split at hq
    ·cases hq
    ·rename_i L' hL
     obtain⟨hsz,hq'⟩:=ay hq
     clear hq
     have hsz:=aM hsz
     subst hsz
     cases hq'
     have hn:=aA hm
     have hcells:k.cells=ce τ L':=rZ hL
     refine⟨γ,dm.refl hr,?_,hn⟩
     cases hx with
     |ls _ _ _ hg ha hc he=>
      rename_i B x c a
      have hdl:(List.drop (α:=τ.car) o L').length=L'.length-o:=rF
      by_cases h0:n=0
      ·subst h0
       have e0:List.drop (α:=τ.car) o L'=[]:=kP hn.symm
       refine⟨false,[],hZ,by simp[fO,Builtin.lenOf],fun w' _=>?_,by rw[e0];exact .nil,si⟩
       cases a<;>simp[gp,Builtin.firstCells,loadCells,loadCellsFrom]
      ·have ha:=ha (kR h0)
       subst ha
       have hle:o*τ.sz+n*τ.sz≤L'.length*τ.sz:=by rw[←gG];exact iT _ om
       obtain⟨Vs,p1,p2,p3⟩:=hr.load hk hg (o*τ.sz) (n*τ.sz) (by rw[hcells,jN];exact hle)
       have hdr:(k.cells.drop (o*τ.sz)).take (n*τ.sz)=ce τ (List.drop (α:=τ.car) o L'):=by
        rw[hcells,Du,iS (by rw[jN,←hn];exact bp _)]
       rw[hdr]at p1
       refine⟨false,Vs,hZ,by simp[fO,Builtin.lenOf],fun w' hw'=>?_,p1,p2⟩
       simp only[gp,lH,fx]
       refine run_firstCells_some (P:=P) w' τ.sz n _ _ _ _ p2 (fun j v hv=>?_)
       have:=p3 j v hv
       rw[dl]at this⊢
       simpa [World.cell?,hw']using this
  ·cases hq
 ·split at hq
  ·cases hq
  ·rename_i n1 vs hsrc
   split at hq
   ·cases hq
   ·rename_i L' h1 ms1 hv
    cases hq
    have hn:n=L.length:=hm _ eB
    obtain⟨γ',hF,hR⟩:=Dt hr hv (fun p hp=>hm p (fk _ hp))
    obtain⟨zeros,news,c1,c2,c3,c4,c5⟩:=sd ht hr hz hx hsrc ht1
    exact⟨γ',hF,⟨zeros,news,c1,c2,c3,hR γ' (Gm.le_refl _) _ (c4.mono hF.stp.le),c5⟩,hn⟩
end
def qJ (ti:Tr TypeInfo)(conT:Nat)(t0 t1:Nat)(s x:AV)(H:Hs):Option (AV×Hs):=
 match bN ti t0 with
 |some (.slice e)=>match cC ti e,lP ti e,jc ti e,nZ ti conT 6 e with
  |some z,some by_,some zs,some τ=>bif !(Nat.beq zs.length z&&Nat.beq z τ.sz&&Nat.ble by_ 1000)then none else
   match wG ti H.m τ e t1 x with
   |none=>none
   |some (n,L,h1,ms)=>
    match s with
    |.lo b c=>match h1.get b with
     |none=>none
     |some k=>match pu τ k.view with
      |none=>none
      |some M=>bif k.opn&&k.own&&Nat.beq k.sz z&&Nat.beq k.elem e then
       (match h1.set b none with
       |none=>none
       |some m1=>match m1.set H.nx (some ⟨.vals τ (M++L),e,z,true,true⟩)with
        |none=>none
        |some m=>some (.lo H.nx (c+n),{H with m:=m,nx:=H.nx+1,ms:=(List.length (α:=τ.car) M=c∧c+n≤1000000)::(ms++H.ms)}))else none
    |_=>bif isN s then
     (match(bif mM x then H.ask (Nat.beq n 0)else(false,H))with
     |(true,H1)=>some (s,{H1 with m:=h1,nx:=H1.nx+1,ms:=ms++H1.ms})
     |(false,H1)=>match h1.set H1.nx (some ⟨.vals τ L,e,z,true,true⟩)with
      |none=>none
      |some m=>some (.lo H1.nx n,{H1 with m:=m,nx:=H1.nx+1,ms:=(0<n∧n≤1000000)::(ms++H1.ms)}))
     else none
  |_,_,_,_=>none
 |_=>none
where
 isN:AV→Bool
  |.nils=>true
  |.z0=>true
  |_=>false
theorem OJ {ti:Tr TypeInfo}{conT t0 t1:Nat}{u y v:AV}{H H':Hs}(hq:qJ ti conT t0 t1 u y H=some (v,H')):∀p∈H.ms,p∈H'.ms:=by
 intro p hp
 unfold qJ at hq
 split at hq
 case h_2=>cases hq
 split at hq
 case h_2=>cases hq
 rename_i e hd _ _ _ _ z by_ zs τ hz hby hzs hτ
 cases hzl:(!(Nat.beq zs.length z&&Nat.beq z τ.sz&&Nat.ble by_ 1000))with
 |true=>rw[hzl]at hq;cases hq
 |false=>
  rw[hzl]at hq
  simp only[bt]at hq
  split at hq
  ·cases hq
  ·split at hq
   ·split at hq
    ·cases hq
    ·split at hq
     ·cases hq
     ·replace hq:=(ay hq).2
      split at hq
      ·cases hq
      ·split at hq
       ·cases hq
       ·cases hq;simp[hp]
   ·rename_i n L h1 ms hsrc _ _
    replace hq:=(ay hq).2
    have hk:∀q∈H.ms,q∈(bif mM y then H.ask (Nat.beq n 0)else(false,H)).2.ms:=by
     intro q hq
     cases mM y with
     |true=>simp only[aU,kq];exact fk _ hq
     |false=>exact hq
    generalize (bif mM y then H.ask (Nat.beq n 0)else(false,H))=r at hq hk
    obtain⟨d,H1⟩:=r
    cases d with
    |true=>cases hq;simp[hk p hp]
    |false=>
     simp only at hq
     split at hq
     ·cases hq
     ·cases hq;simp[hk p hp]
section
variable {P:Program}{ti:Tr TypeInfo}(ht:dL P ti)
include ht
theorem OK {conT:Nat}{γ:Gm}{H H':Hs}{w:World}(hr:aJ γ H.m.get H.nx w){t0 t1:Nat}{s x v:AV}{S X:Value}(hs:aj γ s S)(hx:aj γ x X)
 (hq:qJ ti conT t0 t1 s x H=some (v,H'))(hm:∀p∈H'.ms,p){ts:Array TypeId}{args:Array Value}(ty:TypeId)(ht0:ts[0]? =some t0)(ht1:ts[1]? =some t1)(ha0:args[0]? =some S)(ha1:args[1]? =some X):
 ∃V γ' w',(Builtin.append_ ts ty args).run P w=.ok V w'∧be γ H.m.get w γ' H'.m.get H'.nx w'∧aj γ' v V∧(∀j,j≠H.nx→γ' j=γ j)∧H'.nx=H.nx+1:=by
 rw[rL]
 unfold qJ at hq
 split at hq
 case h_2=>cases hq
 rename_i e hd
 have hu:P.underlying t0=some (.slice e):=il ht hd
 split at hq
 case h_2=>cases hq
 rename_i z by_ zs τ hz hby hzs hτ
 obtain⟨inf,Z,g1,g2,g3⟩:=mC (P:=P) (γ:=γ) ht hzs
 obtain⟨inf',q1,q2⟩:=kg ht hz
 rw[g1]at q1
 cases q1
 have hbytes:inf.bytes=by_:=nr ht hby g1
 cases hzl:(!(Nat.beq zs.length z&&Nat.beq z τ.sz&&Nat.ble by_ 1000))with
 |true=>rw[hzl]at hq;cases hq
 |false=>
  rw[hzl]at hq
  simp only[bt]at hq
  have hzl':(Nat.beq zs.length z&&Nat.beq z τ.sz&&Nat.ble by_ 1000)=true:=by simpa using hzl
  obtain⟨hz2,hb1⟩:=bB hzl'
  obtain⟨hz1,hz3⟩:=bB hz2
  have hz1:=aM hz1
  have hz3:=aM hz3
  have hb1:=aT hb1
  subst hz3
  have hZ:Z.cells.size=τ.sz:=by have:=g3.length;simp at this;omega
  have bytesOk:∀m,m≤1000000→m*inf.bytes≤140737488355328:=by
   intro m hm'
   rw[hbytes]
   have:m*by_≤1000000*1000:=mr hm' hb1
   omega
  split at hq
  ·cases hq
  rename_i n L h1 ms hsrc
  split at hq
  ·rename_i b c
   split at hq
   ·cases hq
   ·rename_i k hk
    split at hq
    ·cases hq
    ·rename_i M hM
     obtain⟨hb,hq'⟩:=ay hq
     clear hq
     simp only[bj]at hb
     obtain⟨⟨⟨d1,d2⟩,d3⟩,d4⟩:=hb
     split at hq'
     ·cases hq'
     ·rename_i m1 hkill
      split at hq'
      ·cases hq'
      ·rename_i m hset
       cases hq'
       obtain⟨hnum,hle⟩:=hm (List.length (α:=τ.car) M=c∧c+n≤1000000) si
       obtain⟨γ1,hF,so,hn⟩:=vn ht hr hz hx hsrc (fun p hp=>hm p (by simp[hp])) ht1
       have hr1:=hF.stp.rel
       have hcells:k.cells=ce τ M:=rZ hM
       cases hs with
       |lo _ hg=>
        rename_i B xx
        have hg1:γ1 b=some (B,xx):=by show γ1.nm b=_;rw[hF.nm];exact hg
        have hkz:=aM d3
        have hke:=aM d4
        have hlen:k.cells.length=c*τ.sz:=by rw[hcells,jN,hnum]
        have hone:(ce τ L).all AV.one=true:=by
         unfold ce
         simp only[List.all_flatMap,cK]
         intro c _
         exact cK.1 (DP τ c)
        have hset':∃m2,m1.set H.nx (some ⟨.plain (k.cells++ce τ L),e,τ.sz,true,true⟩)=some m2:=by
         unfold Tr.set at hset⊢
         obtain⟨hb2,_⟩:=ay hset
         rw[hb2]
         exact⟨_,rfl⟩
        obtain⟨m2,hset2⟩:=hset'
        obtain⟨W,γ',w',r1,r2,r3,r4⟩:=yA (P:=P) hr1 (i:=H.nx) (hr1.fresh _ (bp _)) (nx':=H.nx+1) om om ht0 ha0 ha1 hu g1 q2 g2 hZ so hone hk hg1 d2 hkz hke hlen om (bytesOk _ hle) hkill hset2
        refine⟨W,γ',w',r1,hF.stp.trans ?_,r3,fun j hj=>by rw[r4 j hj];show γ1.nm j=_;rw[hF.nm],rfl⟩
        rw[ej hset2]at r2
        refine pY hset ?_ r2
        show ce τ (M++L)=_
        rw[hcells]
        unfold ce
        rw[kQ]
  ·obtain⟨hN,hq'⟩:=ay hq
   clear hq
   have hS:∃base,S=.slice base 0 0:=by
    unfold qJ.isN at hN
    split at hN
    ·cases hs;exact⟨_,rfl⟩
    ·cases hs;exact⟨_,rfl⟩
    ·cases hN
   obtain⟨base,hS⟩:=hS
   have hO:(Builtin.firstCells τ.sz 0 (.slice base 0 0)).run P w.drew=.ok ([]:List Value).toArray w.drew:=by cases base<;>simp[Builtin.firstCells,loadCells,loadCellsFrom]
   have am:(bif mM x then H.ask (Nat.beq n 0)else(false,H)).2.nx=H.nx∧((bif mM x then H.ask (Nat.beq n 0)else(false,H)).1=true→aa (Nat.beq n 0) true∈(bif mM x then H.ask (Nat.beq n 0)else(false,H)).2.ms):=by
    cases mM x with
    |true=>
     simp only[aU]
     refine⟨sv _ _,fun h=>?_⟩
     rw[kq,h]
     exact eB
    |false=>exact⟨rfl,fun h=>by cases h⟩
   generalize (bif mM x then H.ask (Nat.beq n 0)else(false,H))=r at hq' am
   obtain⟨d,H1⟩:=r
   obtain⟨an,ak⟩:=am
   simp only at an ak
   cases d with
   |true=>
    simp only[bv,dh]at hq'
    obtain⟨rfl,rfl⟩:=hq'
    obtain⟨γ1,hF,so,hnL⟩:=vn ht hr hz hx hsrc (fun p hp=>hm p (by simp[hp])) ht1
    have hn0:aa (Nat.beq n 0) true:=hm _ (by simp[ak rfl])
    have hn0:n=0:=aM hn0
    subst hn0
    obtain⟨zeros,news,c1,c2,c3,c4,c5⟩:=so.ex
    have hnews:news=[]:=kP (by simpa using c5)
    subst hnews
    have hrun:=pS (P:=P) w ht0 (by rw[ha0,hS]) ha1 hu g1 q2 c1 c2 (c3 w rfl) (sLen:=0) (sCap:=0) (base:=base) om
    refine⟨.slice base 0 0,γ1,w,?_,?_,?_,fun j _=>by show γ1.nm j=_;rw[hF.nm],by simp[an]⟩
    ·rw[hrun]
     cases base<;>simp[storeCells]
    ·have:=hF.stp.trans (be.refl (hF.stp.rel.nx_mono (Nat.le_succ _)))
     simpa [an]using this
    ·rw[←hS];exact hs.mono hF.stp.le
   |false=>
    simp only at hq'
    split at hq'
    ·cases hq'
    ·rename_i m hset
     simp only[bv,dh]at hq'
     obtain⟨rfl,rfl⟩:=hq'
     obtain⟨h0,hle⟩:=hm (0<n∧n≤1000000) si
     obtain⟨γ1,hF,so,hnL⟩:=vn ht hr hz hx hsrc (fun p hp=>hm p (by simp[hp])) ht1
     have hr1:=hF.stp.rel
     obtain⟨zeros,news,c1,c2,c3,c4,c5⟩:=so.ex
     obtain⟨W,γ',w',r1,r2,r3,r4⟩:=p9 (P:=P) (olds:=[]) (Olds:=[]) hr1 (f1:=h1.get) (fun _ _ h=>h) (i:=H.nx) (nx':=H.nx+1) (hr1.fresh _ (bp _)) om om ht0 (by rw[ha0,hS]) ha1 hu g1 q2 g2 hZ c1 c2 (c3 w.drew rfl) hO om om (bytesOk _ om) .nil c4
     rw[an]at hset
     refine⟨W,γ',w',r1,hF.stp.trans ?_,?_,fun j hj=>by rw[r4 j hj];show γ1.nm j=_;rw[hF.nm],by simp[an]⟩
     ·show be γ1 h1.get w γ' m.get (H1.nx+1) w'
      rw[an]
      exact pY hset (by simp;rfl) r2
     ·rw[an]
      rw[gF]at r3
      cases r3 with
      |slc _ _ _ hg'=>exact .lo _ hg'
end
def li (ti:Tr TypeInfo)(conT t0 t1:Nat)(s x:AV)(H:Hs):Option (AV×Hs):=
 match tj ti conT t0 t1 s x H with
 |some r=>some r
 |none=>match tA ti t0 t1 s x H with
  |some r=>some r
  |none=>qJ ti conT t0 t1 s x H
section
variable {P:Program}{ti:Tr TypeInfo}(ht:dL P ti)
include ht in
theorem yO {conT:Nat}{γ:Gm}{H H':Hs}{w:World}(hr:aJ γ H.m.get H.nx w){t0 t1:Nat}{s x v:AV}{S X:Value}(hs:aj γ s S)(hx:aj γ x X)
 (hq:li ti conT t0 t1 s x H=some (v,H'))(hm:∀p∈H'.ms,p){ts:Array TypeId}{args:Array Value}(ty:TypeId)(ht0:ts[0]? =some t0)(ht1:ts[1]? =some t1)(ha0:args[0]? =some S)(ha1:args[1]? =some X):
 ∃V γ' w',(Builtin.append_ ts ty args).run P w=.ok V w'∧be γ H.m.get w γ' H'.m.get H'.nx w'∧aj γ' v V∧(∀j,j≠H.nx→γ' j=γ j)∧H'.nx=H.nx+1:=by
 unfold li at hq
 split at hq
 ·rename_i r hr'
  cases hq
  exact Pi ht hr hs hx hr' hm ty ht0 ht1 ha0 ha1
 ·split at hq
  ·rename_i r hr'
   cases hq
   exact PW ht hr hs hx hr' hm ty ht0 ht1 ha0 ha1
  ·exact OK ht hr hs hx hq hm ty ht0 ht1 ha0 ha1
end
def pK (τ:ae)(L:List τ.car):b6:=match τ,L with
 |.con,L=>.con L
 |.num k,L=>.ints k L
 |τ,L=>.vals τ L
theorem Dv:∀(τ:ae)(L:List τ.car),(pK τ L).cells=ce τ L
 |.con,L=>rfl
 |.num k,L=>ye k L
 |.loc,_=>rfl
 |.gen,_=>rfl
 |.pow,_=>rfl
 |.jb,_=>rfl
 |.bint,_=>rfl
 |.flag,_=>rfl
 |.list _,_=>rfl
def vo:AV→RV→Bool
 |.bool b,.bool c=>b==c
 |.int k n,.int k' n'=>decide (k=k')&&decide (n=n')
 |.nils,.sl n _ _=>Nat.beq n 0
 |_,_=>false
def vp:List AV→List RV→Bool
 |[],[]=>true
 |v::vs,r::rs=>vo v r&&vp vs rs
 |_,_=>false
theorem Mf {γ:Gm}{v:AV}{r:RV}(h:vo v r=true){V:Value}(hV:aj γ v V):aj γ r.av V:=by
 unfold vo at h
 split at h
 ·have:=eq_of_beq h;subst this;cases hV;exact .vbool _
 ·obtain⟨h1,h2⟩:=bB h
  have h1:=ea h1
  have h2:=ea h2
  subst h1 h2
  cases hV;exact .vint _ _
 ·cases hV;exact .ro (.sl0 _ _ _ _ (aM h))
 ·cases h
theorem CH {γ:Gm}:∀{vs:List AV}{rs:List RV},vp vs rs=true→∀{Vs:List Value},ap γ vs Vs→ap γ (RV.avl rs) Vs
 |[],[],_,Vs,hV=>by cases hV;exact .nil
 |[],_::_,h,_,_=>by cases h
 |_::_,[],h,_,_=>by cases h
 |v::vs,r::rs,h,Vs,hV=>by
  obtain⟨h1,h2⟩:=bB (show(vo v r&&vp vs rs)=true from h)
  cases hV with|cons a t=>exact .cons (Mf h1 a) (CH h2 t)
theorem Gz {γ:Gm}{z:Nat}{rs:List AV}{Z:Array Value}(hz:0<z)(hl:Z.size=z)(h:ap γ rs Z.toList):∀n,ap γ ((List.replicate n rs).flatMap id) ((List.range (n*z)).map (fun i=>Z[i%Z.size]!))
 |0=>by simp;exact .nil
 |n+1=>by
  rw[List.replicate_succ',kQ,gG,ig,List.range_add,List.map_append]
  refine(Gz hz hl h n).append ?_
  simp only[gh,List.flatMap_nil,kf,id,List.map_map]
  have e:(List.range z).map ((fun i=>Z[i%Z.size]!)∘fun x=>n*z+x)=Z.toList:=by
   apply rG
   ·simp[hl]
   ·intro i h1 h2
    simp only[jG,List.length_range]at h1
    simp only[List.getElem_map,List.getElem_range,Function.comp_apply,hl]
    rw[Nat.add_comm,Nat.add_mul_mod_self_right,rD h1,getElem!_pos Z i om]
    simp
  rw[e];exact h
def HQ (ti:Tr TypeInfo)(conT i t:Nat)(l c:AV):Option (AV×ag×List Prop):=
 match clr l,clr c with
 |.int _ n,.int _ n'=>match bN ti t with
  |some (.slice e)=>match cC ti e,lP ti e,jc ti e,nZ ti conT 6 e with
   |some z,some by_,some zs,some τ=>bif Nat.beq z τ.sz&&Nat.ble by_ 1000&&vp zs (τ.rvs τ.zero)&&Nat.blt 0 z then
    some (.lo i n.toNat,⟨pK τ (List.replicate n.toNat τ.zero),e,z,true,true⟩,[0≤n∧n≤1000000∧n'=n])else none
   |_,_,_,_=>none
  |_=>none
 |_,_=>none
def B6 (ti:Tr TypeInfo)(conT:Nat)(ρ:Operand→Option AV)(op:Op)(i:Nat):Option (AV×ag×List Prop):=
 match pF ti ρ op i with
 |some k=>some (k.v,k.blk,[])
 |none=>match op with
  |.makeSlice t l c=>match ρ l with
   |none=>none
   |some u=>match ρ c with
    |none=>none
    |some v=>HQ ti conT i t u v
  |_=>none
section
variable {P:Program}{ti:Tr TypeInfo}(ht:dL P ti)
include ht
theorem SS {conT:Nat}{γ:Gm}{f:Hf}{nx:Nat}{w:World}(hr:aJ γ f nx w){ρ:Operand→Option AV}{R:Operand→Value}(hρ:∀x v,ρ x=some v→aj γ v (R x)){o:Oper}{i nx':Nat}(hi:γ i=none)(hi':i<nx')(hn:nx≤nx'){v:AV}{k:ag}{ms:List Prop}
 (hq:B6 ti conT ρ o.op i=some (v,k,ms))(hm:∀p∈ms,p):∃V w',(execOp R o).run P w=.ok (.value V) w'∧be γ f w (γ.put i (some (w.heap.size,0))) (es f i (some k)) nx' w'∧aj (γ.put i (some (w.heap.size,0))) v V:=by
 unfold B6 at hq
 split at hq
 ·rename_i m hm'
  cases hq
  exact FR ht hr hρ hi hi' hn hm'
 ·split at hq
  ·rename_i t l c hop
   split at hq
   ·cases hq
   ·rename_i u hu
    split at hq
    ·cases hq
    ·rename_i y hy
     have h1:=(hρ _ _ hu).clr
     have h2:=(hρ _ _ hy).clr
     unfold HQ at hq
     split at hq
     ·rename_i kl n kc n' e1 e2
      rw[e1]at h1
      rw[e2]at h2
      split at hq
      ·rename_i el hd
       split at hq
       ·rename_i z by_ zs τ hz hby hzs hτ
        obtain⟨hb,hq'⟩:=ay hq
        clear hq
        cases hq'
        simp only[bj]at hb
        obtain⟨⟨⟨b1,b2⟩,b3⟩,b4⟩:=hb
        have b1:=aM b1
        have b2:=aT b2
        have b4:0<z:=aT b4
        subst b1
        obtain⟨h0,hle,rfl⟩:=aA hm
        cases hL:R l<;>rw[hL]at h1<;>cases h1
        cases hC:R c<;>rw[hC]at h2<;>cases h2
        obtain⟨inf,Z,g1,g2,g3⟩:=mC (P:=P) (γ:=γ) ht hzs
        obtain⟨inf',q1,q2⟩:=kg ht hz
        rw[g1]at q1
        cases q1
        have hbytes:inf.bytes=by_:=nr ht hby g1
        have hu2:P.underlying t=some (.slice el):=il ht hd
        have hb3:(inf.bytes:Int)*n'≤281474976710656:=by
         rw[hbytes]
         have h3:(by_:Int)*n'≤1000*1000000:=Int.mul_le_mul om hle h0 om
         omega
        have hrun:=run_make (P:=P) w t el inf Z hu2 g1 g2 kl kc n' n' h0 (Int.le_refl _) hb3 om
        have hzr:=CH b3 g3
        have hZs:Z.cells.size=τ.sz:=by have:=hzr.length;rw[o9,ae.rvs_len]at this;simpa using this
        have hcy:=Gz b4 hZs hzr n'.toNat
        have hcells:(pK τ (List.replicate n'.toNat τ.zero)).cells=(List.replicate n'.toNat (RV.avl (τ.rvs τ.zero))).flatMap id:=by
         rw[Dv]
         unfold ce
         rw[List.flatMap_def,List.flatMap_def,List.map_replicate,List.map_replicate]
         rfl
        rw[←hcells]at hcy
        have hg:(γ.put i (some (w.heap.size,0))) i=some (w.heap.size,0):=Gm.put_same _ _ _
        have hnew:=hr.new i nx' hi hi' hn hcy (ex:=[]) el τ.sz true 0 si (fun _=>rfl) (w1:=w) rfl rfl rfl rfl (bp _)
        have hnew2:be γ f w (γ.put i (some (w.heap.size,0))) (es f i (some ⟨pK τ (List.replicate n'.toNat τ.zero),el,τ.sz,true,true⟩)) nx' (w.alloc (.cells (((List.range (n'.toNat*τ.sz)).map (fun i=>Z.cells[i%Z.cells.size]!))++[]).toArray el)):=
         hnew.view (fun cs hcs=>hcs) rfl rfl rfl rfl rfl
        have hv:aj (γ.put i (some (w.heap.size,0))) (.lo i n'.toNat) (.slice (some ⟨w.heap.size,0,none⟩) n'.toNat (n'.toNat+0)):=.lo _ hg
        have hmade:madeCells Z.cells (n'.toNat*inf.size)=((List.range (n'.toNat*τ.sz)).map (fun i=>Z.cells[i%Z.cells.size]!)++[]).toArray:=by
         rw[q2,kf]
         apply Array.toList_inj.1
         simp[madeCells]
        rw[hmade]at hrun
        refine⟨.slice (some ⟨w.heap.size,0,none⟩) n'.toNat n'.toNat,_,?_,hnew2,hv⟩
        obtain⟨dst,op,ty,pos,after,guard⟩:=o
        simp only at hop
        subst hop
        simp only[execOp,hL,hC,Sem.run_bind,hrun,Result.andThen_ok,Sem.run_pure]
       ·cases hq
      ·cases hq
     ·cases hq
  ·cases hq
end
theorem aJ.cast {γ:Gm}{f:Hf}{nx:Nat}{w:World}(h:aJ γ f nx w){b:Nat}{k k':ag}(hb:f b=some k)(ho:k.own=true)(ho':k'.own=true)(hp:k.opn=false∨(k'.opn=true∧k.sz=k'.sz))(he:k.elem=k'.elem)(hi:∀cs,ap γ k.cells cs→ap γ k'.cells cs):be γ f w γ (es f b (some k')) nx w:=by
 have old:∀c q,es f b (some k') c=some q→(c=b∧q=k')∨(c≠b∧f c=some q):=by
  intro c q hc
  by_cases e:c=b
  ·subst e;rw[eU]at hc;cases hc;exact .inl ⟨rfl,rfl⟩
  ·rw[dj f _ e]at hc;exact .inr ⟨e,hc⟩
 have some':∀c q,es f b (some k') c=some q→∃q',f c=some q'∧(q.own=true→q'.own=true):=by
  intro c q hc
  rcases old c q hc with⟨rfl,rfl⟩|⟨_,h1⟩
  ·exact⟨k,hb,fun _=>ho⟩
  ·exact⟨q,h1,id⟩
 refine⟨Gm.le_refl γ,⟨?_,?_,h.fresh,h.fzr,?_⟩,bp _,rfl,rfl,rfl,fun _ _ _=>rfl,?_,?_,?_,fun _ _ h=>.inl h,bp _⟩
 ·intro c q hc
  rcases old c q hc with⟨rfl,rfl⟩|⟨_,h1⟩
  ·obtain⟨B,x,cs,ex,g1,g2,g3,g4,g5⟩:=h.blk _ k hb
   rcases hp with hp|⟨hp,hz⟩
   ·have hx:=g5 hp
    subst hx
    have hex:ex=[]:=kP (by simpa using g4)
    subst hex
    exact⟨B,0,cs,[],g1,by rw[←he];exact g2,hi cs g3,si,fun _=>rfl⟩
   ·exact⟨B,x,cs,ex,g1,by rw[←he];exact g2,hi cs g3,by rw[←hz];exact g4,fun h=>by rw[hp]at h;cases h⟩
  ·exact h.blk c q h1
 ·intro c c' q q' B x x' h1 h2 h3 h4
  obtain⟨_,s1,_⟩:=some' c q h1
  obtain⟨_,s2,_⟩:=some' c' q' h2
  exact h.inj _ _ _ _ _ _ _ s1 s2 h3 h4
 ·intro c q B x h1 h2 h3
  obtain⟨_,s1,s2⟩:=some' c q h1
  exact h.fzo _ _ _ _ s1 (s2 h2) h3
 ·intro i hi ⟨c,q,x,h1,h2,h3⟩
  obtain⟨_,s1,s2⟩:=some' c q h1
  exact⟨c,_,x,s1,s2 h2,h3⟩
 ·intro c q h1 h2
  rcases old c q h1 with⟨rfl,rfl⟩|⟨_,h1⟩
  ·rw[ho']at h2;cases h2
  ·exact h1
 ·intro c q h1
  obtain⟨_,s1,_⟩:=some' c q h1
  exact .inl ⟨_,s1⟩
def Au:AV→AV→Option (List Prop)
 |.vint k a,.vint k' b=>bif decide (k=k')then some [a=b]else none
 |.int k a,.vint k' b=>bif decide (k=k')then some [a=b]else none
 |.vbool a,.vbool b=>some [a=b]
 |.bool a,.vbool b=>some [a=b]
 |.ro n z r,.ro n' z' r'=>bif Nat.beq z z' then some [n=n'∧r=r']else none
 |.nils,.ro n _ _=>some [n=0]
 |_,_=>none
theorem NY {γ:Gm}{x y:AV}{ms:List Prop}(h:Au x y=some ms)(hm:∀p∈ms,p){V:Value}(hV:aj γ x V):aj γ y V:=by
 unfold Au at h
 split at h
 ·obtain⟨h1,h2⟩:=ay h
  cases h2
  have:=aA hm
  have h1:=ea h1
  subst this;subst h1;exact hV
 ·obtain⟨h1,h2⟩:=ay h
  cases h2
  have:=aA hm
  have h1:=ea h1
  subst this;subst h1;cases hV;exact .vint _ _
 ·cases h
  have:=aA hm
  subst this;exact hV
 ·cases h
  have:=aA hm
  subst this;cases hV;exact .vbool _
 ·obtain⟨h1,h2⟩:=ay h
  cases h2
  obtain⟨rfl,rfl⟩:=aA hm
  have h1:=aM h1
  subst h1;exact hV
 ·cases h
  have:=aA hm
  subst this
  cases hV
  exact .ro (.sl0 _ _ _ _ rfl)
 ·cases h
def qt:List AV→List AV→Option (List Prop)
 |[],[]=>some []
 |v::vs,u::us=>match Au v u with
  |none=>none
  |some m1=>match qt vs us with
   |none=>none
   |some m2=>some (m1++m2)
 |_,_=>none
theorem C2 {γ:Gm}:∀{xs ys:List AV}{ms:List Prop},qt xs ys=some ms→(∀p∈ms,p)→∀{Vs:List Value},ap γ xs Vs→ap γ ys Vs
 |[],[],ms,h,hm,Vs,hV=>hV
 |[],_::_,ms,h,hm,Vs,hV=>by simp[qt]at h
 |_::_,[],ms,h,hm,Vs,hV=>by simp[qt]at h
 |v::vs,u::us,ms,h,hm,Vs,hV=>by
  simp only[qt]at h
  split at h
  ·cases h
  ·rename_i m1 h1
   split at h
   ·cases h
   ·rename_i m2 h2
    cases h
    cases hV with|cons a b=>
    exact .cons (NY h1 (fun p hp=>hm p (lE _ hp)) a) (C2 h2 (fun p hp=>hm p (jo _ hp)) b)
def R8:(τ:ae)→List AV→Option τ.car
 |.con,[a,b,c,d,e]=>match clr a,clr b,clr c,clr d,clr e with
  |.int _ a,.int _ b,.int _ c,.bool d,.int _ e=>some ⟨a,b,c,d,e⟩
  |_,_,_,_,_=>none
 |.num _,[a]=>match clr a with
  |.int _ n=>some n
  |_=>none
 |.loc,[a,u]=>match clr a,u with
  |.int _ a,.ro n _ row=>some ⟨a,aF n row⟩
  |.int _ a,.nils=>some ⟨a,[]⟩
  |_,_=>none
 |.gen,[a,b,u]=>match clr a,clr b,u with
  |.int _ a,.int _ b,.ro n _ row=>some ⟨a,b,cn n row⟩
  |.int _ a,.int _ b,.nils=>some ⟨a,b,[]⟩
  |_,_,_=>none
 |.list τ,[u]=>match u with
  |.ro n _ row=>some (eX τ n row)
  |.nils=>some []
  |_=>none
 |_,_=>none
def EU (τ:ae):Nat→List AV→Option (List τ.car)
 |_,[]=>some []
 |0,_=>none
 |f+1,v::vs=>match R8 τ ((v::vs).take τ.sz)with
  |none=>none
  |some c=>match EU τ f ((v::vs).drop τ.sz)with
   |none=>none
   |some L=>some (c::L)
def sL (ti:Tr TypeInfo)(conT t0:Nat)(s:AV)(H:Hs):Option (AV×Hs):=match s with
 |.slc b 0 n c=>bif Nat.beq n c then(match bN ti t0 with
  |some (.slice e)=>match nZ ti conT 6 e with
   |none=>none
   |some τ=>match H.m.get b with
    |none=>none
    |some k=>bif k.own&&!k.opn then(match EU τ k.cells.length k.cells with
     |none=>none
     |some L=>match qt k.cells (ce τ L)with
      |none=>none
      |some ms=>match H.m.set b (some ⟨pK τ L,k.elem,k.sz,true,true⟩)with
       |none=>none
       |some m'=>some (.lo b n,{H with m:=m',ms:=ms++H.ms}))else none
  |_=>none)else none
 |_=>none
theorem NZ {ti:Tr TypeInfo}{conT t0:Nat}{s s':AV}{H H':Hs}(hq:sL ti conT t0 s H=some (s',H')):∀p∈H.ms,p∈H'.ms:=by
 unfold sL at hq
 split at hq
 ·replace hq:=(ay hq).2
  split at hq
  ·split at hq
   ·cases hq
   ·split at hq
    ·cases hq
    ·replace hq:=(ay hq).2
     split at hq
     ·cases hq
     ·split at hq
      ·cases hq
      ·split at hq
       ·cases hq
       ·cases hq;exact fun p hp=>jo _ hp
  ·cases hq
 ·cases hq
theorem N0 {ti:Tr TypeInfo}{conT t0:Nat}{γ:Gm}{H H':Hs}{w:World}(hr:aJ γ H.m.get H.nx w){s s':AV}{S:Value}(hs:aj γ s S)(hq:sL ti conT t0 s H=some (s',H'))(hm:∀p∈H'.ms,p):
 be γ H.m.get w γ H'.m.get H'.nx w∧aj γ s' S∧H'.nx=H.nx:=by
 unfold sL at hq
 split at hq
 ·rename_i b n c
  obtain⟨hnc,hq'⟩:=ay hq
  clear hq
  have hnc:=aM hnc
  subst hnc
  split at hq'
  ·split at hq'
   ·cases hq'
   ·rename_i τ hτ
    split at hq'
    ·cases hq'
    ·rename_i k hk
     obtain⟨ho,hq⟩:=ay hq'
     clear hq'
     simp only[bj,mp]at ho
     split at hq
     ·cases hq
     ·rename_i L hL
      split at hq
      ·cases hq
      ·rename_i ms hms
       split at hq
       ·cases hq
       ·rename_i m' hset
        cases hq
        have s1:=aJ.cast (k':=⟨pK τ L,k.elem,k.sz,true,true⟩) hr hk ho.1 rfl (.inl ho.2) rfl (fun cs hcs=>by
         show ap γ (pK τ L).cells cs
         rw[Dv]
         exact C2 hms (fun p hp=>hm p (lE _ hp)) hcs)
        rw[←ej hset]at s1
        refine⟨s1,?_,rfl⟩
        cases hs with
        |slc _ _ _ hg=>exact .lo _ hg
  ·cases hq'
 ·cases hq
theorem Mu {τ:ae}(c:Nat)(L:List τ.car):(ce τ L).take (c*τ.sz)=ce τ (List.take (α:=τ.car) c L):=by
 have h1:ce τ L=ce τ (List.take (α:=τ.car) c L)++ce τ (List.drop (α:=τ.car) c L):=by
  unfold ce
  rw[←kQ,ou]
 by_cases hc:c≤L.length
 ·rw[h1,rA (by rw[jN,rE];exact iT _ om),iS (by rw[jN,rE];exact iT _ om)]
 ·rw[iS (i:=c) (l:=L) om,iS (by rw[jN];exact iT _ om)]
def sM (ti:Tr TypeInfo)(conT t0 t1:Nat)(s x:AV)(H:Hs):Option (AV×Hs):=match s with
 |.ls b 0 z' c true=>match bN ti t0 with
  |some (.slice e)=>match cC ti e,lP ti e,jc ti e,nZ ti conT 6 e with
   |some z,some by_,some zs,some τ=>bif !(Nat.beq zs.length z&&Nat.beq z τ.sz&&Nat.ble by_ 1000&&Nat.beq z' z)then none else
    match H.m.get b with
    |none=>none
    |some k=>match pu τ k.view with
     |none=>none
     |some M=>match wG ti H.m τ e t1 x with
      |none=>none
      |some (n,L,h1,ms)=>match h1.set H.nx (some ⟨.vals τ (List.take (α:=τ.car) c M++L),e,z,true,true⟩)with
       |none=>none
       |some m=>some (.lo H.nx (c+n),{H with m:=m,nx:=H.nx+1,ms:=(c≤List.length (α:=τ.car) M∧0<n∧c+n≤1000000)::(ms++H.ms)})
   |_,_,_,_=>none
  |_=>none
 |_=>none
theorem N1 {ti:Tr TypeInfo}{conT t0 t1:Nat}{u y v:AV}{H H':Hs}(hq:sM ti conT t0 t1 u y H=some (v,H')):∀p∈H.ms,p∈H'.ms:=by
 unfold sM at hq
 split at hq
 ·split at hq
  ·split at hq
   ·rename_i z by_ zs τ _ _ _ _
    cases hb:(!(Nat.beq zs.length z&&Nat.beq z τ.sz&&Nat.ble by_ 1000&&Nat.beq _ z))with
    |true=>rw[hb]at hq;cases hq
    |false=>
     rw[hb]at hq
     simp only[bt]at hq
     split at hq
     ·cases hq
     ·split at hq
      ·cases hq
      ·split at hq
       ·cases hq
       ·split at hq
        ·cases hq
        ·cases hq;exact fun p hp=>fk _ (jo _ hp)
   ·cases hq
  ·cases hq
 ·cases hq
section
variable {P:Program}{ti:Tr TypeInfo}(ht:dL P ti)
include ht in
theorem N2 {conT:Nat}{γ:Gm}{H H':Hs}{w:World}(hr:aJ γ H.m.get H.nx w){t0 t1:Nat}{s x v:AV}{S X:Value}(hs:aj γ s S)(hx:aj γ x X)
 (hq:sM ti conT t0 t1 s x H=some (v,H'))(hm:∀p∈H'.ms,p){ts:Array TypeId}{args:Array Value}(ty:TypeId)(ht0:ts[0]? =some t0)(ht1:ts[1]? =some t1)(ha0:args[0]? =some S)(ha1:args[1]? =some X):
 ∃V γ' w',(Builtin.append_ ts ty args).run P w=.ok V w'∧be γ H.m.get w γ' H'.m.get H'.nx w'∧aj γ' v V∧(∀j,j≠H.nx→γ' j=γ j)∧H'.nx=H.nx+1:=by
 rw[rL]
 unfold sM at hq
 split at hq
 case h_2=>cases hq
 rename_i b z' c
 split at hq
 case h_2=>cases hq
 rename_i e hd
 have hu:P.underlying t0=some (.slice e):=il ht hd
 split at hq
 case h_2=>cases hq
 rename_i z by_ zs τ hz hby hzs hτ
 obtain⟨inf,Z,g1,g2,g3⟩:=mC (P:=P) (γ:=γ) ht hzs
 obtain⟨inf',q1,q2⟩:=kg ht hz
 rw[g1]at q1
 cases q1
 have hbytes:inf.bytes=by_:=nr ht hby g1
 cases hzl:(!(Nat.beq zs.length z&&Nat.beq z τ.sz&&Nat.ble by_ 1000&&Nat.beq z' z))with
 |true=>rw[hzl]at hq;cases hq
 |false=>
  rw[hzl]at hq
  simp only[bt]at hq
  have hzl':(Nat.beq zs.length z&&Nat.beq z τ.sz&&Nat.ble by_ 1000&&Nat.beq z' z)=true:=by simpa using hzl
  obtain⟨hz0,hz4⟩:=bB hzl'
  obtain⟨hz2,hb1⟩:=bB hz0
  obtain⟨hz1,hz3⟩:=bB hz2
  have hz1:=aM hz1
  have hz3:=aM hz3
  have hb1:=aT hb1
  subst hz3
  have hZ:Z.cells.size=τ.sz:=by have:=g3.length;simp at this;omega
  have bytesOk:∀m,m≤1000000→m*inf.bytes≤140737488355328:=by
   intro m hm'
   rw[hbytes]
   have:m*by_≤1000000*1000:=mr hm' hb1
   omega
  split at hq
  ·cases hq
  ·rename_i k hk
   split at hq
   ·cases hq
   ·rename_i M hM
    split at hq
    ·cases hq
    ·rename_i n L h1 ms hsrc
     split at hq
     ·cases hq
     ·rename_i m hset
      cases hq
      obtain⟨hcM,h0,hle⟩:=hm (c≤List.length (α:=τ.car) M∧0<n∧c+n≤1000000) si
      obtain⟨γ1,hF,so,hnL⟩:=vn ht hr hz hx hsrc (fun p hp=>hm p (by simp[hp])) ht1
      have hr1:=hF.stp.rel
      have hcells:k.cells=ce τ M:=rZ hM
      cases hs with
      |ls _ _ _ hg ha hc he=>
       rename_i B x cap a
       have he:=he rfl
       subst he
       obtain⟨Vs,p1,p2,p3⟩:=hr.load hk hg 0 (cap*τ.sz) (by rw[hcells,jN,gF];exact iT _ hcM)
       rw[oB,hcells,Mu]at p1
       have hO:(Builtin.firstCells τ.sz cap (.slice a cap cap)).run P w.drew=.ok Vs.toArray w.drew:=by
        by_cases hc0:cap=0
        ·subst hc0
         have:Vs=[]:=kP (by rw[p2,kV])
         subst this
         cases a<;>simp[Builtin.firstCells,loadCells,loadCellsFrom]
        ·have ha:=ha (kR hc0)
         rw[kV]at ha
         subst ha
         refine run_firstCells_some (P:=P) w.drew τ.sz cap _ _ _ _ p2 (fun j v hv=>?_)
         have:=p3 j v hv
         rw[dl]at this⊢
         have hw':w.drew.heap=w.heap:=rfl
         simpa [World.cell?,hw']using this
       obtain⟨zeros,news,c1,c2,c3,c4,c5⟩:=so.ex
       obtain⟨W,γ',w',r1,r2,r3,r4⟩:=p9 (P:=P) (olds:=ce τ (List.take (α:=τ.car) cap M)) (Olds:=Vs) hr1 (f1:=h1.get) (fun _ _ h=>h) (i:=H.nx) (nx':=H.nx+1) (hr1.fresh _ (bp _)) om om ht0 ha0 ha1 hu g1 q2 g2 hZ c1 c2 (c3 w.drew rfl) hO om om (bytesOk _ om) (p1.mono hF.stp.le) c4
       refine⟨W,γ',w',r1,hF.stp.trans ?_,?_,fun j hj=>by rw[r4 j hj];show γ1.nm j=_;rw[hF.nm],rfl⟩
       ·refine pY hset ?_ r2
        show ce τ (_++L)=_
        unfold ce
        rw[kQ]
       ·cases r3 with
        |slc _ _ _ hg'=>exact .lo _ hg'
end
def sN (ti:Tr TypeInfo)(conT t0 t1:Nat)(s x:AV)(H:Hs):Option (AV×Hs):=
 match sM ti conT t0 t1 s x H with
 |some r=>some r
 |none=>match sL ti conT t0 s H with
  |none=>none
  |some (s',H1)=>li ti conT t0 t1 s' x H1
section
variable {P:Program}{ti:Tr TypeInfo}(ht:dL P ti)
include ht in
theorem N3 {conT:Nat}{γ:Gm}{H H':Hs}{w:World}(hr:aJ γ H.m.get H.nx w){t0 t1:Nat}{s x v:AV}{S X:Value}(hs:aj γ s S)(hx:aj γ x X)
 (hq:sN ti conT t0 t1 s x H=some (v,H'))(h3ms:∀s' H1,li ti conT t0 t1 s' x H1=some (v,H')→∀p∈H1.ms,p∈H'.ms)(hm:∀p∈H'.ms,p){ts:Array TypeId}{args:Array Value}(ty:TypeId)(ht0:ts[0]? =some t0)(ht1:ts[1]? =some t1)(ha0:args[0]? =some S)(ha1:args[1]? =some X):
 ∃V γ' w',(Builtin.append_ ts ty args).run P w=.ok V w'∧be γ H.m.get w γ' H'.m.get H'.nx w'∧aj γ' v V∧(∀j,j≠H.nx→γ' j=γ j)∧H'.nx=H.nx+1:=by
 unfold sN at hq
 split at hq
 ·rename_i r hr'
  cases hq
  exact N2 ht hr hs hx hr' hm ty ht0 ht1 ha0 ha1
 ·split at hq
  ·cases hq
  ·rename_i s' H1 ho
   obtain⟨a1,a2,a3⟩:=N0 hr hs ho (fun p hp=>hm p (h3ms _ _ hq p hp))
   obtain⟨V,γ',w',r1,r2,r3,r4,r5⟩:=yO ht a1.rel a2 hx hq hm ty ht0 ht1 ha0 ha1
   exact⟨V,γ',w',r1,a1.trans r2,r3,fun j hj=>r4 j (by rw[a3];exact hj),by rw[r5,a3]⟩
end
structure cj where
 ti:Tr TypeInfo
 fs:Tr Func
 ng:Nat
 lz:Nat→Nat→Nat→Nat→Bool
 noesc:Nat
 conT:Nat
 sym:Bool
def oE (ng:Nat)(T:Tr AV):Operand→Option AV
 |.tmp t=>T.get t
 |.const v=>sX v
 |.global g=>bif Nat.blt g ng then some (.ptr g 0)else none
 |.func f=>some (.fn f [])
abbrev bq:=Nat→List AV→Hs→Option (AV×Hs)
inductive XJ where
 |quiet
 |make
 |act
def lU:Op→XJ
 |.alloc _=>.make
 |.box _ _=>.make
 |.buildSlice _ _ _=>.make
 |.makeSlice _ _ _=>.make
 |.store _ _ _=>.act
 |.call ⟨.builtin .append,_,_⟩=>.act
 |.call ⟨.builtin .copy,_,_⟩=>.act
 |.call ⟨.builtin .unsafeString,_,_⟩=>.act
 |.call ⟨.value _,_,_⟩=>.act
 |_=>.quiet
def pc:List AV→Option (List UInt8)
 |[]=>some []
 |.int .u8 n::l=>match pc l with
  |none=>none
  |some bs=>bif decide (0≤n)&&decide (n<256)then some (n.toNat.toUInt8::bs)else none
 |_=>none
def Bm (ti:Tr TypeInfo)(h:Tr ag)(pt:Nat)(p n:AV):Option (AV×Tr ag):=
 match n with
 |.int .i64 0=>match p with
  |.nilp=>some (.str .empty,h)
  |.ptr _ _=>some (.str .empty,h)
  |_=>none
 |.int .i64 l=>match p with
  |.ptr b 0=>match bN ti pt with
   |some (.pointer e)=>match cC ti e with
    |some 1=>match h.get b with
     |none=>none
     |some k=>
      bif k.own&&Nat.beq k.elem e&&decide (0<l)&&decide (l≤1000000000)&&Nat.ble l.toNat k.cells.length then
       match pc (k.cells.take l.toNat)with
       |none=>none
       |some bs=>match h.set b none with
        |none=>none
        |some h'=>some (.str ⟨bs.toArray⟩,h')
      else none
    |_=>none
   |_=>none
  |_=>none
 |_=>none
def tF (ti:Tr TypeInfo)(H:Hs)(pt b:Nat)(n:AV):Option (AV×Hs):=
 match clr n with
 |.int .i64 l=>match bN ti pt with
  |some (.pointer e)=>match cC ti e with
   |some 1=>match H.m.get b with
    |none=>none
    |some k=>match k.view with
     |.ints .u8 L=>bif k.own&&Nat.beq k.elem e&&Nat.beq k.sz 1 then(match H.m.set b none with
      |none=>none
      |some m=>some (.vstr (strOfNums L),{H with m:=m,ms:=(0<l∧l=(L.length:Int)∧l≤1000000000)::(∀x∈L,0≤x∧x<256)::H.ms}))else none
     |_=>none
   |_=>none
  |_=>none
 |_=>none
def XK:AV→Bool
 |.lo _ _=>true
 |_=>false
def wg (E:cj)(t0 t1:Nat)(u y:AV)(H:Hs):Option (AV×Hs):=
 match(match u with
  |.lo _ _=>li E.ti E.conT t0 t1 u y H
  |.z0=>li E.ti E.conT t0 t1 u y H
  |.nils=>bif E.sym||mR y then li E.ti E.conT t0 t1 u y H else none
  |.slc b _ n c=>bif(E.sym||mR y)&&Nat.beq n 0&&Nat.beq c 0&&(mR y||XK y)then(match H.m.get b with
   |none=>none
   |some k=>bif k.opn then none else li E.ti E.conT t0 t1 .z0 y H)else none
  |_=>none)with
 |some r=>some r
 |none=>match A5 E.ti H.m H.nx t0 t1 u y with
  |none=>bif E.sym then sN E.ti E.conT t0 t1 u y H else none
  |some (v,m)=>some (v,{H with m:=m,nx:=H.nx+1})
def tG (y:AV)(H:Hs):Option (AV×Hs):=match y with
 |.slc b 0 m c=>match H.m.get b with
  |none=>none
  |some k=>match k.view with
   |.con L=>bif k.own&&k.opn&&Nat.beq k.sz 5 then(match H.m.set b none with
    |none=>none
    |some m1=>match m1.set H.nx (some ⟨.con (L.take m),k.elem,k.sz,true,true⟩)with
     |none=>none
     |some m2=>some (.lo H.nx m,⟨m2,H.nx+1,H.tp,(m≤c∧c=L.length)::H.ms⟩))else none
   |_=>none
 |_=>none
def vt (E:cj)(t:Nat)(u y:AV)(H:Hs):Option Hs:=
 match u with
 |.lp _ _ _ _=>match zy E.ti H.m t u y with
  |none=>none
  |some (m,ms)=>some {H with m:=m,ms:=ms++H.ms}
 |_=>match tG y H with
  |some (y',H')=>match vz E.ti H'.m t u y' with
   |none=>none
   |some m=>some {H' with m:=m}
  |none=>match vz E.ti H.m t u y with
   |none=>none
   |some m=>some {H with m:=m}
def pk (fs:Tr Func)(g:Nat):Bool:=match fs.get g with
 |none=>false
 |some _=>true
def pn (E:cj)(call:bq)(ρ:Operand→Option AV)(op:Op)(H:Hs):Option (AV×Hs):=
 match op with
 |.store t x v=>match ρ x with
  |none=>none
  |some u=>match ρ v with
   |none=>none
   |some y=>match vt E t u y H with
    |none=>none
    |some H'=>some (.tup [],H')
 |.call ⟨.builtin .append,⟨[s,x]⟩,⟨[t0,t1]⟩⟩=>match ρ s with
  |none=>none
  |some u=>match ρ x with
   |none=>none
   |some y=>wg E t0 t1 u y H
 |.call ⟨.builtin .copy,⟨[d,x]⟩,⟨t0::_⟩⟩=>match ρ d with
  |none=>none
  |some u=>match ρ x with
   |none=>none
   |some y=>match AI E.ti H.m t0 u y with
    |none=>none
    |some (v,m)=>some (v,{H with m:=m})
 |.call ⟨.builtin .unsafeString,⟨[p,n]⟩,⟨[pt,_]⟩⟩=>match ρ p with
  |none=>none
  |some u=>match ρ n with
   |none=>none
   |some y=>match u with
    |.lp b 0 1 0=>tF E.ti H pt b y
    |_=>match Bm E.ti H.m pt u y with
     |none=>none
     |some (v,m)=>some (v,{H with m:=m})
 |.call ⟨.value f,⟨args⟩,_⟩=>match ρ f with
  |some (.fn g caps)=>match ma ρ args with
   |none=>none
   |some vs=>bif Nat.beq g E.noesc&&pk E.fs g then(match vs,caps with|[v],[]=>some (v,H)|_,_=>none)else call g (vs++caps) H
  |_=>none
 |_=>none
def IS (sy:Bool)(op:Op)(v:AV):AV:=bif sy then v else match op with
 |.call ⟨.builtin .len,_,_⟩=>clr v
 |_=>v
def nn (sy:Bool)(ti:Tr TypeInfo)(lz:Nat→Nat→Nat→Nat→Bool)(h:Tr ag)(ρ:Operand→Option AV)(op:Op)(ty:Nat):Option (AV×List Prop):=
 match rh ti lz h ρ op ty with
 |none=>none
 |some (v,ms)=>some (IS sy op v,ms)
theorem QW {γ:Gm}{v:AV}{V:Value}(h:aj γ v V)(sy:Bool)(op:Op):aj γ (IS sy op v) V:=by
 cases sy with
 |true=>exact h
 |false=>
  show aj γ (match op with
   |.call ⟨.builtin .len,_,_⟩=>clr v
   |_=>v) V
  split
  ·exact h.clr
  ·exact h
theorem GJ {P:Program}{ti:Tr TypeInfo}(ht:dL P ti){lz:Nat→Nat→Nat→Nat→Bool}(hlz:qy P lz){sy:Bool}{γ:Gm}{h:Tr ag}{nx:Nat}{w:World}(hr:aJ γ h.get nx w){ρ:Operand→Option AV}{R:Operand→Value}(hρ:∀x v,ρ x=some v→aj γ v (R x)){o:Oper}{v:AV}{ms:List Prop}
 (hq:nn sy ti lz h ρ o.op o.type=some (v,ms))(hm:∀p∈ms,p):∃V,(execOp R o).run P w=.ok (.value V) w∧aj γ v V:=by
 unfold nn at hq
 split at hq
 ·cases hq
 ·rename_i u ms' hu
  cases hq
  obtain⟨V,h1,h2⟩:=Sw ht hlz hr hρ hu hm
  exact⟨V,h1,QW h2 _ _⟩
def ta (E:cj)(call:bq)(ρ:Operand→Option AV)(op:Op)(ty:Nat)(H:Hs):Option (AV×Hs):=
 match lU op with
 |.quiet=>match nn E.sym E.ti E.lz H.m ρ op ty with
  |none=>none
  |some (v,ms)=>some (v,H.must ms)
 |.make=>match B6 E.ti E.conT ρ op H.nx with
  |none=>none
  |some (v,k,ms)=>match H.m.set H.nx (some k)with
   |none=>none
   |some m=>some (v,{H with m:=m,nx:=H.nx+1,ms:=ms++H.ms})
 |.act=>pn E call ρ op H
def pd (ops:Array Oper)(N:Nat)(T:Tr AV)(j:Nat):Option Bool:=
 match ops[j]? with
 |none=>none
 |some o=>match o.dst with
  |none=>none
  |some d=>bif Nat.blt d N then(match T.get d with|some (.bool b)=>some b|some (.vbool b)=>some b|_=>none)else none
def gW (ops:Array Oper)(N:Nat)(T:Tr AV)(o:Oper):Bool:=
 match o.guard with
 |none=>true
 |some (j,want)=>match pd ops N T j with
  |none=>false
  |some b=>bif want then b else !b
def qA (ops:Array Oper)(T:Tr AV)(o:Oper):Bool:=
 match o.guard with
 |none=>true
 |some (j,_)=>match ops[j]? with
  |none=>true
  |some oj=>match oj.dst with
   |none=>true
   |some d=>match T.get d with
    |none=>false
    |some _=>true
def QX (ops:Array Oper)(d:Nat):Bool:=
 ops.toList.any fun o=>match o.guard with
  |none=>false
  |some (j,_)=>match ops[j]? with
   |none=>false
   |some oj=>match oj.dst with
    |none=>false
    |some d'=>Nat.beq d d'
def qd (ops:Array Oper):Option Nat→Bool
 |none=>false
 |some d=>QX ops d
def nG (g:Bool)(v:AV)(tp:List Bool):AV×List Bool×List Prop:=
 match v with
 |.vbool b=>bif g then(match tp with
  |[]=>(.bool true,[],[aa b true])
  |d::tp=>(.bool d,tp,[aa b d]))else(v,tp,[])
 |_=>(v,tp,[])
def iu (N:Nat)(T:Tr AV)(dst:Option Nat)(v:AV):Option (Tr AV):=
 match dst with
 |none=>some T
 |some d=>bif Nat.blt d N then T.set d (some v)else none
def mN (E:cj)(call:bq)(all:Array Oper)(N:Nat):List Oper→Tr AV→Hs→Option (Tr AV×Hs)
 |[],T,H=>some (T,H)
 |o::l,T,H=>
  bif qA all T o then
   bif gW all N T o then
    match ta E call (oE E.ng T) o.op o.type H with
    |none=>none
    |some (v,H')=>match nG (qd all o.dst) v H'.tp with
     |(u,tp,ms)=>match iu N T o.dst u with
      |none=>none
      |some T'=>mN E call all N l T' {H' with tp:=tp,ms:=ms++H'.ms}
   else
    match iu N T o.dst (.tup [])with
    |none=>none
    |some T'=>mN E call all N l T' H
  else none
mutual
def tH:AV→AV→Bool
 |.bool a,.bool b=>a==b
 |.int k a,.int k' b=>decide (k=k')&&decide (a=b)
 |.str a,.str b=>decide (a=b)
 |.ptr a b,.ptr c d=>Nat.beq a c&&Nat.beq b d
 |.nilp,.nilp=>true
 |.slc a b c d,.slc a' b' c' d'=>Nat.beq a a'&&Nat.beq b b'&&Nat.beq c c'&&Nat.beq d d'
 |.nils,.nils=>true
 |.emp,.emp=>true
 |.zer,.zer=>true
 |.fn f vs,.fn g us=>Nat.beq f g&&lZ vs us
 |.nilfn,.nilfn=>true
 |.ifc t v,.ifc u x=>Nat.beq t u&&tH v x
 |.nilif,.nilif=>true
 |.agg vs,.agg us=>lZ vs us
 |.tup vs,.tup us=>lZ vs us
 |.z0,.z0=>true
 |.vnum k,.vnum k'=>decide (k=k')
 |.verr a,.verr b=>a==b
 |_,_=>false
def lZ:List AV→List AV→Bool
 |[],[]=>true
 |v::vs,u::us=>tH v u&&lZ vs us
 |_,_=>false
end
mutual
def po:AV→AV→Option (List Prop)
 |.vint k a,.vint k' b=>bif decide (k=k')then some [a=b]else none
 |.int k a,.vint k' b=>bif decide (k=k')then some [a=b]else none
 |.vint k a,.int k' b=>bif decide (k=k')then some [a=b]else none
 |.vbool a,.vbool b=>some [a=b]
 |.vbool a,.bool b=>some [a=b]
 |.bool a,.vbool b=>some [a=b]
 |.verr a,.verr b=>some [a=b]
 |.vstr a,.vstr b=>some [a=b]
 |.str a,.vstr b=>some [a=b]
 |.ro n z r,.ro n' z' r'=>bif Nat.beq z z' then some [n=n'∧r=r']else none
 |.rp cs j,.rp cs' j'=>bif Nat.beq j j' then some [cs=cs']else none
 |.lo b n,.lo b' n'=>bif Nat.beq b b' then some [n=n']else none
 |.lp b i z j,.lp b' i' z' j'=>bif Nat.beq b b'&&Nat.beq z z'&&Nat.beq j j' then some [i=i']else none
 |.ls b o z n e,.ls b' o' z' n' e'=>bif Nat.beq b b'&&Nat.beq z z'&&(e==e')then some [o=o'∧n=n']else none
 |.agg vs,.agg us=>nH vs us
 |.tup vs,.tup us=>nH vs us
 |.fn f vs,.fn g us=>bif Nat.beq f g then nH vs us else none
 |x,y=>bif tH x y then some []else none
def nH:List AV→List AV→Option (List Prop)
 |[],[]=>some []
 |v::vs,u::us=>match po v u with
  |none=>none
  |some m1=>match nH vs us with
   |none=>none
   |some m2=>some (m1++m2)
 |_,_=>none
end
def lk:List Oper→Nat→Tr Nat→Tr Nat
 |[],_,A=>A
 |o::l,i,A=>
  lk l (i+1) (Tr.setF 40 A i (some (o.after.toList.foldl (fun s e=>bif Region.binds .any e then s|||(2^e.on)|||((A.get e.on).getD 0)else s) 0)))
def jg (ops:List Oper):Tr Nat:=lk ops 0 .nil
def cA (A:Tr Nat)(j i:Nat):Bool:=match A.get j with
 |none=>false
 |some m=>m.testBit i
def Ad (all:Array Oper)(A:Tr Nat)(oi:Oper)(i:Nat)(oj:Oper)(j:Nat):Bool:=
 oi.apart all oj||(cA A j i&&(match oi.dst,oj.dst with|some d,some e=>!Nat.beq d e|_,_=>true))
def sn (all:Array Oper)(A:Tr Nat)(oj:Oper)(j:Nat):List Oper→Nat→Bool
 |[],_=>true
 |oi::l,i=>bif Nat.blt i j then Ad all A oi i oj j&&sn all A oj j l (i+1)else true
def vu (all:Array Oper)(ops:List Oper)(A:Tr Nat):List Oper→Nat→Bool
 |[],_=>true
 |oj::l,j=>sn all A oj j ops 0&&vu all ops A l (j+1)
def El:Op→Bool
 |.select _ _=>false
 |_=>true
def vw:List Oper→Nat→Bool
 |[],_=>true
 |o::l,i=>o.after.toList.all (fun e=>!Region.binds .any e||Nat.blt e.on i)&&El o.op&&vw l (i+1)
def zn (all:Array Oper):Bool:=Nat.blt all.size 1000&&vw all.toList 0&&vu all all.toList (jg all.toList) all.toList 0
def lf:Op→Bool
 |.load _ _=>true
 |.slice _ _ _ _ _=>true
 |.convert _ _ _=>true
 |_=>false
structure wK where
 i:Nat
 o:Oper
 T:Tr AV
 v:AV
structure Hm where
 m:Tr ag
 nx:Nat
structure gU where
 T:Tr AV
 H:Hm
 tp:List Bool
 ms:List Prop
 last:Option Nat
 pend:List (Nat×Nat×ag)
 hist:List (Nat×Tr ag)
 seen:List wK
def l3 (A:Tr Nat)(i:Nat):List (Nat×Nat×ag)→Tr ag→Option (Tr ag×List (Nat×Nat×ag))
 |[],m=>some (m,[])
 |(j,n,k)::l,m=>
  bif cA A i j then
   match m.set n (some k)with
   |none=>none
   |some m'=>l3 A i l m'
  else
   match l3 A i l m with
   |none=>none
   |some (m',l')=>some (m',(j,n,k)::l')
def rY:List (Nat×Nat×ag)→Tr ag→Option (Tr ag)
 |[],m=>some m
 |(_,n,k)::l,m=>match m.set n (some k)with
  |none=>none
  |some m'=>rY l m'
def lw (ng:Nat)(T:Tr AV)(ts:List Nat):Operand→Option AV
 |.tmp t=>bif ts.any (fun u=>Nat.beq u t)then T.get t else none
 |x=>oE ng T x
def wh (E:cj)(all:Array Oper)(o:Oper)(T:Tr AV)(v:AV)(m:Tr ag):Option (List Prop):=
 match nn E.sym E.ti E.lz m (lw E.ng T (o.looksAt all)) o.op o.type with
 |none=>none
 |some (u,m1)=>match po u v with
  |none=>none
  |some m2=>some (m1++m2)
def qe (E:cj)(all:Array Oper)(A:Tr Nat)(i:Nat)(o:Oper)(T:Tr AV)(v:AV):List (Nat×Tr ag)→Option (List Prop)
 |[]=>some []
 |(e,m)::l=>bif cA A i e then some []else match wh E all o T v m with
  |none=>none
  |some m1=>match qe E all A i o T v l with
   |none=>none
   |some m2=>some (m1++m2)
def sG (E:cj)(all:Array Oper)(A:Tr Nat)(e:Nat)(m:Tr ag):List wK→Option (List Prop)
 |[]=>some []
 |s::l=>match(bif cA A e s.i then some []else wh E all s.o s.T s.v m)with
  |none=>none
  |some m1=>match sG E all A e m l with
   |none=>none
   |some m2=>some (m1++m2)
def tc (all:Array Oper):Bool:=all.toList.all fun o=>match lU o.op with
 |.act=>false
 |_=>true
def qK (E:cj)(call:bq)(all:Array Oper)(A:Tr Nat)(N i0:Nat)(o:Oper)(i:Nat)(s:gU):Option gU:=
 bif qA all s.T o then
  bif gW all N s.T o then
   match lU o.op with
   |.quiet=>match(bif tc all then l3 A i s.pend s.H.m else some (s.H.m,[]))with
    |none=>none
    |some (mq,_)=>match nn E.sym E.ti E.lz mq (lw E.ng s.T (o.looksAt all)) o.op o.type with
     |none=>none
     |some (v,m1)=>match nG (qd all o.dst) v s.tp with
      |(u,tp,m2)=>match(bif lf o.op then qe E all A i o s.T u s.hist else some [])with
       |none=>none
       |some m3=>match iu N s.T o.dst u with
        |none=>none
        |some T'=>some {s with T:=T',tp:=tp,ms:=m1++m2++m3++s.ms,seen:=bif lf o.op then⟨i,o,s.T,u⟩::s.seen else s.seen}
   |.make=>match pF E.ti (lw E.ng s.T (o.looksAt all)) o.op (i0+i)with
    |none=>none
    |some k=>match iu N s.T o.dst k.v with
     |none=>none
     |some T'=>some {s with T:=T',pend:=(i,i0+i,k.blk)::s.pend}
   |.act=>
    bif(match s.last with|none=>true|some e=>cA A i e)then
     match l3 A i s.pend s.H.m with
     |none=>none
     |some (m,pend)=>match pn E call (lw E.ng s.T (o.looksAt all)) o.op ⟨m,s.H.nx,s.tp,s.ms⟩with
      |none=>none
      |some (v,H')=>match nG (qd all o.dst) v H'.tp with
       |(u,tp,m2)=>match sG E all A i H'.m s.seen with
        |none=>none
        |some m3=>match iu N s.T o.dst u with
         |none=>none
         |some T'=>some {T:=T',H:=⟨H'.m,H'.nx⟩,tp:=tp,ms:=m2++m3++H'.ms,last:=some i,pend:=pend,hist:=(i,s.H.m)::s.hist,seen:=s.seen}
    else none
  else
   match iu N s.T o.dst (.tup [])with
   |none=>none
   |some T'=>some {s with T:=T'}
 else none
def nv (E:cj)(call:bq)(all:Array Oper)(A:Tr Nat)(N i0:Nat):List Oper→Nat→gU→Option gU
 |[],_,s=>some s
 |o::l,i,s=>match qK E call all A N i0 o i s with
  |none=>none
  |some s'=>nv E call all A N i0 l (i+1) s'
def qB (E:cj)(call:bq)(all:Array Oper)(N:Nat)(T:Tr AV)(H:Hs):Option (Tr AV×Hs):=
 bif zn all then
  match nv E call all (jg all.toList) N H.nx all.toList 0 ⟨T,⟨H.m,H.nx+all.size⟩,H.tp,H.ms,none,[],[],[]⟩with
  |none=>none
  |some s=>match rY s.pend s.H.m with
   |none=>none
   |some m=>some (s.T,⟨m,s.H.nx,s.tp,s.ms⟩)
 else none
inductive df where
 |normal
 |exit (id:Nat)
 |ret
structure St where
 T:List (Nat×AV)
 m:List (Nat×ag)
 nx:Nat
def aI {α:Type}:List (Nat×α)→Tr α
 |[]=>.nil
 |(i,v)::l=>(aI l).setF 40 i (some v)
structure aO where
 pre:St
 test:Option Bool
 post:Bool→df×St
def yS:b6→b6→Option (List Prop)
 |.plain cs,.plain cs'=>nH cs cs'
 |.con L,.con L'=>some [L=L']
 |.ints k L,.ints k' L'=>bif decide (k=k')then some [L=L']else none
 |.rows k L b n,.rows k' L' b' n'=>bif decide (k=k')&&Nat.beq b b' then some [L=L'∧n=n']else none
 |.vals τ L,.vals τ' L'=>match wu τ τ' L with
  |none=>none
  |some M=>some [M=L']
 |_,_=>none
def wj (k k':ag):Option (List Prop):=
 bif Nat.beq k.elem k'.elem&&Nat.beq k.sz k'.sz&&(k.opn==k'.opn)&&(k.own==k'.own)then
  (bif k'.own then yS k.view k'.view else match k.view,k'.view with
    |.plain cs,.plain cs'=>bif lZ cs cs' then some []else none
    |_,_=>none)
 else none
def wL (T:Tr AV):List (Nat×AV)→Option (List Prop)
 |[]=>some []
 |(t,v)::l=>match T.get t with
  |none=>none
  |some u=>match po u v with
   |none=>none
   |some m1=>match wL T l with
    |none=>none
    |some m2=>some (m1++m2)
def wM (m:Tr ag):List (Nat×ag)→Option (List Prop)
 |[]=>some []
 |(b,k)::l=>match m.get b with
  |none=>none
  |some k'=>match wj k' k with
   |none=>none
   |some m1=>match wM m l with
    |none=>none
    |some m2=>some (m1++m2)
def eP {α:Type}(l:List (Nat×α)):Bool:=l.all fun p=>Nat.ble p.1 Tr.top
def aO.run (A:aO)(T:Tr AV)(H:Hs):Option (df×Tr AV×Hs):=
 bif Nat.ble H.nx A.pre.nx then
  match wL T A.pre.T with
  |none=>none
  |some m1=>match wM H.m A.pre.m with
   |none=>none
   |some m2=>match(match A.test with
    |none=>(true,H)
    |some b=>H.ask b)with
    |(d,H1)=>match A.post d with
     |(e,S)=>bif eP S.T&&eP S.m&&eP A.pre.T&&eP A.pre.m then some (e,aI S.T,⟨aI S.m,S.nx,H1.tp,m1++m2++H1.ms⟩)else none
 else none
def eZ:List Nat→Code→Option Code
 |[],c=>some c
 |0::p,.seq a _=>eZ p a
 |1::p,.seq _ b=>eZ p b
 |0::p,.cond _ a _=>eZ p a
 |1::p,.cond _ _ b=>eZ p b
 |0::p,.block _ b=>eZ p b
 |0::p,.loop b=>eZ p b
 |0::p,.scope b=>eZ p b
 |_,_=>none
def tI:List Nat→List Nat→Bool
 |[],[]=>true
 |a::l,b::k=>Nat.beq a b&&tI l k
 |_,_=>false
def bb (E:cj)(call:bq)(lo:List Nat→Option aO)(N:Nat):Nat→List Nat→Code→Tr AV→Hs→Option (df×Tr AV×Hs)
 |0,_,_,_,_=>none
 |n+1,p,c,T,H=>
  match c with
  |.skip=>some (.normal,T,H)
  |.label _=>some (.normal,T,H)
  |.region _ ops false=>match mN E call ops N ops.toList T H with
   |none=>none
   |some (T',H')=>some (.normal,T',H')
  |.region _ ops true=>match qB E call ops N T H with
   |none=>none
   |some (T',H')=>some (.normal,T',H')
  |.seq a b=>match bb E call lo N n (0::p) a T H with
   |some (.normal,T',H')=>bb E call lo N n (1::p) b T' H'
   |r=>r
  |.cond x a b=>match oE E.ng T x with
   |some (.bool true)=>bb E call lo N n (0::p) a T H
   |some (.bool false)=>bb E call lo N n (1::p) b T H
   |some (.vbool u)=>match H.ask u with
    |(true,H1)=>bb E call lo N n (0::p) a T H1
    |(false,H1)=>bb E call lo N n (1::p) b T H1
   |_=>none
  |.block id b=>match bb E call lo N n (0::p) b T H with
   |some (.exit j,T',H')=>bif Nat.beq j id then some (.normal,T',H')else some (.exit j,T',H')
   |r=>r
  |.loop b=>match lo p with
   |some A=>A.run T H
   |none=>match bb E call lo N n (0::p) b T H with
    |some (.normal,T',H')=>bb E call lo N n p (.loop b) T' H'
    |r=>r
  |.scope b=>bb E call lo N n (0::p) b T H
  |.exit id=>some (.exit id,T,H)
  |.ret=>some (.ret,T,H)
  |_=>none
def n8 (ti:Tr TypeInfo)(T:Tr AV)(m:Tr ag):List ResultVar→Option (List AV)
 |[]=>some []
 |.tmp t::l=>match T.get t with
  |none=>none
  |some v=>match n8 ti T m l with
   |none=>none
   |some vs=>some (v::vs)
 |.cell a t::l=>match T.get a with
  |none=>none
  |some x=>match sY ti m t x with
   |none=>none
   |some v=>match n8 ti T m l with
    |none=>none
    |some vs=>some (v::vs)
def tJ:List AV→AV
 |[v]=>v
 |vs=>.tup vs
def iJ (E:cj)(call:bq)(lo:List Nat→Option aO)(f:Nat)(args:List AV)(H:Hs):Option (AV×Hs):=
 match E.fs.get f with
 |none=>none
 |some fn=>match fn.body with
  |none=>none
  |some c=>bif !Nat.blt args.length 1000 then none else match bb E call lo (Nat.max args.length fn.ntmps) 100000 [] c (Tr.ofList args) H with
   |some (.exit _,_,_)=>none
   |some (_,T,H')=>match n8 E.ti T H'.m fn.results.toList with
    |none=>none
    |some vs=>some (tJ vs,H')
   |none=>none
def fF:List Nat→Option aO:=fun _=>none
def ll (E:cj)(orc:bq):Nat→bq
 |0=>fun _ _ _=>none
 |n+1=>fun f args H=>
  match orc f args H with
  |some r=>some r
  |none=>iJ E (ll E orc n) fF f args H
structure eW (P:Program)(E:cj):Prop where
 ti:dL P E.ti
 fs:∀f,E.fs.get f=P.funcs[f]?
 lz:qy P E.lz
 noesc:pk E.fs E.noesc=true→∀x w,(callFunc E.noesc #[x]).run P w=.ok (.value x) w
 names:∀(f:Nat)(fn:Func),P.funcs[f]? =some fn→(fn.name== "runtime.NumGoroutine")=false
 mixed:P.follows .mixedOrders=true
def iO (ng:Nat)(γ:Gm):Prop:=∀g,g<ng→γ g=some (g,0)
structure cH (γ:Gm)(ng:Nat)(T:Tr AV)(N:Nat)(a:Act):Prop where
 defers:a.defers=[]
 size:a.tmps.size=N
 tmp:∀t v,T.get t=some v→aj γ v (a.tmps.getD t undef)
 glob:iO ng γ
structure bT (γ:Gm)(H:Hs)(w:World)(γ':Gm)(H':Hs)(w':World):Prop where
 stp:be γ H.m.get w γ' H'.m.get H'.nx w'
 nx:H.nx≤H'.nx
 keep:∀b,b<H.nx→γ' b=γ b
theorem bT.refl {γ:Gm}{H:Hs}{w:World}(h:aJ γ H.m.get H.nx w):bT γ H w γ H w:=⟨be.refl h,bp _,fun _ _=>rfl⟩
theorem bT.trans {γ γ1 γ2:Gm}{H H1 H2:Hs}{w w1 w2:World}(h:bT γ H w γ1 H1 w1)(k:bT γ1 H1 w1 γ2 H2 w2):bT γ H w γ2 H2 w2:=
 ⟨h.stp.trans k.stp,cl h.nx k.nx,fun b hb=>(k.keep b (jE hb h.nx)).trans (h.keep b hb)⟩
theorem cH.mono {γ γ':Gm}{ng:Nat}{T:Tr AV}{N:Nat}{a:Act}(h:cH γ ng T N a)(hg:γ.le γ'):cH γ' ng T N a:=
 ⟨h.defers,h.size,fun t v hv=>(h.tmp t v hv).mono hg,fun g hb=>hg.nm _ _ (h.glob g hb)⟩
noncomputable def bV (P:Program)(ng:Nat)(call:bq):Prop:=
 ∀f args H v H',call f args H=some (v,H')→(∀p∈H.ms,p∈H'.ms)∧((∀p∈H'.ms,p)→∀γ w Args,aJ γ H.m.get H.nx w→ap γ args Args→iO ng γ→
  (∃fn,P.funcs[f]? =some fn∧fn.body.isSome=true)∧
  Calls P f Args.toArray w fun e w'=>∃V γ',e=.returned V∧aj γ' v V∧bT γ H w γ' H' w')
theorem pf {γ:Gm}{ng:Nat}{T:Tr AV}{N:Nat}{a:Act}(h:cH γ ng T N a)(x:Operand)(v:AV)(hq:oE ng T x=some v):aj γ v (a.eval x):=by
 cases x with
 |tmp t=>exact h.tmp t v hq
 |const V=>exact uV γ hq
 |global g=>
  simp only[oE]at hq
  cases hb:Nat.blt g ng with
  |false=>simp[hb]at hq
  |true=>
   simp only[hb,aU,bv]at hq
   subst hq
   exact .ptr 0 (h.glob g (aT hb))
 |func f=>simp only[oE,bv]at hq;subst hq;exact .fn f .nil
theorem vL {γ:Gm}{ng:Nat}{T T':Tr AV}{N:Nat}{a:Act}(h:cH γ ng T N a){dst:Option Nat}{v:AV}{V:Value}(hv:aj γ v V)(hq:iu N T dst v=some T'):cH γ ng T' N (a.put dst V):=by
 cases dst with
 |none=>simp only[iu,bv]at hq;subst hq;exact h
 |some d=>
  simp only[iu]at hq
  cases hb:Nat.blt d N with
  |false=>simp[hb]at hq
  |true=>
   simp only[hb,aU]at hq
   have hd:d<N:=aT hb
   refine⟨h.defers,by simp[Act.put,h.size],fun t u hu=>?_,h.glob⟩
   rw[Tr.get_set hq t]at hu
   have hsz:=h.size
   by_cases e:t=d
   ·subst e
    rw[if_pos rfl]at hu
    cases hu
    simp only[Act.put]
    have:(a.tmps.setIfInBounds t V).getD t undef=V:=by
     simp[Array.getD,hsz,hd]
    rw[this];exact hv
   ·rw[if_neg e]at hu
    have:(a.put (some d) V).tmps.getD t undef=a.tmps.getD t undef:=by
     have:=Act.eval_put (a:=a) (dst:=some d) (v:=V) (x:=.tmp t) (by intro d' hd';cases hd';intro h;cases h;exact e rfl)
     exact this
    rw[this];exact h.tmp t u hu
theorem Cu {γ:Gm}{X:Value}{x:AV}(ht:aj γ x X):(match(some X:Option Value)with|some (.bool b)=>some b|_=>none)=(match(some x:Option AV)with|some (.bool b)=>some b|some (.vbool b)=>some b|_=>none):=by
 cases ht with
 |verr h=>rcases h with⟨_,rfl⟩|⟨_,_,_,rfl⟩<;>rfl
 |ro h=>cases h<;>rfl
 |_=>rfl
theorem No {γ:Gm}{ng:Nat}{T:Tr AV}{N:Nat}{a:Act}(h:cH γ ng T N a)(ops:Array Oper)(j:Nat)(hk:∀oj d,ops[j]? =some oj→oj.dst=some d→(T.get d).isSome=true):yielded ops a.tmps j=pd ops N T j:=by
 unfold yielded pd
 cases ho:ops[j]? with
 |none=>rfl
 |some o=>
  simp only[Option.bind_some]
  cases hd:o.dst with
  |none=>rfl
  |some d=>
   simp only[Option.bind_some]
   have hsz:=h.size
   obtain⟨x,hx⟩:=Option.isSome_iff_exists.1 (hk o d ho hd)
   have ht:=h.tmp d x hx
   cases hb:Nat.blt d N with
   |true=>
    have hlt:d<N:=aT hb
    have hlt':d<a.tmps.size:=by rw[hsz];exact hlt
    rw[Array.getElem?_eq_getElem hlt']
    have e:a.tmps.getD d undef=a.tmps[d]:=by simp[Array.getD,hlt']
    rw[e]at ht
    simp only[aU]
    rw[hx]
    exact Cu ht
   |false=>
    have hge:N≤d:=by
     rcases bA d N with h'|h'
     ·have:Nat.blt d N=true:=fW h'
      rw[this]at hb;cases hb
     ·exact h'
    have hge':a.tmps.size≤d:=by rw[hsz];exact hge
    rw[Array.getElem?_eq_none hge']
    rfl
theorem Eo {ops:Array Oper}{T:Tr AV}{o:Oper}(hk:qA ops T o=true){j:Nat}{want:Bool}(hg:o.guard=some (j,want)):∀oj d,ops[j]? =some oj→oj.dst=some d→(T.get d).isSome=true:=by
 intro oj d h1 h2
 unfold qA at hk
 rw[hg]at hk
 simp only[h1,h2]at hk
 cases hT:T.get d with
 |none=>rw[hT]at hk;cases hk
 |some v=>rfl
theorem Mj {γ:Gm}{ng:Nat}{T:Tr AV}{N:Nat}{a:Act}(h:cH γ ng T N a)(ops:Array Oper)(o:Oper)(hk:qA ops T o=true):Region.wanted o (yielded ops a.tmps)=gW ops N T o:=by
 unfold Region.wanted gW
 cases hg:o.guard with
 |none=>rfl
 |some p=>
  obtain⟨j,want⟩:=p
  simp only[No h ops j (Eo hk hg)]
  cases pd ops N T j with
  |none=>rfl
  |some b=>cases want<;>cases b<;>rfl
def gI (v u:AV):Prop:=∀γ V,aj γ v V→aj γ u V
theorem gI.refl (v:AV):gI v v:=fun _ _ h=>h
theorem uL {g:Bool}{v u:AV}{tp tp':List Bool}{ms:List Prop}(h:nG g v tp=(u,tp',ms))(hm:∀p∈ms,p):gI v u:=by
 unfold nG at h
 split at h
 ·rename_i b
  cases g with
  |true=>
   simp only[aU]at h
   split at h
   ·cases h
    have:b=true:=aA hm
    subst this
    intro γ V hV
    cases hV;exact .bool _
   ·cases h
    have:=show aa b _ from aA hm
    unfold aa at this
    subst this
    intro γ V hV
    cases hV;exact .bool _
  |false=>cases h;exact gI.refl _
 ·cases h;exact gI.refl _
theorem Np {γ:Gm}{vs:List AV}{Vs:List Value}(h:ap γ vs Vs){bs:List UInt8}(hq:pc vs=some bs):Vs=bs.map (fun b=>Value.int .u8 b.toNat):=by
 induction vs generalizing Vs bs with
 |nil=>cases h;simp[pc]at hq;subst hq;rfl
 |cons v vs ih=>
  cases h with
  |cons hv ht=>
   cases v<;>try(simp[pc]at hq;done)
   rename_i k n
   cases k<;>try(simp[pc]at hq;done)
   simp only[pc]at hq
   split at hq
   ·cases hq
   ·rename_i us hus
    cases hb:(decide (0≤n)&&decide (n<256))with
    |false=>simp[hb]at hq
    |true=>
     simp only[hb,aU,bv]at hq
     subst hq
     simp only[bj,ib]at hb
     cases hv
     rw[ih ht hus]
     simp only[jH]
     congr 1
     have:(n.toNat.toUInt8).toNat=n.toNat:=by
      simp[Nat.toUInt8,UInt8.toNat_ofNat']
      omega
     rw[this]
     congr 1
     omega
theorem CM {γ:Gm}{f:Hf}{nx:Nat}{w:World}(hr:aJ γ f nx w){b:Nat}{k:ag}(hb:f b=some k)(hown:k.own=true){B x:Nat}(hg:γ b=some (B,x))(o n:Nat):be γ f w γ (es f b none) nx (w.freeze ⟨B,o,none⟩ n):=by
 have hfzB:γ.fz B=none:=hr.fzo b k B x hb hown hg
 have hheap:∀i,i≠B→(w.freeze ⟨B,o,none⟩ n).heap[i]? =w.heap[i]? :=by
  intro i hi
  unfold World.freeze
  split
  ·rfl
  ·simp only[Array.getElem?_modify]
   rw[if_neg (fun e=>hi e.symm)]
 have hsz:(w.freeze ⟨B,o,none⟩ n).heap.size=w.heap.size:=by
  unfold World.freeze
  split
  ·rfl
  ·simp
 have hold:∀c kc,es f b none c=some kc→f c=some kc∧c≠b:=by
  intro c kc hc
  by_cases e:c=b
  ·subst e;rw[eU]at hc;cases hc
  ·rw[dj f _ e]at hc;exact⟨hc,e⟩
 have hdr:w.drawn≤(w.freeze ⟨B,o,none⟩ n).drawn:=by
  unfold World.freeze
  split<;>exact bp _
 have hos:(w.freeze ⟨B,o,none⟩ n).os=w.os∧(w.freeze ⟨B,o,none⟩ n).tape=w.tape∧(w.freeze ⟨B,o,none⟩ n).output=w.output:=by
  unfold World.freeze
  split<;>exact⟨rfl,rfl,rfl⟩
 refine⟨Gm.le_refl γ,⟨?_,?_,hr.fresh,?_,?_⟩,by rw[hsz];omega,hos.1,hos.2.1,hos.2.2,?_,?_,?_,?_,fun _ _ h=>.inl h,hdr⟩
 ·intro c kc hc
  obtain⟨h1,h2⟩:=hold c kc hc
  obtain⟨B2,x2,cs2,ex2,q1,q2,q3⟩:=hr.blk c kc h1
  refine⟨B2,x2,cs2,ex2,q1,?_,q3⟩
  rw[hheap B2 (fun e2=>h2 (hr.inj c b kc k B x2 x h1 hb (by rw[←e2];exact q1) hg))]
  exact q2
 ·intro c c' kc kc' B1 y y' q1 q2 q3 q4
  exact hr.inj _ _ _ _ _ _ _ (hold _ _ q1).1 (hold _ _ q2).1 q3 q4
 ·intro B' y hB'
  rw[hheap B' (fun e=>by rw[e,hfzB]at hB';cases hB')]
  exact hr.fzr B' y hB'
 ·intro c kc B' y hc ho hg'
  exact hr.fzo c kc B' y (hold _ _ hc).1 ho hg'
 ·intro i hi hni
  exact hheap i (fun e=>hni (e▸⟨b,k,x,hb,hown,hg⟩))
 ·intro i hi ⟨c,kc,y,q1,q2,q3⟩
  exact⟨c,kc,y,(hold _ _ q1).1,q2,q3⟩
 ·intro c kc hc ho
  exact(hold _ _ hc).1
 ·intro c kc hc
  exact .inl ⟨kc,(hold _ _ hc).1⟩
theorem Q3 {P:Program}{ti:Tr TypeInfo}(ht:dL P ti){γ:Gm}{h h':Tr ag}{nx:Nat}{w:World}(hr:aJ γ h.get nx w){pt it ty:Nat}{p n v:AV}{X Y:Value}(hx:aj γ p X)(hy:aj γ n Y)(hq:Bm ti h pt p n=some (v,h')):
 ∃V w',(Builtin.unsafeString_ #[pt,it] ty #[X,Y]).run P w=.ok V w'∧be γ h.get w γ h'.get nx w'∧aj γ v V:=by
 unfold Bm at hq
 split at hq
 ·cases hy
  split at hq
  ·cases hq;cases hx
   exact⟨_,w,Lib.run_unsafeString_none w pt it ty none,be.refl hr,.str _⟩
  ·cases hq
   cases hx
   exact⟨_,w,Lib.run_unsafeString_none w pt it ty _,be.refl hr,.str _⟩
  ·cases hq
 ·rename_i l hl0
  cases hy
  split at hq
  ·rename_i b
   cases hx with
   |ptr _ hg=>
    rename_i B x
    split at hq
    ·rename_i e hd
     split at hq
     ·rename_i hs
      split at hq
      ·cases hq
      ·rename_i k hk
       cases hb:(k.own&&Nat.beq k.elem e&&decide (0<l)&&decide (l≤1000000000)&&Nat.ble l.toNat k.cells.length)with
       |false=>simp[hb]at hq
       |true=>
        simp only[hb,aU]at hq
        simp only[bj,ib]at hb
        obtain⟨⟨⟨⟨b1,b2⟩,b3⟩,b4⟩,b5⟩:=hb
        have b2:=aM b2
        have b5:=aT b5
        split at hq
        ·cases hq
        ·rename_i bs hbs
         split at hq
         ·cases hq
         ·rename_i h2 hset
          cases hq
          obtain⟨Vs,p1,p2,p3⟩:=hr.load hk hg 0 l.toNat om
          rw[oB]at p1
          have hVs:=Np p1 hbs
          have hbl:bs.length=l.toNat:=by rw[←p2,hVs];simp
          obtain⟨inf,i1,i2⟩:=kg ht hs
          obtain⟨B',x',cs,ex,g1,g2,g3,g4,g5⟩:=hr.blk b k hk
          rw[hg]at g1
          cases g1
          have hcl:=g3.length
          have hrun:=Lib.run_unsafeString_row (P:=P) w pt it ty e (il ht hd) (by simp[Program.cellsOf,i1,i2]) B (cs++ex).length (by simp[World.shape?,g2,b2]) bs (by intro e0;rw[e0]at hbl;simp at hbl;omega) (by simp;omega) om (fun j u hu=>by
           refine p3 j _ ?_
           rw[hVs,mo,hu];rfl)
          have hl2:(bs.length:Int)=l:=by omega
          rw[hl2]at hrun
          refine⟨_,_,hrun,?_,.str _⟩
          rw[ej hset]
          exact CM hr hk b1 hg 0 _
     ·cases hq
    ·cases hq
  ·cases hq
 ·cases hq
theorem Ep {γ:Gm}{k:IntKind}:∀{L:List Int}{Vs:List Value},ap γ (L.map (AV.vint k)) Vs→Vs=L.map (Value.int k)
 |[],_,h=>by cases h;rfl
 |x::L,_,h=>by
  cases h with
  |cons h t=>cases h;rw[Ep t];rfl
theorem Q4 {ti:Tr TypeInfo}{H H':Hs}{pt b:Nat}{n v:AV}(hq:tF ti H pt b n=some (v,H')):∀p∈H.ms,p∈H'.ms:=by
 intro p hp
 unfold tF at hq
 split at hq
 ·split at hq
  ·split at hq
   ·split at hq
    ·cases hq
    ·split at hq
     ·replace hq:=(ay hq).2
      split at hq
      ·cases hq
      ·cases hq;simp[hp]
     ·cases hq
   ·cases hq
  ·cases hq
 ·cases hq
theorem Q5 {P:Program}{ti:Tr TypeInfo}(ht:dL P ti){γ:Gm}{H H':Hs}{w:World}(hr:aJ γ H.m.get H.nx w){pt it ty b:Nat}{n v:AV}{X Y:Value}(hx:aj γ (.lp b 0 1 0) X)(hy:aj γ n Y)(hq:tF ti H pt b n=some (v,H'))(hm:∀p∈H'.ms,p):
 ∃V w',(Builtin.unsafeString_ #[pt,it] ty #[X,Y]).run P w=.ok V w'∧be γ H.m.get w γ H'.m.get H'.nx w'∧aj γ v V∧H'.nx=H.nx:=by
 have hy:=hy.clr
 unfold tF at hq
 split at hq
 ·rename_i l hl0
  rw[hl0]at hy
  cases hy
  split at hq
  ·rename_i e hd
   split at hq
   ·rename_i hs
    split at hq
    ·cases hq
    ·rename_i k hk
     split at hq
     ·rename_i L hL
      obtain⟨hb,hq'⟩:=ay hq
      clear hq
      obtain⟨hb,hb3⟩:=bB hb
      obtain⟨hown,hb2⟩:=bB hb
      have hb2:=aM hb2
      split at hq'
      ·cases hq'
      ·rename_i m hset
       cases hq'
       have h1:0<l∧l=(L.length:Int)∧l≤1000000000:=hm _ si
       have h2:∀x∈L,0≤x∧x<256:=hm (∀x∈L,0≤x∧x<256) si
       obtain⟨g0,g1,g2⟩:=h1
       generalize hX:X=X' at hx
       cases hx with
       |lp _ _ _ hg=>
        rename_i B x
        have hcells:k.cells=L.map (AV.vint .u8):=by unfold ag.cells;rw[hL];rfl
        obtain⟨Vs,p1,p2,p3⟩:=hr.load hk hg 0 L.length (by rw[hcells];simp)
        rw[oB,iS (by rw[hcells];simp),hcells]at p1
        have hVs:=Ep p1
        obtain⟨inf,i1,i2⟩:=kg ht hs
        obtain⟨B',x',cs,ex,q1,q2,q3,q4,q5⟩:=hr.blk b k hk
        rw[hg]at q1
        cases q1
        have hcl:=q3.length
        rw[hcells,jG]at hcl
        have hrun:=Lib.run_unsafeString_row (P:=P) w pt it ty e (il ht hd) (by simp[Program.cellsOf,i1,i2]) B (cs++ex).length (by simp[World.shape?,q2,hb2]) (L.map fun n=>UInt8.ofNat n.toNat) (by intro e0;have:=congrArg List.length e0;simp at this;subst this;simp at g1;omega) (by simp;omega) (by simp;omega) (fun j u hu=>by
         refine p3 j _ ?_
         rw[mo]at hu
         obtain⟨y,hy1,hy2⟩:=Option.map_eq_some_iff.1 hu
         obtain⟨z1,z2⟩:=h2 y (List.mem_of_getElem? hy1)
         rw[hVs,mo,hy1,←hy2]
         simp only[kU,bv,Value.int.injEq,true_and]
         rw[UInt8.toNat_ofNat']
         omega)
        rw[jG,←g1]at hrun
        refine⟨_,w.freeze ⟨B,0,none⟩ L.length,hrun,?_,aj.vstr (strOfNums L),rfl⟩
        show be γ H.m.get w γ m.get H.nx _
        rw[ej hset]
        exact CM hr hk hown hg 0 _
     ·cases hq
   ·cases hq
  ·cases hq
 ·cases hq
theorem Q6 {ti:Tr TypeInfo}{conT t0 t1:Nat}{u y v:AV}{H H':Hs}(hq:tj ti conT t0 t1 u y H=some (v,H')):∀p∈H.ms,p∈H'.ms:=by
 intro p hp
 unfold tj at hq
 split at hq
 case h_2=>cases hq
 split at hq
 case h_2=>cases hq
 rename_i e hd _ _ _ z by_ zs hz hby hzs
 cases hzl:(!(Nat.beq zs.length z&&Nat.ble by_ 1000))with
 |true=>rw[hzl]at hq;cases hq
 |false=>
  rw[hzl]at hq
  simp only[bt]at hq
  split at hq
  ·cases hq
  rename_i n V ms hsrc
  have ak:=kq H (Nat.beq n 0)
  have asked:∀(u':AV),(bif mR y then
   (match H.ask (Nat.beq n 0)with
   |(true,H1)=>some (u',({H1 with nx:=H1.nx+1,ms:=ms++H1.ms}:Hs))
   |(false,H1)=>(match H1.m.set H1.nx (some ⟨V,e,z,true,true⟩)with
    |none=>none
    |some m=>some (AV.lo H1.nx n,({H1 with m:=m,nx:=H1.nx+1,ms:=(0<n∧n≤1000000)::(ms++H1.ms)}:Hs))))
   else(match H.m.set H.nx (some ⟨V,e,z,true,true⟩)with
    |none=>none
    |some m=>some (AV.lo H.nx n,({H with m:=m,nx:=H.nx+1,ms:=(0<n∧n≤1000000)::(ms++H.ms)}:Hs))))=some (v,H')→p∈H'.ms:=by
   intro u' hh
   cases hro:mR y with
   |false=>
    rw[hro]at hh
    simp only[bt]at hh
    split at hh
    ·cases hh
    ·cases hh;simp[hp]
   |true=>
    rw[hro]at hh
    simp only[aU]at hh
    generalize hak:H.ask (Nat.beq n 0)=r at hh ak
    obtain⟨d,H1⟩:=r
    have h1:p∈H1.ms:=by rw[show H1.ms=_ from ak];simp[hp]
    cases d with
    |true=>cases hh;simp[h1]
    |false=>
     simp only at hh
     split at hh
     ·cases hh
     ·cases hh;simp[h1]
  split at hq
  ·split at hq
   ·cases hq
   ·split at hq
    ·cases hq
    ·replace hq:=(ay hq).2
     split at hq
     ·cases hq
     ·split at hq
      ·cases hq
      ·cases hq;simp[hp]
  ·exact asked _ hq
  ·exact asked _ hq
  ·cases hq
theorem qg {ti:Tr TypeInfo}{conT t0 t1:Nat}{u y v:AV}{H H':Hs}(hq:li ti conT t0 t1 u y H=some (v,H')):∀p∈H.ms,p∈H'.ms:=by
 unfold li at hq
 split at hq
 ·rename_i r hr
  cases hq
  exact Q6 hr
 ·split at hq
  ·rename_i r hr
   cases hq
   exact PV hr
  ·exact OJ hq
theorem OW {ti:Tr TypeInfo}{conT t0 t1:Nat}{u y v:AV}{H H':Hs}(hq:sN ti conT t0 t1 u y H=some (v,H')):∀p∈H.ms,p∈H'.ms:=by
 unfold sN at hq
 split at hq
 ·rename_i r hr
  cases hq
  exact N1 hr
 ·split at hq
  ·cases hq
  ·rename_i s' H1 ho
   exact fun p hp=>qg hq p (NZ ho p hp)
theorem OX {E:cj}{t0 t1:Nat}{u y v:AV}{H H':Hs}(hq:wg E t0 t1 u y H=some (v,H')):∀p∈H.ms,p∈H'.ms:=by
 unfold wg at hq
 split at hq
 ·rename_i r hr
  cases hq
  split at hr
  ·exact qg hr
  ·exact qg hr
  ·exact qg (ay hr).2
  ·replace hr:=(ay hr).2
   split at hr
   ·cases hr
   ·rename_i k _
    cases ho:k.opn with
    |true=>rw[ho]at hr;cases hr
    |false=>rw[ho]at hr;exact qg hr
  ·cases hr
 ·split at hq
  ·exact OW (ay hq).2
  ·cases hq;exact fun p hp=>hp
theorem eCut_ms {y y':AV}{H H':Hs}(hq:tG y H=some (y',H')):∀p∈H.ms,p∈H'.ms:=by
 unfold tG at hq
 split at hq
 ·split at hq
  ·cases hq
  ·split at hq
   ·replace hq:=(ay hq).2
    split at hq
    ·cases hq
    ·split at hq
     ·cases hq
     ·cases hq;exact fun p hp=>fk _ hp
   ·cases hq
 ·cases hq
theorem LV {w:World}{B:Nat}{cs:Array Value}{el:Nat}{fr:Nat×Nat}(h:w.heap[B]? =some (.cells cs el fr)):w.setRow B cs=w:=by
 have hlt:B<w.heap.size:=(eI.1 h).1
 have hv:w.heap[B]=.cells cs el fr:=(eI.1 h).2
 have e:(w.setRow B cs).heap=w.heap:=by
  apply Array.ext
  ·simp[World.setRow]
  ·intro i h1 h2
   by_cases hi:i=B
   ·subst hi
    simp[World.setRow,Array.getElem_modify,hv]
   ·simp[World.setRow,Array.getElem_modify,Ne.symm hi]
 show({w with heap:=(w.setRow B cs).heap}:World)=w
 rw[e]
theorem Q7 {γ:Gm}{H H':Hs}{w:World}(hr:aJ γ H.m.get H.nx w){y y':AV}{Y:Value}(hy:aj γ y Y)(hq:tG y H=some (y',H'))(hm:∀p∈H'.ms,p):∃γ',bT γ H w γ' H' w∧aj γ' y' Y:=by
 unfold tG at hq
 split at hq
 ·rename_i b m c
  split at hq
  ·cases hq
  ·rename_i k hk
   split at hq
   ·rename_i L hview
    obtain⟨hb,hq⟩:=ay hq
    split at hq
    ·cases hq
    ·rename_i m1 hs1
     split at hq
     ·cases hq
     ·rename_i m2 hs2
      cases hq
      obtain⟨hb1,hsz⟩:=bB hb
      obtain⟨hown,hopn⟩:=bB hb1
      have hsz:=aM hsz
      obtain⟨hmc,hcL⟩:=hm _ eB
      cases hy with
      |slc _ _ _ hg=>
       rename_i B x
       obtain⟨B',x',cs,ex,g1,g2,g3,g4,g5⟩:=hr.blk b k hk
       rw[hg]at g1
       cases g1
       have hcells:k.cells=L.flatMap Con.avs:=by unfold ag.cells;rw[hview];rfl
       have hlen:cs.length=L.length*5:=by rw[g3.length,hcells];exact lM L
       rw[hsz]at g4
       have htk:(L.take m).flatMap Con.avs=k.cells.take (m*5):=by
        have hmL:m≤L.length:=by rw[←hcL];exact hmc
        have e1:(L.take m).flatMap Con.avs++(L.drop m).flatMap Con.avs=L.flatMap Con.avs:=by rw[←kQ,ou]
        have e2:((L.take m).flatMap Con.avs).length=m*5:=by
         have:((L.take m).flatMap Con.avs).length=(L.take m).length*5:=lM (L.take m)
         rw[this,List.length_take_of_le hmL]
        rw[hcells,←e1,rA (Nat.le_of_eq e2.symm),iS (Nat.le_of_eq e2)]
       have hren:=hr.rename hk hown hg H.nx (H.nx+1) (hr.fresh _ (bp _)) om om (vs:=k.cells.take (m*5)) (Vs:=cs.take (m*5)) (ex:=cs.drop (m*5)++ex) (g3.take _) (c+x-m) (by
        rw[fV,rF,hlen,g4,hsz,←hcL,←Nat.sub_mul,←gG]
        congr 1
        omega)
       have e3:cs.take (m*5)++(cs.drop (m*5)++ex)=cs++ex:=by rw[←List.append_assoc,ou]
       rw[e3,LV g2,←ej hs1]at hren
       refine⟨γ.put H.nx (some (B,c+x-m)),⟨pY hs2 htk hren,Nat.le_succ _,fun j hj=>Gm.put_other _ _ om⟩,?_⟩
       have hv:aj (γ.put H.nx (some (B,c+x-m))) (.lo H.nx m) (.slice (some ⟨B,0,none⟩) m (m+(c+x-m))):=.lo m (Gm.put_same _ _ _)
       rwa[show m+(c+x-m)=c+x by omega]at hv
   ·cases hq
 ·cases hq
theorem Mk {E:cj}{t:Nat}{u y:AV}{H H':Hs}(hq:vt E t u y H=some H'):∀p∈H.ms,p∈H'.ms:=by
 unfold vt at hq
 split at hq
 ·split at hq
  ·cases hq
  ·cases hq;exact fun p hp=>by simp[hp]
 ·split at hq
  ·rename_i y1 H1 h1
   split at hq
   ·cases hq
   ·cases hq;exact fun p hp=>(eCut_ms h1 p hp:p∈H1.ms)
  ·split at hq
   ·cases hq
   ·cases hq;exact fun p hp=>hp
section
variable {P:Program}{E:cj}(hE:eW P E){call:bq}(hc:bV P E.ng call)
include hc in
theorem Eq {op:Op}{H H':Hs}{v:AV}{ρ:Operand→Option AV}(hq:pn E call ρ op H=some (v,H')):∀p∈H.ms,p∈H'.ms:=by
 unfold pn at hq
 split at hq
 ·split at hq
  ·cases hq
  ·split at hq
   ·cases hq
   ·split at hq
    ·cases hq
    ·rename_i h1;cases hq;exact Mk h1
 ·split at hq
  ·cases hq
  ·split at hq
   ·cases hq
   ·exact OX hq
 ·split at hq
  ·cases hq
  ·split at hq
   ·cases hq
   ·split at hq
    ·cases hq
    ·cases hq;exact fun p hp=>hp
 ·split at hq
  ·cases hq
  ·split at hq
   ·cases hq
   ·split at hq
    ·exact Q4 hq
    ·split at hq
     ·cases hq
     ·cases hq;exact fun p hp=>hp
 ·split at hq
  ·split at hq
   ·cases hq
   ·rename_i g caps hf _ vs hvs
    cases hne:(Nat.beq g E.noesc&&pk E.fs g)with
    |true=>
     simp only[hne,aU]at hq
     split at hq
     ·cases hq;exact fun p hp=>hp
     ·cases hq
    |false=>
     simp only[hne,bt]at hq
     exact(hc _ _ _ _ _ hq).1
  ·cases hq
 ·cases hq
include hc in
theorem OY {op:Op}{ty:Nat}{H H':Hs}{v:AV}{ρ:Operand→Option AV}(hq:ta E call ρ op ty H=some (v,H')):∀p∈H.ms,p∈H'.ms:=by
 unfold ta at hq
 split at hq
 ·split at hq
  ·cases hq
  ·cases hq;exact fun p hp=>by simp[Hs.must,hp]
 ·split at hq
  ·cases hq
  ·split at hq
   ·cases hq
   ·cases hq;exact fun p hp=>by simp[hp]
 ·exact Eq hc hq
include hc in
theorem Er {all:Array Oper}{N:Nat}:∀(l:List Oper)(T T':Tr AV)(H H':Hs),mN E call all N l T H=some (T',H')→∀p∈H.ms,p∈H'.ms:=by
 intro l
 induction l with
 |nil=>intro T T' H H' hq p hp;simp only[mN,bv,dh]at hq;obtain⟨rfl,rfl⟩:=hq;exact hp
 |cons o l ih=>
  intro T T' H H' hq p hp
  simp only[mN]at hq
  replace hq:=(ay hq).2
  cases hw:gW all N T o with
  |true=>
   simp only[hw,aU]at hq
   split at hq
   ·cases hq
   ·rename_i v H1 hone
    split at hq
    ·cases hq
    ·exact ih _ _ _ _ hq p (by simp[OY hc hone p hp])
  |false=>
   simp only[hw,bt]at hq
   split at hq
   ·cases hq
   ·exact ih _ _ _ _ hq p hp
end
section
variable {P:Program}{E:cj}(hE:eW P E){call:bq}(hc:bV P E.ng call)
include hE hc
theorem Es {o:Oper}{H H':Hs}{v:AV}{ρ:Operand→Option AV}{γ:Gm}{w:World}{a:Act}(hr:aJ γ H.m.get H.nx w)(hρ:∀x v,ρ x=some v→aj γ v (a.eval x))(hgl:iO E.ng γ)(hq:pn E call ρ o.op H=some (v,H'))(hm:∀p∈H'.ms,p)
 {K:Act→World→Prop}{Q:Exit→Act→World→Prop}(hK:∀V w' γ',aj γ' v V→bT γ H w γ' H' w'→K (a.put o.dst V) w'):o.wp P a w K Q:=by
 obtain⟨dst,op,ty,pos,after,guard⟩:=o
 simp only at hq hK
 have val:∀V w',(execOp a.eval ⟨dst,op,ty,pos,after,guard⟩).run P w=.ok (.value V) w'→K (a.put dst V) w'→Oper.wp P ⟨dst,op,ty,pos,after,guard⟩ a w K Q:=by
  intro V w' h1 h2
  unfold Oper.wp
  rw[h1,Oper.upon_value]
  exact h2
 unfold pn at hq
 split at hq
 ·rename_i t x y
  split at hq
  ·cases hq
  ·rename_i u hu
   split at hq
   ·cases hq
   ·rename_i z hz
    split at hq
    ·cases hq
    ·rename_i H1 hst
     cases hq
     have hst':∃w' γ',(Instr.storeAt t (a.eval x) (a.eval y)).run P w=.ok () w'∧bT γ H w γ' H' w':=by
      unfold vt at hst
      split at hst
      ·split at hst
       ·cases hst
       ·rename_i m ms hss
        cases hst
        obtain⟨w',γ',h1,h2,h3⟩:=My (P:=P) hE.ti hr (hρ _ _ hu) (hρ _ _ hz) hss (fun p hp=>hm p (by simp[hp]))
        exact⟨w',γ',h1,h2,bp _,fun b _=>by show γ'.nm b=γ.nm b;rw[h3]⟩
      ·split at hst
       ·rename_i y1 H1 hcut
        split at hst
        ·cases hst
        ·rename_i m hss
         cases hst
         obtain⟨γ1,k1,k2⟩:=Q7 hr (hρ _ _ hz) hcut hm
         obtain⟨w',h1,h2⟩:=Dd (P:=P) hE.ti k1.stp.rel ((hρ _ _ hu).mono k1.stp.le) k2 hss
         exact⟨w',γ1,h1,k1.stp.trans h2,k1.nx,k1.keep⟩
       ·split at hst
        ·cases hst
        ·rename_i m hss
         cases hst
         obtain⟨w',h1,h2⟩:=Dd (P:=P) hE.ti hr (hρ _ _ hu) (hρ _ _ hz) hss
         exact⟨w',γ,h1,h2,bp _,fun _ _=>rfl⟩
     obtain⟨w',γ',h1,h2⟩:=hst'
     have hx:(execOp a.eval ⟨dst,.store t x y,ty,pos,after,guard⟩).run P w=.ok .skip w':=by simp[execOp,h1]
     unfold Oper.wp
     rw[hx,Oper.upon_skip]
     exact hK undef w' γ' (.tup .nil) h2
 ·rename_i s x t0 t1
  split at hq
  ·cases hq
  ·rename_i u hu
   split at hq
   ·cases hq
   ·rename_i z hz
    have happ:∃V γ' w',(Builtin.append_ #[t0,t1] ty #[a.eval s,a.eval x]).run P w=.ok V w'∧be γ H.m.get w γ' H'.m.get H'.nx w'∧aj γ' v V∧(∀j,j≠H.nx→γ' j=γ j)∧H'.nx=H.nx+1:=by
     unfold wg at hq
     have key:li E.ti E.conT t0 t1 u z H=some (v,H')→∃V γ' w',(Builtin.append_ #[t0,t1] ty #[a.eval s,a.eval x]).run P w=.ok V w'∧be γ H.m.get w γ' H'.m.get H'.nx w'∧aj γ' v V∧(∀j,j≠H.nx→γ' j=γ j)∧H'.nx=H.nx+1:=fun hs=>
      yO (P:=P) hE.ti hr (hρ _ _ hu) (hρ _ _ hz) hs hm ty (ts:=#[t0,t1]) (args:=#[a.eval s,a.eval x]) si si si si
     split at hq
     ·rename_i r hr'
      cases hq
      split at hr'
      ·exact key hr'
      ·exact key hr'
      ·exact key (ay hr').2
      ·rename_i b o n c
       have hb0:=(ay hr').1
       replace hr':=(ay hr').2
       obtain⟨hb0,_⟩:=bB hb0
       obtain⟨hb0,hc0⟩:=bB hb0
       obtain⟨_,hn0⟩:=bB hb0
       have hc0:=co hc0
       have hn0:=co hn0
       subst hc0
       subst hn0
       split at hr'
       ·cases hr'
       ·rename_i k hk
        cases ho:k.opn with
        |true=>rw[ho]at hr';cases hr'
        |false=>
         rw[ho]at hr'
         simp only[bt]at hr'
         have hz0:aj γ .z0 (a.eval s):=by
          have h0:=hρ _ _ hu
          generalize a.eval s=Q at h0
          cases h0 with
          |slc _ _ _ hg=>
           obtain⟨B',x',cs,ex,g1,g2,g3,g4,g5⟩:=hr.blk b k hk
           rw[hg]at g1
           cases g1
           have:=g5 ho
           subst this
           exact .z0 _
         exact yO (P:=P) hE.ti hr hz0 (hρ _ _ hz) hr' hm ty (ts:=#[t0,t1]) (args:=#[a.eval s,a.eval x]) si si si si
      ·cases hr'
     ·split at hq
      ·exact N3 (P:=P) hE.ti hr (hρ _ _ hu) (hρ _ _ hz) (ay hq).2 (fun _ _ h=>qg h) hm ty (ts:=#[t0,t1]) (args:=#[a.eval s,a.eval x]) si si si si
      ·rename_i v' m hmm
       cases hq
       obtain⟨V,γ',w',h1,h2,h3,h4⟩:=PX (P:=P) hE.ti hr (i:=H.nx) (nx':=H.nx+1) (hr.fresh _ (bp _)) om om (hρ _ _ hu) (hρ _ _ hz) hmm (ts:=#[t0,t1]) (args:=#[a.eval s,a.eval x]) ty si si si si
       exact⟨V,γ',w',h1,h2,h3,h4,rfl⟩
    obtain⟨V,γ',w',h1,h2,h3,h4,h5⟩:=happ
    refine val V w' ?_ (hK V w' γ' h3 ⟨h2,om,fun b hb=>h4 b om⟩)
    simp[execOp,resolve,invoke,builtin,h1]
 ·rename_i d x t0 ts
  split at hq
  ·cases hq
  ·rename_i u hu
   split at hq
   ·cases hq
   ·rename_i z hz
    split at hq
    ·cases hq
    ·rename_i v' m hmm
     cases hq
     obtain⟨V,w',h1,h2,h3⟩:=Oq (P:=P) hE.ti hr (hρ _ _ hu) (hρ _ _ hz) hmm (ts:=⟨t0::ts⟩) (args:=#[a.eval d,a.eval x]) ty si si si
     refine val V w' ?_ (hK V w' γ h3 ⟨h2,bp _,fun _ _=>rfl⟩)
     simp[execOp,resolve,invoke,builtin,h1]
 ·rename_i p n pt it
  split at hq
  ·cases hq
  ·rename_i u hu
   split at hq
   ·cases hq
   ·rename_i z hz
    split at hq
    ·obtain⟨V,w',h1,h2,h3,h4⟩:=Q5 (P:=P) (it:=it) (ty:=ty) hE.ti hr (hρ _ _ hu) (hρ _ _ hz) hq hm
     refine val V w' ?_ (hK V w' γ h3 ⟨h2,om,fun _ _=>rfl⟩)
     simp[execOp,resolve,invoke,builtin,h1]
    ·split at hq
     ·cases hq
     ·rename_i v' m hmm
      cases hq
      obtain⟨V,w',h1,h2,h3⟩:=Q3 (P:=P) (it:=it) (ty:=ty) hE.ti hr (hρ _ _ hu) (hρ _ _ hz) hmm
      refine val V w' ?_ (hK V w' γ h3 ⟨h2,bp _,fun _ _=>rfl⟩)
      simp[execOp,resolve,invoke,builtin,h1]
 ·rename_i f args ts
  split at hq
  ·rename_i g caps hf
   split at hq
   ·cases hq
   ·rename_i vs hvs
    have hV:=qv hρ hvs
    have hF:=hρ _ _ hf
    generalize hFv:a.eval f=Fv at hF
    cases hF with
    |fn _ hcaps=>
     rename_i Caps
     cases hne:(Nat.beq g E.noesc&&pk E.fs g)with
     |true=>
      simp only[hne,aU]at hq
      have hg:=aM (bB hne).1
      have hhas:=(bB hne).2
      split at hq
      ·rename_i v0
       cases hq
       have hlen:=hV.length
       simp only[jG,dg,ic,gF]at hlen
       obtain⟨a0,rfl⟩:=List.length_eq_one_iff.1 hlen
       cases hcaps
       simp only[jH,List.map_nil]at hV
       cases hV with
       |cons hv _=>
        refine val (a.eval a0) w ?_ (hK _ w γ hv (bT.refl hr))
        have:=hE.noesc (hg▸hhas) (a.eval a0) w
        rw[←hg]at this
        simp[execOp,resolve,hFv,Deferred.ofValue,invoke,this]
      ·cases hq
     |false=>
      simp only[hne,bt]at hq
      have hcall:=(hc _ _ _ _ _ hq).2 hm γ w _ hr (hV.append hcaps) hgl
      obtain⟨⟨fn,hfn,hbody⟩,hcalls⟩:=hcall
      have hx:(execOp a.eval ⟨dst,.call ⟨.value f,⟨args⟩,ts⟩,ty,pos,after,guard⟩).run P w=.ok (.enter g ((args.map a.eval)++Caps).toArray) w:=by
       have hn:=hE.names _ _ hfn
       have hn':fn.name≠ "runtime.NumGoroutine" :=by intro e;rw[e]at hn;simp at hn
       have hb:fn.body≠none:=by intro e;rw[e]at hbody;cases hbody
       simp[execOp,resolve,hFv,Deferred.ofValue,invoke,callFunc,hfn,hn',hb]
      unfold Oper.wp
      rw[hx,Oper.upon_enter]
      refine hcalls.mono ?_
      rintro e w' ⟨V,γ',rfl,h1,h2⟩
      exact hK V w' γ' h1 h2
  ·cases hq
 ·cases hq
theorem OZ {o:Oper}{H H':Hs}{v:AV}{ρ:Operand→Option AV}{γ:Gm}{w:World}{a:Act}(hr:aJ γ H.m.get H.nx w)(hρ:∀x v,ρ x=some v→aj γ v (a.eval x))(hgl:iO E.ng γ)(hq:ta E call ρ o.op o.type H=some (v,H'))(hm:∀p∈H'.ms,p)
 {K:Act→World→Prop}{Q:Exit→Act→World→Prop}(hK:∀V w' γ',aj γ' v V→bT γ H w γ' H' w'→K (a.put o.dst V) w'):o.wp P a w K Q:=by
 unfold ta at hq
 split at hq
 ·split at hq
  ·cases hq
  ·rename_i u ms hu
   cases hq
   obtain⟨V,h1,h2⟩:=GJ (P:=P) hE.ti hE.lz hr hρ hu (fun p hp=>hm p (by simp[Hs.must,hp]))
   unfold Oper.wp
   rw[h1,Oper.upon_value]
   exact hK V w γ h2 ⟨be.refl hr,bp _,fun _ _=>rfl⟩
 ·split at hq
  ·cases hq
  ·rename_i u k ms hk
   split at hq
   ·cases hq
   ·rename_i m hmm
    cases hq
    obtain⟨V,w',h1,h2,h3⟩:=SS (P:=P) hE.ti hr hρ (i:=H.nx) (nx':=H.nx+1) (hr.fresh _ (bp _)) om om hk (fun p hp=>hm p (by simp[hp]))
    unfold Oper.wp
    rw[h1,Oper.upon_value]
    refine hK V w' _ h3 ⟨?_,si,fun b hb=>Gm.put_other _ _ om⟩
    show be γ H.m.get w _ m.get (H.nx+1) w'
    rw[ej hmm]
    exact h2
 ·exact Es hE hc hr hρ hgl hq hm hK
theorem Et {all:Array Oper}{N:Nat}{Q:Exit→Act→World→Prop}:∀(l:List Oper)(is:List Nat),is.map (fun i=>all[i]?)=l.map some→
 ∀(T T':Tr AV)(H H':Hs),mN E call all N l T H=some (T',H')→(∀p∈H'.ms,p)→∀(γ:Gm)(a:Act)(w:World),cH γ E.ng T N a→aJ γ H.m.get H.nx w→
 (∀a' w' γ',cH γ' E.ng T' N a'→bT γ H w γ' H' w'→Q .normal a' w')→wpOps P all Q is a w:=by
 intro l
 induction l with
 |nil=>
  intro is his T T' H H' hq hm γ a w hf hr hQ
  simp only[List.map_nil,List.map_eq_nil_iff]at his
  subst his
  simp only[mN,bv,dh]at hq
  obtain⟨rfl,rfl⟩:=hq
  exact hQ a w γ hf (bT.refl hr)
 |cons o l ih=>
  intro is his T T' H H' hq hm γ a w hf hr hQ
  cases is with
  |nil=>simp at his
  |cons i is=>
   simp only[jH,List.cons.injEq]at his
   obtain⟨hi,his⟩:=his
   simp only[mN]at hq
   have hkn:=(ay hq).1
   replace hq:=(ay hq).2
   simp only[wpOps,hi]
   rw[Mj hf all o hkn]
   cases hw:gW all N T o with
   |true=>
    simp only[hw,aU]at hq
    simp only[fx]
    split at hq
    ·cases hq
    ·rename_i v H1 hone
     split at hq
     ·cases hq
     ·rename_i T1 hput
      have hms:=Er hc _ _ _ _ _ hq
      generalize hfo:nG (qd all o.dst) v H1.tp=r at hq hput hms
      obtain⟨u,tp,ms⟩:=r
      refine .inl (OZ hE hc hr (pf hf) hf.glob hone (fun p hp=>hm p (hms p (by simp[hp]))) ?_)
      intro V w' γ' hv hrun
      have hv:=uL hfo (fun p hp=>hm p (hms p (by simp[hp]))) γ' V hv
      refine ih is his T1 T' {H1 with tp:=tp,ms:=ms++H1.ms} H' hq hm γ' _ w' (vL (hf.mono hrun.stp.le) hv hput) hrun.stp.rel ?_
      intro a' w'' γ'' hf' hrun'
      exact hQ a' w'' γ'' hf' ⟨hrun.stp.trans hrun'.stp,cl hrun.nx hrun'.nx,fun b hb=>(hrun'.keep b (jE hb hrun.nx)).trans (hrun.keep b hb)⟩
   |false=>
    simp only[hw,bt]at hq
    simp only[nh,iF]
    split at hq
    ·cases hq
    ·rename_i T1 hput
     exact ih is his T1 T' H H' hq hm γ _ w (vL hf (.tup .nil) hput) hr hQ
end
theorem uE (all:Array Oper):(List.range all.size).map (fun i=>all[i]?)=all.toList.map some:=by
 apply List.ext_getElem?
 intro i
 simp only[mo]
 by_cases h:i<all.size
 ·simp[h]
 ·simp[h,jD (show(List.range all.size).length≤i by simp;omega)]
noncomputable def FZ (o:Oper)(A:Tr Nat):Nat:=o.after.toList.foldl (fun s e=>bif Region.binds .any e then s|||(2^e.on)|||((A.get e.on).getD 0)else s) 0
theorem N6 (A:Tr Nat)(i:Nat):∀(l:List Edge)(s:Nat),(l.foldl (fun s e=>bif Region.binds .any e then s|||(2^e.on)|||((A.get e.on).getD 0)else s) s).testBit i=true→
 s.testBit i=true∨∃e∈l,Region.binds .any e=true∧(e.on=i∨((A.get e.on).getD 0).testBit i=true):=by
 intro l
 induction l with
 |nil=>intro s h;exact .inl h
 |cons e l ih=>
  intro s h
  simp only[oA]at h
  rcases ih _ h with h|⟨e',he',hb⟩
  ·cases hbd:Region.binds .any e with
   |false=>simp only[hbd,bt]at h;exact .inl h
   |true=>
    simp only[hbd,aU,Nat.testBit_or,nj,Nat.testBit_two_pow,ib]at h
    rcases h with(h|h)|h
    ·exact .inl h
    ·exact .inr ⟨e,si,hbd,.inl h⟩
    ·exact .inr ⟨e,si,hbd,.inr h⟩
  ·exact .inr ⟨e',by simp[he'],hb⟩
theorem C6:∀(l:List Oper)(i:Nat)(A:Tr Nat)(k:Nat),k<i→i+l.length<1000000→(lk l i A).get k=A.get k:=by
 intro l
 induction l with
 |nil=>intro i A k hk _;rfl
 |cons o l ih=>
  intro i A k hk hl
  simp only[dg]at hl
  simp only[lk]
  rw[ih (i+1) _ k om om,Tr.get_setF 40 A i k _ om,if_neg om]
theorem N7:∀(l:List Oper)(i:Nat)(A:Tr Nat)(k:Nat)(o:Oper),l[k]? =some o→i+l.length<1000000→
 ∃A',(lk l i A).get (i+k)=some (FZ o A')∧∀m,m<i+k→A'.get m=(lk l i A).get m:=by
 intro l
 induction l with
 |nil=>intro i A k o h;simp at h
 |cons o' l ih=>
  intro i A k o h hl
  simp only[dg]at hl
  cases k with
  |zero=>
   simp only[nd,bv]at h
   subst h
   refine⟨A,?_,fun m hm=>?_⟩
   ·simp only[lk,fv]
    rw[C6 l (i+1) _ i om om,Tr.get_setF 40 A i i _ om,if_pos rfl]
    rfl
   ·simp only[lk]
    rw[C6 l (i+1) _ m om om,Tr.get_setF 40 A i m _ om,if_neg om]
  |succ k=>
   simp only[pM]at h
   obtain⟨A',h1,h2⟩:=ih (i+1) (Tr.setF 40 A i (some (FZ o' A))) k o h om
   refine⟨A',?_,fun m hm=>?_⟩
   ·rw[show i+(k+1)=i+1+k by omega];exact h1
   ·exact h2 m om
structure F0 (all:Array Oper)(A:Tr Nat):Prop where
 small:all.size<1000
 back:∀(i:Nat)(o:Oper),all[i]? =some o→∀e∈o.after,Region.binds .any e=true→e.on<i
 nosel:∀(i:Nat)(o:Oper)cs b,all[i]? =some o→o.op≠.select cs b
 pair:∀(i j:Nat)(oi oj:Oper),i<j→all[i]? =some oi→all[j]? =some oj→oi.apart all oj=true∨(cA A j i=true∧∀d,oi.dst=some d→oj.dst≠some d)
 anc:∀(i j:Nat),cA A j i=true→∃o,all[j]? =some o∧∃e∈o.after,Region.binds .any e=true∧(e.on=i∨cA A e.on i=true)
theorem L9:∀(l:List Oper)(i:Nat),vw l i=true→∀(k:Nat)(o:Oper),l[k]? =some o→(∀e∈o.after,Region.binds .any e=true→e.on<i+k)∧El o.op=true:=by
 intro l
 induction l with
 |nil=>intro i _ k o h;simp at h
 |cons o' l ih=>
  intro i h k o hk
  simp only[vw,bj]at h
  obtain⟨⟨h1,h2⟩,h3⟩:=h
  cases k with
  |zero=>
   simp only[nd,bv]at hk
   subst hk
   refine⟨fun e he hb=>?_,h2⟩
   have:=cK.1 h1 e (by simpa using he)
   simp only[hb,oD,Bool.false_or]at this
   exact aT this
  |succ k=>
   simp only[pM]at hk
   obtain⟨g1,g2⟩:=ih (i+1) h3 k o hk
   exact⟨fun e he hb=>by have:=g1 e he hb;omega,g2⟩
theorem Ma (all:Array Oper)(A:Tr Nat)(oj:Oper)(j:Nat):∀(l:List Oper)(i:Nat),sn all A oj j l i=true→∀(k:Nat)(o:Oper),l[k]? =some o→i+k<j→Ad all A o (i+k) oj j=true:=by
 intro l
 induction l with
 |nil=>intro i _ k o h;simp at h
 |cons o' l ih=>
  intro i h k o hk hlt
  simp only[sn]at h
  have hb:Nat.blt i j=true:=fW om
  simp only[hb,aU,bj]at h
  cases k with
  |zero=>
   simp only[nd,bv]at hk
   subst hk
   exact h.1
  |succ k=>
   simp only[pM]at hk
   have:=ih (i+1) h.2 k o hk om
   rw[show i+(k+1)=i+1+k by omega];exact this
theorem Mb (all:Array Oper)(ops:List Oper)(A:Tr Nat):∀(l:List Oper)(j:Nat),vu all ops A l j=true→∀(k:Nat)(o:Oper),l[k]? =some o→sn all A o (j+k) ops 0=true:=by
 intro l
 induction l with
 |nil=>intro j _ k o h;simp at h
 |cons o' l ih=>
  intro j h k o hk
  simp only[vu,bj]at h
  cases k with
  |zero=>
   simp only[nd,bv]at hk
   subst hk
   exact h.1
  |succ k=>
   simp only[pM]at hk
   have:=ih (j+1) h.2 k o hk
   rw[show j+(k+1)=j+1+k by omega];exact this
theorem Mz {all:Array Oper}(h:zn all=true):F0 all (jg all.toList):=by
 unfold zn at h
 simp only[bj]at h
 obtain⟨⟨h1,h2⟩,h3⟩:=h
 have hsm:all.size<1000:=aT h1
 have hE:=L9 all.toList 0 h2
 have hback:∀(i:Nat)(o:Oper),all[i]? =some o→∀e∈o.after,Region.binds .any e=true→e.on<i:=by
  intro i o ho e he hb
  have:=(hE i o (by simpa using ho)).1 e he hb
  omega
 refine⟨hsm,hback,?_,?_,?_⟩
 ·intro i o cs b ho hs
  have:=(hE i o (by simpa using ho)).2
  rw[hs]at this
  cases this
 ·intro i j oi oj hij hi hj
  have h4:=Mb all all.toList _ all.toList 0 h3 j oj (by simpa using hj)
  have h5:=Ma all _ oj (0+j) all.toList 0 h4 i oi (by simpa using hi) om
  simp only[gF]at h5
  unfold Ad at h5
  simp only[nj,bj]at h5
  rcases h5 with h5|⟨h5,h6⟩
  ·exact .inl h5
  ·refine .inr ⟨h5,fun d hd he=>?_⟩
   rw[hd,he]at h6
   simp at h6
 ·intro i j hj
  unfold cA at hj
  split at hj
  ·cases hj
  ·rename_i m hm
   have hlen:all.toList.length<1000:=by simpa using hsm
   have hlt:j<all.size:=by
    rcases bA j all.size with h'|h'
    ·exact h'
    ·exfalso
     have:∀(l:List Oper)(i:Nat)(A:Tr Nat)(k:Nat),i+l.length≤k→i+l.length<1000000→(lk l i A).get k=A.get k:=by
      intro l
      induction l with
      |nil=>intro i A k _ _;rfl
      |cons o l ih=>
       intro i A k hk hl
       simp only[dg]at hk hl
       simp only[lk]
       rw[ih (i+1) _ k om om,Tr.get_setF 40 A i k _ om,if_neg om]
     have h0:=this all.toList 0 .nil j (by simpa using h') om
     unfold jg at hm
     rw[h0,Tr.get_nil]at hm
     cases hm
   obtain⟨A',g1,g2⟩:=N7 all.toList 0 .nil j all[j] (by simp[hlt]) om
   rw[gF]at g1 g2
   unfold jg at hm
   rw[g1]at hm
   cases hm
   rcases N6 A' i _ 0 hj with h0|⟨e,he,hb,hor⟩
   ·simp at h0
   ·refine⟨all[j],by simp[hlt],e,by simpa using he,hb,?_⟩
    have hlt':=hback j all[j] (by simp[hlt]) e (by simpa using he) hb
    rcases hor with rfl|hor
    ·exact .inl rfl
    ·right
     rw[g2 e.on hlt']at hor
     unfold cA jg
     cases hx:(lk all.toList 0 .nil).get e.on with
     |none=>rw[hx]at hor;simp at hor
     |some m'=>rw[hx]at hor;simpa using hor
theorem MA {E:cj}{call:bq}{all:Array Oper}{A:Tr Nat}{N i0:Nat}:∀(l:List Oper)(i:Nat)(s s':gU),nv E call all A N i0 l i s=some s'→
 ∃st:Nat→gU,st 0=s∧st l.length=s'∧∀(k:Nat)(o:Oper),l[k]? =some o→qK E call all A N i0 o (i+k) (st k)=some (st (k+1)):=by
 intro l
 induction l with
 |nil=>
  intro i s s' h
  simp only[nv,bv]at h
  subst h
  exact⟨fun _=>s,rfl,rfl,by intro k o h;simp at h⟩
 |cons o l ih=>
  intro i s s' h
  simp only[nv]at h
  split at h
  ·cases h
  ·rename_i s1 h1
   obtain⟨st,g0,g1,g2⟩:=ih (i+1) s1 s' h
   refine⟨fun k=>match k with|0=>s|k+1=>st k,rfl,g1,?_⟩
   intro k o' hk
   cases k with
   |zero=>
    simp only[nd,bv]at hk
    subst hk
    simp only[fv]
    rw[h1,g0]
   |succ k=>
    simp only[pM]at hk
    have:=g2 k o' hk
    rw[show i+(k+1)=i+1+k by omega]
    exact this
mutual
theorem zc:∀{x y:AV},tH x y=true→x=y:=by
 intro x y h
 cases x<;>cases y<;>simp only[tH,nh,bj,ib,dx]at h
 all_goals first
  |rfl
  |(rw[h];done)
  |(obtain⟨h1,h2⟩:=h;rw[h1,h2];done)
  |(obtain⟨h1,h2⟩:=h;rw[aM h1,aM h2];done)
  |(obtain⟨⟨⟨h1,h2⟩,h3⟩,h4⟩:=h;rw[aM h1,aM h2,aM h3,aM h4];done)
  |(obtain⟨h1,h2⟩:=h;rw[aM h1,rU h2];done)
  |(obtain⟨h1,h2⟩:=h;rw[aM h1,zc h2];done)
  |(rw[rU h];done)
theorem rU:∀{xs ys:List AV},lZ xs ys=true→xs=ys:=by
 intro xs ys h
 cases xs with
 |nil=>cases ys with
  |nil=>rfl
  |cons y ys=>simp[lZ]at h
 |cons x xs=>cases ys with
  |nil=>simp[lZ]at h
  |cons y ys=>
   simp only[lZ,bj]at h
   rw[zc h.1,rU h.2]
end
mutual
theorem rV:∀{x y:AV}{ms:List Prop},po x y=some ms→(∀p∈ms,p)→gI x y:=by
 intro x y ms h hm
 unfold po at h
 split at h
 ·obtain⟨hk,h'⟩:=ay h
  have hk:=ea hk
  clear h;subst hk;cases h'
  have:=aA hm;subst this;exact gI.refl _
 ·obtain⟨hk,h'⟩:=ay h
  have hk:=ea hk
  clear h;subst hk;cases h'
  have:=aA hm;subst this;intro γ V hV;cases hV;exact .vint _ _
 ·obtain⟨hk,h'⟩:=ay h
  have hk:=ea hk
  clear h;subst hk;cases h'
  have:=aA hm;subst this;intro γ V hV;cases hV;exact .int _ _
 ·cases h;have:=aA hm;subst this;exact gI.refl _
 ·cases h;have:=aA hm;subst this;intro γ V hV;cases hV;exact .bool _
 ·cases h;have:=aA hm;subst this;intro γ V hV;cases hV;exact .vbool _
 ·cases h;have:=aA hm;subst this;exact gI.refl _
 ·cases h;have:=aA hm;subst this;exact gI.refl _
 ·cases h;have:=aA hm;subst this;intro γ V hV;cases hV;exact .vstr _
 ·obtain⟨hk,h'⟩:=ay h
  have hk:=aM hk
  clear h;subst hk;cases h'
  obtain⟨rfl,rfl⟩:=aA hm;exact gI.refl _
 ·obtain⟨hk,h'⟩:=ay h
  have hk:=aM hk
  clear h;subst hk;cases h'
  have:=aA hm;subst this;exact gI.refl _
 ·obtain⟨hk,h'⟩:=ay h
  have hk:=aM hk
  clear h;subst hk;cases h'
  have:=aA hm;subst this;exact gI.refl _
 ·obtain⟨hk,h'⟩:=ay h
  clear h
  simp only[bj]at hk
  obtain⟨⟨h1,h2⟩,h3⟩:=hk
  have h1:=aM h1
  have h2:=aM h2
  have h3:=aM h3
  subst h1 h2 h3
  cases h'
  have:=aA hm;subst this;exact gI.refl _
 ·obtain⟨hk,h'⟩:=ay h
  clear h
  simp only[bj,dx]at hk
  obtain⟨⟨h1,h2⟩,h3⟩:=hk
  have h1:=aM h1
  have h2:=aM h2
  subst h1 h2 h3
  cases h'
  obtain⟨rfl,rfl⟩:=aA hm;exact gI.refl _
 ·intro γ V hV
  cases hV with
  |agg hv=>exact .agg (pT h hm γ _ hv)
 ·intro γ V hV
  cases hV with
  |tup hv=>exact .tup (pT h hm γ _ hv)
 ·obtain⟨hk,h'⟩:=ay h
  have hk:=aM hk
  clear h;subst hk
  intro γ V hV
  cases hV with
  |fn _ hv=>exact .fn _ (pT h' hm γ _ hv)
 ·obtain⟨hk,h'⟩:=ay h
  rw[zc hk]
  exact gI.refl _
theorem pT:∀{xs ys:List AV}{ms:List Prop},nH xs ys=some ms→(∀p∈ms,p)→∀γ Vs,ap γ xs Vs→ap γ ys Vs:=by
 intro xs ys ms h hm γ Vs hV
 unfold nH at h
 split at h
 ·exact hV
 ·split at h
  ·cases h
  ·rename_i m1 h1
   split at h
   ·cases h
   ·rename_i m2 h2
    cases h
    obtain⟨hm1,hm2⟩:=dJ hm
    cases hV with
    |cons hv ht=>exact .cons (rV h1 hm1 γ _ hv) (pT h2 hm2 γ _ ht)
 ·cases h
end
theorem MB {ti:Tr TypeInfo}{lz:Nat→Nat→Nat→Nat→Bool}(h h':Tr ag)(ρ:Operand→Option AV)(op:Op)(ty:Nat)(hl:lf op=false):rh ti lz h ρ op ty=rh ti lz h' ρ op ty:=by
 have h1:qQ ti h ρ op ty=qQ ti h' ρ op ty:=by
  unfold qQ
  split<;>first|rfl|(simp[lf]at hl;done)
 have h2:re ti lz h ρ op ty=re ti lz h' ρ op ty:=by
  unfold re
  split<;>first|rfl|(simp[lf]at hl;done)
 unfold rh
 rw[h1,h2]
theorem MC {sy:Bool}{ti:Tr TypeInfo}{lz:Nat→Nat→Nat→Nat→Bool}(h h':Tr ag)(ρ:Operand→Option AV)(op:Op)(ty:Nat)(hl:lf op=false):nn sy ti lz h ρ op ty=nn sy ti lz h' ρ op ty:=by
 unfold nn
 rw[MB h h' ρ op ty hl]
def mT (E:cj)(all:Array Oper)(o:Oper)(T:Tr AV)(v:AV)(m:Tr ag):Prop:=
 ∃u ms,nn E.sym E.ti E.lz m (lw E.ng T (o.looksAt all)) o.op o.type=some (u,ms)∧(∀p∈ms,p)∧gI u v
theorem DX {E:cj}{all:Array Oper}{o:Oper}{T:Tr AV}{v:AV}{m:Tr ag}{ms:List Prop}(h:wh E all o T v m=some ms)(hm:∀p∈ms,p):mT E all o T v m:=by
 unfold wh at h
 split at h
 ·cases h
 ·rename_i u m1 h1
  split at h
  ·cases h
  ·rename_i m2 h2
   cases h
   obtain⟨hm1,hm2⟩:=dJ hm
   exact⟨u,m1,h1,hm1,rV h2 hm2⟩
section
variable (E:cj)(call:bq)(all:Array Oper)(A:Tr Nat)(N i0:Nat)(st:Nat→gU)
def dK (i:Nat):Prop:=∃o,all[i]? =some o∧gW all N (st i).T o=true∧lU o.op=.act
def eH (i:Nat):Prop:=∃o,all[i]? =some o∧gW all N (st i).T o=true∧lU o.op=.make
def T9 (i:Nat)(o:Oper)(v:AV):Prop:=
 gW all N (st i).T o=false∧v=.tup []∧(st (i+1)).H=(st i).H∧(st (i+1)).last=(st i).last∧(st (i+1)).pend=(st i).pend∧(st (i+1)).hist=(st i).hist∧(st (i+1)).seen=(st i).seen
def Sc (i:Nat)(o:Oper)(v:AV):Prop:=
 gW all N (st i).T o=true∧lU o.op=.quiet∧(mT E all o (st i).T v (st i).H.m∨(tc all=true∧∃m l,l3 A i (st i).pend (st i).H.m=some (m,l)∧mT E all o (st i).T v m))∧
 (lf o.op=true→∃ms,qe E all A i o (st i).T v (st i).hist=some ms∧∀p∈ms,p)∧
 (st (i+1)).H=(st i).H∧(st (i+1)).last=(st i).last∧(st (i+1)).pend=(st i).pend∧(st (i+1)).hist=(st i).hist∧
 (st (i+1)).seen=(bif lf o.op then⟨i,o,(st i).T,v⟩::(st i).seen else(st i).seen)
def Hg (i:Nat)(o:Oper)(v:AV)(kb:ag):Prop:=
 gW all N (st i).T o=true∧lU o.op=.make∧pF E.ti (lw E.ng (st i).T (o.looksAt all)) o.op (i0+i)=some ⟨v,kb⟩∧
 (st (i+1)).H=(st i).H∧(st (i+1)).last=(st i).last∧(st (i+1)).pend=(i,i0+i,kb)::(st i).pend∧(st (i+1)).hist=(st i).hist∧(st (i+1)).seen=(st i).seen
def Im (i:Nat)(o:Oper)(v:AV):Prop:=
 gW all N (st i).T o=true∧lU o.op=.act∧(∀e,(st i).last=some e→cA A i e=true)∧
 (∃m,l3 A i (st i).pend (st i).H.m=some (m,(st (i+1)).pend)∧∃tp ms u H',pn E call (lw E.ng (st i).T (o.looksAt all)) o.op ⟨m,(st i).H.nx,tp,ms⟩=some (u,H')∧(∀p∈H'.ms,p)∧(st (i+1)).H=⟨H'.m,H'.nx⟩∧gI u v)∧
 (∃ms,sG E all A i (st (i+1)).H.m (st i).seen=some ms∧∀p∈ms,p)∧
 (st (i+1)).last=some i∧(st (i+1)).hist=(i,(st i).H.m)::(st i).hist∧(st (i+1)).seen=(st i).seen
def Ax (i:Nat)(o:Oper)(v:AV)(kb:ag):Prop:=
 (qA all (st i).T o=true∧iu N (st i).T o.dst v=some (st (i+1)).T)∧(T9 all N st i o v∨Sc E all A N st i o v∨Hg E all N i0 st i o v kb∨Im E call all A N st i o v)
theorem N8 {all:Array Oper}{N:Nat}{st:Nat→gU}(h:tc all=true)(e:Nat):¬dK all N st e:=by
 rintro⟨o,ho,_,hk⟩
 have:=cK.1 h o (by
  obtain⟨hlt,rfl⟩:=eI.1 ho
  simp)
 rw[hk]at this
 cases this
theorem N9 (i:Nat)(o:Oper)(h:qK E call all A N i0 o i (st i)=some (st (i+1)))(hm:∀p∈(st (i+1)).ms,p):∃v kb,Ax E call all A N i0 st i o v kb:=by
 unfold qK at h
 have hkn:=(ay h).1
 replace h:=(ay h).2
 cases hw:gW all N (st i).T o with
 |true=>
  simp only[hw,aU]at h
  split at h
  ·rename_i hk
   split at h
   ·cases h
   rename_i mq lq hmq
   split at h
   ·cases h
   ·rename_i v m1 hv
    generalize hfo:nG (qd all o.dst) v (st i).tp=r at h
    obtain⟨u,tp,m2⟩:=r
    simp only at h
    split at h
    ·cases h
    ·rename_i m3 hsb
     split at h
     ·cases h
     ·rename_i T' hT
      simp only[bv]at h
      have hms:∀p∈m1++m2++m3,p:=fun p hp=>hm p (by rw[←h];simp only[fX]at hp⊢;exact .inl hp)
      obtain⟨hm12,hm3⟩:=dJ hms
      obtain⟨hm1,hm2⟩:=dJ hm12
      refine⟨u,⟨.plain [],0,0,false,false⟩,⟨hkn,by rw[←h];exact hT⟩,.inr (.inl ⟨hw,hk,?_,fun hl=>?_,?_⟩)⟩
      ·cases hna:tc all with
       |false=>
        rw[hna]at hmq
        cases hmq
        exact .inl ⟨v,m1,hv,hm1,uL hfo hm2⟩
       |true=>
        rw[hna]at hmq
        exact .inr ⟨rfl,mq,lq,hmq,v,m1,hv,hm1,uL hfo hm2⟩
      ·rw[hl]at hsb;exact⟨m3,hsb,hm3⟩
      ·rw[←h];exact⟨rfl,rfl,rfl,rfl,rfl⟩
  ·rename_i hk
   split at h
   ·cases h
   ·rename_i k hv
    split at h
    ·cases h
    ·rename_i T' hT
     simp only[bv]at h
     refine⟨k.v,k.blk,⟨hkn,by rw[←h];exact hT⟩,.inr (.inr (.inl ⟨hw,hk,hv,?_⟩))⟩
     rw[←h];exact⟨rfl,rfl,rfl,rfl,rfl⟩
  ·rename_i hk
   obtain⟨hl,h⟩:=ay h
   split at h
   ·cases h
   ·rename_i m pend hmm
    split at h
    ·cases h
    ·rename_i v H' hv
     generalize hfo:nG (qd all o.dst) v H'.tp=r at h
     obtain⟨u,tp,m2⟩:=r
     simp only at h
     split at h
     ·cases h
     ·rename_i m3 hso
      split at h
      ·cases h
      ·rename_i T' hT
       simp only[bv]at h
       have hms:∀p∈m2++m3++H'.ms,p:=fun p hp=>hm p (by rw[←h];exact hp)
       obtain⟨hm23,hmH⟩:=dJ hms
       obtain⟨hm2,hm3⟩:=dJ hm23
       refine⟨u,⟨.plain [],0,0,false,false⟩,⟨hkn,by rw[←h];exact hT⟩,.inr (.inr (.inr ⟨hw,hk,fun e he=>?_,⟨m,by rw[←h];exact hmm,_,_,v,H',hv,hmH,by rw[←h],uL hfo hm2⟩,⟨m3,by rw[←h];exact hso,hm3⟩,?_⟩))⟩
       ·rw[he]at hl;exact hl
       ·rw[←h];exact⟨rfl,rfl,rfl⟩
 |false=>
  simp only[hw,bt]at h
  split at h
  ·cases h
  ·rename_i T' hT
   simp only[bv]at h
   refine⟨.tup [],⟨.plain [],0,0,false,false⟩,⟨hkn,by rw[←h];exact hT⟩,.inl ⟨hw,rfl,?_⟩⟩
   rw[←h];exact⟨rfl,rfl,rfl,rfl,rfl⟩
end
theorem yD (A:Tr Nat)(i:Nat):∀(l:List (Nat×Nat×ag))(m m':Tr ag)(l':List (Nat×Nat×ag)),l3 A i l m=some (m',l')→
 (∀j n k j' k',(j,n,k)∈l→(j',n,k')∈l→j=j'∧k=k')→
 (∀j n k,(j,n,k)∈l→cA A i j=true→m'.get n=some k)∧(∀b,(∀j k,(j,b,k)∈l→cA A i j=false)→m'.get b=m.get b)∧(∀x,x∈l'↔x∈l∧cA A i x.1=false):=by
 intro l
 induction l with
 |nil=>
  intro m m' l' h _
  simp only[l3,bv,dh]at h
  obtain⟨rfl,rfl⟩:=h
  exact⟨si,fun _ _=>rfl,si⟩
 |cons x l ih=>
  intro m m' l' h hu
  obtain⟨j,n,k⟩:=x
  have hu':∀j n k j' k',(j,n,k)∈l→(j',n,k')∈l→j=j'∧k=k':=fun j n k j' k' h1 h2=>hu j n k j' k' (by simp[h1]) (by simp[h2])
  simp only[l3]at h
  cases hb:cA A i j with
  |true=>
   simp only[hb,aU]at h
   split at h
   ·cases h
   ·rename_i m1 hm1
    obtain⟨g1,g2,g3⟩:=ih m1 m' l' h hu'
    have hg:=ej hm1
    refine⟨?_,?_,?_⟩
    ·intro j2 n2 k2 hmem hb2
     rcases bC.1 hmem with heq|hmem
     ·cases heq
      by_cases hin:∃j3 k3,(j3,n,k3)∈l
      ·obtain⟨j3,k3,h3⟩:=hin
       obtain⟨e1,e2⟩:=hu j n k j3 k3 si (by simp[h3])
       subst e1 e2
       exact g1 _ _ _ h3 hb
      ·rw[g2 n (fun j3 k3 h3=>(hin ⟨j3,k3,h3⟩).elim),hg,eU]
     ·exact g1 _ _ _ hmem hb2
    ·intro b hbn
     rw[g2 b (fun j2 k2 h2=>hbn j2 k2 (by simp[h2])),hg]
     by_cases e:b=n
     ·subst e
      have:=hbn j k si
      rw[hb]at this
      cases this
     ·rw[dj _ _ e]
    ·intro x
     rw[g3 x]
     constructor
     ·rintro⟨h1,h2⟩;exact⟨by simp[h1],h2⟩
     ·rintro⟨h1,h2⟩
      rcases bC.1 h1 with rfl|h1
      ·rw[hb]at h2;cases h2
      ·exact⟨h1,h2⟩
  |false=>
   simp only[hb,bt]at h
   split at h
   ·cases h
   ·rename_i m1 l1 hm1
    simp only[bv,dh]at h
    obtain⟨rfl,rfl⟩:=h
    obtain⟨g1,g2,g3⟩:=ih m m1 l1 hm1 hu'
    refine⟨?_,?_,?_⟩
    ·intro j2 n2 k2 hmem hb2
     rcases bC.1 hmem with heq|hmem
     ·cases heq;rw[hb]at hb2;cases hb2
     ·exact g1 _ _ _ hmem hb2
    ·intro b hbn
     exact g2 b (fun j2 k2 h2=>hbn j2 k2 (by simp[h2]))
    ·intro x
     simp only[bC,g3 x]
     constructor
     ·rintro(rfl|⟨h1,h2⟩)
      ·exact⟨.inl rfl,hb⟩
      ·exact⟨.inr h1,h2⟩
     ·rintro⟨h1|h1,h2⟩
      ·exact .inl h1
      ·exact .inr ⟨h1,h2⟩
theorem LM:∀(l:List (Nat×Nat×ag))(m m':Tr ag),rY l m=some m'→(∀j n k j' k',(j,n,k)∈l→(j',n,k')∈l→j=j'∧k=k')→
 (∀j n k,(j,n,k)∈l→m'.get n=some k)∧(∀b,(∀j k,(j,b,k)∉l)→m'.get b=m.get b):=by
 intro l
 induction l with
 |nil=>
  intro m m' h _
  simp only[rY,bv]at h
  subst h
  exact⟨si,fun _ _=>rfl⟩
 |cons x l ih=>
  intro m m' h hu
  obtain⟨j,n,k⟩:=x
  simp only[rY]at h
  split at h
  ·cases h
  ·rename_i m1 hm1
   obtain⟨g1,g2⟩:=ih m1 m' h (fun j n k j' k' h1 h2=>hu j n k j' k' (by simp[h1]) (by simp[h2]))
   have hg:=ej hm1
   refine⟨?_,?_⟩
   ·intro j2 n2 k2 hmem
    rcases bC.1 hmem with heq|hmem
    ·cases heq
     by_cases hin:∃j3 k3,(j3,n,k3)∈l
     ·obtain⟨j3,k3,h3⟩:=hin
      obtain⟨e1,e2⟩:=hu j n k j3 k3 si (by simp[h3])
      subst e1 e2
      exact g1 _ _ _ h3
     ·rw[g2 n (fun j3 k3 h3=>hin ⟨j3,k3,h3⟩),hg,eU]
    ·exact g1 _ _ _ hmem
   ·intro b hb
    rw[g2 b (fun j2 k2 h2=>hb j2 k2 (by simp[h2])),hg,dj]
    intro e
    exact hb j k (by simp[e])
theorem LN {E:cj}{all:Array Oper}{A:Tr Nat}{i:Nat}{o:Oper}{T:Tr AV}{v:AV}{e:Nat}{m:Tr ag}{l2:List (Nat×Tr ag)}:∀(l1:List (Nat×Tr ag))(ms:List Prop),qe E all A i o T v (l1++(e,m)::l2)=some ms→(∀p∈ms,p)→
 (∀p∈l1,cA A i p.1=false)→cA A i e=false→mT E all o T v m:=by
 intro l1
 induction l1 with
 |nil=>
  intro ms h hm _ he
  simp only[pQ,qe,he,bt]at h
  split at h
  ·cases h
  ·rename_i m1 h1
   split at h
   ·cases h
   ·cases h
    exact DX h1 (dJ hm).1
 |cons p l1 ih=>
  intro ms h hm hl he
  obtain⟨e1,m1⟩:=p
  have h1:=hl (e1,m1) si
  simp only[]at h1
  simp only[kT,qe,h1,bt]at h
  split at h
  ·cases h
  ·split at h
   ·cases h
   ·rename_i m2 h2
    cases h
    exact ih _ h2 (dJ hm).2 (fun p hp=>hl p (by simp[hp])) he
theorem ME {E:cj}{all:Array Oper}{A:Tr Nat}{e:Nat}{m:Tr ag}:∀(l:List wK)(ms:List Prop),sG E all A e m l=some ms→(∀p∈ms,p)→∀s∈l,cA A e s.i=false→mT E all s.o s.T s.v m:=by
 intro l
 induction l with
 |nil=>intro ms _ _ s hs;simp at hs
 |cons x l ih=>
  intro ms h hm s hs hb
  simp only[sG]at h
  split at h
  ·cases h
  ·rename_i m1 h1
   split at h
   ·cases h
   ·rename_i m2 h2
    cases h
    rcases bC.1 hs with rfl|hs
    ·rw[hb]at h1
     exact DX h1 (dJ hm).1
    ·exact ih _ h2 (dJ hm).2 s hs hb
structure fC (E:cj)(call:bq)(all:Array Oper)(A:Tr Nat)(N i0:Nat)(st:Nat→gU)(val:Nat→AV)(mk:Nat→ag):Prop where
 static:F0 all A
 last0:(st 0).last=none
 pend0:(st 0).pend=[]
 hist0:(st 0).hist=[]
 step:∀(i:Nat)(o:Oper),all[i]? =some o→Ax E call all A N i0 st i o (val i) (mk i)
section
variable {E:cj}{call:bq}{all:Array Oper}{A:Tr Nat}{N i0:Nat}{st:Nat→gU}{val:Nat→AV}{mk:Nat→ag}(hp:fC E call all A N i0 st val mk)
include hp
theorem fC.actR {i:Nat}(h:dK all N st i):∃o,all[i]? =some o∧Im E call all A N st i o (val i):=by
 obtain⟨o,ho,hw,hk⟩:=h
 obtain⟨_,h|h|h|h⟩:=hp.step i o ho
 ·rw[h.1]at hw;cases hw
 ·rw[h.2.1]at hk;cases hk
 ·rw[h.2.1]at hk;cases hk
 ·exact⟨o,ho,h⟩
theorem fC.mkR {i:Nat}(h:eH all N st i):∃o,all[i]? =some o∧Hg E all N i0 st i o (val i) (mk i):=by
 obtain⟨o,ho,hw,hk⟩:=h
 obtain⟨_,h|h|h|h⟩:=hp.step i o ho
 ·rw[h.1]at hw;cases hw
 ·rw[h.2.1]at hk;cases hk
 ·exact⟨o,ho,h⟩
 ·rw[h.2.1]at hk;cases hk
theorem fC.still {i:Nat}(hi:i<all.size)(h:¬dK all N st i):(st (i+1)).H=(st i).H∧(st (i+1)).last=(st i).last∧(st (i+1)).hist=(st i).hist:=by
 have ho:all[i]? =some all[i]:=by simp[hi]
 obtain⟨_,g|g|g|g⟩:=hp.step i _ ho
 ·exact⟨g.2.2.1,g.2.2.2.1,g.2.2.2.2.2.1⟩
 ·exact⟨g.2.2.2.2.1,g.2.2.2.2.2.1,g.2.2.2.2.2.2.2.1⟩
 ·exact⟨g.2.2.2.1,g.2.2.2.2.1,g.2.2.2.2.2.2.1⟩
 ·exact(h ⟨_,ho,g.1,g.2.1⟩).elim
theorem fC.stillTo {c d:Nat}(hd:d≤all.size)(hcd:c≤d)(h:∀e,c≤e→e<d→¬dK all N st e):(st d).H=(st c).H:=by
 induction d with
 |zero=>have:c=0:=by omega
        rw[this]
 |succ d ih=>
  by_cases e:c=d+1
  ·rw[e]
  ·rw[(hp.still om (h d om om)).1]
   exact ih om om (fun e h1 h2=>h e h1 om)
theorem fC.lastOk (i:Nat)(hi:i≤all.size):match(st i).last with
 |none=>∀e,e<i→¬dK all N st e
 |some e0=>e0<i∧dK all N st e0∧∀e,e0<e→e<i→¬dK all N st e:=by
 induction i with
 |zero=>rw[hp.last0];intro e he;omega
 |succ i ih=>
  have ih:=ih om
  by_cases ha:dK all N st i
  ·obtain⟨o,ho,hr⟩:=hp.actR ha
   rw[hr.2.2.2.2.2.1]
   exact⟨om,ha,fun e h1 h2=>om⟩
  ·rw[(hp.still om ha).2.1]
   split at ih
   ·rename_i hl
    intro e he
    by_cases e1:e=i
    ·rw[e1];exact ha
    ·exact ih e om
   ·rename_i e0 hl
    refine⟨om,ih.2.1,fun e h1 h2=>?_⟩
    by_cases e1:e=i
    ·rw[e1];exact ha
    ·exact ih.2.2 e h1 om
theorem fC.before {L:Nat→Prop}(hcl:∀j,L j→∀i,cA A j i=true→L i):∀(i:Nat),dK all N st i→(∀j,cA A i j=true→L j)→∀e,e<i→dK all N st e→L e:=by
 intro i
 induction i using Nat.strongRecOn with
 |_ i ih=>
  intro ha hanc e he hae
  obtain⟨o,ho,hr⟩:=hp.actR ha
  have hlt:i<all.size:=(eI.1 ho).1
  have hl:=hp.lastOk i om
  split at hl
  ·exact(hl e he hae).elim
  ·rename_i e0 hl0
   have hL0:L e0:=hanc e0 (hr.2.2.1 e0 hl0)
   by_cases e1:e=e0
   ·rw[e1];exact hL0
   ·by_cases e2:e0<e
    ·exact(hl.2.2 e e2 he hae).elim
    ·exact ih e0 hl.1 hl.2.1 (hcl e0 hL0) e om hae
theorem fC.histOk (i:Nat)(hi:i≤all.size):∀e,e<i→dK all N st e→∃l1 l2,(st i).hist=l1++(e,(st e).H.m)::l2∧∀p∈l1,dK all N st p.1∧e<p.1∧p.1<i:=by
 induction i with
 |zero=>intro e he;omega
 |succ i ih=>
  intro e he hae
  have ih:=ih om
  by_cases ha:dK all N st i
  ·obtain⟨o,ho,hr⟩:=hp.actR ha
   have hh:=hr.2.2.2.2.2.2.1
   by_cases e1:e=i
   ·subst e1
    exact⟨[],(st e).hist,by rw[hh];rfl,si⟩
   ·obtain⟨l1,l2,h1,h2⟩:=ih e om hae
    refine⟨(i,(st i).H.m)::l1,l2,by rw[hh,h1];rfl,?_⟩
    intro p hp'
    rcases bC.1 hp' with rfl|hp'
    ·exact⟨ha,by simp;omega,si⟩
    ·obtain⟨q1,q2,q3⟩:=h2 p hp'
     exact⟨q1,q2,om⟩
  ·rw[(hp.still om ha).2.2]
   have e1:e≠i:=by intro e1;rw[e1]at hae;exact ha hae
   obtain⟨l1,l2,h1,h2⟩:=ih e om hae
   exact⟨l1,l2,h1,fun p hp'=>by obtain⟨q1,q2,q3⟩:=h2 p hp';exact⟨q1,q2,om⟩⟩
theorem fC.seenOk {i:Nat}{o:Oper}(ho:all[i]? =some o)(hw:gW all N (st i).T o=true)(hk:lU o.op=.quiet)(hl:lf o.op=true):∀d,i<d→d≤all.size→(⟨i,o,(st i).T,val i⟩:wK)∈(st d).seen:=by
 intro d
 induction d with
 |zero=>intro h;omega
 |succ d ih=>
  intro hd hds
  by_cases e:d=i
  ·subst e
   obtain⟨_,g|g|g|g⟩:=hp.step d o ho
   ·rw[g.1]at hw;cases hw
   ·rw[g.2.2.2.2.2.2.2.2,hl];simp
   ·rw[g.2.1]at hk;cases hk
   ·rw[g.2.1]at hk;cases hk
  ·have ih:=ih om om
   have ho':all[d]? =some all[d]:=by simp[show d<all.size by omega]
   obtain⟨_,g|g|g|g⟩:=hp.step d _ ho'
   ·rw[g.2.2.2.2.2.2];exact ih
   ·rw[g.2.2.2.2.2.2.2.2]
    cases lf all[d].op
    ·exact ih
    ·simp[ih]
   ·rw[g.2.2.2.2.2.2.2];exact ih
   ·rw[g.2.2.2.2.2.2.2];exact ih
theorem fC.sees {i:Nat}{o:Oper}(ho:all[i]? =some o)(hw:gW all N (st i).T o=true)(hk:lU o.op=.quiet){c:Nat}(hc:c≤all.size)
 (hb:∀e,dK all N st e→c≤e→e<i→cA A i e=false)(hf:∀e,dK all N st e→i<e→e<c→cA A e i=false):
 mT E all o (st i).T (val i) (st c).H.m∨(tc all=true∧∃m l,l3 A i (st i).pend (st i).H.m=some (m,l)∧mT E all o (st i).T (val i) m):=by
 have hlt:i<all.size:=(eI.1 ho).1
 obtain⟨_,g|g|g|g⟩:=hp.step i o ho
 ·rw[g.1]at hw;cases hw
 ·rcases g.2.2.1 with hq|hq
  rotate_left
  ·exact .inr hq
  refine .inl ?_
  cases hl:lf o.op with
  |false=>
   obtain⟨u,ms,q1,q2,q3⟩:=hq
   exact⟨u,ms,by rw[MC (st c).H.m (st i).H.m _ _ _ hl];exact q1,q2,q3⟩
  |true=>
   by_cases hci:c≤i
   ·by_cases hex:∃e,c≤e∧e<i∧dK all N st e
    ·-- the first act from c on
     have hmin:∃e,(c≤e∧e<i∧dK all N st e)∧∀e',c≤e'→e'<e→¬dK all N st e':=by
      obtain⟨e,he⟩:=hex
      induction e using Nat.strongRecOn with
      |_ e ih=>
       by_cases h2:∃e',c≤e'∧e'<e∧dK all N st e'
       ·obtain⟨e',q1,q2,q3⟩:=h2
        exact ih e' q2 ⟨q1,om,q3⟩
       ·exact⟨e,he,fun e' q1 q2 q3=>h2 ⟨e',q1,q2,q3⟩⟩
     obtain⟨e,⟨he1,he2,he3⟩,hfirst⟩:=hmin
     obtain⟨l1,l2,h1,h2⟩:=hp.histOk i om e he2 he3
     obtain⟨msb,hsb,hmb⟩:=g.2.2.2.1 hl
     rw[h1]at hsb
     have hst:=hp.stillTo (c:=c) (d:=e) om he1 (fun e' q1 q2=>hfirst e' q1 q2)
     rw[←hst]
     exact LN l1 msb hsb hmb (fun p hp'=>by
      obtain⟨q1,q2,q3⟩:=h2 p hp'
      exact hb p.1 q1 om q3) (hb e he3 he1 he2)
    ·have hst:=hp.stillTo (c:=c) (d:=i) om hci (fun e q1 q2 q3=>hex ⟨e,q1,q2,q3⟩)
     rw[←hst];exact hq
   ·-- forward
    have key:∀d,i<d→d≤c→mT E all o (st i).T (val i) (st d).H.m:=by
     intro d
     induction d with
     |zero=>intro h;omega
     |succ d ih=>
      intro hd hdc
      by_cases e:d=i
      ·subst e;rw[g.2.2.2.2.1];exact hq
      ·by_cases ha:dK all N st d
       ·obtain⟨od,hod,hr⟩:=hp.actR ha
        obtain⟨mso,hs,hmo⟩:=hr.2.2.2.2.1
        have:=ME _ mso hs hmo _ (hp.seenOk ho hw hk hl d om om) (hf d ha om om)
        exact this
       ·rw[(hp.still om ha).1]
        exact ih om om
    exact key c om (bp _)
 ·rw[g.2.1]at hk;cases hk
 ·rw[g.2.1]at hk;cases hk
def Um (all:Array Oper)(A:Tr Nat)(N:Nat)(st:Nat→gU)(c j:Nat):Prop:=∀e,e<c→dK all N st e→cA A e j=false
theorem fC.pendOk (i:Nat)(hi:i≤all.size):∀j n k,(j,n,k)∈(st i).pend↔(eH all N st j∧j<i∧Um all A N st i j∧n=i0+j∧k=mk j):=by
 induction i with
 |zero=>intro j n k;rw[hp.pend0];simp
 |succ i ih=>
  have ih:=ih om
  intro j n k
  have hlt:i<all.size:=by omega
  have ho:all[i]? =some all[i]:=by simp[hlt]
  have umStep:¬dK all N st i→(Um all A N st (i+1) j↔Um all A N st i j):=by
   intro hna
   constructor
   ·intro h e he ha;exact h e om ha
   ·intro h e he ha
    by_cases e1:e=i
    ·rw[e1]at ha;exact(hna ha).elim
    ·exact h e om ha
  have notMk:¬eH all N st i→((eH all N st j∧j<i+1)↔(eH all N st j∧j<i)):=by
   intro hnm
   constructor
   ·rintro⟨h1,h2⟩
    refine⟨h1,?_⟩
    have:j≠i:=by intro e;rw[e]at h1;exact hnm h1
    omega
   ·rintro⟨h1,h2⟩;exact⟨h1,om⟩
  have uniq:∀o',all[i]? =some o'→o'=all[i]:=fun o' h'=>by rw[ho]at h';exact(xL h').symm
  obtain⟨_,g|g|g|g⟩:=hp.step i _ ho
  ·have hna:¬dK all N st i:=by rintro⟨o',h1,h2,h3⟩;rw[uniq o' h1]at h2;rw[g.1]at h2;cases h2
   have hnm:¬eH all N st i:=by rintro⟨o',h1,h2,h3⟩;rw[uniq o' h1]at h2;rw[g.1]at h2;cases h2
   rw[g.2.2.2.2.1,ih j n k,umStep hna]
   constructor
   ·rintro⟨h1,h2,h3,h4,h5⟩;exact⟨h1,om,h3,h4,h5⟩
   ·rintro⟨h1,h2,h3,h4,h5⟩;exact⟨h1,((notMk hnm).1 ⟨h1,h2⟩).2,h3,h4,h5⟩
  ·have hna:¬dK all N st i:=by rintro⟨o',h1,h2,h3⟩;rw[uniq o' h1]at h3;rw[g.2.1]at h3;cases h3
   have hnm:¬eH all N st i:=by rintro⟨o',h1,h2,h3⟩;rw[uniq o' h1]at h3;rw[g.2.1]at h3;cases h3
   rw[g.2.2.2.2.2.2.1,ih j n k,umStep hna]
   constructor
   ·rintro⟨h1,h2,h3,h4,h5⟩;exact⟨h1,om,h3,h4,h5⟩
   ·rintro⟨h1,h2,h3,h4,h5⟩;exact⟨h1,((notMk hnm).1 ⟨h1,h2⟩).2,h3,h4,h5⟩
  ·have hna:¬dK all N st i:=by rintro⟨o',h1,h2,h3⟩;rw[uniq o' h1]at h3;rw[g.2.1]at h3;cases h3
   rw[g.2.2.2.2.2.1,bC,ih j n k,umStep hna]
   constructor
   ·rintro(h|⟨h1,h2,h3,h4,h5⟩)
    ·simp only[dh]at h
     obtain⟨rfl,rfl,rfl⟩:=h
     refine⟨⟨_,ho,g.1,g.2.1⟩,om,?_,rfl,rfl⟩
     intro e he ha
     cases hb:cA A e j with
     |false=>rfl
     |true=>
      exfalso
      -- an ancestor stands before
      have hbk:∀a b,cA A a b=true→b<a:=by
       intro a
       induction a using Nat.strongRecOn with
       |_ a iha=>
        intro b hab
        obtain⟨o',ho',ed,hed,hbd,hor⟩:=hp.static.anc b a hab
        have:=hp.static.back a o' ho' ed hed hbd
        rcases hor with rfl|hor
        ·exact this
        ·have:=iha ed.on this b hor;omega
      have:=hbk e j hb
      omega
    ·exact⟨h1,om,h3,h4,h5⟩
   ·rintro⟨h1,h2,h3,h4,h5⟩
    by_cases e:j=i
    ·subst e;left;rw[h4,h5]
    ·exact .inr ⟨h1,om,h3,h4,h5⟩
  ·have ha:dK all N st i:=⟨_,ho,g.1,g.2.1⟩
   have hnm:¬eH all N st i:=by rintro⟨o',h1,h2,h3⟩;rw[uniq o' h1]at h3;rw[g.2.1]at h3;cases h3
   obtain⟨m,hm,_⟩:=g.2.2.2.1
   have hu:∀j n k j' k',(j,n,k)∈(st i).pend→(j',n,k')∈(st i).pend→j=j'∧k=k':=by
    intro j n k j' k' h1 h2
    obtain⟨_,_,_,q1,q2⟩:=(ih j n k).1 h1
    obtain⟨_,_,_,r1,r2⟩:=(ih j' n k').1 h2
    have:j=j':=by omega
    subst this
    exact⟨rfl,by rw[q2,r2]⟩
   have hm3:=(yD A i _ _ _ _ hm hu).2.2 (j,n,k)
   rw[hm3,ih j n k]
   constructor
   ·rintro⟨⟨h1,h2,h3,h4,h5⟩,h6⟩
    refine⟨h1,om,?_,h4,h5⟩
    intro e he hae
    by_cases e1:e=i
    ·rw[e1];exact h6
    ·exact h3 e om hae
   ·rintro⟨h1,h2,h3,h4,h5⟩
    have:j≠i:=by intro e;rw[e]at h1;exact hnm h1
    exact⟨⟨h1,om,fun e he hae=>h3 e om hae,h4,h5⟩,h3 i om ha⟩
theorem fC.ancLt:∀a b,cA A a b=true→b<a:=by
 intro a
 induction a using Nat.strongRecOn with
 |_ a iha=>
  intro b hab
  obtain⟨o',ho',ed,hed,hbd,hor⟩:=hp.static.anc b a hab
  have:=hp.static.back a o' ho' ed hed hbd
  rcases hor with rfl|hor
  ·exact this
  ·have:=iha ed.on this b hor;omega
theorem fC.pendUniq (i:Nat)(hi:i≤all.size):∀j n k j' k',(j,n,k)∈(st i).pend→(j',n,k')∈(st i).pend→j=j'∧k=k':=by
 intro j n k j' k' h1 h2
 obtain⟨_,_,_,q1,q2⟩:=(hp.pendOk i hi j n k).1 h1
 obtain⟨_,_,_,r1,r2⟩:=(hp.pendOk i hi j' n k').1 h2
 have:j=j':=by omega
 subst this
 exact⟨rfl,by rw[q2,r2]⟩
theorem fC.writer {w1 w2 t:Nat}{o1 o2:Oper}(h1:all[w1]? =some o1)(h2:all[w2]? =some o2)(d1:o1.dst=some t)(d2:o2.dst=some t):w1=w2:=by
 have key:∀(a b:Nat)(oa ob:Oper),a<b→all[a]? =some oa→all[b]? =some ob→oa.dst=some t→ob.dst=some t→False:=by
  intro a b oa ob hab ha hb da db
  rcases hp.static.pair a b oa ob hab ha hb with h|⟨_,h⟩
  ·exact(Oper.apart_spec h).2.1 t da db
  ·exact h t da db
 rcases uo w1 w2 with h|h|h
 ·exact(key _ _ _ _ h h1 h2 d1 d2).elim
 ·exact h
 ·exact(key _ _ _ _ h h2 h1 d2 d1).elim
theorem fC.tlook (i:Nat)(hi:i≤all.size)(t:Nat):(∀w o,all[w]? =some o→o.dst=some t→w<i→(st i).T.get t=some (val w))∧((∀w o,all[w]? =some o→o.dst=some t→¬w<i)→(st i).T.get t=(st 0).T.get t):=by
 induction i with
 |zero=>exact⟨fun w o _ _ h=>om,fun _=>rfl⟩
 |succ i ih=>
  obtain⟨ih1,ih2⟩:=ih om
  have hlt:i<all.size:=by omega
  have ho:all[i]? =some all[i]:=by simp[hlt]
  have hput:=(hp.step i _ ho).1.2
  have hget:(st (i+1)).T.get t=if all[i].dst=some t then some (val i)else(st i).T.get t:=by
   cases hd:all[i].dst with
   |none=>
    rw[hd]at hput
    simp only[iu,bv]at hput
    rw[←hput];simp
   |some d=>
    rw[hd]at hput
    simp only[iu]at hput
    cases hb:Nat.blt d N with
    |false=>simp[hb]at hput
    |true=>
     simp only[hb,aU]at hput
     rw[Tr.get_set hput t]
     by_cases e:t=d
     ·simp[e]
     ·have:d≠t:=fun h=>e h.symm
      simp[e,this]
  refine⟨fun w o hw hd hlt'=>?_,fun hno=>?_⟩
  ·rw[hget]
   by_cases e:w=i
   ·subst e
    rw[ho]at hw
    cases hw
    rw[if_pos hd]
   ·have hne:all[i].dst≠some t:=by
     intro h
     exact e (hp.writer hw ho hd h)
    rw[if_neg hne]
    exact ih1 w o hw hd om
  ·rw[hget,if_neg (fun h=>hno i _ ho h om)]
   exact ih2 (fun w o hw hd hlt'=>hno w o hw hd om)
end
section
theorem Qp {ti:Tr TypeInfo}{ρ:Operand→Option AV}{op:Op}{i:Nat}{m:tk}(h:pF ti ρ op i=some m):m.blk.own=true:=by
 unfold pF at h
 split at h
 ·split at h
  ·cases h
  ·cases h;rfl
 ·split at h
  ·cases h
  ·cases h;rfl
 ·split at h
  ·cases h
  ·unfold xX at h
   split at h
   ·split at h
    ·obtain⟨_,h⟩:=ay h
     split at h
     ·cases h
     ·cases h;rfl
    ·cases h
   ·cases h
 ·split at h
  ·cases h
  ·split at h
   ·cases h
   ·unfold Aq at h
    split at h
    ·split at h
     ·split at h
      ·obtain⟨_,h⟩:=ay h
       cases h;rfl
      ·cases h
     ·cases h
    ·cases h
 ·cases h
open Classical in
noncomputable def Uf (all:Array Oper)(A:Tr Nat)(N i0:Nat)(st:Nat→gU)(mk:Nat→ag)(L:Nat→Prop)(c:Nat):Hf:=fun b=>
 if i0≤b∧eH all N st (b-i0)∧L (b-i0)∧Um all A N st c (b-i0)then some (mk (b-i0))else(st c).H.m.get b
open Classical in
noncomputable def Pf (all:Array Oper)(A:Tr Nat)(N i0:Nat)(st:Nat→gU)(mk:Nat→ag)(L:Nat→Prop)(c i:Nat):Hf:=fun b=>
 if i0≤b∧eH all N st (b-i0)∧L (b-i0)∧Um all A N st c (b-i0)∧cA A i (b-i0)=false then some (mk (b-i0))else none
structure gd (E:cj)(all:Array Oper)(A:Tr Nat)(N i0:Nat)(st:Nat→gU)(val:Nat→AV)(mk:Nat→ag)(γ0:Gm)(f0:Hf)(w0:World)(L:Nat→Prop)(c:Nat)(γ:Gm)(a:Act)(w:World):Prop where
 closed:∀j,L j→∀i,cA A j i=true→L i
 bound:∀j,L j→j<all.size
 cle:c≤all.size
 stage:∀e,dK all N st e→(L e↔e<c)
 defers:a.defers=[]
 size:a.tmps.size=N
 glob:iO E.ng γ
 wr:∀t w o,all[w]? =some o→o.dst=some t→L w→aj γ (val w) (a.tmps.getD t undef)
 un:∀t,(∀w o,all[w]? =some o→o.dst=some t→¬L w)→∀v,(st 0).T.get t=some v→aj γ v (a.tmps.getD t undef)
 stp:be γ0 f0 w0 γ (Uf all A N i0 st mk L c) (st c).H.nx w
 keep:∀b,b<i0→γ b=γ0 b
 fresh:∀j,j<all.size→¬L j→γ (i0+j)=none
 empty:∀j,j<all.size→Um all A N st c j→(st c).H.m.get (i0+j)=none
 nx:i0+all.size≤(st c).H.nx
section
variable {P:Program}{E:cj}(hE:eW P E){call:bq}(hc:bV P E.ng call)
variable {all:Array Oper}{A:Tr Nat}{N i0:Nat}{st:Nat→gU}{val:Nat→AV}{mk:Nat→ag}(hp:fC E call all A N i0 st val mk)
variable {γ0:Gm}{f0:Hf}{w0:World}{L:Nat→Prop}{c:Nat}{γ:Gm}{a:Act}{w:World}
theorem gd.agree (hp:fC E call all A N i0 st val mk)(hv:gd E all A N i0 st val mk γ0 f0 w0 L c γ a w){i:Nat}{o:Oper}(ho:all[i]? =some o)(hL:¬L i)(hanc:∀j,cA A i j=true→L j){t:Nat}(ht:t∈o.looksAt all){v:AV}(hTv:(st i).T.get t=some v):aj γ v (a.tmps.getD t undef):=by
 have hlt:i<all.size:=(eI.1 ho).1
 obtain⟨h1,h2⟩:=hp.tlook i om t
 by_cases hex:∃(w:Nat) (o':Oper),all[w]? =some o'∧o'.dst=some t
 ·obtain⟨wi,o',hw,hd⟩:=hex
  rcases uo wi i with h|h|h
  ·rw[h1 wi o' hw hd h]at hTv
   cases hTv
   refine hv.wr t wi o' hw hd ?_
   rcases hp.static.pair wi i o' o h hw ho with hap|⟨hb,_⟩
   ·exact((Oper.apart_spec hap).1 t hd ht).elim
   ·exact hanc wi hb
  ·subst h
   rw[h2 (fun w2 o2 hw2 hd2=>by have:=hp.writer hw2 hw hd2 hd;omega)]at hTv
   exact hv.un t (fun w2 o2 hw2 hd2=>by have:=hp.writer hw2 hw hd2 hd;rw[this];exact hL) v hTv
  ·rw[h2 (fun w2 o2 hw2 hd2=>by have:=hp.writer hw2 hw hd2 hd;omega)]at hTv
   refine hv.un t (fun w2 o2 hw2 hd2 hL2=>?_) v hTv
   have:=hp.writer hw2 hw hd2 hd
   subst this
   rcases hp.static.pair i w2 o o' h ho hw with hap|⟨hb,_⟩
   ·exact(Oper.apart_spec hap).2.2 t hd ht
   ·exact hL (hv.closed w2 hL2 i hb)
 ·rw[h2 (fun w2 o2 hw2 hd2=>(hex ⟨w2,o2,hw2,hd2⟩).elim)]at hTv
  exact hv.un t (fun w2 o2 hw2 hd2=>(hex ⟨w2,o2,hw2,hd2⟩).elim) v hTv
theorem gd.rho (hp:fC E call all A N i0 st val mk)(hv:gd E all A N i0 st val mk γ0 f0 w0 L c γ a w){i:Nat}{o:Oper}(ho:all[i]? =some o)(hL:¬L i)(hanc:∀j,cA A i j=true→L j)(x:Operand)(v:AV)
 (hq:lw E.ng (st i).T (o.looksAt all) x=some v):aj γ v (a.eval x):=by
 cases x with
 |tmp t=>
  simp only[lw]at hq
  obtain⟨hb,hq⟩:=ay hq
  have ht:t∈o.looksAt all:=by
   obtain⟨u,hu,he⟩:=List.any_eq_true.1 hb
   rw[←aM he];exact hu
  exact hv.agree hp ho hL hanc ht hq
 |const V=>exact uV γ hq
 |global g=>
  simp only[lw,oE]at hq
  obtain⟨hb,hq⟩:=ay hq
  cases hq
  exact .ptr 0 (hv.glob g (aT hb))
 |func f=>simp only[lw,oE,bv]at hq;subst hq;exact .fn f .nil
theorem gd.want (hp:fC E call all A N i0 st val mk)(hv:gd E all A N i0 st val mk γ0 f0 w0 L c γ a w){i:Nat}{o:Oper}(ho:all[i]? =some o)(hL:¬L i)(hanc:∀j,cA A i j=true→L j):Region.wanted o (yielded all a.tmps)=gW all N (st i).T o:=by
 unfold Region.wanted gW
 cases hg:o.guard with
 |none=>rfl
 |some p=>
  obtain⟨j,want⟩:=p
  simp only
  have hy:yielded all a.tmps j=pd all N (st i).T j:=by
   unfold yielded pd
   cases hoj:all[j]? with
   |none=>rfl
   |some oj=>
    simp only[Option.bind_some]
    cases hd:oj.dst with
    |none=>rfl
    |some d=>
     simp only[Option.bind_some]
     have hmem:d∈o.looksAt all:=by
      unfold Oper.looksAt
      rw[hg]
      simp[hoj,hd]
     obtain⟨x,hx⟩:=Option.isSome_iff_exists.1 (Eo (hp.step i o ho).1.1 hg oj d hoj hd)
     have ht:=hv.agree hp ho hL hanc hmem hx
     have hsz:=hv.size
     cases hb:Nat.blt d N with
     |true=>
      have hlt':d<a.tmps.size:=by rw[hsz];exact aT hb
      rw[Array.getElem?_eq_getElem hlt']
      have e:a.tmps.getD d undef=a.tmps[d]:=by simp[Array.getD,hlt']
      rw[e]at ht
      simp only[aU]
      rw[hx]
      exact Cu ht
     |false=>
      have hge:a.tmps.size≤d:=by
       rw[hsz]
       rcases bA d N with h'|h'
       ·have:Nat.blt d N=true:=fW h'
        rw[this]at hb;cases hb
       ·exact h'
      rw[Array.getElem?_eq_none hge]
      rfl
  rw[hy]
  cases pd all N (st i).T j with
  |none=>rfl
  |some b=>cases want<;>cases b<;>rfl
theorem gd.put (hp:fC E call all A N i0 st val mk)(hv:gd E all A N i0 st val mk γ0 f0 w0 L c γ a w){i:Nat}{o:Oper}(ho:all[i]? =some o)(hL:¬L i){γ':Gm}(hle:γ.le γ'){V:Value}(hV:aj γ' (val i) V):
 (a.put o.dst V).defers=[]∧(a.put o.dst V).tmps.size=N∧iO E.ng γ'∧
 (∀t w o',all[w]? =some o'→o'.dst=some t→(L w∨w=i)→aj γ' (val w) ((a.put o.dst V).tmps.getD t undef))∧
 (∀t,(∀w o',all[w]? =some o'→o'.dst=some t→¬(L w∨w=i))→∀v,(st 0).T.get t=some v→aj γ' v ((a.put o.dst V).tmps.getD t undef)):=by
 have hput:=(hp.step i o ho).1.2
 have hget:∀t,(a.put o.dst V).tmps.getD t undef=if o.dst=some t then V else a.tmps.getD t undef:=by
  intro t
  cases hd:o.dst with
  |none=>simp[Act.put]
  |some d=>
   rw[hd]at hput
   simp only[iu]at hput
   obtain⟨hb,_⟩:=ay hput
   have hlt:d<a.tmps.size:=by rw[hv.size];exact aT hb
   by_cases e:d=t
   ·subst e
    simp[Act.put,Array.getD,hlt]
   ·have:=Act.eval_put (a:=a) (dst:=some d) (v:=V) (x:=.tmp t) (by intro d' hd';cases hd';intro h;cases h;exact e rfl)
    have h2:¬(some d=some t):=by intro h;cases h;exact e rfl
    rw[if_neg h2]
    exact this
 have hdef:(a.put o.dst V).defers=a.defers:=by cases o.dst<;>rfl
 have hsz:(a.put o.dst V).tmps.size=a.tmps.size:=by cases o.dst<;>simp[Act.put]
 refine⟨by rw[hdef];exact hv.defers,by rw[hsz];exact hv.size,fun g hg=>hle.nm _ _ (hv.glob g hg),?_,?_⟩
 ·intro t wi o' hw hd hLw
  rw[hget t]
  by_cases e:wi=i
  ·subst e
   rw[ho]at hw
   cases hw
   rw[if_pos hd]
   exact hV
  ·have hne:¬(o.dst=some t):=fun h=>e (hp.writer hw ho hd h)
   rw[if_neg hne]
   exact(hv.wr t wi o' hw hd (hLw.resolve_right e)).mono hle
 ·intro t hno v hTv
  rw[hget t]
  have hne:¬(o.dst=some t):=fun h=>hno i o ho h (.inr rfl)
  rw[if_neg hne]
  exact(hv.un t (fun w2 o2 h1 h2 h3=>hno w2 o2 h1 h2 (.inl h3)) v hTv).mono hle
theorem gd.sub (hv:gd E all A N i0 st val mk γ0 f0 w0 L c γ a w):∀b k,(st c).H.m.get b=some k→Uf all A N i0 st mk L c b=some k:=by
 intro b k hb
 unfold Uf
 split
 ·rename_i h
  obtain⟨h1,h2,h3,h4⟩:=h
  have:=hv.empty (b-i0) (hv.bound _ h3) h4
  rw[show i0+(b-i0)=b by omega,hb]at this
  cases this
 ·exact hb
theorem gd.quietStep (hp:fC E call all A N i0 st val mk)(hv:gd E all A N i0 st val mk γ0 f0 w0 L c γ a w){i:Nat}{o:Oper}(ho:all[i]? =some o)(hL:¬L i)(hanc:∀j,cA A i j=true→L j)(hna:¬dK all N st i)(hnm:¬eH all N st i){V:Value}(hV:aj γ (val i) V):
 gd E all A N i0 st val mk γ0 f0 w0 (fun j=>L j∨j=i) c γ (a.put o.dst V) w:=by
 obtain⟨p1,p2,p3,p4,p5⟩:=hv.put hp ho hL (Gm.le_refl γ) hV
 have hlt:i<all.size:=(eI.1 ho).1
 refine⟨?_,?_,hv.cle,?_,p1,p2,p3,p4,p5,?_,hv.keep,?_,hv.empty,hv.nx⟩
 ·rintro j (hj|rfl) i' hb
  ·exact .inl (hv.closed j hj i' hb)
  ·exact .inl (hanc i' hb)
 ·rintro j (hj|rfl)
  ·exact hv.bound j hj
  ·exact hlt
 ·intro e he
  have:e≠i:=by intro h;rw[h]at he;exact hna he
  rw[←hv.stage e he]
  exact⟨fun h=>h.resolve_right this,.inl⟩
 ·have:Uf all A N i0 st mk (fun j=>L j∨j=i) c=Uf all A N i0 st mk L c:=by
   funext b
   unfold Uf
   have hiff:(i0≤b∧eH all N st (b-i0)∧(L (b-i0)∨b-i0=i)∧Um all A N st c (b-i0))↔(i0≤b∧eH all N st (b-i0)∧L (b-i0)∧Um all A N st c (b-i0)):=by
    constructor
    ·rintro⟨h1,h2,h3,h4⟩
     refine⟨h1,h2,h3.resolve_right (fun e=>?_),h4⟩
     rw[e]at h2;exact hnm h2
    ·rintro⟨h1,h2,h3,h4⟩;exact⟨h1,h2,.inl h3,h4⟩
   by_cases hcnd:i0≤b∧eH all N st (b-i0)∧L (b-i0)∧Um all A N st c (b-i0)
   ·rw[if_pos (hiff.2 hcnd),if_pos hcnd]
   ·rw[if_neg (fun h=>hcnd (hiff.1 h)),if_neg hcnd]
  rw[this]
  exact hv.stp
 ·intro j hj hnL
  exact hv.fresh j hj (fun h=>hnL (.inl h))
end
section
variable {P:Program}{E:cj}(hE:eW P E){call:bq}(hc:bV P E.ng call)
variable {all:Array Oper}{A:Tr Nat}{N i0:Nat}{st:Nat→gU}{val:Nat→AV}{mk:Nat→ag}(hp:fC E call all A N i0 st val mk)
variable {γ0:Gm}{f0:Hf}{w0:World}{L:Nat→Prop}{c:Nat}{γ:Gm}{a:Act}{w:World}
include hE hc hp
theorem gd.step (hv:gd E all A N i0 st val mk γ0 f0 w0 L c γ a w){i:Nat}{o:Oper}(ho:all[i]? =some o)(hL:¬L i)(hanc:∀j,cA A i j=true→L j){K:Act→World→Prop}{Q:Exit→Act→World→Prop}
 (hK:∀c' γ' a' w',gd E all A N i0 st val mk γ0 f0 w0 (fun j=>L j∨j=i) c' γ' a' w'→K a' w'):wpOp P all Q i K a w:=by
 have hlt:i<all.size:=(eI.1 ho).1
 have uniq:∀o',all[i]? =some o'→o'=o:=fun o' h'=>by rw[ho]at h';exact(xL h').symm
 unfold wpOp
 simp only[ho]
 rw[hv.want hp ho hL hanc]
 have hrel:aJ γ (st c).H.m.get (st c).H.nx w:=hv.stp.rel.sub hv.sub
 obtain⟨hput,g|g|g|g⟩:=hp.step i o ho
 ·-- skipped
  have hna:¬dK all N st i:=by rintro⟨o',h1,h2,h3⟩;rw[uniq o' h1,g.1]at h2;cases h2
  have hnm:¬eH all N st i:=by rintro⟨o',h1,h2,h3⟩;rw[uniq o' h1,g.1]at h2;cases h2
  rw[g.1]
  simp only[nh,iF]
  exact hK c γ _ w (hv.quietStep hp ho hL hanc hna hnm (by rw[g.2.1];exact .tup .nil))
 ·-- quiet
  have hna:¬dK all N st i:=by rintro⟨o',h1,h2,h3⟩;rw[uniq o' h1,g.2.1]at h3;cases h3
  have hnm:¬eH all N st i:=by rintro⟨o',h1,h2,h3⟩;rw[uniq o' h1,g.2.1]at h3;cases h3
  rw[g.1]
  simp only[fx]
  have hsee:=hp.sees ho g.1 g.2.1 hv.cle
   (fun e he h1 h2=>by
     cases hb:cA A i e with
     |false=>rfl
     |true=>have:=(hv.stage e he).1 (hanc e hb);omega)
   (fun e he h1 h2=>by
     cases hb:cA A e i with
     |false=>rfl
     |true=>exact(hL (hv.closed e ((hv.stage e he).2 h2) i hb)).elim)
  have hsee2:∃m,aJ γ m.get (st c).H.nx w∧mT E all o (st i).T (val i) m:=by
   rcases hsee with hsee|⟨hno,m,l,hm,hsee⟩
   ·exact⟨_,hrel,hsee⟩
   ·refine⟨m,hv.stp.rel.sub (fun b k hb=>?_),hsee⟩
    have no:∀e,¬dK all N st e:=N8 hno
    have hH:(st i).H=(st c).H:=by
     rcases Nat.le_total c i with h|h
     ·exact hp.stillTo om h (fun e _ _=>no e)
     ·exact(hp.stillTo hv.cle h (fun e _ _=>no e)).symm
    have hpend:=hp.pendOk i om
    obtain⟨m1,m2,m3⟩:=yD A i _ _ _ _ hm (hp.pendUniq i om)
    by_cases hx:∃j k',(j,b,k')∈(st i).pend∧cA A i j=true
    ·obtain⟨j,k',hx1,hx2⟩:=hx
     have e1:=m1 j b k' hx1 hx2
     rw[hb]at e1
     cases e1
     obtain⟨q1,q2,q3,q4,q5⟩:=(hpend j b k).1 hx1
     unfold Uf
     have e2:b-i0=j:=by omega
     rw[if_pos ⟨om,by rw[e2];exact q1,by rw[e2];exact hanc j hx2,fun e _ he=>(no e he).elim⟩,e2,q5]
    ·have e1:=m2 b (fun j k' h'=>by
      cases hb2:cA A i j with
      |false=>rfl
      |true=>exact(hx ⟨j,k',h',hb2⟩).elim)
     rw[hb,hH]at e1
     exact hv.sub b k e1.symm
  obtain⟨mm,hrel2,u,ms,s1,s2,s3⟩:=hsee2
  obtain⟨V,h1,h2⟩:=GJ (P:=P) hE.ti hE.lz hrel2 (hv.rho hp ho hL hanc) s1 s2
  left
  unfold Oper.wp
  rw[h1,Oper.upon_value]
  exact hK c γ _ w (hv.quietStep hp ho hL hanc hna hnm (s3 γ V h2))
 ·-- a new block
  have hmk:eH all N st i:=⟨o,ho,g.1,g.2.1⟩
  have hna:¬dK all N st i:=by rintro⟨o',h1,h2,h3⟩;rw[uniq o' h1,g.2.1]at h3;cases h3
  rw[g.1]
  simp only[fx]
  have hfr:=hv.fresh i hlt hL
  have hnx:=hv.nx
  obtain⟨V,w',h1,h2,h3⟩:=FR (P:=P) hE.ti hv.stp.rel (hv.rho hp ho hL hanc) (i:=i0+i) (nx':=(st c).H.nx) hfr om (bp _) g.2.2.1
  left
  unfold Oper.wp
  rw[h1,Oper.upon_value]
  obtain⟨p1,p2,p3,p4,p5⟩:=hv.put hp ho hL h2.le h3
  refine hK c _ _ w' ⟨?_,?_,hv.cle,?_,p1,p2,p3,p4,p5,?_,?_,?_,hv.empty,hv.nx⟩
  ·rintro j (hj|rfl) i' hb
   ·exact .inl (hv.closed j hj i' hb)
   ·exact .inl (hanc i' hb)
  ·rintro j (hj|rfl)
   ·exact hv.bound j hj
   ·exact hlt
  ·intro e he
   have:e≠i:=by intro h;rw[h]at he;exact hna he
   rw[←hv.stage e he]
   exact⟨fun h=>h.resolve_right this,.inl⟩
  ·have hum:Um all A N st c i:=by
    intro e he hae
    cases hb:cA A e i with
    |false=>rfl
    |true=>exact(hL (hv.closed e ((hv.stage e hae).2 he) i hb)).elim
   have:Uf all A N i0 st mk (fun j=>L j∨j=i) c=es (Uf all A N i0 st mk L c) (i0+i) (some (mk i)):=by
    funext b
    by_cases e:b=i0+i
    ·subst e
     rw[eU]
     unfold Uf
     rw[if_pos ⟨om,by rw[xM];exact hmk,by rw[xM];exact .inr rfl,by rw[xM];exact hum⟩,xM]
    ·rw[dj _ _ e]
     unfold Uf
     have hiff:(i0≤b∧eH all N st (b-i0)∧(L (b-i0)∨b-i0=i)∧Um all A N st c (b-i0))↔(i0≤b∧eH all N st (b-i0)∧L (b-i0)∧Um all A N st c (b-i0)):=by
      constructor
      ·rintro⟨h1,h2,h3,h4⟩
       exact⟨h1,h2,h3.resolve_right (fun e2=>e om),h4⟩
      ·rintro⟨h1,h2,h3,h4⟩;exact⟨h1,h2,.inl h3,h4⟩
     by_cases hcnd:i0≤b∧eH all N st (b-i0)∧L (b-i0)∧Um all A N st c (b-i0)
     ·rw[if_pos (hiff.2 hcnd),if_pos hcnd]
     ·rw[if_neg (fun h=>hcnd (hiff.1 h)),if_neg hcnd]
   rw[this]
   exact hv.stp.trans h2
  ·intro b hb
   rw[Gm.put_other _ _ om]
   exact hv.keep b hb
  ·intro j hj hnL
   rw[Gm.put_other _ _ (by intro h;exact hnL (.inr om))]
   exact hv.fresh j hj (fun h=>hnL (.inl h))
 ·-- an act
  have hact:dK all N st i:=⟨o,ho,g.1,g.2.1⟩
  have hnm:¬eH all N st i:=by rintro⟨o',h1,h2,h3⟩;rw[uniq o' h1,g.2.1]at h3;cases h3
  rw[g.1]
  simp only[fx]
  obtain⟨m,hm,tp,ms,u,H',hev,hmH,hH',himp⟩:=g.2.2.2.1
  have hbef:=hp.before (L:=L) hv.closed i hact hanc
  have hci:c≤i:=by
   rcases bA i c with h|h
   ·exact(hL ((hv.stage i hact).2 h)).elim
   ·exact h
  have hno:∀e,c≤e→e<i→¬dK all N st e:=by
   intro e h1 h2 h3
   have:=(hv.stage e h3).1 (hbef e h2 h3)
   omega
  have hH:(st i).H=(st c).H:=hp.stillTo om hci hno
  have hUm:∀j,Um all A N st i j↔Um all A N st c j:=by
   intro j
   constructor
   ·intro h e he hae;exact h e om hae
   ·intro h e he hae
    rcases bA e c with h'|h'
    ·exact h e h' hae
    ·exact(hno e h' he hae).elim
  have hpend:=hp.pendOk i om
  obtain⟨m1,m2,m3⟩:=yD A i _ _ _ _ hm (hp.pendUniq i om)
  have hbk:∀a b,cA A a b=true→b<a:=hp.ancLt
  -- what stays behind
  generalize hpdef:Pf all A N i0 st mk L c i=p
  have hpPos:∀b,(i0≤b∧eH all N st (b-i0)∧L (b-i0)∧Um all A N st c (b-i0)∧cA A i (b-i0)=false)→p b=some (mk (b-i0)):=by
   intro b h
   rw[←hpdef];unfold Pf;rw[if_pos h]
  have hpNeg:∀b,¬(i0≤b∧eH all N st (b-i0)∧L (b-i0)∧Um all A N st c (b-i0)∧cA A i (b-i0)=false)→p b=none:=by
   intro b h
   rw[←hpdef];unfold Pf;rw[if_neg h]
  have hnoP:∀j,cA A i j=false→m.get (i0+j)=(st c).H.m.get (i0+j):=by
   intro j hb
   rw[m2 (i0+j) (fun j' k' h'=>by
    obtain⟨_,_,_,q,_⟩:=(hpend j' (i0+j) k').1 h'
    have:j'=j:=by omega
    rw[this];exact hb),hH]
  have hU:Uf all A N i0 st mk L c=kF p m.get:=by
   funext b
   by_cases hcond:i0≤b∧eH all N st (b-i0)∧L (b-i0)∧Um all A N st c (b-i0)
   ·obtain⟨q1,q2,q3,q4⟩:=hcond
    have e1:Uf all A N i0 st mk L c b=some (mk (b-i0)):=by unfold Uf;rw[if_pos ⟨q1,q2,q3,q4⟩]
    rw[e1]
    cases hb:cA A i (b-i0)with
    |true=>
     have hpn:p b=none:=hpNeg b (by rintro⟨_,_,_,_,h⟩;rw[hb]at h;cases h)
     rw[jM hpn]
     have:=m1 (b-i0) (i0+(b-i0)) (mk (b-i0)) ((hpend _ _ _).2 ⟨q2,hbk _ _ hb,(hUm _).2 q4,rfl,rfl⟩) hb
     rw[show i0+(b-i0)=b by omega]at this
     exact this.symm
    |false=>
     rw[gk (hpPos b ⟨q1,q2,q3,q4,hb⟩)]
   ·have e1:Uf all A N i0 st mk L c b=(st c).H.m.get b:=by unfold Uf;rw[if_neg hcond]
    have hpn:p b=none:=hpNeg b (by rintro⟨h1,h2,h3,h4,_⟩;exact hcond ⟨h1,h2,h3,h4⟩)
    rw[e1,jM hpn]
    rw[m2 b (fun j' k' h'=>by
     obtain⟨r1,r2,r3,r4,r5⟩:=(hpend j' b k').1 h'
     cases hb:cA A i j' with
     |false=>rfl
     |true=>
      exfalso
      apply hcond
      have:b-i0=j':=by omega
      rw[this]
      exact⟨om,r1,hanc j' hb,(hUm j').1 r3⟩),hH]
  have hpOk:∀b k,p b=some k→k.own=true∧m.get b=none:=by
   intro b k hb
   by_cases h:i0≤b∧eH all N st (b-i0)∧L (b-i0)∧Um all A N st c (b-i0)∧cA A i (b-i0)=false
   ·rw[hpPos b h]at hb
    cases hb
    obtain⟨q1,q2,q3,q4,q5⟩:=h
    obtain⟨o',ho',hr'⟩:=hp.mkR q2
    refine⟨Qp hr'.2.2.1,?_⟩
    have:=hnoP (b-i0) q5
    rw[show i0+(b-i0)=b by omega]at this
    rw[this]
    have:=hv.empty (b-i0) (hv.bound _ q3) q4
    rw[show i0+(b-i0)=b by omega]at this
    exact this
   ·rw[hpNeg b h]at hb;cases hb
  have hrelU:aJ γ (kF p m.get) (st c).H.nx w:=by rw[←hU];exact hv.stp.rel
  have hrelm:aJ γ m.get (st i).H.nx w:=by
   rw[hH]
   refine hrelU.sub (fun b k hb=>?_)
   cases hpb:p b with
   |none=>rw[jM hpb];exact hb
   |some k'=>rw[(hpOk b k' hpb).2]at hb;cases hb
  left
  refine Es hE hc (H:=⟨m,(st i).H.nx,tp,ms⟩) hrelm (hv.rho hp ho hL hanc) hv.glob hev hmH ?_
  intro V w' γ' hV hrun
  have hV:=himp γ' V hV
  have hHm:H'.m=(st (i+1)).H.m:=by rw[hH']
  have hHn:H'.nx=(st (i+1)).H.nx:=by rw[hH']
  have hfr:=aJ.frame hrelU hpOk hrun.stp
  rw[←hU,hHm,hHn]at hfr
  obtain⟨p1,p2,p3,p4,p5⟩:=hv.put hp ho hL hrun.stp.le hV
  have hnx:=hv.nx
  have hkeep:∀b,b<(st c).H.nx→γ' b=γ b:=by
   intro b hb
   have:=hrun.keep b (by rw[hH];exact hb)
   exact this
  refine hK (i+1) γ' _ w' ⟨?_,?_,om,?_,p1,p2,p3,p4,p5,?_,?_,?_,?_,?_⟩
  ·rintro j (hj|rfl) i' hb
   ·exact .inl (hv.closed j hj i' hb)
   ·exact .inl (hanc i' hb)
  ·rintro j (hj|rfl)
   ·exact hv.bound j hj
   ·exact hlt
  ·intro e he
   constructor
   ·rintro(h|rfl)
    ·rcases bA e (i+1)with h'|h'
     ·exact h'
     ·exfalso
      have:=hp.before (L:=L) hv.closed e he (hv.closed e h) i om hact
      exact hL this
    ·omega
   ·intro h
    by_cases e1:e=i
    ·exact .inr e1
    ·exact .inl (hbef e om he)
  ·have:Uf all A N i0 st mk (fun j=>L j∨j=i) (i+1)=kF p (st (i+1)).H.m.get:=by
    funext b
    have hiff:(i0≤b∧eH all N st (b-i0)∧(L (b-i0)∨b-i0=i)∧Um all A N st (i+1) (b-i0))↔(i0≤b∧eH all N st (b-i0)∧L (b-i0)∧Um all A N st c (b-i0)∧cA A i (b-i0)=false):=by
     constructor
     ·rintro⟨h1,h2,h3,h4⟩
      refine⟨h1,h2,h3.resolve_right (fun e=>by rw[e]at h2;exact hnm h2),(hUm _).1 (fun e he hae=>h4 e om hae),h4 i om hact⟩
     ·rintro⟨h1,h2,h3,h4,h5⟩
      refine⟨h1,h2,.inl h3,fun e he hae=>?_⟩
      by_cases e1:e=i
      ·rw[e1];exact h5
      ·exact(hUm _).2 h4 e om hae
    by_cases hcond:i0≤b∧eH all N st (b-i0)∧L (b-i0)∧Um all A N st c (b-i0)∧cA A i (b-i0)=false
    ·rw[gk (hpPos b hcond)]
     unfold Uf
     rw[if_pos (hiff.2 hcond)]
    ·rw[jM (hpNeg b hcond)]
     unfold Uf
     rw[if_neg (fun h=>hcond (hiff.1 h))]
   rw[this]
   exact hv.stp.trans hfr
  ·intro b hb
   rw[hkeep b om]
   exact hv.keep b hb
  ·intro j hj hnL
   rw[hkeep (i0+j) om]
   exact hv.fresh j hj (fun h=>hnL (.inl h))
  ·intro j hj hum
   cases hg:(st (i+1)).H.m.get (i0+j)with
   |none=>rfl
   |some k=>
    exfalso
    rw[←hHm]at hg
    obtain⟨B,x,cs,ex,r1,_⟩:=hrun.stp.rel.blk _ _ hg
    have hk':=hkeep (i0+j) om
    rw[r1]at hk'
    rcases hrun.stp.dom _ _ hg with⟨k',hk2⟩|hn
    ·have hk3:m.get (i0+j)=some k':=hk2
     rw[hnoP j (hum i om hact),hv.empty j hj (fun e he hae=>hum e om hae)]at hk3
     cases hk3
    ·rw[hn]at hk';cases hk'
  ·have h1:=hrun.nx
   have h2:(st c).H.nx≤(st (i+1)).H.nx:=by rw[←hH,←hHn];exact h1
   omega
end
end
def nt (n:Nat)(listed:Array Bool):Nat:=((List.range n).filter fun i=>!listed.getD i false).length
theorem LE {n i:Nat}{listed:Array Bool}(hi:i<n)(hs:listed.size=n)(h:listed.getD i false=false):nt n (listed.setIfInBounds i true)+1=nt n listed:=by
 unfold nt
 have key:∀(l:List Nat),l.Nodup→(i∈l→((l.filter fun j=>!(listed.setIfInBounds i true).getD j false).length+1=(l.filter fun j=>!listed.getD j false).length))∧(i∉l→(l.filter fun j=>!(listed.setIfInBounds i true).getD j false).length=(l.filter fun j=>!listed.getD j false).length):=by
  intro l
  induction l with
  |nil=>intro _;exact⟨si,si⟩
  |cons j l ih=>
   intro hnd
   obtain⟨hj,hnd'⟩:=List.nodup_cons.1 hnd
   obtain⟨ih1,ih2⟩:=ih hnd'
   have hset:(listed.setIfInBounds i true).getD i false=true:=by simp[Array.getD,hs,hi]
   refine⟨fun hm=>?_,fun hm=>?_⟩
   ·by_cases e:j=i
    ·subst e
     have:=ih2 hj
     simp only[List.filter_cons,hset,oD,nh,iF,h,lH,fx,dg]
     omega
    ·have hne:=getD_set_ne (listed:=listed) false (fun h=>e h.symm:i≠j)
     have hm':i∈l:=by
      rcases bC.1 hm with rfl|hm
      ·exact(e rfl).elim
      ·exact hm
     have:=ih1 hm'
     simp only[List.filter_cons,hne]
     split
     ·simp only[dg];omega
     ·exact this
   ·have e:j≠i:=by intro e;exact hm (by simp[e])
    have hne:=getD_set_ne (listed:=listed) false (fun h=>e h.symm:i≠j)
    have:=ih2 (fun h=>hm (by simp[h]))
    simp only[List.filter_cons,hne]
    split
    ·simp only[dg];omega
    ·exact this
 exact(key (List.range n) List.nodup_range).1 (by simp[hi])
theorem Lv {n:Nat}{listed:Array Bool}(h:nt n listed=0):∀i,i<n→listed.getD i false=true:=by
 intro i hi
 unfold nt at h
 have h':=kP h
 rw[List.filter_eq_nil_iff]at h'
 have:=h' i (by simp[hi])
 simpa using this
section
variable {P:Program}{E:cj}(hE:eW P E){call:bq}(hc:bV P E.ng call)
include hE hc
theorem gd.any {all:Array Oper}{A:Tr Nat}{N i0:Nat}{st:Nat→gU}{val:Nat→AV}{mk:Nat→ag}(hp:fC E call all A N i0 st val mk){γ0:Gm}{f0:Hf}{w0:World}{Q:Exit→Act→World→Prop}
 (hQ:∀L c γ a w,gd E all A N i0 st val mk γ0 f0 w0 L c γ a w→(∀i,i<all.size→L i)→Q .normal a w):
 ∀(fuel:Nat)(listed:Array Bool)(c:Nat)(γ:Gm)(a:Act)(w:World),listed.size=all.size→nt all.size listed≤fuel→gd E all A N i0 st val mk γ0 f0 w0 (fun i=>listed.getD i false=true) c γ a w→wpAny P .any all Q fuel listed a w:=by
 intro fuel
 have done:∀(listed:Array Bool)(c:Nat)(γ:Gm)(a:Act)(w:World),listed.size=all.size→gd E all A N i0 st val mk γ0 f0 w0 (fun i=>listed.getD i false=true) c γ a w→Region.ready .any all listed=[]→Q .normal a w:=by
  intro listed c γ a w hs hv hr
  refine hQ _ c γ a w hv ?_
  intro i
  induction i using Nat.strongRecOn with
  |_ i ih=>
   intro hi
   cases hb:listed.getD i false with
   |true=>rfl
   |false=>
    exfalso
    have:i∈Region.ready .any all listed:=by
     rw[mem_ready]
     refine⟨?_,all[i],by simp[hi],fun e he hbd=>?_⟩
     ·have hlt:i<listed.size:=by omega
      simp[Array.getD,hlt]at hb⊢
      exact hb
     ·have hlt:=hp.static.back i all[i] (by simp[hi]) e he hbd
      exact ih e.on hlt om
    rw[hr]at this
    cases this
 induction fuel with
 |zero=>
  intro listed c γ a w hs hu hv
  have hall:=Lv (show nt all.size listed=0 by omega)
  have hr:Region.ready .any all listed=[]:=by
   cases hrd:Region.ready .any all listed with
   |nil=>rfl
   |cons i l=>
    exfalso
    have hm:i∈Region.ready .any all listed:=by rw[hrd];simp
    obtain⟨h1,o,ho,_⟩:=mem_ready.1 hm
    have hlt:i<all.size:=(eI.1 ho).1
    have h2:=hall i hlt
    have hlt':i<listed.size:=by omega
    simp[Array.getD,hlt']at h1 h2
    rw[h1]at h2
    cases h2
  exact⟨hr,done listed c γ a w hs hv hr⟩
 |succ fuel ih=>
  intro listed c γ a w hs hu hv
  refine⟨done listed c γ a w hs hv,fun i hi=>?_⟩
  obtain⟨h1,o,ho,hed⟩:=mem_ready.1 hi
  have hlt:i<all.size:=(eI.1 ho).1
  have hlt':i<listed.size:=by omega
  have h1':listed.getD i false=false:=by
   simp[Array.getD,hlt']at h1⊢
   exact h1
  have hanc:∀j,cA A i j=true→listed.getD j false=true:=by
   intro j hb
   obtain⟨o',ho',e,he,hbd,hor⟩:=hp.static.anc j i hb
   rw[ho]at ho'
   cases ho'
   have hL:=hed e he hbd
   rcases hor with rfl|hor
   ·exact hL
   ·exact hv.closed e.on hL j hor
  refine hv.step hE hc hp ho (by simp[h1']) hanc ?_
  intro c' γ' a' w' hv'
  refine ih (listed.setIfInBounds i true) c' γ' a' w' (by simp[hs]) ?_ ?_
  ·have:=LE hlt hs h1'
   omega
  ·have hfun:(fun j=>listed.getD j false=true∨j=i)=(fun j=>(listed.setIfInBounds i true).getD j false=true):=by
    funext j
    apply propext
    by_cases e:j=i
    ·subst e
     simp[Array.getD,hlt']
    ·rw[getD_set_ne (listed:=listed) false (fun h=>e h.symm:i≠j)]
     simp[e]
   rw[←hfun]
   exact hv'
omit hE in
theorem Eb {all:Array Oper}{A:Tr Nat}{N i0 i:Nat}{o:Oper}{s s':gU}(h:qK E call all A N i0 o i s=some s'):∀p∈s.ms,p∈s'.ms:=by
 intro p hp
 unfold qK at h
 replace h:=(ay h).2
 cases hw:gW all N s.T o with
 |true=>
  simp only[hw,aU]at h
  split at h
  ·split at h
   ·cases h
   ·split at h
    ·cases h
    ·split at h
     ·cases h
     ·split at h
      ·cases h
      ·cases h;simp[hp]
  ·split at h
   ·cases h
   ·split at h
    ·cases h
    ·cases h;exact hp
  ·replace h:=(ay h).2
   split at h
   ·cases h
   ·split at h
    ·cases h
    ·rename_i v H' hv
     have:=Eq hc hv p hp
     split at h
     ·cases h
     ·split at h
      ·cases h
      ·cases h;simp[this]
 |false=>
  simp only[hw,bt]at h
  split at h
  ·cases h
  ·cases h;exact hp
omit hE in
theorem LT {all:Array Oper}{A:Tr Nat}{N i0:Nat}:∀(l:List Oper)(i:Nat)(s s':gU),nv E call all A N i0 l i s=some s'→∀p∈s.ms,p∈s'.ms:=by
 intro l
 induction l with
 |nil=>intro i s s' h p hp;simp only[nv,bv]at h;subst h;exact hp
 |cons o l ih=>
  intro i s s' h p hp
  simp only[nv]at h
  split at h
  ·cases h
  ·rename_i s1 h1
   exact ih _ _ _ h p (Eb hc h1 p hp)
omit hE in
theorem M7 {all:Array Oper}{N:Nat}{T T':Tr AV}{H H':Hs}(hq:qB E call all N T H=some (T',H')):∀p∈H.ms,p∈H'.ms:=by
 intro p hp
 unfold qB at hq
 replace hq:=(ay hq).2
 split at hq
 ·cases hq
 ·rename_i s hgo
  split at hq
  ·cases hq
  ·cases hq
   exact LT hc _ _ _ _ hgo p hp
theorem CF {all:Array Oper}{N:Nat}{T T':Tr AV}{H H':Hs}(hq:qB E call all N T H=some (T',H'))(hm:∀p∈H'.ms,p){γ:Gm}{a:Act}{w:World}(hf:cH γ E.ng T N a)(hr:aJ γ H.m.get H.nx w){Q:Exit→Act→World→Prop}
 (hQ:∀a' w' γ',cH γ' E.ng T' N a'→bT γ H w γ' H' w'→Q .normal a' w'):∀q,wpOps P all Q (Region.schedule (P.follows .mixedOrders) all q) a {w with drawn:=w.drawn+1}:=by
 unfold qB at hq
 obtain⟨hord,hq⟩:=ay hq
 have hS:=Mz hord
 split at hq
 ·cases hq
 ·rename_i s hgo
  split at hq
  ·cases hq
  ·rename_i mF hmF
   cases hq
   obtain⟨st,h0,hn,hstep⟩:=MA _ _ _ _ hgo
   rw[um]at hn
   have hgrow:∀d i:Nat,i+d=all.size→∀p∈(st i).ms,p∈(st all.size).ms:=by
    intro d
    induction d with
    |zero=>intro i hi p hp;rw[←hi];exact hp
    |succ d ih=>
     intro i hi p hp
     have hlt:i<all.size:=by omega
     have hs:=hstep i all[i] (by simp[hlt])
     exact ih (i+1) om p (Eb hc hs p hp)
   have hmst:∀i:Nat,i<all.size→∀p∈(st (i+1)).ms,p:=by
    intro i hi p hp
    exact hm p (by have:=hgrow (all.size-(i+1)) (i+1) om p hp;rw[hn]at this;exact this)
   have hex:∀i:Nat,∃p:AV×ag,∀o,all[i]? =some o→Ax E call all (jg all.toList) N H.nx st i o p.1 p.2:=by
    intro i
    cases ho:all[i]? with
    |none=>exact⟨(.nilp,⟨.plain [],0,0,false,false⟩),fun o h=>by cases h⟩
    |some o=>
     have:=hstep i o (by simpa using ho)
     rw[gF]at this
     obtain⟨v,kb,hs⟩:=N9 E call all (jg all.toList) N H.nx st i o this (hmst i (eI.1 ho).1)
     exact⟨(v,kb),fun o' h=>by cases h;exact hs⟩
   obtain⟨vk,hvk⟩:=Classical.axiomOfChoice hex
   have hp:fC E call all (jg all.toList) N H.nx st (fun i=>(vk i).1) (fun i=>(vk i).2):=
    ⟨hS,by rw[h0],by rw[h0],by rw[h0],fun i o ho=>hvk i o ho⟩
   intro q
   simp only[Region.schedule,hE.mixed,Bool.true_or,fx]
   refine wpAny_sound all.size q _ a _ ?_
   have hr1:aJ γ H.m.get H.nx {w with drawn:=w.drawn+1}:=hr.heap rfl
   have hnone:∀b,H.nx≤b→H.m.get b=none:=by
    intro b hb
    cases hg:H.m.get b with
    |none=>rfl
    |some k=>
     obtain⟨B,x,cs,ex,g1,_⟩:=hr.blk b k hg
     rw[hr.fresh b hb]at g1
     cases g1
   have hL0:∀i,¬((Array.replicate all.size false).getD i false=true):=by
    intro i
    by_cases hi:i<all.size
    ·simp[Array.getD,hi]
    ·simp[Array.getD,hi]
   have hinv:gd E all (jg all.toList) N H.nx st (fun i=>(vk i).1) (fun i=>(vk i).2) γ H.m.get {w with drawn:=w.drawn+1} (fun i=>(Array.replicate all.size false).getD i false=true) 0 γ a {w with drawn:=w.drawn+1}:=by
    have hH0:(st 0).H=⟨H.m,H.nx+all.size⟩:=by rw[h0]
    have hT0:(st 0).T=T:=by rw[h0]
    refine⟨fun j hj=>(hL0 j hj).elim,fun j hj=>(hL0 j hj).elim,bQ _,fun e _=>⟨fun h=>(hL0 e h).elim,fun h=>om⟩,hf.defers,hf.size,hf.glob,fun t wi o h1 h2 h3=>(hL0 wi h3).elim,fun t _ v hv=>by rw[hT0]at hv;exact hf.tmp t v hv,?_,fun _ _=>rfl,fun j hj _=>hr.fresh _ om,fun j hj _=>by rw[hH0];exact hnone _ om,by rw[hH0];exact bp _⟩
    have hU:Uf all (jg all.toList) N H.nx st (fun i=>(vk i).2) (fun i=>(Array.replicate all.size false).getD i false=true) 0=H.m.get:=by
     funext b
     unfold Uf
     rw[if_neg (by rintro⟨_,_,h,_⟩;exact hL0 _ h),hH0]
    rw[hU,hH0]
    exact be.refl (hr1.nx_mono (mn _ _))
   refine gd.any hE hc hp ?_ all.size _ 0 γ a _ si ?_ hinv
   ·-- all have come up
    intro L c γ' a' w' hv hall
    have hcn:∀e,c≤e→e<all.size→¬dK all N st e:=by
     intro e h1 h2 h3
     have:=(hv.stage e h3).1 (hall e h2)
     omega
    have hHn:(st all.size).H=(st c).H:=hp.stillTo (bp _) hv.cle hcn
    have hUm:∀j,Um all (jg all.toList) N st all.size j↔Um all (jg all.toList) N st c j:=by
     intro j
     constructor
     ·intro h e he hae;exact h e (by have:=hv.cle;omega) hae
     ·intro h e he hae
      rcases bA e c with h'|h'
      ·exact h e h' hae
      ·exact(hcn e h' he hae).elim
    have hsz:∀j,eH all N st j→j<all.size:=by
     rintro j ⟨o,ho,_⟩
     exact(eI.1 ho).1
    obtain⟨m1,m2⟩:=LM _ _ _ hmF (by rw[←hn];exact hp.pendUniq all.size (bp _))
    have hpend:=hp.pendOk all.size (bp _)
    rw[hn]at hpend
    have hU:Uf all (jg all.toList) N H.nx st (fun i=>(vk i).2) L c=mF.get:=by
     funext b
     unfold Uf
     by_cases hcond:H.nx≤b∧eH all N st (b-H.nx)∧L (b-H.nx)∧Um all (jg all.toList) N st c (b-H.nx)
     ·rw[if_pos hcond]
      obtain⟨q1,q2,q3,q4⟩:=hcond
      have:=m1 (b-H.nx) b _ ((hpend _ _ _).2 ⟨q2,hsz _ q2,(hUm _).2 q4,om,rfl⟩)
      exact this.symm
     ·rw[if_neg hcond,m2 b,←hHn,hn]
      intro j k hmem
      obtain⟨q1,q2,q3,q4,q5⟩:=(hpend _ _ _).1 hmem
      apply hcond
      have:b-H.nx=j:=by omega
      rw[this]
      exact⟨om,q1,hall j q2,(hUm j).1 q3⟩
    have hstp:=hv.stp
    rw[hU]at hstp
    have hnx:(st c).H.nx=s.H.nx:=by rw[←hHn,hn]
    rw[hnx]at hstp
    refine hQ a' w' γ' ⟨hv.defers,hv.size,fun t v hTv=>?_,hv.glob⟩ ⟨⟨hstp.le,hstp.rel,hstp.size,hstp.os,hstp.tape,hstp.output,hstp.frame,hstp.own,hstp.ro,hstp.dom,hstp.fzn,cl (Nat.le_succ _) hstp.drawn⟩,?_,hv.keep⟩
    ·obtain⟨t1,t2⟩:=hp.tlook all.size (bp _) t
     rw[hn]at t1 t2
     by_cases hex2:∃(wi:Nat) (o':Oper),all[wi]? =some o'∧o'.dst=some t
     ·obtain⟨wi,o',hw,hd⟩:=hex2
      have hlt:wi<all.size:=(eI.1 hw).1
      rw[t1 wi o' hw hd hlt]at hTv
      cases hTv
      exact hv.wr t wi o' hw hd (hall wi hlt)
     ·rw[t2 (fun w2 o2 hw2 hd2=>(hex2 ⟨w2,o2,hw2,hd2⟩).elim)]at hTv
      exact hv.un t (fun w2 o2 hw2 hd2=>(hex2 ⟨w2,o2,hw2,hd2⟩).elim) v hTv
    ·have:=hv.nx
     rw[hnx]at this
     show H.nx≤s.H.nx
     omega
   ·unfold nt
    have:=List.length_filter_le (fun i=>!(Array.replicate all.size false).getD i false) (List.range all.size)
    simpa using this
theorem M8 {id:Nat}{all:Array Oper}{N:Nat}{T T':Tr AV}{H H':Hs}(hq:qB E call all N T H=some (T',H'))(hm:∀p∈H'.ms,p){γ:Gm}{a:Act}{w:World}(hf:cH γ E.ng T N a)(hr:aJ γ H.m.get H.nx w){Q:Exit→Act→World→Prop}
 (hQ:∀a' w' γ',cH γ' E.ng T' N a'→bT γ H w γ' H' w'→Q .normal a' w'):(Code.region id all true).wp P Q a w:=
 wp_region_draw (CF hE hc hq hm hf hr hQ)
def df.den:df→Exit
 |.normal=>.normal
 |.exit id=>.exit id
 |.ret=>.ret
end
def sD (γ:Gm)(f f1:Hf):Prop:=∀b k,f1 b=some k→∃k',f b=some k'∧k.elem=k'.elem∧k.sz=k'.sz∧k.opn=k'.opn∧k.own=k'.own∧(∀cs,ap γ k'.cells cs→ap γ k.cells cs)∧(k.own=false→k'=k)
theorem aJ.weak {γ:Gm}{f f1:Hf}{nx:Nat}{w:World}(h:aJ γ f nx w)(hw:sD γ f f1):aJ γ f1 nx w:=by
 refine⟨?_,?_,h.fresh,h.fzr,?_⟩
 ·intro b k hb
  obtain⟨k',h1,h2,h3,h4,h5,h6,_⟩:=hw b k hb
  obtain⟨B,x,cs,ex,g1,g2,g3,g4,g5⟩:=h.blk b k' h1
  exact⟨B,x,cs,ex,g1,by rw[h2];exact g2,h6 _ g3,by rw[h3];exact g4,by rw[h4];exact g5⟩
 ·intro b b' k k' B x x' q1 q2 q3 q4
  obtain⟨_,r1,_⟩:=hw b k q1
  obtain⟨_,r2,_⟩:=hw b' k' q2
  exact h.inj _ _ _ _ _ _ _ r1 r2 q3 q4
 ·intro b k B x hb ho hg
  obtain⟨k',h1,_,_,_,h5,_⟩:=hw b k hb
  exact h.fzo b k' B x h1 (by rw[←h5];exact ho) hg
theorem eQ.weak {γ:Gm}{f f1:Hf}(hw:sD γ f f1){B:Nat}(h:eQ γ f1 B):eQ γ f B:=by
 obtain⟨b,k,x,h1,h2,h3⟩:=h
 obtain⟨k',r1,_,_,_,r5,_⟩:=hw b k h1
 exact⟨b,k',x,r1,by rw[←r5];exact h2,h3⟩
theorem be.weak {γ γ':Gm}{f f1 f':Hf}{nx:Nat}{w w':World}(h:be γ f1 w γ' f' nx w')(hw:sD γ f f1):be γ f w γ' f' nx w':=
 ⟨h.le,h.rel,h.size,h.os,h.tape,h.output,fun k hk hn=>h.frame k hk (fun ho=>hn (ho.weak hw)),fun k hk ho=>(h.own k hk ho).weak hw,
  fun b k hb ho=>by
   have h1:=h.ro b k hb ho
   obtain⟨k',r1,_,_,_,_,_,r7⟩:=hw b k h1
   rw[r7 ho]at r1
   exact r1,
  fun b k hb=>(h.dom b k hb).imp (fun⟨k',hk'⟩=>by obtain⟨k'',r1,_⟩:=hw b k' hk';exact⟨k'',r1⟩) id,
  fun B x hB=>(h.fzn B x hB).imp id (Or.imp id (eQ.weak hw)),h.drawn⟩
theorem i7 {α:Type}:∀(l:List (Nat×α))(i:Nat)(v:α),eP l=true→(aI l).get i=some v→(i,v)∈l
 |[],i,v,_,h=>by simp[aI,Tr.get_nil]at h
 |(j,u)::l,i,v,hn,h=>by
  simp only[eP,lI,bj]at hn
  have hj:=aT hn.1
  simp only[aI]at h
  rw[Tr.get_setF 40 _ j i _ (by simp only[Tr.top]at hj;omega)]at h
  by_cases e:i=j
  ·rw[if_pos e]at h
   cases h
   simp[e]
  ·rw[if_neg e]at h
   exact fk _ (i7 l i v hn.2 h)
theorem Fl {T:Tr AV}:∀(l:List (Nat×AV))(ms:List Prop),wL T l=some ms→(∀p∈ms,p)→∀t v,(t,v)∈l→∃u,T.get t=some u∧gI u v
 |[],ms,h,hm,t,v,ht=>by simp at ht
 |(t0,v0)::l,ms,h,hm,t,v,ht=>by
  simp only[wL]at h
  split at h
  ·cases h
  ·rename_i u hu
   split at h
   ·cases h
   ·rename_i m1 h1
    split at h
    ·cases h
    ·rename_i m2 h2
     cases h
     obtain⟨hm1,hm2⟩:=dJ hm
     rcases bC.1 ht with e|ht
     ·cases e;exact⟨u,hu,rV h1 hm1⟩
     ·exact Fl l m2 h2 hm2 t v ht
theorem LU {V V':b6}{ms:List Prop}(h:yS V V'=some ms)(hm:∀p∈ms,p):∀γ cs,ap γ V.cells cs→ap γ V'.cells cs:=by
 unfold yS at h
 split at h
 ·exact pT h hm
 ·cases h;have:=aA hm;subst this;exact fun _ _ h=>h
 ·obtain⟨hk,h'⟩:=ay h
  have hk:=ea hk
  clear h;subst hk;cases h'
  have:=aA hm;subst this;exact fun _ _ h=>h
 ·obtain⟨hk,h'⟩:=ay h
  obtain⟨hk1,hk2⟩:=bB hk
  have hk1:=ea hk1
  have hk2:=aM hk2
  clear h;subst hk1 hk2;cases h'
  obtain⟨e1,e2⟩:=aA hm;subst e1 e2;exact fun _ _ h=>h
 ·split at h
  ·cases h
  ·rename_i τ L τ' L' _ M hM
   cases h
   have e:=aA hm
   subst e
   intro γ cs hcs
   have hcs:ap γ (ce τ L) cs:=hcs
   show ap γ (ce τ' M) cs
   rw[←Ew hM]
   exact hcs
 ·cases h
theorem Ec {k k':ag}{ms:List Prop}(h:wj k k'=some ms)(hm:∀p∈ms,p):k'.elem=k.elem∧k'.sz=k.sz∧k'.opn=k.opn∧k'.own=k.own∧(∀γ cs,ap γ k.cells cs→ap γ k'.cells cs)∧(k'.own=false→k=k'):=by
 unfold wj at h
 have hb:=(ay h).1
 replace h:=(ay h).2
 simp only[bj,dx]at hb
 obtain⟨⟨⟨a1,a2⟩,h3⟩,h4⟩:=hb
 replace a1:=aM a1
 replace a2:=aM a2
 cases ho:k'.own with
 |true=>
  rw[ho]at h
  exact⟨a1.symm,a2.symm,h3.symm,by rw[h4,ho],LU h hm,fun h=>by cases h⟩
 |false=>
  rw[ho]at h
  simp only[bt]at h
  split at h
  ·rename_i cs cs' e1 e2
   have e:=rU (ay h).1
   have hk:k=k':=by
    obtain⟨v1,b1,c1,d1,o1⟩:=k
    obtain⟨v2,b2,c2,d2,o2⟩:=k'
    simp only at e1 e2 a1 a2 h3 h4
    rw[e1,e2,a1,a2,h3,h4,e]
   subst hk
   exact⟨rfl,rfl,rfl,ho.symm,fun _ _ h=>h,fun _=>rfl⟩
  ·cases h
theorem Fm {m:Tr ag}:∀(l:List (Nat×ag))(ms:List Prop),wM m l=some ms→(∀p∈ms,p)→∀b k,(b,k)∈l→∃k',m.get b=some k'∧k.elem=k'.elem∧k.sz=k'.sz∧k.opn=k'.opn∧k.own=k'.own∧(∀γ cs,ap γ k'.cells cs→ap γ k.cells cs)∧(k.own=false→k'=k)
 |[],ms,h,hm,b,k,hb=>by simp at hb
 |(b0,k0)::l,ms,h,hm,b,k,hb=>by
  simp only[wM]at h
  split at h
  ·cases h
  ·rename_i k' hk'
   split at h
   ·cases h
   ·rename_i m1 h1
    split at h
    ·cases h
    ·rename_i m2 h2
     cases h
     obtain⟨hm1,hm2⟩:=dJ hm
     rcases bC.1 hb with e|hb
     ·cases e
      obtain⟨r1,r2,r3,r4,r5,r6⟩:=Ec h1 hm1
      exact⟨k',hk',r1,r2,r3,r4,r5,r6⟩
     ·exact Fm l m2 h2 hm2 b k hb
noncomputable def dB (P:Program)(ng N:Nat)(b:Code)(A:aO):Prop:=
 ∀d,(match A.test with|none=>d=true|some c=>c=d)→∀γ a w,cH γ ng (aI A.pre.T) N a→aJ γ (aI A.pre.m).get A.pre.nx w→
  (Code.loop b).wp P (fun x a' w'=>x=(A.post d).1.den∧∃γ',cH γ' ng (aI (A.post d).2.T) N a'∧bT γ ⟨aI A.pre.m,A.pre.nx,[],[]⟩ w γ' ⟨aI (A.post d).2.m,(A.post d).2.nx,[],[]⟩ w') a w
noncomputable def mU (P:Program)(ng N:Nat)(lo:List Nat→Option aO)(c0:Code):Prop:=∀p A b,lo p=some A→eZ p.reverse c0=some (.loop b)→dB P ng N b A
theorem Qb (P:Program)(ng N:Nat)(c0:Code):mU P ng N fF c0:=by intro p A b h;cases h
theorem aO.run_ms {A:aO}{T T':Tr AV}{H H':Hs}{e:df}(h:A.run T H=some (e,T',H')):∀p∈H.ms,p∈H'.ms:=by
 intro p hp
 unfold aO.run at h
 replace h:=(ay h).2
 split at h
 ·cases h
 ·split at h
  ·cases h
  ·rename_i m1 _ m2 _
   cases ht:A.test with
   |none=>
    rw[ht]at h
    simp only at h
    replace h:=(ay h).2
    cases h;simp[hp]
   |some b=>
    rw[ht]at h
    have ak:=kq H b
    simp only at h
    replace h:=(ay h).2
    cases h
    have:p∈(H.ask b).2.ms:=by rw[ak];simp[hp]
    simp[this]
theorem aO.run_ok {P:Program}{ng N:Nat}{b:Code}{A:aO}(hA:dB P ng N b A){T T':Tr AV}{H H':Hs}{e:df}(h:A.run T H=some (e,T',H'))(hm:∀p∈H'.ms,p){γ:Gm}{a:Act}{w:World}(hf:cH γ ng T N a)(hr:aJ γ H.m.get H.nx w):
 (Code.loop b).wp P (fun x a' w'=>x=e.den∧∃γ',cH γ' ng T' N a'∧bT γ H w γ' H' w') a w:=by
 unfold aO.run at h
 have hnx:=aT (ay h).1
 replace h:=(ay h).2
 split at h
 ·cases h
 ·rename_i m1 h1
  split at h
  ·cases h
  ·rename_i m2 h2
   have key:∀(d:Bool)(H1:Hs),H1.m=H.m→H1.nx=H.nx→((∀p∈H1.ms,p)→match A.test with|none=>d=true|some c=>c=d)→
    (bif eP (A.post d).2.T&&eP (A.post d).2.m&&eP A.pre.T&&eP A.pre.m then some ((A.post d).1,aI (A.post d).2.T,(⟨aI (A.post d).2.m,(A.post d).2.nx,H1.tp,m1++m2++H1.ms⟩:Hs))else none)=some (e,T',H')→
    (Code.loop b).wp P (fun x a' w'=>x=e.den∧∃γ',cH γ' ng T' N a'∧bT γ H w γ' H' w') a w:=by
    intro d H1 e1 e2 hd hh
    obtain⟨hok,hh⟩:=ay hh
    cases hh
    obtain⟨hm12,hmH⟩:=dJ hm
    obtain⟨hm1,hm2⟩:=dJ hm12
    obtain⟨hok,o4⟩:=bB hok
    obtain⟨hok,o3⟩:=bB hok
    have hw:sD γ H.m.get (aI A.pre.m).get:=by
     intro c k hk
     obtain⟨k',r1,r2,r3,r4,r5,r6,r7⟩:=Fm _ _ h2 hm2 c k (i7 _ _ _ o4 hk)
     exact⟨k',r1,r2,r3,r4,r5,r6 γ,r7⟩
    have hf':cH γ ng (aI A.pre.T) N a:=⟨hf.defers,hf.size,fun t v hv=>by
     obtain⟨u,q1,q2⟩:=Fl _ _ h1 hm1 t v (i7 _ _ _ o3 hv)
     exact q2 γ _ (hf.tmp t u q1),hf.glob⟩
    refine wp_mono (hA d (hd hmH) γ a w hf' ((hr.weak hw).nx_mono hnx)) ?_
    rintro x a' w' ⟨rfl,γ',g1,g2⟩
    refine⟨rfl,γ',g1,g2.stp.weak hw,cl hnx g2.nx,fun c hc=>g2.keep c (jE hc hnx)⟩
   cases ht:A.test with
   |none=>
    rw[ht]at h key
    exact key true H rfl rfl (fun _=>rfl) h
   |some c=>
    rw[ht]at h key
    exact key (H.ask c).1 (H.ask c).2 (vP _ _) (sv _ _) (fun hms=>hms (aa c (H.ask c).1) (by rw[kq];simp)) h
theorem x5:∀(p q:List Nat)(c:Code),eZ (p++q) c=(eZ p c).bind (eZ q)
 |[],q,c=>by cases c<;>rfl
 |i::p,q,c=>by
  have ih:=x5 p q
  match i with
  |0=>cases c<;>first|(simp only[kT,eZ];exact ih _)|rfl
  |1=>cases c<;>first|(simp only[kT,eZ];exact ih _)|rfl
  |n+2=>cases c<;>rfl
section
variable {P:Program}{E:cj}(hE:eW P E){call:bq}(hc:bV P E.ng call){lo:List Nat→Option aO}{c0:Code}{N:Nat}(hlo:mU P E.ng N lo c0)
include hc in
theorem mB {N:Nat}:∀(n:Nat)(p:List Nat)(c:Code)(T T':Tr AV)(H H':Hs)(e:df),bb E call lo N n p c T H=some (e,T',H')→∀q∈H.ms,q∈H'.ms:=by
 intro n
 induction n with
 |zero=>intro p c T T' H H' e h;simp[bb]at h
 |succ n ih=>
  intro p c T T' H H' e h q hq
  cases c with
  |skip=>simp only[bb,bv,dh]at h;obtain⟨_,_,rfl⟩:=h;exact hq
  |label l=>simp only[bb,bv,dh]at h;obtain⟨_,_,rfl⟩:=h;exact hq
  |exit id=>simp only[bb,bv,dh]at h;obtain⟨_,_,rfl⟩:=h;exact hq
  |ret=>simp only[bb,bv,dh]at h;obtain⟨_,_,rfl⟩:=h;exact hq
  |region id ops draw=>
   cases draw with
   |false=>
    simp only[bb]at h
    split at h
    ·cases h
    ·rename_i T1 H1 h1
     cases h
     exact Er hc _ _ _ _ _ h1 q hq
   |true=>
    simp only[bb]at h
    split at h
    ·cases h
    ·rename_i T1 H1 h1
     cases h
     exact M7 hc h1 q hq
  |seq x y=>
   simp only[bb]at h
   split at h
   ·rename_i T1 H1 h1
    exact ih _ _ _ _ _ _ _ h q (ih _ _ _ _ _ _ _ h1 q hq)
   ·exact ih _ _ _ _ _ _ _ h q hq
  |cond x y z=>
   simp only[bb]at h
   split at h
   ·exact ih _ _ _ _ _ _ _ h q hq
   ·exact ih _ _ _ _ _ _ _ h q hq
   ·rename_i u hu
    have ak:=kq H u
    generalize H.ask u=r at h ak
    obtain⟨d,H1⟩:=r
    have h1:q∈H1.ms:=by rw[show H1.ms=_ from ak];simp[hq]
    cases d with
    |true=>exact ih _ _ _ _ _ _ _ h q h1
    |false=>exact ih _ _ _ _ _ _ _ h q h1
   ·cases h
  |block id b=>
   simp only[bb]at h
   split at h
   ·rename_i j T1 H1 h1
    cases hj:Nat.beq j id with
    |true=>simp only[hj,aU,bv,dh]at h;obtain⟨_,_,rfl⟩:=h;exact ih _ _ _ _ _ _ _ h1 q hq
    |false=>simp only[hj,bt,bv,dh]at h;obtain⟨_,_,rfl⟩:=h;exact ih _ _ _ _ _ _ _ h1 q hq
   ·exact ih _ _ _ _ _ _ _ h q hq
  |loop b=>
   simp only[bb]at h
   split at h
   ·exact aO.run_ms h q hq
   ·split at h
    ·rename_i T1 H1 h1
     exact ih _ _ _ _ _ _ _ h q (ih _ _ _ _ _ _ _ h1 q hq)
    ·exact ih _ _ _ _ _ _ _ h q hq
  |scope b=>simp only[bb]at h;exact ih _ _ _ _ _ _ _ h q hq
  |rangeFunc f ps x y=>simp[bb]at h
  |goto l=>simp[bb]at h
  |refuse s=>simp[bb]at h
include hE hc hlo
theorem Cq:∀(n:Nat),
 (∀(p:List Nat)(c:Code)(T T':Tr AV)(H H':Hs)(e:df),eZ p.reverse c0=some c→bb E call lo N n p c T H=some (e,T',H')→(∀q∈H'.ms,q)→∀(γ:Gm)(a:Act)(w:World),cH γ E.ng T N a→aJ γ H.m.get H.nx w→
   c.wp P (fun x a' w'=>x=df.den e∧∃γ',cH γ' E.ng T' N a'∧bT γ H w γ' H' w') a w)∧
 (∀(p:List Nat)(b:Code)(T T':Tr AV)(H H':Hs)(e:df),eZ p.reverse c0=some (.loop b)→lo p=none→bb E call lo N n p (.loop b) T H=some (e,T',H')→(∀q∈H'.ms,q)→∀(γ:Gm)(a:Act)(w:World),cH γ E.ng T N a→aJ γ H.m.get H.nx w→
   ∀(bf:Frame)(k:List Item)(cs:List Frame),∃x a' w',(x=df.den e∧∃γ',cH γ' E.ng T' N a'∧bT γ H w γ' H' w')∧Arrives P (lone (bf.at a (.code b::.inLoop b::k)) cs w) bf k cs x a' w'):=by
 intro n
 induction n with
 |zero=>exact⟨fun p c T T' H H' e _ h=>by simp[bb]at h,fun p c T T' H H' e _ _ h=>by simp[bb]at h⟩
 |succ n ihb=>
  obtain⟨ih,ihl⟩:=ihb
  have snoc:∀(p:List Nat)(i:Nat)(c c':Code),eZ p.reverse c0=some c→eZ [i] c=some c'→eZ (i::p).reverse c0=some c':=by
   intro p i c c' h1 h2
   rw[List.reverse_cons,x5,h1]
   exact h2
  have hloop:∀(p:List Nat)(b:Code)(T T':Tr AV)(H H':Hs)(e:df),eZ p.reverse c0=some (.loop b)→lo p=none→bb E call lo N (n+1) p (.loop b) T H=some (e,T',H')→(∀q∈H'.ms,q)→∀(γ:Gm)(a:Act)(w:World),cH γ E.ng T N a→aJ γ H.m.get H.nx w→
   ∀(bf:Frame)(k:List Item)(cs:List Frame),∃x a' w',(x=df.den e∧∃γ',cH γ' E.ng T' N a'∧bT γ H w γ' H' w')∧Arrives P (lone (bf.at a (.code b::.inLoop b::k)) cs w) bf k cs x a' w':=by
   intro p b T T' H H' e hp hlp h hm γ a w hf hr bf k cs
   have hpb:eZ (0::p).reverse c0=some b:=snoc p 0 _ _ hp (by cases b<;>rfl)
   simp only[bb,hlp]at h
   split at h
   ·rename_i T1 H1 h1
    obtain⟨x1,a1,w1,⟨rfl,γ1,hf1,hrun1⟩,harr⟩:=ih (0::p) b T T1 H H1 .normal hpb h1 (fun q hq=>hm q (mB hc _ _ _ _ _ _ _ _ h q hq)) γ a w hf hr bf (.inLoop b::k) cs
    obtain⟨x2,a2,w2,⟨rfl,γ2,hf2,hrun2⟩,harr2⟩:=ihl p b T1 T' H1 H' e hp hlp h hm γ1 a1 w1 hf1 hrun1.stp.rel bf k cs
    exact⟨_,a2,w2,⟨rfl,γ2,hf2,hrun1.trans hrun2⟩,.of_steps (Steps.trans harr (.one step_inLoop)) harr2⟩
   ·rename_i hne
    obtain⟨x1,a1,w1,⟨rfl,hx⟩,harr⟩:=ih (0::p) b T T' H H' e hpb h hm γ a w hf hr bf (.inLoop b::k) cs
    refine⟨_,a1,w1,⟨rfl,hx⟩,?_⟩
    cases e with
    |normal=>exact(hne T' H' h).elim
    |exit j=>exact .pass (x:=.inLoop b) rfl (fun _ _=>.inl (by simp[df.den])) harr
    |ret=>exact .pass (x:=.inLoop b) rfl (fun _ _=>.inl (by simp[df.den])) harr
  refine⟨?_,hloop⟩
  intro p c T T' H H' e hp h hm γ a w hf hr
  cases c with
  |skip=>
   simp only[bb,bv,dh]at h
   obtain⟨rfl,rfl,rfl⟩:=h
   exact wp_skip ⟨rfl,γ,hf,bT.refl hr⟩
  |label l=>
   simp only[bb,bv,dh]at h
   obtain⟨rfl,rfl,rfl⟩:=h
   exact wp_label ⟨rfl,γ,hf,bT.refl hr⟩
  |exit id=>
   simp only[bb,bv,dh]at h
   obtain⟨rfl,rfl,rfl⟩:=h
   exact wp_exit ⟨rfl,γ,hf,bT.refl hr⟩
  |ret=>
   simp only[bb,bv,dh]at h
   obtain⟨rfl,rfl,rfl⟩:=h
   exact wp_ret ⟨rfl,γ,hf,bT.refl hr⟩
  |region id ops draw=>
   cases draw with
   |false=>
    simp only[bb]at h
    split at h
    ·cases h
    ·rename_i T1 H1 h1
     cases h
     exact wp_region (Et hE hc ops.toList (List.range ops.size) (uE ops) T T' H H' h1 hm γ a w hf hr (fun a' w' γ' h1 h2=>⟨rfl,γ',h1,h2⟩))
   |true=>
    simp only[bb]at h
    split at h
    ·cases h
    ·rename_i T1 H1 h1
     cases h
     exact M8 hE hc h1 hm hf hr (fun a' w' γ' h1 h2=>⟨rfl,γ',h1,h2⟩)
  |seq x y=>
   simp only[bb]at h
   split at h
   ·rename_i T1 H1 h1
    refine wp_seq (wp_mono (ih (0::p) x T T1 H H1 .normal (snoc p 0 _ _ hp (by cases x<;>rfl)) h1 (fun q hq=>hm q (mB hc _ _ _ _ _ _ _ _ h q hq)) γ a w hf hr) ?_)
    rintro x' a' w' ⟨rfl,γ',hf',hrun⟩
    refine wp_mono (ih (1::p) y T1 T' H1 H' e (snoc p 1 _ _ hp (by cases y<;>rfl)) h hm γ' a' w' hf' hrun.stp.rel) ?_
    rintro x'' a'' w'' ⟨rfl,γ'',hf'',hrun'⟩
    exact⟨rfl,γ'',hf'',hrun.trans hrun'⟩
   ·rename_i hne
    refine wp_seq (wp_mono (ih (0::p) x T T' H H' e (snoc p 0 _ _ hp (by cases x<;>rfl)) h hm γ a w hf hr) ?_)
    rintro x' a' w' ⟨rfl,hx⟩
    cases e with
    |normal=>exact(hne T' H' h).elim
    |exit id=>exact⟨rfl,hx⟩
    |ret=>exact⟨rfl,hx⟩
  |cond x y z=>
   simp only[bb]at h
   split at h
   ·rename_i hx
    have hv:=pf hf _ _ hx
    generalize hX:a.eval x=X at hv
    cases hv
    exact wp_cond_true hX (ih (0::p) y T T' H H' e (snoc p 0 _ _ hp (by cases y<;>rfl)) h hm γ a w hf hr)
   ·rename_i hx
    have hv:=pf hf _ _ hx
    generalize hX:a.eval x=X at hv
    cases hv
    exact wp_cond_false hX (ih (1::p) z T T' H H' e (snoc p 1 _ _ hp (by cases z<;>rfl)) h hm γ a w hf hr)
   ·rename_i u hx
    have hv:=pf hf _ _ hx
    generalize hX:a.eval x=X at hv
    cases hv
    have ak:=kq H u
    have am:=vP H u
    have an:=sv H u
    generalize H.ask u=r at h ak am an
    obtain⟨d,H1⟩:=r
    have hr1:aJ γ H1.m.get H1.nx w:=by rw[show H1.m=_ from am,show H1.nx=_ from an];exact hr
    have back:∀{γ':Gm}{w':World},bT γ H1 w γ' H' w'→bT γ H w γ' H' w':=by
     intro γ' w' hR
     refine⟨?_,?_,fun b hb=>hR.keep b (by rw[show H1.nx=_ from an];exact hb)⟩
     ·have:=hR.stp;rw[show H1.m=_ from am]at this;exact this
     ·have:=hR.nx;rw[show H1.nx=_ from an]at this;exact this
    have hu:u=d:=hm (aa u d) (by
     cases d with
     |true=>exact mB hc _ _ _ _ _ _ _ _ h _ (by rw[show H1.ms=_ from ak];simp)
     |false=>exact mB hc _ _ _ _ _ _ _ _ h _ (by rw[show H1.ms=_ from ak];simp))
    subst hu
    cases u with
    |true=>
     refine wp_cond_true hX (wp_mono (ih (0::p) y T T' H1 H' e (snoc p 0 _ _ hp (by cases y<;>rfl)) h hm γ a w hf hr1) ?_)
     rintro x' a' w' ⟨rfl,γ',g1,g2⟩
     exact⟨rfl,γ',g1,back g2⟩
    |false=>
     refine wp_cond_false hX (wp_mono (ih (1::p) z T T' H1 H' e (snoc p 1 _ _ hp (by cases z<;>rfl)) h hm γ a w hf hr1) ?_)
     rintro x' a' w' ⟨rfl,γ',g1,g2⟩
     exact⟨rfl,γ',g1,back g2⟩
   ·cases h
  |block id b=>
   simp only[bb]at h
   split at h
   ·rename_i j T1 H1 h1
    cases hj:Nat.beq j id with
    |true=>
     simp only[hj,aU,bv,dh]at h
     obtain⟨rfl,rfl,rfl⟩:=h
     refine wp_block (wp_mono (ih (0::p) b T T1 H H1 (.exit j) (snoc p 0 _ _ hp (by cases b<;>rfl)) h1 hm γ a w hf hr) ?_)
     rintro x' a' w' ⟨rfl,hx⟩
     show(if j=id then _ else _)
     rw[if_pos (aM hj)]
     exact⟨rfl,hx⟩
    |false=>
     simp only[hj,bt,bv,dh]at h
     obtain⟨rfl,rfl,rfl⟩:=h
     refine wp_block (wp_mono (ih (0::p) b T T1 H H1 (.exit j) (snoc p 0 _ _ hp (by cases b<;>rfl)) h1 hm γ a w hf hr) ?_)
     rintro x' a' w' ⟨rfl,hx⟩
     show(if j=id then _ else _)
     rw[if_neg (mH hj)]
     exact⟨rfl,hx⟩
   ·rename_i hne
    refine wp_block (wp_mono (ih (0::p) b T T' H H' e (snoc p 0 _ _ hp (by cases b<;>rfl)) h hm γ a w hf hr) ?_)
    rintro x' a' w' ⟨rfl,hx⟩
    cases e with
    |normal=>exact⟨rfl,hx⟩
    |exit j=>exact(hne j T' H' h).elim
    |ret=>exact⟨rfl,hx⟩
  |loop b=>
   cases hlp:lo p with
   |some A=>
    simp only[bb,hlp]at h
    exact aO.run_ok (hlo p A b hlp hp) h hm hf hr
   |none=>
    intro bf k cs
    obtain⟨x,a',w',hx,harr⟩:=hloop p b T T' H H' e hp hlp h hm γ a w hf hr bf k cs
    exact⟨x,a',w',hx,.of_steps (.one step_loop) harr⟩
  |scope b=>
   simp only[bb]at h
   refine wp_scope_straight (wp_mono (ih (0::p) b T T' H H' e (snoc p 0 _ _ hp (by cases b<;>rfl)) h hm γ a w hf hr) ?_)
   rintro x' a' w' ⟨rfl,hx⟩
   cases e<;>exact⟨rfl,hx⟩
  |rangeFunc f ps x y=>simp[bb]at h
  |goto l=>simp[bb]at h
  |refuse s=>simp[bb]at h
end
theorem Fn {P:Program}{ti:Tr TypeInfo}(ht:dL P ti){γ:Gm}{ng N nx:Nat}{T:Tr AV}{a:Act}{m:Tr ag}{w:World}(hf:cH γ ng T N a)(hr:aJ γ m.get nx w):∀(l:List ResultVar)(vs:List AV),n8 ti T m l=some vs→
 ∃Vs,(l.mapM (fun|ResultVar.tmp t=>pure (a.tmps.getD t undef)|ResultVar.cell ad t=>do loadVar t (←asAddr (a.tmps.getD ad undef)):ResultVar→Sem Value)).run P w=.ok Vs w∧ap γ vs Vs:=by
 intro l
 induction l with
 |nil=>
  intro vs h
  simp only[n8,bv]at h
  subst h
  exact⟨[],rfl,.nil⟩
 |cons r l ih=>
  intro vs h
  cases r with
  |tmp t=>
   simp only[n8]at h
   split at h
   ·cases h
   ·rename_i v hTv
    split at h
    ·cases h
    ·rename_i us hus
     cases h
     obtain⟨Vs,h1,h2⟩:=ih us hus
     refine⟨a.tmps.getD t undef::Vs,?_,.cons (hf.tmp t v hTv) h2⟩
     rw[List.mapM_cons]
     simp only[Sem.run_bind,Sem.run_pure,Result.andThen_ok,h1]
  |cell ad t=>
   simp only[n8]at h
   split at h
   ·cases h
   ·rename_i x hTx
    split at h
    ·cases h
    ·rename_i v hv
     split at h
     ·cases h
     ·rename_i us hus
      cases h
      obtain⟨Vs,h1,h2⟩:=ih us hus
      obtain⟨V,adr,g1,g2,g3⟩:=Ee (P:=P) ht hr (hf.tmp ad x hTx) hv
      have hadr:(asAddr (a.tmps.getD ad undef)).run P w=.ok adr w:=by rw[g1];rfl
      refine⟨V::Vs,?_,.cons g3 h2⟩
      rw[List.mapM_cons]
      simp only[Sem.run_bind,hadr,Sem.run_pure,Result.andThen_ok,g2,h1]
theorem Fo {γ:Gm}{vs:List AV}{Vs:List Value}(h:ap γ vs Vs):aj γ (tJ vs) (if hs:Vs.toArray.size=1 then Vs.toArray[0]else .tuple Vs.toArray):=by
 cases h with
 |nil=>exact .tup .nil
 |cons hv ht=>
  cases ht with
  |nil=>exact hv
  |cons hv' ht'=>
   rename_i v V v2 V2 vs' Vs'
   have:¬((V::V2::Vs').toArray.size=1):=by simp
   rw[dif_neg this]
   exact .tup (.cons hv (.cons hv' ht'))
theorem Ed {γ:Gm}{args:List AV}{Args:List Value}(h:ap γ args Args)(hl:args.length<1000000)(n t:Nat){v:AV}(hv:(Tr.ofList args).get t=some v):aj γ v ((Args.toArray++Array.replicate n undef).getD t undef):=by
 rw[Tr.get_ofList args hl]at hv
 rcases h.get t with⟨h1,h2⟩|⟨u,U,h1,h2,h3⟩
 ·rw[h1]at hv;cases hv
 ·rw[h1]at hv
  cases hv
  have hlt:t<Args.length:=by
   rcases bA t Args.length with h'|h'
   ·exact h'
   ·rw[jD h']at h2;cases h2
  have:(Args.toArray++Array.replicate n undef).getD t undef=U:=by
   simp only[Array.getD_eq_getD_getElem?]
   rw[Array.getElem?_append_left (by simpa using hlt)]
   simp[h2]
  rw[this]
  exact h3
theorem oZ {P:Program}{E:cj}(hE:eW P E){call:bq}(hcall:bV P E.ng call){lo:List Nat→Option aO}{f:Nat}{args:List AV}(hlo:∀fn c,P.funcs[f]? =some fn→fn.body=some c→mU P E.ng (Nat.max args.length fn.ntmps) lo c){H H':Hs}{v:AV}(h:iJ E call lo f args H=some (v,H')):
 (∀p∈H.ms,p∈H'.ms)∧((∀p∈H'.ms,p)→∀γ w Args,aJ γ H.m.get H.nx w→ap γ args Args→iO E.ng γ→
 (∃fn,P.funcs[f]? =some fn∧fn.body.isSome=true)∧
 Calls P f Args.toArray w fun e w'=>∃V γ',e=.returned V∧aj γ' v V∧bT γ H w γ' H' w'):=by
 unfold iJ at h
 split at h
 ·cases h
 ·rename_i fn hfn
  rw[hE.fs f]at hfn
  split at h
  ·cases h
  ·rename_i c hc
   cases hlen:Nat.blt args.length 1000 with
   |false=>simp[hlen]at h
   |true=>
    have hlen':args.length<1000:=aT hlen
    simp only[hlen,oD,bt]at h
    split at h
    ·cases h
    ·rename_i ex T H1 hne hcode
     split at h
     ·cases h
     ·rename_i vs hvs
      cases h
      refine⟨mB hcall _ _ _ _ _ _ _ _ hcode,fun hm γ w Args hr hA hg=>?_⟩
      refine⟨⟨fn,hfn,by rw[hc];rfl⟩,?_⟩
      have hl:=hA.length
      have hN:(Args.toArray++Array.replicate (fn.ntmps-Args.toArray.size) undef).size=Nat.max args.length fn.ntmps:=by
       simp only[Array.size_append,pO,Array.size_replicate,hl]
       show _=max args.length fn.ntmps
       omega
      refine calls_of_wp hfn hc ?_
      have hf:cH γ E.ng (Tr.ofList args) (Nat.max args.length fn.ntmps) {tmps:=Args.toArray++Array.replicate (fn.ntmps-Args.toArray.size) undef,defers:=[]}:=
       ⟨rfl,hN,fun t v hv=>Ed hA om _ t hv,hg⟩
      refine wp_mono ((Cq hE hcall (hlo fn c hfn hc) _).1 [] c _ T H H' ex (by cases c<;>rfl) hcode hm γ _ w hf hr) ?_
      rintro x a' w' ⟨rfl,γ',hf',hrun⟩
      obtain⟨Vs,h1,h2⟩:=Fn (P:=P) hE.ti hf' hrun.stp.rel fn.results.toList vs hvs
      have hres:(results fn a'.tmps).run P w'=.ok (if hs:Vs.toArray.size=1 then Vs.toArray[0]else .tuple Vs.toArray) w':=by
       unfold results
       rw[Array.mapM_eq_mapM_toList]
       simp only[Sem.run_bind,Sem.run_map,Sem.run_pure]
       exact congrArg (fun r:Result (List Value)=>(r.andThen fun a w'=>Result.ok a.toArray w').andThen fun a w'=>Result.ok (if h:a.size=1 then a[0]else Value.tuple a) w') h1
      have hpost:∃V,(results fn a'.tmps).run P w'=.ok V w'∧∃V' γ'',Ending.returned V=.returned V'∧aj γ'' (tJ vs) V'∧bT γ H w γ'' H' w':=⟨_,hres,_,γ',rfl,Fo h2,hrun⟩
      cases ex with
      |normal=>exact⟨hf'.defers,hpost⟩
      |ret=>exact⟨hf'.defers,hpost⟩
      |exit id=>exact(hne id rfl).elim
    ·cases h
theorem bU {P:Program}{E:cj}(hE:eW P E){orc:bq}(ho:bV P E.ng orc):∀n,bV P E.ng (ll E orc n):=by
 intro n
 induction n with
 |zero=>intro f args H v H' h;simp[ll]at h
 |succ n ih=>
  intro f args H v H' h
  simp only[ll]at h
  split at h
  ·rename_i r hr'
   cases h
   exact ho f args H v H' hr'
  ·exact oZ hE ih (fun _ _ _ _=>Qb _ _ _ _) h
end Go.QfSy
namespace Go.QfSy
open Go.RowKit
structure Tb where
 g:Nat
 k:IntKind
 l:List Int
 el:Nat
def Tb.av1 (t:Tb):AV:=match t.k with
 |.u8=>.verr false
 |k=>.vnum k
def Tb.avs (t:Tb):List AV:=match t.l with
 |[]=>[t.av1]
 |l=>l.map (.int t.k)
def i9 (t:Tb)(w:World):Prop:=match t.l with
 |[]=>∃v,(match t.k with
  |.u8=>vJ false v
  |k=>∃n,v=.int k n)∧w.heap[t.g]? =some (.cells #[v] t.el (0,0))
 |l=>w.heap[t.g]? =some (.cells (l.map (Value.int t.k)).toArray t.el (0,0))
def jU (tabs:List Tb)(w:World):Prop:=∀t∈tabs,i9 t w
theorem i9.ex {t:Tb}{w:World}(h:i9 t w):∃o,w.heap[t.g]? =some o:=by
 unfold i9 at h
 split at h
 ·obtain⟨v,_,h⟩:=h;exact⟨_,h⟩
 ·exact⟨_,h⟩
theorem i9.of_eq {t:Tb}{w w':World}(h:i9 t w)(e:w'.heap[t.g]? =w.heap[t.g]?):i9 t w':=by
 unfold i9 at h⊢
 rw[e];exact h
def Tb.blk (t:Tb):ag:=⟨.plain t.avs,t.el,0,false,false⟩
def dH (tabs:List Tb):List (Nat×ag):=tabs.map fun t=>(t.g,t.blk)
def pE (F:Fz)(w:World):Prop:=∀B x,F B=some x→w.heap[B]? =some x
structure th (B:Nat)(w w':World):Prop extends Below B w w' where
 drawn:w.drawn≤w'.drawn
def ax (P:Program)(tabs:List Tb)(f:Nat)(A:List RV)(R:RV):Prop:=
 (∃fn,P.funcs[f]? =some fn∧fn.body.isSome=true)∧
 ∀(w:World)(F:Fz)(Args:List Value),jU tabs w→pE F w→bY F A Args→
  Calls P f Args.toArray w fun e w'=>∃V F',e=.returned V∧F.le F'∧pE F' w'∧(∀B x,F' B=some x→F B=some x∨w.heap.size≤B)∧bZ F' R V∧th w.heap.size w w'
def jV (ng:Nat)(F:Fz):Gm:=⟨fun b=>if b<ng then some (b,0)else none,F⟩
theorem Pb (γ:Gm)(k:IntKind)(l:List Int):ap γ (l.map (AV.int k)) (l.map (Value.int k)):=by
 induction l with
 |nil=>exact .nil
 |cons x l ih=>exact .cons (.int _ _) ih
theorem FQ {γ:Gm}{k:IntKind}:∀{l:List Int}{cs:List Value},ap γ (l.map (AV.int k)) cs→cs=l.map (Value.int k)
 |[],cs,h=>by cases h;rfl
 |x::l,cs,h=>by
  cases h with
  |cons hv ht=>cases hv;rw[FQ ht];rfl
theorem i9.rel {γ:Gm}{t:Tb}{w:World}(h:i9 t w):∃cs,w.heap[t.g]? =some (.cells cs.toArray t.el (0,0))∧ap γ t.avs cs:=by
 obtain⟨g,k,l,el⟩:=t
 cases l with
 |nil=>
  obtain⟨v,h1,h2⟩:=h
  refine⟨[v],h2,.cons ?_ .nil⟩
  cases k with
  |u8=>exact .verr h1
  |_=>obtain⟨n,rfl⟩:=h1;exact .vnum _ _
 |cons x l=>exact⟨_,h,Pb _ _ _⟩
theorem i9.of_rel {γ:Gm}{t:Tb}{w:World}{cs:List Value}(h:w.heap[t.g]? =some (.cells cs.toArray t.el (0,0)))(hr:ap γ t.avs cs):i9 t w:=by
 obtain⟨g,k,l,el⟩:=t
 cases l with
 |nil=>
  have hr:ap γ [Tb.av1 ⟨g,k,[],el⟩] cs:=hr
  cases hr with|cons h1 h2=>
  cases h2
  refine⟨_,?_,h⟩
  cases k with
  |u8=>cases (show aj γ (.verr false) _ from h1)with|verr h1=>exact h1
  |i64=>cases (show aj γ (.vnum .i64) _ from h1);exact⟨_,rfl⟩
  |i32=>cases (show aj γ (.vnum .i32) _ from h1);exact⟨_,rfl⟩
  |i16=>cases (show aj γ (.vnum .i16) _ from h1);exact⟨_,rfl⟩
  |i8=>cases (show aj γ (.vnum .i8) _ from h1);exact⟨_,rfl⟩
  |u64=>cases (show aj γ (.vnum .u64) _ from h1);exact⟨_,rfl⟩
  |u32=>cases (show aj γ (.vnum .u32) _ from h1);exact⟨_,rfl⟩
  |u16=>cases (show aj γ (.vnum .u16) _ from h1);exact⟨_,rfl⟩
 |cons x l=>
  have e:=FQ (show ap γ ((x::l).map (AV.int k)) cs from hr)
  rw[e]at h
  exact h
theorem Ao {ng nx:Nat}{tabs:List Tb}{F:Fz}{w:World}(h:jU tabs w)(hF:pE F w)(hn:ng≤nx)(hg:tabs.all (fun t=>Nat.blt t.g ng)=true)(hok:eP (dH tabs)=true):aJ (jV ng F) (aI (dH tabs)).get nx w:=by
 have hmem:∀b k,(aI (dH tabs)).get b=some k→∃t∈tabs,b=t.g∧k=t.blk:=by
  intro b k hb
  have:=i7 _ _ _ hok hb
  unfold dH at this
  obtain⟨t,h1,h2⟩:=gv.1 this
  cases h2
  exact⟨t,h1,rfl,rfl⟩
 have hlt:∀t∈tabs,t.g<ng:=fun t ht=>aT (cK.1 hg t ht)
 refine⟨fun b k hb=>?_,fun b b' k k' B x x' h1 h2 h3 h4=>?_,fun b hb=>?_,hF,fun b k B x hb ho hg'=>?_⟩
 ·obtain⟨t,h1,rfl,rfl⟩:=hmem b k hb
  obtain⟨cs,h2,h3⟩:=(h t h1).rel (γ:=jV ng F)
  exact⟨t.g,0,cs,[],by simp[jV,hlt t h1],by rw[kf];exact h2,h3,si,fun _=>rfl⟩
 ·simp only[jV]at h3 h4
  split at h3
  ·split at h4
   ·cases h3;cases h4;rfl
   ·cases h4
  ·cases h3
 ·simp only[jV]
  rw[if_neg om]
 ·obtain⟨t,h1,rfl,rfl⟩:=hmem b k hb
  cases ho
theorem mE {ng:Nat}{tabs:List Tb}{F:Fz}(hok:eP (dH tabs)=true)(B:Nat):¬eQ (jV ng F) (aI (dH tabs)).get B:=by
 rintro⟨b,kk,x,h1,h2,h3⟩
 have:=i7 _ _ _ hok h1
 unfold dH at this
 obtain⟨t,_,h5⟩:=gv.1 this
 cases h5
 cases h2
def rI (k:IntKind)(l:List Int):RV:=.sl l.length 1 (fun j=>[.int k (l.getD j 0)])
def gb (k:IntKind)(L:List (List Int)):RV:=.sl L.length 1 (fun i=>[rI k (L.getD i [])])
def wW (g:AV→RV→Bool):List AV→List RV→Bool
 |[],[]=>true
 |v::vs,r::rs=>g v r&&wW g vs rs
 |_,_=>false
def Jd (g:Nat→Bool):Nat→Bool
 |0=>true
 |n+1=>Jd g n&&g n
def Br (m:Tr ag):Nat→AV→RV→Bool
 |0,_,_=>false
 |f+1,v,r=>match v,r with
  |.int k a,.int k' b=>decide (k=k')&&decide (a=b)
  |.bool a,.bool b=>a==b
  |.nils,.sl n _ _=>Nat.beq n 0
  |.slc b o n c,.sl n' z row=>match m.get b with
   |none=>false
   |some k=>k.own&&Nat.beq n n'&&Nat.ble n c&&Nat.ble (o+n*z) k.cells.length&&Jd (fun i=>wW (Br m f) ((k.cells.drop (o+i*z)).take z) (row i)) n
  |.agg vs,.agg rs=>wW (Br m f) vs rs
  |.tup vs,.tup rs=>wW (Br m f) vs rs
  |_,_=>false
mutual
def rd (m:Tr ag):AV→RV→Option (List Prop)
 |.vint k a,.int k' b=>bif decide (k=k')then some [a=b]else none
 |.int k a,.int k' b=>bif decide (k=k')then some [a=b]else none
 |.vbool a,.bool b=>some [a=b]
 |.bool a,.bool b=>some [a=b]
 |.vstr a,.str b=>some [a=b]
 |.str a,.str b=>some [a=b]
 |.ro n z r,.sl n' z' r'=>bif Nat.beq z z' then some [n=n'∧r=r']else none
 |.nils,.sl n _ _=>some [n=0]
 |.emp,.sl n _ _=>some [n=0]
 |.zer,.sl n _ _=>some [n=0]
 |.z0,.sl n _ _=>some [n=0]
 |.lo b n,.sl n' z r=>match m.get b with
  |none=>none
  |some k=>bif k.own then(match k.view with
   |.con L=>bif Nat.beq z 5 then some [n=n'∧n=L.length∧∀i,i<n→r i=(L.getD i Con.zero).rvs]else none
   |.ints kk L=>bif Nat.beq z 1 then some [n=n'∧n=L.length∧∀i,i<n→r i=[.int kk (L.getD i 0)]]else none
   |.vals τ L=>bif Nat.beq z τ.sz then some [n=n'∧n=List.length (α:=τ.car) L∧∀i,i<n→r i=τ.rvs (List.getD (α:=τ.car) L i τ.zero)]else none
   |.rows kk L c q=>(match m.get c with
    |none=>none
    |some kc=>bif kc.own&&Nat.beq z 1 then(match kc.view with
     |.ints k' l=>bif decide (k'=kk)then some [n=n'∧n=L.length+1∧q=l.length∧∀i,i<n→r i=[rI kk ((L++[l]).getD i [])]]else none
     |_=>none)else none)
   |_=>none)else none
 |.agg vs,.agg rs=>tK m vs rs
 |.tup vs,.tup rs=>tK m vs rs
 |_,_=>none
def tK (m:Tr ag):List AV→List RV→Option (List Prop)
 |[],[]=>some []
 |v::vs,r::rs=>match rd m v r with
  |none=>none
  |some m1=>match tK m vs rs with
   |none=>none
   |some m2=>some (m1++m2)
 |_,_=>none
end
theorem Pc {γ:Gm}{F:Fz}{c:Con}{cs:List Value}(h:ap γ c.avs cs):bY F c.rvs cs:=by
 unfold Con.avs at h
 unfold Con.rvs
 cases h with|cons h1 h=>
 cases h with|cons h2 h=>
 cases h with|cons h3 h=>
 cases h with|cons h4 h=>
 cases h with|cons h5 h=>
 cases h
 cases h1;cases h2;cases h3;cases h4;cases h5
 exact .cons (.int _ _) (.cons (.int _ _) (.cons (.int _ _) (.cons (.bool _) (.cons (.int _ _) .nil))))
theorem Pd {γ:Gm}{h:Tr ag}{nx:Nat}{w:World}(hr:aJ γ h.get nx w){F:Fz}(hO:∀b k B x y,h.get b=some k→k.own=true→γ b=some (B,x)→w.heap[B]? =some y→F B=some y){b n:Nat}{k:ag}{kk:IntKind}{L:List Int}(hk:h.get b=some k)(hown:k.own=true)(hview:k.view=.ints kk L)(hn:n=L.length){V:Value}(hV:aj γ (.lo b n) V):bZ F (.sl n 1 (fun i=>[.int kk (L.getD i 0)])) V:=by
 cases hV with
 |lo _ hg=>
  rename_i B x
  obtain⟨B',x',cs,ex,g1,g2,g3,g4,g5⟩:=hr.blk b k hk
  rw[hg]at g1
  cases g1
  have hFB:=hO b k B x _ hk hown hg g2
  have hcl:=g3.length
  have hcells:k.cells=L.map (AV.vint kk):=by unfold ag.cells;rw[hview];rfl
  rw[hcells]at g3
  rw[hcells,jG]at hcl
  have hcs:cs=L.map (Value.int kk):=by
   clear hview hcells hn hcl hFB g2
   induction L generalizing cs with
   |nil=>cases g3;rfl
   |cons a L ih=>cases g3 with|cons h1 h2=>cases h1;rw[ih _ h2];rfl
  subst hcs
  refine .sl (fun i=>[.int kk (L.getD i 0)]) om (fun i hi=>rfl) (fun i j v hi hv=>?_) (fun i hi=>.cons (.int _ _) .nil)
  refine⟨_,_,_,hFB,?_⟩
  cases j with
  |zero=>
   simp only[nd,bv]at hv
   subst hv
   rw[ke,gg (by simp;omega)]
   have:i<L.length:=by omega
   simp[this]
  |succ j=>simp at hv
theorem RY {γ:Gm}{F:Fz}(hF:γ.fz.le F){τ:ae}{L:List τ.car}{B c el:Nat}{fr:Nat×Nat}{cs ex:List Value}(hFB:F B=some (.cells (cs++ex).toArray el fr))(hr:ap γ (ce τ L) cs)(hc:L.length≤c):bZ F (dU τ L) (.slice (some ⟨B,0,none⟩) L.length c):=by
 have hle:γ.le ⟨γ.nm,F⟩:=⟨fun _ _ h=>h,hF⟩
 exact Cw (γ:=⟨γ.nm,F⟩) hFB (hr.mono hle) hc
mutual
theorem nI {γ:Gm}{h:Tr ag}{nx:Nat}{w:World}(hr:aJ γ h.get nx w){F:Fz}(hF:γ.fz.le F)(hO:∀b k B x y,h.get b=some k→k.own=true→γ b=some (B,x)→w.heap[B]? =some y→F B=some y):
 ∀{v:AV}{r:RV}{ms:List Prop}{V:Value},rd h v r=some ms→(∀p∈ms,p)→aj γ v V→bZ F r V:=by
 intro v r ms V hq hm hV
 unfold rd at hq
 split at hq
 ·obtain⟨hk,h'⟩:=ay hq
  have hk:=ea hk
  clear hq;subst hk;cases h'
  have:=aA hm;subst this;cases hV;exact .int _ _
 ·obtain⟨hk,h'⟩:=ay hq
  have hk:=ea hk
  clear hq;subst hk;cases h'
  have:=aA hm;subst this;cases hV;exact .int _ _
 ·cases hq;have:=aA hm;subst this;cases hV;exact .bool _
 ·cases hq;have:=aA hm;subst this;cases hV;exact .bool _
 ·cases hq;have:=aA hm;subst this;cases hV;exact .str _
 ·cases hq;have:=aA hm;subst this;cases hV;exact .str _
 ·obtain⟨hk,h'⟩:=ay hq
  have hk:=aM hk
  clear hq;subst hk;cases h'
  obtain⟨rfl,rfl⟩:=aA hm
  cases hV with
  |ro h=>exact h.mono hF
 ·cases hq;have:=aA hm;subst this;cases hV;exact .sl0 _ _ _ _ rfl
 ·cases hq;have:=aA hm;subst this;cases hV;exact .sl0 _ _ _ _ rfl
 ·cases hq;have:=aA hm;subst this;cases hV;exact .sl0 _ _ _ _ rfl
 ·cases hq;have:=aA hm;subst this;cases hV;exact .sl0 _ _ _ _ rfl
 ·rename_i b n n' z r
  cases hV with
  |lo _ hg=>
   rename_i B x
   split at hq
   ·cases hq
   ·rename_i k hk
    have hown:=(ay hq).1
    replace hq:=(ay hq).2
    obtain⟨B',x',cs,ex,g1,g2,g3,g4,g5⟩:=hr.blk b k hk
    rw[hg]at g1
    cases g1
    have hFB:=hO b k B x _ hk hown hg g2
    have hcl:=g3.length
    split at hq
    ·rename_i L hview
     have hcells:k.cells=L.flatMap Con.avs:=by unfold ag.cells;rw[hview];rfl
     have hz:=aM (ay hq).1
     replace hq:=(ay hq).2
     subst hz
     cases hq
     obtain⟨rfl,hn,hrow⟩:=aA hm
     rw[hcells]at g3
     rw[hcells,lM]at hcl
     refine .sl (fun i=>(cs.drop (i*5)).take 5) om (fun i hi=>by simp;omega) (fun i j v hi hv=>?_) (fun i hi=>?_)
     ·refine⟨_,_,_,hFB,?_⟩
      rw[ow]at hv
      split at hv
      ·rw[lG]at hv
       rw[ke,gg om]
       rw[show 0+i*5+j=i*5+j by omega]
       exact hv
      ·cases hv
     ·rw[hrow i hi]
      have h5:=(g3.drop (i*5)).take 5
      rw[D5 L i om]at h5
      exact Pc h5
    ·rename_i kk L hview
     have hcells:k.cells=L.map (AV.vint kk):=by unfold ag.cells;rw[hview];rfl
     have hz:=aM (ay hq).1
     replace hq:=(ay hq).2
     subst hz
     cases hq
     obtain⟨rfl,hn,hrow⟩:=aA hm
     rw[hcells]at g3
     rw[hcells,jG]at hcl
     have hcs:cs=L.map (Value.int kk):=by
      clear hview hcells hn hrow hcl hFB g2 hm
      induction L generalizing cs with
      |nil=>cases g3;rfl
      |cons a L ih=>cases g3 with|cons h1 h2=>cases h1;rw[ih _ h2];rfl
     subst hcs
     refine .sl (fun i=>[.int kk (L.getD i 0)]) om (fun i hi=>rfl) (fun i j v hi hv=>?_) (fun i hi=>?_)
     ·refine⟨_,_,_,hFB,?_⟩
      cases j with
      |zero=>
       simp only[nd,bv]at hv
       subst hv
       rw[ke,gg (by simp;omega)]
       have:i<L.length:=by omega
       simp[this]
      |succ j=>simp at hv
     ·rw[hrow i hi]
      exact .cons (.int _ _) .nil
    ·rename_i τ L hview
     have hcells:k.cells=ce τ L:=by unfold ag.cells;rw[hview];rfl
     have hz:=aM (ay hq).1
     replace hq:=(ay hq).2
     subst hz
     cases hq
     obtain⟨rfl,hn,hrow⟩:=aA hm
     rw[hcells]at g3
     have h5:=RY hF hFB g3 (c:=n+x) om
     have h6:bZ F (.sl L.length τ.sz (fun i=>τ.rvs (L.getD i τ.zero))) (.slice (some ⟨B,0,none⟩) L.length (n+x)):=h5
     rw[←hn]at h6
     exact h6.rows (fun i hi=>(hrow i hi).symm)
    ·rename_i kk L c q hview
     have hcells:k.cells=L.map (fU kk)++[AV.lo c q]:=by unfold ag.cells;rw[hview];rfl
     split at hq
     ·cases hq
     ·rename_i kc hkc
      have hb:=(ay hq).1
      replace hq:=(ay hq).2
      obtain⟨hb1,hb2⟩:=bB hb
      have hb2:=aM hb2
      subst hb2
      split at hq
      ·rename_i k' l hlv
       have hkk:=ea (ay hq).1
       replace hq:=(ay hq).2
       subst hkk
       cases hq
       obtain⟨rfl,hn,hql,hrow⟩:=aA hm
       rw[hcells]at g3
       rw[hcells]at hcl
       simp only[fV,jG,dg,ic]at hcl
       refine .sl (fun i=>(cs.drop (i*1)).take 1) om (fun i hi=>by simp;omega) (fun i j v hi hv=>?_) (fun i hi=>?_)
       ·refine⟨_,_,_,hFB,?_⟩
        rw[ow]at hv
        split at hv
        ·rw[lG]at hv
         rw[ke,gg om]
         rw[show 0+i*1+j=i*1+j by omega]
         exact hv
        ·cases hv
       ·rw[hrow i hi]
        have h5:=(g3.drop (i*1)).take 1
        rw[List.take_one,oz]at h5
        rw[Nat.mul_one]at h5⊢
        by_cases hiL:i<L.length
        ·rw[gg (by simpa using hiL)]at h5
         simp only[mo,gS hiL,kU,Option.toList_some]at h5
         have e:(L++[l]).getD i []=L[i]:=by simp[List.getD,gg hiL,gS hiL]
         rw[e]
         generalize (cs.drop i).take 1=D at h5
         cases h5 with
         |cons h6 h7=>
          cases h7
          cases h6 with
          |ro hR=>exact .cons (hR.mono hF) .nil
        ·have hi2:i=L.length:=by omega
         subst hi2
         rw[nc si]at h5
         simp only[jG,Nat.sub_self,nd,Option.toList_some]at h5
         have e:(L++[l]).getD L.length []=l:=by simp[List.getD]
         rw[e]
         generalize (cs.drop L.length).take 1=D at h5
         cases h5 with
         |cons h6 h7=>
          cases h7
          have h8:=Pd hr hO hkc hb1 hlv hql h6
          subst hql
          exact .cons h8 .nil
      ·cases hq
    ·cases hq
 ·cases hV with
  |agg hv=>exact .agg (zv hr hF hO hq hm hv)
 ·cases hV with
  |tup hv=>exact .tup (zv hr hF hO hq hm hv)
 ·cases hq
theorem zv {γ:Gm}{h:Tr ag}{nx:Nat}{w:World}(hr:aJ γ h.get nx w){F:Fz}(hF:γ.fz.le F)(hO:∀b k B x y,h.get b=some k→k.own=true→γ b=some (B,x)→w.heap[B]? =some y→F B=some y):
 ∀{vs:List AV}{rs:List RV}{ms:List Prop}{Vs:List Value},tK h vs rs=some ms→(∀p∈ms,p)→ap γ vs Vs→bY F rs Vs:=by
 intro vs rs ms Vs hq hm hV
 unfold tK at hq
 split at hq
 ·cases hV;exact .nil
 ·split at hq
  ·cases hq
  ·rename_i m1 h1
   split at hq
   ·cases hq
   ·rename_i m2 h2
    cases hq
    obtain⟨hm1,hm2⟩:=dJ hm
    cases hV with
    |cons hv ht=>exact .cons (nI hr hF hO h1 hm1 hv) (zv hr hF hO h2 hm2 ht)
 ·cases hq
end
def kx (x:Option (AV×Hs))(R:RV):Option (List Prop):=match x with
 |none=>none
 |some (v,H)=>match rd H.m v R with
  |none=>none
  |some ms=>some (ms++H.ms)
def ar:List Prop→Prop
 |[]=>True
 |[p]=>p
 |p::l=>p∧ar l
theorem iZ:∀(l:List Prop),ar l↔∀p∈l,p
 |[]=>⟨fun _ p hp=>(nomatch hp),fun _=>trivial⟩
 |[p]=>⟨fun h q hq=>by rw[fJ.1 hq];exact h,fun h=>h p (fJ.2 rfl)⟩
 |p::q::l=>by
  have ih:=iZ (q::l)
  constructor
  ·rintro⟨h1,h2⟩ r hr
   rcases bC.1 hr with e|hr
   ·rw[e];exact h1
   ·exact ih.1 h2 r hr
  ·intro h
   exact⟨h p eB,ih.2 fun r hr=>h r (fk _ hr)⟩
theorem Ck {P:Program}{E:cj}(hE:eW P E){call:bq}(hcall:bV P E.ng call){lo:List Nat→Option aO}{f:Nat}{A:List RV}{vs:List AV}(hvs:∀γ F Args,γ.fz=F→bY F A Args→ap γ vs Args)(hlo:∀fn c,P.funcs[f]? =some fn→fn.body=some c→mU P E.ng (Nat.max vs.length fn.ntmps) lo c){tabs:List Tb}(hg:tabs.all (fun t=>Nat.blt t.g E.ng)=true)(hok:eP (dH tabs)=true)(hng:Nat.ble E.ng 1000=true)
 {R:RV}{tp:List Bool}{v:AV}{H':Hs}(hrun:iJ E call lo f vs ⟨aI (dH tabs),1000,tp,[]⟩=some (v,H'))(hm2:∀p∈H'.ms,p)
 (hrd:∀γ w F,aJ γ H'.m.get H'.nx w→γ.fz.le F→(∀b k B x y,H'.m.get b=some k→k.own=true→γ b=some (B,x)→w.heap[B]? =some y→F B=some y)→∀V,aj γ v V→bZ F R V):ax P tabs f A R:=by
 have hb:=(oZ hE hcall hlo hrun).2 hm2
 have hng:=aT hng
 refine⟨?_,fun w F Args hT hF hA=>?_⟩
 ·have hb0:=oZ hE hcall hlo hrun
  unfold iJ at hrun
  split at hrun
  ·cases hrun
  ·rename_i fn hfn
   rw[hE.fs f]at hfn
   split at hrun
   ·cases hrun
   ·rename_i c hc
    exact⟨fn,hfn,by rw[hc];rfl⟩
 ·obtain⟨_,hcalls⟩:=hb (jV E.ng F) w Args (Ao hT hF hng hg hok) (hvs _ _ _ rfl hA) (fun g hg'=>by simp[jV,hg'])
  refine hcalls.mono ?_
  rintro e w' ⟨V,γ',rfl,hV,hR⟩
  have hbel:th w.heap.size w w':=⟨⟨hR.stp.os,hR.stp.tape,hR.stp.output,hR.stp.size,fun k hk=>hR.stp.frame k hk (mE hok k)⟩,hR.stp.drawn⟩
  let F':Fz:=fun B=>match γ'.fz B with
   |some x=>some x
   |none=>if w.heap.size≤B then w'.heap[B]? else none
  have hle:γ'.fz.le F':=by intro B x hx;simp only[F',hx]
  refine⟨V,F',rfl,fun B x hx=>hle B x (hR.stp.le.fz B x hx),?_,?_,?_,hbel⟩
  ·intro B x hx
   simp only[F']at hx
   split at hx
   ·rename_i y hy;cases hx;exact hR.stp.rel.fzr B x hy
   ·split at hx
    ·exact hx
    ·cases hx
  ·intro B x hx
   simp only[F']at hx
   split at hx
   ·rename_i y hy
    cases hx
    rcases hR.stp.fzn B x hy with h1|h1|h1
    ·exact .inl h1
    ·exact .inr h1
    ·exact(mE hok B h1).elim
   ·split at hx
    ·rename_i hB;exact .inr hB
    ·cases hx
  ·refine hrd _ _ _ hR.stp.rel hle (fun b k B x y hk hown hgb hy=>?_) _ hV
   have hz:=hR.stp.rel.fzo b k B x hk hown hgb
   simp only[F',hz]
   rw[if_pos,hy]
   rcases bA B w.heap.size with h1|h1
   ·exact(mE hok B (hR.stp.own B h1 ⟨b,k,x,hk,hown,hgb⟩)).elim
   ·exact h1
theorem Ly {P:Program}{E:cj}(hE:eW P E){call:bq}(hcall:bV P E.ng call){lo:List Nat→Option aO}{f:Nat}{A:List RV}{vs:List AV}(hvs:∀γ F Args,γ.fz=F→bY F A Args→ap γ vs Args)(hlo:∀fn c,P.funcs[f]? =some fn→fn.body=some c→mU P E.ng (Nat.max vs.length fn.ntmps) lo c){tabs:List Tb}(hg:tabs.all (fun t=>Nat.blt t.g E.ng)=true)(hok:eP (dH tabs)=true)(hng:Nat.ble E.ng 1000=true)
 {R:RV}{tp:List Bool}{ms:List Prop}(h:kx (iJ E call lo f vs ⟨aI (dH tabs),1000,tp,[]⟩) R=some ms)(hm:ar ms):ax P tabs f A R:=by
 unfold kx at h
 split at h
 ·cases h
 ·rename_i v H' hrun
  split at h
  ·cases h
  ·rename_i m1 hrd
   cases h
   rw[iZ]at hm
   obtain⟨hm1,hm2⟩:=dJ hm
   exact Ck hE hcall hvs hlo hg hok hng hrun hm2 fun γ w F hr hF hO V hV=>nI hr hF hO hrd hm1 hV
theorem LI {P:Program}{E:cj}(hE:eW P E){call:bq}(hcall:bV P E.ng call){lo:List Nat→Option aO}{f:Nat}{A:List RV}(hlo:∀fn c,P.funcs[f]? =some fn→fn.body=some c→mU P E.ng (Nat.max (RV.avl A).length fn.ntmps) lo c){tabs:List Tb}(hg:tabs.all (fun t=>Nat.blt t.g E.ng)=true)(hok:eP (dH tabs)=true)(hng:Nat.ble E.ng 1000=true)
 {R:RV}{tp:List Bool}{ms:List Prop}(h:kx (iJ E call lo f (RV.avl A) ⟨aI (dH tabs),1000,tp,[]⟩) R=some ms)(hm:ar ms):ax P tabs f A R:=
 Ly hE hcall (fun γ F Args e h=>by subst e;exact h.avl) hlo hg hok hng h hm
mutual
def AZ (m:Tr ag):AV→Option (RV×Bool×List Prop)
 |.vint k a=>some (.int k a,false,[])
 |.int k a=>some (.int k a,false,[])
 |.vbool a=>some (.bool a,false,[])
 |.bool a=>some (.bool a,false,[])
 |.vstr a=>some (.str a,false,[])
 |.str a=>some (.str a,false,[])
 |.ro n z r=>some (.sl n z r,false,[])
 |.nils=>some (.sl 0 5 (fun _=>[]),false,[])
 |.z0=>some (.sl 0 5 (fun _=>[]),false,[])
 |.lo b n=>match m.get b with
  |none=>none
  |some k=>bif k.own then(match k.view with
   |.con L=>some (.sl n 5 (fun i=>(L.getD i Con.zero).rvs),true,[n=L.length])
   |.ints kk L=>some (.sl n 1 (fun i=>[.int kk (L.getD i 0)]),true,[n=L.length])
   |.vals τ L=>some (.sl n τ.sz (fun i=>τ.rvs (List.getD (α:=τ.car) L i τ.zero)),true,[n=List.length (α:=τ.car) L])
   |_=>none)else none
 |.agg vs=>match ph m vs with
  |none=>none
  |some (rs,s,ms)=>some (.agg rs,s,ms)
 |_=>none
def ph (m:Tr ag):List AV→Option (List RV×Bool×List Prop)
 |[]=>some ([],false,[])
 |v::vs=>match AZ m v with
  |none=>none
  |some (r,s,m1)=>match ph m vs with
   |none=>none
   |some (rs,s',m2)=>some (r::rs,s||s',m1++m2)
end
mutual
def RV.flatV:RV→Bool
 |.sl _ _ _=>false
 |.agg vs=>RV.flatVs vs
 |.tup vs=>RV.flatVs vs
 |_=>true
def RV.flatVs:List RV→Bool
 |[]=>true
 |v::vs=>v.flatV&&RV.flatVs vs
end
structure cq where
 f:Nat
 tabs:List Tb
 go:List RV→Option (RV×List Prop)
def vO:List cq→Nat→Option cq
 |[],_=>none
 |e::l,f=>bif Nat.beq e.f f then some e else vO l f
def Ap:List AV→List AV→Bool
 |[.verr false],[.verr false]=>true
 |a,b=>lZ a b
theorem NJ {a b:List AV}(h:Ap a b=true):a=b:=by
 unfold Ap at h
 split at h
 ·rfl
 ·exact rU h
def qo (m:Tr ag)(t:Tb):Bool:=match m.get t.g with
 |some ⟨.plain cs,el,_,false,_⟩=>Ap cs t.avs&&Nat.beq el t.el
 |_=>false
def kt (ng:Nat)(ents:List cq):bq:=fun f args H=>match vO ents f with
 |none=>none
 |some e=>match ph H.m args with
  |none=>none
  |some (A,s,m1)=>match e.go A with
   |none=>none
   |some (R,m2)=>bif(!s||R.flatV)&&e.tabs.all (fun t=>Nat.blt t.g ng&&qo H.m t)then some (R.av,H.must (m1++m2))else none
mutual
theorem Pe {γ:Gm}{h:Tr ag}{nx:Nat}{w:World}(hr:aJ γ h.get nx w){F:Fz}(hF:γ.fz.le F){v:AV}{r:RV}{s:Bool}{ms:List Prop}(hS:s=true→∀B y,w.heap[B]? =some y→F B=some y){V:Value}(hq:AZ h v=some (r,s,ms))(hm:∀p∈ms,p)(hV:aj γ v V):bZ F r V:=by
 unfold AZ at hq
 split at hq
 ·cases hq;cases hV;exact .int _ _
 ·cases hq;cases hV;exact .int _ _
 ·cases hq;cases hV;exact .bool _
 ·cases hq;cases hV;exact .bool _
 ·cases hq;cases hV;exact .str _
 ·cases hq;cases hV;exact .str _
 ·cases hq
  cases hV with
  |ro h=>exact h.mono hF
 ·cases hq;cases hV;exact .sl0 _ _ _ _ rfl
 ·cases hq;cases hV;exact .sl0 _ _ _ _ rfl
 ·rename_i b n
  split at hq
  ·cases hq
  ·rename_i k hk
   have hown:=(ay hq).1
   replace hq:=(ay hq).2
   have hO:s=true→∀b k B x y,h.get b=some k→k.own=true→γ b=some (B,x)→w.heap[B]? =some y→F B=some y:=fun hs b k B x y _ _ _ hy=>hS hs B y hy
   split at hq
   ·rename_i L hview
    cases hq
    refine nI hr hF (hO rfl) (ms:=[n=n∧n=L.length∧∀i,i<n→(L.getD i Con.zero).rvs=(L.getD i Con.zero).rvs]) ?_ ?_ hV
    ·simp only[rd,hk,hown,aU,hview]
     rfl
    ·intro p hp
     rw[fJ.1 hp]
     exact⟨rfl,aA hm,fun _ _=>rfl⟩
   ·rename_i kk L hview
    cases hq
    refine nI hr hF (hO rfl) (ms:=[n=n∧n=L.length∧∀i,i<n→[RV.int kk (L.getD i 0)]=[RV.int kk (L.getD i 0)]]) ?_ ?_ hV
    ·simp only[rd,hk,hown,aU,hview]
     rfl
    ·intro p hp
     rw[fJ.1 hp]
     exact⟨rfl,aA hm,fun _ _=>rfl⟩
   ·rename_i τ L hview
    cases hq
    refine nI hr hF (hO rfl) (ms:=[n=n∧n=List.length (α:=τ.car) L∧∀i,i<n→τ.rvs (List.getD (α:=τ.car) L i τ.zero)=τ.rvs (List.getD (α:=τ.car) L i τ.zero)]) ?_ ?_ hV
    ·simp only[rd,hk,hown,aU,hview,mu]
    ·intro p hp
     rw[fJ.1 hp]
     exact⟨rfl,aA hm,fun _ _=>rfl⟩
   ·cases hq
 ·rename_i vs
  split at hq
  ·cases hq
  ·rename_i rs s' ms' hrs
   cases hq
   cases hV with
   |agg hv=>exact .agg (pX hr hF hS hrs hm hv)
 ·cases hq
theorem pX {γ:Gm}{h:Tr ag}{nx:Nat}{w:World}(hr:aJ γ h.get nx w){F:Fz}(hF:γ.fz.le F){vs:List AV}{rs:List RV}{s:Bool}{ms:List Prop}(hS:s=true→∀B y,w.heap[B]? =some y→F B=some y){Vs:List Value}(hq:ph h vs=some (rs,s,ms))(hm:∀p∈ms,p)(hV:ap γ vs Vs):bY F rs Vs:=by
 unfold ph at hq
 split at hq
 ·cases hq;cases hV;exact .nil
 ·split at hq
  ·cases hq
  ·rename_i r s1 m1 h1
   split at hq
   ·cases hq
   ·rename_i rs' s2 m2 h2
    cases hq
    obtain⟨hm1,hm2⟩:=dJ hm
    cases hV with
    |cons hv ht=>exact .cons (Pe hr hF (fun hs=>hS (by rw[hs];rfl)) h1 hm1 hv) (pX hr hF (fun hs=>hS (by rw[hs];cases s1<;>rfl)) h2 hm2 ht)
end
mutual
theorem bZ.flat {F F':Fz}{r:RV}{V:Value}(hf:r.flatV=true)(h:bZ F r V):bZ F' r V:=by
 cases h with
 |bool b=>exact .bool b
 |int k n=>exact .int k n
 |str s=>exact .str s
 |err h=>exact .err h
 |sl0 sz row a c hn=>simp[RV.flatV]at hf
 |sl cs hc hl hf' h=>simp[RV.flatV]at hf
 |agg h=>simp only[RV.flatV]at hf;exact .agg (bY.flat hf h)
 |tup h=>simp only[RV.flatV]at hf;exact .tup (bY.flat hf h)
theorem bY.flat {F F':Fz}{rs:List RV}{Vs:List Value}(hf:RV.flatVs rs=true)(h:bY F rs Vs):bY F' rs Vs:=by
 cases h with
 |nil=>exact .nil
 |cons h t=>
  simp only[RV.flatVs,bj]at hf
  exact .cons (bZ.flat hf.1 h) (bY.flat hf.2 t)
end
theorem CU:∀{l:List cq}{f:Nat}{e:cq},vO l f=some e→e∈l∧e.f=f
 |[],f,e,h=>by cases h
 |x::l,f,e,h=>by
  simp only[vO]at h
  cases hb:Nat.beq x.f f with
  |true=>rw[hb]at h;cases h;exact⟨eB,aM hb⟩
  |false=>
   rw[hb]at h
   obtain⟨h1,h2⟩:=CU h
   exact⟨fk _ h1,h2⟩
theorem yg {γ:Gm}{m:Tr ag}{nx ng:Nat}{w:World}(hr:aJ γ m.get nx w)(hg:iO ng γ){t:Tb}(hlt:t.g<ng)(h:qo m t=true):i9 t w:=by
 unfold qo at h
 split at h
 ·rename_i cs el sz own hk
  obtain⟨h1,h2⟩:=bB h
  have h1:=NJ h1
  have h2:=aM h2
  obtain⟨B,x,Cs,ex,g1,g2,g3,g4,g5⟩:=hr.blk _ _ hk
  rw[hg t.g hlt]at g1
  cases g1
  have hex:ex=[]:=kP (by simpa using g4)
  subst hex
  have g3:ap γ cs Cs:=g3
  rw[h1]at g3
  have g2:w.heap[t.g]? =some (.cells (Cs++[]).toArray el (0,0)):=g2
  rw[kf,h2]at g2
  exact i9.of_rel g2 g3
 ·cases h
def cJ (P:Program)(e:cq):Prop:=∀A R ms,e.go A=some (R,ms)→(∀p∈ms,p)→ax P e.tabs e.f A R
theorem eE {P:Program}{ng:Nat}{ents:List cq}(he:∀e∈ents,cJ P e):bV P ng (kt ng ents):=by
 intro f args H v H' h
 unfold kt at h
 split at h
 ·cases h
 ·rename_i e hf
  obtain⟨hmem,rfl⟩:=CU hf
  split at h
  ·cases h
  ·rename_i A s m1 hA
   split at h
   ·cases h
   ·rename_i R m2 hgo
    have hb:=(ay h).1
    replace h:=(ay h).2
    cases h
    refine⟨fun p hp=>by simp[Hs.must,hp],fun hm γ w Args hr hV hg=>?_⟩
    obtain⟨hb1,hb2⟩:=bB hb
    have hm12:∀p∈m1++m2,p:=fun p hp=>hm p (by simp only[Hs.must];exact lE _ hp)
    obtain⟨hm1,hm2⟩:=dJ hm12
    obtain⟨hfn,hpure⟩:=he e hmem A R m2 hgo hm2
    refine⟨hfn,?_⟩
    have hT:jU e.tabs w:=by
     intro t ht
     obtain⟨q1,q2⟩:=bB (cK.1 hb2 t ht)
     exact yg hr hg (aT q1) q2
    cases s with
    |false=>
     have hRs:=pX hr (F:=γ.fz) (fun _ _ h=>h) (fun h=>by cases h) hA hm1 hV
     refine(hpure w γ.fz Args hT hr.fzr hRs).mono ?_
     rintro x w' ⟨V,F',rfl,hle,hvld,hnew,hR,hbel⟩
     refine⟨V,⟨γ.nm,F'⟩,rfl,bZ.av (γ:=⟨γ.nm,F'⟩) hR,?_,bp _,fun _ _=>rfl⟩
     have hγ:γ.le ⟨γ.nm,F'⟩:=⟨fun _ _ h=>h,hle⟩
     refine⟨hγ,⟨fun b k hb=>?_,hr.inj,hr.fresh,hvld,fun b k B x hb ho hgb=>?_⟩,hbel.size,hbel.os,hbel.tape,hbel.output,fun k hk _=>hbel.block k hk,fun k _ ho=>ho,fun b k hb _=>hb,fun b k hb=>.inl ⟨k,hb⟩,fun B x hB=>?_,hbel.drawn⟩
     ·obtain⟨B,x,cs,ex,g1,g2,g3,g4⟩:=hr.blk b k hb
      exact⟨B,x,cs,ex,g1,by rw[hbel.block B (hr.lt hb g1)];exact g2,g3.mono hγ,g4⟩
     ·cases hz:F' B with
      |none=>exact hz
      |some y=>
       rcases hnew B y hz with h1|h1
       ·rw[hr.fzo b k B x hb ho hgb]at h1;cases h1
       ·exact absurd (hr.lt hb hgb) om
     ·rcases hnew B x hB with h1|h1
      ·exact .inl h1
      ·exact .inr (.inl h1)
    |true=>
     have hfl:R.flatV=true:=by simpa using hb1
     have hRs:=pX hr (F:=fun B=>w.heap[B]?) (fun B x h=>hr.fzr B x h) (fun _ B y hy=>hy) hA hm1 hV
     refine(hpure w (fun B=>w.heap[B]?) Args hT (fun B x h=>h) hRs).mono ?_
     rintro x w' ⟨V,F',rfl,hle,hvld,hnew,hR,hbel⟩
     refine⟨V,γ,rfl,bZ.av (γ:=γ) (hR.flat hfl),?_,bp _,fun _ _=>rfl⟩
     refine⟨Gm.le_refl γ,⟨fun b k hb=>?_,hr.inj,hr.fresh,fun B x hB=>?_,hr.fzo⟩,hbel.size,hbel.os,hbel.tape,hbel.output,fun k hk _=>hbel.block k hk,fun k _ ho=>ho,fun b k hb _=>hb,fun b k hb=>.inl ⟨k,hb⟩,fun B x hB=>.inl hB,hbel.drawn⟩
     ·obtain⟨B,x,cs,ex,g1,g2,g3,g4⟩:=hr.blk b k hb
      exact⟨B,x,cs,ex,g1,by rw[hbel.block B (hr.lt hb g1)];exact g2,g3,g4⟩
     ·have h1:=hr.fzr B x hB
      rw[hbel.block B (eI.1 h1).1]
      exact h1
def sI:bq:=fun _ _ _=>none
theorem cm (P:Program)(ng:Nat):bV P ng sI:=by
 intro f args H v H' h
 cases h
def ww (P:Program):Nat→Nat→Nat→Nat→Bool:=fun e n o u=>liesAt P P.depth e (n/P.cellsOf e) o u 1
theorem Pg (P:Program):qy P (ww P):=fun _ _ _ _ h=>h
def sJ (P:Program)(ng ne conT:Nat)(sym:Bool):cj:=⟨Tr.ofList P.types.toList,Tr.ofList P.funcs.toList,ng,ww P,ne,conT,sym⟩
theorem DO (P:Program)(ng ne conT:Nat)(sym:Bool)(h1:Nat.blt P.types.toList.length 1000000=true)(h2:Nat.blt P.funcs.toList.length 1000000=true)(h3:P.funcs.toList.all (fun fn=>!(fn.name== "runtime.NumGoroutine"))=true)
 (h4:pk (Tr.ofList P.funcs.toList) ne=true→∀x w,(callFunc ne #[x]).run P w=.ok (.value x) w)(h5:P.follows .mixedOrders=true):eW P (sJ P ng ne conT sym)where
 ti:=by
  intro t i hi
  have hi':(Tr.ofList P.types.toList).get t=some i:=hi
  rw[Tr.get_ofList _ (aT h1)]at hi'
  have h2:P.types[t]? =some i:=by simpa using hi'
  have hlt:t<P.types.size:=(eI.1 h2).1
  show Tables.info? P.toTables t=some i
  unfold Tables.info?
  rw[if_pos hlt]
  exact h2
 fs:=by
  intro f
  show(Tr.ofList P.funcs.toList).get f=_
  rw[Tr.get_ofList _ (aT h2)]
  simp
 lz:=Pg P
 noesc:=h4
 names:=by
  intro f fn hf
  have:=cK.1 h3 fn (by simpa using Array.mem_of_getElem? hf)
  simpa using this
 mixed:=h5
def dC:List (Nat×Nat)→Nat→Nat
 |[],b=>b
 |(a,c)::l,b=>bif Nat.beq a b then c else dC l b
mutual
def bW (σ:Nat→Nat):AV→AV
 |.ptr b o=>.ptr (σ b) o
 |.slc b o n c=>.slc (σ b) o n c
 |.lo b n=>.lo (σ b) n
 |.lp b i z j=>.lp (σ b) i z j
 |.ls b o z n e=>.ls (σ b) o z n e
 |.fn f vs=>.fn f (fQ σ vs)
 |.ifc t v=>.ifc t (bW σ v)
 |.agg vs=>.agg (fQ σ vs)
 |.tup vs=>.tup (fQ σ vs)
 |v=>v
def fQ (σ:Nat→Nat):List AV→List AV
 |[]=>[]
 |v::vs=>bW σ v::fQ σ vs
end
mutual
def je (p:Nat→Bool):AV→Bool
 |.ptr b _=>p b
 |.slc b _ _ _=>p b
 |.lo b _=>p b
 |.lp b _ _ _=>p b
 |.ls b _ _ _ _=>p b
 |.fn _ vs=>io p vs
 |.ifc _ v=>je p v
 |.agg vs=>io p vs
 |.tup vs=>io p vs
 |_=>true
def io (p:Nat→Bool):List AV→Bool
 |[]=>true
 |v::vs=>je p v&&io p vs
end
mutual
theorem uW {γ1 γ2:Gm}{σ:Nat→Nat}{p:Nat→Bool}(hs:∀b,p b=true→γ2 b=γ1 (σ b))(hz:γ2.fz=γ1.fz):∀{v:AV}{V:Value},je p v=true→aj γ1 (bW σ v) V→aj γ2 v V:=by
 intro v V hn h
 cases v with
 |ptr b o=>simp only[bW]at h;cases h with|ptr _ hg=>exact .ptr _ (by rw[hs b hn];exact hg)
 |slc b o n c=>simp only[bW]at h;cases h with|slc _ _ _ hg=>exact .slc _ _ _ (by rw[hs b hn];exact hg)
 |lo b n=>simp only[bW]at h;cases h with|lo _ hg=>exact .lo _ (by rw[hs b hn];exact hg)
 |lp b i z j=>simp only[bW]at h;cases h with|lp _ _ _ hg=>exact .lp _ _ _ (by rw[hs b hn];exact hg)
 |ls b o z n e=>simp only[bW]at h;cases h with|ls _ _ _ hg ha hc he=>exact .ls _ _ _ (by rw[hs b hn];exact hg) ha hc he
 |fn f vs=>simp only[bW]at h;cases h with|fn _ hv=>exact .fn _ (oW hs hz hn hv)
 |ifc t u=>simp only[bW]at h;cases h with|ifc _ hv=>exact .ifc _ (uW hs hz hn hv)
 |agg vs=>simp only[bW]at h;cases h with|agg hv=>exact .agg (oW hs hz hn hv)
 |tup vs=>simp only[bW]at h;cases h with|tup hv=>exact .tup (oW hs hz hn hv)
 |vbool b=>simp only[bW]at h;cases h;exact .vbool _
 |vint k n=>simp only[bW]at h;cases h;exact .vint _ _
 |vstr s=>simp only[bW]at h;cases h;exact .vstr _
 |verr b=>simp only[bW]at h;cases h with|verr hR=>exact .verr hR
 |vnum k=>simp only[bW]at h;cases h;exact .vnum _ _
 |ro n sz row=>simp only[bW]at h;cases h with|ro hR=>exact .ro (by rw[hz];exact hR)
 |rp cs j=>simp only[bW]at h;cases h with|rp hR hf=>exact .rp (by rw[hz];exact hR) (fun i v hv=>by rw[hz];exact hf i v hv)
 |z0=>simp only[bW]at h;cases h;exact .z0 _
 |bool b=>simp only[bW]at h;cases h;exact .bool _
 |int k n=>simp only[bW]at h;cases h;exact .int _ _
 |str s=>simp only[bW]at h;cases h;exact .str _
 |nilp=>simp only[bW]at h;cases h;exact .nilp
 |nils=>simp only[bW]at h;cases h;exact .nils
 |emp=>simp only[bW]at h;cases h;exact .emp _ _
 |zer=>simp only[bW]at h;cases h;exact .zer _
 |nilfn=>simp only[bW]at h;cases h;exact .nilfn
 |nilif=>simp only[bW]at h;cases h;exact .nilif
theorem oW {γ1 γ2:Gm}{σ:Nat→Nat}{p:Nat→Bool}(hs:∀b,p b=true→γ2 b=γ1 (σ b))(hz:γ2.fz=γ1.fz):∀{vs:List AV}{Vs:List Value},io p vs=true→ap γ1 (fQ σ vs) Vs→ap γ2 vs Vs:=by
 intro vs Vs hn h
 cases vs with
 |nil=>simp only[fQ]at h;cases h;exact .nil
 |cons v vs=>
  simp only[fQ]at h
  simp only[io,bj]at hn
  cases h with
  |cons hv ht=>exact .cons (uW hs hz hn.1 hv) (oW hs hz hn.2 ht)
end
def wH (σ:Nat→Nat):b6→b6
 |.plain cs=>.plain (fQ σ cs)
 |.rows k L b n=>.rows k L (σ b) n
 |v=>v
def gA (σ:Nat→Nat)(k:ag):ag:={k with view:=wH σ k.view}
def g7 (p:Nat→Bool):b6→Bool
 |.plain cs=>io p cs
 |.rows _ _ b _=>p b
 |_=>true
def dy (base:Nat)(rn:List (Nat×Nat))(b:Nat):Bool:=Nat.blt b base||rn.any (fun p=>Nat.beq p.1 b)
def wb (σ:Nat→Nat)(p:Nat→Bool)(T:Tr AV):List (Nat×AV)→Option (List Prop)
 |[]=>some []
 |(t,v)::l=>match T.get t with
  |none=>none
  |some u=>bif je p v then(match po u (bW σ v)with
   |none=>none
   |some m1=>match wb σ p T l with
    |none=>none
    |some m2=>some (m1++m2))else none
def s9 (σ:Nat→Nat)(p:Nat→Bool)(m:Tr ag):List (Nat×ag)→Option (List Prop)
 |[]=>some []
 |(b,k)::l=>bif p b&&g7 p k.view then(match m.get (σ b)with
  |none=>none
  |some k'=>match wj k' (gA σ k)with
   |none=>none
   |some m1=>match s9 σ p m l with
    |none=>none
    |some m2=>some (m1++m2))else none
def kA:df→df→Bool
 |.normal,.normal=>true
 |.exit i,.exit j=>Nat.beq i j
 |.ret,.ret=>true
 |_,_=>false
def lR:List Nat→Bool
 |[]=>true
 |a::l=>l.all (fun b=>!Nat.beq a b)&&lR l
def fo (x:Option (df×Tr AV×Hs))(e:df)(S:St)(base:Nat)(rn:List (Nat×Nat)):Option (List Prop):=match x with
 |none=>none
 |some (e',T,H)=>
  bif kA e e'&&rn.all (fun p=>Nat.ble base p.1&&Nat.blt p.1 S.nx)&&lR (rn.map (·.1))&&lR (rn.map (·.2))&&rn.all (fun p=>S.m.all (fun q=>!(Nat.blt q.1 base)||!(Nat.beq q.1 p.2)))&&eP S.T&&eP S.m&&Nat.ble base S.nx&&S.m.all (fun q=>q.2.own||(Nat.blt q.1 base&&g7 (fun _=>false) q.2.view))then
   match wb (dC rn) (dy base rn) T S.T with
   |none=>none
   |some m1=>match s9 (dC rn) (dy base rn) H.m S.m with
    |none=>none
    |some m2=>some (m1++m2++H.ms)
  else none
mutual
theorem Ei {σ:Nat→Nat}:∀{v:AV},je (fun _=>false) v=true→bW σ v=v:=by
 intro v h
 cases v with
 |fn f vs=>simp only[je]at h;simp only[bW,oX h]
 |ifc t v=>simp only[je]at h;simp only[bW,Ei h]
 |agg vs=>simp only[je]at h;simp only[bW,oX h]
 |tup vs=>simp only[je]at h;simp only[bW,oX h]
 |_=>first|rfl|(simp[je]at h)
theorem oX {σ:Nat→Nat}:∀{vs:List AV},io (fun _=>false) vs=true→fQ σ vs=vs:=by
 intro vs h
 cases vs with
 |nil=>rfl
 |cons v vs=>
  simp only[io,bj]at h
  simp only[fQ,Ei h.1,oX h.2]
end
theorem zm {e e':df}(h:kA e e'=true):e=e':=by
 cases e<;>cases e'<;>first|rfl|(simp only[kA]at h;first|(cases h;done)|(rw[aM h]))
theorem iH:∀{rn:List (Nat×Nat)}{base b:Nat},rn.all (fun p=>Nat.ble base p.1)=true→b<base→dC rn b=b
 |[],_,_,_,_=>rfl
 |(a,c)::l,base,b,h,hb=>by
  simp only[lI,bj]at h
  have h1:=aT h.1
  simp only[dC]
  cases hx:Nat.beq a b with
  |true=>have:=aM hx;omega
  |false=>exact iH h.2 hb
theorem lN:∀{rn:List (Nat×Nat)}{b:Nat},rn.any (fun p=>Nat.beq p.1 b)=true→(b,dC rn b)∈rn
 |[],_,h=>by cases h
 |(a,c)::l,b,h=>by
  simp only[dC]
  cases hx:Nat.beq a b with
  |true=>have:=aM hx;subst this;exact eB
  |false=>
   simp only[List.any_cons,hx,Bool.false_or]at h
   exact fk _ (lN h)
theorem uJ:∀{rn:List (Nat×Nat)},lR (rn.map (·.2))=true→∀{a b c:Nat},(a,c)∈rn→(b,c)∈rn→a=b
 |[],_,_,_,_,h,_=>by cases h
 |(x,y)::l,h,a,b,c,ha,hb=>by
  simp only[jH,lR,bj]at h
  have key:∀a,(a,y)∈l→False:=by
   intro a ha
   have:=cK.1 h.1 y (gv.2 ⟨(a,y),ha,rfl⟩)
   rw[mu]at this
   cases this
  rcases bC.1 ha with e|ha
  ·cases e
   rcases bC.1 hb with e|hb
   ·cases e;rfl
   ·exact(key _ hb).elim
  ·rcases bC.1 hb with e|hb
   ·cases e;exact(key _ ha).elim
   ·exact uJ h.2 ha hb
theorem yP {σ:Nat→Nat}{p:Nat→Bool}{T:Tr AV}:∀(l:List (Nat×AV))(ms:List Prop),wb σ p T l=some ms→(∀q∈ms,q)→∀t v,(t,v)∈l→∃u,T.get t=some u∧gI u (bW σ v)∧je p v=true
 |[],ms,h,hm,t,v,ht=>by simp at ht
 |(t0,v0)::l,ms,h,hm,t,v,ht=>by
  simp only[wb]at h
  split at h
  ·cases h
  ·rename_i u hu
   have hn:=(ay h).1
   replace h:=(ay h).2
   split at h
   ·cases h
   ·rename_i m1 h1
    split at h
    ·cases h
    ·rename_i m2 h2
     cases h
     obtain⟨hm1,hm2⟩:=dJ hm
     rcases bC.1 ht with e|ht
     ·cases e;exact⟨u,hu,rV h1 hm1,hn⟩
     ·exact yP l m2 h2 hm2 t v ht
theorem uX {σ:Nat→Nat}{p:Nat→Bool}{m:Tr ag}:∀(l:List (Nat×ag))(ms:List Prop),s9 σ p m l=some ms→(∀q∈ms,q)→∀b k,(b,k)∈l→p b=true∧g7 p k.view=true∧∃k',m.get (σ b)=some k'∧k.elem=k'.elem∧k.sz=k'.sz∧k.opn=k'.opn∧k.own=k'.own∧(∀γ cs,ap γ k'.cells cs→ap γ (gA σ k).cells cs)∧(k.own=false→k'=gA σ k)
 |[],ms,h,hm,b,k,hb=>by simp at hb
 |(b0,k0)::l,ms,h,hm,b,k,hb=>by
  simp only[s9]at h
  have hn:=(ay h).1
  replace h:=(ay h).2
  obtain⟨hn1,hn2⟩:=bB hn
  split at h
  ·cases h
  ·rename_i k' hk'
   split at h
   ·cases h
   ·rename_i m1 h1
    split at h
    ·cases h
    ·rename_i m2 h2
     cases h
     obtain⟨hm1,hm2⟩:=dJ hm
     rcases bC.1 hb with e|hb
     ·cases e
      obtain⟨r1,r2,r3,r4,r5,r6⟩:=Ec h1 hm1
      exact⟨hn1,hn2,k',hk',r1,r2,r3,r4,r5,r6⟩
     ·exact uX l m2 h2 hm2 b k hb
theorem yr {γ1 γ2:Gm}:∀(L:List Con)(cs:List Value),ap γ1 (L.flatMap Con.avs) cs→ap γ2 (L.flatMap Con.avs) cs
 |[],cs,h=>by cases h;exact .nil
 |c::L,cs,h=>by
  have e:(c::L).flatMap Con.avs=.vint .i64 c.exp::.vint .i64 c.dim::.vint .i64 c.sign::.vbool c.odd::.vint .i64 c.oddity::L.flatMap Con.avs:=rfl
  rw[e]at h⊢
  cases h with|cons h1 t1=>
  cases t1 with|cons h2 t2=>
  cases t2 with|cons h3 t3=>
  cases t3 with|cons h4 t4=>
  cases t4 with|cons h5 t5=>
  cases h1;cases h2;cases h3;cases h4;cases h5
  exact .cons (.vint _ _) (.cons (.vint _ _) (.cons (.vint _ _) (.cons (.vbool _) (.cons (.vint _ _) (yr L _ t5)))))
theorem yu {γ1 γ2:Gm}(k:IntKind):∀(L:List Int)(cs:List Value),ap γ1 (L.map (AV.vint k)) cs→ap γ2 (L.map (AV.vint k)) cs
 |[],cs,h=>by cases h;exact .nil
 |c::L,cs,h=>by cases h with|cons h1 h2=>cases h1;exact .cons (.vint _ _) (yu k L _ h2)
theorem yv {γ1 γ2:Gm}(hz:γ2.fz=γ1.fz){τ:ae}:∀(L:List τ.car)(cs:List Value),ap γ1 (ce τ L) cs→ap γ2 (ce τ L) cs
 |[],cs,h=>by cases h;exact .nil
 |c::L,cs,h=>by
  have e:ce τ (c::L)=RV.avl (τ.rvs c)++ce τ L:=rfl
  rw[e]at h⊢
  obtain⟨V1,V2,rfl,r1,r2⟩:=ap.parts h
  exact(bY.avl (hz▸r1.rvs)).append (yv hz L V2 r2)
theorem yb {γ1 γ2:Gm}{σ:Nat→Nat}{p:Nat→Bool}(hs:∀b,p b=true→γ2 b=γ1 (σ b))(hz:γ2.fz=γ1.fz){k:ag}(hn:g7 p k.view=true){cs:List Value}(h:ap γ1 (gA σ k).cells cs):ap γ2 k.cells cs:=by
 obtain⟨view,el,sz,opn,own⟩:=k
 cases view with
 |plain l=>exact oW hs hz hn h
 |con L=>exact yr L cs h
 |ints kk L=>exact yu kk L cs h
 |vals τ L=>exact yv hz L cs h
 |rows kk L b n=>
  refine oW (σ:=σ) hs hz (vs:=L.map (fU kk)++[.lo b n]) ?_ ?_
  ·replace hn:p b=true:=hn
   clear h
   induction L with
   |nil=>simp[io,je,hn]
   |cons l L ih=>simp only[jH,kT,io,ih,Bool.and_true];rfl
  ·have e:fQ σ (L.map (fU kk)++[.lo b n])=L.map (fU kk)++[.lo (σ b) n]:=by
    clear h hn
    induction L with
    |nil=>rfl
    |cons l L ih=>simp only[jH,kT,fQ,ih];rfl
   rw[e]
   exact h
theorem qm {ng N:Nat}{γ0:Gm}{H0:Hs}{w0:World}(hr0:aJ γ0 H0.m.get H0.nx w0)(hng:ng≤H0.nx){e e':df}{T:Tr AV}{H:Hs}{S:St}{rn:List (Nat×Nat)}{ms:List Prop}(h:fo (some (e',T,H)) e S H0.nx rn=some ms)(hm:∀q∈ms,q)
 {γ1:Gm}{a:Act}{w:World}(hf:cH γ1 ng T N a)(hR:bT γ0 H0 w0 γ1 H w):e=e'∧∃γ2,cH γ2 ng (aI S.T) N a∧bT γ0 H0 w0 γ2 ⟨aI S.m,S.nx,[],[]⟩ w:=by
 unfold fo at h
 simp only at h
 have hc:=(ay h).1
 replace h:=(ay h).2
 simp only[bj]at hc
 obtain⟨⟨⟨⟨⟨⟨⟨⟨c1,c2⟩,c3⟩,c4⟩,c5⟩,c6⟩,c7⟩,c8⟩,c9⟩:=hc
 have c8:=aT c8
 refine⟨zm c1,?_⟩
 split at h
 ·cases h
 ·rename_i m1 h1
  split at h
  ·cases h
  ·rename_i m2 h2
   cases h
   obtain⟨hm12,_⟩:=dJ hm
   obtain⟨hm1,hm2⟩:=dJ hm12
   have c2a:rn.all (fun p=>Nat.ble H0.nx p.1)=true:=by
    rw[cK]at c2⊢
    intro p hp
    exact(bB (c2 p hp)).1
   have hkey:∀b,rn.any (fun p=>Nat.beq p.1 b)=true→H0.nx≤b∧b<S.nx:=by
    intro b hb
    have:=c2
    rw[cK]at this
    obtain⟨q1,q2⟩:=bB (this _ (lN hb))
    exact⟨aT q1,aT q2⟩
   let γ2:Gm:=⟨fun b=>if b<H0.nx then γ1 b else if rn.any (fun p=>Nat.beq p.1 b)=true then γ1 (dC rn b)else none,γ1.fz⟩
   have hs:∀b,dy H0.nx rn b=true→γ2 b=γ1 (dC rn b):=by
    intro b hb
    unfold dy at hb
    by_cases hlt:b<H0.nx
    ·show(if b<H0.nx then _ else _)=_
     rw[if_pos hlt,iH c2a hlt]
    ·have:rn.any (fun p=>Nat.beq p.1 b)=true:=by
      rcases mD hb with h'|h'
      ·exact absurd (aT h') om
      ·exact h'
     show(if b<H0.nx then _ else _)=_
     rw[if_neg hlt,if_pos this]
   have hbase:∀b,b<H0.nx→γ2 b=γ1 b:=by
    intro b hb
    show(if b<H0.nx then _ else _)=_
    rw[if_pos hb]
   have hmem:∀b k,(aI S.m).get b=some k→(b,k)∈S.m:=fun b k hb=>i7 _ _ _ c7 hb
   have hblk:∀b k,(aI S.m).get b=some k→dy H0.nx rn b=true∧g7 (dy H0.nx rn) k.view=true∧∃k',H.m.get (dC rn b)=some k'∧k.elem=k'.elem∧k.sz=k'.sz∧k.opn=k'.opn∧k.own=k'.own∧(∀γ cs,ap γ k'.cells cs→ap γ (gA (dC rn) k).cells cs)∧(k.own=false→k'=gA (dC rn) k):=
    fun b k hb=>uX _ _ h2 hm2 b k (hmem b k hb)
   have hown:∀B,eQ γ2 (aI S.m).get B→eQ γ1 H.m.get B:=by
    rintro B ⟨b,k,x,q1,q2,q3⟩
    obtain⟨r1,r2,k',r3,r4,r5,r6,r7,r8,r9⟩:=hblk b k q1
    exact⟨dC rn b,k',x,r3,by rw[←r7];exact q2,by rw[←hs b r1];exact q3⟩
   refine⟨γ2,⟨hf.defers,hf.size,fun t v hv=>?_,fun g hg=>?_⟩,⟨⟨⟨fun b q hb=>?_,hR.stp.le.fz⟩,⟨?_,?_,?_,hR.stp.rel.fzr,?_⟩,hR.stp.size,hR.stp.os,hR.stp.tape,hR.stp.output,hR.stp.frame,fun k hk ho=>hR.stp.own k hk (hown k ho),?_,?_,hR.stp.fzn,hR.stp.drawn⟩,c8,fun b hb=>?_⟩⟩
   ·obtain⟨u,q1,q2,q3⟩:=yP _ _ h1 hm1 t v (i7 _ _ _ c6 hv)
    exact uW hs rfl q3 (q2 γ1 _ (hf.tmp t u q1))
   ·rw[hbase g om];exact hf.glob g hg
   ·have hlt:b<H0.nx:=by
     rcases bA b H0.nx with h'|h'
     ·exact h'
     ·rw[hr0.fresh b h']at hb;cases hb
    rw[hbase b hlt]
    exact hR.stp.le.nm b q hb
   ·intro b k hb
    obtain⟨r1,r2,k',r3,r4,r5,r6,r7,r8,r9⟩:=hblk b k hb
    obtain⟨B,x,cs,ex,g1,g2,g3,g4,g5⟩:=hR.stp.rel.blk _ _ r3
    exact⟨B,x,cs,ex,by rw[hs b r1];exact g1,by rw[r4];exact g2,yb hs rfl r2 (r8 γ1 cs g3),by rw[r5];exact g4,by rw[r6];exact g5⟩
   ·intro b b' k k' B x x' q1 q2 q3 q4
    obtain⟨r1,_,kk,r3,_⟩:=hblk b k q1
    obtain⟨s1,_,kk',s3,_⟩:=hblk b' k' q2
    rw[hs b r1]at q3
    rw[hs b' s1]at q4
    have heq:=hR.stp.rel.inj _ _ _ _ _ _ _ r3 s3 q3 q4
    have mixed:∀b b' k,(b,k)∈S.m→b<H0.nx→¬b'<H0.nx→dy H0.nx rn b'=true→dC rn b=dC rn b'→False:=by
     intro b b' k hk hb hb' hn he
     rw[iH c2a hb]at he
     unfold dy at hn
     have hany:rn.any (fun p=>Nat.beq p.1 b')=true:=by
      rcases mD hn with h'|h'
      ·exact absurd (aT h') om
      ·exact h'
     have hm':=lN hany
     have:=cK.1 (cK.1 c5 _ hm') _ hk
     simp only[he]at this
     rw[mu]at this
     have hbl:Nat.blt (dC rn b') H0.nx=true:=fW (by rw[←he];exact hb)
     rw[hbl]at this
     cases this
    by_cases hb:b<H0.nx
    ·by_cases hb':b'<H0.nx
     ·rw[iH c2a hb,iH c2a hb']at heq;exact heq
     ·exact(mixed b b' k (hmem _ _ q1) hb hb' s1 heq).elim
    ·by_cases hb':b'<H0.nx
     ·exact(mixed b' b k' (hmem _ _ q2) hb' hb r1 heq.symm).elim
     ·have a1:rn.any (fun p=>Nat.beq p.1 b)=true:=by
       unfold dy at r1
       rcases mD r1 with h'|h'
       ·exact absurd (aT h') om
       ·exact h'
      have a2:rn.any (fun p=>Nat.beq p.1 b')=true:=by
       unfold dy at s1
       rcases mD s1 with h'|h'
       ·exact absurd (aT h') om
       ·exact h'
      have m1:=lN a1
      have m2:=lN a2
      rw[heq]at m1
      exact uJ c4 m1 m2
   ·intro b hb
    show(if b<H0.nx then _ else _)=_
    have hb:S.nx≤b:=hb
    rw[if_neg om,if_neg]
    intro hany
    have:=(hkey b hany).2
    omega
   ·intro b k B x hb ho hg
    obtain⟨r1,r2,k',r3,r4,r5,r6,r7,r8,r9⟩:=hblk b k hb
    rw[hs b r1]at hg
    exact hR.stp.rel.fzo _ k' B x r3 (by rw[←r7];exact ho) hg
   ·intro b k hb ho
    obtain⟨r1,r2,k',r3,r4,r5,r6,r7,r8,r9⟩:=hblk b k hb
    have:=cK.1 c9 _ (hmem b k hb)
    simp only[ho,Bool.false_or]at this
    obtain⟨q1,q2⟩:=bB this
    have hlt:=aT q1
    rw[iH c2a hlt]at r3
    have hk:gA (dC rn) k=k:=by
     obtain⟨view,el,sz,opn,own⟩:=k
     cases view with
     |plain l=>simp only[g7]at q2;simp only[gA,wH,oX q2]
     |con L=>rfl
     |ints kk L=>rfl
     |rows kk L b n=>simp[g7]at q2
     |vals τ L=>rfl
    rw[r9 ho,hk]at r3
    exact hR.stp.ro b k r3 ho
   ·intro b k hb
    obtain⟨r1,r2,k',r3,_⟩:=hblk b k hb
    by_cases hlt:b<H0.nx
    ·rw[iH c2a hlt]at r3
     exact hR.stp.dom b k' r3
    ·exact .inr (hr0.fresh b om)
   ·rw[hbase b hb];exact hR.keep b hb
def TestOk (A:aO)(d:Bool):Prop:=match A.test with
 |none=>d=true
 |some c=>c=d
def cO (S:St)(tp:List Bool):Hs:=⟨aI S.m,S.nx,tp,[]⟩
theorem Ct {P:Program}{E:cj}(hE:eW P E){call:bq}(hc:bV P E.ng call){c0:Code}{N:Nat}{p:List Nat}{b:Code}(hp:eZ p.reverse c0=some (.loop b)){A:aO}(hng:Nat.ble E.ng A.pre.nx=true)
 {ι:Type}(S:ι→St)(μ:ι→Nat)(I:Bool→ι→Prop){lo:ι→List Nat→Option aO}(hlo:∀d i,TestOk A d→I d i→mU P E.ng N (lo i) c0)
 (hstart:∀d,TestOk A d→∃i rn ms,fo (some (.normal,aI A.pre.T,cO A.pre [])) .normal (S i) A.pre.nx rn=some ms∧ar ms∧I d i)
 (hbody:∀d,TestOk A d→∀i,I d i→∃tp,
   (∃j rn ms,fo (bb E call (lo i) N 100000 (0::p) b (aI (S i).T) (cO (S i) tp)) .normal (S j) A.pre.nx rn=some ms∧ar ms∧μ j<μ i∧I d j)∨
   (∃rn ms,fo (bb E call (lo i) N 100000 (0::p) b (aI (S i).T) (cO (S i) tp)) (A.post d).1 (A.post d).2 A.pre.nx rn=some ms∧ar ms∧kA (A.post d).1 .normal=false)):dB P E.ng N b A:=by
 intro d hd γ a w hf hr
 have hng:=aT hng
 let H0:Hs:=⟨aI A.pre.m,A.pre.nx,[],[]⟩
 have hr0:aJ γ H0.m.get H0.nx w:=hr
 have hpb:eZ (0::p).reverse c0=some b:=by
  rw[List.reverse_cons,x5,hp]
  cases b<;>rfl
 have hJ:∀(n:Nat)(a1:Act)(w1:World),(∃i,μ i=n∧I d i∧∃γ1,cH γ1 E.ng (aI (S i).T) N a1∧bT γ H0 w γ1 ⟨aI (S i).m,(S i).nx,[],[]⟩ w1)→
  b.wp P (Exit.then (fun a' w'=>∃n',n'<n∧∃i,μ i=n'∧I d i∧∃γ1,cH γ1 E.ng (aI (S i).T) N a'∧bT γ H0 w γ1 ⟨aI (S i).m,(S i).nx,[],[]⟩ w') (fun x a' w'=>x=(A.post d).1.den∧∃γ',cH γ' E.ng (aI (A.post d).2.T) N a'∧bT γ ⟨aI A.pre.m,A.pre.nx,[],[]⟩ w γ' ⟨aI (A.post d).2.m,(A.post d).2.nx,[],[]⟩ w')) a1 w1:=by
  rintro n a1 w1 ⟨i,rfl,hI,γ1,hf1,hR1⟩
  obtain⟨tp,h⟩:=hbody d hd i hI
  generalize hev:bb E call (lo i) N 100000 (0::p) b (aI (S i).T) (cO (S i) tp)=r at h
  cases r with
  |none=>rcases h with⟨j,rn,ms,h1,_⟩|⟨rn,ms,h1,_⟩<;>(unfold fo at h1;cases h1)
  |some r=>
   obtain⟨e',T',H'⟩:=r
   have hms:∀q∈H'.ms,q:=by
    have key:∀{e:df}{S':St}{rn:List (Nat×Nat)}{ms:List Prop},fo (some (e',T',H')) e S' A.pre.nx rn=some ms→ar ms→∀q∈H'.ms,q:=by
     intro e S' rn ms h1 h2 q hq
     rw[iZ]at h2
     unfold fo at h1
     simp only at h1
     replace h1:=(ay h1).2
     split at h1
     ·cases h1
     ·split at h1
      ·cases h1
      ·cases h1
       exact h2 q (jo _ hq)
    rcases h with⟨j,rn,ms,h1,h2,_⟩|⟨rn,ms,h1,h2,_⟩
    ·exact key h1 h2
    ·exact key h1 h2
   refine wp_mono ((Cq hE hc (hlo d i hd hI) _).1 (0::p) b _ T' _ H' e' hpb hev hms γ1 a1 w1 hf1 hR1.stp.rel) ?_
   rintro x a' w' ⟨rfl,γ',hf',hR'⟩
   have hRR:bT γ H0 w γ' H' w':=⟨hR1.stp.trans hR'.stp,cl hR1.nx hR'.nx,fun c hc'=>(hR'.keep c (jE hc' hR1.nx)).trans (hR1.keep c hc')⟩
   rcases h with⟨j,rn,ms,h1,h2,h3,h4⟩|⟨rn,ms,h1,h2,h3⟩
   ·obtain⟨he,γ2,g1,g2⟩:=qm (ng:=E.ng) hr0 hng h1 ((iZ ms).1 h2) hf' hRR
    subst he
    exact⟨μ j,h3,j,rfl,h4,γ2,g1,g2⟩
   ·obtain⟨he,γ2,g1,g2⟩:=qm (ng:=E.ng) hr0 hng h1 ((iZ ms).1 h2) hf' hRR
    subst he
    have fin:(A.post d).1.den=(A.post d).1.den∧∃γ',cH γ' E.ng (aI (A.post d).2.T) N a'∧bT γ ⟨aI A.pre.m,A.pre.nx,[],[]⟩ w γ' ⟨aI (A.post d).2.m,(A.post d).2.nx,[],[]⟩ w':=⟨rfl,γ2,g1,g2⟩
    cases hx:(A.post d).1 with
    |normal=>rw[hx]at h3;cases h3
    |exit j=>rw[hx]at fin;exact fin
    |ret=>rw[hx]at fin;exact fin
 obtain⟨i,rn,ms,h1,h2,h3⟩:=hstart d hd
 obtain⟨_,γ2,g1,g2⟩:=qm (ng:=E.ng) (N:=N) hr0 hng h1 ((iZ ms).1 h2) hf (H:=cO A.pre []) ⟨be.refl hr0,bp _,fun _ _=>rfl⟩
 exact wp_loop_ghost (fun n a1 w1=>∃i,μ i=n∧I d i∧∃γ1,cH γ1 E.ng (aI (S i).T) N a1∧bT γ H0 w γ1 ⟨aI (S i).m,(S i).nx,[],[]⟩ w1) (μ i) ⟨i,rfl,h3,γ2,g1,g2⟩ hJ
mutual
def Hn:AV→AV→List (Nat×Nat)
 |.lo c _,.lo b _=>[(c,b)]
 |.ptr c _,.ptr b _=>[(c,b)]
 |.slc c _ _ _,.slc b _ _ _=>[(c,b)]
 |.lp c _ _ _,.lp b _ _ _=>[(c,b)]
 |.agg vs,.agg us=>nB vs us
 |.tup vs,.tup us=>nB vs us
 |.fn _ vs,.fn _ us=>nB vs us
 |_,_=>[]
def nB:List AV→List AV→List (Nat×Nat)
 |v::vs,u::us=>Hn v u++nB vs us
 |_,_=>[]
end
def Ho (T:Tr AV):List (Nat×AV)→List (Nat×Nat)
 |[]=>[]
 |(t,v)::l=>(match T.get t with
  |none=>[]
  |some u=>Hn v u)++Ho T l
def Hp (base:Nat)(m:Tr ag):List (Nat×ag)→List (Nat×Nat)
 |[]=>[]
 |(b,k)::l=>(bif Nat.blt b base then(match m.get b with
  |none=>[]
  |some k'=>match k.view,k'.view with
   |.plain cs,.plain cs'=>nB cs cs'
   |_,_=>[])else [])++Hp base m l
def nJ (base:Nat):List (Nat×Nat)→List (Nat×Nat)→List (Nat×Nat)
 |[],acc=>acc
 |(c,b)::l,acc=>bif Nat.blt c base||acc.any (fun p=>Nat.beq p.1 c)then nJ base l acc else nJ base l ((c,b)::acc)
def Hq (rn:List (Nat×Nat))(m:Tr ag):List (Nat×ag)→List (Nat×Nat)
 |[]=>[]
 |(b,k)::l=>(match k.view with
  |.rows _ _ c _=>(match m.get (dC rn b)with
   |none=>[]
   |some k'=>match k'.view with
    |.rows _ _ c' _=>[(c,c')]
    |_=>[])
  |_=>[])++Hq rn m l
def PB (base:Nat)(rn:List (Nat×Nat))(m:Tr ag)(S:St):List (Nat×Nat):=nJ base (Hq rn m S.m) rn
def Sj (base:Nat)(x:Option (df×Tr AV×Hs))(S:St):List (Nat×Nat):=match x with
 |none=>[]
 |some (_,T,H)=>PB base (nJ base (Ho T S.T++Hp base H.m S.m) []) H.m S
def eM (x:Option (df×Tr AV×Hs))(e:df)(S:St)(base:Nat):Option (List Prop):=fo x e S base (Sj base x S)
def cz (fn:Func)(p:List Nat):Code:=match fn.body with
 |none=>.skip
 |some c=>match eZ p.reverse c with
  |some (.loop b)=>b
  |_=>.skip
def fq:List (List Nat×aO)→List Nat→Option aO
 |[],_=>none
 |(p,A)::l,q=>bif tI p q then some A else fq l q
theorem E1:∀{p q:List Nat},tI p q=true→p=q
 |[],[],_=>rfl
 |[],_::_,h=>by cases h
 |_::_,[],h=>by cases h
 |a::p,b::q,h=>by
  simp only[tI,bj]at h
  rw[aM h.1,E1 h.2]
theorem E2:∀{l:List (List Nat×aO)}{q:List Nat}{A:aO},fq l q=some A→(q,A)∈l
 |[],_,_,h=>by cases h
 |(p,B)::l,q,A,h=>by
  simp only[fq]at h
  cases hb:tI p q with
  |true=>rw[hb]at h;cases h;rw[E1 hb];exact eB
  |false=>rw[hb]at h;exact fk _ (E2 h)
theorem Db {fn:Func}{c:Code}(hc:fn.body=some c){p:List Nat}{b:Code}(h:eZ p.reverse c=some (.loop b)):cz fn p=b:=by
 unfold cz
 rw[hc]
 simp only[h]
theorem pa {P:Program}{ng N:Nat}{fn:Func}{c:Code}(hc:fn.body=some c){l:List (List Nat×aO)}(h:∀x∈l,dB P ng N (cz fn x.1) x.2):mU P ng N (fq l) c:=by
 intro p A b hl hs
 have:=h _ (E2 hl)
 rw[Db hc hs]at this
 exact this
def nC (fn:Func)(p:List Nat):Bool:=match fn.body with
 |none=>false
 |some c=>match eZ p.reverse c with
  |some (.loop _)=>true
  |_=>false
theorem Dc {fn:Func}{p:List Nat}(h:nC fn p=true):∃c,fn.body=some c∧eZ p.reverse c=some (.loop (cz fn p)):=by
 unfold nC at h
 split at h
 ·cases h
 ·rename_i c hc
  split at h
  ·rename_i b hb
   exact⟨c,hc,by rw[Db hc hb];exact hb⟩
  ·cases h
theorem sB {P:Program}{E:cj}(hE:eW P E){call:bq}(hc:bV P E.ng call){fn:Func}{N:Nat}{inner:List (List Nat×aO)}(hin:∀x∈inner,dB P E.ng N (cz fn x.1) x.2){p:List Nat}(hp:nC fn p=true){A:aO}(hng:Nat.ble E.ng A.pre.nx=true)
 {ι:Type}(S:ι→St)(μ:ι→Nat)(I:Bool→ι→Prop)
 (hstart:∀d,TestOk A d→∃i ms,eM (some (.normal,aI A.pre.T,cO A.pre [])) .normal (S i) A.pre.nx=some ms∧ar ms∧I d i)
 (hbody:∀d,TestOk A d→∀i,I d i→∃tp,
   (∃j ms,eM (bb E call (fq inner) N 100000 (0::p) (cz fn p) (aI (S i).T) (cO (S i) tp)) .normal (S j) A.pre.nx=some ms∧ar ms∧μ j<μ i∧I d j)∨
   (∃ms,eM (bb E call (fq inner) N 100000 (0::p) (cz fn p) (aI (S i).T) (cO (S i) tp)) (A.post d).1 (A.post d).2 A.pre.nx=some ms∧ar ms∧kA (A.post d).1 .normal=false)):dB P E.ng N (cz fn p) A:=by
 obtain⟨c,h1,h2⟩:=Dc hp
 refine Ct hE hc h2 hng S μ I (lo:=fun _=>fq inner) (fun _ _ _ _=>pa h1 hin) (fun d hd=>?_) (fun d hd i hi=>?_)
 ·obtain⟨i,ms,h3,h4,h5⟩:=hstart d hd
  exact⟨i,_,ms,h3,h4,h5⟩
 ·obtain⟨tp,h⟩:=hbody d hd i hi
  refine⟨tp,?_⟩
  rcases h with⟨j,ms,h3,h4⟩|⟨ms,h3,h4⟩
  ·exact .inl ⟨j,_,ms,h3,h4⟩
  ·exact .inr ⟨_,ms,h3,h4⟩
theorem E3 {P:Program}{E:cj}(hE:eW P E){call:bq}(hc:bV P E.ng call){fn:Func}{N:Nat}{p:List Nat}(hp:nC fn p=true){A:aO}(hng:Nat.ble E.ng A.pre.nx=true)
 {ι:Type}(S:ι→St)(μ:ι→Nat)(I:Bool→ι→Prop)(inner:ι→List (List Nat×aO))(hin:∀d,TestOk A d→∀i,I d i→∀x∈inner i,dB P E.ng N (cz fn x.1) x.2)
 (hstart:∀d,TestOk A d→∃i ms,eM (some (.normal,aI A.pre.T,cO A.pre [])) .normal (S i) A.pre.nx=some ms∧ar ms∧I d i)
 (hbody:∀d,TestOk A d→∀i,I d i→∃tp,
   (∃j ms,eM (bb E call (fq (inner i)) N 100000 (0::p) (cz fn p) (aI (S i).T) (cO (S i) tp)) .normal (S j) A.pre.nx=some ms∧ar ms∧μ j<μ i∧I d j)∨
   (∃ms,eM (bb E call (fq (inner i)) N 100000 (0::p) (cz fn p) (aI (S i).T) (cO (S i) tp)) (A.post d).1 (A.post d).2 A.pre.nx=some ms∧ar ms∧kA (A.post d).1 .normal=false)):dB P E.ng N (cz fn p) A:=by
 obtain⟨c,h1,h2⟩:=Dc hp
 refine Ct hE hc h2 hng S μ I (lo:=fun i=>fq (inner i)) (fun d i hd hi=>pa h1 (hin d hd i hi)) (fun d hd=>?_) (fun d hd i hi=>?_)
 ·obtain⟨i,ms,h3,h4,h5⟩:=hstart d hd
  exact⟨i,_,ms,h3,h4,h5⟩
 ·obtain⟨tp,h⟩:=hbody d hd i hi
  refine⟨tp,?_⟩
  rcases h with⟨j,ms,h3,h4⟩|⟨ms,h3,h4⟩
  ·exact .inl ⟨j,_,ms,h3,h4⟩
  ·exact .inr ⟨_,ms,h3,h4⟩
theorem uP {P:Program}{E:cj}(hE:eW P E){call:bq}(hcall:bV P E.ng call){f:Nat}{fn:Func}(hf:P.funcs[f]? =some fn){A:List RV}{N:Nat}(hN:N=Nat.max (RV.avl A).length fn.ntmps){l:List (List Nat×aO)}(hl:∀x∈l,dB P E.ng N (cz fn x.1) x.2){tabs:List Tb}(hg:tabs.all (fun t=>Nat.blt t.g E.ng)=true)(hok:eP (dH tabs)=true)(hng:Nat.ble E.ng 1000=true)
 {R:RV}{tp:List Bool}{ms:List Prop}(h:kx (iJ E call (fq l) f (RV.avl A) ⟨aI (dH tabs),1000,tp,[]⟩) R=some ms)(hm:ar ms):ax P tabs f A R:=
 LI hE hcall (fun fn' c h1 h2=>by
  rw[hf]at h1
  cases h1
  subst hN
  exact pa h2 hl) hg hok hng h hm
theorem aE {P:Program}{ng N:Nat}{fn:Func}:∀x∈([]:List (List Nat×aO)),dB P ng N (cz fn x.1) x.2:=fun x h=>(nomatch h)
theorem bX {P:Program}{ng N:Nat}{fn:Func}{p:List Nat}{A:aO}(h:dB P ng N (cz fn p) A):∀x∈[(p,A)],dB P ng N (cz fn x.1) x.2:=fun x hx=>by rw[fJ.1 hx];exact h
theorem D0 {P:Program}{ng N:Nat}{fn:Func}{p:List Nat}{A:aO}{l:List (List Nat×aO)}(h:dB P ng N (cz fn p) A)(hl:∀x∈l,dB P ng N (cz fn x.1) x.2):∀x∈(p,A)::l,dB P ng N (cz fn x.1) x.2:=fun x hx=>by
 rcases bC.1 hx with e|hx
 ·rw[e];exact h
 ·exact hl x hx
theorem ct {α:Type}{c:Bool}{a b:α}(h:c=true):(bif c then a else b)=a:=by rw[h];rfl
theorem cf {α:Type}{c:Bool}{a b:α}(h:c=false):(bif c then a else b)=b:=by rw[h];rfl
theorem dN {c v:Bool}(h:c=v):(!c)=!v:=by rw[h]
end Go.QfSy
namespace Go.Proofs.YtdbdoalefmliiaaGreatDoor.S
open Go.QfSy Go.RowKit
theorem HW:Nat.blt Tryz.prog.types.toList.length 1000000=true:=by kernel_rfl
theorem HX:Nat.blt Tryz.prog.funcs.toList.length 1000000=true:=by kernel_rfl
theorem Fu:Tryz.prog.funcs.toList.all (fun fn=>!(fn.name== "runtime.NumGoroutine"))=true:=by kernel_rfl
theorem XL:pk (Tr.ofList Tryz.prog.funcs.toList) 193=false:=by kernel_rfl
theorem noesc (h:pk (Tr.ofList Tryz.prog.funcs.toList) 193=true)(x:Value)(w:World):(callFunc 193 #[x]).run Tryz.prog w=.ok (.value x) w:=by rw[XL]at h;cases h
noncomputable def nT (i:Nat)(l r:Tr TypeInfo):Tr TypeInfo:=.node (some (Tryz.prog.types.toList.getD i default)) l r
noncomputable def lT (i:Nat):Tr TypeInfo:=nT i .nil .nil
noncomputable def nF (i:Nat)(l r:Tr Func):Tr Func:=.node (some (Tryz.prog.funcs.toList.getD i default)) l r
noncomputable def lF (i:Nat):Tr Func:=nF i .nil .nil
noncomputable def Bn:Tr TypeInfo:=(nT 0 (nT 1 (nT 3 (nT 7 (nT 15 (nT 31 (nT 63 (lT 127) (lT 191)) (nT 95 (lT 159) (lT 223))) (nT 47 (nT 79 (lT 143) (lT 207)) (nT 111 (lT 175) .nil))) (nT 23 (nT 39 (nT 71 (lT 135) (lT 199)) (nT 103 (lT 167) (lT 231))) (nT 55 (nT 87 (lT 151) (lT 215)) (nT 119 (lT 183) .nil)))) (nT 11 (nT 19 (nT 35 (nT 67 (lT 131) (lT 195)) (nT 99 (lT 163) (lT 227))) (nT 51 (nT 83 (lT 147) (lT 211)) (nT 115 (lT 179) .nil))) (nT 27 (nT 43 (nT 75 (lT 139) (lT 203)) (nT 107 (lT 171) (lT 235))) (nT 59 (nT 91 (lT 155) (lT 219)) (nT 123 (lT 187) .nil))))) (nT 5 (nT 9 (nT 17 (nT 33 (nT 65 (lT 129) (lT 193)) (nT 97 (lT 161) (lT 225))) (nT 49 (nT 81 (lT 145) (lT 209)) (nT 113 (lT 177) .nil))) (nT 25 (nT 41 (nT 73 (lT 137) (lT 201)) (nT 105 (lT 169) (lT 233))) (nT 57 (nT 89 (lT 153) (lT 217)) (nT 121 (lT 185) .nil)))) (nT 13 (nT 21 (nT 37 (nT 69 (lT 133) (lT 197)) (nT 101 (lT 165) (lT 229))) (nT 53 (nT 85 (lT 149) (lT 213)) (nT 117 (lT 181) .nil))) (nT 29 (nT 45 (nT 77 (lT 141) (lT 205)) (nT 109 (lT 173) .nil)) (nT 61 (nT 93 (lT 157) (lT 221)) (nT 125 (lT 189) .nil)))))) (nT 2 (nT 4 (nT 8 (nT 16 (nT 32 (nT 64 (lT 128) (lT 192)) (nT 96 (lT 160) (lT 224))) (nT 48 (nT 80 (lT 144) (lT 208)) (nT 112 (lT 176) .nil))) (nT 24 (nT 40 (nT 72 (lT 136) (lT 200)) (nT 104 (lT 168) (lT 232))) (nT 56 (nT 88 (lT 152) (lT 216)) (nT 120 (lT 184) .nil)))) (nT 12 (nT 20 (nT 36 (nT 68 (lT 132) (lT 196)) (nT 100 (lT 164) (lT 228))) (nT 52 (nT 84 (lT 148) (lT 212)) (nT 116 (lT 180) .nil))) (nT 28 (nT 44 (nT 76 (lT 140) (lT 204)) (nT 108 (lT 172) (lT 236))) (nT 60 (nT 92 (lT 156) (lT 220)) (nT 124 (lT 188) .nil))))) (nT 6 (nT 10 (nT 18 (nT 34 (nT 66 (lT 130) (lT 194)) (nT 98 (lT 162) (lT 226))) (nT 50 (nT 82 (lT 146) (lT 210)) (nT 114 (lT 178) .nil))) (nT 26 (nT 42 (nT 74 (lT 138) (lT 202)) (nT 106 (lT 170) (lT 234))) (nT 58 (nT 90 (lT 154) (lT 218)) (nT 122 (lT 186) .nil)))) (nT 14 (nT 22 (nT 38 (nT 70 (lT 134) (lT 198)) (nT 102 (lT 166) (lT 230))) (nT 54 (nT 86 (lT 150) (lT 214)) (nT 118 (lT 182) .nil))) (nT 30 (nT 46 (nT 78 (lT 142) (lT 206)) (nT 110 (lT 174) .nil)) (nT 62 (nT 94 (lT 158) (lT 222)) (nT 126 (lT 190) .nil)))))))
noncomputable def Bo:Tr Func:=(nF 0 (nF 1 (nF 3 (nF 7 (nF 15 (nF 31 (nF 63 (lF 127) (lF 191)) (nF 95 (lF 159) .nil)) (nF 47 (nF 79 (lF 143) .nil) (nF 111 (lF 175) .nil))) (nF 23 (nF 39 (nF 71 (lF 135) .nil) (nF 103 (lF 167) .nil)) (nF 55 (nF 87 (lF 151) .nil) (nF 119 (lF 183) .nil)))) (nF 11 (nF 19 (nF 35 (nF 67 (lF 131) .nil) (nF 99 (lF 163) .nil)) (nF 51 (nF 83 (lF 147) .nil) (nF 115 (lF 179) .nil))) (nF 27 (nF 43 (nF 75 (lF 139) .nil) (nF 107 (lF 171) .nil)) (nF 59 (nF 91 (lF 155) .nil) (nF 123 (lF 187) .nil))))) (nF 5 (nF 9 (nF 17 (nF 33 (nF 65 (lF 129) .nil) (nF 97 (lF 161) .nil)) (nF 49 (nF 81 (lF 145) .nil) (nF 113 (lF 177) .nil))) (nF 25 (nF 41 (nF 73 (lF 137) .nil) (nF 105 (lF 169) .nil)) (nF 57 (nF 89 (lF 153) .nil) (nF 121 (lF 185) .nil)))) (nF 13 (nF 21 (nF 37 (nF 69 (lF 133) .nil) (nF 101 (lF 165) .nil)) (nF 53 (nF 85 (lF 149) .nil) (nF 117 (lF 181) .nil))) (nF 29 (nF 45 (nF 77 (lF 141) .nil) (nF 109 (lF 173) .nil)) (nF 61 (nF 93 (lF 157) .nil) (nF 125 (lF 189) .nil)))))) (nF 2 (nF 4 (nF 8 (nF 16 (nF 32 (nF 64 (lF 128) (lF 192)) (nF 96 (lF 160) .nil)) (nF 48 (nF 80 (lF 144) .nil) (nF 112 (lF 176) .nil))) (nF 24 (nF 40 (nF 72 (lF 136) .nil) (nF 104 (lF 168) .nil)) (nF 56 (nF 88 (lF 152) .nil) (nF 120 (lF 184) .nil)))) (nF 12 (nF 20 (nF 36 (nF 68 (lF 132) .nil) (nF 100 (lF 164) .nil)) (nF 52 (nF 84 (lF 148) .nil) (nF 116 (lF 180) .nil))) (nF 28 (nF 44 (nF 76 (lF 140) .nil) (nF 108 (lF 172) .nil)) (nF 60 (nF 92 (lF 156) .nil) (nF 124 (lF 188) .nil))))) (nF 6 (nF 10 (nF 18 (nF 34 (nF 66 (lF 130) .nil) (nF 98 (lF 162) .nil)) (nF 50 (nF 82 (lF 146) .nil) (nF 114 (lF 178) .nil))) (nF 26 (nF 42 (nF 74 (lF 138) .nil) (nF 106 (lF 170) .nil)) (nF 58 (nF 90 (lF 154) .nil) (nF 122 (lF 186) .nil)))) (nF 14 (nF 22 (nF 38 (nF 70 (lF 134) .nil) (nF 102 (lF 166) .nil)) (nF 54 (nF 86 (lF 150) .nil) (nF 118 (lF 182) .nil))) (nF 30 (nF 46 (nF 78 (lF 142) .nil) (nF 110 (lF 174) .nil)) (nF 62 (nF 94 (lF 158) .nil) (nF 126 (lF 190) .nil)))))))
theorem Fw:Bn=Tr.ofList Tryz.prog.types.toList:=by kernel_rfl
theorem Fx:Bo=Tr.ofList Tryz.prog.funcs.toList:=by kernel_rfl
noncomputable def EV:cj:=⟨Bn,Bo,1,ww Tryz.prog,193,81,true⟩
noncomputable def EC:cj:=⟨Bn,Bo,1,ww Tryz.prog,193,81,false⟩
theorem fS:eW Tryz.prog EV:=by
 have h:=DO Tryz.prog 1 193 81 true HW HX Fu noesc Tryz.checked.mixed
 have e:EV=sJ Tryz.prog 1 193 81 true:=by unfold EV sJ;rw[Fw,Fx]
 rw[e]
 exact h
theorem aX:eW Tryz.prog EC:=by
 have h:=DO Tryz.prog 1 193 81 false HW HX Fu noesc Tryz.checked.mixed
 have e:EC=sJ Tryz.prog 1 193 81 false:=by unfold EC sJ;rw[Fw,Fx]
 rw[e]
 exact h
structure dO (p:Prop):Prop where
 mk::out:p
structure cL (p:Prop):Prop where
 mk::out:p
structure a8:Prop where
 mk::out:False
structure pR:Prop where
 mk::out:False
theorem a8.no {q:Prop}(h:a8):q:=h.out.elim
theorem pR.no {q:Prop}(h:pR):q:=h.out.elim
theorem rb:Nat.ble EV.ng 1000=true:=rfl
theorem cv:Nat.ble EC.ng 1000=true:=rfl
end Go.Proofs.YtdbdoalefmliiaaGreatDoor.S
namespace Go.Proofs.YtdbdoalefmliiaaGreatDoor.S
open Go.ChangeShapes Go.WideShapes Go.ChangeAt Go.RowKit Go.Joins Go.Deep
open Go.QfSy (Con RV bZ bY mP bg Fz Tb jU ax)
def uj (n:Int):Prop:=-9223372036854775808≤n∧n≤9223372036854775807
def IO (c:Con):Prop:=uj c.exp∧uj c.dim∧uj c.sign∧uj c.oddity
def vals (c:Con):List Value:=[.int .i64 c.exp,.int .i64 c.dim,.int .i64 c.sign,.bool c.odd,.int .i64 c.oddity]
def Wz (w:World):Fz:=fun B=>w.heap[B]?
section
variable {H:Type}{enc:TypeId×Value→H}{P:Program}{w:World}{base:Nat}{spare:Nat→Bool}{held:Bool}
theorem Cj (hl:laidOutB P=true){W W':World}(hb:Below W.heap.size W W'):∀{ts:List TypeId}{vs:List Value}{ds:List (DataW H)}{ps:List MemPlace},(∀t∈ts,P.readableRec t=true∧t<P.types.size)→
 DataW.TrodAll enc P W 0 (fun _=>true) true ts vs ds ps→(∀p∈ps,p.block<W.heap.size)→∀sp:Nat→Bool,(∀p∈ps,sp p.block=true)→DataW.TrodAll enc P W' 0 sp true ts vs ds ps
 |[],vs,ds,ps,_,h,_,sp,_=>by
  cases vs<;>cases ds<;>simp[DataW.TrodAll]at h⊢
  exact h
 |t::ts,vs,ds,ps,ht,h,hlt,sp,hs=>by
  obtain⟨v,vs',d,ds',p,q,rfl,rfl,rfl,h1,h2⟩:=trodAll_cons h
  obtain⟨r1,r2⟩:=ht t (by simp)
  exact trodAll_cons_mk (WideElems.Trod_stays hl r1 r2 h1 (fun x hx=>hb.same (hlt x (by simp[hx]))) (fun x hx=>hs x (by simp[hx])))
   (Cj hl hb (fun u hu=>ht u (by simp[hu])) h2 (fun x hx=>hlt x (by simp[hx])) sp (fun x hx=>hs x (by simp[hx])))
theorem OP {f:Func}{s:ChangeSpec}{apart fresh handsOn again:Bool}{W W':World}{args:Array Value}{ds:List (DataW H)}{gs:List (DataW H)}{before:List MemPlace}{tb:TypeId}
 (hl:laidOutB P=true)(htys:∀t∈f.params.toList,P.readableRec t=true∧t<P.types.size)(hvars:s.vars=[])(htb:P.underlying tb=some .bool)(hres:f.resultTypes=#[tb])
 (hW:DataW.Whole enc P f.params.toList s.vars apart W args.toList ds gs before)(hfn:s.fn H ds={results:=[.lit (.bool true)],args:=ds})
 (hb:Below W.heap.size W W'):s.post enc P f apart fresh handsOn again W args (.bool true) W':=by
 have hlt:∀p∈before,p.block<W.heap.size:=fun p hp=>hW.lt p hp
 have hW':=hW
 obtain⟨p,q,hA,hV,rfl,hfz,hnd⟩:=hW
 rw[hvars]at hV
 obtain⟨rfl,rfl⟩:=trodVars_none hV
 simp only[List.append_nil]at hW' hlt hfz hnd
 have hfn':s.fn H (ds++[])={results:=[.lit (.bool true)],args:=ds}:=by rw[List.append_nil];exact hfn
 have hbool:∀(b:Nat)(sp:Nat→Bool)(hd:Bool),DataW.TrodAll enc P W' b sp hd f.resultTypes.toList ((Value.bool true).resultList f.resultTypes.size) (s.fn H (ds++[])).results []:=by
  intro b sp hd
  rw[hres,hfn']
  exact trodAll_mk1 ⟨1,by simp[DataW.trod,htb,Value.cells]⟩
 have hargs:∀sp:Nat→Bool,(∀x∈p,sp x.block=true)→DataW.TrodAll enc P W' 0 sp true f.params.toList args.toList (s.fn H (ds++[])).args p:=by
  intro sp hs
  rw[hfn']
  exact Cj hl hb htys hA hlt sp hs
 have hvs:∀sp:Nat→Bool,DataW.TrodVars enc P W' sp s.vars (s.fn H (ds++[])).vars []:=by
  intro sp
  rw[hfn',hvars]
  rfl
 have hold:∀x∈p,(fun b=>decide (b<W.heap.size)) x.block=true:=fun x hx=>by simpa using hlt x hx
 refine⟨ds,[],p,[],p,[],hW',hbool _ _ _,hargs _ hold,hvs _,World.keptBut_mono (fun x hx=>⟨hx,?_⟩) (hb.frame (·∈p)),fun _=>?_⟩
 ·exact Or.inr (by simpa using hx)
 ·refine⟨?_,_,_,([]++p)++[],⟨[]++p,[],trodAll_append (hargs _ (fun _ _=>rfl)) (hbool _ _ _),hvs _,rfl,?_,?_⟩,?_⟩
  ·intro j t r ht hr
   rw[hres]at ht hr
   match j,ht with
   |0,ht=>
    simp at ht hr
    subst ht
    simp[Value.resultList]at hr
    subst hr
    exact okWide_bool_mk htb _
   |j+1,ht=>simp at ht
  ·intro b off hp
   have hin:MemPlace.cell b off∈p:=by simpa using hp
   rw[hb.frozen (hlt _ hin)]
   exact hfz b off hin
  ·intro ha
   simpa using hnd ha
  ·intro x hx _
   simpa using hx
end
theorem Mi {P:Program}{ts:List Tb}{f:Nat}{A:List RV}(h:ax P ts f A (.bool true)){w:World}(hT:jU ts w){Args:List Value}(hR:bY (Wz w) A Args):
 Calls P f Args.toArray w fun e w'=>e=.returned (.bool true)∧Below w.heap.size w w':=by
 refine(h.2 w (Wz w) Args hT (fun B x hx=>hx) hR).mono ?_
 rintro e w' ⟨V,F',rfl,_,_,_,hV,hb⟩
 cases hV
 exact⟨rfl,hb.toBelow⟩
theorem Nk {P:Program}{W:World}{name:String}{k:IntKind}{zs:List Int}{g:Nat}{t:TypeId}{cs:Array Value}(hg:P.globalNamed name=some g)(ht:Lib.TabIs P W name k zs)(h1:W.heap[g]? =some (.cells cs t)):
 W.heap[g]? =some (.cells (zs.map fun z=>Value.int k z).toArray t (0,0)):=by
 unfold Lib.TabIs World.var? at ht
 rw[hg]at ht
 simp only[Option.bind_some,h1]at ht
 injection ht with ht
 rw[h1,ht]
theorem SX {P:Program}{W:World}{g:Nat}{t:TypeId}(hsz:g<P.globals.size)(hr:(((begin P (fun _ _=>0) default).world.heap[g]?).bind Obj.row?).map (·.2)=some t)(hS:W.ShapedOpen P):
 ∃cs u,W.heap[g]? =some (.cells cs u)∧u=t:=by
 cases hz:((begin P (fun _ _=>0) default).world.heap[g]?).bind Obj.row? with
 |none=>rw[hz]at hr;cases hr
 |some zt=>
  obtain⟨zero,u⟩:=zt
  rw[hz]at hr
  obtain⟨cs,h1,_⟩:=hS.1 g zero _ hsz hz
  exact⟨cs,u,h1,by simpa using hr⟩
def Nl:DataW Unit→Array Value
 |.agg l=>(l.map fun|.lit (.int k n)=>Value.int k n|_=>.bool false).toArray
 |_=>#[]
def Vw (g:Nat)(d:DataW Unit)(w:World):World:=
 {w with heap:=w.heap.modify g fun
  |.cells _ t frozen=>.cells (Nl d) t frozen
  |o=>o}
section
variable {H:Type}{enc:TypeId×Value→H}{P:Program}{w:World}{base:Nat}{spare:Nat→Bool}{held:Bool}{r:Reach}{b0:Nat}{v:Value}{d:DataW H}{p:List MemPlace}
end
section
variable {H:Type}{enc:TypeId×Value→H}{P:Program}{w:World}{base:Nat}{spare:Nat→Bool}{held:Bool}{r:Reach}{b0:Nat}{v:Value}{d:DataW H}{p:List MemPlace}
end
end Go.Proofs.YtdbdoalefmliiaaGreatDoor.S
namespace Go.Proofs.YtdbdoalefmliiaaGreatDoor.S
open Go.ChangeShapes Go.WideShapes Go.ChangeAt Go.RowKit Go.QfSy
theorem own:ownKnob Tryz.prog.godebug=none:=by kernel_rfl
theorem PY:laidOutB Tryz.prog=true:=by kernel_rfl
def tabs:List Tb:=[
 ⟨0,.i64,[7,11,13,17,19,23,29,31],128⟩]
theorem JD:Tryz.prog.globalNamed "quadform/prime.offsets" =some 0:=by kernel_rfl
theorem Yf:(Tryz.prog.globals[0]?).map (·.type)=some 128:=by kernel_rfl
theorem Yg:0<Tryz.prog.globals.size:=by show Nat.lt _ _;exact aT kr
theorem Yh:Tryz.prog.cellsOf 128=8:=by kernel_rfl
theorem Yi:Tryz.prog.cellsOf 2=1:=by kernel_rfl
theorem Yj:(((begin Tryz.prog (fun _ _=>0) default).world.heap[0]?).bind Obj.row?).map (·.2)=some 128:=by kernel_rfl
theorem Yk {W:World}{rest:List (String×DataW Unit)}(h:laidMet Tryz.prog (("quadform/prime.offsets",Rows.laid_quadform_prime_offsets)::rest) W)(hS:W.ShapedOpen Tryz.prog):W.heap[0]? =some (.cells (([7,11,13,17,19,23,29,31]:List Int).map (Value.int .i64)).toArray 128 (0,0)):=by
 have ht:Lib.TabIs Tryz.prog W "quadform/prime.offsets" .i64 [7,11,13,17,19,23,29,31]:=
  Lib.tabIs_of_head JD Yf Tryz.underlying128 Tryz.underlying2 Yi Yh h
 obtain⟨cs,t,h1,h2⟩:=SX Yg Yj hS
 subst h2
 exact Nk JD ht h1
theorem PZ {W:World}(h:laidMet Tryz.prog [("quadform/prime.offsets",Rows.laid_quadform_prime_offsets)] W)(hS:W.ShapedOpen Tryz.prog):jU tabs W:=by
 intro t ht
 simp only[tabs,bC,cU,cY]at ht
 rcases ht with rfl
 ·exact Yk h hS
noncomputable def yp (os:Os):World:=(Vw 0 Rows.laid_quadform_prime_offsets (World.holding Tryz.prog os ⟨#[],#[],[]⟩))
end Go.Proofs.YtdbdoalefmliiaaGreatDoor.S
namespace Go.QfSy
open Go.RowKit
noncomputable def qM (E:cj)(call:bq)(f0 n0:Nat)(l:List (List Nat×aO))(orc:bq):bq:=fun f args H=>
 bif Nat.beq f f0&&Nat.beq args.length n0 then iJ E call (fq l) f args H else orc f args H
theorem vd {P:Program}{E:cj}(hE:eW P E){call:bq}(hcall:bV P E.ng call){f0 n0:Nat}{fn:Func}(hf:P.funcs[f0]? =some fn){l:List (List Nat×aO)}(hl:∀x∈l,dB P E.ng (Nat.max n0 fn.ntmps) (cz fn x.1) x.2){orc:bq}(ho:bV P E.ng orc):bV P E.ng (qM E call f0 n0 l orc):=by
 intro f args H v H' h
 unfold qM at h
 cases hb:(Nat.beq f f0&&Nat.beq args.length n0)with
 |false=>rw[hb]at h;exact ho f args H v H' h
 |true=>
  rw[hb]at h
  simp only[aU]at h
  simp only[bj]at hb
  have h1:=co hb.1
  have h2:=co hb.2
  subst h1
  subst h2
  exact oZ hE hcall (fun fn' c h1 h2=>by
   rw[hf]at h1
   cases h1
   exact pa h2 hl) h
theorem ax.args {P:Program}{tabs:List Tb}{f:Nat}{A A':List RV}{R:RV}(h:ax P tabs f A' R)(ha:∀F Args,bY F A Args→bY F A' Args):ax P tabs f A R:=
 ⟨h.1,fun w F Args ht hF hr=>h.2 w F Args ht hF (ha F Args hr)⟩
theorem Si {n:Nat}{row:Nat→List RV}(h:∀i,i<n→row i=(Con.ofR (row i)).rvs){F:Fz}{V:Value}(k:bZ F (.sl n 5 row) V):bZ F (bg (aF n row)) V:=by
 unfold bg
 have hn:(aF n row).length=n:=by simp[aF]
 rw[hn]
 refine k.rows (fun i hi=>?_)
 rw[h i hi]
 congr 1
 simp[aF,hi]
def nO (gs:List Nat):List AV:=gs.map fun g=>.fn g []
def wy (gs:List Nat):List Value:=gs.map fun g=>.func (.func g) #[] #[]
theorem EZ (γ:Gm):∀gs,ap γ (nO gs) (wy gs)
 |[]=>.nil
 |g::gs=>.cons (.fn g .nil) (EZ γ gs)
theorem F6 {γ:Gm}:∀{gs:List Nat}{Vs:List Value},ap γ (nO gs) Vs→Vs=wy gs
 |[],Vs,h=>by cases h;rfl
 |g::gs,Vs,h=>by
  cases h with
  |cons h t=>
   rw[F6 t]
   cases h with
   |fn _ k=>cases k;rfl
theorem ap.split {γ:Gm}:∀{us vs:List AV}{Vs:List Value},ap γ (us++vs) Vs→∃V1 V2,Vs=V1++V2∧ap γ us V1∧ap γ vs V2
 |[],vs,Vs,h=>⟨[],Vs,rfl,.nil,h⟩
 |u::us,vs,Vs,h=>by
  cases h with
  |cons h t=>
   obtain⟨V1,V2,rfl,h1,h2⟩:=ap.split t
   exact⟨_::V1,V2,rfl,.cons h h1,h2⟩
def sA:List AV→List Nat→Bool
 |[],[]=>true
 |.fn f []::l,g::gs=>Nat.beq f g&&sA l gs
 |_,_=>false
theorem C9:∀{l:List AV}{gs:List Nat},sA l gs=true→l=nO gs
 |l,gs,h=>by
  unfold sA at h
  split at h
  ·rfl
  ·obtain⟨h1,h2⟩:=bB h
   rw[co h1,C9 h2]
   rfl
  ·cases h
def ku (P:Program)(tabs:List Tb)(f:Nat)(gs:List Nat)(A:List RV)(R:RV):Prop:=
 (∃fn,P.funcs[f]? =some fn∧fn.body.isSome=true)∧
 ∀(w:World)(F:Fz)(Args:List Value),jU tabs w→pE F w→bY F A Args→
  Calls P f (Args++wy gs).toArray w fun e w'=>∃V F',e=.returned V∧F.le F'∧pE F' w'∧(∀B x,F' B=some x→F B=some x∨w.heap.size≤B)∧bZ F' R V∧th w.heap.size w w'
theorem LB {P:Program}{E:cj}(hE:eW P E){call:bq}(hcall:bV P E.ng call){lo:List Nat→Option aO}{f:Nat}{A:List RV}{gs:List Nat}(hlo:∀fn c,P.funcs[f]? =some fn→fn.body=some c→mU P E.ng (Nat.max (RV.avl A++nO gs).length fn.ntmps) lo c){tabs:List Tb}(hg:tabs.all (fun t=>Nat.blt t.g E.ng)=true)(hok:eP (dH tabs)=true)(hng:Nat.ble E.ng 1000=true)
 {R:RV}{tp:List Bool}{ms:List Prop}(h:kx (iJ E call lo f (RV.avl A++nO gs) ⟨aI (dH tabs),1000,tp,[]⟩) R=some ms)(hm:ar ms):ku P tabs f gs A R:=by
 unfold kx at h
 split at h
 ·cases h
 ·rename_i v H' hrun
  split at h
  ·cases h
  ·rename_i m1 hrd
   cases h
   rw[iZ]at hm
   obtain⟨hm1,hm2⟩:=dJ hm
   have hb:=(oZ hE hcall hlo hrun).2 hm2
   have hng:=aT hng
   refine⟨?_,fun w F Args hT hF hA=>?_⟩
   ·have hb0:=oZ hE hcall hlo hrun
    unfold iJ at hrun
    split at hrun
    ·cases hrun
    ·rename_i fn hfn
     rw[hE.fs f]at hfn
     split at hrun
     ·cases hrun
     ·rename_i c hc
      exact⟨fn,hfn,by rw[hc];rfl⟩
   ·obtain⟨_,hcalls⟩:=hb (jV E.ng F) w (Args++wy gs) (Ao hT hF hng hg hok) (ap.append (bY.avl (γ:=jV E.ng F) hA) (EZ _ gs)) (fun g hg'=>by simp[jV,hg'])
    refine hcalls.mono ?_
    rintro e w' ⟨V,γ',rfl,hV,hR⟩
    have hbel:th w.heap.size w w':=⟨⟨hR.stp.os,hR.stp.tape,hR.stp.output,hR.stp.size,fun k hk=>hR.stp.frame k hk (mE hok k)⟩,hR.stp.drawn⟩
    let F':Fz:=fun B=>match γ'.fz B with
     |some x=>some x
     |none=>if w.heap.size≤B then w'.heap[B]? else none
    have hle:γ'.fz.le F':=by intro B x hx;simp only[F',hx]
    refine⟨V,F',rfl,fun B x hx=>hle B x (hR.stp.le.fz B x hx),?_,?_,?_,hbel⟩
    ·intro B x hx
     simp only[F']at hx
     split at hx
     ·rename_i y hy;cases hx;exact hR.stp.rel.fzr B x hy
     ·split at hx
      ·exact hx
      ·cases hx
    ·intro B x hx
     simp only[F']at hx
     split at hx
     ·rename_i y hy
      cases hx
      rcases hR.stp.fzn B x hy with h1|h1|h1
      ·exact .inl h1
      ·exact .inr h1
      ·exact(mE hok B h1).elim
     ·split at hx
      ·rename_i hB;exact .inr hB
      ·cases hx
    ·refine nI hR.stp.rel hle (fun b k B x y hk hown hgb hy=>?_) hrd hm1 hV
     have hz:=hR.stp.rel.fzo b k B x hk hown hgb
     simp only[F',hz]
     rw[if_pos,hy]
     rcases bA B w.heap.size with h1|h1
     ·exact(mE hok B (hR.stp.own B h1 ⟨b,k,x,hk,hown,hgb⟩)).elim
     ·exact h1
theorem Da {P:Program}{E:cj}(hE:eW P E){call:bq}(hcall:bV P E.ng call){f:Nat}{fn:Func}(hf:P.funcs[f]? =some fn){A:List RV}{gs:List Nat}{N:Nat}(hN:N=Nat.max (RV.avl A++nO gs).length fn.ntmps){l:List (List Nat×aO)}(hl:∀x∈l,dB P E.ng N (cz fn x.1) x.2){tabs:List Tb}(hg:tabs.all (fun t=>Nat.blt t.g E.ng)=true)(hok:eP (dH tabs)=true)(hng:Nat.ble E.ng 1000=true)
 {R:RV}{tp:List Bool}{ms:List Prop}(h:kx (iJ E call (fq l) f (RV.avl A++nO gs) ⟨aI (dH tabs),1000,tp,[]⟩) R=some ms)(hm:ar ms):ku P tabs f gs A R:=
 LB hE hcall (fun fn' c h1 h2=>by
  rw[hf]at h1
  cases h1
  subst hN
  exact pa h2 hl) hg hok hng h hm
noncomputable def wz (ng:Nat)(f0 na:Nat)(gs:List Nat)(tabs:List Tb)(go:List RV→Option (RV×List Prop))(orc:bq):bq:=fun f args H=>
 bif Nat.beq f f0&&sA (args.drop na) gs then(match ph H.m (args.take na)with
  |none=>none
  |some (A,s,m1)=>match go A with
   |none=>none
   |some (R,m2)=>bif(!s||R.flatV)&&tabs.all (fun t=>Nat.blt t.g ng&&qo H.m t)then some (R.av,H.must (m1++m2))else none)
 else orc f args H
theorem E0 {P:Program}{ng f0 na:Nat}{gs:List Nat}{tabs:List Tb}{go:List RV→Option (RV×List Prop)}(he:∀A R ms,go A=some (R,ms)→(∀p∈ms,p)→ku P tabs f0 gs A R){orc:bq}(ho:bV P ng orc):bV P ng (wz ng f0 na gs tabs go orc):=by
 intro f args H v H' h
 unfold wz at h
 cases hb0:(Nat.beq f f0&&sA (args.drop na) gs)with
 |false=>rw[hb0]at h;exact ho f args H v H' h
 |true=>
  rw[hb0]at h
  simp only[aU]at h
  obtain⟨h1,h2⟩:=bB hb0
  have h1:=co h1
  have h2:=C9 h2
  subst h1
  have hargs:args=args.take na++nO gs:=by rw[←h2];exact(ou na args).symm
  rw[hargs]
  generalize args.take na=args1 at h
  clear hargs h2
  split at h
  ·cases h
  ·rename_i A s m1 hA
   split at h
   ·cases h
   ·rename_i R m2 hgo
    have hb:=(ay h).1
    replace h:=(ay h).2
    cases h
    refine⟨fun p hp=>by simp[Hs.must,hp],fun hm γ w Args hr hV0 hg=>?_⟩
    obtain⟨Args1,Args2,rfl,hV,hV2⟩:=ap.split hV0
    obtain rfl:=F6 hV2
    obtain⟨hb1,hb2⟩:=bB hb
    have hm12:∀p∈m1++m2,p:=fun p hp=>hm p (by simp only[Hs.must];exact lE _ hp)
    obtain⟨hm1,hm2⟩:=dJ hm12
    obtain⟨hfn,hpure⟩:=he A R m2 hgo hm2
    refine⟨hfn,?_⟩
    have hT:jU tabs w:=by
     intro t ht
     obtain⟨q1,q2⟩:=bB (cK.1 hb2 t ht)
     exact yg hr hg (aT q1) q2
    cases s with
    |false=>
     have hRs:=pX hr (F:=γ.fz) (fun _ _ h=>h) (fun h=>by cases h) hA hm1 hV
     refine(hpure w γ.fz Args1 hT hr.fzr hRs).mono ?_
     rintro x w' ⟨V,F',rfl,hle,hvld,hnew,hR,hbel⟩
     refine⟨V,⟨γ.nm,F'⟩,rfl,bZ.av (γ:=⟨γ.nm,F'⟩) hR,?_,bp _,fun _ _=>rfl⟩
     have hγ:γ.le ⟨γ.nm,F'⟩:=⟨fun _ _ h=>h,hle⟩
     refine⟨hγ,⟨fun b k hb=>?_,hr.inj,hr.fresh,hvld,fun b k B x hb ho hgb=>?_⟩,hbel.size,hbel.os,hbel.tape,hbel.output,fun k hk _=>hbel.block k hk,fun k _ ho=>ho,fun b k hb _=>hb,fun b k hb=>.inl ⟨k,hb⟩,fun B x hB=>?_,hbel.drawn⟩
     ·obtain⟨B,x,cs,ex,g1,g2,g3,g4⟩:=hr.blk b k hb
      exact⟨B,x,cs,ex,g1,by rw[hbel.block B (hr.lt hb g1)];exact g2,g3.mono hγ,g4⟩
     ·cases hz:F' B with
      |none=>exact hz
      |some y=>
       rcases hnew B y hz with h1|h1
       ·rw[hr.fzo b k B x hb ho hgb]at h1;cases h1
       ·exact absurd (hr.lt hb hgb) om
     ·rcases hnew B x hB with h1|h1
      ·exact .inl h1
      ·exact .inr (.inl h1)
    |true=>
     have hfl:R.flatV=true:=by simpa using hb1
     have hRs:=pX hr (F:=fun B=>w.heap[B]?) (fun B x h=>hr.fzr B x h) (fun _ B y hy=>hy) hA hm1 hV
     refine(hpure w (fun B=>w.heap[B]?) Args1 hT (fun B x h=>h) hRs).mono ?_
     rintro x w' ⟨V,F',rfl,hle,hvld,hnew,hR,hbel⟩
     refine⟨V,γ,rfl,bZ.av (γ:=γ) (hR.flat hfl),?_,bp _,fun _ _=>rfl⟩
     refine⟨Gm.le_refl γ,⟨fun b k hb=>?_,hr.inj,hr.fresh,fun B x hB=>?_,hr.fzo⟩,hbel.size,hbel.os,hbel.tape,hbel.output,fun k hk _=>hbel.block k hk,fun k _ ho=>ho,fun b k hb _=>hb,fun b k hb=>.inl ⟨k,hb⟩,fun B x hB=>.inl hB,hbel.drawn⟩
     ·obtain⟨B,x,cs,ex,g1,g2,g3,g4⟩:=hr.blk b k hb
      exact⟨B,x,cs,ex,g1,by rw[hbel.block B (hr.lt hb g1)];exact g2,g3,g4⟩
     ·have h1:=hr.fzr B x hB
      rw[hbel.block B (eI.1 h1).1]
      exact h1
end Go.QfSy
end
