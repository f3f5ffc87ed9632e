/- A part of the proof of ExistenceOrder: SE, SF, ZFC, KV, GF, ZF1, ZF2, ZF3, ZF4, ZQ3, ZF5, IP, GV, GW, GY, LY, GO1, GO2, GO3, GO4, LQ, CardExistenceOrder, TiedExistenceOrder. -/
import Derived.Shelf.SlSortCmp.WholeK
import Derived.Test.YtmeljalphfcieaaDoorChecked
import Derived.Test.YtmeljalphfcieaaDoorPkO5
import Derived.Lib.QuietBelow
import Derived.Test.YtmeljalphfcieaaDoorPkO3
import Derived.Test.YtmeljalphfcieaaDoorPkO2
import Derived.CallsIn
import Derived.RangeFuncCalls
import Derived.RangeFuncLeaves
import Derived.RangeFuncNested
import Derived.RangeFuncKeeps
import Derived.WalkKit
import Derived.OwnWalkIn
import Derived.TacticsInMore
import Derived.LoopNIn
import Derived.LoopIn
import Derived.Test.YtmeljalphfcieaaDoorPkO4
import Derived.Shelf.Abstract
set_option linter.unusedSimpArgs false
set_option linter.unusedVariables false
set_option maxRecDepth 100000
open Go.IntKind renaming i64 → w6
open Go.QfSy.Con renaming zero → z0c
open Go.QfSy.Loc renaming zero → z0l
noncomputable section
namespace Go.Proofs.YtmeljalphfcieaaDoor.S
open Go.Shelf
def sfRen:Go.Shelf.Ren:=⟨fun|6=>14|15=>47|14=>46|28=>74|29=>75|20=>66|21=>67|22=>68|23=>69|24=>70|25=>71|26=>72|27=>73|46=>86|47=>87|48=>88|49=>89|50=>90|57=>93|n=>n,fun|22=>22|24=>29|25=>32|3=>3|39=>86|0=>0|53=>107|55=>109|4=>4|46=>101|45=>100|50=>60|5=>5|9=>9|66=>117|70=>121|76=>125|77=>126|n=>n,fun|n=>n⟩
theorem sfLay:Go.Proofs.SlLaysF0.n6 Tryd.prog sfRen:={
 mixed:=by kernel_rfl
 f6:=⟨Tryd.f14.name,by decide,Tryd.func14.trans (congrArg some (by kernel_rfl))⟩
 f14:=⟨Tryd.f46.name,by decide,Tryd.func46.trans (congrArg some (by kernel_rfl))⟩
 f15:=Tryd.func47.trans (congrArg some (by kernel_rfl))
 f20:=⟨Tryd.f66.name,by decide,Tryd.func66.trans (congrArg some (by kernel_rfl))⟩
 f21:=⟨Tryd.f67.name,by decide,Tryd.func67.trans (congrArg some (by kernel_rfl))⟩
 f22:=⟨Tryd.f68.name,by decide,Tryd.func68.trans (congrArg some (by kernel_rfl))⟩
 f23:=⟨Tryd.f69.name,by decide,Tryd.func69.trans (congrArg some (by kernel_rfl))⟩
 f24:=⟨Tryd.f70.name,by decide,Tryd.func70.trans (congrArg some (by kernel_rfl))⟩
 f25:=⟨Tryd.f71.name,by decide,Tryd.func71.trans (congrArg some (by kernel_rfl))⟩
 f26:=⟨Tryd.f72.name,by decide,Tryd.func72.trans (congrArg some (by kernel_rfl))⟩
 f27:=⟨Tryd.f73.name,by decide,Tryd.func73.trans (congrArg some (by kernel_rfl))⟩
 f28:=Tryd.func74.trans (congrArg some (by kernel_rfl))
 f29:=Tryd.func75.trans (congrArg some (by kernel_rfl))
 f46:=⟨Tryd.f86.name,by decide,Tryd.func86.trans (congrArg some (by kernel_rfl))⟩
 f47:=Tryd.func87.trans (congrArg some (by kernel_rfl))
 f48:=Tryd.func88.trans (congrArg some (by kernel_rfl))
 f49:=⟨Tryd.f89.name,by decide,Tryd.func89.trans (congrArg some (by kernel_rfl))⟩
 f50:=⟨Tryd.f90.name,by decide,Tryd.func90.trans (congrArg some (by kernel_rfl))⟩
 f57:=⟨Tryd.f93.name,by decide,Tryd.func93.trans (congrArg some (by kernel_rfl))⟩
 t0:=Tryd.underlying0
 a0:=Tryd.isAgg0
 z0:=Tryd.sizeOf0
 v0:=Tryd.zeroValue0
 t3:=Tryd.underlying3
 a3:=Tryd.isAgg3
 z3:=Tryd.sizeOf3
 v3:=Tryd.zeroValue3
 t4:=Tryd.underlying4
 a4:=Tryd.isAgg4
 z4:=Tryd.sizeOf4
 v4:=Tryd.zeroValue4
 t5:=Tryd.underlying5
 a5:=Tryd.isAgg5
 z5:=Tryd.sizeOf5
 v5:=Tryd.zeroValue5
 t9:=Tryd.underlying9
 a9:=Tryd.isAgg9
 z9:=Tryd.sizeOf9
 v9:=Tryd.zeroValue9
 t22:=Tryd.underlying22
 a22:=Tryd.isAgg22
 z22:=Tryd.sizeOf22
 v22:=Tryd.zeroValue22
 t25:=Tryd.underlying32
 a25:=Tryd.isAgg32
 z25:=Tryd.sizeOf32
 v25:=Tryd.zeroValue32
 t39:=Tryd.underlying86
 a39:=Tryd.isAgg86
 z39:=Tryd.sizeOf86
 v39:=Tryd.zeroValue86
 t45:=Tryd.underlying100
 a45:=Tryd.isAgg100
 z45:=Tryd.sizeOf100
 v45:=Tryd.zeroValue100
 t46:=Tryd.underlying101
 a46:=Tryd.isAgg101
 z46:=Tryd.sizeOf101
 v46:=Tryd.zeroValue101
 t50:=Tryd.underlying60
 a50:=Tryd.isAgg60
 z50:=Tryd.sizeOf60
 v50:=Tryd.zeroValue60
 t53:=Tryd.underlying107
 a53:=Tryd.isAgg107
 z53:=Tryd.sizeOf107
 v53:=Tryd.zeroValue107
 t55:=Tryd.underlying109
 a55:=Tryd.isAgg109
 z55:=Tryd.sizeOf109
 v55:=Tryd.zeroValue109
 t66:=Tryd.underlying117
 a66:=Tryd.isAgg117
 z66:=Tryd.sizeOf117
 v66:=Tryd.zeroValue117
 t70:=Tryd.underlying121
 a70:=Tryd.isAgg121
 z70:=Tryd.sizeOf121
 v70:=Tryd.zeroValue121
 t76:=Tryd.underlying125
 a76:=Tryd.isAgg125
 z76:=Tryd.sizeOf125
 v76:=Tryd.zeroValue125
 t77:=Tryd.underlying126
 a77:=Tryd.isAgg126
 z77:=Tryd.sizeOf126
 v77:=Tryd.zeroValue126}
end Go.Proofs.YtmeljalphfcieaaDoor.S
namespace Go.Proofs.YtmeljalphfcieaaDoor.S
open Go.QfSy Go.RowKit Go.Sort
def bG (g:Gen):Prop:=g.locs.length≤1000∧∀l∈g.locs,l.list.length≤1000
structure GC (F:Fz)where
 enc:List Value
 gen:Gen
 rel:RsRel F gen.rvs enc
 bnd:bG gen
theorem GC.three {F:Fz}(x:GC F):∃a b c,x.enc=[a,b,c]∧a.oneCell'=true∧b.oneCell'=true∧c.oneCell'=true:=by
 have h:=x.rel
 generalize x.enc=e at h⊢
 unfold Gen.rvs at h
 cases h with|cons h1 h=>cases h with|cons h2 h=>cases h with|cons h3 h=>
 cases h
 refine⟨_,_,_,rfl,?_,?_,?_⟩
 ·cases h1;rfl
 ·cases h2;rfl
 ·unfold roL at h3;cases h3<;>rfl
theorem GC.len {F:Fz}(x:GC F):x.enc.length=3:=by
 obtain⟨a,b,c,h,_⟩:=x.three
 rw[h];rfl
theorem GC.one {F:Fz}(x:GC F):∀v∈x.enc,v.oneCell'=true:=by
 obtain⟨a,b,c,h,h1,h2,h3⟩:=x.three
 rw[h]
 intro v hv
 simp only[List.mem_cons,List.not_mem_nil,or_false]at hv
 rcases hv with rfl|rfl|rfl<;>assumption
theorem gc_split {γ:Gm}:∀(X:List Gen)(cs:List Value),(∀g∈X,bG g)→VsRel γ (X.flatMap fun c=>RV.avl (Rty.gen.rvs c)) cs→∃L:List (GC γ.fz),L.map GC.gen=X∧cs=L.flatMap GC.enc
 |[],cs,_,h=>by cases h;exact⟨[],rfl,rfl⟩
 |g::X,cs,hb,h=>by
  have h:VsRel γ (RV.avl g.rvs++X.flatMap fun c=>RV.avl (Rty.gen.rvs c)) cs:=h
  obtain⟨c1,c2,rfl,h1,h2⟩:=h.split
  obtain⟨L,e1,e2⟩:=gc_split X c2 (fun g hg=>hb g (List.mem_cons_of_mem _ hg)) h2
  exact⟨⟨c1,g,h1.rvs,hb g List.mem_cons_self⟩::L,by rw[List.map_cons,e1],by rw[List.flatMap_cons,e2]⟩
theorem gc_join {γ:Gm}:∀L:List (GC γ.fz),VsRel γ ((L.map GC.gen).flatMap fun c=>RV.avl (Rty.gen.rvs c)) (L.flatMap GC.enc)
 |[]=>.nil
 |x::L=>by
  rw[show(x::L).flatMap GC.enc=x.enc++L.flatMap GC.enc from List.flatMap_cons]
  exact VsRel.append (us:=(L.map GC.gen).flatMap fun c=>RV.avl (Rty.gen.rvs c)) x.rel.avl (gc_join L)
theorem fm_get {α:Type} [Inhabited α]{enc:α→List Value}(hk:∀x,(enc x).length=3):∀(L:List α)(t:Nat),t<L.length*3→(L.flatMap enc)[t]? =(enc (L.toArray[t/3]!))[t%3]?
 |[],t,h=>by simp at h
 |a::L,t,h=>by
  rw[List.flatMap_cons]
  rcases Nat.lt_or_ge t 3 with h1|h1
  ·rw[List.getElem?_append_left (by rw[hk];exact h1),Nat.div_eq_of_lt h1,Nat.mod_eq_of_lt h1];simp
  ·obtain⟨u,rfl⟩:∃u,t=u+3:=⟨t-3,by omega⟩
   rw[List.getElem?_append_right (by rw[hk];omega),hk,show u+3-3=u by omega,fm_get hk L u (by simp only[List.length_cons]at h;omega),show(u+3)/3=u/3+1 by omega,show(u+3)%3=u%3 by omega]
   simp
theorem flat_fm {α:Type} [Inhabited α]{enc:α→List Value}(hk:∀x,(enc x).length=3)(L:List α):flatK enc 3 L.toArray=(L.flatMap enc).toArray:=by
 have hl:(L.flatMap enc).length=L.length*3:=by
  induction L with
  |nil=>rfl
  |cons a L ih=>rw[List.flatMap_cons,List.length_append,hk,ih,List.length_cons];omega
 refine ext_get! (by simp[hl]) fun t ht=>?_
 have ht:t<L.length*3:=by simpa using ht
 have e:=fm_get hk L t ht
 rw[get_flatK enc 3 _ t (by simpa using ht),getElem!_def (L.flatMap enc).toArray,List.getElem?_toArray,e,getElem!_def (enc _)]
theorem put_cells {F:Array Value}{cs ex:List Value}(h:cs.length=F.size):putCells id 0 F (cs++ex).toArray=(F.toList++ex).toArray:=by
 apply Array.ext_getElem?
 intro k
 simp only[putCells,Array.getElem?_mapIdx,List.getElem?_toArray]
 rcases Nat.lt_or_ge k F.size with h1|h1
 ·rw[List.getElem?_append_left (by omega),List.getElem?_append_left (by simpa using h1),List.getElem?_eq_getElem (by omega)]
  simp[h1]
 ·rw[List.getElem?_append_right (by omega),List.getElem?_append_right (by simpa using h1),h]
  have:¬(0≤k∧k<0+F.size):=by omega
  simp only[this,if_false]
  cases ex[k-F.size]? <;>simp[Array.length_toList]
noncomputable def sfA (X:List Gen):FnA:=⟨14,[.lo 1000 X.length,.fn 8 []],[(1000,⟨.vals .gen X,29,3,true,true⟩)],1100,none,fun _=>(.tup [],[(1000,⟨.vals .gen (srtG X),29,3,true,true⟩)],1100)⟩
theorem swo_gen {F:Fz}:SWO (ltOf fun x y:GC F=>cmpGn x.gen y.gen)where
 irrefl x:=by
  have:=ord_gen.neg x.gen x.gen
  exact decide_eq_false (show¬cmpGn x.gen x.gen<0 by omega)
 trans x y z h1 h2:=by
  have h1:=of_decide_eq_true h1
  have h2:=of_decide_eq_true h2
  exact decide_eq_true (lt_tr h1 h2)
 ntrans x y z h1 h2:=by
  have h1:¬cmpGn x.gen y.gen<0:=of_decide_eq_false h1
  have h2:¬cmpGn y.gen z.gen<0:=of_decide_eq_false h2
  refine decide_eq_false (show¬cmpGn x.gen z.gen<0 from ?_)
  have n1:=ord_gen.neg x.gen y.gen
  have n2:=ord_gen.neg y.gen z.gen
  have n3:=ord_gen.neg x.gen z.gen
  have:=ord_gen.tr z.gen y.gen x.gen (by omega) (by omega)
  omega
theorem sw_heap {α:Type} [Inhabited α]{enc:α→List Value}{w:World}{B m:Nat}{dk:Array α}{os:Array Obj}{k:Nat}(hk:k<w.heap.size)(hne:k≠B):(sortWorldK enc 3 w B 0 m dk os).heap[k]? =w.heap[k]? :=by
 unfold sortWorldK grow putRowK putRow mapBlock Go.Sort.ahead
 simp only
 rw[Array.getElem?_append_left (by simpa using hk),Array.getElem?_modify,if_neg (fun e=>hne e.symm)]
theorem sw_size {α:Type} [Inhabited α]{enc:α→List Value}{w:World}{B m:Nat}{dk:Array α}{os:Array Obj}:w.heap.size≤(sortWorldK enc 3 w B 0 m dk os).heap.size:=by
 unfold sortWorldK grow putRowK putRow mapBlock Go.Sort.ahead
 simp
theorem sw_row {α:Type} [Inhabited α]{enc:α→List Value}(hk:∀x,(enc x).length=3){w:World}{B m el:Nat}{cs ex:List Value}(h:w.heap[B]? =some (.cells (cs++ex).toArray el (0,0))){L:List α}(hl:cs.length=L.length*3){os:Array Obj}:(sortWorldK enc 3 w B 0 m L.toArray os).heap[B]? =some (.cells (L.flatMap enc++ex).toArray el (0,0)):=by
 have hB:=(Array.getElem?_eq_some_iff.1 h).1
 unfold sortWorldK grow putRowK putRow mapBlock Go.Sort.ahead
 simp only
 rw[Array.getElem?_append_left (by simpa using hB),Array.getElem?_modify,if_pos rfl,h]
 simp only[Option.map_some,onCells]
 rw[put_cells (by rw[size_flatK];simpa using hl),flat_fm hk]
theorem agE (w:World):(isAgg (sfRen.t 24)).run Tryd.prog w=.ok true w:=Tryd.isAgg29 w
theorem szE (w:World):(Go.sizeOf (sfRen.t 24)).run Tryd.prog w=.ok 3 w:=Tryd.sizeOf29 w
theorem cmp_lays {γ:Gm} [Inhabited (GC γ.fz)]{w:World}(hF:Vld γ.fz w){B n:Nat}(hB:γ.fz B=none):CmpLays Tryd.prog 8 #[] (GC.enc (F:=γ.fz)) 3 (fun x y=>cmpGn x.gen y.gen) B 0 n w:=by
 intro m os dk hs x y
 have hp:=gcmp_pure x.gen y.gen x.bnd y.bnd
 have hV:Vld γ.fz (sortWorldK GC.enc 3 w B 0 m dk os):=by
  intro b o hb
  have h1:=hF b o hb
  rw[sw_heap (Array.getElem?_eq_some_iff.1 h1).1 (fun e=>by rw[e,hB]at hb;cases hb)]
  exact h1
 refine(hp.2 _ γ.fz [.agg x.enc.toArray,.agg y.enc.toArray] (fun t ht=>by cases ht) hV (.cons (.agg x.rel) (.cons (.agg y.rel) .nil))).mono ?_
 rintro e w' ⟨V,F',rfl,_,_,_,hR,hb⟩
 cases hR
 obtain⟨p,hp⟩:=regrown_of_below hb.toBelow
 refine⟨rfl,w'.drawn-(sortWorldK GC.enc 3 w B 0 m dk os).drawn,p.os,?_⟩
 have hd:p.d=w'.drawn:=by rw[hp];rfl
 rw[hp,hd]
 unfold grow redrawn World.drewN
 simp only[World.mk.injEq,true_and,and_true]
 have:=hb.drawn
 omega
theorem sf_ok (X:List Gen)(hX:X≠[])(hlen:X.length≤1000)(hb:∀g∈X,bG g)(ha:ascG (srtG X)=true):FnOk Tryd.prog EV.ng (sfA X):=by
 refine⟨⟨_,Tryd.func14,rfl⟩,?_⟩
 intro d _ γ w Args hr hA0 _
 have hget:(trOf (sfA X).pre).get 1000=some ⟨.vals .gen X,29,3,true,true⟩:=rfl
 obtain⟨B,x,cs,ex,g1,g2,g3,g4,g5⟩:=hr.blk 1000 _ hget
 obtain⟨L,hL,rfl⟩:=gc_split X cs hb g3
 have hne:L≠[]:=by rintro rfl;exact hX hL.symm
 obtain⟨x0,L0,rfl⟩:∃x0 L0,L=x0::L0:=by
  cases L with
  |nil=>exact absurd rfl hne
  |cons a l=>exact⟨a,l,rfl⟩
 letI:Inhabited (GC γ.fz):=⟨x0⟩
 obtain⟨L,hLe⟩:∃L,L=x0::L0:=⟨_,rfl⟩
 rw[←hLe]at hL hne g2 g3
 have hfB:γ.fz B=none:=hr.fzo 1000 _ B x hget rfl g1
 have hBw:B<w.heap.size:=(Array.getElem?_eq_some_iff.1 g2).1
 have hn:L.length=X.length:=by rw[←hL,List.length_map]
 have hfl:(L.flatMap GC.enc).length=L.length*3:=by
  have:=congrArg Array.size (flat_fm GC.len L)
  simpa using this.symm
 have hH:HoldsK GC.enc 3 w B 0 L.toArray:=by
  unfold HoldsK
  rw[flat_fm GC.len]
  intro j hj
  have hj:j<(L.flatMap GC.enc).length:=by simpa using hj
  constructor
  ·rw[Nat.zero_add]
   simp only[World.cell?,g2]
   rw[getElem!_pos _ j (by simpa using hj)]
   simp[List.getElem?_append_left hj]
  ·simp[World.frozen?,g2]
 have hA:VsRel γ [.lo 1000 X.length,.fn 8 []] Args:=hA0
 clear hA0
 obtain⟨V1,rfl,hV1⟩:∃V1,Args=[V1,.func (.func 8) #[] #[]]∧VRel γ (.lo 1000 X.length) V1:=by
  cases hA with|cons p1 hA=>cases hA with|cons p2 hA=>
  cases hA
  cases p2 with|fn _ p3=>
  cases p3
  exact⟨_,rfl,p1⟩
 obtain rfl:V1=.slice (some ⟨B,0,none⟩) X.length (X.length+x):=by
  cases hV1 with|lo _ k1=>
  rw[g1]at k1
  cases k1
  rfl
 have eg:∀args w,(callFunc 8 args).run Tryd.prog w=.ok (.enter 8 args) w:=enters_of Tryd.func8 (by kernel_rfl) rfl
 have hcon:=AnyQ.slices_SortFunc sfLay 3 agE szE GC.enc GC.len GC.one (fun x y=>cmpGn x.gen y.gen) swo_gen 8 #[] B 0 (X.length+x) L.toArray w eg (cmp_lays (fun b o hb=>hr.fzr b o hb) hfB) hH hBw (by simp only[List.size_toArray];omega)
 have hcon:Calls Tryd.prog 14 #[.slice (some ⟨B,0,none⟩) L.toArray.size (X.length+x),.func (.func 8) #[] #[]] w _:=hcon
 rw[List.size_toArray,hn]at hcon
 refine hcon.mono ?_
 rintro e w' ⟨rfl,d',n,os,hp,hs,rfl⟩
 obtain⟨hp1,_,hp3⟩:=hp
 have hsz:d'.size=L.length:=by rw[hp1];simp
 have e1:d'.extract 0 L.length=d':=by rw[←hsz];exact Array.extract_size
 have e2:L.toArray.extract 0 L.length=L.toArray:=by
  simp
 rw[hn]at e1 e2
 rw[e1,e2]at hp3
 have hp3:d'.toList.Perm L:=by simpa using hp3
 have hpm:(d'.toList.map GC.gen).Perm X:=by rw[←hL];exact hp3.map _
 have hpw:(d'.toList.map GC.gen).Pairwise (fun a b=>¬cmpGn b a<0):=by
  rw[List.pairwise_iff_getElem]
  intro i j hi hj hij
  have hi':i<d'.size:=by simpa using hi
  have hj':j<d'.size:=by simpa using hj
  have:=of_decide_eq_false (hs i j (Nat.zero_le _) hij (by omega))
  rw[getElem!_pos d' i hi',getElem!_pos d' j hj']at this
  simpa using this
 have hsrt:=srt_uni ha hpm hpw
 have hq:d'.toList.length=L.length:=by simpa using hsz
 have hrow:=sw_row (m:=n) (os:=os) GC.len g2 (L:=d'.toList) (by rw[hfl,hq])
 rw[Array.toArray_toList]at hrow
 have hother:∀k,k<w.heap.size→k≠B→(sortWorldK GC.enc 3 w B 0 n d' os).heap[k]? =w.heap[k]? :=fun k hk hne=>sw_heap hk hne
 have hown:∀b k,(trOf [(1000,(⟨.vals .gen (srtG X),29,3,true,true⟩:Blk))]).get b=some k→b=1000∧k=⟨.vals .gen (srtG X),29,3,true,true⟩:=by
  intro b k hb
  have:=trOf_get [(1000,(⟨.vals .gen (srtG X),29,3,true,true⟩:Blk))] b k rfl hb
  simp only[List.mem_cons,List.not_mem_nil,or_false,Prod.mk.injEq]at this
  exact this
 have himg:OwnImg γ (trOf (sfA X).pre).get B:=⟨1000,_,x,hget,rfl,g1⟩
 refine⟨_,γ,rfl,.tup .nil,⟨Gm.le_refl γ,⟨?_,?_,fun b hb=>hr.fresh b hb,?_,?_⟩,sw_size,rfl,rfl,rfl,?_,?_,?_,?_,fun _ _ h=>.inl h,?_⟩,fun _ _=>rfl⟩
 ·intro b k hb
  obtain⟨rfl,rfl⟩:=hown b k hb
  refine⟨B,x,d'.toList.flatMap GC.enc,ex,g1,hrow,?_,g4,g5⟩
  have:=gc_join (γ:=γ) d'.toList
  rw[hsrt]at this
  exact this
 ·intro b b' k k' B1 x1 x2 q1 q2 _ _
  rw[(hown b k q1).1,(hown b' k' q2).1]
 ·intro B1 o hB1
  rw[hother B1 (Array.getElem?_eq_some_iff.1 (hr.fzr B1 o hB1)).1 (fun e=>by rw[e,hfB]at hB1;cases hB1)]
  exact hr.fzr B1 o hB1
 ·intro b k B1 x1 hb hk hg
  obtain⟨rfl,rfl⟩:=hown b k hb
  rw[g1]at hg
  cases hg
  exact hfB
 ·intro k hk hnk
  exact hother k hk (fun e=>hnk (e▸himg))
 ·intro k hk ⟨b,q,x1,q1,q2,q3⟩
  obtain⟨rfl,rfl⟩:=hown b q q1
  rw[g1]at q3
  cases q3
  exact himg
 ·intro b k hb hk
  obtain⟨rfl,rfl⟩:=hown b k hb
  cases hk
 ·intro b k hb
  obtain⟨rfl,rfl⟩:=hown b k hb
  exact .inl ⟨_,hget⟩
 ·show w.drawn≤w.drawn+n
  omega
end Go.Proofs.YtmeljalphfcieaaDoor.S
namespace Go.QfSy
open Go.RowKit
theorem HRel.cast {γ:Gm}{f:Hf}{nx:Nat}{w:World}(h:HRel γ f nx w){b:Nat}{k k':Blk}(hb:f b=some k)(ho:k.own=true)(ho':k'.own=true)(hp:k.opn=false∨(k'.opn=true∧k.sz=k'.sz))(he:k.elem=k'.elem)(hi:∀cs,VsRel γ k.cells cs→VsRel γ k'.cells cs):Stp γ f w γ (upd f b (some k')) nx w:=by
 have old:∀c q,upd f b (some k') c=some q→(c=b∧q=k')∨(c≠b∧f c=some q):=by
  intro c q hc
  by_cases e:c=b
  ·subst e;rw[upd_same]at hc;cases hc;exact .inl ⟨rfl,rfl⟩
  ·rw[upd_other f _ e]at hc;exact .inr ⟨e,hc⟩
 have some':∀c q,upd f b (some k') c=some q→∃q',f c=some q'∧(q.own=true→q'.own=true):=by
  intro c q hc
  rcases old c q hc with⟨rfl,rfl⟩|⟨_,h1⟩
  ·exact⟨k,hb,fun _=>ho⟩
  ·exact⟨q,h1,id⟩
 refine⟨Gm.le_refl γ,⟨?_,?_,h.fresh,h.fzr,?_⟩,Nat.le_refl _,rfl,rfl,rfl,fun _ _ _=>rfl,?_,?_,?_,fun _ _ h=>.inl h,Nat.le_refl _⟩
 ·intro c q hc
  rcases old c q hc with⟨rfl,rfl⟩|⟨_,h1⟩
  ·obtain⟨B,x,cs,ex,g1,g2,g3,g4,g5⟩:=h.blk _ k hb
   rcases hp with hp|⟨hp,hz⟩
   ·have hx:=g5 hp
    subst hx
    have hex:ex=[]:=List.eq_nil_of_length_eq_zero (by simpa using g4)
    subst hex
    exact⟨B,0,cs,[],g1,by rw[←he];exact g2,hi cs g3,by simp,fun _=>rfl⟩
   ·exact⟨B,x,cs,ex,g1,by rw[←he];exact g2,hi cs g3,by rw[←hz];exact g4,fun h=>by rw[hp]at h;cases h⟩
  ·exact h.blk c q h1
 ·intro c c' q q' B x x' h1 h2 h3 h4
  obtain⟨_,s1,_⟩:=some' c q h1
  obtain⟨_,s2,_⟩:=some' c' q' h2
  exact h.inj _ _ _ _ _ _ _ s1 s2 h3 h4
 ·intro c q B x h1 h2 h3
  obtain⟨_,s1,s2⟩:=some' c q h1
  exact h.fzo _ _ _ _ s1 (s2 h2) h3
 ·intro i hi ⟨c,q,x,h1,h2,h3⟩
  obtain⟨_,s1,s2⟩:=some' c q h1
  exact⟨c,_,x,s1,s2 h2,h3⟩
 ·intro c q h1 h2
  rcases old c q h1 with⟨rfl,rfl⟩|⟨_,h1⟩
  ·rw[ho']at h2;cases h2
  ·exact h1
 ·intro c q h1
  obtain⟨_,s1,_⟩:=some' c q h1
  exact .inl ⟨_,s1⟩
def castV:AV→AV→Option (List Prop)
 |.nils,.ro n _ _=>some [n=0]
 |.slc b 0 n c,.lo b' n'=>bif Nat.beq b b'&&Nat.beq n c then some [n=n']else none
 |x,y=>sameS x y
theorem castV_ok {γ:Gm}{x y:AV}{ms:List Prop}(h:castV x y=some ms)(hm:∀p∈ms,p){V:Value}(hV:VRel γ x V):VRel γ y V:=by
 unfold castV at h
 split at h
 ·cases h
  cases hV
  exact .ro (.sl0 _ _ _ _ (all_one hm))
 ·obtain⟨hc,h⟩:=bif_some h
  cases h
  simp only[Bool.and_eq_true]at hc
  have e1:=beq_eq hc.1
  have e2:=beq_eq hc.2
  have e3:=all_one hm
  subst e1 e2
  rw[←e3]
  cases hV with|slc _ _ _ hg=>exact .lo _ hg
 ·exact sameS_ok h hm γ V hV
def castVs:List AV→List AV→Option (List Prop)
 |[],[]=>some []
 |v::vs,u::us=>match castV v u with
  |none=>none
  |some m1=>match castVs vs us with
   |none=>none
   |some m2=>some (m1++m2)
 |_,_=>none
theorem castVs_ok {γ:Gm}:∀{xs ys:List AV}{ms:List Prop},castVs xs ys=some ms→(∀p∈ms,p)→∀{Vs:List Value},VsRel γ xs Vs→VsRel γ ys Vs
 |[],[],ms,h,hm,Vs,hV=>hV
 |[],_::_,ms,h,hm,Vs,hV=>by simp[castVs]at h
 |_::_,[],ms,h,hm,Vs,hV=>by simp[castVs]at h
 |v::vs,u::us,ms,h,hm,Vs,hV=>by
  simp only[castVs]at h
  split at h
  ·cases h
  ·rename_i m1 h1
   split at h
   ·cases h
   ·rename_i m2 h2
    cases h
    cases hV with|cons a b=>
    exact .cons (castV_ok h1 (fun p hp=>hm p (List.mem_append_left _ hp)) a) (castVs_ok h2 (fun p hp=>hm p (List.mem_append_right _ hp)) b)
noncomputable def castA:List (Nat×Blk)→Tr Blk→Option (Tr Blk×List Prop)
 |[],m=>some (m,[])
 |(b,k')::l,m=>match m.get b with
  |none=>none
  |some k=>bif k.own&&k'.own&&(!k.opn||(k'.opn&&Nat.beq k.sz k'.sz))&&Nat.beq k.elem k'.elem then(match castVs k.cells k'.cells with
   |none=>none
   |some m1=>match m.set b (some k')with
    |none=>none
    |some m'=>match castA l m' with
     |none=>none
     |some (m2,ms)=>some (m2,m1++ms))else none
theorem castA_ok {γ:Gm}{nx:Nat}{w:World}:∀{l:List (Nat×Blk)}{m m':Tr Blk}{ms:List Prop},HRel γ m.get nx w→castA l m=some (m',ms)→(∀p∈ms,p)→Stp γ m.get w γ m'.get nx w
 |[],m,m',ms,hr,h,hm=>by cases h;exact Stp.refl hr
 |(b,k')::l,m,m',ms,hr,h,hm=>by
  simp only[castA]at h
  split at h
  ·cases h
  ·rename_i k hk
   obtain⟨hc,h⟩:=bif_some h
   simp only[Bool.and_eq_true,Bool.or_eq_true,Bool.not_eq_true']at hc
   split at h
   ·cases h
   ·rename_i m1 h1
    split at h
    ·cases h
    ·rename_i m2 h2
     split at h
     ·cases h
     ·rename_i m3 m4 h3
      cases h
      have s1:=HRel.cast hr hk hc.1.1.1 hc.1.1.2 (hc.1.2.imp id fun h=>⟨h.1,beq_eq h.2⟩) (beq_eq hc.2) (fun cs hcs=>castVs_ok h1 (fun p hp=>hm p (List.mem_append_left _ hp)) hcs)
      rw[←get_set_upd h2]at s1
      exact s1.trans (castA_ok s1.rel h3 (fun p hp=>hm p (List.mem_append_right _ hp)))
noncomputable def orcC (g:Nat)(l:List (Nat×Blk))(call:CallF):CallF:=fun f args H=>bif Nat.beq f g then(match castA l H.m with
 |none=>none
 |some (m',ms)=>call f args ⟨m',H.nx,H.tp,ms++H.ms⟩)else call f args H
theorem orcC_ok {P:Program}{ng g:Nat}{l:List (Nat×Blk)}{call:CallF}(hc:CallOk P ng call):CallOk P ng (orcC g l call):=by
 intro f args H v H' hq
 unfold orcC at hq
 cases hb:Nat.beq f g with
 |false=>rw[hb]at hq;exact hc f args H v H' hq
 |true=>
  rw[hb]at hq
  simp only[cond_true]at hq
  split at hq
  ·cases hq
  ·rename_i m' ms hf
   obtain⟨h1,h2⟩:=hc f args _ v H' hq
   refine⟨fun p hp=>h1 p (List.mem_append_right _ hp),fun hm γ w Args hr hV hg=>?_⟩
   have a1:=castA_ok hr hf (fun p hp=>hm p (h1 p (List.mem_append_left _ hp)))
   obtain⟨q1,q2⟩:=h2 hm γ w Args a1.rel hV hg
   refine⟨q1,q2.mono ?_⟩
   rintro e w' ⟨V,γ2,rfl,k1,k2⟩
   exact⟨V,γ2,rfl,k1,⟨a1.trans k2.stp,k2.nx,k2.keep⟩⟩
end Go.QfSy
namespace Go.Proofs.YtmeljalphfcieaaDoor.S
open Go.QfSy Go.RowKit
def lsQ (n d:Nat)(Q:List Pow):List (List QfSy.Loc):=twoL n d::(Q.drop 1).map fun q=>oddL n d q.prime.toNat
def geO (n d:Nat)(Ls:List (List QfSy.Loc)):GnO:=(gnM (n:Int) (d:Int) Ls Ls.length 0 (List.replicate Ls.length z0l,none)).2
def geX (n d:Nat)(Q:List Pow):List Gen:=gnL (geO n d (lsQ n d Q))
def geL (X:List Gen):List Gen:=bif Nat.blt 64 X.length then []else srtG X
def geE (X:List Gen):Int:=bif Nat.blt 64 X.length then 7 else 0
structure GeH (n d:Nat)(Q:List Pow):Prop where
 n1:1≤n∧n≤8
 d1:0<d∧d≤10000
 fc:fac (2*d)=Q
 od:∀q∈Q.drop 1,2≤q.prime.toNat∧q.prime.toNat≤2147483647∧q.prime.toNat%2≠0
 ps:∀l∈lsQ n d Q,posC l∧l.length≤50000
 ne:(geO n d (lsQ n d Q)).isNone=false
 bd:∀g∈geX n d Q,bG g
 le:(geX n d Q).length≤1000
 ss:64<(geX n d Q).length∨(geX n d Q≠[]∧ascG (srtG (geX n d Q))=true)
def entsGe (n d:Nat)(Q:List Pow):List OEnt:=[
 ⟨9,[],fun A=>match A with
  |[.int .i64 a,.int .i64 b]=>some (roL (twoL n d),[a=(n:Int)∧b=(d:Int)])
  |_=>none⟩,
 ⟨10,[off1],fun A=>match A with
  |[.int .i64 a]=>some (.tup [slV .pow Q,.int .i64 0],[a=2*(d:Int)])
  |_=>none⟩,
 ⟨11,[],fun A=>match A with
  |[.int .i64 a,.int .i64 b,.int .i64 p]=>some (roL (oddL n d p.toNat),[a=(n:Int)∧b=(d:Int)∧p∈(Q.drop 1).map Pow.prime])
  |_=>none⟩]
theorem entsGe_ok {n d:Nat}{Q:List Pow}(h:GeH n d Q):∀e∈entsGe n d Q,EntOk Tryd.prog e:=by
 intro e he
 simp only[entsGe,List.mem_cons,List.not_mem_nil,or_false]at he
 rcases he with rfl|rfl|rfl
 all_goals
  intro A R ms hq hm
  simp only at hq
  split at hq
  all_goals first|(cases hq;done)|cases hq
 ·obtain⟨rfl,rfl⟩:=all_one hm
  exact two_pure n d h.n1 h.d1 (h.ps _ List.mem_cons_self).2
 ·have h1:=all_one hm
  subst h1
  have:=fac_pure (2*d) (by have:=h.d1;omega) (by have:=h.d1;omega)
  rw[h.fc]at this
  rw[show((2*d:Nat):Int)=2*(d:Int) by omega]at this
  exact this
 ·obtain⟨rfl,rfl,h3⟩:=all_one hm
  obtain⟨q,hq,rfl⟩:=List.mem_map.1 h3
  obtain⟨o1,o2,o3⟩:=h.od q hq
  have:=odd_pure n d q.prime.toNat h.n1 h.d1 ⟨o1,o2,o3⟩ (h.ps _ (List.mem_cons_of_mem _ (List.mem_map.2 ⟨q,hq,rfl⟩))).2
  rw[show((q.prime.toNat:Nat):Int)=q.prime by omega]at this
  exact this
def goGe (n d:Nat)(Ls:List (List QfSy.Loc)):Nat→List AV→Hs→Option (FnA×List Prop):=fun f args H=>
 bif Nat.beq f 12 then some (gnA (n:Int) (d:Int) Ls Ls.length 0 (List.replicate Ls.length z0l) none,[gnC Ls Ls.length 0 (List.replicate Ls.length z0l) none])else
 bif Nat.beq f 14 then(match args with
  |[.lo b _,_]=>match H.m.get b with
   |some k=>match k.view with
    |.vals .gen X=>some (sfA X,[X≠[]∧X.length≤1000∧(∀g∈X,bG g)∧ascG (srtG X)=true])
    |_=>none
   |none=>none
  |_=>none)else none
theorem goGe_ok {n d:Nat}{Ls:List (List QfSy.Loc)}:∀f args H A ms,goGe n d Ls f args H=some (A,ms)→(∀q∈ms,q)→FnOk Tryd.prog EV.ng A:=by
 intro f args H A ms hq hm
 unfold goGe at hq
 cases h1:Nat.beq f 12 with
 |true=>
  rw[h1,cond_true]at hq
  cases hq
  exact gn_ok _ _ _ _ _ _ _ (all_one hm)
 |false=>
  rw[h1,cond_false]at hq
  replace hq:=(bif_some hq).2
  split at hq
  ·split at hq
   ·split at hq
    ·cases hq
     obtain⟨a1,a2,a3,a4⟩:=all_one hm
     exact sf_ok _ a1 a2 a3 a4
    ·cases hq
   ·cases hq
  ·cases hq
theorem gnC_0 {n d:Nat}{Q:List Pow}(h:GeH n d Q)(hQ:Q.length≤9):gnC (lsQ n d Q) (lsQ n d Q).length 0 (List.replicate (lsQ n d Q).length z0l) none:=by
 have hl:(lsQ n d Q).length=(Q.drop 1).length+1:=by simp[lsQ]
 have h2:(Q.drop 1).length≤9:=by simp;omega
 refine⟨by simp,by simp,by simp[hl],by rw[List.length_replicate];omega,fun j=>?_,fun j hj=>absurd hj (by omega),by simp[gnL]⟩
 rw[List.getD_eq_getElem?_getD]
 rcases Nat.lt_or_ge j (lsQ n d Q).length with hj|hj
 ·rw[List.getElem?_eq_getElem hj];exact h.ps _ (List.getElem_mem hj)
 ·rw[List.getElem?_eq_none hj];exact⟨fun l hl=>by simp at hl,Nat.zero_le _⟩
theorem ge_ss {n d:Nat}{Q:List Pow}(h:GeH n d Q)(hl:¬64<(geX n d Q).length):geX n d Q≠[]∧(geX n d Q).length≤1000∧(∀g∈geX n d Q,bG g)∧ascG (srtG (geX n d Q))=true:=by
 rcases h.ss with h1|h1
 ·exact absurd h1 hl
 ·exact⟨h1.1,h.le,h.bd,h1.2⟩
theorem ge_L0 {X:List Gen}(h:64<X.length):geL X=[]:=by unfold geL;rw[show Nat.blt 64 X.length=true from Nat.ble_eq_true_of_le h];rfl
theorem ge_L1 {X:List Gen}(h:¬64<X.length):geL X=srtG X:=by unfold geL;rw[show Nat.blt 64 X.length=false from Bool.eq_false_iff.2 fun e=>h (Nat.le_of_ble_eq_true e)];rfl
theorem ge_E0 {X:List Gen}(h:64<X.length):geE X=7:=by unfold geE;rw[show Nat.blt 64 X.length=true from Nat.ble_eq_true_of_le h];rfl
theorem ge_E1 {X:List Gen}(h:¬64<X.length):geE X=0:=by unfold geE;rw[show Nat.blt 64 X.length=false from Bool.eq_false_iff.2 fun e=>h (Nat.le_of_ble_eq_true e)];rfl
theorem gt64 {X:List Gen}{b:Bool}(h:decide (((X.length:Nat):Int)>64)=b):decide (64<X.length)=b:=by
 subst h
 by_cases e:64<X.length
 ·rw[decide_eq_true e];exact(decide_eq_true (by omega)).symm
 ·rw[decide_eq_false e];exact(decide_eq_false (by omega)).symm
def geC (Ls:List (List QfSy.Loc))(a b c:Nat):List (Nat×Blk):=[(1003,plB [.lo a Ls.length] 35),(a,⟨.vals (.list .loc) Ls,27,1,true,true⟩),(b,locB (List.replicate Ls.length z0l)),(c,plB [.lo b Ls.length] 27)]
theorem ge_0 (n d:Nat)(q0:Pow)(hG:GeH n d [q0]):PureC Tryd.prog [off1] 4 [.int .i64 (n:Int),.int .i64 (d:Int)] (.tup [slV .gen (geL (geX n d [q0])),.int .i64 (geE (geX n d [q0]))]):=by
 have z1:decide ((n:Int)<1)=false:=decide_eq_false (by have:=hG.n1;omega)
 have z2:decide ((n:Int)>8)=false:=decide_eq_false (by have:=hG.n1;omega)
 have z3:decide ((d:Int)<1)=false:=decide_eq_false (by have:=hG.d1;omega)
 have z4:decide ((d:Int)>10000)=false:=decide_eq_false (by have:=hG.d1;omega)
 have y0:decide ((0:Int)<↑([q0].length-Int.toNat (1:Int)))=false:=rfl
 have y9:Option.isNone (gnM (↑n:Int) (↑d:Int) (lsQ n d [q0]) (lsQ n d [q0]).length (0:Nat) (List.replicate (lsQ n d [q0]).length z0l,none)).snd=false:=hG.ne
 have hc:=gnC_0 hG (by simp)
 have rr:=fun(tp:List Bool)(ms:List Prop)h hm=>pure_run evOk (callF_ok evOk (orcC_ok (g:=12) (l:=geC (lsQ n d [q0]) 1002 1005 1006) (orcFnM_ok (goGe_ok (n:=n) (d:=d) (Ls:=(lsQ n d [q0]))) (orcOf_ok (entsGe_ok hG)))) 8) Tryd.func4 (A:=[.int .i64 (n:Int),.int .i64 (d:Int)]) rfl none_ann rfl rfl evNg (tabs:=[off1]) (R:=.tup [slV .gen (geL (geX n d [q0])),.int .i64 (geE (geX n d [q0]))]) (tp:=tp) (ms:=ms) h hm
 refine(let u1:List Prop:=(let v1:=lsQ n d [q0];let v2:=List.replicate v1.length z0l;[gnC v1 v1.length (0:Nat) v2 none,(0:Int)=↑(0:Nat),v1.length=v2.length,rq ([Loc.mk (0:Int) []]),rq (↑n:Int),rq (↑d:Int),rq (v1.length),rq ([twoL n d]),Dec (Option.isNone (gnM (↑n:Int) (↑d:Int) v1 v1.length (0:Nat) (List.replicate v1.length z0l,none)).snd) false,(1:Nat)=v1.length,(twoL n d).length=(twoL n d).length∧(fun i=>((twoL n d).getD i z0l).rvs)=fun i=>Rty.rvs Rty.loc ((twoL n d).getD i Rty.loc.zero),(0:Int)=z0l.prime,z0l.list.length=0,(1:Nat)=v1.length,Dec (decide ((0:Int)<↑([q0].length-Int.toNat (1:Int)))) false,(0:Int)≤1∧(1:Int)≤(↑[q0].length:Int),w6.wrap ((2:Int)*↑d)=2*↑d,(↑n:Int)=↑n∧(↑d:Int)=↑d,Dec (decide ((↑d:Int)>10000)) false,Dec (decide ((↑d:Int)<1)) false,Dec (decide ((↑n:Int)>8)) false,Dec (decide ((↑n:Int)<1)) false]);have t1:allP u1:=⟨?_,?_,?_,?_,?_,?_,?_,?_,y9,?_,?_,?_,?_,?_,y0,?_,?_,?_,z4,z3,z2,z1⟩;oe (decide ((↑(gnL (gnM (↑n:Int) (↑d:Int) (lsQ n d [q0]) (lsQ n d [q0]).length (0:Nat) (List.replicate (lsQ n d [q0]).length z0l,none)).snd).length:Int)>64)) (fun d1=>rr (tp 2222221) (((geL (geX n d [q0])).length=0)::((7:Int)=geE (geX n d [q0]))::ty d1::u1) (by kernel_rfl) ⟨?_,?_,d1,t1⟩)
  (fun d1=>rr (tp 2222222) (let v1:=(gnM (↑n:Int) (↑d:Int) (lsQ n d [q0]) (lsQ n d [q0]).length (0:Nat) (List.replicate (lsQ n d [q0]).length z0l,none));let v2:=gnL v1.snd;(v2.length=(geL (geX n d [q0])).length∧v2.length=(srtG v2).length∧∀(i:Nat),i<v2.length→(fun i=>Rty.gen.rvs ((geL (geX n d [q0])).getD i Rty.gen.zero)) i=Rty.gen.rvs ((srtG v2).getD i Rty.gen.zero))::((0:Int)=geE (geX n d [q0]))::(gnL v1.snd≠[]∧v2.length≤1000∧(∀(g:Rty.gen.car),g∈gnL v1.snd→bG g)∧ascG (srtG v2)=true)::rq (v2.length)::rq v2::ty d1::u1) (by kernel_rfl) ⟨?_,?_,?_,?_,?_,d1,t1⟩))
 all_goals first|(first|(with_reducible rfl)|exact⟨rfl,rfl⟩|exact hc|rfl|(have:=hG.d1;exact w64 (by omega) (by omega))|exact⟨of_decide_eq_true rfl,of_decide_eq_true rfl⟩|exact⟨rfl,rfl,List.mem_map.2 ⟨q0,by simp,rfl⟩⟩|exact⟨rfl,rfl,List.mem_map.2 ⟨q0,by simp,rfl⟩⟩|(have h6:64<(geX n d [q0]).length:=of_decide_eq_true (gt64 (X:=geX n d [q0]) d1);first|(rw[ge_L0 h6];rfl)|exact(ge_E0 h6).symm)|(have h6:¬64<(geX n d [q0]).length:=of_decide_eq_false (gt64 (X:=geX n d [q0]) d1);first|exact(ge_E1 h6).symm|exact ge_ss hG h6|(rw[ge_L1 h6];exact⟨(srt_perm _).length_eq.symm,(srt_perm _).length_eq.symm,fun _ _=>rfl⟩)))
theorem ge_1 (n d:Nat)(q0 q1:Pow)(hG:GeH n d [q0,q1]):PureC Tryd.prog [off1] 4 [.int .i64 (n:Int),.int .i64 (d:Int)] (.tup [slV .gen (geL (geX n d [q0,q1])),.int .i64 (geE (geX n d [q0,q1]))]):=by
 have z1:decide ((n:Int)<1)=false:=decide_eq_false (by have:=hG.n1;omega)
 have z2:decide ((n:Int)>8)=false:=decide_eq_false (by have:=hG.n1;omega)
 have z3:decide ((d:Int)<1)=false:=decide_eq_false (by have:=hG.d1;omega)
 have z4:decide ((d:Int)>10000)=false:=decide_eq_false (by have:=hG.d1;omega)
 have y0:decide ((0:Int)<↑([q0,q1].length-Int.toNat (1:Int)))=true:=rfl
 have y1:decide (w6.wrap ((0:Int)+1)<↑([q0,q1].length-Int.toNat (1:Int)))=false:=rfl
 have y9:Option.isNone (gnM (↑n:Int) (↑d:Int) (lsQ n d [q0,q1]) (lsQ n d [q0,q1]).length (0:Nat) (List.replicate (lsQ n d [q0,q1]).length z0l,none)).snd=false:=hG.ne
 have hc:=gnC_0 hG (by simp)
 have rr:=fun(tp:List Bool)(ms:List Prop)h hm=>pure_run evOk (callF_ok evOk (orcC_ok (g:=12) (l:=geC (lsQ n d [q0,q1]) 1014 1016 1017) (orcFnM_ok (goGe_ok (n:=n) (d:=d) (Ls:=(lsQ n d [q0,q1]))) (orcOf_ok (entsGe_ok hG)))) 8) Tryd.func4 (A:=[.int .i64 (n:Int),.int .i64 (d:Int)]) rfl none_ann rfl rfl evNg (tabs:=[off1]) (R:=.tup [slV .gen (geL (geX n d [q0,q1])),.int .i64 (geE (geX n d [q0,q1]))]) (tp:=tp) (ms:=ms) h hm
 refine(let u1:List Prop:=(let v1:=(lsQ n d [q0,q1]);let v2:=([q0,q1].getD (Int.toNat (0:Int)+Int.toNat (1:Int)) Rty.pow.zero);let v3:=(↑([q0,q1].length-Int.toNat (1:Int)):Int);let v4:=List.replicate v1.length z0l;[gnC v1 v1.length (0:Nat) v4 none,(0:Int)=↑(0:Nat),v1.length=v4.length,rq ([Loc.mk (0:Int) [],Loc.mk (0:Int) []]),rq (↑n:Int),rq (↑d:Int),rq (v1.length),rq ([twoL n d,oddL n d q1.prime.toNat]),Dec (Option.isNone (gnM (↑n:Int) (↑d:Int) v1 v1.length (0:Nat) (List.replicate v1.length z0l,none)).snd) false,(1:Nat)+1=v1.length,(twoL n d).length=(twoL n d).length∧(fun i=>((twoL n d).getD i z0l).rvs)=fun i=>Rty.rvs Rty.loc ((twoL n d).getD i Rty.loc.zero),(oddL n d v2.prime.toNat).length=((fun q=>oddL n d q.prime.toNat) q1).length∧(fun i=>((oddL n d v2.prime.toNat).getD i z0l).rvs)=fun i=>Rty.rvs Rty.loc (((fun q=>oddL n d q.prime.toNat) q1).getD i Rty.loc.zero),(0:Int)=z0l.prime,z0l.list.length=0,(0:Int)=z0l.prime,z0l.list.length=0,(1:Nat)+1=v1.length,Dec (decide (w6.wrap ((0:Int)+1)<v3)) false,(↑n:Int)=↑n∧(↑d:Int)=↑d∧v2.prime∈List.map Pow.prime (List.drop (1:Nat) [q0,q1]),(0:Int)≤0∧(0:Int)<v3,Dec (decide ((0:Int)<v3)) true,(0:Int)≤1∧(1:Int)≤(↑[q0,q1].length:Int),w6.wrap ((2:Int)*↑d)=2*↑d,(↑n:Int)=↑n∧(↑d:Int)=↑d,Dec (decide ((↑d:Int)>10000)) false,Dec (decide ((↑d:Int)<1)) false,Dec (decide ((↑n:Int)>8)) false,Dec (decide ((↑n:Int)<1)) false]);have t1:allP u1:=⟨?_,?_,?_,?_,?_,?_,?_,?_,y9,?_,?_,?_,?_,?_,?_,?_,?_,y1,?_,?_,y0,?_,?_,?_,z4,z3,z2,z1⟩;oe (decide ((↑(gnL (gnM (↑n:Int) (↑d:Int) (lsQ n d [q0,q1]) (lsQ n d [q0,q1]).length (0:Nat) (List.replicate (lsQ n d [q0,q1]).length z0l,none)).snd).length:Int)>64)) (fun d1=>rr (tp 22221221) (((geL (geX n d [q0,q1])).length=0)::((7:Int)=geE (geX n d [q0,q1]))::ty d1::u1) (by kernel_rfl) ⟨?_,?_,d1,t1⟩)
  (fun d1=>rr (tp 22221222) (let v1:=(gnM (↑n:Int) (↑d:Int) (lsQ n d [q0,q1]) (lsQ n d [q0,q1]).length (0:Nat) (List.replicate (lsQ n d [q0,q1]).length z0l,none));let v2:=gnL v1.snd;let v3:=(geX n d [q0,q1]);(v2.length=(geL v3).length∧v2.length=(srtG v2).length∧∀(i:Nat),i<v2.length→(fun i=>Rty.gen.rvs ((geL v3).getD i Rty.gen.zero)) i=Rty.gen.rvs ((srtG v2).getD i Rty.gen.zero))::((0:Int)=geE v3)::(gnL v1.snd≠[]∧v2.length≤1000∧(∀(g:Rty.gen.car),g∈gnL v1.snd→bG g)∧ascG (srtG v2)=true)::rq (v2.length)::rq v2::ty d1::u1) (by kernel_rfl) ⟨?_,?_,?_,?_,?_,d1,t1⟩))
 all_goals first|(first|(with_reducible rfl)|exact⟨rfl,rfl⟩|exact hc|rfl|(have:=hG.d1;exact w64 (by omega) (by omega))|exact⟨of_decide_eq_true rfl,of_decide_eq_true rfl⟩|exact⟨rfl,rfl,List.mem_map.2 ⟨q1,by simp,rfl⟩⟩|exact⟨rfl,rfl,List.mem_map.2 ⟨q1,by simp,rfl⟩⟩|(have h6:64<(geX n d [q0,q1]).length:=of_decide_eq_true (gt64 (X:=geX n d [q0,q1]) d1);first|(rw[ge_L0 h6];rfl)|exact(ge_E0 h6).symm)|(have h6:¬64<(geX n d [q0,q1]).length:=of_decide_eq_false (gt64 (X:=geX n d [q0,q1]) d1);first|exact(ge_E1 h6).symm|exact ge_ss hG h6|(rw[ge_L1 h6];exact⟨(srt_perm _).length_eq.symm,(srt_perm _).length_eq.symm,fun _ _=>rfl⟩)))
theorem ge_2 (n d:Nat)(q0 q1 q2:Pow)(hG:GeH n d [q0,q1,q2]):PureC Tryd.prog [off1] 4 [.int .i64 (n:Int),.int .i64 (d:Int)] (.tup [slV .gen (geL (geX n d [q0,q1,q2])),.int .i64 (geE (geX n d [q0,q1,q2]))]):=by
 have z1:decide ((n:Int)<1)=false:=decide_eq_false (by have:=hG.n1;omega)
 have z2:decide ((n:Int)>8)=false:=decide_eq_false (by have:=hG.n1;omega)
 have z3:decide ((d:Int)<1)=false:=decide_eq_false (by have:=hG.d1;omega)
 have z4:decide ((d:Int)>10000)=false:=decide_eq_false (by have:=hG.d1;omega)
 have y0:decide ((0:Int)<↑([q0,q1,q2].length-Int.toNat (1:Int)))=true:=rfl
 have y1:decide (w6.wrap ((0:Int)+1)<↑([q0,q1,q2].length-Int.toNat (1:Int)))=true:=rfl
 have y2:decide (w6.wrap (w6.wrap ((0:Int)+1)+1)<↑([q0,q1,q2].length-Int.toNat (1:Int)))=false:=rfl
 have y9:Option.isNone (gnM (↑n:Int) (↑d:Int) (lsQ n d [q0,q1,q2]) (lsQ n d [q0,q1,q2]).length (0:Nat) (List.replicate (lsQ n d [q0,q1,q2]).length z0l,none)).snd=false:=hG.ne
 have hc:=gnC_0 hG (by simp)
 have rr:=fun(tp:List Bool)(ms:List Prop)h hm=>pure_run evOk (callF_ok evOk (orcC_ok (g:=12) (l:=geC (lsQ n d [q0,q1,q2]) 1025 1027 1028) (orcFnM_ok (goGe_ok (n:=n) (d:=d) (Ls:=(lsQ n d [q0,q1,q2]))) (orcOf_ok (entsGe_ok hG)))) 8) Tryd.func4 (A:=[.int .i64 (n:Int),.int .i64 (d:Int)]) rfl none_ann rfl rfl evNg (tabs:=[off1]) (R:=.tup [slV .gen (geL (geX n d [q0,q1,q2])),.int .i64 (geE (geX n d [q0,q1,q2]))]) (tp:=tp) (ms:=ms) h hm
 refine(let u1:List Prop:=(let v1:=[q0,q1,q2];let v6:=(0:Int)+1;let v2:=v1.getD ((w6.wrap v6).toNat+Int.toNat (1:Int)) Rty.pow.zero;let v3:=(↑(v1.length-Int.toNat (1:Int)):Int);let v4:=v1.getD (Int.toNat (0:Int)+Int.toNat (1:Int)) Rty.pow.zero;let v5:=lsQ n d v1;let v7:=List.replicate v5.length z0l;[gnC v5 v5.length (0:Nat) v7 none,(0:Int)=↑(0:Nat),v5.length=v7.length,rq ([Loc.mk (0:Int) [],Loc.mk (0:Int) [],Loc.mk (0:Int) []]),rq (↑n:Int),rq (↑d:Int),rq (v5.length),rq ([twoL n d,oddL n d q1.prime.toNat,oddL n d q2.prime.toNat]),Dec (Option.isNone (gnM (↑n:Int) (↑d:Int) v5 v5.length (0:Nat) (List.replicate v5.length z0l,none)).snd) false,(1:Nat)+1+1=v5.length,(twoL n d).length=(twoL n d).length∧(fun i=>((twoL n d).getD i z0l).rvs)=fun i=>Rty.rvs Rty.loc ((twoL n d).getD i Rty.loc.zero),(oddL n d v4.prime.toNat).length=((fun q=>oddL n d q.prime.toNat) q1).length∧(fun i=>((oddL n d v4.prime.toNat).getD i z0l).rvs)=fun i=>Rty.rvs Rty.loc (((fun q=>oddL n d q.prime.toNat) q1).getD i Rty.loc.zero),(oddL n d v2.prime.toNat).length=((fun q=>oddL n d q.prime.toNat) q2).length∧(fun i=>((oddL n d v2.prime.toNat).getD i z0l).rvs)=fun i=>Rty.rvs Rty.loc (((fun q=>oddL n d q.prime.toNat) q2).getD i Rty.loc.zero),(0:Int)=z0l.prime,z0l.list.length=0,(0:Int)=z0l.prime,z0l.list.length=0,(0:Int)=z0l.prime,z0l.list.length=0,(1:Nat)+1+1=v5.length,Dec (decide (w6.wrap (w6.wrap v6+1)<v3)) false,(↑n:Int)=↑n∧(↑d:Int)=↑d∧v2.prime∈List.map Pow.prime (List.drop (1:Nat) v1),(0:Int)≤w6.wrap v6∧w6.wrap v6<v3,Dec (decide (w6.wrap v6<v3)) true,(↑n:Int)=↑n∧(↑d:Int)=↑d∧v4.prime∈List.map Pow.prime (List.drop (1:Nat) v1),(0:Int)≤0∧(0:Int)<v3,Dec (decide ((0:Int)<v3)) true,(0:Int)≤1∧(1:Int)≤↑v1.length,w6.wrap ((2:Int)*↑d)=2*↑d,(↑n:Int)=↑n∧(↑d:Int)=↑d,Dec (decide ((↑d:Int)>10000)) false,Dec (decide ((↑d:Int)<1)) false,Dec (decide ((↑n:Int)>8)) false,Dec (decide ((↑n:Int)<1)) false]);have t1:allP u1:=⟨?_,?_,?_,?_,?_,?_,?_,?_,y9,?_,?_,?_,?_,?_,?_,?_,?_,?_,?_,?_,y2,?_,?_,y1,?_,?_,y0,?_,?_,?_,z4,z3,z2,z1⟩;oe (decide ((↑(gnL (gnM (↑n:Int) (↑d:Int) (lsQ n d [q0,q1,q2]) (lsQ n d [q0,q1,q2]).length (0:Nat) (List.replicate (lsQ n d [q0,q1,q2]).length z0l,none)).snd).length:Int)>64)) (fun d1=>rr (tp 222211221) (((geL (geX n d [q0,q1,q2])).length=0)::((7:Int)=geE (geX n d [q0,q1,q2]))::ty d1::u1) (by kernel_rfl) ⟨?_,?_,d1,t1⟩)
  (fun d1=>rr (tp 222211222) (let v1:=(gnM (↑n:Int) (↑d:Int) (lsQ n d [q0,q1,q2]) (lsQ n d [q0,q1,q2]).length (0:Nat) (List.replicate (lsQ n d [q0,q1,q2]).length z0l,none));let v2:=gnL v1.snd;let v3:=(geX n d [q0,q1,q2]);(v2.length=(geL v3).length∧v2.length=(srtG v2).length∧∀(i:Nat),i<v2.length→(fun i=>Rty.gen.rvs ((geL v3).getD i Rty.gen.zero)) i=Rty.gen.rvs ((srtG v2).getD i Rty.gen.zero))::((0:Int)=geE v3)::(gnL v1.snd≠[]∧v2.length≤1000∧(∀(g:Rty.gen.car),g∈gnL v1.snd→bG g)∧ascG (srtG v2)=true)::rq (v2.length)::rq v2::ty d1::u1) (by kernel_rfl) ⟨?_,?_,?_,?_,?_,d1,t1⟩))
 all_goals first|(first|(with_reducible rfl)|exact⟨rfl,rfl⟩|exact hc|rfl|(have:=hG.d1;exact w64 (by omega) (by omega))|exact⟨of_decide_eq_true rfl,of_decide_eq_true rfl⟩|exact⟨rfl,rfl,List.mem_map.2 ⟨q1,by simp,rfl⟩⟩|exact⟨rfl,rfl,List.mem_map.2 ⟨q2,by simp,rfl⟩⟩|(have h6:64<(geX n d [q0,q1,q2]).length:=of_decide_eq_true (gt64 (X:=geX n d [q0,q1,q2]) d1);first|(rw[ge_L0 h6];rfl)|exact(ge_E0 h6).symm)|(have h6:¬64<(geX n d [q0,q1,q2]).length:=of_decide_eq_false (gt64 (X:=geX n d [q0,q1,q2]) d1);first|exact(ge_E1 h6).symm|exact ge_ss hG h6|(rw[ge_L1 h6];exact⟨(srt_perm _).length_eq.symm,(srt_perm _).length_eq.symm,fun _ _=>rfl⟩)))
noncomputable def ftT (L:List Con)(a b k:AV):List (Nat×AV):=[(1,a),(2,b),(10,(roC L).av),(11,.vint .i64 (L.length:Int)),(12,k)]
noncomputable def ftA (L:List Con)(D e:Int):Ann:=⟨⟨ftT L (.vint .i64 D) (.vint .i64 e) (.int .i64 0),[],1100⟩,none,fun _=>(.exit 0,⟨[(1,.vint .i64 (D-dmS L)),(2,.vint .i64 (e-exS L))],[],1100⟩)⟩
theorem ft_1 {L:List Con}(hL:okL L){k:Nat}(hk:k<L.length){D:Int}(hD:0≤D∧D≤1000):w6.wrap (D-dmN L k-(L.getD k Con.zero).dim)=D-dmN L (k+1):=by
 have hl:=hL.1
 have hd:=dmN_b hL k (by omega)
 have ha:=(hL.at hk).2.1
 show w6.wrap (D-dmN L k-(at_ L k).dim)=D-(dmN L k+(at_ L k).dim)
 rw[w64 (by omega) (by omega)]
 omega
theorem ft_loop (L:List Con)(D e:Int)(hL:okL L)(hD:0≤D∧D≤1000)(he:0≤e∧e≤2147483647):AnnOk Tryd.prog EV.ng (Nat.max 3 Tryd.f18.ntmps) (bodyAt Tryd.f18 [0,1,0,1]) (ftA L D e):=by
 refine ann_of evOk (callF_ok evOk (noOrc_ok _ _) 8) none_ann (by kernel_rfl) (by kernel_rfl) (fun i:Nat=>(fun(k:Nat)=>(⟨ftT L (.vint .i64 (D-dmN L k)) (.vint .i64 (e-exN L k)) (.vint .i64 (k:Int)),[],1100⟩:St)) i) (fun i:Nat=>(fun(k:Nat)=>(L.length-k:Nat)) i) (fun(d:Bool)(i:Nat)=>(fun(k:Nat)=>(k≤L.length:Prop)) i) ?_ ?_
 ·intro d hd
  exact⟨(0),[D=D-dmN L (0:Nat),e=e-exN L (0:Nat),lq L,rq (↑L.length:Int),(0:Int)=↑(0:Nat)],by kernel_rfl,(by refine⟨?_,?_,?_,?_,(?_:(0:Int)=↑(0:Nat))⟩<;>(first|(with_reducible rfl)|exact⟨rfl,rfl⟩|rfl|(show D=D-0;omega)|(show e=e-0;omega))),(by exact Nat.zero_le _)⟩
 ·rintro d hd k hI
  cases d
  ·exact Bool.noConfusion (show false=true from hd)
  ·have ht:k≤L.length:=hI
   have hl:=hL.1
   have ek:w6.wrap ((k:Int)+1)=((k+1:Nat):Int):=by rw[w64 (by omega) (by omega)];omega
   refine oe (decide ((↑k:Int)<↑L.length)) (fun d1=>lfI [true] (k+1) (let v1:=L.getD k Con.zero;[w6.wrap (D-dmN L k-v1.dim)=D-dmN L (k+1),w6.wrap (e-exN L k-w6.wrap (v1.dim*v1.exp))=e-exN L (k+1),lq L,rq (↑L.length:Int),w6.wrap ((↑k:Int)+1)=↑(k+1),(0:Int)≤↑k∧(↑k:Int)<↑L.length,ty d1]) (by kernel_rfl) ⟨?_,?_,?_,?_,?_,?_,d1⟩ ?_ ?_)
    (fun d1=>lfR [false] [D-dmN L k=D-dmS L,e-exN L k=e-exS L,ty d1] (by kernel_rfl) ⟨?_,?_,d1⟩ rfl)
   all_goals first|(refine MuG.mk ?_;(have hk:=of_decide_eq_true d1;show L.length-(k+1)<L.length-k;omega))|(refine InG.mk ?_;(have hk:=of_decide_eq_true d1;show k+1≤L.length;omega))|(refine CtG.mk ?_;(simp_all))|(first|(with_reducible rfl)|exact⟨rfl,rfl⟩|exact ek|(have hk:k<L.length:=(by have:=of_decide_eq_true d1;omega);first|omega|exact ft_1 hL hk hD|exact sh_2 hL hk he)|(have hk:k=L.length:=(by have:=of_decide_eq_false d1;omega);subst hk;rfl))
theorem fits_pure (p:Int)(L:List Con)(D e:Int)(hL:okL L)(hD:0≤D∧D≤1000)(he:0≤e∧e≤2147483647)(h1:dmS L=D)(h2:exS L=e):PureC Tryd.prog [] 18 [.agg [.int .i64 p,roC L],.int .i64 D,.int .i64 e] (.bool true):=by
 have z1:(D-dmS L==0)=true:=by rw[h1,Int.sub_self];rfl
 have z2:(e-exS L==0)=true:=by rw[h2,Int.sub_self];rfl
 have rr:=fun(tp:List Bool)(ms:List Prop)h hm=>pure_run evOk (callF_ok evOk (noOrc_ok _ _) 8) Tryd.func18 (A:=[.agg [.int .i64 p,roC L],.int .i64 D,.int .i64 e]) (N:=Nat.max 3 Tryd.f18.ntmps) rfl (one_ann (ft_loop L D e hL hD he)) rfl rfl evNg (tabs:=[]) (R:=.bool true) (tp:=tp) (ms:=ms) h hm
 refine rr [true] [(e-exS L==0)=true,Dec (D-dmS L==0) true,D=D,e=e,lq L,rq (↑L.length:Int)] (by kernel_rfl) ⟨?_,z1,?_,?_,?_,(?_:(↑L.length:Int)=↑L.length)⟩
 all_goals first|(first|(with_reducible rfl)|exact⟨rfl,rfl⟩|exact z2|exact z1|exact z2.symm|rfl)
end Go.Proofs.YtmeljalphfcieaaDoor.S
namespace Go.QfSy
open Go.RowKit
def wideAt (ro:Option Nat):Fence:={Fence.wide with round:=ro}
def lift (ds:List Deferred)(a:Act):Act:={a with defers:=a.defers++ds}
theorem lift_eval (ds:List Deferred)(a:Act):(lift ds a).eval=a.eval:=by
 funext x
 cases x<;>rfl
theorem lift_put (ds:List Deferred)(a:Act)(d:Option Tmp)(v:Value):(lift ds a).put d v=lift ds (a.put d v):=by
 cases d<;>rfl
theorem calls_at {P:Program}{ro:Option Nat}{n:Nat}{f:FuncId}{args:Array Value}{w:World}{R:Ending→World→Prop}(h:Calls P f args w R):CallsIn (wideAt ro) n P f args w R:=
 (callsIn_wide (n:=n)).2 h
def noDefer (ops:Array Oper):Bool:=ops.toList.all fun o=>match o.op with
 |.defer _=>false
 |_=>true
def Calm (Q:Exit→Act→World→Prop):Prop:=(∀c a w,¬Q (.panic c) a w)∧∀a w,¬Q .outgrown a w
theorem oper_in {P:Program}{ro:Option Nat}{n:Nat}{o:Oper}{a:Act}{w:World}{K K':Act→World→Prop}{Q Q':Exit→Act→World→Prop}{ds:List Deferred}(hd:∀c,o.op≠.defer c)(hQ:Calm Q)
 (hK:∀a w,K a w→K' (lift ds a) w)(h:o.wp P a w K Q):o.wpIn (wideAt ro) n P (lift ds a) w K' Q':=by
 unfold Oper.wp at h
 unfold Oper.wpIn
 refine⟨fun f _=>trivial,?_⟩
 rw[Oper.semAt_eq _ _ _ hd,lift_eval]
 generalize (execOp a.eval o).run P w=r at h
 cases r with
 |ok nx w'=>
  cases nx with
  |value v=>rw[Oper.uponIn_value,lift_put];exact hK _ _ h
  |skip=>rw[Oper.uponIn_skip,lift_put];exact hK _ _ h
  |defer d=>
   rw[Oper.uponIn_defer]
   show K' ((lift ds {a with defers:=d::a.defers}).put o.dst undef) w'
   rw[lift_put];exact hK _ _ h
  |enter f args=>
   rw[Oper.uponIn_enter]
   refine⟨fun h0=>by simp[wideAt,Fence.wide]at h0,calls_at (Calls.mono h ?_)⟩
   intro e w'' hx
   cases e with
   |returned v=>simp only at hx⊢;rw[lift_put];exact hK _ _ hx
   |panicked c=>exact(hQ.1 _ _ _ hx).elim
   |outgrown=>obtain⟨a0,w0,h0⟩:=hx;exact(hQ.2 _ _ h0).elim
  |row r args=>
   rw[Oper.uponIn_row]
   refine⟨fun h0=>by simp[wideAt,Fence.wide]at h0,fun c cs _=>?_⟩
   obtain⟨v,w'',r1,r2⟩:=h c cs
   exact⟨v,w'',by show K' ((lift ds a).put o.dst v) w'';rw[lift_put];exact hK _ _ r1,stepsIn_wide.2 r2⟩
  |round l f tmps assign body=>exact h.elim
  |_=>exact h.elim
 |halt x w'=>
  cases x with
  |panic v=>exact(hQ.1 _ _ _ h).elim
  |_=>exact h.elim
theorem ops_in {P:Program}{ro:Option Nat}{n:Nat}{ops:Array Oper}(hd:noDefer ops=true){Q Q':Exit→Act→World→Prop}(hQ:Calm Q){ds:List Deferred}(hN:∀a w,Q .normal a w→Q' .normal (lift ds a) w):
 ∀(is:List Nat)(a:Act)(w:World),wpOps P ops Q is a w→wpOpsIn (wideAt ro) n P ops Q' is (lift ds a) w
 |[],a,w,h=>hN a w h
 |i::is,a,w,h=>by
  simp only[wpOps]at h
  simp only[wpOpsIn]
  cases ho:ops[i]? with
  |none=>rw[ho]at h;exact ops_in hd hQ hN is a w h
  |some o=>
   rw[ho]at h
   simp only at h⊢
   have hod:∀c,o.op≠.defer c:=fun c e=>by
    have:=List.all_eq_true.1 hd o (by simpa using Array.mem_of_getElem? ho)
    rw[e]at this
    cases this
   have hy:yielded ops (lift ds a).tmps=yielded ops a.tmps:=rfl
   rw[hy]
   split
   ·rename_i hw
    rw[if_pos hw]at h
    rcases h with h|⟨_,a0,w0,h0⟩
    ·exact oper_in hod hQ (fun a' w' h'=>ops_in hd hQ hN is a' w' h') h
    ·exact(hQ.2 _ _ h0).elim
   ·rename_i hw
    rw[if_neg hw]at h
    exact⟨fun f _=>trivial,by rw[lift_put];exact ops_in hd hQ hN is _ w h⟩
def straight:Code→Bool
 |.skip=>true
 |.label _=>true
 |.region _ ops _=>noDefer ops
 |.seq a b=>straight a&&straight b
 |.cond _ a b=>straight a&&straight b
 |.block _ b=>straight b
 |.exit _=>true
 |.ret=>true
 |_=>false
section
variable {P:Program}{E:Env}(hE:EnvOk P E){call:CallF}(hc:CallOk P E.ng call){lo:List Nat→Option Ann}{N:Nat}
include hE hc
theorem evCode_in {ro:Option Nat}{m:Nat}{ds:List Deferred}:∀(n:Nat)(p:List Nat)(c:Code)(T T':Tr AV)(H H':Hs)(e:AEx),straight c=true→evCode E call lo N n p c T H=some (e,T',H')→(∀q∈H'.ms,q)→∀(γ:Gm)(a:Act)(w:World),FRel γ E.ng T N a→HRel γ H.m.get H.nx w→
 c.wpIn (wideAt ro) m P (fun x a' w'=>x=AEx.den e∧∃γ' a0,a'=lift ds a0∧FRel γ' E.ng T' N a0∧RunR γ H w γ' H' w') (lift ds a) w:=by
 intro n
 induction n with
 |zero=>intro p c T T' H H' e _ h;simp[evCode]at h
 |succ n ih=>
  intro p c T T' H H' e hs h hm γ a w hf hr
  cases c with
  |skip=>
   simp only[evCode,Option.some.injEq,Prod.mk.injEq]at h
   obtain⟨rfl,rfl,rfl⟩:=h
   exact wpIn_skip ⟨rfl,γ,a,rfl,hf,RunR.refl hr⟩
  |label l=>
   simp only[evCode,Option.some.injEq,Prod.mk.injEq]at h
   obtain⟨rfl,rfl,rfl⟩:=h
   exact wpIn_label ⟨rfl,γ,a,rfl,hf,RunR.refl hr⟩
  |exit id=>
   simp only[evCode,Option.some.injEq,Prod.mk.injEq]at h
   obtain⟨rfl,rfl,rfl⟩:=h
   exact wpIn_exit ⟨rfl,γ,a,rfl,hf,RunR.refl hr⟩
  |ret=>
   simp only[evCode,Option.some.injEq,Prod.mk.injEq]at h
   obtain⟨rfl,rfl,rfl⟩:=h
   exact wpIn_ret ⟨rfl,γ,a,rfl,hf,RunR.refl hr⟩
  |region id ops draw=>
   have hQ:Calm (fun(x:Exit)(a':Act)(w':World)=>x=Exit.normal∧∃γ',FRel γ' E.ng T' N a'∧RunR γ H w γ' H' w'):=⟨fun _ _ _ h=>(by cases h.1),fun _ _ h=>(by cases h.1)⟩
   cases draw with
   |false=>
    simp only[evCode]at h
    split at h
    ·cases h
    ·rename_i T1 H1 h1
     cases h
     refine wpIn_region (ops_in hs hQ ?_ _ a w (evOps_ok hE hc ops.toList (List.range ops.size) (range_all ops) _ _ _ _ h1 hm γ a w hf hr (fun a' w' γ' h1 h2=>⟨rfl,γ',h1,h2⟩)))
     rintro a' w' ⟨_,γ',h1,h2⟩
     exact⟨rfl,γ',a',rfl,h1,h2⟩
   |true=>
    simp only[evCode]at h
    split at h
    ·cases h
    ·rename_i T1 H1 h1
     cases h
     refine wpIn_region_draw (fun t=>ops_in hs hQ ?_ _ a _ (evDraw_sch hE hc h1 hm hf hr (fun a' w' γ' h1 h2=>⟨rfl,γ',h1,h2⟩) t))
     rintro a' w' ⟨_,γ',h1,h2⟩
     exact⟨rfl,γ',a',rfl,h1,h2⟩
  |seq x y=>
   obtain⟨s1,s2⟩:=and_split hs
   simp only[evCode]at h
   split at h
   ·rename_i T1 H1 h1
    refine wpIn_seq (wpIn_mono (ih (0::p) x T T1 H H1 .normal s1 h1 (fun q hq=>hm q (evCode_ms hc _ _ _ _ _ _ _ _ h q hq)) γ a w hf hr) ?_)
    rintro x' a' w' ⟨rfl,γ',a0,rfl,hf',hrun⟩
    refine wpIn_mono (ih (1::p) y T1 T' H1 H' e s2 h hm γ' a0 w' hf' hrun.stp.rel) ?_
    rintro x'' a'' w'' ⟨rfl,γ'',a1,rfl,hf'',hrun'⟩
    exact⟨rfl,γ'',a1,rfl,hf'',hrun.trans hrun'⟩
   ·rename_i hne
    refine wpIn_seq (wpIn_mono (ih (0::p) x T T' H H' e s1 h hm γ a w hf hr) ?_)
    rintro x' a' w' ⟨rfl,hx⟩
    cases e with
    |normal=>exact(hne T' H' h).elim
    |exit id=>exact⟨rfl,hx⟩
    |ret=>exact⟨rfl,hx⟩
  |cond x y z=>
   obtain⟨s1,s2⟩:=and_split hs
   have hev:(lift ds a).eval x=a.eval x:=by rw[lift_eval]
   simp only[evCode]at h
   split at h
   ·rename_i hx
    have hv:=evo_ok hf _ _ hx
    generalize hX:a.eval x=X at hv
    cases hv
    exact wpIn_cond_true (by rw[hev];exact hX) (ih (0::p) y T T' H H' e s1 h hm γ a w hf hr)
   ·rename_i hx
    have hv:=evo_ok hf _ _ hx
    generalize hX:a.eval x=X at hv
    cases hv
    exact wpIn_cond_false (by rw[hev];exact hX) (ih (1::p) z T T' H H' e s2 h hm γ a w hf hr)
   ·rename_i u hx
    have hv:=evo_ok hf _ _ hx
    generalize hX:a.eval x=X at hv
    cases hv
    have ak:=ask_ms H u
    have am:=ask_m H u
    have an:=ask_nx H u
    generalize H.ask u=r at h ak am an
    obtain⟨d,H1⟩:=r
    have hr1:HRel γ H1.m.get H1.nx w:=by rw[show H1.m=_ from am,show H1.nx=_ from an];exact hr
    have back:∀{γ':Gm}{w':World},RunR γ H1 w γ' H' w'→RunR γ H w γ' H' w':=by
     intro γ' w' hR
     refine⟨?_,?_,fun b hb=>hR.keep b (by rw[show H1.nx=_ from an];exact hb)⟩
     ·have:=hR.stp;rw[show H1.m=_ from am]at this;exact this
     ·have:=hR.nx;rw[show H1.nx=_ from an]at this;exact this
    have hu:u=d:=hm (Dec u d) (by
     cases d with
     |true=>exact evCode_ms hc _ _ _ _ _ _ _ _ h _ (by rw[show H1.ms=_ from ak];simp)
     |false=>exact evCode_ms hc _ _ _ _ _ _ _ _ h _ (by rw[show H1.ms=_ from ak];simp))
    subst hu
    cases u with
    |true=>
     refine wpIn_cond_true (by rw[hev];exact hX) (wpIn_mono (ih (0::p) y T T' H1 H' e s1 h hm γ a w hf hr1) ?_)
     rintro x' a' w' ⟨rfl,γ',a0,rfl,g1,g2⟩
     exact⟨rfl,γ',a0,rfl,g1,back g2⟩
    |false=>
     refine wpIn_cond_false (by rw[hev];exact hX) (wpIn_mono (ih (1::p) z T T' H1 H' e s2 h hm γ a w hf hr1) ?_)
     rintro x' a' w' ⟨rfl,γ',a0,rfl,g1,g2⟩
     exact⟨rfl,γ',a0,rfl,g1,back g2⟩
   ·cases h
  |block id b=>
   simp only[evCode]at h
   split at h
   ·rename_i j T1 H1 h1
    cases hj:Nat.beq j id with
    |true=>
     simp only[hj,cond_true,Option.some.injEq,Prod.mk.injEq]at h
     obtain⟨rfl,rfl,rfl⟩:=h
     refine wpIn_block (wpIn_mono (ih (0::p) b T T1 H H1 (.exit j) hs h1 hm γ a w hf hr) ?_)
     rintro x' a' w' ⟨rfl,hx⟩
     show(if j=id then _ else _)
     rw[if_pos (beq_eq hj)]
     exact⟨rfl,hx⟩
    |false=>
     simp only[hj,cond_false,Option.some.injEq,Prod.mk.injEq]at h
     obtain⟨rfl,rfl,rfl⟩:=h
     refine wpIn_block (wpIn_mono (ih (0::p) b T T1 H H1 (.exit j) hs h1 hm γ a w hf hr) ?_)
     rintro x' a' w' ⟨rfl,hx⟩
     show(if j=id then _ else _)
     rw[if_neg (beq_ne hj)]
     exact⟨rfl,hx⟩
   ·rename_i hne
    refine wpIn_block (wpIn_mono (ih (0::p) b T T' H H' e hs h hm γ a w hf hr) ?_)
    rintro x' a' w' ⟨rfl,hx⟩
    cases e with
    |normal=>exact⟨rfl,hx⟩
    |exit j=>exact(hne j T' H' h).elim
    |ret=>exact⟨rfl,hx⟩
  |loop b=>simp[straight]at hs
  |scope b=>simp[straight]at hs
  |rangeFunc f ps x y=>simp[straight]at hs
  |goto l=>simp[straight]at hs
  |refuse s=>simp[straight]at hs
end
def NoImg (γ:Gm)(f:Hf)(l:Nat):Prop:=∀b k x,f b=some k→γ b=some (l,x)→False
theorem NoImg.own {γ:Gm}{f:Hf}{l:Nat}(h:NoImg γ f l):¬OwnImg γ f l:=by
 rintro⟨b,k,x,h1,_,h3⟩
 exact h b k x h1 h3
theorem noimg_obj {γ:Gm}{f:Hf}{nx:Nat}{w:World}(hr:HRel γ f nx w){l:Nat}{o:Obj}(hl:w.heap[l]? =some o)(ho:o.isCells=false):NoImg γ f l:=by
 intro b k x h1 h3
 obtain⟨B,x',cs,ex,g1,g2,_⟩:=hr.blk b k h1
 rw[h3]at g1
 cases g1
 rw[hl]at g2
 cases g2
 cases ho
theorem noimg_ge {γ:Gm}{f:Hf}{nx:Nat}{w:World}(hr:HRel γ f nx w){l:Nat}(hl:w.heap.size≤l):NoImg γ f l:=by
 intro b k x h1 h3
 have:=hr.lt h1 h3
 omega
theorem fz_ge {γ:Gm}{f:Hf}{nx:Nat}{w:World}(hr:HRel γ f nx w){l:Nat}(hl:w.heap.size≤l):γ.fz l=none:=by
 cases h:γ.fz l with
 |none=>rfl
 |some x=>
  have:=(Array.getElem?_eq_some_iff.1 (hr.fzr l x h)).1
  omega
theorem noimg_step {γ γ':Gm}{f f':Hf}{nx nx':Nat}{w w':World}(hr:HRel γ f nx w)(h:Stp γ f w γ' f' nx' w'){l:Nat}(hlt:l<w.heap.size)(hn:NoImg γ f l)(hz:γ.fz l=none):NoImg γ' f' l∧γ'.fz l=none:=by
 constructor
 ·intro b k x h1 h3
  cases ho:k.own with
  |true=>exact hn.own (h.own l hlt ⟨b,k,x,h1,ho,h3⟩)
  |false=>
   have h4:=h.ro b k h1 ho
   obtain⟨B,x',_,_,g1,_⟩:=hr.blk b k h4
   have:=h.le.nm b _ g1
   rw[show γ'.nm b=some (l,x)from h3]at this
   cases this
   exact hn b k _ h4 g1
 ·cases hh:γ'.fz l with
  |none=>rfl
  |some x=>
   rcases h.fzn l x hh with h1|h1|h1
   ·rw[hz]at h1;cases h1
   ·omega
   ·exact(hn.own h1).elim
theorem put_heap {W:World}{l k:Nat}{o:Obj}(h:k≠l):(W.putObj l o).heap[k]? =W.heap[k]? :=World.putObj_heap_other h
theorem put_rel {γ:Gm}{f:Hf}{nx:Nat}{W:World}(hr:HRel γ f nx W){l:Nat}(hn:NoImg γ f l)(hz:γ.fz l=none)(o:Obj):HRel γ f nx (W.putObj l o):=by
 refine⟨fun b k hb=>?_,hr.inj,hr.fresh,fun B x hx=>?_,hr.fzo⟩
 ·obtain⟨B,x,cs,ex,g1,g2,g3⟩:=hr.blk b k hb
  refine⟨B,x,cs,ex,g1,?_,g3⟩
  rw[put_heap (fun e=>hn b k x hb (by rw[←e];exact g1))]
  exact g2
 ·rw[put_heap (fun e=>by rw[e,hz]at hx;cases hx)]
  exact hr.fzr B x hx
theorem put_stp {γ γ':Gm}{f f':Hf}{nx nx':Nat}{W W':World}(hr:HRel γ f nx W){l:Nat}(hlt:l<W.heap.size)(hn:NoImg γ f l)(hz:γ.fz l=none)(h:Stp γ f W γ' f' nx' W')(o:Obj):Stp γ f (W.putObj l o) γ' f' nx' (W'.putObj l o):=by
 obtain⟨n1,z1⟩:=noimg_step hr h hlt hn hz
 refine⟨h.le,put_rel h.rel n1 z1 o,by simpa using h.size,h.os,h.tape,h.output,fun k hk hno=>?_,fun k hk=>?_,h.ro,h.dom,fun B x hx=>by simpa using h.fzn B x hx,h.drawn⟩
 ·by_cases e:k=l
  ·subst e
   rw[World.putObj_heap_same hlt,World.putObj_heap_same (Nat.lt_of_lt_of_le hlt h.size)]
  ·rw[put_heap e,put_heap e]
   exact h.frame k (by simpa using hk) hno
 ·exact h.own k (by simpa using hk)
theorem put_end {γ γ':Gm}{f f':Hf}{nx':Nat}{w W':World}{l:Nat}(h:Stp γ f w γ' f' nx' W')(hn:NoImg γ' f' l)(hz:γ'.fz l=none)(hl:OwnImg γ f l∨w.heap.size≤l)(o:Obj):Stp γ f w γ' f' nx' (W'.putObj l o):=by
 refine⟨h.le,put_rel h.rel hn hz o,by simpa using h.size,h.os,h.tape,h.output,fun k hk hno=>?_,h.own,h.ro,h.dom,h.fzn,h.drawn⟩
 have e:k≠l:=by
  rintro rfl
  rcases hl with hl|hl
  ·exact hno hl
  ·omega
 rw[put_heap e]
 exact h.frame k hk hno
theorem put_back {W:World}{l:Nat}{o:Obj}(o':Obj)(h:W.heap[l]? =some o):(W.putObj l o').putObj l o=W:=by
 have e:(W.heap.setIfInBounds l o').setIfInBounds l o=W.heap:=by
  apply Array.ext_getElem?
  intro i
  by_cases hi:i=l
  ·subst hi
   rw[Array.getElem?_setIfInBounds_self_of_lt (by rw[Array.size_setIfInBounds];exact(Array.getElem?_eq_some_iff.1 h).1),h]
  ·rw[Array.getElem?_setIfInBounds_ne (fun e=>hi e.symm),Array.getElem?_setIfInBounds_ne (fun e=>hi e.symm)]
 unfold World.putObj
 simp only[e]
structure Ext (A B:World):Prop where
 os:B.os=A.os
 tape:B.tape=A.tape
 output:B.output=A.output
 drawn:A.drawn≤B.drawn
 size:A.heap.size≤B.heap.size
 heap:∀k,k<A.heap.size→B.heap[k]? =A.heap[k]?
theorem ext_rel {γ:Gm}{f:Hf}{nx:Nat}{A B:World}(hr:HRel γ f nx A)(h:Ext A B):HRel γ f nx B:=by
 refine⟨fun b k hb=>?_,hr.inj,hr.fresh,fun B' x hx=>?_,hr.fzo⟩
 ·obtain⟨B',x,cs,ex,g1,g2,g3⟩:=hr.blk b k hb
  exact⟨B',x,cs,ex,g1,by rw[h.heap _ (Array.getElem?_eq_some_iff.1 g2).1];exact g2,g3⟩
 ·have:=hr.fzr B' x hx
  rw[h.heap _ (Array.getElem?_eq_some_iff.1 this).1];exact this
theorem ext_stp {γ:Gm}{f:Hf}{nx:Nat}{A B:World}(hr:HRel γ f nx A)(h:Ext A B):Stp γ f A γ f nx B:=
 ⟨Gm.le_refl γ,ext_rel hr h,h.size,h.os,h.tape,h.output,fun k hk _=>h.heap k hk,fun k _ ho=>ho,fun b k hb _=>hb,fun b k hb=>.inl ⟨k,hb⟩,fun B x hx=>.inl hx,h.drawn⟩
theorem ext_alloc (w:World)(o:Obj):Ext w (w.alloc o):=⟨rfl,rfl,rfl,Nat.le_refl _,by simp,fun k hk=>Below.heap_alloc w o k hk⟩
theorem Ext.trans {A B C:World}(h:Ext A B)(k:Ext B C):Ext A C:=⟨k.os.trans h.os,k.tape.trans h.tape,k.output.trans h.output,Nat.le_trans h.drawn k.drawn,Nat.le_trans h.size k.size,fun i hi=>(k.heap i (Nat.lt_of_lt_of_le hi h.size)).trans (h.heap i hi)⟩
theorem put_self {W:World}{l:Nat}{o:Obj}(h:W.heap[l]? =some o):W.putObj l o=W:=by
 have:=put_back o h
 have e:(W.putObj l o).putObj l o=W.putObj l o:=by unfold World.putObj;simp
 rw[e]at this
 exact this
theorem put_put (W:World)(l:Nat)(o o':Obj):(W.putObj l o).putObj l o'=W.putObj l o':=by unfold World.putObj;simp
def Keeps3 (L:List Nat)(A B:World):Prop:=A.heap.size≤B.heap.size∧∀k∈L,B.heap[k]? =A.heap[k]?
def ptr0 (B:Nat):Value:=.pointer (some ⟨B,0,none⟩)
theorem box_of {γ:Gm}{f:Hf}{nx:Nat}{w:World}(hr:HRel γ f nx w){b el:Nat}{v:AV}(hb:f b=some ⟨.plain [v],el,0,false,true⟩):∃B V,γ b=some (B,0)∧w.heap[B]? =some (.cells #[V] el (0,0))∧VRel γ v V∧B<w.heap.size:=by
 obtain⟨B,x,cs,ex,g1,g2,g3,g4,g5⟩:=hr.blk b _ hb
 have hx:=g5 rfl
 subst hx
 have hex:ex=[]:=List.eq_nil_of_length_eq_zero (by simpa using g4)
 subst hex
 have g3:VsRel γ [v] cs:=g3
 cases g3 with
 |cons h t=>
  cases t
  exact⟨B,_,g1,by simpa using g2,h,(Array.getElem?_eq_some_iff.1 g2).1⟩
def mark (D:Nat):Deferred:={target:=.collected D,args:=#[]}
theorem run_ms {e' e:AEx}{T':Tr AV}{H':Hs}{S:St}{b:Nat}{rn:List (Nat×Nat)}{ms:List Prop}(h1:outS (some (e',T',H')) e S b rn=some ms)(h2:allP ms):∀q∈H'.ms,q:=by
 intro q hq
 rw[allP_iff]at h2
 unfold outS at h1
 simp only at h1
 replace h1:=(bif_some h1).2
 split at h1
 ·cases h1
 ·split at h1
  ·cases h1
  ·cases h1
   exact h2 q (List.mem_append_right _ hq)
def preC:List Code→Code→Code
 |[],D=>D
 |c::l,D=>.seq c (preC l D)
section
variable {P:Program}{E:Env}(hE:EnvOk P E){call:CallF}(hc:CallOk P E.ng call){lo:List Nat→Option Ann}{N:Nat}
include hE hc
theorem pre_in {m:Nat}{D X R:Code}{Q:Exit→Act→World→Prop}:∀(L:List Code)(n:Nat)(p:List Nat)(T T':Tr AV)(H H':Hs),straight (preC L D)=true→evCode E call lo N n p (preC L D) T H=some (.normal,T',H')→(∀q∈H'.ms,q)→∀(γ:Gm)(a:Act)(w:World),FRel γ E.ng T N a→HRel γ H.m.get H.nx w→
 (∀γ' a0 w',FRel γ' E.ng T' N a0→RunR γ H w γ' H' w'→X.wpIn Fence.wide m P (Exit.then (R.wpIn Fence.wide m P Q) Q) a0 w')→
 (preC L (.seq (.seq D X) R)).wpIn Fence.wide m P Q a w
 |[],n,p,T,T',H,H',hs,h,hm,γ,a,w,hf,hr,hk=>by
  have h1:=evCode_in hE hc (ro:=none) (m:=m) (ds:=[]) n p D T T' H H' .normal hs h hm γ a w hf hr
  have hl0:∀b:Act,lift [] b=b:=fun b=>by unfold lift;rw[List.append_nil]
  rw[hl0]at h1
  refine wpIn_seq (wpIn_seq (wpIn_mono h1 ?_))
  rintro x a' w' ⟨rfl,γ',a0,rfl,g1,g2⟩
  rw[hl0]
  exact hk γ' a0 w' g1 g2
 |c::l,n,p,T,T',H,H',hs,h,hm,γ,a,w,hf,hr,hk=>by
  cases n with
  |zero=>simp[evCode]at h
  |succ n=>
  obtain⟨s1,s2⟩:=and_split (show(straight c&&straight (preC l D))=true from hs)
  simp only[preC,evCode]at h
  split at h
  ·rename_i T1 H1 h1
   have hm1:=fun q hq=>hm q (evCode_ms hc _ _ _ _ _ _ _ _ h q hq)
   have e1:=evCode_in hE hc (ro:=none) (m:=m) (ds:=[]) n (0::p) c T T1 H H1 .normal s1 h1 hm1 γ a w hf hr
   have hl0:∀b:Act,lift [] b=b:=fun b=>by unfold lift;rw[List.append_nil]
   rw[hl0]at e1
   refine wpIn_seq (wpIn_mono e1 ?_)
   rintro x a' w' ⟨rfl,γ',a0,rfl,g1,g2⟩
   rw[hl0]
   exact pre_in l n (1::p) T1 T' H1 H' s2 h hm γ' a0 w' g1 g2.stp.rel fun γ'' a1 w'' g3 g4=>hk γ'' a1 w'' g3 (g2.trans g4)
  ·rename_i hne
   exact(hne T' H' h).elim
end
noncomputable def resF (E:Env)(fn:Func)(T:Tr AV)(H:Hs):Option (AV×Hs):=match resA E.ti T H.m fn.results.toList with
 |none=>none
 |some vs=>some (tupA vs,H)
noncomputable def postF (E:Env)(call:CallF)(N:Nat)(fn:Func)(R:Code)(T0:List (Nat×AV))(fin:AEx×List (Nat×Blk))(nx:Nat)(q:List Bool):Option (AV×Hs):=match fin.1 with
 |.exit _=>none
 |.ret=>resF E fn (trOf T0) ⟨trOf fin.2,nx,[],[]⟩
 |.normal=>match evCode E call noLo N 999 [2] R (trOf T0) ⟨trOf fin.2,nx,q,[]⟩with
  |none=>none
  |some (.exit _,_,_)=>none
  |some (_,T,H)=>resF E fn T H
theorem pure_of_calls {P:Program}{ng:Nat}{f:Nat}{fn:Func}(hfn:P.funcs[f]? =some fn)(hbd:fn.body.isSome=true){A:List RV}{tabs:List Tb}(hg:tabs.all (fun t=>Nat.blt t.g ng)=true)(hok:okNames (tabList tabs)=true)(hng:Nat.ble ng 1000=true)
 {v:AV}{H':Hs}{R:RV}{m1:List Prop}(hrd:rd H'.m v R=some m1)(hm1:∀q∈m1,q)
 (hb:∀γ w Args,HRel γ (trOf (tabList tabs)).get 1000 w→VsRel γ (RV.avl A) Args→Glob ng γ→Calls P f Args.toArray w fun e w'=>∃V γ',e=.returned V∧VRel γ' v V∧RunR γ ⟨trOf (tabList tabs),1000,[],[]⟩ w γ' H' w'):PureC P tabs f A R:=by
 have hng:=Nat.le_of_ble_eq_true hng
 refine⟨⟨fn,hfn,hbd⟩,fun w F Args hT hF hA=>?_⟩
 have hcalls:=hb (gam0 ng F) w Args (hrel0 hT hF hng hg hok) hA.avl (fun g hg'=>by simp[gam0,hg'])
 refine hcalls.mono ?_
 rintro e w' ⟨V,γ',rfl,hV,hR⟩
 have hbel:BelD w.heap.size w w':=⟨⟨hR.stp.os,hR.stp.tape,hR.stp.output,hR.stp.size,fun k hk=>hR.stp.frame k hk (noOwn0 hok k)⟩,hR.stp.drawn⟩
 let F':Fz:=fun B=>match γ'.fz B with
  |some x=>some x
  |none=>if w.heap.size≤B then w'.heap[B]? else none
 have hle:γ'.fz.le F':=by intro B x hx;simp only[F',hx]
 refine⟨V,F',rfl,fun B x hx=>hle B x (hR.stp.le.fz B x hx),?_,?_,?_,hbel⟩
 ·intro B x hx
  simp only[F']at hx
  split at hx
  ·rename_i y hy;cases hx;exact hR.stp.rel.fzr B x hy
  ·split at hx
   ·exact hx
   ·cases hx
 ·intro B x hx
  simp only[F']at hx
  split at hx
  ·rename_i y hy
   cases hx
   rcases hR.stp.fzn B x hy with h1|h1|h1
   ·exact .inl h1
   ·exact .inr h1
   ·exact(noOwn0 hok B h1).elim
  ·split at hx
   ·rename_i hB;exact .inr hB
   ·cases hx
 ·refine rd_ok hR.stp.rel hle (fun b k B x y hk hown hgb hy=>?_) hrd hm1 hV
  have hz:=hR.stp.rel.fzo b k B x hk hown hgb
  simp only[F',hz]
  rw[if_pos,hy]
  rcases Nat.lt_or_ge B w.heap.size with h1|h1
  ·exact(noOwn0 hok B (hR.stp.own B h1 ⟨b,k,x,hk,hown,hgb⟩)).elim
  ·exact h1
theorem run_e {e' e:AEx}{T':Tr AV}{H':Hs}{S:St}{b:Nat}{rn:List (Nat×Nat)}{ms:List Prop}(h1:outS (some (e',T',H')) e S b rn=some ms):e=e':=by
 unfold outS at h1
 simp only at h1
 have hc:=(bif_some h1).1
 simp only[Bool.and_eq_true]at hc
 exact beqE_ok hc.1.1.1.1.1.1.1.1
theorem outS_ok3 {ng N:Nat}{γ0:Gm}{H0:Hs}{w0:World}(hr0:HRel γ0 H0.m.get H0.nx w0)(hng:ng≤H0.nx){e e':AEx}{T:Tr AV}{H:Hs}{S:St}{rn:List (Nat×Nat)}{ms:List Prop}(h:outS (some (e',T,H)) e S H0.nx rn=some ms)(hm:∀q∈ms,q)
 {γ1:Gm}{a:Act}{w:World}(hf:FRel γ1 ng T N a)(hR:RunR γ0 H0 w0 γ1 H w):e=e'∧∃γ2,FRel γ2 ng (trOf S.T) N a∧RunR γ0 H0 w0 γ2 ⟨trOf S.m,S.nx,[],[]⟩ w∧(∀l,NoImg γ1 H.m.get l→γ1.fz l=none→NoImg γ2 (trOf S.m).get l∧γ2.fz l=none):=by
 unfold outS at h
 simp only at h
 have hc:=(bif_some h).1
 replace h:=(bif_some h).2
 simp only[Bool.and_eq_true]at hc
 obtain⟨⟨⟨⟨⟨⟨⟨⟨c1,c2⟩,c3⟩,c4⟩,c5⟩,c6⟩,c7⟩,c8⟩,c9⟩:=hc
 have c8:=Nat.le_of_ble_eq_true c8
 refine⟨beqE_ok c1,?_⟩
 split at h
 ·cases h
 ·rename_i m1 h1
  split at h
  ·cases h
  ·rename_i m2 h2
   cases h
   obtain⟨hm12,_⟩:=split2 hm
   obtain⟨hm1,hm2⟩:=split2 hm12
   have c2a:rn.all (fun p=>Nat.ble H0.nx p.1)=true:=by
    rw[List.all_eq_true]at c2⊢
    intro p hp
    exact(and_split (c2 p hp)).1
   have hkey:∀b,rn.any (fun p=>Nat.beq p.1 b)=true→H0.nx≤b∧b<S.nx:=by
    intro b hb
    have:=c2
    rw[List.all_eq_true]at this
    obtain⟨q1,q2⟩:=and_split (this _ (look_mem hb))
    exact⟨Nat.le_of_ble_eq_true q1,Nat.le_of_ble_eq_true q2⟩
   let γ2:Gm:=⟨fun b=>if b<H0.nx then γ1 b else if rn.any (fun p=>Nat.beq p.1 b)=true then γ1 (look rn b)else none,γ1.fz⟩
   have hs:∀b,inNames H0.nx rn b=true→γ2 b=γ1 (look rn b):=by
    intro b hb
    unfold inNames at hb
    by_cases hlt:b<H0.nx
    ·show(if b<H0.nx then _ else _)=_
     rw[if_pos hlt,look_base c2a hlt]
    ·have:rn.any (fun p=>Nat.beq p.1 b)=true:=by
      rcases or_split hb with h'|h'
      ·exact absurd (Nat.le_of_ble_eq_true h') (by omega)
      ·exact h'
     show(if b<H0.nx then _ else _)=_
     rw[if_neg hlt,if_pos this]
   have hbase:∀b,b<H0.nx→γ2 b=γ1 b:=by
    intro b hb
    show(if b<H0.nx then _ else _)=_
    rw[if_pos hb]
   have hmem:∀b k,(trOf S.m).get b=some k→(b,k)∈S.m:=fun b k hb=>trOf_get _ _ _ c7 hb
   have hblk:∀b k,(trOf S.m).get b=some k→inNames H0.nx rn b=true∧nmsV (inNames H0.nx rn) k.view=true∧∃k',H.m.get (look rn b)=some k'∧k.elem=k'.elem∧k.sz=k'.sz∧k.opn=k'.opn∧k.own=k'.own∧(∀γ cs,VsRel γ k'.cells cs→VsRel γ (renB (look rn) k).cells cs)∧(k.own=false→k'=renB (look rn) k):=
    fun b k hb=>subM2_ok _ _ h2 hm2 b k (hmem b k hb)
   have hown:∀B,OwnImg γ2 (trOf S.m).get B→OwnImg γ1 H.m.get B:=by
    rintro B ⟨b,k,x,q1,q2,q3⟩
    obtain⟨r1,r2,k',r3,r4,r5,r6,r7,r8,r9⟩:=hblk b k q1
    exact⟨look rn b,k',x,r3,by rw[←r7];exact q2,by rw[←hs b r1];exact q3⟩
   refine⟨γ2,⟨hf.defers,hf.size,fun t v hv=>?_,fun g hg=>?_⟩,⟨⟨⟨fun b q hb=>?_,hR.stp.le.fz⟩,⟨?_,?_,?_,hR.stp.rel.fzr,?_⟩,hR.stp.size,hR.stp.os,hR.stp.tape,hR.stp.output,hR.stp.frame,fun k hk ho=>hR.stp.own k hk (hown k ho),?_,?_,hR.stp.fzn,hR.stp.drawn⟩,c8,fun b hb=>?_⟩,fun l hn hz=>⟨fun b k x q1 q2=>?_,hz⟩⟩
   ·obtain⟨u,q1,q2,q3⟩:=subT2_ok _ _ h1 hm1 t v (trOf_get _ _ _ c6 hv)
    exact ren_back hs rfl q3 (q2 γ1 _ (hf.tmp t u q1))
   ·rw[hbase g (by omega)];exact hf.glob g hg
   ·have hlt:b<H0.nx:=by
     rcases Nat.lt_or_ge b H0.nx with h'|h'
     ·exact h'
     ·rw[hr0.fresh b h']at hb;cases hb
    rw[hbase b hlt]
    exact hR.stp.le.nm b q hb
   ·intro b k hb
    obtain⟨r1,r2,k',r3,r4,r5,r6,r7,r8,r9⟩:=hblk b k hb
    obtain⟨B,x,cs,ex,g1,g2,g3,g4,g5⟩:=hR.stp.rel.blk _ _ r3
    exact⟨B,x,cs,ex,by rw[hs b r1];exact g1,by rw[r4];exact g2,renB_cells hs rfl r2 (r8 γ1 cs g3),by rw[r5];exact g4,by rw[r6];exact g5⟩
   ·intro b b' k k' B x x' q1 q2 q3 q4
    obtain⟨r1,_,kk,r3,_⟩:=hblk b k q1
    obtain⟨s1,_,kk',s3,_⟩:=hblk b' k' q2
    rw[hs b r1]at q3
    rw[hs b' s1]at q4
    have heq:=hR.stp.rel.inj _ _ _ _ _ _ _ r3 s3 q3 q4
    have mixed:∀b b' k,(b,k)∈S.m→b<H0.nx→¬b'<H0.nx→inNames H0.nx rn b'=true→look rn b=look rn b'→False:=by
     intro b b' k hk hb hb' hn he
     rw[look_base c2a hb]at he
     unfold inNames at hn
     have hany:rn.any (fun p=>Nat.beq p.1 b')=true:=by
      rcases or_split hn with h'|h'
      ·exact absurd (Nat.le_of_ble_eq_true h') (by omega)
      ·exact h'
     have hm':=look_mem hany
     have:=List.all_eq_true.1 (List.all_eq_true.1 c5 _ hm') _ hk
     simp only[he]at this
     rw[Nat.beq_refl]at this
     have hbl:Nat.blt (look rn b') H0.nx=true:=Nat.ble_eq_true_of_le (by rw[←he];exact hb)
     rw[hbl]at this
     cases this
    by_cases hb:b<H0.nx
    ·by_cases hb':b'<H0.nx
     ·rw[look_base c2a hb,look_base c2a hb']at heq;exact heq
     ·exact(mixed b b' k (hmem _ _ q1) hb hb' s1 heq).elim
    ·by_cases hb':b'<H0.nx
     ·exact(mixed b' b k' (hmem _ _ q2) hb' hb r1 heq.symm).elim
     ·have a1:rn.any (fun p=>Nat.beq p.1 b)=true:=by
       unfold inNames at r1
       rcases or_split r1 with h'|h'
       ·exact absurd (Nat.le_of_ble_eq_true h') (by omega)
       ·exact h'
      have a2:rn.any (fun p=>Nat.beq p.1 b')=true:=by
       unfold inNames at s1
       rcases or_split s1 with h'|h'
       ·exact absurd (Nat.le_of_ble_eq_true h') (by omega)
       ·exact h'
      have m1:=look_mem a1
      have m2:=look_mem a2
      rw[heq]at m1
      exact apart_inj c4 m1 m2
   ·intro b hb
    show(if b<H0.nx then _ else _)=_
    have hb:S.nx≤b:=hb
    rw[if_neg (by omega),if_neg]
    intro hany
    have:=(hkey b hany).2
    omega
   ·intro b k B x hb ho hg
    obtain⟨r1,r2,k',r3,r4,r5,r6,r7,r8,r9⟩:=hblk b k hb
    rw[hs b r1]at hg
    exact hR.stp.rel.fzo _ k' B x r3 (by rw[←r7];exact ho) hg
   ·intro b k hb ho
    obtain⟨r1,r2,k',r3,r4,r5,r6,r7,r8,r9⟩:=hblk b k hb
    have:=List.all_eq_true.1 c9 _ (hmem b k hb)
    simp only[ho,Bool.false_or]at this
    obtain⟨q1,q2⟩:=and_split this
    have hlt:=Nat.le_of_ble_eq_true q1
    rw[look_base c2a hlt]at r3
    have hk:renB (look rn) k=k:=by
     obtain⟨view,el,sz,opn,own⟩:=k
     cases view with
     |plain l=>simp only[nmsV]at q2;simp only[renB,renV,renl_none q2]
     |con L=>rfl
     |ints kk L=>rfl
     |rows kk L b n=>simp[nmsV]at q2
     |vals τ L=>rfl
    rw[r9 ho,hk]at r3
    exact hR.stp.ro b k r3 ho
   ·intro b k hb
    obtain⟨r1,r2,k',r3,_⟩:=hblk b k hb
    by_cases hlt:b<H0.nx
    ·rw[look_base c2a hlt]at r3
     exact hR.stp.dom b k' r3
    ·exact .inr (hr0.fresh b (by omega))
   ·rw[hbase b hb];exact hR.keep b hb
   ·obtain⟨r1,r2,k',r3,_⟩:=hblk b k q1
    rw[hs b r1]at q2
    exact hn _ k' x r3 q2
def IterD (P:Program)(tabs:List Tb)(gf tD:Nat)(d:Int)(ws:List (Int×Int)):Prop:=
 ∀(n l Bd:Nat)(J:Nat→List Nat→World→Prop)(Jx:World→Prop)(W:World),TabW tabs W→
  W.heap[Bd]? =some (.cells #[.int .i64 d] tD (0,0))→
  (∀k L A B b,J k L A→Ext A B→A.heap.size≤b→b<B.heap.size→J k (b::L) B)→(∀k L A B,J k L A→Ext A B→J k L B)→
  (∀m k L x W1,ws[k]? =some x→J k L W1→YieldAt Fence.wide m P l #[.int .i64 x.1,.int .i64 x.2] W1 fun e W'=>Keeps3 L W1 W'∧((e=.returned (.bool true)∧J (k+1) L W')∨(e=.returned (.bool false)∧Jx W')))→
  J 0 [] W→CallsIn Fence.wide n P gf (#[.func (.yield l) #[] #[]]++#[ptr0 Bd]) W fun e W'=>(∃v,e=.returned v)∧((∃L,J ws.length L W')∨Jx W')
theorem rf_of2 {P:Program}{E:Env}(hE:EnvOk P E){call:CallF}(hc:CallOk P E.ng call){N n:Nat}{tg tp tq:Nat}{assign body:Code}(hsa:straight assign=true)(hsb:straight body=true)
 {tabs:List Tb}(hgT:tabs.all (fun t=>Nat.blt t.g E.ng)=true){gf tD:Nat}{d:Int}{ws:List (Int×Int)}(hit:IterD P tabs gf tD d ws)(eg:∀args w,(callFunc gf args).run P w=.ok (.enter gf args) w)
 {T0:List (Nat×AV)}{bd nx0 nx1:Nat}(hng:E.ng≤nx0)(hnx:nx0≤nx1)
 (mS:Nat→List (Nat×Blk))(fin:AEx×List (Nat×Blk))(K:Nat)
 (hg:(trOf T0).get tg=some (.fn gf [.ptr bd 0]))(htp:tp<N)(htq:tq<N)(htop:Nat.ble tp Tr.top=true)(htoq:Nat.ble tq Tr.top=true)
 {pre:Tr Blk}(hd:pre.get bd=some ⟨.plain [.vint .i64 d],tD,0,false,true⟩)(hT:∀t∈tabs,hasTab pre t=true)
 (hsub:∀b k,(trOf (mS 0)).get b=some k→pre.get b=some k)
 (T1:Int→Int→Tr AV)(hna:∀k x y q,evCode E call noLo N 999 [0] assign (trOf ((tq,.vint .i64 y)::(tp,.vint .i64 x)::T0)) (stH ⟨[],mS k,nx1⟩ q)=some (.normal,T1 x y,stH ⟨[],mS k,nx1⟩ q))
 (hgo:∀k x,ws[k]? =some x→k<K→∃q ms rn,outS (evCode E call noLo N 999 [1] body (T1 x.1 x.2) (stH ⟨[],mS k,nx1⟩ q)) .normal ⟨[],mS (k+1),nx1⟩ nx0 rn=some ms∧allP ms)
 (hend:(K=ws.length∧fin=(.normal,mS K))∨(K<ws.length∧fin.1=.ret∧∀x,ws[K]? =some x→∃q ms rn,outS (evCode E call noLo N 999 [1] body (T1 x.1 x.2) (stH ⟨[],mS K,nx1⟩ q)) .ret ⟨[],fin.2,nx1⟩ nx0 rn=some ms∧allP ms))
 (γ:Gm)(a:Act)(w:World)(hf:FRel γ E.ng (trOf T0) N a)(hr:HRel γ pre.get nx0 w)(hgl:Glob E.ng γ):
 (Code.rangeFunc (.tmp tg) #[tp,tq] assign body).wpIn Fence.wide n P (fun x a' w'=>x=fin.1.den∧∃γ' D,a'=lift [mark D] a∧FRel γ' E.ng (trOf T0) N a∧RunR γ ⟨pre,nx0,[],[]⟩ w γ' ⟨trOf fin.2,nx1,[],[]⟩ w'∧w.heap.size≤D∧w'.heap[D]? =some (.deferred (some []))∧γ'.fz D=none) a w:=by
 obtain⟨Bd,_,p1,p2,p3,p4⟩:=box_of hr hd
 cases p3
 have hgv:a.eval (.tmp tg)=.func (.func gf) #[] #[ptr0 Bd]:=by
  have:=hf.tmp tg _ hg
  show a.tmps.getD tg undef=_
  cases hX:a.tmps.getD tg undef<;>rw[hX]at this<;>cases this
  rename_i h
  cases h with|cons h1 h=>
  cases h
  cases h1 with|ptr _ k1=>
  rw[p1]at k1
  cases k1
  rfl
 refine wpIn_rangeFunc ?_
 intro fn hfn
 obtain⟨rec,hrec⟩:∃rec:LoopState→Option Code→Loop,rec=fun st pe=>{state:=st,pending:=pe,fn,tmps:=a.tmps,params:=#[tp,tq],assign,body,defers:=w.heap.size}:=⟨_,rfl⟩
 obtain⟨W1,hW1⟩:∃W1,(w.alloc (.deferred (some []))).alloc (.loop (rec .ready none))=W1:=⟨_,rfl⟩
 have hext:Ext w W1:=by rw[←hW1];exact(ext_alloc _ _).trans (ext_alloc _ _)
 have hsz1:W1.heap.size=w.heap.size+2:=by rw[←hW1];simp
 have hL1:W1.heap[w.heap.size+1]? =some (.loop (rec .ready none)):=by
  rw[←hW1];have:=World.alloc_heap_new (w.alloc (.deferred (some []))) (.loop (rec .ready none));rwa[World.size_alloc]at this
 have hD1:W1.heap[w.heap.size]? =some (.deferred (some [])):=by
  rw[←hW1];exact(Below.heap_alloc _ _ _ (by simp)).trans (World.alloc_heap_new w _)
 have hd1:W1.heap[Bd]? =some (.cells #[.int .i64 d] tD (0,0)):=(hext.heap Bd p4).trans p2
 have hT1:TabW tabs W1:=by
  intro t ht
  have h0:TabAt t w:=hasTab_ok hr hgl (Nat.le_of_ble_eq_true (List.all_eq_true.1 hgT t ht)) (hT t ht)
  obtain⟨o,ho⟩:=h0.ex
  exact h0.of_eq (hext.heap t.g (Array.getElem?_eq_some_iff.1 ho).1)
 -- the state with which the rounds begin
 let H0:Hs:=⟨trOf (mS 0),nx0,[],[]⟩
 have hr00:HRel γ (trOf (mS 0)).get nx0 w:=hr.sub hsub
 have hr0:HRel γ H0.m.get H0.nx W1:=ext_rel hr00 hext
 have nl:NoImg γ (trOf (mS 0)).get (w.heap.size+1):=noimg_obj hr0 hL1 rfl
 have nD:NoImg γ (trOf (mS 0)).get w.heap.size:=noimg_obj hr0 hD1 rfl
 have zl:γ.fz (w.heap.size+1)=none:=fz_ge hr (by omega)
 have zD:γ.fz w.heap.size=none:=fz_ge hr (by omega)
 have off:∀{l:Nat}{γ1:Gm}{S:Hs}{W:World},RunR γ H0 W1 γ1 S W→l<W1.heap.size→NoImg γ (trOf (mS 0)).get l→γ.fz l=none→NoImg γ1 S.m.get l∧γ1.fz l=none:=fun hR hl h1 h2=>noimg_step hr0 hR.stp hl h1 h2
 let J:Nat→List Nat→World→Prop:=fun k L W=>k≤K∧(∃γ1,RunR γ H0 W1 γ1 (stH ⟨[],mS k,nx1⟩ []) W∧∀b∈L,W1.heap.size≤b∧b<W.heap.size∧NoImg γ1 (trOf (mS k)).get b∧γ1.fz b=none)∧W.heap[w.heap.size+1]? =some (.loop (rec .ready none))∧W.heap[w.heap.size]? =some (.deferred (some []))∧W1.heap.size≤W.heap.size
 let Jx:World→Prop:=fun W=>K<ws.length∧(∃γ1,RunR γ H0 W1 γ1 (stH ⟨[],fin.2,nx1⟩ []) (W.putObj (w.heap.size+1) (.loop (rec .ready none))))∧W.heap[w.heap.size+1]? =some (.loop (rec .done (some .ret)))∧W.heap[w.heap.size]? =some (.deferred (some []))∧W1.heap.size≤W.heap.size
 refine⟨w.heap.size+1,[mark w.heap.size],W1,{target:=.fn (.func gf) #[ptr0 Bd],args:=#[.func (.yield (w.heap.size+1)) #[] #[]]},W1,gf,
  #[.func (.yield (w.heap.size+1)) #[] #[]]++#[ptr0 Bd],W1,?_,?_,fun _ _=>trivial,?_,fun h=>by simp[Fence.wide]at h,?_⟩
 ·rw[←hW1,hrec];exact run_enterLoop_outer _ _ _ _ _
 ·simp only[resolve,hgv]
  simp[go_sem]
 ·simp[invoke,go_sem,eg]
 have hJ0:J 0 [] W1:=⟨Nat.zero_le _,⟨γ,⟨Stp.refl (hr0.nx_mono hnx),hnx,fun _ _=>rfl⟩,fun b hb=>by cases hb⟩,hL1,hD1,Nat.le_refl _⟩
 have hstable:∀k L A B,J k L A→Ext A B→J k L B:=by
  rintro k L A B ⟨j1,⟨γ1,hR,hL⟩,j3,j4,j5⟩ h
  refine⟨j1,⟨γ1,⟨hR.stp.trans (ext_stp hR.stp.rel h),hR.nx,hR.keep⟩,fun b hb=>?_⟩,?_,?_,Nat.le_trans j5 h.size⟩
  ·obtain⟨a1,a2,a3,a4⟩:=hL b hb
   exact⟨a1,Nat.lt_of_lt_of_le a2 h.size,a3,a4⟩
  ·rw[h.heap _ (by omega)];exact j3
  ·rw[h.heap _ (by omega)];exact j4
 have hgrow:∀k L A B b,J k L A→Ext A B→A.heap.size≤b→b<B.heap.size→J k (b::L) B:=by
  intro k L A B b hJ h hb1 hb2
  have hJ':=hstable k L A B hJ h
  obtain⟨j1,⟨γ1,hR,hL⟩,j3,j4,j5⟩:=hJ
  refine⟨j1,⟨γ1,⟨hR.stp.trans (ext_stp hR.stp.rel h),hR.nx,hR.keep⟩,fun c hc=>?_⟩,hJ'.2.2.1,hJ'.2.2.2.1,hJ'.2.2.2.2⟩
  rcases List.mem_cons.1 hc with rfl|hc
  ·exact⟨by omega,hb2,noimg_ge hR.stp.rel hb1,fz_ge hR.stp.rel hb1⟩
  ·obtain⟨a1,a2,a3,a4⟩:=hL c hc
   exact⟨a1,Nat.lt_of_lt_of_le a2 h.size,a3,a4⟩
 refine(hit (n-1) (w.heap.size+1) Bd J Jx W1 hT1 hd1 hgrow hstable ?_ hJ0).mono ?_
 ·-- one round
  rintro m k L x V hx ⟨j1,⟨γ1,hR,hL⟩,j3,j4,j5⟩
  have hrV:HRel γ1 (trOf (mS k)).get nx1 V:=hR.stp.rel
  have hf0:=hf.mono hR.stp.le
  have hput1:putA N (trOf T0) (some tp) (.vint .i64 x.1)=some (trOf ((tp,.vint .i64 x.1)::T0)):=by
   unfold putA
   have:Nat.blt tp N=true:=Nat.ble_eq_true_of_le htp
   simp only[this,cond_true]
   unfold Tr.set
   rw[htop]
   rfl
  have hput2:putA N (trOf ((tp,.vint .i64 x.1)::T0)) (some tq) (.vint .i64 x.2)=some (trOf ((tq,.vint .i64 x.2)::(tp,.vint .i64 x.1)::T0)):=by
   unfold putA
   have:Nat.blt tq N=true:=Nat.ble_eq_true_of_le htq
   simp only[this,cond_true]
   unfold Tr.set
   rw[htoq]
   rfl
  have hfr:=put_ok (put_ok hf0 (V:=.int .i64 x.1) (.vint _ _) hput1) (V:=.int .i64 x.2) (.vint _ _) hput2
  have hd0:a.defers=[]:=hf.defers
  have hact:((a.put (some tp) (.int .i64 x.1)).put (some tq) (.int .i64 x.2))=lift [] {tmps:=(#[tp,tq].zip #[Value.int .i64 x.1,Value.int .i64 x.2]).foldl (fun t (p,v)=>t.setIfInBounds p v) a.tmps,defers:=[]}:=by
   unfold lift Act.put
   simp[hd0]
  have hy:=run_yield (P:=P) (args:=#[Value.int .i64 x.1,Value.int .i64 x.2]) j3 (by rw[hrec];rfl)
  rw[hrec]at hy
  -- the run of the body
  obtain⟨fl,q,ms,rn,Sn,hout,hall,hfl⟩:∃(fl:AEx) (q:List Bool) (ms:List Prop) (rn:List (Nat×Nat)) (Sn:List (Nat×Blk)),outS (evCode E call noLo N 999 [1] body (T1 x.1 x.2) (stH ⟨[],mS k,nx1⟩ q)) fl ⟨[],Sn,nx1⟩ nx0 rn=some ms∧allP ms∧((fl=.normal∧k+1≤K∧Sn=mS (k+1))∨(fl=.ret∧K<ws.length∧Sn=fin.2)):=by
   rcases Nat.lt_or_ge k K with h|h
   ·obtain⟨q,ms,rn,h1,h2⟩:=hgo k x hx h
    exact⟨_,q,ms,rn,_,h1,h2,.inl ⟨rfl,h,rfl⟩⟩
   ·have e:k=K:=by omega
    subst e
    have hkl:=(List.getElem?_eq_some_iff.1 hx).1
    rcases hend with⟨h1,_⟩|⟨h1,h2,h3⟩
    ·omega
    ·obtain⟨q,ms,rn,h4,h5⟩:=h3 x hx
     exact⟨_,q,ms,rn,_,h4,h5,.inr ⟨rfl,h1,rfl⟩⟩
  cases hev:evCode E call noLo N 999 [1] body (T1 x.1 x.2) (stH ⟨[],mS k,nx1⟩ q)with
  |none=>rw[hev]at hout;unfold outS at hout;cases hout
  |some res=>
  obtain⟨e',T',H'⟩:=res
  rw[hev]at hout
  have hms:=run_ms hout hall
  refine⟨fn,_,assign,body,hy,roundIn_of_wpIn trivial ?_⟩
  have h1:=evCode_in hE hc (lo:=noLo) (N:=N) (ro:=some (w.heap.size+1)) (m:=m) (ds:=[]) 999 [0] assign _ _ _ _ .normal hsa (hna k x.1 x.2 q) (fun q hq=>by cases hq) γ1 _ V hfr hrV
  have hl0:∀b:Act,lift [] b=b:=fun b=>by unfold lift;rw[List.append_nil]
  rw[hl0,hact,hl0]at h1
  refine wpIn_mono h1 ?_
  rintro e a₁ w₁ ⟨rfl,γ2,a0,rfl,hf2,hR2⟩
  have hlV:w.heap.size+1<V.heap.size:=by omega
  obtain⟨al,bl⟩:=off hR (by omega) nl zl
  obtain⟨aD,bD⟩:=off hR (by omega) nD zD
  obtain⟨al2,bl2⟩:=noimg_step hrV hR2.stp hlV al bl
  obtain⟨aD2,bD2⟩:=noimg_step hrV hR2.stp (by omega) aD bD
  have hsz2:=hR2.stp.size
  have hl1:w₁.heap[w.heap.size+1]? =some (.loop (rec .ready none)):=(hR2.stp.frame _ hlV al.own).trans j3
  refine⟨_,run_beginRound hl1 (by rw[hrec]),?_⟩
  obtain⟨w₂,hw2⟩:∃w₂,w₂=w₁.putObj (w.heap.size+1) (.loop {rec .ready none with state:=.busy}):=⟨_,rfl⟩
  rw[←hw2]
  have hrel2:HRel γ2 (trOf (mS k)).get nx1 w₂:=by rw[hw2];exact put_rel hR2.stp.rel al2 bl2 _
  have hsz22:w₂.heap.size=w₁.heap.size:=by rw[hw2];simp
  have h2:=evCode_in hE hc (lo:=noLo) (N:=N) (ro:=some (w.heap.size+1)) (m:=m) (ds:=[]) 999 [1] body _ _ _ _ e' hsb hev hms γ2 a0 w₂ hf2 hrel2
  rw[hl0]at h2
  rw[hl0]
  refine wpIn_mono h2 ?_
  rintro e2 a3 W3 ⟨rfl,γ3,a4,rfl,hf3,hR3⟩
  have hl2:w₂.heap[w.heap.size+1]? =some (.loop {rec .ready none with state:=.busy}):=by rw[hw2];exact World.putObj_heap_same (by omega)
  have hl3:W3.heap[w.heap.size+1]? =some (.loop {rec .ready none with state:=.busy}):=(hR3.stp.frame _ (by omega) al2.own).trans hl2
  have hoth:∀B,B<V.heap.size→B≠w.heap.size+1→NoImg γ1 (trOf (mS k)).get B→NoImg γ2 (trOf (mS k)).get B→W3.heap[B]? =V.heap[B]? :=by
   intro B hB hne i1 i2
   rw[hR3.stp.frame B (by omega) i2.own,hw2,put_heap hne,hR2.stp.frame B hB i1.own]
  have hsz3:=hR3.stp.size
  have hD3:W3.heap[w.heap.size]? =some (.deferred (some [])):=(hoth _ (by omega) (by omega) aD aD2).trans j4
  -- as though the record were ready
  have hRR:RunR γ H0 W1 γ3 H' (W3.putObj (w.heap.size+1) (.loop (rec .ready none))):=by
   have t2:=put_stp hrel2 (l:=w.heap.size+1) (by omega) al2 bl2 hR3.stp (.loop (rec .ready none))
   rw[hw2,put_back _ hl1]at t2
   exact⟨hR.stp.trans (hR2.stp.trans t2),Nat.le_trans hR.nx (Nat.le_trans hR2.nx hR3.nx),fun c hc'=>((hR3.keep c (Nat.lt_of_lt_of_le hc' (Nat.le_trans hR.nx hR2.nx))).trans (hR2.keep c (Nat.lt_of_lt_of_le hc' hR.nx))).trans (hR.keep c hc')⟩
  have hR12:Stp γ1 (trOf (mS k)).get V γ3 H'.m.get H'.nx (W3.putObj (w.heap.size+1) (.loop (rec .ready none))):=by
   have t2:=put_stp hrel2 (l:=w.heap.size+1) (by omega) al2 bl2 hR3.stp (.loop (rec .ready none))
   rw[hw2,put_back _ hl1]at t2
   exact hR2.stp.trans t2
  obtain⟨he,γ4,g1,g2⟩:=outS_ok (ng:=E.ng) hr0 hng hout ((allP_iff ms).1 hall) hf3 hRR
  have hkeep:∀o,Keeps3 L V (W3.putObj (w.heap.size+1) o):=by
   intro o
   refine⟨by simp;omega,fun i hi=>?_⟩
   obtain⟨a1,a2,a3,a4⟩:=hL i hi
   obtain⟨b1,b2⟩:=noimg_step hrV hR2.stp a2 a3 a4
   rw[put_heap (by omega)]
   exact hoth _ a2 (by omega) a3 b1
  have hlt3:w.heap.size+1<W3.heap.size:=by omega
  rcases hfl with⟨rfl,hk,rfl⟩|⟨rfl,hk,rfl⟩
  ·subst he
   have hend3:=run_endRound (P:=P) none hl3
   -- what the iterator has made lies beside what the body knows
   obtain⟨γ5,g5,g6⟩:∃γ5,RunR γ H0 W1 γ5 (stH ⟨[],mS (k+1),nx1⟩ []) (W3.putObj (w.heap.size+1) (.loop (rec .ready none)))∧∀b∈L,W1.heap.size≤b∧b<W3.heap.size∧NoImg γ5 (trOf (mS (k+1))).get b∧γ5.fz b=none:=by
    obtain⟨_,γ4,g1,g2,g3⟩:=outS_ok3 (ng:=E.ng) hr0 hng hout ((allP_iff ms).1 hall) hf3 hRR
    refine⟨γ4,g2,fun b hb=>?_⟩
    obtain⟨a1,a2,a3,a4⟩:=hL b hb
    obtain⟨b1,b2⟩:=noimg_step hrV hR12 a2 a3 a4
    obtain⟨c1,c2⟩:=g3 b b1 b2
    exact⟨a1,by omega,c1,c2⟩
   refine⟨_,_,hend3,hkeep _,.inl ⟨rfl,hk,⟨γ5,?_,?_⟩,?_,?_,?_⟩⟩
   ·rw[hrec]at g5⊢;exact g5
   ·intro b hb
    obtain⟨a1,a2,a3,a4⟩:=g6 b hb
    exact⟨a1,by simpa using a2,a3,a4⟩
   ·rw[hrec];exact World.putObj_heap_same hlt3
   ·rw[put_heap (by omega)];exact hD3
   ·simp;omega
  ·subst he
   have hend3:=run_endRound (P:=P) (some .ret) hl3
   refine⟨_,_,hend3,hkeep _,.inr ⟨rfl,hk,⟨γ4,?_⟩,?_,?_,?_⟩⟩
   ·rw[put_put];exact g2
   ·rw[hrec];exact World.putObj_heap_same hlt3
   ·rw[put_heap (by omega)];exact hD3
   ·simp;omega
 ·-- behind the iterator
  have back:∀(W2:World)(S:List (Nat×Blk))(γ1:Gm)(st:LoopState)(pe:Option Code),RunR γ H0 W1 γ1 (stH ⟨[],S,nx1⟩ []) (W2.putObj (w.heap.size+1) (.loop (rec .ready none)))→W1.heap.size≤W2.heap.size→W2.heap[w.heap.size+1]? =some (.loop (rec st pe))→W2.heap[w.heap.size]? =some (.deferred (some []))→∀o,RunR γ ⟨pre,nx0,[],[]⟩ w γ1 ⟨trOf S,nx1,[],[]⟩ (W2.putObj (w.heap.size+1) o)∧(W2.putObj (w.heap.size+1) o).heap[w.heap.size]? =some (.deferred (some []))∧γ1.fz w.heap.size=none:=by
   intro W2 S γ1 st pe hR hsz hl hD o
   have hw:weaker γ pre.get (trOf (mS 0)).get:=fun b k hb=>⟨k,hsub b k hb,rfl,rfl,rfl,rfl,fun _ h=>h,fun _=>rfl⟩
   obtain⟨a2,b2⟩:=off hR (by omega) nl zl
   obtain⟨a3,b3⟩:=off hR (by omega) nD zD
   have t0:=(ext_stp hr hext).trans (hR.stp.weak hw)
   have t2:=put_end t0 a2 b2 (.inr (by omega)) o
   rw[put_put]at t2
   exact⟨⟨t2,Nat.le_trans hnx (Nat.le_refl _),fun c hc'=>hR.keep c hc'⟩,by rw[put_heap (by omega)];exact hD,b3⟩
  have hlift:({a with defers:=[mark w.heap.size]++a.defers}:Act)=lift [mark w.heap.size] a:=by unfold lift;rw[hf.defers];rfl
  rintro e W2 ⟨⟨v,rfl⟩,⟨L,j1,⟨γ1,hR,_⟩,j3,j4,j5⟩|⟨j1,⟨γ1,hR⟩,j3,j4,j5⟩⟩
  ·have hfin:K=ws.length∧fin=(.normal,mS K):=by
    rcases hend with h|⟨h,_⟩
    ·exact h
    ·omega
   have hR':RunR γ H0 W1 γ1 (stH ⟨[],mS ws.length,nx1⟩ []) (W2.putObj (w.heap.size+1) (.loop (rec .ready none))):=by rw[put_self j3];exact hR
   obtain⟨q1,q2,q3⟩:=back W2 _ γ1 _ _ hR' j5 j3 j4 (.loop {rec .ready none with state:=.exhausted})
   refine⟨none,_,(run_endLoop (P:=P) j3 (by rw[hrec];simp)).trans (congrArg (fun p=>Result.ok p _) (show(rec .ready none).pending=none by rw[hrec])),?_⟩
   show _∧_
   rw[hfin.2,hlift]
   refine⟨rfl,γ1,w.heap.size,rfl,hf.mono q1.stp.le,?_,Nat.le_refl _,?_,q3⟩
   ·rw[hfin.1];exact q1
   ·exact q2
  ·have hfin:fin.1=.ret:=by
    rcases hend with⟨h,_⟩|⟨_,h,_⟩
    ·omega
    ·exact h
   obtain⟨q1,q2,q3⟩:=back W2 _ γ1 _ _ hR j5 j3 j4 (.loop {rec .done (some .ret)with state:=.exhausted})
   refine⟨some .ret,_,(run_endLoop (P:=P) j3 (by rw[hrec];simp)).trans (congrArg (fun p=>Result.ok p _) (show(rec .done (some .ret)).pending=some .ret by rw[hrec])),?_⟩
   refine wpIn_ret ?_
   rw[hfin,hlift]
   refine⟨rfl,γ1,w.heap.size,rfl,hf.mono q1.stp.le,?_,Nat.le_refl _,?_,q3⟩
   ·exact q1
   ·exact q2
theorem pure_rf2 {P:Program}{E:Env}(hE:EnvOk P E){call:CallF}(hc:CallOk P E.ng call){f:Nat}{fn:Func}(hfn:P.funcs[f]? =some fn){L:List Code}{D R assign body:Code}{tg tp tq id:Nat}
 (hbd:fn.body=some (preC L (.seq (.seq D (.block id (.rangeFunc (.tmp tg) #[tp,tq] assign body))) R)))(hsp:straight (preC L D)=true)(hsR:straight R=true)(hsa:straight assign=true)(hsb:straight body=true)
 {A:List RV}(hlen:(RV.avl A).length<1000){N:Nat}(hN:N=Nat.max (RV.avl A).length fn.ntmps){tabs:List Tb}(hg:tabs.all (fun t=>Nat.blt t.g E.ng)=true)(hok:okNames (tabList tabs)=true)(hng:Nat.ble E.ng 1000=true)
 {gf tD:Nat}{d:Int}{ws:List (Int×Int)}(hit:IterD P tabs gf tD d ws)(eg:∀args w,(callFunc gf args).run P w=.ok (.enter gf args) w)
 {T0:List (Nat×AV)}{pre:List (Nat×Blk)}{bd nx0 nx1:Nat}(hnx0:1000≤nx0)(hnx:nx0≤nx1)
 (hpre:∃q ms,outA (evCode E call noLo N 999 [] (preC L D) (Tr.ofList (RV.avl A)) ⟨trOf (tabList tabs),1000,q,[]⟩) .normal ⟨T0,pre,nx0⟩ 1000=some ms∧allP ms)
 (mS:Nat→List (Nat×Blk))(fin:AEx×List (Nat×Blk))(K:Nat)
 (hgt:(trOf T0).get tg=some (.fn gf [.ptr bd 0]))(htp:tp<N)(htq:tq<N)(htop:Nat.ble tp Tr.top=true)(htoq:Nat.ble tq Tr.top=true)
 (hd:(trOf pre).get bd=some ⟨.plain [.vint .i64 d],tD,0,false,true⟩)(hT:∀t∈tabs,hasTab (trOf pre) t=true)
 (hsub:∀b k,(trOf (mS 0)).get b=some k→(trOf pre).get b=some k)
 (T1:Int→Int→Tr AV)(hna:∀k x y q,evCode E call noLo N 999 [0] assign (trOf ((tq,.vint .i64 y)::(tp,.vint .i64 x)::T0)) (stH ⟨[],mS k,nx1⟩ q)=some (.normal,T1 x y,stH ⟨[],mS k,nx1⟩ q))
 (hgo:∀k x,ws[k]? =some x→k<K→∃q ms rn,outS (evCode E call noLo N 999 [1] body (T1 x.1 x.2) (stH ⟨[],mS k,nx1⟩ q)) .normal ⟨[],mS (k+1),nx1⟩ nx0 rn=some ms∧allP ms)
 (hend:(K=ws.length∧fin=(.normal,mS K))∨(K<ws.length∧fin.1=.ret∧∀x,ws[K]? =some x→∃q ms rn,outS (evCode E call noLo N 999 [1] body (T1 x.1 x.2) (stH ⟨[],mS K,nx1⟩ q)) .ret ⟨[],fin.2,nx1⟩ nx0 rn=some ms∧allP ms))
 {V:RV}(hpost:∃q ms,outR (postF E call N fn R T0 fin nx1 q) V=some ms∧allP ms):PureC P tabs f A V:=by
 obtain⟨q1,ms1,hout1,hall1⟩:=hpre
 obtain⟨q2,ms2,hout2,hall2⟩:=hpost
 have hng0:=Nat.le_of_ble_eq_true hng
 -- what comes behind the range
 obtain⟨v,H',m1,hpf,hrd,hm1,hHm⟩:∃v H' m1,postF E call N fn R T0 fin nx1 q2=some (v,H')∧rd H'.m v V=some m1∧(∀q∈m1,q)∧∀q∈H'.ms,q:=by
  unfold outR at hout2
  split at hout2
  ·cases hout2
  ·rename_i v H' hpf
   split at hout2
   ·cases hout2
   ·rename_i m1 hrd
    cases hout2
    rw[allP_iff]at hall2
    obtain⟨h1,h2⟩:=split2 hall2
    exact⟨v,H',m1,hpf,hrd,h1,h2⟩
 refine pure_of_calls hfn (by rw[hbd];rfl) hg hok hng hrd hm1 ?_
 intro γ w Args hr hA hgl
 have hl:=hA.length
 have hNs:(Args.toArray++Array.replicate (fn.ntmps-Args.toArray.size) undef).size=N:=by
  rw[hN]
  simp only[Array.size_append,List.size_toArray,Array.size_replicate,hl]
  show _=max _ _
  omega
 have hf:FRel γ E.ng (Tr.ofList (RV.avl A)) N {tmps:=Args.toArray++Array.replicate (fn.ntmps-Args.toArray.size) undef,defers:=[]}:=
  ⟨rfl,hNs,fun t v hv=>args_get hA (by omega) _ t hv,hgl⟩
 refine(callsIn_wide (n:=0)).1 (callsIn_of_wp_marks hfn hbd trivial ?_ rfl)
 cases hev:evCode E call noLo N 999 [] (preC L D) (Tr.ofList (RV.avl A)) ⟨trOf (tabList tabs),1000,q1,[]⟩with
 |none=>rw[hev]at hout1;unfold outA outS at hout1;cases hout1
 |some res=>
 obtain⟨e',T',H1⟩:=res
 rw[hev]at hout1
 have hms1:=run_ms hout1 hall1
 have he0:=run_e hout1
 subst he0
 refine pre_in hE hc L 999 [] _ _ _ _ hsp hev hms1 γ _ w hf hr ?_
 intro γ1 a1 w1 hf1 hR1
 obtain⟨_,γ2,hf2,hR2⟩:=outS_ok (ng:=E.ng) (H0:=⟨trOf (tabList tabs),1000,[],[]⟩) hr hng0 hout1 ((allP_iff ms1).1 hall1) hf1 ⟨hR1.stp,hR1.nx,hR1.keep⟩
 refine wpIn_block (wpIn_mono (rf_of2 hE hc hsa hsb hg hit eg (by omega) hnx mS fin K hgt htp htq htop htoq hd hT hsub T1 hna hgo hend γ2 a1 w1 hf2 hR2.stp.rel hf2.glob) ?_)
 rintro x a' w2 ⟨rfl,γ3,Dk,rfl,hf3,hR3,hD1,hD2,hD3⟩
 -- the end, at a state that says T, H
 have finish:∀(e:AEx)(T:Tr AV)(a4:Act)(w4:World)(γ4:Gm),(∀i,e≠.exit i)→resF E fn T H'=some (v,H')→FRel γ4 E.ng T N a4→RunR γ3 ⟨trOf fin.2,nx1,[],[]⟩ w2 γ4 H' w4→
  bodyPostM Fence.wide 0 P fn (fun e w'=>∃V γ',e=.returned V∧VRel γ' v V∧RunR γ ⟨trOf (tabList tabs),1000,[],[]⟩ w γ' H' w') e.den (lift [mark Dk] a4) w4:=by
  intro e T a4 w4 γ4 hne hres hf4 hR4
  have nD:=noimg_obj hR3.stp.rel hD2 rfl
  have hDlt:Dk<w2.heap.size:=(Array.getElem?_eq_some_iff.1 hD2).1
  obtain⟨n4,z4⟩:=noimg_step hR3.stp.rel hR4.stp hDlt nD hD3
  have hD4:w4.heap[Dk]? =some (.deferred (some [])):=(hR4.stp.frame _ hDlt nD.own).trans hD2
  have tot:RunR γ ⟨trOf (tabList tabs),1000,[],[]⟩ w γ4 H' (w4.putObj Dk (.deferred none)):=by
   have t1:=(hR2.trans (H1:=⟨trOf pre,nx0,[],[]⟩) hR3).trans hR4
   exact⟨put_end t1.stp n4 z4 (.inr (Nat.le_trans hR2.stp.size hD1)) _,t1.nx,t1.keep⟩
  unfold resF at hres
  split at hres
  ·cases hres
  ·rename_i vs hvs
   cases hres
   obtain⟨Vs,h1,h2⟩:=resA_ok (P:=P) hE.ti hf4 tot.stp.rel fn.results.toList vs hvs
   have hres:(results fn a4.tmps).run P (w4.putObj Dk (.deferred none))=.ok (if hs:Vs.toArray.size=1 then Vs.toArray[0]else .tuple Vs.toArray) (w4.putObj Dk (.deferred none)):=by
    unfold results
    rw[Array.mapM_eq_mapM_toList]
    simp only[Sem.run_bind,Sem.run_map,Sem.run_pure]
    exact congrArg (fun r:Result (List Value)=>(r.andThen fun a w'=>Result.ok a.toArray w').andThen fun a w'=>Result.ok (if h:a.size=1 then a[0]else Value.tuple a) w') h1
   have hd:(lift [mark Dk] a4).defers=[mark Dk]:=by unfold lift;rw[hf4.defers];rfl
   have hleave:LeavesInM Fence.wide 0 P fn (lift [mark Dk] a4).tmps (fun e w'=>∃V γ',e=.returned V∧VRel γ' (tupA vs) V∧RunR γ ⟨trOf (tabList tabs),1000,[],[]⟩ w γ' H' w') (lift [mark Dk] a4).defers .returning w4:=by
    rw[hd]
    exact⟨by simp,.inl ⟨Dk,_,rfl,run_takeDeferred hD4,_,hres,_,γ4,rfl,tupA_ok h2,tot⟩⟩
   cases e with
   |normal=>exact hleave
   |ret=>exact hleave
   |exit i=>exact(hne i rfl).elim
 unfold postF at hpf
 obtain⟨f1,f2⟩:=fin
 cases f1 with
 |exit i=>cases hpf
 |ret=>
  have hH:H'=⟨trOf f2,nx1,[],[]⟩:=by
   simp only[resF]at hpf
   split at hpf
   ·cases hpf
   ·cases hpf;rfl
  subst hH
  exact finish .ret _ a1 w2 γ3 (fun i h=>by cases h) hpf hf3 (RunR.refl hR3.stp.rel)
 |normal=>
  simp only at hpf
  split at hpf
  ·cases hpf
  ·cases hpf
  ·rename_i e4 T4 H4 hne4 hev4
   have hH:H'=H4:=by
    simp only[resF]at hpf
    split at hpf
    ·cases hpf
    ·cases hpf;rfl
   subst hH
   have h4:=evCode_in hE hc (lo:=noLo) (N:=N) (ro:=none) (m:=0) (ds:=[mark Dk]) 999 [2] R _ _ _ _ e4 hsR hev4 hHm γ3 a1 w2 hf3 hR3.stp.rel
   refine wpIn_mono h4 ?_
   rintro x a5 w5 ⟨rfl,γ5,a6,rfl,g1,g2⟩
   exact finish e4 T4 a6 w5 γ5 (fun i h=>hne4 i h) hpf g1 ⟨g2.stp,g2.nx,g2.keep⟩
end Go.QfSy
namespace Go.Proofs.YtmeljalphfcieaaDoor.S
open Go.RowKit Go.QfSy Go.Lib
section
attribute [local go_sem] Oper.semAt_some
theorem box_cell {W:World}{B t:Nat}{v:Value}(h:W.heap[B]? =some (.cells #[v] t (0,0))):W.cell? ⟨B,0,none⟩=some v∧W.frozen? ⟨B,0,none⟩=false:=by
 constructor
 ·simp[World.cell?,h]
 ·simp[World.frozen?,h]
def prW (P:List Pow)(k:Nat):Int×Int:=((P.getD k Pow.zero).prime,(P.getD k Pow.zero).exp-(bif Nat.beq k 0 then 1 else 0))
def prL (P:List Pow):List (Int×Int):=(List.range P.length).map (prW P)
theorem prL_get {P:List Pow}{k:Nat}(h:k<P.length):(prL P)[k]? =some (prW P k):=by
 unfold prL;simp[h]
theorem prL_len (P:List Pow):(prL P).length=P.length:=by unfold prL;simp
structure RowP (W:World)(B o:Nat)(P:List Pow):Prop where
 lt:B<W.heap.size
 c0:∀i,i<P.length→W.cell? ⟨B,o+i*2,none⟩=some (.int .i64 (P.getD i Pow.zero).prime)
 c1:∀i,i<P.length→W.cell? ⟨B,o+i*2+1,none⟩=some (.int .i64 (P.getD i Pow.zero).exp)
theorem RowP.heap {W W':World}{B o:Nat}{P:List Pow}(h:RowP W B o P)(hs:W.heap.size≤W'.heap.size)(he:W'.heap[B]? =W.heap[B]?):RowP W' B o P:=by
 have k:∀j,W'.cell? ⟨B,j,none⟩=W.cell? ⟨B,j,none⟩:=fun j=>by simp only[World.cell?,he]
 exact⟨Nat.lt_of_lt_of_le h.lt hs,fun i hi=>by rw[k];exact h.c0 i hi,fun i hi=>by rw[k];exact h.c1 i hi⟩
theorem fac_calls (d:Nat)(h0:0<d)(hb:d≤10000)(w:World)(hT:TabW [off1] w):Calls Tryd.prog 10 #[.int .i64 (2*(d:Int))] w fun e w'=>∃B o c,e=.returned (.tuple #[.slice (some ⟨B,o,none⟩) (fac (2*d)).length c,.int .i64 0])∧Ext w w'∧w.heap.size≤B∧RowP w' B o (fac (2*d)):=by
 have hp:=fac_pure (2*d) (by omega) (by omega)
 have hlen:0<(fac (2*d)).length:=by rw[fac_step (by omega) (by omega)];simp
 have h1:=hp.2 w (fun _=>none) [.int .i64 ((2*d:Nat):Int)] hT (fun B x h=>by cases h) (.cons (.int _ _) .nil)
 rw[show((2*d:Nat):Int)=2*(d:Int) by omega]at h1
 refine h1.mono ?_
 rintro e w' ⟨V,F',rfl,_,hV,hF,hR,hb⟩
 cases hR with|tup hR=>
 cases hR with|cons r1 hR=>cases hR with|cons r2 hR=>
 cases hR
 cases r2
 unfold slV at r1
 cases r1 with
 |sl0 _ _ _ _ hn=>have hn:(fac (2*d)).length=0:=hn;omega
 |@sl _ _ B o c _ cs hc hl hf h=>
  have key:∀i,i<(fac (2*d)).length→∀j v,([.int .i64 ((fac (2*d)).getD i Pow.zero).prime,.int .i64 ((fac (2*d)).getD i Pow.zero).exp]:List Value)[j]? =some v→w'.cell? ⟨B,o+i*2+j,none⟩=some v∧(w.heap.size≤B∧B<w'.heap.size):=by
   intro i hi j v hv
   have e1:cs i=[.int .i64 ((fac (2*d)).getD i Pow.zero).prime,.int .i64 ((fac (2*d)).getD i Pow.zero).exp]:=by
    have h2:RsRel F' (Pow.rvs ((fac (2*d)).getD i Pow.zero)) (cs i):=h i hi
    unfold Pow.rvs at h2
    generalize cs i=z at h2
    cases h2 with|cons a b=>cases b with|cons b1 b2=>cases b2;cases a;cases b1;rfl
   obtain⟨cc,el,fr,k1,k2⟩:=hf i j v hi (by rw[e1];exact hv)
   have k3:=hV _ _ k1
   refine⟨?_,?_,(Array.getElem?_eq_some_iff.1 k3).1⟩
   ·have k2:cc[o+i*2+j]? =some v:=k2
    simp only[World.cell?,k3,Option.isSome_none,Bool.false_eq_true,if_false]
    exact k2
   ·rcases hF _ _ k1 with h4|h4
    ·cases h4
    ·exact h4
  refine⟨B,o,c,rfl,⟨hb.os,hb.tape,hb.output,hb.drawn,hb.size,hb.block⟩,(key 0 hlen 0 _ rfl).2.1,(key 0 hlen 0 _ rfl).2.2,fun i hi=>(key i hi 0 _ rfl).1,fun i hi=>(key i hi 1 _ rfl).1⟩
theorem facG_len:∀(f n:Nat),(facG f n).length≤f
 |0,n=>by simp[facG]
 |f+1,n=>by
  unfold facG
  cases Nat.ble n 1 with
  |true=>exact Nat.zero_le _
  |false=>exact Nat.succ_le_succ (facG_len f _)
theorem vG_40:∀(f p n:Nat),(vG f p n).1≤f
 |0,p,n=>Nat.le_refl _
 |f+1,p,n=>by
  unfold vG
  cases Nat.beq (n%p) 0 with
  |true=>exact Nat.succ_le_succ (vG_40 f p (n/p))
  |false=>exact Nat.zero_le _
theorem facG_exp:∀(f n:Nat),∀q∈facG f n,0≤q.exp∧q.exp≤40
 |0,n,q,h=>by simp[facG]at h
 |f+1,n,q,h=>by
  unfold facG at h
  cases hb:Nat.ble n 1 with
  |true=>rw[hb]at h;simp at h
  |false=>
   rw[hb,cond_false]at h
   rcases List.mem_cons.1 h with e|h
   ·subst e
    have:(vv (ld n) n).1≤40:=vG_40 40 _ _
    show 0≤(((vv (ld n) n).1:Nat):Int)∧(((vv (ld n) n).1:Nat):Int)≤40
    omega
   ·exact facG_exp f _ q h
set_option maxHeartbeats 4000000 in
theorem prm_iter (d:Nat)(h0:0<d)(hb:d≤10000):IterD Tryd.prog [off1] 48 2 (d:Int) (prL (fac (2*d))):=by
 intro n l Bd J Jx W hT hd hgrow hst hY hJ0
 refine callsIn_of_wp Tryd.func48 rfl trivial ?_ rfl
 simp only[ptr0,Tryd.ntmps48,List.size_toArray,List.length_cons,List.length_nil,Nat.reduceAdd,Nat.reduceSub,Array.replicate_succ,Array.replicate_zero,List.push_toArray,List.append_toArray,List.nil_append,List.cons_append]
 obtain⟨cd,fd⟩:=box_cell hd
 have hfac:=fun w hT=>fac_calls d h0 hb w hT
 have hw2:IntKind.i64.wrap (2*(d:Int))=2*(d:Int):=w64 (by omega) (by omega)
 obtain⟨P,hP⟩:∃P,P=fac (2*d):=⟨_,rfl⟩
 rw[←hP]at hfac hY⊢
 have hm:P.length≤1000:=by
  rw[hP]
  exact Nat.le_trans (facG_len 40 (2*d)) (by omega)
 have hex:∀k,k<P.length→0≤(P.getD k Pow.zero).exp∧(P.getD k Pow.zero).exp≤40:=by
  intro k hk
  rw[hP]at hk⊢
  rw[List.getD_eq_getElem?_getD,List.getElem?_eq_getElem hk]
  exact facG_exp 40 (2*d) _ (List.getElem_mem hk)
 clear hP
 obtain⟨m,hmP⟩:∃m,m=P.length:=⟨_,rfl⟩
 rw[←hmP]at hfac hm
 gi_wp2
 refine⟨trivial,(fun h=>by first|(cases h;done)|(simp[Fence.wide]at h;done)),(callsIn_wide.2 (hfac _ hT)).mono ?_⟩
 rintro e w' ⟨B,o,c,rfl,hE,hB,hR⟩
 have hJ1:=hgrow _ _ _ _ B hJ0 hE hB hR.lt
 gi_wp2
 gi_loopw [15] (fun i wr=>∃k:Nat,k≤m∧i=.int .i64 (k:Int)∧J k [B] wr∧RowP wr B o P) (fun i _=>m-(intOf i).toNat)
 case atStart=>exact⟨0,Nat.zero_le _,rfl,hJ1,hR⟩
 case round=>
  obtain⟨k,hk,rfl,hJ,hR'⟩:=hrel
  by_cases hlt:k<m
  ·obtain⟨pp,hpp⟩:∃pp,(P.getD k Pow.zero).prime=pp:=⟨_,rfl⟩
   obtain⟨ee,hee⟩:∃ee,(P.getD k Pow.zero).exp=ee:=⟨_,rfl⟩
   have g0:=hR'.c0 k (by omega)
   have g1:=hR'.c1 k (by omega)
   rw[hpp]at g0
   rw[hee]at g1
   have hbe:=hex k (by omega)
   rw[hee]at hbe
   have hwe:IntKind.i64.wrap (ee-1)=ee-1:=w64 (by omega) (by omega)
   have hx:(prL P)[k]? =some (pp,ee-(bif Nat.beq k 0 then 1 else 0)):=by rw[prL_get (by omega)];unfold prW;rw[hpp,hee]
   clear hpp hee hbe
   have hix:(0:Int)≤(k:Int):=by omega
   have hix':(k:Int)<(m:Int):=by omega
   by_cases hk0:k=0
   ·subst hk0
    have hx:(prL P)[0]? =some (pp,ee-1):=hx
    simp only[Nat.zero_mul,Nat.add_zero]at g0 g1
    obtain⟨fn,tmps,assign,body,hy,hRd⟩:=hY (n-1) 0 [B] (pp,ee-1) (wr.alloc (.cells #[.int .i64 pp,.int .i64 (ee-1)] 40)) hx (hst _ _ _ _ hJ (ext_alloc _ _))
    simp only at hy hRd
    clear hx
    gi_wp2
    refine⟨(fun h=>by first|(cases h;done)|(simp[Fence.wide]at h;done)),hRd.mono ?_⟩
    rintro e W3 ⟨hk3,⟨rfl,hJ3⟩|⟨rfl,hJx3⟩⟩
    ·gi_wp2
     exact⟨⟨1,by omega,rfl,hJ3,hR'.heap (Nat.le_trans (by simp) hk3.1) ((hk3.2 B (by simp)).trans (Below.heap_alloc _ _ _ hR'.lt))⟩,by simp[intOf];omega⟩
    ·gi_wp2
     exact bodyPost_ret (results_none rfl _ _ _) rfl ⟨⟨_,rfl⟩,.inr hJx3⟩
   ·have hx:(prL P)[k]? =some (pp,ee):=by rw[hx];cases k with
     |zero=>exact absurd rfl hk0
     |succ k=>show some (pp,ee-0)=_;rw[Int.sub_zero]
    obtain⟨fn,tmps,assign,body,hy,hRd⟩:=hY (n-1) k [B] (pp,ee) (wr.alloc (.cells #[.int .i64 pp,.int .i64 ee] 40)) hx (hst _ _ _ _ hJ (ext_alloc _ _))
    simp only at hy hRd
    have hkb:((k:Int)==0)=false:=by cases hb:((k:Int)==0)with
     |false=>rfl
     |true=>have:=eq_of_beq hb;omega
    clear hx
    gi_wp2
    refine⟨(fun h=>by first|(cases h;done)|(simp[Fence.wide]at h;done)),hRd.mono ?_⟩
    rintro e W3 ⟨hk3,⟨rfl,hJ3⟩|⟨rfl,hJx3⟩⟩
    ·gi_wp2
     exact⟨⟨k+1,by omega,rfl,hJ3,hR'.heap (Nat.le_trans (by simp) hk3.1) ((hk3.2 B (by simp)).trans (Below.heap_alloc _ _ _ hR'.lt))⟩,by simp[intOf];omega⟩
    ·gi_wp2
     exact bodyPost_ret (results_none rfl _ _ _) rfl ⟨⟨_,rfl⟩,.inr hJx3⟩
  ·gi_wp2
   refine bodyPost_end (results_none rfl _ _ _) rfl ⟨⟨_,rfl⟩,.inl ⟨[B],?_⟩⟩
   rw[prL_len,show P.length=k by omega]
   exact hJ
end
end Go.Proofs.YtmeljalphfcieaaDoor.S
namespace Go.Proofs.YtmeljalphfcieaaDoor.S
open Go.QfSy Go.RowKit
def rgA:Code→Code
 |.rangeFunc _ _ a _=>a
 |c=>c
def rgB:Code→Code
 |.rangeFunc _ _ _ b=>b
 |c=>c
def agF (fn:Func)(p:List Nat):Code:=(subC p (fn.body.getD .skip)).getD .skip
noncomputable abbrev gvL:List Code:=[agF Tryd.f6 [0],agF Tryd.f6 [1,0],agF Tryd.f6 [1,1,0]]
noncomputable abbrev gvD:Code:=agF Tryd.f6 [1,1,1,0,0]
noncomputable abbrev gvX:Code:=agF Tryd.f6 [1,1,1,0,1,0]
noncomputable abbrev gvR:Code:=agF Tryd.f6 [1,1,1,1]
def entsVd:List OEnt:=[
 ⟨16,[],fun A=>match A with
  |[.agg [.int .i64 p,.sl n 5 row]]=>some (.bool (icM p (consR n row)),[(∀i,i<n→row i=(Con.ofR (row i)).rvs)∧n≤1000])
  |_=>none⟩,
 ⟨17,[off1],fun A=>match A with
  |[.agg [.int .i64 p,.sl n 5 row]]=>some (.bool (vaM p (consR n row)),[(∀i,i<n→row i=(Con.ofR (row i)).rvs)∧n≤1000])
  |_=>none⟩,
 ⟨18,[],fun A=>match A with
  |[.agg [.int .i64 p,.sl n 5 row],.int .i64 D,.int .i64 e]=>some (.bool true,[(∀i,i<n→row i=(Con.ofR (row i)).rvs)∧okL (consR n row)∧(0≤D∧D≤1000)∧(0≤e∧e≤2147483647)∧dmS (consR n row)=D∧exS (consR n row)=e])
  |_=>none⟩]
theorem entsVd_ok:∀e∈entsVd,EntOk Tryd.prog e:=by
 intro e he
 simp only[entsVd,List.mem_cons,List.not_mem_nil,or_false]at he
 rcases he with rfl|rfl|rfl
 all_goals
  intro A R ms h hm
  simp only at h
  split at h
  all_goals first|(cases h;done)|cases h
 ·obtain⟨h1,h2⟩:=all_one hm
  exact PureC.imp (tic_pure _ _ (by rw[consR_len];exact h2)) (.cons (.agg (.cons .same (.cons (.con h1) .nil))) .nil)
 ·obtain⟨h1,h2⟩:=all_one hm
  exact PureC.imp (va_pure _ _ (by rw[consR_len];exact h2)) (.cons (.agg (.cons .same (.cons (.con h1) .nil))) .nil)
 ·obtain⟨h1,h2,h3,h4,h5,h6⟩:=all_one hm
  exact PureC.imp (fits_pure _ _ _ _ h2 h3 h4 h5 h6) (.cons (.agg (.cons .same (.cons (.con h1) .nil))) (.cons .same (.cons .same .nil)))
noncomputable abbrev callV:CallF:=callF EV (orcOf EV.ng entsVd) 8
def gvM (g:Gen)(k:Nat):List (Nat×Blk):=[(1000,⟨.plain (RV.avl g.rvs),29,0,false,true⟩),(1001,⟨.plain [.bool false],4,0,false,true⟩),(1002,⟨.plain [.vint .i64 (k:Int)],3,0,false,true⟩)]++tbM
def gvP (g:Gen):List (Nat×Blk):=(1003,⟨.plain [.vint .i64 g.det],2,0,false,true⟩)::gvM g 0
def gvT0 (g:Gen):List (Nat×AV):=[(1,.ptr 1000 0),(2,.ptr 1001 0),(3,.ptr 1002 0),(27,.fn 48 [.ptr 1003 0])]
def tgR:Option (AEx×Tr AV×Hs)→Tr AV
 |some (_,T,_)=>T
 |none=>.nil
def gvT1 (g:Gen)(x y:Int):Tr AV:=tgR (evCode EV callV noLo 75 999 [0] (rgA gvX) (trOf ((29,.vint .i64 y)::(28,.vint .i64 x)::gvT0 g)) (stH ⟨[],[],1200⟩ []))
theorem gv_body:Tryd.f6.body=some (preC gvL (.seq (.seq gvD (.block 0 (.rangeFunc (.tmp 27) #[28,29] (rgA gvX) (rgB gvX)))) gvR)):=by kernel_rfl
theorem gv_assign (g:Gen)(m:List (Nat×Blk))(x y:Int)(q:List Bool):evCode EV callV noLo 75 999 [0] (rgA gvX) (trOf ((29,.vint .i64 y)::(28,.vint .i64 x)::gvT0 g)) (stH ⟨[],m,1200⟩ q)=some (.normal,gvT1 g x y,stH ⟨[],m,1200⟩ q):=by kernel_rfl
theorem gv_s1:straight (preC gvL gvD)=true:=by kernel_rfl
theorem gv_s2:straight gvR=true:=by kernel_rfl
theorem gv_s3:straight (rgA gvX)=true:=by kernel_rfl
theorem gv_s4:straight (rgB gvX)=true:=by kernel_rfl
theorem gv_pre (g:Gen)(h1:1≤g.dim∧g.dim≤8)(h2:1≤g.det∧g.det≤10000):∃q ms,outA (evCode EV callV noLo 75 999 [] (preC gvL gvD) (Tr.ofList (RV.avl [.agg g.rvs])) ⟨trOf (tabList [off1]),1000,q,[]⟩) .normal ⟨gvT0 g,gvP g,1004⟩ 1000=some ms∧allP ms:=
 ⟨(tp 2222),[g.det=g.det,g.dim=g.dim,g.det=g.det,g.locs.length=g.locs.length∧(fun i=>(g.locs.getD i z0l).rvs)=fun i=>(g.locs.getD i z0l).rvs,(0:Int)=((0:Nat):Int),Dec (decide (g.det>10000)) false,Dec (decide (g.det<1)) false,Dec (decide (g.dim>8)) false,Dec (decide (g.dim<1)) false],by kernel_rfl,rfl,rfl,rfl,⟨rfl,rfl⟩,rfl,decide_eq_false (by omega),decide_eq_false (by omega),decide_eq_false (by omega),decide_eq_false (by omega)⟩
theorem gv_go2 (g:Gen)(k:Nat)(x y:Int)(hk:k<g.locs.length)(hp:(g.locs.getD k z0l).prime=x)(h2:x=2)(hi:icM (g.locs.getD k z0l).prime (g.locs.getD k z0l).list=true)(hL:okL (g.locs.getD k z0l).list)(hd:dmS (g.locs.getD k z0l).list=g.dim)(he:exS (g.locs.getD k z0l).list=y)(hD:0≤g.dim∧g.dim≤1000)(hy:0≤y∧y≤2147483647)(hn:g.locs.length≤1000):∃q ms rn,outS (evCode EV callV noLo 75 999 [1] (rgB gvX) (gvT1 g x y) (stH ⟨[],gvM g k,1200⟩ q)) .normal ⟨[],gvM g (k+1),1200⟩ 1004 rn=some ms∧allP ms:=by
 have e:outA (evCode EV callV noLo 75 999 [1] (rgB gvX) (gvT1 g x y) (stH ⟨[],gvM g k,1200⟩ [false,false,true,false,false,false])) .normal ⟨[],gvM g (k+1),1200⟩ 1004=some (let v1:=g.locs.getD k z0l;let v2:=consR v1.list.length fun i=>(v1.list.getD i z0c).rvs;[g.dim=g.dim,g.det=g.det,g.locs.length=g.locs.length∧(fun i=>(g.locs.getD i z0l).rvs)=fun i=>(g.locs.getD i z0l).rvs,IntKind.i64.wrap ((k:Int)+1)=((k+1:Nat):Int),Dec (!true) false,(∀(i:Nat),i<v1.list.length→(fun i=>(v1.list.getD i z0c).rvs) i=(Con.ofR ((fun i=>(v1.list.getD i z0c).rvs) i)).rvs)∧okL v2∧(0≤g.dim∧g.dim≤1000)∧(0≤y∧y≤2147483647)∧dmS v2=g.dim∧exS v2=y,Dec (x !=2) false,Dec (!icM v1.prime v2) false,(∀(i:Nat),i<v1.list.length→(fun i=>(v1.list.getD i z0c).rvs) i=(Con.ofR ((fun i=>(v1.list.getD i z0c).rvs) i)).rvs)∧v1.list.length≤1000,Dec (x==2) true,Dec (v1.prime !=x) false,(0:Int)≤(k:Int)∧(k:Int)<(g.locs.length:Int),Dec ((k:Int)==(g.locs.length:Int)) false]):=by kernel_rfl
 have c:=consR_ro (g.locs.getD k z0l).list
 refine⟨_,_,_,e,rfl,rfl,⟨rfl,rfl⟩,?_,rfl,⟨fun _ _=>rfl,?_,hD,hy,?_,?_⟩,?_,?_,⟨fun _ _=>rfl,hL.1⟩,?_,?_,⟨by omega,by omega⟩,?_⟩
 ·rw[w64 (by omega) (by omega)];omega
 ·rw[c];exact hL
 ·rw[c];exact hd
 ·rw[c];exact he
 ·show(x !=2)=false
  rw[h2];rfl
 ·show(!icM _ _)=false
  rw[c,hi];rfl
 ·show(x==2)=true
  rw[h2];rfl
 ·show(_ !=x)=false
  rw[hp];simp
 ·show((k:Int)==(g.locs.length:Int))=false
  exact beq_eq_false_iff_ne.2 (by omega)
theorem gv_gop (g:Gen)(k:Nat)(x y:Int)(hk:k<g.locs.length)(hp:(g.locs.getD k z0l).prime=x)(h2:x≠2)(hi:vaM (g.locs.getD k z0l).prime (g.locs.getD k z0l).list=true)(hL:okL (g.locs.getD k z0l).list)(hd:dmS (g.locs.getD k z0l).list=g.dim)(he:exS (g.locs.getD k z0l).list=y)(hD:0≤g.dim∧g.dim≤1000)(hy:0≤y∧y≤2147483647)(hn:g.locs.length≤1000):∃q ms rn,outS (evCode EV callV noLo 75 999 [1] (rgB gvX) (gvT1 g x y) (stH ⟨[],gvM g k,1200⟩ q)) .normal ⟨[],gvM g (k+1),1200⟩ 1004 rn=some ms∧allP ms:=by
 have e:outA (evCode EV callV noLo 75 999 [1] (rgB gvX) (gvT1 g x y) (stH ⟨[],gvM g k,1200⟩ [false,false,false,true,false,false])) .normal ⟨[],gvM g (k+1),1200⟩ 1004=some (let v1:=g.locs.getD k z0l;let v2:=consR v1.list.length fun i=>(v1.list.getD i z0c).rvs;[g.dim=g.dim,g.det=g.det,g.locs.length=g.locs.length∧(fun i=>(g.locs.getD i z0l).rvs)=fun i=>(g.locs.getD i z0l).rvs,IntKind.i64.wrap ((k:Int)+1)=((k+1:Nat):Int),Dec (!true) false,(∀(i:Nat),i<v1.list.length→(fun i=>(v1.list.getD i z0c).rvs) i=(Con.ofR ((fun i=>(v1.list.getD i z0c).rvs) i)).rvs)∧okL v2∧(0≤g.dim∧g.dim≤1000)∧(0≤y∧y≤2147483647)∧dmS v2=g.dim∧exS v2=y,Dec (!vaM v1.prime v2) false,(∀(i:Nat),i<v1.list.length→(fun i=>(v1.list.getD i z0c).rvs) i=(Con.ofR ((fun i=>(v1.list.getD i z0c).rvs) i)).rvs)∧v1.list.length≤1000,Dec (x !=2) true,Dec (x==2) false,Dec (v1.prime !=x) false,(0:Int)≤(k:Int)∧(k:Int)<(g.locs.length:Int),Dec ((k:Int)==(g.locs.length:Int)) false]):=by kernel_rfl
 have c:=consR_ro (g.locs.getD k z0l).list
 refine⟨_,_,_,e,rfl,rfl,⟨rfl,rfl⟩,?_,rfl,⟨fun _ _=>rfl,?_,hD,hy,?_,?_⟩,?_,⟨fun _ _=>rfl,hL.1⟩,?_,?_,?_,⟨by omega,by omega⟩,?_⟩
 ·rw[w64 (by omega) (by omega)];omega
 ·rw[c];exact hL
 ·rw[c];exact hd
 ·rw[c];exact he
 ·show(!vaM _ _)=false
  rw[c,hi];rfl
 ·show(x !=2)=true
  simpa using h2
 ·show(x==2)=false
  exact beq_eq_false_iff_ne.2 h2
 ·show(_ !=x)=false
  rw[hp];simp
 ·show((k:Int)==(g.locs.length:Int))=false
  exact beq_eq_false_iff_ne.2 (by omega)
theorem gv_post (g:Gen)(k:Nat)(hk:k=g.locs.length):∃q ms,outR (postF EV callV 75 Tryd.f6 gvR (gvT0 g) (.normal,gvM g k) 1200 q) (.bool true)=some ms∧allP ms:=by
 have e:outR (postF EV callV 75 Tryd.f6 gvR (gvT0 g) (.normal,gvM g k) 1200 []) (.bool true)=some [((k:Int)==(g.locs.length:Int))=true]:=by kernel_rfl
 refine⟨_,_,e,?_⟩
 show((k:Int)==(g.locs.length:Int))=true
 rw[hk];exact beq_self_eq_true _
structure VdH (g:Gen):Prop where
 dim:1≤g.dim∧g.dim≤8
 det:1≤g.det∧g.det≤10000
 len:g.locs.length=(fac (2*g.det.toNat)).length
 pr:∀k,k<g.locs.length→(g.locs.getD k z0l).prime=(prW (fac (2*g.det.toNat)) k).1
 k2:∀k,k<g.locs.length→(g.locs.getD k z0l).prime=2→icM (g.locs.getD k z0l).prime (g.locs.getD k z0l).list=true
 kp:∀k,k<g.locs.length→(g.locs.getD k z0l).prime≠2→vaM (g.locs.getD k z0l).prime (g.locs.getD k z0l).list=true
 ok:∀k,k<g.locs.length→okL (g.locs.getD k z0l).list∧dmS (g.locs.getD k z0l).list=g.dim∧exS (g.locs.getD k z0l).list=(prW (fac (2*g.det.toNat)) k).2∧0≤(prW (fac (2*g.det.toNat)) k).2∧(prW (fac (2*g.det.toNat)) k).2≤2147483647
theorem gv_sub (g:Gen):∀b k,(trOf (gvM g 0)).get b=some k→(trOf (gvP g)).get b=some k:=by
 intro b k h
 have hm:=trOf_get _ _ _ (by kernel_rfl) h
 have hm:(b,k)∈[((1000:Nat),(⟨.plain (RV.avl g.rvs),29,0,false,true⟩:Blk)),(1001,⟨.plain [.bool false],4,0,false,true⟩),(1002,⟨.plain [.vint .i64 ((0:Nat):Int)],3,0,false,true⟩),(0,off1.blk)]:=hm
 simp only[List.mem_cons,List.not_mem_nil,or_false,Prod.mk.injEq]at hm
 rcases hm with⟨rfl,rfl⟩|⟨rfl,rfl⟩|⟨rfl,rfl⟩|⟨rfl,rfl⟩<;>(show _=some _;kernel_rfl)
theorem valid_true (g:Gen)(h:VdH g):PureC Tryd.prog [off1] 6 [.agg g.rvs] (.bool true):=by
 obtain⟨P,hP⟩:∃P,P=fac (2*g.det.toNat):=⟨_,rfl⟩
 have hdet:=h.det
 have hdim:=h.dim
 have hit:=prm_iter g.det.toNat (by omega) (by omega)
 rw[show((g.det.toNat:Nat):Int)=g.det by omega,←hP]at hit
 have hlen:=h.len
 have hpr:=h.pr
 have hok:=h.ok
 rw[←hP]at hlen hpr hok
 have hn:P.length≤1000:=by
  rw[hP]
  exact Nat.le_trans (facG_len 40 (2*g.det.toNat)) (by omega)
 refine pure_rf2 evOk (callF_ok evOk (orcOf_ok entsVd_ok) 8) Tryd.func6 gv_body gv_s1 gv_s2 gv_s3 gv_s4 (Nat.le_of_ble_eq_true (by kernel_rfl)) (N:=75) (by kernel_rfl) (tabs:=[off1]) (by kernel_rfl) (by kernel_rfl) evNg
  hit (Go.Proofs.enters_of Tryd.func48 (by kernel_rfl) rfl)
  (T0:=gvT0 g) (pre:=gvP g) (bd:=1003) (nx0:=1004) (nx1:=1200) (by omega) (by omega) (gv_pre g hdim hdet)
  (fun k=>gvM g k) (.normal,gvM g P.length) P.length
  (by kernel_rfl) (by omega) (by omega) (by kernel_rfl) (by kernel_rfl) (by kernel_rfl) (by intro t ht;simp only[List.mem_cons,List.not_mem_nil,or_false]at ht;subst ht;kernel_rfl) (gv_sub g) (gvT1 g) (fun k x y q=>gv_assign g _ x y q) ?_ ?_ (gv_post g _ hlen.symm)
 ·intro k x hx hk
  have e:x=prW P k:=by
   rw[prL_get hk]at hx
   exact(Option.some.inj hx).symm
  subst e
  obtain⟨a1,a2,a3,a4,a5⟩:=hok k (by omega)
  have ap:=hpr k (by omega)
  by_cases h2:(g.locs.getD k z0l).prime=2
  ·exact gv_go2 g k _ _ (by omega) ap (by rw[←ap];exact h2) (h.k2 k (by omega) h2) a1 a2 a3 ⟨by omega,by omega⟩ ⟨a4,a5⟩ (by omega)
  ·exact gv_gop g k _ _ (by omega) ap (by rw[←ap];exact h2) (h.kp k (by omega) h2) a1 a2 a3 ⟨by omega,by omega⟩ ⟨a4,a5⟩ (by omega)
 ·exact .inl ⟨(prL_len P).symm,rfl⟩
def exB (d:Nat)(Q:List Pow):Bool:=(List.range Q.length).all fun k=>decide ((prW Q k).2=((vv (prW Q k).1.toNat d).1:Int))
noncomputable def okG (n d:Nat)(Q:List Pow)(X:List Gen):Bool:=
 Nat.ble Q.length 3&&Nat.ble 1 Q.length&&(Q.drop 1).all (fun q=>Nat.ble 2 q.prime.toNat&&Nat.ble q.prime.toNat 2147483647&&!Nat.beq (q.prime.toNat%2) 0)&&
 ((lsQ n d Q).all fun l=>Nat.ble l.length 50000&&l.all fun x=>Nat.ble 1 x.list.length&&Nat.ble x.list.length 1000)&&
 (!(geO n d (lsQ n d Q)).isNone&&(Nat.ble X.length 64&&Nat.ble 1 X.length&&
 (X.all (fun g=>Nat.ble g.locs.length 1000&&(g.locs.all (fun l=>Nat.ble l.list.length 1000)&&icM 2 (g.locs.getD 0 QfSy.Loc.zero).list))&&(ascG (srtG X)&&exB d Q))))
theorem gnF_all {R:Gen→Prop}{n D:Int}{C:List QfSy.Loc}{o:GnO}(hR:∀C,ckM ⟨n,D,C⟩=0→R ⟨n,D,C⟩)(h:∀g∈gnL o,R g):∀g∈gnL (gnF n D C o),R g:=by
 unfold gnF
 cases hb:decide (ckM ⟨n,D,C⟩=0)with
 |false=>exact h
 |true=>
  intro g hg
  have hg:g∈gnL o++[⟨n,D,C⟩]:=hg
  rcases List.mem_append.1 hg with hg|hg
  ·exact h g hg
  ·simp only[List.mem_cons,List.not_mem_nil,or_false]at hg
   subst hg
   exact hR C (of_decide_eq_true hb)
theorem gnM_all {R:Gen→Prop}{n D:Int}{Ls:List (List QfSy.Loc)}(hR:∀C,ckM ⟨n,D,C⟩=0→R ⟨n,D,C⟩):∀(r i:Nat)(s:List QfSy.Loc×GnO),(∀g∈gnL s.2,R g)→∀g∈gnL (gnM n D Ls r i s).2,R g
 |0,i,s,h=>gnF_all hR h
 |r+1,i,s,h=>by
  rw[gnM_s]
  generalize Ls.getD i []=l
  induction l generalizing s with
  |nil=>exact h
  |cons c l ih=>
   rw[List.foldl_cons]
   refine ih _ ?_
   unfold gnP
   cases Nat.blt 64 (gnL s.2).length with
   |true=>exact h
   |false=>exact gnM_all hR r (i+1) _ h
structure OrdH (n d:Nat)(L:List Gen):Prop where
 asc:ascG L=true
 pos:0<L.length
 len:L.length≤64
 al:∀g∈L,g.dim=(n:Int)∧g.det=(d:Int)∧ckM g=0∧VdH g∧bG g
theorem range_all {n:Nat}{p:Nat→Bool}(h:(List.range n).all p=true){k:Nat}(hk:k<n):p k=true:=List.all_eq_true.1 h k (List.mem_range.2 hk)
theorem okG_all {n d:Nat}{X:List Gen}(hn:1≤n∧n≤8)(hd:0<d∧d≤10000)(hX:X=geX n d (fac (2*d)))(h:okG n d (fac (2*d)) X=true):GeH n d (fac (2*d))∧OrdH n d (srtG X)∧(fac (2*d)).length≤3∧1≤(fac (2*d)).length:=by
 obtain⟨Q,hQ⟩:∃Q,Q=fac (2*d):=⟨_,rfl⟩
 rw[←hQ]at h hX⊢
 unfold okG at h
 simp only[Bool.and_eq_true,Bool.not_eq_true']at h
 obtain⟨⟨⟨⟨h1,h1'⟩,h2⟩,h3⟩,h4,⟨h5,h6⟩,h7,h8,h9⟩:=h
 have h1:=Nat.le_of_ble_eq_true h1
 have h1':=Nat.le_of_ble_eq_true h1'
 have h5:=Nat.le_of_ble_eq_true h5
 have h6:=Nat.le_of_ble_eq_true h6
 have hbd:∀g∈X,bG g∧icM 2 (g.locs.getD 0 QfSy.Loc.zero).list=true:=by
  intro g hg
  have:=List.all_eq_true.1 h7 g hg
  simp only[Bool.and_eq_true]at this
  obtain⟨a1,a2,a3⟩:=this
  exact⟨⟨Nat.le_of_ble_eq_true a1,fun l hl=>Nat.le_of_ble_eq_true (List.all_eq_true.1 a2 l hl)⟩,a3⟩
 have hck:∀g∈X,g.dim=(n:Int)∧g.det=(d:Int)∧ckM g=0:=by
  rw[hX]
  exact gnM_all (R:=fun g=>g.dim=(n:Int)∧g.det=(d:Int)∧ckM g=0) (fun C hC=>⟨rfl,rfl,hC⟩) _ _ _ (fun g hg=>by cases hg)
 have hpm:=srt_perm X
 have hlen:(srtG X).length=X.length:=hpm.length_eq
 refine⟨⟨hn,hd,hQ.symm,?_,?_,h4,?_,?_,?_⟩,⟨h8,by omega,by omega,?_⟩,h1,h1'⟩
 ·intro q hq
  have:=List.all_eq_true.1 h2 q hq
  simp only[Bool.and_eq_true,Bool.not_eq_true']at this
  obtain⟨⟨a1,a2⟩,a3⟩:=this
  exact⟨Nat.le_of_ble_eq_true a1,Nat.le_of_ble_eq_true a2,Nat.ne_of_beq_eq_false a3⟩
 ·intro l hl
  have:=List.all_eq_true.1 h3 l hl
  simp only[Bool.and_eq_true]at this
  refine⟨fun x hx=>?_,Nat.le_of_ble_eq_true this.1⟩
  have:=List.all_eq_true.1 this.2 x hx
  simp only[Bool.and_eq_true]at this
  exact⟨Nat.le_of_ble_eq_true this.1,Nat.le_of_ble_eq_true this.2⟩
 ·rw[←hX];exact fun g hg=>(hbd g hg).1
 ·rw[←hX];omega
 ·rw[←hX];exact .inr ⟨fun e=>by rw[e]at h6;simp at h6,h8⟩
 ·intro g hg
  have hg:=hpm.subset hg
  obtain⟨b1,b2⟩:=hbd g hg
  obtain⟨c1,c2,c3⟩:=hck g hg
  refine⟨c1,c2,c3,?_,b1⟩
  have hs:shM g=true:=by
   cases hs:shM g with
   |true=>rfl
   |false=>unfold ckM at c3;rw[hs]at c3;simp at c3
  obtain⟨s1,s2,s3,s4,s5,s6⟩:=(shM_p g).1 hs
  have ed:g.det.toNat=d:=by omega
  have e2:(2*g.det).toNat=2*d:=by omega
  rw[e2,←hQ]at s5 s6
  have hsh:=fun k (hk:k<g.locs.length)=>shAll_at s6 k (by omega)
  have hshB:∀k,k<g.locs.length→(g.locs.getD k QfSy.Loc.zero).prime=(Q.getD k Pow.zero).prime∧kindM (g.locs.getD k QfSy.Loc.zero)=true∧dmS (g.locs.getD k QfSy.Loc.zero).list=g.dim∧((vv (g.locs.getD k QfSy.Loc.zero).prime.toNat g.det.toNat).1:Int)=exS (g.locs.getD k QfSy.Loc.zero).list:=by
   intro k hk
   have:=hsh k hk
   unfold shB at this
   simp only[Bool.and_eq_true,decide_eq_true_eq]at this
   exact⟨this.1,this.2.1,this.2.2.1,this.2.2.2⟩
  have hex:∀k,k<g.locs.length→(prW Q k).2=((vv (prW Q k).1.toNat d).1:Int):=fun k hk=>by
   have:=range_all h9 (k:=k) (by omega)
   exact of_decide_eq_true this
  refine⟨⟨s1,s2⟩,⟨s3,s4⟩,by rw[ed,←hQ];omega,?_,?_,?_,?_⟩
  ·intro k hk
   rw[ed,←hQ]
   exact(hshB k hk).1
  ·intro k hk hp
   have hk0:k=0:=by
    rcases Nat.eq_zero_or_pos k with h|h
    ·exact h
    ·exfalso
     have hpr:=(hshB k hk).1
     rw[hp]at hpr
     have hq:Q.getD k Pow.zero∈Q.drop 1:=by
      rw[List.getD_eq_getElem?_getD,List.getElem?_eq_getElem (by omega)]
      rw[List.mem_iff_getElem]
      exact⟨k-1,by rw[List.length_drop];omega,by rw[List.getElem_drop];congr 1;omega⟩
     have:=List.all_eq_true.1 h2 _ hq
     simp only[Bool.and_eq_true,Bool.not_eq_true']at this
     rw[←hpr]at this
     exact Nat.ne_of_beq_eq_false this.2 rfl
   subst hk0
   rw[hp];exact b2
  ·intro k hk hp
   have:=(hshB k hk).2.1
   unfold kindM at this
   rw[show decide ((g.locs.getD k QfSy.Loc.zero).prime=2)=false from decide_eq_false hp]at this
   exact this
  ·intro k hk
   obtain⟨t1,t2,t3,t4⟩:=hshB k hk
   rw[ed,←hQ]
   have hx:=hex k hk
   have hv:(vv (prW Q k).1.toNat d).1≤40:=vG_40 40 _ _
   refine⟨kind_okL t2,t3,?_,by omega,by omega⟩
   rw[hx,←t4,ed]
   congr 2
   rw[t1];rfl
noncomputable def okN (n d:Nat):Bool:=okG n d (fac (2*d)) (geX n d (fac (2*d)))
noncomputable def okR (n a:Nat):Nat→Bool
 |0=>true
 |m+1=>okN n a&&okR n (a+1) m
theorem okR_at:∀{m n a d:Nat},okR n a m=true→a≤d→d<a+m→okN n d=true
 |0,n,a,d,h,h1,h2=>by omega
 |m+1,n,a,d,h,h1,h2=>by
  unfold okR at h
  simp only[Bool.and_eq_true]at h
  rcases Nat.eq_or_lt_of_le h1 with e|h3
  ·rw[←e];exact h.1
  ·exact okR_at h.2 h3 (by omega)
def srtX (n d:Nat):List Gen:=srtG (geX n d (fac (2*d)))
theorem ge_pure (n d:Nat)(hn:1≤n∧n≤8)(hd:0<d∧d≤10000)(h:okN n d=true):PureC Tryd.prog [off1] 4 [.int .i64 (n:Int),.int .i64 (d:Int)] (.tup [slV .gen (srtX n d),.int .i64 0])∧OrdH n d (srtX n d):=by
 obtain⟨hG,hO,hl,hp⟩:=okG_all hn hd rfl h
 refine⟨?_,hO⟩
 have hlen:(geX n d (fac (2*d))).length≤64:=by
  have:=(srt_perm (geX n d (fac (2*d)))).length_eq
  have:=hO.len
  omega
 have e1:geL (geX n d (fac (2*d)))=srtX n d:=ge_L1 (by omega)
 have e2:geE (geX n d (fac (2*d)))=0:=ge_E1 (by omega)
 have key:PureC Tryd.prog [off1] 4 [.int .i64 (n:Int),.int .i64 (d:Int)] (.tup [slV .gen (geL (geX n d (fac (2*d)))),.int .i64 (geE (geX n d (fac (2*d))))]):=by
  generalize fac (2*d)=Q at hG hl hp
  match Q,hG,hl,hp with
  |[],_,_,hp=>simp at hp
  |[q0],hG,_,_=>exact ge_0 n d q0 hG
  |[q0,q1],hG,_,_=>exact ge_1 n d q0 q1 hG
  |[q0,q1,q2],hG,_,_=>exact ge_2 n d q0 q1 q2 hG
  |_::_::_::_::_,_,hl,_=>exact absurd hl (by simp only[List.length_cons];omega)
 rw[e1,e2]at key
 exact key
structure AwH (A B:List Gen):Prop where
 g1:PureC Tryd.prog [off1] 4 [.int .i64 2,.int .i64 1] (.tup [slV .gen A,.int .i64 0])
 g3:PureC Tryd.prog [off1] 4 [.int .i64 2,.int .i64 3] (.tup [slV .gen B,.int .i64 0])
 la:A.length=1
 lb:B.length=2
 ck:ckM (A.getD 0 Gen.zero)=0
 bd:bG (A.getD 0 Gen.zero)
theorem gen_ok (g:Gen):(⟨g.dim,g.det,locsR g.locs.length (fun i=>(g.locs.getD i z0l).rvs)⟩:Gen)=g:=gen_ro g
def entsAw (A B:List Gen):List OEnt:=[
 ⟨4,[off1],fun X=>match X with
  |[.int .i64 a,.int .i64 b]=>some (.tup [slV .gen (bif Nat.beq b.toNat 1 then A else B),.int .i64 0],[a=2∧(b=1∨b=3)])
  |_=>none⟩,
 ⟨7,[off1],fun X=>match X with
  |[.agg [.int .i64 a,.int .i64 b,.sl n 2 row]]=>some (.int .i64 (ckM ⟨a,b,locsR n row⟩),[(∀i,i<n→row i=Rty.loc.rvs (Rty.loc.of (row i)))∧n≤1000∧∀l∈locsR n row,l.list.length≤1000])
  |_=>none⟩]
theorem entsAw_ok {A B:List Gen}(h:AwH A B):∀e∈entsAw A B,EntOk Tryd.prog e:=by
 intro e he
 simp only[entsAw,List.mem_cons,List.not_mem_nil,or_false]at he
 rcases he with rfl|rfl
 all_goals
  intro X R ms hq hm
  simp only at hq
  split at hq
  all_goals first|(cases hq;done)|cases hq
 ·obtain⟨rfl,h1|h1⟩:=all_one hm
  ·subst h1;exact h.g1
  ·subst h1;exact h.g3
 ·obtain⟨h1,h2,h3⟩:=all_one hm
  exact PureC.imp (check_pure ⟨_,_,locsR _ _⟩ (by simpa [locsR]using h2) h3) (.cons (.agg (.cons .same (.cons .same (.cons (RImp.vals .loc h1) .nil)))) .nil)
theorem aw_pure (A B:List Gen)(hA:AwH A B):PureC Tryd.prog [off1] 5 [] (.bool true):=by
 have z1:((0:Int)==0)=true:=rfl
 have z2:((((bif(Int.toNat (1:Int)).beq (1:Nat)then A else B).length:Nat):Int)==1)=true:=by show(((A.length:Nat):Int)==1)=true;rw[hA.la];rfl
 have z3:((((bif(Int.toNat (3:Int)).beq (1:Nat)then A else B).length:Nat):Int)==2)=true:=by show(((B.length:Nat):Int)==2)=true;rw[hA.lb];rfl
 have hla:=hA.la
 have hg:=gen_ok (A.getD 0 Gen.zero)
 have rr:=fun(tp:List Bool)(ms:List Prop)h hm=>pure_run evOk (callF_ok evOk (orcOf_ok (entsAw_ok hA)) 8) Tryd.func5 (A:=[]) rfl none_ann rfl rfl evNg (tabs:=[off1]) (R:=.bool true) (tp:=tp) (ms:=ms) h hm
 refine rr (tp 1111) (let s1:=(bif(Int.toNat (1:Int)).beq (1:Nat)then A else B).getD (Int.toNat (0:Int)) Rty.gen.zero;let s2:=(↑(bif(Int.toNat (1:Int)).beq (1:Nat)then A else B).length:Int);[(ckM (Gen.mk s1.dim s1.det (locsR s1.locs.length fun i=>(s1.locs.getD i z0l).rvs))==0)=true,(∀(i:Nat),i<s1.locs.length→(fun i=>(s1.locs.getD i z0l).rvs) i=Rty.loc.rvs (Rty.loc.of ((fun i=>(s1.locs.getD i z0l).rvs) i)))∧s1.locs.length≤1000∧∀(l:QfSy.Loc),(l∈locsR s1.locs.length fun i=>(s1.locs.getD i z0l).rvs)→l.list.length≤1000,(0:Int)≤0∧(0:Int)<s2,Dec ((↑(bif(Int.toNat (3:Int)).beq (1:Nat)then A else B).length:Int)==2) true,Dec (s2==1) true,Dec ((0:Int)==0) true,Dec ((0:Int)==0) true,(2:Int)=2∧((3:Int)=1∨(3:Int)=3),(2:Int)=2∧((1:Int)=1∨(1:Int)=3)]) (by kernel_rfl) ⟨?_,?_,?_,z3,z2,z1,z1,?_,(?_:(2:Int)=2∧((1:Int)=1∨(1:Int)=3))⟩
 all_goals first|(first|(with_reducible rfl)|exact⟨rfl,.inl rfl⟩|exact⟨rfl,.inr rfl⟩|(show(0:Int)≤0∧(0:Int)<((A.length:Nat):Int);omega)|(refine⟨loc_rows (A.getD 0 Gen.zero).locs,hA.bd.1,?_⟩;show∀l∈locsR (A.getD 0 Gen.zero).locs.length (fun i=>((A.getD 0 Gen.zero).locs.getD i z0l).rvs),l.list.length≤1000;rw[locsR_ro];exact hA.bd.2)|(show(ckM (Gen.mk (A.getD 0 Gen.zero).dim (A.getD 0 Gen.zero).det (locsR (A.getD 0 Gen.zero).locs.length fun i=>((A.getD 0 Gen.zero).locs.getD i z0l).rvs))==0)=true;rw[hg,hA.ck];rfl))
def entsOd (n d:Nat)(L:List Gen):List OEnt:=[
 ⟨4,[off1],fun X=>match X with
  |[.int .i64 a,.int .i64 b]=>some (.tup [slV .gen L,.int .i64 0],[a=(n:Int)∧b=(d:Int)])
  |_=>none⟩,
 ⟨5,[off1],fun X=>match X with
  |[]=>some (.bool true,[])
  |_=>none⟩,
 ⟨6,[off1],fun X=>match X with
  |[.agg [.int .i64 a,.int .i64 b,.sl m 2 row]]=>some (.bool true,[(∀i,i<m→row i=Rty.loc.rvs (Rty.loc.of (row i)))∧VdH ⟨a,b,locsR m row⟩])
  |_=>none⟩,
 ⟨7,[off1],fun X=>match X with
  |[.agg [.int .i64 a,.int .i64 b,.sl m 2 row]]=>some (.int .i64 (ckM ⟨a,b,locsR m row⟩),[(∀i,i<m→row i=Rty.loc.rvs (Rty.loc.of (row i)))∧m≤1000∧∀l∈locsR m row,l.list.length≤1000])
  |_=>none⟩,
 ⟨8,[],fun X=>match X with
  |[.agg [.int .i64 a,.int .i64 b,.sl m 2 row],.agg [.int .i64 a',.int .i64 b',.sl m' 2 row']]=>some (.int .i64 (cmpGn ⟨a,b,locsR m row⟩ ⟨a',b',locsR m' row'⟩),[(∀i,i<m→row i=Rty.loc.rvs (Rty.loc.of (row i)))∧(∀i,i<m'→row' i=Rty.loc.rvs (Rty.loc.of (row' i)))∧bG ⟨a,b,locsR m row⟩∧bG ⟨a',b',locsR m' row'⟩])
  |_=>none⟩]
structure OdH (n d:Nat)(L:List Gen):Prop where
 ge:PureC Tryd.prog [off1] 4 [.int .i64 (n:Int),.int .i64 (d:Int)] (.tup [slV .gen L,.int .i64 0])
 aw:PureC Tryd.prog [off1] 5 [] (.bool true)
theorem entsOd_ok {n d:Nat}{L:List Gen}(h:OdH n d L):∀e∈entsOd n d L,EntOk Tryd.prog e:=by
 intro e he
 simp only[entsOd,List.mem_cons,List.not_mem_nil,or_false]at he
 rcases he with rfl|rfl|rfl|rfl|rfl
 all_goals
  intro X R ms hq hm
  simp only at hq
  split at hq
  all_goals first|(cases hq;done)|cases hq
 ·obtain⟨rfl,rfl⟩:=all_one hm
  exact h.ge
 ·exact h.aw
 ·obtain⟨h1,h2⟩:=all_one hm
  exact PureC.imp (valid_true ⟨_,_,locsR _ _⟩ h2) (.cons (.agg (.cons .same (.cons .same (.cons (RImp.vals .loc h1) .nil)))) .nil)
 ·obtain⟨h1,h2,h3⟩:=all_one hm
  exact PureC.imp (check_pure ⟨_,_,locsR _ _⟩ (by simpa [locsR]using h2) h3) (.cons (.agg (.cons .same (.cons .same (.cons (RImp.vals .loc h1) .nil)))) .nil)
 ·obtain⟨h1,h2,h3,h4⟩:=all_one hm
  exact PureC.imp (gcmp_pure ⟨_,_,locsR _ _⟩ ⟨_,_,locsR _ _⟩ h3 h4) (.cons (.agg (.cons .same (.cons .same (.cons (RImp.vals .loc h1) .nil)))) (.cons (.agg (.cons .same (.cons .same (.cons (RImp.vals .loc h2) .nil)))) .nil))
def odT (x y:Int)(L:List Gen)(k:AV):List (Nat×AV):=[(0,.vint .u8 x),(1,.vint .u8 y),(5,(slV .gen L).av),(33,(slV .gen L).av),(34,.vint .i64 (L.length:Int)),(35,k)]
def odA (x y:Int)(L:List Gen):Ann:=⟨⟨odT x y L (.int .i64 0),tbM,1100⟩,none,fun _=>(.exit 0,⟨[(5,(slV .gen L).av)],tbM,1100⟩)⟩
theorem od_at {n d:Nat}{L:List Gen}(hO:OrdH n d L){k:Nat}(hk:k<L.length):(L.getD k Gen.zero).dim=(n:Int)∧(L.getD k Gen.zero).det=(d:Int)∧ckM (L.getD k Gen.zero)=0∧VdH (L.getD k Gen.zero)∧bG (L.getD k Gen.zero):=by
 rw[List.getD_eq_getElem?_getD,List.getElem?_eq_getElem hk]
 exact hO.al _ (List.getElem_mem hk)
theorem od_lt {n d:Nat}{L:List Gen}(hO:OrdH n d L){k:Nat}(h0:0<k)(hk:k<L.length):cmpGn (L.getD (k-1) Gen.zero) (L.getD k Gen.zero)<0:=by
 have e:∀j (h:j<L.length),L.getD j Gen.zero=L[j]:=fun j h=>by rw[List.getD_eq_getElem?_getD,List.getElem?_eq_getElem h];rfl
 rw[e k hk,e (k-1) (by omega)]
 exact List.pairwise_iff_getElem.1 (asc_pw hO.asc) (k-1) k (by omega) hk (by omega)
theorem wk_1 {k:Nat}(h0:0<k)(hk:k≤1000):(w6.wrap ((k:Int)-1)).toNat=k-1:=by rw[w64 (by omega) (by omega)];omega
theorem wx4 {x n:Int}(hx:0≤x∧x≤255)(hn:n=1+x%4):w6.wrap (1+(w6.wrap x).tmod 4)=n:=by
 rw[w64 (n:=x) (by omega) (by omega),Int.tmod_eq_emod_of_nonneg hx.1,w64 (by omega) (by omega)];exact hn.symm
theorem wy60 {x n:Int}(hx:0≤x∧x≤255)(hn:n=1+x%60):w6.wrap (1+(w6.wrap x).tmod 60)=n:=by
 rw[w64 (n:=x) (by omega) (by omega),Int.tmod_eq_emod_of_nonneg hx.1,w64 (by omega) (by omega)];exact hn.symm
theorem od_loop (x y:Int)(n d:Nat)(L:List Gen)(hO:OrdH n d L)(hH:OdH n d L)(hx:0≤x∧x≤255)(hy:0≤y∧y≤255)(hN:(n:Int)=1+x%4)(hM:(d:Int)=1+y%60):AnnOk Tryd.prog EV.ng (Nat.max 2 Tryd.f3.ntmps) (bodyAt Tryd.f3 [0,1,0,1,1,1]) (odA x y L):=by
 refine ann_of evOk (callF_ok evOk (orcOf_ok (entsOd_ok hH)) 8) none_ann (by kernel_rfl) (by kernel_rfl) (fun i:Nat=>(fun(k:Nat)=>(⟨odT x y L (.vint .i64 (k:Int)),tbM,1100⟩:St)) i) (fun i:Nat=>(fun(k:Nat)=>(L.length-k:Nat)) i) (fun(d:Bool)(i:Nat)=>(fun(k:Nat)=>(k≤L.length:Prop)) i) ?_ ?_
 ·intro d hd
  exact⟨(0),[x=x,y=y,L.length=L.length∧(fun i=>Rty.gen.rvs (L.getD i Rty.gen.zero))=fun i=>Rty.gen.rvs (L.getD i Rty.gen.zero),L.length=L.length∧(fun i=>Rty.gen.rvs (L.getD i Rty.gen.zero))=fun i=>Rty.gen.rvs (L.getD i Rty.gen.zero),rq (↑L.length:Int),(0:Int)=↑(0:Nat)],by kernel_rfl,(by refine⟨?_,?_,?_,?_,?_,(?_:(0:Int)=↑(0:Nat))⟩<;>(first|(with_reducible rfl)|exact⟨rfl,rfl⟩|rfl)),(by exact Nat.zero_le _)⟩
 ·rintro d hd k hI
  cases d
  ·exact Bool.noConfusion (show false=true from hd)
  ·have hlen:=hO.len
   have hk0:k≤L.length:=hI
   have wx:=wx4 hx hN
   have wy:=wy60 hy hM
   have ek:w6.wrap ((k:Int)+1)=((k+1:Nat):Int):=by rw[w64 (by omega) (by omega)];omega
   refine(let x1:List Prop→List Prop:=fun l0=>(x=x)::(y=y)::(L.length=L.length∧(fun i=>Rty.gen.rvs (L.getD i Rty.gen.zero))=fun i=>Rty.gen.rvs (L.getD i Rty.gen.zero))::(L.length=L.length∧(fun i=>Rty.gen.rvs (L.getD i Rty.gen.zero))=fun i=>Rty.gen.rvs (L.getD i Rty.gen.zero))::rq (↑L.length:Int)::(w6.wrap ((↑k:Int)+1)=↑(k+1))::l0;oe (decide ((↑k:Int)<↑L.length)) (fun d1=>let y1:List Prop:=[(4:Int)≠(0:Int),(0:Int)≤↑k∧(↑k:Int)<↑L.length,ty d1];have t1:allP y1:=⟨?_,?_,d1⟩;oe ((L.getD k Rty.gen.zero).dim==w6.wrap ((1:Int)+(w6.wrap x).tmod (4:Int))) (fun d2=>oe ((L.getD k Rty.gen.zero).det==w6.wrap ((1:Int)+(w6.wrap y).tmod (60:Int))) (fun d3=>let y2:List Prop:=(let v1:=L.getD k Rty.gen.zero;((∀(i:Nat),i<v1.locs.length→(fun i=>(v1.locs.getD i z0l).rvs) i=Rty.loc.rvs (Rty.loc.of ((fun i=>(v1.locs.getD i z0l).rvs) i)))∧VdH (Gen.mk v1.dim v1.det (locsR v1.locs.length fun i=>(v1.locs.getD i z0l).rvs)))::ty (dN d3)::((60:Int)≠(0:Int))::ty (dN d2)::y1);have t2:allP y2:=⟨?_,(dN d3),?_,(dN d2),t1⟩;oe (true) (fun d4=>let y3:List Prop:=(let v1:=L.getD k Rty.gen.zero;((∀(i:Nat),i<v1.locs.length→(fun i=>(v1.locs.getD i z0l).rvs) i=Rty.loc.rvs (Rty.loc.of ((fun i=>(v1.locs.getD i z0l).rvs) i)))∧v1.locs.length≤1000∧∀(l:QfSy.Loc),(l∈locsR v1.locs.length fun i=>(v1.locs.getD i z0l).rvs)→l.list.length≤1000)::ty (dN d4)::y2);have t3:allP y3:=⟨?_,(dN d4),t2⟩;oe (ckM (Gen.mk (L.getD k Rty.gen.zero).dim (L.getD k Rty.gen.zero).det (locsR (L.getD k Rty.gen.zero).locs.length fun i=>((L.getD k Rty.gen.zero).locs.getD i z0l).rvs))==0) (fun d5=>oe (decide ((↑k:Int)>0)) (fun d6=>oe (decide (cmpGn (Gen.mk (L.getD (w6.wrap ((↑k:Int)-1)).toNat Rty.gen.zero).dim (L.getD (w6.wrap ((↑k:Int)-1)).toNat Rty.gen.zero).det (locsR (L.getD (w6.wrap ((↑k:Int)-1)).toNat Rty.gen.zero).locs.length fun i=>((L.getD (w6.wrap ((↑k:Int)-1)).toNat Rty.gen.zero).locs.getD i z0l).rvs)) (Gen.mk (L.getD k Rty.gen.zero).dim (L.getD k Rty.gen.zero).det (locsR (L.getD k Rty.gen.zero).locs.length fun i=>((L.getD k Rty.gen.zero).locs.getD i z0l).rvs))≥0)) (fun d7=>CtG.no ?_)
    (fun d7=>lfI (tp 1222212) (k+1) (x1 (let v1:=L.getD (w6.wrap ((↑k:Int)-1)).toNat Rty.gen.zero;let v2:=L.getD k Rty.gen.zero;ty d7::((∀(i:Nat),i<v1.locs.length→(fun i=>(v1.locs.getD i z0l).rvs) i=Rty.loc.rvs (Rty.loc.of ((fun i=>(v1.locs.getD i z0l).rvs) i)))∧(∀(i:Nat),i<v2.locs.length→(fun i=>(v2.locs.getD i z0l).rvs) i=Rty.loc.rvs (Rty.loc.of ((fun i=>(v2.locs.getD i z0l).rvs) i)))∧bG (Gen.mk v1.dim v1.det (locsR v1.locs.length fun i=>(v1.locs.getD i z0l).rvs))∧bG (Gen.mk v2.dim v2.det (locsR v2.locs.length fun i=>(v2.locs.getD i z0l).rvs)))::((0:Int)≤w6.wrap ((↑k:Int)-1)∧w6.wrap ((↑k:Int)-1)<↑L.length)::ty d6::ty (dN d5)::y3)) (by kernel_rfl) ⟨?_,?_,?_,?_,?_,?_,d7,?_,?_,d6,(dN d5),t3⟩ ?_ ?_))
    (fun d6=>lfI (tp 122222) (k+1) (x1 (ty d6::ty (dN d5)::y3)) (by kernel_rfl) ⟨?_,?_,?_,?_,?_,?_,d6,(dN d5),t3⟩ ?_ ?_))
    (fun d5=>CtG.no ?_))
    (fun d4=>CtG.no ?_))
    (fun d3=>CtG.no ?_))
    (fun d2=>CtG.no ?_))
    (fun d1=>lfR [false] [L.length=L.length∧(fun i=>Rty.gen.rvs (L.getD i Rty.gen.zero))=fun i=>Rty.gen.rvs (L.getD i Rty.gen.zero),ty d1] (by kernel_rfl) ⟨?_,d1⟩ rfl))
   all_goals first|(refine MuG.mk ?_;(have hk:=of_decide_eq_true d1;show L.length-(k+1)<L.length-k;omega))|(refine InG.mk ?_;(have hk:=of_decide_eq_true d1;show k+1≤L.length;omega))|(refine CtG.mk ?_;(have hk:k<L.length:=(by have:=of_decide_eq_true d1;omega);obtain⟨a1,a2,a3,a4,a5⟩:=od_at hO hk;first|exact beq_eq_false_iff_ne.1 d2 (by rw[wx];exact a1)|exact beq_eq_false_iff_ne.1 d3 (by rw[wy];exact a2)|exact Bool.noConfusion d4|(refine beq_eq_false_iff_ne.1 d5 ?_;rw[gen_ok];exact a3)|(have h0:0<k:=(by have:=of_decide_eq_true d6;omega);have e1:=wk_1 h0 (by omega);have h7:=of_decide_eq_true d7;rw[gen_ok,gen_ok,e1]at h7;have:=od_lt hO h0 hk;exact absurd h7 (by show¬cmpGn (L.getD (k-1) Gen.zero) (L.getD k Gen.zero)≥0;omega))))|(first|(with_reducible rfl)|exact⟨rfl,rfl⟩|exact ek|decide|(have hk:k<L.length:=(by have:=of_decide_eq_true d1;omega);obtain⟨a1,a2,a3,a4,a5⟩:=od_at hO hk;first|omega|exact⟨loc_rows _,a5.1,by rw[locsR_ro];exact a5.2⟩|exact⟨loc_rows _,by rw[gen_ok];exact a4⟩|(have h0:0<k:=(by have:=of_decide_eq_true d6;omega);have e1:=wk_1 h0 (by omega);obtain⟨b1,b2,b3,b4,b5⟩:=od_at hO (k:=k-1) (by omega);first|(refine⟨loc_rows _,loc_rows _,?_,?_⟩<;>rw[gen_ok]<;>first|(rw[e1];exact b5)|exact a5)|(rw[w64 (by omega) (by omega)];omega))))
theorem order_pair (x y:Int)(n d:Nat)(L:List Gen)(hO:OrdH n d L)(hH:OdH n d L)(hx:0≤x∧x≤255)(hy:0≤y∧y≤255)(hN:(n:Int)=1+x%4)(hM:(d:Int)=1+y%60):PureC Tryd.prog [off1] 3 [.int .u8 x,.int .u8 y] (.bool true):=by
 have wx:=wx4 hx hN
 have wy:=wy60 hy hM
 have hp:=hO.pos
 have z1:((0:Int)==0)=true:=rfl
 have z2:decide (((L.length:Nat):Int)>0)=true:=decide_eq_true (by omega)
 have rr:=fun(tp:List Bool)(ms:List Prop)h hm=>pure_run evOk (callF_ok evOk (orcOf_ok (entsOd_ok hH)) 8) Tryd.func3 (A:=[.int .u8 x,.int .u8 y]) (N:=Nat.max 2 Tryd.f3.ntmps) rfl (one_ann (od_loop x y n d L hO hH hx hy hN hM)) rfl rfl evNg (tabs:=[off1]) (R:=.bool true) (tp:=tp) (ms:=ms) h hm
 refine rr [false,true] [true=true,Dec (decide ((↑L.length:Int)>0)) true,x=x,y=y,L.length=L.length∧(fun i=>Rty.gen.rvs (L.getD i Rty.gen.zero))=fun i=>Rty.gen.rvs (L.getD i Rty.gen.zero),L.length=L.length∧(fun i=>Rty.gen.rvs (L.getD i Rty.gen.zero))=fun i=>Rty.gen.rvs (L.getD i Rty.gen.zero),rq (↑L.length:Int),Dec ((0:Int)!=(0:Int)) false,w6.wrap ((1:Int)+(w6.wrap x).tmod (4:Int))=↑n∧w6.wrap ((1:Int)+(w6.wrap y).tmod (60:Int))=↑d,(60:Int)≠(0:Int),(4:Int)≠(0:Int)] (by kernel_rfl) ⟨?_,z2,?_,?_,?_,?_,?_,(dN z1),?_,?_,(?_:(4:Int)≠(0:Int))⟩
 all_goals first|(first|(with_reducible rfl)|exact⟨rfl,rfl⟩|decide|exact⟨wx,wy⟩)
end Go.Proofs.YtmeljalphfcieaaDoor.S
namespace Go.Proofs.YtmeljalphfcieaaDoor.S
theorem ok_1_1:okR 1 1 60=true:=by kernel_rfl
theorem ok_2_1:okR 2 1 30=true:=by kernel_rfl
theorem ok_2_31:okR 2 31 30=true:=by kernel_rfl
theorem ok_3_1:okR 3 1 16=true:=by kernel_rfl
theorem ok_3_17:okR 3 17 16=true:=by kernel_rfl
theorem ok_3_33:okR 3 33 28=true:=by kernel_rfl
theorem ok_4_1:okR 4 1 16=true:=by kernel_rfl
theorem ok_4_17:okR 4 17 15=true:=by kernel_rfl
theorem ok_4_32:okR 4 32 1=true:=by kernel_rfl
theorem ok_4_33:okR 4 33 15=true:=by kernel_rfl
theorem ok_4_48:okR 4 48 1=true:=by kernel_rfl
theorem ok_4_49:okR 4 49 12=true:=by kernel_rfl
end Go.Proofs.YtmeljalphfcieaaDoor.S
namespace Go.Proofs.YtmeljalphfcieaaDoor.S
open Go.QfSy Go.RowKit
theorem okN_all (n d:Nat)(hn:1≤n∧n≤4)(hd:1≤d∧d≤60):okN n d=true:=by
 have h:n=1∨n=2∨n=3∨n=4:=by omega
 rcases h with rfl|rfl|rfl|rfl
 ·exact okR_at ok_1_1 (by omega) (by omega)
 ·rcases Nat.lt_or_ge d 31 with h|h
  ·exact okR_at ok_2_1 (by omega) (by omega)
  ·exact okR_at ok_2_31 (by omega) (by omega)
 ·rcases Nat.lt_or_ge d 17 with h|h
  ·exact okR_at ok_3_1 (by omega) (by omega)
  ·rcases Nat.lt_or_ge d 33 with h1|h1
   ·exact okR_at ok_3_17 (by omega) (by omega)
   ·exact okR_at ok_3_33 (by omega) (by omega)
 ·rcases Nat.lt_or_ge d 32 with h|h
  ·rcases Nat.lt_or_ge d 17 with h1|h1
   ·exact okR_at ok_4_1 (by omega) (by omega)
   ·exact okR_at ok_4_17 (by omega) (by omega)
  ·rcases Nat.lt_or_ge d 48 with h1|h1
   ·rcases Nat.lt_or_ge d 33 with h2|h2
    ·exact okR_at ok_4_32 (by omega) (by omega)
    ·exact okR_at ok_4_33 (by omega) (by omega)
   ·rcases Nat.lt_or_ge d 49 with h2|h2
    ·exact okR_at ok_4_48 (by omega) (by omega)
    ·exact okR_at ok_4_49 (by omega) (by omega)
theorem len_1:Nat.beq (srtX 2 1).length 1=true:=by kernel_rfl
theorem len_3:Nat.beq (srtX 2 3).length 2=true:=by kernel_rfl
theorem aw_h:AwH (srtX 2 1) (srtX 2 3):=by
 obtain⟨p1,o1⟩:=ge_pure 2 1 (by omega) (by omega) (okN_all 2 1 (by omega) (by omega))
 obtain⟨p3,o3⟩:=ge_pure 2 3 (by omega) (by omega) (okN_all 2 3 (by omega) (by omega))
 obtain⟨a1,a2,a3,a4,a5⟩:=od_at o1 (k:=0) o1.pos
 exact⟨p1,p3,Nat.eq_of_beq_eq_true len_1,Nat.eq_of_beq_eq_true len_3,a3,a5⟩
theorem exOrder_pure (x y:Int)(hx:0≤x∧x≤255)(hy:0≤y∧y≤255):PureC Tryd.prog [off1] 3 [.int .u8 x,.int .u8 y] (.bool true):=by
 obtain⟨p,o⟩:=ge_pure (1+x%4).toNat (1+y%60).toNat (by omega) (by omega) (okN_all _ _ (by omega) (by omega))
 exact order_pair x y _ _ _ o ⟨p,aw_pure _ _ aw_h⟩ hx hy (by omega) (by omega)
end Go.Proofs.YtmeljalphfcieaaDoor.S
namespace Go.Proofs.YtmeljalphfcieaaDoor.existenceOrder
open Go.ChangeShapes Go.WideShapes Go.ChangeAt Go.RowKit Go.Joins Go.Deep
open Go.QfSy (Con RV RRel RsRel FzAt roC Fz Tb TabW PureC)
open S
theorem readable:∀t∈Tryd.f3.params.toList,Tryd.prog.readableRec t=true∧t<Tryd.prog.types.size:=by
 have h:(Tryd.f3.params.toList.all fun t=>Tryd.prog.readableRec t&&Nat.blt t Tryd.prog.types.size)=true:=by kernel_rfl
 intro t ht
 have:=List.all_eq_true.1 h t ht
 simp only[Bool.and_eq_true]at this
 exact⟨this.1,Nat.le_of_ble_eq_true this.2⟩
theorem contract (H:Type)(enc:TypeId×Value→H)(W:World)(base:Nat)(args:Array Value)(ds gs:List (DataW H))(before:List MemPlace)
 (hval:∀(j:Nat)t v,Tryd.f3.params[j]? =some t→args[j]? =some v→Value.okWide Tryd.prog W .any base t v)
 (hW:DataW.Whole enc Tryd.prog Tryd.f3.params.toList Rows.existenceOrderSpec.vars false W args.toList ds gs before)(hO:TabW tabs W):
 Calls Tryd.prog 3 args W fun e W'=>∃v,e=.returned v∧Rows.existenceOrderSpec.post enc Tryd.prog Tryd.f3 false true false false W args v W':=by
 have hW':=hW
 obtain⟨p,q,hA0,hV,rfl,hfz,hnd⟩:=hW
 have hA:DataW.TrodAll enc Tryd.prog W 0 (fun _=>true) true Tryd.f3.params.toList args.toList ds p:=hA0
 rw[Tryd.params3]at hA hval
 obtain⟨v0,vs0,d0,ds0,p0,q0,hargs0,rfl,rfl,h0,r0⟩:=trodAll_cons hA
 obtain⟨v1,vs1,d1,ds1,p1,q1,hargs1,rfl,rfl,h1,r1⟩:=trodAll_cons r0
 obtain⟨rfl,rfl,rfl⟩:=trodAll_nil r1
 obtain rfl:args=#[v0,v1]:=by cases args;simp_all
 obtain⟨z0,rfl,rfl,rfl,hz0⟩:=open_int Tryd.underlying5 (hval 0 5 v0 rfl rfl) h0
 have hr0:RRel (Wz W) (.int .u8 z0) (.int .u8 z0):=.int _ _
 obtain⟨z1,rfl,rfl,rfl,hz1⟩:=open_int Tryd.underlying5 (hval 1 5 v1 rfl rfl) h1
 have hr1:RRel (Wz W) (.int .u8 z1) (.int .u8 z1):=.int _ _
 refine(pure_calls (exOrder_pure z0 z1 (wf_u8 hz0) (wf_u8 hz1)) hO (.cons hr0 (.cons hr1 .nil))).mono fun e W' ⟨he,hb⟩=>?_
 exact⟨_,he,law_post laidOut readable rfl Tryd.underlying4 rfl hW' rfl hb⟩
def wArgs:Array Value:=#[.int .u8 0,.int .u8 0]
theorem laid_met (os:Os):laidMet Tryd.prog Rows.existenceOrderRow.laid ((laidWorld os).forCall (fun _ _=>0) ⟨#[],wArgs,[]⟩).memory:=
 laidMet_of_run' 8 (by kernel_rfl) (by kernel_rfl)
theorem reads (os:Os){H:Type}(enc:TypeId×Value→H):∃ds places,DataW.whole enc Tryd.prog ((laidWorld os).forCall (fun _ _=>0) ⟨#[],wArgs,[]⟩).memory Tryd.f3.params.toList Rows.existenceOrderSpec.vars false wArgs.toList 8=some (ds,[],places):=
 ⟨[.lit (.int .u8 0),.lit (.int .u8 0)],[],by kernel_rfl⟩
theorem lifted (os:Os)(started:os.Started)(H:Type)(enc:TypeId×Value→H)(F:Stop.Interp):
 ReturnsInHanded {} Tryd.checked os 3 .any ((OpenSpec.ofChange Rows.existenceOrderSpec).preRow enc Tryd.prog Tryd.f3 Rows.existenceOrderRow.domain false Rows.existenceOrderRow.laid) (((OpenSpec.ofChange Rows.existenceOrderSpec).at F).post enc Tryd.prog Tryd.f3 false true false false):=by
 refine returnsInHanded_of_row (C:=Tryd.checked) (s:=OpenSpec.ofChange Rows.existenceOrderSpec) own started (by kernel_rfl) Tryd.func3
  (witness_row_at (enc:=enc) (C:=Tryd.checked) false (laidWorld os) wArgs rfl (by kernel_rfl) (by kernel_rfl) (by kernel_rfl)
    (OpenSpec.preRow_of_cond 8 (reads os enc).choose_spec.choose_spec (by kernel_rfl) (fun k hk=>by cases hk) (by kernel_rfl) (laid_met os))) ?_
 intro W base args ds gs before hval hW _ _ _ hL hS _
 exact contract H enc W base args ds gs before hval hW (tabs_of hL hS)
theorem named:Tryd.prog.funcNamed Rows.existenceOrderRow.func=some 3:=by kernel_rfl
theorem facts:joinedFacts Tryd.prog 3 Tryd.f3 (OpenSpec.ofChange Rows.existenceOrderSpec).bare Rows.existenceOrderRow=true:=by kernel_rfl
theorem inst:Tryd.f3.isInstance Tryd.prog Rows.existenceOrderRow.origin Rows.existenceOrderRow.targs:=of_decide_eq_true (by kernel_rfl)
theorem wrap:Tryd.f3.isWrapper Tryd.prog Rows.existenceOrderRow.wrapper Rows.existenceOrderRow.mainSum:=by
 unfold Func.isWrapper;first|(rw[if_pos (by decide+kernel)];kernel_rfl)|(rw[if_neg (by decide+kernel)];exact⟨rfl,rfl⟩)
theorem said:Rows.ExistenceOrderSaid:=
 OpenClaim.holds_of_cond 3 Tryd.f3 rfl rfl rfl rfl rfl rfl rfl ⟨rfl,rfl,rfl,rfl,rfl⟩ rfl rfl rfl rfl rfl named Tryd.func3 facts inst wrap
  (fun os started H enc _ F=>by rw[OpenClaim.pre_eq_preRow];exact lifted os started H enc F)
end Go.Proofs.YtmeljalphfcieaaDoor.existenceOrder
namespace Go.Proofs.YtmeljalphfcieaaDoor.existenceOrder
open Go.ChangeShapes Go.WideShapes Go.ChangeAt Go.RowKit Go.Joins Go.Deep
theorem stands:(Tryd.f3.params.toList.all fun t=>!Tryd.prog.wantsStandIn t)=true:=by kernel_rfl
theorem looks:false=Tryd.prog.looks []:=by kernel_rfl
theorem plain (f:FuncId)(fn:Func)(hf:Tryd.pinned.checked.prog.funcNamed "quadform/quadformlaw29.ExistenceOrder" =some f)(hfn:Tryd.pinned.checked.prog.funcs[f]? =some fn):
 false=Tryd.pinned.checked.prog.looks []∧∀(j:Nat)t,fn.params[j]? =some t→Tryd.pinned.checked.prog.wantsStandIn t=false:=by
 obtain rfl:f=3:=Option.some.inj (named.symm.trans hf) |>.symm
 obtain rfl:fn=Tryd.f3:=(Option.some.inj (Tryd.func3.symm.trans hfn)).symm
 refine⟨looks,fun j t ht=>?_⟩
 have:=List.all_eq_true.1 stands t (by simpa using Array.mem_of_getElem? ht)
 exact(by simpa using this:Tryd.prog.wantsStandIn t=false)
theorem holds:Rows.ExistenceOrderCardSaid:=
 Claim7.holds_tied_plain_at .later [] _ _ _ _ said (fun _ h=>by cases h) (by kernel_rfl) (fun _ h=>by cases h) existenceOrder_row_tie rfl ⟨rfl,rfl⟩ (by kernel_rfl) rfl plain (by kernel_rfl)
end Go.Proofs.YtmeljalphfcieaaDoor.existenceOrder
end
