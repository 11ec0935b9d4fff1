/-
  What 'TopSums' stands on, part 2 of 6.
-/
import Derived.Test.YtibmlemoghcbkaaGreatDoorP1
import Derived.Laws.EntriesVeiled
import Derived.Shelf.SlSortCmp.SmallK
set_option linter.unusedSimpArgs false
set_option linter.unusedVariables false
set_option maxRecDepth 100000
set_option maxHeartbeats 8000000
open Array renaming getElem?_modify→aA,length_toList→dM,replicate_succ→bY,replicate_zero→bZ
open BitVec renaming ofInt→dU
open Bool renaming and_eq_true→bT
open Go.Act renaming put→an
open Go.Builtin renaming zeroCells→dO
open Go.Calls renaming quiet_of_same→ek
open Go.Exit renaming inBlock→jc,«then»→gM
open Go.Fence renaming wide→dI
open Go.Instr renaming lookup→eQ,makeFunc→cO
open Go.IntKind renaming wrap_i64→aB,wrap_u64→bD
open Go.IntWalk renaming i64_in→bC,u64_in→bJ
open Go.KeepsOthers renaming refl→fR,setCell→cU
open Go.Lib renaming alloc_old→aJ,cell?_alloc_some→bO,cell_of_heap→aa,compareInt→bK,decDigits→dk,frozen_of_heap→aW,heap_setCell_same→am,hid→eE,run_eql_slice_nil→fO,size_eq→bX,toList_data→dY
open Go.Region renaming wanted→dD
open Go.Result renaming andThen→iM
open Go.RowKit.Below renaming heap_setCell→ae,refl→ag
open Go.Sem renaming run_bind→jR
open Go.Value renaming int→cY,ownBlock→aG,slice→aQ
open Go.World renaming alloc_heap_new→cD,block_lt_of_cell?→bq,cell?_of_block→af,cell?→dL,putObj_heap_other→aZ,putObj→ik,setCell→aj,size_alloc→aI
open Int renaming eq_ofNat_of_zero_le→dA,toNat_natCast→dE
open List renaming append_assoc→au,append_nil→cV,append_toArray→cz,cons_append→aY,drop_drop→bR,drop_eq_getElem_cons→dm,drop_eq_nil_of_le→dF,drop_succ_cons→dr,drop_zero→fe,eq_nil_of_length_eq_zero→bu,filter_append→dV,filter_cons→ei,find?_cons_of_neg→dW,find?_some→eN,flatMap_append→ao,flatMap_cons→aE,foldl_cons→ia,getD_eq_getElem?_getD→bQ,getElem?_append_left→eU,getElem?_append_right→fF,getElem?_cons_succ→aS,getElem?_cons_zero→aD,getElem?_drop→dJ,getElem?_eq_getElem→aT,getElem?_eq_none→gW,getElem?_toArray→aH,getElem_append_left→du,getElem_append_right→cK,getElem_cons_succ→ck,getElem_cons_zero→bf,getElem_map→eS,getElem_mem→ah,getElem_of_mem→bz,length_append→ab,length_cons→ak,length_drop→bo,length_filter_le→fb,length_map→bU,length_nil→aX,length_range→dG,length_set→fk,length_singleton→fc,length_take→aF,length→eZ,map_append→cH,map_congr_left→gw,map_cons→bV,mem_cons_of_mem→aC,mem_cons_self→az,mem_cons→dh,mem_of_find?_eq_some→cL,nil_append→bi,not_mem_nil→di,pairwise_append→gh,pairwise_iff_getElem→dS,pairwise_map→cS,push_toArray→cT,range_succ→dZ,range→aL,replicate→cm,setIfInBounds_toArray→bg,set_cons_succ→aM,set_cons_zero→bG,size_toArray→cJ,take_append_drop→da,take_append_getElem→bc,take_of_length_le→aw,take_succ_cons→dN,take_succ_eq_append_getElem→aO,take_zero→ff
open List.Pairwise renaming filter→ie,imp→cQ,nil→cj
open Nat renaming add_assoc→aV,add_zero→dz,div_add_mod→jm,eq_zero_or_pos→dx,le_of_not_lt→ft,le_refl→ac,le_trans→ap,lt_of_lt_of_le→ai,lt_or_ge→et,min_eq_left→ec,mod_lt→dX,mul_comm→dj,mul_le_mul_right→dP,pow_le_pow_right→ce,reduceAdd→bM,reduceSub→dC,sub_self→fG,succ_mul→jQ,two_pow_pos→cg,zero_add→bB,zero_le→bj,zero_mul→gG
open Ne renaming symm→fV
open Option renaming bind_some→bW,getD_some→fu,map_some→eO
open Prod renaming fst→dQ,snd→gz
open UInt8 renaming ofNat→dw
namespace Go.Proofs.YtibmlemoghcbkaaGreatDoor
open Go Go.RowKit
open Tryz
theorem yH (s:ByteArray)(B:Nat)(w:JW)(hB:w.heap.size=B)(cF:s.size<=1000000):JC 305 #[.string s] w (Ry s B w):=by
 have aE:=λw=>(im s 0 w Jo).mono λO Y(y:O=_/\w=Y)=>(⟨y.1,y.2.symm⟩:O=_/\Y=w);obtain⟨b1,av⟩:∃V,aK s.data.toList 0=V:=⟨_,rfl⟩;have ay:=kC s.data.toList 0;have bp:=ki s.data.toList 0;rw[av,<-bX] at ay;rw[av] at bp;simp only[av] at aE;obtain⟨U,bl,aO⟩:=b1;simp only at aE ay bp;have ad:=Jh (QV av);have aI:=Jh aE;have b6:aO≠0∨(aO=0/\200<U)∨(aO=0/\U<=200):=Jo;rcases b6 with y|⟨y,Q⟩|⟨y,Q⟩
 ·have K:=Jh (show iD s.data.toList=none by rw[ad.o,if_pos (.inl y)]);obtain⟨a8,bJ⟩:=lP y;go_enter Tryz.func305,Tryz.ntmps305;go_wp2_with fail;refine(aI.o _).mono ?_;rintro O aD ⟨rfl,rfl⟩;go_wp2_with fail;go_ret2;exact .inl ⟨K.o,⟨_,rfl⟩,ag _ _⟩
 ·have K:=Jh (show iD s.data.toList=none by rw[ad.o,if_pos (.inr Q)]);obtain⟨a8,bJ⟩:=fJ y;have cl:=Jt ((200:Int)<(U:Int));have cm:decide (200<U)=true:=decide_eq_true Q;go_enter Tryz.func305,Tryz.ntmps305;go_wp2_with fail;refine(aI.o _).mono ?_;rintro O aD ⟨rfl,rfl⟩;go_wp2_with fail;go_ret2;exact .inl ⟨K.o,⟨_,rfl⟩,ag _ _⟩
 obtain⟨H,bn⟩:=Je (mH s.data.toList U bl (-1));have al:=ad.o;rw[if_neg Jo,bn] at al;have ad:=Jh al;have be:=Jh bn;obtain⟨a8,bJ⟩:=fJ y;have cl:=Jf ((200:Int)<(U:Int));have cm:=Jf (200<U);go_enter Tryz.func305,Tryz.ntmps305;go_wp2_with fail;refine(aI.o _).mono ?_;rintro O aD ⟨rfl,rfl⟩;go_wp2_with fail;go_loopw [5,7,8,9,29] (λbY cn ct cr aN wr=>Uj B U s H aD bY cn ct cr aN wr) (λ_ _ _ _ aN _=>U - (intOf aN).toNat)
 case atStart=>exact⟨[],U,bl,-1,none,0,rfl,rfl,rfl,rfl,rfl,Js,ay.1,ay.2,Jo,Jo,by simp[kT],Js,bP.nil _ _ _ _,ag _ _,by rw[be.o];simp⟩
 obtain⟨es,k,a,last,bL,bZ,rfl,rfl,rfl,rfl,rfl,aU,cv,cx,cE,af,aY,cd,aV,bu,bv⟩:=hrel;obtain⟨T,bE⟩:=Je es.length;rw[bE] at aV aU aY ⊢;have ai:=Jh bE;have bh:=Jh cd;by_cases bC:T<U;rotate_left
 ·obtain rfl:k=0:=Jo;have b8:=Lg bv;obtain rfl:T=U:=Jo;obtain⟨J,b3⟩:∃J:Nat,a=J:=⟨a.toNat,Jo⟩;subst b3;have al:=ad.o;rw[be.o,b8] at al;have bj:=Jh (show iD s.data.toList=if(kT es:Int)=(s.size:Int) - J then some (mK es (s.data.toList.drop J)) else none by rw[al,if_neg (by rintro (y|y);exact y (by simpa using a8);omega),bX];rfl);have aL:=Jh aV;have X:=Jh bu;have aq:=Jh aY;have cI:IntKind.i64.wrap ((s.size:Int) - J)=(s.size:Int) - J:=by rw[aB];omega
  have cy:J<=s.size:=Jo;go_wp2_with fail;go_loopw [89] (λa6 bd=>∃E:Nat,a6=Ji E/\E<=T/\bP (λE=>E<B) 421 3 (.slice bL T bZ) T ((sJ E J (ny 0 es)).flatMap jo) bd/\Below B aD bd) (λa6 _=>T - (intOf a6).toNat)
  case atStart=>exact⟨0,rfl,Jo,aL.o,X.o⟩
  rename World=>bd
  obtain⟨E,rfl,bz,ce,b5⟩:=hrel;have Z:=Jh ce;have aH:=Jh b5;by_cases bC:E<T;rotate_left
  ·obtain rfl:E=T:=Jo;have bt:=En es 0 J;rw[ai.o,bB] at bt;have bo:=Z.o;rw[bt] at bo;have bQ:=Jh bo;by_cases az:(kT es:Int)=(s.size:Int) - J
   ·have K:=Jh (show iD s.data.toList=some (mK es (s.data.toList.drop J)) by rw[bj.o,if_pos az]);have cu:((kT es:Int) == (s.size:Int) - J)=true:=beq_iff_eq.2 az;have bV:=Jh (show J+kT es=s.size by omega);go_wp2_with fail;go_ret2;exact .inr ⟨es,J,_,K.o,bV.o,bh.o,rfl,by rw[ai.o];exact bQ.o,by rw[ai.o];exact Q,aH.o⟩
   have K:=Jh (show iD s.data.toList=none by rw[bj.o,if_neg az]);have cu:((kT es:Int) == (s.size:Int) - J)=false:=beq_eq_false_iff_ne.2 az;go_wp2_with fail;go_ret2;exact .inl ⟨K.o,⟨_,rfl⟩,aH.o⟩
  have ax:E<(ny 0 es).length:=by rw[pq,ai.o];exact bC
  have bA:E<(sJ E J (ny 0 es)).length:=by rw[vm];exact ax
  obtain⟨V,rfl,cz,cA⟩:=Z.o.own (show 0<T by omega);have bx:B<=V:=by
   have:=Z.o.2 V rfl;omega
  obtain⟨aR,cq,O,cB,bw⟩:=Z.o.rd.elem mw Jd bA;obtain⟨rfl,rfl⟩:V=aR/\0=cq:=by simpa using O
  have cb:(sJ E J (ny 0 es))[E]=(ny 0 es)[E]:=by
   have:=Eo E J (ny 0 es) ax;rw[aT bA] at this;exact Option.some.inj this
  have aP:=bw 1 _ rfl;have aQ:=bw 2 _ rfl;rw[cb] at aP aQ;have aZ:=Au E J (ny 0 es) ax;obtain⟨x,ac⟩:=Je ((ny 0 es)[E]);have ci:=Gz es 0 x (by rw[<-ac];exact ah ax);rw[ac] at aP aQ aZ;obtain⟨D,bm,W⟩:=x;simp only[bB] at aP aQ aZ ci;have cN:=Z.o.cell (E*3+1);have cO:=Z.o.cell (E*3+2);have cg:kT es<=200000000:=Jw aq.o;have bc:IntKind.i64.wrap ((bm:Int)+J)=((bm:Int)+J):=by rw[aB];omega
  have co:IntKind.i64.wrap ((W:Int)+J)=((W:Int)+J):=by rw[aB];omega
  have cD:(E:Int)<T:=Jo;have bU:=Jh aZ;go_wp2_with fail;go_roundw
  case rel=>exact⟨E+1,by go_num,Jo,by rw[<-bU.o];exact(Z.o.store _).store _,(aH.o.setCell (p:=(Jp V (E*3+1))) bx _).setCell (p:=(Jp V (E*3+2))) bx _⟩
  simp[intOf];omega
 obtain⟨a7,rfl⟩:∃a7,k=a7+1:=⟨k - 1,Jo⟩;have aF:=λw=>(im s a w Jo).mono λO Y(y:O=_/\w=Y)=>(⟨y.1,y.2.symm⟩:O=_/\Y=w);obtain⟨b2,aS⟩:∃V,aK s.data.toList a=V:=⟨_,rfl⟩;have bq:=ki s.data.toList a;rw[aS] at bq;simp only[aS] at aF;obtain⟨D,ar,aa⟩:=b2;simp only at aF bq;have aG:=λw=>(im s ar w Jo).mono λO Y(y:O=_/\w=Y)=>(⟨y.1,y.2.symm⟩:O=_/\Y=w);obtain⟨aR,aw⟩:∃V,aK s.data.toList ar=V:=⟨_,rfl⟩;have aW:=kC s.data.toList ar;have br:=ki s.data.toList ar;rw[aw,<-bX] at aW;rw[aw] at br;simp only[aw] at aG;obtain⟨M,bW,ae⟩:=aR;simp only at aG aW br;have ac:=Uy (last:=last) aS aw;rw[<-bX] at ac;have bk:=Jh ac;have bN:=Jh aF;have bO:=Jh aG;have aL:=Jh aV;have X:=Jh bu;have bf:=Jh bv;have bg:=Jh aW;have aq:=Jh aY;have cG:IntKind.u64.wrap (s.size:Int)=s.size:=by rw[bD];omega
 have aj:=Jh (show ¬(aa=0/\ae=0/\D<200/\last<D/\M<=s.size)->iD s.data.toList=none from λy=>by
  rw[ad.o,Li bf.o (by rw[bk.o,if_neg y])];rfl)
 have b7:aa≠0∨(aa=0/\ae≠0)∨(aa=0/\ae=0/\200<=D)∨(aa=0/\ae=0/\D<200/\(D:Int)<=last)∨(aa=0/\ae=0/\D<200/\last<D/\s.size<M)∨(aa=0/\ae=0/\D<200/\last<D/\M<=s.size):=Jo;go_wp2_with fail;refine(bN.o _).mono ?_;rintro O cL ⟨rfl,rfl⟩;go_wp2_with fail;refine(bO.o _).mono ?_;rintro O bK ⟨rfl,rfl⟩;rcases b7 with y|⟨y,Q⟩|⟨y,Q,ak⟩|⟨y,Q,ak,au⟩|⟨y,Q,ak,au,aM⟩|⟨y,Q,ak,au,aM⟩
 ·have K:=Jh (aj.o Jo);obtain⟨am,an⟩:=lP y;go_wp2_with fail;go_ret2;exact .inl ⟨K.o,⟨_,rfl⟩,X.o⟩
 ·have K:=Jh (aj.o Jo);obtain⟨am,an⟩:=fJ y;obtain⟨aA,aC⟩:=lP Q;go_wp2_with fail;go_ret2;exact .inl ⟨K.o,⟨_,rfl⟩,X.o⟩
 ·have K:=Jh (aj.o Jo);obtain⟨am,an⟩:=fJ y;obtain⟨aA,aC⟩:=fJ Q;have ba:=Jt ((200:Int)<=(D:Int));go_wp2_with fail;go_ret2;exact .inl ⟨K.o,⟨_,rfl⟩,X.o⟩
 ·have K:=Jh (aj.o Jo);obtain⟨am,an⟩:=fJ y;obtain⟨aA,aC⟩:=fJ Q;have ba:=Jf ((200:Int)<=(D:Int));have bc:IntKind.i64.wrap (D:Int)=D:=by rw[aB];omega
  have bI:=Jt ((D:Int)<=last);go_wp2_with fail;go_ret2;exact .inl ⟨K.o,⟨_,rfl⟩,X.o⟩
 ·have K:=Jh (aj.o Jo);obtain⟨am,an⟩:=fJ y;obtain⟨aA,aC⟩:=fJ Q;have ba:=Jf ((200:Int)<=(D:Int));have bc:IntKind.i64.wrap (D:Int)=D:=by rw[aB];omega
  have bI:=Jf ((D:Int)<=last);have cj:=Jt ((s.size:Int)<(M:Int));have ck:=Jt (s.size<M);go_wp2_with fail;go_ret2;exact .inl ⟨K.o,⟨_,rfl⟩,X.o⟩
 have bH:=bk.o;rw[if_pos ⟨y,Q,ak,au,aM⟩] at bH;have bT:=Jh (Lh bf.o bH);obtain⟨am,an⟩:=fJ y;obtain⟨aA,aC⟩:=fJ Q;have ba:=Jf ((200:Int)<=(D:Int));have bc:IntKind.i64.wrap (D:Int)=D:=by rw[aB];omega
 have co:IntKind.i64.wrap (M:Int)=M:=by rw[aB];omega
 have bI:=Jf ((D:Int)<=last);have cj:=Jf ((s.size:Int)<(M:Int));have ck:=Jf (s.size<M);have aJ:=Jh (Ja ak (Ja au aM));obtain⟨W,a1⟩:=Je (kT es);have bi:=Jh a1;have cg:W<=200000000:=ap (by have:=aq.o;rw[a1] at this;exact this) (show T*1000000<=200000000 by omega);rw[a1];have cH:IntKind.i64.wrap ((W:Int)+(M:Int))=(W:Int)+(M:Int):=by rw[aB];omega
 have cf:gm (λE=>E<B) bK:=λE bz=>by have:=X.o.size;rw[<-hB] at bz;omega
 have cC:IntKind.u64.wrap ((T:Int)+1)=((T+1:Nat):Int):=by rw[bD];omega
 go_wp2_with (at_builtin;go_must (refine bb rfl (.tmp 68) (.tmp 77) 417 Jr 421 (.agg #[Ji 0,Ji 0,Ji 0]) 3 24 underlying417 Ux rfl Jd _ T _ _ bK #[Ji D,Ji W,Ji ((W:Int)+(M:Int))] rfl (by intro cJ bG;simp at bG;rcases bG with rfl|rfl|rfl<;>rfl) aL.o Jr cf Jr Jm Jo ?_);intro cK cM aX bF cc b4;have bS:=Jh aX;have bR:=Jh (X.o.trans (bF.below λk aU=>aU));obtain⟨bM,b0,rfl⟩:=aX.form;clear aX bF cc b4);go_roundw
 case rel=>
  have af:(es ++ [(D,M)]).length=T+1:=by rw[ab,ai.o];rfl
  have b9:(ny 0 (es ++ [(D,M)])).flatMap jo=(ny 0 es).flatMap jo ++ #[cY .i64 D,Ji W,Ji ((W:Int)+(M:Int))].toList:=by
   rw[Em,ao,bB,bi.o];simp[jo]
  refine⟨es ++ [(D,M)],a7,bW,D,bM,b0,rfl,by rw[af],rfl,by rw[Bd,bi.o];rfl,by rw[af];go_num,by rw[af];omega,bg.o.1,bg.o.2,Jo,Jw aJ.o.1,by rw[Bd,af];have:=aq.o;have:=aJ.o.2.2;simp only;omega,?_,by rw[af,b9];exact bS.o,bR.o,bT.o⟩;intro x ac;rcases List.mem_append.1 ac with y|y
  ·exact bh.o x y
  have:=List.mem_singleton.1 y;subst this;exact aJ.o.1
 simp[intOf];omega
theorem my:(prog.info? 3).map (λi=>(i.zero,i.size,i.bytes))=some (some (Ji 0),1,8):=Jk
def pj (p:Nat × JU):List Value:=[Ji (p.1:Int)]
theorem Dm:∀(y:List (Nat × Nat))(t:JU),(mK y t).length=y.length
 |[],_=>rfl
 |D :: y,t=>by simp[mK,Dm y]
theorem IX:∀(y:List (Nat × Nat))(t:JU)(D i:Nat)(h:i<(ny D y).length)(E:i<(mK y t).length),(mK y t)[i].1=(ny D y)[i].1
 |[],_,_,_,h,_=>absurd h (by simp[ny])
 |H :: y,t,D,0,_,_=>rfl
 |H :: y,t,D,i+1,h,E=>by
  simp only[ny,mK,ck] at h E ⊢;exact IX y _ _ i (by simpa using h) (by simpa using E)
def Rp (s:ByteArray)(B:Nat)(w:JW)(e:Ending)(w':JW):Prop:=
 (iD s.data.toList=none/\e= .returned (.tuple #[Jn,Ji 11])/\Below B w w')∨
  ∃y D,iD s.data.toList=some y/\e= .returned (.tuple #[D,Ji 0])/\bP (λE=>E<B) 3 1 D y.length (y.flatMap pj) w'/\y.length<=200/\Below B w w'
theorem UG (s:ByteArray)(B:Nat)(w:JW)(hB:w.heap.size=B)(a7:s.size<=1000000):JC 221 #[.string s] w (Rp s B w):=by
 have aK:=Jh (yH s B w hB a7);have aJ:=Jh hB;go_enter Tryz.func221,Tryz.ntmps221;go_wp2_with fail;refine aK.o.mono ?_;rintro be X (⟨U,⟨a8,rfl⟩,V⟩|⟨E,H,a8,U,bl,bj,rfl,av,ay,V⟩)
 ·have Z:=Jh U;go_wp2_with fail;go_ret2;exact .inl ⟨Z.o,rfl,V⟩
 obtain⟨D,aj⟩:=Je (mK E (s.data.toList.drop H));have aD:D.length=E.length:=by rw[<-aj,Dm]
 have aO:=Jh (show ∀y,(ar:y<(ny H E).length)->(au:y<D.length)->D[y].1=(ny H E)[y].1 from λy ar au=>by
  subst aj;exact IX E _ H y ar au)
 rw[aj] at U;have Z:=Jh U;obtain⟨ba,bd,rfl⟩:=av.form;have am:=Jh av;have aL:=Jh V;have ak:=Jh (show B<=X.heap.size by rw[<-aJ.o];exact V.size);obtain⟨O,aC⟩:=Je E.length;rw[aC] at am ay aD ⊢;have aR:=Jh aC;have T:=Jh aD;go_wp2_with fail;go_loopw [6,18] (λK J wr=>∃(y:Nat)(Y:JA)(ab:Nat),J=Ji y/\K= .slice Y y ab/\y<=O/\bP (λaG=>aG<X.heap.size) 3 1 (.slice Y y ab) y ((D.take y).flatMap pj) wr/\Jz X wr) (λ_ J _=>O - (intOf J).toNat)
 case atStart=>exact⟨0,none,0,rfl,rfl,Jo,bP.nil _ _ _ _,ag _ _⟩
 obtain⟨y,Y,ab,rfl,rfl,bi,az,ad⟩:=hrel;by_cases aA:y<O;rotate_left
 ·obtain rfl:y=O:=Jo;have aa:=Jh az;have Q:=Jh ad;go_wp2_with fail;go_ret2;refine .inr ⟨D,_,Z.o,rfl,?_,by rw[T.o];exact ay,aL.o.trans (Q.o.mono ak.o)⟩;have J:=aa.o;rw[aw (by rw[T.o];exact ac _)] at J;rw[T.o];exact J.shift λW af K=>J.2 W af (ai K ak.o)
 have aB:y<(ny H E).length:=by rw[pq,aR.o];exact aA
 have a1:y<D.length:=by rw[T.o];exact aA
 obtain⟨aq,aH,rfl,bh,ae⟩:=(am.o.below ad).rd.elem mw Jd aB;have aW:=ae 0 _ rfl;have an:=ae 1 _ rfl;have ap:=ae 2 _ rfl;have ax:(D.take (y+1)).flatMap pj=(D.take y).flatMap pj ++ #[cY .i64 ((ny H E)[y].1:Int)].toList:=by
  rw[show D.take (y+1)=D.take y ++ [D[y]] by rw[bc],ao,<-aO.o y aB a1];simp[pj]
 generalize (ny H E)[y]=aU at*;obtain⟨J,K,M⟩:=aU;simp only[dz] at aW an ap ax;have aN:=Jh ax;have bf:wr.cell? (Jp aq (aH+y*3+1))=some (Ji (K:Int)):=by rw[aV];exact an
 have bg:wr.cell? (Jp aq (aH+y*3+2))=some (Ji (M:Int)):=by rw[aV];exact ap
 have aa:=Jh az;have Q:=Jh ad;have bk:(y:Int)<O:=Jo;have aP:=Jh (aa.o.alloc (.cells #[Ji J,Ji K,Ji M] 421));have al:=Jh (Q.o.alloc Q.o.size (.cells #[Ji J,Ji K,Ji M] 421));have aS:=Jh (show(wr.alloc (.cells #[Ji J,Ji K,Ji M] 421)).heap.size=wr.heap.size+1 by simp);have a6:gm (λW=>W<X.heap.size) (wr.alloc (.cells #[Ji J,Ji K,Ji M] 421)):=λW af=>ai af al.o.size;go_wp2_with (at_builtin;go_must (refine bb rfl (.tmp 22) (.tmp 25) 23 Jr 3 (Ji 0) 1 8 underlying23 my rfl Jd _ y _ _ (wr.alloc (.cells #[Ji J,Ji K,Ji M] 421)) #[Ji J] rfl (by intro bm aF;simp at aF;subst aF;rfl) aP.o Jr a6 (by rw[aS.o];rfl) Jm Jo ?_);intro bn bo ah aE aY aX;have aQ:=Jh ah;have aM:=Jh (al.o.trans (aE.below λaG aZ=>aZ));obtain⟨aI,aT,rfl⟩:=ah.form;clear ah aE aY aX);go_roundw
 case rel=>exact⟨y+1,aI,aT,by go_num,rfl,Jo,by rw[aN.o];exact aQ.o,aM.o⟩
 simp[intOf];omega
def upto (n:Nat):List Value:=(aL n).map λy:Nat=>cY .i64 (y:Int)
theorem Ff (n:Nat):(upto n).length=n:=by simp[upto]
theorem uS (n:Nat):upto (n+1)=upto n ++ [Ji n]:=by simp[upto,dZ]
theorem Lj (F:Nat->Prop)(T N:Nat)(w:JW)(h:rW F T N w)(aj:N<=1000):JC 111 #[Jv T] w λe w'=>
 ∃M c,e= .returned (.slice M N c)/\bP (λk=>k<w.heap.size) 3 1 (.slice M N c) N (upto N) w'/\Below w.heap.size w w':=by
 obtain⟨M,c,ah,af,an,ai,-,-,-⟩:=h.cells;obtain⟨E,U⟩:=Je w.heap.size;have Q:=Jh U;go_enter Tryz.func111,Tryz.ntmps111;go_wp2_with fail;go_loopw [3,10] (λK J wr=>∃(y:Nat)(D:JA)(H:Nat),J=Ji y/\K= .slice D y H/\y<=N/\bP (λk=>k<E) 3 1 (.slice D y H) y (upto y) wr/\Below E w wr) (λ_ J _=>N - (intOf J).toNat)
 case atStart=>exact⟨0,none,0,rfl,rfl,Jo,bP.nil _ _ _ _,by rw[<-U];exact ag _ _⟩
 obtain⟨y,D,H,rfl,rfl,ak,W,O⟩:=hrel;by_cases al:y<N
 ·have am:(y:Int)<N:=Jo;have ad:gm (λk=>k<E) wr:=λk V=>Jw O.size;have K:=Jh W;have J:=Jh O;go_wp2_with (at_builtin;go_must (refine bb rfl (.tmp 13) (.tmp 15) 23 Jr 3 (Ji 0) 1 8 underlying23 my rfl Jd (λk=>k<E) y _ _ wr #[Ji y] rfl (by intro ao Y;simp at Y;subst Y;rfl) K.o Jr ad Jr Jm Jo ?_;intro ap aq X ae ac ab;obtain⟨Z,aa,rfl⟩:=X.form;clear ac ab));go_roundw
  case rel=>exact⟨y+1,Z,aa,by go_num,rfl,Jo,by rw[uS];exact X,J.o.trans (ae.below λk V=>V)⟩
  simp[intOf];omega
 obtain rfl:y=N:=Jo;have K:=Jh W;have J:=Jh O;go_wp2_with fail;go_ret;exact⟨D,H,rfl,by rw[Q.o];exact K.o,by rw[Q.o];exact J.o⟩
theorem zk (F:Nat->Prop)(D N:Nat)(w:JW)(h:rW F D N w)(K:N<=1000):JC 54 #[Jv D,Jn] w λe w'=>
 ∃y c,e= .returned (.tuple #[.slice y N c,Ji 0])/\bP (λk=>k<w.heap.size) 3 1 (.slice y N c) N (upto N) w'/\Below w.heap.size w w':=by
 have H:=Jh (Lj F D N w h K);go_enter Tryz.func54,Tryz.ntmps54;go_wp2_with fail;refine H.o.mono ?_;rintro e O ⟨y,c,rfl,J,M⟩;have E:=Jh (Ja J M);go_wp2_with fail;refine wp_loop_rounds 1 ?_;rw[rounds_succ];go_wp2_with fail
 (try simp only[jc,gM])
 refine bodyPost_ret (results_tmp2 rfl _ _ _) rfl ?_;exact⟨y,c,rfl,E.o.1,E.o.2⟩
def kl (p q:Int × Int):Prop:=p.1<q.1∨(p.1=q.1/\p.2<q.2)
instance (p q:Int × Int):Decidable (kl p q):=inferInstanceAs (Decidable (_∨_))
theorem Pj (p:Int × Int):¬kl p p:=by unfold kl;omega
theorem TR {p q:Int × Int}(h:kl p q):p≠q:=λy=>Pj q (y▸h)
theorem qN {p q r:Int × Int}(h:kl p q)(k:kl q r):kl p r:=by unfold kl at*;omega
theorem Pk (p q:Int × Int):kl p q∨p=q∨kl q p:=by
 obtain⟨y,D⟩:=p;obtain⟨E,H⟩:=q;unfold kl;simp only[Prod.mk.injEq];omega
section
variable {α:Type} (κ:α->Int × Int)
def Up (l:List α):Prop:=l.Pairwise λy D=>kl (κ y) (κ D)
def kU (l:List α)(k:Int × Int):Option α:=l.find? λy=>decide (κ y=k)
def Once (l:List α):Prop:=l.Pairwise λy D=>κ y≠κ D
def cG (a b:List α):List α:=match a,b with
 |[],b=>b
 |y :: a,[]=>y :: a
 |y :: a,D :: b=>if kl (κ y) (κ D) then y :: cG a (D :: b) else if κ y=κ D then D :: cG a b else D :: cG (y :: a) b
termination_by a.length+b.length
variable {κ}
theorem Up.once {l:List α}(h:Up κ l):Once κ l:=cQ (λh=>TR h) h
theorem jd {l:List α}{k:Int × Int}{x:α}(h:kU κ l k=some x):x∈l/\κ x=k:=⟨cL h,by simpa using eN h⟩
theorem ke {l:List α}{k:Int × Int}:kU κ l k=none↔∀x∈l,κ x≠k:=by unfold kU;simp
theorem ew (x:α)(l:List α)(k:Int × Int):kU κ (x :: l) k=if κ x=k then some x else kU κ l k:=by
 unfold kU;rw[List.find?_cons];by_cases y:κ x=k<;>simp[y]
theorem lD {l:List α}(h:Once κ l){x:α}(D:x∈l):kU κ l (κ x)=some x:=by
 induction l with
 |nil=>cases D
 |cons y l J=>
  rw[ew];obtain⟨E,H⟩:=List.pairwise_cons.1 h;rcases List.mem_cons.1 D with rfl|D
  ·rw[if_pos rfl]
  rw[if_neg (E x D),J H D]
theorem mem_merge (a b:List α):∀z∈cG κ a b,z∈a∨z∈b:=by
 fun_induction cG κ a b with
 |case1 b=>exact λz D=>.inr D
 |case2 x a=>exact λz D=>.inl D
 |case3 x a y b D H=>
  intro z E;rcases List.mem_cons.1 E with rfl|E
  ·exact .inl (az ..)
  rcases H z E with D|D
  ·exact .inl (aC _ D)
  exact .inr D
 |case4 x a y b h1 h2 H=>
  intro z E;rcases List.mem_cons.1 E with rfl|E
  ·exact .inr (az ..)
  rcases H z E with D|D
  ·exact .inl (aC _ D)
  exact .inr (aC _ D)
 |case5 x a y b h1 h2 H=>
  intro z E;rcases List.mem_cons.1 E with rfl|E
  ·exact .inr (az ..)
  rcases H z E with D|D
  ·exact .inl D
  exact .inr (aC _ D)
theorem Up.merge {a b:List α}(Q:Up κ a)(T:Up κ b):Up κ (cG κ a b):=by
 fun_induction cG κ a b with
 |case1 b=>exact T
 |case2 x a=>exact Q
 |case3 x a y b E V=>
  obtain⟨K,W⟩:=List.pairwise_cons.1 Q;obtain⟨M,X⟩:=List.pairwise_cons.1 T;refine List.pairwise_cons.2 ⟨λD U=>?_,V W T⟩;rcases mem_merge _ _ D U with H|H
  ·exact K D H
  rcases List.mem_cons.1 H with rfl|H
  ·exact E
  exact qN E (M D H)
 |case4 x a y b H h2 V=>
  obtain⟨K,W⟩:=List.pairwise_cons.1 Q;obtain⟨M,X⟩:=List.pairwise_cons.1 T;refine List.pairwise_cons.2 ⟨λD U=>?_,V W X⟩;rcases mem_merge _ _ D U with J|J
  ·rw[<-h2];exact K D J
  exact M D J
 |case5 x a y b H h2 V=>
  obtain⟨K,W⟩:=List.pairwise_cons.1 Q;obtain⟨M,X⟩:=List.pairwise_cons.1 T;have J:kl (κ y) (κ x):=by
   rcases Pk (κ x) (κ y) with E|E|E
   ·exact absurd E H
   ·exact absurd E h2
   exact E
  refine List.pairwise_cons.2 ⟨λD U=>?_,V Q X⟩;rcases mem_merge _ _ D U with O|O
  ·rcases List.mem_cons.1 O with rfl|O
   ·exact J
   exact qN J (K D O)
  exact M D O
theorem oV {l:List α}{k:Int × Int}(h:∀x∈l,kl k (κ x)):kU κ l k=none:=ke.2 λx D y=>Pj k (by have:=h x D;rwa [y] at this)
theorem ui {a b:List α}(O:Up κ a)(J:Up κ b)(k:Int × Int):kU κ (cG κ a b) k=(kU κ b k).or (kU κ a k):=by
 fun_induction cG κ a b with
 |case1 b=>simp[kU]
 |case2 x a=>simp[kU]
 |case3 x a y b h E=>
  obtain⟨T,K⟩:=List.pairwise_cons.1 O;obtain⟨M,H⟩:=List.pairwise_cons.1 J;rw[ew,E K J,ew x a];by_cases D:κ x=k
  ·rw[if_pos D,if_pos D,oV (l:=y :: b) (λU Q=>?_)]
   ·rfl
   rw[<-D];rcases List.mem_cons.1 Q with rfl|Q
   ·exact h
   exact qN h (M U Q)
  rw[if_neg D,if_neg D]
 |case4 x a y b h1 h2 E=>
  obtain⟨T,K⟩:=List.pairwise_cons.1 O;obtain⟨M,H⟩:=List.pairwise_cons.1 J;rw[ew,E K H,ew x a,ew y b];by_cases D:κ y=k
  ·rw[if_pos D,if_pos D];rfl
  rw[if_neg D,if_neg D,if_neg (by rw[h2];exact D)]
 |case5 x a y b h1 h2 E=>
  obtain⟨M,H⟩:=List.pairwise_cons.1 J;rw[ew,E O H,ew y b];by_cases D:κ y=k
  ·rw[if_pos D,if_pos D];rfl
  rw[if_neg D,if_neg D]
theorem Up.ext {a b:List α}(U:Up κ a)(V:Up κ b)(h:∀k,kU κ a k=kU κ b k):a=b:=by
 induction a generalizing b with
 |nil=>
  cases b with
  |nil=>rfl
  |cons y b=>
   have:=h (κ y);rw[ew,if_pos rfl] at this;cases this
 |cons x a W=>
  cases b with
  |nil=>
   have:=h (κ x);rw[ew,if_pos rfl] at this;cases this
  |cons y b=>
   obtain⟨J,O⟩:=List.pairwise_cons.1 U;obtain⟨K,Q⟩:=List.pairwise_cons.1 V;have T:κ x=κ y:=by
    rcases Pk (κ x) (κ y) with E|E|E
    ·have:=h (κ x);rw[ew,if_pos rfl,oV (l:=y :: b) (λH D=>?_)] at this
     ·cases this
     rcases List.mem_cons.1 D with rfl|D
     ·exact E
     exact qN E (K H D)
    ·exact E
    have:=h (κ y);rw[ew y b,if_pos rfl,oV (l:=x :: a) (λH D=>?_)] at this
    ·cases this
    rcases List.mem_cons.1 D with rfl|D
    ·exact E
    exact qN E (J H D)
   have M:=h (κ x);rw[ew,if_pos rfl,ew,if_pos T.symm] at M;obtain rfl:=Option.some.inj M;refine congrArg (x :: ·) (W O Q λk=>?_);have:=h k;rw[ew,ew] at this;by_cases E:κ x=k
   ·rw[oV (l:=a) (λH D=>by rw[<-E];exact J H D),oV (l:=b) (λH D=>by rw[<-E];exact K H D)]
   rwa [if_neg E,if_neg E] at this
theorem Once.perm {a b:List α}(h:Once κ a)(p:a.Perm b):Once κ b:=(p.pairwise_iff λh=>fV h).1 h
theorem NQ {a b:List α}(h:Once κ a)(p:a.Perm b)(k:Int × Int):kU κ a k=kU κ b k:=by
 cases y:kU κ a k with
 |none=>exact(ke.2 λD E=>ke.1 y D (p.mem_iff.2 E)).symm
 |some D=>
  obtain⟨E,rfl⟩:=jd y;exact(lD (h.perm p) (p.mem_iff.1 E)).symm
theorem FE (a b:List α)(k:Int × Int):kU κ (a ++ b) k=(kU κ a k).or (kU κ b k):=by unfold kU;rw[List.find?_append]
end
section
open Go Go.RowKit Go.Deep Go.ChangeShapes Go.WideShapes
structure Row where
 T:Int
 ID:Int
 V:Int
def pJ (n:Int):Prop:=-9223372036854775808<=n/\n<=9223372036854775807
def Row.ok (r:Row):Prop:=pJ r.T/\pJ r.ID/\pJ r.V
def aR (r:Row):List Value:=[Ji r.T,Ji r.ID,Ji r.V]
theorem gv (r:Row):(aR r).length=3:=rfl
def py (r:Row):Value:=.agg #[Ji r.T,Ji r.ID,Ji r.V]
theorem jj {w:JW}{A:JA}{n:Nat}{xs:List Row}(h:Rd w 3 A n (xs.flatMap aR)){i:Nat}(hi:i<xs.length):
 ∃b y,A=some (Jp b y)/\b<w.heap.size/\w.cell? (Jp b (y+i*3))=some (Ji xs[i].T)/\w.cell? (Jp b (y+i*3+1))=some (Ji xs[i].ID)/\w.cell? (Jp b (y+i*3+2))=some (Ji xs[i].V):=by
 obtain⟨b,y,E,H,D⟩:=h.elem gv Jd hi;exact⟨b,y,E,H,D 0 _ rfl,by have:=D 1 _ rfl;rwa [<-aV] at this,by have:=D 2 _ rfl;rwa [<-aV] at this⟩
section
variable {H:Type} {enc:TypeId × Value->H} {w:JW}
end
end
def kS (x:ar):Int × Int:=(x.T,0)
def kR (x:Row):Int × Int:=(x.T,x.ID)
def kI (x:eP):Int × Int:=(x.ID,0)
structure jP (l:List eP):Prop where
 up:Up kI l
 each:∀s∈l,Up kS s.L/\s.L≠[]
theorem jP.nil:jP []:=⟨cj,Js⟩
def wi (l:List eP)(y t:Int):Option Int:=(kU kI l (y,0)).bind λD=>(kU kS D.L (t,0)).map (·.V)
def vK (rows:List Row)(y t:Int):Option Int:=(kU kR rows (t,y)).map (·.V)
theorem uY {l:List eP}{i j:Int}(h:j≠0):kU kI l (i,j)=none:=ke.2 λD _ y=>h (by have:=congrArg gz y;exact this.symm)
theorem uZ {l:List ar}{i j:Int}(h:j≠0):kU kS l (i,j)=none:=ke.2 λD _ y=>h (by have:=congrArg gz y;exact this.symm)
theorem EO {a b:List ar}(Q:Up kS a)(T:Up kS b)(h:∀t,(kU kS a (t,0)).map (·.V)=(kU kS b (t,0)).map (·.V)):a=b:=by
 refine Up.ext Q T λy=>?_;obtain⟨E,U⟩:=y;by_cases M:U=0;rotate_left
 ·rw[uZ M,uZ M]
 subst M;have y:=h E;cases K:kU kS a (E,0) with
 |none=>
  rw[K] at y;cases D:kU kS b (E,0) with
  |none=>rfl
  |some O=>rw[D] at y;cases y
 |some W=>
  rw[K] at y;cases D:kU kS b (E,0) with
  |none=>rw[D] at y;cases y
  |some O=>
   rw[D] at y;have H:=congrArg dQ (jd K).2;have J:=congrArg dQ (jd D).2;simp only[eO,Option.some.injEq,kS] at y H J;obtain⟨X,Z⟩:=W;obtain⟨Y,aa⟩:=O;simp only at y H J;subst y H J;rfl
theorem jP.ext {a b:List eP}(K:jP a)(Q:jP b)(h:∀J t,wi a J t=wi b J t):a=b:=by
 have Y:∀{a b:List eP},jP a->jP b->(∀J t,wi a J t=wi b J t)->∀{y:Int}{D:eP},kU kI a (y,0)=some D->∃H,kU kI b (y,0)=some H:=by
  intro a b K Q h y D U;obtain⟨W,-⟩:=jd U;obtain⟨Z,X⟩:=K.each D W;obtain⟨O,aa⟩:=List.exists_mem_of_ne_nil _ X;have E:=h y O.T;unfold wi at E;have M:kU kS D.L (O.T,0)=some O:=lD Z.once aa;rw[U,bW,M] at E;cases V:kU kI b (y,0) with
  |none=>rw[V] at E;cases E
  |some H=>exact⟨H,rfl⟩
 refine Up.ext K.up Q.up λO=>?_;obtain⟨y,Z⟩:=O;by_cases W:Z=0;rotate_left
 ·rw[uY W,uY W]
 subst W;cases O:kU kI a (y,0) with
 |none=>
  cases V:kU kI b (y,0) with
  |none=>rfl
  |some H=>
   obtain⟨D,U⟩:=Y Q K (λJ t=>(h J t).symm) V;rw[O] at U;cases U
 |some D=>
  obtain⟨H,U⟩:=Y K Q h O;rw[U];have M:=congrArg dQ (jd O).2;have V:=congrArg dQ (jd U).2;simp only[kI] at M V;have X:D.L=H.L:=EO (K.each D (jd O).1).1 (Q.each H (jd U).1).1 λt=>by
   have E:=h y t;unfold wi at E;rw[O,U,bW,bW] at E;exact E
  obtain⟨E,ab⟩:=D;obtain⟨aa,ac⟩:=H;simp only at M V X;subst M V X;rfl
theorem QC {a b:List Row}(Q:Up kR a)(T:Up kR b)(h:∀M t,vK a M t=vK b M t):a=b:=by
 refine Up.ext Q T λy=>?_;obtain⟨t,E⟩:=y;have y:=h E t;unfold vK at y;cases K:kU kR a (t,E) with
 |none=>
  rw[K] at y;cases D:kU kR b (t,E) with
  |none=>rfl
  |some O=>rw[D] at y;cases y
 |some U=>
  rw[K] at y;cases D:kU kR b (t,E) with
  |none=>rw[D] at y;cases y
  |some O=>
   rw[D] at y;have H:=(jd K).2;have J:=(jd D).2;simp only[eO,Option.some.injEq,kR,Prod.mk.injEq] at y H J;obtain⟨X,V,Z⟩:=U;obtain⟨Y,W,aa⟩:=O;simp only at y H J;obtain⟨rfl,rfl⟩:=H;obtain⟨rfl,rfl⟩:=J;subst y;rfl
def rowsOf (s:eP):List Row:=s.L.map λy=>⟨y.T,s.ID,y.V⟩
def kn (l:List eP):List Row:=l.foldl (λy D=>cG kR y (rowsOf D)) []
theorem uM {s:eP}(h:Up kS s.L):Up kR (rowsOf s):=by
 unfold rowsOf Up;rw[cS];refine cQ (λ{D E} y=>?_) h;simp only[kS,kl,kR] at y ⊢;omega
theorem Gu (s:eP)(H t:Int):vK (rowsOf s) H t=if s.ID=H then(kU kS s.L (t,0)).map (·.V) else none:=by
 obtain⟨K,J⟩:=s;unfold vK rowsOf;simp only;induction J with
 |nil=>simp[kU]
 |cons x J D=>
  rw[bV,ew,ew];simp only[kR,kS,Prod.mk.injEq,and_true];by_cases y:K=H
  ·by_cases E:x.T=t
   ·simp[y,E]
   rw[if_pos y] at D ⊢;rw[if_neg (by simp[E]),if_neg E];exact D
  rw[if_neg y] at D ⊢;rw[if_neg (by simp[y])];exact D
theorem LX {a b:List Row}(D:Up kR a)(E:Up kR b)(y t:Int):vK (cG kR a b) y t=(vK b y t).or (vK a y t):=by
 unfold vK;rw[ui D E];all_goals (cases kU kR b (t,y)<;>rfl)
theorem sN:∀(l:List eP)(D:List Row),Up kR D->(∀s∈l,Up kS s.L)->Up kI l->
 Up kR (l.foldl (λrows s=>cG kR rows (rowsOf s)) D)/\∀y t,vK (l.foldl (λrows s=>cG kR rows (rowsOf s)) D) y t=(wi l y t).or (vK D y t)
 |[],D,H,_,_=>⟨H,λy t=>by simp[wi,kU]⟩
 |s :: l,D,H,J,M=>by
  obtain⟨u1,u2⟩:=List.pairwise_cons.1 M;have K:=uM (J s (az ..));obtain⟨Q,T⟩:=sN l (cG kR D (rowsOf s)) (H.merge K) (λO E=>J O (aC _ E)) u2;refine⟨Q,λy t=>?_⟩;rw[ia,T,LX H K,Gu];unfold wi;rw[ew];by_cases E:s.ID=y
  ·rw[if_pos E,if_pos (by simp[kI,E]),oV (l:=l) (λU O=>by have:=u1 U O;rw[show kI s=(y,0) by simp[kI,E]] at this;exact this)];rfl
  rw[if_neg E,if_neg (by simp[kI,E])];rfl
theorem QA {l:List eP}(h:jP l):Up kR (kn l):=(sN l [] cj (λD y=>(h.each D y).1) h.up).1
theorem Po {l:List eP}(h:jP l)(y t:Int):vK (kn l) y t=wi l y t:=by
 have:=(sN l [] cj (λE D=>(h.each E D).1) h.up).2 y t;unfold kn;rw[this];all_goals (cases wi l y t<;>rfl)
def jV (l:List eP)(rows:List Row)(out:List eP):Prop:=jP out/\∀y D,wi out y D=(vK rows y D).or (wi l y D)
theorem jV.one {l:List eP}{rows:List Row}{a b:List eP}(y:jV l rows a)(D:jV l rows b):a=b:=jP.ext y.1 D.1 λE H=>(y.2 E H).trans (D.2 E H).symm
abbrev lj (x:ar):Value:=.agg #[Ji x.T,Ji x.V]
abbrev QK (y:Int)(A:JA)(n c:Nat):Value:=.agg #[Ji y,.slice A n c]
abbrev ML (x:Row):Value:=.agg #[Ji x.T,Ji x.ID,Ji x.V]
theorem wZ (x y:ar)(w:JW):JC 129 #[lj x,lj y] w λe w'=>e= .returned (Ji (bK x.T y.T))/\Below w.heap.size w w':=by
 obtain⟨H,J⟩:=x;obtain⟨K,M⟩:=y;obtain⟨E,D⟩:=Je w.heap.size;go_enter Tryz.func129,Tryz.ntmps129;go_wp2_with (go_at_call 26;refine(Tryz.cmp_Compare_int _ _ _).mono ?_;rintro e w' ⟨rfl,rfl⟩);go_ret;subst D;exact⟨rfl,cZ _ _ _⟩
theorem wY (i:Int)(A:JA)(n c:Nat)(j:Int)(y:JA)(H D:Nat)(w:JW):JC 132 #[QK i A n c,QK j y H D] w λe w'=>e= .returned (Ji (bK i j))/\Below w.heap.size w w':=by
 obtain⟨J,E⟩:=Je w.heap.size;go_enter Tryz.func132,Tryz.ntmps132;go_wp2_with (go_at_call 26;refine(Tryz.cmp_Compare_int _ _ _).mono ?_;rintro e w' ⟨rfl,rfl⟩);go_ret;subst E;exact⟨rfl,cZ _ _ _⟩
def VR (p q:Int):Int:=if p=0 then q else p
def Vk (p q:Int)(w:JW)(iv:Value)(wr:JW):Prop:=∃y:Nat,iv=Ji y/\y<=2/\(1<=y->p=0)/\(2<=y->q=0)/\wr=w
theorem KN (B:Nat)(p q:Int)(c:Nat)(w:JW)(J:w.cell? (Jp B 0)=some (Ji p))(h1:w.cell? (Jp B 1)=some (Ji q)):
 JC 197 #[.slice (some (Jp B 0)) 2 c] w λe w'=>e= .returned (Ji (VR p q))/\w'=w:=by
 have Y:=Jh J;have Z:=Jh h1;obtain⟨ae,D⟩:=Je (VR p q);rw[D];unfold VR at D;have W:=Jh D;clear J h1 D;go_enter Tryz.func197,Tryz.ntmps197;go_wp2_with fail;go_loopw [8] (λy wr=>Vk p q w y wr) (λy _=>2 - (intOf y).toNat)
 case atStart=>exact⟨0,rfl,Jo,λy=>Jo,λy=>Jo,rfl⟩
 obtain⟨E,rfl,ab,M,Q,rfl⟩:=hrel;have J:=Y.o;have h1:=Z.o;by_cases X:E=2
 ·subst X;have H:=M Jo;have K:=Q Jo;have D:=W.o;rw[if_pos H,K] at D;clear M Q H K;subst D;go_wp2_with fail;go_ret;exact⟨rfl,rfl⟩
 obtain⟨H,ad,U⟩:∃H,wr.cell? (Jp B E)=some (Ji H)/\((E=0/\H=p)∨(E=1/\H=q)):=by
  by_cases K:E=0
  ·subst K;exact⟨p,J,.inl ⟨rfl,rfl⟩⟩
  obtain rfl:E=1:=Jo;exact⟨q,h1,.inr ⟨rfl,rfl⟩⟩
 have ac:(E:Int)<2:=Jo;have T:=Jh U;have V:=Jh M;by_cases K:H=0
 ·have aa:(H != 0)=false:=by rw[K];rfl
  have O:=Jh K;clear U M Q K J h1;go_wp2_with fail;go_roundw
  case rel=>
   refine⟨E+1,by go_num,Jo,λ_=>?_,λy=>?_,rfl⟩
   ·rcases T.o with⟨-,y⟩|⟨y,-⟩
    ·rw[<-y];exact O.o
    exact V.o Jo
   rcases T.o with⟨y,-⟩|⟨-,y⟩
   ·omega
   rw[<-y];exact O.o
  simp[intOf];omega
 have aa:(H != 0)=true:=by simpa using K
 have O:=Jh K;clear U M Q K J h1;go_wp2_with fail;go_ret;refine⟨Ki ?_,rfl⟩;have D:=W.o;rcases T.o with⟨-,y⟩|⟨X,y⟩
 ·rw[if_neg (by rw[<-y];exact O.o)] at D;omega
 rw[if_pos (V.o Jo)] at D;omega
def KO (x y:Row):Int:=VR (bK x.T y.T) (bK x.ID y.ID)
theorem KG (x Y:Row)(w:JW):JC 122 #[ML x,ML Y] w λe w'=>e= .returned (Ji (KO x Y))/\Below w.heap.size w w':=by
 obtain⟨E,H,V⟩:=x;obtain⟨J,K,X⟩:=Y;unfold KO;dsimp only;obtain⟨y,T⟩:=Je w.heap.size;obtain⟨D,O⟩:=Je ((w.alloc (.cells #[Ji E,Ji H,Ji V] 130)).alloc (.cells #[Ji J,Ji K,Ji X] 130));have W:=heap_alloc_new w (.cells #[Ji E,Ji H,Ji V] 130);have Q:=heap_alloc_new (w.alloc (.cells #[Ji E,Ji H,Ji V] 130)) (.cells #[Ji J,Ji K,Ji X] 130);have ab:Below y w D:=by rw[<-T,<-O];exact cZ _ _ _
 have ac:D.heap.size=y+2:=by rw[<-O,<-T];simp
 simp only[aI,T] at W Q;have U:=(aJ (w.alloc (.cells #[Ji E,Ji H,Ji V] 130)) (.cells #[Ji J,Ji K,Ji X] 130) y (by simp;omega)).trans W;rw[O] at Q U;have aj:D.cell? (Jp y 0)=some (Ji E):=by rw[aa U];rfl
 have ak:D.cell? (Jp y 1)=some (Ji H):=by rw[aa U];rfl
 have am:D.cell? (Jp (y+1) 0)=some (Ji J):=by rw[aa Q];rfl
 have an:D.cell? (Jp (y+1) 1)=some (Ji K):=by rw[aa Q];rfl
 have ae:=Jh O;have ah:=Jh ac;have af:=Jh ab;clear W Q U O ac ab;go_enter Tryz.func122,Tryz.ntmps122;go_wp2_with fail;simp only[ae.o];have ad:∀w',Below D.heap.size D w'->Below D.heap.size D w'/\w'.cell? (Jp y 0)=some (Ji E)/\w'.cell? (Jp y 1)=some (Ji H)/\w'.cell? (Jp (y+1) 0)=some (Ji J)/\w'.cell? (Jp (y+1) 1)=some (Ji K):=λw' M=>
  ⟨M,al M aj,al M ak,al M am,al M an⟩
 have Z:=Jh ad;clear ad;go_region_held (λw'=>Below D.heap.size D w'/\w'.cell? (Jp y 0)=some (Ji E)/\w'.cell? (Jp y 1)=some (Ji H)/\w'.cell? (Jp (y+1) 0)=some (Ji J)/\w'.cell? (Jp (y+1) 1)=some (Ji K))
  (first|exact Z.o _ (ag _ _).drew|assumption|exact Z.o _ (Below.one D _).drew)
  (first
   |(go_at_call 26;refine(Tryz.cmp_Compare_int _ _ _).mono ?_;rintro e ao ⟨rfl,rfl⟩)
   |(go_at_call 197;refine(KN _ _ _ _ _ (by rw[World.cell?_drew,aa (heap_alloc_new _ _)];rfl) (by rw[World.cell?_drew,aa (heap_alloc_new _ _)];rfl)).mono ?_;rintro e ao ⟨rfl,rfl⟩))
 go_wp2_with fail;go_ret;rename_i ai;exact⟨rfl,by rw[T];exact af.o.trans (ai.1.mono (by rw[ah.o];omega))⟩
theorem Rd.head {w:JW}{C n:Nat}{A:JA}{cs r:List Value}(h:Rd w C A (n+1) (cs ++ r))(hc:cs.length=C):
 ∃b y,A=some (Jp b y)/\b<w.heap.size/\(∀j u,cs[j]?=some u->w.cell? (Jp b (y+j))=some u)/\Rd w C (some (Jp b (y+C))) n r:=by
 obtain⟨b,y,J,E,H⟩:=h.2 Jo;refine⟨b,y,J,E,λj u D=>H j u ?_,?_,λ_=>⟨b,y+C,rfl,E,λj u D=>?_⟩⟩
 ·rw[eU (List.getElem?_eq_some_iff.1 D).1];exact D
 ·have:=h.1;rw[ab,hc,jQ] at this;omega
 rw[aV];exact H (C+j) u (by rw[fF Jo,hc,Nat.add_sub_cancel_left];exact D)
theorem ng (x y:Int):(bK x y<0↔x<y)/\(bK x y=0↔x=y):=by
 unfold bK;by_cases D:x<y
 ·rw[if_pos D];omega
 rw[if_neg D];by_cases E:x > y
 ·rw[if_pos E];omega
 rw[if_neg E];omega
theorem KP (x y:Row):(KO x y<0↔kl (kR x) (kR y))/\(KO x y=0↔kR x=kR y):=by
 obtain⟨E,H⟩:=ng x.T y.T;obtain⟨J,K⟩:=ng x.ID y.ID;unfold KO VR kl kR;simp only[Prod.mk.injEq];by_cases D:bK x.T y.T=0
 ·rw[if_pos D];omega
 rw[if_neg D];omega
theorem KQ (x y:ar):(bK x.T y.T<0↔kl (kS x) (kS y))/\(bK x.T y.T=0↔kS x=kS y):=by
 obtain⟨D,E⟩:=ng x.T y.T;exact⟨D.trans (by simp[kl,kS]),E.trans (by simp[kS])⟩
theorem gi {B:Nat}{w w':JW}(y:Below B w w'){g o:Nat}{u:Value}(D:g<B)(h:w.cell? (Jp g o)=some u):w'.cell? (Jp g o)=some u:=(y.cell (p:=(Jp g o)) D).trans h
theorem gA {R:Nat->Prop}{e:TypeId}{size n c:Nat}{A:JA}{xs:List Value}{w:JW}(h:bP R e size (.slice A n c) n xs w):n<=c:=by
 rcases h.1.2 with⟨y,rfl⟩|⟨H,D,E,y,J,K,M,-⟩
 ·simp at y;omega
 simp at y;omega
theorem _root_.Go.World.grownBy.below' {w w':JW}(h:w.grownBy w' none){B:Nat}(D:w.heap.size=B):Below B w w':=⟨h.os,h.tape,h.output,h.size,λy E=>h.block y Jo Js⟩
def qR:Value->Nat
 | .slice _ n _=>n
 |_=>0
theorem lQ {y:Type}{cells:y->List Value}{w:JW}{C n c:Nat}{g o:Nat}{xs:List y}{A:JA}(h:Rd w C (some (Jp g (o+C))) n (xs.flatMap cells))(hc:n+1<=c)(E:xs.length=n)(hA:(if c=1 then some (Jp g o) else some (Jp g (o+C)))=A):Rd w C A n (xs.flatMap cells):=by
 by_cases D:c=1
 ·obtain rfl:n=0:=Jo;obtain rfl:=List.length_eq_zero_iff.1 E;exact⟨Js,λh=>absurd h Jo⟩
 rw[if_neg D] at hA;rw[<-hA];exact h
theorem jX (w:JW)(us:Array Value)(y:TypeId):Rd (w.alloc (.cells us y)) us.size (some (Jp w.heap.size 0)) 1 us.toList:=by
 have D:=heap_alloc_new w (.cells us y);refine⟨Js,λ_=>⟨_,_,rfl,Js,λH J E=>?_⟩⟩;rw[aa D,bB];simpa using E
theorem me {y:Type}(κ:y->Int × Int)(l:List y):cG κ l []=l:=by cases l<;>simp[cG]
theorem mc {y:Type}(κ:y->Int × Int)(l:List y):cG κ [] l=l:=by simp[cG]
theorem uI {y:Type}(κ:y->Int × Int)(a b:List y):(cG κ a b).length<=a.length+b.length:=by
 fun_induction cG κ a b<;>simp only[ak,aX] at* <;>omega
section
open Go Go.RowKit Go.Deep Go.ChangeShapes Go.WideShapes
structure ej where
 ID:Int
 A:JA
 n:Nat
 c:Nat
def cn (x:ej):List Value:=[Ji x.ID,.slice x.A x.n x.c]
theorem js (x:ej):(cn x).length=2:=rfl
structure lu (w:JW) (x:ej) (s:eP):Prop where
 id:s.ID=x.ID
 len:s.L.length=x.n
 rd:Rd w 2 x.A x.n (s.L.flatMap ay)
theorem lu.below {w w':JW}{x:ej}{s:eP}(h:lu w x s)(y:Jz w w'):lu w' x s:=⟨h.id,h.len,h.rd.below y⟩
structure fI (w:JW) (A:JA) (xs:List ej) (l:List eP):Prop where
 len:l.length=xs.length
 rd:Rd w 2 A xs.length (xs.flatMap cn)
 at_:∀i,(h:i<xs.length)->lu w xs[i] (l[i]'Jo)
theorem fI.below {w w':JW}{A:JA}{xs:List ej}{l:List eP}(h:fI w A xs l)(y:Jz w w'):fI w' A xs l:=⟨h.len,h.rd.below y,λE D=>(h.at_ E D).below y⟩
def Vr (x:ej)(s:eP):Prop:=In64 x.ID/\(∀y∈s.L,ar.ok y)/\x.n<=x.c/\x.c<=maxLen
section
variable {H:Type} {enc:TypeId × Value->H} {w:JW}
end
end
def kV (x:ej):Int × Int:=(x.ID,0)
theorem KR (x y:ej):(bK x.ID y.ID<0↔kl (kV x) (kV y))/\(bK x.ID y.ID=0↔kV x=kV y):=by
 obtain⟨D,E⟩:=ng x.ID y.ID;exact⟨D.trans (by simp[kl,kV]),E.trans (by simp[kV])⟩
theorem sC:(prog.info? 68).map (λi=>(i.zero,i.size,i.bytes))=some (some (.agg #[Ji 0,Jn]),2,32):=Jk
theorem Jb {xs:List ej}:∀u∈xs.flatMap cn,u.oneCell'=true:=λu D=>by
 obtain⟨E,-,y⟩:=List.mem_flatMap.1 D;simp only[cn,dh,di,or_false] at y;rcases y with rfl|rfl<;>rfl
def TG (H:Nat)(w:JW)(xs aa:List ej)(X Y Z:Value)(wr:JW):Prop:=∃(K M W:List ej)(E D y:Nat)(O:JA)(U:Nat)(Q:JA)(V:Nat)(T:JA)(J:Nat),
 X= .slice O E U/\Y= .slice Q D V/\Z= .slice T y J/\K.length=E/\M.length=D/\E<=U/\D<=V/\cG kV xs aa=W ++ cG kV K M/\y+E+D<=200000/\y<=J/\
 Rd w 2 O E (K.flatMap cn)/\Rd w 2 Q D (M.flatMap cn)/\bP (λU=>U<H) 68 2 (.slice T y J) y (W.flatMap cn) wr/\Below H w wr/\H<=wr.heap.size
theorem Gw (A:JA)(n ca:Nat)(xs:List ej)(B:JA)(m bg:Nat)(aL:List ej)(w:JW)(hA:Rd w 2 A n (xs.flatMap cn))(bS:xs.length=n)(b5:n<=ca)(hB:Rd w 2 B m (aL.flatMap cn))(bR:aL.length=m)(b6:m<=bg)(cd:n+m<=100000):
 JC 136 #[.slice A n ca,.slice B m bg,.func (.func 132) #[] #[]] w λe w'=>∃aM k aE,e= .returned (.slice aM k aE)/\k=(cG kV xs aL).length/\k<=aE/\
  bP (λj=>j<w.heap.size) 68 2 (.slice aM k aE) k ((cG kV xs aL).flatMap cn) w'/\Below w.heap.size w w':=by
 obtain⟨y,ak⟩:=Je w.heap.size;have bV:=Jh hA;have bW:=Jh hB;have b0:=Jh bS;have bZ:=Jh bR;have U:IntKind.i64.wrap ((n:Int)+(m:Int))=((n+m:Nat):Int):=by rw[bC _ Jo];omega
 obtain⟨b7,E,K,M,O⟩:=info_parts sC;clear hA hB bS bR;go_enter Tryz.func136,Tryz.ntmps136;go_wp2_with (at_make;refine wpList_make_own w rfl _ _ _ rfl 0 68 b7 _ 2 underlying63 E K M .i64 .i64 _ (n+m) rfl rfl Js (by rw[O];omega) Jm (bj _) ?_;intro b8 H D);have J:TG y w xs aL (.slice A n ca) (.slice B m bg) (.slice (some (Jp y 0)) 0 (n+m)) b8:=by
  refine⟨xs,aL,[],n,m,0,A,ca,B,bg,_,_,rfl,rfl,rfl,b0.o,bZ.o,b5,b6,Js,Jo,Jo,bV.o,bW.o,⟨by rw[<-ak];exact H,?_⟩,D.below' ak,by rw[<-ak];exact D.size⟩;intro Q T V;have:y=Q:=by simpa [aG] using T
  omega
 have bX:=Jh J;clear J H D E K M O U;try simp only[ak]
 go_loopw [0,1,7] (λD E H wr=>TG y w xs aL D E H wr) (λD E _ _=>qR D+qR E)
 case atStart=>exact bX.o
 obtain⟨aC,ac,bh,af,aT,k,bT,bI,bU,bJ,aM,aE,rfl,rfl,rfl,aZ,aY,bM,bO,bk,bB,bz,a8,ba,bx,aR,bA⟩:=hrel;have br:=Jh bk;have Z:=Jh bB;have bp:=Jh bx;have bn:=Jh aR;have bF:=Jh bA;have b9:=Jh bz;by_cases bQ:0<af/\0<aT;rotate_left
 ·have K:=Jh (show cG kV xs aL=bh ++ aC ++ ac by
   rw[bk,au];by_cases aF:af=0
   ·obtain rfl:=List.length_eq_zero_iff.1 (aZ.trans aF);rw[mc,bi]
   obtain rfl:=List.length_eq_zero_iff.1 (aY.trans (by omega:aT=0));rw[me,cV])
  have bt:=Jh a8;have bu:=Jh ba;have W:=Jh aZ;have V:=Jh aY;have T:gm (λj=>j<y) wr:=λj M=>by have bw:j<y:=M;omega
  have H:decide (0<af)=false∨(decide (0<af)=true/\decide (0<aT)=false):=by
   by_cases aF:0<af
   ·exact .inr ⟨decide_eq_true Jo,decide_eq_false Jo⟩
   exact .inl (decide_eq_false Jo)
  clear bQ bk aZ aY a8 ba bx aR bA bz bB;rcases H with H|⟨H,ah⟩;all_goals
   go_wp2_with (at_builtin;first
    |(refine cX rfl (.tmp 53) (.tmp 54) 63 Jr 68 (.agg #[Ji 0,Jn]) 2 32 underlying63 sC rfl Jd (λj=>j<y) k _ (.slice aM k aE) _ bp.o Jr T bT af bI _ Jr (bt.o.below (by rw[ak];exact bn.o)) Jb (by have:=Z.o;unfold maxLen;omega) (Jw Z.o) ?_;intro bD ar Q J aS aQ;obtain⟨aN,aP,rfl⟩:=Q.form;have aj:=Jh Q;have ae:gm (λj=>j<y) ar:=T.mono J.size;have aD:=Jh (bn.o.trans (J.below λj M=>M));clear aS aQ Q J)
    |(go_must (refine cX rfl (.tmp 55) (.tmp 56) 63 Jr 68 (.agg #[Ji 0,Jn]) 2 32 underlying63 sC rfl Jd (λj=>j<y) (k+af) _ (.slice aN (k+af) aP) _ aj.o Jr ae bU aT bJ _ Jr (bu.o.below (by rw[ak];exact aD.o)) Jb (by have:=Z.o;unfold maxLen;omega) (Jw Z.o) ?_;intro ai am E U ad aa;obtain⟨X,Y,rfl⟩:=E.form;have D:=Jh E;have O:=Jh (aD.o.trans (U.below λj M=>M));clear ad aa E U)))
   go_ret;refine⟨X,k+af+aT,Y,rfl,?_,gA D.o,?_,by first|exact O.o|(rw[ak];exact O.o)⟩
   ·rw[K.o,ab,ab,W.o,V.o];have:=bp.o.1.1;rw[de js] at this;omega
   rw[K.o,ao,ao];first|exact D.o|(rw[ak];exact D.o)
 obtain⟨ah,az,rfl⟩:∃ah az,aC=ah :: az:=by cases aC with
  |nil=>simp at aZ;omega
  |cons ah az=>exact⟨ah,az,rfl⟩
 obtain⟨ai,aA,rfl⟩:∃ai aA,ac=ai :: aA:=by cases ac with
  |nil=>simp at aY;omega
  |cons ai aA=>exact⟨ai,aA,rfl⟩
 obtain⟨ap,rfl⟩:∃ap,af=ap+1:=⟨af - 1,Jo⟩;obtain⟨am,rfl⟩:∃am,aT=am+1:=⟨aT - 1,Jo⟩;obtain⟨aJ,aU⟩:=KR ah ai;have bt:=Jh a8;have bu:=Jh ba;obtain⟨aW,J⟩:=Je (bK ah.ID ai.ID);have a1:=λD:JW=>(wY ah.ID ah.A ah.n ah.c ai.ID ai.A ai.n ai.c D);rw[J] at aJ aU;simp only[J] at a1;obtain⟨aw,av,ay,ax⟩:=ah;obtain⟨X,aq,rfl,D,K,O⟩:=Rd.head (C:=2) (cs:=cn ⟨aw,av,ay,ax⟩) (r:=az.flatMap cn) (n:=ap) (by simpa using a8) rfl;rw[ak] at D;have bY:=Jh (show X<y from D);have bb:wr.cell? (Jp X aq)=some (Ji aw):=gi aR D (K 0 _ rfl);have aC:wr.cell? (Jp X (aq+1))=some (.slice av ay ax):=gi aR D (K 1 _ rfl);obtain⟨U,T,W,V⟩:=ai;obtain⟨H,aa,rfl,E,M,Q⟩:=Rd.head (C:=2) (cs:=cn ⟨U,T,W,V⟩) (r:=aA.flatMap cn) (n:=am) (by simpa using ba) rfl;rw[ak] at E;have bE:=Jh (show H<y from E);have aK:wr.cell? (Jp H aa)=some (Ji U):=gi aR E (M 0 _ rfl);have ac:wr.cell? (Jp H (aa+1))=some (.slice T W V):=gi aR E (M 1 _ rfl);have a1:=Jh a1;have bc:=Jh bM;have bd:=Jh bO;have be:=Jh (show az.length=ap by simpa using aZ);have bf:=Jh (show aA.length=am by simpa using aY);have ce:(0:Int)<((ap+1:Nat):Int):=Jo;have cf:(0:Int)<((am+1:Nat):Int):=Jo;clear aZ aY bk bB bx aR bA bz bQ J bM bO
 obtain⟨bl,b3⟩:∃bl:JA,(if bI=1 then some (Jp X aq) else some (Jp X (aq+2)))=bl:=⟨_,rfl⟩;obtain⟨bm,b4⟩:∃bm:JA,(if bJ=1 then some (Jp H aa) else some (Jp H (aa+2)))=bm:=⟨_,rfl⟩;have bG:=Jh (show Rd w 2 bl ap (az.flatMap cn) from lQ O bc.o be.o b3);have bH:=Jh (show Rd w 2 bm am (aA.flatMap cn) from lQ Q bd.o bf.o b4);have u1:(1:Int)<=(ap:Int)+1:=Jo;have u2:(1:Int)<=(am:Int)+1:=Jo;clear O Q K M a8 ba D E;go_wp2_with fail;have E:∀w',Below wr.heap.size wr w'->w'.cell? (Jp X aq)=some (Ji aw)/\w'.cell? (Jp X (aq+1))=some (.slice av ay ax)/\w'.cell? (Jp H aa)=some (Ji U)/\w'.cell? (Jp H (aa+1))=some (.slice T W V):=λw' O=>⟨al O bb,al O aC,al O aK,al O ac⟩;have D:=Jh E;clear E;go_region_held (λw'=>Below wr.heap.size wr w'/\w'.cell? (Jp X aq)=some (Ji aw)/\w'.cell? (Jp X (aq+1))=some (.slice av ay ax)/\w'.cell? (Jp H aa)=some (Ji U)/\w'.cell? (Jp H (aa+1))=some (.slice T W V))
  (first|exact⟨(ag _ _).drew,D.o _ (ag _ _).drew⟩|assumption|exact⟨Below.h (by assumption),D.o _ (Below.h (by assumption))⟩)
  (first
   |(go_at_call 132;refine(a1.o _).mono ?_;rintro e E ⟨rfl,aX⟩)
   |(go_at_fn 132;refine(a1.o _).mono ?_;rintro e E ⟨rfl,aX⟩))
 have aB:=Jh (show y<=E.heap.size by have:=aX.h.size;have:=bF.o;omega);have bo:=Jh (bn.o.trans (aX.h.mono bF.o));have bq:=Jh (bp.o.below aX.h);obtain⟨bb,aC,aK,ac⟩:=D.o _ aX.h;clear aX D;have cb:=Jh aJ;have cc:=Jh aU;by_cases aO:aW<0
 ·have D:=aJ.1 aO;have a6:=Jh D;have b1:decide (aW<0)=true:=decide_eq_true aO;clear aJ aU D;go_wp2_with fail;refine wp_region_held_drew (S:=λw'=>w'.cell? (Jp X aq)=some (Ji aw)/\w'.cell? (Jp X (aq+1))=some (.slice av ay ax)) Jk ?_ (λaH=>?_)
  ·exact⟨bb,aC⟩
  refine JK 0 (h:=JK 1 (h:=JK 2 (h:=JK 3 (h:=JK 6 (h:=JK 7 (h:=?_))))));refine JN 4 (h:=λad K=>?_);go_simp;have D:Below E.heap.size E (E.drew.alloc (.cells #[Ji aw,.slice av ay ax] 68)):=(Below.one E.drew (.cells #[Ji aw,.slice av ay ax] 68)).h;refine K.out _ _ ⟨al D bb,al D aC⟩ (λaH=>?_);clear K ad;try simp only[an,JY]
  refine JN 5 (h:=λad K=>?_);refine bN rfl (.tmp 33) (.tmp 37) 63 rfl 68 (.agg #[Ji 0,Jn]) 2 32 underlying63 sC rfl Jd (λj=>j<y) k _ (.slice aM k aE) _ (bq.o.below D) rfl (λj M=>by have bw:j<y:=M;have:=aB.o;simp;omega) _ 1 _ [Ji aw,.slice av ay ax] rfl (jX E.drew _ _) (by intro Y aI;simp at aI;rcases aI with rfl|rfl<;>rfl) (by have:=Z.o;unfold maxLen;omega) (Jw Z.o) ?_;intro bD ar Q J aS aQ;obtain⟨aN,aP,rfl⟩:=Q.form;have aj:=Jh Q;have a7:=Jh (show y<=ar.heap.size by have aF:=J.size;have bL:=aB.o;simp at aF;omega);have aD:=Jh ((bo.o.trans (D.mono aB.o)).trans (J.below λj M=>M));have ae:∀(j:Nat)(Y:Value),E.cell? (Jp X j)=some Y->ar.cell? (Jp X j)=some Y:=λj Y O=>by
   rw[<-al D O];unfold dL;rw[J.block X bY.o];rfl
  refine K.out _ _ ⟨ae _ _ bb,ae _ _ aC⟩ (λaH=>?_);clear K ad aS aQ Q J ae D;try simp only[an,JY]
  refine JK 8 (h:=JK 9 (h:=?_));refine wpAnyH_done Jk ?_ _;go_wp2_with fail;go_roundw
  case rel=>exact⟨az,⟨U,T,W,V⟩ :: aA,bh ++ [⟨aw,av,ay,ax⟩],ap,am+1,k+1,_,_,_,_,aN,aP,rfl,rfl,rfl,be.o,by simp[bf.o],Jw bc.o,bd.o,by rw[br.o,cG,if_pos a6.o,au];rfl,Jw Z.o,gA aj.o,bG.o,bu.o,by rw[ao];simpa [cn] using aj.o,aD.o,a7.o⟩
  simp[qR]
 have b1:decide (aW<0)=false:=decide_eq_false aO;by_cases aV:aW=0
 ·have a6:=Jh (aU.1 aV);have bv:=Jh (λO=>aO (aJ.2 O));have b2:(aW == 0)=true:=by simpa using aV
  clear aJ aU aO aV;go_wp2_with fail;refine wp_region_held_drew (S:=λw'=>w'.cell? (Jp H aa)=some (Ji U)/\w'.cell? (Jp H (aa+1))=some (.slice T W V)) Jk ?_ (λaH=>?_)
  ·exact⟨aK,ac⟩
  refine JK 0 (h:=JK 1 (h:=JK 2 (h:=JK 3 (h:=JK 6 (h:=JK 7 (h:=?_))))));refine JN 4 (h:=λad K=>?_);go_simp;have D:Below E.heap.size E (E.drew.alloc (.cells #[Ji U,.slice T W V] 68)):=(Below.one E.drew (.cells #[Ji U,.slice T W V] 68)).h;refine K.out _ _ ⟨al D aK,al D ac⟩ (λaH=>?_);clear K ad;try simp only[an,JY]
  refine JN 5 (h:=λad K=>?_);refine bN rfl (.tmp 45) (.tmp 49) 63 rfl 68 (.agg #[Ji 0,Jn]) 2 32 underlying63 sC rfl Jd (λj=>j<y) k _ (.slice aM k aE) _ (bq.o.below D) rfl (λj M=>by have bw:j<y:=M;have:=aB.o;simp;omega) _ 1 _ [Ji U,.slice T W V] rfl (jX E.drew _ _) (by intro Y aI;simp at aI;rcases aI with rfl|rfl<;>rfl) (by have:=Z.o;unfold maxLen;omega) (Jw Z.o) ?_;intro bD ar Q J aS aQ;obtain⟨aN,aP,rfl⟩:=Q.form;have aj:=Jh Q;have a7:=Jh (show y<=ar.heap.size by have aF:=J.size;have bL:=aB.o;simp at aF;omega);have aD:=Jh ((bo.o.trans (D.mono aB.o)).trans (J.below λj M=>M));have ae:∀(j:Nat)(Y:Value),E.cell? (Jp H j)=some Y->ar.cell? (Jp H j)=some Y:=λj Y O=>by
   rw[<-al D O];unfold dL;rw[J.block H bE.o];rfl
  refine K.out _ _ ⟨ae _ _ aK,ae _ _ ac⟩ (λaH=>?_);clear K ad aS aQ Q J ae D;try simp only[an,JY]
  refine JK 8 (h:=JK 9 (h:=?_));refine wpAnyH_done Jk ?_ _;go_wp2_with fail;go_roundw
  case rel=>exact⟨az,aA,bh ++ [⟨U,T,W,V⟩],ap,am,k+1,_,_,_,_,aN,aP,rfl,rfl,rfl,be.o,bf.o,Jw bc.o,Jw bd.o,by rw[br.o,cG,if_neg bv.o,if_pos a6.o,au];rfl,Jw Z.o,gA aj.o,bG.o,bH.o,by rw[ao];simpa [cn] using aj.o,aD.o,a7.o⟩
  simp[qR];omega
 have a6:=Jh (λO=>aV (aU.2 O));have bv:=Jh (λO=>aO (aJ.2 O));have b2:(aW == 0)=false:=by simpa using aV
 clear aJ aU aO aV;go_wp2_with fail;refine wp_region_held_drew (S:=λw'=>w'.cell? (Jp H aa)=some (Ji U)/\w'.cell? (Jp H (aa+1))=some (.slice T W V)) Jk ?_ (λaH=>?_)
 ·exact⟨aK,ac⟩
 refine JK 0 (h:=JK 1 (h:=JK 2 (h:=JK 3 (h:=JK 6 (h:=JK 7 (h:=?_))))));refine JN 4 (h:=λad K=>?_);go_simp;have D:Below E.heap.size E (E.drew.alloc (.cells #[Ji U,.slice T W V] 68)):=(Below.one E.drew (.cells #[Ji U,.slice T W V] 68)).h;refine K.out _ _ ⟨al D aK,al D ac⟩ (λaH=>?_);clear K ad;try simp only[an,JY]
 refine JN 5 (h:=λad K=>?_);refine bN rfl (.tmp 45) (.tmp 49) 63 rfl 68 (.agg #[Ji 0,Jn]) 2 32 underlying63 sC rfl Jd (λj=>j<y) k _ (.slice aM k aE) _ (bq.o.below D) rfl (λj M=>by have bw:j<y:=M;have:=aB.o;simp;omega) _ 1 _ [Ji U,.slice T W V] rfl (jX E.drew _ _) (by intro Y aI;simp at aI;rcases aI with rfl|rfl<;>rfl) (by have:=Z.o;unfold maxLen;omega) (Jw Z.o) ?_;intro bD ar Q J aS aQ;obtain⟨aN,aP,rfl⟩:=Q.form;have aj:=Jh Q;have a7:=Jh (show y<=ar.heap.size by have aF:=J.size;have bL:=aB.o;simp at aF;omega);have aD:=Jh ((bo.o.trans (D.mono aB.o)).trans (J.below λj M=>M));have ae:∀(j:Nat)(Y:Value),E.cell? (Jp H j)=some Y->ar.cell? (Jp H j)=some Y:=λj Y O=>by
  rw[<-al D O];unfold dL;rw[J.block H bE.o];rfl
 refine K.out _ _ ⟨ae _ _ aK,ae _ _ ac⟩ (λaH=>?_);clear K ad aS aQ Q J ae D;try simp only[an,JY]
 refine JK 8 (h:=JK 9 (h:=?_));refine wpAnyH_done Jk ?_ _;go_wp2_with fail;go_roundw
 case rel=>exact⟨⟨aw,av,ay,ax⟩ :: az,aA,bh ++ [⟨U,T,W,V⟩],ap+1,am,k+1,_,_,_,_,aN,aP,rfl,rfl,rfl,by simp[be.o],bf.o,bc.o,Jw bd.o,by rw[br.o,cG,if_neg bv.o,if_neg a6.o,au];rfl,Jw Z.o,gA aj.o,bt.o,bH.o,by rw[ao];simpa [cn] using aj.o,aD.o,a7.o⟩
 simp[qR]
theorem mu:(prog.info? 130).map (λi=>(i.zero,i.size,i.bytes))=some (some (.agg #[Ji 0,Ji 0,Ji 0]),3,24):=Jk
theorem Jj {xs:List Row}:∀u∈xs.flatMap aR,u.oneCell'=true:=λu D=>by
 obtain⟨E,-,y⟩:=List.mem_flatMap.1 D;simp only[aR,dh,di,or_false] at y;rcases y with rfl|rfl|rfl<;>rfl
def TH (H:Nat)(w:JW)(xs aa:List Row)(X Y Z:Value)(wr:JW):Prop:=∃(K M W:List Row)(E D y:Nat)(O:JA)(U:Nat)(Q:JA)(V:Nat)(T:JA)(J:Nat),
 X= .slice O E U/\Y= .slice Q D V/\Z= .slice T y J/\K.length=E/\M.length=D/\E<=U/\D<=V/\cG kR xs aa=W ++ cG kR K M/\y+E+D<=200000/\y<=J/\
 Rd w 3 O E (K.flatMap aR)/\Rd w 3 Q D (M.flatMap aR)/\bP (λU=>U<H) 130 3 (.slice T y J) y (W.flatMap aR) wr/\Below H w wr/\H<=wr.heap.size
theorem Gx (A:JA)(n ca:Nat)(xs:List Row)(B:JA)(m bh:Nat)(aL:List Row)(w:JW)(hA:Rd w 3 A n (xs.flatMap aR))(bS:xs.length=n)(b5:n<=ca)(hB:Rd w 3 B m (aL.flatMap aR))(bR:aL.length=m)(b6:m<=bh)(cd:n+m<=100000):
 JC 121 #[.slice A n ca,.slice B m bh,.func (.func 122) #[] #[]] w λe w'=>∃aM k aB,e= .returned (.slice aM k aB)/\k=(cG kR xs aL).length/\k<=aB/\
  bP (λj=>j<w.heap.size) 130 3 (.slice aM k aB) k ((cG kR xs aL).flatMap aR) w'/\Below w.heap.size w w':=by
 obtain⟨E,ai⟩:=Je w.heap.size;have bV:=Jh hA;have bW:=Jh hB;have b0:=Jh bS;have bZ:=Jh bR;have U:IntKind.i64.wrap ((n:Int)+(m:Int))=((n+m:Nat):Int):=by rw[bC _ Jo];omega
 obtain⟨b7,D,K,M,O⟩:=info_parts mu;clear hA hB bS bR;go_enter Tryz.func121,Tryz.ntmps121;go_wp2_with (at_make;refine wpList_make_own w rfl _ _ _ rfl 0 130 b7 _ 3 underlying106 D K M .i64 .i64 _ (n+m) rfl rfl Js (by rw[O];omega) Jm (bj _) ?_;intro b8 H y);have J:TH E w xs aL (.slice A n ca) (.slice B m bh) (.slice (some (Jp E 0)) 0 (n+m)) b8:=by
  refine⟨xs,aL,[],n,m,0,A,ca,B,bh,_,_,rfl,rfl,rfl,b0.o,bZ.o,b5,b6,Js,Jo,Jo,bV.o,bW.o,⟨by rw[<-ai];exact H,?_⟩,y.below' ai,by rw[<-ai];exact y.size⟩;intro Q T V;have:E=Q:=by simpa [aG] using T
  omega
 have bX:=Jh J;clear J H y D K M O U;try simp only[ai]
 go_loopw [0,1,7] (λy D H wr=>TH E w xs aL y D H wr) (λy D _ _=>qR y+qR D)
 case atStart=>exact bX.o
 obtain⟨az,ad,bk,af,aT,k,bT,bJ,bU,bK,aM,aB,rfl,rfl,rfl,aZ,aY,bM,bO,bl,bD,bA,a8,ba,bz,ay,bB⟩:=hrel;have bt:=Jh bl;have ac:=Jh bD;have bq:=Jh bz;have bo:=Jh ay;have bG:=Jh bB;have b9:=Jh bA;by_cases bQ:0<af/\0<aT;rotate_left
 ·have J:=Jh (show cG kR xs aL=bk ++ az ++ ad by
   rw[bl,au];by_cases aC:af=0
   ·obtain rfl:=List.length_eq_zero_iff.1 (aZ.trans aC);rw[mc,bi]
   obtain rfl:=List.length_eq_zero_iff.1 (aY.trans (by omega:aT=0));rw[me,cV])
  have bu:=Jh a8;have bv:=Jh ba;have W:=Jh aZ;have V:=Jh aY;have O:gm (λj=>j<E) wr:=λj Q=>by have bx:j<E:=Q;omega
  have H:decide (0<af)=false∨(decide (0<af)=true/\decide (0<aT)=false):=by
   by_cases aC:0<af
   ·exact .inr ⟨decide_eq_true Jo,decide_eq_false Jo⟩
   exact .inl (decide_eq_false Jo)
  clear bQ bl aZ aY a8 ba bz ay bB bA bD;rcases H with H|⟨H,aj⟩;all_goals
   go_wp2_with (at_builtin;first
    |(refine cX rfl (.tmp 53) (.tmp 54) 106 Jr 130 (.agg #[Ji 0,Ji 0,Ji 0]) 3 24 underlying106 mu rfl Jd (λj=>j<E) k _ (.slice aM k aB) _ bq.o Jr O bT af bJ _ Jr (bu.o.below (by rw[ai];exact bo.o)) Jj (by have:=ac.o;unfold maxLen;omega) (Jw ac.o) ?_;intro bE am U M aS aQ;obtain⟨aN,aP,rfl⟩:=U.form;have ah:=Jh U;have ae:gm (λj=>j<E) am:=O.mono M.size;have aA:=Jh (bo.o.trans (M.below λj Q=>Q));clear aS aQ U M)
    |(go_must (refine cX rfl (.tmp 55) (.tmp 56) 106 Jr 130 (.agg #[Ji 0,Ji 0,Ji 0]) 3 24 underlying106 mu rfl Jd (λj=>j<E) (k+af) _ (.slice aN (k+af) aP) _ ah.o Jr ae bU aT bK _ Jr (bv.o.below (by rw[ai];exact aA.o)) Jj (by have:=ac.o;unfold maxLen;omega) (Jw ac.o) ?_;intro ak ap D T aa Z;obtain⟨X,Y,rfl⟩:=D.form;have y:=Jh D;have K:=Jh (aA.o.trans (T.below λj Q=>Q));clear aa Z D T)))
   go_ret;refine⟨X,k+af+aT,Y,rfl,?_,gA y.o,?_,by first|exact K.o|(rw[ai];exact K.o)⟩
   ·rw[J.o,ab,ab,W.o,V.o];have:=bq.o.1.1;rw[de gv] at this;omega
   rw[J.o,ao,ao];first|exact y.o|(rw[ai];exact y.o)
 obtain⟨aH,av,rfl⟩:∃aH av,az=aH :: av:=by cases az with
  |nil=>simp at aZ;omega
  |cons aH av=>exact⟨aH,av,rfl⟩
 obtain⟨aI,aw,rfl⟩:∃aI aw,ad=aI :: aw:=by cases ad with
  |nil=>simp at aY;omega
  |cons aI aw=>exact⟨aI,aw,rfl⟩
 obtain⟨ak,rfl⟩:∃ak,af=ak+1:=⟨af - 1,Jo⟩;obtain⟨aj,rfl⟩:∃aj,aT=aj+1:=⟨aT - 1,Jo⟩;obtain⟨aF,aU⟩:=KP aH aI;have bu:=Jh a8;have bv:=Jh ba;obtain⟨aW,O⟩:=Je (KO aH aI);have a1:=λy:JW=>(KG aH aI y);rw[O] at aF aU;simp only[O] at a1;obtain⟨aq,ap,ar⟩:=aH;obtain⟨J,Z,rfl,D,K,Q⟩:=Rd.head (C:=3) (cs:=aR ⟨aq,ap,ar⟩) (r:=av.flatMap aR) (n:=ak) (by simpa using a8) rfl;rw[ai] at D;have bY:=Jh (show J<E from D);have bb:wr.cell? (Jp J Z)=some (Ji aq):=gi ay D (K 0 _ rfl);have az:wr.cell? (Jp J (Z+1))=some (Ji ap):=gi ay D (K 1 _ rfl);have bc:wr.cell? (Jp J (Z+2))=some (Ji ar):=gi ay D (K 2 _ rfl);obtain⟨W,V,X⟩:=aI;obtain⟨y,T,rfl,H,M,U⟩:=Rd.head (C:=3) (cs:=aR ⟨W,V,X⟩) (r:=aw.flatMap aR) (n:=aj) (by simpa using ba) rfl;rw[ai] at H;have bF:=Jh (show y<E from H);have aJ:wr.cell? (Jp y T)=some (Ji W):=gi ay H (M 0 _ rfl);have ad:wr.cell? (Jp y (T+1))=some (Ji V):=gi ay H (M 1 _ rfl);have aK:wr.cell? (Jp y (T+2))=some (Ji X):=gi ay H (M 2 _ rfl);have a1:=Jh a1;have bd:=Jh bM;have be:=Jh bO;have bf:=Jh (show av.length=ak by simpa using aZ);have bg:=Jh (show aw.length=aj by simpa using aY);have ce:(0:Int)<((ak+1:Nat):Int):=Jo;have cf:(0:Int)<((aj+1:Nat):Int):=Jo;clear aZ aY bl bD bz ay bB bA bQ O bM bO
 obtain⟨bm,b3⟩:∃bm:JA,(if bJ=1 then some (Jp J Z) else some (Jp J (Z+3)))=bm:=⟨_,rfl⟩;obtain⟨bn,b4⟩:∃bn:JA,(if bK=1 then some (Jp y T) else some (Jp y (T+3)))=bn:=⟨_,rfl⟩;have bH:=Jh (show Rd w 3 bm ak (av.flatMap aR) from lQ Q bd.o bf.o b3);have bI:=Jh (show Rd w 3 bn aj (aw.flatMap aR) from lQ U be.o bg.o b4);have u1:(1:Int)<=(ak:Int)+1:=Jo;have u2:(1:Int)<=(aj:Int)+1:=Jo;clear Q U K M a8 ba D H;go_wp2_with fail;have H:∀w',Below wr.heap.size wr w'->w'.cell? (Jp J Z)=some (Ji aq)/\w'.cell? (Jp J (Z+1))=some (Ji ap)/\w'.cell? (Jp J (Z+2))=some (Ji ar)/\w'.cell? (Jp y T)=some (Ji W)/\w'.cell? (Jp y (T+1))=some (Ji V)/\w'.cell? (Jp y (T+2))=some (Ji X):=λw' K=>⟨al K bb,al K az,al K bc,al K aJ,al K ad,al K aK⟩;have D:=Jh H;clear H;go_region_held (λw'=>Below wr.heap.size wr w'/\w'.cell? (Jp J Z)=some (Ji aq)/\w'.cell? (Jp J (Z+1))=some (Ji ap)/\w'.cell? (Jp J (Z+2))=some (Ji ar)/\w'.cell? (Jp y T)=some (Ji W)/\w'.cell? (Jp y (T+1))=some (Ji V)/\w'.cell? (Jp y (T+2))=some (Ji X))
  (first|exact⟨(ag _ _).drew,D.o _ (ag _ _).drew⟩|assumption|exact⟨Below.h (by assumption),D.o _ (Below.h (by assumption))⟩)
  (first
   |(go_at_call 122;refine(a1.o _).mono ?_;rintro e H ⟨rfl,aX⟩)
   |(go_at_fn 122;refine(a1.o _).mono ?_;rintro e H ⟨rfl,aX⟩))
 have ax:=Jh (show E<=H.heap.size by have:=aX.h.size;have:=bG.o;omega);have bp:=Jh (bo.o.trans (aX.h.mono bG.o));have br:=Jh (bq.o.below aX.h);obtain⟨bb,az,bc,aJ,ad,aK⟩:=D.o _ aX.h;clear aX D;have cb:=Jh aF;have cc:=Jh aU;by_cases aO:aW<0
 ·have D:=aF.1 aO;have a6:=Jh D;have b1:decide (aW<0)=true:=decide_eq_true aO;clear aF aU D;go_wp2_with fail;refine wp_region_held_drew (S:=λw'=>w'.cell? (Jp J Z)=some (Ji aq)/\w'.cell? (Jp J (Z+1))=some (Ji ap)/\w'.cell? (Jp J (Z+2))=some (Ji ar)) Jk ?_ (λaD=>?_)
  ·exact⟨bb,az,bc⟩
  refine JK 0 (h:=JK 1 (h:=JK 2 (h:=JK 3 (h:=JK 6 (h:=JK 7 (h:=?_))))));refine JN 4 (h:=λae O=>?_);go_simp;have D:Below H.heap.size H (H.drew.alloc (.cells #[Ji aq,Ji ap,Ji ar] 130)):=(Below.one H.drew (.cells #[Ji aq,Ji ap,Ji ar] 130)).h;refine O.out _ _ ⟨al D bb,al D az,al D bc⟩ (λaD=>?_);clear O ae;try simp only[an,JY]
  refine JN 5 (h:=λae O=>?_);refine bN rfl (.tmp 33) (.tmp 37) 106 rfl 130 (.agg #[Ji 0,Ji 0,Ji 0]) 3 24 underlying106 mu rfl Jd (λj=>j<E) k _ (.slice aM k aB) _ (br.o.below D) rfl (λj Q=>by have bx:j<E:=Q;have:=ax.o;simp;omega) _ 1 _ [Ji aq,Ji ap,Ji ar] rfl (jX H.drew _ _) (by intro aa aE;simp at aE;rcases aE with rfl|rfl|rfl<;>rfl) (by have:=ac.o;unfold maxLen;omega) (Jw ac.o) ?_;intro bE am U M aS aQ;obtain⟨aN,aP,rfl⟩:=U.form;have ah:=Jh U;have a7:=Jh (show E<=am.heap.size by have aC:=M.size;have bL:=ax.o;simp at aC;omega);have aA:=Jh ((bp.o.trans (D.mono ax.o)).trans (M.below λj Q=>Q));have Y:∀(j:Nat)(aa:Value),H.cell? (Jp J j)=some aa->am.cell? (Jp J j)=some aa:=λj aa K=>by
   rw[<-al D K];unfold dL;rw[M.block J bY.o];rfl
  refine O.out _ _ ⟨Y _ _ bb,Y _ _ az,Y _ _ bc⟩ (λaD=>?_);clear O ae aS aQ U M Y D;try simp only[an,JY]
  refine JK 8 (h:=JK 9 (h:=?_));refine wpAnyH_done Jk ?_ _;go_wp2_with fail;go_roundw
  case rel=>exact⟨av,⟨W,V,X⟩ :: aw,bk ++ [⟨aq,ap,ar⟩],ak,aj+1,k+1,_,_,_,_,aN,aP,rfl,rfl,rfl,bf.o,by simp[bg.o],Jw bd.o,be.o,by rw[bt.o,cG,if_pos a6.o,au];rfl,Jw ac.o,gA ah.o,bH.o,bv.o,by rw[ao];simpa [aR] using ah.o,aA.o,a7.o⟩
  simp[qR]
 have b1:decide (aW<0)=false:=decide_eq_false aO;by_cases aV:aW=0
 ·have a6:=Jh (aU.1 aV);have bw:=Jh (λK=>aO (aF.2 K));have b2:(aW == 0)=true:=by simpa using aV
  clear aF aU aO aV;go_wp2_with fail;refine wp_region_held_drew (S:=λw'=>w'.cell? (Jp y T)=some (Ji W)/\w'.cell? (Jp y (T+1))=some (Ji V)/\w'.cell? (Jp y (T+2))=some (Ji X)) Jk ?_ (λaD=>?_)
  ·exact⟨aJ,ad,aK⟩
  refine JK 0 (h:=JK 1 (h:=JK 2 (h:=JK 3 (h:=JK 6 (h:=JK 7 (h:=?_))))));refine JN 4 (h:=λae O=>?_);go_simp;have D:Below H.heap.size H (H.drew.alloc (.cells #[Ji W,Ji V,Ji X] 130)):=(Below.one H.drew (.cells #[Ji W,Ji V,Ji X] 130)).h;refine O.out _ _ ⟨al D aJ,al D ad,al D aK⟩ (λaD=>?_);clear O ae;try simp only[an,JY]
  refine JN 5 (h:=λae O=>?_);refine bN rfl (.tmp 45) (.tmp 49) 106 rfl 130 (.agg #[Ji 0,Ji 0,Ji 0]) 3 24 underlying106 mu rfl Jd (λj=>j<E) k _ (.slice aM k aB) _ (br.o.below D) rfl (λj Q=>by have bx:j<E:=Q;have:=ax.o;simp;omega) _ 1 _ [Ji W,Ji V,Ji X] rfl (jX H.drew _ _) (by intro aa aE;simp at aE;rcases aE with rfl|rfl|rfl<;>rfl) (by have:=ac.o;unfold maxLen;omega) (Jw ac.o) ?_;intro bE am U M aS aQ;obtain⟨aN,aP,rfl⟩:=U.form;have ah:=Jh U;have a7:=Jh (show E<=am.heap.size by have aC:=M.size;have bL:=ax.o;simp at aC;omega);have aA:=Jh ((bp.o.trans (D.mono ax.o)).trans (M.below λj Q=>Q));have Y:∀(j:Nat)(aa:Value),H.cell? (Jp y j)=some aa->am.cell? (Jp y j)=some aa:=λj aa K=>by
   rw[<-al D K];unfold dL;rw[M.block y bF.o];rfl
  refine O.out _ _ ⟨Y _ _ aJ,Y _ _ ad,Y _ _ aK⟩ (λaD=>?_);clear O ae aS aQ U M Y D;try simp only[an,JY]
  refine JK 8 (h:=JK 9 (h:=?_));refine wpAnyH_done Jk ?_ _;go_wp2_with fail;go_roundw
  case rel=>exact⟨av,aw,bk ++ [⟨W,V,X⟩],ak,aj,k+1,_,_,_,_,aN,aP,rfl,rfl,rfl,bf.o,bg.o,Jw bd.o,Jw be.o,by rw[bt.o,cG,if_neg bw.o,if_pos a6.o,au];rfl,Jw ac.o,gA ah.o,bH.o,bI.o,by rw[ao];simpa [aR] using ah.o,aA.o,a7.o⟩
  simp[qR];omega
 have a6:=Jh (λK=>aV (aU.2 K));have bw:=Jh (λK=>aO (aF.2 K));have b2:(aW == 0)=false:=by simpa using aV
 clear aF aU aO aV;go_wp2_with fail;refine wp_region_held_drew (S:=λw'=>w'.cell? (Jp y T)=some (Ji W)/\w'.cell? (Jp y (T+1))=some (Ji V)/\w'.cell? (Jp y (T+2))=some (Ji X)) Jk ?_ (λaD=>?_)
 ·exact⟨aJ,ad,aK⟩
 refine JK 0 (h:=JK 1 (h:=JK 2 (h:=JK 3 (h:=JK 6 (h:=JK 7 (h:=?_))))));refine JN 4 (h:=λae O=>?_);go_simp;have D:Below H.heap.size H (H.drew.alloc (.cells #[Ji W,Ji V,Ji X] 130)):=(Below.one H.drew (.cells #[Ji W,Ji V,Ji X] 130)).h;refine O.out _ _ ⟨al D aJ,al D ad,al D aK⟩ (λaD=>?_);clear O ae;try simp only[an,JY]
 refine JN 5 (h:=λae O=>?_);refine bN rfl (.tmp 45) (.tmp 49) 106 rfl 130 (.agg #[Ji 0,Ji 0,Ji 0]) 3 24 underlying106 mu rfl Jd (λj=>j<E) k _ (.slice aM k aB) _ (br.o.below D) rfl (λj Q=>by have bx:j<E:=Q;have:=ax.o;simp;omega) _ 1 _ [Ji W,Ji V,Ji X] rfl (jX H.drew _ _) (by intro aa aE;simp at aE;rcases aE with rfl|rfl|rfl<;>rfl) (by have:=ac.o;unfold maxLen;omega) (Jw ac.o) ?_;intro bE am U M aS aQ;obtain⟨aN,aP,rfl⟩:=U.form;have ah:=Jh U;have a7:=Jh (show E<=am.heap.size by have aC:=M.size;have bL:=ax.o;simp at aC;omega);have aA:=Jh ((bp.o.trans (D.mono ax.o)).trans (M.below λj Q=>Q));have Y:∀(j:Nat)(aa:Value),H.cell? (Jp y j)=some aa->am.cell? (Jp y j)=some aa:=λj aa K=>by
  rw[<-al D K];unfold dL;rw[M.block y bF.o];rfl
 refine O.out _ _ ⟨Y _ _ aJ,Y _ _ ad,Y _ _ aK⟩ (λaD=>?_);clear O ae aS aQ U M Y D;try simp only[an,JY]
 refine JK 8 (h:=JK 9 (h:=?_));refine wpAnyH_done Jk ?_ _;go_wp2_with fail;go_roundw
 case rel=>exact⟨⟨aq,ap,ar⟩ :: av,aw,bk ++ [⟨W,V,X⟩],ak+1,aj,k+1,_,_,_,_,aN,aP,rfl,rfl,rfl,by simp[bf.o],bg.o,bd.o,Jw be.o,by rw[bt.o,cG,if_neg bw.o,if_neg a6.o,au];rfl,Jw ac.o,gA ah.o,bu.o,bI.o,by rw[ao];simpa [aR] using ah.o,aA.o,a7.o⟩
 simp[qR]
def oX (l:List eP):Nat:=(l.map λy=>y.L.length).sum
theorem zI (l:List eP){i:Nat}(hi:i<l.length):oX (l.take (i+1))=oX (l.take i)+l[i].L.length:=by
 unfold oX;rw[aO hi,cH,List.sum_append];simp
theorem Sa (l:List eP)(i:Nat):oX (l.take i)<=oX l:=by
 unfold oX
 conv=>rhs;rw[<-da i l,cH,List.sum_append]
 omega
theorem yp (l:List eP){i:Nat}(hi:i<l.length):kn (l.take (i+1))=cG kR (kn (l.take i)) (rowsOf l[i]):=by
 unfold kn;rw[aO hi,List.foldl_append];rfl
theorem uO (l:List eP):∀i,(kn (l.take i)).length<=oX (l.take i)
 |0=>by simp[kn,oX]
 |i+1=>by
  by_cases D:i<l.length
  ·rw[yp l D,zI l D];have y:=uI kR (kn (l.take i)) (rowsOf l[i]);have E:=uO l i;have H:(rowsOf l[i]).length=l[i].L.length:=by simp[rowsOf]
   omega
  have y:=uO l i;rw[aw Jo] at y ⊢;exact y
theorem pE {w:JW}{A:JA}{n:Nat}{xs:List ej}(h:Rd w 2 A n (xs.flatMap cn)){i:Nat}(hi:i<xs.length):
 ∃b y,A=some (Jp b y)/\b<w.heap.size/\w.cell? (Jp b (y+i*2))=some (Ji xs[i].ID)/\w.cell? (Jp b (y+i*2+1))=some (.slice xs[i].A xs[i].n xs[i].c):=by
 obtain⟨b,y,E,H,D⟩:=h.elem js Jd hi;exact⟨b,y,E,H,D 0 _ rfl,by have:=D 1 _ rfl;rwa [<-aV] at this⟩
def Vl (E:Nat)(w:JW)(l:List eP)(M iv:Value)(wr:JW):Prop:=∃(D y H:Nat)(J:JA),M= .slice J y H/\iv=Ji D/\D<=l.length/\y=(kn (l.take D)).length/\y<=H/\
 bP (λK=>K<E) 130 3 (.slice J y H) y ((kn (l.take D)).flatMap aR) wr/\Below E w wr/\E<=wr.heap.size
def Vj (D b:Nat)(M:JW)(s:eP)(x:ej)(K iv:Value)(wr:JW):Prop:=∃(y E:Nat)(H:JA),K= .slice H y E/\iv=Ji y/\y<=s.L.length/\y<=E/\
 bP (λJ=>J<D) 130 3 (.slice H y E) y (((rowsOf s).take y).flatMap aR) wr/\Below D M wr/\D<=wr.heap.size/\wr.cell? (Jp b 0)=some (Ji x.ID)
theorem kP (A:JA)(c:Nat)(xs:List ej)(l:List eP)(w:JW)(h:fI w A xs l)(bq:xs.length<=1000)(hc:oX l<=50000):
 JC 60 #[.slice A xs.length c] w λe w'=>∃X k O,e= .returned (.slice X k O)/\k=(kn l).length/\k<=O/\
  bP (λj=>j<w.heap.size) 130 3 (.slice X k O) k ((kn l).flatMap aR) w'/\Below w.heap.size w w':=by
 obtain⟨U,bm⟩:=Je w.heap.size;obtain⟨ad,y⟩:=Je xs.length;have au:=Jh h;have aN:=Jh y;have be:=Jh hc;have ah:=Jh bm;have a8:=Jh (show Vl U w l (Jn) (Ji (0:Nat)) w from⟨0,0,0,none,rfl,rfl,Jo,by simp[kn],Jo,by simpa [kn] using bP.nil _ _ _ _,ag _ _,Jo⟩);rw[y] at bq ⊢;clear h hc y;go_enter Tryz.func60,Tryz.ntmps60;go_wp2_with fail;go_loopw [3,11] (λy K wr=>Vl U w l y K wr) (λ_ K _=>ad - (intOf K).toNat)
 case atStart=>exact a8.o
 obtain⟨y,k,O,X,rfl,rfl,Q,ac,am,Y,ab,aG⟩:=hrel;have bE:l.length=ad:=au.o.len.trans aN.o;have ak:Below w.heap.size w wr:=by rw[ah.o];exact ab
 by_cases bF:y<ad;rotate_left
 ·obtain rfl:y=ad:=Jo;have D:l.take y=l:=aw Jo;rw[D] at Y ac;have ay:=Jh Y;have ai:=Jh ac;have av:=Jh ab;have ax:=Jh am;clear Y ab ak ac am D Q aG;go_wp2_with fail;go_ret;exact⟨X,k,O,rfl,ai.o,ax.o,by rw[ah.o];exact ay.o,by rw[ah.o];exact av.o⟩
 have aW:y<xs.length:=Jw aN.o;have af:y<l.length:=Jo;have W:=au.o.at_ y aW;obtain⟨aj,bI,rfl,aT,an,ap⟩:=pE au.o.rd aW;have an:=al ak an;have ap:=al ak ap;obtain⟨bt,aE⟩:=Je (xs[y]);obtain⟨D,ae⟩:=Je (l[y]);rw[aE] at an ap W;rw[ae] at W;have aQ:=Jh (show kn (l.take (y+1))=cG kR (kn (l.take y)) (rowsOf D) by rw[yp l af,ae]);have aL:=Jh (show oX (l.take y)+D.L.length<=50000 by have:=zI l af;have:=Sa l (y+1);have:=be.o;rw[ae] at*;omega);have az:=Jh W;have ay:=Jh Y;have ai:=Jh ac;have av:=Jh ab;have ax:=Jh am;have aP:=Jh aG;have bG:(y:Int)<ad:=Jo;obtain⟨M,aq,J,ar⟩:=bt;simp only at an ap;obtain⟨E,aS⟩:∃H,wr.heap.size=H:=⟨_,rfl⟩;obtain⟨H,aB,Z,aC⟩:∃H,wr.alloc (.cells #[Ji M,.slice aq J ar] 68)=H/\Below wr.heap.size wr H/\H.heap[E]?=some (.cells #[Ji M,.slice aq J ar] 68 (0,0)):=
  ⟨_,rfl,Below.one _ _,by rw[<-aS];exact heap_alloc_new _ _⟩
 have aD:H.heap.size=E+1:=by rw[<-aB,<-aS];simp
 have bc:=Jh aB;have bv:=Jh Z;have ba:=Jh aD;have bw:=Jh aC;have a7:=Jh (ay.o.below Z);have aK:=Jh (av.o.trans (Z.mono aP.o));have aA:=Jh (show U<=E+1 by have:=aP.o;omega);have a1:=Jh (show Vj (E+1) E H D ⟨M,aq,J,ar⟩ (Jn) (Ji (0:Nat)) H from
  ⟨0,0,none,rfl,rfl,Jo,Jo,by simpa using bP.nil _ _ _ _,ag _ _,Jo,(aa aC 0).trans rfl⟩)
 clear Y ab ak ac am aG aE ae W af Q aB Z aD aC;go_wp2_with fail;try simp only[bc.o]
 go_loopw [6,18] (λW K wr=>Vj (E+1) E H D ⟨M,aq,J,ar⟩ W K wr) (λ_ K _=>J - (intOf K).toNat)
 case atStart=>exact a1.o
 obtain⟨j,bj,bh,rfl,rfl,bA,bp,Z,K,aH,aE⟩:=hrel;simp only at aE;have bH:E<wr.heap.size:=Jo;have aD:Below w.heap.size w wr:=by
  rw[ah.o];exact aK.o.trans (K.mono aA.o)
 have aJ:D.L.length=J:=az.o.len;by_cases bB:j<J
 ·have aB:j<D.L.length:=Jo;obtain⟨bx,bJ,aX,-,aY,aZ⟩:=ez (az.o.rd.below aD) aB;simp only at aX;subst aX;have htk:((rowsOf D).take (j+1)).flatMap aR=((rowsOf D).take j).flatMap aR ++ [Ji D.L[j].T,Ji M,Ji D.L[j].V]:=by
   have ae:j<(rowsOf D).length:=by simp[rowsOf];omega
   rw[aO ae,ao];have W:D.ID=M:=az.o.id;simp[rowsOf,aR,W]
  obtain⟨bu,aC⟩:=Je (D.L[j]);rw[aC] at aY aZ htk;obtain⟨ae,af⟩:=bu;simp only at aY aZ htk;have bD:(j:Int)<J:=Jo;have br:gm (λy=>y<E+1) (wr.alloc (.cells #[Ji ae,Ji af] 113)):=λy Q=>by have bl:y<E+1:=Q;simp;omega
  have bg:=Jh htk;have a6:=Jh (Z.below (Below.one wr (.cells #[Ji ae,Ji af] 113)));have bd:=Jh (K.trans ((Below.one wr (.cells #[Ji ae,Ji af] 113)).mono aH));have W:=Jh aH;have bf:=Jh aJ;have bC:j<=50000:=Jw aL.o;clear htk aC Z K aD aB aJ;go_wp2_with (at_builtin;go_must (refine bb rfl (.tmp 22) (.tmp 30) 106 Jr 130 (.agg #[Ji 0,Ji 0,Ji 0]) 3 24 underlying106 mu rfl Jd (λy=>y<E+1) j _ _ _ #[Ji ae,Ji M,Ji af] rfl (by intro bK aV;simp at aV;rcases aV with rfl|rfl|rfl<;>rfl) a6.o Jr br (by(simp only[aI];rfl)) Jm Jo ?_;intro bL bM aF aU bo bn;obtain⟨bi,bk,rfl⟩:=aF.form;have aM:=Jh aF;have aB:=Jh aU;clear bo bn aF aU));go_roundw
  case rel=>
   refine⟨j+1,bk,bi,rfl,by go_num,Jw bf.o,gA aM.o,by rw[bg.o];exact aM.o,bd.o.trans (aB.o.below λy Q=>Q),?_,?_⟩
   ·have aC:=aB.o.size;have bz:=W.o;simp at aC;omega
   have aC:=al (Below.one wr (.cells #[Ji ae,Ji af] 113)) aE;rw[<-aC];unfold dL;rw[aB.o.block E (by show E<E+1;omega)]
  simp[intOf];omega
 obtain rfl:j=J:=Jo;have aB:(rowsOf D).take j=rowsOf D:=aw (by simp[rowsOf];omega);rw[aB] at Z;have af:Below H.heap.size H wr:=by rw[ba.o];exact K
 have ae:=a7.o.below af;have aC:(rowsOf D).length=j:=by simp[rowsOf];omega
 have aU:=Jh (Gx X k O (kn (l.take y)) bh j bj (rowsOf D) wr ae.rd ai.o.symm ax.o Z.rd aC bp (by have:=aL.o;have:=uO l y;have:=ai.o;omega));have aV:=Jh (aK.o.trans (K.mono aA.o));have W:=Jh (show U<=wr.heap.size by have:=aA.o;omega);clear aB Z af ae aC aD K aH aE aJ;go_wp2_with fail;refine aU.o.mono ?_;rintro e bf ⟨aZ,bd,a6,rfl,aM,aF,aB,aC⟩;have ae:=Jh aB;have aY:=Jh aM;have aX:=Jh aF;have af:=Jh aC;clear aB aM aF aC;go_wp2_with fail;go_roundw
 case rel=>exact⟨y+1,bd,a6,aZ,rfl,by go_num,Jo,by rw[aQ.o];exact aY.o,aX.o,by rw[aQ.o];exact ae.o.shift λaj aT aB=>ae.o.2 aj aT (by have bl:aj<U:=aB;have:=W.o;show aj<wr.heap.size;omega),aV.o.trans (af.o.mono W.o),by have:=af.o.size;have:=W.o;omega⟩
 simp[intOf];omega
theorem MU (x y:ar)(w:JW):JC 131 #[lj x,lj y] w λe w'=>e= .returned (.bool (x.T == y.T))/\Jz w w':=by
 obtain⟨D,M⟩:=x;obtain⟨E,O⟩:=y;obtain⟨K,H⟩:=Je w.heap.size;obtain⟨Q,J⟩:=Je ((D == E));simp only[J];go_enter Tryz.func131,Tryz.ntmps131;go_wp2_with fail;go_ret;subst H;exact⟨rfl,cZ _ _ _⟩
theorem Dj (A:JA)(c n:Nat)(xs:List ar)(w:JW)(hr:Rd w 2 A n (xs.flatMap ay))(am:xs.length=n)(an:∀i,(J:i+1<xs.length)->(h':i<xs.length)->(xs[i+1].T == xs[i].T)=false)(aJ:n<=100000):
 JC 130 #[.slice A n c,.func (.func 131) #[] #[]] w λe w'=>e= .returned (.slice A n c)/\Jz w w':=by
 have V:=Jh hr;have ad:=Jh am;have ae:=Jh an;by_cases aC:n<2
 ·have au:=Jt ((n:Int)<2);go_enter Tryz.func130,Tryz.ntmps130;go_wp2_with fail;go_ret;exact⟨rfl,ag _ _⟩
 have au:=Jf ((n:Int)<2);go_enter Tryz.func130,Tryz.ntmps130;go_wp2_with fail;go_loopw [5] (λD wr=>∃y:Nat,D=Ji y/\1<=y/\y<=n/\Jz w wr) (λD _=>n - (intOf D).toNat)
 case atStart=>exact⟨1,rfl,Jo,Jo,ag _ _⟩
 obtain⟨y,rfl,aH,aG,aj⟩:=hrel;have H:=Jh aj;obtain⟨i,ak⟩:∃i,i+1=y:=⟨y - 1,Jo⟩;by_cases aK:y<n;rotate_left
 ·obtain rfl:y=n:=Jo;have av:=Jf ((y:Int)<(y:Int));go_wp2_with fail;go_ret;exact⟨rfl,H.o⟩
 have ac:i+1<xs.length:=Jw ad.o;obtain⟨D,E,rfl,aD,M,O⟩:=ez (V.o.below H.o) ac;obtain⟨ai,ax,ah,-,Q,U⟩:=ez (V.o.below H.o) (show i<xs.length by omega);obtain⟨rfl,rfl⟩:D=ai/\E=ax:=by simpa using ah
 have ao:=ae.o i ac Jo;have aa:=λK=>MU xs[i+1] xs[i] K;simp only[ao] at aa;have K:=Jh aa;obtain⟨az,ap⟩:=Je (xs[i+1]);obtain⟨aA,aq⟩:=Je (xs[i]'Jo);rw[ap] at M O K;rw[aq] at Q U K;rw[ak] at M O;obtain⟨W,Y⟩:=az;obtain⟨X,Z⟩:=aA;simp only at M O Q U;have av:=Jt ((y:Int)<n);have aL:(y:Int) - 1=(i:Int):=Jo;have aM:IntKind.i64.wrap (i:Int)=(i:Int):=by rw[aB];omega
 have aE:(i:Int)<n:=Jo;have aF:i<n:=Jo;have aI:(y:Int)<n:=Jo;go_wp2_with fail;have aw:∀w',Jz wr w'->w'.cell? (Jp D (E+y*2))=some (Ji W)/\w'.cell? (Jp D (E+y*2+1))=some (Ji Y)/\w'.cell? (Jp D (E+i*2))=some (Ji X)/\w'.cell? (Jp D (E+i*2+1))=some (Ji Z):=λw' J=>⟨al J M,al J O,al J Q,al J U⟩;have J:=Jh aw;go_region_held (λw'=>Jz wr w'/\w'.cell? (Jp D (E+y*2))=some (Ji W)/\w'.cell? (Jp D (E+y*2+1))=some (Ji Y)/\w'.cell? (Jp D (E+i*2))=some (Ji X)/\w'.cell? (Jp D (E+i*2+1))=some (Ji Z))
  (first|exact⟨(ag _ _).drew,J.o _ (ag _ _).drew⟩|assumption|exact⟨Below.h (by assumption),J.o _ (Below.h (by assumption))⟩)
  (first
   |(go_at_call 131;refine(K.o _).mono ?_;rintro e af ⟨rfl,ab⟩)
   |(go_at_fn 131;refine(K.o _).mono ?_;rintro e af ⟨rfl,ab⟩))
 have af:=Jh (H.o.trans (ab.h.mono H.o.size));go_wp2_with fail;go_roundw
 case rel=>exact⟨y+1,by go_num,Jo,Jo,af.o⟩
 simp[intOf];omega
theorem _root_.Go.RowKit.Below.drewN {B:Nat}{w w':JW}(h:Below B w w')(n:Nat):Below B w (w'.drewN n):=⟨h.os,h.tape,h.output,h.size,h.block⟩
theorem Ur {y:Type}(f:y->Int)(d:Int)(l:List y):(l.countP λx=>decide (f x<d))<=l.length:=List.countP_le_length
theorem Ol {y:Type}(f:y->Int)(d:Int):∀{l:List y},(∀x∈l,d<=f x)->(l.countP λx=>decide (f x<d))=0:=λD=>by
 rw[List.countP_eq_zero];intro x E;have:=D x E;simp;omega
theorem BB {H:Type}(f:H->Int)(d:Int):∀{l:List H},l.Pairwise (λa b=>f a<f b)->∀i,(y:i<l.length)->(f l[i]<d↔i<l.countP λx=>decide (f x<d))
 |[],_,i,y=>absurd y Js
 |x :: l,K,i,y=>by
  obtain⟨E,J⟩:=List.pairwise_cons.1 K;rw[List.countP_cons];by_cases D:f x<d
  ·rw[if_pos (by simpa using D)];cases i with
   |zero=>simp[D]
   |succ i=>
    have:=BB f d J i (by simpa using y);simp only[ck];omega
  rw[if_neg (by simpa using D),Ol f d (λO M=>Jw (E O M))];cases i with
  |zero=>simp;omega
  |succ i=>
   have:=E (l[i]'(by simpa using y)) (ah _);simp only[ck];omega
def qo (d:Int)(xs:List ej):Nat:=xs.countP λy=>decide (y.ID<d)
def ou (d:Int)(l:List ej):Bool:=if y:qo d l<l.length then l[qo d l].ID == d else false
theorem EQ (t:ej)(A:JA)(c n:Nat)(xs:List ej)(w:JW)(hr:Rd w 2 A n (xs.flatMap cn))(aJ:xs.length=n)(aZ:n<=1000000)(aM:xs.Pairwise λa b=>a.ID<b.ID):
 JC 134 #[.slice A n c,QK t.ID t.A t.n t.c,.func (.func 132) #[] #[]] w λe w'=>e= .returned (.tuple #[Ji (qo t.ID xs),.bool (ou t.ID xs)])/\Jz w w':=by
 obtain⟨D,Q,U,T⟩:=t;simp only;have aE:=Jh hr;have av:=Jh aJ;have aD:=Jh (λH(y:H<xs.length)=>BB ej.ID D aM H y);have aI:qo D xs<=n:=by rw[<-aJ];exact Ur _ D xs
 obtain⟨ak,aA⟩:=Je (qo D xs);have aR:(xs.countP λE=>decide (E.ID<D))=ak:=aA;rw[aR] at aD;rw[aA] at aI ⊢;have aw:=Jh aA;obtain⟨O,aL⟩:=Je w.heap.size;have aN:Jz w (w.alloc (.cells #[Ji D,.slice Q U T] 68)):=Below.one _ _;have aH:=aa (heap_alloc_new w (.cells #[Ji D,.slice Q U T] 68));have ah:=aH 0;have ai:=aH 1;go_enter Tryz.func134,Tryz.ntmps134;go_wp2_with fail;generalize w.alloc (.cells #[Ji D,.slice Q U T] 68)=aS at*;have ar:=Jh aN;rw[aL] at ah ai;go_loopw [9,10] (λJ K wr=>∃H E:Nat,J=Ji H/\K=Ji E/\H<=ak/\ak<=E/\E<=n/\Jz aS wr) (λJ K _=>(intOf K).toNat - (intOf J).toNat)
 case atStart=>exact⟨0,n,rfl,rfl,Jo,aI,Jo,ag _ _⟩
 obtain⟨H,E,rfl,rfl,aV,a7,aX,ay⟩:=hrel;have ah:=al ay ah;have ai:=al ay ai;have V:=Jh ay;by_cases a1:H<E
 ·have aY:(H:Int)<E:=Jo;have a8:IntKind.i64.wrap ((H:Int)+(E:Int))=(H:Int)+(E:Int):=by rw[aB];omega
  have ba:IntKind.u64.wrap ((H:Int)+(E:Int))=(H:Int)+(E:Int):=by rw[bD];omega
  obtain⟨y,aT⟩:=Je ((H+E) / 2);have bb:((H:Int)+(E:Int)) / 2=(y:Int):=Jo;have aW:H<=y:=Jo;have aU:y<E:=Jo;have aQ:(y:Int)<n:=Jo;have ap:y<xs.length:=Jw av.o;obtain⟨K,M,rfl,aO,ac,ad⟩:=pE (aE.o.below (ar.o.then V.o)) ap;have az:=aD.o y ap;obtain⟨aC,hr⟩:=Je (xs[y]);rw[hr] at ac ad az;obtain⟨J,W,Y,X⟩:=aC;simp only at ac ad az;have a6:IntKind.i64.wrap ((y:Int)+1)=(y:Int)+1:=by rw[aB];omega
  obtain⟨au,ao⟩:=Je (bK J D);have aj:=(ng J D).1;have an:=λax=>wY J W Y X D Q U T ax;simp only[ao] at an;rw[ao] at aj;have ae:=Jh an;have aF:=Jh az;have aG:=Jh aj;by_cases af:J<D
  ·have aK:decide (au<0)=true:=decide_eq_true (aG.o.2 af);have aP:y<ak:=aF.o.1 af;go_wp2_with fail;have Z:=Jh (show ∀w',Jz wr w'->(λw'=>Jz wr w'/\w'.cell? (Jp K (M+y*2))=some (Ji J)/\w'.cell? (Jp K (M+y*2+1))=some (.slice W Y X)/\w'.cell? (Jp O 0)=some (Ji D)/\w'.cell? (Jp O 1)=some (.slice Q U T)) w' from λw' y=>⟨y,al y ac,al y ad,al y ah,al y ai⟩);go_region_held (λw'=>Jz wr w'/\w'.cell? (Jp K (M+y*2))=some (Ji J)/\w'.cell? (Jp K (M+y*2+1))=some (.slice W Y X)/\w'.cell? (Jp O 0)=some (Ji D)/\w'.cell? (Jp O 1)=some (.slice Q U T))
    (first|exact Z.o _ (ag _ _).drew|assumption|exact Z.o _ (Below.h (by assumption)))
    (first
     |(go_at_call 132;refine(ae.o _).mono ?_;rintro e aq ⟨rfl,ab⟩)
     |(go_at_fn 132;refine(ae.o _).mono ?_;rintro e aq ⟨rfl,ab⟩))
   have am:=Jh (V.o.trans (ab.h.mono V.o.size));go_wp2_with fail;go_roundw
   case rel=>exact⟨y+1,E,by go_num,rfl,Jo,Jo,Jo,am.o⟩
   simp[intOf];omega
  have aK:decide (au<0)=false:=decide_eq_false (mt aG.o.1 af);have aP:ak<=y:=Nat.not_lt.1 (mt aF.o.2 af);go_wp2_with fail;have Z:=Jh (show ∀w',Jz wr w'->(λw'=>Jz wr w'/\w'.cell? (Jp K (M+y*2))=some (Ji J)/\w'.cell? (Jp K (M+y*2+1))=some (.slice W Y X)/\w'.cell? (Jp O 0)=some (Ji D)/\w'.cell? (Jp O 1)=some (.slice Q U T)) w' from λw' y=>⟨y,al y ac,al y ad,al y ah,al y ai⟩);go_region_held (λw'=>Jz wr w'/\w'.cell? (Jp K (M+y*2))=some (Ji J)/\w'.cell? (Jp K (M+y*2+1))=some (.slice W Y X)/\w'.cell? (Jp O 0)=some (Ji D)/\w'.cell? (Jp O 1)=some (.slice Q U T))
   (first|exact Z.o _ (ag _ _).drew|assumption|exact Z.o _ (Below.h (by assumption)))
   (first
    |(go_at_call 132;refine(ae.o _).mono ?_;rintro e aq ⟨rfl,ab⟩)
    |(go_at_fn 132;refine(ae.o _).mono ?_;rintro e aq ⟨rfl,ab⟩))
  have am:=Jh (V.o.trans (ab.h.mono V.o.size));go_wp2_with fail;go_roundw
  case rel=>exact⟨H,y,rfl,rfl,Jo,Jo,Jo,am.o⟩
  simp[intOf];omega
 obtain rfl:H=ak:=Jo;obtain rfl:E=H:=Jo;by_cases az:E<n;rotate_left
 ·have af:=Jh (show ou D xs=false by unfold ou;rw[dif_neg (by rw[aw.o,av.o];exact az)]);have J:¬(E:Int)<n:=Jo;have aK:decide ((E:Int)<(n:Int))=false:=decide_eq_false J;go_wp2_with fail;go_quiet (fail);go_wp2_with fail;go_ret2;exact⟨by rw[af.o];rfl,(ar.o.then V.o).drewN _⟩
 have ap:E<xs.length:=Jw av.o;have af:=Jh (show ou D xs=(xs[E].ID == D) by unfold ou;rw[dif_pos (by rw[aw.o];exact ap)];simp only[aw.o]);obtain⟨K,M,rfl,aO,ac,ad⟩:=pE (aE.o.below (ar.o.then V.o)) ap;obtain⟨aC,hr⟩:=Je (xs[E]);rw[hr] at ac ad af;obtain⟨J,W,Y,X⟩:=aC;simp only at ac ad af;have aQ:(E:Int)<n:=Jo;obtain⟨au,ao⟩:=Je (bK J D);have aj:=(ng J D).2;have an:=λax=>wY J W Y X D Q U T ax;simp only[ao] at an;rw[ao] at aj;have ae:=Jh an;have ax:(au == 0)=(J == D):=by
  by_cases y:J=D
  ·rw[beq_iff_eq.2 y,beq_iff_eq.2 (aj.2 y)]
  rw[beq_eq_false_iff_ne.2 y,beq_eq_false_iff_ne.2 (mt aj.1 y)]
 obtain⟨aG,aF⟩:=Je ((J == D));rw[aF] at ax af;go_wp2_with fail;have Z:=Jh (show ∀w',Jz wr w'->(λw'=>Jz wr w'/\w'.cell? (Jp K (M+E*2))=some (Ji J)/\w'.cell? (Jp K (M+E*2+1))=some (.slice W Y X)/\w'.cell? (Jp O 0)=some (Ji D)/\w'.cell? (Jp O 1)=some (.slice Q U T)) w' from λw' y=>⟨y,al y ac,al y ad,al y ah,al y ai⟩);go_region_held3 (λw'=>Jz wr w'/\w'.cell? (Jp K (M+E*2))=some (Ji J)/\w'.cell? (Jp K (M+E*2+1))=some (.slice W Y X)/\w'.cell? (Jp O 0)=some (Ji D)/\w'.cell? (Jp O 1)=some (.slice Q U T))
  (first|exact Z.o _ (ag _ _).drew|assumption|exact Z.o _ (Below.h (by assumption)))
  (first
   |(go_at_call 132;refine(ae.o _).mono ?_;rintro e aq ⟨rfl,ab⟩)
   |(go_at_fn 132;refine(ae.o _).mono ?_;rintro e aq ⟨rfl,ab⟩))
 have am:=Jh (V.o.trans (ab.h.mono V.o.size));go_wp2_with fail;go_ret2;exact⟨by rw[af.o];rfl,ar.o.then am.o⟩
def gB (i:Nat):Nat->List Int
 |0=>[]
 |m+1=>(i:Int) :: gB (i+1) m
def iS (x:Int):List Value:=[Ji x]
theorem lN (m:Nat):∀i,(gB i m).length=m:=by
 induction m with
 |zero=>intro i;rfl
 |succ m y=>intro i;simp[gB,y]
theorem yO (m:Nat):∀i,gB i (m+1)=gB i m ++ [((i+m:Nat):Int)]:=by
 induction m with
 |zero=>intro i;rfl
 |succ m y=>
  intro i;rw[gB,y,gB];simp;omega
theorem Kr (n:Nat):upto n=(gB 0 n).flatMap iS:=by
 induction n with
 |zero=>rfl
 |succ n y=>
  rw[uS,yO,ao,y];simp[iS]
theorem NN (w:JW):JC 212 #[.bool true,.bool true] w λe w'=>e= .returned (.bool true)/\w=w':=by
 go_enter Tryz.func212,Tryz.ntmps212;go_wp2_with fail;go_ret;exact⟨rfl,rfl⟩
def Nz (B n:Nat)(w:JW)(Q T U:Value)(wr:JW):Prop:=∃(D y K M O:Nat)(E H J:JA),Q= .slice E y K/\T= .slice H y M/\U= .slice J D O/\D+y=n/\y<=K/\y<=M/\
 Rd w 1 E y ((gB D y).flatMap iS)/\Rd w 1 H y ((gB D y).flatMap iS)/\bP (λK=>K<B) 3 1 (.slice J D O) D (upto D) wr/\Below B w wr
theorem NO (A H:JA)(ca O n:Nat)(w:JW)(hr:Rd w 1 A n (upto n))(aC:Rd w 1 H n (upto n))(Q:n<=ca)(T:n<=O)(aP:n<=1000):
 JC 211 #[.slice A n ca,.slice H n O,.func (.func 212) #[] #[]] w λe w'=>∃aa c,e= .returned (.slice aa n c)/\bP (λk=>k<w.heap.size) 3 1 (.slice aa n c) n (upto n) w'/\Below w.heap.size w w':=by
 obtain⟨M,af⟩:=Je w.heap.size;have U:=Jh af;have al:=Jh (show Nz M n w (.slice A n ca) (.slice H n O) (Jn) w from⟨0,n,ca,O,0,A,H,none,rfl,rfl,rfl,Jo,Q,T,by rw[<-Kr];exact hr,by rw[<-Kr];exact aC,bP.nil _ _ _ _,by rw[<-af];exact ag _ _⟩);go_enter Tryz.func211,Tryz.ntmps211;go_wp2_with fail;go_loopw [0,1,7] (λy D E wr=>Nz M n w y D E wr) (λy _ _ _=>qR y)
 case atStart=>exact al.o
 obtain⟨y,D,ab,ac,av,aK,aL,ap,rfl,rfl,rfl,az,Q,T,aD,aE,aA,ax⟩:=hrel;have Z:=Jh aA;have E:=Jh ax;have ao:=Jh az;cases D with
 |zero=>
  obtain rfl:y=n:=Jo;go_wp2_with fail;go_ret;exact⟨ap,av,rfl,by rw[U.o];exact Z.o,by rw[U.o];exact E.o⟩
 |succ D=>
  obtain⟨V,X,rfl,aM,aG,aH⟩:=Rd.head (C:=1) (cs:=iS y) (r:=(gB (y+1) D).flatMap iS) (n:=D) (by simpa [gB] using aD) rfl;obtain⟨W,Y,rfl,aN,aI,aJ⟩:=Rd.head (C:=1) (cs:=iS y) (r:=(gB (y+1) D).flatMap iS) (n:=D) (by simpa [gB] using aE) rfl;have aX:wr.cell? (Jp V X)=some (Ji y):=gi E.o Jo (aG 0 _ rfl);have aY:wr.cell? (Jp W Y)=some (Ji y):=gi E.o Jo (aI 0 _ rfl);obtain⟨J,ad⟩:∃J:JA,(if ab=1 then some (Jp V X) else some (Jp V (X+1)))=J:=⟨_,rfl⟩;obtain⟨K,ae⟩:∃K:JA,(if ac=1 then some (Jp W Y) else some (Jp W (Y+1)))=K:=⟨_,rfl⟩;have aq:=Jh (show Rd w 1 J D ((gB (y+1) D).flatMap iS) from lQ aH Q (lN _ _) ad);have ar:=Jh (show Rd w 1 K D ((gB (y+1) D).flatMap iS) from lQ aJ T (lN _ _) ae);have am:=Jh Q;have an:=Jh T;have aQ:decide ((0:Int)<((D+1:Nat):Int))=true:=decide_eq_true Jo;have aR:((((D+1:Nat):Int)) == 0)=false:=beq_eq_false_iff_ne.2 Jo;have aS:=Jt ((y:Int)<=(y:Int));have u1:(1:Int)<=(D:Int)+1:=Jo;have aO:y<=1000:=Jo;have aB:gm (λk=>k<M) wr:=λk ah=>by have:=E.o.size;have:=U.o;omega
  go_wp2_with fail;go_quiet (fail);go_wp2_with fail;go_quiet (fail);go_wp2_with fail;go_quiet (fail);go_wp2_with fail;try simp only[ad]
  go_quiet (fail);go_wp2_with fail;try simp only[ae]
  refine(NN _).mono ?_;rintro e aV ⟨rfl,rfl⟩;go_wp2_with (at_builtin;go_must (refine bb rfl (.tmp 69) (.tmp 71) 23 Jr 3 (Ji 0) 1 8 underlying23 my rfl Jd (λk=>k<M) y _ _ _ #[Ji y] rfl (by intro aT aj;simp at aj;subst aj;rfl) (by exact Z.o) Jr (by exact aB) Jr Jm Jo ?_;intro aU aW ai aF ay aw;obtain⟨ak,au,rfl⟩:=ai.form;clear ay aw));go_roundw
  case rel=>exact⟨y+1,D,ab - 1,ac - 1,au,J,K,ak,rfl,rfl,rfl,Jw ao.o,Jw am.o,Jw an.o,aq.o,ar.o,by rw[uS];exact ai,(E.o.drewN _).trans (aF.below λk ah=>ah)⟩
  simp[qR]
theorem RB (A D:JA)(ca E n:Nat)(w:JW)(hr:Rd w 1 A n (upto n))(T:Rd w 1 D n (upto n))(M:n<=ca)(O:n<=E)(Q:n<=1000):
 JC 113 #[.slice A n ca,.slice D n E] w λe w'=>∃y c,e= .returned (.slice y n c)/\bP (λk=>k<w.heap.size) 3 1 (.slice y n c) n (upto n) w'/\Below w.heap.size w w':=by
 have H:=Jh (NO A D ca E n w hr T M O Q);go_enter Tryz.func113,Tryz.ntmps113;go_wp2_with fail;refine H.o.mono ?_;rintro e w' ⟨y,c,rfl,K⟩;have J:=Jh K;go_wp2_with fail;go_ret;exact⟨y,c,rfl,J.o⟩
theorem Nt:∀(m i j:Nat),j<m->(gB i m).getD j 0=((i+j:Nat):Int):=by
 intro m;induction m with
 |zero=>intro i j y;omega
 |succ m D=>
  intro i j y;cases j with
  |zero=>rfl
  |succ j=>
   rw[gB,List.getD_cons_succ,D (i+1) j Jo];congr 1;omega
theorem Bi:∀(m i:Nat)(x:Int),x∈gB i m↔∃j,j<m/\x=((i+j:Nat):Int):=by
 intro m;induction m with
 |zero=>intro i x;simp[gB]
 |succ m D=>
  intro i x;rw[gB,dh,D];constructor
  ·rintro (rfl|⟨j,y,rfl⟩)
   ·exact⟨0,Jo,rfl⟩
   exact⟨j+1,Jo,by congr 1;omega⟩
  rintro⟨j,y,rfl⟩;cases j with
  |zero=>exact .inl rfl
  |succ j=>exact .inr ⟨j,Jo,by congr 1;omega⟩
theorem Ra:∀(m i:Nat),(gB i m).Pairwise (·<=·):=by
 intro m;induction m with
 |zero=>intro i;exact cj
 |succ m D=>
  intro i;rw[gB,List.pairwise_cons];refine⟨λE y=>?_,D _⟩;obtain⟨J,H,rfl⟩:=(Bi m (i+1) E).1 y;omega
theorem iY {B b:Nat}{a:JW}(D:B<=b):∀(J:List Value)(o:Nat)(w:JW),Below B a w->Below B a (w.setCells b o J)
 |[],_,_,y=>y
 |H :: E,o,_,y=>iY D E (o+1) _ (y.setCell (p:=(Jp b o)) D H)
theorem yz (b:Nat):∀(D:List Value)(o:Nat)(w:JW),(w.setCells b o D).heap.size=w.heap.size
 |[],_,_=>rfl
 |E :: y,o,w=>by rw[World.setCells,yz b y];simp[aj]
theorem nC {P:Program}(w:JW)(t e:TypeId)(z:Value)(size:Nat)(E:P.underlying t=some (.slice e))(T:∀w,(zeroValue e).run P w= .ok z w)(y:z.cells.size=size)(Q:0<size)(h1:∀u∈z.cells.toList,u.oneCell'=true)(b o n c:Nat)
 (hc:∀j,j<n*size->(w.cell? (Jp b (o+j))).isSome=true) (M:∀j,j<n*size->w.frozen? (Jp b (o+j))=false):
 ∃K,K.length=n*size/\∀J,(Builtin.clear_ #[t] J #[.slice (some (Jp b o)) n c]).run P w= .ok (.tuple #[]) (w.setCells b o K):=by
 refine⟨(dO z.cells n).toList,by simp[dO,y],λJ=>?_⟩;have D:=run_storeCells_cells (P:=P) b o (dO z.cells n).toList 0 w (by simpa [dO,y] using hc) (by simpa [dO,y] using M) (by
  intro V H;simp only[dO,Array.toList_map,List.mem_map] at H;obtain⟨U,-,rfl⟩:=H;refine h1 _ ?_;rw[y];have O:U % size<z.cells.size:=by rw[y];exact dX _ Q
  rw[getElem!_pos z.cells _ O];simp)
 simp only[dz] at D;cases n with
 |zero=>simp[Builtin.clear_,run_underlying E,dO,World.setCells]
 |succ H=>simp[Builtin.clear_,run_underlying E,T,D]
section
variable {α:Type} {p:α->Bool} {xs ys:List α} {i j:Nat}
theorem ut (h:i<xs.length)(H:p xs[i]=false)(E:∀j,(y:j<i)->p (xs[j]'Jo)=true):(xs.take (i+1)).filter p=xs.take i:=by
 rw[show xs.take (i+1)=xs.take i ++ [xs[i]] by rw[bc],dV];have D:(xs.take i).filter p=xs.take i:=List.filter_eq_self.2 λK J=>by
  obtain⟨j,y,rfl⟩:=bz J;simp only[aF] at y;rw[List.getElem_take];exact E j Jo
 simp[D,H]
theorem qu (h:j<xs.length)(y:p xs[j]=true):(xs.take (j+1)).filter p=(xs.take j).filter p ++ [xs[j]]:=by
 rw[show xs.take (j+1)=xs.take j ++ [xs[j]] by rw[bc],dV];simp[y]
theorem oy (h:j<xs.length)(y:p xs[j]=false):(xs.take (j+1)).filter p=(xs.take j).filter p:=by
 rw[show xs.take (j+1)=xs.take j ++ [xs[j]] by rw[bc],dV];simp[y]
theorem BH (E:ys.length=xs.length)(D:ys.drop j=xs.drop j)(h:j<xs.length):ys[j]'Jo=xs[j]:=by
 have y:(ys.drop j)[0]?=(xs.drop j)[0]?:=by rw[D]
 rw[dJ,dJ,dz,aT h,aT Jo] at y;simpa using y
theorem IZ {r:α}(hi:i<ys.length)(J:i<j)(H:ys.take i=(xs.take j).filter p)(y:ys.drop j=xs.drop j)(D:j<xs.length)(hr:xs[j]=r)(E:p r=true):
 (ys.set i r).take (i+1)=(xs.take (j+1)).filter p/\(ys.set i r).drop (j+1)=xs.drop (j+1):=by
 subst hr;refine⟨?_,?_⟩
 ·rw[qu D E,<-H];rw[aO (by simpa using hi),List.take_set_of_le (ac _)];simp
 rw[List.drop_set_of_lt Jo,<-bR,y,bR]
end
theorem zG (g:Nat)(D:TypeId):∀(W:List Value)(o:Nat)(w:JW)(y:Array Value),w.heap[g]?=some (.cells y D (0,0))->∃E,(w.setCells g o W).heap[g]?=some (.cells E D (0,0))/\E.size=y.size/\E.toList.take o=y.toList.take o
 |[],o,w,y,H=>⟨y,H,rfl,rfl⟩
 |K :: V,o,w,y,H=>by
  have U:(w.setCell (Jp g o) K).heap[g]?=some (.cells (y.setIfInBounds o K) D (0,0)):=by simp[aj,aA,H]
  obtain⟨M,O,Q,T⟩:=zG g D V (o+1) _ _ U;refine⟨M,O,by simpa using Q,?_⟩;have J:=congrArg (List.take o) T;rw[List.take_take,List.take_take,show min o (o+1)=o by omega] at J;rw[J];simp[List.take_set_of_le]
theorem JP {K:Type}{cells:K->List Value}{C:Nat}(W:∀x,(cells x).length=C){D:TypeId}{R:Nat->Prop}{n i c g:Nat}{w:JW}{y:List K}(h:bP R D C (.slice (some (Jp g 0)) n c) n (y.flatMap cells) w)(af:y.length=n)(hi:i<=n)(J:List Value):
 bP R D C (.slice (some (Jp g 0)) i c) i ((y.take i).flatMap cells) (w.setCells g (i*C) J):=by
 have Z:((y.take i).flatMap cells).length=i*C:=by rw[de W,aF];congr 1;omega
 refine⟨⟨Z,?_⟩,h.2⟩;rcases h.1.2 with⟨V,-⟩|⟨ae,ad,M,H,X,Y,ag,aa,ab,ac⟩
 ·simp at V
 simp only[Value.slice.injEq,Option.some.injEq,Addr.mk.injEq] at H;obtain⟨⟨rfl,-,-⟩,-,rfl⟩:=H;obtain⟨O,Q,T,U⟩:=zG g D J (i*C) w M Y;refine .inr ⟨g,c,O,rfl,X,Q,Jo,aa,by rw[T];exact ab,?_⟩;rw[U];have E:=congrArg (List.take (i*C)) ac;rw[List.take_take] at E;rw[show min (i*C) (n*C)=i*C from ec (dP _ hi)] at E;rw[E]
 conv=>lhs;rw[<-da i y,ao]
 rw[List.take_append_of_le_length Jo,aw Jo]
def ll (l:JU)(a:Int)(ok:Bool)(below:Nat):Nat × Int × Bool:=
 if ok=true/\(aK l a).2.2=0/\(aK l a).1<below then((aK l a).1,(aK l a).2.1,true) else(0,a,false)
theorem rK {l:JU}{a:Int}{below:Nat}(h1:(aK l a).2.2=0)(h2:(aK l a).1<below):ll l a true below=((aK l a).1,(aK l a).2.1,true):=by
 unfold ll;rw[if_pos ⟨rfl,h1,h2⟩]
theorem rJ {l:JU}{a:Int}{below:Nat}(h:¬((aK l a).2.2=0/\(aK l a).1<below)):ll l a true below=(0,a,false):=by
 unfold ll;rw[if_neg (λy=>h y.2)]
theorem pu (l:JU)(a:Int)(below:Nat):ll l a false below=(0,a,false):=by unfold ll;rw[if_neg Js]
theorem rH {l:JU}{a:Int}{ok:Bool}{below:Nat}(D:0<below):(ll l a ok below).1<below:=by
 unfold ll;split
 ·rename_i y;exact y.2.2
 exact D
structure vU where
 F:Int
 T:Int
 n:Nat
 b:JU
def tA (l:JU)(a:Int):Option (Nat × Nat × Nat × Int):=
 if(aK l a).2.2=0/\(aK l (aK l a).2.1).2.2=0/\(aK l (aK l (aK l a).2.1).2.1).2.2=0/\(aK l a).1<1099511627776/\(aK l (aK l a).2.1).1<1099511627776/\
  (aK l a).1+(aK l (aK l a).2.1).1<1099511627776/\(aK l (aK l (aK l a).2.1).2.1).1<=l.length then
  some ((aK l a).1,(aK l (aK l a).2.1).1,(aK l (aK l (aK l a).2.1).2.1).1,(aK l (aK l (aK l a).2.1).2.1).2.1)
 else none
def iA (l:JU):Nat->Nat->Int->Int->Option (List (Int × Int × Nat × Nat) × Int)
 |0,_,D,_=>some ([],D)
 |H+1,left,D,J=>match tA l D with
  |none=>none
  |some y=>if(y.1:Int)<J then none else
   (iA l H (left - 16) y.2.2.2 ((y.1:Int)+y.2.1)).map λE=>(((y.1:Int),(y.1:Int)+y.2.1+1,min left 16,y.2.2.1) :: E.1,E.2)
def vE:List (Int × Int × Nat × Nat)->JU->List vU
 |[],_=>[]
 |y :: E,D=>⟨y.1,y.2.1,y.2.2.1,D.take y.2.2.2⟩ :: vE E (D.drop y.2.2.2)
def jk (D:List (Int × Int × Nat × Nat)):Nat:=(D.map λy=>y.2.2.2).sum
def iH (l:JU):Option (List vU):=
 if(aK l 0).2.2≠0∨5000<(aK l 0).1 then none
 else match iA l (((aK l 0).1+15) / 16) (aK l 0).1 (aK l 0).2.1 0 with
  |none=>none
  |some y=>if(jk y.1:Int)=(l.length:Int) - y.2 then some (vE y.1 (l.drop y.2.toNat)) else none
def GV (l:JU)(a t:Int):Option (Row × Int):=
 if(aK l a).2.2=0/\(aK l (aK l a).2.1).2.2=0/\(aK l (aK l (aK l a).2.1).2.1).2.2=0/\(aK l a).1<1099511627776/\(aK l (aK l a).2.1).1<200 then
  some (⟨t+(aK l a).1,((aK l (aK l a).2.1).1:Int),bE (aK l (aK l (aK l a).2.1).2.1).1⟩,(aK l (aK l (aK l a).2.1).2.1).2.1)
 else none
def lz (l:JU):Nat->Int->Int->Option (List Row × Int)
 |0,y,_=>some ([],y)
 |H+1,y,J=>match GV l y J with
  |none=>none
  |some D=>(lz l H D.2 D.1.T).map λE=>(D.1 :: E.1,E.2)
def sq (a b:Row):Bool:=decide (b.T<a.T) || (a.T == b.T && decide (b.ID<a.ID))
def hU:List Row->Bool
 |[]=>true
 |[_]=>true
 |a :: y :: D=>sq y a && hU (y :: D)
def qa (l:List Row)(i:Nat):Row:=l.getD i ⟨0,0,0⟩
theorem fB {l:List Row}{i:Nat}(h:i<l.length):qa l i=l[i]:=by unfold qa;rw[bQ,aT h];rfl
def mi (f:vU):Option (List Row):=match lz f.b f.n 0 f.F with
 |none=>none
 |some y=>if y.2=f.b.length/\hU y.1=true/\(qa y.1 0).T=f.F/\(qa y.1 (f.n - 1)).T=f.T - 1 then some y.1 else none
def tB (x y:Int)(r:Row):Bool:=decide (x<=r.T) && decide (r.T<y)
def qm (x y:Int):List vU->Option (List Row)
 |[]=>some []
 |f :: D=>if max f.F x<min f.T y then match mi f with
  |none=>none
  |some H=>(qm x y D).map λE=>H.filter (tB x y) ++ E
  else qm x y D
theorem xF {l:List Row}{x:Row}(h:hU l=true)(y:l.length=0∨sq x (qa l (l.length - 1))=true):hU (l ++ [x])=true:=by
 induction l with
 |nil=>rfl
 |cons a l E=>
  cases l with
  |nil=>
   rcases y with y|y
   ·simp at y
   simp only[aY,bi,hU,Bool.and_true];exact y
  |cons b l=>
   simp only[hU,bT] at h;simp only[aY,hU,bT];refine⟨h.1,?_⟩;refine E h.2 ?_;rcases y with y|y
   ·simp at y
   right;have D:qa (a :: b :: l) ((a :: b :: l).length - 1)=qa (b :: l) ((b :: l).length - 1):=by
    simp[qa]
   rw[<-D];exact y
theorem xE {l:List Row}{x:Row}(h:hU (l ++ [x])=true):hU l=true/\(l.length=0∨sq x (qa l (l.length - 1))=true):=by
 induction l with
 |nil=>exact⟨rfl,.inl rfl⟩
 |cons a l H=>
  cases l with
  |nil=>
   simp only[aY,bi,hU,Bool.and_true] at h;exact⟨rfl,.inr h⟩
  |cons b l=>
   simp only[aY,hU,bT] at h;obtain⟨E,y⟩:=H h.2;refine⟨by simp only[hU,bT];exact⟨h.1,E⟩,.inr ?_⟩;have D:qa (a :: b :: l) ((a :: b :: l).length - 1)=qa (b :: l) ((b :: l).length - 1):=by
    simp[qa]
   rw[D];rcases y with y|y
   ·simp at y
   exact y
def fC (b:Nat)(s:ByteArray)(a:Int)(ok:Bool)(w:JW):Prop:=w.heap[b]?=some (.cells #[.string s,Ji a,.bool ok] 473 (0,0))
theorem fC.cells {b:Nat}{s:ByteArray}{a:Int}{ok:Bool}{w:JW}(h:fC b s a ok w):w.cell? (Jp b 0)=some (.string s)/\w.cell? (Jp b 1)=some (Ji a)/\w.cell? (Jp b 2)=some (.bool ok)/\w.frozen? (Jp b 1)=false/\w.frozen? (Jp b 2)=false:=
 ⟨(aa h 0).trans rfl,(aa h 1).trans rfl,(aa h 2).trans rfl,aW h 1,aW h 2⟩
theorem fC.at {b:Nat}{s:ByteArray}{a a':Int}{ok:Bool}{w:JW}(h:fC b s a ok w):fC b s a' ok (w.setCell (Jp b 1) (Ji a')):=by
 unfold fC at*;simp[aj,aA,h]
theorem fC.off {b:Nat}{s:ByteArray}{a:Int}{ok y:Bool}{w:JW}(h:fC b s a ok w):fC b s a y (w.setCell (Jp b 2) (.bool y)):=by
 unfold fC at*;simp[aj,aA,h]
theorem fC.frame {b:Nat}{s:ByteArray}{a:Int}{ok:Bool}{w w':JW}(h:fC b s a ok w)(y:w'.heap[b]?=w.heap[b]?):fC b s a ok w':=y.trans h
theorem fC.drewN {b:Nat}{s:ByteArray}{a:Int}{ok:Bool}{w:JW}(h:fC b s a ok w)(n:Nat):fC b s a ok (w.drewN n):=h
theorem rp (b:Nat)(w:JW)(n:Nat):But b w (w.drewN n):=⟨rfl,rfl,rfl,rfl,λ_ _=>rfl⟩
theorem lI (b:Nat)(s:ByteArray)(a:Int)(ok:Bool)(below:Nat)(w:JW)(h:fC b s a ok w)(ab:s.size<=1000000)(Y:below<=1099511627776):
 JC 362 #[Jv b,Ji below] w λe w'=>e= .returned (Ji (ll s.data.toList a ok below).1)/\fC b s (ll s.data.toList a ok below).2.1 (ll s.data.toList a ok below).2.2 w'/\But b w w':=by
 obtain⟨V,W,X,ac,ad⟩:=h.cells;have J:=Jh h;have y:=λw=>im s a w Jo;have K:=ki s.data.toList a;unfold ll;obtain⟨M,E⟩:=Je (aK s.data.toList a);simp only[E] at y K ⊢;obtain⟨D,U,e⟩:=M;simp only at y K ⊢;have Z:IntKind.u64.wrap (below:Int)=(below:Int):=by rw[bD];omega
 have H:=Jh (λw=>(y w).mono λe w'(h:e=_/\w=w')=>(⟨h.1,h.2.symm⟩:e=_/\w'=w));clear y h E;have O:ok=false∨(ok=true/\e≠0)∨(ok=true/\e=0/\below<=D)∨(ok=true/\e=0/\D<below):=by
  cases ok
  ·exact .inl rfl
  right;by_cases y:e=0
  ·right;by_cases E:D<below
   ·exact .inr ⟨rfl,y,E⟩
   exact .inl ⟨rfl,y,Jo⟩
  exact .inl ⟨rfl,y⟩
 rcases O with rfl|⟨rfl,y⟩|⟨rfl,y,E⟩|⟨rfl,y,E⟩
 ·rw[if_neg Js];go_enter Tryz.func362,Tryz.ntmps362;go_wp2_with fail;go_quiet ((go_at_call 91;exact ek (H.o _)));go_wp2_with fail;go_ret;exact⟨rfl,(J.o.drewN _).off,(rp _ _ _).trans (nM _ _ _ _)⟩
 ·rw[if_neg (by simp[y])];have Q:((e:Int) == 0)=false:=beq_eq_false_iff_ne.2 Jo;have T:((e:Int) != 0)=true:=by rw[bne,Q];rfl
  clear y;go_enter Tryz.func362,Tryz.ntmps362;go_wp2_with fail;go_quiet ((go_at_call 91;exact ek (H.o _)));go_wp2_with fail;go_ret;exact⟨rfl,(J.o.drewN _).off,(rp _ _ _).trans (nM _ _ _ _)⟩
 ·rw[if_neg Jo];subst y;have Q:=Jt ((below:Int)<=(D:Int));have T:decide (below<=D)=true:=decide_eq_true E;go_enter Tryz.func362,Tryz.ntmps362;go_wp2_with fail;go_quiet ((go_at_call 91;exact ek (H.o _)));go_wp2_with fail;go_ret;exact⟨rfl,(J.o.drewN _).off,(rp _ _ _).trans (nM _ _ _ _)⟩
 rw[if_pos ⟨rfl,y,E⟩];subst y;have Q:=Jf ((below:Int)<=(D:Int));have T:=Jf (below<=D);have aa:IntKind.i64.wrap (D:Int)=(D:Int):=by rw[aB];omega
 go_enter Tryz.func362,Tryz.ntmps362;go_wp2_with fail;go_quiet ((go_at_call 91;exact ek (H.o _)));go_wp2_with fail;go_ret;exact⟨rfl,(J.o.drewN _).at,(rp _ _ _).trans (nM _ _ _ _)⟩
theorem OZ {l:JU}{a:Int}{U:Nat}(Y:U=l.length+1){f m b:Nat}{T a2 a3:Int}{V W X:Bool}(h1:ll l a true 1099511627776=(f,T,V))(h2:ll l T V 1099511627776=(m,a2,W))(D:ll l a2 W U=(b,a3,X)):
 tA l a=if X=true/\f+m<1099511627776 then some (f,m,b,a3) else none:=by
 subst Y;unfold tA;by_cases H:(aK l a).2.2=0/\(aK l a).1<1099511627776;rotate_left
 ·rw[rJ H] at h1;obtain⟨rfl,Q⟩:=Prod.mk.inj h1;obtain⟨rfl,rfl⟩:=Prod.mk.inj Q;rw[pu] at h2;obtain⟨rfl,M⟩:=Prod.mk.inj h2;obtain⟨rfl,rfl⟩:=Prod.mk.inj M;rw[pu] at D;obtain⟨rfl,E⟩:=Prod.mk.inj D;obtain⟨rfl,rfl⟩:=Prod.mk.inj E;rw[if_neg (λy=>H ⟨y.1,y.2.2.2.1⟩),if_neg Js]
 rw[rK H.1 H.2] at h1;obtain⟨rfl,Q⟩:=Prod.mk.inj h1;obtain⟨rfl,rfl⟩:=Prod.mk.inj Q;by_cases J:(aK l (aK l a).2.1).2.2=0/\(aK l (aK l a).2.1).1<1099511627776
 ·rw[rK J.1 J.2] at h2;obtain⟨rfl,M⟩:=Prod.mk.inj h2;obtain⟨rfl,rfl⟩:=Prod.mk.inj M;by_cases K:(aK l (aK l (aK l a).2.1).2.1).2.2=0/\(aK l (aK l (aK l a).2.1).2.1).1<l.length+1
  ·rw[rK K.1 K.2] at D;obtain⟨rfl,E⟩:=Prod.mk.inj D;obtain⟨rfl,rfl⟩:=Prod.mk.inj E;by_cases O:(aK l a).1+(aK l (aK l a).2.1).1<1099511627776
   ·rw[if_pos ⟨H.1,J.1,K.1,H.2,J.2,O,Jo⟩,if_pos ⟨rfl,O⟩]
   rw[if_neg (λy=>O y.2.2.2.2.2.1),if_neg (λy=>O y.2)]
  rw[rJ K] at D;obtain⟨rfl,E⟩:=Prod.mk.inj D;obtain⟨rfl,rfl⟩:=Prod.mk.inj E;rw[if_neg (λy=>K ⟨y.2.2.1,Jo⟩),if_neg Js]
 rw[rJ J] at h2;obtain⟨rfl,M⟩:=Prod.mk.inj h2;obtain⟨rfl,rfl⟩:=Prod.mk.inj M;rw[pu] at D;obtain⟨rfl,E⟩:=Prod.mk.inj D;obtain⟨rfl,rfl⟩:=Prod.mk.inj E;rw[if_neg (λy=>J ⟨y.2.1,y.2.2.2.2.1⟩),if_neg Js]
def lX (f:vU):List Value:=[Ji f.F,Ji f.T,Ji f.n,.string (S f.b)]
theorem vG (f:vU):(lX f).length=4:=rfl
def nA (h:Int × Int × Nat × Nat):List Value:=[Ji h.1,Ji h.2.1,Ji h.2.2.1,.string ⟨#[]⟩]
def oO (h:Int × Int × Nat × Nat):List Value:=[Ji h.2.2.2]
theorem vP (h:Int × Int × Nat × Nat):(oO h).length=1:=rfl
theorem UD:(prog.info? 430).map (λi=>(i.zero,i.size,i.bytes))=some (some (.agg #[Ji 0,Ji 0,Ji 0,.string ⟨#[]⟩]),4,40):=Jk
def BL (l:JU)(ok:Bool)(D:Option (List (Int × Int × Nat × Nat) × Int)):Option (List vU):=
 if ok=true then match D with
  |none=>none
  |some y=>if(jk y.1:Int)=(l.length:Int) - y.2 then some (vE y.1 (l.drop y.2.toNat)) else none
 else none
theorem Ll {l:JU}{n:Nat}{a:Int}{ok:Bool}(h:ll l 0 true 5001=(n,a,ok)):iH l=BL l ok (iA l ((n+15) / 16) n a 0):=by
 unfold iH BL;by_cases y:(aK l 0).2.2=0/\(aK l 0).1<5001
 ·rw[rK y.1 y.2] at h;obtain⟨rfl,D⟩:=Prod.mk.inj h;obtain⟨rfl,rfl⟩:=Prod.mk.inj D;rw[if_neg Jo,if_pos rfl];all_goals (cases iA l (((aK l 0).1+15) / 16) (aK l 0).1 (aK l 0).2.1 0<;>rfl)
 rw[rJ y] at h;obtain⟨rfl,D⟩:=Prod.mk.inj h;obtain⟨rfl,rfl⟩:=Prod.mk.inj D;rw[if_pos Jo,if_neg Jd]
theorem qC (l:JU)(ok:Bool):BL l ok none=none:=by unfold BL;split<;>rfl
section
variable {l:JU} {k z:Nat} {a last:Int} {hs:List (Int × Int × Nat × Nat)} {H:Option (List (Int × Int × Nat × Nat) × Int)} {f m b:Nat} {a3:Int}
theorem xP (h:(iA l (k+1) z a last).map (λr=>(hs ++ r.1,r.2))=H)(y:tA l a=none):H=none:=by
 rw[<-h];simp[iA,y]
theorem LO (h:(iA l (k+1) z a last).map (λr=>(hs ++ r.1,r.2))=H)(D:tA l a=some (f,m,b,a3))(y:(f:Int)<last):H=none:=by
 rw[<-h];simp[iA,D,y]
theorem Gj (h:(iA l (k+1) z a last).map (λr=>(hs ++ r.1,r.2))=H)(D:tA l a=some (f,m,b,a3))(y:¬(f:Int)<last):
 (iA l k (z - 16) a3 ((f:Int)+m)).map (λr=>((hs ++ [((f:Int),(f:Int)+m+1,min z 16,b)]) ++ r.1,r.2))=H:=by
 rw[<-h];simp only[iA,D,if_neg y,Option.map_map];congr 1;funext r;simp
theorem Gi (h:(iA l 0 z a last).map (λr=>(hs ++ r.1,r.2))=H):H=some (hs,a):=by rw[<-h];simp[iA]
end
theorem yG (y:List (Int × Int × Nat × Nat))(x:Int × Int × Nat × Nat):jk (y ++ [x])=jk y+x.2.2.2:=by simp[jk]
theorem rG {l:JU}{a a':Int}{n b N:Nat}{ok D:Bool}(H:l.length=N)(h:ll l a ok b=(n,a',D))(E:0<=a)(h1:a<=N):0<=a'/\a'<=N:=by
 have:=kC l a;unfold ll at h;split at h<;>(obtain⟨_,y⟩:=Prod.mk.inj h;obtain⟨rfl,_⟩:=Prod.mk.inj y)<;>omega
theorem Mh {l:JU}{a a':Int}{n b:Nat}{ok y:Bool}(h:ll l a ok b=(n,a',y))(E:y=false):n=0:=by
 unfold ll at h;split at h<;>(obtain⟨rfl,D⟩:=Prod.mk.inj h;obtain⟨_,rfl⟩:=Prod.mk.inj D)
 ·cases E
 rfl
def un:Nat->List (Int × Int × Nat × Nat)->JU->List Value
 |0,hs,_=>hs.flatMap nA
 |_+1,[],_=>[]
 |E+1,y :: hs,D=>lX ⟨y.1,y.2.1,y.2.2.1,D.take y.2.2.2⟩ ++ un E hs (D.drop y.2.2.2)
theorem Oo:∀(y:List (Int × Int × Nat × Nat))(t:JU),un y.length y t=(vE y t).flatMap lX:=by
 intro y;induction y with
 |nil=>intro t;rfl
 |cons h y D=>intro t;simp[un,vE,D]
theorem Dn:∀(y:List (Int × Int × Nat × Nat))(t:JU),(vE y t).length=y.length:=by
 intro y;induction y with
 |nil=>intro t;rfl
 |cons h y D=>intro t;simp[vE,D]
theorem Oq:∀(i:Nat)(y:List (Int × Int × Nat × Nat))(t:JU),i<y.length->(un i y t)[i*4+3]?=some (.string ⟨#[]⟩):=by
 intro i;induction i with
 |zero=>
  intro y t D;cases y with
  |nil=>simp at D
  |cons x y=>simp[un,nA]
 |succ i E=>
  intro y t D;cases y with
  |nil=>simp at D
  |cons x y=>
   rw[show(i+1)*4+3=(i*4+3)+1+1+1+1 by omega];simp only[un,lX,aY,bi,aS];exact E y _ (by simpa using D)
theorem KV:∀(i:Nat)(y:List (Int × Int × Nat × Nat))(t:JU)(h:i<y.length),(un i y t).set (i*4+3) (.string (S ((t.drop (jk (y.take i))).take y[i].2.2.2)))=un (i+1) y t:=by
 intro i;induction i with
 |zero=>
  intro y t h;cases y with
  |nil=>simp at h
  |cons x y=>simp[un,nA,lX,jk]
 |succ i H=>
  intro y t h;cases y with
  |nil=>simp at h
  |cons x y=>
   rw[show(i+1)*4+3=(i*4+3)+1+1+1+1 by omega];have E:i<y.length:=by simpa using h
   have:=H y (t.drop x.2.2.2) E;rw[bR] at this;have D:jk ((x :: y).take (i+1))=x.2.2.2+jk (y.take i):=by simp[jk]
   rw[D];rw[show un (i+1+1) (x :: y) t=lX ⟨x.1,x.2.1,x.2.2.1,t.take x.2.2.2⟩ ++ un (i+1) y (t.drop x.2.2.2) from rfl,<-this];simp only[un,lX,aY,bi,aM,ck]
theorem QT {y:List (Int × Int × Nat × Nat)}{i:Nat}(h:i<y.length):jk (y.take (i+1))=jk (y.take i)+y[i].2.2.2/\jk (y.take (i+1))<=jk y:=by
 have D:y.take (i+1)=y.take i ++ [y[i]]:=by rw[bc]
 refine⟨by rw[D,yG],?_⟩;have:y=y.take (i+1) ++ y.drop (i+1):=(da _ _).symm;have E:jk y=jk (y.take (i+1))+jk (y.drop (i+1)):=by
  conv=>lhs;rw[this]
  simp only[jk,cH,List.sum_append]
 omega
theorem WK:∀(i:Nat)(D:List Row)(r:Row),i<D.length->((((D.flatMap aR).set (i*3) (Ji r.T)).set (i*3+1) (Ji r.ID)).set (i*3+2) (Ji r.V))=(D.set i r).flatMap aR:=by
 intro i;induction i with
 |zero=>
  intro D r E;cases D with
  |nil=>simp at E
  |cons y D=>simp[aR]
 |succ i H=>
  intro D r E;cases D with
  |nil=>simp at E
  |cons y D=>
   have:=H D r (by simpa using E);rw[aM,aE,aE,<-this];rw[show(i+1)*3=i*3+3 by omega];simp only[aR,aY,bi];rw[show i*3+3=(i*3+2)+1 by omega];simp only[aM]
def Wj (p:Row->Bool)(xs:List Row)(w:JW)(e:Ending)(w':JW):Prop:=
 Jz w w'/\(((∀E∈xs,p E=true)/\e= .returned (Ji (-1)))∨∃(y:Nat)(H:y<xs.length),p xs[y]=false/\(∀D,(hj:D<y)->p (xs[D]'Jo)=true)/\e= .returned (Ji y))
theorem Gn (p:Row->Bool)(f b B:Nat)(A:JA)(c n:Nat)(xs:List Row)(w:JW)(aj:∀args w,(callFunc f args).run prog w= .ok (.enter f args) w)(X:∀(V:JW),Below B w V->∀r:Row,JC f #[ML r,Jv b] V λe w'=>e= .returned (.bool (!p r))/\Jz V w')(hB:B<=w.heap.size)(hr:Rd w 3 A n (xs.flatMap aR))(Y:xs.length=n)(ao:n<=100000):
 JC 219 #[.slice A n c,.func (.func f) #[] #[Jv b]] w (Wj p xs w):=by
 have ad:=Jh hr;have O:=Jh Y;have ac:=Jh X;clear hr Y X;go_enter Tryz.func219,Tryz.ntmps219;go_wp2_with fail;go_loopw [8] (λE wr=>∃y:Nat,E=Ji y/\y<=n/\(∀D,D<y->∃H:D<xs.length,p xs[D]=true)/\Jz w wr) (λE _=>n - (intOf E).toNat)
 case atStart=>exact⟨0,rfl,Jo,λD M=>absurd M Jo,ag _ _⟩
 obtain⟨y,rfl,am,J,K⟩:=hrel;have Q:=Jh J;have E:=Jh K;clear J K;by_cases ap:y<n;rotate_left
 ·obtain rfl:y=n:=Jo;go_wp2_with fail;go_ret;refine⟨E.o,.inl ⟨λr hr=>?_,rfl⟩⟩;obtain⟨D,M,rfl⟩:=bz hr;exact(Q.o D (Jw O.o)).2
 have K:y<xs.length:=Jw O.o;obtain⟨ak,aq,rfl,al,Z,aa,ab⟩:=jj (ad.o.below E.o) K;have an:(y:Int)<n:=Jo;have J:=Jh (ac.o wr (E.o.mono hB) xs[y]);obtain⟨r,hr⟩:=Je (xs[y]);rw[hr] at Z aa ab J;have W:=Jh (show ∀H:y<xs.length,xs[y]'H=r from λ_=>hr);clear hr K;obtain⟨af,ae,ah⟩:=r;simp only at Z aa ab;cases H:p ⟨af,ae,ah⟩ with
 |true=>
  rw[H] at J;have T:=Jh H;clear H;go_wp2_with (go_at_fn f;refine J.o.mono ?_;rintro e ai ⟨rfl,K⟩);have U:=Jh (E.o.trans (K.mono E.o.size));clear K;go_roundw
  case rel=>exact⟨y+1,by go_num,Jo,λD M=>by
   have:=O.o;by_cases e:D=y
   ·subst e;exact⟨Jo,by rw[W.o];exact T.o⟩
   exact Q.o D Jo,U.o⟩
  simp[intOf];omega
 |false=>
  rw[H] at J;have T:=Jh H;clear H;go_wp2_with (go_at_fn f;refine J.o.mono ?_;rintro e ai ⟨rfl,K⟩);have U:=Jh (E.o.trans (K.mono E.o.size));clear K;go_ret;exact⟨U.o,.inr ⟨y,Jw O.o,by rw[W.o];exact T.o,λD M=>(Q.o D M).2,rfl⟩⟩
theorem VX (w:JW):(zeroValue 130).run prog w= .ok (.agg #[Ji 0,Ji 0,Ji 0]) w:=Jk
theorem VD {R:Nat->Prop}{n i c g:Nat}{w:JW}{y:List Row}(h:bP R 130 3 (.slice (some (Jp g 0)) n c) n (y.flatMap aR) w)(E:y.length=n)(hi:i<=n)(D:List Value):
 bP R 130 3 (.slice (some (Jp g 0)) i c) i ((y.take i).flatMap aR) (w.setCells g (i*3) D):=JP gv h E hi D
def Wg (p:Row->Bool)(xs:List Row)(B:Nat)(w:JW)(e:Ending)(w':JW):Prop:=
 ∃(D:JA)(y E:Nat),e= .returned (.slice D y E)/\y=(xs.filter p).length/\bP (λy=>y<B) 130 3 (.slice D y E) y ((xs.filter p).flatMap aR) w'/\Below B w w'
theorem qw (p:Row->Bool)(f b B:Nat)(A:JA)(c n:Nat)(xs:List Row)(w:JW)(aY:∀args w,(callFunc f args).run prog w= .ok (.enter f args) w)(aB:∀(K:JW),Below B w K->∀r:Row,JC f #[ML r,Jv b] K λe w'=>e= .returned (.bool (!p r))/\Jz K w')(hB:B<=w.heap.size)(hr:bP (λk=>k<B) 130 3 (.slice A n c) n (xs.flatMap aR) w)(aE:xs.length=n)(a1:n<=100000):
 JC 115 #[.slice A n c,.func (.func f) #[] #[Jv b]] w (Wg p xs B w):=by
 have ad:=Jh hr;have H:=Jh aE;have aQ:=Jh aB;have aI:=Jh (Gn p f b B A c n xs w aY aB hB hr.rd aE a1);clear hr aE aB;go_enter Tryz.func115,Tryz.ntmps115;go_wp2_with fail;refine aI.o.mono ?_;rintro e ba ⟨ah,⟨ag,rfl⟩|⟨ap,aC,aL,aK,rfl⟩⟩
 ·have ak:=Jh ah;have D:=Jh ag;clear ah ag;go_wp2_with fail;go_ret;have y:xs.filter p=xs:=List.filter_eq_self.2 D.o;exact⟨A,n,c,rfl,by rw[y,H.o],by rw[y];exact ad.o.below ak.o,ak.o.mono hB⟩
 obtain⟨M,rfl,bn,bg⟩:=ad.o.own (show 0<n by rw[<-H.o];omega);have ao:B<=M:=by
  have:=ad.o.2 M rfl;omega
 have bj:ap<n:=by rw[<-H.o];exact aC
 have bo:((ap:Int) == -1)=false:=beq_eq_false_iff_ne.2 Jo;have y:=ut aC aL aK;have aJ:=Jh y;have ak:=Jh (show Below B w ba from ah.mono hB);have aS:=Jh (ad.o.below ah);clear y aL aK ah aC aI ad;go_wp2_with fail;go_loopw [5,6] (λO J wr=>∃(y D:Nat)(E:List Row),O=Ji y/\J=Ji D/\y<D/\D<=n/\E.length=n/\y=((xs.take D).filter p).length/\E.take y=(xs.take D).filter p/\E.drop D=xs.drop D/\bP (λk=>k<B) 130 3 (.slice (some (Jp M 0)) n c) n (E.flatMap aR) wr/\Below B w wr) (λ_ J _=>n - (intOf J).toNat)
 case atStart=>exact⟨ap,ap+1,xs,rfl,by go_num,Jo,Jo,H.o,by rw[aJ.o,aF,H.o];omega,aJ.o.symm,rfl,aS.o,ak.o⟩
 obtain⟨y,D,E,rfl,rfl,aM,bk,W,Q,htk,U,V,J⟩:=hrel;have O:=Jh W;have ax:=Jh Q;have az:=Jh htk;have ay:=Jh U;have T:=Jh V;have am:=Jh J;clear W Q htk U V J;by_cases aD:D<n;rotate_left
 ·obtain rfl:D=n:=Jo;have Y:y<D:=aM;obtain⟨W,U,X⟩:=nC (P:=prog) wr 106 130 (.agg #[Ji 0,Ji 0,Ji 0]) 3 underlying106 VX rfl Jd (by intro Z Q;simp[Value.cells] at Q;rcases Q with rfl|rfl|rfl<;>rfl) M (y*3) (D - y) (c - y)
   (λV J=>by
    rw[T.o.1.cellAt _ Jo,aT (by rw[de gv,O.o];omega)];rfl)
   (λV J=>T.o.cell _)
  clear U;go_wp2_with fail;go_ret;have ag:(xs.take D).filter p=xs.filter p:=by rw[aw (by rw[H.o];exact ac _)]
  have J:=VD T.o O.o (i:=y) Jo W;rw[az.o,ag] at J;exact⟨_,y,c,rfl,by rw[<-ag,<-ax.o],J,iY ao _ _ _ am.o⟩
 have J:D<E.length:=Jw O.o;obtain⟨aA,aH,e,bh,aq,ar,au⟩:=jj T.o.rd J;obtain⟨rfl,rfl⟩:M=aA/\0=aH:=by simpa using e
 have Y:D<xs.length:=Jw H.o;have Q:=BH (by rw[O.o,H.o]) ay.o Y;obtain⟨r,hr⟩:=Je (xs[D]);rw[Q,hr] at aq ar au;simp only[bB] at aq ar au;have an:=Jh (show ∀U:D<xs.length,xs[D]'U=r from λ_=>hr);clear e Q hr J Y;have aG:B<=wr.heap.size:=Jo;have bl:(D:Int)<n:=Jo;have bm:(y:Int)<n:=Jo;obtain⟨V,U,W⟩:=r;simp only at aq ar au;obtain⟨aU,bf,ai,aV,aW,aX⟩:∃K,wr.alloc (.cells #[Ji V,Ji U,Ji W] 130)=K/\Jz wr K/\K.cell? (Jp wr.heap.size 0)=some (Ji V)/\K.cell? (Jp wr.heap.size 1)=some (Ji U)/\K.cell? (Jp wr.heap.size 2)=some (Ji W):=
  ⟨_,rfl,Below.one _ _,(aa (heap_alloc_new _ _) _).trans rfl,(aa (heap_alloc_new _ _) _).trans rfl,(aa (heap_alloc_new _ _) _).trans rfl⟩
 have Z:=Jh (aQ.o aU ((am.o.trans (ai.mono aG))) ⟨V,U,W⟩);cases X:p ⟨V,U,W⟩ with
 |true=>
  rw[X] at Z;have ae:=Jh X;have af:=Jh ai;clear X ai;go_wp2_with fail;refine Z.o.mono ?_;rintro e bb ⟨rfl,J⟩;have bc:=al J aV;have bd:=al J aW;have be:=al J aX;have av:=Jh (am.o.trans ((af.o.then J).mono aG));have Q:=Jh (T.o.below (af.o.then J));have aj:y<E.length:=Jw O.o;obtain⟨aA,aH,e,bi,aN,aO,aP⟩:=jj Q.o.rd aj;obtain⟨rfl,rfl⟩:M=aA/\0=aH:=by simpa using e
  simp only[bB] at aN aO aP;generalize E[y]=bp at aN aO aP;have bq:=Q.o.cell (y*3);have br:=Q.o.cell (y*3+1);have bt:=Q.o.cell (y*3+2);clear J e aj aq ar au Z;go_wp2_with fail;go_roundw
  case rel=>
   have aj:y<E.length:=Jw O.o;have a6:=WK y E ⟨V,U,W⟩ aj;have Y:D<xs.length:=by rw[H.o];exact aD
   obtain⟨a7,a8⟩:=IZ aj aM az.o ay.o Y (an.o Y) ae.o;have aZ:=qu (p:=p) Y (by rw[an.o];exact ae.o);exact⟨y+1,D+1,E.set y ⟨V,U,W⟩,by go_num,by go_num,Jo,Jo,by rw[fk,O.o],by rw[aZ,ab,<-ax.o];rfl,a7,a8,by rw[<-a6];exact(((Q.o.store _).store _).store _),(((av.o.setCell (p:=(Jp M (y*3))) ao _).setCell (p:=(Jp M (y*3+1))) ao _).setCell (p:=(Jp M (y*3+2))) ao _)⟩
  simp[intOf];omega
 |false=>
  rw[X] at Z;have ae:=Jh X;have af:=Jh ai;clear X ai;go_wp2_with (go_at_fn f;refine Z.o.mono ?_;rintro e bb ⟨rfl,J⟩);have av:=Jh (am.o.trans ((af.o.then J).mono aG));have Q:=Jh (T.o.below (af.o.then J));clear J;go_wp2_with fail;go_roundw
  case rel=>exact⟨y,D+1,E,rfl,by go_num,Jo,Jo,O.o,by rw[oy (by rw[H.o];exact aD) (by rw[an.o];exact ae.o)];exact ax.o,by rw[oy (by rw[H.o];exact aD) (by rw[an.o];exact ae.o)];exact az.o,by rw[<-bR,ay.o,bR],Q.o,av.o⟩
  simp[intOf];omega
theorem WL:∀(i:Nat)(D:List ar)(r:ar),i<D.length->(((D.flatMap ay).set (i*2) (Ji r.T)).set (i*2+1) (Ji r.V))=(D.set i r).flatMap ay:=by
 intro i;induction i with
 |zero=>
  intro D r E;cases D with
  |nil=>simp at E
  |cons y D=>simp[ay]
 |succ i H=>
  intro D r E;cases D with
  |nil=>simp at E
  |cons y D=>
   have:=H D r (by simpa using E);rw[aM,aE,aE,<-this];rw[show(i+1)*2=i*2+2 by omega];simp only[ay,aY,bi];rw[show i*2+2=(i*2+1)+1 by omega];simp only[aM]
def Wk (p:ar->Bool)(xs:List ar)(w:JW)(e:Ending)(w':JW):Prop:=
 Jz w w'/\(((∀E∈xs,p E=true)/\e= .returned (Ji (-1)))∨∃(y:Nat)(H:y<xs.length),p xs[y]=false/\(∀D,(hj:D<y)->p (xs[D]'Jo)=true)/\e= .returned (Ji y))
theorem Gp (p:ar->Bool)(f b B:Nat)(A:JA)(c n:Nat)(xs:List ar)(w:JW)(ah:∀args w,(callFunc f args).run prog w= .ok (.enter f args) w)(X:∀(V:JW),Below B w V->∀r:ar,JC f #[lj r,Jv b] V λe w'=>e= .returned (.bool (!p r))/\Jz V w')(hB:B<=w.heap.size)(hr:Rd w 2 A n (xs.flatMap ay))(Y:xs.length=n)(am:n<=100000):
 JC 231 #[.slice A n c,.func (.func f) #[] #[Jv b]] w (Wk p xs w):=by
 have ac:=Jh hr;have O:=Jh Y;have ab:=Jh X;clear hr Y X;go_enter Tryz.func231,Tryz.ntmps231;go_wp2_with fail;go_loopw [8] (λE wr=>∃y:Nat,E=Ji y/\y<=n/\(∀D,D<y->∃H:D<xs.length,p xs[D]=true)/\Jz w wr) (λE _=>n - (intOf E).toNat)
 case atStart=>exact⟨0,rfl,Jo,λD M=>absurd M Jo,ag _ _⟩
 obtain⟨y,rfl,ak,J,K⟩:=hrel;have Q:=Jh J;have E:=Jh K;clear J K;by_cases an:y<n;rotate_left
 ·obtain rfl:y=n:=Jo;go_wp2_with fail;go_ret;refine⟨E.o,.inl ⟨λr hr=>?_,rfl⟩⟩;obtain⟨D,M,rfl⟩:=bz hr;exact(Q.o D (Jw O.o)).2
 have K:y<xs.length:=Jw O.o;obtain⟨ai,ao,rfl,aj,Z,aa⟩:=ez (ac.o.below E.o) K;have al:(y:Int)<n:=Jo;have J:=Jh (ab.o wr (E.o.mono hB) xs[y]);obtain⟨r,hr⟩:=Je (xs[y]);rw[hr] at Z aa J;have W:=Jh (show ∀H:y<xs.length,xs[y]'H=r from λ_=>hr);clear hr K;obtain⟨ad,ae⟩:=r;simp only at Z aa;cases H:p ⟨ad,ae⟩ with
 |true=>
  rw[H] at J;have T:=Jh H;clear H;go_wp2_with (go_at_fn f;refine J.o.mono ?_;rintro e af ⟨rfl,K⟩);have U:=Jh (E.o.trans (K.mono E.o.size));clear K;go_roundw
  case rel=>exact⟨y+1,by go_num,Jo,λD M=>by
   have:=O.o;by_cases e:D=y
   ·subst e;exact⟨Jo,by rw[W.o];exact T.o⟩
   exact Q.o D Jo,U.o⟩
  simp[intOf];omega
 |false=>
  rw[H] at J;have T:=Jh H;clear H;go_wp2_with (go_at_fn f;refine J.o.mono ?_;rintro e af ⟨rfl,K⟩);have U:=Jh (E.o.trans (K.mono E.o.size));clear K;go_ret;exact⟨U.o,.inr ⟨y,Jw O.o,by rw[W.o];exact T.o,λD M=>(Q.o D M).2,rfl⟩⟩
theorem VY (w:JW):(zeroValue 113).run prog w= .ok (.agg #[Ji 0,Ji 0]) w:=Jk
theorem VE {R:Nat->Prop}{n i c g:Nat}{w:JW}{y:List ar}(h:bP R 113 2 (.slice (some (Jp g 0)) n c) n (y.flatMap ay) w)(E:y.length=n)(hi:i<=n)(D:List Value):
 bP R 113 2 (.slice (some (Jp g 0)) i c) i ((y.take i).flatMap ay) (w.setCells g (i*2) D):=JP dy h E hi D
def Wh (p:ar->Bool)(xs:List ar)(B:Nat)(w:JW)(e:Ending)(w':JW):Prop:=
 ∃(D:JA)(y E:Nat),e= .returned (.slice D y E)/\y=(xs.filter p).length/\bP (λy=>y<B) 113 2 (.slice D y E) y ((xs.filter p).flatMap ay) w'/\Below B w w'
theorem Du (p:ar->Bool)(f b B:Nat)(A:JA)(c n:Nat)(xs:List ar)(w:JW)(aV:∀args w,(callFunc f args).run prog w= .ok (.enter f args) w)(aA:∀(M:JW),Below B w M->∀r:ar,JC f #[lj r,Jv b] M λe w'=>e= .returned (.bool (!p r))/\Jz M w')(hB:B<=w.heap.size)(hr:bP (λk=>k<B) 113 2 (.slice A n c) n (xs.flatMap ay) w)(aE:xs.length=n)(aX:n<=100000):
 JC 124 #[.slice A n c,.func (.func f) #[] #[Jv b]] w (Wh p xs B w):=by
 have Z:=Jh hr;have H:=Jh aE;have aP:=Jh aA;have aI:=Jh (Gp p f b B A c n xs w aV aA hB hr.rd aE aX);clear hr aE aA;go_enter Tryz.func124,Tryz.ntmps124;go_wp2_with fail;refine aI.o.mono ?_;rintro e a6 ⟨ag,⟨af,rfl⟩|⟨an,aC,aL,aK,rfl⟩⟩
 ·have aj:=Jh ag;have D:=Jh af;clear ag af;go_wp2_with fail;go_ret;have y:xs.filter p=xs:=List.filter_eq_self.2 D.o;exact⟨A,n,c,rfl,by rw[y,H.o],by rw[y];exact Z.o.below aj.o,aj.o.mono hB⟩
 obtain⟨O,rfl,bj,bc⟩:=Z.o.own (show 0<n by rw[<-H.o];omega);have aB:B<=O:=by
  have:=Z.o.2 O rfl;omega
 have bf:an<n:=by rw[<-H.o];exact aC
 have bk:((an:Int) == -1)=false:=beq_eq_false_iff_ne.2 Jo;have y:=ut aC aL aK;have aJ:=Jh y;have aj:=Jh (show Below B w a6 from ag.mono hB);have aQ:=Jh (Z.o.below ag);clear y aL aK ag aC aI Z;go_wp2_with fail;go_loopw [5,6] (λK J wr=>∃(y D:Nat)(E:List ar),K=Ji y/\J=Ji D/\y<D/\D<=n/\E.length=n/\y=((xs.take D).filter p).length/\E.take y=(xs.take D).filter p/\E.drop D=xs.drop D/\bP (λk=>k<B) 113 2 (.slice (some (Jp O 0)) n c) n (E.flatMap ay) wr/\Below B w wr) (λ_ J _=>n - (intOf J).toNat)
 case atStart=>exact⟨an,an+1,xs,rfl,by go_num,Jo,Jo,H.o,by rw[aJ.o,aF,H.o];omega,aJ.o.symm,rfl,aQ.o,aj.o⟩
 obtain⟨y,D,E,rfl,rfl,aM,bg,W,Q,htk,U,V,J⟩:=hrel;have K:=Jh W;have au:=Jh Q;have ax:=Jh htk;have av:=Jh U;have T:=Jh V;have ak:=Jh J;clear W Q htk U V J;by_cases aD:D<n;rotate_left
 ·obtain rfl:D=n:=Jo;have Y:y<D:=aM;obtain⟨W,U,X⟩:=nC (P:=prog) wr 66 113 (.agg #[Ji 0,Ji 0]) 2 underlying66 VY rfl Jd (by intro ad Q;simp[Value.cells] at Q;rcases Q with rfl|rfl<;>rfl) O (y*2) (D - y) (c - y)
   (λV J=>by
    rw[T.o.1.cellAt _ Jo,aT (by rw[de dy,K.o];omega)];rfl)
   (λV J=>T.o.cell _)
  clear U;go_wp2_with fail;go_ret;have af:(xs.take D).filter p=xs.filter p:=by rw[aw (by rw[H.o];exact ac _)]
  have J:=VE T.o K.o (i:=y) Jo W;rw[ax.o,af] at J;exact⟨_,y,c,rfl,by rw[<-af,<-au.o],J,iY aB _ _ _ ak.o⟩
 have J:D<E.length:=Jw K.o;obtain⟨az,aH,e,bd,ao,ap⟩:=ez T.o.rd J;obtain⟨rfl,rfl⟩:O=az/\0=aH:=by simpa using e
 have X:D<xs.length:=Jw H.o;have Q:=BH (by rw[K.o,H.o]) av.o X;obtain⟨r,hr⟩:=Je (xs[D]);rw[Q,hr] at ao ap;simp only[bB] at ao ap;have am:=Jh (show ∀U:D<xs.length,xs[D]'U=r from λ_=>hr);clear e Q hr J X;have aG:B<=wr.heap.size:=Jo;have bh:(D:Int)<n:=Jo;have bi:(y:Int)<n:=Jo;obtain⟨U,V⟩:=r;simp only at ao ap;obtain⟨aR,bb,ah,aS,aU⟩:∃M,wr.alloc (.cells #[Ji U,Ji V] 113)=M/\Jz wr M/\M.cell? (Jp wr.heap.size 0)=some (Ji U)/\M.cell? (Jp wr.heap.size 1)=some (Ji V):=
  ⟨_,rfl,Below.one _ _,(aa (heap_alloc_new _ _) _).trans rfl,(aa (heap_alloc_new _ _) _).trans rfl⟩
 have Y:=Jh (aP.o aR ((ak.o.trans (ah.mono aG))) ⟨U,V⟩);cases W:p ⟨U,V⟩ with
 |true=>
  rw[W] at Y;have ad:=Jh W;have ae:=Jh ah;clear W ah;go_wp2_with fail;refine Y.o.mono ?_;rintro e a7 ⟨rfl,J⟩;have a8:=al J aS;have ba:=al J aU;have aq:=Jh (ak.o.trans ((ae.o.then J).mono aG));have Q:=Jh (T.o.below (ae.o.then J));have ai:y<E.length:=Jw K.o;obtain⟨az,aH,e,be,aN,aO⟩:=ez Q.o.rd ai;obtain⟨rfl,rfl⟩:O=az/\0=aH:=by simpa using e
  simp only[bB] at aN aO;generalize E[y]=bl at aN aO;have bm:=Q.o.cell (y*2);have bn:=Q.o.cell (y*2+1);clear J e ai ao ap Y;go_wp2_with fail;go_roundw
  case rel=>
   have ai:y<E.length:=Jw K.o;have aY:=WL y E ⟨U,V⟩ ai;have X:D<xs.length:=by rw[H.o];exact aD
   obtain⟨aZ,a1⟩:=IZ ai aM ax.o av.o X (am.o X) ad.o;have aW:=qu (p:=p) X (by rw[am.o];exact ad.o);exact⟨y+1,D+1,E.set y ⟨U,V⟩,by go_num,by go_num,Jo,Jo,by rw[fk,K.o],by rw[aW,ab,<-au.o];rfl,aZ,a1,by rw[<-aY];exact((Q.o.store _).store _),((aq.o.setCell (p:=(Jp O (y*2))) aB _).setCell (p:=(Jp O (y*2+1))) aB _)⟩
  simp[intOf];omega
 |false=>
  rw[W] at Y;have ad:=Jh W;have ae:=Jh ah;clear W ah;go_wp2_with (go_at_fn f;refine Y.o.mono ?_;rintro e a7 ⟨rfl,J⟩);have aq:=Jh (ak.o.trans ((ae.o.then J).mono aG));have Q:=Jh (T.o.below (ae.o.then J));clear J;go_wp2_with fail;go_roundw
  case rel=>exact⟨y,D+1,E,rfl,by go_num,Jo,Jo,K.o,by rw[oy (by rw[H.o];exact aD) (by rw[am.o];exact ad.o)];exact au.o,by rw[oy (by rw[H.o];exact aD) (by rw[am.o];exact ad.o)];exact ax.o,by rw[<-bR,av.o,bR],Q.o,aq.o⟩
  simp[intOf];omega
theorem qA:(prog.info? 113).map (λi=>(i.zero,i.size,i.bytes))=some (some (.agg #[Ji 0,Ji 0]),2,16):=Jk
theorem BK {xs:List ar}:∀u∈xs.flatMap ay,u.oneCell'=true:=λu D=>by
 obtain⟨E,-,y⟩:=List.mem_flatMap.1 D;simp only[ay,dh,di,or_false] at y;rcases y with rfl|rfl<;>rfl
def TI (H:Nat)(w:JW)(xs aa:List ar)(X Y Z:Value)(wr:JW):Prop:=∃(K M W:List ar)(E D y:Nat)(O:JA)(U:Nat)(Q:JA)(V:Nat)(T:JA)(J:Nat),
 X= .slice O E U/\Y= .slice Q D V/\Z= .slice T y J/\K.length=E/\M.length=D/\E<=U/\D<=V/\cG kS xs aa=W ++ cG kS K M/\y+E+D<=200000/\y<=J/\
 Rd w 2 O E (K.flatMap ay)/\Rd w 2 Q D (M.flatMap ay)/\bP (λU=>U<H) 113 2 (.slice T y J) y (W.flatMap ay) wr/\Below H w wr/\H<=wr.heap.size
theorem Gy (A:JA)(n ca:Nat)(xs:List ar)(B:JA)(m bf:Nat)(aK:List ar)(w:JW)(hA:Rd w 2 A n (xs.flatMap ay))(bR:xs.length=n)(b4:n<=ca)(hB:Rd w 2 B m (aK.flatMap ay))(bQ:aK.length=m)(b5:m<=bf)(cc:n+m<=100000):
 JC 234 #[.slice A n ca,.slice B m bf,.func (.func 129) #[] #[]] w λe w'=>∃aL k aB,e= .returned (.slice aL k aB)/\k=(cG kS xs aK).length/\k<=aB/\
  bP (λj=>j<w.heap.size) 113 2 (.slice aL k aB) k ((cG kS xs aK).flatMap ay) w'/\Below w.heap.size w w':=by
 obtain⟨y,ah⟩:=Je w.heap.size;have bU:=Jh hA;have bV:=Jh hB;have bZ:=Jh bR;have bY:=Jh bQ;have V:IntKind.i64.wrap ((n:Int)+(m:Int))=((n+m:Nat):Int):=by rw[bC _ Jo];omega
 obtain⟨b6,E,K,M,O⟩:=info_parts qA;clear hA hB bR bQ;go_enter Tryz.func234,Tryz.ntmps234;go_wp2_with (at_make;refine wpList_make_own w rfl _ _ _ rfl 0 113 b6 _ 2 underlying66 E K M .i64 .i64 _ (n+m) rfl rfl Js (by rw[O];omega) Jm (bj _) ?_;intro b7 H D);have J:TI y w xs aK (.slice A n ca) (.slice B m bf) (.slice (some (Jp y 0)) 0 (n+m)) b7:=by
  refine⟨xs,aK,[],n,m,0,A,ca,B,bf,_,_,rfl,rfl,rfl,bZ.o,bY.o,b4,b5,Js,Jo,Jo,bU.o,bV.o,⟨by rw[<-ah];exact H,?_⟩,D.below' ah,by rw[<-ah];exact D.size⟩;intro Q U W;have:y=Q:=by simpa [aG] using U
  omega
 have bW:=Jh J;clear J H D E K M O V;try simp only[ah]
 go_loopw [0,1,7] (λD E H wr=>TI y w xs aK D E H wr) (λD E _ _=>qR D+qR E)
 case atStart=>exact bW.o
 obtain⟨az,aa,bg,ae,aS,k,bS,bH,bT,bI,aL,aB,rfl,rfl,rfl,aY,aX,bL,bM,bh,bA,bx,a7,a8,bw,aQ,bz⟩:=hrel;have bq:=Jh bh;have Y:=Jh bA;have bo:=Jh bw;have bm:=Jh aQ;have bE:=Jh bz;have b8:=Jh bx;by_cases bO:0<ae/\0<aS;rotate_left
 ·have K:=Jh (show cG kS xs aK=bg ++ az ++ aa by
   rw[bh,au];by_cases aC:ae=0
   ·obtain rfl:=List.length_eq_zero_iff.1 (aY.trans aC);rw[mc,bi]
   obtain rfl:=List.length_eq_zero_iff.1 (aX.trans (by omega:aS=0));rw[me,cV])
  have br:=Jh a7;have bt:=Jh a8;have X:=Jh aY;have W:=Jh aX;have U:gm (λj=>j<y) wr:=λj M=>by have bv:j<y:=M;omega
  have H:decide (0<ae)=false∨(decide (0<ae)=true/\decide (0<aS)=false):=by
   by_cases aC:0<ae
   ·exact .inr ⟨decide_eq_true Jo,decide_eq_false Jo⟩
   exact .inl (decide_eq_false Jo)
  clear bO bh aY aX a7 a8 bw aQ bz bx bA;rcases H with H|⟨H,ak⟩;all_goals
   go_wp2_with (at_builtin;first
    |(refine cX rfl (.tmp 53) (.tmp 54) 66 Jr 113 (.agg #[Ji 0,Ji 0]) 2 16 underlying66 qA rfl Jd (λj=>j<y) k _ (.slice aL k aB) _ bo.o Jr U bS ae bH _ Jr (br.o.below (by rw[ah];exact bm.o)) BK (by have:=Y.o;unfold maxLen;omega) (Jw Y.o) ?_;intro bB am Q J aR aP;obtain⟨aM,aO,rfl⟩:=Q.form;have af:=Jh Q;have aj:gm (λj=>j<y) am:=U.mono J.size;have aA:=Jh (bm.o.trans (J.below λj M=>M));clear aR aP Q J)
    |(go_must (refine cX rfl (.tmp 55) (.tmp 56) 66 Jr 113 (.agg #[Ji 0,Ji 0]) 2 16 underlying66 qA rfl Jd (λj=>j<y) (k+ae) _ (.slice aM (k+ae) aO) _ af.o Jr aj bT aS bI _ Jr (bt.o.below (by rw[ah];exact aA.o)) BK (by have:=Y.o;unfold maxLen;omega) (Jw Y.o) ?_;intro ap aq E V ai ad;obtain⟨Z,ac,rfl⟩:=E.form;have D:=Jh E;have O:=Jh (aA.o.trans (V.below λj M=>M));clear ai ad E V)))
   go_ret;refine⟨Z,k+ae+aS,ac,rfl,?_,gA D.o,?_,by first|exact O.o|(rw[ah];exact O.o)⟩
   ·rw[K.o,ab,ab,X.o,W.o];have:=bo.o.1.1;rw[de dy] at this;omega
   rw[K.o,ao,ao];first|exact D.o|(rw[ah];exact D.o)
 obtain⟨aH,av,rfl⟩:∃aH av,az=aH :: av:=by cases az with
  |nil=>simp at aY;omega
  |cons aH av=>exact⟨aH,av,rfl⟩
 obtain⟨aI,aw,rfl⟩:∃aI aw,aa=aI :: aw:=by cases aa with
  |nil=>simp at aX;omega
  |cons aI aw=>exact⟨aI,aw,rfl⟩
 obtain⟨aj,rfl⟩:∃aj,ae=aj+1:=⟨ae - 1,Jo⟩;obtain⟨ai,rfl⟩:∃ai,aS=ai+1:=⟨aS - 1,Jo⟩;obtain⟨aF,aT⟩:=KQ aH aI;have br:=Jh a7;have bt:=Jh a8;obtain⟨aV,J⟩:=Je (bK aH.T aI.T);have aZ:=λD:JW=>(wZ aH aI D);rw[J] at aF aT;simp only[J] at aZ;obtain⟨ap,aq⟩:=aH;obtain⟨W,ak,rfl,D,K,O⟩:=Rd.head (C:=2) (cs:=ay ⟨ap,aq⟩) (r:=av.flatMap ay) (n:=aj) (by simpa using a7) rfl;rw[ah] at D;have bX:=Jh (show W<y from D);have ba:wr.cell? (Jp W ak)=some (Ji ap):=gi aQ D (K 0 _ rfl);have az:wr.cell? (Jp W (ak+1))=some (Ji aq):=gi aQ D (K 1 _ rfl);obtain⟨U,V⟩:=aI;obtain⟨H,Z,rfl,E,M,Q⟩:=Rd.head (C:=2) (cs:=ay ⟨U,V⟩) (r:=aw.flatMap ay) (n:=ai) (by simpa using a8) rfl;rw[ah] at E;have bD:=Jh (show H<y from E);have aJ:wr.cell? (Jp H Z)=some (Ji U):=gi aQ E (M 0 _ rfl);have aa:wr.cell? (Jp H (Z+1))=some (Ji V):=gi aQ E (M 1 _ rfl);have aZ:=Jh aZ;have bb:=Jh bL;have bc:=Jh bM;have bd:=Jh (show av.length=aj by simpa using aY);have be:=Jh (show aw.length=ai by simpa using aX);have cd:(0:Int)<((aj+1:Nat):Int):=Jo;have ce:(0:Int)<((ai+1:Nat):Int):=Jo;clear aY aX bh bA bw aQ bz bx bO J bL bM;obtain⟨bk,b2⟩:∃bk:JA,(if bH=1 then some (Jp W ak) else some (Jp W (ak+2)))=bk:=⟨_,rfl⟩
 obtain⟨bl,b3⟩:∃bl:JA,(if bI=1 then some (Jp H Z) else some (Jp H (Z+2)))=bl:=⟨_,rfl⟩;have bF:=Jh (show Rd w 2 bk aj (av.flatMap ay) from lQ O bb.o bd.o b2);have bG:=Jh (show Rd w 2 bl ai (aw.flatMap ay) from lQ Q bc.o be.o b3);have u1:(1:Int)<=(aj:Int)+1:=Jo;have u2:(1:Int)<=(ai:Int)+1:=Jo;clear O Q K M a7 a8 D E;go_wp2_with fail;have E:∀w',Below wr.heap.size wr w'->w'.cell? (Jp W ak)=some (Ji ap)/\w'.cell? (Jp W (ak+1))=some (Ji aq)/\w'.cell? (Jp H Z)=some (Ji U)/\w'.cell? (Jp H (Z+1))=some (Ji V):=λw' O=>⟨al O ba,al O az,al O aJ,al O aa⟩;have D:=Jh E;clear E;go_region_held (λw'=>Below wr.heap.size wr w'/\w'.cell? (Jp W ak)=some (Ji ap)/\w'.cell? (Jp W (ak+1))=some (Ji aq)/\w'.cell? (Jp H Z)=some (Ji U)/\w'.cell? (Jp H (Z+1))=some (Ji V))
  (first|exact⟨(ag _ _).drew,D.o _ (ag _ _).drew⟩|assumption|exact⟨Below.h (by assumption),D.o _ (Below.h (by assumption))⟩)
  (first
   |(go_at_call 129;refine(aZ.o _).mono ?_;rintro e E ⟨rfl,aW⟩)
   |(go_at_fn 129;refine(aZ.o _).mono ?_;rintro e E ⟨rfl,aW⟩))
 have ax:=Jh (show y<=E.heap.size by have:=aW.h.size;have:=bE.o;omega);have bn:=Jh (bm.o.trans (aW.h.mono bE.o));have bp:=Jh (bo.o.below aW.h);obtain⟨ba,az,aJ,aa⟩:=D.o _ aW.h;clear aW D;have b9:=Jh aF;have cb:=Jh aT;by_cases aN:aV<0
 ·have D:=aF.1 aN;have a1:=Jh D;have b0:decide (aV<0)=true:=decide_eq_true aN;clear aF aT D;go_wp2_with fail;refine wp_region_held_drew (S:=λw'=>w'.cell? (Jp W ak)=some (Ji ap)/\w'.cell? (Jp W (ak+1))=some (Ji aq)) Jk ?_ (λaD=>?_)
  ·exact⟨ba,az⟩
  refine JK 0 (h:=JK 1 (h:=JK 2 (h:=JK 3 (h:=JK 6 (h:=JK 7 (h:=?_))))));refine JN 4 (h:=λac K=>?_);go_simp;have D:Below E.heap.size E (E.drew.alloc (.cells #[Ji ap,Ji aq] 113)):=(Below.one E.drew (.cells #[Ji ap,Ji aq] 113)).h;refine K.out _ _ ⟨al D ba,al D az⟩ (λaD=>?_);clear K ac;try simp only[an,JY]
  refine JN 5 (h:=λac K=>?_);refine bN rfl (.tmp 33) (.tmp 37) 66 rfl 113 (.agg #[Ji 0,Ji 0]) 2 16 underlying66 qA rfl Jd (λj=>j<y) k _ (.slice aL k aB) _ (bp.o.below D) rfl (λj M=>by have bv:j<y:=M;have:=ax.o;simp;omega) _ 1 _ [Ji ap,Ji aq] rfl (jX E.drew _ _) (by intro X aE;simp at aE;rcases aE with rfl|rfl<;>rfl) (by have:=Y.o;unfold maxLen;omega) (Jw Y.o) ?_;intro bB am Q J aR aP;obtain⟨aM,aO,rfl⟩:=Q.form;have af:=Jh Q;have a6:=Jh (show y<=am.heap.size by have aC:=J.size;have bJ:=ax.o;simp at aC;omega);have aA:=Jh ((bn.o.trans (D.mono ax.o)).trans (J.below λj M=>M));have ad:∀(j:Nat)(X:Value),E.cell? (Jp W j)=some X->am.cell? (Jp W j)=some X:=λj X O=>by
   rw[<-al D O];unfold dL;rw[J.block W bX.o];rfl
  refine K.out _ _ ⟨ad _ _ ba,ad _ _ az⟩ (λaD=>?_);clear K ac aR aP Q J ad D;try simp only[an,JY]
  refine JK 8 (h:=JK 9 (h:=?_));refine wpAnyH_done Jk ?_ _;go_wp2_with fail;go_roundw
  case rel=>exact⟨av,⟨U,V⟩ :: aw,bg ++ [⟨ap,aq⟩],aj,ai+1,k+1,_,_,_,_,aM,aO,rfl,rfl,rfl,bd.o,by simp[be.o],Jw bb.o,bc.o,by rw[bq.o,cG,if_pos a1.o,au];rfl,Jw Y.o,gA af.o,bF.o,bt.o,by rw[ao];simpa [ay] using af.o,aA.o,a6.o⟩
  simp[qR]
 have b0:decide (aV<0)=false:=decide_eq_false aN;by_cases aU:aV=0
 ·have a1:=Jh (aT.1 aU);have bu:=Jh (λO=>aN (aF.2 O));have b1:(aV == 0)=true:=by simpa using aU
  clear aF aT aN aU;go_wp2_with fail;refine wp_region_held_drew (S:=λw'=>w'.cell? (Jp H Z)=some (Ji U)/\w'.cell? (Jp H (Z+1))=some (Ji V)) Jk ?_ (λaD=>?_)
  ·exact⟨aJ,aa⟩
  refine JK 0 (h:=JK 1 (h:=JK 2 (h:=JK 3 (h:=JK 6 (h:=JK 7 (h:=?_))))));refine JN 4 (h:=λac K=>?_);go_simp;have D:Below E.heap.size E (E.drew.alloc (.cells #[Ji U,Ji V] 113)):=(Below.one E.drew (.cells #[Ji U,Ji V] 113)).h;refine K.out _ _ ⟨al D aJ,al D aa⟩ (λaD=>?_);clear K ac;try simp only[an,JY]
  refine JN 5 (h:=λac K=>?_);refine bN rfl (.tmp 45) (.tmp 49) 66 rfl 113 (.agg #[Ji 0,Ji 0]) 2 16 underlying66 qA rfl Jd (λj=>j<y) k _ (.slice aL k aB) _ (bp.o.below D) rfl (λj M=>by have bv:j<y:=M;have:=ax.o;simp;omega) _ 1 _ [Ji U,Ji V] rfl (jX E.drew _ _) (by intro X aE;simp at aE;rcases aE with rfl|rfl<;>rfl) (by have:=Y.o;unfold maxLen;omega) (Jw Y.o) ?_;intro bB am Q J aR aP;obtain⟨aM,aO,rfl⟩:=Q.form;have af:=Jh Q;have a6:=Jh (show y<=am.heap.size by have aC:=J.size;have bJ:=ax.o;simp at aC;omega);have aA:=Jh ((bn.o.trans (D.mono ax.o)).trans (J.below λj M=>M));have ad:∀(j:Nat)(X:Value),E.cell? (Jp H j)=some X->am.cell? (Jp H j)=some X:=λj X O=>by
   rw[<-al D O];unfold dL;rw[J.block H bD.o];rfl
  refine K.out _ _ ⟨ad _ _ aJ,ad _ _ aa⟩ (λaD=>?_);clear K ac aR aP Q J ad D;try simp only[an,JY]
  refine JK 8 (h:=JK 9 (h:=?_));refine wpAnyH_done Jk ?_ _;go_wp2_with fail;go_roundw
  case rel=>exact⟨av,aw,bg ++ [⟨U,V⟩],aj,ai,k+1,_,_,_,_,aM,aO,rfl,rfl,rfl,bd.o,be.o,Jw bb.o,Jw bc.o,by rw[bq.o,cG,if_neg bu.o,if_pos a1.o,au];rfl,Jw Y.o,gA af.o,bF.o,bG.o,by rw[ao];simpa [ay] using af.o,aA.o,a6.o⟩
  simp[qR];omega
 have a1:=Jh (λO=>aU (aT.2 O));have bu:=Jh (λO=>aN (aF.2 O));have b1:(aV == 0)=false:=by simpa using aU
 clear aF aT aN aU;go_wp2_with fail;refine wp_region_held_drew (S:=λw'=>w'.cell? (Jp H Z)=some (Ji U)/\w'.cell? (Jp H (Z+1))=some (Ji V)) Jk ?_ (λaD=>?_)
 ·exact⟨aJ,aa⟩
 refine JK 0 (h:=JK 1 (h:=JK 2 (h:=JK 3 (h:=JK 6 (h:=JK 7 (h:=?_))))));refine JN 4 (h:=λac K=>?_);go_simp;have D:Below E.heap.size E (E.drew.alloc (.cells #[Ji U,Ji V] 113)):=(Below.one E.drew (.cells #[Ji U,Ji V] 113)).h;refine K.out _ _ ⟨al D aJ,al D aa⟩ (λaD=>?_);clear K ac;try simp only[an,JY]
 refine JN 5 (h:=λac K=>?_);refine bN rfl (.tmp 45) (.tmp 49) 66 rfl 113 (.agg #[Ji 0,Ji 0]) 2 16 underlying66 qA rfl Jd (λj=>j<y) k _ (.slice aL k aB) _ (bp.o.below D) rfl (λj M=>by have bv:j<y:=M;have:=ax.o;simp;omega) _ 1 _ [Ji U,Ji V] rfl (jX E.drew _ _) (by intro X aE;simp at aE;rcases aE with rfl|rfl<;>rfl) (by have:=Y.o;unfold maxLen;omega) (Jw Y.o) ?_;intro bB am Q J aR aP;obtain⟨aM,aO,rfl⟩:=Q.form;have af:=Jh Q;have a6:=Jh (show y<=am.heap.size by have aC:=J.size;have bJ:=ax.o;simp at aC;omega);have aA:=Jh ((bn.o.trans (D.mono ax.o)).trans (J.below λj M=>M));have ad:∀(j:Nat)(X:Value),E.cell? (Jp H j)=some X->am.cell? (Jp H j)=some X:=λj X O=>by
  rw[<-al D O];unfold dL;rw[J.block H bD.o];rfl
 refine K.out _ _ ⟨ad _ _ aJ,ad _ _ aa⟩ (λaD=>?_);clear K ac aR aP Q J ad D;try simp only[an,JY]
 refine JK 8 (h:=JK 9 (h:=?_));refine wpAnyH_done Jk ?_ _;go_wp2_with fail;go_roundw
 case rel=>exact⟨⟨ap,aq⟩ :: av,aw,bg ++ [⟨U,V⟩],aj+1,ai,k+1,_,_,_,_,aM,aO,rfl,rfl,rfl,by simp[bd.o],be.o,bb.o,Jw bc.o,by rw[bq.o,cG,if_neg bu.o,if_neg a1.o,au];rfl,Jw Y.o,gA af.o,br.o,bG.o,by rw[ao];simpa [ay] using af.o,aA.o,a6.o⟩
 simp[qR]
theorem xh (A:JA)(c n:Nat)(xs:List ar)(w:JW)(hr:Rd w 2 A n (xs.flatMap ay))(O:xs.length=n)(ae:n<=1000000):
 JC 125 #[.slice A n c] w λe w'=>∃H M,e= .returned (.slice H n M)/\bP (λk=>k<w.heap.size) 113 2 (.slice H n M) n (xs.flatMap ay) w'/\Jz w w':=by
 have K:=Jh hr;have V:=Jh O;clear hr O;cases A with
 |none=>
  have D:n=0:=by
   rcases dx n with y|y
   ·exact y
   obtain⟨E,J,e,-⟩:=K.o.2 y;cases e
  subst D;have y:xs=[]:=bu V.o;subst y;have ad:∀w,(binOp .eql 66 (.slice none 0 c) (Jn)).run prog w= .ok (.bool true) w:=λw=>fO w _ _ none 0 c 0 0 underlying66;go_enter Tryz.func125,Tryz.ntmps125;go_wp2_with fail;go_ret;exact⟨none,0,rfl,bP.nil _ _ _ _,ag _ _⟩
 |some D=>
  have ac:gm (λk=>k<w.heap.size) (w.alloc (.cells #[] 113)):=λk y=>by simp;omega
  have U:=Jh (bP.made (λk=>k<w.heap.size) w 113 2 (λk y=>y));have J:=Jh (Below.one w (.cells #[] 113));have W:=Jh (K.o.below J.o);have ad:∀w,(binOp .eql 66 (.slice (some D) n c) (Jn)).run prog w= .ok (.bool false) w:=λw=>fO w _ _ (some D) n c 0 0 underlying66;go_enter Tryz.func125,Tryz.ntmps125;go_wp2_with (at_builtin;go_must (refine cX rfl (.tmp 5) (.tmp 6) 66 Jr 113 (.agg #[Ji 0,Ji 0]) 2 16 underlying66 qA rfl Jd (λk=>k<w.heap.size) 0 [] _ _ U.o Jr ac (some D) n c (xs.flatMap ay) Jr W.o BK Jm Jo ?_);intro af ah E Q ab aa;have Y:=Jh E;have X:=Jh (J.o.trans (Q.below λk y=>y));obtain⟨T,Z,rfl⟩:=E.form;clear E Q ab aa);go_ret;exact⟨T,Z,rfl,by have:=Y.o;simpa using this,X.o⟩
def SF (x y:Int)(r:ar):Bool:=decide (x<=r.T) && decide (r.T<y)
theorem Fi (x E:Int)(r:ar)(b:Nat)(w:JW)(K:w.cell? (Jp b 0)=some (Ji x))(h1:w.cell? (Jp b 1)=some (Ji E)):
 JC 230 #[lj r,Jv b] w λe w'=>e= .returned (.bool (SF x E r))/\Below w.heap.size w w':=by
 obtain⟨D,J⟩:=r;unfold SF;dsimp only;have M:=bq w _ K;simp only at M;have Q:(w.alloc (.cells #[Ji D,Ji J] 113)).cell? (Jp b 0)=some (Ji x):=bO _ K;have T:(w.alloc (.cells #[Ji D,Ji J] 113)).cell? (Jp b 1)=some (Ji E):=bO _ h1;by_cases y:x<=D
 ·have H:decide (x<=D)=true:=decide_eq_true y;rw[H];clear y;by_cases y:D<E;all_goals
   first
   |rw[decide_eq_true y];have O:decide (D<E)=true:=decide_eq_true y
   |rw[decide_eq_false y];have O:decide (D<E)=false:=decide_eq_false y
   clear y;go_enter Tryz.func230,Tryz.ntmps230;go_wp2_with fail;go_ret;exact⟨rfl,Below.one _ _⟩
 have H:decide (x<=D)=false:=decide_eq_false y;rw[H];clear y;go_enter Tryz.func230,Tryz.ntmps230;go_wp2_with fail;go_ret;exact⟨rfl,Below.one _ _⟩
theorem SE (x D:Int)(b q:Nat)(r:ar)(w:JW)(J:w.cell? (Jp q 0)=some (.func (.func 230) #[] #[Jv b]))(M:w.cell? (Jp b 0)=some (Ji x))(h1:w.cell? (Jp b 1)=some (Ji D)):
 JC 126 #[lj r,Jv q] w λe w'=>e= .returned (.bool (!SF x D r))/\Below w.heap.size w w':=by
 obtain⟨E,H⟩:=r;have y:=Below.one w (.cells #[Ji E,Ji H] 113);have V:=al y J;have T:=bq w _ J;simp only at T;have K:=Jh (Fi x D ⟨E,H⟩ b _ (al y M) (al y h1));have Q:=Jh y;obtain⟨W,O⟩:=Je (SF x D ⟨E,H⟩);rw[O] at K ⊢;have U:∀(x:Bool)(w:JW),(Op.unary .not (.bool x)).run prog w= .ok (.bool (!x)) w:=λ_ _=>rfl;clear O J M h1 y;go_enter Tryz.func126,Tryz.ntmps126;go_wp2_with fail;refine K.o.mono ?_;rintro e X ⟨rfl,y⟩;have O:=Jh y;clear y;go_wp2_with fail;go_ret;exact⟨rfl,Q.o.then O.o⟩
theorem Fj (x E:Int)(w:JW):JC 123 #[.agg #[Ji x,Ji E]] w λe w'=>e= .returned (.func (.func 230) #[] #[Jv w.heap.size])/\w.alloc (.cells #[Ji x,Ji E] 30)=w':=by
 have H:∀(D:Fn)(first y:Array Value)(w:JW),(cO D first y).run prog w= .ok (.func D first y) w:=λ_ _ _ _=>rfl;go_enter Tryz.func123,Tryz.ntmps123;go_wp2_with fail;go_ret;exact⟨rfl,rfl⟩
theorem MY (x D:Int)(A:JA)(c n:Nat)(xs:List ar)(w:JW)(hr:Rd w 2 A n (xs.flatMap ay))(T:xs.length=n)(ao:n<=100000):
 JC 61 #[.slice A n c,.agg #[Ji x,Ji D]] w λe w'=>∃(U:JA)(k V:Nat),e= .returned (.slice U k V)/\k=(xs.filter (SF x D)).length/\bP (λk=>k<w.heap.size) 113 2 (.slice U k V) k ((xs.filter (SF x D)).flatMap ay) w'/\Below w.heap.size w w':=by
 obtain⟨y,H⟩:=Je w.heap.size;have au:∀(J:Fn)(first E:Array Value)(w:JW),(cO J first E).run prog w= .ok (.func J first E) w:=λ_ _ _ _=>rfl;obtain⟨E,M,K,Q,W,X⟩:∃E,((w.alloc (.cells #[Ji x,Ji D] 30)).alloc (.cells #[Ji x,Ji D] 30)).alloc (.cells #[.func (.func 230) #[] #[.pointer (some (Jp (y+1) 0))]] 254)=E/\Below y w E/\E.heap.size=y+3/\E.heap[y+1]?=some (.cells #[Ji x,Ji D] 30 (0,0))/\E.heap[y+2]?=some (.cells #[.func (.func 230) #[] #[.pointer (some (Jp (y+1) 0))]] 254 (0,0)):=by
  have J:=heap_alloc_new (w.alloc (.cells #[Ji x,Ji D] 30)) (.cells #[Ji x,Ji D] 30);have O:=heap_alloc_new ((w.alloc (.cells #[Ji x,Ji D] 30)).alloc (.cells #[Ji x,Ji D] 30)) (.cells #[.func (.func 230) #[] #[.pointer (some (Jp (y+1) 0))]] 254);simp only[aI,H,aV,bM] at J O;refine⟨_,rfl,?_,by simp[H],(aJ _ _ _ (by simp;omega)).trans J,O⟩;subst H;exact(((ag _ _).alloc (ac _) _).alloc Js _).alloc (by simp;omega) _
 have O:Below w.heap.size w E:=by rw[H];exact K
 have Z:=Jh (xh A c n xs E (hr.below O) T Jo);have ae:=Jh M;have ah:=Jh K;have J:=Jh Q;have ai:=Jh W;have aj:=Jh X;have ad:=Jh T;clear hr T M K Q W X O;go_enter Tryz.func61,Tryz.ntmps61;go_wp2_with (go_at_call 123;refine(Fj x D _).mono ?_;rintro e w' ⟨rfl,rfl⟩);try simp only[aI,H]
 try simp only[ae.o]
 go_wp2_with fail;refine Z.o.mono ?_;rintro e ap ⟨X,ak,rfl,O,K⟩;have Q:=(K.block (y+1) (Jw J.o)).trans ai.o;have W:=(K.block (y+2) (Jw J.o)).trans aj.o;have ab:=Jh (Du (SF x D) 126 (y+2) (y+3) X ak n xs ap (enters_of Tryz.func126 Jk rfl)
  (λY M af=>SE x D (y+1) (y+2) af Y ((aa ((M.block (y+2) Jo).trans W) 0).trans rfl) ((aa ((M.block (y+1) Jo).trans Q) 0).trans rfl) ((aa ((M.block (y+1) Jo).trans Q) 1).trans rfl))
  (Jx K.size J.o) (by rw[J.o] at O;exact O) ad.o ao)
 have af:=Jh K;clear O K Q W;go_wp2_with fail;refine ab.o.mono ?_;rintro e av ⟨W,k,al,rfl,O,K,M⟩;have Y:=Jh (Ja O (Ja K M));clear O K M;go_wp2_with fail;go_ret;obtain⟨O,K,M⟩:=Y.o;exact⟨W,k,al,rfl,O,K.shift λQ an am=>K.2 Q an (by have aq:Q<w.heap.size:=am;show Q<y+3;omega),by rw[H];exact ah.o.trans ((af.o.mono (Jw J.o)).trans (M.mono Jo))⟩
def cF (rows:List Row)(D:Int):List ar:=(rows.filter λy=>decide (y.ID=D)).map λy=>⟨y.T,y.V⟩
theorem ra (rows:List Row)(r:Row)(y:Int):cF (rows ++ [r]) y=cF rows y ++ (if r.ID=y then[⟨r.T,r.V⟩] else[]):=by
 unfold cF;rw[dV,cH];by_cases D:r.ID=y<;>simp[D]
theorem sd (rows:List Row)(y:Int):(cF rows y).length<=rows.length:=by
 unfold cF;rw[bU];exact fb _ _
theorem nD {rows:List Row}(h:Once kR rows)(y:Int):Once kS (cF rows y):=by
 unfold cF Once;rw[cS];refine List.Pairwise.imp_of_mem (λ{D E} J M K=>?_) (ie _ h);have H:D.ID=y:=by simpa using (List.mem_filter.1 J).2
 have J:E.ID=y:=by simpa using (List.mem_filter.1 M).2
 intro D;refine K ?_;simp only[kS,Prod.mk.injEq,and_true] at D;simp only[kR,Prod.mk.injEq];exact⟨D,by rw[H,J]⟩
theorem Cq (rows:List Row)(E t:Int):(kU kS (cF rows E) (t,0)).map (·.V)=vK rows E t:=by
 unfold vK;induction rows with
 |nil=>simp[cF,kU]
 |cons r rows H=>
  rw[ew];unfold cF at H ⊢;rw[ei];by_cases y:r.ID=E
  ·rw[if_pos (by simpa using y),bV,ew];by_cases D:r.T=t
   ·rw[if_pos (by simp[kS,D]),if_pos (by simp[kR,y,D])];rfl
   rw[if_neg (by simp[kS,D]),if_neg (by simp[kR,D])];exact H
  rw[if_neg (by simpa using y),if_neg (by simp[kR,y])];exact H
structure qh (rows:List Row) (more:List eP):Prop where
 up:Up kI more
 each:∀s∈more,Up kS s.L/\s.L.Perm (cF rows s.ID)/\s.L≠[]
 all:∀r∈rows,∃s∈more,s.ID=r.ID
theorem qh.can {rows:List Row}{D:List eP}(h:qh rows D):jP D:=⟨h.up,λE y=>⟨(h.each E y).1,(h.each E y).2.2⟩⟩
theorem qh.look {rows:List Row}{K:List eP}(h:qh rows K)(ho:Once kR rows)(y t:Int):wi K y t=vK rows y t:=by
 rw[<-Cq];unfold wi;cases M:kU kI K (y,0) with
 |none=>
  have H:cF rows y=[]:=by
   unfold cF;rw[List.map_eq_nil_iff,List.filter_eq_nil_iff];intro T Q O;obtain⟨D,J,E⟩:=h.all T Q;exact ke.1 M D J (by simp only[kI,E,Prod.mk.injEq,and_true];simpa using O)
  rw[H];rfl
 |some D=>
  obtain⟨J,E⟩:=jd M;have O:D.ID=y:=congrArg dQ E;obtain⟨-,H,-⟩:=h.each D J;rw[O] at H;rw[bW,NQ ((nD ho y).perm H.symm) H]
def iR (l:List eP)(s:eP):eP:=match kU kI l (kI s) with
 |none=>s
 |some y=>⟨s.ID,cG kS y.L s.L⟩
theorem Pf (l:List eP)(s:eP):(iR l s).ID=s.ID:=by
 unfold iR;split<;>rfl
theorem Ar {E:Type}{κ:E->Int × Int}(a b:List E)(h:b≠[]):cG κ a b≠[]:=by
 fun_induction cG κ a b with
 |case1 b=>exact h
 |case2 x a=>exact absurd rfl h
 |case3 x a y b h D=>simp
 |case4 x a y b h1 h2 D=>simp
 |case5 x a y b h1 h2 D=>simp
theorem RD {D:Type}{κ:D->Int × Int}(f:D->D)(E:∀x,κ (f x)=κ x)(l:List D)(k:Int × Int):kU κ (l.map f) k=(kU κ l k).map f:=by
 induction l with
 |nil=>rfl
 |cons x l H=>
  rw[bV,ew,ew,E];by_cases y:κ x=k
  ·rw[if_pos y,if_pos y];rfl
  rw[if_neg y,if_neg y];exact H
theorem Td {l E:List eP}{rows:List Row}(H:jP l)(T:jP E)(aa:∀K t,wi E K t=vK rows K t):jV l rows (cG kI l (E.map (iR l))):=by
 have Q:∀y,kI (iR l y)=kI y:=λy=>by simp[kI,Pf]
 have V:Up kI (E.map (iR l)):=by
  unfold Up;rw[cS];exact cQ (λ{ac ad} X=>by rw[Q,Q];exact X) T.up
 have Z:∀y∈E,Up kS (iR l y).L/\(iR l y).L≠[]:=λy J=>by
  obtain⟨D,M⟩:=T.each y J;unfold iR;split
  ·exact⟨D,M⟩
  rename_i U W;exact⟨(H.each U (jd W).1).1.merge D,Ar _ _ M⟩
 refine⟨⟨H.up.merge V,λy J=>?_⟩,λK t=>?_⟩
 ·rcases mem_merge _ _ y J with O|O
  ·exact H.each y O
  obtain⟨ab,D,rfl⟩:=List.mem_map.1 O;exact Z ab D
 rw[<-aa];unfold wi;rw[ui H.up V,RD _ Q];cases D:kU kI E (K,0) with
 |none=>simp
 |some y=>
  obtain⟨J,Y⟩:=jd D;rw[eO,Option.some_or,bW,bW];unfold iR;rw[Y];cases M:kU kI l (K,0) with
  |none=>simp
  |some U=>
   rw[bW];simp only;rw[ui (H.each U (jd M).1).1 (T.each y J).1];all_goals (cases kU kS y.L (t,0)<;>rfl)
structure ow (g:Nat) (w w':JW):Prop where
 os:w'.os=w.os
 tape:w'.tape=w.tape
 output:w'.output=w.output
 size:w.heap.size<=w'.heap.size
 block:∀k,k<w.heap.size->k≠g->w'.heap[k]?=w.heap[k]?
theorem ow.below {g B:Nat}{w w':JW}(h:ow g w w')(D:B<=g)(hB:B<=w.heap.size):Below B w w':=⟨h.os,h.tape,h.output,h.size,λy E=>h.block y Jo Jo⟩
theorem ow.refl (g:Nat)(w:JW):ow g w w:=⟨rfl,rfl,rfl,ac _,λ_ _ _=>rfl⟩
theorem ow.trans {g:Nat}{a b c:JW}(h:ow g a b)(k:ow g b c):ow g a c:=
 ⟨k.os.trans h.os,k.tape.trans h.tape,k.output.trans h.output,ap h.size k.size,λE D y=>(k.block E (ai D h.size) y).trans (h.block E D y)⟩
theorem ow.of {g:Nat}{w w':JW}(h:Jz w w'):ow g w w':=⟨h.os,h.tape,h.output,h.size,λD y _=>h.block D y⟩
section
variable {α:Type} [Inhabited α] {enc:α->List Value} {k n c g:Nat} {T:TypeId} {R:Nat->Prop} {ys:List α} {w:JW}
theorem flat_get (D:∀x,(enc x).length=k)(M:0<k)(y:List α)(j:Nat)(J:j<y.length*k):(y.flatMap enc)[j]?=some (Sort.flatK enc k y.toArray)[j]! :=by
 have H:j / k<y.length:=Nat.div_lt_of_lt_mul (by rw[dj];exact J);have E:=dX j M;rw[Sort.get_flatK _ _ _ j (by simpa using J)]
 conv=>lhs;rw[show j=j / k*k+j % k by rw[dj];exact(jm j k).symm]
 rw[qE D y _ _ E,aT H,bW,aT (by rw[D];exact E)];congr 1;have K:y.toArray[j / k]! =y[j / k]:=by simp[H]
 rw[K,getElem!_pos (enc y[j / k]) (j % k) (by rw[D];exact E)]
theorem bP.holds (h:bP R T k (.slice (some (Jp g 0)) n c) n (ys.flatMap enc) w)(Q:∀x,(enc x).length=k)(V:0<k)(U:ys.length=n):Sort.HoldsK enc k w g 0 ys.toArray:=by
 intro H J;rw[Sort.size_flatK] at J;have E:H<ys.length*k:=by simpa using J
 refine⟨?_,?_⟩
 ·have D:=flat_get Q V ys H E;have M:=(h.rd.2 (by rw[<-U];exact Nat.pos_of_ne_zero λy=>by rw[y] at E;simp at E));obtain⟨K,W,y,-,O⟩:=M;obtain⟨rfl,rfl⟩:g=K/\0=W:=by simpa using y
  exact O H _ D
 rcases h.1.2 with⟨D,_⟩|⟨W,M,O,y,X,K,Z,Y,aa,ab⟩
 ·simp at D
 simp only[Value.slice.injEq,Option.some.injEq,Addr.mk.injEq] at y;obtain⟨⟨rfl,_,_⟩,_,rfl⟩:=y;exact aW K _
theorem bP.sorted (h:bP R T k (.slice (some (Jp g 0)) n c) n (ys.flatMap enc) w)(M:∀x,(enc x).length=k)(ag:0<k)(d:Array α)(H:d.size=n)(m:Nat)(E:Array Obj):
 bP R T k (.slice (some (Jp g 0)) n c) n (d.toList.flatMap enc) (sortWorldK enc k w g 0 m d E)/\ow g w (sortWorldK enc k w g 0 m d E):=by
 rcases h.1.2 with⟨Y,_⟩|⟨aj,ah,O,W,Z,Q,U,ae,V,ak⟩
 ·simp at Y
 simp only[Value.slice.injEq,Option.some.injEq,Addr.mk.injEq] at W;obtain⟨⟨rfl,_,_⟩,_,rfl⟩:=W;have ad:=(Jl Q);have X:∀y,y<w.heap.size->(sortWorldK enc k w g 0 m d E).heap[y]?=(Sort.putRowK enc k w g 0 d).heap[y]?:=by
  intro y K;show((Sort.putRowK enc k w g 0 d).heap ++ E)[y]?=_;rw[Array.getElem?_append_left (by unfold Sort.putRowK;simpa using K)]
 refine⟨⟨⟨by rw[de M,dM,H],.inr ⟨g,c,Sort.putCells id 0 (Sort.flatK enc k d) O,rfl,Z,?_,U,ae,by simp[Sort.putCells,V],?_⟩⟩,h.2⟩,rfl,rfl,rfl,?_,λy K af=>?_⟩
 ·rw[X g ad];simp[Sort.putRowK,Sort.putRow,Sort.mapBlock,Sort.onCells,aA,Q]
 ·refine List.ext_getElem? λD=>?_;by_cases J:D<n*k
  ·have ab:D<d.toList.length*k:=by rw[dM,H];exact J
   have aa:D<O.size:=by rw[V];exact ai J (dP _ U)
   rw[flat_get M ag d.toList D ab,List.getElem?_take_of_lt J];have ac:D<d.size*k:=by rw[H];exact J
   simp[Sort.putCells,aa,ac]
  rw[gW (by rw[aF];omega),gW (by rw[de M,dM,H];omega)]
 ·show _<=((Sort.putRowK enc k w g 0 d).heap ++ E).size;unfold Sort.putRowK;simp
 rw[X y K];simp[Sort.putRowK,Sort.putRow,Sort.mapBlock,aA,fV af]
end
structure mo where
 id:Int
 g:Nat
 c:Nat
 xs:List ar
def mo.val (e:mo):Value:=.slice (some ⟨e.g,0,none⟩) e.xs.length e.c
def uf (B:Nat)(G:List mo)(i:Int)(j:Nat):Prop:=j<B∨∃y∈G,y.id≠i/\y.g=j
structure iV (B:Nat) (G:List mo) (w:JW):Prop where
 once:G.Pairwise λa b=>a.id≠b.id
 at_:∀e∈G,bP (uf B G e.id) 113 2 e.val e.xs.length (e.xs.flatMap ay) w
def pR:Lit->Option Int
 | .int .i64 y=>some y
 |_=>none
theorem kN {k:Lit}{i:Int}(h:pR k=some i):k= .int .i64 i:=by
 unfold pR at h;split at h
 ·rw[Option.some.inj h]
 cases h
def qT (G:List mo)(k:Lit):Option Value:=(pR k).bind λD=>(G.find? λy=>decide (y.id=D)).map mo.val
def oq (G:List mo)(i:Int):List ar:=((G.find? λy=>decide (y.id=i)).map mo.xs).getD []
def GG (G:List mo)(i:Int)(g c:Nat)(x:ar):List mo:=⟨i,g,c,oq G i ++ [x]⟩ :: G.filter λy=>decide (y.id≠i)
theorem iV.nil (B:Nat)(w:JW):iV B [] w:=⟨cj,Js⟩
theorem Pz:qT []=λ_=>none:=by
 funext k;unfold qT;all_goals (cases pR k<;>rfl)
theorem xW (G:List mo)(i:Int):qT G (.int .i64 i)=(G.find? λe=>decide (e.id=i)).map mo.val:=rfl
section
variable {B:Nat} {G:List mo} {w w':JW}
theorem iV.look (h:iV B G w)(i:Int):∃v0,(qT G (.int .i64 i)).getD (.slice none 0 0)=v0/\bP (uf B G i) 113 2 v0 (oq G i).length ((oq G i).flatMap ay) w:=by
 refine⟨_,rfl,?_⟩;rw[xW];unfold oq;cases D:G.find? λy=>decide (y.id=i) with
 |none=>exact bP.nil _ _ _ _
 |some y=>
  have H:=cL D;have E:y.id=i:=by simpa using eN D
  have:=h.at_ y H;rw[E] at this;exact this
theorem PC (i:Int)(g c:Nat)(x:ar)(k:Lit):qT (GG G i g c x) k=od (qT G) (.int .i64 i) (.slice (some ⟨g,0,none⟩) ((oq G i).length+1) c) k:=by
 unfold od;by_cases D:k= .int .i64 i
 ·rw[if_pos D,D,xW];unfold GG;simp[mo.val]
 rw[if_neg D];unfold qT;cases M:pR k with
 |none=>rfl
 |some J=>
  have H:J≠i:=λy=>D (by rw[<-y];exact kN M);rw[bW,bW];congr 1;unfold GG;rw[List.find?_cons,decide_eq_false (fV H)];simp only;rw[List.find?_filter];congr 1;funext y;by_cases E:y.id=J
  ·have:y.id≠i:=λK=>H (by rw[<-E,K]);simp[E,H]
  simp[E]
theorem iV.put (h:iV B G w){i:Int}{g c:Nat}{x:ar}(Q:bP (uf B G i) 113 2 (.slice (some ⟨g,0,none⟩) ((oq G i).length+1) c) ((oq G i).length+1) ((oq G i).flatMap ay ++ [.int .i64 x.T,.int .i64 x.V]) w')
 (aa:∀j,uf B G i j->w'.heap[j]?=w.heap[j]?):iV B (GG G i g c x) w':=by
 have Z:g∉(G.filter λy=>decide (y.id≠i)).map mo.g:=by
  intro H;obtain⟨y,E,M⟩:=List.mem_map.1 H;obtain⟨D,O⟩:=List.mem_filter.1 E;exact Q.2 g rfl (.inr ⟨y,D,by simpa using O,M⟩)
 refine⟨List.pairwise_cons.2 ⟨λy E=>?_,ie _ h.once⟩,λy E=>?_⟩
 ·have:=(List.mem_filter.1 E).2;simp only[decide_eq_true_eq] at this;exact fV this
 rcases List.mem_cons.1 E with rfl|E
 ·have X:((oq G i ++ [x]).flatMap ay)=(oq G i).flatMap ay ++ [.int .i64 x.T,.int .i64 x.V]:=by simp[ay]
  have Y:(oq G i ++ [x]).length=(oq G i).length+1:=Js;simp only[mo.val,X,Y];refine Q.shift λj H J=>?_;rcases J with J|⟨U,K,W,M⟩
  ·exact Q.2 j H (.inl J)
  rcases List.mem_cons.1 K with rfl|K
  ·exact W rfl
  obtain⟨D,O⟩:=List.mem_filter.1 K;exact Q.2 j H (.inr ⟨U,D,by simpa using O,M⟩)
 obtain⟨D,O⟩:=List.mem_filter.1 E;have X:y.id≠i:=by simpa using O
 refine((h.at_ y D).later λj H=>aa j (.inr ⟨y,D,X,by simpa [mo.val,aG] using H⟩)).shift λj H J=>?_;have Y:y.g=j:=by simpa [mo.val,aG] using H
 rcases J with J|⟨U,K,W,M⟩
 ·exact(h.at_ y D).2 j H (.inl J)
 rcases List.mem_cons.1 K with rfl|K
 ·exact Z (List.mem_map.2 ⟨y,E,by rw[Y];exact M.symm⟩)
 exact(h.at_ y D).2 j H (.inr ⟨U,(List.mem_filter.1 K).1,W,M⟩)
theorem iV.below (h:iV B G w)(D:Jz w w'):iV B G w':=⟨h.once,λy E=>(h.at_ y E).below D⟩
theorem iV.old (h:iV B G w)(hB:B<=w.heap.size)(i:Int):gm (uf B G i) w:=λH D=>by
 rcases D with D|⟨y,E,-,rfl⟩
 ·omega
 exact((h.at_ y E).1.lt y.g rfl).2
theorem iV.kept (h:iV B G w)(E:∀j,(∃e∈G,e.g=j)->w'.heap[j]?=w.heap[j]?):iV B G w':=⟨h.once,λe y=>(h.at_ e y).later λj D=>E j ⟨e,y,by simpa [mo.val,aG] using D⟩⟩
end
def vD (G:List mo)(D:Int->List ar):List mo:=G.map λy=>{y with xs:=D y.id}
theorem KU {G:List mo}{y:Int->List ar}(h:∀e∈G,y e.id=e.xs):vD G y=G:=by
 unfold vD
 conv=>rhs;rw[<-List.map_id G]
 exact gw λe D=>by rw[h e D];rfl
theorem FU (B:Nat)(G:List mo)(K:Int->List ar)(i:Int)(j:Nat):uf B (vD G K) i j↔uf B G i j:=by
 unfold uf vD;constructor
 ·rintro (y|⟨J,H,D,E⟩)
  ·exact .inl y
  obtain⟨M,O,rfl⟩:=List.mem_map.1 H;exact .inr ⟨M,O,D,E⟩
 rintro (y|⟨J,H,D,E⟩)
 ·exact .inl y
 exact .inr ⟨_,List.mem_map.2 ⟨J,H,rfl⟩,D,E⟩
theorem iV.cur {B:Nat}{G:List mo}{D:Int->List ar}{w:JW}(h:iV B (vD G D) w){e:mo}(H:e∈G)(K:(D e.id).length=e.xs.length):
 bP (uf B G e.id) 113 2 e.val e.xs.length ((D e.id).flatMap ay) w:=by
 have y:=h.at_ _ (List.mem_map.2 ⟨e,H,rfl⟩);simp only[mo.val] at y;rw[K] at y;exact y.shift λM J E=>y.2 M J ((FU ..).2 E)
theorem PX {G:List mo}(U:G.Pairwise λa b=>a.id≠b.id){f e:mo}(W:f∈G)(V:e∈G)(O:f.id=e.id):f=e:=by
 obtain⟨H,M,y⟩:=bz W;obtain⟨J,T,D⟩:=bz V;by_cases Q:H=J
 ·subst Q;rw[<-y,<-D]
 have K:=List.pairwise_iff_getElem.1 U;rcases Nat.lt_or_gt_of_ne Q with E|E
 ·exact absurd (by rw[y,D];exact O) (K H J M T E)
 exact absurd (by rw[y,D];exact O.symm) (K J H T M E)
open Classical in
noncomputable def ET (D:Int->List ar)(i:Int)(E:List ar):Int->List ar:=λy=>if y=i then E else D y
theorem iV.ET {B:Nat}{G:List mo}{J:Int->List ar}{w w':JW}(h:iV B (vD G J) w)(T:G.Pairwise λa b=>a.id≠b.id){e:mo}(W:e∈G){H:List ar}(Z:H.length=e.xs.length)
 (V:bP (uf B G e.id) 113 2 e.val e.xs.length (H.flatMap ay) w') (Y:∀f∈G,f.id≠e.id->w'.heap[f.g]?=w.heap[f.g]?):iV B (vD G (Go.Proofs.YtibmlemoghcbkaaGreatDoor.ET J e.id H)) w':=by
 refine⟨?_,λf y=>?_⟩
 ·unfold vD;rw[cS];exact T
 obtain⟨D,M,rfl⟩:=List.mem_map.1 y;have X:D.id=e.id->D=e:=PX T M W;have U:∀E y,uf B (vD G (Go.Proofs.YtibmlemoghcbkaaGreatDoor.ET J e.id H)) E y->uf B G E y:=λE y=>(FU ..).1;by_cases O:D.id=e.id
 ·obtain rfl:=X O;simp only[mo.val,Go.Proofs.YtibmlemoghcbkaaGreatDoor.ET,if_true];rw[Z];exact V.shift λy E Q=>V.2 y E (U _ _ Q)
 have K:=h.at_ _ (List.mem_map.2 ⟨D,M,rfl⟩);simp only[mo.val,Go.Proofs.YtibmlemoghcbkaaGreatDoor.ET,if_neg O] at K ⊢;refine(K.later λy E=>?_).shift λy E Q=>K.2 y E ((FU ..).2 (U _ _ Q));obtain rfl:D.g=y:=by simpa [aG] using E
 exact Y D M O
theorem iV.VP {B:Nat}{G:List mo}{y:Int->List ar}{w:JW}(h:iV B (vD G y) w):G.Pairwise λa b=>a.id≠b.id:=by
 have:=h.once;unfold vD at this
 rwa [cS] at this
theorem Py {G:List mo}{k:Lit}{v:Value}(h:qT G k=some v):∃e∈G,k= .int .i64 e.id/\v=e.val:=by
 unfold qT at h;cases D:pR k with
 |none=>rw[D] at h;cases h
 |some E=>
  rw[D,bW] at h;cases y:G.find? λe=>decide (e.id=E) with
  |none=>rw[y] at h;cases h
  |some e=>
   rw[y] at h;refine⟨e,cL y,?_,(Option.some.inj h).symm⟩;have H:e.id=E:=by simpa using eN y
   rw[H];exact kN D
theorem Ej {G:List mo}{e:mo}(h:e∈G):(qT G (.int .i64 e.id)).isSome=true:=by
 rw[xW];cases D:G.find? λy=>decide (y.id=e.id) with
 |none=>exact absurd (List.find?_eq_none.1 D e h) Js
 |some y=>rfl
structure rU (G:List mo) (rows:List Row):Prop where
 each:∀e∈G,e.xs=cF rows e.id/\e.xs≠[]
 all:∀r∈rows,∃e∈G,e.id=r.ID
theorem rU.nil:rU [] []:=⟨Js,Js⟩
theorem yx {rows:List Row}{y:Int}(h:∀r∈rows,r.ID≠y):cF rows y=[]:=by
 unfold cF;rw[List.map_eq_nil_iff,List.filter_eq_nil_iff];intro r D;simpa using h r D
theorem rU.old {G:List mo}{rows:List Row}(h:rU G rows)(i:Int):oq G i=cF rows i:=by
 unfold oq;cases D:G.find? λy=>decide (y.id=i) with
 |none=>
  refine(yx λM K y=>?_).symm;obtain⟨E,H,J⟩:=h.all M K;have:=List.find?_eq_none.1 D E H;simp at this;exact this (J.trans y)
 |some y=>
  have H:=cL D;have E:y.id=i:=by simpa using eN D
  have:=(h.each y H).1;rw[E] at this;exact this
theorem rU.put {G:List mo}{rows:List Row}(h:rU G rows)(r:Row)(g c:Nat):rU (GG G r.ID g c ⟨r.T,r.V⟩) (rows ++ [r]):=by
 refine⟨λy D=>?_,λK E=>?_⟩
 ·rcases List.mem_cons.1 D with rfl|D
  ·refine⟨?_,Js⟩;show oq G r.ID ++ [_]=cF _ r.ID;rw[ra,if_pos rfl,h.old]
  obtain⟨J,M⟩:=List.mem_filter.1 D;have H:y.id≠r.ID:=by simpa using M
  rw[ra,if_neg (fV H),cV];exact h.each y J
 rcases List.mem_append.1 E with E|E
 ·obtain⟨y,D,J⟩:=h.all K E;by_cases H:y.id=r.ID
  ·exact⟨_,az ..,by rw[<-J,H]⟩
  exact⟨y,aC _ (List.mem_filter.2 ⟨D,by simpa using H⟩),J⟩
 obtain rfl:K=r:=by simpa using E
 exact⟨_,az ..,rfl⟩
end Go.Proofs.YtibmlemoghcbkaaGreatDoor
namespace Go.Proofs
open Go.Shelf
def Tryz.layRevS_ren:Go.Shelf.Ren:=⟨fun|35=>127|n=>n,fun|22=>66|23=>113|3=>3|4=>4|0=>0|n=>n,fun|n=>n⟩
theorem jf {P:Program}{f B}(h:((P.funcs[f]?.map (·.name)).getD "" == "runtime.NumGoroutine")=false)(i:P.funcs[f]?=some {B with name:=(P.funcs[f]?.map (·.name)).getD ""}):Bears P f B:=⟨_,h,i⟩
theorem Tryz.layRevS:Go.Proofs.SlLaysE0.n35 Tryz.prog Tryz.layRevS_ren:=by
 repeat' first|kernel_rfl|(intro _;kernel_rfl)|exact jf (by kernel_rfl) (by kernel_rfl)|constructor
def Tryz.layInsS_ren:Go.Shelf.Ren:=⟨fun|20=>312|n=>n,fun|24=>113|22=>66|3=>3|25=>261|4=>4|0=>0|n=>n,fun|n=>n⟩
theorem Tryz.layInsS:Go.Proofs.SlLaysF0.n20 Tryz.prog Tryz.layInsS_ren:=by
 repeat' first|kernel_rfl|(intro _;kernel_rfl)|exact jf (by kernel_rfl) (by kernel_rfl)|constructor
def Tryz.laySortI_ren:Go.Shelf.Ren:=⟨fun|6=>133|15=>66|14=>233|28=>147|29=>148|20=>314|21=>315|22=>316|23=>317|24=>318|25=>319|26=>320|27=>321|46=>364|47=>237|48=>238|49=>365|50=>366|57=>405|n=>n,fun|22=>63|24=>68|25=>264|3=>3|39=>92|0=>0|53=>279|55=>40|4=>4|46=>273|45=>272|50=>123|5=>5|9=>9|66=>366|70=>370|76=>439|77=>440|n=>n,fun|n=>n⟩
theorem Tryz.laySortI:Go.Proofs.SlLaysF0.n6 Tryz.prog Tryz.laySortI_ren:=by
 repeat' first|kernel_rfl|(intro _;kernel_rfl)|exact jf (by kernel_rfl) (by kernel_rfl)|constructor
def Tryz.laySortW_ren:Go.Shelf.Ren:=⟨fun|6=>24|15=>66|14=>65|28=>147|29=>148|20=>139|21=>140|22=>141|23=>142|24=>143|25=>144|26=>145|27=>146|46=>236|47=>237|48=>238|49=>239|50=>240|57=>322|n=>n,fun|22=>31|24=>38|25=>73|3=>3|39=>92|0=>0|53=>279|55=>40|4=>4|46=>273|45=>272|50=>123|5=>5|9=>9|66=>366|70=>370|76=>439|77=>440|n=>n,fun|n=>n⟩
theorem Tryz.laySortW:Go.Proofs.SlLaysF0.n6 Tryz.prog Tryz.laySortW_ren:=by
 repeat' first|kernel_rfl|(intro _;kernel_rfl)|exact jf (by kernel_rfl) (by kernel_rfl)|constructor
end Go.Proofs
namespace Go.Proofs.YtibmlemoghcbkaaGreatDoor
open Go Go.RowKit
open Tryz
section
open Go Go.RowKit Go.Shelf Go.Lib Go.Sort
instance:Inhabited ar:=⟨⟨0,0⟩⟩
theorem Db (x y:ar)(w:JW):JC 129 #[lj x,lj y] w λe w'=>e= .returned (Ji (bK x.T y.T))/\∃q M,w'=grow (w.drewN q) M:=by
 obtain⟨D,O⟩:=x;obtain⟨E,Q⟩:=y;obtain⟨U,J⟩:=Je (bK D E);have H:=λK=>Tryz.cmp_Compare_int D E K;rw[J] at H;simp only[J];have K:=Jh H;go_enter Tryz.func129,Tryz.ntmps129;go_wp2_with (go_at_call 26;refine(K.o _).mono ?_;rintro e w' ⟨rfl,rfl⟩);go_ret;exact⟨rfl,0,_,by rw[alloc_eq_grow,alloc_eq_grow,grow_grow];rfl⟩
def RL (x y:ar):Int:=bK x.T y.T
theorem Bt (x y:ar):ltOf RL x y=decide (x.T<y.T):=by
 unfold ltOf RL;rw[Bool.eq_iff_iff,decide_eq_true_eq,decide_eq_true_eq];unfold bK;split
 ·omega
 split<;>omega
theorem RN:SWO (ltOf RL) where
 irrefl x:=by rw[Bt];simp
 trans x y z h1 h2:=by rw[Bt] at*;simp at*;omega
 ntrans x y z h1 h2:=by rw[Bt] at*;simp at*;omega
theorem re {y:Type}[Inhabited y]{lt:y->y->Bool}{d d':Array y}(Q:PermIn 0 d.size d d')(T:SortedIn lt 0 d.size d'):d'.toList.Perm d.toList/\d'.toList.Pairwise λa b=>lt b a=false:=by
 obtain⟨K,-,M⟩:=Q;refine⟨?_,?_⟩
 ·have D:d'.extract 0 d.size=d':=by rw[<-K];simp
  have E:d.extract 0 d.size=d:=Js
  rwa [D,E] at M
 rw[dS];intro H J D E O;rw[dM] at D E;have:=T H J (bj _) O Jo;rw[getElem!_pos d' J E,getElem!_pos d' H D] at this;simpa using this
theorem Ie (R:Nat->Prop)(g c n:Nat)(xs:List ar)(w:JW)(h:bP R 113 2 (.slice (some (Jp g 0)) n c) n (xs.flatMap ay) w)(H:xs.length=n)(aa:n<20):
 JC 128 #[.slice (some (Jp g 0)) n c,.func (.func 129) #[] #[]] w λe w'=>e= .returned (.tuple #[])/\∃E:List ar,E.Perm xs/\(E.Pairwise λa b=>¬b.T<a.T)/\bP R 113 2 (.slice (some (Jp g 0)) n c) n (E.flatMap ay) w'/\ow g w w':=by
 have X:g<w.heap.size:=(h.1.lt g rfl).2;have J:=Jh (AnyQ.insertionSortCmpFunc Tryz.layInsS 2 Tryz.isAgg113 Tryz.sizeOf113 ay (λ_=>rfl) (λD K y=>by simp[ay] at y;rcases y with rfl|rfl<;>rfl) RL 129 #[] g 0 c 0 n xs.toArray w (enters_of Tryz.func129 Jk rfl)
  (λ_ _ _ _ D y=>Db D y _) (h.holds dy Jd H) X (bj _) (by simp[H]) (by simp;omega))
 have W:∀(e:Ending)(w':JW),(e= .returned (.tuple #[])/\∃y D,w'=sortWorldK ay 2 w g 0 y (Sort.insertionSort (ltOf RL) xs.toArray 0 n) D)->e= .returned (.tuple #[])/\∃E:List ar,E.Perm xs/\(E.Pairwise λa b=>¬b.T<a.T)/\bP R 113 2 (.slice (some (Jp g 0)) n c) n (E.flatMap ay) w'/\ow g w w':=by
  rintro e w' ⟨V,y,D,rfl⟩;have K:xs.toArray.size=n:=by simpa using H
  have Q:=insertionSort_holds (lt:=ltOf RL) RN xs.toArray 0 xs.toArray.size (bj _) (ac _);obtain⟨M,U⟩:=re Q.1 Q.2;rw[K] at M U;obtain⟨Y,Z⟩:=h.sorted dy Jd (Sort.insertionSort (ltOf RL) xs.toArray 0 n) (by have:=M.length_eq;simp at this;omega) y D;refine⟨V,_,by simpa using M,cQ (λ{a b} O=>?_) U,Y,Z⟩;rw[Bt] at O;simpa using O
 have M:=Jh W;have Y:=Jf ((20:Int)<=n);have Z:=Jf ((20:Int)<n);have K:xs.toArray.size=n:=by simpa using H
 rw[K] at J;have O:JC 232 #[.slice (some (Jp g 0)) n c,Ji n,.func (.func 129) #[] #[]] w λe w'=>e= .returned (.tuple #[])/\∃y D,w'=sortWorldK ay 2 w g 0 y (Sort.insertionSort (ltOf RL) xs.toArray 0 n) D:=by
  obtain⟨U,Q⟩:=Je (Sort.insertionSort (ltOf RL) xs.toArray 0 n);rw[Q] at J ⊢;go_enter Tryz.func232,Tryz.ntmps232;go_wp2_with fail;refine wp_loop_rounds 1 ?_;rw[rounds_succ];go_wp2_with fail;refine J.o.mono ?_;rintro e w' ⟨rfl,y,D,rfl⟩;go_wp2_with fail;refine wp_loop_rounds 1 ?_;rw[rounds_succ];go_wp2_with fail;go_end0;exact⟨rfl,y,D,rfl⟩
 have Q:=Jh O;go_enter Tryz.func128,Tryz.ntmps128;go_wp2_with fail;refine Q.o.mono ?_;rintro e w' ⟨rfl,V⟩;have U:=Jh V;go_wp2_with fail;go_end0;exact M.o _ _ ⟨rfl,U.o⟩
theorem Cl (R:Nat->Prop)(g c n:Nat)(xs:List ar)(w:JW)(h:bP R 113 2 (.slice (some (Jp g 0)) n c) n (xs.flatMap ay) w)(y:xs.length=n)(Q:n<20):
 JC 127 #[.slice (some (Jp g 0)) n c] w λe w'=>e= .returned (.tuple #[])/\bP R 113 2 (.slice (some (Jp g 0)) n c) n (xs.reverse.flatMap ay) w'/\ow g w w':=by
 have T:g<w.heap.size:=(h.1.lt g rfl).2;have H:xs.toArray.size=n:=by simpa using y
 have E:=AnyQ.slices_Reverse Tryz.layRevS 2 Tryz.isAgg113 Tryz.sizeOf113 ay (λ_=>rfl) (λK J D=>by simp[ay] at D;rcases D with rfl|rfl<;>rfl) g 0 c xs.toArray w (h.holds dy Jd y) (by rw[H];omega);rw[H] at E;refine E.mono ?_;rintro e w' ⟨O,D,rfl⟩;obtain⟨J,K⟩:=h.sorted dy Jd xs.toArray.reverse (by simp[y]) D #[];have M:sortWorldK ay 2 w g 0 D xs.toArray.reverse #[]=putRowK ay 2 (Go.Sort.ahead w D) g 0 xs.toArray.reverse:=grow_empty _;rw[M] at J K;exact⟨O,by simpa using J,K⟩
instance:Inhabited ej:=⟨⟨0,none,0,0⟩⟩
theorem KF (x y:ej)(w:JW):JC 132 #[QK x.ID x.A x.n x.c,QK y.ID y.A y.n y.c] w λe w'=>e= .returned (Ji (bK x.ID y.ID))/\∃q M,w'=grow (w.drewN q) M:=by
 obtain⟨H,O,W,T⟩:=x;obtain⟨J,Q,X,U⟩:=y;obtain⟨V,E⟩:=Je (bK H J);have D:=λK=>Tryz.cmp_Compare_int H J K;rw[E] at D;simp only[E];have K:=Jh D;clear D E;go_enter Tryz.func132,Tryz.ntmps132;go_wp2_with (go_at_call 26;refine(K.o _).mono ?_;rintro e w' ⟨rfl,rfl⟩);go_ret;exact⟨rfl,0,_,by rw[alloc_eq_grow,alloc_eq_grow,grow_grow];rfl⟩
def Vx (x y:ej):Int:=bK x.ID y.ID
theorem Br (x y:ej):ltOf Vx x y=decide (x.ID<y.ID):=by
 unfold ltOf Vx;rw[Bool.eq_iff_iff,decide_eq_true_eq,decide_eq_true_eq];unfold bK;split
 ·omega
 split<;>omega
theorem RJ:SWO (ltOf Vx) where
 irrefl x:=by rw[Br];simp
 trans x y z h1 h2:=by rw[Br] at*;simp at*;omega
 ntrans x y z h1 h2:=by rw[Br] at*;simp at*;omega
theorem BS (n:Nat)(y:JW)(h:n<=12):JC 66 #[.int .u64 n] y λe w'=>(∃l:Int,e= .returned (Ji l))/\w'=y:=
 (Tryz.bits_Len n y Jo Jo).mono λ_ _ ⟨D,E⟩=>⟨⟨_,D⟩,E⟩
theorem Nb (R:Nat->Prop)(g c n:Nat)(xs:List ej)(w:JW)(h:bP R 68 2 (.slice (some (Jp g 0)) n c) n (xs.flatMap cn) w)(K:xs.length=n)(Q:n<=12):
 JC 133 #[.slice (some (Jp g 0)) n c,.func (.func 132) #[] #[]] w λe w'=>e= .returned (.tuple #[])/\∃E:List ej,E.Perm xs/\(E.Pairwise λa b=>¬b.ID<a.ID)/\bP R 68 2 (.slice (some (Jp g 0)) n c) n (E.flatMap cn) w'/\ow g w w':=by
 have T:g<w.heap.size:=(h.1.lt g rfl).2;have y:xs.toArray.size=n:=by simpa using K
 have H:=AnyQ.slices_SortFunc_small_sorted Tryz.laySortI 2 Tryz.isAgg68 Tryz.sizeOf68 cn (λ_=>rfl) (λJ M D=>by simp[cn] at D;rcases D with rfl|rfl<;>rfl) Vx 132 #[] RJ g 0 c xs.toArray w (enters_of Tryz.func132 Jk rfl)
  (λ_ _ _ _ J D=>KF J D _) (h.holds js Jd K) T (by rw[y];exact Q) BS
 rw[y] at H;refine H.mono ?_;rintro e w' ⟨O,D,Y,Z,U,W,rfl⟩;have V:PermIn 0 xs.toArray.size xs.toArray D:=by rw[y];exact U
 have X:SortedIn (ltOf Vx) 0 xs.toArray.size D:=by rw[y];exact W
 obtain⟨M,aa⟩:=re V X;obtain⟨ab,ac⟩:=h.sorted js Jd D (by have:=M.length_eq;simp at this;omega) Y Z;refine⟨O,_,by simpa using M,cQ (λ{a b} J=>?_) aa,ab,ac⟩;rw[Br] at J;simpa using J
end
theorem mJ.made (R:Nat->Prop)(y E:TypeId)(O Q B:Nat)(w:JW)(hB:w.heap.size=B)(ho:gm R w):
 mJ R y O (.slice (some (Jp B 0)) 0 0) 0 [] E Q (.slice (some (Jp (B+1) 0)) 0 0) 0 [] ((w.alloc (.cells #[] y)).alloc (.cells #[] E)):=by
 subst hB;have M:(w.alloc (.cells #[] y)).heap.size=w.heap.size+1:=Js;have T:=(bP.made R w y O ho).alloc (.cells #[] E);have K:=bP.made R (w.alloc (.cells #[] y)) E Q (λJ D=>by rw[M];have:=ho J D;omega);rw[M] at K;refine⟨T.shift λJ D H=>?_,K.shift λJ D H=>?_⟩<;>
  (simp only[aG,Option.some.injEq] at D H;subst D;rcases H with J|J<;>first|omega|(have:=ho _ J;omega))
section
open Go Go.RowKit Go.Shelf
attribute [local go_sem] Oper.semAt_some
theorem KM (A:JA)(n c:Nat)(w:JW):
 JC 265 #[.slice A n c,Ji 16] w λe w'=>e= .returned (.func (.func 335) #[] #[Jv w.heap.size,.pointer (some (Jp (w.heap.size+1) 0))])/\
  w'=(w.alloc (.cells #[.slice A n c] 106)).alloc (.cells #[Ji 16] 3):=by
 go_enter Tryz.func265,Tryz.ntmps265;go_wp2_with fail;go_ret;exact⟨rfl,rfl⟩
def vw (R:Nat->Prop)(D E:JW):Prop:=D.heap.size<=E.heap.size/\∀y,R y->E.heap[y]?=D.heap[y]?
theorem vw.trans {R:Nat->Prop}{A B C:JW}(h:vw R A B)(k:vw R B C):vw R A C:=⟨ap h.1 k.1,λD y=>(k.2 D y).trans (h.2 D y)⟩
theorem tz (w:JW)(n:Nat)(row:Option Nat):w.grownBy (w.drewN n) row:=⟨rfl,rfl,rfl,ac _,λ_ _ _=>rfl⟩
def mG (n i:Nat):Nat:=min 16 (n - 16*i)
def kv (n:Nat):Nat:=(n+15) / 16
def Oj (b y n:Nat)(i:Nat):Value:=.slice (some (Jp b (y+i*16*3))) (mG n i) (mG n i)
theorem Di (m:Nat)(R:Nat->Prop)(A:JA)(E Bn b U n c:Nat)(w:JW)(ax:R E)(X:R Bn)(aG:E<w.heap.size)(aE:Bn<w.heap.size)(aA:w.cell? (Jp E 0)=some (.slice A n c))(hA:0<n->A=some (Jp b U))(az:w.cell? (Jp Bn 0)=some (Ji 16))
 (bb:n<=5000) (hc:n<=c) (aB:c<=maxLen):
 SeqStopsK dI m prog 335 #[Jv E,Jv Bn] (λi:Nat=>#[Oj b U n (min i (kv n - 1))]) (vw R)
  (λxs=>xs=aL (kv n)) (λaI=>aI<+:aL (kv n)) (kv n) w:=λy W Jx H Y ao au ay am=>by
 refine callsIn_of_wp Tryz.func335 rfl trivial ?_ rfl;simp only[Tryz.ntmps335,cJ,ak,aX,bM,dC,bY,bZ,cT,cz,bi,aY];have aH:H.cell? (Jp E 0)=some (.slice A n c):=(Y.cell (p:=(Jp E 0)) aG).trans aA;have aF:H.cell? (Jp Bn 0)=some (Ji 16):=(Y.cell (p:=(Jp Bn 0)) aE).trans az;have aa:=Jh ao;have aK:=Jh au;have ae:=Jh ay;have aM:=Jh aB;gi_wp2;gi_loopw [4] (λD wr=>∃y:Nat,D=Ji (y*16:Nat)/\y<=kv n/\W (aL y) wr/\vw R H wr) (λD _=>n+16 - (intOf D).toNat)
 case atStart=>exact⟨0,rfl,Jo,am,ac _,λ_ _=>rfl⟩
 obtain⟨y,rfl,aW,ar,K⟩:=hrel;have ai:=(af (a:=(Jp E 0)) (K.2 E ax)).trans aH;have aj:=(af (a:=(Jp Bn 0)) (K.2 Bn X)).trans aF;have V:=Jh ar;have ad:=Jh K;have aC:kv n=(n+15) / 16:=rfl;have aN:=Jh aC;by_cases bc:y*16<n;rotate_left
 ·obtain rfl:y=kv n:=Jo;gi_wp2;go_end0;exact⟨⟨_,rfl⟩,.inl ⟨_,rfl,V.o⟩⟩
 have aD:y<kv n:=Jo;have an:=hA Jo;subst an;have aU:¬c=y*16:=Jo;have aV:y*16<c:=Jo;obtain⟨D,Z⟩:=Je (mG n y);have O:min 16 (n - 16*y)=D:=Z;have bd:(if n - y*16<16 then n - y*16 else 16)=D:=by rw[<-O];split<;>omega
 have be:(if((n - y*16:Nat):Int)<16 then((n - y*16:Nat):Int) else 16)=D:=by rw[<-O];split<;>omega
 have bf:min (16:Int) ((n - y*16:Nat):Int)=D:=by rw[<-O];omega
 have ag:=Jh Z;have a8:y*16+D<=n:=Jo;have Q:1<=D:=Jo;have ba:D<=16:=Jo;gi_wp2;refine wpIn_wide.2 ?_;go_quiet (fail);have ap:Jq (W (aL y) (wr.drewN nq)):=Jh (aa.o _ _ _ none V.o (tz _ _ _) (λM J=>by cases J));have aw:Jq (vw R H (wr.drewN nq)):=Jh (ad.o.trans ⟨ac _,λ_ _=>rfl⟩);have aR:(wr.drewN nq).cell? (Jp E 0)=some (.slice (some (Jp b U)) n c):=ai;have al:(wr.drewN nq).cell? (Jp Bn 0)=some (Ji 16):=aj;generalize wr.drewN nq=aJ at*;obtain⟨aT,bg,aP,aQ,T,M⟩:=ae.o (aL y) y aJ ap.o (by rw[dG];exact aD);rw[<-dZ] at M;rw[ec (show y<=kv n - 1 by omega)] at T;unfold Oj at T;rw[ag.o] at T;have aZ:((y*16:Nat):Int)+D<=c:=Jo;have a1:y*16+D<=c:=Jo;have a6:(y*16+D) - y*16=D:=Jo;have a7:(((y*16:Nat):Int)+D).toNat=y*16+D:=Jo;gi_wp2;first|refine⟨λJ=>(by cases J),M.mono ?_⟩|refine M.mono ?_
 rintro J aO (⟨rfl,aq,Q⟩|⟨rfl,av⟩)
 ·have ab:=Jh aq;have ah:=Jh (aw.o.trans Q);have aS:=(af (a:=(Jp Bn 0)) (Q.2 Bn X)).trans al;gi_wp2;refine⟨⟨y+1,by go_num,Jo,ab.o,ah.o⟩,?_⟩;simp[intOf];omega
 have ab:=Jh av;gi_wp2;refine bodyPost_ret (results_none rfl _ _ _) rfl ?_;refine⟨⟨_,rfl⟩,.inr ⟨_,?_,ab.o⟩⟩;have ah:aL (y+1)=(aL (kv n)).take (y+1):=by rw[List.take_range,ec Jo]
 rw[Nat.succ_eq_add_one,ah];exact List.take_prefix _ _
def NF (c:JU)(w:JW)(e:Ending)(w':JW):Prop:=
 (kO c=none/\e= .returned (.tuple #[.slice none 0 0,.int .i64 11])/\Jz w w')∨
  ∃y D E,kO c=some y/\e= .returned (.tuple #[.slice D y.length E,.int .i64 0])/\Rd w' 2 D y.length (y.flatMap ay)/\y.length<=E/\E<=maxLen/\Jz w w'/\wL w.heap.size D
theorem Av (c:JU)(w:JW)(hc:c.length<=1000000):JC 307 #[.string (S c)] w (NF c w):=by
 have O:=KZ (S c) w (by rw[bH];exact hc);rw[cW] at O;have X:=(Se c).2.2.2.2;have Y:kO c=if vF c=0/\pQ c≠[] then some (pQ c) else none:=rfl;obtain⟨y,ae⟩:∃y,pQ c=y:=⟨_,rfl⟩;obtain⟨E,W⟩:∃E,vF c=E:=⟨_,rfl⟩;rw[ae,W] at O Y;rw[W] at X;have Q:=eE O;have T:=eE Y;rcases X with rfl|rfl
 ·by_cases K:y.length=0
  ·have D:=eE (show kO c=none by rw[T.out,if_neg (λH=>H.2 (bu K))]);have ah:((y.length:Int) == 0)=true:=beq_iff_eq.2 (by omega);have ai:(y.length == 0)=true:=beq_iff_eq.2 K;go_enter Tryz.func307,Tryz.ntmps307;go_wp2_with fail;refine Q.out.mono ?_;rintro E Z ⟨M,U,rfl,-,-,-,J,-⟩;go_wp2_with fail;go_ret2;exact .inl ⟨D.out,rfl,J⟩
  have D:=eE (show kO c=some y by rw[T.out,if_pos ⟨rfl,λH=>K (by rw[H];rfl)⟩]);have ah:((y.length:Int) == 0)=false:=beq_eq_false_iff_ne.2 (by omega);have ai:(y.length == 0)=false:=beq_eq_false_iff_ne.2 K;go_enter Tryz.func307,Tryz.ntmps307;go_wp2_with fail;refine Q.out.mono ?_;rintro E Z ⟨M,U,rfl,ag,ac,ad,J,af⟩;have ab:=eE ag;have V:=eE (And.intro ac ad);have aa:=eE af;go_wp2_with fail;go_ret2;exact .inr ⟨y,M,U,D.out,rfl,ab.out,V.out.1,V.out.2,J,aa.out⟩
 have D:=eE (show kO c=none by rw[T.out,if_neg (λH=>by have:=H.1;simp at this)]);go_enter Tryz.func307,Tryz.ntmps307;go_wp2_with fail;refine Q.out.mono ?_;rintro E Z ⟨M,U,rfl,-,-,-,J,-⟩;go_wp2_with fail;go_ret2;exact .inl ⟨D.out,rfl,J⟩
theorem AD (s:ByteArray)(A:JA)(n c:Nat)(w:JW):
 JC 306 #[.string s,.slice A n c] w λe w'=>e= .returned (.func (.func 360) #[] #[.pointer (some ⟨w.heap.size+1,0,none⟩),.pointer (some ⟨w.heap.size,0,none⟩)])/\
  w'=(w.alloc (.cells #[.string s] 9)).alloc (.cells #[.slice A n c] 417):=by
 have E:∀(D:Fn)(first y:Array Value)(w:JW),(cO D first y).run prog w= .ok (.func D first y) w:=λ_ _ _ _=>rfl;go_enter Tryz.func306,Tryz.ntmps306;go_wp2_with fail;go_ret;exact⟨rfl,rfl⟩
def jr (ps:List (Nat × JU))(i:Nat):Nat × JU:=ps.getD (min i (ps.length - 1)) (0,[])
theorem oL {ps:List (Nat × JU)}{i:Nat}(h:i<ps.length):jr ps i=ps[i]:=by
 unfold jr;rw[ec (by omega),bQ,aT h];rfl
theorem lV:∀(y:List (Nat × Nat))(t:JU),(mK y t).length=y.length
 |[],_=>rfl
 |D :: y,t=>by simp[mK,lV y]
theorem JX:∀(y:List (Nat × Nat))(D:Nat)(l:JU)(i:Nat)(h:i<(ny D y).length)(E:i<(mK y (l.drop D)).length),
 (mK y (l.drop D))[i]=((ny D y)[i].1,(l.drop (ny D y)[i].2.1).take ((ny D y)[i].2.2 - (ny D y)[i].2.1))
 |[],_,_,_,h,_=>absurd h (by simp[ny])
 |H :: y,D,l,0,_,_=>by simp only[ny,mK,bf];rw[Nat.add_sub_cancel_left]
 |H :: y,D,l,i+1,h,E=>by
  simp only[ny,mK,ck,bR] at h E ⊢;exact JX y (D+H.2) l i (by simpa using h) (by simpa using E)
theorem tM {a n:Nat}(h:a<=n):aL a<+:aL n:=⟨(aL (n - a)).map (a+ ·),by rw[<-List.range_add,Nat.add_sub_cancel' h]⟩
theorem vn (m:Nat)(R:Nat->Prop)(A:JA)(T H n c a:Nat)(s:ByteArray)(D:List (Nat × Nat))(w:JW)(aQ:R H)(aZ:T<w.heap.size)(bd:H<w.heap.size)(aT:w.cell? ⟨T,0,none⟩=some (.slice A n c))(aU:w.cell? ⟨H,0,none⟩=some (.string s))
 (bb:Rd w 3 A n ((ny a D).flatMap jo)) (aP:∀k,R k->k<w.heap.size) (hA:∀b J,A=some ⟨b,J,none⟩->R b) (ae:D.length=n) (bB:a+kT D=s.size) (h2:n<=200) (ps:List (Nat × JU)) (ba:ps=mK D (s.data.toList.drop a)):
 SeqStopsK dI m prog 360 #[.pointer (some ⟨T,0,none⟩),.pointer (some ⟨H,0,none⟩)] (λi:Nat=>#[.int .i64 ((jr ps i).1:Int),.string (S (jr ps i).2)]) (vw R)
  (λxs=>xs=aL n) (λbh=>bh<+:aL n) n w:=λy Y Jx M U aE aK aS aD=>by
 refine callsIn_of_wp Tryz.func360 rfl trivial ?_ rfl;simp only[Tryz.ntmps360,cJ,ak,aX,bM,dC,bY,bZ,cT,cz,bi,aY];have bc:=bb.below U;have bA:M.cell? ⟨T,0,none⟩=some (.slice A n c):=(U.cell (p:=⟨T,0,none⟩) aZ).trans aT;have be:M.cell? ⟨H,0,none⟩=some (.string s):=(U.cell (p:=⟨H,0,none⟩) bd).trans aU;have aj:=eE aE;have bl:=eE aK;have ay:=eE aS;have au:=eE hA;have aB:=eE ba;have aC:=eE bc;have bg:=U.size;have aw:=eE (λ(wr:JW)(y:M.heap.size<=wr.heap.size) k Z=>ai (aP k Z) (ap bg y));gi_wp2;gi_loopw [8] (λE wr=>∃y:Nat,E= .int .i64 y/\y<=n/\Y (aL y) wr/\vw R M wr) (λE _=>n - (intOf E).toNat)
 case atStart=>exact⟨0,rfl,by omega,aD,ac _,λ_ _=>rfl⟩
 obtain⟨y,rfl,bx,aI,ar⟩:=hrel;have al:=eE aI;have X:=eE ar;have bf:=(af (a:=⟨H,0,none⟩) (ar.2 H aQ)).trans be;by_cases V:y<n;rotate_left
 ·obtain rfl:y=n:=by omega
  gi_wp2;go_end0;exact⟨⟨_,rfl⟩,.inl ⟨_,rfl,al.out⟩⟩
 have ad:y<(ny a D).length:=by rw[pq,ae];exact V
 obtain⟨b,J,rfl,bv,ab⟩:=aC.out.elem mw (by decide) ad;have aa:=X.out.2 b (au.out b J rfl);have an:=(af (a:=⟨b,J+(y*3+0),none⟩) aa).trans (ab 0 _ rfl);have ao:=(af (a:=⟨b,J+(y*3+1),none⟩) aa).trans (ab 1 _ rfl);have aq:=(af (a:=⟨b,J+(y*3+2),none⟩) aa).trans (ab 2 _ rfl);have a8:y<ps.length:=by rw[aB.out,lV,ae];exact V
 have ag:jr ps y=((ny a D)[y].1,(s.data.toList.drop (ny a D)[y].2.1).take ((ny a D)[y].2.2 - (ny a D)[y].2.1)):=by
  rw[oL a8];have:=JX D a s.data.toList y ad (by rw[lV,ae];exact V);rw[<-this];congr 1
 have a1:=Gz D a _ (ah ad);generalize (ny a D)[y]=bj at*;obtain⟨W,Q,K⟩:=bj;simp only at an ao aq ag a1;have bq:wr.cell? ⟨b,J+y*3,none⟩=some (.int .i64 (W:Int)):=an;have br:wr.cell? ⟨b,J+y*3+1,none⟩=some (.int .i64 (Q:Int)):=by rw[aV];exact ao
 have bt:wr.cell? ⟨b,J+y*3+2,none⟩=some (.int .i64 (K:Int)):=by rw[aV];exact aq
 have aR:S (jr ps y).2=s.extract Q K:=by
  rw[ag];rw[<-FA (s.extract Q K),Lib.extract_data]
 have a7:(jr ps y).1=W:=by rw[ag]
 have ax:=eE aR;have aA:=eE a7;have bw:Q<=K:=by omega
 have bC:K<=s.size:=by omega
 have bz:(y:Int)<n:=by omega
 obtain⟨E,bu,bE,bF,bG,bH,aF,aN⟩:∃E,wr.alloc (.cells #[.int .i64 W,.int .i64 Q,.int .i64 K] 421)=E/\E.cell? ⟨wr.heap.size,0,none⟩=some (.int .i64 W)/\E.cell? ⟨wr.heap.size,1,none⟩=some (.int .i64 Q)/\E.cell? ⟨wr.heap.size,2,none⟩=some (.int .i64 K)
  /\E.cell? ⟨H,0,none⟩=some (.string s)/\Hid (Y (aL y) E)/\Hid (vw R M E):=
  ⟨_,rfl,by simp,by simp,by simp,bO _ bf,eE (aj.out _ _ _ none al.out (World.grownBy_alloc wr _ none) (λam O=>by cases O)),
   eE (X.out.trans ⟨by simp,λk Z=>aJ wr _ k (aw.out wr X.out.1 k Z)⟩)⟩
 gi_wp2;generalize wr.heap.size=bk at*;have a6:(prog).follows .mixedOrders=true:=by kernel_rfl
 have aG:Hid (Y (aL y) E.drew):=eE (aj.out _ _ _ none aF.out ⟨rfl,rfl,rfl,ac _,λ_ _ _=>rfl⟩ (λam O=>by cases O));have aO:Hid (vw R M E.drew):=eE (aN.out.trans ⟨ac _,λ_ _=>rfl⟩);have am:=eE (ay.out (aL y) y E.drew aG.out (by rw[dG];exact V));rw[ax.out,aA.out] at am;refine mj Ae 9 a6 (pt (by kernel_rfl)) (by kernel_rfl) ?_;simp only[dN,ff,dr,fe]
 iterate 9 still_step
 refine wpStill_nil ?_;obtain⟨bp,bI,bn,bo,bD,Z⟩:=am.out;rw[<-dZ] at Z;gi_wp2;first|refine⟨λO=>(by cases O),Z.mono ?_⟩|refine Z.mono ?_
 rintro O bm (⟨rfl,aH,aW⟩|⟨rfl,aM⟩)
 ·have av:=eE aH;have az:=eE aW;gi_wp2;refine⟨⟨y+1,rfl,by omega,av.out,(aO.out.trans az.out)⟩,?_⟩;simp[intOf];omega
 have av:=eE aM;gi_wp2;refine bodyPost_ret (results_none rfl _ _ _) rfl ?_;exact⟨⟨_,rfl⟩,.inr ⟨_,tM (by omega),av.out⟩⟩
theorem nO {P:Program}{l n:Nat}{f:FuncId}{args:Array Value}{w:JW}{R R':Ending->World->Prop}(h:Calls P f args w R)(hr:∀e w',R e w'->R' e w'):CallsIn (CN l) n P f args w R':=
 (CallsIn.inRound l (callsIn_wide.2 h)).mono hr
theorem AM {P:Program}{n:Nat}{E:Type}{g:Operand}{J K:Tmp}{Y Z:Code}{T:Exit->Act->World->Prop}{a:Act}{w:JW}(U V:Tmp)
 (h1:1<=n) {gf:Nat} {lb:Array Value} (am:a.eval g= .func (.func gf) #[] lb) (aa:∀args w,(callFunc gf args).run P w= .ok (.enter gf args) w)
 {e1 e2:E->Value} {Kp:JW->World->Prop} {S X:List E->Prop} {N:Nat} (an:SeqStopsK dI (n - 1) P gf lb (λx=>#[e1 x,e2 x]) Kp S X N w)
 (ah:∀{A B C:JW},Kp A B->Kp B C->Kp A C) (af:∀(y:JW)(l:Nat)(o ap:Obj),w.heap.size<=l->y.heap[l]?=some o->o.isCells=false->o.isWalk=false->Kp y (y.putObj l ap))
 (I:List E->World->Prop) (M:List E->World->Prop) (ad:OwnFrom w.heap.size I) (ae:OwnFrom w.heap.size M) (ab:I [] w)
 (ai:∀(l:Nat)(x:E)(y:JW)(O:Act->World->Prop),O {tmps:=(((a.tmps.setIfInBounds J (e1 x)).setIfInBounds K (e2 x)).setIfInBounds U (e1 x)).setIfInBounds V (e2 x),defers:=[]} y->
  Y.wpIn (CN l) (n - 1 - 1) P (gM O (λ_ _ _=>False)) {tmps:=(a.tmps.setIfInBounds J (e1 x)).setIfInBounds K (e2 x),defers:=[]} y)
 (aj:∀(l:Nat)(H:List E)(x:E)(y:JW),I H y->H.length<N->
  Z.wpIn (CN l) (n - 1 - 1) P (ownPostK Kp I (λc xs y=>c= .ret/\M xs y) (H ++ [x]) y) {tmps:=(((a.tmps.setIfInBounds J (e1 x)).setIfInBounds K (e2 x)).setIfInBounds U (e1 x)).setIfInBounds V (e2 x),defers:=[]} y)
 (al:∀(D:Nat)(xs:List E)(y:JW),w.heap.size<=D->S xs->I xs y->y.heap[D]?=some (.deferred (some []))->T .normal {a with defers:={target:=.collected D,args:=#[]} :: a.defers} y)
 (ao:∀(D:Nat)(H:List E)(y:JW),w.heap.size<=D->X H->M H y->y.heap[D]?=some (.deferred (some []))->T .ret {a with defers:={target:=.collected D,args:=#[]} :: a.defers} y):
 (Code.rangeFunc g #[J,K] Y Z).wp P T a w:=
 wpIn_wide.1 (wpIn_rangeFunc_ownF (F:=dI) rfl h1 am trivial aa an ah af (ag _ _) (λ_=>rfl) I (λc xs y=>c= .ret/\M xs y) ad (λc aq A B ak Q W ac=>⟨Q.1,ae aq A B ak Q.2 W ac⟩) ab
  (λx=>{tmps:=(((a.tmps.setIfInBounds J (e1 x)).setIfInBounds K (e2 x)).setIfInBounds U (e1 x)).setIfInBounds V (e2 x),defers:=[]}) (λl x y O W=>by have:=ai l x y O W;simpa using this) aj al
  (λD c H y ac Q W ak=>by obtain⟨rfl,W⟩:=W;exact wpIn_ret (ao D H y ac Q W ak)))
theorem gj {y:Func}{p u:Tmp}{D t2:TypeId}(h:y.results= #[.cell p D,.cell u t2])(tmps:Array Value)(P:Program)(w:JW):
 (results y tmps).run P w=
  ((asAddr (tmps.getD p undef)).run P w).andThen λa E=>((loadVar D a).run P E).andThen λv H=>((asAddr (tmps.getD u undef)).run P H).andThen λb J=>((loadVar t2 b).run P J).andThen λv' K=>.ok (.tuple #[v,v']) K:=by
 simp only[results,h];simp[jR,iM]
theorem one_cell {w:JW}{b:Nat}{v:Value}{t:TypeId}(y:w.heap[b]?=some (.cells #[v] t (0,0))):w.cell? (Jp b 0)=some v/\w.frozen? (Jp b 0)=false:=
 ⟨by rw[aa y];rfl,aW y 0⟩
theorem ym {y D:JW}{row:Option Nat}{size n:Nat}{A:JA}{xs:List Value}(h:Rd y size A n xs)(E:y.grownBy D row)(T:∀r,row=some r->∃o:Obj,y.heap[r]?=some o/\o.isCells=false):Rd D size A n xs:=
 ⟨h.1,λK=>by obtain⟨H,V,J,M,O⟩:=h.2 K;exact⟨H,V,J,ai M E.4,λU W Q=>cell_kept (O U W Q) E T⟩⟩
def tK (c:JU):List ar × Nat:=match kO c with|none=>([],11)|some s=>(s,0)
def xD (l:JU)(y:Int):List ar × Nat:=match iD l with
 |none=>([],11)
 |some D=>((nQ D y).1.getD [],(nQ D y).2)
theorem DK:∀(ps:List (Nat × JU))(y:Int)(j:Nat)(h:j<ps.length),(∀i,(E:i<j)->((ps[i]'Jo).1:Int)≠y)->((ps[j]).1:Int)=y->((nQ ps y).1.getD [],(nQ ps y).2)=tK ps[j].2
 |[],_,_,h,_,_=>absurd h Js
 |J :: ps,y,0,_,_,D=>by
  simp only[bf] at D ⊢;unfold nQ tK;rw[if_pos D];all_goals (cases kO J.2<;>rfl)
 |J :: ps,y,j+1,h,E,D=>by
  have H:=E 0 Jo;simp only[bf] at H;simp only[ck] at D ⊢;unfold nQ;rw[if_neg H];exact DK ps y j (by simpa using h) (λi K=>by have:=E (i+1) Jo;simpa using this) D
theorem zU:∀(ps:List (Nat × JU))(y:Int),(∀i,(D:i<ps.length)->((ps[i]).1:Int)≠y)->((nQ ps y).1.getD [],(nQ ps y).2)=([],3)
 |[],_,_=>rfl
 |J :: ps,y,D=>by
  have E:=D 0 Js;simp only[bf] at E;unfold nQ;rw[if_neg E];exact zU ps y (λi H=>by have:=D (i+1) (by simpa using H);simpa using this)
def CI (v:List ar × Nat)(B:Nat)(w:JW)(e:Ending)(w':JW):Prop:=
 ∃y D,e= .returned (.tuple #[.slice y v.1.length D,Ji v.2])/\Rd w' 2 y v.1.length (v.1.flatMap ay)/\Below B w w'
theorem SQ (c:JU)(w:JW)(hc:c.length<=1000000):JC 307 #[.string (S c)] w (CI (tK c) w.heap.size w):=by
 refine(Av c w hc).mono ?_;rintro M O (⟨y,rfl,D⟩|⟨K,E,J,y,rfl,H,-,-,D,-⟩)
 ·unfold tK;rw[y];exact⟨none,0,rfl,Rd.nil _ _ _,D⟩
 unfold tK;rw[y];exact⟨E,J,rfl,H,D⟩
theorem Qp {D:JW}{A:JA}{n b:Nat}{xs:List Value}{v:Value}{O:TypeId}(h:Rd D 2 A n xs)(V:D.heap[b]?=some (.cells #[v] O (0,0)))(u:Value):Rd (D.setCell (Jp b 0) u) 2 A n xs:=
 ⟨h.1,λQ=>by
  obtain⟨E,M,y,T,H⟩:=h.2 Q;have J:E≠b:=by
   rintro rfl;have K:1<xs.length:=by rw[h.1];omega
   have:=H 1 _ (aT K);rw[aa V] at this;simp at this
  exact⟨E,M,y,by simpa using T,λK W U=>(af (a:=(Jp E (M+K))) (ae _ _ _ _ (λy=>by first|exact J y|exact J y.symm))).trans (H K W U)⟩⟩
theorem tL {y:List Nat}{x n:Nat}(h:y ++ [x]<+:aL n):x<n/\∀i,i<x->i∈y:=by
 obtain⟨K,H⟩:=h;have J:y.length<n:=by have:=congrArg eZ H;simp at this;omega
 have D:∀i,i<n->(y ++ [x] ++ K)[i]?=some i:=λi E=>by rw[H,List.getElem?_range E]
 have M:x=y.length:=by
  have:=D y.length J;rw[au,fF (ac _)] at this;simpa using this
 refine⟨Jo,λi E=>?_⟩;have:=D i Jo;rw[au,eU Jo] at this;exact List.mem_of_getElem? this
theorem sB:∀(D:List (Nat × Nat))(t:JU)(n:Nat),t.length<=n->∀p∈mK D t,p.2.length<=n
 |[],_,_,_,p,y=>by cases y
 |E :: D,t,n,H,p,y=>by
  rcases List.mem_cons.1 y with rfl|y
  ·simp only[aF];omega
  exact sB D _ n (by rw[bo];omega) p y
def Ro (ps:List (Nat × JU))(H:Int)(B:Nat)(w:JW)(xs:List Nat)(D:JW):Prop:=
 ∃J y,xs=J ++ [y]/\(∀M∈J,((jr ps M).1:Int)≠H)/\((jr ps y).1:Int)=H/\∃E K,D.cell? (Jp (B+1) 0)=some (.slice E (tK (jr ps y).2).1.length K)/\D.cell? (Jp (B+2) 0)=some (Ji (tK (jr ps y).2).2)/\Rd D 2 E (tK (jr ps y).2).1.length ((tK (jr ps y).2).1.flatMap ay)/\Below B w D
theorem OM (s:ByteArray)(E:Int)(w:JW)(bx:s.size<=1000000):JC 222 #[.string s,Ji E] w (CI (xD s.data.toList E) w.heap.size w):=by
 have aS:=Jh (λ(V:JW)=>yH s V.heap.size V rfl bx);refine(callsIn_wide (n:=4)).1 (callsIn_of_wp_marks Tryz.func222 rfl trivial (wpIn_mono ?_ iQ.marks));simp only[Tryz.ntmps222,cJ,ak,aX,bM,dC,bY,bZ,cT,cz,bi,aY];refine wpIn_wide.2 ?_;obtain⟨y,aH⟩:=Je w.heap.size;rw[aH];go_wp2_with fail;obtain⟨V,D,bR,aK,aU,aF,aG⟩:∃V,((w.alloc (.cells #[Ji E] 3)).alloc (.cells #[Jn] 66)).alloc (.cells #[Ji 0] 32)=V/\V.heap.size=y+3/\Below y w V
  /\V.heap[y]?=some (.cells #[Ji E] 3 (0,0))/\V.heap[y+1]?=some (.cells #[Jn] 66 (0,0))/\V.heap[y+2]?=some (.cells #[Ji 0] 32 (0,0)):=by
  have aB:=cD w (.cells #[Ji E] 3);have ao:=cD (w.alloc (.cells #[Ji E] 3)) (.cells #[Jn] 66);have H:=cD ((w.alloc (.cells #[Ji E] 3)).alloc (.cells #[Jn] 66)) (.cells #[Ji 0] 32);simp only[aI,aH,aV,bM] at aB ao H;refine⟨_,rfl,by simp[aH],?_,?_,?_,H⟩
  ·subst aH;exact(((ag _ _).alloc (ac _) _).alloc Js _).alloc (by simp;omega) _
  ·exact(aJ _ _ _ (by simp;omega)).trans ((aJ _ _ _ (by simp;omega)).trans aB)
  exact(aJ _ _ _ (by simp;omega)).trans ao
 simp only[D,aV,bM];clear D;refine(aS.o V).mono ?_;rintro O ar (⟨aA,⟨aP,rfl⟩,K⟩|⟨ad,aT,aP,aA,bz,bL,rfl,aL,bv,K⟩)
 ·obtain⟨D,J⟩:=one_cell ((K.block _ Jo).trans aF);obtain⟨H,M⟩:=one_cell ((K.block _ Jo).trans aG);have aQ:=Jh (aK.trans (K.mono Jo));have al:=Jh (show xD s.data.toList E=([],11) by unfold xD;rw[aA]);clear K aK aA aS aU aF aG;go_wp2_with fail;refine⟨_,(by rw[gj rfl];go_simp;rfl),none,0,by rw[al.o];rfl,by rw[al.o];exact Rd.nil _ _ _,?_⟩;exact(aQ.o.setCell (p:=(Jp (y+1) 0)) Js _).setCell (p:=(Jp (y+2) 0)) Js _
 have T:=(K.block _ Jo).trans aU;have U:=(K.block _ Jo).trans aF;have X:=(K.block _ Jo).trans aG;obtain⟨au,aE,rfl⟩:=aL.form;obtain⟨M,an⟩:=Je ar.heap.size;have H:∀aw aO,au=some (Jp aw aO)->aw<M:=by
  intro aw aO O;rcases aL.1.2 with⟨ab,_⟩|⟨W,J,Q,ab,_,D,_⟩
  ·subst O;simp at ab
  subst O;simp only[Value.slice.injEq,Option.some.injEq,Addr.mk.injEq] at ab;obtain⟨⟨rfl,-⟩,-⟩:=ab;exact an▸(Jl D)
 have bj:=Jh aL.rd;have aQ:=Jh (aK.trans (K.mono Jo));obtain⟨D,aN⟩:=Je (mK ad (s.data.toList.drop aT));have bO:D.length=ad.length:=by rw[<-aN,lV]
 have bw:∀J,(S (jr D J).2).size<=1000000:=by
  intro J;rw[bH];unfold jr;rw[bQ];cases O:D[min J (D.length - 1)]? with
  |none=>simp
  |some Q=>
   simp only[fu];refine sB ad (s.data.toList.drop aT) 1000000 ?_ Q (aN▸List.mem_of_getElem? O);rw[bo,<-bX];omega
 have al:=Jh (show xD s.data.toList E=((nQ D E).1.getD [],(nQ D E).2) by unfold xD;rw[aA,aN]);have bJ:y+3<=M:=Jw K.size;have bf:=Jh H;clear K aK aA aS aU aF aG aL H;go_wp2_with fail;refine(AD s au ad.length aE ar).mono ?_;rintro O W ⟨rfl,Q⟩;have bP:W.heap.size=M+2:=by rw[Q,<-an];simp
 have H:Below M ar W:=by rw[Q,<-an];exact((ag _ _).alloc (ac _) _).alloc Js _
 have aB:=cD ar (.cells #[.string s] 9);have ao:=cD (ar.alloc (.cells #[.string s] 9)) (.cells #[.slice au ad.length aE] 417);simp only[aI] at ao;rw[<-Q] at ao;have bt:W.cell? (Jp (M+1) 0)=some (.slice au ad.length aE):=by rw[<-an,aa ao];rfl
 have bu:W.cell? (Jp M 0)=some (.string s):=by rw[<-an,aa (show W.heap[ar.heap.size]?=_ from by rw[Q];exact(aJ _ _ _ Js).trans aB)];rfl
 have bA:=(H.block y Jo).trans T;have bb:=(H.block (y+1) Jo).trans U;have bc:=(H.block (y+2) Jo).trans X;have a6:=Jh (aQ.o.trans (H.mono (show y<=M by omega)));have bk:=Jh (bj.o.below (an▸H));clear aB ao Q T U X H;rw[an];go_wp2_with fail;refine AM 8 9 (n:=4) Jd (gf:=360) (lb:=#[.pointer (some (Jp (M+1) 0)),Jv M]) rfl (enters_of Tryz.func360 Jk rfl)
  (e1:=λJ:Nat=>Ji ((jr D J).1:Int)) (e2:=λJ:Nat=>.string (S (jr D J).2))
  (vn 3 (λaj=>aj<M+2) au (M+1) M ad.length aE aT s ad W Jo Jo Jo bt bu bk.o (λaj aq=>Jo) (λaw aO O=>Jw (bf.o aw aO O)) rfl bz bv D aN.symm) (λah aj=>ah.trans aj) ?kb
  (λZ H=>(∀J∈Z,((jr D J).1:Int)≠E)/\Below (M+2) W H) (Ro D E y w) ?own ?ownr ?start ?assign ?body ?done ?stop
 case kb=>exact λH T am U Q _ _ _=>⟨by simp[ik],λaj aq=>aZ Jo⟩
 case own=>exact λZ H T bd ah ap ai=>⟨ah.1,ownFrom_below (β:=List Nat) (n₀:=M+2) (B:=W.heap.size) (w₀:=W) Jo Jo Z _ _ _ ah.2 ap ai⟩
 case ownr=>
  rintro be H T bd ⟨Z,Q,rfl,X,Y,av,ax,ab,ay,ai,K⟩ ap az;have U:∀aC,bd=some aC->∃am:Obj,H.heap[aC]?=some am/\am.isCells=false:=λaC O=>(az aC O).2;refine⟨Z,Q,rfl,X,Y,av,ax,cell_kept ab ap U,cell_kept ay ap U,ym ai ap U,?_⟩;exact ownFrom_below (β:=List Nat) (n₀:=y) (B:=W.heap.size) (w₀:=w) Jo Jo Z _ _ _ K ap az
 case start=>exact⟨λJ am=>by simp at am,ag _ _⟩
 case assign=>
  intro bm Q H az U;simp only[bg,bG,aM] at U ⊢;gi_wp2;exact U
 case body=>
  intro bm Z Q H br bN;obtain⟨X,U⟩:=br;simp only[bg,bG,aM];obtain⟨bI,-⟩:=one_cell ((U.block y Jo).trans bA);have aD:=Jh U;by_cases Y:((jr D Q).1:Int)=E;rotate_left
  ·have bF:(((jr D Q).1:Int) == E)=false:=beq_eq_false_iff_ne.2 Y;gi_wp2;refine⟨fR _,⟨ac _,λ_ _=>rfl⟩,λJ am=>?_,aD.o⟩;rcases List.mem_append.1 am with ah|ah
   ·exact X J ah
   rw[List.mem_singleton.1 ah];exact Y
  have bq:=Jh (SQ (jr D Q).2 H (by have:=bw Q;rwa [bH] at this));have a8:=(U.block (y+1) Jo).trans bb;have ba:=(U.block (y+2) Jo).trans bc;have bK:=U.size;have bF:(((jr D Q).1:Int) == E)=true:=beq_iff_eq.2 Y;have bl:=Jh Y;clear Y U;gi_wp2;refine⟨trivial,nO bq.o ?_⟩;rintro O a7 ⟨av,ax,rfl,ai,az⟩;have aW:=(az.block (y+1) Jo).trans a8;have a1:=(az.block (y+2) Jo).trans ba;obtain⟨bB,bD⟩:=one_cell aW;obtain⟨bC,bE⟩:=one_cell a1;have bh:=Jh ai;have aR:=Jh az;have bn:=Jh aW;have bp:=Jh a1;clear ai az aW a1 a8 ba;gi_wp2;have ay:∀aP,(a7.setCell (Jp (y+1) 0) aP).heap[y+2]?=some (.cells #[Ji 0] 32 (0,0)):=λaP=>(ae _ _ _ _ Js).trans bp.o;have aq:KeepsOthers H a7:=⟨aR.o.size,λaj _ aq _=>(aR.o.block aj (Jl aq)).trans aq⟩;refine⟨aq.trans ((cU _ _ _).trans (cU _ _ _)),rfl,Z,Q,rfl,X,bl.o,av,ax,by go_simp,by go_simp,Qp (Qp bh.o bn.o _) (ay _) _,?_⟩;exact(((a6.o.trans (aD.o.mono Jo)).trans (aR.o.mono Jo)).setCell (p:=(Jp (y+1) 0)) Js _).setCell (p:=(Jp (y+2) 0)) Js _
 case done=>
  rintro aj be H a1 rfl ⟨X,U⟩ az;have aR:=Jh (zU D E λJ am=>by have:=X J (List.mem_range.2 Jo);rwa [oL am] at this);obtain⟨bB,bD⟩:=one_cell ((U.block (y+1) Jo).trans bb);obtain⟨bC,bE⟩:=one_cell ((U.block (y+2) Jo).trans bc);have aD:=Jh U;have aW:=Jh az;clear U az X;go_wp2_with fail;obtain⟨T,a8,u1,u2,a7,ba⟩:∃T,(H.setCell (Jp (y+1) 0) (Jn)).setCell (Jp (y+2) 0) (Ji 3)=T/\T.cell? (Jp (y+1) 0)=some (Jn)/\T.cell? (Jp (y+2) 0)=some (Ji 3)/\T.heap[aj]?=some (.deferred (some []))/\Below y w T:=
   ⟨_,rfl,by go_simp,by go_simp,(ae _ _ _ _ (by simp;omega)).trans ((ae _ _ _ _ (by simp;omega)).trans aW.o),((a6.o.trans (aD.o.mono Jo)).setCell (p:=(Jp (y+1) 0)) Js _).setCell (p:=(Jp (y+2) 0)) Js _⟩
  rw[a8];have bh:=(af (w:=T) (w':=T.putObj aj (.deferred none)) (a:=(Jp (y+1) 0)) (aZ (by simp only;omega))).trans u1;have bl:=(af (w:=T) (w':=T.putObj aj (.deferred none)) (a:=(Jp (y+2) 0)) (aZ (by simp only;omega))).trans u2;refine⟨Js,.inl ⟨_,_,rfl,run_takeDeferred a7,?_⟩⟩;refine⟨_,(by rw[gj rfl];go_simp;rfl),none,0,by rw[al.o,aR.o];rfl,by rw[al.o,aR.o];exact Rd.nil _ _ _,iP ba Jo⟩
 case stop=>
  rintro aj be H a1 aR ⟨Z,Q,rfl,X,Y,av,ax,ab,ay,ai,K⟩ az;obtain⟨a7,aW⟩:=tL aR;have U:jr D Q=D[Q]'Jo:=oL Jo;have aD:=DK D E Q Jo (λJ am=>by have:=X J (aW J am);rwa [oL Jo] at this) (by rw[<-U];exact Y);rw[<-U] at aD;have bh:=(af (w:=H) (w':=H.putObj aj (.deferred none)) (a:=(Jp (y+1) 0)) (aZ (by simp only;omega))).trans ab;have bl:=(af (w:=H) (w':=H.putObj aj (.deferred none)) (a:=(Jp (y+2) 0)) (aZ (by simp only;omega))).trans ay;have am:=ym ai (grownBy_putObj' H aj (.deferred none)) (λaC O=>by cases O;exact⟨_,az,rfl⟩);refine⟨Js,.inl ⟨_,_,rfl,run_takeDeferred az,?_⟩⟩;refine⟨_,(by rw[gj rfl];go_simp;rfl),av,ax,by rw[al.o,aD,U],by rw[al.o,aD];exact am,iP K Jo⟩
end
def uq (l:JU):List eP × Nat:=match iD l with
 |none=>([],11)
 |some y=>match rb y with
  |none=>([],11)
  |some D=>(D,0)
theorem La {l:JU}(h:iD l=none):uq l=([],11):=by unfold uq;rw[h]
theorem Ov {l:JU}{ps:List (Nat × JU)}(h:iD l=some ps)(h2:rb ps=none):uq l=([],11):=by unfold uq;rw[h];simp only[h2]
theorem zL {l:JU}{ps:List (Nat × JU)}{s:List eP}(h:iD l=some ps)(h2:rb ps=some s):uq l=(s,0):=by unfold uq;rw[h];simp only[h2]
theorem Bb:∀{ps:List (Nat × JU)}{p:Nat × JU},p∈ps->kO p.2=none->rb ps=none
 |E :: ps,p,y,D=>by
  simp only[rb];rcases List.mem_cons.1 y with rfl|y
  ·rw[D]
  cases kO E.2 with
  |none=>rfl
  |some H=>simp[Bb y D]
theorem Bc:∀{ps:List (Nat × JU)}{s:List eP}{p:Nat × JU}{L:List ar},rb ps=some s->kO p.2=some L->rb (ps ++ [p])=some (s ++ [⟨(p.1:Int),L⟩])
 |[],s,p,L,y,D=>by
  simp only[rb,Option.some.injEq] at y;subst y;simp[rb,D]
 |J :: ps,s,p,L,y,D=>by
  simp only[rb,aY] at y ⊢;cases E:kO J.2 with
  |none=>rw[E] at y;cases y
  |some K=>
   rw[E] at y;simp only[Option.map_eq_some_iff] at y ⊢;obtain⟨M,H,rfl⟩:=y;exact⟨_,Bc H D,rfl⟩
theorem ER:∀{ps:List (Nat × JU)}{s:List eP},rb ps=some s->s.length=ps.length
 |[],s,y=>by simp only[rb,Option.some.injEq] at y;subst y;rfl
 |E :: ps,s,y=>by
  simp only[rb] at y;split at y
  ·cases y
  simp only[Option.map_eq_some_iff] at y;obtain⟨H,D,rfl⟩:=y;simp[ER D]
theorem EE {R:Nat->Prop}{w w':JW}{size n:Nat}{A:JA}{xs:List Value}(h:Rd w size A n xs)(hA:∀a,A=some a->R a.block)(E:cC R w w'):Rd w' size A n xs:=
 ⟨h.1,λO=>by
  obtain⟨y,J,D,M,K⟩:=h.2 O;exact⟨y,J,D,ai M E.size,λH T Q=>(af (a:=(Jp y (J+H))) (E.block y (hA _ D))).trans (K H T Q)⟩⟩
def fP (B:Nat)(J:TypeId)(v:Value)(xs:List ej)(l:List eP)(w:JW):Prop:=
 ∃D:Nat->Prop,(∀H,H<B->D H)/\gm D w/\bP D J 2 v xs.length (xs.flatMap cn) w/\l.length=xs.length/\∀y,(h:y<xs.length)->(h2:y<l.length)->lu w xs[y] l[y]/\∀E,xs[y].A=some E->D E.block/\B<=E.block
section
variable {B:Nat} {T:TypeId} {v:Value} {xs:List ej} {l:List eP} {w w':JW}
theorem fP.empty (B:Nat)(E:TypeId)(w:JW)(hB:B<=w.heap.size):fP B E (Jn) [] [] w:=
 ⟨λD=>D<B,λ_ y=>y,λD H=>Jo,bP.nil _ _ _ _,rfl,λJ y=>absurd y Js⟩
theorem fP.made (B:Nat)(E:TypeId)(w:JW)(hB:B<=w.heap.size):fP B E (.slice (some (Jp w.heap.size 0)) 0 0) [] [] (w.alloc (.cells #[] E)):=
 ⟨λD=>D<B,λ_ y=>y,λD H=>by simp;omega,bP.made _ _ _ _ λD H=>Jo,rfl,λJ y=>absurd y Js⟩
theorem fP.form (h:fP B T v xs l w):∃A c,v= .slice A xs.length c:=by
 obtain⟨y,-,-,h,-⟩:=h;exact h.form
theorem fP.len (h:fP B T v xs l w):l.length=xs.length:=by
 obtain⟨y,-,-,-,h,-⟩:=h;exact h
theorem fP.yy {A:JA}{c:Nat}(h:fP B T (.slice A xs.length c) xs l w):fI w A xs l:=by
 obtain⟨K,M,O,y,D,E⟩:=h;exact⟨D,y.rd,λJ H=>(E J H Jo).1⟩
theorem fP.later (h:fP B T v xs l w)(M:w.heap.size<=w'.heap.size)(J:∀g,B<=g->g<w.heap.size->w'.heap[g]?=w.heap[g]?):fP B T v xs l w':=by
 obtain⟨W,H,X,D,Y,Z⟩:=h;refine⟨W,H,X.mono M,D.later λg y=>J g (Nat.not_lt.1 λO=>D.2 g y (H _ O)) (D.1.lt g y).2,Y,λV E K=>?_⟩;obtain⟨⟨ac,ad,Q⟩,U⟩:=Z V E K;refine⟨⟨ac,ad,Q.1,λO=>?_⟩,U⟩;obtain⟨y,V,E,K,aa⟩:=Q.2 O;exact⟨y,V,E,ai K M,λO ae ab=>(af (a:=(Jp y (V+O))) (J y (U _ E).2 K)).trans (aa O ae ab)⟩
theorem fP.below (h:fP B T v xs l w)(y:Jz w w'):fP B T v xs l w':=h.later y.size λD _ E=>y.block D E
theorem fP.grown {row:Option Nat}(h:fP B T v xs l w)(J:w.grownBy w' row)(M:∀r,row=some r->∃o:Obj,w.heap[r]?=some o/\o.isCells=false):fP B T v xs l w':=by
 obtain⟨O,U,V,H,W,X⟩:=h;refine⟨O,U,V.mono J.4,H.later λD y=>?_,W,λac aa ab=>?_⟩
 ·refine J.block D (H.1.lt D y).2 λE=>?_;obtain⟨o,K,Y⟩:=M D E.symm;rcases H.1.2 with⟨E,_⟩|⟨Q,ad,ae,E,_,Z,_⟩
  ·rw[E] at y;simp[aG] at y
  rw[E] at y;obtain rfl:Q=D:=by simpa [aG] using y
  rw[Z] at K;obtain rfl:_=o:=by simpa using K
  simp[Obj.isCells] at Y
 obtain⟨⟨y,D,E⟩,K⟩:=X ac aa ab;exact⟨⟨y,D,ym E J M⟩,K⟩
theorem fP.more {w1:JW}(h:fP B T v xs l w)(hB:B<=w.heap.size)(M:Jz w w1){A:JA}{n c:Nat}{I:Int}{L:List ar}(ag:L.length=n)(hr:Rd w1 2 A n (L.flatMap ay))(Y:wL w.heap.size A)(aj:0<n):
 ∃R:Nat->Prop,gm R w1/\bP R T 2 v xs.length (xs.flatMap cn) w1/\
  ∀v' K,bP R T 2 v' (xs.length+1) (xs.flatMap cn ++ [Ji I,.slice A n c]) K->cC R w1 K->fP B T v' (xs ++ [⟨I,A,n,c⟩]) (l ++ [⟨I,L⟩]) K/\Below B w1 K:=by
 obtain⟨R,V,W,Q,X,ae⟩:=h;have aa:∀y,A=some y->y.block<w1.heap.size:=λy D=>by
  obtain⟨H,J,E,O,-⟩:=hr.2 aj;rw[E] at D;cases D;exact O
 refine⟨λE=>R E∨∃y,A=some y/\E=y.block,λE H=>?_,(Q.below M).shift λad Z ak=>?_,λv' K af J=>⟨⟨λE=>R E∨∃y,A=some y/\E=y.block,λE H=>.inl (V E H),λE H=>?_,?_,by simp[X],λU ah al=>?_⟩,J.below λE H=>.inl (V E H)⟩⟩
 ·rcases H with h|⟨y,D,rfl⟩
  ·exact ai (W E h) M.size
  exact aa y D
 ·rcases ak with h|⟨y,D,rfl⟩
  ·exact Q.2 ad Z h
  have:=(Q.1.lt _ Z).2;have:=Y y D;omega
 ·rcases H with h|⟨y,D,rfl⟩
  ·exact ai (W E h) (ap M.size J.size)
  exact ai (aa y D) J.size
 ·have E:(xs ++ [(⟨I,A,n,c⟩:ej)]).flatMap cn=xs.flatMap cn ++ [Ji I,.slice A n c]:=by simp[cn]
  rw[E,ab];exact af
 by_cases O:U<xs.length
 ·rw[du O,du Jo];obtain⟨⟨H,Z,ad⟩,E⟩:=ae U O Jo;exact⟨⟨H,Z,EE (ad.below M) (λy D=>.inl (E y D).1) J⟩,λy D=>⟨.inl (E y D).1,(E y D).2⟩⟩
 obtain rfl:U=xs.length:=by simp at ah;omega
 rw[cK (ac _),cK Jo];simp only[fG,bf,X];exact⟨⟨rfl,ag,EE hr (λy D=>.inr ⟨y,D,rfl⟩) J⟩,λy D=>⟨.inr ⟨y,D,rfl⟩,ap hB (Y y D)⟩⟩
end
section
open Go Go.RowKit Go.Shelf Go.Lib Go.Sort
structure wK (v:Value) (w w':JW):Prop where
 os:w'.os=w.os
 tape:w'.tape=w.tape
 output:w'.output=w.output
 size:w.heap.size<=w'.heap.size
 block:∀k,k<w.heap.size->v.ownBlock≠some k->w'.heap[k]?=w.heap[k]?
theorem wK.of {v:Value}{w w':JW}(h:Jz w w'):wK v w w':=⟨h.os,h.tape,h.output,h.size,λD y _=>h.block D y⟩
theorem wK.below {v:Value}{w w':JW}{B:Nat}(h:wK v w w')(hB:B<=w.heap.size)(D:∀k,v.ownBlock=some k->B<=k):Below B w w':=⟨h.os,h.tape,h.output,h.size,λk E=>h.block k Jo λy=>Jw (D k y)⟩
theorem LP (p:JA)(cap:Nat)(y:Value)(w:JW):JC 314 #[.slice p 0 cap,Ji 0,Ji 0,y] w λe w'=>e= .returned (.tuple #[])/\w=w':=by
 go_enter Tryz.func314,Tryz.ntmps314;go_wp2_with fail;refine wp_loop_rounds 1 ?_;rw[rounds_succ];go_wp2_with fail;go_end0;exact⟨rfl,rfl⟩
theorem Mo (p:JA)(cap:Nat)(D:Int)(y:Value)(w:JW):JC 233 #[.slice p 0 cap,Ji 0,Ji 0,Ji D,y] w λe w'=>e= .returned (.tuple #[])/\w=w':=by
 go_enter Tryz.func233,Tryz.ntmps233;go_wp2_with fail;refine wp_loop_rounds 1 ?_;rw[rounds_succ];go_wp2_with fail;refine(LP _ _ _ _).mono ?_;rintro e w' ⟨rfl,rfl⟩;go_wp2_with fail
 (try simp only[jc,gM]);refine bodyPost_ret (results_none rfl _ _ _) rfl ?_
 exact⟨rfl,rfl⟩
theorem Ia (p:JA)(cap:Nat)(E:Value)(w:JW):JC 133 #[.slice p 0 cap,E] w λe w'=>e= .returned (.tuple #[])/\w=w':=by
 have y:=BS 0 w Jo;have D:=Jh y;clear y;go_enter Tryz.func133,Tryz.ntmps133;go_wp2_with fail;refine D.o.mono ?_;rintro e w' ⟨⟨y,rfl⟩,rfl⟩;go_wp2_with fail;refine(Mo _ _ _ _ _).mono ?_;rintro e w' ⟨rfl,rfl⟩;go_wp2_with fail;go_end0;exact⟨rfl,rfl⟩
theorem Na (R:Nat->Prop)(y:JA)(c n:Nat)(xs:List ej)(w:JW)(h:bP R 68 2 (.slice y n c) n (xs.flatMap cn) w)(K:xs.length=n)(W:n<=12):
 JC 133 #[.slice y n c,.func (.func 132) #[] #[]] w λe w'=>e= .returned (.tuple #[])/\∃E:List ej,E.Perm xs/\(E.Pairwise λa b=>¬b.ID<a.ID)/\bP R 68 2 (.slice y n c) n (E.flatMap cn) w'/\wK (.slice y n c) w w':=by
 rcases dx n with H|H
 ·subst H;have M:xs=[]:=bu K;subst M;refine(Ia y c _ w).mono ?_;rintro e w' ⟨J,D⟩;subst D;exact⟨J,[],List.Perm.refl _,cj,h,wK.of (ag _ _)⟩
 obtain⟨O,rfl,-,-⟩:=h.own H;refine(Nb R O c n xs w h K W).mono ?_;rintro e w' ⟨J,E,Q,T,U,D⟩;exact⟨J,E,Q,T,U,D.os,D.tape,D.output,D.size,λY V X=>D.block Y V λM=>X (by simp[aG,M])⟩
theorem MZ:∀(i:Nat)(D:List ej)(x:ej),i<D.length->((D.flatMap cn).set (i*2+1) (.slice x.A x.n x.c))=(D.set i ⟨(D.getD i x).ID,x.A,x.n,x.c⟩).flatMap cn:=by
 intro i;induction i with
 |zero=>
  intro D x E;cases D with
  |nil=>simp at E
  |cons y D=>simp[cn]
 |succ i H=>
  intro D x E;cases D with
  |nil=>simp at E
  |cons y D=>
   have:=H D x (by simpa using E);simp only[List.getD_cons_succ,aM,aE];rw[<-this];rw[show(i+1)*2+1=(i*2+1)+2 by omega];simp only[cn,aY,bi];rw[show i*2+1+2=(i*2+1+1)+1 by omega,aM,aM]
theorem lu.kept {w w':JW}{x:ej}{s:eP}(h:lu w x s)(Q:w.heap.size<=w'.heap.size)(K:∀a,x.A=some a->w'.heap[a.block]?=w.heap[a.block]?):lu w' x s:=
 ⟨h.id,h.len,h.rd.1,λO=>by
  obtain⟨y,D,E,M,J⟩:=h.rd.2 O;exact⟨y,D,E,ai M Q,λH U T=>(af (a:=(Jp y (D+H))) (K (Jp y D) E)).trans (J H U T)⟩⟩
structure sj (B:Nat) (O:JA) (m c:Nat) (xs:List ej) (l:List eP) (w:JW):Prop where
 lie:bP (λj=>j<B) 68 2 (.slice O m c) m (xs.flatMap cn) w
 len:xs.length=m
 Gt:l.length=m
 at_:∀j,(h:j<xs.length)->(h2:j<l.length)->lu w xs[j] l[j]/\∀a,xs[j].A=some a->(.slice O m c:Value).ownBlock≠some a.block
 cap:∀x∈xs,x.n<=x.c
theorem sj.yy {B:Nat}{y:JA}{m c:Nat}{xs:List ej}{l:List eP}{w:JW}(h:sj B y m c xs l w):fI w y xs l:=
 ⟨by rw[h.len,h.Gt],by have:=h.lie.rd;rw[h.len];exact this,λE D=>(h.at_ E D (by rw[h.Gt,<-h.len];exact D)).1⟩
theorem sj.below {B:Nat}{y:JA}{m c:Nat}{xs:List ej}{l:List eP}{w w':JW}(h:sj B y m c xs l w)(H:Jz w w'):sj B y m c xs l w':=
 ⟨h.lie.below H,h.len,h.Gt,λJ D E=>⟨(h.at_ J D E).1.below H,(h.at_ J D E).2⟩,h.cap⟩
theorem sj.set {B g:Nat}{m c:Nat}{xs:List ej}{l:List eP}{w:JW}(h:sj B (some (Jp g 0)) m c xs l w){i:Nat}(hi:i<m){A:JA}{n k:Nat}{I:Int}{L:List ar}(T:I=(xs[i]'(Jw h.len)).ID)
 (U:L.length=n) (hr:Rd w 2 A n (L.flatMap ay)) (hA:∀a,A=some a->a.block≠g) (V:n<=k):
 sj B (some (Jp g 0)) m c (xs.set i ⟨I,A,n,k⟩) (l.set i ⟨I,L⟩) (w.setCell (Jp g (i*2+1)) (.slice A n k)):=by
 have Y:=h.len;have M:w.heap.size<=(w.setCell (Jp g (i*2+1)) (.slice A n k)).heap.size:=by simp[aj]
 have K:i<xs.length:=Jo;refine⟨?_,by rw[fk];exact h.len,by rw[fk];exact h.Gt,λO y J=>?_,λX H=>?_⟩
 ·have y:=h.lie.store (j:=i*2+1) (.slice A n k);rw[MZ i xs ⟨I,A,n,k⟩ K] at y;have D:xs.getD i ⟨I,A,n,k⟩=xs[i]:=by rw[bQ,aT K];rfl
  rw[D,<-T] at y;exact y
 ·rw[fk] at y J;by_cases E:i=O
  ·subst E;rw[List.getElem_set_self,List.getElem_set_self];refine⟨(lu.mk rfl U hr).kept M λa D=>ae _ _ _ _ (hA a D),λa D=>?_⟩;simp only[aG,ne_eq,Option.some.injEq];exact fV (hA a D)
  rw[List.getElem_set_ne E,List.getElem_set_ne E];obtain⟨W,Q⟩:=h.at_ O y J;refine⟨W.kept M λa D=>ae _ _ _ _ λJ=>?_,Q⟩;exact Q a D (by simp[aG,J])
 rcases List.mem_or_eq_of_mem_set H with H|rfl
 ·exact h.cap X H
 exact V
inductive CH {α β:Type} (P:α->β->Prop):List α->List β->Prop
 |nil:CH P [] []
 |cons {x:α} {s:β} {xs:List α} {l:List β}:P x s->CH P xs l->CH P (x :: xs) (s :: l)
theorem CH.len {y β:Type}{P:y->β->Prop}{xs:List y}{l:List β}(h:CH P xs l):l.length=xs.length:=by
 induction h with
 |nil=>rfl
 |cons _ _ D=>simp[D]
theorem CH.get {E β:Type}{P:E->β->Prop}{xs:List E}{l:List β}(h:CH P xs l):∀j,(y:j<xs.length)->(D:j<l.length)->P xs[j] l[j]:=by
 induction h with
 |nil=>intro j y;exact absurd y Js
 |cons hp _ H=>
  intro j y D;cases j with
  |zero=>exact hp
  |succ j=>exact H j (by simpa using y) (by simpa using D)
theorem CH.of {J β:Type}{P:J->β->Prop}:∀{xs:List J}{l:List β},l.length=xs.length->(∀j,(D:j<xs.length)->(E:j<l.length)->P xs[j] l[j])->CH P xs l
 |[],[],_,_=>.nil
 |[],K :: l,y,_=>by simp at y
 |M :: xs,[],y,_=>by simp at y
 |M :: xs,K :: l,y,H=>.cons (H 0 Js Js) (CH.of (by simpa using y) λj D E=>H (j+1) (by simpa using D) (by simpa using E))
theorem Md {H β:Type}{κ:H->Int × Int}{κ':β->Int × Int}{P:H->β->Prop}(J:∀x s,P x s->κ x=κ' s){xs:List H}{l:List β}(h1:CH P xs l):∀{E:List H}{m:List β},CH P E m->CH P (cG κ xs E) (cG κ' l m):=by
 induction h1 with
 |nil=>
  intro E m D;rw[mc,mc];exact D
 | @cons x s xs l hp h K=>
  intro E m D;induction D with
  |nil=>
   rw[me,me];exact .cons hp h
  | @cons y t E m hq D Q=>
   have M:=J x s hp;have O:=J y t hq;rw[cG,cG,M,O];split
   ·exact .cons hp (K (.cons hq D))
   split
   ·exact .cons hq (K D)
   exact .cons hq Q
end
theorem Cr (A:JA)(n ca:Nat)(xs:List ar)(B:JA)(m H:Nat)(D:List ar)(w:JW)(hA:Rd w 2 A n (xs.flatMap ay))(W:xs.length=n)(Q:n<=ca)(hB:Rd w 2 B m (D.flatMap ay))(V:D.length=m)(T:m<=H)(U:n+m<=100000):
 JC 135 #[.slice A n ca,.slice B m H] w λe w'=>∃E k y,e= .returned (.slice E k y)/\k=(cG kS xs D).length/\k<=y/\
  bP (λj=>j<w.heap.size) 113 2 (.slice E k y) k ((cG kS xs D).flatMap ay) w'/\Jz w w':=by
 have Y:=Jh (Gy A n ca xs B m H D w hA W Q hB V T U);clear hA W Q hB V T U;go_enter Tryz.func135,Tryz.ntmps135;go_wp2_with fail;refine Y.o.mono ?_;rintro e Z ⟨E,k,y,rfl,J,K,M,O⟩;have X:=Jh (Ja J (Ja K (Ja M O)));clear J K M O;go_wp2_with fail;go_ret;exact⟨E,k,y,rfl,X.o⟩
theorem lf:Maps.Keyed prog 3:=Maps.int_keyed underlying3
theorem nu {i:Int}(h:pJ i):keyOf prog 3 (.int .i64 i)=some (.int .i64 i):=Maps.keyOf_int_mk underlying3 (by unfold pJ at h;simp[Lit.wf,IntKind.min,IntKind.max,IntKind.signed,IntKind.bits];omega)
theorem _root_.Go.World.grownBy.uj {w w':JW}{b B:Nat}(h:w.grownBy w' (some b))(hB:B<=b)(E:B<=w.heap.size):Below B w w':=⟨h.os,h.tape,h.output,h.size,λy D=>h.block y Jo (by simp;omega)⟩
def TJ (y:Nat)(w:JW)(rows:List Row)(iv:Value)(wr:JW):Prop:=∃(D H:Nat)(E:List mo),iv=Ji D/\D<=rows.length/\H<=D/\
 MapAt prog 3 wr y H (qT E)/\iV (y+1) E wr/\rU E (rows.take D)/\Below y w wr/\y<wr.heap.size
def sP (e:mo):ej:=⟨e.id,some (Jp e.g 0),e.xs.length,e.c⟩
def uU (y D:Nat)(G:List mo)(j:Nat):Prop:=j<y+1∨j=D∨∃E∈G,E.g=j
structure Vo (B0 br n:Nat) (G:List mo) (w:JW) (k co:Nat) (O:JA) (more:List ej) (cur:Int->List ar) (left:Lit->Bool) (cnt:Nat) (wr:JW):Prop where
 len:more.length=k
 ran:kJ prog 3 wr B0 br n (qT G) left cnt
 SC:iV (B0+1) (vD G cur) wr
 cur:∀e∈G,(cur e.id).Perm e.xs/\(left (.int .i64 e.id)=false->(cur e.id).Pairwise λa b=>¬b.T<a.T)
 lie:bP (uU B0 br G) 68 2 (.slice O k co) k (more.flatMap cn) wr
 of:∀x∈more,∃e∈G,left (.int .i64 e.id)=false/\x=sP e
 all:∀e∈G,left (.int .i64 e.id)=false->sP e∈more
 once:more.Pairwise λa b=>a.ID≠b.ID
 sR:Below B0 w wr
 lt:B0<wr.heap.size
 iB:B0<br
def TK (H J n:Nat)(G:List mo)(w:JW)(Q:Value)(wr:JW):Prop:=∃(E D:Nat)(y:JA)(O:List ej)(M:Int->List ar)(left:Lit->Bool)(K:Nat),
 Q= .slice y E D/\Vo H J n G w E D y O M left K wr
theorem GI {ad am n:Nat}{G:List mo}{w wr ak:JW}{k U:Nat}{T:JA}{aq J:List ej}{Q:Int->List ar}{left:Lit->Bool}{cnt:Nat}{rows:List Row}(H:Vo ad am n G w k U T aq Q left cnt wr)(ap:∀kl,left kl=false)(an:rU G rows)(ho:Once kR rows)(Y:J.Perm aq)(az:J.Pairwise λa b=>¬b.ID<a.ID)
 (ag:bP (uU ad am G) 68 2 (.slice T k U) k (J.flatMap cn) ak) (ao:wK (.slice T k U) wr ak):∃aj,qh rows aj/\sj ad T k U J aj ak/\∀s∈aj,s.L.length<=rows.length:=by
 have ab:∀E∈J,∃y∈G,E=sP y:=λE ac=>by
  obtain⟨y,D,-,ae⟩:=H.of E (Y.mem_iff.1 ac);exact⟨y,D,ae⟩
 have ax:J.Pairwise λa b=>a.ID≠b.ID:=(Y.pairwise_iff λae=>fV ae).2 H.once;have ac:∀y∈G,Up kS (Q y.id)/\(Q y.id).Perm (cF rows y.id)/\Q y.id≠[]:=λy D=>by
  obtain⟨K,af⟩:=H.cur y D;obtain⟨X,ai⟩:=an.each y D;rw[X] at K;have av:=(nD ho y.id).perm K.symm;refine⟨?_,K,λaa=>?_⟩
  ·have aw:=af (ap _);unfold Up;rw[dS];intro Z O M W V;have au:=List.pairwise_iff_getElem.1 aw Z O M W V;have al:=List.pairwise_iff_getElem.1 av Z O M W V;simp only[kS,ne_eq,Prod.mk.injEq,and_true] at al;simp only[kS,kl];omega
  rw[aa] at K;exact ai (by rw[X];exact K.symm.eq_nil)
 refine⟨J.map λE=>⟨E.ID,Q E.ID⟩,⟨?_,λs ai=>?_,λaA ay=>?_⟩,⟨ag.shift λav aw aa=>ag.2 av aw (.inl Jo),?_,?_,λO K af=>?_,λE X=>?_⟩,λs ai=>?_⟩
 ·unfold Up;rw[cS,dS];intro Z O M W V;have au:=List.pairwise_iff_getElem.1 az Z O M W V;have al:=List.pairwise_iff_getElem.1 ax Z O M W V;simp only[kI,kl];omega
 ·obtain⟨E,X,rfl⟩:=List.mem_map.1 ai;obtain⟨y,D,rfl⟩:=ab E X;exact ac y D
 ·obtain⟨y,D,M⟩:=an.all aA ay;exact⟨_,List.mem_map.2 ⟨sP y,Y.mem_iff.2 (H.all y D (ap _)),rfl⟩,M⟩
 ·rw[Y.length_eq];exact H.len
 ·rw[bU,Y.length_eq];exact H.len
 ·obtain⟨y,D,aa⟩:=ab J[O] (ah _);rw[eS,aa];have V:=(H.cur y D).1.length_eq;have Z:(.slice T k U:Value).ownBlock≠some y.g:=λM=>ag.2 y.g M (.inr (.inr ⟨y,D,rfl⟩));have W:=H.SC.cur D V;refine⟨lu.kept ⟨rfl,V,W.rd⟩ ao.size λa M=>?_,λa M=>?_⟩
  ·obtain rfl:((Jp y.g 0):Addr)=a:=by simpa [sP] using M
   exact ao.block _ (W.1.lt y.g rfl).2 Z
  obtain rfl:((Jp y.g 0):Addr)=a:=by simpa [sP] using M
  exact Z
 ·obtain⟨y,D,rfl⟩:=ab E X;exact gA (H.SC.cur D (H.cur y D).1.length_eq)
 obtain⟨E,X,rfl⟩:=List.mem_map.1 ai;obtain⟨y,D,rfl⟩:=ab E X;have K:=(ac y D).2.1.length_eq;have af:=sd rows y.id;show(Q y.id).length<=_;omega
theorem JS {y:Type}(f:y->y)(l:List y)(i:Nat)(h:i<l.length)(h2:i<((l.take i).map f ++ l.drop i).length):((l.take i).map f ++ l.drop i)[i]=l[i]:=by
 rw[cK (by simp;omega)];simp only[List.getElem_drop,bU,aF];congr 1;omega
theorem JV {y:Type}(f:y->y)(l:List y)(i:Nat):((l.take i).map f ++ l.drop i).length=l.length:=by simp;omega
theorem SP {y:Type}(f:y->y)(l:List y)(i:Nat)(h:i<l.length):((l.take i).map f ++ l.drop i).set i (f l[i])=(l.take (i+1)).map f ++ l.drop (i+1):=by
 have D:((l.take i).map f).length=i:=by simp;omega
 rw[List.set_append_right _ _ Jo,D,fG,dm h,bG,aO h,cH,au];rfl
theorem join_none {l:List eP}{s:eP}(h:∀x∈l,x.ID≠s.ID):iR l s=s:=by
 unfold iR;rw[ke.2 λx D y=>h x D (congrArg dQ y)]
theorem join_some {l:List eP}{s:eP}(E:Up kI l){j:Nat}(D:j<l.length)(h:l[j].ID=s.ID):iR l s=⟨s.ID,cG kS l[j].L s.L⟩:=by
 unfold iR;have y:=lD E.once (ah D);rw[show kI s=kI l[j] by simp[kI,h],y]
theorem Ik {d:Int}{xs:List ej}(h:ou d xs=true):∃h:qo d xs<xs.length,xs[qo d xs].ID=d:=by
 unfold ou at h;split at h
 ·rename_i y;exact⟨y,by simpa using h⟩
 cases h
theorem Ij {d:Int}{xs:List ej}(H:xs.Pairwise λa b=>a.ID<b.ID)(h:ou d xs=false):∀x∈xs,x.ID≠d:=by
 intro x T U;obtain⟨y,K,rfl⟩:=bz T;have M:=BB ej.ID d H y K;have V:qo d xs<=y:=ft λD=>Jw (M.2 D);have E:qo d xs<xs.length:=Jo;have O:=BB ej.ID d H (qo d xs) E;have W:¬xs[qo d xs].ID<d:=λD=>absurd (O.1 D) (by unfold qo;omega);unfold ou at h;rw[dif_pos E] at h;have X:xs[qo d xs].ID≠d:=by simpa using h
 rcases et (qo d xs) y with J|J
 ·have:=List.pairwise_iff_getElem.1 H _ _ E K J;omega
 have Q:qo d xs=y:=Jo;have D:xs[qo d xs].ID=xs[y].ID:=by congr 1;simp only[Q]
 omega
theorem Tq {w:JW}{A:JA}{xs:List ej}{l:List eP}(h:fI w A xs l)(M:Up kI l):xs.Pairwise λa b=>a.ID<b.ID:=by
 rw[dS];intro y D H K J;have T:=h.len;have E:=List.pairwise_iff_getElem.1 M y D Jo Jo J;have O:=(h.at_ y H).id;have Q:=(h.at_ D K).id;simp only[kI,kl] at E;omega
theorem _root_.Go.Proofs.YtibmlemoghcbkaaGreatDoor.bP.addr {R:Nat->Prop}{e:TypeId}{size n c:Nat}{a:Addr}{xs:List Value}{w:JW}(h:bP R e size (.slice (some a) n c) n xs w):¬R a.block:=by
 rcases h.1.2 with⟨y,-⟩|⟨D,E,H,y,-⟩
 ·simp at y
 simp only[Value.slice.injEq,Option.some.injEq] at y;obtain⟨rfl,-⟩:=y;exact h.2 D rfl
theorem Pg {l:List eP}{s:eP}(h:s.L≠[]):(iR l s).L≠[]:=by
 unfold iR;split
 ·exact h
 exact Ar _ _ h
theorem lu.blk {w:JW}{x:ej}{s:eP}(h:lu w x s)(H:s.L≠[]){a:Addr}(D:x.A=some a):a.block<w.heap.size:=by
 have K:=h.len;have M:0<s.L.length:=List.length_pos_iff.2 H;obtain⟨J,O,y,E,-⟩:=h.rd.2 Jo;rw[D] at y;obtain rfl:=Option.some.inj y;exact E
theorem LR {l:List eP}{s:eP}(h:∀x∈l,x.L.length<=1000):(iR l s).L.length<=1000+s.L.length:=by
 unfold iR;split
 ·omega
 rename_i y D;have E:=uI kS y.L s.L;have H:=h y (jd D).1;show(cG kS y.L s.L).length<=_;omega
theorem sj.o {y B:Nat}{J:JA}{m c:Nat}{xs:List ej}{l:List eP}{w:JW}(h:sj B J m c xs l w)(hB:y<=B)(T:∀j,(h:j<xs.length)->∀a,xs[j].A=some a->y<=a.block)(V:y<=w.heap.size)(U:∀s∈l,s.L≠[]):fP y 68 (.slice J m c) xs l w:=by
 refine⟨λj=>(.slice J m c:Value).ownBlock≠some j/\j<w.heap.size,λO M=>⟨λQ=>h.lie.2 O Q Jo,Jo⟩,λO M=>M.2,?_,by rw[h.len,h.Gt],λH D E=>⟨(h.at_ H D E).1,λa K=>⟨⟨(h.at_ H D E).2 a K,(h.at_ H D E).1.blk (U _ (ah E)) K⟩,T H D a K⟩⟩⟩;rw[h.len];exact h.lie.shift λH D E=>E.1 D
theorem MO {w T:JW}{A X U:JA}{m c4:Nat}{xs H:List ej}{l M:List eP}(hA:fI w A xs l)(Q:fI w X H M)(af:∀s∈l,s.L≠[])(ag:∀s∈M,s.L≠[])(ad:∀x∈xs,x.n<=x.c)(ae:∀x∈H,x.n<=x.c)
 (V:bP (λj=>j<w.heap.size) 68 2 (.slice U m c4) m ((cG kV xs H).flatMap cn) T) (W:m=(cG kV xs H).length) (ac:Below w.heap.size w T):sj w.heap.size U m c4 (cG kV xs H) (cG kI l M) T:=by
 have Z:CH (λx s=>lu w x s/\∀y,x.A=some y->y.block<w.heap.size) xs l:=CH.of hA.len λj D E=>⟨hA.at_ j D,λy K=>(hA.at_ j D).blk (af _ (ah E)) K⟩;have aa:CH (λx s=>lu w x s/\∀y,x.A=some y->y.block<w.heap.size) H M:=CH.of Q.len λj D E=>⟨Q.at_ j D,λy K=>(Q.at_ j D).blk (ag _ (ah E)) K⟩;have O:=Md (κ:=kV) (κ':=kI) (λx s J=>by simp[kV,kI,J.1.id]) Z aa;refine⟨V,W.symm,by rw[O.len,W],λj D E=>⟨(O.get j D E).1.below ac,λy K Y=>?_⟩,λx ai=>?_⟩
 ·have ab:=(O.get j D E).2 y K;exact V.2 _ Y ab
 rcases mem_merge _ _ x ai with J|J
 ·exact ad x J
 exact ae x J
theorem Qc {R:Nat->Prop}{e:TypeId}{size n c:Nat}{A:JA}{xs:List Value}{w:JW}(h:bP R e size (.slice A n c) n xs w):c<=maxLen:=by
 rcases h.1.2 with⟨y,rfl⟩|⟨H,D,E,y,J,K,O,M,-⟩
 ·simp at y;omega
 simp at y;omega
def TL (D k J:Nat)(H:JA)(l E:List eP)(w:JW)(iv:Value)(wr:JW):Prop:=∃(y:Nat)(K:List ej),iv=Ji y/\y<=k/\
 sj D H k J K ((E.take y).map (iR l) ++ E.drop y) wr/\Below D w wr/\D<=wr.heap.size
def TM (H J m c4:Nat)(M:JA)(out:List eP)(w:JW)(iv:Value)(wr:JW):Prop:=∃(E:Nat)(D:List ej),iv=Ji E/\E<=m/\
 sj J M m c4 D out wr/\(∀y,(h:y<D.length)->y<E->D[y].c<=maxLen/\∀K,D[y].A=some K->H<=K.block)/\Below H w wr/\J<=wr.heap.size
theorem vt (A:JA)(ca:Nat)(xs:List ej)(l:List eP)(cK:JA)(cZ aV:Nat)(rows:List Row)(w:JW)(h:fI w A xs l)(hr:Rd w 3 cK aV (rows.flatMap aR))(df:rows.length=aV)(dX:aV<=cZ)(c6:xs.length<=ca)
 (b6:jP l) (ho:Once kR rows) (D:∀r∈rows,Row.ok r) (E:∀x∈xs,x.n<=x.c) (bC:∀s∈l,s.L.length<=1000) (b2:xs.length<=1000) (dV:aV<=1000) (b4:∀dM,(cF rows dM).length<20) (H:∀L:List Int,L.Nodup->(∀i∈L,∃r∈rows,r.ID=i)->L.length<=12):
 JC 62 #[.slice A xs.length ca,.slice cK aV cZ] w λe w'=>∃v bH out,e= .returned v/\fP w.heap.size 68 v bH out w'/\(∀x∈bH,x.n<=x.c/\x.c<=maxLen)/\jV l rows out/\Below w.heap.size w w':=by
 obtain⟨M,cr⟩:=Je w.heap.size;have aW:=Jh h;have dp:=Jh hr;have bo:=Jh df;have dn:=Jh D;have bW:=Jh cr;have bX:=Jh b6;have cm:=Jh ho;have dv:=Jh b4;have Jq:=Jh H;have cN:=Jh E;have ci:=Jh bC;have dt:=Jh c6;have y:TJ M w rows (Ji (0:Nat)) (w.alloc (.map #[] 0)):=by
  refine⟨0,0,[],rfl,Jo,Jo,?_,iV.nil _ _,rU.nil,?_,by simp;omega⟩
  ·rw[Pz,<-cr];exact MapAt.made _
  rw[<-cr];exact Below.one _ _
 have dq:=Jh y;have dd:prog.follows .mixedOrders=true:=Jk;clear h hr df D b6 ho b4 H y E bC c6;have cA:=@run_makeMap prog;go_enter Tryz.func62,Tryz.ntmps62;go_wp2_with fail;go_loopw [20] (λaI wr=>TJ M w rows aI wr) (λaI _=>aV - (intOf aI).toNat)
 case atStart=>exact dq.o
 obtain⟨i,bd,U,rfl,bk,b7,bL,bv,aP,ak,af⟩:=hrel;have ct:Below w.heap.size w wr:=by rw[bW.o];exact ak
 by_cases dK:i<aV
 ·have az:i<rows.length:=Jw bo.o;obtain⟨bZ,cb,rfl,c8,ap,aA,cc⟩:=jj (dp.o.below ct) az;have K:=dn.o rows[i] (ah az);obtain⟨r,hr⟩:=Je (rows[i]);have bj:=Jh (show rows.take (i+1)=rows.take i ++ [r] by rw[aO az,hr]);rw[hr] at ap aA cc K;have bI:=Jh bL;have bG:=Jh bv;have aX:=Jh aP;have aN:=Jh ak;have aq:=Jh af;have aD:=Jh K;have bK:=Jh bk;have cl:=Jh b7;obtain⟨Q,H,V⟩:=r;simp only at ap aA cc;have dL:(i:Int)<aV:=Jo;have bM:i<=1000:=Jo;obtain⟨J,aY⟩:∃aE,wr.heap.size=aE:=⟨_,rfl⟩;obtain⟨D,X,y,ai,aB⟩:∃D,wr.alloc (.cells #[Ji Q,Ji H,Ji V] 130)=D/\Below wr.heap.size wr D/\D.heap.size=J+1/\D.heap[J]?=some (.cells #[Ji Q,Ji H,Ji V] 130 (0,0)):=
   ⟨_,rfl,Below.one _ _,by simp[aY],by rw[<-aY];exact heap_alloc_new _ _⟩
  have W:=bL.below y;have E:=bv.below y;obtain⟨Y,am,aK⟩:=bv.look H;have O:=aK.below y;have au:Y.ownBlock≠some J:=λe=>Jw ((aK.1.lt _ e).2);have ax:Y.ownBlock≠some M:=λe=>aK.2 _ e (.inl Jo);have ae:Below M w D:=ak.trans (y.mono Jo);have bA:=nu K.2.1;have aQ:∀w',MapAt prog 3 w' M bd (qT U)->(eQ 258 (.map (some M)) (.int .i64 H) false).run prog w'= .ok Y w':=λw' h=>by rw[<-am];exact h.look lf underlying258 Jk bA
  have bg:=Jh X;have bJ:=Jh aQ;have ar:=Jh O;have bl:=Jh au;have bm:=Jh ax;have aM:=Jh W;have a8:=Jh E;have bh:=Jh ae;have ag:=Jh ai;have ad:=Jh aB;have bi:=Jh bA;have av:=Jh aY;clear bL bv aP ak ct af K bk b7 hr az X aQ O W E y ae ai aB bA am au ax aK;go_wp2_with fail;try simp only[bg.o]
  have bn:D.drew.cell? (Jp J 0)=some (.int .i64 Q)/\D.drew.cell? (Jp J 1)=some (.int .i64 H)/\D.drew.cell? (Jp J 2)=some (.int .i64 V)/\MapAt prog 3 D.drew M bd (qT U):=
   ⟨(aa ad.o 0).trans rfl,(aa ad.o 1).trans rfl,(aa ad.o 2).trans rfl,aM.o.kept rfl⟩
  refine cB (n:=14) (S:=λw'=>w'.cell? (Jp J 0)=some (.int .i64 Q)/\w'.cell? (Jp J 1)=some (.int .i64 H)/\w'.cell? (Jp J 2)=some (.int .i64 V)/\MapAt prog 3 w' M bd (qT U)) dd 14 rfl bn (λaC=>?_);refine JH 0 (h:=JH 1 (h:=JH 2 (h:=JH 3 (h:=JH 4 (h:=JH 5 (h:=JH 6 (hy:=by(intro w bp;obtain⟨bO,bR,bS,bF⟩:=bp;have bT:=bJ.o _ bF;go_simp)<;>with_reducible rfl) (h:=JH 7 (h:=JH 8 (h:=JH 9 (h:=JH 10 (h:=JH 11 (h:=?_))))))))))));refine JM 12 (h:=λbu aZ=>?_);go_simp;have ae:Below D.heap.size D (D.drew.alloc (.cells #[Ji Q,Ji V] 113)):=(Below.one D.drew (.cells #[Ji Q,Ji V] 113)).h;have am:=Jh ae;clear ae;refine aZ.out _ _ ⟨al am.o ((aa ad.o 0).trans rfl),al am.o ((aa ad.o 1).trans rfl),al am.o ((aa ad.o 2).trans rfl),aM.o.below am.o⟩ (λaC=>?_);clear aZ bu;try simp only[an,JY]
  refine JM 13 (h:=λbu aZ=>?_);have bE:=ar.o.form;have ba:bP (λy=>y<J+1/\Y.ownBlock≠some y) 113 2 Y (oq U H).length ((oq U H).flatMap ay) (D.drew.alloc (.cells #[Ji Q,Ji V] 113)):=(ar.o.below am.o).shift λau b4 E=>E.2 b4;have bx:(oq U H).length<=1000:=by rw[aX.o.old];have E:=sd (rows.take i) H;have W:=List.length_take_le i rows;omega
  refine bN rfl (.tmp 30) (.tmp 36) 66 rfl 113 (.agg #[Ji 0,Ji 0]) 2 16 underlying66 qA rfl Jd (λy=>y<J+1/\Y.ownBlock≠some y) (oq U H).length _ Y _ ba rfl (λy O=>by have:=ag.o;have bt:y<J+1:=O.1;simp;omega) _ 1 _ [Ji Q,Ji V] rfl (jX D.drew _ _) (by intro dO bQ;simp at bQ;rcases bQ with rfl|rfl<;>rfl) Jm Jo ?_;intro dP bf a7 aT cv b1;obtain⟨cU,br,rfl⟩:=a7.form;obtain⟨aH,rfl,bw,bD⟩:=a7.own Jo;have ax:∀X,X<J+1->Y.ownBlock≠some X->bf.heap[X]?=D.heap[X]?:=λX aF ai=>(aT.block X ⟨aF,ai⟩).trans (heap_alloc_old D.drew _ (by have:=ag.o;show X<D.heap.size;omega));have a1:bf.heap.size≥J+2:=by have E:=aT.size;have W:=ag.o;simp at E;omega
  have aS:=a8.o.old (by have:=ag.o;have:=aq.o;have:=av.o;omega) H;have ai:iV (M+1) (GG U H aH br ⟨Q,V⟩) bf:=a8.o.put (a7.shift λy O aB=>by
   rcases b1 with E|⟨au,E,W⟩
   ·exact ar.o.2 y (E.symm.trans O) aB
   rw[O] at E;obtain rfl:=Option.some.inj E;have cq:=aS y aB;simp at W;omega) λy aB=>ax y (Jx (aS y aB) ag.o) λe=>ar.o.2 y e aB
  have aU:MapAt prog 3 bf M bd (qT U):=aM.o.kept (ax M (Jx aq.o av.o) bm.o);have ae:Below M w bf:=bh.o.trans ⟨aT.os,aT.tape,aT.output,Jw ag.o,λX aF=>ax X (Jx aq.o av.o) λe=>ar.o.2 X e (.inl Jo)⟩;obtain⟨bV,b8,aJ,aF,a6⟩:=aU.put (t:=258) lf underlying258 (by have:=cl.o;unfold maxLen;omega) bi.o (.slice (some (Jp aH 0)) ((oq U H).length+1) br);have bc:=ax J Jo bl.o;have aL:=Jh (bc.trans ad.o);refine aZ.out _ _ ⟨(aa aL.o 0).trans rfl,(aa aL.o 1).trans rfl,(aa aL.o 2).trans rfl,aU⟩ (λaC=>?_);have be:=Jh (Ja ai (Ja ae (Ja aJ (Ja aF (Ja a6 a1)))));clear aZ bu aT a7 cv b1 ax ai aU ae aJ aF a6 a1 aS bc bx ba bE aC bw bD;try simp only[an,JY]
  refine cy Jk ?_;go_wp2_with fail;obtain⟨ai,ae,aJ,aF,a6,a1⟩:=be.o;go_roundw
  case rel=>
   refine⟨i+1,if((qT U) (.int .i64 H)).isSome then bd else bd+1,GG U H aH br ⟨Q,V⟩,by go_num,Jw bo.o,?_,aJ.ext λx=>PC _ _ _ _ _,ai.kept λy O=>?_,?_,ae.trans (aF.uj (ac _) (Jx aq.o av.o)),by have:=aq.o;have:=av.o;omega⟩
   ·have:=cl.o;split<;>omega
   ·obtain⟨e,ax,rfl⟩:=O;exact aF.block _ ((ai.at_ e ax).1.lt e.g rfl).2 λaS=>(ai.at_ e ax).2 e.g rfl (.inl (Jw (Option.some.inj aS)))
   rw[bj.o];exact aX.o.put ⟨Q,H,V⟩ aH br
  simp[intOf];omega
 obtain rfl:i=aV:=Jw bo.o;have V:rows.take i=rows:=aw (Jw bo.o);rw[V] at aP;obtain⟨ar,Q⟩:∃aE,wr.heap.size=aE:=⟨_,rfl⟩;obtain⟨dk,b9,D,Y,ad⟩:=bL.range (t:=258) lf underlying258;have J:Below wr.heap.size wr dk:=Y.below' rfl;have aX:=Jh aP;have cg:TK M ar bd U w (Jn) dk:=by
  refine⟨0,0,none,[],λi=>oq U i,_,_,rfl,rfl,by rw[Q] at D;exact D,?_,?_,bP.nil _ _ _ _,Js,?_,cj,ak.trans (J.mono Jo),Jo,Jo⟩
  ·rw[KU λe ax=>by rw[aP.old,(aP.each e ax).1]];exact bv.below J
  ·intro e ax;refine⟨by rw[aP.old,(aP.each e ax).1],λH=>?_⟩;rw[Ej ax] at H;cases H
  intro e ax H;rw[Ej ax] at H;cases H
 rw[Q] at b9;have cg:=Jh cg;have cl:=Jh b7;have dL:=Jf ((i:Int)<(i:Int));clear bL bv aP ak ct af D Y ad J V bk b7 Q dK;go_wp2_with fail;go_loopw [8] (λD wr=>TK M ar bd U w D wr) (λ_ wr=>wr.rangeLeft M ar)
 case atStart=>exact cg.o
 obtain⟨X,bi,bp,bE,bY,left,dU,rfl,av⟩:=hrel;rcases av.ran.next lf 0 with⟨dE,cx,b9⟩|⟨d1,v,kl,cH,dD,bA,aQ,de,b9,dg,dc,cu,dh,dG⟩
 ·have Q:∀D∈U,sP D∈bE:=λD H=>av.all D H (cx _);have db:X<=12:=by
   have E:=Jq.o (bE.map ej.ID) (by unfold List.Nodup;rw[cS];exact av.once) (λi bk=>by
    obtain⟨bm,bS,rfl⟩:=List.mem_map.1 bk;obtain⟨D,H,-,rfl⟩:=av.of bm bS;have W:=(aX.o.each D H);obtain⟨s,af⟩:=List.exists_mem_of_ne_nil _ W.2;rw[W.1] at af;obtain⟨r,hr,-⟩:=List.mem_map.1 af;obtain⟨cC,cD⟩:=List.mem_filter.1 hr;exact⟨r,cC,by simpa [sP] using cD⟩)
   rw[bU,av.len] at E;exact E
  have J:=Jh av;have dw:=Jh cx;clear av cx dE Q;go_wp2_with fail;refine(Na (uU M ar U) bp bi X bE wr J.o.lie J.o.len db).mono ?_;rintro aY bT ⟨rfl,bH,am,aB,bK,bj⟩;have aF:bH.Pairwise λae aE=>¬aE.ID<ae.ID:=cQ (λ{ae aE} Y=>Jo) aB;obtain⟨ad,V,K,ag⟩:=GI J.o dw.o aX.o cm.o am aF bK bj;have Q:Below M w bT:=J.o.sR.trans (bj.below (Jw J.o.lt) λy O=>ft λY=>J.o.lie.2 y O (.inl Jo));have aQ:ad.length=X:=K.Gt;have ai:sj M bp X bi bH ((ad.take 0).map (iR l) ++ ad.drop 0) bT:=by simpa using K
  have dr:=Jh (show TL M X bi bp l ad w (Ji (0:Nat)) bT from⟨0,bH,rfl,Jo,ai,Q,by have:=J.o.lt;have:=bj.size;omega⟩);have ck:=Jh V;have cT:=Jh ag;have bJ:=Jh aQ;clear am aB bK bj aF V K ag Q ai aQ;go_wp2_with fail;go_loopw [63] (λaI wr=>TL M X bi bp l ad w aI wr) (λaI _=>X - (intOf aI).toNat)
  case atStart=>exact dr.o
  obtain⟨Q,bl,rfl,dY,K,ak,af⟩:=hrel;have bw:Below w.heap.size w wr:=by rw[bW.o];exact ak
  by_cases cz:Q<X;rotate_left
  ·obtain rfl:Q=X:=Jo;have aZ:(ad.take Q).map (iR l) ++ ad.drop Q=ad.map (iR l):=by rw[aw (Jw bJ.o),List.drop_of_length_le (Jw bJ.o),cV]
   rw[aZ] at K;have dj:Q<=bi:=gA K.lie;have am:=aW.o.below bw;have aB:=Gw A xs.length ca xs bp Q bi bl wr am.rd rfl dt.o K.lie.rd K.len dj Jo;have a8:∀s∈ad.map (iR l),s.L≠[]:=λs aU=>by
    obtain⟨ap,bt,rfl⟩:=List.mem_map.1 aU;exact Pg (ck.o.can.each ap bt).2
   have bh:=Jh aB;have aD:=Jh K;have aN:=Jh ak;have c1:=Jh am;have aq:=Jh af;have cX:=Jh a8;have du:=Jf ((Q:Int)<(Q:Int));clear K ak bw af aZ aB am a8 cz;go_wp2_with fail;refine bh.o.mono ?_;rintro aY aJ ⟨cI,a8,cJ,rfl,bx,bR,aH,ai⟩;have b8:=Td bX.o ck.o.can (ck.o.look cm.o);obtain⟨out,am⟩:=Je (cG kI l (ad.map (iR l)));have aM:=MO c1.o aD.o.yy (λs aU=>(bX.o.each s aU).2) cX.o cN.o aD.o.cap aH bx ai;rw[am] at b8 aM;obtain⟨bV,aZ⟩:=Je wr.heap.size;rw[aZ] at aM;have cP:=Jh (show TM M bV a8 cJ cI out w (Ji (0:Nat)) aJ from⟨0,_,rfl,Jo,aM,λy E W=>absurd W Jo,aN.o.trans (ai.mono aq.o),Jw ai.size⟩);have bD:∀s∈out,s.L.length<=100000:=λs aU=>by
    rw[<-am] at aU;rcases mem_merge _ _ s aU with Y|Y
    ·have:=ci.o s Y;omega
    obtain⟨ap,bt,rfl⟩:=List.mem_map.1 Y;have bu:=LR (s:=ap) ci.o;have aF:=cT.o ap bt;have:=bo.o;omega
   have dy:a8<=2000:=by have Y:=uI kV xs bl;have bu:=aD.o.len;omega
   have cY:=Jh bD;have cE:=Jh b8;have b3:=Jh (show M<=bV by have:=aq.o;omega);clear bx bR aH ai b8 aM am aZ bD;go_wp2_with fail;go_loopw [99] (λaI wr=>TM M bV a8 cJ cI out w aI wr) (λaI _=>a8 - (intOf aI).toNat)
   case atStart=>exact cP.o
   obtain⟨am,bR,rfl,ds,K,bx,ak,af⟩:=hrel;by_cases b0:am<a8;rotate_left
   ·obtain rfl:am=a8:=Jo;have aA:=Jf ((am:Int)<(am:Int));have ag:=K.o b3.o (λy E ae aC=>(bx y E (Jw K.len)).2 ae aC) (Jw b3.o) (λs aU=>(cE.o.1.each s aU).2);have ap:=Jh ag;have au:=Jh (show ∀x∈bR,x.n<=x.c/\x.c<=maxLen from λx az=>by
     obtain⟨y,O,rfl⟩:=bz az;exact⟨K.cap _ (ah O),(bx y O (Jw K.len)).1⟩)
    have aN:=Jh ak;clear ag K bx ak af b0;go_wp2_with fail;go_ret;exact⟨_,bR,out,rfl,by rw[bW.o];exact ap.o,au.o,cE.o,by rw[bW.o];exact aN.o⟩
   have a6:am<bR.length:=by rw[K.len];exact b0
   have cM:am<out.length:=by rw[K.Gt];exact b0
   obtain⟨au,rfl,dJ,dF⟩:=K.lie.own Jo;obtain⟨bZ,cb,V,c8,ap,aA⟩:=pE K.lie.rd a6;obtain⟨rfl,rfl⟩:au=bZ/\0=cb:=by simpa using V
   simp only[bB] at ap aA;have cf:=K.lie.cell (am*2+1);have ag:=K.at_ am a6 cM;obtain⟨x,bc⟩:=Je (bR[am]);obtain⟨s,aS⟩:=Je (out[am]);have ba:x.ID=(bR[am]'a6).ID:=by rw[bc]
   have aI:out.set am s=out:=by rw[<-aS];exact List.set_getElem_self _
   have bO:s.L.length<=100000:=by rw[<-aS];exact cY.o _ (ah cM)
   rw[bc] at ap aA ag;rw[aS] at ag;obtain⟨cd,bF,bg,bG⟩:=x;simp only at ap aA ag ba;have aB:=xh bF bG bg s.L wr ag.1.rd ag.1.len (by have:=ag.1.len;simp only at this;omega);have bh:=Jh aB;have aD:=Jh K;have aN:=Jh ak;have aq:=Jh af;have cR:=Jh bx;have bn:=Jh ag;have co:=Jh ba;have da:=Jh aI;have dx:(am:Int)<a8:=Jo;clear K ak af bx ag ba aI aB aS bc V;go_wp2_with fail;refine bh.o.mono ?_;rintro aY dB ⟨ce,di,rfl,aI,aZ⟩;have bD:=aD.o.below aZ;have u1:=al aZ aA;have dC:=bD.lie.cell (am*2+1);have cO:=Jh (Ja aI (Ja aZ bD));have cW:=Jh (bq _ _ aA);clear aI aZ bD ap aA cf;go_wp2_with fail;go_roundw
   case rel=>
    obtain⟨aI,aZ,bD⟩:=cO.o;have dH:au<wr.heap.size:=cW.o;have dm:bV<=au:=ft (aD.o.lie.2 au rfl);have dl:=b3.o;have dz:=aq.o;have dA:=aZ.size;have cL:∀ae,ce=some ae->wr.heap.size<=ae.block:=λae aC=>by
     subst aC;exact ft aI.addr
    have bM:=bD.set (i:=am) b0 (A:=ce) (n:=bg) (k:=di) (I:=s.ID) (L:=s.L) (bn.o.1.id.trans co.o) bn.o.1.len aI.rd (λae aC=>Jw (cL ae aC)) (gA aI);rw[show(⟨s.ID,s.L⟩:eP)=s from rfl,da.o] at bM;refine⟨am+1,_,by go_num,Jo,bM,λy E W=>?_,(aN.o.trans (aZ.mono Jo)).setCell (p:=(Jp au (am*2+1))) (by show M<=au;omega) _,by simp[aj];omega⟩;rw[fk] at E;by_cases O:am=y
    ·subst O;rw[List.getElem_set_self];refine⟨Qc aI,λae aC=>?_⟩;have:=cL ae aC;omega
    rw[List.getElem_set_ne O];exact cR.o y E Jo
   simp[intOf];omega
  have a6:Q<bl.length:=by rw[K.len];exact cz
  have bx:Q<ad.length:=by rw[bJ.o];exact cz
  obtain⟨au,rfl,dJ,dF⟩:=K.lie.own Jo;obtain⟨bZ,cb,V,c8,ap,aA⟩:=pE K.lie.rd a6;obtain⟨rfl,rfl⟩:au=bZ/\0=cb:=by simpa using V
  simp only[bB] at ap aA;have ag:=K.at_ Q a6 (by rw[JV];exact bx);rw[JS _ _ _ bx] at ag;have a8:=SP (iR l) ad Q bx;have b3:=K.cap bl[Q] (ah a6);obtain⟨s,aS⟩:=Je (ad[Q]);have bO:=cT.o ad[Q] (ah bx);rw[aS] at ag a8 bO;obtain⟨x,bc⟩:=Je (bl[Q]);have ba:x.ID=(bl[Q]'a6).ID:=by rw[bc]
  rw[bc] at ap aA ag b3;have bR:=Tq aW.o bX.o.up;obtain⟨cd,bF,bg,bG⟩:=x;simp only at ap aA ag b3 ba;have aB:=EQ ⟨cd,bF,bg,bG⟩ A ca xs.length xs wr (aW.o.rd.below bw) rfl Jo bR;simp only at aB;have aD:=Jh K;have aN:=Jh ak;have cL:=Jh bw;have aq:=Jh af;have bn:=Jh ag;have dy:=Jh a8;have dQ:=Jh bR;have co:=Jh ba;have dA:=Jh bO;have d0:(Q:Int)<X:=Jo;cases bD:ou cd xs with
  |false=>
   rw[bD] at aB;have ai:=join_none (l:=l) (s:=s) λbm bS V=>by
    obtain⟨y,O,rfl⟩:=bz bS;have am:y<xs.length:=Jw aW.o.len;refine Ij bR bD xs[y] (ah am) ?_;rw[<-(aW.o.at_ y am).id,V];exact ag.1.id
   have cA:(ad.take (Q+1)).map (iR l) ++ ad.drop (Q+1)=(ad.take Q).map (iR l) ++ ad.drop Q:=by
    rw[<-a8,ai];have aF:((ad.take Q).map (iR l) ++ ad.drop Q)[Q]'(by rw[JV];exact bx)=s:=by rw[JS _ _ _ bx,aS]
    conv=>lhs;rw[<-aF]
    exact List.set_getElem_self _
   have bh:=Jh aB;have cO:=Jh cA;clear cA;clear K ak bw af ag a8 bR ba aB bD ai aS bc bO V;go_wp2_with fail;refine bh.o.mono ?_;rintro aY be ⟨rfl,aL⟩;have am:=Jh aL;clear aL;go_wp2_with fail;go_roundw
   case rel=>
    exact⟨Q+1,bl,by go_num,Jo,by rw[cO.o];exact aD.o.below am.o,aN.o.trans (am.o.mono aq.o),by have:=am.o.size;have:=aq.o;omega⟩
   simp[intOf];omega
  |true=>
   rw[bD] at aB;obtain⟨aJ,aH⟩:=Ik bD;obtain⟨aU,dI⟩:∃y,qo cd xs=y:=⟨_,rfl⟩;simp only[dI] at aJ aH aB;have da:aU<l.length:=Jw aW.o.len;have ai:=aW.o.at_ aU aJ;have bM:=join_some (s:=s) bX.o.up da (by rw[ai.id,aH];exact ag.1.id.symm);rw[bM] at a8;have a1:=cN.o xs[aU] (ah aJ);have bC:=ci.o l[aU] (ah da);obtain⟨c1,dj,b0,b5,bV,aM⟩:=pE aW.o.rd aJ;obtain⟨bm,di⟩:=Je (xs[aU]);obtain⟨cE,cY⟩:∃s,l[aU]=s:=⟨_,rfl⟩;rw[di] at bV aM ai a1 aH;rw[cY] at ai a8 bC;obtain⟨d2,cI,ce,cJ⟩:=bm;simp only at bV aM ai a1 aH;have dm:=Jh b0;have dZ:(aU:Int)<xs.length:=Jo;have cf:=K.lie.cell (Q*2+1);have bh:=Jh aB;have cO:=Jh bM;have dB:=Jh aM;have dT:=Jh cf;have ds:=Jh ai;have cW:=Jh aA;have dR:=Jh ap;have bI:=Jh a1;have du:=Jh b3;have dx:=Jh bC;have dz:=Jh a8;have cM:s.L.length=bg:=bn.o.1.len;have cX:cE.L.length=ce:=ai.len;have cP:=Jh cM;have cR:=Jh cX;clear K ak bw af ag a8 bR ba aB bD bM aS bc bO V di cY aH a1 b3 bC bV aM ai b0 cf dy aJ cM cX;go_wp2_with fail;refine bh.o.mono ?_;rintro aY be ⟨rfl,aL⟩;have am:=Jh aL;have cM:=Jh (cL.o.trans (aL.mono (Jw cL.o.size)));have u1:be.cell? (Jp au (Q*2+1))=some (.slice bF bg bG):=al aL cW.o;have u2:be.cell? (Jp c1 (dj+aU*2+1))=some (.slice cI ce cJ):=al cM.o dB.o
   have cX:=Jh u1;have cY:=Jh u2;obtain rfl:=dm.o;clear aL u1 u2 ap aA;go_wp2_with fail;refine cB (n:=13) (S:=λw'=>w'.cell? (Jp au (Q*2+1))=some (.slice bF bg bG)/\w'.cell? (Jp c1 (dj+aU*2+1))=some (.slice cI ce cJ)) dd 13 rfl ⟨cX.o,cY.o⟩ (λaC=>?_);refine JH 0 (h:=JH 1 (h:=JH 2 (h:=JH 3 (h:=JH 4 (h:=JH 5 (h:=JH 6 (h:=JH 7 (h:=JH 8 (h:=JH 9 (h:=JH 10 (h:=JH 11 (h:=?_))))))))))));refine JM 12 (h:=λbu aZ=>?_);go_simp;have dW:Below wr.heap.size wr be.drew:=am.o.drew;refine(Cr cI ce cJ cE.L bF bg bG s.L be.drew ((ds.o.rd.below cM.o).drew) cR.o bI.o ((bn.o.1.rd.below am.o).drew) cP.o du.o (by have:=cP.o;have:=cR.o;have:=dx.o;have:=dA.o;have:=bo.o;omega)).mono ?_;rintro aY aJ ⟨di,dN,dC,rfl,b0,bV,aH,ai⟩;refine aZ.out _ _ ⟨al ai.h cX.o,al ai.h cY.o⟩ (λaC=>?_);have aM:=(aD.o.below am.o).below ai.h;have d3:=aM.lie.cell (Q*2+1);have dl:=Jh (Ja b0 (Ja bV (Ja aH (Ja ai aM))));have dS:=Jh aC;have u5:=aC.1;clear aZ bu b0 bV aH ai aM aC;try simp only[an,JY]
   refine cy Jk ?_;go_wp2_with fail;go_roundw
   case rel=>
    obtain⟨b0,bV,aH,ai,aM⟩:=dl.o;have dH:au<aJ.heap.size:=bq _ _ u5;have aZ:au<wr.heap.size:=bq _ _ cW.o;have bM:=aM.set (i:=Q) Jo (A:=di) (n:=dN) (k:=dC) (I:=s.ID) (L:=cG kS cE.L s.L) (bn.o.1.id.trans co.o) b0.symm aH.rd (λae aC=>?_) bV
    ·rw[dz.o] at bM;refine⟨Q+1,_,by go_num,Jo,bM,((aN.o.trans (am.o.mono aq.o)).trans (ai.h.mono (Jx aq.o am.o.size))).setCell (p:=(Jp au (Q*2+1))) (ft (aD.o.lie.2 au rfl)) _,by have:=aq.o;have:=am.o.size;have:=ai.h.size;simp[aj];omega⟩
    subst aC;have Y:=aH.addr;intro V;have bu:=am.o.size;have aF:¬ae.block<be.heap.size:=Y;omega
   simp[intOf];omega
 obtain⟨e,ax,rfl,rfl⟩:=Py de;obtain⟨x,rfl,az,-⟩:=Maps.keyOf_int_inv underlying3 bA;obtain rfl:e.id=x:=by simpa using az
 unfold mo.val at b9 dG;have a1:=(av.cur e ax).1.length_eq;have aK:=av.SC.cur ax a1;have K:e.g≠ar:=λV=>by
  rcases aK.1.2 with⟨E,-⟩|⟨bF,bx,bD,E,-,W,-⟩
  ·simp[mo.val] at E
  simp only[mo.val,Value.slice.injEq,Option.some.injEq,Addr.mk.injEq] at E;obtain⟨⟨rfl,-⟩,-⟩:=E;rw[V] at W;exact av.ran.Z W
 have bR:M<e.g:=Nat.lt_of_not_le λY=>aK.2 e.g rfl (.inl Jo);have b5:e.g<wr.heap.size:=(aK.1.lt e.g rfl).2;have ag:bP (uf (M+1) U e.id) 113 2 (.slice (some (Jp e.g 0)) e.xs.length e.c) e.xs.length ((bY e.id).flatMap ay) cH:=aK.later λy O=>by
  obtain rfl:e.g=y:=by simpa [mo.val,aG] using O
  exact cu.block _ b5 (by simpa using K)
 have bg:e.xs.length<20:=by rw[(aX.o.each e ax).1];exact dv.o _
 have db:X<12:=by
  have E:=Jq.o ((bE ++ [sP e]).map ej.ID) (by
   unfold List.Nodup;rw[cS,gh];refine⟨av.once,Js,λae aC aE b2=>?_⟩;obtain rfl:aE=sP e:=by simpa using b2
   obtain⟨D,H,au,rfl⟩:=av.of ae aC;intro V;have aI:D.id=e.id:=V;rw[aI] at au;rw[aQ] at au;cases au) (λi bk=>by
   obtain⟨bm,bS,rfl⟩:=List.mem_map.1 bk;have:∃D∈U,bm=sP D:=by
    rcases List.mem_append.1 bS with E|E
    ·obtain⟨D,H,-,rfl⟩:=av.of bm E;exact⟨D,H,rfl⟩
    exact⟨e,ax,by simpa using E⟩
   obtain⟨D,H,rfl⟩:=this;have W:=(aX.o.each D H);obtain⟨s,af⟩:=List.exists_mem_of_ne_nil _ W.2;rw[W.1] at af;obtain⟨r,hr,-⟩:=List.mem_map.1 af;obtain⟨cC,cD⟩:=List.mem_filter.1 hr;exact⟨r,cC,by simpa [sP] using cD⟩)
  rw[bU,ab,av.len] at E;simp at E;omega
 have J:=Jh av;have ad:=Jh ax;have Q:=Jh (Ja aQ (Ja dg (Ja dc (Ja cu dh))));have bh:=Jh ag;have bI:=Jh a1;have aS:=Jh K;have bO:=Jh b5;clear av ax aQ dg dc cu dh de bA az ag a1 K b5 aK;go_wp2_with fail;refine(Cl _ e.g e.c e.xs.length (bY e.id) cH bh.o bI.o bg).mono ?_;rintro aY bT ⟨rfl,bK,bj⟩;have bl:=Jh bK;have ap:=Jh bj;clear bK bj;go_wp2_with fail;refine(Ie _ e.g e.c e.xs.length (bY e.id).reverse bT bl.o (by rw[List.length_reverse];exact bI.o) bg).mono ?_;rintro aY be ⟨rfl,ag,aD,aB,aq,aL⟩;have am:ag.Perm e.xs:=(aD.trans (List.reverse_perm _)).trans (J.o.cur e ad.o).1;have aM:ag.length=e.xs.length:=am.length_eq;have aA:∀i,(h:i+1<ag.length)->(a6:i<ag.length)->(ag[i+1].T == ag[i].T)=false:=λi h a6=>by
  have E:Once kS ag:=by
   refine Once.perm ?_ am.symm;rw[(aX.o.each e ad.o).1];exact nD cm.o _
  have W:=List.pairwise_iff_getElem.1 E i (i+1) a6 h Jo;refine beq_eq_false_iff_ne.2 λV=>W ?_;simp[kS,V]
 have K:=Jh (Ja am (Ja aM (Ja aB (Ja aq aL))));have bn:=Jh aA;clear aD aB aq aL am aM aA;go_wp2_with fail;refine(Dj (some (Jp e.g 0)) e.c e.xs.length ag be K.o.2.2.2.1.rd K.o.2.1 bn.o Jo).mono ?_;rintro aY aJ ⟨rfl,ai⟩;have aq:∀y,y<wr.heap.size->y≠e.g->aJ.heap[y]?=cH.heap[y]?:=λy O E=>by
  have cc:=Q.o.2.2.2.2;have aA:=ap.o.size;have aB:=K.o.2.2.2.2.size;exact((ai.block y Jo).trans (K.o.2.2.2.2.block y Jo E)).trans (ap.o.block y Jo E)
 have am:∀y,y<wr.heap.size->y≠e.g->y≠ar->aJ.heap[y]?=wr.heap[y]?:=λy O E W=>(aq y O E).trans (Q.o.2.2.2.1.block y O (by simpa using W));have aH:bP (uU M ar U) 68 2 (.slice bp X bi) X (bE.flatMap cn) aJ:=J.o.lie.later λy O=>am y (J.o.lie.1.lt y O).2 (λV=>J.o.lie.2 y O (.inr (.inr ⟨e,ad.o,V.symm⟩))) (λV=>J.o.lie.2 y O (.inr (.inl V)));have aD:wr.heap.size<=aJ.heap.size:=by
  have cc:=Q.o.2.2.2.2;have aA:=ap.o.size;have aB:=K.o.2.2.2.2.size;have aM:=ai.size;omega
 have bM:gm (uU M ar U) aJ:=λy O=>by
  have E:=J.o.lt;have W:=J.o.ran.lt;have cq:y<wr.heap.size:=by
   rcases O with O|rfl|⟨D,H,rfl⟩
   ·omega
   ·exact W
   exact((J.o.SC.cur H (J.o.cur D H).1.length_eq).1.lt D.g rfl).2
  omega
 have bm:=Jh aH;have aA:=Jh ai;have aZ:=Jh am;have aB:=Jh aq;have aU:=Jh aD;clear ai am aq aH aD;go_wp2_with (at_builtin;go_must (refine bb rfl (.tmp 52) (.tmp 56) 63 Jr 68 (.agg #[Ji 0,Jn]) 2 32 underlying63 sC rfl Jd (uU M ar U) X _ _ _ #[Ji e.id,.slice (some (Jp e.g 0)) e.xs.length e.c] rfl (by intro dO bQ;simp at bQ;rcases bQ with rfl|rfl<;>rfl) bm.o Jr bM Jr Jm Jo ?_;intro dP bf a7 aT cv b1;obtain⟨cU,br,rfl⟩:=a7.form;have bw:=Jh a7;have aq:=Jh aT;clear cv b1 a7 aT));go_roundw
 case rel=>
  have bS:=aq.o.size;have am:∀y,uU M ar U y->bf.heap[y]?=aJ.heap[y]?:=λy O=>aq.o.block y O;have aD:∀D∈U,(left (.int .i64 D.id) && !Lit.sameKey (.int .i64 D.id) (.int .i64 e.id))=false↔(left (.int .i64 D.id)=false∨D.id=e.id):=λD H=>by
   by_cases Y:D.id=e.id<;>simp[Lit.sameKey,Y]
  have a8:=J.o.SC.VP;have bc:∀D∈U,D.id=e.id->D=e:=λD H Y=>PX a8 H ad.o Y;have aN:=J.o.ran.lt;have aM:=J.o.lt;have bJ:∀D∈U,D.id≠e.id->D.g≠e.g:=λD H Y V=>(J.o.SC.cur ad.o bI.o).2 e.g rfl (.inr ⟨D,H,Y,V⟩);have ba:∀D∈U,D.g<wr.heap.size/\M<D.g:=λD H=>by
   have E:=J.o.SC.cur H (J.o.cur D H).1.length_eq;exact⟨(E.1.lt D.g rfl).2,Nat.lt_of_not_le λY=>E.2 D.g rfl (.inl Jo)⟩
  have bG:∀D∈U,D.g≠ar:=λD H V=>by
   have bt:=J.o.SC.cur H (J.o.cur D H).1.length_eq;rcases bt.1.2 with⟨E,-⟩|⟨bF,bx,bD,E,-,W,-⟩
   ·simp[mo.val] at E
   simp only[mo.val,Value.slice.injEq,Option.some.injEq,Addr.mk.injEq] at E;obtain⟨⟨rfl,-⟩,-⟩:=E;rw[V] at W;exact J.o.ran.Z W
  have bt:=K.o.2.2.2.1.below aA.o;refine⟨X+1,br,cU,bE ++ [sP e],ET bY e.id ag,_,dD,rfl,⟨by simp[J.o.len],Q.o.2.1.kept ((am M (.inl Jo)).trans (aB.o M aM Jo)) ((am ar (.inr (.inl rfl))).trans (aB.o ar aN (fV aS.o))),?_,?_,?_,?_,?_,?_,?_,Jw aU.o,J.o.iB⟩⟩
  ·refine J.o.SC.ET a8 ad.o K.o.2.1 (bt.later λy O=>?_) λD H Y=>?_
   ·obtain rfl:e.g=y:=by simpa [aG] using O
    exact am _ (.inr (.inr ⟨e,ad.o,rfl⟩))
   exact(am _ (.inr (.inr ⟨D,H,rfl⟩))).trans (aZ.o D.g (ba D H).1 (bJ D H Y) (bG D H))
  ·intro D H;unfold ET;by_cases Y:D.id=e.id
   ·obtain rfl:=bc D H Y;rw[if_pos rfl];exact⟨K.o.1,λ_=>cQ (λ{ae aE} Y=>Jo) K.o.2.2.1⟩
   rw[if_neg Y];refine⟨(J.o.cur D H).1,λbu=>(J.o.cur D H).2 ?_⟩;rcases(aD D H).1 bu with aF|aF
   ·exact aF
   exact absurd aF Y
  ·have:=bw.o;simpa [ao,cn,sP] using this
  ·intro x az;rcases List.mem_append.1 az with az|az
   ·obtain⟨D,H,b6,rfl⟩:=J.o.of x az;exact⟨D,H,(aD D H).2 (.inl b6),rfl⟩
   exact⟨e,ad.o,(aD e ad.o).2 (.inr rfl),by simpa using az⟩
  ·intro D H bu;rcases(aD D H).1 bu with aF|aF
   ·exact List.mem_append_left _ (J.o.all D H aF)
   obtain rfl:=bc D H aF;simp
  ·rw[gh];refine⟨J.o.once,Js,λae aC aE b2=>?_⟩;obtain rfl:aE=sP e:=by simpa using b2
   obtain⟨D,H,au,rfl⟩:=J.o.of ae aC;intro V;have aI:D.id=e.id:=V;rw[aI] at au;have:=Q.o.1;rw[au] at this;cases this
  refine J.o.sR.trans ⟨aq.o.os.trans ?_,aq.o.tape.trans ?_,aq.o.output.trans ?_,Jw aU.o,λy O=>(am y (.inl Jo)).trans (aZ.o y Jo (λV=>Jw ((ba e ad.o).2)) (λV=>Jw J.o.iB))⟩
  ·exact(aA.o.os.trans K.o.2.2.2.2.os).trans (ap.o.os.trans Q.o.2.2.2.1.os)
  ·exact(aA.o.tape.trans K.o.2.2.2.2.tape).trans (ap.o.tape.trans Q.o.2.2.2.1.tape)
  exact(aA.o.output.trans K.o.2.2.2.2.output).trans (ap.o.output.trans Q.o.2.2.2.1.output)
 have am:∀y,uU M ar U y->bf.heap[y]?=aJ.heap[y]?:=λy O=>aq.o.block y O;have aN:=J.o.ran.lt;have aM:=J.o.lt;have E:=(Q.o.2.1.kept ((am M (.inl Jo)).trans (aB.o M aM Jo)) ((am ar (.inr (.inl rfl))).trans (aB.o ar aN (fV aS.o)))).left;have W:=J.o.ran.left;have cq:=Q.o.2.2.1;rw[E,W];exact cq
theorem lK (A:JA)(ca:Nat)(xs:List ej)(l:List eP)(E:JA)(H y:Nat)(rows:List Row)(w:JW)(h:fI w A xs l)(hr:Rd w 3 E y (rows.flatMap aR))(ac:rows.length=y)(X:y<=H)(V:xs.length<=ca)
 (aa:jP l) (ho:Once kR rows) (Q:∀r∈rows,Row.ok r) (W:∀x∈xs,x.n<=x.c) (ab:∀s∈l,s.L.length<=1000) (T:xs.length<=1000) (U:y<=1000) (Y:∀ae,(cF rows ae).length<20) (Z:∀L:List Int,L.Nodup->(∀i∈L,∃r∈rows,r.ID=i)->L.length<=12):
 JC 62 #[.slice A xs.length ca,.slice E y H] w λe w'=>∃v D out,e= .returned v/\fP w.heap.size 68 v D out w'/\(∀x∈D,x.n<=x.c)/\jV l rows out/\Below w.heap.size w w':=
 (vt A ca xs l E H y rows w h hr ac X V aa ho Q W ab T U Y Z).mono λ_ _ ⟨v,D,out,J,K,M,O⟩=>⟨v,D,out,J,K,λx ad=>(M x ad).1,O⟩
structure jl (F:Nat->Prop) (w w':JW):Prop where
 os:w'.os=w.os
 tape:w'.tape=w.tape
 output:w'.output=w.output
 size:w.heap.size<=w'.heap.size
 block:∀k,k<w.heap.size->¬F k->w'.heap[k]?=w.heap[k]?
theorem jl.refl (F:Nat->Prop)(w:JW):jl F w w:=⟨rfl,rfl,rfl,ac _,λ_ _ _=>rfl⟩
theorem jl.trans {F G:Nat->Prop}{a b c:JW}(h:jl F a b)(k:jl G b c)(E:∀j,j<a.heap.size->G j->F j):jl F a c:=
 ⟨k.os.trans h.os,k.tape.trans h.tape,k.output.trans h.output,ap h.size k.size,λj y D=>(k.block j (ai y h.size) λH=>D (E j y H)).trans (h.block j y D)⟩
theorem jl.of {F:Nat->Prop}{w w':JW}(h:Jz w w'):jl F w w':=⟨h.os,h.tape,h.output,h.size,λD y _=>h.block D y⟩
theorem jl.grown {F:Nat->Prop}{w w':JW}{b:Nat}(h:w.grownBy w' (some b))(E:F b):jl F w w':=⟨h.os,h.tape,h.output,h.size,λJ H D=>h.block J H λy=>D (by rw[Option.some.inj y];exact E)⟩
theorem jl.below {F:Nat->Prop}{B:Nat}{w w':JW}(h:jl F w w')(hB:B<=w.heap.size)(D:∀k,F k->B<=k):Below B w w':=⟨h.os,h.tape,h.output,h.size,λk E=>h.block k Jo λy=>Jw (D k y)⟩
theorem jl.mono {F G:Nat->Prop}{w w':JW}(h:jl F w w')(H:∀k,k<w.heap.size->F k->G k):jl G w w':=⟨h.os,h.tape,h.output,h.size,λk y E=>h.block k y λD=>E (H k y D)⟩
def KT (c:Int × Int):Value:=.agg #[.int .i64 c.1,.int .i64 c.2]
def yd (cnt:Int->Int × Int)(k:Lit):Option Value:=(pR k).bind λy=>if cnt y=(0,0) then none else some (KT (cnt y))
structure jU (F:Nat->Prop) (bp m:Nat) (cnt:Int->Int × Int) (w:JW):Prop where
 ex:∃bm n,w.heap[bp]?=some (.cells #[.map (some bm)] 198 (0,0))/\F bp/\F bm/\n<=m/\MapAt prog 3 w bm n (yd cnt)
theorem ye (cnt:Int->Int × Int)(d:Int):yd cnt (.int .i64 d)=if cnt d=(0,0) then none else some (KT (cnt d)):=rfl
theorem Ex (cnt:Int->Int × Int)(d:Int):(yd cnt (.int .i64 d)).getD (.agg #[.int .i64 0,.int .i64 0])=KT (cnt d):=by
 rw[ye];split
 ·rename_i y;rw[y];rfl
 rfl
theorem jU.kept {F:Nat->Prop}{y m:Nat}{cnt:Int->Int × Int}{w w':JW}(h:jU F y m cnt w)(H:∀k,F k->w'.heap[k]?=w.heap[k]?):jU F y m cnt w':=by
 obtain⟨J,Q,K,D,E,M,O⟩:=h.ex;exact⟨J,Q,(H _ D).trans K,D,E,M,O.kept (H _ E)⟩
theorem Nv (F:Nat->Prop)(J m:Nat)(cnt:Int->Int × Int)(day:Int)(E:Nat)(w:JW)(h:jU F J m cnt w)(U:pJ day)(ac:E<=1)(hc:0<=(cnt day).1/\(cnt day).1<=8/\0<=(cnt day).2/\(cnt day).2<=8):
 JC 167 #[.pointer (some ⟨J,0,none⟩),.int .i64 day,.int .i64 E] w λe w'=>e= .returned (.int .i64 E)/\Jz w w':=by
 obtain⟨Q,ad,K,-,-,-,M⟩:=h.ex;have V:w.cell? ⟨J,0,none⟩=some (.map (some Q)):=(aa K 0).trans rfl;have H:=M.look (t:=196) (z:=.agg #[.int .i64 0,.int .i64 0]) lf underlying196 Jk (nu U);rw[Ex] at H;obtain⟨⟨y,D⟩,O⟩:∃T,cnt day=T:=⟨_,rfl⟩;rw[O] at H hc;unfold KT at H;simp only at H hc;obtain⟨X,Y,Z,ab⟩:=hc;obtain⟨T,W⟩:=Je w.heap.size;clear h K M O;rcases(show E=0∨E=1 by omega) with rfl|rfl
 ·have K:=Jf (2*y+8<D);have M:IntKind.i64.wrap (2*y)=2*y:=bC _ Jo;have O:IntKind.i64.wrap (2*y+8)=2*y+8:=bC _ Jo;go_enter Tryz.func167,Tryz.ntmps167;go_wp2_with fail;go_quiet (fail);go_wp2_with fail;go_ret;exact⟨rfl,(Below.one _ _).drewN _⟩
 have K:=Jf (2*D+8<y);have M:IntKind.i64.wrap (2*D)=2*D:=bC _ Jo;have O:IntKind.i64.wrap (2*D+8)=2*D+8:=bC _ Jo;go_enter Tryz.func167,Tryz.ntmps167;go_wp2_with fail;go_quiet (fail);go_wp2_with fail;go_ret;exact⟨rfl,(Below.one _ _).drewN _⟩
def sO (cnt:Int->Int × Int)(d:Int)(c:Int × Int):Int->Int × Int:=λy=>if y=d then c else cnt y
theorem Qg (cnt:Int->Int × Int)(d:Int)(c:Int × Int)(hc:c≠(0,0))(k:Lit):yd (sO cnt d c) k=od (yd cnt) (.int .i64 d) (KT c) k:=by
 unfold od;by_cases y:k= .int .i64 d
 ·rw[if_pos y,y,ye];unfold sO;rw[if_pos rfl,if_neg hc]
 rw[if_neg y];unfold yd;cases E:pR k with
 |none=>rfl
 |some H=>
  have:H≠d:=λD=>y (by rw[<-D];exact kN E);unfold sO;simp[this]
theorem Qf (cnt:Int->Int × Int)(d:Int)(k:Lit):yd (sO cnt d (0,0)) k=Fy (yd cnt) (.int .i64 d) k:=by
 unfold Fy;by_cases y:k= .int .i64 d
 ·rw[if_pos y,y,ye];unfold sO;rw[if_pos rfl,if_pos rfl]
 rw[if_neg y];unfold yd;cases E:pR k with
 |none=>rfl
 |some H=>
  have:H≠d:=λD=>y (by rw[<-D];exact kN E);unfold sO;simp[this]
theorem Gb (F:Nat->Prop)(y m:Nat)(cnt:Int->Int × Int)(day:Int)(w:JW)(h:jU F y m cnt w)(V:pJ day):
 JC 88 #[.pointer (some ⟨y,0,none⟩),.int .i64 day] w λe w'=>e= .returned (.tuple #[])/\jU F y m (sO cnt day (0,0)) w'/\jl F w w':=by
 obtain⟨E,ad,D,U,M,W,H⟩:=h.ex;have Z:w.cell? ⟨y,0,none⟩=some (.map (some E)):=(aa D 0).trans rfl;obtain⟨Y,ac,O,J,X⟩:=H.del (t:=196) lf underlying196 (nu V) 0;have Q:y≠E:=λe=>by
  obtain⟨T,⟨ab,cl,K,-⟩,-⟩:=H;rw[<-e,D] at K;cases K
 have T:=Jh (show jU F y m (sO cnt day (0,0)) Y from⟨E,_,(J.block y (Jl D) (by simpa using Q)).trans D,U,M,by split<;>omega,O.ext λK=>Qf cnt day K⟩);have K:=Jh (jl.grown J M);clear h D H O J X Q W;go_enter Tryz.func88,Tryz.ntmps88;go_wp2_with fail;go_end0;exact⟨rfl,T.o,K.o⟩
theorem Fb (f:Value)(w:JW):JC 291 #[Jn,f] w λe w'=>e= .returned (Ji (-1))/\w=w':=by
 go_enter Tryz.func291,Tryz.ntmps291;go_wp2_with fail;refine wp_loop_rounds 1 ?_;rw[rounds_succ];go_wp2_with fail;go_ret;exact⟨rfl,rfl⟩
theorem Fa (f:Value)(w:JW):JC 226 #[Jn,f] w λe w'=>e= .returned (.bool false)/\w=w':=by
 go_enter Tryz.func226,Tryz.ntmps226;go_wp2_with fail;refine(Fb f w).mono ?_;rintro e w' ⟨rfl,rfl⟩;go_wp2_with fail;go_ret;exact⟨rfl,rfl⟩
theorem FR (a b:Int)(w:JW):JC 118 #[Jn,Ji a,Ji b] w λe w'=>e= .returned (.bool false)/\Jz w w':=by
 have E:∀(D:Fn)(first y:Array Value)(w:JW),(cO D first y).run prog w= .ok (.func D first y) w:=λ_ _ _ _=>rfl;go_enter Tryz.func118,Tryz.ntmps118;go_wp2_with fail;refine(Fa _ _).mono ?_;rintro e w' ⟨rfl,rfl⟩;go_wp2_with fail;go_ret;exact⟨rfl,(Below.one _ _).alloc Js _⟩
def Rn (s:ByteArray)(B:Nat)(w:JW)(e:Ending)(w':JW):Prop:=
 (iH s.data.toList=none/\e= .returned (.tuple #[Jn,.bool false])/\Below B w w')∨
  ∃y D,iH s.data.toList=some y/\e= .returned (.tuple #[D,.bool true])/\bP (λE=>E<B) 430 4 D y.length (y.flatMap lX) w'/\y.length<=400/\Below B w w'
def Uf (B c:Nat)(s:ByteArray)(ok:Bool)(U:Option (List (Int × Int × Nat × Nat) × Int))(w:JW)(W X V Y Z:Value)(wr:JW):Prop:=
 ∃(y:List (Int × Int × Nat × Nat))(T:Nat)(E D H:Int)(J K:JA)(M O:Nat),W= .slice J y.length M/\X= .slice K y.length O/\V=Ji (jk y:Nat)/\Y=Ji H/\Z=Ji D/\
  D<=5000/\-16<D/\(y.length:Int)*16+D<=5016/\T=(D.toNat+15) / 16/\(ok=false->D<=0)/\0<=H/\H<1099511627776/\jk y<=y.length*1000000/\0<=E/\E<=s.size/\
  mJ (λQ=>Q<B∨Q=c) 430 4 (.slice J y.length M) y.length (y.flatMap nA) 3 1 (.slice K y.length O) y.length (y.flatMap oO) wr/\fC c s E ok wr/\Below B w wr/\
  (iA s.data.toList T D.toNat E H).map (λJ=>(y ++ J.1,J.2))=U
theorem Lk (s:ByteArray)(B:Nat)(w:JW)(hB:w.heap.size=B)(aK:s.size<=1000000):JC 308 #[.string s] w (Rn s B w):=by
 obtain⟨⟨ae,ar,W⟩,y⟩:∃D,ll s.data.toList 0 true 5001=D:=⟨_,rfl⟩;have J:=Ll y;obtain⟨bu,E⟩:=Je (iA s.data.toList ((ae+15) / 16) ae ar 0);rw[E] at J;have K:∀H,fC B s 0 true H->JC 362 #[Jv B,Ji 5001] H λU V=>U= .returned (Ji ae)/\fC B s ar W V/\But B H V:=λH ad=>by
  have:=lI B s 0 true 5001 H ad aK Jo;rw[y] at this;exact this
 have bJ:ae<5001:=by have:=rH (l:=s.data.toList) (a:=0) (ok:=true) (below:=5001) Jd;rw[y] at this;exact this
 have aU:0<=ar/\ar<=s.size:=rG (bX s).symm y Jo Jo;have a7:W=false->ae=0:=by
  intro aw;have:=Mh y aw;exact this
 have am:=Jh J;have ba:=Jh E;have M:=Jh K;clear J E K y;have Q:fC B s 0 true (w.alloc (.cells #[.string s,Ji 0,.bool true] 473)):=by rw[<-hB];exact heap_alloc_new w _
 have O:Below B w (w.alloc (.cells #[.string s,Ji 0,.bool true] 473)):=(ag B w).alloc Jo _;have y:(w.alloc (.cells #[.string s,Ji 0,.bool true] 473)).heap.size=B+1:=by rw[<-hB];simp
 have K:=Jh Q;have J:=Jh O;have E:=Jh y;clear Q O y;go_enter Tryz.func308,Tryz.ntmps308;go_wp2_with fail;generalize w.alloc (.cells #[.string s,Ji 0,.bool true] 473)=b8 at*;refine(M.o _ K.o).mono ?_;rintro U b9 ⟨rfl,O,y⟩;have bf:=Jh O;have bc:=Jh (J.o.trans (y.below (ac _)));have aF:=Jh (y.size.trans E.o);clear O y K J E M;go_wp2_with fail;go_loopw [5,6,7,8,9] (λE J aT K y wr=>Uf B B s W bu w E J aT K y wr) (λ_ _ _ _ y _=>(intOf y).toNat)
 case atStart=>exact⟨[],(ae+15) / 16,ar,ae,0,none,none,0,0,rfl,rfl,rfl,rfl,rfl,Jo,Jo,by simp;omega,Js,λaw=>Jw (a7 aw),Jo,Jo,by simp[jk],aU.1,aU.2,mJ.nil _ _ _ _ _ _,bf.o,bc.o,by rw[dE,ba.o];simp⟩
 obtain⟨y,aC,J,M,aD,bp,bq,E,O,rfl,rfl,rfl,rfl,rfl,b3,b4,b5,aa,aZ,aX,aY,aL,bi,bj,aI,ay,aH,aJ⟩:=hrel;by_cases bH:0<M;rotate_left
 ·have bd:aC=0:=Jo;subst bd;have K:=Gi aJ;have T:iH s.data.toList=if W=true then(if(jk y:Int)=(s.size:Int) - J then some (vE y (s.data.toList.drop J.toNat)) else none) else none:=by
   rw[am.o,K,bX s];rfl
  have an:=Jh T;have al:=Jh aI;have ap:=Jh ay;have Z:=Jh aH;have aS:=Jh aL;have bE:decide ((0:Int)<M)=false:=decide_eq_false bH;have be:y.length<=400:=Jo;obtain⟨bm,bn,bo,-,-⟩:=ay.cells;have bg:IntKind.i64.wrap ((s.size:Int) - J)=(s.size:Int) - J:=by rw[aB];omega
  clear T aI ay aH aL K aJ am ba aZ a7 aa aX aY bf bc aF bJ aU;have aV:W=false∨(W=true/\(jk y:Int)≠(s.size:Int) - J)∨(W=true/\(jk y:Int)=(s.size:Int) - J):=by
   cases W
   ·exact .inl rfl
   by_cases E:(jk y:Int)=(s.size:Int) - J
   ·exact .inr (.inr ⟨rfl,E⟩)
   exact .inr (.inl ⟨rfl,E⟩)
  rcases aV with rfl|⟨rfl,E⟩|⟨rfl,E⟩
  ·have Q:=Jh (show iH s.data.toList=none by rw[an.o];rfl);go_wp2_with fail;go_ret2;exact .inl ⟨Q.o,rfl,Z.o⟩
  ·have Q:=Jh (show iH s.data.toList=none by rw[an.o,if_pos rfl,if_neg E]);have af:((jk y:Int) == (s.size:Int) - J)=false:=beq_eq_false_iff_ne.2 E;have aO:((jk y:Int) != (s.size:Int) - J)=true:=by rw[bne,af];rfl
   clear E;go_wp2_with fail;go_ret2;exact .inl ⟨Q.o,rfl,Z.o⟩
  have Q:=Jh (show iH s.data.toList=some (vE y (s.data.toList.drop J.toNat)) by rw[an.o,if_pos rfl,if_pos E]);have af:((jk y:Int) == (s.size:Int) - J)=true:=beq_iff_eq.2 E;have aO:((jk y:Int) != (s.size:Int) - J)=false:=by rw[bne,af];rfl
  have aG:=Jh E;clear E;go_wp2_with fail;clear bm bn bo ap af aO bg;obtain⟨T,a8⟩:∃T:Nat,J=T:=⟨J.toNat,Jo⟩;subst a8;rw[dE] at Q;have K:T+jk y=s.size:=Jw aG.o;have aM:=Jh K;clear K aG;go_loopw [13,92] (λaT X wr=>∃K:Nat,X=Ji K/\aT=Ji (T+jk (y.take K):Nat)/\K<=y.length/\mJ (λY=>Y<B∨Y=B) 430 4 (.slice bp y.length E) y.length (un K y (s.data.toList.drop T)) 3 1 (.slice bq y.length O) y.length (y.flatMap oO) wr/\Below B w wr) (λ_ X _=>y.length - (intOf X).toNat)
  case atStart=>exact⟨0,rfl,by simp[jk],Jo,al.o,Z.o⟩
  obtain⟨K,rfl,rfl,bC,aj,ah⟩:=hrel;have X:=Jh aj;have aF:=Jh ah;clear aj ah al Z;by_cases ak:K<y.length;rotate_left
  ·obtain rfl:K=y.length:=Jo;go_wp2_with fail;go_ret2;have D:=Dn y (s.data.toList.drop T);exact .inr ⟨_,_,Q.o,rfl,by rw[D,<-Oo];exact X.o.l.shift λY aW ab=>X.o.l.2 Y aW (.inl (.inl ab)),by rw[D];exact be,aF.o⟩
  obtain⟨bv,ai,rfl,bA,az⟩:=X.o.r.rd.elem vP Jd ak;have a6:=az 0 _ rfl;obtain⟨D,rfl,bw,bx⟩:=X.o.l.own (show 0<y.length by omega);have aA:B<=D:=by
   have:=X.o.l.2 D rfl;omega
  obtain⟨aT,bl,av,bz,ao⟩:=X.o.l.rd.2 (show 0<y.length by omega);obtain⟨rfl,rfl⟩:D=aT/\0=bl:=by simpa using av
  have a1:=ao _ _ (Oq K y (s.data.toList.drop T) ak);have bt:=X.o.l.cell (K*4+3);obtain⟨bh,bk⟩:=QT ak;have au:=KV K y (s.data.toList.drop T) ak;obtain⟨ah,ab⟩:=Je (T+jk (y.take K));obtain⟨aj,aq⟩:=Je (y[K].2.2.2);have bD:ah+aj<=s.size:=Jw aM.o;have aE:T+jk (y.take (K+1))=ah+aj:=Jo;have ax:S (((s.data.toList.drop T).drop (jk (y.take K))).take aj)=s.extract ah (ah+aj):=by
   rw[bR,ab];rw[<-FA (s.extract ah (ah+aj)),Lib.extract_data];congr 2;omega
  rw[aq,ax] at au;rw[aq,Nat.mul_one,dz] at a6;have aR:=Jh au;have aQ:=Jh aE;have aP:=Jh ab;have br:=Jh ao;have aN:=Jh aA;clear au aE ao az av bh bk ax aA;rw[aP.o];clear ab aq;simp only[bB] at a1;go_wp2_with fail;go_roundw
  case rel=>exact⟨K+1,by go_num,by rw[aQ.o];go_num,Jo,⟨by rw[<-aR.o];exact X.o.l.store _,fW X.o.r (.inr rfl) _ _⟩,aF.o.setCell (p:=(Jp D (K*4+3))) aN.o _⟩
  simp[intOf];omega
 obtain⟨a8,rfl⟩:∃a8,aC=a8+1:=⟨aC - 1,Jo⟩;have bK:W=true:=by
  cases W
  ·exact absurd (aZ rfl) Jo
  rfl
 subst bK;obtain⟨⟨K,au,aE⟩,Q⟩:∃D,ll s.data.toList J true 1099511627776=D:=⟨_,rfl⟩;obtain⟨⟨aN,av,ai⟩,X⟩:∃D,ll s.data.toList au aE 1099511627776=D:=⟨_,rfl⟩;obtain⟨⟨T,bh,aj⟩,Y⟩:∃D,ll s.data.toList av ai (s.size+1)=D:=⟨_,rfl⟩;have aP:=OZ (by rw[bX s]) Q X Y;have aM:K<1099511627776:=by have:=rH (l:=s.data.toList) (a:=J) (ok:=true) (below:=1099511627776) Jd;rw[Q] at this;exact this
 have aO:aN<1099511627776:=by have:=rH (l:=s.data.toList) (a:=au) (ok:=aE) (below:=1099511627776) Jd;rw[X] at this;exact this
 have bV:T<s.size+1:=by have:=rH (l:=s.data.toList) (a:=av) (ok:=ai) (below:=s.size+1) Jo;rw[Y] at this;exact this
 have ab:=rG (bX s).symm Q bi bj;have af:=rG (bX s).symm X ab.1 ab.2;have aQ:=rG (bX s).symm Y af.1 af.2;have ah:∀H,fC B s J true H->JC 362 #[Jv B,Ji 1099511627776] H λU V=>U= .returned (Ji K)/\fC B s au aE V/\But B H V:=λH ad=>by
  have:=lI B s J true 1099511627776 H ad aK Jo;rw[Q] at this;exact this
 have ak:∀H,fC B s au aE H->JC 362 #[Jv B,Ji 1099511627776] H λU V=>U= .returned (Ji aN)/\fC B s av ai V/\But B H V:=λH ad=>by
  have:=lI B s au aE 1099511627776 H ad aK Jo;rw[X] at this;exact this
 have ax:∀H,fC B s av ai H->JC 362 #[Jv B,Ji ((s.size:Int)+1)] H λU V=>U= .returned (Ji T)/\fC B s bh aj V/\But B H V:=λH ad=>by
  have:=lI B s av ai (s.size+1) H ad aK Jo;rw[Y,show((s.size+1:Nat):Int)=(s.size:Int)+1 by omega] at this;exact this
 clear Q X Y;have az:=Jh ah;have aA:=Jh ak;have aG:=Jh ax;have aq:=Jh aP;have al:=Jh aI;have ap:=Jh ay;have Z:=Jh aH;have ao:=Jh aJ;have bd:=Jh aQ;have bz:=Jh aa;have bT:=Jh (Ja aX aY);obtain⟨D,Q⟩:∃D:Int,(K:Int)+aN=D:=⟨_,rfl⟩;have bW:IntKind.i64.wrap ((K:Int)+aN)=D:=by rw[aB];omega
 have bY:IntKind.i64.wrap (D+1)=D+1:=by rw[aB];omega
 have an:=Jh Q;have bS:=Jh (Ja aM aO);have aS:=Jh aL;clear ah ak ax aP aI ay aH aJ ab af aQ aa aX aY Q aM aO aL bi bj aZ a7;have aO:=ap;go_wp2_with fail;refine(az.o _ ap.o).mono ?_;rintro U cb ⟨rfl,Y,Q⟩;have ah:=Jh Y;have ab:=Jh (al.o.but Q (.inr rfl));have X:=Jh (Z.o.trans (Q.below (ac _)));clear Y Q;go_wp2_with fail;refine(aA.o _ ah.o).mono ?_;rintro U cc ⟨rfl,ak,Q⟩;have ax:=Jh ak;have af:=Jh (ab.o.but Q (.inr rfl));have Y:=Jh (X.o.trans (Q.below (ac _)));clear ak Q;go_wp2_with fail;refine(aG.o _ ax.o).mono ?_;rintro U bP ⟨rfl,aM,Q⟩;have aR:=Jh aM;have aP:=Jh (af.o.but Q (.inr rfl));have ak:=Jh (Y.o.trans (Q.below (ac _)));clear aM Q az aA aG al ap aO Z ah ax ab af X Y;obtain⟨bm,bn,bo,-,-⟩:=aR.o.cells;have aV:aj=false∨(aj=true/\1099511627776<=D)∨(aj=true/\D<1099511627776/\(K:Int)<aD)∨(aj=true/\D<1099511627776/\¬(K:Int)<aD):=by
  cases aj
  ·exact .inl rfl
  by_cases E:1099511627776<=D
  ·exact .inr (.inl ⟨rfl,E⟩)
  by_cases O:(K:Int)<aD
  ·exact .inr (.inr (.inl ⟨rfl,Jo,O⟩))
  exact .inr (.inr (.inr ⟨rfl,Jo,O⟩))
 rcases aV with rfl|⟨rfl,E⟩|⟨rfl,E,O⟩|⟨rfl,E,O⟩
 ·have Q:=Jh (show iH s.data.toList=none by rw[am.o,xP ao.o (by rw[aq.o,if_neg Js])];exact qC _ _);go_wp2_with fail;go_ret2;exact .inl ⟨Q.o,rfl,ak.o⟩
 ·have Q:=Jh (show iH s.data.toList=none by rw[am.o,xP ao.o (by rw[aq.o,if_neg (Jw an.o)])];exact qC _ _);have af:decide ((1099511627776:Int)<=D)=true:=decide_eq_true E;clear E;go_wp2_with fail;go_ret2;exact .inl ⟨Q.o,rfl,ak.o⟩
 ·have X:=aq.o;rw[if_pos ⟨rfl,Jw an.o⟩] at X;have Q:=Jh (show iH s.data.toList=none by rw[am.o,LO ao.o X O];exact qC _ _);have af:=Jf ((1099511627776:Int)<=D);have aO:decide ((K:Int)<aD)=true:=decide_eq_true O;clear E O X;go_wp2_with fail;go_ret2;exact .inl ⟨Q.o,rfl,ak.o⟩
 have X:=aq.o;rw[if_pos ⟨rfl,Jw an.o⟩] at X;have be:=Jh (Gj ao.o X O);have af:=Jf ((1099511627776:Int)<=D);have aO:decide ((K:Int)<aD)=false:=decide_eq_false O;have aG:=Jh (Ja E O);clear E O X aq ao;obtain⟨ah,bI⟩:∃ah:Int,min M 16=ah:=⟨_,rfl⟩;have bZ:(if(16:Int)<M then 16 else M)=ah:=by rw[<-bI];split<;>omega
 have ab:((min M.toNat 16:Nat):Int)=ah:=Jo;have bA:=Jh ab;have b2:IntKind.i64.wrap (M - 16)=M - 16:=by rw[aB];omega
 have bL:=aP.o.old (R:=λY=>Y<B∨Y=B) λY aW=>Jw ((Jl aR.o));have b0:=ak.o.size;clear ab;rw[an.o] at be;have bU:IntKind.i64.wrap ((jk y:Nat)+(T:Int))=((jk y+T:Nat):Int):=by have:=aS.o;rw[aB];omega
 go_wp2_with (at_builtin;first|(refine bb rfl (.tmp 53) (.tmp 61) 426 Jr 430 (.agg #[Ji 0,Ji 0,Ji 0,.string ⟨#[]⟩]) 4 40 underlying426 UD rfl Jd _ y.length _ _ bP #[Ji K,Ji (D+1),Ji ah,.string ⟨#[]⟩] rfl (by intro bO aA;simp at aA;rcases aA with rfl|rfl|rfl|rfl<;>rfl) aP.o.l Jr bL Jr Jm Jo ?_;intro b6 bQ a1 az bF bk;have aQ:=Jh (aP.o.append a1 az bk);have bv:=Jh (ak.o.trans (az.below λaC aa=>.inl (.inl aa)));have bg:=Jh (aR.o.frame (az.block B (.inl (.inr rfl))));obtain⟨br,bD,rfl⟩:=a1.form;have b1:=az.size;clear a1 az bF bk)|(go_must (refine bb rfl (.tmp 63) (.tmp 65) 23 Jr 3 (Ji 0) 1 8 underlying23 my rfl Jd _ y.length _ _ bQ #[Ji T] rfl (by intro bO aA;simp at aA;rcases aA with rfl;rfl) aQ.o.swap.l Jr (aQ.o.swap.old λY aW=>Jw ((Jl bg.o))) Jr Jm Jo ?_);intro b7 cd a6 aM bG bl;have bx:=Jh (aQ.o.swap.append a6 aM bl).swap;have bw:=Jh (bv.o.trans (aM.below λaC aa=>.inl (.inl aa)));have bC:=Jh (bg.o.frame (aM.block B (.inl (.inr rfl))));obtain⟨bt,bE,rfl⟩:=a6.form;clear a6 aM bG bl));go_roundw
 case rel=>
  have ab:(y ++ [((K:Int),D+1,min M.toNat 16,T)]).flatMap nA=y.flatMap nA ++ #[Ji K,Ji (D+1),Ji ah,.string ⟨#[]⟩].toList:=by simp[nA,<-bA.o]
  have bM:(y ++ [((K:Int),D+1,min M.toNat 16,T)]).flatMap oO=y.flatMap oO ++ #[cY .i64 T].toList:=by simp[oO]
  have ax:(y ++ [((K:Int),D+1,min M.toNat 16,T)]).length=y.length+1:=Js;have bN:(M - 16).toNat=M.toNat - 16:=Jo;refine⟨y ++ [((K:Int),D+1,min M.toNat 16,T)],a8,bh,M - 16,D,br,bt,bD,bE,by rw[ax],by rw[ax],by rw[yG];exact rfl,rfl,rfl,Jo,Jo,by rw[ax];omega,?_,λaw=>(by cases aw),?_,aG.o.1,?_,bd.o.1,bd.o.2,?_,bC.o,bw.o,?_⟩
  ·have:=bz.o;omega
  ·have:=an.o;omega
  ·rw[yG,ax];have:=aS.o;simp only;omega
  ·rw[ax,ab,bM];exact bx.o
  rw[bN];exact be.o
 simp[intOf];omega
structure Ri (R:Nat->Prop) (E1:TypeId) (s1:Nat) (v:Value) (n:Nat) (xs:List Value) (E2:TypeId) (s2:Nat) (m:Value) (k:Nat) (ys:List Value) (E3:TypeId) (s3:Nat) (q:Value) (j:Nat) (zs:List Value) (w:JW):Prop where
 a:bP (λi=>R i∨m.ownBlock=some i∨q.ownBlock=some i) E1 s1 v n xs w
 b:bP (λi=>R i∨q.ownBlock=some i∨v.ownBlock=some i) E2 s2 m k ys w
 c:bP (λi=>R i∨v.ownBlock=some i∨m.ownBlock=some i) E3 s3 q j zs w
section
variable {R:Nat->Prop} {E1 E2 E3:TypeId} {s1 s2 s3 n k j:Nat} {v m q:Value} {xs ys zs:List Value} {w w':JW}
theorem Ri.old (h:Ri R E1 s1 v n xs E2 s2 m k ys E3 s3 q j zs w)(D:gm R w):gm (λi=>R i∨m.ownBlock=some i∨q.ownBlock=some i) w:=λi E=>by
 rcases E with y|y|y
 ·exact D i y
 ·exact(h.b.1.lt i y).2
 exact(h.c.1.lt i y).2
theorem Ri.append {v':Value}{K:Nat}{M:List Value}(h:Ri R E1 s1 v n xs E2 s2 m k ys E3 s3 q j zs w)(Q:bP (λi=>R i∨m.ownBlock=some i∨q.ownBlock=some i) E1 s1 v' K M w')(H:cC (λi=>R i∨m.ownBlock=some i∨q.ownBlock=some i) w w')
 (O:v'.ownBlock=v.ownBlock∨∃g,v'.ownBlock=some g/\w.heap.size<=g):Ri R E1 s1 v' K M E2 s2 m k ys E3 s3 q j zs w':=by
 have J:∀i,v'.ownBlock=some i->i<w.heap.size->v.ownBlock=some i:=by
  intro i y T;rcases O with D|⟨g,D,E⟩
  ·exact D.symm.trans y
  rw[D] at y;obtain rfl:g=i:=by simpa using y
  omega
 refine⟨Q,(h.b.later λi y=>H.block i (.inr (.inl y))).shift λi y E=>?_,(h.c.later λi y=>H.block i (.inr (.inr y))).shift λi y E=>?_⟩
 ·rcases E with D|D|D
  ·exact h.b.2 i y (.inl D)
  ·exact h.b.2 i y (.inr (.inl D))
  exact h.b.2 i y (.inr (.inr (J i D (h.b.1.lt _ y).2)))
 rcases E with D|D|D
 ·exact h.c.2 i y (.inl D)
 ·exact h.c.2 i y (.inr (.inl (J i D (h.c.1.lt _ y).2)))
 exact h.c.2 i y (.inr (.inr D))
theorem Ri.below (h:Ri R E1 s1 v n xs E2 s2 m k ys E3 s3 q j zs w)(y:Jz w w'):Ri R E1 s1 v n xs E2 s2 m k ys E3 s3 q j zs w':=⟨h.a.below y,h.b.below y,h.c.below y⟩
theorem Ri.made (R:Nat->Prop)(D E J:TypeId)(U V W B:Nat)(w:JW)(hB:w.heap.size=B)(ho:gm R w):
 Ri R D U (.slice (some (Jp B 0)) 0 0) 0 [] E V (.slice (some (Jp (B+1) 0)) 0 0) 0 [] J W (.slice (some (Jp (B+2) 0)) 0 0) 0 [] (((w.alloc (.cells #[] D)).alloc (.cells #[] E)).alloc (.cells #[] J)):=by
 subst hB;have Q:(w.alloc (.cells #[] D)).heap.size=w.heap.size+1:=Js;have T:((w.alloc (.cells #[] D)).alloc (.cells #[] E)).heap.size=w.heap.size+2:=Js;have X:=((bP.made R w D U ho).alloc (.cells #[] E)).alloc (.cells #[] J);have M:=(bP.made R (w.alloc (.cells #[] D)) E V (λH y=>by rw[Q];have:=ho H y;omega)).alloc (.cells #[] J);have O:=bP.made R ((w.alloc (.cells #[] D)).alloc (.cells #[] E)) J W (λH y=>by rw[T];have:=ho H y;omega);rw[Q] at M;rw[T] at O;refine⟨X.shift λH y K=>?_,M.shift λH y K=>?_,O.shift λH y K=>?_⟩<;>
  (simp only[aG,Option.some.injEq] at y K;subst y;rcases K with H|H|H<;>first|omega|(have:=ho _ H;omega))
end
def BM (f:vU):Value:=.agg #[Ji f.F,Ji f.T,Ji f.n,.string (S f.b)]
def DY (f:vU)(x y:Int):Bool:=decide (max f.F x<min f.T y)
theorem SD (f:vU)(x y:Int)(w:JW):JC 309 #[BM f,.agg #[Ji x,Ji y]] w λe w'=>e= .returned (.bool (DY f x y))/\Jz w w':=by
 unfold BM DY;obtain⟨D,E,U,O⟩:=f;simp only;obtain⟨K,H⟩:=Je (max D x);obtain⟨M,J⟩:=Je (min E y);have Q:(if D<x then x else D)=K:=by rw[<-H];split<;>omega
 have T:(if y<E then y else E)=M:=by rw[<-J];split<;>omega
 rw[H,J];go_enter Tryz.func309,Tryz.ntmps309;go_wp2_with fail;go_ret;exact⟨rfl,((ag _ w).alloc (ac _) _).alloc Js _⟩
theorem wU (a b:Row)(w:JW):JC 264 #[py a,py b] w λe w'=>e= .returned (.bool (sq a b))/\Jz w w':=by
 unfold py sq;obtain⟨D,O,T⟩:=a;obtain⟨y,Q,U⟩:=b;simp only;go_enter Tryz.func264,Tryz.ntmps264;have M:y<D∨(D<=y/\y=D)∨(D<=y/\y≠D):=Jo;rcases M with E|⟨E,H⟩|⟨E,H⟩
 ·have J:decide (y<D)=true:=decide_eq_true E;rw[J,Bool.true_or];clear E;go_wp2_with fail;go_ret;exact⟨rfl,((ag _ w).alloc (ac _) _).alloc Js _⟩
 ·subst H;rw[show decide (y<y)=false from decide_eq_false Jo,show(y == y)=true from beq_self_eq_true _,Bool.false_or,Bool.true_and];clear E;go_wp2_with fail;go_ret;exact⟨rfl,((ag _ w).alloc (ac _) _).alloc Js _⟩
 have J:=Jf (y<D);have V:(y == D)=false:=beq_eq_false_iff_ne.2 H;have K:(D == y)=false:=beq_eq_false_iff_ne.2 (λe=>H e.symm);rw[J,K,Bool.false_and,Bool.false_or];clear E H K;go_wp2_with fail;go_ret;exact⟨rfl,((ag _ w).alloc (ac _) _).alloc Js _⟩
theorem Tp {l:JU}{a t:Int}{f i v e:Nat}{M a2 a3:Int}{O Q:Bool}(h1:ll l a true 1099511627776=(f,M,O))(h2:ll l M O 200=(i,a2,Q))(T:aK l a2=(v,a3,e)):
 GV l a t=if Q=true/\e=0 then some (⟨t+f,(i:Int),bE v⟩,a3) else none:=by
 unfold GV;by_cases D:(aK l a).2.2=0/\(aK l a).1<1099511627776
 ·rw[rK D.1 D.2] at h1;obtain⟨rfl,K⟩:=Prod.mk.inj h1;obtain⟨rfl,rfl⟩:=Prod.mk.inj K;by_cases E:(aK l (aK l a).2.1).2.2=0/\(aK l (aK l a).2.1).1<200
  ·rw[rK E.1 E.2] at h2;obtain⟨rfl,H⟩:=Prod.mk.inj h2;obtain⟨rfl,rfl⟩:=Prod.mk.inj H;rw[T];by_cases J:e=0
   ·rw[if_pos ⟨D.1,E.1,J,D.2,E.2⟩,if_pos ⟨rfl,J⟩]
   rw[if_neg (λy=>J y.2.2.1),if_neg (λy=>J y.2)]
  rw[rJ E] at h2;obtain⟨rfl,H⟩:=Prod.mk.inj h2;obtain⟨rfl,rfl⟩:=Prod.mk.inj H;rw[if_neg (λy=>E ⟨y.2.1,y.2.2.2.2⟩),if_neg Js]
 rw[rJ D] at h1;obtain⟨rfl,K⟩:=Prod.mk.inj h1;obtain⟨rfl,rfl⟩:=Prod.mk.inj K;rw[pu] at h2;obtain⟨rfl,H⟩:=Prod.mk.inj h2;obtain⟨rfl,rfl⟩:=Prod.mk.inj H;rw[if_neg (λy=>D ⟨y.1,y.2.2.2.1⟩),if_neg Js]
def tO (f:vU)(D:Option (List Row × Int)):Option (List Row):=match D with
 |none=>none
 |some y=>if y.2=f.b.length/\hU y.1=true/\(qa y.1 0).T=f.F/\(qa y.1 (f.n - 1)).T=f.T - 1 then some y.1 else none
theorem Tg (f:vU):mi f=tO f (lz f.b f.n 0 f.F):=by
 unfold mi tO;all_goals (cases lz f.b f.n 0 f.F<;>rfl)
theorem uv {l m:List Row}(h:hU (l ++ m)=true):hU l=true:=by
 induction l with
 |nil=>rfl
 |cons a l y=>
  cases l with
  |nil=>rfl
  |cons b l=>
   simp only[aY,hU,bT] at h ⊢;exact⟨h.1,y h.2⟩
section
variable {l:JU} {k:Nat} {a t:Int} {xs:List Row} {H:Option (List Row × Int)} {x:Row × Int}
theorem AZ (h:(lz l (k+1) a t).map (λr=>(xs ++ r.1,r.2))=H)(y:GV l a t=none):H=none:=by
 rw[<-h];simp[lz,y]
theorem MS (h:(lz l (k+1) a t).map (λr=>(xs ++ r.1,r.2))=H)(y:GV l a t=some x):(lz l k x.2 x.1.T).map (λr=>((xs ++ [x.1]) ++ r.1,r.2))=H:=by
 rw[<-h];simp only[lz,y,Option.map_map];congr 1;funext r;simp
theorem QB {f:vU}(h:(lz l k a t).map (λr=>(xs ++ r.1,r.2))=H)(D:hU xs=false):tO f H=none:=by
 rw[<-h];cases E:lz l k a t with
 |none=>rfl
 |some r=>
  simp only[eO,tO];rw[if_neg];intro y;have:=uv y.2.1;rw[D] at this;cases this
theorem MR (h:(lz l 0 a t).map (λr=>(xs ++ r.1,r.2))=H):H=some (xs,a):=by rw[<-h];simp[lz]
end
theorem Lp {E:List Row}{y x:Row}(h:sq x y=false):hU ((E ++ [y]) ++ [x])=false:=by
 cases H:hU ((E ++ [y]) ++ [x]) with
 |false=>rfl
 |true=>
  have:=(xE H).2;rcases this with D|D
  ·simp at D
  rw[show qa (E ++ [y]) ((E ++ [y]).length - 1)=y by simp[qa]] at D;rw[h] at D;cases D
def Iz (N:Nat)(f:vU):Prop:=0<=f.F/\f.F<f.T/\f.T<=1099511627776/\1<=f.n/\f.n<=16/\f.b.length<=N
theorem Pa {l:JU}:∀(k left:Nat)(a last:Int)(r:List (Int × Int × Nat × Nat) × Int),iA l k left a last=some r->k*16<left+16->∀h∈r.1,0<=h.1/\h.1<h.2.1/\h.2.1<=1099511627776/\1<=h.2.2.1/\h.2.2.1<=16:=by
 intro k;induction k with
 |zero=>intro left a last r h _ x y;simp only[iA,Option.some.injEq] at h;subst h;cases y
 |succ k H=>
  intro left a last r h K x y;simp only[iA] at h;split at h
  ·cases h
  rename_i O D;split at h
  ·cases h
  simp only[Option.map_eq_some_iff] at h;obtain⟨M,E,rfl⟩:=h;rcases List.mem_cons.1 y with rfl|y
  ·unfold tA at D;split at D
   ·rename_i J;cases D;simp only;omega
   cases D
  exact H (left - 16) _ _ _ E Jo x y
theorem Us:∀(D:List (Int × Int × Nat × Nat))(t:JU)(N:Nat),t.length<=N->(∀h∈D,0<=h.1/\h.1<h.2.1/\h.2.1<=1099511627776/\1<=h.2.2.1/\h.2.2.1<=16)->∀f∈vE D t,Iz N f:=by
 intro D;induction D with
 |nil=>intro t N _ _ f y;cases y
 |cons h D J=>
  intro t N T E f y;rcases List.mem_cons.1 y with rfl|y
  ·obtain⟨H,K,M,O,Q⟩:=E h (az ..);exact⟨H,K,M,O,Q,by simp only[aF];omega⟩
  exact J _ N (by simp only[bo];omega) (λx H=>E x (aC _ H)) f y
theorem Lm {l:JU}{fs:List vU}(h:iH l=some fs):∀f∈fs,Iz l.length f:=by
 unfold iH at h;split at h
 ·cases h
 split at h
 ·cases h
 rename_i D y;split at h
 ·simp only[Option.some.injEq] at h;subst h;exact Us _ _ _ Js (Pa _ _ _ _ _ y Jo)
 cases h
def sU (b:Nat)(f:vU)(w:JW):Prop:=w.heap[b]?=some (.cells #[Ji f.F,Ji f.T,Ji f.n,.string (S f.b)] 430 (0,0))
theorem sU.cells {b:Nat}{f:vU}{w:JW}(h:sU b f w):w.cell? (Jp b 0)=some (Ji f.F)/\w.cell? (Jp b 1)=some (Ji f.T):=
 ⟨(aa h 0).trans rfl,(aa h 1).trans rfl⟩
def NG (f:vU)(B:Nat)(w:JW)(e:Ending)(w':JW):Prop:=
 (mi f=none/\(∃D,e= .returned (.tuple #[D,.bool false]))/\Below B w w')∨
  ∃y D,mi f=some y/\e= .returned (.tuple #[D,.bool true])/\bP (λE=>E<B) 130 3 D y.length (y.flatMap aR) w'/\y.length<=16/\Below B w w'
def Rt (B:Nat)(f:vU)(Q:Option (List Row × Int))(w:JW)(W X V:Value)(wr:JW):Prop:=
 ∃(y:List Row)(M:Nat)(E D:Int)(J:JA)(K:Nat),W= .slice J y.length K/\X=Ji D/\V=Ji y.length/\y.length+M=f.n/\hU y=true/\0<=D/\D<=1099511627776*(y.length+1)/\0<=E/\E<=f.b.length/\
  (y=[]/\D=f.F∨∃U O,y=U ++ [O]/\O.T=D)/\bP (λH=>H<B∨H=B∨H=B+1) 130 3 (.slice J y.length K) y.length (y.flatMap aR) wr/\fC (B+1) (S f.b) E true wr/\sU B f wr/\Below B w wr/\
  (lz f.b M E D).map (λH=>(y ++ H.1,H.2))=Q
theorem GU:(prog.info? 130).map (λi=>(i.zero,i.size,i.bytes))=some (some (.agg #[Ji 0,Ji 0,Ji 0]),3,24):=Jk
theorem Tf (f:vU)(B:Nat)(w:JW)(hB:w.heap.size=B)(cA:Iz 1000000 f):JC 310 #[BM f] w (NG f B w):=by
 obtain⟨J,K,M,c1,cy,ac⟩:=cA;obtain⟨cm,E⟩:=Je (lz f.b f.n 0 f.F);have H:=Tg f;rw[E] at H;have aW:=Jh H;have bA:=Jh E;have bD:=Jh (Ja J (Ja K M));have X:(S f.b).data.toList=f.b:=cW f.b;have Z:(S f.b).size=f.b.length:=bH f.b;have bI:=Jh X;have cu:=Jh Z;have cj:(S f.b).size<=1000000:=Jo;have bh:(w.alloc (.cells #[Ji f.F,Ji f.T,Ji f.n,.string (S f.b)] 430)).heap.size=B+1:=by simp[hB]
 obtain⟨ba,y⟩:=Je (w.alloc (.cells #[Ji f.F,Ji f.T,Ji f.n,.string (S f.b)] 430));have U:sU B f ba:=by rw[<-y,<-hB];exact heap_alloc_new w _
 have O:Below B w ba:=by rw[<-y];exact(ag B w).alloc Jo _
 rw[y] at bh;obtain⟨b6,D⟩:=Je (ba.alloc (.cells #[.string (S f.b),Ji 0,.bool true] 473));have Y:fC (B+1) (S f.b) 0 true b6:=by rw[<-D,<-bh];exact heap_alloc_new ba _
 have W:sU B f b6:=by
  have:=(Below.one ba (.cells #[.string (S f.b),Ji 0,.bool true] 473)).block B Jo;rw[D] at this;exact this.trans U
 have Q:Below B w b6:=by rw[<-D];exact O.alloc Jo _
 have cb:=Jh Y;have b9:=Jh W;have b7:=Jh Q;have cn:=Jh hB;have cc:=Jh y;have cd:=Jh D;clear H E J K M X Z Y W Q U O ac bh hB y D;obtain⟨J,K,Y,y⟩:=f;simp only[BM] at*;have hB:=cn.o;go_enter Tryz.func310,Tryz.ntmps310;go_wp2_with fail;rw[cc.o,cd.o];clear hB;go_loopw [5,6,21] (λE H D wr=>Rt B ⟨J,K,Y,y⟩ cm w E H D wr) (λ_ _ D _=>Y - (intOf D).toNat)
 case atStart=>exact⟨[],Y,0,J,none,0,rfl,rfl,rfl,Js,rfl,bD.o.1,by have:=bD.o;simp;omega,Jo,Js,.inl ⟨rfl,rfl⟩,bP.nil _ _ _ _,cb.o,b9.o,b7.o,by rw[bA.o];simp⟩
 obtain⟨Z,a6,ah,aq,cR,cV,rfl,rfl,rfl,aN,bl,ck,b3,bW,bi,bm,aO,bn,bk,bj,hrows⟩:=hrel;obtain⟨D,ao⟩:=Je Z.length;rw[ao] at aO aN b3 ⊢;have aJ:=Jh ao;clear ao;simp only at aN bi hrows;by_cases c6:D<Y;rotate_left
 ·obtain rfl:a6=0:=Jo;have am:D=Y:=Jo;subst am;have ad:=MR hrows;have ao:=aJ.o;have a1:0<Z.length:=Jo;obtain⟨aD,aG,rfl,bZ,aH,-,-⟩:=jj aO.rd a1;simp only[gG,dz] at aH;obtain⟨H,W⟩:=Je (Z[0].T);rw[W] at aH;have ai:(qa Z 0).T=H:=by rw[fB a1,W]
  have ak:(qa Z (D - 1)).T=aq:=by
   rcases bm with⟨U,-⟩|⟨ax,ae,U,bp⟩
   ·exfalso;rw[U] at ao;simp at ao;omega
   rw[<-bp];subst U;simp only[ab,fc] at ao;unfold qa;rw[bQ,fF Jo];rw[show D - 1 - ax.length=0 by omega];rfl
  have ae:mi ⟨J,K,D,y⟩=if ah=y.length/\H=J/\aq=K - 1 then some Z else none:=by
   rw[aW.o,ad];simp only[tO,ai,ak,bl,true_and]
  obtain⟨cf,cg,-,-,-⟩:=bn.cells;obtain⟨ap,ar⟩:=bk.cells;have av:IntKind.i64.wrap (K - 1)=K - 1:=by have:=bD.o;rw[aB];omega
  have E:((S y).size:Int)=y.length:=by rw[cu.o]
  have Q:=Jh ae;have aU:=Jh aO;have aC:=Jh bj;have bY:ah≠y.length∨(ah=y.length/\H≠J)∨(ah=y.length/\H=J/\aq≠K - 1)∨(ah=y.length/\H=J/\aq=K - 1):=by
   by_cases M:ah=y.length
   ·by_cases X:H=J
    ·by_cases af:aq=K - 1
     ·exact .inr (.inr (.inr ⟨M,X,af⟩))
     exact .inr (.inr (.inl ⟨M,X,af⟩))
    exact .inr (.inl ⟨M,X⟩)
   exact .inl M
  have O:∀ac Y:Int,ac≠Y->(ac == Y)=false:=λac Y U=>beq_eq_false_iff_ne.2 U;have aw:decide (D<D)=false:=Js;have aP:(0:Int)<D:=Jo;have ay:0<D:=Jo;clear ae aO bn bk bj hrows ad ao ai ak bm bl ck b3 bW bi aW bA a1 W;rcases bY with M|⟨M,X⟩|⟨M,X,af⟩|⟨M,X,af⟩
  ·have aj:=Jh (show mi ⟨J,K,D,y⟩=none by rw[Q.o,if_neg (λU=>M U.1)]);have W:=O _ _ (λU:ah=((S y).size:Int)=>M (U.trans E));clear M E O;go_wp2_with fail;go_quiet (fail);go_wp2_with fail;go_ret2;exact .inl ⟨aj.o,⟨_,rfl⟩,below_drewN aC.o _⟩
  ·have aj:=Jh (show mi ⟨J,K,D,y⟩=none by rw[Q.o,if_neg (λU=>X U.2.1)]);have W:(ah == ((S y).size:Int))=true:=by rw[E];exact beq_iff_eq.2 M
   have ad:=O _ _ X;clear M X E O;go_wp2_with fail;go_quiet (fail);go_wp2_with fail;go_ret2;exact .inl ⟨aj.o,⟨_,rfl⟩,below_drewN aC.o _⟩
  ·have aj:=Jh (show mi ⟨J,K,D,y⟩=none by rw[Q.o,if_neg (λU=>af U.2.2)]);have W:(ah == ((S y).size:Int))=true:=by rw[E];exact beq_iff_eq.2 M
   have ad:(H == J)=true:=beq_iff_eq.2 X;have ae:=O _ _ af;clear M X af E O;go_wp2_with fail;go_quiet (fail);go_wp2_with fail;go_ret2;exact .inl ⟨aj.o,⟨_,rfl⟩,below_drewN aC.o _⟩
  have aj:=Jh (show mi ⟨J,K,D,y⟩=some Z by rw[Q.o,if_pos ⟨M,X,af⟩]);have W:(ah == ((S y).size:Int))=true:=by rw[E];exact beq_iff_eq.2 M
  have ad:(H == J)=true:=beq_iff_eq.2 X;have ae:(aq == K - 1)=true:=beq_iff_eq.2 af;have ac:=Jh (show Z.length=D from aJ.o);clear M X af E O;go_wp2_with fail;go_quiet (fail);go_wp2_with fail;go_ret2;refine .inr ⟨Z,_,aj.o,rfl,?_,by rw[ac.o];exact cy,below_drewN aC.o _⟩;rw[ac.o];exact(aU.o.below (below_drewN (ag _ _) _)).shift λau b1 ax=>aU.o.2 au b1 (.inl ax)
 obtain⟨bq,rfl⟩:∃bq,a6=bq+1:=⟨a6 - 1,Jo⟩;obtain⟨⟨aS,aY,a7⟩,M⟩:∃E,ll y ah true 1099511627776=E:=⟨_,rfl⟩;obtain⟨⟨O,aw,aQ⟩,X⟩:∃E,ll y aY a7 200=E:=⟨_,rfl⟩;obtain⟨⟨Q,ak,bV⟩,af⟩:∃E,aK y aw=E:=⟨_,rfl⟩;have aD:=Tp (t:=aq) M X af;have ax:aS<1099511627776:=by have:=rH (l:=y) (a:=ah) (ok:=true) (below:=1099511627776) Jd;rw[M] at this;exact this
 have aE:O<200:=by have:=rH (l:=y) (a:=aY) (ok:=a7) (below:=200) Jd;rw[X] at this;exact this
 have ai:=rG rfl M bW bi;have aG:=rG rfl X ai.1 ai.2;have ad:=kC y aw;have ac:=ki y aw;rw[af] at ad ac;simp only at ad ac;have aj:∀W,fC (B+1) (S y) ah true W->JC 362 #[.pointer (some (Jp (B+1) 0)),Ji 1099511627776] W λap H=>ap= .returned (Ji aS)/\fC (B+1) (S y) aY a7 H/\But (B+1) W H:=λW b4=>by
  have:=lI (B+1) (S y) ah true 1099511627776 W b4 cj Jo;rw[bI.o,M] at this;exact this
 have am:∀W,fC (B+1) (S y) aY a7 W->JC 362 #[.pointer (some (Jp (B+1) 0)),Ji 200] W λap H=>ap= .returned (Ji O)/\fC (B+1) (S y) aw aQ H/\But (B+1) W H:=λW b4=>by
  have:=lI (B+1) (S y) aY a7 200 W b4 cj Jo;rw[bI.o,X] at this;exact this
 have ar:∀W,JC 344 #[.string (S y),Ji aw] W λap H=>ap= .returned (.tuple #[Ji (bE Q),Ji ak,Ji bV])/\H=W:=λW=>by
  have:=xL (S y) aw W Jo;unfold oC at this;rw[bI.o,af] at this;exact this.mono λap H U=>⟨U.1,U.2.symm⟩
 clear M X af;have au:=Jh aj;have av:=Jh am;have ay:=Jh ar;have bg:=Jh aD;have aU:=Jh aO;have aF:=Jh bn;have az:=Jh bk;have aC:=Jh bj;have bN:=Jh hrows;have bd:=Jh ad;have cr:=Jh bm;have cq:=Jh bl;have aX:=Jh (show 0<=aq+(aS:Int)/\aq+(aS:Int)<=1099511627776*((D:Int)+1+1) by omega);obtain⟨E,ae⟩:∃E,aq+(aS:Int)=E:=⟨_,rfl⟩;rw[ae] at aX;have c8:IntKind.i64.wrap (aq+(aS:Int))=E:=by rw[aB];omega
 have bR:=Jh ae;have aA:pJ (bE Q):=⟨Jw (yN ac),Jw (yM ac)⟩;have cT:=Jh aA;clear aj am ar aD aO bn bk bj hrows ai aG ad bm bl ae ck b3 bW bi ax aE ac aA cb b9 b7 cc cd bA;go_wp2_with fail;refine(au.o _ aF.o).mono ?_;rintro ap cO ⟨rfl,ad,ac⟩;have aD:=Jh ad;have ar:=Jh (nL aU.o ac (.inr (.inr rfl)));have aj:=Jh (show sU B ⟨J,K,Y,y⟩ cO from(ac.block B Jo).trans az.o);have ae:=Jh (aC.o.trans (ac.below Jo));clear ad ac;go_wp2_with fail;refine(av.o _ aD.o).mono ?_;rintro ap a8 ⟨rfl,ad,ac⟩;have aE:=Jh ad;have aA:=Jh (nL ar.o ac (.inr (.inr rfl)));have am:=Jh (show sU B ⟨J,K,Y,y⟩ a8 from(ac.block B Jo).trans aj.o);have ai:=Jh (ae.o.trans (ac.below Jo));obtain⟨cf,cg,aG,aH,aI⟩:=ad.cells;clear ad ac au av aU aF az aC aD ar aj ae;go_wp2_with fail;go_quiet ((go_at_call 344;exact ek (ay.o _)));have ac:=Jh (show fC (B+1) (S y) aw aQ (a8.drewN nq) from aE.o);have aj:=Jh (aA.o.below (below_drewN (ag _ a8) nq));have ae:=Jh (show sU B ⟨J,K,Y,y⟩ (a8.drewN nq) from am.o);have ad:=Jh (below_drewN ai.o nq);clear aE aA am ai cf cg aG aH aI ay;generalize a8.drewN nq=av at*;have cz:B+1<av.heap.size:=(Jl ac.o);have bf:=Jh (ac.o.frame ((Below.one av (.cells #[Ji E,Ji O,Ji (bE Q)] 130)).block (B+1) cz))
 have b8:=Jh (show sU B ⟨J,K,Y,y⟩ (av.alloc (.cells #[Ji E,Ji O,Ji (bE Q)] 130)) from((Below.one av (.cells #[Ji E,Ji O,Ji (bE Q)] 130)).block B Jo).trans ae.o);have bJ:=Jh (aj.o.alloc (.cells #[Ji E,Ji O,Ji (bE Q)] 130));have aT:=Jh (ad.o.alloc Jo (.cells #[Ji E,Ji O,Ji (bE Q)] 130));have bo:sU av.heap.size ⟨0,0,0,[]⟩ av->True:=λ_=>trivial;have ai:(av.alloc (.cells #[Ji E,Ji O,Ji (bE Q)] 130)).heap[av.heap.size]?=some (.cells #[Ji E,Ji O,Ji (bE Q)] 130 (0,0)):=heap_alloc_new av _;have aL:=Jh ai;clear ai bo ac aj ae ad;go_wp2_with fail;generalize av.alloc (.cells #[Ji E,Ji O,Ji (bE Q)] 130)=ar at*;generalize av.heap.size=ai at*;obtain⟨cv,cx,bU,cP,cQ⟩:=bf.o.cells;have br:ar.cell? (Jp ai 0)=some (Ji E):=(aa aL.o 0).trans rfl;have bt:ar.cell? (Jp ai 1)=some (Ji O):=(aa aL.o 1).trans rfl;have bv:ar.cell? (Jp ai 2)=some (Ji (bE Q)):=(aa aL.o 2).trans rfl;have bY:aQ=false∨(aQ=true/\bV≠0)∨(aQ=true/\bV=0):=by cases aQ<;>simp;omega
 rcases bY with rfl|⟨rfl,aE⟩|⟨rfl,aE⟩
 ·have aj:=Jh (show mi ⟨J,K,Y,y⟩=none by rw[aW.o,AZ bN.o (by rw[bg.o,if_neg Js])];rfl);go_quiet (fail);go_wp2_with fail;go_ret2;exact .inl ⟨aj.o,⟨_,rfl⟩,below_drewN aT.o _⟩
 ·have aj:=Jh (show mi ⟨J,K,Y,y⟩=none by rw[aW.o,AZ bN.o (by rw[bg.o,if_neg (λU=>aE U.2)])];rfl);obtain⟨cJ,cL⟩:=lP aE;clear aE;go_quiet (fail);go_wp2_with fail;go_ret2;exact .inl ⟨aj.o,⟨_,rfl⟩,below_drewN aT.o _⟩
 have ac:=bg.o;rw[if_pos ⟨rfl,aE⟩] at ac;have be:=Jh (MS bN.o ac);obtain⟨cJ,cL⟩:=fJ aE;clear aE ac bg;by_cases ci:D=0
 ·have cI:=Jf ((0:Int)<(D:Int));have cl:=Jf (0<D);clear ci;go_quiet (fail);have am:=nM (B+1) 1 (ar.drewN nq) (Ji ak);have aV:=Jh (fC.at (a':=ak) (show fC (B+1) (S y) aw true (ar.drewN nq) from bf.o));have bF:=Jh (show sU B ⟨J,K,Y,y⟩ ((ar.drewN nq).setCell (Jp (B+1) 1) (Ji ak)) from(am.block B Jo).trans b8.o);have bK:=Jh (nL (bJ.o.below (below_drewN (ag _ ar) nq)) am (.inr (.inr rfl)));have bB:=Jh ((below_drewN aT.o nq).trans (am.below Jo));have ct:=Jh ((am.block ai Jo).trans (show(ar.drewN nq).heap[ai]?=_ from aL.o));have b2:gm (λau=>au<B∨au=B∨au=B+1) ((ar.drewN nq).setCell (Jp (B+1) 1) (Ji ak)):=λau b1=>Jw ((Jl aV.o));have bO:=Jh am.size;clear am
  go_wp2_with (at_builtin;go_must (refine bb rfl (.tmp 75) (.tmp 77) 106 Jr 130 (.agg #[Ji 0,Ji 0,Ji 0]) 3 24 underlying106 GU rfl Jd _ D _ _ ((ar.drewN nq).setCell (Jp (B+1) 1) (Ji ak)) #[Ji E,Ji O,Ji (bE Q)] rfl (by intro cM aZ;simp at aZ;rcases aZ with rfl|rfl|rfl<;>rfl) bK.o Jr b2 (by rw[bO.o];rfl) Jm Jo ?_);intro cN b5 aF az b0 bX;have bL:=Jh aF;have bM:=Jh (aV.o.frame (az.block (B+1) (.inr (.inr rfl))));have bG:=Jh (show sU B ⟨J,K,Y,y⟩ b5 from(az.block B (.inr (.inl rfl))).trans bF.o);have bC:=Jh (bB.o.trans (az.below λa6 aN=>.inl aN));obtain⟨bz,bT,rfl⟩:=aF.form;clear aF az b0 bX);go_roundw
  case rel=>
   have a1:Z=[]:=bu (Jx aJ.o (of_decide_eq_false cl));subst a1;have ac:D=0:=by have:=aJ.o;simp at this;omega
   subst ac;rw[bR.o] at be;exact⟨[⟨E,O,bE Q⟩],bq,ak,E,bz,bT,rfl,rfl,by go_num,by simp only[fc];omega,rfl,aX.o.1,by have:=aX.o.2;simp only[fc];omega,bd.o.1,bd.o.2,.inr ⟨[],_,rfl,rfl⟩,bL.o,bM.o,bG.o,bC.o,by have:=be.o;simpa using this⟩
  simp[intOf];omega
 have ao:=aJ.o;have ay:D - 1<Z.length:=Jo;obtain⟨ax,ae,ac,bp⟩:∃ax ae,Z=ax ++ [ae]/\ae.T=aq:=by
  rcases cr.o with⟨U,-⟩|U
  ·exfalso;rw[U] at ao;simp at ao;omega
  exact U
 have bo:Z[D - 1]=ae:=by
  subst ac;simp only[ab,fc] at ao;rw[cK Jo];simp
 obtain⟨aD,aG,rfl,bZ,aH,bw,bx⟩:=jj bJ.o.rd ay;rw[bo] at aH bw bx;have cC:0<D:=Jo;have aI:=Jh (show ai<ar.heap.size from(Jl aL.o));have cI:=Jt ((0:Int)<(D:Int));have cl:decide (0<D)=true:=decide_eq_true cC;have cD:(0:Int)<=(D:Int) - 1:=Jo;have cE:(D:Int) - 1<D:=Jo;have cH:(1:Int)<=D:=Jo;have cF:IntKind.i64.wrap ((D:Int) - 1)=(D:Int) - 1:=by rw[aB];omega
 have cG:((D:Int) - 1).toNat=D - 1:=Jo;have ad:∀W,JC 264 #[py ⟨E,O,bE Q⟩,py ae] W λap H=>ap= .returned (.bool (sq ⟨E,O,bE Q⟩ ae))/\Jz W H:=λW=>wU _ _ W;have bc:=Jh ad;have ce:=Jh ac;have cS:=Jh bZ;have cU:=Jh bp;clear ad ac bZ bp bo ay ao ci;cases aM:sq ⟨E,O,bE Q⟩ ae with
 |false=>
  have aj:=Jh (show mi ⟨J,K,Y,y⟩=none by rw[aW.o];refine QB be.o ?_;rw[ce.o,bR.o];exact Lp aM);rw[aM] at bc;clear aM;refine wp_region_held_drew (S:=λH=>H.cell? (Jp (B+1) 2)=some (.bool true)/\H.cell? (Jp ai 0)=some (Ji E)/\H.cell? (Jp ai 1)=some (Ji O)/\H.cell? (Jp ai 2)=some (Ji (bE Q))/\H.cell? (Jp aD (aG+(D - 1)*3))=some (Ji ae.T)/\H.cell? (Jp aD (aG+(D - 1)*3+1))=some (Ji ae.ID)/\H.cell? (Jp aD (aG+(D - 1)*3+2))=some (Ji ae.V)) Jk ?_ (λad=>?_)
  ·exact⟨bU,br,bt,bv,aH,bw,bx⟩
  refine JK 0 (h:=JK 1 (h:=JK 2 (h:=JK 3 (h:=JK 4 (h:=JK 5 (h:=JK 6 (h:=JK 7 (h:=JK 8 (h:=JK 9 (h:=JK 10 (h:=JK 11 (h:=JK 12 (h:=JK 13 (h:=JK 14 (h:=JK 15 (h:=JK 16 (h:=JK 17 (h:=JK 18 (h:=JK 19 (h:=JK 20 (h:=?_)))))))))))))))))))));refine JN 21 (h:=λbS ay=>?_);go_simp;refine(bc.o _).mono ?_;rintro ap aA ⟨rfl,aP⟩;have ac:=Jh aP;clear aP;go_wp2_with fail;refine ay.out _ _ ?_ (λad=>?_)
  ·exact⟨al ac.o ad.1,al ac.o ad.2.1,al ac.o ad.2.2.1,al ac.o ad.2.2.2.1,al ac.o ad.2.2.2.2.1,al ac.o ad.2.2.2.2.2.1,al ac.o ad.2.2.2.2.2.2⟩
  clear ay bS;try simp only[an,JY]
  refine JK 22 (h:=JK 23 (h:=JK 24 (h:=?_)));refine wpAnyH_done Jk ?_ _;go_wp2_with fail;go_ret2;exact .inl ⟨aj.o,⟨_,rfl⟩,aT.o.trans (ac.o.h.mono (Jw aI.o))⟩
 |true=>
  have co:=Jh (show hU (Z ++ [⟨E,O,bE Q⟩])=true by refine xF cq.o (.inr ?_);rw[ce.o];rw[show qa (ax ++ [ae]) ((ax ++ [ae]).length - 1)=ae by simp[qa]];exact aM);rw[aM] at bc;clear aM;refine wp_region_held_drew (S:=λH=>H.cell? (Jp (B+1) 2)=some (.bool true)/\H.cell? (Jp ai 0)=some (Ji E)/\H.cell? (Jp ai 1)=some (Ji O)/\H.cell? (Jp ai 2)=some (Ji (bE Q))/\H.cell? (Jp aD (aG+(D - 1)*3))=some (Ji ae.T)/\H.cell? (Jp aD (aG+(D - 1)*3+1))=some (Ji ae.ID)/\H.cell? (Jp aD (aG+(D - 1)*3+2))=some (Ji ae.V)) Jk ?_ (λad=>?_)
  ·exact⟨bU,br,bt,bv,aH,bw,bx⟩
  refine JK 0 (h:=JK 1 (h:=JK 2 (h:=JK 3 (h:=JK 4 (h:=JK 5 (h:=JK 6 (h:=JK 7 (h:=JK 8 (h:=JK 9 (h:=JK 10 (h:=JK 11 (h:=JK 12 (h:=JK 13 (h:=JK 14 (h:=JK 15 (h:=JK 16 (h:=JK 17 (h:=JK 18 (h:=JK 19 (h:=JK 20 (h:=?_)))))))))))))))))))));refine JN 21 (h:=λbS ay=>?_);go_simp;refine(bc.o _).mono ?_;rintro ap aA ⟨rfl,aP⟩;have ac:=Jh aP;clear aP;go_wp2_with fail;refine ay.out _ _ ?_ (λad=>?_)
  ·exact⟨al ac.o ad.1,al ac.o ad.2.1,al ac.o ad.2.2.1,al ac.o ad.2.2.2.1,al ac.o ad.2.2.2.2.1,al ac.o ad.2.2.2.2.2.1,al ac.o ad.2.2.2.2.2.2⟩
  clear ay bS;try simp only[an,JY]
  refine JK 22 (h:=JK 23 (h:=JK 24 (h:=?_)));refine wpAnyH_done Jk ?_ _;have ay:=Jh (show Jz ar aA from ac.o.h);have am:=nM (B+1) 1 aA (Ji ak);have aV:=Jh (fC.at (a':=ak) (show fC (B+1) (S y) aw true aA from bf.o.frame (ay.o.block (B+1) (Jw aI.o))));have bF:=Jh (show sU B ⟨J,K,Y,y⟩ (aA.setCell (Jp (B+1) 1) (Ji ak)) from((am.block B Jo).trans (ay.o.block B (Jw aI.o))).trans b8.o);have bK:=Jh (nL (bJ.o.below ay.o) am (.inr (.inr rfl)));have bB:=Jh ((aT.o.trans (ay.o.mono (Jw aI.o))).trans (am.below Jo));have ct:=Jh ((am.block ai Jo).trans ((ay.o.block ai aI.o).trans aL.o));have b2:gm (λau=>au<B∨au=B∨au=B+1) (aA.setCell (Jp (B+1) 1) (Ji ak)):=λau b1=>Jw ((Jl aV.o));have bO:=Jh am.size;clear am;have cX:=al ay.o br;have bh:=al ay.o bt;have cZ:=al ay.o bv;obtain⟨-,da,-,db,-⟩:=(show fC (B+1) (S y) aw true aA from bf.o.frame (ay.o.block (B+1) (Jw aI.o))).cells;clear br bt bv aH bw bx cv cx bU cP cQ cD cE cF cG cH ac ad
  go_wp2_with (at_builtin;go_must (refine bb rfl (.tmp 75) (.tmp 77) 106 Jr 130 (.agg #[Ji 0,Ji 0,Ji 0]) 3 24 underlying106 GU rfl Jd _ D _ _ (aA.setCell (Jp (B+1) 1) (Ji ak)) #[Ji E,Ji O,Ji (bE Q)] rfl (by intro cM aZ;simp at aZ;rcases aZ with rfl|rfl|rfl<;>rfl) bK.o Jr b2 (by rw[bO.o];rfl) Jm Jo ?_);intro cN b5 aF az b0 bX;have bL:=Jh aF;have bM:=Jh (aV.o.frame (az.block (B+1) (.inr (.inr rfl))));have bG:=Jh (show sU B ⟨J,K,Y,y⟩ b5 from(az.block B (.inr (.inl rfl))).trans bF.o);have bC:=Jh (bB.o.trans (az.below λa6 aN=>.inl aN));obtain⟨bz,bT,rfl⟩:=aF.form;clear aF az b0 bX);go_roundw
  case rel=>
   have ad:(Z ++ [(⟨E,O,bE Q⟩:Row)]).length=D+1:=by rw[ab,aJ.o];rfl
   have cB:(Z ++ [(⟨E,O,bE Q⟩:Row)]).flatMap aR=Z.flatMap aR ++ #[cY .i64 E,Ji O,Ji (bE Q)].toList:=by simp[aR]
   have bS:=be.o;rw[bR.o] at bS;refine⟨Z ++ [⟨E,O,bE Q⟩],bq,ak,E,bz,bT,by rw[ad],rfl,by rw[ad];go_num,by rw[ad];simp only;omega,co.o,aX.o.1,by rw[ad];have:=aX.o.2;omega,bd.o.1,bd.o.2,.inr ⟨Z,_,rfl,rfl⟩,?_,bM.o,bG.o,bC.o,bS⟩;rw[ad,cB];exact bL.o
  simp[intOf];omega
theorem QD:∀(i:Nat)(D:List Row)(r:Row),i<D.length->(((D.flatMap aR).set (i*3) (Ji r.T)).set (i*3+1) (Ji r.ID)).set (i*3+2) (Ji r.V)=(D.set i r).flatMap aR:=by
 intro i;induction i with
 |zero=>
  intro D r E;cases D with
  |nil=>simp at E
  |cons y D=>simp[aR]
 |succ i H=>
  intro D r E;cases D with
  |nil=>simp at E
  |cons y D=>
   have:=H D r (by simpa using E);rw[aM,aE,aE,<-this];rw[show(i+1)*3=i*3+3 by omega];simp only[aR,aY,bi];rw[show i*3+3=(i*3+2)+1 by omega,aM,aM,aM];simp only[aM]
theorem vk (x D:Int)(r:Row)(b:Nat)(w:JW)(M:w.cell? (Jp b 0)=some (Ji x))(h1:w.cell? (Jp b 1)=some (Ji D)):
 JC 311 #[py r,Jv b] w λe w'=>e= .returned (.bool (!tB x D r))/\Jz w w':=by
 unfold py tB;obtain⟨y,J,K⟩:=r;simp only;have Q:=bq w _ M;simp only at Q;have V:(w.alloc (.cells #[Ji y,Ji J,Ji K] 130)).cell? (Jp b 0)=some (Ji x):=bO _ M;have W:(w.alloc (.cells #[Ji y,Ji J,Ji K] 130)).cell? (Jp b 1)=some (Ji D):=bO _ h1;have T:y<x∨(¬y<x/\D<=y)∨(¬y<x/\¬D<=y):=Jo;rcases T with E|⟨E,H⟩|⟨E,H⟩
 ·rw[show decide (x<=y)=false from decide_eq_false Jo];have O:decide (y<x)=true:=decide_eq_true E;go_enter Tryz.func311,Tryz.ntmps311;go_wp2_with fail;go_ret;exact⟨rfl,(ag _ w).alloc (ac _) _⟩
 ·rw[show decide (x<=y)=true from decide_eq_true Jo,show decide (y<D)=false from decide_eq_false Jo];have O:decide (y<x)=false:=decide_eq_false E;have U:decide (D<=y)=true:=decide_eq_true H;go_enter Tryz.func311,Tryz.ntmps311;go_wp2_with fail;go_ret;exact⟨rfl,(ag _ w).alloc (ac _) _⟩
 rw[show decide (x<=y)=true from decide_eq_true Jo,show decide (y<D)=true from decide_eq_true Jo];have O:decide (y<x)=false:=decide_eq_false E;have U:decide (D<=y)=false:=decide_eq_false H;go_enter Tryz.func311,Tryz.ntmps311;go_wp2_with fail;go_ret;exact⟨rfl,(ag _ w).alloc (ac _) _⟩
def Rq (x D:Int)(xs:List Row)(w:JW)(e:Ending)(w':JW):Prop:=
 Jz w w'/\(((∀H∈xs,tB x D H=true)/\e= .returned (Ji (-1)))∨∃(y:Nat)(J:y<xs.length),tB x D xs[y]=false/\(∀E,(hj:E<y)->tB x D (xs[E]'Jo)=true)/\e= .returned (Ji y))
theorem Pb (x K:Int)(b:Nat)(A:JA)(c n:Nat)(xs:List Row)(w:JW)(aj:w.cell? (Jp b 0)=some (Ji x))(h1:w.cell? (Jp b 1)=some (Ji K))(hr:Rd w 3 A n (xs.flatMap aR))(ao:xs.length=n)(aw:n<=16):
 JC 219 #[.slice A n c,.func (.func 311) #[] #[Jv b]] w (Rq x K xs w):=by
 have ae:=Jh hr;have M:=Jh ao;have ac:=Jh aj;have ad:=Jh h1;go_enter Tryz.func219,Tryz.ntmps219;go_wp2_with fail;go_loopw [8] (λE wr=>∃y:Nat,E=Ji y/\y<=n/\(∀D,D<y->∃O:D<xs.length,tB x K xs[D]=true)/\Jz w wr) (λE _=>n - (intOf E).toNat)
 case atStart=>exact⟨0,rfl,Jo,λD J=>absurd J Jo,ag _ _⟩
 obtain⟨y,rfl,au,ak,am⟩:=hrel;have Q:=Jh ak;have E:=Jh am;by_cases ax:y<n;rotate_left
 ·obtain rfl:y=n:=Jo;go_wp2_with fail;go_ret;refine⟨E.o,.inl ⟨λX hr=>?_,rfl⟩⟩;obtain⟨D,J,rfl⟩:=bz hr;exact(Q.o D (Jw M.o)).2
 have an:y<xs.length:=Jw M.o;obtain⟨aq,ay,rfl,ar,Z,aa,ab⟩:=jj (ae.o.below E.o) an;have av:(y:Int)<n:=Jo;have H:=Jh (vk x K xs[y] b wr (al E.o ac.o) (al E.o ad.o));obtain⟨X,hr⟩:=Je (xs[y]);rw[hr] at Z aa ab H;have Y:=Jh (show ∀O:y<xs.length,xs[y]'O=X from λ_=>hr);obtain⟨ah,af,ai⟩:=X;simp only at Z aa ab;cases O:tB x K ⟨ah,af,ai⟩ with
 |true=>
  rw[O] at H;have T:=Jh O;go_wp2_with fail;refine H.o.mono ?_;rintro V ap ⟨rfl,W⟩;have U:=Jh (E.o.trans (W.mono E.o.size));go_wp2_with fail;go_roundw
  case rel=>exact⟨y+1,by go_num,Jo,λD J=>by
   have:=M.o;by_cases V:D=y
   ·subst V;exact⟨Jo,by rw[Y.o];exact T.o⟩
   exact Q.o D Jo,U.o⟩
  simp[intOf];omega
 |false=>
  rw[O] at H;have T:=Jh O;go_wp2_with fail;refine H.o.mono ?_;rintro V ap ⟨rfl,W⟩;have U:=Jh (E.o.trans (W.mono E.o.size));go_wp2_with fail;go_ret;exact⟨U.o,.inr ⟨y,Jw M.o,by rw[Y.o];exact T.o,λD J=>(Q.o D J).2,rfl⟩⟩
def Rl (x y:Int)(xs:List Row)(B:Nat)(w:JW)(e:Ending)(w':JW):Prop:=
 ∃(D:JA)(E:Nat),e= .returned (.slice D (xs.filter (tB x y)).length E)/\Rd w' 3 D (xs.filter (tB x y)).length ((xs.filter (tB x y)).flatMap aR)/\Below B w w'
section
variable {p:Row->Bool} {xs ys:List Row} {i j:Nat}
theorem Oy {r:Row}(hi:i<ys.length)(J:i<j)(H:ys.take i=(xs.take j).filter p)(y:ys.drop j=xs.drop j)(D:j<xs.length)(hr:xs[j]=r)(E:p r=true):
 (ys.set i r).take (i+1)=(xs.take (j+1)).filter p/\(ys.set i r).drop (j+1)=xs.drop (j+1):=by
 subst hr;refine⟨?_,?_⟩
 ·rw[qu D E,<-H];rw[aO (by simpa using hi),List.take_set_of_le (ac _)];simp
 rw[List.drop_set_of_lt Jo,<-bR,y,bR]
end
theorem Tn (w:JW):(zeroValue 130).run prog w= .ok (.agg #[Ji 0,Ji 0,Ji 0]) w:=Jk
theorem bP.cut {R:Nat->Prop}{n i c g:Nat}{w:JW}{y:List Row}(h:bP R 130 3 (.slice (some (Jp g 0)) n c) n (y.flatMap aR) w)(hi:i<=y.length)(V:List Value):
 Rd (w.setCells g (i*3) V) 3 (some (Jp g 0)) i ((y.take i).flatMap aR):=by
 have O:((y.take i).flatMap aR).length=i*3:=by rw[de gv,aF];congr 1;omega
 refine⟨O,λD=>?_⟩;have Q:0<n:=by
  have D:=h.1.1;rw[de gv] at D;omega
 obtain⟨H,T,J,K,M⟩:=h.rd.2 Q;obtain⟨rfl,rfl⟩:g=H/\0=T:=by simpa using J
 refine⟨g,0,rfl,by rw[yz];exact K,λE U D=>?_⟩;have W:E<i*3:=by
  have:=(List.getElem?_eq_some_iff.1 D).1;omega
 rw[World.cell?_setCells_out _ _ _ _ _ (λ_ _=>.inl (by simp only;omega))];refine M E U ?_;rw[<-da i y,ao,eU Jo];exact D
theorem Ld (x D:Int)(b B:Nat)(A:JA)(c n:Nat)(xs:List Row)(w:JW)(ay:w.cell? (Jp b 0)=some (Ji x))(h1:w.cell? (Jp b 1)=some (Ji D))(aG:b<B)(hB:B<=w.heap.size)
 (hr:bP (λk=>k<B) 130 3 (.slice A n c) n (xs.flatMap aR) w) (E:xs.length=n) (aU:n<=16):
 JC 115 #[.slice A n c,.func (.func 311) #[] #[Jv b]] w (Rl x D xs B w):=by
 have Z:=Jh hr;have y:=Jh E;have aO:=Jh ay;have aP:=Jh h1;have aC:=Jh (Pb x D b A c n xs w ay h1 hr.rd E aU);clear hr E ay h1;go_enter Tryz.func115,Tryz.ntmps115;go_wp2_with fail;refine aC.o.mono ?_;rintro Q aY ⟨ag,⟨af,rfl⟩|⟨am,az,aH,aE,rfl⟩⟩
 ·have ai:=Jh ag;have H:=Jh af;clear ag af;go_wp2_with fail;go_ret;have E:xs.filter (tB x D)=xs:=List.filter_eq_self.2 H.o;exact⟨A,c,by rw[E,y.o];rfl,by rw[E,y.o];exact Z.o.rd.below ai.o,ai.o.mono hB⟩
 obtain⟨H,rfl,bg,a8⟩:=Z.o.own (show 0<n by rw[<-y.o];omega);have ak:B<=H:=by
  have:=Z.o.2 H rfl;omega
 have bc:am<n:=by rw[<-y.o];exact az
 have bh:((am:Int) == -1)=false:=beq_eq_false_iff_ne.2 Jo;have E:=ut az aH aE;have aD:=Jh E;have ai:=Jh (show Below B w aY from ag.mono hB);have aQ:=Jh (Z.o.below ag);clear E aH aE ag az aC Z;go_wp2_with fail;go_loopw [5,6] (λJ E wr=>∃(i j:Nat)(ys:List Row),J=Ji i/\E=Ji j/\i<j/\j<=n/\ys.length=n/\i=((xs.take j).filter (tB x D)).length/\ys.take i=(xs.take j).filter (tB x D)/\ys.drop j=xs.drop j/\bP (λk=>k<B) 130 3 (.slice (some (Jp H 0)) n c) n (ys.flatMap aR) wr/\Below B w wr) (λ_ E _=>n - (intOf E).toNat)
 case atStart=>exact⟨am,am+1,xs,rfl,by go_num,Jo,Jo,y.o,by rw[aD.o,aF,y.o];omega,aD.o.symm,rfl,aQ.o,ai.o⟩
 obtain⟨i,j,ys,rfl,rfl,aI,bd,T,K,htk,M,O,E⟩:=hrel;have J:=Jh T;have ar:=Jh K;have av:=Jh htk;have au:=Jh M;have U:=Jh O;have ae:=Jh E;clear T K htk M O E;by_cases aA:j<n;rotate_left
 ·obtain rfl:j=n:=Jo;have W:i<j:=aI;obtain⟨T,K,V⟩:=nC (P:=prog) wr 106 130 (.agg #[Ji 0,Ji 0,Ji 0]) 3 underlying106 Tn rfl Jd (by intro Y M;simp[Value.cells] at M;rcases M with rfl|rfl|rfl<;>rfl) H (i*3) (j - i) (c - i)
   (λO E=>by
    rw[U.o.1.cellAt _ Jo,aT (by rw[de gv,J.o];omega)];rfl)
   (λO E=>U.o.cell _)
  clear K;go_wp2_with fail;go_ret;have af:(xs.take j).filter (tB x D)=xs.filter (tB x D):=by rw[aw (by rw[y.o];exact ac _)]
  have K:(xs.filter (tB x D)).length=i:=by rw[<-af,<-ar.o]
  have E:=U.o.cut (i:=i) (by rw[J.o];omega) T;rw[av.o,af] at E;exact⟨_,c,by rw[K];rfl,by rw[K];exact E,iY ak _ _ _ ae.o⟩
 have E:j<ys.length:=Jw J.o;obtain⟨ax,aB,Q,ba,an,ao,ap⟩:=jj U.o.rd E;obtain⟨rfl,rfl⟩:H=ax/\0=aB:=by simpa using Q
 have W:j<xs.length:=Jw y.o;have K:=BH (by rw[J.o,y.o]) au.o W;obtain⟨aK,hr⟩:=Je (xs[j]);rw[K,hr] at an ao ap;simp only[bB] at an ao ap;have aj:=Jh (show ∀M:j<xs.length,xs[j]'M=aK from λ_=>hr);clear Q K hr E W;have aJ:B<=wr.heap.size:=Jo;have be:(j:Int)<n:=Jo;have bf:(i:Int)<n:=Jo;obtain⟨M,K,O⟩:=aK;simp only at an ao ap;have Y:=Jh (vk x D ⟨M,K,O⟩ b (wr.alloc (.cells #[Ji M,Ji K,Ji O] 130)) (bO _ ((ae.o.cell (p:=(Jp b 0)) aG).trans aO.o)) (bO _ ((ae.o.cell (p:=(Jp b 1)) aG).trans aP.o)));cases V:tB x D ⟨M,K,O⟩ with
 |true=>
  rw[V] at Y;have ad:=Jh V;clear V;go_wp2_with fail;refine Y.o.mono ?_;rintro Q aZ ⟨rfl,E⟩;have a1:=al E ((aa (heap_alloc_new wr (.cells #[Ji M,Ji K,Ji O] 130)) 0).trans rfl);have a6:=al E ((aa (heap_alloc_new wr (.cells #[Ji M,Ji K,Ji O] 130)) 1).trans rfl);have a7:=al E ((aa (heap_alloc_new wr (.cells #[Ji M,Ji K,Ji O] 130)) 2).trans rfl);have aq:=Jh (ae.o.trans (E.X.mono aJ));have T:=Jh (U.o.below E.X);have ah:i<ys.length:=Jw J.o;obtain⟨ax,aB,Q,bb,aL,aM,aN⟩:=jj T.o.rd ah;obtain⟨rfl,rfl⟩:H=ax/\0=aB:=by simpa using Q
  simp only[bB] at aL aM aN;generalize ys[i]=bi at aL aM aN;have bj:=T.o.cell (i*3);have bk:=T.o.cell (i*3+1);have bl:=T.o.cell (i*3+2);clear E Q ah an ao ap Y;go_wp2_with fail;go_roundw
  case rel=>
   have ah:i<ys.length:=Jw J.o;have aV:=QD i ys ⟨M,K,O⟩ ah;have W:j<xs.length:=by rw[y.o];exact aA
   obtain⟨aW,aX⟩:=Oy ah aI av.o au.o W (aj.o W) ad.o;have aS:=qu (p:=tB x D) W (by rw[aj.o];exact ad.o);exact⟨i+1,j+1,ys.set i ⟨M,K,O⟩,by go_num,by go_num,Jo,Jo,by rw[fk,J.o],by rw[aS,ab,<-ar.o];rfl,aW,aX,by rw[<-aV];exact((T.o.store _).store _).store _,((aq.o.setCell (p:=(Jp H (i*3))) ak _).setCell (p:=(Jp H (i*3+1))) ak _).setCell (p:=(Jp H (i*3+2))) ak _⟩
  simp[intOf];omega
 |false=>
  rw[V] at Y;have ad:=Jh V;clear V;go_wp2_with fail;refine Y.o.mono ?_;rintro Q aZ ⟨rfl,E⟩;have aq:=Jh (ae.o.trans (E.X.mono aJ));have T:=Jh (U.o.below E.X);clear E;go_wp2_with fail;go_roundw
  case rel=>exact⟨i,j+1,ys,rfl,by go_num,Jo,Jo,J.o,by rw[oy (by rw[y.o];exact aA) (by rw[aj.o];exact ad.o)];exact ar.o,by rw[oy (by rw[y.o];exact aA) (by rw[aj.o];exact ad.o)];exact av.o,by rw[<-bR,au.o,bR],T.o,aq.o⟩
  simp[intOf];omega
def wV (l:JU)(x y:Int):Option (List Row):=(iH l).bind (qm x y)
def Rk (s:ByteArray)(x E:Int)(B:Nat)(w:JW)(e:Ending)(w':JW):Prop:=
 (wV s.data.toList x E=none/\e= .returned (.tuple #[Jn,Ji 11])/\Below B w w')∨
  ∃y D,wV s.data.toList x E=some y/\e= .returned (.tuple #[D,Ji 0])/\bP (λH=>H<B) 130 3 D y.length (y.flatMap aR) w'/\y.length<=6400/\Below B w w'
section
variable {x y:Int} {fs:List vU} {i:Nat} {acc rs:List Row} {H:Option (List Row)} {f:vU}
theorem NX (h:i<fs.length)(y:fs[i]=f):fs.drop i=f :: fs.drop (i+1):=by rw[dm h,y]
theorem BQ:DY f x y=true↔max f.F x<min f.T y:=by unfold DY;simp
theorem NZ (J:fs.drop i=f :: fs.drop (i+1))(D:DY f x y=false)(h:(qm x y (fs.drop i)).map (λr=>acc ++ r)=H):(qm x y (fs.drop (i+1))).map (λr=>acc ++ r)=H:=by
 rw[<-h,J,qm,if_neg (λE=>by rw[BQ.2 E] at D;cases D)]
theorem Oa (D:fs.drop i=f :: fs.drop (i+1))(E:DY f x y=true)(hr:mi f=none)(h:(qm x y (fs.drop i)).map (λr=>acc ++ r)=H):H=none:=by
 rw[<-h,D,qm,if_pos (BQ.1 E),hr];rfl
theorem NY (D:fs.drop i=f :: fs.drop (i+1))(E:DY f x y=true)(hr:mi f=some rs)(h:(qm x y (fs.drop i)).map (λr=>acc ++ r)=H):(qm x y (fs.drop (i+1))).map (λr=>(acc ++ rs.filter (tB x y)) ++ r)=H:=by
 rw[<-h,D,qm,if_pos (BQ.1 E),hr];simp only[Option.map_map];congr 1;funext r;simp
theorem NW (hi:i=fs.length)(h:(qm x y (fs.drop i)).map (λr=>acc ++ r)=H):H=some acc:=by
 rw[<-h,hi,List.drop_length];simp[qm]
end
theorem px (l:List Row):∀u∈l.flatMap aR,u.oneCell'=true:=by
 intro u D;simp only[List.mem_flatMap] at D;obtain⟨E,-,y⟩:=D;simp only[aR,dh,di,or_false] at y;rcases y with rfl|rfl|rfl<;>rfl
def Ua (x M:Int)(fs:List vU)(E:Option (List Row))(w1:JW)(K H:Value)(wr:JW):Prop:=
 ∃(i:Nat)(acc:List Row)(y:JA)(D:Nat),H=Ji i/\K= .slice y acc.length D/\i<=fs.length/\acc.length<=16*i/\bP (λJ=>J<w1.heap.size) 130 3 (.slice y acc.length D) acc.length (acc.flatMap aR) wr/\Jz w1 wr/\
  (qm x M (fs.drop i)).map (λy=>acc ++ y)=E
theorem FF (s:ByteArray)(x y:Int)(B:Nat)(w:JW)(hB:w.heap.size=B)(bU:s.size<=1000000):JC 224 #[.string s,.agg #[Ji x,Ji y]] w (Rk s x y B w):=by
 have aS:(w.alloc (.cells #[Ji x,Ji y] 30)).heap.size=B+1:=by simp[hB]
 have bK:(w.alloc (.cells #[Ji x,Ji y] 30)).heap[B]?=some (.cells #[Ji x,Ji y] 30 (0,0)):=by rw[<-hB];exact heap_alloc_new w _
 have bJ:Below B w (w.alloc (.cells #[Ji x,Ji y] 30)):=(ag B w).alloc Jo _;have br:=Jh bK;have aM:=Jh bJ;have bm:=Jh (Lk s (B+1) (w.alloc (.cells #[Ji x,Ji y] 30)) aS bU);have bl:=Jh aS;go_enter Tryz.func224,Tryz.ntmps224;go_wp2_with fail;generalize w.alloc (.cells #[Ji x,Ji y] 30)=cm at*;refine bm.o.mono ?_;rintro am aL (⟨an,rfl,Z⟩|⟨fs,ck,an,rfl,aU,bN,Z⟩)
 ·have ad:=Jh (show wV s.data.toList x y=none by unfold wV;rw[an];rfl);have ae:=Jh (aM.o.trans (Z.mono Jo));go_wp2_with fail;go_ret2;exact .inl ⟨ad.o,rfl,ae.o⟩
 have bR:=Lm an;obtain⟨H,aW⟩:=Je (qm x y fs);have ad:=Jh (show wV s.data.toList x y=H by unfold wV;rw[an,<-aW];rfl);have bp:=Jh aW;have bz:=Jh bR;have bG:B+1<=aL.heap.size:=by rw[<-bl.o];exact Z.size
 have bt:=Jh ((Z.block B Jo).trans br.o);have ae:=Jh (aM.o.trans (Z.mono Jo));obtain⟨b0,b2,rfl⟩:=aU.form;have aR:=Jh aU;have bw:=Jh (bX s);obtain⟨aw,a8⟩:=Je fs.length;have Y:=Jh a8;rw[a8] at aR bN ⊢;go_wp2_with fail;go_loopw [8,22] (λE D wr=>Ua x y fs H aL E D wr) (λ_ D _=>aw - (intOf D).toNat)
 case atStart=>exact⟨0,[],none,0,rfl,rfl,Jo,Js,bP.nil _ _ _ _,ag _ _,by rw[fe,bp.o];simp⟩
 obtain⟨i,acc,bh,bC,rfl,rfl,bM,bH,a6,aY,bQ⟩:=hrel;have ak:=Jh bQ;have Q:=Jh aY;have cc:B+1<=wr.heap.size:=ap bG aY.size;obtain⟨bd,a7⟩:=Je acc.length;rw[a7] at a6 bH ⊢;have V:=Jh a7;have aj:=Jh a6;have aZ:=(Q.o.block B Jo).trans bt.o;have bf:wr.cell? (Jp B 0)=some (Ji x):=(aa aZ 0).trans rfl;have bg:wr.cell? (Jp B 1)=some (Ji y):=(aa aZ 1).trans rfl;rw[Y.o] at bM;by_cases cf:i<aw;rotate_left
 ·obtain rfl:i=aw:=Jo;have D:=Jh (NW Y.o.symm ak.o);go_wp2_with fail;go_ret2;exact .inr ⟨acc,_,by rw[ad.o];exact D.o,rfl,by rw[V.o];exact aj.o.shift λav aE E=>aj.o.2 av aE Jo,by rw[V.o];omega,ae.o.trans (Q.o.mono Jo)⟩
 have aH:i<fs.length:=Jw Y.o;obtain⟨aC,aJ,rfl,cd,ar⟩:=(aR.o.below Q.o).rd.elem vG Jd aH;have aT:=ar 0 _ rfl;have az:=ar 1 _ rfl;have aA:=ar 2 _ rfl;have aB:=ar 3 _ rfl;have T:=bz.o fs[i] (ah aH);obtain⟨f,a1⟩:=Je (fs[i]);have ax:=Jh (NX aH a1);rw[a1] at aT az aA aB T;have bA:=Jh (show Iz 1000000 f from⟨T.1,T.2.1,T.2.2.1,T.2.2.2.1,T.2.2.2.2.1,by have:=T.2.2.2.2.2;have:=bw.o;omega⟩);obtain⟨O,E,D,J⟩:=f;simp only[dz] at aT az aA aB;have b3:wr.cell? (Jp aC (aJ+i*4+1))=some (Ji E):=by rw[aV];exact az
 have b4:wr.cell? (Jp aC (aJ+i*4+2))=some (Ji D):=by rw[aV];exact aA
 have b5:wr.cell? (Jp aC (aJ+i*4+3))=some (.string (S J)):=by rw[aV];exact aB
 have ce:(i:Int)<aw:=Jo;have cb:B<wr.heap.size:=Jo;have co:(wr.alloc (.cells #[Ji O,Ji E,Ji D,.string (S J)] 430)).cell? (Jp B 0)=some (Ji x):=bO _ bf;have cq:(wr.alloc (.cells #[Ji O,Ji E,Ji D,.string (S J)] 430)).cell? (Jp B 1)=some (Ji y):=bO _ bg;have ac:=Jh (SD ⟨O,E,D,J⟩ x y (wr.alloc (.cells #[Ji O,Ji E,Ji D,.string (S J)] 430)));cases au:DY ⟨O,E,D,J⟩ x y with
 |false=>
  have W:=Jh (NZ ax.o au ak.o);rw[au] at ac;go_wp2_with fail;refine ac.o.mono ?_;rintro am M ⟨rfl,K⟩;have U:=Jh (Q.o.trans (K.X.mono Q.o.size));have ay:=Jh (aj.o.below K.X);go_wp2_with fail;go_roundw
  case rel=>exact⟨i+1,acc,bh,bC,by go_num,by rw[V.o],by rw[Y.o];omega,by rw[V.o];omega,by rw[V.o];exact ay.o,U.o,W.o⟩
  simp[intOf];omega
 |true=>
  have aP:=Jh au;rw[au] at ac;go_wp2_with fail;refine ac.o.mono ?_;rintro am M ⟨rfl,K⟩;have U:=Jh (Q.o.trans (K.X.mono Q.o.size));have ay:=Jh (aj.o.below K.X);have aq:=(K.block wr.heap.size Js).trans (heap_alloc_new wr (.cells #[Ji O,Ji E,Ji D,.string (S J)] 430));have b6:M.cell? (Jp wr.heap.size 0)=some (Ji O):=(aa aq 0).trans rfl;have b7:M.cell? (Jp wr.heap.size 1)=some (Ji E):=(aa aq 1).trans rfl;have b8:M.cell? (Jp wr.heap.size 2)=some (Ji D):=(aa aq 2).trans rfl;have b9:M.cell? (Jp wr.heap.size 3)=some (.string (S J)):=(aa aq 3).trans rfl;have bY:=al K.X bf;have bZ:=al K.X bg;have cj:wr.heap.size+1<=M.heap.size:=by have:=K.size;simp at this;omega
  have bo:=Jh (Tf ⟨O,E,D,J⟩ M.heap.size M rfl bA.o);go_wp2_with fail;refine bo.o.mono ?_;rintro am bW (⟨aD,⟨bV,rfl⟩,W⟩|⟨rs,bV,aD,rfl,aF,ba,W⟩)
  ·have av:=Jh (show wV s.data.toList x y=none by rw[ad.o];exact Oa ax.o aP.o aD ak.o);have af:=Jh (U.o.trans (W.mono U.o.size));go_wp2_with fail;go_ret2;exact .inl ⟨av.o,rfl,ae.o.trans (af.o.mono Jo)⟩
  have bx:=Jh (NY ax.o aP.o aD ak.o);obtain⟨bi,bD,rfl⟩:=aF.form;have bn:=Jh (Ld x y B M.heap.size bi bD rs.length rs bW (al W bY) (al W bZ) Jo W.size aF rfl ba);have af:=Jh W;have b1:=Jh aF;have cg:∀(aE:Fn)(first av:Array Value)(w:JW),(cO aE first av).run prog w= .ok (.func aE first av) w:=λ_ _ _ _=>rfl;have aO:=Jh (fb (tB x y) rs);go_wp2_with fail;refine bn.o.mono ?_;rintro am be ⟨bj,bE,rfl,bT,aX⟩;have aQ:=Jh bT;have bu:=Jh (ay.o.below (af.o.trans aX));have aN:=Jh (U.o.trans ((af.o.trans aX).mono U.o.size));have bS:gm (λav=>av<aL.heap.size) be:=λav aE=>ai aE aN.o.size;obtain⟨aK,bb⟩:=Je ((rs.filter (tB x y)).length);rw[bb] at aQ aO ⊢;have bB:=Jh bb;have ci:aK<=16:=ap aO.o ba;go_wp2_with (at_builtin;go_must (refine cX rfl (.tmp 37) (.tmp 40) 106 Jr 130 (.agg #[Ji 0,Ji 0,Ji 0]) 3 24 underlying106 GU rfl Jd _ bd _ _ be bu.o Jr bS bj aK bE _ Jr aQ.o (px _) Jm Jo ?_);intro cl cn aI bc bL bI;have bv:=Jh aI;have bq:=Jh (aN.o.trans (bc.below λD aG=>aG));obtain⟨bk,bF,rfl⟩:=aI.form;clear aI bc bL bI);go_roundw
  case rel=>
   have aG:(acc ++ rs.filter (tB x y)).length=bd+aK:=by rw[ab,V.o,bB.o]
   exact⟨i+1,acc ++ rs.filter (tB x y),bk,bF,by go_num,by rw[aG],by rw[Y.o];omega,by rw[aG];omega,by rw[aG,ao];exact bv.o,bq.o,bx.o⟩
  simp[intOf];omega
end Go.Proofs.YtibmlemoghcbkaaGreatDoor
