/-
  What 'TopSums' stands on, part 3 of 6.
-/
import Derived.Test.YtibmlemoghcbkaaGreatDoorP2
import Derived.Maps.OwnIn
import Derived.Shelf.SlIter.Nil
import Derived.Shelf.SortM.Plain
import Derived.Shelf.SortM.SortNone
import Derived.Shelf.SlIterI.Collect
import Derived.Shelf.SlMaps.Clone
set_option linter.unusedSimpArgs false
set_option linter.unusedVariables false
set_option maxRecDepth 100000
set_option maxHeartbeats 8000000
open Array renaming getElem?_modify→aA,getElem?_setIfInBounds_ne→eC,length_toList→dM,replicate_succ→bY,replicate_zero→bZ
open BitVec renaming ofInt_natCast→fZ,ofInt→dU
open Bool renaming and_eq_true→bT
open Go.Act renaming put→an
open Go.Builtin renaming append_→gp,append→gd,zeroCells→dO
open Go.Callee renaming builtin→fD
open Go.Calls renaming quiet_of_same→ek
open Go.Exit renaming inBlock→jc,«then»→gM
open Go.Fence renaming wide→dI
open Go.Instr renaming index→jD,lookup→eQ,makeFunc→cO
open Go.IntKind renaming wrap_i64→aB,wrap_u64→bD
open Go.IntWalk renaming i64_in→bC,u64_in→bJ
open Go.KeepsOthers renaming refl→fR,setCell→cU
open Go.Lib renaming alloc_old→aJ,bitLen_le8'→gq,cell?_alloc_some→bO,cell_of_heap→aa,compareInt→bK,decDigits→dk,frozen_of_heap→aW,heap_setCell_same→am,hid→eE,run_eql_slice_nil→fO,size_eq→bX,toList_data→dY
open Go.Maps renaming size→iL
open Go.Region renaming ready→fH,wanted→dD
open Go.Result renaming andThen→iM
open Go.RowKit.Below renaming heap_setCell→ae,refl→ag
open Go.Value renaming int→cY,ownBlock→aG,slice→aQ
open Go.World renaming alloc_heap_new→cD,block_lt_of_cell?→bq,cell?_of_block→af,cell?_setCell_other→fK,cell?→dL,putObj_heap_other→aZ,putObj→ik,setCell→aj,size_alloc→aI
open Int renaming eq_ofNat_of_zero_le→dA,le_refl→gg,tdiv_eq_ediv_of_nonneg→fE,toNat_natCast→dE,toNat_of_nonneg→el
open List renaming append_assoc→au,append_nil→cV,append_toArray→cz,cons_append→aY,dropWhile_sublist→eR,drop_drop→bR,drop_eq_getElem_cons→dm,drop_eq_nil_of_le→dF,drop_left'→gr,drop_left→eF,drop_succ_cons→dr,drop_zero→fe,eq_nil_of_length_eq_zero→bu,filter_append→dV,filter_cons→ei,find?_cons_of_neg→dW,find?_some→eN,flatMap_append→ao,flatMap_cons→aE,flatMap_nil→iK,foldl_cons→ia,getD_eq_getElem?_getD→bQ,getElem?_append_left→eU,getElem?_append_right→fF,getElem?_cons_succ→aS,getElem?_cons_zero→aD,getElem?_drop→dJ,getElem?_eq_getElem→aT,getElem?_toArray→aH,getElem_append_left→du,getElem_append_right→cK,getElem_cons_succ→ck,getElem_cons_zero→bf,getElem_map→eS,getElem_mem→ah,getElem_of_mem→bz,getElem_range→gS,length_append→ab,length_cons→ak,length_drop→bo,length_filter_le→fb,length_map→bU,length_nil→aX,length_range→dG,length_replicate→eo,length_set→fk,length_singleton→fc,length_take→aF,length→eZ,map_append→cH,map_congr_left→gw,map_cons→bV,map_map→ig,map_nil→ii,mem_cons_of_mem→aC,mem_cons_self→az,mem_cons→dh,mem_of_find?_eq_some→cL,mem_of_mem_take→eG,nil_append→bi,not_mem_nil→di,pairwise_append→gh,pairwise_iff_getElem→dS,pairwise_map→cS,push_toArray→cT,range'→iX,range_succ→dZ,range→aL,replicate→cm,setIfInBounds_toArray→bg,set_cons_succ→aM,set_cons_zero→bG,size_toArray→cJ,sum_cons→gJ,take_append_drop→da,take_append_getElem→bc,take_left→gT,take_length→fq,take_of_length_le→aw,take_succ_cons→dN,take_succ_eq_append_getElem→aO,take_zero→ff
open List.Pairwise renaming filter→ie,imp→cQ,nil→cj
open Nat renaming add_assoc→aV,add_zero→dz,eq_zero_or_pos→dx,le_of_lt→fl,le_of_not_lt→ft,le_refl→ac,le_trans→ap,lt_of_lt_of_le→ai,lt_or_ge→et,min_eq_left→ec,mod_eq_of_lt→fS,mod_lt→dX,mul_comm→dj,mul_le_mul_right→dP,mul_le_mul→ee,pow_le_pow_right→ce,reduceAdd→bM,reduceSub→dC,sub_self→fG,succ_mul→jQ,two_pow_add_eq_or_of_lt→eu,two_pow_pos→cg,xor_assoc→fU,zero_add→bB,zero_le→bj,zero_mul→gG
open Ne renaming symm→fV
open Option renaming bind_some→bW,getD_none→gN,getD_some→fu,isSome_none→gU,map_some→eO
open Prod renaming fst→dQ
open UInt8 renaming ofNat→dw,toNat_ofNat'→eH
namespace Go.Proofs.YtibmlemoghcbkaaGreatDoor
open Go Go.RowKit
open Tryz
section
open Go Go.RowKit Go.Shelf
attribute [local go_sem] Oper.semAt_some
theorem QJ:(prog.info? 68).map (λi=>(i.zero,i.size,i.bytes))=some (some (.agg #[Ji 0,Jn]),2,32):=Jk
theorem fi {F:Fence}{Z:Nat}{P:Program}{aa:Array Oper}{ab:List Oper}{o:Oper}{a:Act}{U:Exit->Act->World->Prop}(ah:o.guard=none)(s x:Operand)(J:TypeId)
 (ho:o.op=Op.call {callee:=fD gd,args:=#[s,x],argTypes:=#[J,J]})
 (e:TypeId) (z:Value) (size O:Nat) (ap:P.underlying J=some (.slice e)) (ak:(P.info? e).map (λi=>(i.zero,i.size,i.bytes))=some (some z,size,O))
 (ax:z.cells.size=size) (ao:0<size) (H:Nat->Prop) (n:Nat) (xs:List Value) (v:Value) (y:JW) (us:Array Value) (aq:us.size=size) (h1:∀u∈us.toList,u.oneCell'=true)
 (M:bP H e size v n xs y) (an:a.eval s=v) (Y:gm H y) (ar:a.eval x= .slice (some (Jp y.heap.size 0)) 1 1)
 (al:n+1<=maxLen) (af:(n+1)*O<=140737488355328)
 (h:∀v' w',bP H e size v' (n+1) (xs ++ us.toList) w'->cC H y w'->KeepsOthers y w'->wpListIn F Z P aa U ab (a.put o.dst v') w'):
 wpListIn F Z P aa U (o :: ab) a (y.alloc (.cells us e)):=by
 obtain⟨i,aj,au,av,aw⟩:=info_parts ak;have ag:=World.grownBy_alloc y (.cells us e) v.ownBlock;refine wpListIn_append_own_at _ ah s x J ho 0 e i z size O ap aj au av aw ax ao v n xs an (M.1.alloc _) (Jp y.heap.size 0) 1 1 us.toList ar (by simp[aq]) (nc y us e) h1 al af (bj _) ?_;intro v' w' am ai az ad;have D:y.grownBy w' v.ownBlock:=ag.trans ai;have ae:v'.ownBlock=v.ownBlock∨∃E,v'.ownBlock=some E/\y.heap.size<=E:=by
  rcases ad with h1|h1
  ·exact .inl h1
  exact .inr ⟨_,h1,Js⟩
 refine h v' w' ⟨am,λE T V=>?_⟩ ⟨D.os,D.tape,D.output,D.size,λQ X=>D.block Q (Y Q X) (λac=>M.2 Q ac.symm X)⟩ (KeepsOthers.of_grownBy D λay o K W=>?_)
 ·rcases ae with h1|⟨Q,h1,X⟩
  ·exact M.2 E (h1.symm.trans T) V
  rw[h1] at T;obtain rfl:Q=E:=by simpa using T
  have:=Y _ V;omega
 rcases M.1.2 with⟨e,_⟩|⟨Q,T,V,e,_,E,_⟩
 ·rw[e] at K;simp[aG] at K
 rw[e] at K;obtain rfl:Q=ay:=by simpa [aG] using K
 rw[E] at W;obtain rfl:_=o:=by simpa using W
 rfl
def CL (l:JU)(w:JW)(e:Ending)(w':JW):Prop:=
 ∃E H,∃D:List ej,e= .returned (.tuple #[.slice E D.length H,Ji (uq l).2])/\fI w' E D (uq l).1/\(∀y∈D,y.n<=y.c/\y.c<=maxLen)/\Below w.heap.size w w'
theorem ji {w w':JW}{row:Option Nat}{k:Nat}{cs:Array Value}{t:TypeId}{f:Nat × Nat}(h:w.heap[k]?=some (.cells cs t f))(H:w.grownBy w' row)(J:∀r,row=some r->∃o:Obj,w.heap[r]?=some o/\o.isCells=false):w'.heap[k]?=some (.cells cs t f):=by
 refine(H.block k (Jl h) λD=>?_).trans h;obtain⟨o,y,E⟩:=J k D.symm;rw[h] at y;obtain rfl:_=o:=by simpa using y
 simp[Obj.isCells] at E
theorem PI {ps:List (Nat × JU)}{n:Nat}(h:ps.length=n):(aL n).map (jr ps)=ps:=by
 subst h;refine List.ext_getElem Js λE D y=>?_;simp only[eS,gS];exact oL y
def We (ps:List (Nat × JU))(B q:Nat)(w:JW)(M:List Nat)(y:JW):Prop:=
 ∃H J,∃(D:List ej)(K:List eP),y.heap[q]?=some (.cells #[.slice H D.length J] 63 (0,0))/\fP (q+3) 68 (.slice H D.length J) D K y/\rb (M.map (jr ps))=some K/\(∀E∈D,E.n<=E.c/\E.c<=maxLen)/\
  y.heap[B]?=some (.cells #[Jn] 63 (0,0))/\y.heap[B+1]?=some (.cells #[Ji 0] 32 (0,0))/\Below B w y/\q+3<=y.heap.size
def Ub (ps:List (Nat × JU))(B:Nat)(w:JW)(xs:List Nat)(y:JW):Prop:=
 ∃E D,xs=E ++ [D]/\kO (jr ps D).2=none/\y.cell? (Jp B 0)=some (Jn)/\y.cell? (Jp (B+1) 0)=some (Ji 11)/\Below B w y
theorem Ek (s:ByteArray)(w:JW)(c8:s.size<=1000000):JC 293 #[.string s] w (CL s.data.toList w):=by
 have ct:=Jh (λ(ai:JW)=>yH s ai.heap.size ai rfl c8);refine(callsIn_wide (n:=4)).1 (callsIn_of_wp_marks Tryz.func293 rfl trivial (wpIn_mono ?_ iQ.marks));simp only[Tryz.ntmps293,cJ,ak,aX,bM,dC,bY,bZ,cT,cz,bi,aY];refine wpIn_wide.2 ?_;obtain⟨y,ba⟩:=Je w.heap.size;unfold CL;rw[ba];go_wp2_with fail;obtain⟨ai,db,dN,bV,Y,bO⟩:∃ai,((w.alloc (.cells #[Jn] 63)).alloc (.cells #[Ji 0] 32))=ai/\ai.heap.size=y+2/\Below y w ai
  /\ai.heap[y]?=some (.cells #[Jn] 63 (0,0))/\ai.heap[y+1]?=some (.cells #[Ji 0] 32 (0,0)):=by
  have aD:=cD w (.cells #[Jn] 63);have b6:=cD (w.alloc (.cells #[Jn] 63)) (.cells #[Ji 0] 32);simp only[aI,ba,aV,bM] at aD b6;refine⟨_,rfl,by simp[ba],?_,?_,b6⟩
  ·subst ba;exact((ag _ _).alloc (ac _) _).alloc Js _
  exact(aJ _ _ _ (by simp;omega)).trans aD
 simp only[db];refine(ct.o ai).mono ?_;rintro H aU (⟨bw,⟨ds,rfl⟩,T⟩|⟨am,br,ds,bw,da,dI,rfl,aQ,cS,T⟩)
 ·obtain⟨dD,ay⟩:=one_cell ((T.block _ Jo).trans Y);obtain⟨dE,aq⟩:=one_cell ((T.block _ Jo).trans bO);have bm:=Jh (bV.trans (T.mono Jo));have bH:=Jh (La bw);go_wp2_with fail;refine⟨_,(by rw[gj rfl];go_simp;rfl),none,0,[],by rw[bH.o];rfl,by rw[bH.o];exact⟨rfl,Rd.nil _ _ _,λJ W=>absurd W Js⟩,Js,?_⟩;exact(bm.o.setCell (p:=(Jp y 0)) Js _).setCell (p:=(Jp (y+1) 0)) Js _
 have bP:=(T.block _ Jo).trans Y;have bR:=(T.block _ Jo).trans bO;obtain⟨aF,a6,rfl⟩:=aQ.form;obtain⟨D,az⟩:=Je aU.heap.size;have cy:∀aG bh,aF=some (Jp aG bh)->aG<D:=by
  intro aG bh H;rcases aQ.1.2 with⟨Z,_⟩|⟨dF,dA,dB,Z,_,cM,_⟩
  ·subst H;simp at Z
  subst H;simp only[Value.slice.injEq,Option.some.injEq,Addr.mk.injEq] at Z;obtain⟨⟨rfl,-⟩,-⟩:=Z;exact az▸(Jl cM)
 have ck:=Jh aQ.rd;have bm:=Jh (bV.trans (T.mono Jo));obtain⟨E,bd⟩:=Je (mK am (s.data.toList.drop br));have c1:E.length=am.length:=by rw[<-bd,lV]
 have c6:∀J,(jr E J).2.length<=1000000:=by
  intro J;unfold jr;rw[bQ];cases H:E[min J (E.length - 1)]? with
  |none=>simp
  |some dp=>
   simp only[fu];refine sB am (s.data.toList.drop br) 1000000 ?_ dp (bd▸List.mem_of_getElem? H);rw[bo,<-bX];omega
 have bI:=Jh (show iD s.data.toList=some E by rw[bw,bd]);have dG:y+2<=D:=Jw T.size;have cb:=Jh cy;have aR:=Below.one aU (.cells #[Jn] 63);rw[az] at aR;have b5:=cD aU (.cells #[Jn] 63);rw[az] at b5;have aB:(aU.alloc (.cells #[Jn] 63)).heap.size=D+1:=by simp[az]
 have cl:=Jh (ck.o.below (az▸aR));have Q:=Jh (bm.o.trans (aR.mono (show y<=D by omega)));have de:=(aR.block y Jo).trans bP;have df:=(aR.block (y+1) Jo).trans bR;go_wp2_with fail;generalize aU.alloc (.cells #[Jn] 63)=aW at*;refine(AD s aF am.length a6 aW).mono ?_;rintro H al ⟨rfl,bf⟩;have dM:al.heap.size=D+3:=by rw[bf];simp[aB]
 have aO:Below (D+1) aW al:=by rw[bf,<-aB];exact((ag _ _).alloc (ac _) _).alloc Js _
 have dn:=cD aW (.cells #[.string s] 9);have aD:=cD (aW.alloc (.cells #[.string s] 9)) (.cells #[.slice aF am.length a6] 417);simp only[aI] at aD;rw[<-bf,aB] at aD;have cI:al.cell? (Jp (D+2) 0)=some (.slice aF am.length a6):=by rw[aa aD];rfl
 have cK:al.cell? (Jp (D+1) 0)=some (.string s):=by rw[<-aB,aa (show al.heap[aW.heap.size]?=_ from by rw[bf];exact(aJ _ _ _ Js).trans dn)];rfl
 have dg:=(aO.block D Jo).trans b5;have dh:=(aO.block y Jo).trans de;have di:=(aO.block (y+1) Jo).trans df;have cf:=Jh (Q.o.trans (aO.mono (show y<=D+1 by omega)));have cm:=Jh (cl.o.below (by rw[aB];exact aO));have ce:=Jh (fP.empty (D+3) 68 al Jo);try rw[aB]
 try rw[az]
 try simp only[aV,bM]
 go_wp2_with fail;refine AM 7 8 (n:=4) Jd (gf:=360) (lb:=#[.pointer (some (Jp (D+2) 0)),.pointer (some (Jp (D+1) 0))]) rfl (enters_of Tryz.func360 Jk rfl)
  (e1:=λJ:Nat=>Ji ((jr E J).1:Int)) (e2:=λJ:Nat=>.string (S (jr E J).2))
  (vn 3 (λX=>X<D+3/\X≠D) aF (D+2) (D+1) am.length a6 br s am al ⟨Jo,Jo⟩ Jo Jo cI cK cm.o (λX cP=>Jo) (λaG bh H=>Jw (cb.o aG bh H)) rfl da cS E bd.symm) (λW X=>W.trans X) ?kb
  (We E y D w) (Ub E y w) ?own ?ownr ?start ?assign ?body ?done ?stop
 case kb=>exact λM aC aE dQ dK _ _ _=>⟨by simp[ik],λX cP=>aZ Jo⟩
 case own=>
  rintro aw M O bB ⟨an,Y,V,aC,ay,aq,ar,aH,aK,aL,aN,a8⟩ U be;have av:∀ad,bB=some ad->∃aE:Obj,M.heap[ad]?=some aE/\aE.isCells=false:=λad H=>(be ad H).2;exact⟨an,Y,V,aC,ji ay U av,aq.grown U av,ar,aH,ji aK U av,ji aL U av,ownFrom_below (β:=List Nat) (n₀:=y) (B:=al.heap.size) (w₀:=w) Jo Jo aw _ _ _ aN U be,ap a8 U.size⟩
 case ownr=>
  rintro V M O bB ⟨aw,K,rfl,bu,Z,a7,T⟩ U b0;have av:∀ad,bB=some ad->∃aE:Obj,M.heap[ad]?=some aE/\aE.isCells=false:=λad H=>(b0 ad H).2;refine⟨aw,K,rfl,bu,cell_kept Z U av,cell_kept a7 U av,?_⟩;exact ownFrom_below (β:=List Nat) (n₀:=y) (B:=al.heap.size) (w₀:=w) Jo Jo aw _ _ _ T U b0
 case start=>exact⟨none,0,[],[],dg,ce.o,rfl,Js,dh,di,cf.o,Jo⟩
 case assign=>
  intro co K M dz bT;simp only[bg,bG,aM] at bT ⊢;gi_wp2;exact bT
 case body=>
  intro co aw K M cB dL;obtain⟨an,Y,V,aC,ay,aq,ar,aH,aK,aL,aN,a8⟩:=cB;simp only[bg,bG,aM];have cr:=Jh (Av (jr E K).2 M (c6 K));have b8:=Jh ay;have bk:=Jh aq;have b9:=Jh ar;have bl:=Jh aH;have bC:=Jh aK;have bD:=Jh aL;have a1:=Jh aN;have dc:V.length<=200:=by
   have Z:=ER ar;rw[bU] at Z;have a7:=aq.len;omega
  gi_wp2;refine⟨trivial,nO cr.o ?_⟩;rintro H cu (⟨bb,rfl,au⟩|⟨bq,bj,X,bb,rfl,be,cQ,cR,au,cL⟩)
  ·have dj:=(au.block y Jo).trans bC.o;have dk:=(au.block (y+1) Jo).trans bD.o;obtain⟨dl,dq⟩:=one_cell dj;obtain⟨dm,dr⟩:=one_cell dk;have Q:=Jh au;have cd:=Jh bb;gi_wp2;refine⟨(qK Q.o).trans ((cU _ _ _).trans (cU _ _ _)),rfl,aw,K,rfl,cd.o,by go_simp,by go_simp,?_⟩;exact((a1.o.trans (Q.o.mono Jo)).setCell (p:=(Jp y 0)) Js _).setCell (p:=(Jp (y+1) 0)) Js _
  have cC:0<bq.length:=by
   have aS:=bb;unfold kO at aS;split at aS
   ·rename_i W;simp only[Option.some.injEq] at aS;subst aS;exact List.length_pos_iff.2 W.2
   cases aS
  have b4:=(au.block D Jo).trans b8.o;obtain⟨bA,p0⟩:=one_cell b4;obtain⟨bN,cZ,aQ,cW⟩:=bk.o.more (I:=((jr E K).1:Int)) (c:=X) a8 au rfl be cL cC;have dH:∀aT,aT<D+3->bN aT∨True:=λ_ _=>.inr trivial;have bK:=Jh aQ;have cj:=Jh cZ;have bp:=Jh cW;have cn:=Jh (Bc b9.o bb);have Q:=Jh au;have bJ:=Jh (Ja cQ cR);have bL:=Jh b4;obtain⟨bz,cV⟩:=Je bq.length;rw[cV] at bp bJ ⊢;obtain⟨J,aP⟩:=Je V.length;have bn:=Jh aP;rw[aP] at bK bp bA dc bL;gi_wp2_with (gi_at_builtin;go_must (refine fi rfl (.tmp 31) (.tmp 35) 63 Jr 68 (.agg #[Ji 0,Jn]) 2 32 underlying63 QJ rfl Jd bN J _ _ cu #[Ji ((jr E K).1:Int),.slice bj bz X] rfl (by intro dS b2;simp at b2;rcases b2 with rfl|rfl<;>rfl) bK.o Jr cj.o Jr Jm Jo ?_);intro dt du bv b1 bW;have bc:=bp.o dt du bv b1;have ci:=Jh bc.1;have ax:=Jh (bc.2);have cg:=Jh bW;obtain⟨b7,cv,rfl⟩:=bv.form;have bx:=(bc.2.block D Jo).trans bL.o;obtain⟨dP,dR⟩:=one_cell bx;have cq:=Jh bx;clear bv b1 bW bc bx);have b3:(V ++ [(⟨((jr E K).1:Int),bj,bz,X⟩:ej)]).length=J+1:=by rw[ab,bn.o];rfl
  refine⟨(qK Q.o).trans (cg.o.trans (cU _ _ _)),⟨?_,λaT cO=>?_⟩,b7,cv,V ++ [⟨((jr E K).1:Int),bj,bz,X⟩],aC ++ [⟨((jr E K).1:Int),bq⟩],?_,?_,by rw[cH];exact cn.o,?_,?_,?_,?_,?_⟩
  ·exact ap Q.o.size (by simpa [aj] using ax.o.size)
  ·exact(ae _ _ _ _ (by simp only;omega)).trans ((ax.o.block aT cO.1).trans (Q.o.block aT Jo))
  ·rw[b3];simp[aj,aA,cq.o]
  ·rw[b3];exact ci.o.later (by simp[aj]) λcx U _=>ae _ _ _ _ (by simp only;omega)
  ·intro dw dd;rcases List.mem_append.1 dd with W|W
   ·exact bl.o dw W
   rw[List.mem_singleton.1 W];exact bJ.o
  ·exact(ae _ _ _ _ (by simp only;omega)).trans ((ax.o.block y Jo).trans ((Q.o.block y Jo).trans bC.o))
  ·exact(ae _ _ _ _ (by simp only;omega)).trans ((ax.o.block (y+1) Jo).trans ((Q.o.block (y+1) Jo).trans bD.o))
  ·exact((a1.o.trans (Q.o.mono Jo)).trans (ax.o.mono Jo)).setCell (p:=(Jp D 0)) (by simp only;omega) _
  have bP:=Q.o.size;have bR:=ax.o.size;simp[aj];omega
 case done=>
  rintro ao dv M cA rfl ⟨an,Y,V,aC,ay,aq,ar,aH,aK,aL,aN,a8⟩ bt;rw[PI c1] at ar;have bE:=Jh (zL bI.o ar);obtain⟨bA,p0⟩:=one_cell ay;obtain⟨dl,dq⟩:=one_cell aK;obtain⟨dm,dr⟩:=one_cell aL;have bk:=Jh aq;have bl:=Jh aH;have a1:=Jh aN;have cc:=Jh bt;obtain⟨J,aP⟩:=Je V.length;have bn:=Jh aP;rw[aP] at bA;go_wp2_with fail;obtain⟨O,cF,u1,u2,bS,cG,cX⟩:∃O,(M.setCell (Jp y 0) (.slice an J Y)).setCell (Jp (y+1) 0) (Ji 0)=O/\O.cell? (Jp y 0)=some (.slice an J Y)/\O.cell? (Jp (y+1) 0)=some (Ji 0)/\O.heap[ao]?=some (.deferred (some []))/\Below y w O/\fP (D+3) 68 (.slice an V.length Y) V aC O:=
   ⟨_,rfl,by go_simp,by go_simp,(ae _ _ _ _ (by simp only;omega)).trans ((ae _ _ _ _ (by simp only;omega)).trans cc.o),(a1.o.setCell (p:=(Jp y 0)) Js _).setCell (p:=(Jp (y+1) 0)) Js _,
    bk.o.later (by simp[aj]) λcx U _=>(ae _ _ _ _ (by simp only;omega)).trans (ae _ _ _ _ (by simp only;omega))⟩
  rw[cF];have dx:=(af (w:=O) (w':=O.putObj ao (.deferred none)) (a:=(Jp y 0)) (aZ (by simp only;omega))).trans u1;have dy:=(af (w:=O) (w':=O.putObj ao (.deferred none)) (a:=(Jp (y+1) 0)) (aZ (by simp only;omega))).trans u2;have cY:=cX.grown (grownBy_putObj' O ao (.deferred none)) (λad H=>by cases H;exact⟨_,bS,rfl⟩);refine⟨Js,.inl ⟨_,_,rfl,run_takeDeferred bS,?_⟩⟩;refine⟨_,(by rw[gj rfl];go_simp;rfl),an,Y,V,by rw[bE.o,bn.o];rfl,by rw[bE.o];exact cY.yy,bl.o,iP cG Jo⟩
 case stop=>
  rintro ao dv M cA cE ⟨aw,K,rfl,bu,Z,a7,T⟩ bt;obtain⟨dO,dJ⟩:=tL cE;have cN:jr E K=E[K]'Jo:=oL Jo;have bF:=Jh (Ov bI.o (Bb (p:=jr E K) (by rw[cN];exact ah _) bu));have dx:=(af (w:=M) (w':=M.putObj ao (.deferred none)) (a:=(Jp y 0)) (aZ (by simp only;omega))).trans Z;have dy:=(af (w:=M) (w':=M.putObj ao (.deferred none)) (a:=(Jp (y+1) 0)) (aZ (by simp only;omega))).trans a7;refine⟨Js,.inl ⟨_,_,rfl,run_takeDeferred bt,?_⟩⟩;refine⟨_,(by rw[gj rfl];go_simp;rfl),none,0,[],by rw[bF.o];rfl,by rw[bF.o];exact⟨rfl,Rd.nil _ _ _,λJ W=>absurd W Js⟩,Js,iP T Jo⟩
end
def pM (y:List Int):Prop:=y.Pairwise (·< ·)
def mC (t:Int)(k:Nat):Int:=t*10+k
def fo (D:List Int)(k:Nat):eP:=⟨k,D.map λy=>⟨y,mC y k⟩⟩
def full (N:Nat)(y:List Int):List eP:=if y=[] then[] else(aL N).map (fo y)
def df (N:Nat)(E:List Int):List Row:=E.flatMap λD=>(aL N).map λ(y:Nat)=>⟨D,(y:Int),mC D y⟩
theorem wy {y:List Int}(h:pM y)(k:Nat):Up kS (fo y k).L:=by
 unfold fo Up;simp only;rw[cS];refine cQ (λ{D E} H=>?_) h;simp only[kS,kl];omega
theorem jq {N:Nat}{D:List Int}(h:pM D):jP (full N D):=by
 unfold full;by_cases y:D=[]
 ·rw[if_pos y];exact jP.nil
 rw[if_neg y];refine⟨?_,λH E=>?_⟩
 ·unfold Up;rw[cS];refine cQ (λ{H J} K=>?_) (List.pairwise_lt_range (n:=N));simp only[kI,kl,fo];omega
 obtain⟨H,-,rfl⟩:=List.mem_map.1 E;refine⟨wy h H,λE=>y ?_⟩;simpa [fo] using E
def BP (N:Nat)(D:List Int)(y t:Int):Option Int:=if 0<=y/\y<N/\t∈D then some (t*10+y) else none
theorem CS {y:List Int}(h:pM y)(k:Nat)(t:Int):(kU kS (fo y k).L (t,0)).map (·.V)=if t∈y then some (mC t k) else none:=by
 by_cases D:t∈y
 ·rw[if_pos D];have E:(⟨t,mC t k⟩:ar)∈(fo y k).L:=List.mem_map.2 ⟨t,D,rfl⟩;have:=lD (wy h k).once E;rw[show((t,0):Int × Int)=kS ⟨t,mC t k⟩ from rfl,this];rfl
 rw[if_neg D,ke.2]
 ·rfl
 intro M J E;obtain⟨K,H,rfl⟩:=List.mem_map.1 J;exact D (by have:=congrArg dQ E;simp only[kS] at this;rwa [this] at H)
theorem qS {N:Nat}{D:List Int}(h:pM D)(E t:Int):wi (full N D) E t=BP N D E t:=by
 unfold BP;by_cases J:D=[]
 ·subst J;rw[if_neg Js];simp[full,wi,kU]
 by_cases K:0<=E/\E<N
 ·obtain⟨y,rfl⟩:∃y:Nat,E=y:=⟨E.toNat,Jo⟩;have M:y<N:=Jo;have Q:fo D y∈full N D:=by
   unfold full;rw[if_neg J];exact List.mem_map.2 ⟨y,List.mem_range.2 M,rfl⟩
  have O:=lD (jq h (N:=N)).up.once Q;unfold wi;rw[show((y:Int),(0:Int))=kI (fo D y) from rfl,O,bW,CS h];by_cases H:t∈D
  ·rw[if_pos H,if_pos ⟨K.1,K.2,H⟩];rfl
  rw[if_neg H,if_neg (by simp[H])]
 rw[if_neg (by intro Q;exact K ⟨Q.1,Q.2.1⟩)];unfold wi;rw[ke.2]
 ·rfl
 intro V H T;unfold full at H;rw[if_neg J] at H;obtain⟨y,M,rfl⟩:=List.mem_map.1 H;have O:=List.mem_range.1 M;have U:=congrArg dQ T;simp only[kI,fo] at U;omega
theorem tR {N:Nat}{y:List Int}(h:pM y):Up kR (df N y):=by
 unfold df Up;induction y with
 |nil=>exact cj
 |cons t y O=>
  obtain⟨J,K⟩:=List.pairwise_cons.1 h;rw[aE,gh];refine⟨?_,O K,λE M H D=>?_⟩
  ·rw[cS];refine cQ (λ{E H} Q=>?_) (List.pairwise_lt_range (n:=N));exact .inr ⟨rfl,by show(E:Int)<H;omega⟩
  obtain⟨Q,-,rfl⟩:=List.mem_map.1 M;obtain⟨H,E,D⟩:=List.mem_flatMap.1 D;obtain⟨M,-,rfl⟩:=List.mem_map.1 D;have:=J H E;simp only[kR,kl];omega
theorem Aq {N:Nat}{E:List Int}(h:pM E)(D t:Int):vK (df N E) D t=BP N E D t:=by
 unfold BP vK;by_cases H:0<=D/\D<N/\t∈E
 ·obtain⟨M,K,J⟩:=H;rw[if_pos ⟨M,K,J⟩];obtain⟨y,rfl⟩:∃y:Nat,D=y:=⟨D.toNat,Jo⟩;have O:(⟨t,(y:Int),mC t y⟩:Row)∈df N E:=List.mem_flatMap.2 ⟨t,J,List.mem_map.2 ⟨y,List.mem_range.2 Jo,rfl⟩⟩;have:=lD (tR h (N:=N)).once O;rw[show(t,(y:Int))=kR ⟨t,(y:Int),mC t y⟩ from rfl,this];rfl
 rw[if_neg H,ke.2]
 ·rfl
 intro U J K;obtain⟨T,Q,J⟩:=List.mem_flatMap.1 J;obtain⟨y,O,rfl⟩:=List.mem_map.1 J;have M:=List.mem_range.1 O;simp only[kR,Prod.mk.injEq] at K;obtain⟨rfl,rfl⟩:=K;exact H ⟨Jo,Jo,Q⟩
theorem pB {N:Nat}{y:List Int}(h:pM y):kn (full N y)=df N y:=QC (QA (jq h)) (tR h) λD E=>by rw[Po (jq h),qS h,Aq h]
theorem DZ (N:Nat)(us bs:List Int)(y t:Int):BP N (us ++ bs) y t=(BP N bs y t).or (BP N us y t):=by
 unfold BP;by_cases D:0<=y/\y<N
 ·by_cases E:t∈us<;>by_cases H:t∈bs<;>simp[D,E,H]
 have:∀H:Prop,¬(0<=y/\y<N/\H):=λH E=>D ⟨E.1,E.2.1⟩;rw[if_neg (this _),if_neg (this _),if_neg (this _)];rfl
theorem EC {N:Nat}{us bs:List Int}(y:pM us)(D:pM bs)(h:pM (us ++ bs)):jV (full N us) (df N bs) (full N (us ++ bs)):=
 ⟨jq h,λE H=>by rw[qS h,Aq D,qS y,DZ]⟩
theorem wt {N:Nat}{y:List Int}(h:pM y):jV [] (df N y) (full N y):=by
 have:=EC (N:=N) (us:=[]) (bs:=y) cj h h;simpa [full] using this
theorem Co (N:Nat)(us bs:List Int):df N (us ++ bs)=df N us ++ df N bs:=by simp[df]
theorem AY (N:Nat)(y:List Int):(df N y).length=y.length*N:=by
 unfold df;induction y with
 |nil=>simp
 |cons t y D=>rw[aE,ab,D,bU,dG,ak,jQ];omega
theorem nj (N:Nat){y:List Int}(h:y≠[]):(full N y).length=N:=by unfold full;rw[if_neg h];simp
theorem qG (N:Nat)(y:List Int):((full N y).map λs=>s.L.length).sum=N*y.length:=by
 unfold full;by_cases D:y=[]
 ·subst D;simp
 rw[if_neg D,ig,show((λs:eP=>s.L.length) ∘ fo y)=λ_=>y.length from funext λE=>by simp[fo]];induction N with
 |zero=>simp
 |succ N E=>rw[dZ,cH,List.sum_append,E,jQ];simp
theorem lZ {N:Nat}{y:List Int}{s:eP}(h:s∈full N y):∃k,k<N/\s=fo y k:=by
 unfold full at h;by_cases D:y=[]
 ·rw[if_pos D] at h;cases h
 rw[if_neg D] at h;obtain⟨k,E,rfl⟩:=List.mem_map.1 h;exact⟨k,List.mem_range.1 E,rfl⟩
theorem pM.filter {y:List Int}(h:pM y)(p:Int->Bool):pM (y.filter p):=ie p h
theorem rD {l:List Int}:∀{m:List Int},l.Nodup->(∀x∈l,x∈m)->l.length<=m.length:=by
 induction l with
 |nil=>intro m _ _;exact bj _
 |cons x l Q=>
  intro m J y;obtain⟨K,M⟩:=List.nodup_cons.1 J;have D:=y x (az ..);have O:=Q (m:=m.erase x) M λT E=>(List.mem_erase_of_ne λH=>K (by rw[<-H];exact E)).2 (y T (aC _ E));rw[List.length_erase_of_mem D] at O;have:=List.length_pos_of_mem D;rw[ak];omega
theorem pM.ext:∀{a b:List Int},pM a->pM b->(∀t,t∈a↔t∈b)->a=b
 |[],[],_,_,_=>rfl
 |[],J :: b,_,_,D=>absurd ((D J).2 (az ..)) Js
 |E :: a,[],_,_,D=>absurd ((D E).1 (az ..)) Js
 |E :: a,J :: b,U,V,D=>by
  obtain⟨K,O⟩:=List.pairwise_cons.1 U;obtain⟨M,Q⟩:=List.pairwise_cons.1 V;have T:E=J:=by
   rcases List.mem_cons.1 ((D E).1 (az ..)) with y|y
   ·exact y
   rcases List.mem_cons.1 ((D J).2 (az ..)) with H|H
   ·exact H.symm
   have:=K J H;have:=M E y;omega
  subst T;refine congrArg (E :: ·) (pM.ext O Q λt=>⟨λH=>?_,λH=>?_⟩)
  ·rcases List.mem_cons.1 ((D t).1 (aC _ H)) with y|y
   ·subst y;have:=K t H;omega
   exact y
  rcases List.mem_cons.1 ((D t).2 (aC _ H)) with y|y
  ·subst y;have:=M t H;omega
  exact y
def fa (D:List Int)(d:Int):List Int:=D.filter λy=>decide (y / 100=d)
theorem oQ {y:List Int}{d t:Int}:t∈fa y d↔t∈y/\t / 100=d:=by simp[fa]
theorem Ko {y:List Int}(h:pM y)(d:Int):pM (fa y d):=h.filter _
structure qc (ts D:List Int):Prop where
 up:pM D
 mem:∀d,d∈D↔∃t∈ts,t / 100=d
theorem JE {H:List Int}(E:pM H):∀y:List Int,pM y->pM (y.flatMap (fa H))
 |[],_=>cj
 |J :: y,M=>by
  obtain⟨O,Q⟩:=List.pairwise_cons.1 M;unfold pM;rw[aE,gh];refine⟨Ko E J,JE E y Q,λK T U D=>?_⟩;obtain⟨K,U,D⟩:=List.mem_flatMap.1 D;have V:=(oQ.1 T).2;have T:=(oQ.1 D).2;have:=O K U;omega
theorem Ls {D E:List Int}(H:pM D)(h:qc D E):E.flatMap (fa D)=D:=
 pM.ext (JE H E h.up) H λJ=>by
  rw[List.mem_flatMap];constructor
  ·rintro⟨K,-,y⟩;exact(oQ.1 y).1
  intro y;exact⟨J / 100,(h.mem _).2 ⟨J,y,rfl⟩,oQ.2 ⟨y,rfl⟩⟩
theorem wI {D y:List Int}(h:qc D y){d:Int}(H:d∈y):fa D d≠[]:=by
 obtain⟨K,J,E⟩:=(h.mem d).1 H;exact List.ne_nil_of_mem (oQ.2 ⟨J,E⟩)
theorem QY (y:List Int)(d:Int):(fa y d).length<=y.length:=fb _ _
theorem Aa (N:Nat)(D:List Int):∀y:List Int,(y.flatMap λd=>df N (fa D d))=df N (y.flatMap (fa D))
 |[]=>rfl
 |d :: y=>by rw[aE,aE,Co,Aa N D y]
theorem MP (N:Nat)(D:List Int)(d:Int):(df N D).filter (λr=>decide (r.T / 100=d))=df N (fa D d):=by
 unfold df fa;induction D with
 |nil=>rfl
 |cons t D H=>
  rw[aE,dV,H,ei];by_cases y:t / 100=d
  ·rw[if_pos (by simpa using y),aE];congr 1;refine List.filter_eq_self.2 λr E=>?_;obtain⟨J,-,rfl⟩:=List.mem_map.1 E;simpa using y
  rw[if_neg (by simpa using y)];rw[List.filter_eq_nil_iff.2 λr E=>?_]
  ·rfl
  obtain⟨J,-,rfl⟩:=List.mem_map.1 E;simpa using y
theorem qp {H y:List Int}(h:qc H y):y.length<=H.length:=by
 have M:y.Nodup:=cQ (λh=>Jo) h.up;have O:∀D∈y,D∈H.map λE=>E / 100:=λD K=>by
  obtain⟨E,Q,J⟩:=(h.mem D).1 K;exact List.mem_map.2 ⟨E,Q,J⟩
 have:=rD M O
 rwa [bU] at this
def vN (t:Int)(x:Row):JU:=uint (x.T - t).toNat ++ uint x.ID.toNat ++ uint (fh x.V)
def fp:Int->List Row->JU
 |_,[]=>[]
 |E,y :: D=>vN E y ++ fp y.T D
def lastOf:Int->List Row->Int
 |D,[]=>D
 |_,E :: y=>lastOf E.T y
theorem qP:∀(l:List Row)(t:Int)(x:Row),lastOf t (l ++ [x])=x.T
 |[],_,_=>rfl
 |_ :: l,_,x=>qP l _ x
theorem vc:∀(l:List Row)(t:Int)(x:Row),fp t (l ++ [x])=fp t l ++ vN (lastOf t l) x
 |[],t,x=>by simp[fp,lastOf]
 |y :: l,t,x=>by simp only[aY,fp,lastOf,vc l,au]
theorem qO:∀(l:List Row)(t:Int),l≠[]->lastOf t l=(qa l (l.length - 1)).T
 |[],_,D=>absurd rfl D
 |[y],_,_=>rfl
 |y :: E :: l,t,_=>by
  have:=qO (E :: l) y.T Js;simpa [lastOf,qa] using this
def firstT (rs:List Row):Int:=(qa rs 0).T
def gZ (rs:List Row):JU:=fp (firstT rs) rs
def kY (rs:List Row):JU:=uint (firstT rs).toNat ++ uint (lastOf (firstT rs) rs - firstT rs).toNat ++ uint (gZ rs).length
def bI (rows:List Row)(i:Nat):List Row:=(rows.drop (i*16)).take 16
def jN (rows:List Row)(D:List Nat):JU:=D.flatMap λy=>kY (bI rows y)
def gX (rows:List Row)(D:List Nat):JU:=D.flatMap λy=>gZ (bI rows y)
def encR (rows:List Row):JU:=uint rows.length ++ jN rows (aL (kv rows.length)) ++ gX rows (aL (kv rows.length))
def Qx (x:Row):Bool:=decide (0<=x.T) && decide (x.T<1099511627776) && decide (0<=x.ID) && decide (x.ID<200)
theorem tQ {x:Row}:Qx x=true↔0<=x.T/\x.T<1099511627776/\0<=x.ID/\x.ID<200:=by unfold Qx;simp[and_assoc]
def iZ (rows:List Row):Bool:=hU rows && rows.all Qx
def vV (l:List Row)(j:Nat):Prop:=Qx (qa l j)=true/\(j=0∨sq (qa l j) (qa l (j - 1))=true)
theorem zV:∀(l m:List Row),hU (l ++ m)=true->hU m=true
 |[],_,y=>y
 |[E],m,y=>by
  cases m with
  |nil=>rfl
  |cons D m=>
   simp only[aY,bi,hU,bT] at y;exact y.2
 |E :: D :: l,m,y=>by
  simp only[aY,hU,bT] at y;exact zV (D :: l) m y.2
theorem So {l:List Row}(h:hU l=true){j:Nat}(H:j+1<l.length):sq (qa l (j+1)) (qa l j)=true:=by
 rw[<-da (j+2) l] at h;have D:=uv h;rw[show l.take (j+2)=l.take (j+1) ++ [l[j+1]] by rw[bc]] at D;rcases(xE D).2 with y|y
 ·simp only[aF] at y;omega
 have E:qa (l.take (j+1)) ((l.take (j+1)).length - 1)=qa l j:=by
  rw[fB (by simp only[aF];omega),fB Jo,List.getElem_take];congr 1;simp only[aF];omega
 rw[E] at y;rw[fB H];exact y
theorem SB {l:List Row}(h:∀j,j<l.length->vV l j):iZ l=true:=by
 unfold iZ;rw[bT];constructor
 ·have K:∀j,j<=l.length->hU (l.take j)=true:=by
   intro j;induction j with
   |zero=>intro _;rfl
   |succ j J=>
    intro D;rw[show l.take (j+1)=l.take j ++ [l[j]] by rw[bc]];refine xF (J Jo) ?_;rcases(h j Jo).2 with y|y
    ·left;subst y;rfl
    rcases dx j with E|E
    ·left;subst E;rfl
    right;have H:qa (l.take j) ((l.take j).length - 1)=qa l (j - 1):=by
     rw[fB (by simp only[aF];omega),fB Jo,List.getElem_take];congr 1;simp only[aF];omega
    rw[H];rw[fB (show j<l.length by omega)] at y;exact y
  have:=K l.length (ac _)
  rwa [fq] at this
 rw[List.all_eq_true];intro E y;obtain⟨j,D,rfl⟩:=bz y;have:=(h j D).1
 rwa [fB D] at this
theorem tw {l:List Row}(h:iZ l=true){j:Nat}(y:j<l.length):vV l j:=by
 unfold iZ at h;rw[bT] at h;refine⟨?_,?_⟩
 ·rw[fB y];exact List.all_eq_true.1 h.2 _ (ah y)
 cases j with
 |zero=>exact .inl rfl
 |succ j=>exact .inr (So h.1 y)
theorem NU {a b:Row}(h:sq b a=true):a.T<=b.T:=by
 unfold sq at h;simp at h;omega
theorem sr (rows:List Row)(i:Nat):(bI rows i).length=mG rows.length i:=by unfold bI mG;simp;omega
theorem Bv {rows:List Row}{i r:Nat}(h:r<(bI rows i).length):∃y:i*16+r<rows.length,(bI rows i)[r]=rows[i*16+r]:=by
 have D:(bI rows i).length=min 16 (rows.length - i*16):=by simp[bI]
 refine⟨Jo,?_⟩;simp[bI]
theorem Df {rows:List Row}{i:Nat}(h:0<(bI rows i).length):∃y:i*16<rows.length,firstT (bI rows i)=rows[i*16].T:=by
 obtain⟨y,D⟩:=Bv h;exact⟨y,by unfold firstT;rw[fB h,D];rfl⟩
theorem qn {rows:List Row}(J:iZ rows=true){i r:Nat}(h:r<(bI rows i).length):
 ∃D:i*16+r<rows.length,(bI rows i)[r]=rows[i*16+r]/\0<=lastOf (firstT (bI rows i)) ((bI rows i).take r)/\lastOf (firstT (bI rows i)) ((bI rows i).take r)<=rows[i*16+r].T/\rows[i*16+r].T<1099511627776/\0<=rows[i*16+r].ID/\rows[i*16+r].ID<200/\
  firstT (bI rows i)<=lastOf (firstT (bI rows i)) ((bI rows i).take r):=by
 obtain⟨D,Q⟩:=Bv h;obtain⟨H,K⟩:=Df (show 0<(bI rows i).length by omega);have E:=tQ.1 ((fB D▸(tw J D).1));have V:=tQ.1 ((fB H▸(tw J H).1));have Y:∀y,y<=r->firstT (bI rows i)<=lastOf (firstT (bI rows i)) ((bI rows i).take y)/\lastOf (firstT (bI rows i)) ((bI rows i).take y)<=(qa rows (i*16+y)).T:=by
  intro y;induction y with
  |zero=>intro _;refine⟨gg _,?_⟩;simp only[ff,lastOf,dz];rw[K,fB H];exact gg _
  |succ y X=>
   intro Z;obtain⟨aa,W⟩:=X Jo;obtain⟨O,U⟩:=Bv (show y<(bI rows i).length by omega);rw[show(bI rows i).take (y+1)=(bI rows i).take y ++ [(bI rows i)[y]] by rw[bc],qP,U];rw[fB O] at W;refine⟨Jo,?_⟩;rcases(tw J (show i*16+(y+1)<rows.length by omega)).2 with M|M
   ·omega
   have:=NU M;rw[show i*16+(y+1) - 1=i*16+y by omega,fB O] at this;exact this
 obtain⟨O,M⟩:=Y r (ac _);rw[fB D] at M;have U:0<=firstT (bI rows i):=by rw[K];exact V.1
 exact⟨D,Q,Jo,M,E.2.1,E.2.2.1,E.2.2.2,O⟩
theorem kG {rs:List Row}{r:Nat}{t:Int}(h:r<rs.length):fp t (rs.take (r+1))=fp t (rs.take r) ++ vN (lastOf t (rs.take r)) rs[r]/\lastOf t (rs.take (r+1))=rs[r].T:=by
 rw[show rs.take (r+1)=rs.take r ++ [rs[r]] by rw[bc]];exact⟨vc _ _ _,qP _ _ _⟩
theorem Qz {t:Int}{x:Row}(J:0<=t)(h1:x.T<1099511627776)(K:x.ID<200)(y:pJ x.V):(vN t x).length<=30:=by
 unfold vN;have D:=bA (n:=(x.T - t).toNat) Jo;have E:=bA (n:=x.ID.toNat) Jo;have H:=bA (n:=fh x.V) (jp y.1 y.2);simp only[ab];omega
theorem KD {rows:List Row}(K:iZ rows=true)(M:∀x∈rows,Row.ok x)(i:Nat):∀r,r<=(bI rows i).length->(fp (firstT (bI rows i)) ((bI rows i).take r)).length<=30*r:=by
 intro r;induction r with
 |zero=>intro _;simp[fp]
 |succ r O=>
  intro V;obtain⟨D,y,E,Q,H,T,J,U⟩:=qn K (show r<(bI rows i).length by omega);rw[(kG (show r<(bI rows i).length by omega)).1,ab,y];have:=O Jo;have:=Qz (x:=rows[i*16+r]) E H J (M _ (ah D)).2.2;omega
theorem rm {rows:List Row}(D:iZ rows=true)(E:∀x∈rows,Row.ok x)(i:Nat):(gZ (bI rows i)).length<=480:=by
 have y:=KD D E i _ (ac _);rw[fq] at y;have H:(bI rows i).length<=16:=by rw[sr];unfold mG;omega
 unfold gZ;omega
theorem qQ {rows:List Row}(D:iZ rows=true){i:Nat}(hi:i<kv rows.length):0<=firstT (bI rows i)/\firstT (bI rows i)<=lastOf (firstT (bI rows i)) (bI rows i)/\lastOf (firstT (bI rows i)) (bI rows i)<1099511627776:=by
 have M:0<(bI rows i).length:=by rw[sr];unfold mG;unfold kv at hi;omega
 obtain⟨W,H,Y,Z,K,aa,ab,ac⟩:=qn D (show(bI rows i).length - 1<(bI rows i).length by omega);obtain⟨X,O,y,J,Q,T,U,V⟩:=qn D (show 0<(bI rows i).length from M);have E:=kG (rs:=bI rows i) (t:=firstT (bI rows i)) (show(bI rows i).length - 1<(bI rows i).length by omega);rw[show(bI rows i).length - 1+1=(bI rows i).length by omega,fq] at E;rw[E.2,H];simp only[ff,lastOf] at y J;exact⟨y,Jo,K⟩
theorem Eb {rows:List Row}(y:iZ rows=true)(D:∀x∈rows,Row.ok x){i:Nat}(hi:i<kv rows.length):(kY (bI rows i)).length<=30:=by
 obtain⟨K,M,O⟩:=qQ y hi;have Q:=rm y D i;unfold kY;have E:=bA (n:=(firstT (bI rows i)).toNat) Jo;have H:=bA (n:=(lastOf (firstT (bI rows i)) (bI rows i) - firstT (bI rows i)).toNat) Jo;have J:=bA (n:=(gZ (bI rows i)).length) Jo;simp only[ab];omega
theorem rB {rows:List Row}(D:iZ rows=true)(E:∀x∈rows,Row.ok x):∀y:List Nat,(∀i∈y,i<kv rows.length)->(jN rows y).length<=30*y.length/\(gX rows y).length<=480*y.length
 |[],_=>by simp[jN,gX]
 |i :: y,H=>by
  have J:=rB D E y λM K=>H M (aC _ K);have K:=Eb D E (H i (az ..));have M:=rm D E i;simp only[jN,gX,aE,ab,ak] at J ⊢;omega
theorem jL {l r:JU}{n k:Nat}(D:n<18446744073709551616)(y:k<=l.length)(h:l.drop k=uint n ++ r):aK l k=(n,((k+(uint n).length:Nat):Int),0):=by
 have:=qH (l:=l) (k:=k) (a:=n) (b:=(uint n).length) (by rw[h];exact oB D r) y;simpa using this
theorem ky {l x r:JU}{k:Nat}(h:l.drop k=x ++ r)(y:k<=l.length):l.drop (k+x.length)=r/\k+x.length<=l.length:=by
 refine⟨by rw[<-bR,h,eF],?_⟩;have:=congrArg eZ h;simp only[bo,ab] at this;omega
def LM (rows:List Row)(j:Nat):Int × Int × Nat × Nat:=(firstT (bI rows j),lastOf (firstT (bI rows j)) (bI rows j)+1,mG rows.length j,(gZ (bI rows j)).length)
def zR (rows:List Row)(j:Nat):vU:=⟨firstT (bI rows j),lastOf (firstT (bI rows j)) (bI rows j)+1,mG rows.length j,gZ (bI rows j)⟩
theorem Gs {rows:List Row}(O:iZ rows=true){i:Nat}(hi:i+1<kv rows.length):lastOf (firstT (bI rows i)) (bI rows i)<=firstT (bI rows (i+1)):=by
 have E:(i+1)*16<rows.length:=by unfold kv at hi;omega
 have D:(bI rows i).length=16:=by rw[sr];unfold mG;omega
 obtain⟨M,H⟩:=Bv (show 15<(bI rows i).length by omega);obtain⟨Q,J⟩:=Df (rows:=rows) (i:=i+1) (by rw[sr];unfold mG;omega);rw[qO _ _ (by intro K;rw[K] at D;simp at D),show(bI rows i).length - 1=15 by omega,fB (show 15<(bI rows i).length by omega),H,J];rcases(tw O E).2 with y|y
 ·omega
 have:=NU y;rw[fB E,show(i+1)*16 - 1=i*16+15 by omega,fB M] at this;exact this
theorem LN {rows:List Row}(E:iZ rows=true)(U:∀x∈rows,Row.ok x){i a:Nat}(hi:i<kv rows.length){l r:JU}(D:a<=l.length)(h:l.drop a=kY (bI rows i) ++ r)(Q:(gZ (bI rows i)).length<=l.length):
 tA l a=some ((firstT (bI rows i)).toNat,(lastOf (firstT (bI rows i)) (bI rows i) - firstT (bI rows i)).toNat,(gZ (bI rows i)).length,((a+(kY (bI rows i)).length:Nat):Int)):=by
 obtain⟨X,Y,Z⟩:=qQ E hi;have aa:=rm E U i;have T:(kY (bI rows i)).length=(uint (firstT (bI rows i)).toNat).length+(uint (lastOf (firstT (bI rows i)) (bI rows i) - firstT (bI rows i)).toNat).length+(uint (gZ (bI rows i)).length).length:=by
  unfold kY;simp only[ab]
 unfold kY at h;rw[au,au] at h;rw[T];generalize gZ (bI rows i)=W at*;generalize lastOf (firstT (bI rows i)) (bI rows i)=ad at*;generalize firstT (bI rows i)=ac at*;have K:=jL Jo D h;obtain⟨y,H⟩:=ky h D;have M:=jL Jo H y;obtain⟨J,V⟩:=ky y H;have O:=jL Jo V J;unfold tA;simp only[K,M,O];rw[if_pos ⟨trivial,trivial,trivial,Jo,Jo,Jo,Q⟩];simp only[Option.some.injEq,Prod.mk.injEq,true_and];omega
theorem Gh {rows:List Row}(D:iZ rows=true)(W:∀x∈rows,Row.ok x){l:JU}(Q:∀j,(gZ (bI rows j)).length<=l.length):
 ∀(k i a:Nat)(last:Int)(r:JU),i+k=kv rows.length->a<=l.length->l.drop a=jN rows (iX i k) ++ r->(0<k->last<=firstT (bI rows i))->
  iA l k (rows.length - 16*i) a last=some ((iX i k).map (LM rows),((a+(jN rows (iX i k)).length:Nat):Int)):=by
 intro k;induction k with
 |zero=>intro i a last r _ _ _ _;simp[iA,jN]
 |succ k X=>
  intro i a last r ad E y U;have H:i<kv rows.length:=Jo;have J:jN rows (iX i (k+1))=kY (bI rows i) ++ jN rows (iX (i+1) k):=by rw[List.range'_succ];simp[jN]
  rw[J,au] at y;have T:=LN D W H E y (Q i);obtain⟨K,Y⟩:=ky y E;obtain⟨Z,aa,ac⟩:=qQ D H;simp only[iA,T];rw[if_neg (Jw (U Jo))];have M:(((firstT (bI rows i)).toNat:Nat):Int)=firstT (bI rows i):=Jo;have O:(((lastOf (firstT (bI rows i)) (bI rows i) - firstT (bI rows i)).toNat:Nat):Int)=lastOf (firstT (bI rows i)) (bI rows i) - firstT (bI rows i):=Jo;rw[M,O];have V:=X (i+1) _ (lastOf (firstT (bI rows i)) (bI rows i)) r Jo Y K (λae=>Gs D Jo);rw[show rows.length - 16*i - 16=rows.length - 16*(i+1) by omega,show firstT (bI rows i)+(lastOf (firstT (bI rows i)) (bI rows i) - firstT (bI rows i))=lastOf (firstT (bI rows i)) (bI rows i) by omega,V];simp only[eO,Option.some.injEq,Prod.mk.injEq];refine⟨?_,by rw[J,ab];omega⟩;rw[List.range'_succ,bV];congr 1;unfold LM mG;simp only[Prod.mk.injEq,true_and,and_true];omega
theorem zK {rows:List Row}:∀(y:List Nat),vE (y.map (LM rows)) (gX rows y)=y.map (zR rows)/\jk (y.map (LM rows))=(gX rows y).length
 |[]=>⟨rfl,rfl⟩
 |j :: y=>by
  obtain⟨D,E⟩:=zK (rows:=rows) y;have H:gX rows (j :: y)=gZ (bI rows j) ++ gX rows y:=by simp[gX]
  rw[H];refine⟨?_,?_⟩
  ·simp only[bV,vE];rw[show(LM rows j).2.2.2=(gZ (bI rows j)).length from rfl,eF,gT,D];rfl
  simp only[bV,jk,ig,gJ,ab] at E ⊢;rw[show(LM rows j).2.2.2=(gZ (bI rows j)).length from rfl];omega
theorem RH {rows:List Row}(j:Nat):(gZ (bI rows j)).length<=(encR rows).length:=by
 by_cases y:j<kv rows.length
 ·have:(gZ (bI rows j)).length<=(gX rows (aL (kv rows.length))).length:=by
   have E:j∈aL (kv rows.length):=List.mem_range.2 y;unfold gX;obtain⟨H,J,D⟩:=List.append_of_mem E;rw[D];simp only[ao,aE,ab];omega
  unfold encR;simp only[ab];omega
 have:bI rows j=[]:=bu (by rw[sr];unfold mG;unfold kv at y;omega);rw[this];simp[gZ,fp]
theorem DI {rows:List Row}(H:iZ rows=true)(U:∀x∈rows,Row.ok x)(V:rows.length<=5000):iH (encR rows)=some ((aL (kv rows.length)).map (zR rows)):=by
 have E:(encR rows).drop 0=uint rows.length ++ (jN rows (aL (kv rows.length)) ++ gX rows (aL (kv rows.length))):=by rw[fe];unfold encR;rw[au]
 have T:=jL Jo (bj _) E;obtain⟨y,M⟩:=ky E (bj _);have K:aL (kv rows.length)=iX 0 (kv rows.length):=List.range_eq_range';rw[K] at y;have J:=Gh H U (l:=encR rows) (λO=>RH O) (kv rows.length) 0 (0+(uint rows.length).length) 0 _ Jo M y (λD=>(qQ H D).1);obtain⟨D,W⟩:=ky y M;unfold iH;rw[show((0:Int))=((0:Nat):Int) from rfl,T];rw[if_neg (by simp only;omega)];simp only;rw[show(rows.length+15) / 16=kv rows.length from rfl];rw[show rows.length - 16*0=rows.length by omega] at J;rw[show((0:Nat):Int)=0 from rfl,J];simp only;obtain⟨O,Q⟩:=zK (rows:=rows) (iX 0 (kv rows.length));rw[Q,dE,D,O,K];rw[if_pos];have:=congrArg eZ D;simp only[bo] at this;omega
theorem vd:∀(r:Nat)(t:Int)(rs:List Row),fp t rs=fp t (rs.take r) ++ fp (lastOf t (rs.take r)) (rs.drop r)
 |0,t,rs=>by simp[fp,lastOf]
 |r+1,t,[]=>by simp[fp]
 |r+1,t,y :: rs=>by simp only[dN,dr,fp,lastOf,au];rw[<-vd r]
theorem MQ {rows:List Row}(al:iZ rows=true)(an:∀x∈rows,Row.ok x)(i:Nat):∀(k r:Nat),r+k=(bI rows i).length->
 lz (gZ (bI rows i)) k (((fp (firstT (bI rows i)) ((bI rows i).take r)).length:Nat):Int) (lastOf (firstT (bI rows i)) ((bI rows i).take r))=some ((bI rows i).drop r,(((gZ (bI rows i)).length:Nat):Int)):=by
 intro k;induction k with
 |zero=>
  intro r ao;simp only[lz];rw[aw Jo,dF Jo];rfl
 |succ k aq=>
  intro r ao;have E:r<(bI rows i).length:=Jo;obtain⟨ak,M,az,af,ag,ai,aj,-⟩:=qn al E;have Y:=(an _ (ah ak)).2.2;obtain⟨O,Q⟩:=kG (t:=firstT (bI rows i)) E;have H:=aq (r+1) Jo;have X:=vd r (firstT (bI rows i)) (bI rows i);have U:(bI rows i).drop r=rows[i*16+r] :: (bI rows i).drop (r+1):=by rw[dm E,M]
  rw[M] at O Q;rw[O,Q] at H;have y:(gZ (bI rows i)).drop (fp (firstT (bI rows i)) ((bI rows i).take r)).length=vN (lastOf (firstT (bI rows i)) ((bI rows i).take r)) rows[i*16+r] ++ fp rows[i*16+r].T ((bI rows i).drop (r+1)):=by
   unfold gZ;rw[X,eF,U];rfl
  have W:(fp (firstT (bI rows i)) ((bI rows i).take r)).length<=(gZ (bI rows i)).length:=by
   unfold gZ;rw[X,ab];omega
  rw[U];generalize rows[i*16+r]=x at*;generalize lastOf (firstT (bI rows i)) ((bI rows i).take r)=D at*;generalize fp (firstT (bI rows i)) ((bI rows i).take r)=J at*;have am:(vN D x).length=(uint (x.T - D).toNat).length+(uint x.ID.toNat).length+(uint (fh x.V)).length:=by unfold vN;simp only[ab]
  unfold vN at y;rw[au,au] at y;have aa:=jL Jo W y;obtain⟨K,Z⟩:=ky y W;have ac:=jL Jo Z K;obtain⟨ae,ar⟩:=ky K Z;have ad:=jL (jp Y.1 Y.2) ar ae;have ap:GV (gZ (bI rows i)) ((J.length:Nat):Int) D=some (x,((J.length+(vN D x).length:Nat):Int)):=by
   unfold GV;simp only[aa,ac,ad];rw[if_pos ⟨trivial,trivial,trivial,Jo,Jo⟩];simp only[Option.some.injEq,Prod.mk.injEq];refine⟨?_,by rw[am];omega⟩;obtain⟨ax,av,ay⟩:=x;simp only at af ag ai aj ⊢;rw[nX];congr 1<;>omega
  simp only[lz,ap];rw[ab] at H;rw[H];rfl
theorem RP {rows:List Row}(y:iZ rows=true)(i:Nat):hU (bI rows i)=true:=by
 unfold iZ at y;rw[bT] at y;have D:hU (rows.drop (i*16))=true:=zV (rows.take (i*16)) _ (by rw[da];exact y.1);exact uv (l:=bI rows i) (m:=(rows.drop (i*16)).drop 16) (by unfold bI;rw[da];exact D)
theorem GL {rows:List Row}(E:iZ rows=true)(K:∀x∈rows,Row.ok x){i:Nat}(hi:i<kv rows.length):mi (zR rows i)=some (bI rows i):=by
 have H:=sr rows i;have D:0<(bI rows i).length:=by rw[H];unfold mG;unfold kv at hi;omega
 have y:=MQ E K i (bI rows i).length 0 Jo;simp only[ff,fp,aX,lastOf,fe] at y;unfold mi zR;simp only;rw[<-H];rw[show(((0:Nat):Int))=0 from rfl] at y;rw[y];simp only;rw[if_pos];refine⟨trivial,RP E i,rfl,?_⟩;rw[qO _ _ (by intro J;rw[J] at D;simp at D)];omega
theorem NV {rows:List Row}(H:iZ rows=true)(ab:∀x∈rows,Row.ok x)(x K:Int):∀(k i:Nat),i+k=kv rows.length->qm x K ((iX i k).map (zR rows))=some ((rows.drop (i*16)).filter (tB x K)):=by
 intro k;induction k with
 |zero=>
  intro i Q;rw[dF (by unfold kv at Q;omega)];rfl
 |succ k ae=>
  intro i Q;have V:=ae (i+1) Jo;have ad:rows.drop (i*16)=bI rows i ++ rows.drop ((i+1)*16):=by
   unfold bI;rw[show(i+1)*16=i*16+16 by omega,<-bR,da]
  rw[List.range'_succ,bV,ad,dV];simp only[qm];split
  ·rw[GL H ab Jo,V];rfl
  rename_i O;rw[V];have:(bI rows i).filter (tB x K)=[]:=List.filter_eq_nil_iff.2 λar ac=>by
   obtain⟨E,U,rfl⟩:=bz ac;obtain⟨ao,W,ah,ai,aj,ak,al,am⟩:=qn H U;have Z:(bI rows i)[E].T<=lastOf (firstT (bI rows i)) (bI rows i):=by
    rcases et (E+1) (bI rows i).length with M|M
    ·have aa:∀y,E+1<=y->y<(bI rows i).length->(bI rows i)[E].T<=lastOf (firstT (bI rows i)) ((bI rows i).take y):=by
      intro y;induction y with
      |zero=>intro an;omega
      |succ y af=>
       intro ap aq;obtain⟨-,D⟩:=kG (t:=firstT (bI rows i)) (show y<(bI rows i).length by omega);rw[D];rcases et E y with Y|Y
       ·obtain⟨X,J,-,ag,-⟩:=qn H (show y<(bI rows i).length by omega);have:=af Jo Jo;rw[J];omega
       obtain rfl:E=y:=Jo;exact gg _
     obtain⟨X,J,-,ag,-⟩:=qn H (show(bI rows i).length - 1<(bI rows i).length by omega);obtain⟨-,D⟩:=kG (t:=firstT (bI rows i)) (show(bI rows i).length - 1<(bI rows i).length by omega);rw[show(bI rows i).length - 1+1=(bI rows i).length by omega,fq] at D;have:=aa ((bI rows i).length - 1) Jo Jo;rw[D,J];omega
    obtain⟨-,D⟩:=kG (t:=firstT (bI rows i)) U;rw[aw M] at D;rw[D];exact gg _
   rw[W] at Z ⊢;unfold zR at O;simp only at O;unfold tB;simp only[bT,decide_eq_true_eq];omega
  rw[this];rfl
theorem Kz {rows:List Row}(D:iZ rows=true)(E:∀x∈rows,Row.ok x)(H:rows.length<=5000)(x y:Int):wV (encR rows) x y=some (rows.filter (tB x y)):=by
 unfold wV;rw[DI D E H];have:=NV D E x y (kv rows.length) 0 Jo;rw[<-List.range_eq_range'] at this;simpa using this
def kD:Int->List eP->Bool
 |_,[]=>true
 |E,y :: D=>vh y.L && decide (0<y.L.length) && decide (E<y.ID) && decide (y.ID<200) && kD y.ID D
theorem sG:∀{l:List eP}{last:Int},kD last l=true↔lx last l
 |[],_=>by simp[kD,lx]
 |K :: l,last=>by
  have M:=@sG l K.ID;have O:0<K.L.length↔K.L≠[]:=List.length_pos_iff;simp only[kD,lx,bT,decide_eq_true_eq,oA,M,O];constructor
  ·rintro⟨⟨⟨⟨y,D⟩,E⟩,H⟩,J⟩;exact⟨y,D,E,H,J⟩
  rintro⟨y,D,E,H,J⟩;exact⟨⟨⟨⟨y,D⟩,E⟩,H⟩,J⟩
def sb (l:List eP):JU × Nat:=if kD (-1) l then(encS l,0) else([],30)
theorem sD {l:List eP}(h:kD (-1) l=true):sb l=(encS l,0):=if_pos h
theorem qB {l:List eP}(h:kD (-1) l=false):sb l=([],30):=if_neg (by rw[h];simp)
theorem OJ {l:List eP}{i:Nat}(h:i<l.length){last:Int}:kD last (l.drop i)=(vh l[i].L && decide (0<l[i].L.length) && decide (last<l[i].ID) && decide (l[i].ID<200) && kD l[i].ID (l.drop (i+1))):=by
 rw[dm h];rfl
theorem QW {l:List eP}{i:Nat}(h:i<l.length):jM (l.take (i+1))=jM (l.take i) ++ (uint l[i].ID.toNat ++ uint (eI l[i].L).length)/\jI (l.take (i+1))=jI (l.take i) ++ eI l[i].L:=by
 rw[show l.take (i+1)=l.take i ++ [l[i]] by rw[bc]];unfold jM jI;rw[ao,ao];simp only[aE,iK,cV];exact⟨trivial,trivial⟩
theorem El (aM:JA)(c0:Nat)(xs:List ej)(l:List eP)(w:JW)(ba:fI w aM xs l)(cg:∀i,(az:i<xs.length)->(aA:i<l.length)->Vr xs[i] l[i])(cd:xs.length<=300)(ce:∀x∈l,x.L.length<=5000):
 JC 170 #[.slice aM xs.length c0] w λe w'=>e= .returned (.tuple #[.string (S (sb l).1),Ji (sb l).2])/\Below w.heap.size w w':=by
 obtain⟨K,aG⟩:=Je xs.length;obtain⟨Q,ak⟩:=Je w.heap.size;have cf:l.length=K:=by rw[ba.len,aG]
 have bm:=CZ (R:=λy=>y<Q) w (λy(D:y<Q)=>by rw[ak];exact D);have ci:cC (λy=>y<Q) w ((w.alloc (.cells #[.pointer none,Jn] 228)).alloc (.cells #[.pointer none,Jn] 228)):=cC.of (cZ w _ _) λy D=>by rw[ak];exact D
 rw[ak] at bm;rw[aG] at cd ⊢;have aN:=Jh ba;have bO:=Jh cg;have bF:=Jh ce;have bM:=Jh aG;have aj:=Jh cf;have J:=Jh ak;have b0:=Jh (λw=>eY K w Jo);have cH:IntKind.u64.wrap (K:Int)=K:=by rw[bD];omega
 go_enter Tryz.func170,Tryz.ntmps170;go_wp2_with fail;generalize (w.alloc (.cells #[.pointer none,Jn] 228)).alloc (.cells #[.pointer none,Jn] 228)=cY at*;have bR:=Jh bm;have aR:=Jh ci;refine(b0.o _).mono ?_;rintro e c1 ⟨rfl,bb⟩;have bS:=Jh (bR.o.below bb);have aS:=Jh (aR.o.trans (cC.of bb λy D=>by have:=aR.o.size;have:=J.o;omega));have bz:(S (uint K)).size<=10:=by rw[bH];exact bA Jo
 have ag:=Jh (bS.o.write (S (uint K)) (by simp;omega) λy D=>by have:=aS.o.size;have:=J.o;omega);have cv:(uint K).length<=10:=by rwa [bH] at bz
 obtain⟨ax,aB⟩:=Je (uint K);rw[aB] at ag cv bz;have bG:=Jh aB;rw[aB];go_wp2_with fail;refine ag.o.mono ?_;rintro e c6 ⟨⟨cU,rfl⟩,bo,b9⟩;rw[bi,cW] at bo;have bT:=Jh bo;have bY:=Jh (aS.o.trans b9.st);go_wp2_with fail;go_loopw [6,18] (λH E wr=>∃(i:Nat)(M:Int),H=Ji M/\E=Ji i/\i<=K/\-1<=M/\M<200/\kD (-1) l=kD M (l.drop i)/\ku (λy=>y<Q) Q (Q+1) (ax ++ jM (l.take i)) (jI (l.take i)) wr/\cC (λy=>y<Q) w wr/\(jM (l.take i)).length<=20*i/\(jI (l.take i)).length<=120000*i) (λ_ E _=>K - (intOf E).toNat)
 case atStart=>exact⟨0,-1,rfl,rfl,Jo,Jo,Jo,rfl,by have:=bT.o;simpa [jM,jI] using this,bY.o,by simp[jM],by simp[jI]⟩
 obtain⟨i,M,rfl,rfl,cK,cM,cN,cc,ao,ap,bj,be⟩:=hrel;have aD:Below w.heap.size w wr:=by rw[J.o];exact ap.below λy D=>D
 have cy:=Jh aD;have X:=Jh cc;have bZ:=Jh ap;have b6:Q<=wr.heap.size:=by have:=ap.size;have:=J.o;omega
 by_cases cO:i<K;rotate_left
 ·obtain rfl:i=K:=Jo;have an:kD (-1) l=true:=by rw[X.o,dF (Jw aj.o)];rfl
  rw[aw (Jw aj.o)] at ao bj be;obtain⟨H,T⟩:=Je (ax ++ jM l);obtain⟨E,O⟩:=Je (jI l);have W:=Jh (show sb l=(H ++ E,0) by rw[sD an,<-T,<-O,<-bG.o];unfold encS;rw[aj.o]);have aF:H.length<=7000:=by rw[<-T,ab];omega
  have aE:E.length<=36000000:=by rw[<-O];omega
  have cu:¬9223372036854775807<(S H).size+(S E).size:=by rw[bH,bH];omega
  rw[T,O] at ao;have V:=Jh ao;have Y:=Jh (show gm (λy=>y<Q) wr from λy D=>ai D b6);have ar:=Jh (show S H ++ S E=S (H ++ E) by simp only[ef]);go_wp2_with fail;refine(V.o.str Y.o).mono ?_;rintro e bx ⟨rfl,av,af,am,aq,aC⟩;have ad:=Jh (bZ.o.trans av);have Z:=Jh am;have ac:=Jh aq;have ae:=Jh aC;go_wp2_with fail;refine(iC af (Q+1) 228 [] E bx Z.o ac.o).mono ?_;rintro e ct ⟨rfl,ay⟩;have U:=Jh (ad.o.trans (ay.mono λy D=>ae.o y D));go_wp2_with fail;go_ret2;exact⟨by rw[W.o,ar.o];rfl,J.o▸U.o.below λy D=>D⟩
 have aE:i<xs.length:=Jw bM.o;have an:i<l.length:=Jw aj.o;obtain⟨b5,cq,rfl,cI,bg⟩:=(aN.o.rd.below aD).elem js Jd aE;have b4:=bg 0 _ rfl;have a6:=bg 1 _ rfl;have cj:=(aN.o.at_ i aE).below aD;obtain⟨co,aL,bv,bw⟩:=bO.o i aE an;have aF:=bF.o _ (ah an);have bf:=OJ (last:=M) an;obtain⟨bt,bu⟩:=QW an;generalize xs[i]=b3 at*;generalize l[i]=cr at*;obtain⟨cz,T,aK,V⟩:=b3;obtain⟨H,E⟩:=cr;obtain⟨bk,bl,bq⟩:=cj;simp only[dz] at b4 a6 bk bl bq co aL bv bw aF bf bt bu;subst bk;subst bl;have cE:wr.cell? (Jp b5 (cq+i*2+1))=some (.slice T E.length V):=by rw[aV];exact a6
 have aH:=Below.one wr (.cells #[Ji H,.slice T E.length V] 68);have bP:=Jh (ao.below aH);have bB:=Jh (xt T V E _ (bq.below aH) aL aF bv bw);have aQ:=Jh (ap.trans (cC.of aH λy D=>Jo));have cL:(i:Int)<K:=Jo;have aK:=cD wr (.cells #[Ji H,.slice T E.length V] 68);have b1:(wr.alloc (.cells #[Ji H,.slice T E.length V] 68)).cell? (Jp wr.heap.size 0)=some (Ji H):=(aa aK 0).trans rfl;have b2:(wr.alloc (.cells #[Ji H,.slice T E.length V] 68)).cell? (Jp wr.heap.size 1)=some (.slice T E.length V):=(aa aK 1).trans rfl;have ae:=Jh bf;have Y:=Jh bt;have av:=Jh bu;have bN:=Jh aL;have aP:=Jh bj;have aO:=Jh be;go_wp2_with fail;generalize (wr.alloc (.cells #[Ji H,.slice T E.length V] 68))=bx at*;refine bB.o.mono ?_;rintro e ct ⟨rfl,am⟩;have cA:=al am b1;have cB:=al am b2;have bU:=Jh (bP.o.below am);have U:=Jh (aQ.o.trans (cC.of am λy D=>by have:=aQ.o.size;have:=J.o;omega));by_cases af:jZ E;rotate_left
 ·rw[Ju af];have W:=Jh (qB (l:=l) (by rw[X.o,ae.o,show vh E=false from by cases O:vh E with|true=>exact absurd (oA.1 O) af|false=>rfl];rfl));go_wp2_with fail;go_ret2;exact⟨by rw[W.o];rfl,J.o▸U.o.below λy D=>D⟩
 rw[ry af];have bh:vh E=true:=oA.2 af;by_cases ay:E.length=0
 ·have W:=Jh (qB (l:=l) (by rw[X.o,ae.o,bh,ay];rfl));have ck:((E.length:Int) == 0)=true:=beq_iff_eq.2 Jo;have cl:(E.length == 0)=true:=beq_iff_eq.2 ay;go_wp2_with fail;go_ret2;exact⟨by rw[W.o];rfl,J.o▸U.o.below λy D=>D⟩
 have ck:((E.length:Int) == 0)=false:=beq_eq_false_iff_ne.2 Jo;have cl:(E.length == 0)=false:=beq_eq_false_iff_ne.2 ay;by_cases az:H<=M
 ·have W:=Jh (qB (l:=l) (by rw[X.o,ae.o,show decide (M<H)=false from decide_eq_false Jo];simp));have cm:decide (H<=M)=true:=decide_eq_true az;go_wp2_with fail;go_ret2;exact⟨by rw[W.o];rfl,J.o▸U.o.below λy D=>D⟩
 have cm:decide (H<=M)=false:=decide_eq_false az;by_cases aA:200<=H
 ·have W:=Jh (qB (l:=l) (by rw[X.o,ae.o,show decide (H<200)=false from decide_eq_false Jo];simp));have cn:decide (200<=H)=true:=decide_eq_true aA;go_wp2_with fail;go_ret2;exact⟨by rw[W.o];rfl,J.o▸U.o.below λy D=>D⟩
 have cn:decide (200<=H)=false:=decide_eq_false aA;obtain⟨O,rfl⟩:∃O:Nat,H=O:=⟨H.toNat,Jo⟩;rw[dE] at Y;have bL:=Jh (show kD (-1) l=kD (O:Int) (l.drop (i+1)) by rw[X.o,ae.o,bh,decide_eq_true (show 0<E.length by omega),decide_eq_true (show M<(O:Int) by omega),decide_eq_true (show(O:Int)<200 by omega)];rfl);have aC:=Dy af bN.o aF;obtain⟨Z,a7⟩:=Je (eI E);rw[a7] at Y av aC ⊢;have b7:(S Z).size=Z.length:=bH Z;obtain⟨aq,br⟩:=Je Z.length;rw[br] at Y aC b7;have cR:IntKind.u64.wrap (O:Int)=O:=by rw[bD];omega
 have cS:IntKind.u64.wrap (aq:Int)=aq:=by rw[bD];omega
 have aX:=λw=>eY O w Jo;have aY:=λw=>eY aq w Jo;obtain⟨ac,aI⟩:=Je (uint O);obtain⟨ad,aJ⟩:=Je (uint aq);have aZ:(S ac).size<=10:=by rw[bH,<-aI];exact bA Jo
 have a1:(S ad).size<=10:=by rw[bH,<-aJ];exact bA Jo
 have a8:S ac ++ S ad=S (ac ++ ad):=by simp only[ef]
 have cu:¬9223372036854775807<(S ac).size+(S ad).size:=Jo;have cQ:(S ac ++ S ad).size<=20:=by
  rw[a8,bH,ab];rw[bH] at aZ a1;omega
 rw[aI] at aX;rw[aJ] at aY;rw[aI,aJ] at Y;have bI:=Jh aX;have bJ:=Jh aY;have ar:=Jh a8;have cx:=Jh (Ja a7 (Ja br aC));have bC:=Jh (show(jM (l.take (i+1))).length<=20*(i+1) by rw[Y.o];rw[bH] at aZ a1;simp only[ab];have:=aP.o;omega);have bE:=Jh (show(jI (l.take (i+1))).length<=120000*(i+1) by rw[av.o];simp only[ab];have:=aO.o;omega);have cJ:(ax ++ jM (l.take i)).length+20<=7000:=by rw[ab];have:=aP.o;omega
 have cG:(jI (l.take i)).length<=36000000:=Jw aO.o;have cP:O<200:=Jo;have cF:(S Z).size<=120000:=Jo;go_wp2_with fail;refine(bI.o _).mono ?_;rintro e c8 ⟨rfl,bc⟩;have bV:=Jh (bU.o.below bc);have aT:=Jh (U.o.trans (cC.of bc λy D=>by have:=U.o.size;have:=J.o;omega));go_wp2_with fail;refine(bJ.o _).mono ?_;rintro e da ⟨rfl,bd⟩;have bW:=Jh (bV.o.below bd);have aU:=Jh (aT.o.trans (cC.of bd λy D=>by have:=aT.o.size;have:=J.o;omega));have ag:=Jh (bW.o.write (S ac ++ S ad) Jo λy D=>by have:=aU.o.size;have:=J.o;omega);go_wp2_with fail;refine ag.o.mono ?_;rintro e db ⟨⟨cV,rfl⟩,bp,cb⟩;rw[ar.o,cW] at bp;have aW:=Jh (aU.o.trans cb.st);have bK:=Jh (bp.swap.write (S Z) Jo λy D=>by have:=aW.o.size;have:=J.o;omega);go_wp2_with fail;refine bK.o.mono ?_;rintro e cX ⟨⟨cT,rfl⟩,bn,b8⟩;rw[cW,au,<-Y.o,<-av.o] at bn;have bQ:=Jh bn.swap;have bX:=Jh (aW.o.trans b8.st);go_wp2_with fail;go_roundw
 case rel=>exact⟨i+1,O,rfl,by go_num,Jo,Jo,Jo,bL.o,bQ.o,bX.o,bC.o,bE.o⟩
 simp[intOf];omega
def JZ (l:List eP):Nat:=2+(l.map λy=>30+22*y.L.length).sum
theorem xz:∀(l:List eP)(last:Int),lx last l->(∀x∈l,∀y∈x.L,ar.ok y)->(∀x∈l,x.L.length<=300)->(jM l).length+(jI l).length<=(l.map λx=>30+22*x.L.length).sum
 |[],_,_,_,_=>by simp[jM,jI]
 |x :: l,last,K,H,E=>by
  obtain⟨M,Q,T,U,O⟩:=K;have Z:=xz l x.ID O (λy D=>H y (aC _ D)) (λy D=>E y (aC _ D));have Y:=E x (az ..);have V:=Dy M (H x (az ..)) Jo;have W:(uint x.ID.toNat).length<=2:=rQ Jo;have X:(uint (eI x.L).length).length<=2:=jb 1 _ Jo;have D:jM (x :: l)=uint x.ID.toNat ++ uint (eI x.L).length ++ jM l:=by simp[jM]
  have J:jI (x :: l)=eI x.L ++ jI l:=by simp[jI]
  rw[D,J];simp only[ab,bV,gJ];omega
theorem DC {l:List eP}(ho:∀x∈l,∀E∈x.L,ar.ok E)(D:∀x∈l,x.L.length<=300)(K:l.length<=300):(sb l).1.length<=JZ l:=by
 cases y:kD (-1) l with
 |false=>rw[qB y];simp
 |true=>
  rw[sD y];have H:=xz l (-1) (sG.1 y) ho D;have J:(uint l.length).length<=2:=rQ Jo;unfold encS JZ;simp only[ab];omega
theorem Mt (c:UInt8)(h1:97<=c.toNat)(h2:c.toNat<=122)(w:JW):JC 273 #[.string (S [c])] w λe w'=>e= .returned (.string (S [34,c,34]))/\Below w.heap.size w w':=by
 obtain⟨y,M⟩:=Je w.heap.size;obtain⟨E,aI,aq,aG,aJ⟩:∃E,w.alloc (.cells #[.pointer none,Jn] 228)=E/\Below y w E/\E.heap.size=y+1/\E.heap[y]?=some (.cells #[.pointer none,Jn] 228 (0,0)):=
  ⟨_,rfl,by rw[<-M];exact Below.one _ _,by simp[M],by rw[<-M];exact heap_alloc_new _ _⟩
 have ar:ue (λD=>D<=y) y 228 [] [] E:=kL aJ jh (ac _);have aC:gm (λD=>D<=y) E:=λD H=>by have T:D<=y:=H;omega
 obtain⟨K,aB⟩:∃K:Nat,c.toNat=K:=⟨_,rfl⟩;have aO:((K:Int) == 10)=false:=beq_eq_false_iff_ne.2 Jo;have aP:((K:Int) == 34)=false:=beq_eq_false_iff_ne.2 Jo;have aQ:((K:Int) == 92)=false:=beq_eq_false_iff_ne.2 Jo;have ai:=Jh aI;have am:=Jh aq;have aj:=Jh (lS (λD=>D<=y) y 228 [] [] 34 34 E rfl ar Js aC);have ae:=Jh M;have an:=Jh aG;have X:=Jh aB;go_enter Tryz.func273,Tryz.ntmps273;go_wp2_with fail;try simp only[ai.o]
 refine aj.o.mono ?_;rintro e ad ⟨rfl,au,aa⟩;have aN:y<ad.heap.size:=by have:=aa.size;have:=an.o;omega
 obtain⟨aL,O,aA,Z,aM,-,az⟩:=mr (P:=prog) ad 9 22 5 (S [c]) underlying9 underlying22 underlying5;have ay:=az 0 (by rw[bH];simp);rw[show(S [c])[0]'(by rw[bH];simp)=c from rfl,X.o] at ay;rw[show(S [c]).size=1 from rfl] at aA;have av:=rj au Z;have aD:gm (λD=>D<=y) O:=λD H=>by have T:D<=y:=H;omega
 have ap:Below y w O:=am.o.trans ((aa.below (ac _) λJ V=>by show J<=y;omega).trans (Z.mono Jo));have ak:=Jh (lS (λD=>D<=y) y 228 [] ([] ++ [34]) K c O (by rw[X.o]) av Js aD);have af:=Jh ap;have Y:=Jh (show y<O.heap.size by omega);go_wp2_with fail;refine wp_loop_rounds 2 ?_;rw[rounds_succ];go_wp2_with fail;refine ak.o.mono ?_;rintro e Q ⟨rfl,aw,U⟩;have aE:gm (λD=>D<=y) Q:=λD H=>by have T:D<=y:=H;have:=Y.o;have:=U.size;omega
 have al:=Jh (lS (λD=>D<=y) y 228 [] _ 34 34 Q rfl aw Js aE);have ag:=Jh (show Below y w Q from af.o.trans (U.below (ac _) λJ V=>by show J<=y;omega));have ao:=Jh (show y<Q.heap.size by have:=Y.o;have:=U.size;omega);go_wp2_with fail;rw[rounds_succ];go_wp2_with fail;refine al.o.mono ?_;rintro e W ⟨rfl,ax,ab⟩;have aF:gm (λD=>D<=y) W:=λD H=>by have T:D<=y:=H;have:=ao.o;have:=ab.size;omega
 have ah:=Jh (iC (λD=>D<=y) y 228 [] _ W ax aF);have D:=Jh (show Below y w W from ag.o.trans (ab.below (ac _) λJ V=>by show J<=y;omega));go_wp2_with fail;refine ah.o.mono ?_;rintro e aK ⟨rfl,aH⟩;have H:=Jh (show Below y w aK from D.o.trans (aH.below λJ V=>by show J<=y;omega));go_wp2_with fail;go_ret;exact⟨rfl,by rw[ae.o];exact H.o⟩
theorem join_one (s t:ByteArray)(b y k:Nat)(w:JW)(D:w.cell? (Jp b y)=some (.string s)):JC 274 #[.slice (some (Jp b y)) 1 k,.string t] w λe w'=>e= .returned (.string s)/\w=w':=by
 go_enter Tryz.func274,Tryz.ntmps274;go_wp2_with fail;go_ret;exact⟨rfl,rfl⟩
theorem Kk:(prog.info? 9).map (λi=>(i.zero,i.size,i.bytes))=some (some (.string ⟨#[]⟩),1,16):=Jk
def eT (c:UInt8):JU:=[123,97,61,34,c,34,125]
theorem AK (c:UInt8)(h1:97<=c.toNat)(h2:c.toNat<=122)(A:JA)(k:Nat)(w:JW)(hr:Rd w 2 A 1 (dR (kE c))):JC 178 #[.slice A 1 k] w λe w'=>e= .returned (.tuple #[.string (S (eT c)),Ji 0])/\Below w.heap.size w w':=by
 have ah:=Jh (um c h1 h2 A k w hr);have ai:=Jh (λy=>Mt c h1 h2 y);have aj:=Jh hr;have av:prog.follows .mixedOrders=true:=Jk;have aP:(S [97]).size=1:=rfl;have aQ:(S [97,61]).size=2:=rfl;have aR:(S [34,c,34]).size=3:=rfl;have aS:(S [97,61,34,c,34]).size=5:=rfl;have aT:(S [123,97,61,34,c,34]).size=6:=rfl;have aD:S [97] ++ (⟨#[61]⟩:ByteArray)=S [97,61]:=ef [97] [61];have aE:S [97,61] ++ S [34,c,34]=S [97,61,34,c,34]:=ef _ _;have aF:(⟨#[123]⟩:ByteArray) ++ S [97,61,34,c,34]=S [123,97,61,34,c,34]:=ef [123] _;have aG:S [123,97,61,34,c,34] ++ (⟨#[125]⟩:ByteArray)=S (eT c):=ef _ [125];go_enter Tryz.func178,Tryz.ntmps178;go_wp2_with fail;refine ah.o.mono ?_;rintro e W ⟨rfl,ac⟩;obtain⟨y,V⟩:=Je W.heap.size;obtain⟨aC,aM,rfl,aJ,az,aA⟩:=BV (xs:=[kE c]) (n:=1) (by simpa using aj.o.below ac) (i:=0) Js;simp only[kE,bf,gG,dz] at az aA;have al:=Jh ac;obtain⟨E,ay,ar,ax,kl⟩:∃E,W.alloc (.cells #[.string (S [97]),.string (S [c])] 115)=E/\Below y W E/\E.heap.size=y+1/\E.heap[y]?=some (.cells #[.string (S [97]),.string (S [c])] 115 (0,0)):=
  ⟨_,rfl,V▸Below.one _ _,by simp[V],by rw[<-V];exact heap_alloc_new _ _⟩
 have ak:=Jh ay;have am:=Jh ar;have J:=Jh ax;have U:=Jh kl;go_wp2_with fail;refine wp_loop_rounds 2 ?_;rw[rounds_succ];go_wp2_with fail;try simp only[ak.o]
 refine cB (n:=10) (S:=λw'=>w'.heap[y]?=some (.cells #[.string (S [97]),.string (S [c])] 115 (0,0))/\True) av 10 rfl ⟨U.o,trivial⟩ (λY=>?_);refine JH 0 (hy:=by(intro w D;obtain⟨h1,h2⟩:=D;have O:=(aa h1 0).trans rfl;have Q:=(aa h1 1).trans rfl;go_simp)<;>with_reducible rfl) (h:=JH 1 (hy:=by(intro w D;obtain⟨h1,h2⟩:=D;have O:=(aa h1 0).trans rfl;have Q:=(aa h1 1).trans rfl;go_simp)<;>with_reducible rfl) (h:=JH 2 (hy:=by(intro w D;obtain⟨h1,h2⟩:=D;have O:=(aa h1 0).trans rfl;have Q:=(aa h1 1).trans rfl;go_simp)<;>with_reducible rfl) (h:=JH 3 (hy:=by(intro w D;obtain⟨h1,h2⟩:=D;have O:=(aa h1 0).trans rfl;have Q:=(aa h1 1).trans rfl;go_simp)<;>with_reducible rfl) (h:=JH 4 (hy:=by(intro w D;obtain⟨h1,h2⟩:=D;have O:=(aa h1 0).trans rfl;have Q:=(aa h1 1).trans rfl;go_simp)<;>with_reducible rfl) (h:=JH 5 (hy:=by(intro w D;obtain⟨h1,h2⟩:=D;have O:=(aa h1 0).trans rfl;have Q:=(aa h1 1).trans rfl;go_simp)<;>with_reducible rfl) (h:=?_))))));refine JM 6 (h:=λab K=>?_);go_simp;refine(ai.o _).mono ?_;rintro ap H ⟨rfl,au⟩;have ad:Below E.heap.size E H:=au.h;refine K.out _ _ ⟨(ad.block y (Jw J.o)).trans U.o,trivial⟩ (λY=>?_);have T:=Jh ad;try simp only[an,JY]
 refine JH 7 (h:=?_);refine JM 8 (h:=λab K=>?_);go_simp;have aq:Below H.heap.size H (H.alloc (.cells #[.string (S [97,61,34,c,34])] 9)):=Below.one _ _;have X:=Jh aq;refine K.out _ _ ⟨((T.o.then X.o).block y (Jw J.o)).trans U.o,trivial⟩ (λY=>?_);try simp only[an,JY]
 have aw:gm (λM=>M<y+1) (H.alloc (.cells #[.string (S [97,61,34,c,34])] 9)):=λM Z=>by have aH:M<y+1:=Z;have:=J.o;have:=T.o.size;simp;omega
 refine JM 9 (h:=λab K=>?_);refine bN rfl (.tmp 19) (.tmp 27) 163 rfl 9 (.string ⟨#[]⟩) 1 16 underlying163 Kk rfl Jd (λM=>M<y+1) 0 [] (Jn) _ (bP.nil _ _ _ _) rfl aw _ 1 _ [.string (S [97,61,34,c,34])] rfl (jX H _ _) (by intro aN af;simp at af;subst af;rfl) Jm Jo ?_;intro aO ab M ae aK aI;obtain⟨aB,ao,rfl⟩:=M.form;have ag:=Jh (show Below y W ab from am.o.trans (((T.o.then X.o).mono (Jw J.o)).trans (ae.below λk aL=>by show k<y+1;omega)));refine K.out _ _ ⟨(ae.block y (by show y<y+1;omega)).trans (((T.o.then X.o).block y (Jw J.o)).trans U.o),trivial⟩ (λY=>?_);try simp only[an,JY]
 refine cy Jk ?_;go_wp2_with fail;obtain⟨K,rfl,-,-⟩:=M.own Jo;have Z:ab.cell? (Jp K 0)=some (.string (S [97,61,34,c,34])):=M.1.cells (g:=K) rfl 0 (.string (S [97,61,34,c,34])) rfl;have Y:=Jh (join_one _ (⟨#[44]⟩:ByteArray) K 0 ao ab Z);rw[rounds_succ];go_wp2_with fail;refine Y.o.mono ?_;rintro ap aL ⟨rfl,rfl⟩;go_wp2_with fail;go_ret2;exact⟨rfl,al.o.then (V▸ag.o)⟩
theorem Cf (d:Nat)(a b a' y:Int)(w:JW):
 (Op.equalIn (d+2) 249 (.agg #[Ji a,Ji b]) (.agg #[Ji a',Ji y])).run prog w= .ok (a == a' && b == y) w:=by
 obtain⟨E,J⟩:∃E,prog.info? 3=some E:=info_of_underlying underlying3;have D:prog.cellsOf 3=1:=Jk;rw[run_equalIn_array w (d+1) _ _ underlying249 J,D];simp[Op.eqItems,aL,List.range.loop,go_sem,underlying3];by_cases D:a=a'<;>by_cases H:b=y<;>simp[D,H]
theorem Qd (a b a' y:Int)(w:JW):(binOp .eql 249 (.agg #[Ji a,Ji b]) (.agg #[Ji a',Ji y])).run prog w= .ok (.bool (a == a' && b == y)) w:=by
 rw[run_eql_struct,Cf 9998];rfl
theorem Qj (F:Nat->Prop)(E m:Nat)(cnt:Int->Int × Int)(day a b:Int)(w:JW)(h:jU F E m cnt w)(ah:pJ day)(hc:¬(a=0/\b=0))(al:m<100000)(af:∀k,F k->k<w.heap.size):
 JC 119 #[Jv E,Ji day,.agg #[Ji a,Ji b]] w λe w'=>e= .returned (.tuple #[])/\jU F E (m+1) (sO cnt day (a,b)) w'/\jl F w w':=by
 have ai:prog.follows .mixedOrders=true:=Jk;have am:(a == 0 && b == 0)=false:=by
  by_cases y:a=0<;>by_cases D:b=0<;>simp_all
 have W:∀H:JW,(∀k,F k->H.heap[k]?=w.heap[k]?)->(w.heap.size<=H.heap.size)->∃J D,(Instr.mapUpdate 196 (.map (some D)) (Ji day) (.agg #[Ji a,Ji b])).run prog H= .ok () J/\jU F E (m+1) (sO cnt day (a,b)) J/\jl F H J/\H.cell? (Jp E 0)=some (.map (some D)):=by
  intro H O _;obtain⟨D,aj,y,U,Q,ad,K⟩:=(h.kept O).ex;obtain⟨Z,X,V,T,ae⟩:=K.put (t:=196) lf underlying196 Jm (nu ah) (.agg #[Ji a,Ji b]);have Y:E≠D:=λe=>by
   obtain⟨ab,⟨ac,cl,M,-⟩,-⟩:=K;rw[<-e,y] at M;cases M
  exact⟨Z,D,X,⟨D,_,(T.block E (Jl y) (by simpa using Y)).trans y,U,Q,by split<;>omega,V.ext λM=>Qg cnt day (a,b) (by simpa using hc) M⟩,jl.grown T Q,(aa y 0).trans rfl⟩
 obtain⟨y,Y,aj,K,Q⟩:∃y,w.alloc (.cells #[Ji a,Ji b] 249)=y/\y.heap.size=w.heap.size+1/\Jz w y/\y.heap[w.heap.size]?=some (.cells #[Ji a,Ji b] 249 (0,0)):=
  ⟨_,rfl,Js,Below.one _ _,heap_alloc_new _ _⟩
 have ab:y.cell? (Jp w.heap.size 0)=some (Ji a):=(aa Q 0).trans rfl;have ac:y.cell? (Jp w.heap.size 1)=some (Ji b):=(aa Q 1).trans rfl;obtain⟨J,D,X,V,U,ad⟩:=W y.drew (λk O=>K.block k (af k O)) (by simp[aj]);have ae:y.cell? (Jp E 0)=some (.map (some D)):=ad;have Z:=Jh Y;have T:=Jh (Ja V (jl.trans (jl.of K) (F:=F) ((show jl F y y.drew from jl.of (ag _ _).drew).trans U λak _ M=>M) λak _ M=>M));have M:=Qd a b 0 0;clear W h Y V U K Q;go_enter Tryz.func119,Tryz.ntmps119;go_wp2_with fail;try simp only[Z.o]
 refine cB (n:=6) (S:=λw'=>w'.cell? (Jp E 0)=some (.map (some D))/\w'.cell? (Jp w.heap.size 0)=some (Ji a)/\w'.cell? (Jp w.heap.size 1)=some (Ji b)) ai 6 rfl ⟨ae,ab,ac⟩ (λK=>?_);refine JH 0 (h:=JH 1 (h:=JH 2 (h:=JH 3 (h:=JH 4 (h:=JH 5 (h:=?_))))));refine cy Jk ?_;go_wp2_with fail;go_end0;exact⟨rfl,T.o.1,T.o.2⟩
def bump (cnt:Int->Int × Int)(d:Int)(y n:Nat):Int->Int × Int:=sO cnt d (if y=0 then((cnt d).1+n,(cnt d).2) else((cnt d).1,(cnt d).2+n))
theorem PU (F:Nat->Prop)(E m:Nat)(cnt:Int->Int × Int)(day:Int)(H n:Nat)(w:JW)(h:jU F E m cnt w)(X:pJ day)(am:H<=1)(an:1<=n)(ao:n<=1000)(hc:0<=(cnt day).1/\(cnt day).1<=100000/\0<=(cnt day).2/\(cnt day).2<=100000)(ac:m<100000)(U:∀k,F k->k<w.heap.size):
 JC 58 #[Jv E,Ji day,Ji H,Ji n] w λe w'=>e= .returned (.tuple #[])/\jU F E (m+1) (bump cnt day H n) w'/\jl F w w':=by
 obtain⟨ab,ap,O,-,-,-,T⟩:=h.ex;have af:w.cell? (Jp E 0)=some (.map (some ab)):=(aa O 0).trans rfl;have J:=T.look (t:=196) (z:=.agg #[Ji 0,Ji 0]) lf underlying196 Jk (nu X);rw[Ex] at J;unfold bump;obtain⟨⟨y,D⟩,V⟩:∃K,cnt day=K:=⟨_,rfl⟩;rw[V] at J hc ⊢;unfold KT at J;simp only at J hc ⊢;obtain⟨ah,aj,ak,al⟩:=hc;obtain⟨ae,ag⟩:=Je w.heap.size;have Q:=Jh (λM(W:Jz w M)(Y Z:Int)(ad:¬(Y=0/\Z=0))=>Qj F E m cnt day Y Z M (h.kept λk K=>W.block k (U k K)) X ad ac λk K=>ai (U k K) W.size);clear h O T V;have ad:min (n:Int) 1073741824=n:=Jo;rcases(show H=0∨H=1 by omega) with rfl|rfl
 ·have V:min (y+(n:Int)) 1073741824=y+n:=Jo;have W:=Jf ((n:Int)<1);have Y:IntKind.i64.wrap (y+(n:Int))=y+n:=bC _ Jo;go_enter Tryz.func58,Tryz.ntmps58;go_wp2_with fail;refine(Q.o _ (Below.one _ _) (y+n) D Jo).mono ?_;rintro e Z ⟨rfl,O,K⟩;go_wp2_with fail;go_end0;refine⟨rfl,?_,(jl.trans (jl.of (Below.one _ _)) K λT _ M=>M)⟩;simpa using O
 have V:min (D+(n:Int)) 1073741824=D+n:=Jo;have W:=Jf ((n:Int)<1);have Y:IntKind.i64.wrap (D+(n:Int))=D+n:=bC _ Jo;go_enter Tryz.func58,Tryz.ntmps58;go_wp2_with fail;refine(Q.o _ (Below.one _ _) y (D+n) Jo).mono ?_;rintro e Z ⟨rfl,O,K⟩;go_wp2_with fail;go_end0;refine⟨rfl,?_,(jl.trans (jl.of (Below.one _ _)) K λT _ M=>M)⟩;simpa using O
theorem GE (w:JW):JC 39 #[] w λe w'=>∃y,e= .returned (Jv y)/\jU (λk=>w.heap.size<=k/\k<w.heap.size+2) y 0 (λ_=>(0,0)) w'/\Jz w w'/\w'.heap.size=w.heap.size+2:=by
 have K:=@run_makeMap prog;have J:MapAt prog 3 ((w.alloc (.map #[] 0)).alloc (.cells #[.map (some w.heap.size)] 198)) w.heap.size 0 (yd λ_=>(0,0)):=
  ((MapAt.made w).below (Below.one _ _)).ext λk=>by unfold yd;cases pR k<;>rfl
 have H:=Jh J;have D:=heap_alloc_new (w.alloc (.map #[] 0)) (.cells #[.map (some w.heap.size)] 198);rw[aI] at D;have E:=Jh D;go_enter Tryz.func39,Tryz.ntmps39;go_wp2_with fail;go_ret;refine⟨_,rfl,⟨w.heap.size,0,E.o,⟨Jo,Jo⟩,⟨Jo,Jo⟩,ac _,H.o⟩,?_,Js⟩;exact(Below.one _ _).alloc Js _
theorem Rd.TO {w:JW}{A:JA}{n:Nat}{xs:List Value}(h:Rd w 1 A n xs)(M:xs.length=n){i:Nat}(hi:i<n):∃D y,A=some (Jp D y)/\D<w.heap.size/\w.cell? (Jp D (y+i))=some (xs[i]'Jo):=by
 obtain⟨E,y,H,K,J⟩:=h.2 Jo;exact⟨E,y,H,K,J i _ (aT Jo)⟩
theorem Ey (F:Nat->Prop)(J m:Nat)(cnt:Int->Int × Int)(A M:JA)(c c2 n:Nat)(D:List Int)(H:List Nat)(w:JW)(h:jU F J m cnt w)(ai:∀k,F k->k<w.heap.size)
 (hr:Rd w 1 A n (D.map λd=>Ji d)) (aq:Rd w 1 M n (H.map λd:Nat=>cY .i64 (d:Int))) (ao:D.length=n) (ap:H.length=n) (W:n<=1000) (av:n<=c) (aj:∀d∈D,pJ d) (am:∀l∈H,l<=1)
 (hc:∀d,0<=(cnt d).1/\(cnt d).1<=8/\0<=(cnt d).2/\(cnt d).2<=8):
 JC 79 #[Jv J,.slice A n c,.slice M n c2] w λe w'=>e= .returned (.tuple #[Ji 0,Ji 0,.bool false])/\Jz w w':=by
 have ac:=Jh hr;have ad:=Jh aq;have ae:=Jh (λE(K:Jz w E)(y:Int)(O:pJ y)(l:Nat)(W:l<=1)=>Nv F J m cnt y l E (h.kept λk Q=>K.block k (ai k Q)) O W (hc y));have aa:=Jh aj;have ab:=Jh am;have O:=Jh ao;have Q:=Jh ap;have aA:min (n:Int) (n:Int)=n:=Jo;go_enter Tryz.func79,Tryz.ntmps79;go_wp2_with fail;go_loopw [20] (λE wr=>∃y:Nat,E=Ji y/\y<=n/\Jz w wr) (λE _=>n - (intOf E).toNat)
 case atStart=>exact⟨0,rfl,Jo,ag _ _⟩
 obtain⟨y,rfl,ay,E⟩:=hrel;by_cases Y:y<n;rotate_left
 ·obtain rfl:y=n:=Jo;have K:=Jf ((y:Int)<(y:Int));go_wp2_with fail
  (try simp only[jc,gM])
  refine bodyPost_ret (results_tmp3 rfl _ _ _) rfl ?_;exact⟨rfl,E⟩
 have az:(y:Int)<n:=Jo;obtain⟨ar,aB,rfl,aw,Z⟩:=(ac.o.below E).TO (by simp[O.o]) Y;obtain⟨au,aC,rfl,ax,K⟩:=(ad.o.below E).TO (by simp[Q.o]) Y;rw[eS] at Z K;obtain⟨d,V⟩:∃d,D[y]'(Jw O.o)=d:=⟨_,rfl⟩;obtain⟨l,X⟩:∃l,H[y]'(Jw Q.o)=l:=⟨_,rfl⟩;rw[V] at Z;rw[X] at K;have ak:pJ d:=aa.o d (by rw[<-V];exact ah _);have an:l<=1:=ab.o l (by rw[<-X];exact ah _);have T:=Jh E;go_wp2_with fail;refine(ae.o wr T.o d ak l an).mono ?_;rintro e aE ⟨rfl,U⟩;have aD:=al U K;have af:=Jh (T.o.then U);go_wp2_with fail;go_roundw
 case rel=>exact⟨y+1,by go_num,Jo,af.o⟩
 simp[intOf];omega
theorem Nm (y:List Nat)(i:Nat)(h:i<y.length):(y.take (i+1)).flatMap uint=(y.take i).flatMap uint ++ uint y[i]:=by
 rw[aO h,ao];simp
theorem DO (y:List Nat)(D:∀m∈y,m<=1099511627776):(y.flatMap uint).length<=10*y.length:=by
 induction y with
 |nil=>simp
 |cons x y H=>
  rw[aE,ab,ak];have J:=H λm E=>D m (aC _ E);have E:=bA (n:=x) (Jw (D x (az ..)));omega
theorem nY (A:JA)(c n:Nat)(H:List Nat)(w:JW)(hr:Rd w 1 A n (H.map λm:Nat=>cY .i64 (m:Int)))(aI:H.length=n)(aQ:n<=1000)(aH:∀m∈H,m<=1099511627776):
 JC 283 #[.slice A n c] w λe w'=>e= .returned (.string (S (H.flatMap uint)))/\Below w.heap.size w w':=by
 obtain⟨y,O⟩:=Je w.heap.size;obtain⟨J,aK,aB,aV,aL⟩:∃J,w.alloc (.cells #[.pointer none,Jn] 228)=J/\Below y w J/\J.heap.size=y+1/\J.heap[y]?=some (.cells #[.pointer none,Jn] 228 (0,0)):=
  ⟨_,rfl,by rw[<-O];exact Below.one _ _,by simp[O],by rw[<-O];exact heap_alloc_new _ _⟩
 have K:ue (λE=>E<=y) y 228 [] [] J:=kL aL jh (ac _);have ak:=Jh hr;have M:=Jh aI;have ad:=Jh aH;have ab:=Jh O;have an:=Jh aK;have al:=Jh (show ∃D:Nat,(cY .i64 (0:Nat))=Ji (D:Int)/\D<=n/\ue (λE=>E<=y) y 228 [] ((H.take D).flatMap uint) J/\Below y w J/\y<J.heap.size from⟨0,rfl,Jo,K,aB,Jo⟩);go_enter Tryz.func283,Tryz.ntmps283;go_wp2_with fail;try simp only[an.o]
 go_loopw [8] (λQ wr=>∃D:Nat,Q=Ji (D:Int)/\D<=n/\ue (λE=>E<=y) y 228 [] ((H.take D).flatMap uint) wr/\Below y w wr/\y<wr.heap.size) (λQ _=>n - (intOf Q).toNat)
 case atStart=>exact al.o
 obtain⟨D,rfl,aP,K,V,aJ⟩:=hrel;have aD:Below w.heap.size w wr:=by rw[ab.o];exact V
 by_cases aG:D<n;rotate_left
 ·obtain rfl:D=n:=Jo;have Y:gm (λE=>E<=y) wr:=λE W=>by have aA:E<=y:=W;omega
  have U:H.take D=H:=aw (Jw M.o);rw[U] at K;have Q:=Jh (iC (λE=>E<=y) y 228 [] _ wr K Y);have T:=Jh V;go_wp2_with fail;refine Q.o.mono ?_;rintro e X ⟨rfl,W⟩;have E:=Jh (show Below y w X from T.o.trans (W.below λZ aE=>by show Z<=y;omega));go_wp2_with fail;go_ret;exact⟨rfl,by rw[ab.o];exact E.o⟩
 have aT:(D:Int)<n:=Jo;obtain⟨aM,aX,rfl,aO,ai⟩:=(ak.o.below aD).TO (by simp[M.o]) aG;rw[eS] at ai;obtain⟨m,X⟩:∃m,H[D]'(Jw M.o)=m:=⟨_,rfl⟩;rw[X] at ai;have aU:m<=1099511627776:=ad.o m (by rw[<-X];exact ah _);have aN:IntKind.u64.wrap (m:Int)=m:=by rw[bD];omega
 have am:=Jh (eY m wr Jo);have az:=Jh (by have ae:=Nm H D (Jw M.o);rw[X] at ae;exact ae);have aR:=DO (H.take D) λT Q=>ad.o T (eG Q);have aW:(H.take D).length<=1000:=by rw[aF];omega
 have aS:(uint m).length<=10:=bA Jo;have av:=Jh (show((H.take D).flatMap uint).length+(S (uint m)).size<1099511627776 by rw[bH];omega);have ar:=Jh K;have T:=Jh V;have U:=Jh aJ;go_wp2_with fail;refine am.o.mono ?_;rintro e aa ⟨rfl,Q⟩;have Y:gm (λE=>E<=y) aa:=λE W=>by have aA:E<=y:=W;have:=U.o;have:=Q.size;omega
 have ag:=jt (λE=>E<=y) y 228 [] _ (S (uint m)) aa (rj ar.o Q) av.o Y;rw[cW,<-az.o] at ag;have ao:=Jh ag;have ap:=Jh (T.o.trans (Q.mono (Jw U.o)));have ax:=Jh (show y<aa.heap.size by have:=U.o;have:=Q.size;omega);go_wp2_with fail;refine ao.o.mono ?_;rintro e aj ⟨⟨aY,rfl⟩,aC,af,-⟩;have au:=Jh aC;have aq:=Jh (show Below y w aj from ap.o.trans (af.below (ac _) λZ aE=>by show Z<=y;omega));have ay:=Jh (show y<aj.heap.size by have:=ax.o;have:=af.size;omega);go_wp2_with fail;go_roundw
 case rel=>exact⟨D+1,by go_num,Jo,au.o,aq.o,ay.o⟩
 simp[intOf];omega
theorem jO (x m:Int)(w:JW)(y:0<=x)(h1:x<=m):JC 290 #[Ji x,Ji m] w λe w'=>e= .returned (.bool true)/\w=w':=by
 have D:decide (x≥0)=true:=decide_eq_true y;have H:decide (0<=x)=true:=decide_eq_true y;have E:decide (x<=m)=true:=decide_eq_true h1;go_enter Tryz.func290,Tryz.ntmps290;go_wp2_with fail;go_ret;exact⟨rfl,rfl⟩
structure iJ (F:Nat->Prop) (bd S:Nat) (w:JW):Prop where
 ex:∃cs bm,w.heap[bd]?=some (.cells cs 59 (0,0))/\cs[0]?=some (Ji S)/\(∀i,i<512->cs[1+i]?=some (.string ⟨#[]⟩))/\cs[513]?=some (.map (some bm))/\cs[514]?=some (.bool false)/\
  F bd/\F bm/\MapAt prog 3 w bm 0 (λ_=>none)
theorem iJ.cells {F:Nat->Prop}{y S:Nat}{w:JW}(h:iJ F y S w):∃D,w.cell? (Jp y 0)=some (Ji S)/\(∀i,i<512->w.cell? (Jp y (1+i))=some (.string ⟨#[]⟩))/\w.cell? (Jp y 513)=some (.map (some D))/\w.cell? (Jp y 514)=some (.bool false)/\MapAt prog 3 w D 0 (λ_=>none):=by
 obtain⟨T,D,E,H,J,K,M,-,-,O⟩:=h.ex;exact⟨D,(aa E 0).trans H,λi Q=>(aa E (1+i)).trans (J i Q),(aa E 513).trans K,(aa E 514).trans M,O⟩
theorem iJ.kept {F:Nat->Prop}{y S:Nat}{w w':JW}(h:iJ F y S w)(H:∀k,F k->w'.heap[k]?=w.heap[k]?):iJ F y S w':=by
 obtain⟨K,J,M,O,Q,T,U,D,E,V⟩:=h.ex;exact⟨K,J,(H _ D).trans M,O,Q,T,U,D,E,V.kept (H _ E)⟩
theorem BI (F:Nat->Prop)(y S:Nat)(w:JW)(h:iJ F y S w):JC 72 #[Jv y] w λe w'=>e= .returned (.bool false)/\w=w':=by
 obtain⟨D,-,-,-,E,-⟩:=h.cells;clear h;go_enter Tryz.func72,Tryz.ntmps72;go_wp2_with fail;go_ret;exact⟨rfl,rfl⟩
theorem BJ (F:Nat->Prop)(y S i:Nat)(w:JW)(h:iJ F y S w)(hi:i<S)(T:S<=512):JC 179 #[Jv y,Ji i] w λe w'=>e= .returned (.tuple #[.string ⟨#[]⟩,Ji 0])/\Jz w w':=by
 obtain⟨J,K,D,M,O,E⟩:=h.cells;have Q:=D i Jo;have H:=E.look (t:=56) (z:=Jn) lf underlying56 Jk (nu (show pJ (i:Int) by constructor<;>omega));simp only[gN] at H;have V:=Jf ((i:Int)<0);have W:=Jf ((i:Int)≥S);have X:=Jf ((S:Int)<=i);have U:i<512:=Jo;clear h D E;go_enter Tryz.func179,Tryz.ntmps179;go_wp2_with fail
 (try simp only[jc,gM])
 refine bodyPost_ret (results_tmp2 rfl _ _ _) rfl ?_;exact⟨rfl,ag _ _⟩
section
open Go Go.RowKit Go.Shelf
attribute [local go_sem] Oper.semAt_some
theorem FO (A:JA)(n c:Nat)(w:JW):
 JC 252 #[.slice A n c,Ji 64] w λe w'=>e= .returned (.func (.func 326) #[] #[Jv w.heap.size,.pointer (some (Jp (w.heap.size+1) 0))])/\
  w'=(w.alloc (.cells #[.slice A n c] 22)).alloc (.cells #[Ji 64] 3):=by
 go_enter Tryz.func252,Tryz.ntmps252;go_wp2_with fail;go_ret;exact⟨rfl,rfl⟩
def xb (n i:Nat):Nat:=min 64 (n - 64*i)
def ms (n:Nat):Nat:=(n+63) / 64
def uk (b y n:Nat)(i:Nat):Value:=.slice (some (Jp b (y+i*64))) (xb n i) (xb n i)
theorem Bw (m:Nat)(R:Nat->Prop)(A:JA)(E Bn b U n c:Nat)(w:JW)(ax:R E)(X:R Bn)(aG:E<w.heap.size)(aE:Bn<w.heap.size)(aA:w.cell? (Jp E 0)=some (.slice A n c))(hA:0<n->A=some (Jp b U))(az:w.cell? (Jp Bn 0)=some (Ji 64))
 (bb:n<=5000) (hc:n<=c) (aB:c<=maxLen):
 SeqStopsK dI m prog 326 #[Jv E,Jv Bn] (λi:Nat=>#[uk b U n (min i (ms n - 1))]) (vw R)
  (λxs=>xs=aL (ms n)) (λaI=>aI<+:aL (ms n)) (ms n) w:=λy W Jx H Y ao au ay am=>by
 refine callsIn_of_wp Tryz.func326 rfl trivial ?_ rfl;simp only[Tryz.ntmps326,cJ,ak,aX,bM,dC,bY,bZ,cT,cz,bi,aY];have aH:H.cell? (Jp E 0)=some (.slice A n c):=(Y.cell (p:=(Jp E 0)) aG).trans aA;have aF:H.cell? (Jp Bn 0)=some (Ji 64):=(Y.cell (p:=(Jp Bn 0)) aE).trans az;have aa:=Jh ao;have aK:=Jh au;have ae:=Jh ay;have aM:=Jh aB;gi_wp2;gi_loopw [4] (λD wr=>∃y:Nat,D=Ji (y*64:Nat)/\y<=ms n/\W (aL y) wr/\vw R H wr) (λD _=>n+64 - (intOf D).toNat)
 case atStart=>exact⟨0,rfl,Jo,am,ac _,λ_ _=>rfl⟩
 obtain⟨y,rfl,aW,ar,K⟩:=hrel;have ai:=(af (a:=(Jp E 0)) (K.2 E ax)).trans aH;have aj:=(af (a:=(Jp Bn 0)) (K.2 Bn X)).trans aF;have V:=Jh ar;have ad:=Jh K;have aC:ms n=(n+63) / 64:=rfl;have aN:=Jh aC;by_cases bc:y*64<n;rotate_left
 ·obtain rfl:y=ms n:=Jo;gi_wp2;go_end0;exact⟨⟨_,rfl⟩,.inl ⟨_,rfl,V.o⟩⟩
 have aD:y<ms n:=Jo;have an:=hA Jo;subst an;have aU:¬c=y*64:=Jo;have aV:y*64<c:=Jo;obtain⟨D,Z⟩:=Je (xb n y);have O:min 64 (n - 64*y)=D:=Z;have bd:(if n - y*64<64 then n - y*64 else 64)=D:=by rw[<-O];split<;>omega
 have be:(if((n - y*64:Nat):Int)<64 then((n - y*64:Nat):Int) else 64)=D:=by rw[<-O];split<;>omega
 have bf:min (64:Int) ((n - y*64:Nat):Int)=D:=by rw[<-O];omega
 have ag:=Jh Z;have a8:y*64+D<=n:=Jo;have Q:1<=D:=Jo;have ba:D<=64:=Jo;gi_wp2;refine wpIn_wide.2 ?_;go_quiet (fail);have ap:Jq (W (aL y) (wr.drewN nq)):=Jh (aa.o _ _ _ none V.o (tz _ _ _) (λM J=>by cases J));have aw:Jq (vw R H (wr.drewN nq)):=Jh (ad.o.trans ⟨ac _,λ_ _=>rfl⟩);have aR:(wr.drewN nq).cell? (Jp E 0)=some (.slice (some (Jp b U)) n c):=ai;have al:(wr.drewN nq).cell? (Jp Bn 0)=some (Ji 64):=aj;generalize wr.drewN nq=aJ at*;obtain⟨aT,bg,aP,aQ,T,M⟩:=ae.o (aL y) y aJ ap.o (by rw[dG];exact aD);rw[<-dZ] at M;rw[ec (show y<=ms n - 1 by omega)] at T;unfold uk at T;rw[ag.o] at T;have aZ:((y*64:Nat):Int)+D<=c:=Jo;have a1:y*64+D<=c:=Jo;have a6:(y*64+D) - y*64=D:=Jo;have a7:(((y*64:Nat):Int)+D).toNat=y*64+D:=Jo;gi_wp2;first|refine⟨λJ=>(by cases J),M.mono ?_⟩|refine M.mono ?_
 rintro J aO (⟨rfl,aq,Q⟩|⟨rfl,av⟩)
 ·have ab:=Jh aq;have ah:=Jh (aw.o.trans Q);have aS:=(af (a:=(Jp Bn 0)) (Q.2 Bn X)).trans al;gi_wp2;refine⟨⟨y+1,by go_num,Jo,ab.o,ah.o⟩,?_⟩;simp[intOf];omega
 have ab:=Jh av;gi_wp2;refine bodyPost_ret (results_none rfl _ _ _) rfl ?_;refine⟨⟨_,rfl⟩,.inr ⟨_,?_,ab.o⟩⟩;have ah:aL (y+1)=(aL (ms n)).take (y+1):=by rw[List.take_range,ec Jo]
 rw[Nat.succ_eq_add_one,ah];exact List.take_prefix _ _
theorem sa (y S:Nat)(w:World)(c0:w.cell? (Jp y 0)=some (Ji S)):Calls Tryz.prog 164 #[Jv y] w λe w'=>e= .returned (Ji S)/\w=w':=by
 go_enter Tryz.func164,Tryz.ntmps164;go_wp2_with fail;go_ret;exact⟨rfl,rfl⟩
theorem Gd (m:Nat)(R:Nat->Prop)(p q bs D O S:Nat)(w:World)(az:R p)(aA:R q)(aB:R bs)(ax:R D)(ay:R O)(aM:p<w.heap.size)(aN:q<w.heap.size)(aO:bs<w.heap.size)(aK:D<w.heap.size)
 (cp:w.cell? (Jp p 0)=some (Jv bs)) (ah:w.cell? (Jp q 0)=some (.map (some O))) (cs:w.cell? (Jp bs 0)=some (Jv D)) (ag:w.cell? (Jp D 0)=some (Ji S))
 (aw:MapAt Tryz.prog 3 w O 0 (λ_=>none)) (a7:S<=1000) (h2:2<=S):
 SeqStopsK dI m Tryz.prog 251 #[Jv p,Jv q] (λi:Nat=>#[Ji ((2+min i (S - 3):Nat):Int)]) (vw R)
  (λxs=>xs=aL (S - 2)) (λaP=>aP<+:aL (S - 2)) (S - 2) w:=λy ae Jx M Q ap au aC ao=>by
 refine callsIn_of_wp Tryz.func251 rfl trivial ?_ rfl;simp only[Tryz.ntmps251,cJ,ak,aX,bM,dC,bY,bZ,cT,cz,bi,aY];have aj:M.cell? (Jp p 0)=some (Jv bs):=(Q.cell (p:=(Jp p 0)) aM).trans cp;have al:M.cell? (Jp q 0)=some (.map (some O)):=(Q.cell (p:=(Jp q 0)) aN).trans ah;have am:M.cell? (Jp bs 0)=some (Jv D):=(Q.cell (p:=(Jp bs 0)) aO).trans cs;have ai:M.cell? (Jp D 0)=some (Ji S):=(Q.cell (p:=(Jp D 0)) aK).trans ag;have Z:=Jh (aw.below Q);have aR:=Jh ap;have aS:=Jh au;have ab:=Jh aC;gi_wp2;gi_loopw [4] (λE wr=>∃y:Nat,E=Ji ((2+y:Nat):Int)/\2+y<=S/\ae (aL y) wr/\vw R M wr) (λE _=>S+2 - (intOf E).toNat)
 case atStart=>exact⟨0,rfl,Jo,ao,ac _,λ_ _=>rfl⟩
 obtain⟨y,rfl,aD,ar,J⟩:=hrel;have aW:=(af (a:=(Jp p 0)) (J.2 p az)).trans aj;have aZ:=(af (a:=(Jp q 0)) (J.2 q aA)).trans al;have a1:=(af (a:=(Jp bs 0)) (J.2 bs aB)).trans am;have an:=(af (a:=(Jp D 0)) (J.2 D ax)).trans ai;have aa:=Jh (Z.o.kept (J.2 O ay));have V:=Jh ar;have Y:=Jh J;have aG:=sa D S wr an;have W:=Jh aG;obtain⟨E,U⟩:=Je (2+y);have K:=Jh U;rw[U];rw[U] at aD;have aH:y=E - 2:=Jo;have ba:2<=E:=Jo;by_cases a8:E<S;rotate_left
 ·obtain rfl:E=S:=Jo;have aJ:=Jf ((E:Int)<(E:Int));gi_wp2;refine⟨trivial,λH=>(by cases H),(callsIn_wide.2 W.o).mono ?_⟩;rintro H aQ ⟨rfl,rfl⟩;gi_wp2;go_end0;exact⟨⟨_,rfl⟩,.inl ⟨_,by rw[<-aH],V.o⟩⟩
 have aJ:=Jt ((E:Int)<(S:Int));have aF:=aa.o.look (t:=312) (z:=.bool false) lf Tryz.underlying312 Jk (nu (show pJ (E:Int) by constructor<;>omega));simp only[gN] at aF;obtain⟨a6,bb,aU,aV,aI,T⟩:=ab.o (aL y) y wr V.o (by rw[dG];have:=K.o;omega);rw[<-dZ] at T;rw[show 2+min y (S - 3)=E by have:=K.o;omega] at aI;gi_wp2;refine⟨trivial,λH=>(by cases H),(callsIn_wide.2 W.o).mono ?_⟩;rintro H aQ ⟨rfl,rfl⟩;gi_wp2;first|refine⟨λH=>(by cases H),T.mono ?_⟩|refine T.mono ?_
 rintro H aT (⟨rfl,aq,aE⟩|⟨rfl,av⟩)
 ·have X:=Jh aq;have ad:=Jh (Y.o.trans aE);gi_wp2;go_roundw
  case rel=>exact⟨y+1,by have:=K.o;go_num,by have:=K.o;omega,X.o,ad.o⟩
  simp[intOf];omega
 have X:=Jh av;gi_wp2;refine bodyPost_ret (results_none rfl _ _ _) rfl ?_;refine⟨⟨_,rfl⟩,.inr ⟨_,?_,X.o⟩⟩;have htk:aL (y+1)=(aL (S - 2)).take (y+1):=by rw[List.take_range,ec (by have:=K.o;omega)]
 rw[Nat.succ_eq_add_one,htk];exact List.take_prefix _ _
end
def TV (c:UInt8):Prop:=(97<=c.toNat/\c.toNat<=122)∨(48<=c.toNat/\c.toNat<=57)
structure lC (l:JU):Prop where
 each:∀c∈l,TV c
 ne:l≠[]
 short:l.length<=16
theorem AV (l:JU)(w:JW)(h:lC l):JC 269 #[.string (S l)] w λe w'=>e= .returned (.bool true)/\Jz w w':=by
 obtain⟨ac,ak,Y,E,ad,-,K⟩:=mr (P:=prog) w 9 22 5 (S l) underlying9 underlying22 underlying5;obtain⟨D,M⟩:=Je ((S l).size);have V:=Jh K;have J:=Jh M;have O:D=l.length:=by rw[<-M,bH]
 have W:=Jh (show ∀y(H:y<(S l).size),TV (S l)[y] from λy H=>h.each _ (by
  have:(S l)[y]=l[y]'(by rw[bH] at H;exact H):=by simp[S,ByteArray.getElem_eq_getElem_data]
  rw[this];exact ah _))
 have af:D<=16:=by rw[O];exact h.short
 have ag:(S l).toList.isEmpty=false:=by
  rw[dY,cW];cases l with
  |nil=>exact absurd rfl h.ne
  |cons x l=>rfl
 have ai:=Jt ((D:Int)<=16);rw[M] at Y;have U:=Jh E;clear K h O E;go_enter Tryz.func269,Tryz.ntmps269;go_wp2_with fail;go_loop [8] (λE=>∃y:Nat,E=Ji y/\y<=D) (λE=>D - (intOf E).toNat)
 case atStart=>exact⟨0,rfl,Jo⟩
 obtain⟨y,rfl,H⟩:=hrel;by_cases K:y<D;rotate_left
 ·obtain rfl:y=D:=Jo;go_wp2_with fail;go_ret;exact⟨rfl,U.o⟩
 have ae:(y:Int)<D:=Jo;have X:=V.o y (by rw[J.o];exact K);have O:=W.o y (by rw[J.o];exact K);obtain⟨E,Q⟩:=Je (((S l)[y]'(by rw[J.o];exact K)).toNat);unfold TV at O;rw[Q] at X O;clear Q;rcases O with⟨Q,T⟩|⟨Q,T⟩
 ·have Z:=Jf ((E:Int)<97);have aa:=Jf ((122:Int)<E);have ab:=Jf ((E:Int) > 122);clear Q T;go_wp2_with fail;go_roundw
  case rel=>exact⟨y+1,by go_num,Jo⟩
  simp[intOf];omega
 have Z:=Jt ((E:Int)<97);have aa:=Jf ((E:Int)<48);have ab:=Jf ((E:Int) > 57);have aj:=Jf ((57:Int)<E);clear Q T;go_wp2_with fail;go_roundw
 case rel=>exact⟨y+1,by go_num,Jo⟩
 simp[intOf];omega
def Ag (fs:JU->Option JU)(k:Lit):Option Value:=(uF k).bind λy=>(fs y).map λD=>.string (S D)
def eX (fs:JU->Option JU)(n t:JU):JU->Option JU:=λy=>if y=n then some t else fs y
def oe (fs:JU->Option JU)(n:JU):JU->Option JU:=λy=>if y=n then none else fs y
theorem mL (fs:JU->Option JU)(n:JU):Ag fs (.string n)=(fs n).map λt=>.string (S t):=rfl
theorem Sw (fs:JU->Option JU)(n t:JU)(k:Lit):Ag (eX fs n t) k=od (Ag fs) (.string n) (.string (S t)) k:=by
 unfold od;by_cases y:k= .string n
 ·rw[if_pos y,y,mL];unfold eX;rw[if_pos rfl];rfl
 rw[if_neg y];unfold Ag;cases E:uF k with
 |none=>rfl
 |some H=>
  have:H≠n:=λD=>y (by rw[<-D];exact rC E);unfold eX;simp[this]
theorem Sv (fs:JU->Option JU)(n:JU)(k:Lit):Ag (oe fs n) k=Fy (Ag fs) (.string n) k:=by
 unfold Fy;by_cases y:k= .string n
 ·rw[if_pos y,y,mL];unfold oe;rw[if_pos rfl];rfl
 rw[if_neg y];unfold Ag;cases E:uF k with
 |none=>rfl
 |some H=>
  have:H≠n:=λD=>y (by rw[<-D];exact rC E);unfold oe;simp[this]
structure iN (F:Nat->Prop) (bs bd nf:Nat) (fs:JU->Option JU) (w:JW):Prop where
 ex:∃bn bl,w.heap[bs]?=some (.cells #[Jv bd,.map (some bn),.map (some bl),Jn,Ji 0,.bool false] 161 (0,0))/\F bs/\F bn/\F bl/\
  MapAt prog 9 w bn nf (Ag fs)/\MapAt prog 9 w bl 0 (λ_=>none)
theorem iN.cells {F:Nat->Prop}{bs H nf:Nat}{fs:JU->Option JU}{w:JW}(h:iN F bs H nf fs w):∃D y,w.cell? (Jp bs 0)=some (Jv H)/\w.cell? (Jp bs 1)=some (.map (some D))/\w.cell? (Jp bs 2)=some (.map (some y))/\w.cell? (Jp bs 3)=some (Jn)/\
 MapAt prog 9 w D nf (Ag fs)/\MapAt prog 9 w y 0 (λ_=>none):=by
 obtain⟨D,y,E,-,-,-,J,K⟩:=h.ex;exact⟨D,y,(aa E 0).trans rfl,(aa E 1).trans rfl,(aa E 2).trans rfl,(aa E 3).trans rfl,J,K⟩
theorem iN.lt {F:Nat->Prop}{bs y nf:Nat}{fs:JU->Option JU}{w:JW}(h:iN F bs y nf fs w):bs<w.heap.size:=by
 obtain⟨H,E,D,-⟩:=h.ex;exact(Jl D)
theorem iN.move {F D:Nat->Prop}{bs E nf:Nat}{fs:JU->Option JU}{w w':JW}(h:iN F bs E nf fs w)(y:∀k,k<w.heap.size->F k->D k/\w'.heap[k]?=w.heap[k]?):iN D bs E nf fs w':=by
 obtain⟨J,H,K,V,W,X,M,O⟩:=h.ex;have Q:=y bs (Jl K) V;have T:=y J M.lt W;have U:=y H O.lt X;exact⟨J,H,Q.2.trans K,Q.1,T.1,U.1,M.kept T.2,O.kept U.2⟩
theorem iN.below {F:Nat->Prop}{bs y nf:Nat}{fs:JU->Option JU}{w w':JW}(h:iN F bs y nf fs w)(E:Jz w w'):iN F bs y nf fs w':=h.move λJ H D=>⟨D,E.block J H⟩
theorem iq (F:Nat->Prop)(bs K nf:Nat)(fs:JU->Option JU)(n:JU)(w:JW)(h:iN F bs K nf fs w)(W:n.length<=1000):JC 40 #[Jv bs,.string (S n)] w λe w'=>
 e= .returned (.tuple #[.string (S ((fs n).getD [])),.bool (fs n).isSome])/\w=w':=by
 obtain⟨O,M,Q,T,U,V,H,-⟩:=h.cells;have J:=H.xU (t:=158) (z:=.string ⟨#[]⟩) ja underlying158 Jk (kZ n Jo);rw[mL] at J;have D:((fs n).map λy=>Value.string (S y)).getD (.string ⟨#[]⟩)= .string (S ((fs n).getD [])):=by cases fs n<;>rfl
 have E:((fs n).map λy=>Value.string (S y)).isSome=(fs n).isSome:=by cases fs n<;>rfl
 rw[D,E] at J;clear h H D E;go_enter Tryz.func40,Tryz.ntmps40;go_wp2_with fail;go_ret2;exact⟨rfl,rfl⟩
theorem Eh (F:Nat->Prop)(bs W nf:Nat)(fs:JU->Option JU)(w:JW)(h:iN F bs W nf fs w):JC 250 #[Jv bs] w λe w'=>
 e= .returned (.map (some w.heap.size))/\MapAt prog 3 w' w.heap.size 0 (λ_=>none)/\Jz w w'/\w'.heap.size=w.heap.size+2:=by
 obtain⟨ac,ab,ad,ae,X,Y,-,H⟩:=h.cells;have ah:=@run_makeMap prog;have y:=Below.one w (.map #[] 0);have J:=H.below y;have af:=al y X;have ag:=al y Y;have Q:=Jh (MapAt.made (P:=prog) (k:=3) w);have U:=Jh y;obtain⟨aa,Z,D,M,O⟩:=J.range (t:=159) ja underlying159;have K:Below (w.alloc (.map #[] 0)).heap.size (w.alloc (.map #[] 0)) aa:=M.below' rfl;have E:=Jh K;simp only[aI] at D Z;have T:=Jh D;have V:=Jh O;clear h H J y D M K O;go_enter Tryz.func250,Tryz.ntmps250;go_wp2_with fail;refine wp_loop_rounds 1 ?_;rw[rounds_succ];go_wp2_with fail;rcases T.o.next ja 0 with⟨H,K,O⟩|⟨ai,aj,kl,ak,D,J,M,y,-⟩
 ·refine wp_loop_rounds 1 ?_;rw[rounds_succ];go_wp2_with fail;go_ret;refine⟨rfl,Q.o.below E.o,U.o.then E.o,?_⟩;have:=V.o;simp at this;omega
 cases y
structure iO where
 From:Int
 Count:Int
 Sum:Int
 Min:Int
 Max:Int
def pP:iO:=⟨0,0,0,0,0⟩
def TU (x:ar):iO:=⟨x.T,1,x.V,x.V,x.V⟩
def ma (a b:iO):iO:=if a.Count=0 then b else if b.Count=0 then a else
 ⟨if b.From<a.From then b.From else a.From,jz (a.Count+b.Count),jz (a.Sum+b.Sum),if b.Min<a.Min then b.Min else a.Min,if a.Max<b.Max then b.Max else a.Max⟩
def stepT (w:iO)(x:ar):iO:={ma w (TU x) with From:=if w.Count=0 then x.T else w.From}
def lM (l:List ar):iO:=l.foldl stepT pP
theorem Fc (l:List ar)(h:l.length<=1000000):(lM l).Count=l.length:=by
 have K:∀(l:List ar)(D:iO)(y:Nat),D.Count=y->y+l.length<=1000000->(l.foldl stepT D).Count=((y+l.length:Nat):Int):=by
  intro l;induction l with
  |nil=>intro D y h _;simpa using h
  |cons x l J=>
   intro D y h H;rw[ia,ak];rw[ak] at H;rw[show y+(l.length+1)=(y+1)+l.length by omega];refine J _ _ ?_ Jo;show(ma D (TU x)).Count=_;unfold ma TU;by_cases E:D.Count=0
   ·rw[if_pos E];show(1:Int)=_;omega
   rw[if_neg E,if_neg (show ¬(1:Int)=0 by decide)];show jz (D.Count+1)=_;unfold jz;rw[bC _ Jo];omega
 have:=K l pP 0 rfl Jo;rw[bB] at this;exact this
def gE (step:Int):List ar->List iO
 |[]=>[]
 |x :: y=>{lM (x :: y.takeWhile λD=>decide (D.T / step=x.T / step)) with From:=x.T / step*step} :: gE step (y.dropWhile λD=>decide (D.T / step=x.T / step))
termination_by y=>y.length
decreasing_by
 have:=(eR (λD:ar=>decide (D.T / step=x.T / step)) (l:=y)).length_le;simp only[ak];omega
def mI (step:Int)(l:List eP):List iO:=l.flatMap λy=>gE step y.L
def mq (ws:List iO)(f:Int):iO:=(ws.filter λy=>decide (y.From=f)).foldl ma pP
def pG (ws:List iO)(out:List iO):Prop:=
 out.Pairwise (λD E=>D.From<E.From)/\∀y,y∈out↔(∃H∈ws,H.From=y.From)/\y=mq ws y.From
theorem pG.one {ws a b:List iO}(O:pG ws a)(Q:pG ws b):a=b:=by
 have W:∀D,D∈a↔D∈b:=λD=>(O.2 D).trans (Q.2 D).symm;have Y:∀(a b:List iO),a.Pairwise (λa b=>a.From<b.From)->b.Pairwise (λa b=>a.From<b.From)->(∀D,D∈a↔D∈b)->a=b:=by
  intro a;induction a with
  |nil=>
   intro b _ _ H;cases b with
   |nil=>rfl
   |cons y b=>exact absurd ((H y).2 (az ..)) Js
  |cons x a X=>
   intro b Z aa H;cases b with
   |nil=>exact absurd ((H x).1 (az ..)) Js
   |cons y b=>
    obtain⟨K,T⟩:=List.pairwise_cons.1 Z;obtain⟨M,U⟩:=List.pairwise_cons.1 aa;have V:x=y:=by
     rcases List.mem_cons.1 ((H x).1 (az ..)) with E|E
     ·exact E
     rcases List.mem_cons.1 ((H y).2 (az ..)) with J|J
     ·exact J.symm
     have:=K y J;have:=M x E;omega
    subst V;refine congrArg (x :: ·) (X b T U λD=>⟨λJ=>?_,λJ=>?_⟩)
    ·rcases List.mem_cons.1 ((H D).1 (aC _ J)) with E|E
     ·subst E;have:=K D J;omega
     exact E
    rcases List.mem_cons.1 ((H D).2 (aC _ J)) with E|E
    ·subst E;have:=M D J;omega
    exact E
 exact Y a b O.1 Q.1 W
def gY (ws:List iO):Int:=(ws.map (·.Count)).sum
theorem gQ (w:iO)(ws:List iO):gY (w :: ws)=w.Count+gY ws:=by simp[gY]
theorem rh (a b:List iO):gY (a ++ b)=gY a+gY b:=by simp[gY]
theorem nV {ws:List iO}(h:∀w∈ws,0<w.Count):0<=gY ws:=by
 induction ws with
 |nil=>simp[gY]
 |cons w ws D=>
  rw[gQ];have:=D λw y=>h w (aC _ y);have:=h w (az ..);omega
theorem sE:∀(ws:List iO)(w:iO),0<=w.Count->(∀y∈ws,0<y.Count)->w.Count+gY ws<=1000000->(ws.foldl ma w).Count=w.Count+gY ws
 |[],w,_,_,_=>by simp[gY]
 |y :: ws,w,M,D,J=>by
  rw[gQ] at J;have Q:=D y (az ..);have O:=nV (ws:=ws) λw E=>D w (aC _ E);have K:(ma w y).Count=w.Count+y.Count:=by
   unfold ma;by_cases H:w.Count=0
   ·rw[if_pos H];omega
   rw[if_neg H,if_neg Jo];show jz (w.Count+y.Count)=_;unfold jz;rw[bC _ Jo]
  rw[ia,sE ws _ Jo (λw E=>D w (aC _ E)) Jo,K,gQ];omega
theorem Ab (f:Int):∀(ws:List iO)(w:iO),(∀D∈ws,D.From=f)->(w.Count=0∨w.From=f)->ws≠[]∨w.From=f->(ws.foldl ma w).From=f
 |[],w,_,_,y=>by
  rcases y with y|y
  ·exact absurd rfl y
  exact y
 |D :: ws,w,H,O,_=>by
  have M:=H D (az ..);have K:(ma w D).From=f:=by
   unfold ma;by_cases y:w.Count=0
   ·rw[if_pos y];exact M
   have E:=O.resolve_left y;rw[if_neg y];by_cases J:D.Count=0
   ·rw[if_pos J];exact E
   rw[if_neg J];show(if D.From<w.From then D.From else w.From)=f;rw[M,E];simp
  exact Ab f ws _ (λw E=>H w (aC _ E)) (.inr K) (.inr K)
theorem zA {ws:List iO}{f:Int}(h:∃y∈ws,y.From=f):(mq ws f).From=f:=by
 obtain⟨y,D,H⟩:=h;refine Ab f _ _ (λy D=>by simpa using (List.mem_filter.1 D).2) (.inl rfl) (.inl λE=>?_);have:y∈ws.filter λJ=>decide (J.From=f):=List.mem_filter.2 ⟨D,by simpa using H⟩;rw[E] at this;cases this
theorem Nl (ws:List iO):∀(fs:List Int),fs.Nodup->(∀w∈ws,w.From∈fs)->gY ws=(fs.map λf=>gY (ws.filter λw=>decide (w.From=f))).sum:=by
 induction ws with
 |nil=>
  intro fs _ _;induction fs with
  |nil=>rfl
  |cons f fs D=>rw[bV,gJ,<-D (List.nodup_cons.1 ‹_›).2 (λw y=>by cases y)];rfl
 |cons w ws D=>
  intro fs J E;rw[gQ,D fs J λw y=>E w (aC _ y)];have y:=E w (az ..);clear D E;induction fs with
  |nil=>cases y
  |cons f fs D=>
   obtain⟨K,M⟩:=List.nodup_cons.1 J;rw[bV,bV,gJ,gJ];by_cases E:w.From=f
   ·have T:∀fs:List Int,w.From∉fs->(fs.map λf=>gY ((w :: ws).filter λw=>decide (w.From=f)))=fs.map λf=>gY (ws.filter λw=>decide (w.From=f)):=by
     intro fs O;refine gw λH Q=>?_;rw[List.filter_cons_of_neg];simp only[decide_eq_true_eq];intro H;exact O (H▸Q)
    rw[T fs (by rw[E];exact K),List.filter_cons_of_pos (by simpa using E),gQ];omega
   rw[List.filter_cons_of_neg (by simpa using E)];have:=D M (by
    rcases List.mem_cons.1 y with H|H
    ·exact absurd H E
    exact H)
   omega
theorem pG.count {ws out:List iO}(h:pG ws out)(E:∀w∈ws,0<w.Count)(J:gY ws<=1000000):gY out=gY ws:=by
 have H:(out.map (·.From)).Nodup:=by
  unfold List.Nodup;rw[cS];exact cQ (λh=>Jo) h.1
 have O:∀(K:iO->Bool),gY (ws.filter K)<=gY ws:=by
  intro K;clear J h H;induction ws with
  |nil=>simp
  |cons w ws Q=>
   have M:=E w (az ..);have D:=Q λw y=>E w (aC _ y);rw[ei];split
   ·rw[gQ,gQ];omega
   rw[gQ];omega
 rw[Nl ws (out.map (·.From)) H λw y=>?_]
 ·rw[ig];unfold gY;congr 1;refine gw λw y=>?_;obtain⟨M,D⟩:=(h.2 w).1 y;show w.Count=gY _
  conv=>lhs;rw[D]
  unfold mq;rw[sE _ _ Jd (λU Q=>E U (List.mem_filter.1 Q).1) (by
   show 0+_<=_;have V:=Int.le_trans (O λT=>decide (T.From=w.From)) J
   rwa [Int.zero_add])]
  exact Int.zero_add _
 have D:=zA ⟨w,y,rfl⟩;exact List.mem_map.2 ⟨mq ws w.From,(h.2 _).2 ⟨⟨w,y,D.symm⟩,by rw[D]⟩,D⟩
theorem yQ (step:Int):∀l:List ar,l.length<=1000000->gY (gE step l)=l.length/\∀w∈gE step l,0<w.Count
 |[],_=>by simp[gE,gY]
 |D :: l,J=>by
  rw[gE];have O:=(List.takeWhile_sublist (λy:ar=>decide (y.T / step=D.T / step)) (l:=l)).length_le;have Q:=(eR (λy:ar=>decide (y.T / step=D.T / step)) (l:=l)).length_le;have U:l.length=(l.takeWhile λy=>decide (y.T / step=D.T / step)).length+(l.dropWhile λy=>decide (y.T / step=D.T / step)).length:=by
   conv=>lhs;rw[<-List.takeWhile_append_dropWhile (p:=λy:ar=>decide (y.T / step=D.T / step)) (l:=l),ab]
  rw[ak] at J;obtain⟨K,M⟩:=yQ step (l.dropWhile λy=>decide (y.T / step=D.T / step)) Jo;have E:=Fc (D :: l.takeWhile λy=>decide (y.T / step=D.T / step)) (by rw[ak];omega);rw[ak] at E;refine⟨?_,λw H=>?_⟩
  ·rw[gQ,K];show(lM _).Count+_=_;rw[E,ak];omega
  rcases List.mem_cons.1 H with rfl|H
  ·show 0<(lM _).Count;rw[E];omega
  exact M w H
termination_by l=>l.length
decreasing_by
 have:=(eR (λy:ar=>decide (y.T / step=D.T / step)) (l:=l)).length_le;simp only[ak];omega
theorem Fp (step:Int)(l:List eP)(h:(l.map λs=>s.L.length).sum<=1000000):gY (mI step l)=((l.map λs=>s.L.length).sum:Nat)/\∀w∈mI step l,0<w.Count:=by
 induction l with
 |nil=>simp[mI,gY]
 |cons s l J=>
  rw[bV,gJ] at h ⊢;obtain⟨E,H⟩:=J Jo;obtain⟨K,M⟩:=yQ step s.L Jo;unfold mI at*;rw[aE];refine⟨by rw[rh,E,K];omega,λw D=>?_⟩;rcases List.mem_append.1 D with y|y
  ·exact M w y
  exact H w y
def gC (x:iO):List Value:=[Ji x.From,Ji x.Count,Ji x.Sum,Ji x.Min,Ji x.Max]
theorem kt (x:iO):(gC x).length=5:=rfl
abbrev mQ (x:iO):Value:=.agg #[Ji x.From,Ji x.Count,Ji x.Sum,Ji x.Min,Ji x.Max]
theorem UM (x:ar)(w:JW):JC 235 #[lj x] w λe w'=>e= .returned (mQ (TU x))/\Jz w w':=by
 obtain⟨D,y⟩:=x;unfold TU;dsimp only;go_enter Tryz.func235,Tryz.ntmps235;go_wp2_with fail;refine bodyPost_ret (v:=.agg #[Ji D,Ji 1,Ji y,Ji y,Ji y]) (by rw[fX rfl];go_simp) rfl ⟨rfl,cZ _ _ _⟩
theorem qj (w:JW)(o y D:Obj):Jz w (((w.alloc o).alloc y).alloc D):=(cZ w o y).alloc (by simp;omega) _
theorem Ef (x V:iO)(w:JW):JC 23 #[mQ x,mQ V] w λe w'=>e= .returned (mQ (ma x V))/\Jz w w':=by
 obtain⟨K,H,W,M,O⟩:=x;obtain⟨Q,J,X,T,U⟩:=V;unfold ma;dsimp only;by_cases D:H=0
 ·rw[if_pos D];have ai:(H == 0)=true:=beq_iff_eq.2 D;clear D;go_enter Tryz.func23,Tryz.ntmps23;go_wp2_with fail;refine bodyPost_ret (v:=.agg #[Ji Q,Ji J,Ji X,Ji T,Ji U]) (by rw[fX rfl];go_simp) rfl ⟨rfl,qj _ _ _ _⟩
 rw[if_neg D];have ai:(H == 0)=false:=beq_eq_false_iff_ne.2 D;clear D;by_cases E:J=0
 ·rw[if_pos E];have aj:(J == 0)=true:=beq_iff_eq.2 E;clear E;go_enter Tryz.func23,Tryz.ntmps23;go_wp2_with fail;refine bodyPost_ret (v:=.agg #[Ji K,Ji H,Ji W,Ji M,Ji O]) (by rw[fX rfl];go_simp) rfl ⟨rfl,qj _ _ _ _⟩
 rw[if_neg E];have aj:(J == 0)=false:=beq_eq_false_iff_ne.2 E;clear E;unfold jz;obtain⟨Y,ab⟩:∃y,(if Q<K then Q else K)=y:=⟨_,rfl⟩;obtain⟨ae,ag⟩:∃y,IntKind.i64.wrap (H+J)=y:=⟨_,rfl⟩;obtain⟨af,ah⟩:∃y,IntKind.i64.wrap (W+X)=y:=⟨_,rfl⟩;obtain⟨Z,ac⟩:∃y,(if T<M then T else M)=y:=⟨_,rfl⟩;obtain⟨aa,ad⟩:∃y,(if O<U then U else O)=y:=⟨_,rfl⟩;have y:min K Q=Y:=by rw[<-ab];omega
 have ak:min M T=Z:=by rw[<-ac];omega
 have al:max O U=aa:=by rw[<-ad];omega
 rw[ab,ag,ah,ac,ad];go_enter Tryz.func23,Tryz.ntmps23;go_wp2_with fail;refine bodyPost_ret (v:=.agg #[Ji Y,Ji ae,Ji af,Ji Z,Ji aa]) (by rw[fX rfl];go_simp) rfl ⟨rfl,qj _ _ _ _⟩
def yP (x:iO):Array Value:=#[Ji x.From,Ji x.Count,Ji x.Sum,Ji x.Min,Ji x.Max]
def Vs (B:Nat)(w:JW)(xs:List ar)(iv:Value)(wr:JW):Prop:=∃y:Nat,iv=Ji y/\y<=xs.length/\Below B w wr/\B+2<=wr.heap.size/\
 wr.heap[B]?=some (.cells (yP pP) 38 (0,0))/\wr.heap[B+1]?=some (.cells (yP (lM (xs.take y))) 38 (0,0))
theorem mV {w:JW}{b:Nat}{x:iO}{y:TypeId}(h:w.heap[b]?=some (.cells (yP x) y (0,0))):
 w.cell? (Jp b 0)=some (Ji x.From)/\w.cell? (Jp b 1)=some (Ji x.Count)/\w.cell? (Jp b 2)=some (Ji x.Sum)/\w.cell? (Jp b 3)=some (Ji x.Min)/\w.cell? (Jp b 4)=some (Ji x.Max)/\∀j,w.frozen? (Jp b j)=false:=
 ⟨(aa h 0).trans rfl,(aa h 1).trans rfl,(aa h 2).trans rfl,(aa h 3).trans rfl,(aa h 4).trans rfl,λj=>aW h j⟩
theorem Np (A:JA)(c n:Nat)(xs:List ar)(w:JW)(hr:Rd w 2 A n (xs.flatMap ay))(aL:xs.length=n)(bx:n<=100000):
 JC 138 #[.slice A n c] w λe w'=>e= .returned (mQ (lM xs))/\Below w.heap.size w w':=by
 obtain⟨y,ai⟩:=Je w.heap.size;have aR:=Jh hr;have ao:=Jh aL;have aG:=Jh ai;have D:Vs y w xs (Ji (0:Nat)) ((w.alloc (.cells (yP pP) 38)).alloc (.cells (yP pP) 38)):=by
  refine⟨0,rfl,Jo,by rw[<-ai];exact cZ _ _ _,by simp[ai],?_,?_⟩
  ·rw[<-ai];exact(heap_alloc_old _ _ Js).trans (heap_alloc_new _ _)
  have:=heap_alloc_new (w.alloc (.cells (yP pP) 38)) (.cells (yP pP) 38);rw[aI,ai] at this;exact this
 have aS:=Jh D;have bf:prog.follows .mixedOrders=true:=Jk;clear hr aL D;go_enter Tryz.func138,Tryz.ntmps138;go_wp2_with fail;go_loopw [9] (λD wr=>Vs y w xs D wr) (λD _=>n - (intOf D).toNat)
 case atStart=>exact aS.o
 obtain⟨H,rfl,aK,ak,aF,X,J⟩:=hrel;have aD:Below w.heap.size w wr:=by rw[aG.o];exact ak
 by_cases be:H<n;rotate_left
 ·obtain rfl:H=n:=Jw ao.o;have U:xs.take H=xs:=aw (Jw ao.o);rw[U] at J;obtain⟨az,ac⟩:=Je (lM xs);rw[ac] at J;have V:=Jh ac;obtain⟨M,E,O,Q,T⟩:=az;obtain⟨Y,Z,af,ag,ah,aM⟩:=mV J;obtain⟨ab,ad,al,ap,aq,D⟩:=mV X;have au:=D 0;have av:=D 1;have ax:=D 2;have aA:=D 3;have aB:=D 4;simp only at Y Z af ag ah ab ad al ap aq;have W:=Jh ak;have aC:=Jf ((H:Int)<(H:Int));clear aM D ac U ak aD X J aF aK be;go_wp2_with fail;refine bodyPost_ret (v:=.agg #[Ji M,Ji E,Ji O,Ji Q,Ji T]) (by rw[fX rfl];go_simp) rfl ⟨by rw[V.o],?_⟩;rw[aG.o];have K:y<=y:=Jo;exact((((W.o.setCell (p:=(Jp y 0)) K _).setCell (p:=(Jp y 1)) K _).setCell (p:=(Jp y 2)) K _).setCell (p:=(Jp y 3)) K _).setCell (p:=(Jp y 4)) K _
 have ad:H<xs.length:=Jw ao.o;obtain⟨bv,bE,rfl,bw,aN,aP⟩:=ez (aR.o.below aD) ad;have htk:lM (xs.take (H+1))=stepT (lM (xs.take H)) xs[H]:=by
  unfold lM;rw[aO ad,List.foldl_append];rfl
 obtain⟨bo,au⟩:=Je (xs[H]);rw[au] at aN aP htk;obtain⟨az,ac⟩:=Je (lM (xs.take H));rw[ac] at J htk;obtain⟨M,E,O,Q,T⟩:=az;obtain⟨U,V⟩:=bo;simp only at aN aP;obtain⟨Y,Z,af,ag,ah,aM⟩:=mV J;simp only at Y Z af ag ah;have bz:(H:Int)<n:=Jo;obtain⟨W,aE⟩:∃D,wr.heap.size=D:=⟨_,rfl⟩;obtain⟨D,al,K,ap,aA⟩:∃D,wr.alloc (.cells #[Ji U,Ji V] 113)=D/\Below wr.heap.size wr D/\D.heap.size=W+1/\D.heap[W]?=some (.cells #[Ji U,Ji V] 113 (0,0)):=
  ⟨_,rfl,Below.one _ _,by simp[aE],by rw[<-aE];exact heap_alloc_new _ _⟩
 have aX:=Jh htk;have aT:=Jh al;have av:=Jh ((K.block (y+1) Jo).trans J);have aZ:=Jh ((K.block y Jo).trans X);have ax:=Jh aA;have aV:=Jh (ak.trans (K.mono Jo));have ab:=Jh ap;have aW:=Jh aF;have aq:=Jh aE;have bB:y+1<W:=Jo;have bA:y<W:=Jo;clear htk al K ap aA ak aD X J aF au ac ad aK;have ap:Jq ((stepT ⟨M,E,O,Q,T⟩ ⟨U,V⟩)={ma ⟨M,E,O,Q,T⟩ (TU ⟨U,V⟩) with From:=if E=0 then U else M}):=Jh rfl;obtain⟨aY,K⟩:=Je (ma ⟨M,E,O,Q,T⟩ (TU ⟨U,V⟩));rw[K] at ap;have aQ:=Jh K;clear K;by_cases al:E=0;all_goals
  first
  |(have bg:(E == 0)=true:=beq_iff_eq.2 al;rw[if_pos al] at ap)
  |(have bg:(E == 0)=false:=beq_eq_false_iff_ne.2 al;rw[if_neg al] at ap)
  clear al;go_wp2_with fail;try simp only[aT.o]
  refine cB (n:=4) (S:=λw'=>w'.heap[y+1]?=some (.cells #[Ji M,Ji E,Ji O,Ji Q,Ji T] 38 (0,0))/\w'.heap[W]?=some (.cells #[Ji U,Ji V] 113 (0,0))) bf 4 rfl ⟨av.o,ax.o⟩ (λaB=>?_);refine JH 0 (hy:=by(intro w aC;obtain⟨aH,aA⟩:=aC;obtain⟨Y,Z,af,ag,ah,-⟩:=mV (x:=⟨M,E,O,Q,T⟩) aH;simp only at Y Z af ag ah;go_simp)<;>with_reducible rfl) (h:=JH 1 (hy:=by(intro w aC;obtain⟨aH,aA⟩:=aC;have Y:=(aa aA 0).trans rfl;have Z:=(aa aA 1).trans rfl;go_simp)<;>with_reducible rfl) (h:=?_));refine JM 2 (h:=λau ad=>?_);go_simp;refine(UM ⟨U,V⟩ _).mono ?_;rintro bd bm ⟨rfl,aJ⟩;have K:Below D.heap.size D bm:=aJ.h;refine ad.out _ _ ⟨(K.block (y+1) (Jx ab.o aq.o)).trans av.o,(K.block W (Jw ab.o)).trans ax.o⟩ (λaB=>?_);clear ad au;have aU:=Jh K;clear aJ K;try simp only[an,JY]
  refine JM 3 (h:=λau ad=>?_);go_simp;refine(Ef ⟨M,E,O,Q,T⟩ (TU ⟨U,V⟩) _).mono ?_;rw[aQ.o];rintro bd bn ⟨rfl,aJ⟩;have K:Below D.heap.size D bn:=aU.o.then aJ;have J:=(K.block (y+1) (Jx ab.o aq.o)).trans av.o;have X:=(K.block y (Jx ab.o aq.o)).trans aZ.o;have bh:=K.size;refine ad.out _ _ ⟨J,(K.block W (Jw ab.o)).trans ax.o⟩ (λaB=>?_);clear ad au aB;have au:=Jh K;have a6:=Jh J;have a1:=Jh X;obtain⟨a7,a8,ba,bb,bc⟩:=aY;obtain⟨p0,bi,bj,bk,bl,ad⟩:=mV (x:=⟨M,E,O,Q,T⟩) J;simp only at p0 bi bj bk bl;have bp:=ad 0;have bq:=ad 1;have br:=ad 2;have bt:=ad 3;have bu:=ad 4;clear aJ K J X ad bh Y Z af ag ah;try simp only[an,JY]
  refine cy Jk ?_;go_wp2_with fail;go_roundw
  case rel=>
   have bD:=au.o.size;have bC:=ab.o;have bh:=aW.o;have aJ:=am (i:=0) (am (i:=4) (am (i:=3) (am (i:=2) (am (i:=1) (am (i:=0) a6.o (Ji a7)) (Ji a8)) (Ji ba)) (Ji bb)) (Ji bc));have ad:∀(D:JW) K(aB:Value),(D.setCell (Jp (y+1) K) aB).heap[y]?=D.heap[y]?:=λD K aB=>ae _ _ _ _ (by show y≠y+1;omega);refine⟨H+1,by go_num,Jw ao.o,?_,by simp[aj];omega,by rw[ad,ad,ad,ad,ad,ad];exact a1.o,?_⟩
   ·have aB:=aV.o.trans (au.o.mono Jo);have K:y<=y+1:=Jo;exact(((((aB.setCell (p:=(Jp (y+1) 0)) K _).setCell (p:=(Jp (y+1) 1)) K _).setCell (p:=(Jp (y+1) 2)) K _).setCell (p:=(Jp (y+1) 3)) K _).setCell (p:=(Jp (y+1) 4)) K _).setCell (p:=(Jp (y+1) 0)) K _
   rw[aJ,aX.o,ap.o];rfl
  simp[intOf];omega
section
open Go Go.RowKit Go.Shelf
attribute [local go_sem] Oper.semAt_some
theorem tY {J:Type}(p:J->Bool):∀(l:List J)(k:Nat),k<=l.length->(∀t,(h:t<k)->(y:t<l.length)->p l[t]=true)->(∀h:k<l.length,p l[k]=false)->l.takeWhile p=l.take k/\l.dropWhile p=l.drop k
 |[],k,D,_,_=>by simp at D;subst D;simp
 |Q :: l,0,_,_,y=>by
  have:=y Js;simp only[bf] at this;simp[this]
 |Q :: l,k+1,D,H,y=>by
  have E:=H 0 Jo Js;simp only[bf] at E;obtain⟨K,M⟩:=tY p l k (by simpa using D) (λt T O=>by have:=H (t+1) Jo (by simpa using O);simpa using this) (λh=>by have:=y (by simpa using h);simpa using this);simp[E,K,M]
theorem Nx {step:Int}{xs:List ar}{p q:Nat}(H:p<xs.length)(O:p<q)(Q:q<=xs.length)(h1:∀t,p<=t->t<q->(h:t<xs.length)->xs[t].T / step=xs[p].T / step)(h2:∀h:q<xs.length,xs[q].T / step≠xs[p].T / step):
 gE step (xs.drop p)={lM ((xs.drop p).take (q - p)) with From:=xs[p].T / step*step} :: gE step (xs.drop q):=by
 obtain⟨y,rfl⟩:∃y,q=p+1+y:=⟨q - p - 1,Jo⟩;rw[dm H,gE];have M:(xs.drop (p+1)).length=xs.length - (p+1):=bo;obtain⟨D,E⟩:=tY (λJ:ar=>decide (J.T / step=xs[p].T / step)) (xs.drop (p+1)) y Jo (λt U K=>by
  rw[List.getElem_drop];exact decide_eq_true (h1 (p+1+t) Jo Jo Jo)) (λh=>by
  rw[List.getElem_drop];exact decide_eq_false (h2 Jo))
 rw[D,E,bR,show p+1+y - p=y+1 by omega,dN]
def sg (ws:List iO)(i:Nat):iO:=ws.getD (min i (ws.length - 1)) pP
theorem Bj {ws:List iO}{i:Nat}(h:i<ws.length):sg ws i=ws[i]:=by
 unfold sg;rw[ec Jo,bQ,aT h];rfl
theorem Fg (A:JA)(n c:Nat)(f t s:Int)(w:JW):JC 64 #[.slice A n c,.agg #[Ji f,Ji t],Ji s] w λe w'=>
 e= .returned (.func (.func 137) #[] #[Jv w.heap.size,.pointer (some (Jp (w.heap.size+1) 0)),.pointer (some (Jp (w.heap.size+2) 0))])/\
  w'=((w.alloc (.cells #[.slice A n c] 66)).alloc (.cells #[Ji f,Ji t] 30)).alloc (.cells #[Ji s] 3):=by
 have E:∀(D:Fn)(first y:Array Value)(w:JW),(cO D first y).run prog w= .ok (.func D first y) w:=λ_ _ _ _=>rfl;go_enter Tryz.func64,Tryz.ntmps64;go_wp2_with fail;go_ret;exact⟨rfl,rfl⟩
theorem zP {D:Type}{cells:D->List Value}{C:Nat}(y:∀x,(cells x).length=C):∀(xs:List D)(p:Nat),(xs.flatMap cells).drop (p*C)=(xs.drop p).flatMap cells
 |xs,0=>by simp
 |[],p+1=>by simp
 |x :: xs,p+1=>by
  rw[show(p+1)*C=(cells x).length+p*C by rw[y,jQ];omega,aE,<-bR,eF,zP y xs p,dr]
theorem Rd.sub {M:Type}{cells:M->List Value}{C:Nat}(E:∀x,(cells x).length=C){w:JW}{b y n p k:Nat}{xs:List M}(h:Rd w C (some (Jp b y)) n (xs.flatMap cells))(X:xs.length=n)(W:p+k<=n):Rd w C (some (Jp b (y+p*C))) k (((xs.drop p).take k).flatMap cells):=by
 refine⟨by rw[de E];congr 1;simp;omega,λD=>?_⟩;obtain⟨O,V,Q,U,T⟩:=h.2 Jo;obtain⟨rfl,rfl⟩:b=O/\y=V:=by simpa using Q
 refine⟨b,y+p*C,rfl,U,λJ K H=>?_⟩;rw[aV];refine T (p*C+J) K ?_;have D:((xs.drop p).flatMap cells)[J]?=some K:=by
  conv=>lhs;rw[<-da k (xs.drop p),ao]
  rw[eU (List.getElem?_eq_some_iff.1 H).1];exact H
 rw[<-zP E xs p,dJ] at D;exact D
theorem World.iz (w:JW)(n:Nat):w.grownBy (w.drewN n) none:=⟨rfl,rfl,rfl,ac _,λ_ _ _=>rfl⟩
theorem grown_of {w w':JW}(h:Jz w w'):w.grownBy w' none:=⟨h.os,h.tape,h.output,h.size,λD y _=>h.block D y⟩
theorem Rd.Xk {R:Nat->Prop}{D H:JW}{b y n:Nat}{xs:List Value}{E:Nat}(h:Rd D 2 (some (Jp b y)) n xs)(hA:∀J Y,some ((Jp b E):Addr)=some (Jp J Y)->R J)(T:∀wr:JW,D.heap.size<=wr.heap.size->∀k,R k->k<wr.heap.size)(K:vw R D H):Rd H 2 (some (Jp b y)) n xs:=
 ⟨h.1,λV=>by
  obtain⟨O,X,Q,aa,U⟩:=h.2 V;obtain⟨rfl,rfl⟩:b=O/\y=X:=by simpa using Q
  exact⟨b,y,rfl,T H K.1 b (hA b E rfl),λM Z W=>(af (a:=(Jp b (y+M))) (K.2 b (hA b E rfl))).trans (U M Z W)⟩⟩
theorem Ip (m:Nat)(R:Nat->Prop)(A:JA)(U V W n c:Nat)(xs:List ar)(step:Int)(w:JW)(bj:R U)(bk:R V)(bl:R W)(h1:U<w.heap.size)(h2:V<w.heap.size)(bE:W<w.heap.size)
 (bz:w.cell? (Jp U 0)=some (.slice A n c)) (c2:w.cell? (Jp V 0)=some (Ji 0)) (c3:w.cell? (Jp W 0)=some (Ji step)) (b1:Rd w 2 A n (xs.flatMap ay)) (bQ:∀k,R k->k<w.heap.size) (hA:∀b Q,A=some (Jp b Q)->R b)
 (bX:xs.length=n) (cA:n<=1000) (cx:n<=c) (bU:c<=maxLen) (cM:1<=step) (cN:step<=1000) (bR:∀x∈xs,0<=x.T/\x.T<1099511627776) (ws:List iO) (b7:ws=gE step xs):
 SeqStopsK dI m prog 137 #[Jv U,Jv V,Jv W] (λi:Nat=>#[mQ (sg ws i)]) (vw R)
  (λl=>l=aL ws.length) (λcc=>cc<+:aL ws.length) ws.length w:=λy aD Jx ad aq bF bL bS bD=>by
 refine callsIn_of_wp Tryz.func137 rfl trivial ?_ rfl;simp only[Tryz.ntmps137,cJ,ak,aX,bM,dC,bY,bZ,cT,cz,bi,aY];have b2:=b1.below aq;have bf:ad.cell? (Jp U 0)=some (.slice A n c):=(aq.cell (p:=(Jp U 0)) h1).trans bz;have bg:ad.cell? (Jp V 0)=some (Ji 0):=(aq.cell (p:=(Jp V 0)) h2).trans c2;have bh:ad.cell? (Jp W 0)=some (Ji step):=(aq.cell (p:=(Jp W 0)) bE).trans c3;have ax:=Jh bF;have cf:=Jh bL;have bv:=Jh bS;have aw:=Jh hA;have aB:=Jh b2;have aa:=Jh bX;have aM:=Jh bR;have bw:=Jh b7;have ci:=Jh bU;have b5:=aq.size;have ba:=Jh (λ(wr:JW)(E:ad.heap.size<=wr.heap.size) k aV=>ai (bQ k aV) (ap b5 E));gi_wp2;gi_loopw [5] (λy wr=>∃D J:Nat,y=Ji D/\D<=n/\J<=ws.length/\ws.drop J=gE step (xs.drop D)/\aD (aL J) wr/\vw R ad wr) (λy _=>n - (intOf y).toNat)
 case atStart=>exact⟨0,0,rfl,Jo,Jo,by simpa using bw.o,bD,ac _,λ_ _=>rfl⟩
 obtain⟨D,J,rfl,cC,cy,bV,bJ,aG⟩:=hrel;have a6:=Jh bJ;have a8:=Jh aG;have bc:=Jh bV;have be:=(af (a:=(Jp U 0)) (aG.2 U bj)).trans bf;have aE:=(af (a:=(Jp V 0)) (aG.2 V bk)).trans bg;have aF:=(af (a:=(Jp W 0)) (aG.2 W bl)).trans bh;by_cases cB:D<n;rotate_left
 ·obtain rfl:D=n:=Jo;have y:J=ws.length:=by
   have H:ws.drop J=[]:=by rw[bc.o,List.drop_of_length_le (Jw aa.o),gE]
   have:=List.drop_eq_nil_iff.1 H;omega
  subst y;have av:=Jf ((D:Int)<(D:Int));gi_wp2;go_end0;exact⟨⟨_,rfl⟩,.inl ⟨_,rfl,a6.o⟩⟩
 have ag:D<xs.length:=Jw aa.o;obtain⟨b,Q,rfl,cv,aK,cU⟩:=ez aB.o ag;have aK:=(af (a:=(Jp b (Q+D*2))) (a8.o.2 b (aw.o b Q rfl))).trans aK;have aU:=aM.o _ (ah ag);obtain⟨x,bn⟩:=Je (xs[D]);rw[bn] at aK aU;obtain⟨ab,bx⟩:=x;simp only at aK aU;obtain⟨aT,cu⟩:=aU;have cD:(D:Int)<n:=Jo;obtain⟨Y,aJ⟩:=Je (ab / step);have cP:IntKind.i64.wrap ab=ab:=bC _ Jo;have cQ:ab.tdiv step=Y:=by rw[fE aT];exact aJ
 have b8:0<=Y:=by rw[<-aJ];exact Int.ediv_nonneg aT Jo
 have cO:Y<=ab:=by rw[<-aJ];exact Int.ediv_le_self _ aT
 have cR:IntKind.i64.wrap Y=Y:=bC _ Jo;have ao:=Jh aJ;have aC:=Jh (show ∀E:D<xs.length,xs[D]'E=⟨ab,bx⟩ from λ_=>bn);gi_wp2;refine wpIn_wide.2 ?_;go_quiet (fail);have bG:Jq (aD (aL J) (wr.drewN nq)):=Jh (ax.o _ _ _ none a6.o (World.iz wr nq) (λaZ O=>by cases O));have bO:Jq (vw R ad (wr.drewN nq)):=Jh (a8.o.trans ⟨ac _,λ_ _=>rfl⟩);generalize wr.drewN nq=cW at*;gi_wp2;gi_loopw [7] (λH wr=>∃y:Nat,H=Ji y/\D<=y/\y<=n/\(∀X,D<=X->X<y->(E:X<xs.length)->xs[X].T / step=Y)/\aD (aL J) wr/\vw R ad wr) (λH _=>n - (intOf H).toNat)
 case atStart=>exact⟨D,rfl,Jo,Jo,λX H b=>Jo,bG.o,bO.o⟩
 obtain⟨y,rfl,cG,cI,bT,bK,aH⟩:=hrel;have be:=(af (a:=(Jp U 0)) (aH.2 U bj)).trans bf;have aE:=(af (a:=(Jp V 0)) (aH.2 V bk)).trans bg;have aF:=(af (a:=(Jp W 0)) (aH.2 W bl)).trans bh;have a7:=Jh bK;have az:=Jh aH;have bb:=Jh bT;by_cases au:∃E:y<xs.length,xs[y].T / step=Y
 ·have aI:y<n:=by obtain⟨E,-⟩:=au;have:=aa.o;omega
  have am:y<xs.length:=Jw aa.o;obtain⟨aR,aW,aS,-,u0,u1⟩:=ez aB.o am;obtain⟨rfl,rfl⟩:b=aR/\Q=aW:=by simpa using aS
  have u0:=(af (a:=(Jp b (Q+y*2))) (az.o.2 b (aw.o b Q rfl))).trans u0;have aj:=aM.o _ (ah am);obtain⟨a1,an⟩:=Je (xs[y]);rw[an] at u0 aj;obtain⟨K,aP⟩:=a1;simp only at u0 aj;obtain⟨ae,bm⟩:=aj;have bB:(y:Int)<n:=Jo;obtain⟨M,Z⟩:=Je (K / step);have br:IntKind.i64.wrap K=K:=bC _ Jo;have bt:K.tdiv step=M:=by rw[fE ae];exact Z
  have bo:0<=M:=by rw[<-Z];exact Int.ediv_nonneg ae Jo
  have bp:M<=K:=by rw[<-Z];exact Int.ediv_le_self _ ae
  have bu:IntKind.i64.wrap M=M:=bC _ Jo;have aO:=Jh Z;have aN:=Jh (show ∀E:y<xs.length,xs[y]'E=⟨K,aP⟩ from λ_=>an);have av:(M == Y)=true:=by
   obtain⟨E,H⟩:=au;rw[aN.o E] at H;exact beq_iff_eq.2 (aO.o.symm.trans H)
  have aA:=Jh au;gi_wp2;refine wpIn_wide.2 ?_;go_quiet (fail);gi_wp2;refine⟨⟨y+1,by go_num,Jo,Jo,λX aQ bd E=>?_,ax.o _ _ _ none a7.o (World.iz wr nq) (λaZ O=>by cases O),az.o.trans ⟨ac _,λ_ _=>rfl⟩⟩,?_⟩
  ·rcases et X y with H|H
   ·exact bb.o X aQ H E
   obtain rfl:X=y:=Jo;exact aA.o.2
  simp[intOf];omega
 have b0:D<y:=by
  rcases et D y with H|H
  ·exact H
  obtain rfl:y=D:=Jo;exact absurd ⟨ag,by rw[aC.o ag];exact ao.o⟩ au
 have aA:=Jh au;rcases et y n with aI|aI;all_goals
  first
  |(have bH:y<n:=aI;have am:y<xs.length:=(Jw aa.o);obtain⟨aR,aW,aS,-,u0,u1⟩:=ez aB.o am;obtain⟨rfl,rfl⟩:b=aR/\Q=aW:=(by simpa using aS);have u0:=(af (a:=(Jp b (Q+y*2))) (az.o.2 b (aw.o b Q rfl))).trans u0;have aj:=aM.o _ (ah am);obtain⟨a1,an⟩:=Je (xs[y]);rw[an] at u0 aj;obtain⟨K,aP⟩:=a1;simp only at u0 aj;obtain⟨ae,bm⟩:=aj;have bB:(y:Int)<n:=Jo;obtain⟨M,Z⟩:=Je (K / step);have br:IntKind.i64.wrap K=K:=bC _ Jo;have bt:K.tdiv step=M:=(by rw[fE ae];exact Z);have bo:0<=M:=(by rw[<-Z];exact Int.ediv_nonneg ae Jo);have bp:M<=K:=(by rw[<-Z];exact Int.ediv_le_self _ ae);have bu:IntKind.i64.wrap M=M:=bC _ Jo;have aO:=Jh Z;(have aN:=Jh (show ∀E:y<xs.length,xs[y]'E=⟨K,aP⟩ from λ_=>an));(have av:(M == Y)=false:=beq_eq_false_iff_ne.2 λH=>aA.o ⟨am,by rw[aN.o am];exact aO.o.trans H⟩);gi_wp2;refine wpIn_wide.2 ?_;go_quiet (fail);clear av br bt bu u0 ae bm bo bp)
  |(have bH:n<=y:=aI;have av:=Jf ((y:Int)<n);have bA:=Jf (y<n);gi_wp2;refine wpIn_wide.2 ?_;go_quiet (fail);clear av bA)
 all_goals
  have bH:Jq (aD (aL J) (wr.drewN nq)):=Jh (ax.o _ _ _ none a7.o (World.iz wr nq) (λaZ O=>by cases O));have aO:Jq (vw R ad (wr.drewN nq)):=Jh (az.o.trans ⟨ac _,λ_ _=>rfl⟩);have cn:(wr.drewN nq).cell? (Jp U 0)=some (.slice (some (Jp b Q)) n c):=be;have bA:(wr.drewN nq).cell? (Jp V 0)=some (Ji 0):=aE;have bB:(wr.drewN nq).cell? (Jp W 0)=some (Ji step):=aF;generalize wr.drewN nq=aW at*;have cK:y<=c:=Jo;have cL:(y:Int)<=c:=Jo;have cH:(D:Int)<=y:=Jo;have cE:¬c=D:=Jo;have cF:D<c:=Jo;gi_wp2;have b3:=Rd.sub dy (p:=D) (k:=y - D) (aB.o) aa.o Jo;have b4:((xs.drop D).take (y - D)).length=y - D:=by have:=aa.o;simp;omega
  have Z:=Nx ag b0 (Jw aa.o) (λX aQ bd E=>by rw[aC.o ag];exact(bb.o X aQ bd E).trans ao.o.symm) (λE H=>aA.o ⟨E,by rw[H,aC.o ag];exact ao.o⟩);rw[aC.o ag] at Z;simp only[ao.o] at Z;obtain⟨K,X⟩:=Je (Y*step);have cr:0<=K:=by rw[<-X];exact Int.mul_nonneg b8 Jo
  have ct:K<=ab:=by rw[<-X,<-ao.o];exact Int.ediv_mul_le ab Jo
  rw[X] at Z;have cS:IntKind.i64.wrap K=K:=bC _ Jo;obtain⟨bu,bm⟩:=Je (lM ((xs.drop D).take (y - D)));have bd:=Np (some (Jp b (Q+D*2))) (c - D) (y - D) ((xs.drop D).take (y - D)) aW (b3.Xk aw.o ba.o aO.o) b4 Jo;rw[bm] at bd Z;obtain⟨cl,ae,aj,am,aN⟩:=bu;have bt:=Jh Z;have cg:=Jh bm;have ce:=Jh X;refine⟨trivial,λO=>(by cases O),(callsIn_wide.2 bd).mono ?_⟩;rintro co cd ⟨rfl,aQ⟩;have aE:=al aQ bA;have aF:=al aQ bB;have b9:=bq _ _ aE;have cb:=bq _ _ aF;simp only at b9 cb;have bo:=Jh aQ;have M:ws.drop J=⟨K,ae,aj,am,aN⟩ :: gE step (xs.drop y):=by rw[bc.o,bt.o]
  have aS:J<ws.length:=by
   rcases et J ws.length with H|H
   ·exact H
   rw[List.drop_of_length_le H] at M;cases M
  rw[dm aS] at M;have b6:sg ws J=⟨K,ae,aj,am,aN⟩:=by rw[Bj aS];exact(List.cons.inj M).1
  have bp:=Jh (List.cons.inj M).2;have aR:Jz aW (cd.alloc (.cells #[Ji K,Ji ae,Ji aj,Ji am,Ji aN] 38)):=bo.o.then (Below.one _ _);have a1:=Jh (bv.o (aL J) J _ (ax.o _ _ _ none bH.o (grown_of aR) (λaZ O=>by cases O)) (by rw[dG];exact aS));have bP:=aO.o.trans ⟨aR.size,λk aV=>aR.block k (ba.o aW aO.o.1 k aV)⟩;have aZ:=Jh bP;simp only[b6] at a1;obtain⟨cq,cV,ck,cm,an,aP⟩:=a1.o;rw[<-dZ] at aP;gi_wp2;first|refine⟨λO=>(by cases O),aP.mono ?_⟩|refine aP.mono ?_
  rintro O cj (⟨rfl,bI,bW⟩|⟨rfl,bN⟩)
  ·have aV:=Jh bI;have br:=Jh bW;gi_wp2;refine⟨⟨y,J+1,rfl,Jo,Jo,bp.o,aV.o,aZ.o.trans br.o⟩,?_⟩;simp[intOf];omega
  have aV:=Jh bN;gi_wp2;refine bodyPost_ret (results_none rfl _ _ _) rfl ?_;exact⟨⟨_,rfl⟩,.inr ⟨_,tM Jo,aV.o⟩⟩
end
theorem MK (A:JA)(c n:Nat)(xs:List ar)(w:JW)(hr:Rd w 2 A n (xs.flatMap ay))(aw:xs.length=n)(ax:Up kS xs)(aM:n<=100000):
 JC 63 #[.slice A n c] w λe w'=>e= .returned (.bool true)/\Jz w w':=by
 have aa:=Jh hr;have ak:=Jh aw;have am:=Jh ax;go_enter Tryz.func63,Tryz.ntmps63;go_wp2_with fail;go_loopw [6] (λD wr=>∃y:Nat,D=Ji y/\y<=n/\Jz w wr) (λD _=>n - (intOf D).toNat)
 case atStart=>exact⟨0,rfl,Jo,ag _ _⟩
 obtain⟨D,rfl,aH,aq⟩:=hrel;have J:=Jh aq;by_cases aN:D<n;rotate_left
 ·obtain rfl:D=n:=Jo;have aC:=Jf ((D:Int)<(D:Int));go_wp2_with fail;go_ret;exact⟨rfl,J.o⟩
 have aK:(D:Int)<n:=Jo;by_cases av:D=0
 ·subst av;have E:decide ((0:Int)<((0:Nat):Int))=false:=Jd;go_wp2_with fail;go_quiet (fail);go_wp2_with fail;go_roundw
  case rel=>exact⟨1,by go_num,Jo,J.o.drewN _⟩
  simp[intOf];omega
 obtain⟨y,au⟩:∃y,y+1=D:=⟨D - 1,Jo⟩;have aj:y+1<xs.length:=Jw ak.o;obtain⟨E,H,rfl,aE,M,O⟩:=ez (aa.o.below J.o) aj;obtain⟨ap,aD,ao,-,X,Y⟩:=ez (aa.o.below J.o) (show y<xs.length by omega);obtain⟨rfl,rfl⟩:E=ap/\H=aD:=by simpa using ao
 have V:=List.pairwise_iff_getElem.1 am.o y (y+1) Jo aj Jo;obtain⟨Q,az⟩:=Je (xs[y+1]);obtain⟨U,aA⟩:=Je (xs[y]'Jo);rw[az] at M O V;rw[aA] at X Y V;rw[au] at M O;have ah:=λK=>wZ U Q K;obtain⟨W,ai⟩:=Je (bK U.T Q.T);simp only[ai] at ah;have aL:W<0:=by rw[<-ai];exact(ng U.T Q.T).1.2 (by simp only[kS,kl] at V;omega)
 have aC:=Jf (W≥0);have aO:=Jf (0<=W);obtain⟨ac,ae⟩:=Q;obtain⟨ad,af⟩:=U;simp only at M O X Y;have Z:=Jh ah;have aP:(D:Int) - 1=(y:Int):=Jo;have aQ:IntKind.i64.wrap (y:Int)=(y:Int):=by rw[aB];omega
 have aI:(0:Int)<D:=Jo;have aJ:0<D:=Jo;have aF:(y:Int)<n:=Jo;have aG:y<n:=Jo;go_wp2_with fail;have ab:=Jh (show ∀w',Jz wr w'->(Jz wr w'/\w'.cell? (Jp E (H+D*2))=some (Ji ac)/\w'.cell? (Jp E (H+D*2+1))=some (Ji ae)/\w'.cell? (Jp E (H+y*2))=some (Ji ad)/\w'.cell? (Jp E (H+y*2+1))=some (Ji af)) from λw' K=>⟨K,al K M,al K O,al K X,al K Y⟩);go_region_held3 (λw'=>Jz wr w'/\w'.cell? (Jp E (H+D*2))=some (Ji ac)/\w'.cell? (Jp E (H+D*2+1))=some (Ji ae)/\w'.cell? (Jp E (H+y*2))=some (Ji ad)/\w'.cell? (Jp E (H+y*2+1))=some (Ji af))
  (first|exact ab.o _ (ag _ _).drew|assumption|exact ab.o _ (Below.h (by assumption)))
  (first
   |(go_at_call 129;refine(Z.o _).mono ?_;rintro e an ⟨rfl,K⟩)
   |(go_at_fn 129;refine(Z.o _).mono ?_;rintro e an ⟨rfl,K⟩))
 have an:=Jh (J.o.trans (K.h.mono J.o.size));go_wp2_with fail;go_roundw
 case rel=>exact⟨D+1,by go_num,Jo,an.o⟩
 simp[intOf];omega
section
open Go Go.RowKit Go.Shelf
attribute [local go_sem] Oper.semAt_some
theorem Mu {P:Program}{n:Nat}{D:Type}{g:Operand}{U:Tmp}{Q T:Code}{O:Exit->Act->World->Prop}{a:Act}{w:JW}
 (h1:1<=n) {gf:Nat} {lb:Array Value} (ah:a.eval g= .func (.func gf) #[] lb) (W:∀args w,(callFunc gf args).run P w= .ok (.enter gf args) w)
 {e1:D->Value} {Kp:JW->World->Prop} {S V:List D->Prop} {N:Nat} (ak:SeqStopsK dI (n - 1) P gf lb (λx=>#[e1 x]) Kp S V N w)
 (ac:∀{A B C:JW},Kp A B->Kp B C->Kp A C) (ab:∀(y:JW)(l:Nat)(o al:Obj),w.heap.size<=l->y.heap[l]?=some o->o.isCells=false->o.isWalk=false->Kp y (y.putObj l al))
 (I:List D->World->Prop) (aa:OwnFrom w.heap.size I) (Y:I [] w) (J:D->Act->World->Prop) (Z:∀x a',OwnFrom w.heap.size (λ(_:Unit) y=>J x a' y))
 (ad:∀(l:Nat)(E:List D)(x:D)(y:JW)(K:Act->World->Prop),I E y->(∀a' H,KeepsFrom w.heap.size y H->Kp y H->I E H->J x a' H->K a' H)->
  Q.wpIn (CN l) (n - 1 - 1) P (gM K (λ_ _ _=>False)) {tmps:=a.tmps.setIfInBounds U (e1 x),defers:=[]} y)
 (ae:∀(l:Nat)(E:List D)(x:D)(a':Act)(y:JW),w.heap.size<=l->(∃r,y.heap[l]?=some (.loop r))->I E y->J x a' y->E.length<N->T.wpIn (CN l) (n - 1 - 1) P (ownPostG w.heap.size Kp I (λ_ _ _=>False) (E ++ [x]) y) a' y)
 (af:∀(M:Nat)(xs:List D)(y:JW),w.heap.size<=M->S xs->I xs y->y.heap[M]?=some (.deferred (some []))->O .normal {a with defers:={target:=.collected M,args:=#[]} :: a.defers} y):
 (Code.rangeFunc g #[U] Q T).wp P O a w:=
 wpIn_wide.1 (wpIn_rangeFunc_ownH (F:=dI) rfl h1 ah trivial W ak ac ab (ag _ _) (λ_=>rfl) I (λ_ _ _=>False) aa (λ_ _ _ _ _ X _ _=>X) Y J Z
  (λl E x y K ai aj=>by have:=ad l E x y K ai aj;simpa using this) ae af (λ_ _ _ _ _ _ X _=>X.elim))
def Wp (B q s:Nat)(w:JW)(ws:List iO)(D:List Nat)(y:JW):Prop:=
 ∃E H,y.heap[q]?=some (.cells #[.slice E D.length H] 31 (0,0))/\bP (λJ=>J<s) 38 5 (.slice E D.length H) D.length ((D.map (sg ws)).flatMap gC) y/\Below B w y/\s<=y.heap.size
theorem Re:(prog.info? 38).map (λi=>(i.zero,i.size,i.bytes))=some (some (.agg #[Ji 0,Ji 0,Ji 0,Ji 0,Ji 0]),5,40):=Jk
theorem Gm (A:JA)(c n:Nat)(xs:List ar)(hi:Int)(w:JW)(hr:Rd w 2 A n (xs.flatMap ay))(J:xs.length=n)(U:n<=100000)(M:∀x∈xs,0<=x.T/\x.T<hi):
 JC 61 #[.slice A n c,.agg #[Ji 0,Ji hi]] w λe w'=>∃(y:JA)(D:Nat),e= .returned (.slice y n D)/\bP (λk=>k<w.heap.size) 113 2 (.slice y n D) n (xs.flatMap ay) w'/\Below w.heap.size w w':=by
 have Q:xs.filter (SF 0 hi)=xs:=List.filter_eq_self.2 λx E=>by have:=M x E;simp[SF];omega
 refine(MY 0 hi A c n xs w hr J U).mono ?_;rintro e w' ⟨y,k,D,rfl,H,E,O⟩;rw[Q] at H E;have K:k=n:=H.trans J;subst K;exact⟨y,D,rfl,E,O⟩
theorem CC (A:JA)(n c:Nat)(f t s:Int)(w:JW):JC 64 #[.slice A n c,.agg #[Ji f,Ji t],Ji s] w λe w'=>
 e= .returned (.func (.func 137) #[] #[Jv w.heap.size,.pointer (some (Jp (w.heap.size+1) 0)),.pointer (some (Jp (w.heap.size+2) 0))])/\Below w.heap.size w w'/\w'.heap.size=w.heap.size+3/\
  w'.cell? (Jp w.heap.size 0)=some (.slice A n c)/\w'.cell? (Jp (w.heap.size+1) 0)=some (Ji f)/\w'.cell? (Jp (w.heap.size+2) 0)=some (Ji s):=by
 refine(Fg A n c f t s w).mono ?_;rintro e w' ⟨rfl,rfl⟩;have E:=heap_alloc_new w (.cells #[.slice A n c] 66);have y:=heap_alloc_new (w.alloc (.cells #[.slice A n c] 66)) (.cells #[Ji f,Ji t] 30);have D:=heap_alloc_new ((w.alloc (.cells #[.slice A n c] 66)).alloc (.cells #[Ji f,Ji t] 30)) (.cells #[Ji s] 3);simp only[aI,aV,bM] at y D;refine⟨rfl,((Below.one _ _).alloc Js _).alloc (by simp;omega) _,Js,?_,?_,?_⟩
 ·rw[aa ((aJ _ _ _ (by simp;omega)).trans ((aJ _ _ _ Js).trans E))];rfl
 ·rw[aa ((aJ _ _ _ Js).trans y)];rfl
 rw[aa D];rfl
theorem bP.caps {R:Nat->Prop}{n size c:Nat}{e:TypeId}{w:JW}{A:JA}{xs:List Value}(h:bP R e size (.slice A n c) n xs w):n<=c/\c<=maxLen:=by
 rcases h.1.2 with⟨y,O⟩|⟨M,J,K,D,Q,T,H,E,U,V⟩
 ·simp only[Value.slice.injEq] at y;obtain⟨_,rfl,rfl⟩:=y;exact⟨ac _,bj _⟩
 simp only[Value.slice.injEq] at D;obtain⟨_,_,rfl⟩:=D;exact⟨H,E⟩
theorem bP.grown {R:Nat->Prop}{n size:Nat}{e:TypeId}{w w':JW}{v:Value}{xs:List Value}{row:Option Nat}(h:bP R e size v n xs w)(K:w.grownBy w' row)(M:∀r,row=some r->∃o:Obj,w.heap[r]?=some o/\o.isCells=false):bP R e size v n xs w':=by
 refine h.later λH y=>?_;rcases h.1.2 with⟨D,_⟩|⟨J,O,Q,D,_,E,_⟩
 ·rw[D] at y;simp[aG] at y
 rw[D] at y;obtain rfl:J=H:=by simpa [aG] using y
 exact(ji E K M).trans E.symm
theorem rR (step:Int):∀(xs:List ar),(gE step xs).length<=xs.length
 |[]=>by unfold gE;simp
 |x :: D=>by
  have E:=(eR (λy:ar=>decide (y.T / step=x.T / step)) (l:=D)).length_le;have:=rR step (D.dropWhile λy=>decide (y.T / step=x.T / step));unfold gE;simp only[ak];omega
termination_by xs=>xs.length
decreasing_by
 have:=(eR (λy:ar=>decide (y.T / step=x.T / step)) (l:=D)).length_le;simp only[ak];omega
theorem Below.O {a b c:JW}(h:Below a.heap.size a b)(k:Below b.heap.size b c):Below a.heap.size a c:=h.trans (k.mono h.size)
theorem CE (A:JA)(c n:Nat)(xs:List ar)(hi step:Int)(w:JW)(hr:Rd w 2 A n (xs.flatMap ay))(bA:xs.length=n)(bx:n<=1000)(aB:Up kS xs)(cb:∀x∈xs,0<=x.T/\x.T<hi)(cK:0<hi)(cL:hi<=1099511627776)(ck:1<=step)(cl:step<=1000):
 JC 22 #[.slice A n c,.agg #[Ji 0,Ji hi],Ji step] w λe w'=>∃Y k bl,e= .returned (.tuple #[.slice Y k bl,Ji 0])/\k=(gE step xs).length/\
  bP (λj=>j<w.heap.size) 38 5 (.slice Y k bl) k ((gE step xs).flatMap gC) w'/\Below w.heap.size w w':=by
 obtain⟨y,aw⟩:=Je w.heap.size;have bL:=Jh hr;have aQ:=Jh bA;have cx:=Jh aB;have be:=Jh cb;obtain⟨E,co,cj,br,aC⟩:∃E,w.alloc (.cells #[Ji 0,Ji hi] 30)=E/\E.heap.size=y+1/\Below w.heap.size w E/\E.heap[y]?=some (.cells #[Ji 0,Ji hi] 30 (0,0)):=
  ⟨_,rfl,by simp[aw],Below.one _ _,by rw[<-aw];exact heap_alloc_new _ _⟩
 have b3:E.cell? (Jp y 0)=some (Ji 0):=(aa aC 0).trans rfl;have ad:E.cell? (Jp y 1)=some (Ji hi):=(aa aC 1).trans rfl;have bJ:=Jh (λD(H:Below E.heap.size E D)=>MK A c n xs D (hr.below (br.then H)) bA aB Jo);have bN:=Jh co;have cA:=Jh aC;have aR:=Jh br;have bU:=Jh cj;have cS:=Jf (hi<=0);have cV:=Jf ((1099511627776:Int)<hi);have cW:=Jf (step<1);have cX:=Jf (step<=0);refine(callsIn_wide (n:=4)).1 (callsIn_of_wp_marks Tryz.func22 rfl trivial (wpIn_mono ?_ iQ.marks));simp only[Tryz.ntmps22,cJ,ak,aX,bM,dC,bY,bZ,cT,cz,bi,aY];refine wpIn_wide.2 ?_;go_wp2_with fail;try simp only[bN.o]
 have bh:=Jh (show ∀w',Below E.heap.size E w'->(Below E.heap.size E w'/\w'.cell? (Jp y 0)=some (Ji 0)/\w'.cell? (Jp y 1)=some (Ji hi)) from λw' H=>⟨H,al H b3,al H ad⟩);refine(bJ.o E (ag _ _)).mono ?_;rintro e am ⟨rfl,bt⟩;obtain⟨aU,cB,cC⟩:=bh.o am bt;obtain⟨V,aK⟩:=Je am.heap.size;have cg:=Below.one am (.cells #[Jn] 31);have bD:=cD am (.cells #[Jn] 31);rw[aK] at bD;have cn:(am.alloc (.cells #[Jn] 31)).heap.size=V+1:=by simp[aK]
 have cf:Below E.heap.size E (am.alloc (.cells #[Jn] 31)):=aU.trans (cg.mono aU.size);have cF:y+1<=V:=by rw[<-bU.o,<-aK];exact aU.size
 go_wp2_with fail;try rw[aK]
 generalize am.alloc (.cells #[Jn] 31)=ah at*;have aE:=Jh cf;have bX:=Jh bD;have aS:=Jh cn;have bj:=Jh (show ∀w',Below ah.heap.size ah w'->(Below ah.heap.size ah w'/\w'.cell? (Jp y 0)=some (Ji 0)/\w'.cell? (Jp y 1)=some (Ji hi)) from λw' H=>⟨H,(bh.o w' (aE.o.then H)).2⟩);have bK:=Jh (λD(H:(Below ah.heap.size ah D/\D.cell? (Jp y 0)=some (Ji 0)/\D.cell? (Jp y 1)=some (Ji hi)))=>Gm A c n xs hi D (bL.o.below (aR.o.then (aE.o.then H.1))) aQ.o Jo be.o);go_region_held (λw'=>Below ah.heap.size ah w'/\w'.cell? (Jp y 0)=some (Ji 0)/\w'.cell? (Jp y 1)=some (Ji hi))
  (first|exact bj.o _ (ag _ _).drew|assumption|exact bj.o _ (Below.O (And.left (by assumption)) (by assumption)))
  (first
   |(go_at_call 61;refine(bK.o _ (by assumption)).mono ?_;rintro e a8 ⟨aP,aF,rfl,az,cd⟩)
   |(go_at_call 64;refine(CC _ _ _ _ _ _ _).mono ?_;rintro e ba ⟨rfl,ce,cm,u0,u1,u2⟩))
 rename_i bq;have bu:n<=aF/\aF<=maxLen:=bP.caps az;have bo:∀K aO,aP=some (Jp K aO)->K<a8.heap.size/\K≠V:=by
  intro K aO e;have bn:=az.1.2;have af:=az.2;subst e;rcases bn with⟨W,_⟩|⟨bm,b4,b5,W,_,aH,_⟩
  ·simp at W
  simp only[Value.slice.injEq,Option.some.injEq,Addr.mk.injEq] at W;obtain⟨⟨rfl,-⟩,-⟩:=W;refine⟨(Jl aH),λcE=>af K rfl ?_⟩;have:=aS.o;simp only[World.size_drew];omega
 have ci:=az.rd.below ce;have b7:V+1<=a8.heap.size:=by rw[<-aS.o];exact cd.size
 obtain⟨M,bB⟩:=Je a8.heap.size;rw[bB] at cm u0 u1 u2 bo b7;try rw[bB]
 have aC:=(bq.1.block V (by rw[aS.o];omega)).trans bX.o;have bO:=Jh (show Below y w ba from by rw[<-aw];exact aR.o.trans ((aE.o.trans (bq.1.mono aE.o.size)).mono aR.o.size));have bI:=Jh bo;have cq:=rR step xs;generalize cr:gE step xs=X at cq ⊢;have aT:=Jh cr;go_wp2_with fail;refine Mu (n:=4) Jd (gf:=137) (lb:=#[Jv M,.pointer (some (Jp (M+1) 0)),.pointer (some (Jp (M+2) 0))]) rfl (enters_of Tryz.func137 Jk rfl)
  (e1:=λan:Nat=>mQ (sg X an))
  (Ip 3 (λk=>k<M+3/\k≠V) aP M (M+1) (M+2) n aF xs step ba ⟨Jo,Jo⟩ ⟨Jo,Jo⟩ ⟨Jo,Jo⟩ Jo Jo Jo u0 u1 u2 ci (λk aI=>Jo) (λK aO e=>Jw (bI.o K aO e)) aQ.o bx bu.1 bu.2 ck cl
   (λx ct=>Jw (be.o x ct)) X aT.o.symm) (λH k=>H.trans k) ?kb
  (Wp y V (M+3) w X) ?own ?start (λx b1 D=>∃K,M+3<=K/\D.heap[K]?=some (.cells (yP (sg X x)) 38 (0,0))/\b1={tmps:=#[.slice A n c,.agg #[Ji 0,Ji hi],Ji step,undef,Jv y,undef,Jn,Ji 0,Jv V,Jv K,Jv y,Ji 0,.bool false,.bool false,Jv y,Ji 0,.pointer (some (Jp y 1)),Ji hi,.bool false,.bool false,.bool false,.pointer (some (Jp y 1)),Ji hi,.bool false,.bool false,.bool false,Ji step,.bool false,.bool false,.bool false,.slice A n c,.bool true,.bool false,.bool false,.slice A n c,.agg #[Ji 0,Ji hi],.slice aP n aF,.agg #[Ji 0,Ji hi],Ji step,.func (.func 137) #[] #[Jv M,.pointer (some (Jp (M+1) 0)),.pointer (some (Jp (M+2) 0))],mQ (sg X x),undef,undef,undef,undef,undef],defers:=[]}) ?ax ?assign ?body ?done
 case kb=>exact λD cO aN cQ bx _ _ _=>⟨by simp[ik],λk aI=>aZ Jo⟩
 case own=>
  rintro aD D b0 bE ⟨Y,ad,Q,U,Z,av⟩ J hr;have bC:∀aq,bE=some aq->∃aN:Obj,D.heap[aq]?=some aN/\aN.isCells=false:=λaq e=>(hr aq e).2;exact⟨Y,ad,ji Q J bC,U.grown J bC,ownFrom_below (β:=List Nat) (n₀:=y) (B:=ba.heap.size) (w₀:=w) Jo Jo aD _ _ _ Z J hr,ap av J.size⟩
 case start=>exact⟨none,0,aC,bP.nil _ _ _ _,bO.o,Jo⟩
 case ax=>
  rintro x b2 cu D b0 bE ⟨K,Q,U,Z⟩ J hr;exact⟨K,Q,ji U J (λaq e=>(hr aq e).2),Z⟩
 case assign=>
  intro bV aD x D cy b9 bp;obtain⟨Y,ad,Q,U,Z,av⟩:=b9;simp only[bg,bG,aM] at bp ⊢;gi_wp2;refine bp _ _ ⟨Js,λk aN _ H _=>(aJ _ _ _ (Jl H)).trans H⟩ ⟨Js,λk aI=>aJ _ _ _ Jo⟩
   ⟨Y,ad,(aJ _ _ _ Jo).trans Q,U.below (Below.one _ _),Z.trans ((Below.one D _).mono Jo),by simp;omega⟩ ⟨D.heap.size,av,heap_alloc_new _ _,rfl⟩
 case body=>
  rintro bV aD x b2 D az - ⟨Y,ad,Q,U,Z,av⟩ ⟨K,bt,cc,rfl⟩ cN;obtain⟨a7,p0⟩:=one_cell Q;have cI:=mV cc;obtain⟨an,bv⟩:=Je aD.length;have bQ:=Jh bv;rw[bv] at Q U a7;have bS:=Jh U;have bH:=Jh Q;have ai:=Jh Z;have cM:an<=1000:=Jw aQ.o;have bT:=Jh (show gm (λj=>j<M+3) D from λj aV=>Jo);gi_wp2_with (gi_at_builtin;go_must (refine fi rfl (.tmp 41) (.tmp 43) 31 Jr 38 (.agg #[Ji 0,Ji 0,Ji 0,Ji 0,Ji 0]) 5 40 underlying31 Re rfl Jd (λj=>j<M+3) an _ _ D (yP (sg X x)) rfl (by intro cu aB;simp[yP] at aB;rcases aB with rfl|rfl|rfl|rfl|rfl<;>rfl) bS.o Jr bT.o Jr Jm Jo ?_);intro cY cv aW a1 bw;have ac:=Jh a1;have bf:=Jh aW;have bR:=Jh bw;obtain⟨bb,bk,rfl⟩:=aW.form;have a6:=(a1.block V Jo).trans bH.o;obtain⟨cP,cR⟩:=one_cell a6;have bW:=Jh a6;clear aW a1 bw a6);have bz:(aD ++ [x]).length=an+1:=by rw[ab,bQ.o];rfl
  refine⟨((KeepsOthers.trans bR.o (cU _ _ _))).from _,⟨?_,λj aV=>?_⟩,bb,bk,?_,?_,?_,?_⟩
  ·exact ap ac.o.size (by simp[aj])
  ·exact(ae _ _ _ _ (by simp only;omega)).trans (ac.o.block j aV.1)
  ·rw[bz];simp[aj,aA,bW.o]
  ·rw[bz];have:=bf.o.later (w':=cv.setCell (Jp V 0) (.slice bb (an+1) bk)) (λau J=>ae _ _ _ _ (by have:=bf.o.2 au J;simp only;omega));simpa [cH,ao,gC,yP] using this
  ·refine Below.setCell (p:=(Jp V 0)) ?_ (by simp only;omega) _;exact⟨ac.o.os.trans ai.o.os,ac.o.tape.trans ai.o.tape,ac.o.output.trans ai.o.output,ap ai.o.size ac.o.size,λk aI=>(ac.o.block k Jo).trans (ai.o.block k aI)⟩
  have af:=ac.o.size;simp[aj];omega
 case done=>
  rintro bF cZ D cG rfl ⟨Y,ad,Q,U,Z,av⟩ b8;obtain⟨a7,p0⟩:=one_cell Q;rw[dG] at a7 U;have bc:=Jh U;have ai:=Jh Z;have bd:=Jh b8;go_wp2_with fail;have af:=bc.o.later (w':=D.putObj bF (.deferred none)) (λau J=>aZ (by
   intro b6;rcases bc.o.1.2 with⟨W,_⟩|⟨bm,b4,b5,W,_,aH,_⟩
   ·rw[W] at J;simp[aG] at J
   rw[W] at J;obtain rfl:bm=au:=by simpa [aG] using J
   subst b6;rw[bd.o] at aH;cases aH))
  refine⟨Js,.inl ⟨_,_,rfl,run_takeDeferred bd.o,?_⟩⟩;refine⟨_,results_tmp2 rfl _ _ _,Y,X.length,ad,rfl,by rw[aT.o],?_,?_⟩
  ·have W:(aL X.length).map (sg X)=X:=by
    refine List.ext_getElem Js λj bn af=>?_;simp only[eS,gS];exact Bj af
   rw[W] at af;rw[aT.o,aw];exact af.shift λau J aV=>af.2 au J Jo
  rw[aw];exact iP ai.o Jo
theorem range_one {P:Program}{n:Nat}{D:Type}{g:Operand}{E:Tmp}{Q T:Code}{O:Exit->Act->World->Prop}{a:Act}{w:JW}(K:Tmp)
 (h1:1<=n) {gf:Nat} {lb:Array Value} (ae:a.eval g= .func (.func gf) #[] lb) (V:∀args w,(callFunc gf args).run P w= .ok (.enter gf args) w)
 {e1:D->Value} {Kp:JW->World->Prop} {S U:List D->Prop} {N:Nat} (ah:SeqStopsK dI (n - 1) P gf lb (λx=>#[e1 x]) Kp S U N w)
 (aa:∀{A B C:JW},Kp A B->Kp B C->Kp A C) (Z:∀(y:JW)(l:Nat)(o ai:Obj),w.heap.size<=l->y.heap[l]?=some o->o.isCells=false->o.isWalk=false->Kp y (y.putObj l ai))
 (I:List D->World->Prop) (Y:OwnFrom w.heap.size I) (X:I [] w)
 (ab:∀(l:Nat)(x:D)(y:JW)(H:Act->World->Prop),H {tmps:=(a.tmps.setIfInBounds E (e1 x)).setIfInBounds K (e1 x),defers:=[]} y->
  Q.wpIn (CN l) (n - 1 - 1) P (gM H (λ_ _ _=>False)) {tmps:=a.tmps.setIfInBounds E (e1 x),defers:=[]} y)
 (ac:∀(l:Nat)(M:List D)(x:D)(y:JW),I M y->M.length<N->
  T.wpIn (CN l) (n - 1 - 1) P (ownPostK Kp I (λ_ _ _=>False) (M ++ [x]) y) {tmps:=(a.tmps.setIfInBounds E (e1 x)).setIfInBounds K (e1 x),defers:=[]} y)
 (ad:∀(J:Nat)(xs:List D)(y:JW),w.heap.size<=J->S xs->I xs y->y.heap[J]?=some (.deferred (some []))->O .normal {a with defers:={target:=.collected J,args:=#[]} :: a.defers} y):
 (Code.rangeFunc g #[E] Q T).wp P O a w:=
 wpIn_wide.1 (wpIn_rangeFunc_ownF (F:=dI) rfl h1 ae trivial V ah aa Z (ag _ _) (λ_=>rfl) I (λ_ _ _=>False) Y (λ_ _ _ _ _ W _ _=>W) X
  (λx=>{tmps:=(a.tmps.setIfInBounds E (e1 x)).setIfInBounds K (e1 x),defers:=[]}) (λl x y H af=>by have:=ab l x y H af;simpa using this) ac ad (λ_ _ _ _ _ _ W _=>W.elim))
theorem ku.more {R R':Nat->Prop}{p q:Nat}{l m:JU}{E:JW}(h:ku R p q l m E)(hr:∀k,k<E.heap.size->R' k->R k):ku R' p q l m E:=by
 have O:=h.lt;obtain⟨⟨ab,ac,Q,T,U,V,W,X,J,K⟩,Y,Z,aa⟩:=h;refine⟨⟨ab,ac,Q,T,U,V,W,X,J.shift λy D M=>?_,K.shift λy D M=>?_⟩,Y,λH=>Z (hr p O.1 H),λH=>aa (hr q O.2 H)⟩
 ·exact J.2 y D (M.imp (hr y (J.1.lt y D).2) id)
 exact K.2 y D (M.imp (hr y (K.1.lt y D).2) id)
theorem ku.aside {R:Nat->Prop}{p q M:Nat}{l m:JU}{J:JW}{o:Obj}(h:ku R p q l m J)(Y:J.heap[M]?=some o)(ho:o.isCells=false):ku (λk=>R k∨k=M) p q l m J:=by
 obtain⟨⟨ak,K,ac,ad,ae,af,W,X,O,Q⟩,ag,ah,ai⟩:=h;have U:∀{k:Nat}{D:Array Value}{T:TypeId}{E:Nat × Nat},J.heap[k]?=some (.cells D T E)->k≠M:=λH y=>by
  subst y;rw[H] at Y;obtain rfl:=Option.some.inj Y;cases ho
 have aa:∀{K:Value}{Z:Nat}{ab:List Value}{V:Nat->Prop},bP V 5 1 K Z ab J->∀k,K.ownBlock=some k->k≠M:=λ{K Z ab V} aj k H=>by
  rcases aj.1.2 with⟨y,_⟩|⟨D,T,al,y,_,E,_⟩
  ·rw[y] at H;simp[aG] at H
  rw[y] at H;obtain rfl:D=k:=by simpa [aG] using H
  exact U E
 refine⟨⟨ak,K,ac,ad,ae,af,W,X,O.shift λD E T=>?_,Q.shift λD E T=>?_⟩,ag,λy=>y.elim ah (U W),λy=>y.elim ai (U X)⟩
 ·rcases T with(h|h)|h
  ·exact O.2 D E (.inl h)
  ·exact aa O D E h
  exact O.2 D E (.inr h)
 rcases T with(h|h)|h
 ·exact Q.2 D E (.inl h)
 ·exact aa Q D E h
 exact Q.2 D E (.inr h)
def Ud (R:Nat->Prop)(q:Nat)(rows:List Row)(H:JW)(E:List Nat)(D:JW):Prop:=
 ku R q (q+1) (uint rows.length ++ jN rows (E.map λy=>min y (kv rows.length - 1))) (gX rows (E.map λy=>min y (kv rows.length - 1))) D/\cC R H D
theorem OK {R:Nat->Prop}{q:Nat}{rows:List Row}{J:JW}(U:gm R J):OwnFrom J.heap.size (Ud R q rows J):=by
 intro X Q T Y E H O;have low:∀y,y<J.heap.size->T.heap[y]?=Q.heap[y]?:=λy D=>H.block y (ai D E.2.size) λK=>Jw ((O y K.symm).1);refine⟨E.1.later λy M W V D _=>?_,⟨H.os.trans E.2.os,H.tape.trans E.2.tape,H.output.trans E.2.output,ap E.2.size H.size,λy D=>(low y (U y D)).trans (E.2.block y D)⟩⟩;refine H.block y (Jl D) λK=>?_;obtain⟨-,W,M,V⟩:=O y K.symm;rw[D] at M;obtain rfl:=Option.some.inj M;cases V
theorem Sl (A:JA)(c:Nat)(rows:List Row)(w:JW)(du:Rd w 3 A rows.length (rows.flatMap aR))(ek:∀x∈rows,Row.ok x)(eh:rows.length<=5000)(hc:rows.length<=c)(ea:c<=maxLen)(dp:iZ rows=true):
 JC 172 #[.slice A rows.length c] w λe w'=>e= .returned (.tuple #[.string (S (encR rows)),Ji 0])/\Jz w w':=by
 have cb:=Jh du;have bF:=Jh ek;have bo:=Jh dp;have eP:=Jh ea;have dP:=Jh (λaE b1=>tw dp (j:=aE) b1);obtain⟨M,U,d5⟩:∃M U,0<rows.length->A=some (Jp M U)/\M<w.heap.size:=by
  by_cases bv:0<rows.length
  ·obtain⟨M,U,bP,bQ,-⟩:=du.2 bv;exact⟨M,U,λ_=>⟨bP,bQ⟩⟩
  exact⟨0,0,λao=>absurd ao bv⟩
 have cN:=Jh d5;have f3:=Jf ((5000:Int)<(rows.length:Int));have fY:=Jf (5000<rows.length);clear du dp ek ea d5;refine(callsIn_wide (n:=4)).1 (callsIn_of_wp_marks Tryz.func172 rfl trivial (wpIn_mono ?_ iQ.marks));simp only[Tryz.ntmps172,cJ,ak,aX,bM,dC,bY,bZ,cT,cz,bi,aY];refine wpIn_wide.2 ?_;go_wp2_with fail;go_loopw [16] (λbh wr=>∃D:Nat,bh=Ji D/\D<=rows.length/\Jz w wr) (λbh _=>rows.length - (intOf bh).toNat)
 case atStart=>exact⟨0,rfl,Jo,ag _ _⟩
 obtain⟨D,rfl,ff,d8⟩:=hrel;have aF:=Jh d8;clear d8;by_cases dr:D<rows.length
 ·obtain⟨dk,fM⟩:=cN.o Jo;subst dk;have ee:D<rows.length:=dr;obtain⟨aK,bj,az,fd,bK,df,dh⟩:=jj (cb.o.below aF.o) ee;obtain⟨rfl,rfl⟩:M=aK/\U=bj:=by simpa using az
  obtain⟨x,dz⟩:=Je (rows[D]);rw[dz] at bK df dh;have ep:qa rows D=x:=by rw[fB ee,dz]
  have fO:(D:Int)<rows.length:=Jo;have b3:=aF.o.size;have a8:=Jh (aF.o.alloc b3 (.cells #[Ji x.T,Ji x.ID,Ji x.V] 130));have b2:=heap_alloc_new wr (.cells #[Ji x.T,Ji x.ID,Ji x.V] 130);have fe:wr.heap.size<(wr.alloc (.cells #[Ji x.T,Ji x.ID,Ji x.V] 130)).heap.size:=Js;obtain⟨X,ay,Y⟩:=x;simp only at bK df dh a8 b2 fe;go_wp2_with fail;generalize wr.alloc (.cells #[Ji X,Ji ay,Ji Y] 130)=dD at*;generalize wr.heap.size=Z at*;have cE:dD.cell? (Jp Z 0)=some (Ji X):=(aa b2 0).trans rfl;have cF:dD.cell? (Jp Z 1)=some (Ji ay):=(aa b2 1).trans rfl;have cG:dD.cell? (Jp Z 2)=some (Ji Y):=(aa b2 2).trans rfl;clear az bK df dh b2 fd;have cu:=dP.o D dr;unfold vV at cu;rw[ep,tQ] at cu;simp only at cu;obtain⟨⟨bP,bQ,e6,e7⟩,dj⟩:=cu;have fX:=Jf (X<0);have fZ:=Jf ((1099511627776:Int)<=X);have f0:=Jf (ay<0);have f1:=Jf ((200:Int)<=ay);clear bP bQ e6 e7;by_cases bv:D=0
  ·subst bv;have fn:decide ((0:Int)<((0:Nat):Int))=false:=Jd;have fo:decide (0<0)=false:=Jd;have f2:decide ((0:Int)<0)=false:=Jd;go_quiet (fail);go_wp2_with fail;go_roundw
   case rel=>exact⟨0+1,by go_num,Jo,below_drewN a8.o _⟩
   simp[intOf];omega
  have eg:0<D:=Jo;obtain⟨aK,bj,az,-,ey,ez,eA⟩:=jj (cb.o.below a8.o) (show D - 1<rows.length by omega);obtain⟨rfl,rfl⟩:M=aK/\U=bj:=by simpa using az
  obtain⟨bk,dB⟩:=Je (rows[D - 1]);rw[dB] at ey ez eA;have eq:qa rows (D - 1)=bk:=by rw[fB (show D - 1<rows.length by omega),dB]
  have fn:=Jt ((0:Int)<(D:Int));have fo:decide (0<D)=true:=decide_eq_true eg;have gi:(0:Int)<=(D:Int) - 1:=Jo;have gj:(D:Int) - 1<rows.length:=Jo;have gk:IntKind.i64.wrap ((D:Int) - 1)=(D:Int) - 1:=by rw[aB];omega
  have gl:((D:Int) - 1).toNat=D - 1:=Jo;have gn:(1:Int)<=D:=Jo;have cM:∀cL,JC 264 #[py ⟨X,ay,Y⟩,py bk] cL λe w'=>e= .returned (.bool (sq ⟨X,ay,Y⟩ bk))/\Jz cL w':=λcL=>wU _ _ cL;have bT:sq ⟨X,ay,Y⟩ bk=true:=by
   rw[eq] at dj;exact dj.resolve_left bv
  rw[bT] at cM;have eF:=Jh cM;clear cM dj bT bv dB eq ep dz az eg;refine wp_region_held_drew (S:=λw'=>w'.cell? (Jp Z 0)=some (Ji X)/\w'.cell? (Jp Z 1)=some (Ji ay)/\w'.cell? (Jp Z 2)=some (Ji Y)/\w'.cell? (Jp M (U+(D - 1)*3))=some (Ji bk.T)/\w'.cell? (Jp M (U+(D - 1)*3+1))=some (Ji bk.ID)/\w'.cell? (Jp M (U+(D - 1)*3+2))=some (Ji bk.V)) Jk ?_ (λQ=>?_)
  ·exact⟨cE,cF,cG,ey,ez,eA⟩
  refine JK 0 (h:=JK 1 (h:=JK 2 (h:=JK 3 (h:=JK 4 (h:=JK 5 (h:=JK 6 (h:=JK 7 (h:=JK 8 (h:=JK 9 (h:=JK 10 (h:=JK 11 (h:=JK 12 (h:=JK 13 (h:=JK 14 (h:=JK 15 (h:=JK 16 (h:=JK 17 (h:=JK 18 (h:=JK 19 (h:=JK 20 (h:=JK 21 (h:=JK 22 (h:=JK 23 (h:=JK 24 (h:=JK 25 (h:=JK 26 (h:=JK 27 (h:=?_))))))))))))))))))))))))))));refine JN 28 (h:=λaD ae=>?_);go_simp;refine(eF.o _).mono ?_;rintro e fx ⟨rfl,b5⟩;have ar:=Jh b5;clear b5;go_wp2_with fail;refine ae.out _ _ ?_ (λQ=>?_)
  ·exact⟨al ar.o Q.1,al ar.o Q.2.1,al ar.o Q.2.2.1,al ar.o Q.2.2.2.1,al ar.o Q.2.2.2.2.1,al ar.o Q.2.2.2.2.2⟩
  clear ae aD;try simp only[an,JY]
  refine JK 29 (h:=JK 30 (h:=JK 31 (h:=?_)));refine wpAnyH_done Jk ?_ _;go_wp2_with fail;go_roundw
  case rel=>exact⟨D+1,by go_num,Jo,a8.o.trans (ar.o.h.mono a8.o.size)⟩
  simp[intOf];omega
 obtain rfl:D=rows.length:=Jo;have b3:=aF.o.size;have dT:=Jh (CZ (R:=λy=>y<wr.heap.size) wr λy E=>E);have cQ:=Jh (aF.o.trans ((cZ wr (.cells #[.pointer none,Jn] 228) (.cells #[.pointer none,Jn] 228)).mono b3));have cO:=Jh (show cC (λy=>y<wr.heap.size) wr ((wr.alloc (.cells #[.pointer none,Jn] 228)).alloc (.cells #[.pointer none,Jn] 228)) from cC.of (cZ wr (.cells #[.pointer none,Jn] 228) (.cells #[.pointer none,Jn] 228)) λy E=>E);have d3:=Jh (λw=>eY rows.length w Jo);have fN:IntKind.u64.wrap (rows.length:Int)=rows.length:=by rw[bD];omega
 clear dr ff dP;go_wp2_with fail;generalize (wr.alloc (.cells #[.pointer none,Jn] 228)).alloc (.cells #[.pointer none,Jn] 228)=gq at*;refine(d3.o _).mono ?_;rintro e gr ⟨rfl,cr⟩;have bJ:=Jh (dT.o.below cr);have fA:=Jh (cQ.o.trans (cr.mono cQ.o.size));have es:=Jh (cO.o.trans (cC.of cr λy E=>ai E cO.o.size));have eC:(S (uint rows.length)).size<=10:=by rw[bH];exact bA Jo
 have dK:=Jh (bJ.o.write (S (uint rows.length)) (by simp;omega) λy E=>ai E es.o.size);clear cr dT cQ cO d3;go_wp2_with fail;refine dK.o.mono ?_;rintro e b6 ⟨⟨gp,rfl⟩,en,ec⟩;have ba:=Jh en;have d1:=Jh (es.o.trans ec.st);clear en ec dK bJ;go_wp2_with fail;refine(KM _ _ _ _).mono ?_;rintro e aC ⟨rfl,b4⟩;obtain⟨O,be⟩:=Je wr.heap.size;obtain⟨H,a1⟩:=Je b6.heap.size;have dm:Below b6.heap.size b6 aC:=by rw[b4];exact cZ _ _ _
 have fU:aC.heap.size=H+2:=by rw[b4,<-a1];simp
 have aA:aC.heap[H]?=some (.cells #[.slice A rows.length c] 106 (0,0)):=by
  rw[b4,<-a1];exact(aJ _ _ _ Js).trans (heap_alloc_new b6 _)
 have ad:aC.heap[H+1]?=some (.cells #[Ji 16] 3 (0,0)):=by
  have:=heap_alloc_new (b6.alloc (.cells #[.slice A rows.length c] 106)) (.cells #[Ji 16] 3);rw[aI,<-b4,a1] at this;exact this
 have fi:=ba.o.lt;rw[a1,be] at fi;have dU:=Jh ((ba.o.more (R':=λy=>y<O∨y=H∨y=H+1) λy E cy=>by rw[a1] at E;rw[be];omega).below dm);have cP:=Jh (d1.o.trans (cC.of dm λy E=>by rw[a1];rw[be] at E;omega));have e3:aC.cell? (Jp H 0)=some (.slice A rows.length c):=(aa aA 0).trans rfl;have e4:aC.cell? (Jp (H+1) 0)=some (Ji 16):=(aa ad 0).trans rfl;have d6:gm (λy=>y<O∨y=H∨y=H+1) aC:=λy E=>Jo;have eD:=Jh (show 0<rows.length->A=some (Jp M U) from λao=>(cN.o ao).1);rw[be] at dU cP;have b7:=Jh d6;have b9:=Jh be;clear b4 dm aA ad d6 ba d1;simp only[a1];rw[be];clear a1 be;go_wp2_with fail;refine range_one 8 (n:=4) Jd (gf:=335) (lb:=#[Jv H,.pointer (some (Jp (H+1) 0))]) rfl (enters_of Tryz.func335 Jk rfl)
  (Di 3 (λy=>y<O∨y=H∨y=H+1) A H (H+1) M U rows.length c aC (.inr (.inl rfl)) (.inr (.inr rfl)) Jo Jo e3 eD.o e4 eh hc eP.o) (λao y=>ao.trans y) ?kb
  (Ud (λy=>y<O∨y=H∨y=H+1) O rows aC) (OK b7.o) ?start ?assign ?body ?done
 case kb=>exact λaH f4 gh ew eh _ _ _=>⟨by simp[ik],λy E=>aZ Jo⟩
 case start=>exact⟨by have:=dU.o;rw[bi,cW] at this;simpa [jN,gX] using this,cC.refl _ _⟩
 case assign=>
  intro eW x aH aD ae;simp only[bg,bG,aM] at ae ⊢;gi_wp2;exact ae
 case body=>
  intro eW bE x aH dl fg;simp only[bg,bG,aM];obtain⟨D,b0⟩:=Je (min x (kv rows.length - 1));rw[b0];have cv:D<kv rows.length:=Jo;obtain⟨aW,aN⟩:=dl;have fk:0<rows.length:=by unfold kv at cv;omega
  obtain⟨dk,e9⟩:=cN.o fk;subst dk;have em:∀aE∈bE.map (λD=>min D (kv rows.length - 1)),aE<kv rows.length:=λaE b1=>by
   obtain⟨fW,-,rfl⟩:=List.mem_map.1 b1;omega
  obtain⟨cm,co⟩:=rB bo.o bF.o _ em;rw[bU] at cm co;have fa:kv rows.length<=313:=by unfold kv;omega
  have dn:=rm bo.o bF.o D;have dq:=Eb bo.o bF.o cv;have bd:=qQ bo.o cv;have cx:=sr rows D;obtain⟨bm,cl⟩:=Je (uint rows.length ++ jN rows (bE.map λD=>min D (kv rows.length - 1)));obtain⟨aj,cn⟩:=Je (gX rows (bE.map λD=>min D (kv rows.length - 1)));have fI:bm.length<=20000:=by rw[<-cl,ab];rw[bH] at eC;omega
  have fK:aj.length<=200000:=by rw[<-cn];omega
  rw[cl,cn] at aW;have cV:=Jh (show ∀ce,ku (λy=>y<O∨y=H∨y=H+1) O (O+1) (bm ++ kY (bI rows D)) (aj ++ gZ (bI rows D)) ce->cC (λy=>y<O∨y=H∨y=H+1) aC ce->Ud (λy=>y<O∨y=H∨y=H+1) O rows aC (bE ++ [x]) ce from λce bP bQ=>by
   refine⟨?_,bQ⟩;rw[cH,bV,ii,b0];have e5:uint rows.length ++ jN rows (bE.map (λD=>min D (kv rows.length - 1)) ++ [D])=bm ++ kY (bI rows D):=by rw[<-cl];simp[jN]
   have dc:gX rows (bE.map (λD=>min D (kv rows.length - 1)) ++ [D])=aj ++ gZ (bI rows D):=by rw[<-cn];simp[gX]
   rw[e5,dc];exact bP)
  have cB:=λ(J:Nat)(ao:J<(bI rows D).length)=>qn (i:=D) bo.o ao;obtain⟨K,eo⟩:=Je (bI rows D);rw[eo] at dn dq bd cx cV cB;obtain⟨y,E⟩:=Je (mG rows.length D);have fP:1<=y/\y<=16/\D*16+y<=rows.length:=by unfold mG at E;unfold kv at cv;omega
  rw[E] at cx;unfold Oj;rw[E];obtain⟨ax,cD⟩:∃ax:Nat,firstT K=ax:=⟨(firstT K).toNat,Jo⟩;have dL:=Jh (show Rd aH 3 (some (Jp M U)) rows.length (rows.flatMap aR) from⟨cb.o.1,λcy=>by
   obtain⟨aK,ew,e,bS,fb⟩:=cb.o.2 cy;obtain⟨rfl,rfl⟩:M=aK/\U=ew:=by simpa using e
   have bW:M<O:=by have:=aF.o.size;have:=b9.o;omega
   refine⟨M,U,rfl,ai (b7.o M (.inl bW)) aN.size,λaE fv fl=>?_⟩;rw[af (a:=(Jp M (U+aE))) (aN.block M (.inl bW)),af (a:=(Jp M (U+aE))) (cP.o.block M bW)];exact(aF.o.cell (p:=(Jp M (U+aE))) e9).trans (fb aE fv fl)⟩)
  have bW:M<O:=by have:=aF.o.size;have:=b9.o;omega
  obtain⟨fF,db,-⟩:=cB 0 Jo;have ed:rows[D*16].T=ax:=by
   rw[<-cD];unfold firstT;rw[fB (show 0<K.length by omega),db];rfl
  obtain⟨aK,bj,az,-,bK,-,-⟩:=jj dL.o (show D*16<rows.length by omega);obtain⟨rfl,rfl⟩:M=aK/\U=bj:=by simpa using az
  rw[ed] at bK;have dR:=Jh (show gm (λy=>y<O∨y=H∨y=H+1) aH from λy E=>ai (b7.o y E) aN.size);have dI:=Jh aW;have eK:=Jh aN;have eV:=Jh (show ∀J,J<K.length->∃bu:D*16+J<rows.length,K[J]?=some rows[D*16+J]/\0<=lastOf (firstT K) (K.take J)/\lastOf (firstT K) (K.take J)<=rows[D*16+J].T/\rows[D*16+J].T<1099511627776/\0<=rows[D*16+J].ID/\rows[D*16+J].ID<200 from λJ dt=>by
   obtain⟨bu,e,cj,bt,bL,bN,bO,-⟩:=cB J dt;exact⟨bu,by rw[aT dt,e],cj,bt,bL,bN,bO⟩)
  have fj:(prog).follows .mixedOrders=true:=Jk;have fQ:(0:Int)<y:=Jo;have fR:0<y:=Jo;have eS:=Jh bd;have eR:=Jh (show lastOf (firstT K) (K.take 0)=ax from cD);have dO:=Jh cD;have eO:=Jh dn;have fC:=Jh dq;have dQ:=Jh cx;clear aW aN cB bd cD dn dq cx az db ed cm co em b0 fg cl cn eo E;gi_wp2;refine⟨trivial,nO dI.o.swap.len ?_⟩;rintro e d4 ⟨rfl,rfl⟩;gi_wp2;gi_loopw [11,73] (λfu bh am=>∃J:Nat,bh=Ji J/\J<=y/\fu=Ji (lastOf (firstT K) (K.take J))/\ku (λy=>y<O∨y=H∨y=H+1) O (O+1) bm (aj ++ fp (firstT K) (K.take J)) am/\(fp (firstT K) (K.take J)).length<=30*J/\Ev (λy=>y<O∨y=H∨y=H+1) aH am) (λ_ bh _=>y - (intOf bh).toNat)
  case atStart=>exact⟨0,rfl,Jo,by rw[eR.o],by simpa [fp] using dI.o,by simp[fp],Ev.refl _ _⟩
  rename World=>am
  obtain⟨J,rfl,dt,rfl,a7,ct,bw⟩:=hrel;by_cases fS:J<y;rotate_left
  ·obtain rfl:J=y:=Jo;have htk:K.take J=K:=aw (by rw[dQ.o];exact ac _);rw[htk] at a7 ct ⊢;obtain⟨cI,dy⟩:=Je (lastOf (firstT K) K);have bd:=eS.o;rw[dy] at bd ⊢;rw[dO.o] at bd;obtain⟨aS,ds⟩:∃aS:Nat,cI - ax=aS:=⟨(cI - ax).toNat,Jo⟩;have bT:gZ K=fp (firstT K) K:=rfl;have cS:Jq (kY K=uint ax ++ uint aS ++ uint (gZ K).length):=Jh (by unfold kY;rw[dy,dO.o,ds,dE,dE]);rw[<-bT] at a7 ct;have dS:=Jh cV.o;obtain⟨W,a6⟩:=Je (gZ K);have fL:W.length<=480:=by rw[<-a6];exact eO.o
   rw[a6] at a7 cS dS;have fq:IntKind.u64.wrap (ax:Int)=ax:=by rw[bD];omega
   have fr:IntKind.i64.wrap (cI - (ax:Int))=aS:=by rw[aB];omega
   have ft:IntKind.u64.wrap (aS:Int)=aS:=by rw[bD];omega
   have ga:wrap64 (cI - (ax:Int))=aS:=by rw[IntWalk.wrap64_in _ ⟨Jo,Jo⟩];exact ds
   have gb:((aj ++ W).length:Int) - aj.length=W.length:=by rw[ab];omega
   have gc:IntKind.u64.wrap (W.length:Int)=W.length:=by rw[bD];omega
   have bp:=Jh (λw=>eY ax w Jo);have bq:=Jh (λw=>eY aS w Jo);have br:=Jh (λw=>eY W.length w Jo);have eU:=Jh a7;have aG:=Jh bw;obtain⟨ap,aO⟩:=Je (uint ax);obtain⟨aq,aP⟩:=Je (uint aS);obtain⟨av,aQ⟩:=Je (uint W.length);have cf:(S ap).size<=10:=by rw[bH,<-aO];exact bA Jo
   have cg:(S aq).size<=10:=by rw[bH,<-aP];exact bA Jo
   have ci:(S av).size<=10:=by rw[bH,<-aQ];exact bA Jo
   have bc:S ap ++ S aq ++ S av=S (ap ++ aq ++ av):=by simp only[ef]
   have dx:(S ap ++ S aq ++ S av).size<=30:=by
    rw[bc,bH,ab,ab];rw[bH] at cf cg ci;omega
   have dH:¬9223372036854775807<(S ap).size+(S aq).size:=Jo;have eB:¬9223372036854775807<(S ap).size+(S aq).size+(S av).size:=Jo;rw[aO,aP,aQ] at cS;rw[aO] at bp;rw[aP] at bq;rw[aQ] at br;have b8:=Jh bc;have fJ:(aj ++ W).length=aj.length+W.length:=ab;have gd:IntKind.i64.wrap (((aj ++ W).length:Int) - aj.length)=W.length:=by rw[aB];omega
   have ge:IntKind.i64.wrap (((aj.length:Int)+W.length) - aj.length)=W.length:=by rw[aB];omega
   have gg:(aj.length:Int)+W.length - aj.length=W.length:=Jo;clear a7 bw ct htk bT a6 cV aO aP aQ bc ds dy bd;gi_wp2;refine⟨trivial,nO (bp.o _) ?_⟩;rintro e c1 ⟨rfl,bB⟩;have bJ:=Jh (eU.o.below bB);have aU:=Jh bB;clear bB;gi_wp2;refine⟨trivial,nO (bq.o _) ?_⟩;rintro e fD ⟨rfl,bC⟩;have ba:=Jh (bJ.o.below bC);have aV:=Jh (aU.o.then bC);clear bC;gi_wp2;refine⟨trivial,nO ba.o.swap.len ?_⟩;rintro e eZ ⟨rfl,rfl⟩;gi_wp2;refine⟨trivial,nO (br.o _) ?_⟩;rintro e eZ ⟨rfl,dA⟩;have dV:=Jh (ba.o.below dA);have cY:=Jh (aV.o.then dA);have bx:gm (λy=>y<O∨y=H∨y=H+1) am:=λy E=>ai (dR.o y E) aG.o.st.size;have dN:=Jh (aG.o.trans (Ev.below bx cY.o));clear dA bJ ba aU aV;gi_wp2;refine⟨trivial,nO (dV.o.write (S ap ++ S aq ++ S av) Jo (λy E=>ai (bx y E) cY.o.size)) ?_⟩;rintro e e0 ⟨⟨fw,rfl⟩,bz,bX⟩;have cX:=Jh (show ku (λy=>y<O∨y=H∨y=H+1) O (O+1) (bm ++ kY K) (aj ++ W) e0 by
    rw[cS.o];rw[b8.o,cW] at bz;exact bz)
   have bn:=Jh (dN.o.trans bX);clear bz bX dN dV cY;gi_wp2;exact⟨bn.o.kp,⟨bn.o.st.size,λy E=>bn.o.st.block y E⟩,dS.o _ cX.o (eK.o.trans bn.o.st)⟩
  have cA:J<K.length:=Jw dQ.o;obtain⟨bu,dd,cj,bt,bL,bN,bO⟩:=eV.o J cA;obtain⟨aK,bj,az,-,de,dg,di⟩:=jj dL.o bu;obtain⟨rfl,rfl⟩:M=aK/\U=bj:=by simpa using az
  have bf:=(bF.o _ (ah bu)).2.2;have bS:am.heap[M]?=aH.heap[M]?:=bw.st.block M (.inl bW);obtain⟨bb,bR⟩:=kG (t:=firstT K) cA;rw[show K[J]=rows[D*16+J] by rw[aT cA] at dd;exact Option.some.inj dd] at bb bR;obtain⟨fz,ev⟩:=Je (rows[D*16+J]);obtain⟨cK,eu⟩:=Je (lastOf (firstT K) (K.take J));obtain⟨fE,d9⟩:=Je (fp (firstT K) (K.take J));rw[ev] at de dg di bt bL bN bO bf bb bR;rw[eu] at cj bt bb ⊢;rw[d9] at ct a7 bb;have c6:=(af (a:=(Jp M (U+(D*16+J)*3))) bS).trans de;have c8:=(af (a:=(Jp M (U+(D*16+J)*3+1))) bS).trans dg;have da:=(af (a:=(Jp M (U+(D*16+J)*3+2))) bS).trans di;rw[show U+(D*16+J)*3=U+D*16*3+J*3 by omega] at c6 c8 da;obtain⟨X,ay,Y⟩:=fz;simp only at c6 c8 da bt bL bN bO bf bb bR;obtain⟨ad,rfl⟩:∃ad:Nat,ay=ad:=⟨ay.toNat,Jo⟩;obtain⟨aA,ej⟩:∃aA:Nat,X - cK=aA:=⟨(X - cK).toNat,Jo⟩;have dv:vN cK ⟨X,ad,Y⟩=uint aA ++ uint ad ++ uint (fh Y):=by unfold vN;simp only[ej,dE]
  have fq:IntKind.i64.wrap (X - cK)=aA:=by rw[aB];omega
  have fr:IntKind.u64.wrap (aA:Int)=aA:=by rw[bD];omega
  have ft:IntKind.u64.wrap (ad:Int)=ad:=by rw[bD];omega
  have bp:=Jh (λw=>eY aA w Jo);have bq:=Jh (λw=>eY ad w Jo);have br:=Jh (λw=>wh Y w bf.1 bf.2);obtain⟨ap,aO⟩:=Je (uint aA);obtain⟨aq,aP⟩:=Je (uint ad);obtain⟨av,aQ⟩:=Je (uint (fh Y));have cf:(S ap).size<=10:=by rw[bH,<-aO];exact bA Jo
  have cg:(S aq).size<=10:=by rw[bH,<-aP];exact bA Jo
  have ci:(S av).size<=10:=by rw[bH,<-aQ];exact bA (jp bf.1 bf.2)
  have bc:S ap ++ S aq ++ S av=S (ap ++ aq ++ av):=by simp only[ef]
  have dx:(S ap ++ S aq ++ S av).size<=30:=by
   rw[bc,bH,ab,ab];rw[bH] at cf cg ci;omega
  have dH:¬9223372036854775807<(S ap).size+(S aq).size:=Jo;have eB:¬9223372036854775807<(S ap).size+(S aq).size+(S av).size:=Jo;rw[aO,aP,aQ] at dv;rw[aO] at bp;rw[aP] at bq;rw[aQ] at br;have fc:am.heap.size<(am.alloc (.cells #[Ji X,Ji ((ad:Nat):Int),Ji Y] 130)).heap.size:=Js;have bx:∀y,y<O∨y=H∨y=H+1->y<am.heap.size:=λy E=>ai (dR.o y E) bw.st.size;have dX:=Jh ((a7.more (R':=λy=>(y<O∨y=H∨y=H+1)∨y=am.heap.size) λy E cy=>cy.resolve_right Jo).below (Below.one am (.cells #[Ji X,Ji ((ad:Nat):Int),Ji Y] 130)));have cU:=Jh (show gm (λy=>(y<O∨y=H∨y=H+1)∨y=am.heap.size) (am.alloc (.cells #[Ji X,Ji ((ad:Nat):Int),Ji Y] 130)) from λy E=>by
   rcases E with ao|ao
   ·have:=bx y ao;omega
   omega)
  have dM:=Jh (bw.trans (Ev.below bx (Below.one am (.cells #[Ji X,Ji ((ad:Nat):Int),Ji Y] 130))));have cR:=Jh (heap_alloc_new am (.cells #[Ji X,Ji ((ad:Nat):Int),Ji Y] 130));have dJ:=Jh bb;have eM:=Jh bR;have dZ:=Jh dv;have b8:=Jh bc;have fT:(J:Int)<y:=Jo;clear bb bR dv bc a7 bw bS ev eu d9 dd az de dg di cj bt bL bN bO bf ej aO aP aQ cA bu fc bx;gi_wp2;generalize am.alloc (.cells #[Ji X,Ji ((ad:Nat):Int),Ji Y] 130)=dF at*;generalize am.heap.size=Z at*;have cE:dF.cell? (Jp Z 0)=some (Ji X):=(aa cR.o 0).trans rfl;have cF:dF.cell? (Jp Z 1)=some (Ji ((ad:Nat):Int)):=(aa cR.o 1).trans rfl;have cG:dF.cell? (Jp Z 2)=some (Ji Y):=(aa cR.o 2).trans rfl;clear c6 c8 da;refine OG (S:=λw'=>w'.cell? (Jp Z 0)=some (Ji X)/\w'.cell? (Jp Z 1)=some (Ji ((ad:Nat):Int))/\w'.cell? (Jp Z 2)=some (Ji Y)) fj (λ⟨_,_,ao⟩=>ao) (pt Jk) ?_ (λQ=>?_)
  ·exact⟨cE,cF,cG⟩
  refine JK 0 (h:=JK 1 (h:=JK 2 (h:=JK 3 (h:=JK 4 (h:=JK 6 (h:=JK 7 (h:=JK 8 (h:=JK 11 (h:=JK 12 (h:=?_))))))))));refine JN 5 (h:=λaD ae=>?_);go_simp;refine(bp.o _).mono ?_;rintro e fx ⟨rfl,b5⟩;have ar:=Jh b5;clear b5;go_wp2_with fail;refine ae.out _ _ ?_ (λQ=>?_)
  ·exact⟨al ar.o Q.1,al ar.o Q.2.1,al ar.o Q.2.2⟩
  clear ae aD;try simp only[an,JY]
  refine JN 9 (h:=λaD ae=>?_);go_simp;refine(bq.o _).mono ?_;rintro e gs ⟨rfl,bB⟩;have aU:=Jh bB;clear bB;go_wp2_with fail;refine ae.out _ _ ?_ (λQ=>?_)
  ·exact⟨al aU.o Q.1,al aU.o Q.2.1,al aU.o Q.2.2⟩
  clear ae aD;try simp only[an,JY]
  refine JK 10 (h:=?_);refine JN 13 (h:=λaD ae=>?_);go_simp;refine(br.o _).mono ?_;rintro e gt ⟨rfl,bC⟩;have aV:=Jh bC;clear bC;go_wp2_with fail;refine ae.out _ _ ?_ (λQ=>?_)
  ·exact⟨al aV.o Q.1,al aV.o Q.2.1,al aV.o Q.2.2⟩
  clear ae aD;try simp only[an,JY]
  refine JK 14 (h:=?_);refine JN 15 (h:=λaD ae=>?_);go_simp;have cc:=Jh ((ag _ _).drew.trans ((ar.o.then aU.o).then aV.o));have dY:=Jh (dX.o.below cc.o);refine(dY.o.swap.write (S ap ++ S aq ++ S av) (by have:=dx;simp only[ab];omega) (λy E=>ai (cU.o y E) cc.o.size)).mono ?_;rintro e fy ⟨⟨fw,rfl⟩,bz,bX⟩;have dW:=Jh bz.swap;have aG:=Jh bX;clear bz bX;go_wp2_with fail;refine ae.out _ _ ?_ (λQ=>?_)
  ·exact⟨(af (a:=(Jp Z 0)) (aG.o.st.block Z (.inr rfl))).trans Q.1,(af (a:=(Jp Z 1)) (aG.o.st.block Z (.inr rfl))).trans Q.2.1,(af (a:=(Jp Z 2)) (aG.o.st.block Z (.inr rfl))).trans Q.2.2⟩
  clear ae aD;try simp only[an,JY]
  refine wpAnyH_done Jk ?_ _;have db:=Q.1;have bn:=Jh ((dM.o.trans (Ev.below (λy E=>cU.o y (.inl E)) cc.o)).trans ⟨aG.o.st.mono λy E=>.inl E,aG.o.kp⟩);have cX:=Jh (show ku (λy=>y<O∨y=H∨y=H+1) O (O+1) bm (aj ++ fp (firstT K) (K.take (J+1))) fy by
   have:=dW.o.more (R':=λy=>y<O∨y=H∨y=H+1) λy _ E=>.inl E;rw[b8.o,cW,au,<-dZ.o,<-dJ.o] at this;exact this)
  have eN:=Jh (show(fp (firstT K) (K.take (J+1))).length<=30*(J+1) by
   rw[dJ.o,dZ.o,ab];have:=dx;rw[b8.o,bH] at this;omega)
  clear Q ar aU aV cc dY dW aG cE cF cG bp bq br dX cU dM dH eB cf cg ci;gi_wp2;refine⟨⟨J+1,by go_num,Jo,by rw[eM.o],cX.o,eN.o,bn.o⟩,?_⟩;simp[intOf];omega
 case done=>
  intro bl gu aH fG e8 dl ck;obtain rfl:=e8;obtain⟨aW,aN⟩:=dl;have ei:(aL (kv rows.length)).map (λD=>min D (kv rows.length - 1))=aL (kv rows.length):=by
   refine(gw λD b0=>?_).trans (List.map_id _);have:=List.mem_range.1 b0;simp only[id];omega
  rw[ei] at aW;obtain⟨cd,cq⟩:=Je (uint rows.length ++ jN rows (aL (kv rows.length)));obtain⟨W,a6⟩:=Je (gX rows (aL (kv rows.length)));have eb:S cd ++ S W=S (encR rows):=by simp only[ef];rw[<-cq,<-a6];rfl
  have fV:(S cd).size<=1000000/\(S W).size<=1000000:=by
   obtain⟨cm,co⟩:=rB bo.o bF.o (aL (kv rows.length)) λaE b1=>List.mem_range.1 b1;rw[dG] at cm co;have fa:kv rows.length<=313:=by unfold kv;omega
   have fm:=eC;rw[bH] at fm;rw[bH,bH,<-cq,<-a6,ab];omega
  rw[cq,a6] at aW;have eQ:=Jh eb;have eE:=Jh (aW.aside ck rfl);have fH:bl<aH.heap.size:=(Jl ck);have eJ:=Jh (show gm (λy=>(y<O∨y=H∨y=H+1)∨y=bl) aH from λy E=>by
   rcases E with ao|ao
   ·exact ai (b7.o y ao) aN.size
   omega)
  have eL:=Jh (cP.o.trans (aN.mono λy E=>.inl E));have eG:=Jh ck;have dH:¬9223372036854775807<(S cd).size+(S W).size:=Jo;clear aW aN ei cq a6 eb ck;go_wp2_with fail;refine(eE.o.str eJ.o).mono ?_;rintro e d4 ⟨rfl,er,eX,d7,el,et⟩;have d0:=Jh er;have a8:=Jh d7;have eT:=Jh el;have d2:=Jh et;clear er d7 el et;go_wp2_with fail;refine(iC eX (O+1) 228 [] W d4 a8.o eT.o).mono ?_;rintro e c1 ⟨rfl,dw⟩;have eI:=Jh (show c1.heap[bl]?=some (.deferred (some [])) from(dw.block bl (d2.o bl (.inr rfl))).trans ((d0.o.block bl (.inr rfl)).trans eG.o));have eH:=Jh (show Jz w c1 from aF.o.trans (((eL.o.trans (d0.o.mono λy E=>.inl (.inl E))).trans (dw.mono λy E=>d2.o y (.inl (.inl E)))).below λy E=>by have:=b3;have:=b9.o;omega));clear dw;go_wp2_with fail;refine⟨Js,.inl ⟨_,_,rfl,run_takeDeferred eI.o,?_⟩⟩;refine⟨_,results_tmp2 rfl _ _ _,?_,iP eH.o (Jx b3 b9.o)⟩;have dc:Ending.returned (.tuple #[.string (S cd ++ S W),Ji 0])= .returned (.tuple #[.string (S (encR rows)),Ji 0]):=by rw[eQ.o]
  exact dc
theorem Gc (F:Nat->Prop)(bs J nf B:Nat)(fs:List UInt8->Option (List UInt8))(w:World)(h:iN F bs J nf fs w)(hB:w.heap.size=B):Calls Tryz.prog 161 #[Jv bs] w λe w'=>
 e= .returned (.func (.func 251) #[] #[Jv B,.pointer (some (Jp (B+3) 0))])/\w'.cell? (Jp B 0)=some (Jv bs)/\w'.cell? (Jp (B+3) 0)=some (.map (some (B+1)))/\
  MapAt Tryz.prog 3 w' (B+1) 0 (λ_=>none)/\Below B w w'/\w'.heap.size=B+4:=by
 have ah:∀(D:Fn)(first y:Array Value)(w:World),(cO D first y).run Tryz.prog w= .ok (.func D first y) w:=λ_ _ _ _=>rfl;obtain⟨y,ae,Q,M,af⟩:∃y,w.alloc (.cells #[Jv bs] 79)=y/\y.heap.size=B+1/\Below B w y/\y.heap[B]?=some (.cells #[Jv bs] 79 (0,0)):=
  ⟨_,rfl,by simp[hB],by rw[<-hB];exact Below.one _ _,by rw[<-hB];exact heap_alloc_new _ _⟩
 have ab:y.cell? (Jp B 0)=some (Jv bs):=(aa af 0).trans rfl;have V:=Jh (Eh F bs J nf fs y (h.below (M.mono Jo)));have X:=Jh ae;have ag:=Jh Q;have Y:=Jh M;have U:=Jh hB;go_enter Tryz.func161,Tryz.ntmps161;go_wp2_with fail;try simp only[X.o]
 refine V.o.mono ?_;rintro e E ⟨rfl,K,D,ad⟩;rw[Q] at K ad ⊢;have D:Below (B+1) y E:=D.mono Jo;have ac:=gi D Jo ab;have T:E.heap.size=B+3:=Jo;have W:=Jh K;have Z:=Jh D;go_wp2_with fail;go_ret;have H:=Below.one E (.cells #[.map (some (B+1))] 312);have O:=heap_alloc_new E (.cells #[.map (some (B+1))] 312);rw[T] at O;refine⟨by simp[U.o],al H ac,(aa O 0).trans rfl,W.o.below H,Y.o.trans ((Z.o.mono Jo).trans (H.mono Jo)),by simp[T]⟩
def Uv (S i:Nat):Value:=Ji ((2+min i (S - 3):Nat):Int)
def Wc (q S:Nat)(w:World)(D:List Nat)(y:World):Prop:=
 ∃E H,y.heap[q]?=some (.cells #[.slice E D.length H] 23 (0,0))/\bP (λJ=>J<q+1) 3 1 (.slice E D.length H) D.length (D.map (Uv S)) y/\Below q w y/\q+1<=y.heap.size
theorem wR (p r bs Y Z S q:Nat)(w:World)(W:w.heap.size=q)(bc:p<q)(bd:r<q)(be:bs<q)(ba:Y<q)(bb:Z<q)
 (cp:w.cell? (Jp p 0)=some (Jv bs)) (aU:w.cell? (Jp r 0)=some (.map (some Z))) (cs:w.cell? (Jp bs 0)=some (Jv Y)) (aT:w.cell? (Jp Y 0)=some (Ji S))
 (aV:MapAt Tryz.prog 3 w Z 0 (λ_=>none)) (aW:S<=1000) (h2:3<=S):
 Calls Tryz.prog 249 #[Jn,.func (.func 251) #[] #[Jv p,Jv r]] w λe w'=>∃M c,e= .returned (.slice M (S - 2) c)/\
  bP (λj=>j<q) 3 1 (.slice M (S - 2) c) (S - 2) ((aL (S - 2)).map (Uv S)) w'/\Below q w w':=by
 obtain⟨J,a7,a1,aw,a8⟩:∃J,w.alloc (.cells #[Jn] 23)=J/\J.heap.size=q+1/\Below q w J/\J.heap[q]?=some (.cells #[Jn] 23 (0,0)):=
  ⟨_,rfl,by simp[W],by rw[<-W];exact Below.one _ _,by rw[<-W];exact heap_alloc_new _ _⟩
 have V:Below w.heap.size w J:=by rw[W];exact aw
 have a6:=Gd 3 (λH=>H<q) p r bs Y Z S J bc bd be ba bb Jo Jo Jo Jo (al V cp) (al V aU) (al V cs) (al V aT) (aV.below V) aW Jo;have aF:=Jh a6;have aH:=Jh a7;have X:=Jh a1;have aI:=Jh aw;have aQ:=Jh a8;refine(callsIn_wide (n:=4)).1 (callsIn_of_wp_marks Tryz.func249 rfl trivial (wpIn_mono ?_ iQ.marks));simp only[Tryz.ntmps249,cJ,ak,aX,bM,dC,bY,bZ,cT,cz,bi,aY];refine wpIn_wide.2 ?_;go_wp2_with fail;try simp only[aH.o]
 try rw[W]
 refine range_one 5 (n:=4) Jd (gf:=251) (lb:=#[Jv p,Jv r]) rfl (enters_of Tryz.func251 Jk rfl)
  (e1:=Uv S) aF.o (λy H=>y.trans H) ?kb (Wc q S w) ?own ?start ?assign ?body ?done
 case kb=>exact λE K D O y _ _ _=>⟨by simp[ik],λH ay=>aZ (by have:=X.o;omega)⟩
 case own=>
  rintro ad E ag ac ⟨M,aa,O,Q,U,af⟩ y K;have T:∀r,ac=some r->∃D:Obj,E.heap[r]?=some D/\D.isCells=false:=λr e=>(K r e).2;exact⟨M,aa,ji O y T,Q.grown y T,ownFrom_below (β:=List Nat) (n₀:=q) (B:=J.heap.size) (w₀:=w) (by have:=X.o;omega) Jo ad _ _ _ U y K,ap af y.size⟩
 case start=>exact⟨none,0,aQ.o,bP.nil _ _ _ _,aI.o,by have:=X.o;omega⟩
 case assign=>
  intro aR ao E K D;simp only[bg,bG,aM] at D ⊢;gi_wp2;exact D
 case body=>
  rintro aR ad ao E ⟨M,aa,O,Q,U,af⟩ bk;obtain⟨an,p0⟩:=one_cell O;obtain⟨ac,ax⟩:=Je ad.length;have aJ:=Jh ax;rw[ax] at O Q an;have aN:=Jh Q;have aE:=Jh O;have K:=Jh U;have bj:ac<=1000:=Jo;have aO:=Jh (show gm (λj=>j<q+1) E from λj ag=>by have bh:j<q+1:=ag;omega);simp only[bg,bG,aM];obtain⟨aq,aD⟩:∃aq:Int,Uv S ao=Ji aq:=⟨_,rfl⟩;rw[aD];have aP:=Jh aD;gi_wp2_with (gi_at_builtin;go_must (refine fi rfl (.tmp 8) (.tmp 10) 23 Jr 3 (Ji 0) 1 8 Tryz.underlying23 my rfl Jd (λj=>j<q+1) ac _ _ E #[Ji aq] rfl (by intro bn aC;simp at aC;subst aC;rfl) aN.o Jr aO.o Jr (by unfold maxLen;omega) Jo ?_);intro bo bf ah ai az;have D:=Jh ai;have au:=Jh ah;have aK:=Jh az;obtain⟨ar,av,rfl⟩:=ah.form;have am:=(ai.block q (by show q<q+1;omega)).trans aE.o;obtain⟨bl,bm⟩:=one_cell am;have aS:=Jh am;clear ah ai az am);have aB:(ad ++ [ao]).length=ac+1:=by rw[ab,aJ.o];rfl
  refine⟨(KeepsOthers.trans aK.o (cU _ _ _)),⟨?_,λj ag=>?_⟩,ar,av,?_,?_,?_,?_⟩
  ·exact ap D.o.size (by simp[aj])
  ·exact(ae _ _ _ _ (by simp only;omega)).trans (D.o.block j (by show j<q+1;omega))
  ·rw[aB];simp[aj,aA,aS.o]
  ·rw[aB];have:=au.o.later (w':=bf.setCell (Jp q 0) (.slice ar (ac+1) av)) (λT y=>ae _ _ _ _ (by have:=au.o.2 T y;simp only;omega));simpa [cH,aP.o] using this
  ·refine Below.setCell (p:=(Jp q 0)) ?_ (by simp only;omega) _;exact⟨D.o.os.trans K.o.os,D.o.tape.trans K.o.tape,D.o.output.trans K.o.output,ap K.o.size D.o.size,λH ay=>(D.o.block H (by show H<q+1;omega)).trans (K.o.block H ay)⟩
  have h2:=D.o.size;simp[aj];omega
 case done=>
  rintro ah av E au rfl ⟨M,aa,O,Q,U,af⟩ ao;obtain⟨an,p0⟩:=one_cell O;rw[dG] at an Q;have H:=Jh Q;have K:=Jh U;have ac:=Jh ao;go_wp2_with fail;have h2:=H.o.later (w':=E.putObj ah (.deferred none)) (λT y=>aZ (by
   intro ai;rcases H.o.1.2 with⟨D,_⟩|⟨am,aq,ar,D,_,ad,_⟩
   ·rw[D] at y;simp[aG] at y
   rw[D] at y;obtain rfl:am=T:=by simpa [aG] using y
   subst ai;rw[ac.o] at ad;cases ad))
  refine⟨Js,.inl ⟨_,_,rfl,run_takeDeferred ac.o,?_⟩⟩;refine⟨_,results_tmp rfl _ _ _,M,aa,rfl,?_,?_⟩
  ·exact h2.shift λT y ag=>h2.2 T y (by show T<q+1;omega)
  exact iP K.o (by have:=X.o;omega)
theorem Si (S:Nat):(aL (S - 2)).map (Uv S)=(gB 2 (S - 2)).flatMap iS:=by
 have E:∀y,y<=S - 2->(aL y).map (Uv S)=(gB 2 y).flatMap iS:=by
  intro y;induction y with
  |zero=>intro _;rfl
  |succ y D=>
   intro H;rw[dZ,cH,yO,ao,D Jo];unfold Uv iS;rw[List.map_singleton,show min y (S - 3)=y by omega];rfl
 exact E _ (ac _)
theorem vB (p r bs D E S q:Nat)(w:World)(V:w.heap.size=q)(Y:p<q)(Z:r<q)(aa:bs<q)(W:D<q)(X:E<q)
 (cp:w.cell? (Jp p 0)=some (Jv bs)) (Q:w.cell? (Jp r 0)=some (.map (some E))) (cs:w.cell? (Jp bs 0)=some (Jv D)) (O:w.cell? (Jp D 0)=some (Ji S))
 (T:MapAt Tryz.prog 3 w E 0 (λ_=>none)) (U:S<=1000) (h2:3<=S):
 Calls Tryz.prog 160 #[.func (.func 251) #[] #[Jv p,Jv r]] w λe w'=>∃y c,e= .returned (.slice y (S - 2) c)/\
  bP (λj=>j<q) 3 1 (.slice y (S - 2) c) (S - 2) ((gB 2 (S - 2)).flatMap iS) w'/\Below q w w':=by
 have M:=Jh (wR p r bs D E S q w V Y Z aa W X cp Q cs O T U h2);go_enter Tryz.func160,Tryz.ntmps160;go_wp2_with fail;refine M.o.mono ?_;rintro e w' ⟨y,c,rfl,H,h2⟩;rw[Si] at H;have J:=Jh H;have K:=Jh h2;go_wp2_with fail;go_ret;exact⟨y,c,rfl,J.o,K.o⟩
theorem KI {P:Program}(w:JW)(src dst e:TypeId)(s:ByteArray)(h:s.size<=maxLen)(H:P.underlying src=some .string)(D:P.underlying dst=some (.slice e))(E:P.underlying e=some (.int .u8)):
 ∃cap w1,(convert src dst (.string s)).run P w= .ok (.slice (some (Jp w.heap.size 0)) s.size cap) w1/\Below w.heap.size w w1/\w1.heap.size=w.heap.size+1/\s.size<=cap/\cap<=maxLen/\
  ∀j(y:j<s.size),w1.cell? (Jp w.heap.size j)=some (.int .u8 (s[j].toNat:Int)):=by
 refine⟨_,_,run_bytes_of_string w src dst e s H D E,?_,?_,grownCap_ge _ _ _ _,grownCap_le_maxLen _ _ _ _ h,λj y=>?_⟩
 ·exact(ag _ _).drew.alloc (ac _) _
 ·simp
 rw[cell_of_row (w.drew.alloc _) w.heap.size j _ e _ (heap_alloc_new w.drew _)];exact bytesRow_at s _ j y
def RR (l:JU)(i:Nat):JU:=(l.drop (64*i)).take 64
theorem RX (l:JU)(i:Nat):(RR l i).length=xb l.length i:=by unfold RR xb;simp
theorem RU (l:JU)(i j:Nat)(h:j<(RR l i).length)(h2:64*i+j<l.length):(RR l i)[j]=l[64*i+j]:=by simp[RR]
def Uq (l:JU)(i:Nat):Value:=.string (S (RR l (min i (ms l.length - 1))))
def Xf (q J:Nat)(l:JU)(w4:JW)(D:List Nat)(y:JW):Prop:=
 ∃E H,y.heap[q]?=some (.cells #[.slice E D.length H] 163 (0,0))/\bP (λK=>K<J) 9 1 (.slice E D.length H) D.length (D.map (Uq l)) y/\ow q w4 y/\J<=y.heap.size
theorem sw (l:JU)(w:JW)(bq:l.length<=5000):JC 163 #[.string (S l)] w λe w'=>∃Z c,e= .returned (.slice Z (ms l.length) c)/\
 bP (λj=>j<w.heap.size) 9 1 (.slice Z (ms l.length) c) (ms l.length) ((aL (ms l.length)).map (Uq l)) w'/\Below w.heap.size w w':=by
 obtain⟨y,ar⟩:=Je w.heap.size;obtain⟨an,T,ax,M,V⟩:∃an,w.alloc (.cells #[Jn] 163)=an/\an.heap.size=y+1/\Below y w an/\an.heap[y]?=some (.cells #[Jn] 163 (0,0)):=
  ⟨_,rfl,by simp[ar],by rw[<-ar];exact Below.one _ _,by rw[<-ar];exact heap_alloc_new _ _⟩
 obtain⟨H,aU⟩:=Je l.length;have D:(S l).size=H:=by rw[bH,aU]
 obtain⟨ag,au,aR,E,J,aQ,bo,O⟩:=KI (P:=prog) an 9 22 5 (S l) (by rw[D];unfold maxLen;omega) underlying9 underlying22 underlying5;rw[D,ax] at aR;rw[D] at aQ;rw[ax] at J;have Q:∀j(K:j<l.length),au.cell? (Jp (y+1) j)=some (.int .u8 (l[j].toNat:Int)):=λj K=>by
  have U:=O j (by rw[bH];exact K);rw[ax] at U;rw[U];simp[S,ByteArray.getElem_eq_getElem_data]
 have W:=(E.block y Jo).trans V;have bb:=Jh T;have Y:=Jh J;have a8:=Jh Q;have bk:=Jh W;have a6:=Jh (show Below y w au from M.trans (E.mono Jo));have aO:=Jh ar;have av:=Jh aU;have bt:=Jh ax;clear T M V E J O Q W D;refine(callsIn_wide (n:=4)).1 (callsIn_of_wp_marks Tryz.func163 rfl trivial (wpIn_mono ?_ iQ.marks));simp only[Tryz.ntmps163,cJ,ak,aX,bM,dC,bY,bZ,cT,cz,bi,aY];refine wpIn_wide.2 ?_;go_wp2_with fail;try simp only[bb.o]
 try rw[ar]
 rw[aR];simp only[iM];rw[Oper.upon_value];go_wp2_with fail;refine(FO _ _ _ _).mono ?_;rintro e W ⟨rfl,E⟩;rw[Y.o];have J:=heap_alloc_new au (.cells #[.slice (some (Jp (y+1) 0)) H ag] 22);have M:=heap_alloc_new (au.alloc (.cells #[.slice (some (Jp (y+1) 0)) H ag] 22)) (.cells #[Ji 64] 3);have D:=cZ au (.cells #[.slice (some (Jp (y+1) 0)) H ag] 22) (.cells #[Ji 64] 3);have Q:W.heap.size=y+4:=by rw[E];simp[Y.o]
 rw[<-E] at D;have u0:W.cell? (Jp (y+2) 0)=some (.slice (some (Jp (y+1) 0)) H ag):=by
  rw[E];rw[Y.o] at J;exact(aa ((aJ _ _ _ (by simp[Y.o])).trans J) 0).trans rfl
 have u1:W.cell? (Jp (y+3) 0)=some (Ji 64):=by
  rw[E];rw[aI,Y.o] at M;exact(aa M 0).trans rfl
 have T:=(D.block y (by rw[Y.o];omega)).trans bk.o;have O:∀j(K:j<l.length),W.cell? (Jp (y+1) j)=some (.int .u8 (l[j].toNat:Int)):=λj K=>al D (a8.o j K);have a1:=Jh (show Below y w W from a6.o.trans (D.mono (by rw[Y.o];omega)));have a7:=Jh O;have bj:=Jh T;have V:=Jh Q;clear E J M D Q T O;have D:=Bw 3 (λM=>M<y+4/\M≠y) (some (Jp (y+1) 0)) (y+2) (y+3) (y+1) 0 H ag W ⟨Jo,Jo⟩ ⟨Jo,Jo⟩ (Jw V.o) (Jw V.o) u0 (λ_=>rfl) u1 Jo aQ bo;have ba:=Jh D;clear D u0 u1;go_wp2_with fail;refine range_one 4 (n:=4) Jd (gf:=326) (lb:=#[.pointer (some (Jp (y+2) 0)),.pointer (some (Jp (y+3) 0))]) rfl (enters_of Tryz.func326 Jk rfl)
  (e1:=λD:Nat=>uk (y+1) 0 H (min D (ms H - 1))) ba.o (λE M=>E.trans M) ?kb (Xf y (y+4) l W) ?own ?start ?assign ?body ?done
 case kb=>exact λO l ad E bq _ _ _=>⟨by simp[ik],λM aq=>aZ (Jw V.o)⟩
 case own=>
  rintro aF O aB ao ⟨Z,aw,Q,T,J,ay⟩ E ah;have am:∀X,ao=some X->∃ad:Obj,O.heap[X]?=some ad/\ad.isCells=false:=λX e=>(ah X e).2;exact⟨Z,aw,ji Q E am,T.grown E am,⟨E.os.trans J.os,E.tape.trans J.tape,E.output.trans J.output,ap J.size E.size,λM aq az=>(E.block M (ai aq J.size) λe=>Jw ((ah M e.symm).1)).trans (J.block M aq az)⟩,ap ay E.size⟩
 case start=>exact⟨none,0,bj.o,bP.nil _ _ _ _,ow.refl _ _,Jw V.o⟩
 case assign=>
  intro bl ad O ah X;simp only[bg,bG,aM] at X ⊢;gi_wp2;exact X
 case body=>
  rintro bl aF ad O ⟨Z,aw,Q,T,J,ay⟩ bw;obtain⟨aE,p0⟩:=one_cell Q;obtain⟨D,am⟩:=Je aF.length;have bc:=Jh am;rw[am] at Q T aE;have bp:(convert 22 9 (uk (y+1) 0 H (min ad (ms H - 1)))).run prog O= .ok (Uq l ad) O:=by
   obtain⟨D,aC⟩:=Je (min ad (ms H - 1));have ah:=RX l D;rw[av.o] at ah;unfold uk Uq;rw[av.o,aC,<-ah];refine run_convert_bytes_back O _ _ 5 _ _ (RR l D) underlying22 underlying5 underlying9 λj K=>?_;rw[na];have X:j<(RR l D).length:=K;have aB:64*D+j<l.length:=by unfold RR at X;simp at X;omega
   have U:=a7.o (64*D+j) aB;have ao:O.cell? (Jp (y+1) (0+D*64+j))=W.cell? (Jp (y+1) (64*D+j)):=by
    rw[show 0+D*64+j=64*D+j by omega];exact af (a:=(Jp (y+1) (64*D+j))) (J.block (y+1) (Jw V.o) Jo)
   rw[ao,U,RU l D j X aB]
  have be:=Jh T;have aW:=Jh Q;have X:=Jh J;have bv:D<=1000:=by have bn:ms H=(H+63) / 64:=rfl;omega
  clear Q T J am;have bf:=Jh (show gm (λj=>j<y+4) O from λj K=>by have bn:j<y+4:=K;omega);simp only[bg,bG,aM];obtain⟨aH,U⟩:∃aH:ByteArray,Uq l ad= .string aH:=⟨_,rfl⟩;rw[U] at bp;have bh:=Jh U;clear U;generalize uk (y+1) 0 H (min ad (ms H - 1))=bu at*;gi_wp2_with (gi_at_builtin;go_must (refine fi rfl (.tmp 9) (.tmp 12) 163 Jr 9 (.string ⟨#[]⟩) 1 16 underlying163 Kk rfl Jd (λj=>j<y+4) D _ _ O #[.string aH] rfl (by intro bA aV;simp at aV;subst aV;rfl) be.o Jr bf.o Jr Jm Jo ?_);intro bB br aB aC aS;have U:=Jh aC;have aN:=Jh aB;have bd:=Jh aS;obtain⟨aK,aP,rfl⟩:=aB.form;have aD:=(aC.block y (by show y<y+4;omega)).trans aW.o;obtain⟨bx,bz⟩:=one_cell aD;have bm:=Jh aD;clear aB aC aS aD);have aT:(aF ++ [ad]).length=D+1:=by rw[ab,bc.o];rfl
  refine⟨(KeepsOthers.trans bd.o (cU _ _ _)),⟨?_,λj K=>?_⟩,aK,aP,?_,?_,?_,?_⟩
  ·exact ap U.o.size (by simp[aj])
  ·exact(ae _ _ _ _ (by have:=K.2;simp only;omega)).trans (U.o.block j K.1)
  ·rw[aT];simp[aj,aA,bm.o]
  ·rw[aT];have:=aN.o.later (w':=br.setCell (Jp y 0) (.slice aK (D+1) aP)) (λam E=>ae _ _ _ _ (by have:=aN.o.2 am E;simp only;omega));simpa [cH,bh.o] using this
  ·exact⟨U.o.os.trans X.o.os,U.o.tape.trans X.o.tape,U.o.output.trans X.o.output,ap X.o.size (ap U.o.size (by simp[aj])),λM aq az=>(ae _ _ _ _ (by simp only;omega)).trans ((U.o.block M (by have:=V.o;show M<y+4;omega)).trans (X.o.block M aq az))⟩
  have ao:=U.o.size;simp[aj];omega
 case done=>
  rintro ad aD O aC rfl ⟨Z,aw,Q,T,J,ay⟩ U;obtain⟨aE,p0⟩:=one_cell Q;rw[dG] at aE T;have D:=Jh T;have X:=Jh J;have M:=Jh U;clear Q T J U;go_wp2_with fail;have ao:=D.o.later (w':=O.putObj ad (.deferred none)) (λam E=>aZ (by
   intro aq;rcases D.o.1.2 with⟨ah,_⟩|⟨az,ag,aB,ah,_,U,_⟩
   ·rw[ah] at E;simp[aG] at E
   rw[ah] at E;obtain rfl:az=am:=by simpa [aG] using E
   subst aq;rw[M.o] at U;cases U))
  refine⟨Js,.inl ⟨_,_,rfl,run_takeDeferred M.o,?_⟩⟩;refine⟨_,results_tmp rfl _ _ _,Z,aw,by rw[av.o];rfl,?_,?_⟩
  ·rw[av.o,aO.o];exact ao.shift λam E K=>ao.2 am E (by show am<y+4;omega)
  rw[aO.o];exact iP (a1.o.trans (X.o.below (ac _) (Jw V.o))) (Jw V.o)
end
theorem UR:(prog.info? 175).map (λi=>(i.zero,i.size,i.bytes))=some (some (.agg #[.int .i64 0,.string ⟨#[]⟩]),2,24):=Jk
structure Vh (R:Nat->Prop) (b5 b6:Nat) (w w':JW):Prop where
 os:w'.os=w.os
 tape:w'.tape=w.tape
 output:w'.output=w.output
 size:w.heap.size<=w'.heap.size
 block:∀k,R k->k≠b5->k≠b6->w'.heap[k]?=w.heap[k]?
theorem aP {w:JW}{b:Nat}{cs:Array Value}{t:TypeId}(h:w.heap[b]?=some (.cells cs t (0,0)))(j:Nat):w.cell? ⟨b,j,none⟩=cs[j]?/\w.frozen? ⟨b,j,none⟩=false:=by
 refine⟨aa h j,?_⟩;simp[World.frozen?,h]
theorem Ch {w w':JW}{size n:Nat}{A:JA}{xs:List Value}(h:Rd w size A n xs)(Q:w.heap.size<=w'.heap.size)(K:∀a,A=some a->w'.heap[a.block]?=w.heap[a.block]?):Rd w' size A n xs:=
 ⟨h.1,λO=>by
  obtain⟨y,D,E,M,J⟩:=h.2 O;exact⟨y,D,E,ai M Q,λH U T=>(af (a:=⟨y,D+H,none⟩) (K ⟨y,D,none⟩ E)).trans (J H U T)⟩⟩
def lg (E D H:Value)(y all i:Nat):Array Value:=#[E,.map (some y),D,H,.int .i64 all,.int .i64 i,.bool true]
structure gH (R:Nat->Prop) (B1 b5 b6 bml i all:Nat) (dv sv pv:Value) (w:JW):Prop where
 ex:∃A c xs,w.heap[b5]?=some (.cells #[.slice A (510 - i) c] 23 (0,0))/\Rd w 1 A (510 - i) ((gB (2+i) (510 - i)).flatMap iS)/\510 - i<=c/\(∀a,A=some a->a.block<B1/\a.block≠b5/\a.block≠b6/\a.block≠bml)/\
  w.heap[b6]?=some (.cells (lg pv dv sv bml all i) 171 (0,0))/\bP R 175 2 pv i xs w
theorem bP.Ve {R:Nat->Prop}{e:TypeId}{size n:Nat}{v:Value}{xs:List Value}{w:JW}(h:bP R e size v n xs w){g:Nat}(y:v.ownBlock=some g):g<w.heap.size:=(h.1.lt g y).2
theorem gH.own {R:Nat->Prop}{H J K M i all:Nat}{O Q E:Value}{w:JW}(h:gH R H J K M i all O Q E w){g:Nat}(y:E.ownBlock=some g):¬R g/\g<w.heap.size:=by
 obtain⟨T,U,V,-,-,-,-,-,D⟩:=h.ex;exact⟨D.2 g y,D.Ve y⟩
theorem gH.move {R R':Nat->Prop}{K y D M i all:Nat}{T V Q:Value}{w w':JW}(h:gH R K y D M i all T V Q w)(ad:w.heap.size<=w'.heap.size)(Y:w'.heap[y]?=w.heap[y]?)(Z:w'.heap[D]?=w.heap[D]?)
 (hQ:∀k,k<K->k≠y->k≠D->k≠M->w'.heap[k]?=w.heap[k]?) (U:∀g,Q.ownBlock=some g->¬R' g/\w'.heap[g]?=w.heap[g]?):gH R' K y D M i all T V Q w':=by
 obtain⟨W,X,ag,ae,ac,aa,E,af,ab⟩:=h.ex;exact⟨W,X,ag,Y.trans ae,Ch ac ad λH J=>hQ _ (E H J).1 (E H J).2.1 (E H J).2.2.1 (E H J).2.2.2,aa,E,Z.trans af,(ab.later λg O=>(U g O).2).shift λg O=>(U g O).1⟩
theorem gH.cells {R:Nat->Prop}{K M y D i all:Nat}{E J H:Value}{w:JW}(h:gH R K M y D i all E J H w):w.heap[y]?=some (.cells (lg H E J D all i) 171 (0,0)):=by
 obtain⟨Q,T,U,-,-,-,-,O,-⟩:=h.ex;exact O
theorem gH.form {R:Nat->Prop}{D E H J i all:Nat}{K O y:Value}{w:JW}(h:gH R D E H J i all K O y w):∃A c,y= .slice A i c:=by
 obtain⟨A,c,Q,-,-,-,-,-,M⟩:=h.ex;exact M.form
theorem gH.store {R:Nat->Prop}{K D y E i all M:Nat}{Y ak J O U:Value}{w w':JW}(h:gH R K D y E i all Y ak J w)(ac:R y)(ag:D≠y)(ai:w.heap.size<=w'.heap.size)(H:∀k,k≠y->w'.heap[k]?=w.heap[k]?)
 (ab:w'.heap[y]?=some (.cells (lg J O U E M i) 171 (0,0))):gH R K D y E i M O U J w':=by
 obtain⟨V,X,al,aj,ah,ae,Q,am,T⟩:=h.ex;exact⟨V,X,al,(H _ ag).trans aj,Ch ah ai λW ad=>H _ (Q W ad).2.2.1,ae,Q,ab,T.later λaa af=>H _ λZ=>T.2 aa af (Z▸ac)⟩
theorem EX (R:Nat->Prop)(Y D y Z i all:Nat)(af ao an:Value)(t:ByteArray)(w:JW)(h:gH R Y D y Z i all af ao an w)(aZ:∀x,x<Y->R x)(ax:R D)(ag:R y)(aF:D≠y)(hi:i<=480)(ai:gm R w):
 JC 162 #[.string t,.pointer (some ⟨y,0,none⟩),.pointer (some ⟨D,0,none⟩)] w λe w'=>e= .returned (.int .i64 ((2+i:Nat):Int))/\∃pv',gH R Y D y Z (i+1) all af ao pv' w'/\Vh R D y w w'/\(pv'.ownBlock=an.ownBlock∨∃g,pv'.ownBlock=some g/\w.heap.size<=g):=by
 obtain⟨aJ,K,a8,O,ak,U,ah,T,M⟩:=h.ex;obtain⟨H,aE⟩:∃H,510 - i=H+1:=⟨509 - i,Jo⟩;rw[aE] at O ak U;obtain⟨Q,X,aY,ay,av,aw⟩:=Rd.head (C:=1) (cs:=iS ((2+i:Nat):Int)) (r:=(gB (2+i+1) H).flatMap iS) (n:=H) (by simpa [gB] using ak) rfl;obtain rfl:aJ=some ⟨Q,X,none⟩:=aY;have ac:=ah _ rfl;simp only at ac;have bm:w.cell? ⟨Q,X,none⟩=some (.int .i64 ((2+i:Nat):Int)):=av 0 _ rfl;obtain⟨J,az⟩:∃J:JA,(if K=1 then some ⟨Q,X,none⟩ else some ⟨Q,X+1,none⟩)=J:=⟨_,rfl⟩;have aU:=Jh (show Rd w 1 J H ((gB (2+i+1) H).flatMap iS) from lQ aw U (lN _ _) az);obtain⟨aV,bn⟩:=aP O 0;obtain⟨aW,bo⟩:=aP T 0;obtain⟨aX,bp⟩:=aP T 5;simp only[lg,aH,aD,aS] at aV aW aX;have aG:y≠D:=fV aF;have bf:Q≠D:=ac.2.1;have bg:Q≠y:=ac.2.2.1;have u1:(1:Int)<=(H:Int)+1:=Jo;have bi:(((H+1:Nat):Int) == 0)=false:=beq_eq_false_iff_ne.2 Jo;have bj:IntKind.i64.wrap ((i:Int)+1)=((i+1:Nat):Int):=by rw[aB];omega
 have bd:=Jh O;have be:=Jh T;have ba:=Jh M;have aq:=Jh ah;have bc:=Jh ai;have aN:=Jh U;have aO:=Jh aE;have al:∀E,E≠D->E≠y->((w.setCell ⟨y,5,none⟩ (.int .i64 ((i:Int)+1))).setCell ⟨D,0,none⟩ (.slice J H (K - 1))).heap[E]?=w.heap[E]?:=λE V aa=>
  (ae _ _ _ _ (by simpa using V)).trans (ae _ _ _ _ (by simpa using aa))
 have ap:((w.setCell ⟨y,5,none⟩ (.int .i64 ((i:Int)+1))).setCell ⟨D,0,none⟩ (.slice J H (K - 1))).heap[D]?=some (.cells #[.slice J H (K - 1)] 23 (0,0)):=by
  simp[aj,aA,aG];exact⟨_,O,rfl⟩
 have ar:((w.setCell ⟨y,5,none⟩ (.int .i64 ((i:Int)+1))).setCell ⟨D,0,none⟩ (.slice J H (K - 1))).heap[y]?=some (.cells (lg an af ao Z all (i+1)) 171 (0,0)):=by
  rw[ae _ _ _ _ (by simpa using aG)];simp[aj,aA,T,lg]
 have am:((w.setCell ⟨y,5,none⟩ (.int .i64 ((i:Int)+1))).setCell ⟨D,0,none⟩ (.slice J H (K - 1))).heap.size=w.heap.size:=by simp[aj]
 have aK:=Jh (M.later (w':=(w.setCell ⟨y,5,none⟩ (.int .i64 ((i:Int)+1))).setCell ⟨D,0,none⟩ (.slice J H (K - 1))) λg ab=>al g (λe=>M.2 g ab (e▸ax)) (λe=>M.2 g ab (e▸ag)));have aL:=Jh (show gm R ((w.setCell ⟨y,5,none⟩ (.int .i64 ((i:Int)+1))).setCell ⟨D,0,none⟩ (.slice J H (K - 1))) from λE W=>by rw[am];exact ai E W);have au:=Jh al;have aR:=Jh ap;have aT:=Jh ar;have ad:=Jh am;clear al ap ar am;clear h O ak U ah T M av aw ac ai ay;go_enter Tryz.func162,Tryz.ntmps162;go_wp2_with (at_builtin;go_must (refine bb rfl (.tmp 20) (.tmp 24) 169 Jr 175 (.agg #[.int .i64 0,.string ⟨#[]⟩]) 2 24 underlying169 UR rfl Jd R i _ _ _ #[.int .i64 (2+(i:Int)),.string t] rfl (by intro bk aI;simp at aI;rcases aI with rfl|rfl<;>rfl) (by exact aK.o) Jr (by exact aL.o) (by rw[ad.o];rfl) Jm Jo ?_;intro bl a7 ah ak a1 aC;have am:=(ak.block y ag).trans aT.o;obtain⟨a6,bh⟩:=aP am 0;simp only[lg,aH,aD] at a6;have aQ:=Jh am;have ar:=Jh ah;have U:=Jh ak;have aM:=Jh aC;obtain⟨ap,av,rfl⟩:=ah.form;clear ah ak a1 aC am));go_ret;have al:=U.o.size;rw[ad.o] at al
 have ac:∀E,R E->E≠y->(a7.setCell ⟨y,0,none⟩ (.slice ap (i+1) av)).heap[E]?=((w.setCell ⟨y,5,none⟩ (.int .i64 ((i:Int)+1))).setCell ⟨D,0,none⟩ (.slice J H (K - 1))).heap[E]?:=λE W V=>
  (ae _ _ _ _ (by simpa using V)).trans (U.o.block E W)
 have ay:∀M,J=some M->M.block<Y/\M.block≠D/\M.block≠y/\M.block≠Z:=by
  intro M T;rw[<-az] at T;split at T
  ·have O:=Option.some.inj T;subst O;exact aq.o _ rfl
  have O:=Option.some.inj T;subst O;exact aq.o ⟨Q,X,none⟩ rfl
 have aw:510 - (i+1)=H:=Jw aO.o;refine⟨Js,.slice ap (i+1) av,⟨J,K - 1,a8 ++ [.int .i64 (2+(i:Int)),.string t],?_,?_,?_,?_,?_,?_⟩,⟨?_,?_,?_,?_,λE W V aa=>(ac E W aa).trans (au.o E V aa)⟩,by rw[<-ad.o];exact aM.o⟩
 ·rw[aw];exact(ac D ax aF).trans aR.o
 ·rw[aw,show 2+(i+1)=2+i+1 by omega];refine Ch aU.o (by simpa [aj] using al) λM T=>?_;have O:=ay M T;exact(ac _ (aZ _ O.1) O.2.2.1).trans (au.o _ O.2.1 O.2.2.1)
 ·have:=aN.o;omega
 ·exact ay
 ·simp[aj,aA,aQ.o,lg]
 ·exact ar.o.later λg ab=>ae _ _ _ _ (by
   simp only;intro O;exact ar.o.2 g ab (O▸ag))
 ·exact U.o.os
 ·exact U.o.tape
 ·exact U.o.output
 simpa [aj] using al
def GP (k:Nat)(y D:Value):Value:=.agg #[Ji k,y,D,Jn,Ji 0]
def uW (r:Row):Prop:=0<=r.T/\r.T<=1099511627776/\0<=r.ID/\r.ID<=199
theorem IK (y D E H:Bool)(w:JW):(jD 401 (.agg #[.bool y,.bool D,.bool E,.bool H]) (Ji 0)).run prog w= .ok (.bool y) w:=Jk
theorem IL (D y E H:Bool)(w:JW):(jD 401 (.agg #[.bool D,.bool y,.bool E,.bool H]) (Ji 1)).run prog w= .ok (.bool y) w:=Jk
theorem IM (D E y H:Bool)(w:JW):(jD 401 (.agg #[.bool D,.bool E,.bool y,.bool H]) (Ji 2)).run prog w= .ok (.bool y) w:=Jk
theorem IP (D E H y:Bool)(w:JW):(jD 401 (.agg #[.bool D,.bool E,.bool H,.bool y]) (Ji 3)).run prog w= .ok (.bool y) w:=Jk
theorem FL (A Q:JA)(cl c n K:Nat)(rows:List Row)(w:JW)(hr:Rd w 3 A n (rows.flatMap aR))(ak:rows.length=n)(aN:n<=1000)(M:∀r∈rows,uW r)(aA:0<K)(h1:n=0):
 JC 191 #[.agg #[Ji 0,.slice Q K cl,.slice A n c,Jn,Ji 0]] w λe w'=>e= .returned (.bool true)/\Below w.heap.size w w':=by
 obtain⟨H,O⟩:=Je w.heap.size;obtain⟨D,T,J,E,y⟩:∃D,(w.alloc (.cells #[Ji 0,.slice Q K cl,.slice A n c,Jn,Ji 0] 108)).alloc (.cells #[.bool true,.bool false,.bool false,.bool false] 401)=D/\D.heap.size=H+2/\Below H w D/\
  D.heap[H]?=some (.cells #[Ji 0,.slice Q K cl,.slice A n c,Jn,Ji 0] 108 (0,0)):=
  ⟨_,rfl,by simp[O],by rw[<-O];exact cZ _ _ _,by rw[<-O];exact(aJ _ _ _ Js).trans (heap_alloc_new _ _)⟩
 have ay:decide ((0:Int)<(K:Int))=true:=by simp;omega
 have az:decide ((0:Int)<(n:Int))=false:=by simp;omega
 have aF:decide (0<K)=true:=by simp;omega
 have aH:decide (0<n)=false:=by simp;omega
 have aP:=IK;have aQ:=IL;have aS:=IM;have aT:=IP;have aE:decide ((K:Int) > 0)=true:=ay;have aG:decide ((n:Int) > 0)=false:=az;have aI:=Jt ((n:Int)<=5000);have am:D.cell? (Jp H 0)=some (Ji 0):=(aa y 0).trans rfl;have an:D.cell? (Jp H 2)=some (.slice A n c):=(aa y 2).trans rfl;have ao:D.cell? (Jp H 3)=some (Jn):=(aa y 3).trans rfl;have ap:D.cell? (Jp H 4)=some (Ji 0):=(aa y 4).trans rfl;have aw:=Jh hr;have ac:=Jh ak;have av:=Jh M;have ax:=Jh T;have ae:=Jh J;have ad:=Jh E;have aD:=Jh y;have ab:=Jh O;clear hr ak M T J E y aA h1;go_enter Tryz.func191,Tryz.ntmps191;go_wp2_with fail;try simp only[ax.o]
 refine wp_loop_rounds 5 ?_;rw[rounds_succ];go_wp2_with fail;rw[rounds_succ];go_wp2_with fail;rw[rounds_succ];go_wp2_with fail;rw[rounds_succ];go_wp2_with fail;rw[rounds_succ];go_wp2_with fail;go_loopw [42] (λE wr=>∃y:Nat,E=Ji (y:Int)/\y<=n/\Below D.heap.size D wr) (λE _=>n - (intOf E).toNat)
 case atStart=>exact⟨0,rfl,Jo,ag _ _⟩
 obtain⟨y,rfl,aM,E⟩:=hrel;by_cases aj:y<n
 ·have aO:(y:Int)<n:=Jo;have af:Below w.heap.size w wr:=by rw[ab.o];exact ad.o.trans (E.mono (Jw ae.o))
  obtain⟨aK,aU,rfl,aL,aq,ar,au⟩:=jj (aw.o.below af) (show y<rows.length by rw[ac.o];exact aj);have ai:y<rows.length:=by rw[ac.o];exact aj
  have M:=av.o rows[y] (ah ai);obtain⟨r,hr⟩:=Je (rows[y]);rw[hr] at aq ar au M;obtain⟨aC,aB,aV⟩:=r;simp only at aq ar au;obtain⟨W,X,Y,Z⟩:=M;simp only at W X Y Z;have T:=Jh (λJ=>jO aC 1099511627776 J W X);have U:=Jh (λJ=>jO aB 199 J Y Z);have V:=Jh E;clear E af hr W X Y Z ai;go_wp2_with fail;refine(T.o _).mono ?_;rintro e W ⟨rfl,rfl⟩;go_wp2_with fail;refine(U.o _).mono ?_;rintro e W ⟨rfl,rfl⟩;go_wp2_with fail;go_roundw
  case rel=>exact⟨y+1,by go_num,Jo,V.o.then (Below.one _ _)⟩
  simp[intOf];omega
 obtain rfl:y=n:=Jo;have X:=al E am;have Y:=al E an;have Z:=al E ao;have af:=al E ap;have T:=Jh (λJ=>jO 0 3 J Jd Jd);have U:=Jh (λJ=>jO 0 1099511627776 J Jd Jd);have V:=Jh E;clear E am an ao ap;go_wp2_with fail;refine wp_loop_rounds 1 ?_;rw[rounds_succ];go_wp2_with fail;refine(T.o _).mono ?_;rintro e W ⟨rfl,rfl⟩;go_wp2_with fail;refine(U.o _).mono ?_;rintro e W ⟨rfl,rfl⟩;go_wp2_with fail;go_ret;exact⟨rfl,by rw[ab.o];exact ad.o.trans (V.o.mono (Jw ae.o))⟩
theorem FN (A Q:JA)(cl c n K:Nat)(rows:List Row)(w:JW)(hr:Rd w 3 A n (rows.flatMap aR))(ak:rows.length=n)(aN:n<=1000)(M:∀r∈rows,uW r)(aA:K=0)(h1:0<n):
 JC 191 #[.agg #[Ji 1,.slice Q K cl,.slice A n c,Jn,Ji 0]] w λe w'=>e= .returned (.bool true)/\Below w.heap.size w w':=by
 obtain⟨H,O⟩:=Je w.heap.size;obtain⟨D,T,J,E,y⟩:∃D,(w.alloc (.cells #[Ji 1,.slice Q K cl,.slice A n c,Jn,Ji 0] 108)).alloc (.cells #[.bool false,.bool true,.bool false,.bool false] 401)=D/\D.heap.size=H+2/\Below H w D/\
  D.heap[H]?=some (.cells #[Ji 1,.slice Q K cl,.slice A n c,Jn,Ji 0] 108 (0,0)):=
  ⟨_,rfl,by simp[O],by rw[<-O];exact cZ _ _ _,by rw[<-O];exact(aJ _ _ _ Js).trans (heap_alloc_new _ _)⟩
 have ay:decide ((0:Int)<(K:Int))=false:=by simp;omega
 have az:decide ((0:Int)<(n:Int))=true:=by simp;omega
 have aF:decide (0<K)=false:=by simp;omega
 have aH:decide (0<n)=true:=by simp;omega
 have aP:=IK;have aQ:=IL;have aS:=IM;have aT:=IP;have aE:decide ((K:Int) > 0)=false:=ay;have aG:decide ((n:Int) > 0)=true:=az;have aI:=Jt ((n:Int)<=5000);have am:D.cell? (Jp H 0)=some (Ji 1):=(aa y 0).trans rfl;have an:D.cell? (Jp H 2)=some (.slice A n c):=(aa y 2).trans rfl;have ao:D.cell? (Jp H 3)=some (Jn):=(aa y 3).trans rfl;have ap:D.cell? (Jp H 4)=some (Ji 0):=(aa y 4).trans rfl;have aw:=Jh hr;have ac:=Jh ak;have av:=Jh M;have ax:=Jh T;have ae:=Jh J;have ad:=Jh E;have aD:=Jh y;have ab:=Jh O;clear hr ak M T J E y aA h1;go_enter Tryz.func191,Tryz.ntmps191;go_wp2_with fail;try simp only[ax.o]
 refine wp_loop_rounds 5 ?_;rw[rounds_succ];go_wp2_with fail;rw[rounds_succ];go_wp2_with fail;rw[rounds_succ];go_wp2_with fail;rw[rounds_succ];go_wp2_with fail;rw[rounds_succ];go_wp2_with fail;go_loopw [42] (λE wr=>∃y:Nat,E=Ji (y:Int)/\y<=n/\Below D.heap.size D wr) (λE _=>n - (intOf E).toNat)
 case atStart=>exact⟨0,rfl,Jo,ag _ _⟩
 obtain⟨y,rfl,aM,E⟩:=hrel;by_cases aj:y<n
 ·have aO:(y:Int)<n:=Jo;have af:Below w.heap.size w wr:=by rw[ab.o];exact ad.o.trans (E.mono (Jw ae.o))
  obtain⟨aK,aU,rfl,aL,aq,ar,au⟩:=jj (aw.o.below af) (show y<rows.length by rw[ac.o];exact aj);have ai:y<rows.length:=by rw[ac.o];exact aj
  have M:=av.o rows[y] (ah ai);obtain⟨r,hr⟩:=Je (rows[y]);rw[hr] at aq ar au M;obtain⟨aC,aB,aV⟩:=r;simp only at aq ar au;obtain⟨W,X,Y,Z⟩:=M;simp only at W X Y Z;have T:=Jh (λJ=>jO aC 1099511627776 J W X);have U:=Jh (λJ=>jO aB 199 J Y Z);have V:=Jh E;clear E af hr W X Y Z ai;go_wp2_with fail;refine(T.o _).mono ?_;rintro e W ⟨rfl,rfl⟩;go_wp2_with fail;refine(U.o _).mono ?_;rintro e W ⟨rfl,rfl⟩;go_wp2_with fail;go_roundw
  case rel=>exact⟨y+1,by go_num,Jo,V.o.then (Below.one _ _)⟩
  simp[intOf];omega
 obtain rfl:y=n:=Jo;have X:=al E am;have Y:=al E an;have Z:=al E ao;have af:=al E ap;have T:=Jh (λJ=>jO 1 3 J Jd Jd);have U:=Jh (λJ=>jO 0 1099511627776 J Jd Jd);have V:=Jh E;clear E am an ao ap;go_wp2_with fail;refine wp_loop_rounds 1 ?_;rw[rounds_succ];go_wp2_with fail;refine(T.o _).mono ?_;rintro e W ⟨rfl,rfl⟩;go_wp2_with fail;refine(U.o _).mono ?_;rintro e W ⟨rfl,rfl⟩;go_wp2_with fail;go_ret;exact⟨rfl,by rw[ab.o];exact ad.o.trans (V.o.mono (Jw ae.o))⟩
structure TN (b k:Nat) (lv rv:Value) (w:JW):Prop where
 row:w.heap[b]?=some (.cells #[Ji k,lv,rv,Jn,Ji 0] 108 (0,0))
theorem LC (b cl:Nat)(K:Value)(A:JA)(c:UInt8)(h1:97<=c.toNat)(h2:c.toNat<=122)(w:JW)(h:TN b 0 (.slice A 1 cl) K w)(hr:Rd w 2 A 1 (dR (kE c))):
 JC 280 #[Jv b] w λe w'=>e= .returned (.tuple #[.string (S (text (eT c))),Ji 0])/\Jz w w':=by
 have D:=Jh (AK c h1 h2 A cl w hr);have E:=Jh (λy=>by have h:=ri (S (eT c)) y (by rw[bH];simp[eT]);rwa [cW] at h);have M:w.cell? (Jp b 1)=some (.slice A 1 cl):=(aa h.row 1).trans rfl;clear h hr h1 h2;go_enter Tryz.func280,Tryz.ntmps280;go_wp2_with fail;refine D.o.mono ?_;rintro e O ⟨rfl,y⟩;have H:=Jh y;clear y;go_wp2_with fail;refine(E.o _).mono ?_;rintro e Q ⟨rfl,y⟩;have J:=Jh (H.o.then y);clear y;go_wp2_with fail;go_ret2;exact⟨rfl,J.o⟩
def Cn (r:Row):JU:=[r.T.toNat,r.ID.toNat].flatMap uint ++ uint (fh r.V)
def ip (rows:List Row):JU:=rows.flatMap Cn
theorem EL {r:Row}(h:uW r)(D:pJ r.V):(Cn r).length<=30:=by
 unfold Cn;obtain⟨J,K,M,O⟩:=h;rw[ab];have E:=DO [r.T.toNat,r.ID.toNat] (by intro Q y;simp at y;rcases y with rfl|rfl<;>omega);have H:=bA (jp D.1 D.2);simp only[ak,aX] at E;omega
theorem rN {rows:List Row}(h:∀r∈rows,uW r)(E:∀r∈rows,pJ r.V):(ip rows).length<=30*rows.length:=by
 unfold ip;induction rows with
 |nil=>simp
 |cons r rows H=>
  rw[aE,ab,ak];have J:=H (λD y=>h D (aC _ y)) (λD y=>E D (aC _ y));have y:=EL (h r (az ..)) (E r (az ..));omega
theorem GY {rows:List Row}{i:Nat}(h:i<rows.length):ip (rows.take (i+1))=ip (rows.take i) ++ Cn rows[i]:=by
 unfold ip;rw[aO h,ao];simp
theorem LD (b c n:Nat)(a6:Value)(A:JA)(rows:List Row)(w:JW)(h:TN b 1 a6 (.slice A n c) w)(hr:Rd w 3 A n (rows.flatMap aR))(aB:rows.length=n)(bd:n<=1000)(W:∀r∈rows,uW r)(aC:∀r∈rows,pJ r.V):
 JC 282 #[Jv b] w λe w'=>e= .returned (.tuple #[.string (S (uint n ++ ip rows)),Ji 0])/\Jz w w':=by
 have aY:prog.follows .mixedOrders=true:=Jk;obtain⟨aq,aW⟩:=Je w.heap.size;have Q:w.cell? (Jp b 2)=some (.slice A n c):=(aa h.row 2).trans rfl;obtain⟨ae,D,E,y⟩:∃ae,w.alloc (.cells #[Ji n] 3)=ae/\Jz w ae/\Rd ae 1 (some (Jp aq 0)) 1 ([n].map λad:Nat=>cY .i64 (ad:Int)):=
  ⟨_,rfl,Below.one _ _,by have:=jX w #[Ji n] 3;rw[aW] at this;exact this⟩
 have af:=Jh (nY (some (Jp aq 0)) 1 1 [n] ae y rfl Jo (by intro ad am;simp at am;omega));have aP:=Jh hr;have av:=Jh aB;have ar:=Jh W;have ax:=Jh aC;have aS:=Jh D;have a7:=Jh E;clear h hr aB W aC D y;go_enter Tryz.func282,Tryz.ntmps282;go_wp2_with fail;try simp only[aS.o]
 refine af.o.mono ?_;rintro e aK ⟨rfl,J⟩;have H:([n].flatMap uint)=uint n:=Js;have y:Jz w aK:=E.then J;have bi:=al y Q;have a8:=Jh y;rw[H];have aQ:=Jh (show ∃D:Nat,(Value.string (S (uint n))= .string (S (uint n ++ ip (rows.take D))))/\(cY .i64 (0:Nat))=Ji (D:Int)/\D<=n/\Jz w aK from⟨0,by simp[ip],rfl,Jo,y⟩);clear J y E Q H af;go_wp2_with fail;go_loopw [4,19] (λE y wr=>∃D:Nat,E= .string (S (uint n ++ ip (rows.take D)))/\y=Ji (D:Int)/\D<=n/\Jz w wr) (λ_ y _=>n - (intOf y).toNat)
 case atStart=>exact aQ.o
 obtain⟨D,rfl,rfl,bc,ac⟩:=hrel;by_cases aX:D<n;rotate_left
 ·obtain rfl:D=n:=Jo;have y:rows.take D=rows:=aw (by rw[av.o];omega);rw[y];have ao:=Jh ac;clear ac y;go_wp2_with fail;go_ret2;exact⟨rfl,ao.o⟩
 have be:(D:Int)<n:=Jo;have y:D<rows.length:=by rw[av.o];exact aX
 obtain⟨ba,bh,rfl,bb,aH,aI,aJ⟩:=jj (aP.o.below ac) y;have W:=ar.o rows[D] (ah y);have J:=ax.o rows[D] (ah y);have htk:=GY y;have aN:=rN (rows:=rows.take D) (λH E=>ar.o H (eG E)) (λH E=>ax.o H (eG E));have aZ:(rows.take D).length<=1000:=by rw[aF];omega
 have a1:(uint n).length<=10:=bA Jo;obtain⟨r,hr⟩:=Je (rows[D]);rw[hr] at aH aI aJ W J htk;have aV:=EL W J;obtain⟨aG,aE,K⟩:=r;simp only at aH aI aJ;obtain⟨U,X,Y,Z⟩:=W;simp only at U X Y Z;obtain⟨H,rfl⟩:∃H:Nat,aG=H:=⟨aG.toNat,Jo⟩;obtain⟨E,rfl⟩:∃E:Nat,aE=E:=⟨aE.toNat,Jo⟩;obtain⟨O,aD⟩:=Je wr.heap.size;obtain⟨M,az,ap,T,aA⟩:∃M,wr.alloc (.cells #[Ji H,Ji E,Ji K] 130)=M/\Jz wr M/\M.heap.size=O+1/\M.heap[O]?=some (.cells #[Ji H,Ji E,Ji K] 130 (0,0)):=
  ⟨_,rfl,Below.one _ _,by simp[aD],by rw[<-aD];exact heap_alloc_new _ _⟩
 have ay:Rd (M.alloc (.cells #[Ji H,Ji E] 3)).drew 1 (some (Jp (O+1) 0)) 2 ([H,E].map λad:Nat=>cY .i64 (ad:Int)):=by
  have ag:=heap_alloc_new M (.cells #[Ji H,Ji E] 3);rw[T] at ag;exact⟨rfl,λ_=>⟨_,_,rfl,by simp[T],λai ak aj=>by
   rw[show(M.alloc (.cells #[Ji H,Ji E] 3)).drew.cell? (Jp (O+1) (0+ai))=(M.alloc (.cells #[Ji H,Ji E] 3)).cell? (Jp (O+1) (0+ai)) from rfl,aa ag,bB];simpa using aj⟩⟩
 have af:=Jh (nY (some (Jp (O+1) 0)) 2 2 [H,E] _ ay rfl Jo (by intro ad am;simp at am;rcases am with rfl|rfl<;>omega));have aO:=Jh (λag=>wh K ag J.1 J.2);have aj:S ([H,E].flatMap uint) ++ S (uint (fh K))=S (Cn ⟨H,E,K⟩):=ef _ _;have ak:S (uint n ++ ip (rows.take D)) ++ S (Cn ⟨H,E,K⟩)=S (uint n ++ ip (rows.take (D+1))):=by rw[ef,htk,au]
 have bf:(9223372036854775807<(S ([H,E].flatMap uint)).size+(S (uint (fh K))).size)=False:=by
  have ag:(S ([H,E].flatMap uint)).size+(S (uint (fh K))).size=(Cn ⟨H,E,K⟩).length:=by rw[<-ByteArray.size_append,aj,bH]
  rw[ag];simp;omega
 have bg:(9223372036854775807<(S (uint n ++ ip (rows.take D))).size+(S (Cn ⟨H,E,K⟩)).size)=False:=by
  rw[bH,bH,ab];simp;omega
 have aT:=Jh az;have aU:=Jh ap;have ag:=Jh T;have ai:=Jh aA;have ao:=Jh ac;have aL:=Jh aj;have aM:=Jh ak;clear ac hr az ap T aA y U X Y Z J htk aN aZ a1 aV ay aj ak;generalize Cn ⟨H,E,K⟩=bl at*;generalize y:ip (rows.take (D+1))=bk at*;have aN:=Jh y;clear y;generalize ip (rows.take D)=bj at*;generalize [H,E].flatMap uint=a1 at*;generalize uint (fh K)=bm at*;go_wp2_with fail;try simp only[aT.o]
 refine cB (n:=12) (S:=λw'=>w'.heap[O]?=some (.cells #[Ji H,Ji E,Ji K] 130 (0,0))/\True) aY 12 rfl ⟨ai.o,trivial⟩ (λap=>?_)
 refine JH 0 (hy:=by(intro w J;obtain⟨y,U⟩:=J;have X:=(aa y 0).trans rfl;have Y:=(aa y 1).trans rfl;have Q:=(aa y 2).trans rfl;go_simp)<;>with_reducible rfl) (h:=JH 1 (hy:=by(intro w J;obtain⟨y,U⟩:=J;have X:=(aa y 0).trans rfl;have Y:=(aa y 1).trans rfl;have Q:=(aa y 2).trans rfl;go_simp)<;>with_reducible rfl) (h:=JH 2 (hy:=by(intro w J;obtain⟨y,U⟩:=J;have X:=(aa y 0).trans rfl;have Y:=(aa y 1).trans rfl;have Q:=(aa y 2).trans rfl;go_simp)<;>with_reducible rfl) (h:=JH 3 (hy:=by(intro w J;obtain⟨y,U⟩:=J;have X:=(aa y 0).trans rfl;have Y:=(aa y 1).trans rfl;have Q:=(aa y 2).trans rfl;go_simp)<;>with_reducible rfl) (h:=JH 4 (hy:=by(intro w J;obtain⟨y,U⟩:=J;have X:=(aa y 0).trans rfl;have Y:=(aa y 1).trans rfl;have Q:=(aa y 2).trans rfl;go_simp)<;>with_reducible rfl) (h:=JH 7 (hy:=by(intro w J;obtain⟨y,U⟩:=J;have X:=(aa y 0).trans rfl;have Y:=(aa y 1).trans rfl;have Q:=(aa y 2).trans rfl;go_simp)<;>with_reducible rfl) (h:=JH 8 (hy:=by(intro w J;obtain⟨y,U⟩:=J;have X:=(aa y 0).trans rfl;have Y:=(aa y 1).trans rfl;have Q:=(aa y 2).trans rfl;go_simp)<;>with_reducible rfl) (h:=?_)))))));refine JM 5 (h:=λZ T=>?_);go_simp;try simp only[ag.o]
 refine T.out _ _ ⟨((Below.one M _).block O (Jw ag.o)).trans ai.o,trivial⟩ (λap=>?_);clear T Z;try simp only[an,JY]
 refine JM 6 (h:=λZ T=>?_);go_simp;refine af.o.mono ?_;rintro aV aZ ⟨rfl,az⟩;have ay:=Jh (show Jz M aZ from(Below.one M (.cells #[Ji H,Ji E] 3)).drew.then az);clear az;refine T.out _ _ ⟨(ay.o.block O (Jw ag.o)).trans ai.o,trivial⟩ (λap=>?_);clear T Z;try simp only[an,JY]
 refine JM 9 (h:=λZ T=>?_);go_simp;refine(aO.o _).mono ?_;rintro aV bn ⟨rfl,aA⟩;have az:=Jh (ay.o.then aA);clear aA;refine T.out _ _ ⟨(az.o.block O (Jw ag.o)).trans ai.o,trivial⟩ (λap=>?_);clear T Z;have aj:=aL.o;have ak:=aM.o;try simp only[an,JY]
 refine JH 10 (h:=JH 11 (h:=?_));refine cy Jk ?_;go_wp2_with fail;try simp only[ak]
 go_roundw
 case rel=>exact⟨D+1,by rw[aN.o],by go_num,Jo,ao.o.then (aU.o.then az.o)⟩
 simp[intOf];omega
def wN (rows:List Row):Prop:=∀y(D:y+1<rows.length),(rows[y]'Jo).T<rows[y+1].T∨((rows[y]'Jo).T=rows[y+1].T/\(rows[y]'Jo).ID<rows[y+1].ID)
theorem za (A:JA)(c n:Nat)(rows:List Row)(w:JW)(hr:Rd w 3 A n (rows.flatMap aR))(aj:rows.length=n)(aX:n<=1000000)(ak:wN rows):
 JC 169 #[.slice A n c] w λe w'=>e= .returned (.bool true)/\Jz w w':=by
 have af:=Jh hr;have ax:=Jh aj;have aw:=Jh ak;clear hr aj ak;go_enter Tryz.func169,Tryz.ntmps169;go_wp2_with fail;go_loopw [8] (λD wr=>∃y:Nat,D=Ji (y:Int)/\y<=n/\Jz w wr) (λD _=>n - (intOf D).toNat)
 case atStart=>exact⟨0,rfl,Jo,ag _ _⟩
 obtain⟨y,rfl,aU,J⟩:=hrel;by_cases aC:y<n;rotate_left
 ·obtain rfl:y=n:=Jo;have M:=Jh J;clear J;go_wp2_with fail;go_ret;exact⟨rfl,M.o⟩
 have aY:(y:Int)<n:=Jo;have aA:y<rows.length:=by rw[ax.o];exact aC
 obtain⟨ay,aF,rfl,aS,ar,au,av⟩:=jj (af.o.below J) aA;obtain⟨H,am⟩:=Je (rows[y]);rw[am] at ar au av;obtain⟨U,an⟩:=Je wr.heap.size;obtain⟨K,X,O,W,ac⟩:∃K,wr.alloc (.cells #[Ji H.T,Ji H.ID,Ji H.V] 130)=K/\Jz wr K/\K.heap.size=U+1/\K.heap[U]?=some (.cells #[Ji H.T,Ji H.ID,Ji H.V] 130 (0,0)):=
  ⟨_,rfl,Below.one _ _,by simp[an],by rw[<-an];exact heap_alloc_new _ _⟩
 have Y:=Jh X;rcases dx y with rfl|aZ
 ·have M:=Jh (J.then O);simp only[gG,dz] at ar au av;clear X O ac J;go_wp2_with fail;try simp only[Y.o]
  try go_wp2_with fail
  go_roundw
  case rel=>exact⟨0+1,by go_num,Jo,M.o⟩
  simp[intOf];omega
 obtain⟨D,rfl⟩:∃D,y=D+1:=⟨y - 1,Jo⟩;have ab:=aw.o D Jo;rw[am] at ab;obtain⟨az,aG,ai,aT,ao,ap,aq⟩:=jj (af.o.below (J.then O)) (show D<rows.length by omega);obtain⟨rfl,rfl⟩:ay=az/\aF=aG:=by simpa using ai
 obtain⟨E,aD⟩:=Je (rows[D]'Jo);rw[aD] at ao ap aq ab;obtain⟨Q,al,Z,aE,ae⟩:∃Q,K.alloc (.cells #[Ji E.T,Ji E.ID,Ji E.V] 130)=Q/\Jz K Q/\Q.heap.size=U+2/\Q.heap[U+1]?=some (.cells #[Ji E.T,Ji E.ID,Ji E.V] 130 (0,0)):=
  ⟨_,rfl,Below.one _ _,by simp[W],by rw[<-W];exact heap_alloc_new _ _⟩
 have ad:=(Z.block U Jo).trans ac;have aL:=(aa ad 0).trans rfl;have aM:=(aa ad 1).trans rfl;have aN:=(aa ae 0).trans rfl;have aO:=(aa ae 1).trans rfl;have ah:=Jh al;obtain⟨aH,aI,aJ⟩:=Ja ao (Ja ap aq);rw[<-X] at aH aI aJ;have aK:=Jh W;have aV:IntKind.i64.wrap (((D+1:Nat):Int) - 1)=(D:Int):=by rw[aB];omega
 have aQ:decide (((D+1:Nat):Int) > 0)=true:=Js;have aW:(D:Int)<n:=Jo;have M:=Jh ((J.then O).then Z);have aP:decide (H.T<E.T)=false:=by simp;omega
 clear X O ac ad J al Z ae aE W ai;rcases ab with Z|⟨Z,ae⟩
 ·have ad:(H.T == E.T)=false:=by simp;omega
  go_wp2_with fail;try simp only[Y.o]
  try go_wp2_with fail
  try simp only[ah.o]
  try go_wp2_with fail
  go_roundw
  case rel=>exact⟨D+1+1,by go_num,Jo,M.o⟩
  simp[intOf];omega
 have ad:(H.T == E.T)=true:=by simp;omega
 have ai:decide (H.ID<=E.ID)=false:=by simp;omega
 clear Z ae;go_wp2_with fail;try simp only[Y.o]
 try go_wp2_with fail
 try simp only[ah.o]
 try go_wp2_with fail
 go_roundw
 case rel=>exact⟨D+1+1,by go_num,Jo,M.o⟩
 simp[intOf];omega
structure Held (N:Nat) (ts:List Int):Prop where
 n1:1<=N
 n4:N<=4
 up:pM ts
 len:ts.length<=12
 pos:∀t∈ts,0<=t/\t<=3500
theorem Ei:∀{l:List eP},Up kI l->∀y t,vK (l.flatMap rowsOf) y t=wi l y t
 |[],_,y,t=>rfl
 |E :: l,H,y,t=>by
  obtain⟨J,K⟩:=List.pairwise_cons.1 H;have M:vK ((E :: l).flatMap rowsOf) y t=(vK (rowsOf E) y t).or (vK (l.flatMap rowsOf) y t):=by
   unfold vK;rw[aE,FE];all_goals (cases kU kR (rowsOf E) (t,y)<;>rfl)
  rw[M,Gu,Ei K];unfold wi;rw[ew];by_cases D:E.ID=y
  ·rw[if_pos D,if_pos (by simp[kI,D]),oV (l:=l) λQ O=>by have:=J Q O;rwa [show kI E=(y,0) by simp[kI,D]] at this];simp
  rw[if_neg D,if_neg (by simp[kI,D])];rfl
theorem AC:∀{l:List eP},jP l->Once kR (l.flatMap rowsOf)
 |[],_=>cj
 |Q :: l,y=>by
  obtain⟨J,K⟩:=List.pairwise_cons.1 y.up;unfold Once;rw[aE,gh];refine⟨(uM (y.each Q (az ..)).1).once,AC ⟨K,λH O=>y.each H (aC _ O)⟩,λT M U D E=>?_⟩;obtain⟨H,-,rfl⟩:=List.mem_map.1 M;obtain⟨T,O,D⟩:=List.mem_flatMap.1 D;obtain⟨U,-,rfl⟩:=List.mem_map.1 D;have M:=J T O;simp only[kR,Prod.mk.injEq] at E;exact TR M (by simp[kI,E.2])
theorem Qk {l:List eP}(h:jP l):jV [] (l.flatMap rowsOf) l:=⟨h,λy D=>by rw[Ei h.up];simp[wi,kU]⟩
theorem yj {l:List eP}(h:jP l):jV l [] l:=⟨h,λy D=>by simp[vK,kU]⟩
theorem wg {N:Nat}{y:List Int}(D:y≠[]):full N y=(aL N).map (fo y):=by unfold full;rw[if_neg D]
theorem Qm {y:List Int}(h:pM y)(j:Nat):jV (full j y) (rowsOf (fo y j)) (full (j+1) y):=
 ⟨jq h,λD M=>by
  rw[qS h,qS h,Gu,CS h];unfold BP;by_cases J:M∈y
  ·by_cases H:(j:Int)=D
   ·rw[if_pos ⟨Jo,Jo,J⟩,if_pos (show(fo y j).ID=D from H),if_pos J,<-H];rfl
   rw[if_neg (show ¬(fo y j).ID=D from H),Option.none_or];by_cases K:0<=D/\D<(j:Int)
   ·rw[if_pos ⟨K.1,Jo,J⟩,if_pos ⟨K.1,K.2,J⟩]
   rw[if_neg (by intro E;exact K ⟨E.1,Jo⟩),if_neg (by intro E;exact K ⟨E.1,E.2.1⟩)]
  have H:∀K:Nat,¬(0<=D/\D<(K:Int)/\M∈y):=λK E=>J E.2.2;rw[if_neg (H _),if_neg J,if_neg (H _)];simp⟩
theorem LH (y:List Int):full 0 y=[]:=by unfold full;split<;>rfl
theorem AX {s:eP}:kn [s]=rowsOf s:=by
 unfold kn;rw[ia,List.foldl_nil];cases rowsOf s<;>simp[cG]
section
variable {N:Nat} {ts:List Int}
theorem Held.day (h:Held N ts)(d:Int):Held N (fa ts d):=⟨h.n1,h.n4,Ko h.up d,ap (QY ts d) h.len,λD y=>h.pos D (oQ.1 y).1⟩
theorem lL (y:List Int)(k:Nat):(fo y k).L.length=y.length:=by simp[fo]
theorem nE {k:Nat}{x:ar}(E:x∈(fo ts k).L):∃t∈ts,x=⟨t,mC t k⟩:=by
 obtain⟨t,D,y⟩:=List.mem_map.1 E;exact⟨t,D,y.symm⟩
theorem Held.ok (h:Held N ts){k:Nat}(H:k<N):∀x∈(fo ts k).L,ar.ok x:=λx D=>by
 obtain⟨E,y,rfl⟩:=nE D;obtain⟨p0,J⟩:=h.pos E y;have:=h.n4;unfold ar.ok In64 mC;simp only;omega
theorem TA {l:List ar}(h:Up kS l)(hr:∀x∈l,0<=x.T/\x.T<1099511627776):jZ l:=⟨hr,λy D=>by
 have:=List.pairwise_iff_getElem.1 h y (y+1) Jo D Jo;simp only[kS,kl] at this;omega⟩
theorem Held.fine (h:Held N ts)(k:Nat):jZ (fo ts k).L:=TA (wy h.up k) λH D=>by
 obtain⟨E,y,rfl⟩:=nE D;have:=h.pos E y;simp only;omega
theorem Ai (h:Held N ts)(y:ts≠[]):∀(m i:Nat)(last:Int),i+m=N->last<i->lx last ((iX i m).map (fo ts))
 |0,_,_,_,_=>trivial
 |m+1,i,last,H,E=>by
  rw[List.range'_succ,bV];have:=h.n4;refine⟨h.fine i,?_,E,?_,Ai h y m (i+1) _ Jo ?_⟩
  ·intro D;exact y (by simpa [fo] using D)
  ·show(i:Int)<200;omega
  show(i:Int)<((i+1:Nat):Int);omega
theorem Held.lx (h:Held N ts)(y:ts≠[]):lx (-1) (full N ts):=by
 rw[wg y,List.range_eq_range'];exact Ai h y N 0 (-1) Jo Jo
theorem Held.Wa (h:Held N ts):∀s∈full N ts,(∀E∈s.L,ar.ok E)/\s.L.length<=5000:=λs D=>by
 obtain⟨H,y,rfl⟩:=lZ D;refine⟨h.ok y,?_⟩;rw[lL];have:=h.len;omega
theorem Held.short (h:Held N ts):∀s∈full N ts,s.L.length<=12:=λs y=>by
 obtain⟨E,D,rfl⟩:=lZ y;rw[lL];exact h.len
theorem Held.few (h:Held N ts):(full N ts).length<=4:=by
 unfold full;have:=h.n4;split
 ·simp
 simpa using this
def oo (N:Nat)(y:List Int):JU:=encS (full N y)
theorem Held.sb (h:Held N ts)(y:ts≠[]):sb (full N ts)=(oo N ts,0):=sD (sG.2 (h.lx y))
theorem GA {l:List eP}:∀(_:∀s∈l,s.L.length<=12),JZ l<=2+294*l.length:=by
 unfold JZ;induction l with
 |nil=>simp
 |cons s l E=>
  intro y;have J:=y s (az ..);have K:=E λH D=>y H (aC _ D);rw[bV,gJ,ak];omega
theorem Held.wj (h:Held N ts)(H:ts≠[]):(oo N ts).length<=1200:=by
 have E:=DC (l:=full N ts) (λD y=>(h.Wa D y).1) (λD y=>ap (h.short D y) Jo) (ap h.few Jo);rw[h.sb H] at E;have y:=GA h.short;have D:=h.few;simp only at E;omega
theorem Held.table (h:Held N ts)(y:ts≠[]):iD (oo N ts)=some (partsOf (full N ts)):=Ii (h.lx y) (by have:=h.wj y;unfold oo at this;omega)
theorem Held.uq (h:Held N ts)(y:ts≠[]):uq (oo N ts)=(full N ts,0):=zL (h.table y) (ES _ _ (h.lx y) Jo h.Wa)
def mB (N:Nat)(y:List Int):JU:=encR (df N y)
theorem nB {r:Row}(h:r∈df N ts):∃t∈ts,∃k,k<N/\r=⟨t,k,mC t k⟩:=by
 obtain⟨t,D,h⟩:=List.mem_flatMap.1 h;obtain⟨k,y,rfl⟩:=List.mem_map.1 h;exact⟨t,D,k,List.mem_range.1 y,rfl⟩
theorem Held.UV (h:Held N ts):∀r∈df N ts,Row.ok r:=λr y=>by
 obtain⟨E,D,J,H,rfl⟩:=nB y;obtain⟨p0,K⟩:=h.pos E D;have:=h.n4;unfold Row.ok pJ mC;simp only;omega
theorem Held.rise (h:Held N ts):wN (df N ts):=λy D=>by
 have:=List.pairwise_iff_getElem.1 (tR (N:=N) h.up) y (y+1) Jo D Jo;simpa only[kR,kl] using this
theorem Held.cnt (h:Held N ts):(df N ts).length<=48:=by
 rw[AY];have y:=h.len;have D:=h.n4;exact ee y D
theorem Tm {r:Row}(h1:0<=r.T/\r.T<1099511627776)(h2:0<=r.ID/\r.ID<200):Qx r=true:=tQ.2 ⟨h1.1,h1.2,h2.1,h2.2⟩
theorem Held.iZ (h:Held N ts):iZ (df N ts)=true:=SB λD H=>by
 unfold vV;rw[fB H];obtain⟨Q,O,W,V,J⟩:=nB (ah H);have T:=h.pos Q O;have U:=h.n4;refine⟨?_,?_⟩
 ·rw[J];refine Tm ?_ ?_<;>simp only<;>omega
 rcases dx D with E|E
 ·exact .inl E
 right;rw[fB (show D - 1<_ by omega)];have y:=h.rise (D - 1) Jo;have K:D - 1+1=D:=Jo;simp only[K] at y;unfold sq;rcases y with y|⟨y,M⟩
 ·simp[y]
 simp[y,M]
theorem Held.Cp (h:Held N ts):(mB N ts).length<=1600:=by
 have E:=h.cnt;have y:=rB h.iZ h.UV (aL (kv (df N ts).length)) λH D=>List.mem_range.1 D;rw[dG] at y;have D:kv (df N ts).length<=3:=by unfold kv;omega
 have H:(uint (df N ts).length).length<=2:=rQ Jo;unfold mB encR;rw[ab,ab];omega
theorem Held.Xh (h:Held N ts):wV (mB N ts) 0 4000=some (df N ts):=by
 have H:=h.cnt;unfold mB;rw[Kz h.iZ h.UV Jo];refine congrArg some (List.filter_eq_self.2 λD y=>?_);obtain⟨E,D,K,J,rfl⟩:=nB y;have:=h.pos E D;unfold tB;simp only[bT,decide_eq_true_eq];omega
theorem UO {N:Nat}(t H:Int):((((aL N).map λ(k:Nat)=>(⟨t,(k:Int),mC t k⟩:Row)).filter λr=>decide (r.ID=H))).length<=1:=by
 have M:((aL N).map λ(k:Nat)=>(⟨t,(k:Int),mC t k⟩:Row)).Pairwise λy D=>y.ID≠D.ID:=by
  rw[cS];exact cQ (λ{y D} E=>by simp only[ne_eq];omega) (List.pairwise_lt_range (n:=N))
 have J:=ie (λr:Row=>decide (r.ID=H)) M;have E:∀r∈((aL N).map λ(k:Nat)=>(⟨t,(k:Int),mC t k⟩:Row)).filter (λr=>decide (r.ID=H)),r.ID=H:=λr K=>by simpa using (List.mem_filter.1 K).2
 generalize List.filter (λr:Row=>decide (r.ID=H)) _=K at J E ⊢
 match K,J,E with
 |[],_,_=>simp
 |[y],_,_=>simp
 |y :: D :: K,J,E=>exact absurd ((E y Js).trans (E D Js).symm) ((List.pairwise_cons.1 J).1 D Js)
theorem Held.each (h:Held N ts)(y:Int):(cF (df N ts) y).length<=12:=by
 have D:∀ts:List Int,(cF (df N ts) y).length<=ts.length:=by
  intro ts;induction ts with
  |nil=>exact bj _
  |cons t ts E=>
   rw[ak];unfold cF df at E ⊢;rw[aE,dV,cH,ab,bU];have:=UO (N:=N) t y;omega
 exact ap (D ts) h.len
theorem Er {L:List Int}(D:L.Nodup)(M:N<=4)(h:∀i∈L,0<=i/\i<N):L.length<=12:=by
 have:=rD (m:=(aL 4).map λH:Nat=>(H:Int)) D λy E=>by
  obtain⟨J,K⟩:=h y E;exact List.mem_map.2 ⟨y.toNat,List.mem_range.2 Jo,Jo⟩
 simp at this;omega
theorem Held.ids (h:Held N ts):∀L:List Int,L.Nodup->(∀i∈L,∃r∈df N ts,r.ID=i)->L.length<=12:=λL y E=>Er y h.n4 λi D=>by
 obtain⟨r,H,rfl⟩:=E i D;obtain⟨O,K,M,J,rfl⟩:=nB H;simp only;omega
theorem Mm {x:eP}(h:jZ x.L)(E:x.L≠[])(H:∀K∈x.L,ar.ok K)(J:x.L.length<=5000):kO (eI x.L)=some x.L:=by
 obtain⟨y,D⟩:=IY h H J;unfold kO;rw[y,D,if_pos ⟨rfl,E⟩]
theorem DJ:∀{l:List eP}{last:Int},lx last l->-1<=last->(∀x∈l,(∀D∈x.L,ar.ok D)/\x.L.length<=5000)->∀x∈l,nQ (partsOf l) x.ID=(some x.L,0)
 |[],_,_,_,_,x,y=>by cases y
 |D :: l,last,J,W,E,x,y=>by
  obtain⟨K,M,U,V,H⟩:=J;have O:partsOf (D :: l)=(D.ID.toNat,eI D.L) :: partsOf l:=rfl;rw[O];unfold nQ;rcases List.mem_cons.1 y with rfl|y
  ·rw[if_pos (by simp only;omega),Mm K M (E x (az ..)).1 (E x (az ..)).2]
  have:=(DW H x y).1;rw[if_neg (by simp only;omega)];exact DJ H Jo (λT Q=>E T (aC _ Q)) x y
theorem Held.find (h:Held N ts)(y:ts≠[]){k:Nat}(E:k<N):xD (oo N ts) (k:Int)=((fo ts k).L,0):=by
 have H:fo ts k∈full N ts:=by
  rw[wg y];exact List.mem_map.2 ⟨k,List.mem_range.2 E,rfl⟩
 have D:=DJ (h.lx y) Jo h.Wa _ H;unfold xD;rw[h.table y];simp only;rw[show(k:Int)=(fo ts k).ID from rfl,D];rfl
theorem WB (D:ts≠[]):(partsOf (full N ts)).flatMap pj=upto N/\(partsOf (full N ts)).length=N:=by
 unfold partsOf upto;rw[wg D];refine⟨?_,Js⟩;rw[ig];generalize aL N=y;induction y with
 |nil=>rfl
 |cons i y E=>
  rw[bV,aE,E];simp[pj,fo]
end
structure Fx (bx N:Nat) (w:JW):Prop where
 ex:∃O c,∃ss:List (JA × Nat),w.cell? (Jp bx 0)=some (.slice O N c)/\bx<w.heap.size/\ss.length=N/\Rd w 1 O N (ss.map λs=>aQ s.1 1 s.2)/\∀i(h:i<ss.length),Rd w 2 ss[i].1 1 (dR (kE (iB i)))
def oh (N:Nat):JU:=(aL N).flatMap λy=>text (eT (iB y))
theorem Ak (i:Nat):oh (i+1)=oh i ++ text (eT (iB i)):=by
 unfold oh;rw[dZ,ao];simp
theorem yh (c:UInt8):(text (eT c)).length<=20:=by simp[text,eT,uint]
theorem xQ (N:Nat):(oh N).length<=20*N:=by
 induction N with
 |zero=>simp[oh]
 |succ n y=>
  rw[Ak,ab];have:=yh (iB n);omega
theorem ze (J N:Nat)(w:JW)(h:Fx J N w)(aB:N<=8):JC 86 #[Jv J] w λe w'=>e= .returned (.string (S (uint N ++ oh N)))/\Jz w w':=by
 obtain⟨ax,ay,aq,O,ai,am,ao,aj⟩:=h.ex;have aC:IntKind.u64.wrap (N:Int)=N:=by rw[bD];omega
 have aa:=Jh (eY N w Jo);have X:=Jh ao;have V:=Jh aj;have E:=Jh am;have aw:=Jh O;have ac:=Jh ai;have af:S (uint N ++ oh 0)=S (uint N):=by simp[oh]
 go_enter Tryz.func86,Tryz.ntmps86;go_wp2_with fail;refine aa.o.mono ?_;rintro e ar ⟨rfl,Q⟩;have az:=(Q.cell (p:=(Jp J 0)) ac.o).trans O;have Y:=Jh (show ∃y:Nat,(Value.string (S (uint N))= .string (S (uint N ++ oh y)))/\(cY .i64 (0:Nat))=Ji (y:Int)/\y<=N/\Below w.heap.size w ar from⟨0,by rw[af],rfl,Jo,Q⟩);go_wp2_with fail;go_loopw [3,20] (λH D wr=>∃y:Nat,H= .string (S (uint N ++ oh y))/\D=Ji (y:Int)/\y<=N/\Jz w wr) (λ_ D _=>N - (intOf D).toNat)
 case atStart=>exact Y.o
 obtain⟨y,rfl,rfl,aE,D⟩:=hrel;by_cases ak:y<N;rotate_left
 ·obtain rfl:y=N:=Jo;have H:=Jh D;go_wp2_with fail;go_ret;exact⟨rfl,H.o⟩
 have aG:(y:Int)<N:=Jo;obtain⟨aA,aK,rfl,aD,M⟩:=(X.o.below D).TO (by simp[E.o]) ak;rw[eS] at M;have K:=V.o y (Jw E.o);obtain⟨⟨T,ap⟩,al⟩:∃H,aq[y]'(Jw E.o)=H:=⟨_,rfl⟩;rw[al] at M K;simp only at M K;have W:=Jh (AK (iB y) (by rw[iI Jo];omega) (by rw[iI Jo];omega) T ap wr (K.below D));have aH:=yh (iB y);have an:(S (eT (iB y))).size<1099511627776:=by rw[bH];simp[eT]
 have Z:=Jh (λH=>ri (S (eT (iB y))) H an);have aF:=xQ y;have aI:(uint N).length<=10:=bA Jo;have U:=Jh (show S (uint N ++ oh y) ++ S (text (eT (iB y)))=S (uint N ++ oh (y+1)) by rw[ef,Ak,au]);have aJ:(9223372036854775807<(S (uint N ++ oh y)).size+(S (text (eT (iB y)))).size)=False:=by
  rw[bH,bH,ab];simp;omega
 have H:=Jh D;go_wp2_with fail;refine W.o.mono ?_;rintro e av ⟨rfl,ag⟩;have ad:=Jh (H.o.then ag);go_wp2_with fail;refine(Z.o av).mono ?_;rintro e aL ⟨rfl,ah⟩;have ae:=Jh (ad.o.then ah);simp only[cW];go_wp2_with fail;go_roundw
 case rel=>exact⟨y+1,by rw[U.o],by go_num,Jo,ae.o⟩
 simp[intOf];omega
theorem xf (A:JA)(c n:Nat)(xs:List Ug)(w:JW)(hr:Rd w 2 A n (xs.flatMap dR))(O:xs.length=n)(ae:n<=1000000):
 JC 52 #[.slice A n c] w λe w'=>∃H M,e= .returned (.slice H n M)/\bP (λk=>k<w.heap.size) 115 2 (.slice H n M) n (xs.flatMap dR) w'/\Jz w w':=by
 have K:=Jh hr;have V:=Jh O;clear hr O;cases A with
 |none=>
  have D:n=0:=by
   rcases dx n with y|y
   ·exact y
   obtain⟨E,J,e,-⟩:=K.o.2 y;cases e
  subst D;have y:xs=[]:=bu V.o;subst y;have ad:∀w,(binOp .eql 51 (.slice none 0 c) (Jn)).run prog w= .ok (.bool true) w:=λw=>fO w _ _ none 0 c 0 0 underlying51;go_enter Tryz.func52,Tryz.ntmps52;go_wp2_with fail;go_ret;exact⟨none,0,rfl,bP.nil _ _ _ _,ag _ _⟩
 |some D=>
  have ac:gm (λk=>k<w.heap.size) (w.alloc (.cells #[] 115)):=λk y=>by simp;omega
  have U:=Jh (bP.made (λk=>k<w.heap.size) w 115 2 (λk y=>y));have J:=Jh (Below.one w (.cells #[] 115));have W:=Jh (K.o.below J.o);have ad:∀w,(binOp .eql 51 (.slice (some D) n c) (Jn)).run prog w= .ok (.bool false) w:=λw=>fO w _ _ (some D) n c 0 0 underlying51;go_enter Tryz.func52,Tryz.ntmps52;go_wp2_with (at_builtin;go_must (refine cX rfl (.tmp 5) (.tmp 6) 51 Jr 115 (.agg #[.string ⟨#[]⟩,.string ⟨#[]⟩]) 2 32 underlying51 Uw rfl Jd (λk=>k<w.heap.size) 0 [] _ _ U.o Jr ac (some D) n c (xs.flatMap dR) Jr W.o Sj Jm Jo ?_);intro af ah E Q ab aa;have Y:=Jh E;have X:=Jh (J.o.trans (Q.below λk y=>y));obtain⟨T,Z,rfl⟩:=E.form;clear E Q ab aa);go_ret;exact⟨T,Z,rfl,by have:=Y.o;simpa using this,X.o⟩
end Go.Proofs.YtibmlemoghcbkaaGreatDoor
namespace Go.Proofs
open Go.Shelf
def Tryz.keys159_ren:Go.Shelf.Ren:=⟨fun|7=>159|10=>248|n=>n,fun|23=>158|26=>9|3=>9|28=>291|0=>0|27=>290|33=>168|4=>4|n=>n,fun|n=>n⟩
theorem je {P:Program}{f B}(h:((P.funcs[f]?.map (·.name)).getD "" == "runtime.NumGoroutine")=false)(i:P.funcs[f]?=some {B with name:=(P.funcs[f]?.map (·.name)).getD ""}):Bears P f B:=⟨_,h,i⟩
theorem Tryz.keys159:Go.Proofs.SlLaysZ.n7 Tryz.prog Tryz.keys159_ren:=by
 repeat' first|kernel_rfl|(intro _;kernel_rfl)|exact je (by kernel_rfl) (by kernel_rfl)|constructor
def Tryz.sorted158_ren:Go.Shelf.Ren:=⟨fun|6=>158|8=>246|9=>247|11=>324|13=>66|12=>325|23=>147|24=>148|14=>368|15=>369|16=>370|17=>371|18=>372|19=>373|20=>374|21=>375|22=>376|25=>406|26=>237|27=>238|28=>407|29=>408|30=>409|31=>425|n=>n,fun|26=>9|28=>291|24=>163|0=>0|3=>3|37=>92|48=>279|50=>40|4=>4|40=>273|39=>272|45=>123|5=>5|9=>9|51=>366|55=>370|57=>439|58=>440|33=>168|n=>n,fun|n=>n⟩
theorem Tryz.sorted158:Go.Proofs.SlLaysZ.n6 Tryz.prog Tryz.sorted158_ren:=by
 repeat' first|kernel_rfl|(intro _;kernel_rfl)|exact je (by kernel_rfl) (by kernel_rfl)|constructor
def Tryz.sort247_ren:Go.Shelf.Ren:=⟨fun|6=>247|8=>66|9=>325|19=>147|20=>148|21=>368|22=>369|23=>370|24=>371|25=>372|26=>373|27=>374|28=>375|29=>376|36=>406|31=>237|32=>238|37=>407|38=>408|39=>409|41=>425|n=>n,fun|27=>163|29=>9|3=>3|32=>92|26=>163|0=>0|44=>279|46=>40|4=>4|36=>273|35=>272|41=>123|5=>5|9=>9|53=>366|57=>370|63=>439|64=>440|n=>n,fun|n=>n⟩
theorem Tryz.sort247:Go.Proofs.SlLaysM.n6 Tryz.prog Tryz.sort247_ren:=by
 repeat' first|kernel_rfl|(intro _;kernel_rfl)|exact je (by kernel_rfl) (by kernel_rfl)|constructor
def Tryz.clone337_ren:Go.Shelf.Ren:=⟨fun|5=>337|7=>382|n=>n,fun|23=>158|25=>9|3=>9|4=>4|20=>20|n=>n,fun|n=>n⟩
theorem Tryz.clone337:Go.Proofs.SlLaysW.n5 Tryz.prog Tryz.clone337_ren:=by
 repeat' first|kernel_rfl|(intro _;kernel_rfl)|exact je (by kernel_rfl) (by kernel_rfl)|constructor
end Go.Proofs
namespace Go.Proofs.YtibmlemoghcbkaaGreatDoor
open Go Go.RowKit
open Tryz
section
open Go Go.RowKit Go.Shelf Go.Maps
theorem QN (m:Nat):AnyZ.SortsIn prog Tryz.sorted158_ren dI m:=
 ⟨λE M D O y H J K=>callsIn_wide.2 (AnyM.slices_Sort_string Tryz.sort247 E M D O y H J K),
  λE D y=>callsIn_wide.2 (AnyM.slices_Sort_string_none Tryz.sort247 E D y)⟩
theorem Pi (D:Option Nat)(y:JW):JC 159 #[.map D] y λe w'=>e= .returned (.func (.func 248) #[] #[Jv y.heap.size])/\w'=y.alloc (.cells #[.map D] 158):=
 (callsIn_wide (n:=5)).1 (AnyZ.keys_in Tryz.keys159 dI 5 trivial rfl D y)
theorem Ic {E:Type}(b J:Nat)(y:DataW E)(R:Value->Option (DataW E × List MemPlace))(w:JW)(H:w.ownsMap prog 9 R b J y)(W:iL y<=maxLen)(V:iL y*16<=140737488355328):
 JC 158 #[.func (.func 248) #[] #[Jv w.heap.size]] (w.alloc (.cells #[.map (some b)] 158)) λe w'=>∃(v:Value)(D:List JU),e= .returned v/\D.Perm (strKeys y)/\
  w'.ownsRow (w.alloc (.cells #[.map (some b)] 158)).heap.size 9 1 v D.length ((D.mergeSort (λx Z=>decide (x<=Z))).map encStr)/\(v=Jn↔D=[])/\Below (w.alloc (.cells #[.map (some b)] 158)).heap.size (w.alloc (.cells #[.map (some b)] 158)) w':=by
 have U:=H.lt;have Y:SeqGives dI 2 prog 248 #[Jv w.heap.size] encStr (λD=>D.Perm (strKeys y)) (iL y) (w.alloc (.cells #[.map (some b)] 158)):=
  AnyZ.keys_gives (ρ:=Tryz.keys159_ren) {Tryz.keys159 with} dI _ trivial rfl Jo w.heap.size b J y _ Js Js (by
   obtain⟨O,M,T,K,X,Q⟩:=H;exact⟨O,M,(Below.heap_alloc _ _ b U).trans T,K,X,Q⟩)
 exact(callsIn_wide (n:=5)).1 (AnyZ.sorted_in Tryz.sorted158 dI 5 trivial trivial trivial trivial rfl Jo (QN _) (enters_of Tryz.func247 Jk rfl) 248 #[Jv w.heap.size] trivial (enters_of Tryz.func248 Jk rfl) _ _ W V _ Y)
theorem Me (J nf:Nat)(fs:JU->Option JU)(w:JW)(af:MapAt prog 9 w J nf (Ag fs))(ar:nf<=1000):
 JC 158 #[.func (.func 248) #[] #[Jv w.heap.size]] (w.alloc (.cells #[.map (some J)] 158)) λe w'=>∃(H:JA)(c:Nat)(Q:List JU),e= .returned (.slice H nf c)/\Q.length=nf/\(∀n∈Q,(fs n).isSome=true)/\
  Rd w' 1 H nf (Q.map λn=>.string (S n))/\(∀a,H=some a->w.heap.size<=a.block)/\Jz w w':=by
 obtain⟨ad,y,K,ae,aq⟩:=af;refine(Ic J nf ad RV w y (by rw[K];unfold maxLen;omega) (by rw[K];omega)).mono ?_;rintro e w' ⟨an,T,rfl,W,V,au,ag⟩;obtain⟨ap,M,ah⟩:=y.keysOf;have O:T.length=nf:=by
  rw[W.length_eq,<-K,M];simp[strKeys,iL]
 obtain⟨ac,c,rfl,al⟩:=Rd.uJ V;have ai:∀n∈T.mergeSort (λE ao=>decide (E<=ao)),(fs n).isSome=true:=by
  intro n aj;have D:=W.mem_iff.1 ((List.mergeSort_perm T _).mem_iff.1 aj);rw[M] at D;obtain⟨ab,Y,Z⟩:=List.mem_map.1 D;obtain⟨an,am⟩:=ah ab Y;obtain⟨E,-,aa,-⟩:=Maps.keyOf_str underlying9 am;rw[aa] at Z;have ak:E=n:=Z;subst ak;have U:=ae (.string E);rw[mL,M,Maps.has_eq,Option.isSome_map] at U;rw[U,List.any_eq_true];exact⟨ab,Y,by rw[aa];simp[Lit.sameKey]⟩
 refine⟨ac,c,_,by rw[O],by rw[List.length_mergeSort,O],ai,by rw[<-O];exact al,λa U=>?_,Below.X ag⟩;subst U;rcases V.2 with⟨y,-⟩|⟨U,Y,Z,y,D,-⟩
 ·simp at y
 simp only[Value.slice.injEq,Option.some.injEq] at y;rw[y.1];simp at D;show w.heap.size<=U;omega
theorem xg (y nf:Nat)(fs:JU->Option JU)(w:JW)(T:MapAt prog 9 w y nf (Ag fs)):
 JC 337 #[.map (some y)] w λe w'=>e= .returned (.map (some w.heap.size))/\MapAt prog 9 w' w.heap.size nf (Ag fs)/\Jz w w'/\w'.heap.size=w.heap.size+1:=by
 obtain⟨H,⟨E,D,U,J,V,Q⟩,K,M,O⟩:=T;refine(AnyW.maps_Clone Tryz.clone337 y E D w U).mono ?_;rintro e w' ⟨rfl,rfl⟩;exact⟨rfl,⟨H,⟨E,D,heap_alloc_new w _,J,V,Q⟩,K,M,O⟩,Below.one _ _,Js⟩
end
structure jA (fs:JU->Option JU):Prop where
 name:∀n,(fs n).isSome=true->n.length<=16
 text:∀n t,fs n=some t->t.length<=1792
structure wJ (B a b c:Nat) (w w':JW):Prop where
 os:w'.os=w.os
 tape:w'.tape=w.tape
 output:w'.output=w.output
 size:w.heap.size<=w'.heap.size
 block:∀k,k<B->k≠a->k≠b->k≠c->w'.heap[k]?=w.heap[k]?
theorem wJ.of {B a b c:Nat}{w w':JW}(h:Below B w w'):wJ B a b c w w':=⟨h.os,h.tape,h.output,h.size,λD y _ _ _=>h.block D y⟩
theorem wJ.trans {B a b c:Nat}{w w' K:JW}(h:wJ B a b c w w')(k:wJ B a b c w' K):wJ B a b c w K:=
 ⟨k.os.trans h.os,k.tape.trans h.tape,k.output.trans h.output,ap h.size k.size,λJ H y D E=>(k.block J H y D E).trans (h.block J H y D E)⟩
theorem wJ.below {B y a b c:Nat}{w w':JW}(h:wJ B a b c w w')(hB:y<=B)(E:y<=a)(H:y<=b)(hc:y<=c):Below y w w':=⟨h.os,h.tape,h.output,h.size,λD J=>h.block D Jo Jo Jo Jo⟩
def WX (D J K E nf:Nat)(w1:JW)(T iv:Value)(wr:JW):Prop:=∃(y H O:Nat)(M:JU)(U:Value)(Q:Lit->Option Value),iv= .int .i64 y/\T= .string (S M)/\y<=nf/\M.length<=1+75*y/\H<=28*y/\O<=y/\
 gH (λy=>y<D) D J K E H H (.string ⟨#[]⟩) (Jn) U wr/\MapAt prog 9 wr E O Q/\wJ D J K E w1 wr
def R0 (y:Nat)(D:Value)(x:Nat):Prop:=x<y/\D.ownBlock≠some x
structure Vm (B1 B2 b5 b6 bml y k0 D0:Nat) (t:JU) (pv0:Value) (wF:JW) (j:Nat) (dl:JU) (pv sv:Value) (ys:List Value) (wr:JW):Prop where
 dl:dl.length<=D0+2*j
 plan:gH (λx=>R0 B2 pv0 x∨sv.ownBlock=some x) B1 b5 b6 bml (k0+j) k0 (.string ⟨#[]⟩) (Jn) pv wr
 row:wr.heap[y]?=some (.cells #[.string (S t),sv] 166 (0,0))
 secs:bP (λx=>R0 B2 pv0 x∨pv.ownBlock=some x) 3 1 sv j ys wr
 os:wr.os=wF.os
 tape:wr.tape=wF.tape
 output:wr.output=wF.output
 size:wF.heap.size<=wr.heap.size
 block:∀x,R0 B2 pv0 x->x≠b5->x≠b6->x≠y->wr.heap[x]?=wF.heap[x]?
def WY (E H K M O aa V J Q:Nat)(t:JU)(X:Value)(Z:JW)(T U:Value)(wr:JW):Prop:=
 ∃(y:Nat)(D:JU)(W Y:Value)(ab:List Value),U=Ji y/\T= .string (S D)/\y<=Q/\Vm E H K M O aa V J t X Z y D W Y ab wr
structure Vn (B1 B2 b5 b6 bml k0:Nat) (dv pv0:Value) (wF:JW) (j:Nat) (pv sv:Value) (ys:List Value) (wr:JW):Prop where
 plan:gH (λx=>R0 B2 pv0 x∨sv.ownBlock=some x) B1 b5 b6 bml (k0+j) k0 dv sv pv wr
 secs:bP (λx=>R0 B2 pv0 x∨pv.ownBlock=some x) 3 1 sv j ys wr
 os:wr.os=wF.os
 tape:wr.tape=wF.tape
 output:wr.output=wF.output
 size:wF.heap.size<=wr.heap.size
 block:∀x,R0 B2 pv0 x->x≠b5->x≠b6->wr.heap[x]?=wF.heap[x]?
def WZ (D E H J K T M:Nat)(O V:Value)(X:JW)(Q:Value)(wr:JW):Prop:=
 ∃(y:Nat)(U W:Value)(Y:List Value),Q=Ji y/\y<=M/\Vn D E H J K T O V X y U W Y wr
theorem vo (F:Nat->Prop)(bs aN dE nf a8:Nat)(dt fs:JU->Option JU)(w:JW)(h:iN F bs aN dE dt w)(cX:w.cell? (Jp aN 0)=some (Ji 512))(cS:MapAt prog 9 w a8 nf (Ag fs))(dx:jA fs)(eW:nf<=16):
 JC 76 #[Jv bs,.map (some a8)] w λe w'=>(∃p0 eo ep eq er es,e= .returned (.agg #[p0,eo,ep,eq,er,es,.bool true]))/\Below w.heap.size w w':=by
 have eU:∀(D:Fn)(first y:Array Value)(w:JW),(cO D first y).run prog w= .ok (.func D first y) w:=λ_ _ _ _=>rfl;have eV:=@run_makeMap prog;have c8:prog.follows .mixedOrders=true:=Jk;obtain⟨Z,bi⟩:=Je w.heap.size;obtain⟨bu,H,E,D,K⟩:∃bu,w.alloc (.cells #[Jn,.map none,.string ⟨#[]⟩,Jn,Ji 0,Ji 0,.bool false] 171)=bu/\bu.heap.size=Z+1/\Below Z w bu/\bu.heap[Z]?=some (.cells #[Jn,.map none,.string ⟨#[]⟩,Jn,Ji 0,Ji 0,.bool false] 171 (0,0)):=
  ⟨_,rfl,by simp[bi],by rw[<-bi];exact Below.one _ _,by rw[<-bi];exact heap_alloc_new _ _⟩
 have de:=Jh bi;have y:Below w.heap.size w bu:=by rw[bi];exact D
 have J:=Jh (Gc F bs aN dE (Z+1) dt bu (h.below y) E);have cJ:=Jh h;have dj:=Jh (show bu.cell? (Jp aN 0)=some (Ji 512) from al y cX);have dJ:=Jh (cS.below y);have dw:aN<Z:=by rw[<-bi];exact bq w _ cX
 have ee:bs<Z:=by rw[<-bi];exact h.lt
 have eM:a8<Z:=by rw[<-bi];exact cS.lt
 have dS:=Jh H;have eG:=Jh E;have cx:=Jh D;have d1:=Jh K;have dk:=Jh dx;clear h cX cS dx H E D y K;go_enter Tryz.func76,Tryz.ntmps76;go_wp2_with fail;try simp only[dS.o]
 try rw[bi]
 refine J.o.mono ?_;rintro e cu ⟨rfl,K,M,O,y,H⟩;have Q:=cJ.o.below (w':=cu) ((cx.o.trans (y.mono Jo)).mono Jo);obtain⟨dr,dq,E,-,-,-,-,-⟩:=Q.cells;have D:=gi y Jo dj.o;have V:=Jh (vB (Z+1) (Z+4) bs aN (Z+2) 512 (Z+5) cu H Jo Jo Jo Jo Jo K M E D O Jo Jo);have d2:=Jh ((y.block Z Jo).trans d1.o);have di:=Jh (show Below Z w cu from cx.o.trans (y.mono Jo));have cz:=Jh H;have T:=Jh D;have U:=Jh E;clear K M O y H Q E D J;go_wp2_with fail;refine V.o.mono ?_;rintro e b2 ⟨bF,cc,rfl,K,J⟩;simp only[dC] at K ⊢;obtain⟨D,E⟩:=Je b2.heap.size;have eZ:Z+5<=D:=by have:=J.size;have:=cz.o;omega
 have Q:Below cu.heap.size cu b2:=by rw[cz.o];exact J
 obtain⟨aQ,ai,Y,y,au,ax,aw⟩:∃aQ,((b2.alloc (.cells #[.slice bF 510 cc] 23)).alloc (.map #[] 0)).alloc (.cells #[Jn,.map (some (D+1)),.string ⟨#[]⟩,Jn,Ji 0,Ji 0,.bool true] 171)=aQ/\aQ.heap.size=D+3/\Below D b2 aQ/\
  aQ.heap[D]?=some (.cells #[.slice bF 510 cc] 23 (0,0))/\MapAt prog 9 aQ (D+1) 0 (λ_=>none)/\aQ.heap[D+2]?=some (.cells #[Jn,.map (some (D+1)),.string ⟨#[]⟩,Jn,Ji 0,Ji 0,.bool true] 171 (0,0)):=by
  have bY:=MapAt.made (P:=prog) (k:=9) (b2.alloc (.cells #[.slice bF 510 cc] 23));rw[aI,E] at bY;have H:=heap_alloc_new ((b2.alloc (.cells #[.slice bF 510 cc] 23)).alloc (.map #[] 0)) (.cells #[Jn,.map (some (D+1)),.string ⟨#[]⟩,Jn,Ji 0,Ji 0,.bool true] 171);simp only[aI,E] at H;refine⟨_,rfl,by simp[E],by rw[<-E];exact(cZ _ _ _).alloc (by simp;omega) _,?_,bY.below (Below.one _ _),H⟩;rw[<-E];exact(aJ _ _ _ (by simp;omega)).trans ((aJ _ _ _ Js).trans (heap_alloc_new _ _))
 have ak:=Jh (show Below Z w aQ from di.o.trans ((Q.mono (Jw cz.o)).trans (y.mono Jo)));have am:=Jh (show Rd aQ 1 bF 510 ((gB 2 510).flatMap iS) from K.rd.below (by rw[E];exact y));have av:=K.caps;have X:=Jh (show ∀aY,bF=some aY->aY.block<D from λaY bX=>by
  obtain⟨H,O,-,-⟩:=K.own Jo;rw[O] at bX;have M:=(K.1.lt H (by rw[O];rfl)).2;rw[<-Option.some.inj bX];show H<D;omega)
 have O:=Jh (show MapAt prog 9 aQ a8 nf (Ag fs) from dJ.o.kept ((di.o.trans ((Q.mono (Jw cz.o)).trans (y.mono Jo))).block a8 Jo |>.trans (cx.o.block a8 Jo).symm));have aC:=Jh (gi y Jo (gi J Jo U.o));have az:=Jh (gi y Jo (gi J Jo T.o));have d3:=Jh ((y.block Z Jo).trans ((J.block Z Jo).trans d2.o));have dT:=Jh ai;have bW:=Jh Y;have ao:=Jh au;have ar:=Jh ax;have aq:=Jh aw;have W:=O.o.len (t:=158) underlying158;have ad:=Jh (eY nf aQ Jo);have eP:IntKind.u64.wrap (nf:Int)=nf:=by simp[IntKind.wrap,IntKind.bits,IntKind.signed];omega
 clear K J Q ai Y y au ax aw V T U;go_wp2_with fail;try simp only[dT.o]
 rw[W];simp only[iM];rw[Oper.upon_value];clear W E;go_wp2_with fail;refine ad.o.mono ?_;rintro e ai ⟨rfl,y⟩;have E:=Jh (Pi (some a8) ai);have Q:=O.o.below y;have K:=Jh (Me a8 nf fs ai Q Jo);have J:=Jh y;clear y Q;go_wp2_with fail;refine E.o.mono ?_;rintro e ey ⟨rfl,rfl⟩;clear E;go_wp2_with fail;refine K.o.mono ?_;rintro e bv ⟨d8,eL,en,rfl,ax,aw,ay,V,Q⟩;clear K;obtain⟨Y,K⟩:=Je bv.heap.size;have e0:D+3<=Y:=by have M:=J.o.size;have W:=Q.size;have au:=bW.o;omega
 have E:Below aQ.heap.size aQ bv:=J.o.then Q;have d4:=Jh ((E.block Z (Jw bW.o)).trans d3.o);have bT:=Jh (show Below Z w bv from ak.o.trans (E.mono (Jw bW.o)));have U:=Jh (show gH (λy=>y<Y) Y D (D+1+1) (D+1) 0 0 (.string ⟨#[]⟩) (Jn) (Jn) bv from⟨bF,cc,[],(E.block D (Jw bW.o)).trans ao.o,am.o.below E,av.1,λaY bX=>by
  have M:=X.o aY bX;exact⟨by show aY.block<Y;omega,Jo,Jo,Jo⟩,(E.block (D+1+1) (Jw bW.o)).trans aq.o,bP.nil _ _ _ _⟩)
 have T:=Jh (ar.o.below E);have dN:=Jh (show ∀aY,d8=some aY->D+3<=aY.block from λaY bX=>by have M:=V aY bX;have W:=J.o.size;have au:=bW.o;omega);have dO:=Jh ay;have dn:=Jh ax;have dW:=Jh aw;have bz:=Jh K;have dQ:=Jh (show WX Y D (D+1+1) (D+1) nf bv (.string (S (uint nf))) (Ji (0:Nat)) bv from⟨0,0,0,uint nf,_,_,rfl,rfl,Jo,Jw (jb 0 nf Jo),Jo,Jo,U.o,T.o,wJ.of (by rw[<-K];exact ag _ _)⟩);have dK:=Jh (O.o.below E);clear ax aw ay V Q E U T am X av ao ar aq O J ak aC az K ad;go_wp2_with fail;go_loopw [8,34] (λav E wr=>WX Y D (D+1+1) (D+1) nf bv av E wr) (λ_ E _=>nf - (intOf E).toNat)
 case atStart=>exact dQ.o
 obtain⟨bd,Q,em,am,U,d7,rfl,rfl,eQ,cD,cE,bY,cg,cT,bp⟩:=hrel;have cC:Below Z w wr:=bT.o.trans (bp.below Jo Jo Jo Jo);by_cases ej:bd<nf;rotate_left
 ·obtain rfl:bd=nf:=Jo;have b5:=Jf ((bd:Int)<(bd:Int));have bt:=cg.cells;obtain⟨aW,be⟩:=aP bt 2;simp only[lg,aH,aD,aS] at aW;have ak:∀y,y≠D+1+1->(wr.setCell (Jp (D+1+1) 2) (.string (S am))).heap[y]?=wr.heap[y]?:=λy E=>ae _ _ _ _ (by simpa using E);have aw:gH (λy=>y<Y) Y D (D+1+1) (D+1) Q Q (.string (S am)) (Jn) U (wr.setCell (Jp (D+1+1) 2) (.string (S am))):=
   cg.store (by show D+1+1<Y;omega) Jo (by simp[aj]) ak (by simp[aj,aA,bt,lg])
  have aZ:wJ Y D (D+1+1) (D+1) bv (wr.setCell (Jp (D+1+1) 2) (.string (S am))):=
   bp.trans ⟨rfl,rfl,rfl,by simp[aj],λy _ _ W _=>ak y W⟩
  have ax:=Jh aw;have O:=Jh aZ;have b7:=Jh cD;have bV:=Jh cE;clear cg cT bp cD cE bY cC bt ak aw aZ;go_wp2_with fail;generalize wr.setCell (Jp (D+1+1) 2) (.string (S am))=aw at*;have ak:=Jh (sw am aw (Jw b7.o));refine ak.o.mono ?_;rintro e aL ⟨d9,ea,rfl,bI,aK⟩;obtain⟨az,br⟩:=Je (ms am.length);have b1:az<=19:=by rw[<-br];unfold ms;have:=b7.o;omega
  rw[br] at bI ⊢;obtain⟨T,cf⟩:=Je aL.heap.size;have bZ:Y<=T:=by have M:=O.o.size;have W:=aK.size;have au:=bz.o;omega
  have b3:Q<=448:=Jw bV.o;have bK:∀H,U.ownBlock=some H->¬H<Y/\H<aw.heap.size:=λH K=>ax.o.own K;have ci:gH (λy=>R0 T U y∨(Jn:Value).ownBlock=some y) Y D (D+1+1) (D+1) (Q+0) Q (.string (S am)) (Jn) U aL:=
   ax.o.move aK.size (aK.block _ (Jx O.o.size bz.o)) (aK.block _ (Jx O.o.size bz.o)) (λy M W au _=>aK.block y (Jx O.o.size bz.o))
    (λH K=>⟨λM=>by
     rcases M with M|M
     ·exact M.2 K
     simp[aG] at M,aK.block H (bK H K).2⟩)
  have bw:=Jh (show WZ Y T D (D+1+1) (D+1) Q az (.string (S am)) U aL (Ji (0:Nat)) aL from⟨0,U,Jn,[],rfl,Jo,ci,bP.nil _ _ _ _,rfl,rfl,rfl,ac _,λ_ _ _ _=>rfl⟩);have bf:=Jh bI;have bS:=Jh cf;have bC:=Jh aK;have bg:=Jh bK;have bU:Y<=aw.heap.size:=by have M:=O.o.size;have au:=bz.o;omega
  clear bI cf aK bK ci br ak aW be;go_wp2_with fail;go_loopw [120] (λbM wr=>WZ Y T D (D+1+1) (D+1) Q az (.string (S am)) U aL bM wr) (λbM _=>az - (intOf bM).toNat)
  case atStart=>exact bw.o
  obtain⟨J,bQ,aV,b4,rfl,eg,X⟩:=hrel;have aC:∀y,y<T->(∀H,U.ownBlock=some H->y≠H)->R0 T U y:=λy E bj=>⟨E,λe=>bj y e rfl⟩;have av:∀y,y<Y->R0 T U y:=λy E=>aC y Jo λH K e=>(bg.o H K).1 Jo;have bn:R0 T U D:=av D Jo;have bo:R0 T U (D+1+1):=av _ Jo;by_cases ck:J<az;rotate_left
  ·obtain rfl:J=az:=Jo;have eh:=Jf ((J:Int)<(J:Int));obtain⟨cH,cP,rfl⟩:=X.secs.form;obtain⟨aE,be,rfl⟩:=X.plan.form;have ak:∀y,y<Z->wr.heap[y]?=w.heap[y]?:=λy E=>(X.block y (av y Jo) Jo Jo).trans ((bC.o.block y Jo).trans ((O.o.block y Jo Jo Jo Jo).trans (bT.o.block y E)));have aU:wr.heap[Z]?=_:=(X.block Z (av Z Jo) Jo Jo).trans ((bC.o.block Z Jo).trans ((O.o.block Z Jo Jo Jo Jo).trans d4.o));obtain⟨dr,dq,a7,-,-,-,-,-⟩:=cJ.o.cells;have ba:wr.cell? (Jp bs 0)=some (Jv aN):=(af (a:=(Jp bs 0)) (ak bs ee)).trans a7;have bc:wr.cell? (Jp aN 0)=some (Ji 512):=(af (a:=(Jp aN 0)) ((ak aN dw).trans (cx.o.block aN dw).symm)).trans dj.o;have ad:=X.plan.cells;obtain⟨ay,cl⟩:=aP ad 6;obtain⟨ar,-⟩:=aP ad 4;obtain⟨bl,-⟩:=aP ad 3;obtain⟨bh,-⟩:=aP ad 0;obtain⟨bj,-⟩:=aP ad 1;obtain⟨bk,-⟩:=aP ad 2;obtain⟨bx,-⟩:=aP ad 5;simp only[lg,aH,aD,aS] at bh bj bk bl ar bx ay;obtain⟨aO,b0⟩:=aP aU 0;obtain⟨aR,b6⟩:=aP aU 1;obtain⟨aT,b8⟩:=aP aU 2;obtain⟨aW,b9⟩:=aP aU 3;obtain⟨aZ,cb⟩:=aP aU 4;obtain⟨a1,cd⟩:=aP aU 5;obtain⟨a6,cj⟩:=aP aU 6;simp only[aH,aD,aS] at aO aR aT aW aZ a1 a6;have bG:Z≠D+1+1:=Jo;have bJ:D+1+1≠Z:=Jo;have ao:=Jh (Ja ay (Ja ar (Ja ba trivial)));have bL:=Jt ((J:Int)<=20)
   have bM:IntKind.i64.wrap (2*(J:Int))=2*(J:Int):=by rw[aB];omega
   have bR:IntKind.i64.wrap ((Q:Int)+2*(J:Int))=(Q:Int)+2*(J:Int):=by rw[aB];omega
   have bO:=Jt ((Q:Int)+2*(J:Int)<=510);have V:=Jh X;have aM:=Jh ak;have bE:=Jh ad;have bA:=Jh aU;clear X ak ad aU aC av bn bo ck;go_wp2_with fail;refine cB (n:=21) (S:=λw'=>w'.cell? (Jp (D+1+1) 6)=some (.bool true)/\w'.cell? (Jp (D+1+1) 4)=some (Ji Q)/\w'.cell? (Jp bs 0)=some (Jv aN)/\True) c8 21 rfl ao.o (λbm=>?_);refine JH 0 (h:=JH 1 (h:=JH 2 (h:=JH 3 (h:=JH 4 (h:=JH 5 (h:=JH 6 (h:=JH 7 (h:=JH 8 (h:=JH 9 (h:=JH 10 (h:=JH 11 (h:=JH 12 (h:=JH 13 (h:=JH 14 (h:=JH 15 (h:=?_))))))))))))))));refine JM 16 (h:=λaX aq=>?_);go_simp;refine(sa aN 512 wr.drew bc).mono ?_;rintro ce aF ⟨rfl,rfl⟩;refine aq.out _ _ ao.o (λbm=>?_);clear aq aX;try simp only[an,JY]
   refine JH 17 (h:=JH 18 (h:=JH 19 (h:=JH 20 (h:=?_))));refine cy Jk ?_;go_wp2_with fail;refine bodyPost_ret (v:=.agg #[.slice aE (Q+J) be,.map (some (D+1)),.string (S am),.slice cH J cP,Ji Q,Ji ((Q+J:Nat):Int),.bool true]) (by rw[fX rfl];go_simp) rfl ⟨⟨_,_,_,_,_,_,rfl⟩,?_⟩;rw[de.o];have ak:Below Z w wr:=⟨V.o.os.trans (bC.o.os.trans (O.o.os.trans bT.o.os)),V.o.tape.trans (bC.o.tape.trans (O.o.tape.trans bT.o.tape)),V.o.output.trans (bC.o.output.trans (O.o.output.trans bT.o.output)),
    ap bT.o.size (ap O.o.size (ap bC.o.size V.o.size)),aM.o⟩
   have ad:=ak.setCell (p:=(Jp (D+1+1) 6)) (by show Z<=D+1+1;omega) (.bool true);exact(((((((ad.setCell (ac _) _).setCell (ac _) _).setCell (ac _) _).setCell (ac _) _).setCell (ac _) _).setCell (ac _) _).setCell (ac _) _).drew
  have ei:(J:Int)<az:=Jo;obtain⟨ao,bh,-,-⟩:=bf.o.own Jo;subst bh;have cY:aw.heap.size<=ao:=ft λad=>bf.o.2 ao rfl ad;have cj:ao<T:=by have:=bf.o.Ve (g:=ao) rfl;have:=bS.o;omega
  obtain⟨cR,dd,bh,-,ct⟩:=bf.o.rd.TO Js ck;obtain⟨rfl,rfl⟩:ao=cR/\0=dd:=by simpa using bh
  have bR:wr.cell? (Jp ao (0+J))=some _:=(af (a:=(Jp ao (0+J))) (X.block ao (aC ao cj λH K e=>Jw (bg.o H K)) Jo Jo)).trans ct;rw[eS,gS] at bR;obtain⟨ar,cq⟩:∃ar:ByteArray,Uq am J= .string ar:=⟨_,rfl⟩;rw[cq,bB] at bR;have b0:T<=wr.heap.size:=by rw[<-bS.o];exact X.size
  have ak:gH (λy=>R0 T U y∨aV.ownBlock=some y) Y D (D+1+1) (D+1) (Q+J) Q (.string (S am)) aV bQ wr.drew:=X.plan.move (ac _) rfl rfl (λ_ _ _ _ _=>rfl) (λH K=>⟨(X.plan.own K).1,rfl⟩);have aZ:gm (λy=>R0 T U y∨aV.ownBlock=some y) wr:=λy E=>by
   rcases E with E|E
   ·have:=E.1;omega
   exact X.secs.Ve E
  have bA:=Jh (EX (λy=>R0 T U y∨aV.ownBlock=some y) Y D (D+1+1) (D+1) (Q+J) Q _ _ bQ ar wr.drew ak (λy E=>.inl (av y E)) (.inl bn) (.inl bo) Jo Jo aZ);obtain⟨aE,cn⟩:=Je (2+(Q+J));rw[cn] at bA;obtain⟨aW,-⟩:=aP X.plan.cells 3;simp only[lg,aH,aD,aS] at aW;have be:=Jh aW;have V:=Jh X;have bx:=Jh bn;have a7:=Jh bo;have bk:=Jh av;have b9:=Jh b0;clear X aC bn bo av b0 ct cq cn cY cj bh ak aZ;go_wp2_with fail;refine cB (n:=10) (S:=λw'=>w'.cell? (Jp (D+1+1) 3)=some aV/\True) c8 10 rfl ⟨be.o,trivial⟩ (λbm=>?_);refine JH 0 (h:=JH 1 (h:=JH 2 (h:=JH 3 (h:=JH 4 (h:=?_)))));refine JM 5 (h:=λaX aq=>?_);go_simp;refine bA.o.mono ?_;rintro ce aF ⟨rfl,a1,ba,bc,cU⟩;obtain⟨ak,-⟩:=aP ba.cells 3;simp only[lg,aH,aD,aS] at ak;refine aq.out _ _ ⟨ak,trivial⟩ (λbm=>?_);clear aq aX;have cm:bP (λy=>R0 T U y∨a1.ownBlock=some y) 3 1 aV J b4 aF:=
   (V.o.secs.later λH K=>bc.block H (.inr K) (λe=>V.o.secs.2 H K (.inl (e▸bx.o))) (λe=>V.o.secs.2 H K (.inl (e▸a7.o)))).shift λH K ad=>by
    rcases ad with ad|ad
    ·exact V.o.secs.2 H K (.inl ad)
    exact(ba.own ad).1 (.inr K)
  have cl:gm (λy=>R0 T U y∨a1.ownBlock=some y) (aF.alloc (.cells #[Ji aE] 3)):=λy E=>by
   rcases E with E|E
   ·have M:=E.1;have W:=bc.size;have au:=b9.o;simp at W ⊢;omega
   have:=(ba.own E).2;simp;omega
  have a6:=Jh ba;have aR:=Jh bc;have cM:=Jh cm;have cK:=Jh cl;have aZ:=Jh ak;clear ba bc cU cm cl bA bR ak;try simp only[an,JY]
  refine JM 6 (h:=λaX aq=>?_);go_simp;refine aq.out _ _ ⟨al (Below.one _ _) aZ.o,trivial⟩ (λbm=>?_);clear aq aX;try simp only[an,JY]
  refine JM 7 (h:=λaX aq=>?_);refine bN rfl (.tmp 126) (.tmp 130) 23 rfl 3 (Ji 0) 1 8 underlying23 my rfl Jd (λy=>R0 T U y∨a1.ownBlock=some y) J b4 aV _ (cM.o.below (Below.one _ _)) rfl cK.o _ 1 _ [Ji aE] rfl (jX aF _ _) (by intro ev co;simp at co;subst co;rfl) Jm Jo ?_;intro ew ai bJ bL c6 cV;obtain⟨aM,aO,rfl⟩:=bJ.form;have bO:=(bL.block (D+1+1) (.inl a7.o)).trans ((aJ _ _ _ (Jl a6.o.cells)).trans a6.o.cells);obtain⟨cr,dG⟩:=aP bO 3;simp only[lg,aH,aD,aS] at cr;refine aq.out _ _ ⟨cr,trivial⟩ (λbm=>?_);clear aq aX c6 cV;have cN:=Jh bO;have bl:=Jh bJ;have ay:=Jh bL;clear bO bJ bL;try simp only[an,JY]
  refine JH 8 (h:=JH 9 (h:=?_));refine cy Jk ?_;go_wp2_with fail;go_roundw
  case rel=>
   have ak:∀y,y<T->y<aF.heap.size:=λy E=>by have M:=b9.o;have W:=aR.o.size;simp at W;omega
   have aT:∀y,(R0 T U y∨a1.ownBlock=some y)->y<aF.heap.size->ai.heap[y]?=aF.heap[y]?:=λy E bj=>(ay.o.block y E).trans (aJ _ _ _ bj);have dy:aF.heap.size<=ai.heap.size:=by have:=ay.o.size;simp at this;omega
   have bG:∀y,y≠D+1+1->(ai.setCell (Jp (D+1+1) 3) (.slice aM (J+1) aO)).heap[y]?=ai.heap[y]?:=λy E=>ae _ _ _ _ (by simpa using E);have bj:gH (λy=>R0 T U y∨(.slice aM (J+1) aO:Value).ownBlock=some y) Y D (D+1+1) (D+1) (Q+J+1) Q (.string (S am)) aV a1 ai:=
    a6.o.move dy (aT D (.inl bx.o) (ak _ bx.o.1)) (aT _ (.inl a7.o) (ak _ a7.o.1)) (λy E _ _ _=>aT y (.inl (bk.o y E)) (ak y Jo)) (λH K=>⟨λad=>by
     rcases ad with ad|ad
     ·exact(a6.o.own K).1 (.inl ad)
     exact bl.o.2 H ad (.inr K),aT H (.inr K) (a6.o.own K).2⟩)
   refine⟨J+1,a1,.slice aM (J+1) aO,b4 ++ [Ji aE],by go_num,Jo,⟨?_,?_,?_,?_,?_,?_,λy E M W=>?_⟩⟩
   ·rw[show Q+(J+1)=Q+J+1 by omega];exact bj.store (.inl a7.o) Jo (by simp[aj]) bG (by simp[aj,aA,cN.o,lg])
   ·exact bl.o.later λH K=>bG H λe=>bl.o.2 H K (.inl (e▸a7.o))
   ·exact ay.o.os.trans (aR.o.os.trans V.o.os)
   ·exact ay.o.tape.trans (aR.o.tape.trans V.o.tape)
   ·exact ay.o.output.trans (aR.o.output.trans V.o.output)
   ·have M:=V.o.size;have W:=aR.o.size;simp[aj] at W ⊢;omega
   exact(bG y W).trans ((aT y (.inl E) (ak y E.1)).trans ((aR.o.block y (.inl E) M W).trans (V.o.block y E M W)))
  simp[intOf];omega
 have eT:(bd:Int)<nf:=Jo;obtain⟨cQ,dF,ds,aO,aM⟩:=dO.o.TO (by simp[dn.o]) ej;have ay:=dN.o _ ds;simp only at ay;have az:wr.cell? (Jp cQ (dF+bd))=some _:=(af (a:=(Jp cQ (dF+bd))) (bp.block cQ (Jw bz.o) Jo Jo Jo)).trans aM;rw[eS] at az;obtain⟨ak,aq⟩:∃ak,en[bd]'(Jw dn.o)=ak:=⟨_,rfl⟩;rw[aq] at az;have bZ:(fs ak).isSome=true:=dW.o ak (by rw[<-aq];exact ah _);obtain⟨aw,ar⟩:=Option.isSome_iff_exists.1 bZ;have eX:=dk.o.name ak bZ;have aV:=dk.o.text ak aw ar;have ax:Below w.heap.size w wr:=by rw[de.o];exact cC
 have K:MapAt prog 9 wr a8 nf (Ag fs):=dK.o.kept (bp.block a8 Jo Jo Jo Jo);have ad:=K.look (t:=158) (z:=.string ⟨#[]⟩) ja underlying158 Jk (kZ ak Jo);rw[mL,ar] at ad;simp only[eO,fu] at ad;obtain⟨dr,dq,-,-,aE,-,-,J⟩:=(cJ.o.below ax).cells;subst ds;obtain⟨O,b1⟩:=Je wr.heap.size;have e5:Y<=O:=by rw[<-b1,<-bz.o];exact bp.size
 obtain⟨bw,E,db,T,aL⟩:∃bw,wr.alloc (.cells #[.string (S aw),Jn] 166)=bw/\bw.heap.size=O+1/\Below O wr bw/\bw.heap[O]?=some (.cells #[.string (S aw),Jn] 166 (0,0)):=
  ⟨_,rfl,by simp[b1],by rw[<-b1];exact Below.one _ _,by rw[<-b1];exact heap_alloc_new _ _⟩
 obtain⟨be,aK,ek,V,aU⟩:∃be,bw.alloc (.cells #[.string ⟨#[]⟩,Jn] 166)=be/\be.heap.size=O+2/\Below (O+1) bw be/\be.heap[O+1]?=some (.cells #[.string ⟨#[]⟩,Jn] 166 (0,0)):=
  ⟨_,rfl,by simp[db],by rw[<-db];exact Below.one _ _,by rw[<-db];exact heap_alloc_new _ _⟩
 have X:Below wr.heap.size wr bw:=by rw[b1];exact T
 have ao:=(J.below X).look (t:=159) (z:=.agg #[.string ⟨#[]⟩,Jn]) ja underlying159 Jk (kZ ak Jo);simp only[gN] at ao;rw[<-E] at ao;have aF:=al X aE;rw[<-E] at aF;have dY:=Jh E;have dZ:=Jh aK;have cL:=Jh ek;have d0:=Jh b1;have dI:=Jh (show Below O wr be from T.trans (V.mono Jo));have d5:=Jh (show be.heap[O]?=_ from(V.block O Jo).trans aL);have eJ:be.cell? (Jp (O+1) 0)=some (.string ⟨#[]⟩):=(aa aU 0).trans rfl;have aC:=Jh (show JC 163 #[.string ⟨#[]⟩] be _ from sw [] be Js);have dg:=Jh cg;have dL:=Jh cT;have b6:=Jh bp;have eC:=Jh cC;have eE:=Jh K;have eD:=Jh J;have b7:=Jh cD;have bV:=Jh cE;have dm:=Jh bY;clear E aK T V aL aU cg cT bp cC K J cD cE bY aq bZ ar aM aO ax X ay;go_wp2_with fail;simp only[dY.o,dZ.o];refine aC.o.mono ?_;rintro e b3 ⟨eI,eK,rfl,-,E⟩;simp only[show ms ([]:JU).length=0 from rfl];obtain⟨ax,J⟩:=Je aw.length;have a7:(S aw).size=ax:=by rw[bH,J]
 have e4:ax<=1792:=Jo;have aT:IntKind.u64.wrap (ax:Int)=ax:=by simp[IntKind.wrap,IntKind.bits,IntKind.signed];omega
 have cA:=Jh ((E.block O (by rw[cL.o];omega)).trans d5.o);have dU:=Jh (show Below O wr b3 from dI.o.trans (E.mono (by rw[cL.o];omega)));have bE:=Jh (show O+2<=b3.heap.size by have:=E.size;have:=cL.o;omega);have dh:=Jh (λV=>ri (S ak) V (by rw[bH];omega));simp only[cW] at dh;have dR:=Jh (λV=>eY ax V Jo);have dp:=Jh J;have eA:(S (text ak)).size<=17:=by
  rw[bH];unfold text;rw[ab];have:=jb 0 ak.length Jo;omega
 have eB:(S (uint ax)).size<=2:=by rw[bH];exact jb 1 ax Jo
 obtain⟨cF,dA⟩:∃ar,(S (text ak)).size=ar:=⟨_,rfl⟩;obtain⟨cG,dB⟩:∃ar,(S (uint ax)).size=ar:=⟨_,rfl⟩;obtain⟨dH,el⟩:∃ar,(S am).size=ar:=⟨_,rfl⟩;have aW:dH<=2000:=by rw[<-el,bH];have:=b7.o;omega
 rw[dA] at eA;rw[dB] at eB;have ay:S (text ak) ++ S (uint ax)=S (text ak ++ uint ax):=ef _ _;have aR:(S (text ak ++ uint ax)).size=cF+cG:=by rw[<-ay,ByteArray.size_append,dA,dB]
 have aM:S am ++ S (text ak ++ uint ax)=S (am ++ (text ak ++ uint ax)):=ef _ _;have a6:(9223372036854775807<cF+cG)=False:=by simp;omega
 have a1:(9223372036854775807<dH+(cF+cG))=False:=by simp;omega
 clear E aV J aC aF ad ao az aE;go_wp2_with fail;refine cB (n:=10) (S:=λw'=>w'.heap[O]?=some (.cells #[.string (S aw),Jn] 166 (0,0))/\True) c8 10 rfl ⟨cA.o,trivial⟩ (λbm=>?_);refine JH 0 (hy:=by(intro w aZ;obtain⟨M,W⟩:=aZ;have J:=(aa M 0).trans rfl;go_simp)<;>with_reducible rfl) (h:=JH 1 (hy:=by(intro w aZ;obtain⟨M,W⟩:=aZ;have J:=(aa M 0).trans rfl;go_simp)<;>with_reducible rfl) (h:=JH 3 (hy:=by(intro w aZ;obtain⟨M,W⟩:=aZ;have J:=(aa M 0).trans rfl;go_simp)<;>with_reducible rfl) (h:=JH 4 (hy:=by(intro w aZ;obtain⟨M,W⟩:=aZ;have J:=(aa M 0).trans rfl;go_simp)<;>with_reducible rfl) (h:=JH 5 (hy:=by(intro w aZ;obtain⟨M,W⟩:=aZ;have J:=(aa M 0).trans rfl;go_simp)<;>with_reducible rfl) (h:=JH 6 (hy:=by(intro w aZ;obtain⟨M,W⟩:=aZ;have J:=(aa M 0).trans rfl;go_simp)<;>with_reducible rfl) (h:=?_))))));refine JM 2 (h:=λaX aq=>?_);go_simp;refine(dh.o _).mono ?_;rintro ce ez ⟨rfl,K⟩;have E:Below b3.heap.size b3 ez:=K.h;refine aq.out _ _ ⟨(E.block O (Jw bE.o)).trans cA.o,trivial⟩ (λbm=>?_);clear aq aX;have dV:=Jh E;clear K E;try simp only[an,JY]
 refine JM 7 (h:=λaX aq=>?_);go_simp;refine(dR.o _).mono ?_;rintro ce cv ⟨rfl,K⟩;have E:Below b3.heap.size b3 cv:=dV.o.then K;refine aq.out _ _ ⟨(E.block O (Jw bE.o)).trans cA.o,trivial⟩ (λbm=>?_);clear aq aX;have b5:=Jh E;clear K E;try simp only[an,JY]
 refine JH 8 (h:=?_);try simp only[ay]
 refine JH 9 (h:=?_);try simp only[aM]
 refine cy Jk ?_;have aE:=Jh (sw aw cv (by rw[dp.o];omega));have ao:=Jh ((b5.o.block O (Jw bE.o)).trans cA.o);have J:cv.cell? (Jp O 0)=some (.string (S aw)):=(aa ao.o 0).trans rfl;go_wp2_with fail;refine aE.o.mono ?_;rintro e aL ⟨d9,ea,rfl,bI,aK⟩;obtain⟨az,br⟩:=Je (ms aw.length);have eN:az<=28:=by rw[<-br,dp.o];unfold ms;omega
 rw[br] at bI ⊢;obtain⟨T,cf⟩:=Je aL.heap.size;have e6:O+2<=T:=by have M:=bE.o;have W:=b5.o.size;have au:=aK.size;omega
 have ad:Below O wr aL:=dU.o.trans ((b5.o.then aK).mono (Jw bE.o));have X:∀y,y<O->aL.heap[y]?=wr.heap[y]?:=λy E=>ad.block y E;have bK:∀H,U.ownBlock=some H->¬H<Y/\H<O:=λH K=>by have:=dg.o.own K;rw[d0.o] at this;exact this
 have ci:gH (λy=>R0 T U y∨(Jn:Value).ownBlock=some y) Y D (D+1+1) (D+1) Q Q (.string ⟨#[]⟩) (Jn) U aL:=
  dg.o.move (by have:=ad.size;exact this) (X _ Jo) (X _ Jo) (λy M W au _=>X y Jo)
   (λH K=>⟨λM=>by
    rcases M with M|M
    ·exact M.2 K
    simp[aG] at M,X H (bK H K).2⟩)
 have aO:aL.heap[O]?=some (.cells #[.string (S aw),Jn] 166 (0,0)):=(aK.block O (Jx bE.o b5.o.size)).trans ao.o;obtain⟨cI,aC⟩:=Je ((am ++ (text ak ++ uint ax)).length);have aF:cI<=1+75*bd+19:=by
  have M:(text ak ++ uint ax).length=cF+cG:=by rw[<-aR,bH]
  rw[<-aC,ab,M];have:=b7.o;omega
 have dP:=Jh (show WY Y T D (D+1+1) (D+1) O Q cI az aw U aL (.string (S (am ++ (text ak ++ uint ax)))) (Ji (0:Nat)) aL from
  ⟨0,_,U,Jn,[],rfl,rfl,Jo,⟨by rw[aC];omega,ci,aO,bP.nil _ _ _ _,rfl,rfl,rfl,ac _,λ_ _ _ _ _=>rfl⟩⟩)
 have bf:=Jh bI;have bS:=Jh cf;have bC:=Jh aK;have bU:=Jh ad;have df:=Jh aF;have bg:=Jh bK;have eF:=Jh br;clear bI cf aK ad X bK ci aO aC aF br aE ao J ay aM aR a6 a1 aW a7 aT;go_wp2_with fail;go_loopw [8,65] (λav bM wr=>WY Y T D (D+1+1) (D+1) O Q cI az aw U aL av bM wr) (λ_ bM _=>az - (intOf bM).toNat)
 case atStart=>exact dP.o
 obtain⟨J,cd,bQ,aV,b4,rfl,rfl,eg,X⟩:=hrel;by_cases ck:J<az;rotate_left
 ·obtain rfl:J=az:=Jo;have eh:=Jf ((J:Int)<(J:Int));obtain⟨cH,cP,rfl⟩:=X.secs.form;have aC:∀y,y<T->(∀H,U.ownBlock=some H->y≠H)->R0 T U y:=λy E bj=>⟨E,λe=>bj y e rfl⟩;have av:∀y,y<Y->R0 T U y:=λy E=>aC y Jo λH K e=>(bg.o H K).1 Jo;have du:MapAt prog 9 wr (D+1) em d7:=dL.o.kept ((X.block (D+1) (av _ Jo) Jo Jo Jo).trans (bU.o.block (D+1) Jo));obtain⟨aW,e3,dv,c1,bZ⟩:=du.put (t:=159) ja underlying159 (by have:=dm.o;unfold maxLen;omega) (kZ ak Jo) (.agg #[.string (S aw),.slice cH J cP]);have bG:∀y,y<wr.heap.size->y≠D+1->aW.heap[y]?=wr.heap[y]?:=λy E bj=>c1.block y E (by simpa using bj);have bt:=X.plan.cells;obtain⟨eb,-⟩:=aP bt 1;simp only[lg,aH,aD,aS] at eb;obtain⟨et,-⟩:=aP X.row 0;obtain⟨eu,-⟩:=aP X.row 1;simp only[aH,aD,aS] at et eu;have da:D+1+1<wr.heap.size:=(Jl bt);have dz:O<wr.heap.size:=(Jl X.row);have dc:=(bG _ da Jo).trans bt;have dD:=(bG _ dz Jo).trans X.row;obtain⟨ed,e7⟩:=aP dc 4;obtain⟨ec,-⟩:=aP dD 1;simp only[lg,aH,aD,aS] at ed ec;have eR:IntKind.i64.wrap ((Q:Int)+(J:Int))=((Q+J:Nat):Int):=by rw[aB];have:=bV.o;omega
  have V:=Jh X;have cb:=Jh bG;have dM:=Jh dv;have eH:=Jh bZ;have b8:=Jh c1;have d6:=Jh dc;have bk:=Jh av;have dX:=Jh da;clear X du bG dv bZ c1 bt dc dD dz aC av ck da;go_wp2_with fail;go_roundw
  case rel=>
   have bG:∀y,y≠D+1+1->(aW.setCell (Jp (D+1+1) 4) (Ji ((Q+J:Nat):Int))).heap[y]?=aW.heap[y]?:=λy E=>ae _ _ _ _ (by simpa using E);have da:(aW.setCell (Jp (D+1+1) 4) (Ji ((Q+J:Nat):Int))).heap[D+1+1]?=some (.cells (lg bQ (.string ⟨#[]⟩) (Jn) (D+1) (Q+J) (Q+J)) 171 (0,0)):=by simp[aj,aA,d6.o,lg]
   have dc:wr.heap.size<=(aW.setCell (Jp (D+1+1) 4) (Ji ((Q+J:Nat):Int))).heap.size:=by have:=b8.o.size;simpa [aj] using this
   have b0:T<=wr.heap.size:=by rw[<-bS.o];exact V.o.size
   have c1:gH (λy=>y<Y) Y D (D+1+1) (D+1) (Q+J) Q (.string ⟨#[]⟩) (Jn) bQ aW:=by
    refine V.o.plan.move b8.o.size (cb.o D Jo Jo) (cb.o _ dX.o Jo) (λy E M W au=>cb.o y Jo au) (λH K=>⟨λad=>?_,?_⟩)
    ·exact(V.o.plan.own K).1 (.inl (bk.o H ad))
    exact cb.o H (V.o.plan.own K).2 (λe=>(V.o.plan.own K).1 (.inl (bk.o H Jo)))
   refine⟨bd+1,Q+J,_,cd,bQ,_,by go_num,rfl,Jo,?_,Jw bV.o,?_,c1.store (by show D+1+1<Y;omega) Jo (by simp[aj]) bG da,dM.o.kept (bG _ Jo),?_⟩
   ·have M:=V.o.dl;have W:=df.o;omega
   ·have:=dm.o;split<;>omega
   refine⟨?_,?_,?_,?_,λy E M W au=>?_⟩
   ·exact(show(aW.setCell (Jp (D+1+1) 4) (Ji ((Q+J:Nat):Int))).os=aW.os from rfl).trans (b8.o.os.trans (V.o.os.trans (bU.o.os.trans b6.o.os)))
   ·exact(show(aW.setCell (Jp (D+1+1) 4) (Ji ((Q+J:Nat):Int))).tape=aW.tape from rfl).trans (b8.o.tape.trans (V.o.tape.trans (bU.o.tape.trans b6.o.tape)))
   ·exact(show(aW.setCell (Jp (D+1+1) 4) (Ji ((Q+J:Nat):Int))).output=aW.output from rfl).trans (b8.o.output.trans (V.o.output.trans (bU.o.output.trans b6.o.output)))
   ·exact ap b6.o.size (ap bU.o.size (ap V.o.size dc))
   exact(bG y W).trans ((cb.o y Jo au).trans ((V.o.block y (bk.o y E) M W Jo).trans ((bU.o.block y Jo).trans (b6.o.block y E M W au))))
  simp[intOf];omega
 have ei:(J:Int)<az:=Jo;have ec:=Jf ((J:Int)<0);have aC:∀y,y<T->(∀H,U.ownBlock=some H->y≠H)->R0 T U y:=λy E bj=>⟨E,λe=>bj y e rfl⟩;have bn:R0 T U D:=aC D Jo λH K e=>Jw (bg.o H K);have bo:R0 T U (D+1+1):=aC _ Jo λH K e=>Jw (bg.o H K);have ay:R0 T U O:=aC O Jo λH K e=>Jw (bg.o H K);obtain⟨ao,bh,-,-⟩:=bf.o.own Jo;subst bh;have cY:cv.heap.size<=ao:=ft λad=>bf.o.2 ao rfl ad;have cj:ao<T:=by have:=bf.o.Ve (g:=ao) rfl;have:=bS.o;omega
 have aF:O+2<=cv.heap.size:=by have M:=bE.o;have W:=b5.o.size;omega
 obtain⟨cR,dd,bh,-,ct⟩:=bf.o.rd.TO Js ck;obtain⟨rfl,rfl⟩:ao=cR/\0=dd:=by simpa using bh
 have bR:wr.cell? (Jp ao (0+J))=some _:=(af (a:=(Jp ao (0+J))) (X.block ao (aC ao cj λH K e=>Jw (bg.o H K)) Jo Jo Jo)).trans ct;rw[eS,gS] at bR;obtain⟨ar,cq⟩:∃ar:ByteArray,Uq aw J= .string ar:=⟨_,rfl⟩;rw[cq,bB] at bR;have b0:T<=wr.heap.size:=by rw[<-bS.o];exact X.size
 have av:∀y,y<Y->R0 T U y:=λy E=>aC y Jo λH K e=>(bg.o H K).1 Jo;have bA:=Jh (EX (λy=>R0 T U y∨aV.ownBlock=some y) Y D (D+1+1) (D+1) (Q+J) Q _ _ bQ ar wr X.plan (λy E=>.inl (av y E)) (.inl bn) (.inl bo) Jo (Jw bV.o)
  (λy E=>by
   rcases E with E|E
   ·have:=E.1;omega
   exact X.secs.Ve E))
 obtain⟨aE,cn⟩:=Je (2+(Q+J));have eu:aE<16384:=Jw bV.o;rw[cn] at bA;have eb:IntKind.u64.wrap (aE:Int)=aE:=by rw[bD];omega
 have dc:=Jh (λV=>eY aE V Jo);obtain⟨c1,dX⟩:∃ar,(S cd).size=ar:=⟨_,rfl⟩;obtain⟨da,cH⟩:∃ar,(S (uint aE)).size=ar:=⟨_,rfl⟩;have eH:c1<=3000:=by rw[<-dX,bH];have:=X.dl;have:=df.o;omega
 have eR:da<=2:=by rw[<-cH,bH];exact jb 1 aE Jo
 have e3:(9223372036854775807<c1+da)=False:=by simp;omega
 have dM:S cd ++ S (uint aE)=S (cd ++ uint aE):=ef _ _;have ed:IntKind.i64.wrap ((J:Int)+1)=((J+1:Nat):Int):=by rw[aB];omega
 have V:=Jh X;have d6:=Jh aC;have bx:=Jh bn;have a7:=Jh bo;have bt:=Jh ay;have bk:=Jh av;have b9:=Jh b0;clear X aC bn bo ay av b0 ct cq cn cY cj aF bh;go_wp2_with fail;refine bA.o.mono ?_;rintro ce aF ⟨rfl,a1,ba,bc,cU⟩;have ay:aF.heap[O]?=some (.cells #[.string (S aw),aV] 166 (0,0)):=(bc.block O (.inl bt.o) Jo Jo).trans V.o.row;obtain⟨dD,e7⟩:=aP ay 1;simp only[aH,aD,aS] at dD;have cm:bP (λy=>R0 T U y∨a1.ownBlock=some y) 3 1 aV J b4 aF:=
  (V.o.secs.later λH K=>bc.block H (.inr K) (λe=>V.o.secs.2 H K (.inl (e▸bx.o))) (λe=>V.o.secs.2 H K (.inl (e▸a7.o)))).shift λH K ad=>by
   rcases ad with ad|ad
   ·exact V.o.secs.2 H K (.inl ad)
   exact(ba.own ad).1 (.inr K)
 have cl:gm (λy=>R0 T U y∨a1.ownBlock=some y) aF:=λy E=>by
  rcases E with E|E
  ·have M:=E.1;have W:=bc.size;have au:=b9.o;omega
  exact(ba.own E).2
 have a6:=Jh ba;have aR:=Jh bc;have cM:=Jh cm;have cK:=Jh cl;have du:=Jh ay;clear ba bc cU ay cm cl bA bR;go_wp2_with (at_builtin;go_must (refine bb rfl (.tmp 91) (.tmp 93) 23 Jr 3 (Ji 0) 1 8 underlying23 my rfl Jd (λy=>R0 T U y∨a1.ownBlock=some y) J _ _ aF #[Ji aE] rfl (by intro ev co;simp at co;subst co;rfl) cM.o Jr cK.o Jr Jm Jo ?_;intro ew ai bJ bL c6 cV;have bO:=(bL.block O (.inl bt.o)).trans du.o;obtain⟨cr,dG⟩:=aP bO 1;simp only[aH,aD,aS] at cr;have cN:=Jh bO;have bl:=Jh bJ;have ay:=Jh bL;obtain⟨aM,aO,rfl⟩:=bJ.form;clear bJ bL c6 cV bO));have aT:∀y,y≠O->(ai.setCell (Jp O 1) (.slice aM (J+1) aO)).heap[y]?=ai.heap[y]?:=λy E=>ae _ _ _ _ (by simpa using E);have aW:(ai.setCell (Jp O 1) (.slice aM (J+1) aO)).heap[O]?=some (.cells #[.string (S aw),.slice aM (J+1) aO] 166 (0,0)):=by simp[aj,aA,cN.o]
 have bG:(ai.setCell (Jp O 1) (.slice aM (J+1) aO)).heap.size=ai.heap.size:=by simp[aj]
 have dv:=Jh aT;have dz:=Jh aW;have cb:=Jh bG;have b8:=Jh (show(ai.setCell (Jp O 1) (.slice aM (J+1) aO)).os=ai.os/\(ai.setCell (Jp O 1) (.slice aM (J+1) aO)).tape=ai.tape/\(ai.setCell (Jp O 1) (.slice aM (J+1) aO)).output=ai.output from⟨rfl,rfl,rfl⟩);clear aT aW bG cr dG;generalize ai.setCell (Jp O 1) (.slice aM (J+1) aO)=ey at*;refine(dc.o _).mono ?_;rintro ce cP ⟨rfl,aT⟩;have aW:=Jh aT;clear aT;go_wp2_with fail;try simp only[dM]
 go_roundw
 case rel=>
  have aT:∀y,y<ai.heap.size->y≠O->cP.heap[y]?=ai.heap[y]?:=λy E bj=>(aW.o.block y (by rw[cb.o];exact E)).trans (dv.o y bj);have dy:aF.heap.size<=ai.heap.size:=ay.o.size;have et:wr.heap.size<=aF.heap.size:=aR.o.size;have eh:ai.heap.size<=cP.heap.size:=by rw[<-cb.o];exact aW.o.size
  have bG:∀y,R0 T U y->y<ai.heap.size:=λy E=>by have M:=E.1;have W:=b9.o;omega
  refine⟨J+1,cd ++ uint aE,a1,.slice aM (J+1) aO,b4 ++ [Ji aE],by go_num,rfl,Jo,⟨?_,?_,?_,?_,?_,?_,?_,?_,λy E M W au=>?_⟩⟩
  ·rw[ab];have M:=V.o.dl;rw[bH] at cH;omega
  ·rw[show Q+(J+1)=Q+J+1 by omega];refine a6.o.move Jo ?_ ?_ (λy E M W _=>?_) (λH K=>⟨λad=>?_,?_⟩)
   ·exact(aT D (bG D bx.o) Jo).trans (ay.o.block D (.inl bx.o))
   ·exact(aT _ (bG _ a7.o) Jo).trans (ay.o.block _ (.inl a7.o))
   ·exact(aT y (bG y (bk.o y E)) Jo).trans (ay.o.block y (.inl (bk.o y E)))
   ·rcases ad with ad|ad
    ·exact(a6.o.own K).1 (.inl ad)
    exact bl.o.2 H ad (.inr K)
   exact(aT H (Jw ((a6.o.own K).2)) (λe=>(a6.o.own K).1 (.inl (e▸bt.o)))).trans (ay.o.block H (.inr K))
  ·exact(aW.o.block O (by rw[cb.o];exact bG O bt.o)).trans dz.o
  ·exact bl.o.later λH K=>aT H (bl.o.Ve K) (λe=>bl.o.2 H K (.inl (e▸bt.o)))
  ·exact aW.o.os.trans (b8.o.1.trans (ay.o.os.trans (aR.o.os.trans V.o.os)))
  ·exact aW.o.tape.trans (b8.o.2.1.trans (ay.o.tape.trans (aR.o.tape.trans V.o.tape)))
  ·exact aW.o.output.trans (b8.o.2.2.trans (ay.o.output.trans (aR.o.output.trans V.o.output)))
  ·have:=V.o.size;omega
  exact(aT y (bG y E) au).trans ((ay.o.block y (.inl E)).trans ((aR.o.block y (.inl E) M W).trans (V.o.block y E M W au)))
 simp[intOf];omega
def mZ (F:Nat->Prop)(bs E nf:Nat)(fs:JU->Option JU)(w w':JW):Prop:=
 ∃D,iN D bs E nf fs w'/\jl F w w'/\∀y,D y->F y∨(w.heap.size<=y/\y<w'.heap.size)
theorem mZ.boxed {F:Nat->Prop}{bs y nf:Nat}{fs:JU->Option JU}{w E w':JW}(h:mZ F bs y nf fs E w')(D:Jz w E):mZ F bs y nf fs w w':=by
 obtain⟨H,J,K,M⟩:=h;exact⟨H,J,(jl.of D).trans K λ_ _ h=>h,λQ O=>(M Q O).imp id λh=>⟨ap D.size h.1,h.2⟩⟩
def cntF (fs:JU->Option JU)(n:JU)(nf:Nat):Nat:=if(fs n).isSome=true then nf else nf+1
def sA (fs:JU->Option JU)(n:JU)(nf:Nat):Nat:=if(fs n).isSome=true then nf - 1 else nf
theorem jA.set {fs:JU->Option JU}(h:jA fs){n t:JU}(J:n.length<=16)(K:t.length<=1792):jA (eX fs n t):=by
 refine⟨λE D=>?_,λE M y=>?_⟩
 ·unfold eX at D;split at D
  ·rename_i H;rw[H];exact J
  exact h.name E D
 unfold eX at y;split at y
 ·rw[<-Option.some.inj y];exact K
 exact h.text E M y
theorem jA.del {fs:JU->Option JU}(h:jA fs)(n:JU):jA (oe fs n):=by
 refine⟨λE y=>?_,λE H D=>?_⟩
 ·unfold oe at y;split at y
  ·cases y
  exact h.name E y
 unfold oe at D;split at D
 ·cases D
 exact h.text E H D
theorem AG (p0 y D E H J:Value)(b:Bool)(w:JW):(Instr.field 171 (.agg #[p0,y,D,E,H,J,.bool b]) 5).run prog w= .ok (.bool b) w:=Jk
theorem Is (n t:JU)(nf b p r:Nat)(fs:JU->Option JU)(w:JW)(H:MapAt prog 9 w b nf (Ag fs))(T:w.cell? (Jp p 0)=some (.string (S t)))(hr:w.cell? (Jp r 0)=some (.string (S n)))(O:n.length<=16)(Q:nf<=1000):
 JC 271 #[.map (some b),Jv p,Jv r] w λe w'=>e= .returned (.tuple #[])/\MapAt prog 9 w' b (cntF fs n nf) (Ag (eX fs n t))/\w.grownBy w' (some b):=by
 obtain⟨W,U,J,K,V⟩:=H.put (t:=158) ja underlying158 Jm (kZ n Jo) (.string (S t));have E:=Jh J;have D:=Jh K;go_enter Tryz.func271,Tryz.ntmps271;go_wp2_with fail;go_end0;refine⟨rfl,?_,D.o⟩;have y:=E.o.ext λM=>Sw fs n t M;rw[mL,Option.isSome_map] at y;exact y
theorem Dt (n:JU)(nf b p:Nat)(fs:JU->Option JU)(w:JW)(H:MapAt prog 9 w b nf (Ag fs))(Q:w.cell? (Jp p 0)=some (.string (S n)))(O:n.length<=16):
 JC 272 #[.map (some b),Jv p] w λe w'=>e= .returned (.tuple #[])/\MapAt prog 9 w' b (sA fs n nf) (Ag (oe fs n))/\w.grownBy w' (some b):=by
 obtain⟨V,T,J,K,U⟩:=H.del (t:=158) ja underlying158 (kZ n Jo) 0;have E:=Jh J;have D:=Jh K;go_enter Tryz.func272,Tryz.ntmps272;go_wp2_with fail;go_end0;refine⟨rfl,?_,D.o⟩;have y:=E.o.ext λM=>Sv fs n M;rw[mL,Option.isSome_map] at y;exact y
theorem Dh (F:Nat->Prop)(bs M nf:Nat)(fs:JU->Option JU)(n t:JU)(p r:Nat)(w:JW)(h:iN F bs M nf fs w)(aT:w.cell? (Jp M 0)=some (Ji 512))(aX:w.cell? (Jp p 0)=some (.string (S t)))(hr:w.cell? (Jp r 0)=some (.string (S n)))(aq:n.length<=16)(aY:t.length<=1792)(aU:jA fs)(ba:nf<=16)(aW:cntF fs n nf<=16):
 JC 270 #[Jv bs,.func (.func 271) #[] #[Jv p,Jv r]] w λe w'=>e= .returned (Ji 0)/\mZ F bs M (cntF fs n nf) (eX fs n t) w w':=by
 have a8:=AG;obtain⟨y,E⟩:=Je w.heap.size;obtain⟨ag,J,au,aJ,aK,aL,aN,aO⟩:=h.ex;have a7:w.cell? (Jp bs 1)=some (.map (some ag)):=(aa au 1).trans rfl;have aw:=Jh (xg ag nf fs w aN);have Z:=Jh h;have U:=Jh au;have Q:=Jh (Ja aJ (Ja aK aL));have T:=Jh aO;have aF:=Jh (aU.set aq aY);have aR:bs<y:=by rw[<-E];exact h.lt
 go_enter Tryz.func270,Tryz.ntmps270;go_wp2_with fail;refine aw.o.mono ?_;rintro e aZ ⟨rfl,ah,V,ar⟩;rw[E] at ah ar;have aB:=Jh (Is n t nf y p r fs aZ ah (al V aX) (al V hr) aq Jo);have aC:=Jh V;have ab:=Jh ar;go_wp2_with fail;refine aB.o.mono ?_;rintro e O ⟨rfl,ai,ao⟩;have am:Below y w O:=by
  exact(aC.o.mono Jo).trans (ao.uj (ac _) (Jw ab.o))
 have an:Below w.heap.size w O:=by rw[E];exact am
 have az:=Jh (vo F bs M nf (cntF fs n nf) y fs (eX fs n t) O (Z.o.below an) (al an aT) ai aF.o aW);have aE:=Jh am;have ax:=Jh ai;have ad:=Jh (show y<O.heap.size by have:=ao.size;have:=ab.o;omega);go_wp2_with fail;refine az.o.mono ?_;rintro e K ⟨⟨p0,bc,bd,be,bf,bg,rfl⟩,W⟩;have ak:Below y w K:=aE.o.trans (W.mono (Jw ad.o));have av:K.heap[bs]?=_:=(ak.block bs aR).trans U.o;obtain⟨aI,bh⟩:=aP av 1;simp only[aH,aD,aS] at aI;have ay:=Jh (ax.o.below W);have D:=Jh ak;have aG:=Jh av;have af:=Jh (show y<K.heap.size by have:=W.size;have:=ad.o;omega);go_wp2_with fail;go_ret;have X:∀H,H≠bs->(K.setCell (Jp bs 1) (.map (some y))).heap[H]?=K.heap[H]?:=λH Y=>ae _ _ _ _ (by simpa using Y);obtain⟨a6,a1,Y,-,-,-,bb,-⟩:=Z.o.ex;rw[U.o] at Y;simp only[Option.some.injEq,Obj.cells.injEq,Array.mk.injEq,List.cons.injEq,Value.map.injEq,and_true,true_and] at Y;obtain⟨rfl,rfl⟩:=Y;have aV:J<y:=by rw[<-E];exact T.o.lt
 have aQ:J≠bs:=λe=>by
  obtain⟨ap,⟨aM,cl,H,-⟩,-⟩:=T.o;rw[e,U.o] at H;cases H
 refine⟨rfl,λH=>F H∨H=y,⟨y,J,?_,.inl Q.o.1,.inr rfl,.inl Q.o.2.2,ay.o.kept (X y Jo),T.o.kept ((X J aQ).trans (D.o.block J aV))⟩,⟨?_,?_,?_,?_,λH ap aM=>?_⟩,λH ap=>ap.imp id λe=>?_⟩
 ·simp[aj,aA,aG.o]
 ·exact D.o.os
 ·exact D.o.tape
 ·exact D.o.output
 ·rw[E];have:=D.o.size;simp[aj];have:=af.o;omega
 ·exact(X H λe=>aM (by rw[e];exact Q.o.1)).trans (D.o.block H Jo)
 rw[E];have:=af.o;simp[aj];omega
theorem Dg (F:Nat->Prop)(bs M nf:Nat)(fs:JU->Option JU)(n:JU)(p:Nat)(w:JW)(h:iN F bs M nf fs w)(aR:w.cell? (Jp M 0)=some (Ji 512))(aX:w.cell? (Jp p 0)=some (.string (S n)))(aV:n.length<=16)(aT:jA fs)(aW:sA fs n nf<=16):
 JC 270 #[Jv bs,.func (.func 272) #[] #[Jv p]] w λe w'=>e= .returned (Ji 0)/\mZ F bs M (sA fs n nf) (oe fs n) w w':=by
 have a7:=AG;obtain⟨y,E⟩:=Je w.heap.size;obtain⟨af,J,ar,aI,aJ,aK,aM,aN⟩:=h.ex;have a6:w.cell? (Jp bs 1)=some (.map (some af)):=(aa ar 1).trans rfl;have av:=Jh (xg af nf fs w aM);have Y:=Jh h;have U:=Jh ar;have Q:=Jh (Ja aI (Ja aJ aK));have T:=Jh aN;have aE:=Jh (aT.del n);have aQ:bs<y:=by rw[<-E];exact h.lt
 go_enter Tryz.func270,Tryz.ntmps270;go_wp2_with fail;refine av.o.mono ?_;rintro e aY ⟨rfl,ag,ak,aq⟩;rw[E] at ag aq;have az:=Jh (Dt n nf y p fs aY ag (al ak aX) aV);have aB:=Jh ak;have Z:=Jh aq;go_wp2_with fail;refine az.o.mono ?_;rintro e O ⟨rfl,ah,ao⟩;have am:Below y w O:=by
  exact(aB.o.mono Jo).trans (ao.uj (ac _) (Jw Z.o))
 have an:Below w.heap.size w O:=by rw[E];exact am
 have ay:=Jh (vo F bs M nf (sA fs n nf) y fs (oe fs n) O (Y.o.below an) (al an aR) ah aE.o aW);have aC:=Jh am;have aw:=Jh ah;have ab:=Jh (show y<O.heap.size by have:=ao.size;have:=Z.o;omega);go_wp2_with fail;refine ay.o.mono ?_;rintro e K ⟨⟨p0,ba,bb,bc,bd,be,rfl⟩,V⟩;have ai:Below y w K:=aC.o.trans (V.mono (Jw ab.o));have au:K.heap[bs]?=_:=(ai.block bs aQ).trans U.o;obtain⟨aG,bf⟩:=aP au 1;simp only[aH,aD,aS] at aG;have ax:=Jh (aw.o.below V);have D:=Jh ai;have aF:=Jh au;have ad:=Jh (show y<K.heap.size by have:=V.size;have:=ab.o;omega);go_wp2_with fail;go_ret;have W:∀H,H≠bs->(K.setCell (Jp bs 1) (.map (some y))).heap[H]?=K.heap[H]?:=λH X=>ae _ _ _ _ (by simpa using X);obtain⟨a1,aZ,X,-,-,-,a8,-⟩:=Y.o.ex;rw[U.o] at X;simp only[Option.some.injEq,Obj.cells.injEq,Array.mk.injEq,List.cons.injEq,Value.map.injEq,and_true,true_and] at X;obtain⟨rfl,rfl⟩:=X;have aU:J<y:=by rw[<-E];exact T.o.lt
 have aO:J≠bs:=λe=>by
  obtain⟨ap,⟨aL,cl,H,-⟩,-⟩:=T.o;rw[e,U.o] at H;cases H
 refine⟨rfl,λH=>F H∨H=y,⟨y,J,?_,.inl Q.o.1,.inr rfl,.inl Q.o.2.2,ax.o.kept (W y Jo),T.o.kept ((W J aO).trans (D.o.block J aU))⟩,⟨?_,?_,?_,?_,λH ap aL=>?_⟩,λH ap=>ap.imp id λe=>?_⟩
 ·simp[aj,aA,aF.o]
 ·exact D.o.os
 ·exact D.o.tape
 ·exact D.o.output
 ·rw[E];have:=D.o.size;simp[aj];have:=ad.o;omega
 ·exact(W H λe=>aL (by rw[e];exact Q.o.1)).trans (D.o.block H Jo)
 rw[E];have:=ad.o;simp[aj];omega
theorem tX (F:Nat->Prop)(bs H nf:Nat)(fs:JU->Option JU)(n t:JU)(w:JW)(h:iN F bs H nf fs w)(ad:w.cell? (Jp H 0)=some (Ji 512))(O:lC n)(ah:t.length<=1792)(ae:jA fs)(af:nf<=16)(ag:cntF fs n nf<=16):
 JC 174 #[Jv bs,.string (S n),.string (S t)] w λe w'=>e= .returned (Ji 0)/\mZ F bs H (cntF fs n nf) (eX fs n t) w w':=by
 have an:∀(D:Fn)(first y:Array Value)(w:JW),(cO D first y).run prog w= .ok (.func D first y) w:=λ_ _ _ _=>rfl;obtain⟨D,E⟩:=Je w.heap.size;obtain⟨y,ai,ao,ab,aj,ak⟩:∃y,(w.alloc (.cells #[.string (S n)] 9)).alloc (.cells #[.string (S t)] 9)=y/\y.heap.size=D+2/\Below D w y/\y.heap[D]?=some (.cells #[.string (S n)] 9 (0,0))/\y.heap[D+1]?=some (.cells #[.string (S t)] 9 (0,0)):=by
  have J:=heap_alloc_new (w.alloc (.cells #[.string (S n)] 9)) (.cells #[.string (S t)] 9);rw[aI,E] at J;refine⟨_,rfl,by simp[E],by rw[<-E];exact cZ _ _ _,?_,J⟩;rw[<-E];exact(aJ _ _ _ Js).trans (heap_alloc_new _ _)
 have Y:y.cell? (Jp D 0)=some (.string (S n)):=(aa aj 0).trans rfl;have Z:y.cell? (Jp (D+1) 0)=some (.string (S t)):=(aa ak 0).trans rfl;have K:Below w.heap.size w y:=by rw[E];exact ab
 have T:=Jh (AV n y O);have Q:=Jh (λ(M:JW)(J:Jz y M)=>Dh F bs H nf fs n t (D+1) D M ((h.below K).below J) (al J (al K ad)) (al J Z) (al J Y) O.short ah ae af ag);have U:=Jh ai;have V:=Jh K;go_enter Tryz.func174,Tryz.ntmps174;go_wp2_with fail;try simp only[U.o]
 refine T.o.mono ?_;rintro e am ⟨rfl,J⟩;have M:=Jh (Q.o am J);have W:=Jh J;go_wp2_with fail;refine M.o.mono ?_;rintro e ap ⟨rfl,ac⟩;have X:=Jh ac;go_wp2_with fail;go_ret;exact⟨rfl,(X.o.boxed W.o).boxed V.o⟩
theorem zl (F:Nat->Prop)(bs y nf:Nat)(fs:JU->Option JU)(n t:JU)(w:JW)(h:iN F bs y nf fs w)(U:w.cell? (Jp y 0)=some (Ji 512))(H:lC n)(Y:((fs n).getD []).length+t.length<=1792)(V:jA fs)(W:nf<=16)(X:cntF fs n nf<=16):
 JC 209 #[Jv bs,.string (S n),.string (S t)] w λe w'=>e= .returned (Ji 0)/\mZ F bs y (cntF fs n nf) (eX fs n ((fs n).getD [] ++ t)) w w':=by
 obtain⟨aa,Z,ac,ad,-,-,Q,-⟩:=h.cells;have E:=Q.look (t:=158) (z:=.string ⟨#[]⟩) ja underlying158 Jk (kZ n (Jw H.short));rw[mL] at E;have M:((fs n).map λt=>Value.string (S t)).getD (.string ⟨#[]⟩)= .string (S ((fs n).getD [])):=by cases fs n<;>rfl
 rw[M] at E;have J:=Jh (tX F bs y nf fs n ((fs n).getD [] ++ t) w h U H (by rw[ab];exact Y) V W X);generalize (fs n).getD []=D at*;have O:S D ++ S t=S (D ++ t):=ef _ _;have ae:(9223372036854775807<(S D).size+(S t).size)=False:=by rw[bH,bH];simp;omega
 go_enter Tryz.func209,Tryz.ntmps209;go_wp2_with fail;try simp only[O]
 refine J.o.mono ?_;rintro e af ⟨rfl,T⟩;have K:=Jh T;go_wp2_with fail;go_ret;exact⟨rfl,K.o⟩
theorem zm (F:Nat->Prop)(bs J nf:Nat)(fs:JU->Option JU)(n:JU)(w:JW)(h:iN F bs J nf fs w)(an:w.cell? (Jp J 0)=some (Ji 512))(Q:lC n)(hi:(fs n).isSome=true)(ao:jA fs)(az:nf<=16):
 JC 176 #[Jv bs,.string (S n)] w λe w'=>e= .returned (Ji 0)/\mZ F bs J (sA fs n nf) (oe fs n) w w':=by
 have ay:∀(D:Fn)(first y:Array Value)(w:JW),(cO D first y).run prog w= .ok (.func D first y) w:=λ_ _ _ _=>rfl;obtain⟨H,O⟩:=Je w.heap.size;obtain⟨y,aq,aj,ar⟩:∃y,w.alloc (.cells #[.string (S n)] 9)=y/\Below H w y/\y.heap[H]?=some (.cells #[.string (S n)] 9 (0,0)):=
  ⟨_,rfl,by rw[<-O];exact Below.one _ _,by rw[<-O];exact heap_alloc_new _ _⟩
 have U:y.cell? (Jp H 0)=some (.string (S n)):=(aa ar 0).trans rfl;have K:Below w.heap.size w y:=by rw[O];exact aj
 have Y:=Jh (AV n y Q);have am:sA fs n nf<=16:=by unfold sA;split<;>omega
 have W:=Jh (λ(E:JW)(D:Jz y E)=>Dg F bs J nf fs n H E ((h.below K).below D) (al D (al K an)) (al D U) Q.short ao am);obtain⟨ag,au,-,ah,-,-,ai,-⟩:=(h.below K).cells;have X:=Jh ai;have ae:=Jh hi;have af:=Jh Q.short;have Z:=Jh aq;have ab:=Jh K;go_enter Tryz.func176,Tryz.ntmps176;go_wp2_with fail;try simp only[Z.o]
 refine Y.o.mono ?_;rintro e M ⟨rfl,E⟩;obtain⟨T,ap⟩:∃T,((fs n).map λD=>Value.string (S D)).getD (.string ⟨#[]⟩)= .string T:=by cases fs n<;>exact⟨_,rfl⟩
 have ax:∀D,(eQ 158 (.map (some ag)) (.string (S n)) true).run prog (M.drewN D)= .ok (.tuple #[.string T,.bool true]) (M.drewN D):=λD=>by
  have V:=((X.o.below E).kept (w':=M.drewN D) rfl).xU (t:=158) (z:=.string ⟨#[]⟩) ja underlying158 Jk (kZ n (Jw af.o));rw[mL,Option.isSome_map,ae.o,ap] at V;exact V
 have aw:=al E ah;have av:=al E U;have V:=Jh (λD=>W.o (M.drewN D) (E.drewN D));have ac:=Jh E;go_wp2_with fail;go_quiet (fail);go_wp2_with fail;refine(V.o _).mono ?_;rintro e aA ⟨rfl,ak⟩;have ad:=Jh ak;go_wp2_with fail;go_ret;exact⟨rfl,(ad.o.boxed (ac.o.drewN _)).boxed ab.o⟩
def junk:Obj:=.cells #[] 0 (0,0)
structure Part (v w:JW):Prop where
 size:v.heap.size<=w.heap.size
 block:∀(k:Nat)(o:Obj),v.heap[k]?=some o->o≠junk->w.heap[k]?=some o
theorem Part.refl (w:JW):Part w w:=⟨ac _,λ_ _ y _=>y⟩
theorem Part.trans {a b c:JW}(h:Part a b)(k:Part b c):Part a c:=⟨ap h.size k.size,λD E H y=>k.block D E (h.block D E H y) y⟩
theorem Part.of {w w':JW}(h:Jz w w'):Part w w':=⟨h.size,λD _ y _=>(h.block D (Jl y)).trans y⟩
theorem Part.cell {v w:JW}(h:Part v w){a:Addr}{u:Value}(hc:v.cell? a=some u):w.cell? a=some u:=by
 unfold dL at hc ⊢;cases y:v.heap[a.block]? with
 |none=>rw[y] at hc;cases hc
 |some E=>
  rw[y] at hc;by_cases D:E=junk
  ·subst D;simp[junk] at hc
  rw[h.block _ E y D];exact hc
theorem Rd.part {v w:JW}{size n:Nat}{A:JA}{xs:List Value}(h:Rd v size A n xs)(y:Part v w):Rd w size A n xs:=
 ⟨h.1,λJ=>by
  obtain⟨D,O,E,T,H⟩:=h.2 J;have U:=y.size;exact⟨D,O,E,Jo,λM Q K=>y.cell (H M Q K)⟩⟩
theorem lu.part {v w:JW}{x:ej}{s:eP}(h:lu v x s)(y:Part v w):lu w x s:=⟨h.id,h.len,h.rd.part y⟩
theorem fI.part {v w:JW}{A:JA}{xs:List ej}{l:List eP}(h:fI v A xs l)(y:Part v w):fI w A xs l:=⟨h.len,h.rd.part y,λE D=>(h.at_ E D).part y⟩
open Classical in
noncomputable def Off (F:Nat->Prop)(w:JW):JW:={w with heap:=Array.ofFn λy:Fin w.heap.size=>if F y then junk else w.heap[y]}
theorem km (F:Nat->Prop)(w:JW):(Off F w).heap.size=w.heap.size:=by simp[Off]
theorem sK (F:Nat->Prop)(w:JW)(k:Nat)(y:¬F k):(Off F w).heap[k]?=w.heap[k]?:=by
 by_cases D:k<w.heap.size
 ·simp[Off,D,y]
 rw[Array.getElem?_eq_none (by rw[km];omega),Array.getElem?_eq_none Jo]
theorem PW (F:Nat->Prop)(w:JW)(k:Nat)(y:F k)(D:k<w.heap.size):(Off F w).heap[k]?=some junk:=by
 simp[Off,D,y]
theorem nz (F:Nat->Prop)(w:JW):Part (Off F w) w:=⟨by rw[km];exact ac _,λD K y J=>by
 by_cases E:F D
 ·have H:D<w.heap.size:=by rw[<-km F w];exact(Jl y)
  rw[PW F w D E H] at y;exact absurd (Option.some.inj y).symm J
 rw[<-sK F w D E];exact y⟩
theorem eW {F G:Nat->Prop}{w w':JW}(M:w.heap.size<=w'.heap.size)(h:∀k,k<w.heap.size->¬F k->w'.heap[k]?=w.heap[k]?)(H:∀k,k<w.heap.size->G k->F k):Part (Off F w) (Off G w'):=
 ⟨by rw[km,km];exact M,λk O D K=>by
  have E:k<w.heap.size:=by rw[<-km F w];exact(Jl D)
  by_cases y:F k
  ·rw[PW F w k y E] at D;exact absurd (Option.some.inj D).symm K
  rw[sK G w' k λJ=>y (H k E J),h k E y,<-sK F w k y];exact D⟩
theorem gP {F:Nat->Prop}{w w':JW}(h:Jz w w'):Part (Off F w) (Off F w'):=eW h.size (λD y _=>h.block D y) λ_ _ h=>h
theorem bP.off {R:Nat->Prop}{K:TypeId}{size n c:Nat}{A:JA}{xs:List Value}{w:JW}(h:bP R K size (.slice A n c) n xs w):Rd (Off R w) size A n xs:=by
 refine⟨h.1.1,λy=>?_⟩;obtain⟨D,Z,E,O,Q⟩:=h.rd.2 y;rcases h.1.2 with⟨y,-⟩|⟨Y,W,X,J,-⟩
 ·simp only[Value.slice.injEq] at y;omega
 simp only[Value.slice.injEq] at J;have H:=E.symm.trans J.1;simp only[Option.some.injEq,Addr.mk.injEq] at H;obtain⟨rfl,rfl,-⟩:=H;subst E;have M:=h.2 D rfl;refine⟨D,0,rfl,by rw[km];exact O,λU V T=>?_⟩;have y:=Q U V T;unfold dL at y ⊢;rw[sK R w D M];exact y
section
attribute [local go_sem] Oper.semAt_some
theorem SN (b:Nat)(w:JW):(binOp .eql 323 (.map (some b)) (.map none)).run prog w= .ok (.bool false) w:=Jk
theorem map_nil (w:JW):(binOp .eql 323 (.map none) (.map none)).run prog w= .ok (.bool true) w:=Jk
theorem cl {w:JW}{b:Nat}{cs:Array Value}{t:TypeId}{f:Nat × Nat}(h:w.heap[b]?=some (.cells cs t f))(j:Nat){v:Value}(y:cs[j]?=some v):w.cell? (Jp b j)=some v:=(aa h j).trans y
def vI (y:Nat)(k:Lit):Option Value:=(uF k).bind λD=>if D=[97] then some (.map (some y)) else none
theorem UE (y:Nat):vI y (.string [97])=some (.map (some y)):=rfl
theorem OX (D:Nat)(k:Lit):vI D k=od (λ_=>none) (.string [97]) (.map (some D)) k:=by
 unfold od;by_cases y:k= .string [97]
 ·rw[if_pos y,y,UE]
 rw[if_neg y];unfold vI;cases H:uF k with
 |none=>rfl
 |some J=>
  rw[bW,if_neg λE=>y (by rw[<-E];exact rC H)]
def Vi (F:Nat->Prop)(J D y nm N:Nat)(H:Lit->Option Value)(w:JW):Prop:=
 (N=0/\y=D/\MapAt prog 9 w D 0 (λ_=>none))∨
  (0<N/\F y/\y≠D/\y≠J/\MapAt prog 9 w D 1 (vI y)/\MapAt prog 9 w y nm H/\nm<=N/\∀E,N<=E->E<8->H (.string [iB E])=none)
structure si (F G:Nat->Prop) (bx N:Nat) (w:JW):Prop where
 ex:∃O c bk bh bm nm,∃(M:Lit->Option Value)(ss:List (JA × Nat)),
  w.heap[bx]?=some (.cells #[.slice O N c,.map (some bk),.map (some bh)] 195 (0,0))/\F bx/\F bk/\F bh/\bk≠bh/\ss.length=N/\
  bP (λk=>k=bx∨k=bk∨k=bh∨k=bm) 51 1 (.slice O N c) N (ss.map λs=>aQ s.1 1 s.2) w/\(∀g,(aQ O N c).ownBlock=some g->F g)/\
  (∀i(h:i<ss.length),Rd (Off G w) 2 ss[i].1 1 (dR (kE (iB i))))/\MapAt prog 9 w bk N (oF N)/\Vi F bk bh bm nm N M w
theorem MapAt.Z {P:Program}{k:TypeId}{w:JW}{b n:Nat}{D:Lit->Option Value}(h:MapAt P k w b n D){cs:Array Value}{t:TypeId}{f:Nat × Nat}(e:w.heap[b]?=some (.cells cs t f)):False:=by
 obtain⟨E,⟨H,cl,y,-⟩,-⟩:=h;rw[e] at y;cases y
section
variable {F G:Nat->Prop} {bx N:Nat} {w:JW}
theorem si.at (h:si F G bx N w):rW F bx N w:=by
 obtain⟨y,H,E,D,V,W,U,X,J,K,M,O,Q,-,-,-,-,T,-⟩:=h.ex;exact⟨y,H,E,D,N,J,K,M,O,Q,ac _,T⟩
theorem si.all (h:si F G bx N w):Fx bx N w:=by
 obtain⟨D,E,V,U,W,X,T,Q,y,-,-,-,-,H,J,-,K,-,-⟩:=h.ex;exact⟨D,E,Q,(aa y 0).trans rfl,(Jl y),H,J.rd,λO M=>(K O M).part (nz G w)⟩
theorem si.move {O Q:Nat->Prop}{w':JW}(h:si F G bx N w)(y:∀k,k<w.heap.size->F k->O k/\w'.heap[k]?=w.heap[k]?)(ak:Part (Off G w) (Off Q w')):si O Q bx N w':=by
 obtain⟨ac,ad,T,H,J,ap,ab,aq,V,ae,af,K,aj,am,M,Y,al,X,W⟩:=h.ex;have Z:=y bx (Jl V) ae;have aa:=y T X.lt af;refine⟨ac,ad,T,H,J,ap,ab,aq,Z.2.trans V,Z.1,aa.1,?_,aj,am,M.later λD E=>(y D (M.1.lt D E).2 (Y D E)).2,λD E=>(y D (M.1.lt D E).2 (Y D E)).1,λag U=>(al ag U).part ak,X.kept aa.2,?_⟩
 ·rcases W with⟨-,-,h⟩|⟨-,-,-,-,h,-⟩<;>exact(y H h.lt K).1
 rcases W with⟨D,ag,h⟩|⟨D,U,an,ao,h,E,ai,ah⟩
 ·exact .inl ⟨D,ag,h.kept (y H h.lt K).2⟩
 exact .inr ⟨D,(y J E.lt U).1,an,ao,h.kept (y H h.lt K).2,E.kept (y J E.lt U).2,ai,ah⟩
end
theorem GK (D:JW)(u:Value)(H:TypeId):Rd (D.alloc (.cells #[u] H)) 1 (some (Jp D.heap.size 0)) 1 [u]:=by
 refine⟨Js,λ_=>⟨_,0,rfl,Js,λE J y=>?_⟩⟩
 match E,y with
 |0,y=>
  obtain rfl:u=J:=by simpa using y
  simp
 |E+1,y=>simp at y
theorem JR {i j:Nat}(hi:i<100)(D:j<100)(h:i≠j):(Lit.string [iB i])≠.string [iB j]:=λy=>h (BX hi D (by simpa using y))
theorem SJ:(prog.info? 51).map (λi=>(i.zero,i.size,i.bytes))=some (some (Jn),1,24):=Jk
theorem Ee {F G:Nat->Prop}{U N:Nat}{w w1 w4 D:JW}{O:JA}{Q M K H nm c4:Nat}{Y:Lit->Option Value}{T:List (JA × Nat)}{W:JA}
 (ao:∀k,G k->k<w.heap.size) (aa:∀k,F k->G k) (ak:F U) (al:F M) (am:F K) (av:M≠K) (aj:T.length=N) (aG:w1.heap.size<=w4.heap.size) (aF:w.heap.size<=w1.heap.size) (V:Jz w w4)
 (ax:D.os=w4.os) (aB:D.tape=w4.tape) (ay:D.output=w4.output) (aH:w4.heap.size<=D.heap.size) (ae:∀k,k<w4.heap.size->¬F k->D.heap[k]?=w4.heap[k]?)
 (aC:D.heap[U]?=some (.cells #[.slice O (N+1) Q,.map (some M),.map (some K)] 195 (0,0)))
 (ag:bP (λk=>k=U∨k=M∨k=K∨k=H) 51 1 (.slice O (N+1) Q) (N+1) ((T.map λs=>aQ s.1 1 s.2) ++ [.slice W 1 c4]) D) (ho:∀g,(aQ O (N+1) Q).ownBlock=some g->F g∨w4.heap.size<=g)
 (aA:∀i(h:i<T.length),Rd (Off G w) 2 T[i].1 1 (dR (kE (iB i)))) (az:bP (λk=>k<w1.heap.size) 115 2 (.slice W 1 c4) 1 (dR (kE (iB N))) w4)
 (ap:MapAt prog 9 D M (N+1) (oF (N+1))) (an:F H∨w4.heap.size<=H) (aD:H≠K) (aE:H≠M) (aq:MapAt prog 9 D K 1 (vI H)) (ad:MapAt prog 9 D H nm Y) (aw:nm<=N+1) (ar:∀j,N+1<=j->j<8->Y (.string [iB j])=none):
 ∃X,si X (λk=>(k<w.heap.size/\G k)∨X k) U (N+1) D/\jl F w D/\∀k,X k->F k∨(w.heap.size<=k/\k<D.heap.size):=by
 have ai:∀k,F k->k<w.heap.size:=λk E=>ao k (aa k E);have Z:∀k,F k∨(aQ O (N+1) Q).ownBlock=some k∨k=H->F k∨(w4.heap.size<=k/\k<D.heap.size):=λk E=>by
  rcases E with h|h|h
  ·exact .inl h
  ·exact(ho k h).imp id λJ=>⟨J,(ag.1.lt k h).2⟩
  subst h;exact an.imp id λJ=>⟨J,ad.lt⟩
 have ac:∀k,k<w.heap.size->¬F k->D.heap[k]?=w.heap[k]?:=λk E y=>(ae k Jo y).trans (V.block k E);refine⟨λk=>F k∨(aQ O (N+1) Q).ownBlock=some k∨k=H,⟨O,Q,M,K,H,nm,Y,T ++ [(W,c4)],aC,.inl ak,.inl al,.inl am,av,by simp[aj],?_,λg y=>.inr (.inl y),λi af=>?_,ap,.inr ⟨Jo,.inr (.inr rfl),aD,aE,aq,ad,aw,ar⟩⟩,⟨?_,?_,?_,Jo,ac⟩,λk E=>(Z k E).imp id λJ=>⟨Jo,J.2⟩⟩
 ·rw[cH];exact ag
 ·by_cases ah:i<T.length
  ·rw[du ah];refine(aA i ah).part (eW Jo (λk E y=>ac k E λJ=>y (aa k J)) λk E y=>?_);rcases y with y|y
   ·exact y.2
   rcases Z k y with h|h
   ·exact aa k h
   omega
  have au:i=N:=by rw[ab] at af;simp at af;omega
  subst au;rw[cK Jo];simp only[aj,fG,bf];refine az.off.part (eW Jo (λk E y=>ae k E λJ=>y (by have:=ai k J;show k<w1.heap.size;omega)) λk E y=>?_);show k<w1.heap.size;rcases y with y|y
  ·omega
  rcases Z k y with h|h
  ·have:=ai k h;omega
  omega
 ·rw[ax,V.os]
 ·rw[aB,V.tape]
 rw[ay,V.output]
theorem Gl (F G:Nat->Prop)(D N:Nat)(A:JA)(k:Nat)(w:JW)(h:si F G D N w)(dg:∀k,F k->G k)(X:∀k,G k->k<w.heap.size)(dX:N<8)(cG:Rd (Off F w) 2 A 1 (dR (kE (iB N)))):
 JC 96 #[Jv D,.slice A 1 k] w λe w'=>e= .returned (.tuple #[Ji N,Ji 0])/\
  ∃b7,si b7 (λk=>(k<w.heap.size/\G k)∨b7 k) D (N+1) w'/\jl F w w'/\∀k,b7 k->F k∨(w.heap.size<=k/\k<w'.heap.size):=by
 have b5:prog.follows .mixedOrders=true:=Jk;have d3:=@run_makeMap prog;have d2:=SN;have d4:=map_nil;have y:Rd w 2 A 1 (dR (kE (iB N))):=cG.part (nz F w);have dy:=Jh cG;obtain⟨aM,aO,aq,H,U,bw,ao,dt,aS,K,M,O,aa,ad,W,ab,ac,T,Q⟩:=h.ex;have dx:=Jh (BU (iB N) (by rw[iI Jo];omega) (by rw[iI Jo];omega) A k w y);have J:=Jh (λE V=>xf A k 1 [kE (iB N)] E (by simpa using y.below V) rfl Jo);have V:=kZ (mz (iB N)) (by unfold mz text uint;simp);have E:=qM (N:=N) (i:=N) Jo Jo;rw[if_neg Jo] at E;have dA:=Jh W;have cd:=Jh ab;have cY:=Jh ac;have cR:=Jh T;have cQ:=Jh Q;have cO:=Jh aS;have dP:=Jh y;have cX:=Jh V;have cW:=Jh E;have Y:=Jh (Ja K (Ja M (Ja O aa)));have bY:=Jh (Ja dg X);have cZ:=Jh ad;clear h aS K M O aa ad W ab ac T Q dg X y cG V E;go_enter Tryz.func96,Tryz.ntmps96;go_wp2_with fail;refine dx.o.mono ?_;rintro e ac ⟨rfl,y⟩;have E:=(y.block D (Jl cO.o)).trans cO.o;have da:=cl E 0 rfl;have dS:=cl E 1 rfl;have dn:=(cR.o.below y).xU (t:=122) (z:=Ji 0) ja underlying122 Jk cX.o;rw[cW.o] at dn;simp only[gN,gU] at dn;have dY:=Jf ((N:Int)≥200);have dZ:=Jf ((200:Int)<=N);have be:=Jh y;have b0:=Jh E;have dw:=Jh (J.o ac.drew y.drew);have bD:=Jh (dA.o.below y);have d8:=y.size
 have cc:=Jh (show H<ac.heap.size/\U<ac.heap.size by
  rcases cQ.o with⟨-,e,h⟩|⟨-,-,-,-,h,K,-⟩
  ·have:=h.lt;omega
  have:=h.lt;have:=K.lt;omega)
 clear y E J;have dk:D<ac.heap.size:=(Jl b0.o);go_wp2_with fail;refine cB (n:=9) (S:=λw'=>w'.cell? (Jp D 0)=some (.slice aM N aO)) b5 9 rfl da (λar=>?_);refine JH 0 (h:=JH 1 (h:=JH 2 (h:=JH 3 (h:=JH 4 (h:=JH 5 (h:=?_))))));refine JM 6 (h:=λag W=>?_);go_simp;refine dw.o.mono ?_;rintro dV ad ⟨bX,b1,rfl,bu,az⟩;have O:Jz ac ad:=az.h;have av:=(O.cell (p:=(Jp D 0)) dk).trans da;refine W.out _ _ av (λar=>?_);clear W ag;try simp only[an,JY]
 refine JM 7 (h:=λag W=>?_);go_simp;have ab:=Below.one ad (.cells #[.slice bX 1 b1] 51);refine W.out _ _ (al ab av) (λar=>?_);clear W ag;try simp only[an,JY]
 refine JM 8 (h:=λag W=>?_);obtain⟨aZ,df⟩:∃y,ad.heap.size=y:=⟨_,rfl⟩;have de:=O.size;have aB:=bD.o.below (O.then ab);have aT:∀E,(aQ aM N aO).ownBlock=some E->E<ac.heap.size:=λE T=>(bD.o.1.lt E T).2;refine bN rfl (.tmp 43) (.tmp 46) 193 rfl 51 (Jn) 1 24 underlying193 SJ rfl Jd (λM=>M<aZ/\(aQ aM N aO).ownBlock≠some M) N _ (.slice aM N aO) _ (aB.shift λE T bl=>bl.2 T) rfl (λM bk=>by have dd:M<aZ:=bk.1;simp;omega) _ 1 _ [.slice bX 1 b1] rfl (GK ad _ _) (by intro dv bb;simp at bb;subst bb;rfl) Jm Jo ?_;intro eb aJ aW aH b3 b2;obtain⟨aN,aR,rfl⟩:=aW.form;have aw:∀k,k<ac.heap.size->(aQ aM N aO).ownBlock≠some k->aJ.heap[k]?=ac.heap[k]?:=λk J aa=>(aH.block k ⟨Jo,aa⟩).trans ((ab.block k Jo).trans (O.block k J));have aC:(aQ aM N aO).ownBlock≠some D:=λe=>bD.o.2 D e (.inl rfl);have ah:=(aw D dk aC).trans b0.o;refine W.out _ _ (cl ah 0 rfl) (λar=>?_);clear W ag;try simp only[an,JY]
 refine cy Jk ?_;have d9:=cl ah 0 rfl;have ec:=(aP ah 0).2;obtain⟨bp,bT⟩:=Je (aJ.setCell (Jp D 0) (.slice aN (N+1) aR));have dr:bp.heap[D]?=some (.cells #[.slice aN (N+1) aR,.map (some aq),.map (some H)] 195 (0,0)):=by rw[<-bT];exact(am ah _).trans rfl
 have au:∀k,k≠D->bp.heap[k]?=aJ.heap[k]?:=λk J=>by rw[<-bT];exact ae _ _ _ _ (by simpa using J)
 have aL:bp.heap.size=aJ.heap.size:=by rw[<-bT];simp[aj]
 have d7:aZ+1<=aJ.heap.size:=by have:=aH.size;simp at this;omega
 have aD:∀k,(aQ aM N aO).ownBlock=some k->∃db du,ac.heap[k]?=some (.cells db du (0,0)):=λk J=>by
  rcases bD.o.1.2 with⟨y,_⟩|⟨K,V,ai,y,_,Q,_⟩
  ·rw[y] at J;simp[aG] at J
  rw[y] at J;obtain rfl:K=k:=by simpa [aG] using J
  exact⟨_,_,Q⟩
 have ai:=cR.o.below be.o;have bv:∀k,k<ac.heap.size->(aQ aM N aO).ownBlock≠some k->k≠D->bp.heap[k]?=ac.heap[k]?:=λk J aa y=>(au k y).trans (aw k J aa);have ax:∀y K ao,MapAt prog 9 ac y K ao->MapAt prog 9 bp y K ao:=λy K ao h=>h.kept (bv y h.lt (λe=>by obtain⟨db,du,a8⟩:=aD y e;exact h.Z a8) λe=>by subst e;exact h.Z b0.o);obtain⟨V,d5,ba,Q,aK⟩:=(ax _ _ _ ai).put (t:=122) ja underlying122 Jm cX.o (Ji N);have d0:aq<ac.heap.size:=ai.lt;have dH:D≠aq:=λe=>by subst e;exact ai.Z b0.o
 have aF:∀k,k<bp.heap.size->k≠aq->V.heap[k]?=bp.heap[k]?:=λk J aa=>Q.block k J λe=>aa (by rw[Option.some.inj e]);have ak:=ba.ext λaA=>Am Jo aA;rw[cW.o] at ak;simp only[gU,Bool.false_eq_true,if_false] at ak;have ay:=(aF D Jo dH).trans dr;have dU:=cl ay 2 rfl;have dT:=cl dr 1 rfl;have b4:∀y K ao,MapAt prog 9 ac y K ao->y≠aq->MapAt prog 9 V y K ao:=λy K ao h aa=>(ax y K ao h).kept (aF y (Jw h.lt) aa);have dq:=be.o.size;have bO:∀k,k<w.heap.size->¬F k->V.heap[k]?=w.heap[k]?:=λk J X=>(aF k Jo λe=>X (by rw[e];exact Y.o.2.1)).trans ((bv k Jo (λe=>X (cd.o k e)) λe=>X (by rw[e];exact Y.o.1)).trans (be.o.block k J));have aE:Rd V 2 A 1 (dR (kE (iB N))):=Rd.part (dy.o.part (eW (G:=λ_=>False) Jo bO λ_ _ h=>h.elim)) (nz _ V);obtain⟨dW,ea,dC,d1,dK,dL⟩:=BV (xs:=[kE (iB N)]) (n:=1) (by simpa using aE) (i:=0) Js;simp only[kE,bf,gG,dz] at dK dL;have cU:=Jh (be.o.then O);have cP:=Jh (show ∀k,k<aZ->¬F k->V.heap[k]?=ad.heap[k]? from λk J X=>(aF k Jo λe=>X (by rw[e];exact Y.o.2.1)).trans ((au k λe=>X (by rw[e];exact Y.o.1)).trans ((aH.block k ⟨J,λe=>X (cd.o k e)⟩).trans (ab.block k Jo))));have br:=Jh (show V.os=ad.os/\V.tape=ad.tape/\V.output=ad.output by
  refine⟨Q.os.trans ?_,Q.tape.trans ?_,Q.output.trans ?_⟩<;>rw[<-bT]
  ·exact aH.os
  ·exact aH.tape
  exact aH.output)
 have dp:=cc.o;have a1:=Jh (show ∀E,(aQ aN (N+1) aR).ownBlock=some E->(F E∨aZ<=E)/\E≠D/\E≠aq/\E≠H/\E≠U/\E<aJ.heap.size from λE T=>by
  have K:=(aW.1.lt E T).2;have aI:=aW.2 E T;by_cases e:(aQ aM N aO).ownBlock=some E
  ·have y:=bD.o.2 E e;exact⟨.inl (cd.o E e),λh=>y (.inl h),λh=>y (.inr (.inl h)),λh=>y (.inr (.inr (.inl h))),λh=>y (.inr (.inr (.inr h))),K⟩
  have y:aZ<=E:=Nat.not_lt.1 λh=>aI ⟨h,e⟩;exact⟨.inr y,Jo,Jo,Jw dp.1,Jw dp.2,K⟩)
 have bt:=Jh (Ja ak (Ja bO (Ja aW (Ja b2 (Ja aF (Ja bv (Ja b4 bu)))))));have dO:=Jh au;have cT:=Jh bT;have a7:=Jh ay;have dQ:=Jh Q;have cV:=Jh (Ja aH b3);clear ak bO aW b2 aF bv b4 bu au ay Q aH b3 ba ax aD ai aB aT aw ab O az av aE ah aC;subst dC;go_wp2_with fail;refine wp_loop_rounds 2 ?_;rw[rounds_succ];obtain⟨y,ct⟩:=Je V.heap.size;obtain⟨O,ak,Q,dJ,K⟩:∃O,V.alloc (.cells #[.string (S [97]),.string (S [iB N])] 115)=O/\Jz V O/\O.heap.size=y+1/\O.heap[y]?=some (.cells #[.string (S [97]),.string (S [iB N])] 115 (0,0)):=
  ⟨_,rfl,Below.one _ _,by simp[ct],by rw[<-ct];exact heap_alloc_new _ _⟩
 have ab:=(Q.block D (Jl a7.o)).trans a7.o;have a8:O.cell? (Jp D 2)=some (.map (some H)):=cl ab 2 rfl;have ay:O.cell? (Jp y 0)=some (.string (S [97])):=cl K 0 rfl;have aI:O.cell? (Jp y 1)=some (.string (S [iB N])):=cl K 1 rfl;have ah:=kZ [97] Js;have ai:=kZ [iB N] Js;have bA:=Jh ah;have bZ:=Jh ai;have c6:=Jh K;have c8:=Jh ab;have bC:=Jh Q;have cS:=Jh ak;have c1:=Jh dJ;have az:=Jh ct;have aD:=Jh (Ja aL aK);clear aL aK K ab Q ak ah ai;rcases cQ.o with⟨bK,-,bJ⟩|⟨bK,dc,ds,cN,bJ,di,cD,dh⟩
 ·have bj:=(bt.o.2.2.2.2.2.2.1 _ _ _ (bJ.below be.o) (fV Y.o.2.2.2)).below bC.o;have cC:∀M,(eQ 192 (.map (some H)) (.string (S [97])) false).run prog (O.drewN M)= .ok (.map none) (O.drewN M):=λM=>(bj.kept (w':=O.drewN M) rfl).look (t:=192) (z:=.map none) ja underlying192 Jk bA.o;have bq:=Jh bj;have dN:=Jh bK;clear bJ bj bK;go_wp2_with fail;try simp only[cS.o]
  go_quiet (fail);have bc:(O.drewN nq).heap[D]?=_:=c8.o;have aX:(O.drewN nq).heap[y]?=_:=c6.o;have bL:Jz V (O.drewN nq):=bC.o.drewN nq;have aE:=bq.o.kept (w':=O.drewN nq) rfl;have b6:(O.drewN nq).heap.size=y+1:=c1.o;have aK:=Jh bL;clear cC a8 ay aI bq bL;generalize O.drewN nq=K at*;go_wp2_with fail;have a8:K.drew.cell? (Jp D 2)=some (.map (some H)):=cl bc 2 rfl;have ay:K.drew.cell? (Jp y 0)=some (.string (S [97])):=cl aX 0 rfl;have aI:K.drew.cell? (Jp y 1)=some (.string (S [iB N])):=cl aX 1 rfl;refine cB (n:=7) (S:=λw'=>w'.cell? (Jp D 2)=some (.map (some H))/\w'.cell? (Jp y 0)=some (.string (S [97]))) b5 7 rfl ⟨a8,ay⟩ (λar=>?_);refine JH 0 (h:=JH 1 (h:=JH 2 (h:=JH 3 (h:=JH 4 (h:=JH 5 (h:=?_))))));refine JM 6 (h:=λag W=>?_);go_simp;have ab:Jz K (K.alloc (.map #[] 0)).drew:=(Below.one K _).drew;have ax:MapAt prog 9 (K.alloc (.map #[] 0)).drew (y+1) 0 (λ_=>none):=by have:=MapAt.made (P:=prog) (k:=9) K;rw[b6] at this;exact this.kept rfl
  obtain⟨Q,d6,aw,dl,ak⟩:=(aE.below ab).put (t:=192) ja underlying192 Jm bA.o (.map (some (y+1)));have dj:H<y+1:=Jw aE.lt;have ai:∀k,k<y+2->k≠H->Q.heap[k]?=(K.alloc (.map #[] 0)).drew.heap[k]?:=λk J aa=>dl.block k (by simp;omega) λe=>aa (by rw[Option.some.inj e]);have dF:D<y:=by rw[<-az.o];exact(Jl a7.o)
  have bM:D≠H:=λe=>by subst e;exact aE.Z bc
  have dD:y≠H:=λe=>by subst e;exact aE.Z aX
  have aB:=((ai D Jo bM).trans (ab.block D Jo)).trans bc;have av:=((ai y Jo dD).trans (ab.block y Jo)).trans aX;have au:=Jh (show D<Q.heap.size/\y<Q.heap.size by rw[ak];simp;omega);have bd:=Jh (show Q.drew.cell? (Jp D 2)=some (.map (some H)) from cl aB 2 rfl);have bg:=Jh (show Q.drew.cell? (Jp y 0)=some (.string (S [97])) from cl av 0 rfl);have bh:=Jh (show Q.drew.cell? (Jp y 1)=some (.string (S [iB N])) from cl av 1 rfl);have ah:=Jh (show MapAt prog 9 Q H 1 (vI (y+1)) from aw.ext λaA=>OX (y+1) aA);have aL:=Jh (ax.kept (ai (y+1) Jo Jo));have bB:=Jh (show ∀w',MapAt prog 9 w' H 1 (vI (y+1))->(eQ 192 (.map (some H)) (.string (S [97])) false).run prog w'= .ok (.map (some (y+1))) w' from λw' h=>h.look (t:=192) (z:=.map none) ja underlying192 Jk bA.o);have cb:=Jh (show ∀w',MapAt prog 9 w' (y+1) 0 (λ_=>none)->(eQ 323 (.map (some (y+1))) (.string (S [iB N])) false).run prog w'= .ok (Jn) w' from λw' h=>h.look (t:=323) (z:=Jn) ja underlying323 Jk bZ.o);refine W.out _ _ ⟨al ab a8,al ab ay⟩ (λar=>?_);have a6:=Jh (Ja ab (Ja ai (Ja ak (Ja dj (Ja dl bM)))));clear W ag ab ax aw ai ak aB av ar aE a8 ay aI;try simp only[an,JY]
  refine cy Jk ?_;go_wp2_with fail;have ce:=Jh (show ∀k,k<y->k≠H->Q.heap[k]?=V.heap[k]? from λk J aa=>(a6.o.2.1 k Jo aa).trans ((a6.o.1.block k Jo).trans (aK.o.block k (by rw[az.o];exact J))));have cf:=Jh (show ∀k,k<y->¬F k->k≠y+1 from λk J _=>Jo);have NB:=Jh (show D≠H/\D≠y+1/\∀E,(aQ aN (N+1) aR).ownBlock=some E->E≠y+1 from⟨bM,Jo,λE T=>by have:=(a1.o E T).2.2.2.2.2;have e:y=aJ.heap.size:=by{rw[<-az.o,aD.o.2,aD.o.1]};omega⟩);have b8:=Jh (show F (y+1)∨ad.heap.size<=y+1 from .inr (by have e:y=aJ.heap.size:=by{rw[<-az.o,aD.o.2,aD.o.1]};omega));have bE:=Jh (show y+1≠H by omega);have bF:=Jh (show y+1≠aq by have:=bt.o.1.lt;rw[az.o] at this;omega);have bz:=Jh (show(if((λ_=>none:Lit->Option Value) (.string [iB N])).isSome then 0 else 0+1)<=N+1/\∀ax M,N+1<=M->M<8->od (λ_=>none) (.string [iB N]) ax (.string [iB M])=none from⟨Js,λax M bk dm=>by unfold od;rw[if_neg (JR Jo Jo Jo)]⟩);have ci:=Jh (show Q.os=V.os/\Q.tape=V.tape/\Q.output=V.output from⟨a6.o.2.2.2.2.1.os.trans (a6.o.1.os.trans aK.o.os),a6.o.2.2.2.2.1.tape.trans (a6.o.1.tape.trans aK.o.tape),a6.o.2.2.2.2.1.output.trans (a6.o.1.output.trans aK.o.output)⟩)
  have cr:Q.drew.cell? (Jp D 2)=some (.map (some H))/\Q.drew.cell? (Jp y 0)=some (.string (S [97]))/\Q.drew.cell? (Jp y 1)=some (.string (S [iB N]))/\MapAt prog 9 Q.drew H 1 (vI (y+1))/\MapAt prog 9 Q.drew (y+1) 0 (λ_=>none):=⟨bd.o,bg.o,bh.o,ah.o.kept rfl,aL.o.kept rfl⟩;refine cB (n:=22) (S:=λw'=>w'.cell? (Jp D 2)=some (.map (some H))/\w'.cell? (Jp y 0)=some (.string (S [97]))/\w'.cell? (Jp y 1)=some (.string (S [iB N]))/\MapAt prog 9 w' H 1 (vI (y+1))/\MapAt prog 9 w' (y+1) 0 (λ_=>none)) b5 22 rfl cr (λar=>?_);refine JH 0 (h:=JH 1 (h:=JH 2 (h:=JH 3 (h:=JH 4 (h:=JH 5 (h:=JH 6 (hy:=by(intro w aA;obtain⟨ay,aI,bU,aY,bo⟩:=aA;have bV:=bB.o _ aY;go_simp)<;>with_reducible rfl) (h:=JH 7 (h:=JH 8 (h:=JH 9 (h:=JH 10 (h:=JH 11 (h:=JH 12 (h:=JH 13 (h:=JH 14 (h:=JH 15 (hy:=by(intro w aA;obtain⟨ay,aI,bU,aY,bo⟩:=aA;have bV:=bB.o _ aY;go_simp)<;>with_reducible rfl) (h:=JH 16 (h:=JH 17 (h:=JH 18 (hy:=by(intro w aA;obtain⟨ay,aI,bU,aY,bo⟩:=aA;have bV:=cb.o _ bo;go_simp)<;>with_reducible rfl) (h:=JH 19 (h:=?_))))))))))))))))))));refine JM 20 (h:=λag W=>?_);go_simp;have ai:Jz Q (Q.drew.alloc (.cells #[Ji (N:Int)] 3)):=(Below.one Q.drew _).h;have bx:=Jh ai
  refine W.out _ _ ⟨al ai bd.o,al ai bg.o,al ai bh.o,ah.o.below ai,aL.o.below ai⟩ (λar=>?_);clear W ag ai;try simp only[an,JY]
  refine JM 21 (h:=λag W=>?_);have bS:=bx.o.size;refine bN rfl (.tmp 95) (.tmp 97) 23 rfl 3 (Ji 0) 1 8 underlying23 my rfl Jd (λM=>M<Q.heap.size) 0 [] (Jn) _ (bP.nil _ _ _ _) rfl (λM bk=>by have dd:M<Q.heap.size:=bk;simp;omega) _ 1 _ [Ji (N:Int)] rfl (GK Q.drew _ _) (by intro dv bb;simp at bb;subst bb;rfl) Jm Jo ?_;intro dM aB bR av cz cu;obtain⟨cg,cn,rfl⟩:=bR.form;have ab:∀k,k<Q.heap.size->aB.heap[k]?=Q.heap[k]?:=λk J=>(av.block k J).trans (bx.o.block k J);have bm:Q.heap.size<=aB.heap.size:=ap bS av.size;have bi:=aL.o.kept (ab (y+1) aL.o.lt);obtain⟨aC,dI,aU,ak,bn⟩:=bi.put (t:=323) ja underlying323 Jm bZ.o (.slice cg (0+1) cn);have aV:∀aw:Addr,aw.block<Q.heap.size->∀ax,Q.drew.cell? aw=some ax->aB.cell? aw=some ax:=λaw bl ax cI=>(af (a:=aw) (ab aw.block bl)).trans cI;refine W.out _ _ ⟨aV (Jp D 2) au.o.1 _ bd.o,aV (Jp y 0) au.o.2 _ bg.o,aV (Jp y 1) au.o.2 _ bh.o,ah.o.kept (ab H ah.o.lt),bi⟩ (λar=>?_);have b9:=Jh (Ja ab (Ja bm (Ja aU (Ja ak (Ja bn (Ja av.os (Ja av.tape av.output)))))));clear W ag ab bm aU ak bn av cz cu bR bi aV ar bS;try simp only[an,JY]
  refine cy Jk ?_;go_wp2_with fail;rw[rounds_succ];go_wp2_with fail;go_ret2;obtain⟨ab,bm,aU,ak,bn,cE,cH,cF⟩:=b9.o;obtain⟨ba,bO,aW,b2,aF,bv,b4,bu⟩:=bt.o;obtain⟨aH,b3⟩:=cV.o;obtain⟨cJ,cL,cK⟩:=ci.o;have cv:D<y:=by rw[<-az.o];exact(Jl a7.o)
  have bQ:∀k,k<aB.heap.size->k≠(y+1)->aC.heap[k]?=aB.heap[k]?:=λk J aa=>ak.block k J λe=>aa (by rw[Option.some.inj e]);have aT:∀k,k<y->k≠H->k≠(y+1)->aC.heap[k]?=V.heap[k]?:=λk J aS co=>(bQ k (Jw au.o) co).trans ((ab k (Jw au.o)).trans (ce.o k J aS));have dE:H<aZ:=Jw cc.o.1;have dG:y=aJ.heap.size:=by rw[<-az.o,aD.o.2,aD.o.1]
  have cx:∀k,k<ad.heap.size->¬F k->aC.heap[k]?=ad.heap[k]?:=λk J X=>(aT k Jo (λe=>X (by rw[e];exact Y.o.2.2.1)) (cf.o k Jo X)).trans (cP.o k Jo X);have cM:aC.heap[D]?=some (.cells #[.slice aN (N+1) aR,.map (some aq),.map (some H)] 195 (0,0)):=(aT D cv NB.o.1 NB.o.2.1).trans a7.o;have cA:bP (λk=>k=D∨k=aq∨k=H∨k=(y+1)) 51 1 (.slice aN (N+1) aR) (N+1) ((dt.map λbW=>aQ bW.1 1 bW.2) ++ [.slice bX 1 b1]) aC:=by
   refine(aW.later λE T=>?_).shift λE T bl=>?_
   ·obtain⟨cj,bG,bH,bI,ck,cm⟩:=a1.o E T;refine(aT E Jo bI (NB.o.2.2 E T)).trans ((aF E (Jw aD.o.1) bH).trans ?_);rw[<-cT.o];exact ae _ _ _ _ (by simpa using bG)
   obtain⟨cj,bG,bH,bI,ck,cm⟩:=a1.o E T;have dB:=NB.o.2.2 E T;omega
  have cq:=ba.kept (aT aq (Jw ba.lt) (fV Y.o.2.2.2 |>.symm) bF.o.symm);exact⟨rfl,Ee (w1:=ac) (w4:=ad) bY.o.2 bY.o.1 Y.o.1 Y.o.2.1 Y.o.2.2.1 Y.o.2.2.2 cZ.o de dq cU.o (ak.os.trans (cE.trans (cJ.trans br.o.1))) (ak.tape.trans (cH.trans (cL.trans br.o.2.1))) (ak.output.trans (cF.trans (cK.trans br.o.2.2))) (Jw au.o) cx cM cA (λE T=>by have:=(a1.o E T).1;rwa [df]) cY.o (by simpa using bu) cq b8.o bE.o bF.o ((ah.o.kept (ab H ah.o.lt)).kept (bQ H (Jw ah.o.lt) bE.o.symm)) aU bz.o.1 (bz.o.2 _)⟩
 have bj:=(bt.o.2.2.2.2.2.2.1 _ _ _ (bJ.below be.o) (fV Y.o.2.2.2)).below bC.o;have a6:=(bt.o.2.2.2.2.2.2.1 _ _ _ (di.below be.o) cN).below bC.o;have cC:∀M,(eQ 192 (.map (some H)) (.string (S [97])) false).run prog (O.drewN M)= .ok (.map (some U)) (O.drewN M):=λM=>(bj.kept (w':=O.drewN M) rfl).look (t:=192) (z:=.map none) ja underlying192 Jk bA.o;have bq:=Jh (Ja bj a6);have Q:=Jh (Ja bK (Ja dc (Ja ds (Ja cN (Ja cD dh)))));clear bJ bj di a6 bK dc ds cN cD dh;go_wp2_with fail;try simp only[cS.o]
 go_quiet (fail);have bc:(O.drewN nq).heap[D]?=_:=c8.o;have aX:(O.drewN nq).heap[y]?=_:=c6.o;have bL:Jz V (O.drewN nq):=bC.o.drewN nq;have aE:=bq.o.1.kept (w':=O.drewN nq) rfl;have a6:=bq.o.2.kept (w':=O.drewN nq) rfl;have b6:(O.drewN nq).heap.size=y+1:=c1.o;have aK:=Jh bL;clear cC a8 ay aI bq bL;generalize O.drewN nq=K at*;have dj:H<y+1:=Jw aE.lt;have dF:D<y:=by rw[<-az.o];exact(Jl a7.o)
 have bM:D≠H:=λe=>by subst e;exact aE.Z bc
 have dl:D≠U:=λe=>by subst e;exact a6.Z bc
 have dD:y≠U:=λe=>by subst e;exact a6.Z aX
 have au:=Jh (show D<K.heap.size/\y<K.heap.size by rw[b6];omega);have bd:=Jh (show K.drew.cell? (Jp D 2)=some (.map (some H)) from cl bc 2 rfl);have bg:=Jh (show K.drew.cell? (Jp y 0)=some (.string (S [97])) from cl aX 0 rfl);have bh:=Jh (show K.drew.cell? (Jp y 1)=some (.string (S [iB N])) from cl aX 1 rfl);have ah:=Jh aE;have aL:=Jh a6;have bB:=Jh (show ∀w',MapAt prog 9 w' H 1 (vI U)->(eQ 192 (.map (some H)) (.string (S [97])) false).run prog w'= .ok (.map (some U)) w' from λw' h=>h.look (t:=192) (z:=.map none) ja underlying192 Jk bA.o);have cb:=Jh (show ∀w',MapAt prog 9 w' U bw ao->(eQ 323 (.map (some U)) (.string (S [iB N])) false).run prog w'= .ok (Jn) w' from λw' h=>by
  have aS:=h.look (t:=323) (z:=Jn) ja underlying323 Jk bZ.o;rw[Q.o.2.2.2.2.2 N Jo Jo] at aS;exact aS)
 have cD:bw<=N:=Q.o.2.2.2.2.1;have ce:=Jh (show ∀k,k<y->k≠H->K.heap[k]?=V.heap[k]? from λk J _=>aK.o.block k (by rw[az.o];exact J));have cf:=Jh (show ∀k,k<y->¬F k->k≠U from λk _ X e=>X (by rw[e];exact Q.o.2.1));have NB:=Jh (show D≠H/\D≠U/\∀E,(aQ aN (N+1) aR).ownBlock=some E->E≠U from⟨bM,dl,λE T=>(a1.o E T).2.2.2.2.1⟩);have b8:=Jh (show F U∨ad.heap.size<=U from .inl Q.o.2.1);have bE:=Jh (show U≠H from Q.o.2.2.1);have bF:=Jh (show U≠aq from Q.o.2.2.2.1);have bz:=Jh (show(if(ao (.string [iB N])).isSome then bw else bw+1)<=N+1/\∀ax M,N+1<=M->M<8->od ao (.string [iB N]) ax (.string [iB M])=none from⟨by split<;>omega,λax M bk dm=>by unfold od;rw[if_neg (JR Jo Jo Jo)];exact Q.o.2.2.2.2.2 M Jo dm⟩);have ci:=Jh (show K.os=V.os/\K.tape=V.tape/\K.output=V.output from⟨aK.o.os,aK.o.tape,aK.o.output⟩);clear aE a6 bc aX dl dD b6;go_wp2_with fail;have cr:K.drew.cell? (Jp D 2)=some (.map (some H))/\K.drew.cell? (Jp y 0)=some (.string (S [97]))/\K.drew.cell? (Jp y 1)=some (.string (S [iB N]))/\MapAt prog 9 K.drew H 1 (vI U)/\MapAt prog 9 K.drew U bw ao:=⟨bd.o,bg.o,bh.o,ah.o.kept rfl,aL.o.kept rfl⟩
 refine cB (n:=22) (S:=λw'=>w'.cell? (Jp D 2)=some (.map (some H))/\w'.cell? (Jp y 0)=some (.string (S [97]))/\w'.cell? (Jp y 1)=some (.string (S [iB N]))/\MapAt prog 9 w' H 1 (vI U)/\MapAt prog 9 w' U bw ao) b5 22 rfl cr (λar=>?_);refine JH 0 (h:=JH 1 (h:=JH 2 (h:=JH 3 (h:=JH 4 (h:=JH 5 (h:=JH 6 (hy:=by(intro w aA;obtain⟨ay,aI,bU,aY,bo⟩:=aA;have bV:=bB.o _ aY;go_simp)<;>with_reducible rfl) (h:=JH 7 (h:=JH 8 (h:=JH 9 (h:=JH 10 (h:=JH 11 (h:=JH 12 (h:=JH 13 (h:=JH 14 (h:=JH 15 (hy:=by(intro w aA;obtain⟨ay,aI,bU,aY,bo⟩:=aA;have bV:=bB.o _ aY;go_simp)<;>with_reducible rfl) (h:=JH 16 (h:=JH 17 (h:=JH 18 (hy:=by(intro w aA;obtain⟨ay,aI,bU,aY,bo⟩:=aA;have bV:=cb.o _ bo;go_simp)<;>with_reducible rfl) (h:=JH 19 (h:=?_))))))))))))))))))));refine JM 20 (h:=λag W=>?_);go_simp;have ai:Jz K (K.drew.alloc (.cells #[Ji (N:Int)] 3)):=(Below.one K.drew _).h;have bx:=Jh ai;refine W.out _ _ ⟨al ai bd.o,al ai bg.o,al ai bh.o,ah.o.below ai,aL.o.below ai⟩ (λar=>?_);clear W ag ai;try simp only[an,JY]
 refine JM 21 (h:=λag W=>?_);have bS:=bx.o.size;refine bN rfl (.tmp 95) (.tmp 97) 23 rfl 3 (Ji 0) 1 8 underlying23 my rfl Jd (λM=>M<K.heap.size) 0 [] (Jn) _ (bP.nil _ _ _ _) rfl (λM bk=>by have dd:M<K.heap.size:=bk;simp;omega) _ 1 _ [Ji (N:Int)] rfl (GK K.drew _ _) (by intro dv bb;simp at bb;subst bb;rfl) Jm Jo ?_;intro dM aB bR av cz cu;obtain⟨cg,cn,rfl⟩:=bR.form;have ab:∀k,k<K.heap.size->aB.heap[k]?=K.heap[k]?:=λk J=>(av.block k J).trans (bx.o.block k J);have bm:K.heap.size<=aB.heap.size:=ap bS av.size;have bi:=aL.o.kept (ab U aL.o.lt);obtain⟨aC,dI,aU,ak,bn⟩:=bi.put (t:=323) ja underlying323 Jm bZ.o (.slice cg (0+1) cn);have aV:∀aw:Addr,aw.block<K.heap.size->∀ax,K.drew.cell? aw=some ax->aB.cell? aw=some ax:=λaw bl ax cI=>(af (a:=aw) (ab aw.block bl)).trans cI;refine W.out _ _ ⟨aV (Jp D 2) au.o.1 _ bd.o,aV (Jp y 0) au.o.2 _ bg.o,aV (Jp y 1) au.o.2 _ bh.o,ah.o.kept (ab H ah.o.lt),bi⟩ (λar=>?_);have b9:=Jh (Ja ab (Ja bm (Ja aU (Ja ak (Ja bn (Ja av.os (Ja av.tape av.output)))))));clear W ag ab bm aU ak bn av cz cu bR bi aV ar bS;try simp only[an,JY]
 refine cy Jk ?_;go_wp2_with fail;rw[rounds_succ];go_wp2_with fail;go_ret2;obtain⟨ab,bm,aU,ak,bn,cE,cH,cF⟩:=b9.o;obtain⟨ba,bO,aW,b2,aF,bv,b4,bu⟩:=bt.o;obtain⟨aH,b3⟩:=cV.o;obtain⟨cJ,cL,cK⟩:=ci.o;have cv:D<y:=by rw[<-az.o];exact(Jl a7.o)
 have bQ:∀k,k<aB.heap.size->k≠U->aC.heap[k]?=aB.heap[k]?:=λk J aa=>ak.block k J λe=>aa (by rw[Option.some.inj e]);have aT:∀k,k<y->k≠H->k≠U->aC.heap[k]?=V.heap[k]?:=λk J aS co=>(bQ k (Jw au.o) co).trans ((ab k (Jw au.o)).trans (ce.o k J aS));have dE:H<aZ:=Jw cc.o.1;have dG:y=aJ.heap.size:=by rw[<-az.o,aD.o.2,aD.o.1]
 have cx:∀k,k<ad.heap.size->¬F k->aC.heap[k]?=ad.heap[k]?:=λk J X=>(aT k Jo (λe=>X (by rw[e];exact Y.o.2.2.1)) (cf.o k Jo X)).trans (cP.o k Jo X);have cM:aC.heap[D]?=some (.cells #[.slice aN (N+1) aR,.map (some aq),.map (some H)] 195 (0,0)):=(aT D cv NB.o.1 NB.o.2.1).trans a7.o;have cA:bP (λk=>k=D∨k=aq∨k=H∨k=U) 51 1 (.slice aN (N+1) aR) (N+1) ((dt.map λbW=>aQ bW.1 1 bW.2) ++ [.slice bX 1 b1]) aC:=by
  refine(aW.later λE T=>?_).shift λE T bl=>?_
  ·obtain⟨cj,bG,bH,bI,ck,cm⟩:=a1.o E T;refine(aT E Jo bI (NB.o.2.2 E T)).trans ((aF E (Jw aD.o.1) bH).trans ?_);rw[<-cT.o];exact ae _ _ _ _ (by simpa using bG)
  obtain⟨cj,bG,bH,bI,ck,cm⟩:=a1.o E T;have dB:=NB.o.2.2 E T;omega
 have cq:=ba.kept (aT aq (Jw ba.lt) (fV Y.o.2.2.2 |>.symm) bF.o.symm);exact⟨rfl,Ee (w1:=ac) (w4:=ad) bY.o.2 bY.o.1 Y.o.1 Y.o.2.1 Y.o.2.2.1 Y.o.2.2.2 cZ.o de dq cU.o (ak.os.trans (cE.trans (cJ.trans br.o.1))) (ak.tape.trans (cH.trans (cL.trans br.o.2.1))) (ak.output.trans (cF.trans (cK.trans br.o.2.2))) (Jw au.o) cx cM cA (λE T=>by have:=(a1.o E T).1;rwa [df]) cY.o (by simpa using bu) cq b8.o bE.o bF.o ((ah.o.kept (ab H ah.o.lt)).kept (bQ H (Jw ah.o.lt) bE.o.symm)) aU bz.o.1 (bz.o.2 _)⟩
end
section
attribute [local go_sem] Oper.semAt_some
def Tz (n:Nat)(x:Int):Bool:=decide (0<=x) && decide (x<n)
theorem Ea (A:JA)(c n:Nat)(x:Int)(w:JW)(hr:Rd w 1 A n (upto n))(U:n<=1000)(Q:0<n):JC 59 #[.slice A n c,Ji x] w λe w'=>e= .returned (.bool (Tz n x))/\Jz w w':=by
 obtain⟨J,O,rfl,-,K⟩:=hr.2 Jo;have E:=Jh (Tryz.slices_BinarySearch_int J O n c (gB 0 n) x w (by rw[lN];exact ac _) Jo (λD y=>by
  rw[lN] at y;rw[Nt n 0 D y,bB];refine K D _ ?_;unfold upto;rw[List.getElem?_map,List.getElem?_range y];rfl) (by rw[aw (by rw[lN];exact ac _)];exact Ra n 0))
 have M:((gB 0 n).take n).contains x=Tz n x:=by
  rw[aw (by rw[lN];exact ac _),Bool.eq_iff_iff,List.contains_iff_mem,Bi];unfold Tz;rw[bT,decide_eq_true_eq,decide_eq_true_eq];constructor
  ·rintro⟨D,y,rfl⟩;omega
  rintro⟨H,T⟩;exact⟨x.toNat,Jo,Jo⟩
 have H:=Jh M;go_enter Tryz.func59,Tryz.ntmps59;go_wp2_with fail;refine E.o.mono ?_;rintro e w' ⟨rfl,T,rfl⟩;rw[H.o];go_wp2_with fail;go_ret;exact⟨rfl,(ag _ _).drewN _⟩
theorem GJ (r:Row)(b:Nat)(A:JA)(c n:Nat)(w:JW)(E:w.cell? (Jp b 0)=some (.slice A n c))(hr:Rd w 1 A n (upto n))(Z:n<=1000)(X:0<n):
 JC 225 #[ML r,Jv b] w λe w'=>e= .returned (.bool (!Tz n r.ID))/\Jz w w':=by
 obtain⟨M,O⟩:=Je w.heap.size;have ac:b<M:=by
  rw[<-O];unfold dL at E;cases y:w.heap[b]? with
  |none=>rw[y] at E;cases E
  |some D=>exact(Jl y)
 obtain⟨H,D,J⟩:=r;simp only;obtain⟨y,Q,K,aa⟩:∃y,w.alloc (.cells #[Ji H,Ji D,Ji J] 130)=y/\Jz w y/\y.heap[M]?=some (.cells #[Ji H,Ji D,Ji J] 130 (0,0)):=
  ⟨_,rfl,Below.one _ _,by rw[<-O];exact heap_alloc_new _ _⟩
 have ae:=cl aa 1 rfl;have ab:=al K E;have ad:(w.alloc (.cells #[Ji H,Ji D,Ji J] 130)).cell? (Jp b 0)=some (.slice A n c):=by rw[Q];exact ab
 have T:=Jh (Ea A c n D y (hr.below K) Z X);have U:=Jh Q;have V:=Jh K;go_enter Tryz.func225,Tryz.ntmps225;go_wp2_with fail;try simp only[U.o]
 try go_wp2_with fail
 refine T.o.mono ?_;rintro e af ⟨rfl,Y⟩;have W:=Jh Y;go_wp2_with fail;go_ret;exact⟨rfl,V.o.then W.o⟩
theorem Cj (s:JU)(rs:List Row)(A:JA)(c n:Nat)(x J:Int)(w:JW)(aB:s.length<=1000000)(O:wV s x J=some rs)(ay:∀r∈rs,0<=r.ID/\r.ID<n)(hr:Rd w 1 A n (upto n))(az:n<=1000)(ar:0<n):
 JC 223 #[.string (S s),.slice A n c,.agg #[Ji x,Ji J]] w λe w'=>∃D E,e= .returned (.slice D rs.length E)/\bP (λk=>k<w.heap.size) 130 3 (.slice D rs.length E) rs.length (rs.flatMap aR) w'/\Jz w w':=by
 obtain⟨H,M⟩:=Je w.heap.size;have aH:∀(K:Fn)(first y:Array Value)(w:JW),(cO K first y).run prog w= .ok (.func K first y) w:=λ_ _ _ _=>rfl;obtain⟨y,aD,av,aC,aE,ab⟩:∃y,(w.alloc (.cells #[.slice A n c] 23)).alloc (.cells #[Ji x,Ji J] 30)=y/\Below H w y/\y.heap.size=H+2/\y.heap[H]?=some (.cells #[.slice A n c] 23 (0,0))/\y.heap[H+1]?=some (.cells #[Ji x,Ji J] 30 (0,0)):=by
  have K:=heap_alloc_new (w.alloc (.cells #[.slice A n c] 23)) (.cells #[Ji x,Ji J] 30);rw[aI,M] at K;refine⟨_,rfl,M▸cZ _ _ _,by simp[M],?_,K⟩;rw[<-M];exact(heap_alloc_old _ _ Js).trans (heap_alloc_new _ _)
 have aK:=cl ab 0 rfl;have aL:=cl ab 1 rfl;have ap:=cl aE 0 rfl;have Z:Below w.heap.size w y:=by rw[M];exact av
 have ad:=Jh (FF (S s) x J y.heap.size y rfl (by rw[bH];exact aB));have ae:=Jh (λ(U:JW)(V:Jz y U)(D:JA)(E:Nat)(Q:bP (λk=>k<y.heap.size) 130 3 (.slice D rs.length E) rs.length (rs.flatMap aR) U)(au:rs.length<=100000)=>
  qw (λr=>Tz n r.ID) 225 H y.heap.size D E rs.length rs U (λ_ _=>rfl) (λT K r=>GJ r H A c n T (al (V.trans (K.mono (ac _))) ap) ((hr.below Z).below (V.trans K)) az ar) V.size Q rfl au)
 have am:=Jh (show rs.filter (λr=>Tz n r.ID)=rs from List.filter_eq_self.2 λr hr=>by have:=ay r hr;simp[Tz,this]);have ak:=Jh O;have ag:=Jh aD;have ah:=Jh Z;have T:=Jh aC;go_enter Tryz.func223,Tryz.ntmps223;go_wp2_with fail;try simp only[ag.o]
 try go_wp2_with fail
 refine ad.o.mono ?_;rintro e aF aA;have O:=ak.o;rcases aA with⟨K,-,-⟩|⟨aM,aN,K,rfl,Q,aG,Y⟩
 ·rw[cW,O] at K;cases K
 rw[cW,O] at K;obtain rfl:=Option.some.inj K;obtain⟨D,E,rfl⟩:=Q.form;have af:=Jh (ae.o aF Y D E Q Jo);have ai:=Jh Y;go_wp2_with fail;refine af.o.mono ?_;rintro e aO ⟨an,aJ,ao,rfl,W,aa,aw⟩;rw[am.o] at W aa;subst W;have X:=Jh aa;have aj:=Jh aw;go_wp2_with fail;go_ret;exact⟨an,ao,rfl,⟨X.o.1,λaq ax W=>X.o.2 aq ax (Jw T.o)⟩,ah.o.trans (aj.o.mono (Jw T.o) |> (ai.o.mono (Jw T.o)).trans)⟩
def Wo (N B:Nat)(K:List Int)(w:JW)(J iv:Value)(wr:JW):Prop:=∃(y E:Nat)(D:JA)(H:List ej),iv=Ji y/\J= .slice D y E/\H.length=y/\y<=N/\fP B 68 (.slice D y E) H ((full N K).take y) wr/\Below B w wr
theorem Ci (N:Nat)(D:List Int)(O:Held N D)(aO:D≠[])(A:JA)(c:Nat)(w:JW)(hr:Rd w 1 A N (upto N))(bv:N<=c):
 JC 220 #[.string (S (oo N D)),.slice A N c,.agg #[Ji 0,Ji 4000]] w λe w'=>∃T Z,e= .returned (.slice T (df N D).length Z)/\bP (λk=>k<w.heap.size) 130 3 (.slice T (df N D).length Z) (df N D).length ((df N D).flatMap aR) w'/\Jz w w':=by
 obtain⟨J,aH⟩:=Je w.heap.size;obtain⟨M,bD,bu,bC,bI⟩:∃M,w.alloc (.cells #[Ji 0,Ji 4000] 30)=M/\Jz w M/\M.heap.size=J+1/\M.heap[J]?=some (.cells #[Ji 0,Ji 4000] 30 (0,0)):=
  ⟨_,rfl,Below.one _ _,by simp[aH],by rw[<-aH];exact heap_alloc_new _ _⟩
 have bY:=O.wj aO;have aW:=Jh (UG (S (oo N D)) M.heap.size M rfl (by rw[bH];omega));have aX:=Jh (λ(y:Nat)(E:JW)=>OM (S (oo N D)) (y:Int) E (by rw[bH];omega));have aU:=Jh (λ(E:JW)(H:Jz w E)(X:JA)(Y:Nat)(aa:Rd E 1 X N (upto N))(aF:N<=Y)=>RB X A Y c N E aa (hr.below H) aF bv (Jw O.n4));have H:=Jh O;have E:=Jh aO;have a8:=Jh bD;have az:=Jh bu;have am:=Jh bC;have bi:=Jh bI;go_enter Tryz.func220,Tryz.ntmps220;go_wp2_with fail;try simp only[a8.o]
 try go_wp2_with fail
 refine aW.o.mono ?_;rintro e bM bB;have O:=H.o;rcases bB with⟨K,-,-⟩|⟨b0,b2,K,rfl,ae,-,ab⟩
 ·rw[cW,O.table E.o] at K;cases K
 rw[cW,O.table E.o] at K;obtain rfl:=Option.some.inj K;obtain⟨bF,bG⟩:=WB (N:=N) E.o;rw[bF,bG] at ae;obtain⟨X,Y,rfl⟩:=ae.form;have aV:=Jh (aU.o bM (az.o.then ab) X Y ae.rd ae.caps.1);have ba:=Jh (az.o.then ab);have bj:=Jh ((ab.block J (Jw am.o)).trans bi.o);have aC:=Jh ab.size;go_wp2_with fail;refine aV.o.mono ?_;rintro e aj ⟨bQ,bR,rfl,bz,ap⟩;have a7:=Jh bz.rd;have aA:=Jh (ba.o.then ap);have bk:=Jh ((ap.block J (Jx am.o aC.o)).trans bj.o);have bg:=Jh (show J+1<=aj.heap.size by have:=am.o;have:=aC.o;have:=ap.size;omega);go_wp2_with fail;go_loopw [7,23] (λU Q wr=>Wo N aj.heap.size D aj U Q wr) (λ_ Q _=>N - (intOf Q).toNat)
 case atStart=>exact⟨0,0,none,[],rfl,rfl,rfl,Jo,fP.empty _ _ _ (ac _),ag _ _⟩
 obtain⟨y,Z,T,ax,rfl,rfl,ai,bU,af,ad⟩:=hrel;by_cases U:y<N;rotate_left
 ·obtain rfl:y=N:=Jo;have aq:(full y D).take y=full y D:=aw (by rw[nj y E.o];exact ac _);rw[aq] at af;have au:fI wr T ax (full y D):=by rw[<-ai] at af;have:=af.yy;rwa [ai] at this
  have ay:=H.o.n4;have V:=Jh (kP T Z ax (full y D) wr au Jo (by
   have K:=qG y D;have aa:=H.o.len;have aF:y*D.length<=4*12:=ee ay aa;unfold oX;omega))
  rw[pB H.o.up,ai] at V;have Q:=Jh ad;go_wp2_with fail;refine V.o.mono ?_;rintro e aG ⟨ak,aE,al,rfl,rfl,aB,av,ao⟩;have W:=Jh av;have ah:=Jh ao;go_wp2_with fail;go_ret;have aD:w.heap.size<=wr.heap.size:=by have:=aA.o.size;have:=Q.o.size;omega
  exact⟨ak,al,rfl,⟨W.o.1,λan ar aM=>W.o.2 an ar Jo⟩,(aA.o.then Q.o).then ah.o⟩
 have bW:(y:Int)<N:=Jo;obtain⟨bS,bZ,rfl,bT,bL⟩:=(a7.o.below ad).TO (by rw[Ff]) U;have ah:(upto N)[y]'(by rw[Ff];exact U)=Ji (y:Int):=by simp[upto]
 rw[ah] at bL;have av:=(ad.block J (Jw bg.o)).trans bk.o;have bJ:=cl av 0 rfl;have bK:=cl av 1 rfl;have aY:=Jh (aX.o y wr);have bf:=Jh af;have Q:=Jh ad;have an:=Jh ai;have aD:=Jh av;go_wp2_with fail;refine aY.o.mono ?_;rintro e aS ⟨aT,bn,rfl,ar,aJ⟩;simp only[cW,H.o.find E.o U] at ar ⊢;obtain⟨W,V⟩:=Je ((fo D y).L.length);have bA:0<W:=by rw[<-V,lL];exact List.length_pos_iff.2 E.o
 have bX:W<=12:=by rw[<-V,lL];exact H.o.len
 simp only[V] at ar ⊢;have aZ:=Jh (Gm aT bn W (fo D y).L 4000 aS ar V Jo λb4 bE=>by
  obtain⟨al,ak,rfl⟩:=nE bE;have:=H.o.pos al ak;simp only;omega)
 have aQ:=(aJ.block J (Jw ((Jl aD.o)))).trans aD.o;have bJ:=cl aQ 0 rfl;have bK:=cl aQ 1 rfl;have al:=Jh aJ;have bd:=Jh V;go_wp2_with fail;refine aZ.o.mono ?_;rintro e bN ⟨ak,ao,rfl,aN,aK⟩;have aL:aj.heap.size<=wr.heap.size:=Q.o.size;have bw:wL wr.heap.size ak:=λbm br=>by
  subst br;have K:=al.o.size;have aa:=uz (B:=aS.heap.size) aN (λk aM=>aM) bm rfl;omega
 obtain⟨bl,bo,aI,bp⟩:=bf.o.more aL (al.o.then aK) (c:=ao) (I:=(y:Int)) bd.o aN.rd bw bA;rw[an.o] at aI;have bq:=Jh bp;have a1:=Jh bo;have a6:=Jh aI;have aB:=Jh (Q.o.trans ((al.o.then aK).mono aL));have bV:y<=4:=Jw H.o.n4;go_wp2_with (at_builtin;go_must (refine bb rfl (.tmp 33) (.tmp 39) 63 Jr 68 (.agg #[Ji 0,Jn]) 2 32 underlying63 QJ rfl Jd bl y _ _ bN #[Ji (y:Int),.slice ak W ao] rfl (by intro b1 ah;simp at ah;rcases ah with rfl|rfl<;>rfl) a6.o Jr a1.o Jr Jm Jo ?_;intro b3 bO aq aP bx bt;obtain⟨ay,aE,rfl⟩:=aq.form;clear bx bt;have be:=Jh aq;have bh:=Jh aP;clear aq aP));go_roundw
 case rel=>
  have aG:=bq.o (.slice ay (y+1) aE) bO (by rw[an.o];exact be.o) bh.o;have au:fo D y=(full N D)[y]'(by rw[nj N E.o];exact U):=by
   simp only[wg E.o,eS,gS]
  refine⟨y+1,aE,ay,ax ++ [⟨(y:Int),ak,W,ao⟩],by go_num,rfl,by simp[an.o],Jo,?_,aB.o.trans (aG.2.mono (Jw aB.o.size))⟩;rw[<-bc (by rw[nj N E.o];exact U),<-au];exact aG.1
 simp[intOf];omega
end
structure bF (P:Nat->Prop) (col col':Nat->Nat) (w w':JW):Prop where
 old:∀k,k<w.heap.size->col' k=col k
 new:∀k,w.heap.size<=k->col' k=0∨(P (col' k)/\k<w'.heap.size)
 s:jl (λk=>P (col k)) w w'
end Go.Proofs.YtibmlemoghcbkaaGreatDoor
