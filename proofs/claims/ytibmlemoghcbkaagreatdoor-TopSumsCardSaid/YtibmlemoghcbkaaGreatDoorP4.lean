/-
  What 'TopSums' stands on, part 4 of 6.
-/
import Derived.Test.YtibmlemoghcbkaaGreatDoorP3
import Derived.Lib.AppendIntMem
import Derived.Lib.ItoaLen
import Derived.Lib.AppendZerosOnto
import Derived.Lib.Overlaps
set_option linter.unusedSimpArgs false
set_option linter.unusedVariables false
set_option maxRecDepth 100000
set_option maxHeartbeats 8000000
open Array renaming getElem?_modify→aA,getElem?_setIfInBounds_ne→eC,length_toList→dM,replicate_succ→bY,replicate_zero→bZ
open BitVec renaming ofInt_natCast→fZ,ofInt→dU
open Bool renaming and_eq_true→bT
open Go.Act renaming put→an
open Go.Builtin renaming append_→gp,append→gd,copy_→gI,zeroCells→dO
open Go.Callee renaming builtin→fD
open Go.Calls renaming quiet_of_same→ek
open Go.Exit renaming inBlock→jc,«then»→gM
open Go.Fence renaming wide→dI
open Go.Instr renaming index→jD,lookup→eQ,makeFunc→cO
open Go.IntKind renaming wrap_i64→aB,wrap_u64→bD
open Go.IntWalk renaming i64_in→bC,u64_in→bJ
open Go.KeepsOthers renaming refl→fR,setCell→cU
open Go.Lib renaming alloc_old→aJ,atoiAll→iW,cell?_alloc_some→bO,cell_of_heap→aa,compareInt→bK,decDigits→dk,frozen_of_heap→aW,hasPrefix→ju,heap_setCell_same→am,hid→eE,run_eql_slice_nil→fO,size_eq→bX,toList_data→dY
open Go.Oper renaming wp→jx
open Go.Region renaming ready→fH,wanted→dD
open Go.Result renaming andThen→iM
open Go.RowKit.Below renaming heap_setCell→ae,refl→ag
open Go.Sem renaming run_bind→jR
open Go.Value renaming int→cY,ownBlock→aG,slice→aQ
open Go.World renaming alloc_heap_new→cD,block_lt_of_cell?→bq,cell?_of_block→af,cell?_setCell_other→fK,cell?→dL,putObj_heap_other→aZ,setCell→aj,size_alloc→aI
open Int renaming eq_ofNat_of_zero_le→dA,le_refl→gg,tdiv_eq_ediv_of_nonneg→fE,toNat_natCast→dE,toNat_of_nonneg→el
open List renaming append_assoc→au,append_nil→cV,append_toArray→cz,cons_append→aY,dropWhile_sublist→eR,drop_drop→bR,drop_eq_getElem_cons→dm,drop_eq_nil_of_le→dF,drop_left→eF,drop_succ_cons→dr,drop_zero→fe,eq_nil_of_length_eq_zero→bu,filter_append→dV,filter_cons→ei,find?_cons_of_neg→dW,find?_some→eN,flatMap_append→ao,flatMap_cons→aE,flatMap_nil→iK,foldl_cons→ia,getD_eq_getElem?_getD→bQ,getElem?_append_left→eU,getElem?_append_right→fF,getElem?_cons_succ→aS,getElem?_cons_zero→aD,getElem?_drop→dJ,getElem?_eq_getElem→aT,getElem?_toArray→aH,getElem_append_left→du,getElem_append_right→cK,getElem_cons_succ→ck,getElem_cons_zero→bf,getElem_map→eS,getElem_mem→ah,getElem_of_mem→bz,length_append→ab,length_cons→ak,length_drop→bo,length_filter_le→fb,length_map→bU,length_nil→aX,length_range→dG,length_replicate→eo,length_set→fk,length_singleton→fc,length_take→aF,length→eZ,map_append→cH,map_congr_left→gw,map_cons→bV,map_map→ig,map_nil→ii,mem_cons_of_mem→aC,mem_cons_self→az,mem_cons→dh,mem_of_find?_eq_some→cL,mem_of_mem_take→eG,nil_append→bi,not_mem_nil→di,pairwise_append→gh,pairwise_iff_getElem→dS,pairwise_map→cS,push_toArray→cT,range_succ→dZ,range→aL,replicate→cm,setIfInBounds_toArray→bg,set_cons_succ→aM,set_cons_zero→bG,size_toArray→cJ,take_append_drop→da,take_append_getElem→bc,take_left→gT,take_length→fq,take_of_length_le→aw,take_succ_cons→dN,take_succ_eq_append_getElem→aO,take_zero→ff
open List.Pairwise renaming imp→cQ,nil→cj
open Nat renaming add_assoc→aV,add_mul→ij,add_zero→dz,eq_zero_or_pos→dx,le_of_lt→fl,le_of_not_lt→ft,le_refl→ac,le_trans→ap,lt_irrefl→iw,lt_of_lt_of_le→ai,lt_or_ge→et,min_eq_left→ec,mod_eq_of_lt→fS,mod_lt→dX,mul_comm→dj,mul_le_mul_right→dP,mul_le_mul→ee,one_mul→jF,pow_le_pow_right→ce,pow_succ→gF,reduceAdd→bM,reduceSub→dC,sub_self→fG,two_pow_add_eq_or_of_lt→eu,two_pow_pos→cg,xor_assoc→fU,zero_add→bB,zero_le→bj
open Ne renaming symm→fV
open Option renaming bind_some→bW,getD_none→gN,getD_some→fu,isSome_none→gU,map_some→eO
open Prod renaming fst→dQ
open UInt8 renaming ofNat→dw,toNat_ofNat'→eH
namespace Go.Proofs.YtibmlemoghcbkaaGreatDoor
open Go Go.RowKit
open Tryz
def jB (col:Nat->Nat)(k:Nat):Prop:=col k≠0
def Lt (col:Nat->Nat)(w:JW):Prop:=∀y,col y≠0->y<w.heap.size
theorem Lt.mono {col:Nat->Nat}{w w':JW}(h:Lt col w)(D:w.heap.size<=w'.heap.size):Lt col w':=λE y=>ai (h E y) D
theorem Lt.zero {col:Nat->Nat}{w:JW}(h:Lt col w){k:Nat}(D:w.heap.size<=k):col k=0:=Decidable.byContradiction λy=>Jw (h k y)
section
variable {P Q:Nat->Prop} {col col' col'':Nat->Nat} {w w' w'':JW}
theorem bF.of (E:Lt col w)(y:Jz w w'):bF P col col w w':=⟨λ_ _=>rfl,λ_ D=>.inl (E.zero D),jl.of y⟩
theorem bF.refl (y:Lt col w):bF P col col w w:=.of y (ag _ _)
theorem bF.trans (h:bF P col col' w w')(k:bF P col' col'' w' w''):bF P col col'' w w'':=by
 refine⟨λy D=>(k.old y (ai D h.s.size)).trans (h.old y D),λy D=>?_,h.s.trans k.s λy D J=>?_⟩
 ·by_cases E:y<w'.heap.size
  ·rw[k.old y E];exact(h.new y D).imp id λH=>⟨H.1,ai E k.s.size⟩
  exact k.new y Jo
 show P (col y);rw[<-h.old y D];exact J
theorem bF.mono (h:bF P col col' w w')(D:∀c,P c->Q c):bF Q col col' w w':=⟨h.old,λH E=>(h.new H E).imp id λy=>⟨D _ y.1,y.2⟩,h.s.mono λ_ _ y=>D _ y⟩
theorem bF.lt (h:bF P col col' w w')(H:Lt col w):Lt col' w':=λy D=>by
 by_cases E:y<w.heap.size
 ·exact ai E h.s.size
 exact((h.new y Jo).resolve_left D).2
theorem bF.part (h:bF P col col' w w')(J:¬P 0):Part (Off (jB col) w) (Off (jB col') w'):=
 eW h.s.size (λy D K=>h.s.block y D λE=>J (by
  have H:col y=0:=Decidable.byContradiction K;rw[H] at E;exact E)) λy D M=>by
  unfold jB at*
  rwa [h.old y D] at M
theorem bF.at (h:bF P col col' w w'){c:Nat}(hc:¬P c):∀k,k<w.heap.size->col k=c->col' k=c/\w'.heap[k]?=w.heap[k]?:=λk D y=>⟨(h.old k D).trans y,h.s.block k D λE=>hc (by rw[<-y];exact E)⟩
theorem bF.after (D:Lt col w)(y:Jz w w')(h:bF P col col' w' w''):bF P col col' w w'':=(bF.of D y).trans h
theorem bF.then (D:Lt col w)(h:bF P col col' w w')(y:Jz w' w''):bF P col col' w w'':=h.trans (bF.of (h.lt D) y)
theorem bF.drop (h:bF P col col' w w')(c:Nat)(hc:∀k,col k≠c):bF (λx=>P x/\x≠c) col (λk=>if col' k=c then 0 else col' k) w w':=by
 refine⟨λk D=>?_,λk D=>?_,h.s.mono λk _ y=>⟨y,hc k⟩⟩
 ·rw[h.old k D,if_neg (hc k)]
 by_cases y:col' k=c
 ·exact .inl (if_pos y)
 simp only[if_neg y];exact(h.new k D).imp id λx=>⟨⟨x.1,y⟩,x.2⟩
end
theorem tH {y:Nat->Prop}[DecidablePred y]{c:Nat}{col:Nat->Nat}{w w':JW}(hc:jl (λk=>col k=c) w w')(K:∀k,y k->col k=c∨(w.heap.size<=k/\k<w'.heap.size))(M:Lt col w):
 bF (λx=>x=c) col (λk=>if k<w.heap.size then col k else if y k then c else 0) w w'/\∀k,y k->(if k<w.heap.size then col k else if y k then c else 0)=c:=by
 refine⟨⟨λk D=>if_pos D,λk D=>?_,hc⟩,λk D=>?_⟩
 ·simp only[if_neg (show ¬k<w.heap.size by omega)];by_cases H:y k
  ·rcases K k H with E|E
   ·by_cases J:col k=0
    ·left;rw[if_pos H,<-E,J]
    exact absurd (M k J) Jo
   right;rw[if_pos H];exact⟨rfl,E.2⟩
  left;rw[if_neg H]
 by_cases H:k<w.heap.size
 ·rw[if_pos H];exact(K k D).resolve_right λE=>Jo
 rw[if_neg H,if_pos D]
theorem Rd.on {F:Nat->Prop}{size n:Nat}{A:JA}{xs:List Value}{w:JW}(h:Rd (Off F w) size A n xs):Rd w size A n xs:=h.part (nz F w)
theorem fI.on {F:Nat->Prop}{A:JA}{xs:List ej}{l:List eP}{w:JW}(h:fI (Off F w) A xs l):fI w A xs l:=h.part (nz F w)
theorem fP.off {B:Nat}{Q:TypeId}{v:Value}{xs:List ej}{l:List eP}{w:JW}(h:fP B Q v xs l w){F:Nat->Prop}(K:∀k,F k->k<B):∃A c,v= .slice A xs.length c/\fI (Off F w) A xs l:=by
 obtain⟨ag,M,aa,O,Z,V⟩:=h;obtain⟨A,c,rfl⟩:=O.form;have ah:∀k,k<B->k<w.heap.size:=λk y=>aa k (M k y);refine⟨A,c,rfl,Z,?_,λH E=>?_⟩
 ·exact O.off.part (eW (ac _) (λ_ _ _=>rfl) λk _ y=>M k (K k y))
 obtain⟨⟨D,T,J⟩,U⟩:=V H E Jo;refine⟨D,T,J.1,λY=>?_⟩;obtain⟨E,ae,H,W,X⟩:=J.2 Y;have Y:=(U _ H).2;refine⟨E,ae,H,by rw[km];exact W,λad af ab=>?_⟩;have D:=X ad af ab;unfold dL at D ⊢;rw[sK F w E λy=>by have:=K E y;simp only at Y;omega];exact D
def Xg (E:Exit->Act->World->Prop):Exit->Act->World->Prop
 | .panic _,_,_=>False
 | .normal,y,D=>E .normal y D
 | .ret,y,D=>E .ret y D
 | .exit H,y,D=>E (.exit H) y D
 | .goto J,y,D=>E (.goto J) y D
 | .outgrown,y,D=>E .outgrown y D
theorem Xe {y:Exit->Act->World->Prop}(e:Exit)(a:Act)(w:JW)(h:Xg y e a w):y e a w:=by
 cases e<;>first|exact h|exact h.elim
theorem xy (s e:Nat)(u:FrameMode)(w:JW)(E:w.cell? (Jp e 0)=some (Ji 0)):CallsD prog 299 #[Jv e,Jv s] u w λy D w'=>D=u/\y= .returned (.tuple #[])/\w'=w:=by
 go_enter_d Tryz.func299,Tryz.ntmps299;go_wp2_with fail;go_end0;exact⟨rfl,rfl⟩
theorem Ac (w:JW):JC 190 #[] w λe w'=>e= .returned (.agg #[.func (.func 280) #[] #[],.func (.func 281) #[] #[],.func (.func 282) #[] #[],.func (.func 284) #[] #[],.func (.func 286) #[] #[],.func (.func 287) #[] #[],.func (.func 288) #[] #[],.func (.func 289) #[] #[]])/\Below w.heap.size w w':=by
 go_enter Tryz.func190,Tryz.ntmps190;go_wp2_with fail;refine bodyPost_ret (v:=.agg #[.func (.func 280) #[] #[],.func (.func 281) #[] #[],.func (.func 282) #[] #[],.func (.func 284) #[] #[],.func (.func 286) #[] #[],.func (.func 287) #[] #[],.func (.func 288) #[] #[],.func (.func 289) #[] #[]]) (by rw[fX rfl];go_simp) rfl ⟨rfl,?_⟩;exact Below.one _ _
theorem OQ (y D E H J f5 f6 f7:Value)(w:JW):(jD 331 (.agg #[y,D,E,H,J,f5,f6,f7]) (Ji 0)).run prog w= .ok (.agg #[y,D]) w:=Jk
theorem LF (E H y D J f5 f6 f7:Value)(w:JW):(jD 331 (.agg #[E,H,y,D,J,f5,f6,f7]) (Ji 1)).run prog w= .ok (.agg #[y,D]) w:=Jk
theorem xH (y D:Value)(w:JW):(Instr.field 330 (.agg #[y,D]) 0).run prog w= .ok y w:=Jk
theorem DD (A:JA)(cl:Nat)(c:UInt8)(w:JW)(h1:97<=c.toNat)(h2:c.toNat<=122)(hr:Rd w 2 A 1 (dR (kE c))):
 JC 207 #[.agg #[Ji 0,.slice A 1 cl,Jn,Jn,Ji 0]] w λe w'=>e= .returned (.tuple #[.string (S (uint 0 ++ text (eT c))),Ji 0])/\Below w.heap.size w w':=by
 have aq:prog.follows .mixedOrders=true:=Jk;have bv:∀(D:Fn)(first y:Array Value)(w:JW),(cO D first y).run prog w= .ok (.func D first y) w:=λ_ _ _ _=>rfl;obtain⟨y,J⟩:=Je w.heap.size;obtain⟨E,bc,ba,ak,K,be,bf⟩:∃E,((w.alloc (.cells #[Ji 0,.slice A 1 cl,Jn,Jn,Ji 0] 108)).alloc (.cells #[.string ⟨#[]⟩] 9)).alloc (.cells #[Ji 0] 32)=E/\E.heap.size=y+3/\Below y w E/\
  E.heap[y]?=some (.cells #[Ji 0,.slice A 1 cl,Jn,Jn,Ji 0] 108 (0,0))/\E.heap[y+1]?=some (.cells #[.string ⟨#[]⟩] 9 (0,0))/\E.heap[y+2]?=some (.cells #[Ji 0] 32 (0,0)):=by
  have M:=heap_alloc_new ((w.alloc (.cells #[Ji 0,.slice A 1 cl,Jn,Jn,Ji 0] 108)).alloc (.cells #[.string ⟨#[]⟩] 9)) (.cells #[Ji 0] 32);have H:=heap_alloc_new (w.alloc (.cells #[Ji 0,.slice A 1 cl,Jn,Jn,Ji 0] 108)) (.cells #[.string ⟨#[]⟩] 9);have D:=heap_alloc_new w (.cells #[Ji 0,.slice A 1 cl,Jn,Jn,Ji 0] 108);simp only[aI,J,aV,bM] at D H M;exact⟨_,rfl,by simp[J],by rw[<-J];exact(cZ _ _ _).alloc (by simp;omega) _,(aJ _ _ _ (by simp[J];omega)).trans ((aJ _ _ _ (by simp[J])).trans D),(aJ _ _ _ (by simp[J])).trans H,M⟩
 have a6:Below w.heap.size w E:=by rw[J];exact ak
 have bn:E.cell? (Jp y 0)=some (Ji 0):=(aa K 0).trans rfl;have bx:E.cell? (Jp y 1)=some (.slice A 1 cl):=(aa K 1).trans rfl;have bz:E.cell? (Jp y 2)=some (Jn):=(aa K 2).trans rfl;have bA:E.cell? (Jp y 3)=some (Jn):=(aa K 3).trans rfl;have bC:E.cell? (Jp y 4)=some (Ji 0):=(aa K 4).trans rfl;have aC:=Jh (FL none A cl 0 0 1 [] E (Rd.nil _ _ _) rfl Jo Js Jo rfl);have aE:=Jh (λQ(D:Below E.heap.size E Q)=>LC y cl (Jn) A c h1 h2 Q ⟨(D.block y Jo).trans K⟩ ((hr.below a6).below D));have bt:=OQ;have br:=xH;have aG:=Jh bc;have T:=Jh ba;have aL:=Jh ak;have ah:=Jh K;have aT:=Jh be;have aU:=Jh bf;have bp:=Jh J;have bu:(text (eT c)).length<=20:=by simp[text,eT,uint]
 go_enter_defers Tryz.func207,Tryz.ntmps207;refine Code.wp_mono Xe ?_;go_wp2_with fail;try simp only[aG.o]
 refine aC.o.mono ?_;rintro e ax ⟨rfl,ao⟩;have p0:=al ao bn;have ai:=Jh p0;have aM:=Jh ao;go_wp2_with fail;refine cB (n:=10) (S:=λw'=>w'.cell? (Jp y 0)=some (Ji 0)/\True) aq 10 rfl ⟨ai.o,trivial⟩ (λU=>?_);refine JH 1 (h:=JH 2 (h:=?_));refine JM 0 (h:=λV H=>?_);go_simp;refine(Ac _).mono ?_;rintro aj ay ⟨rfl,aX⟩;have ap:Below ax.heap.size ax ay:=aX.h;refine H.out _ _ ⟨al ap ai.o,trivial⟩ (λU=>?_);have ag:=Jh (aM.o.then ap);try simp only[an,JY]
 refine JH 3 (h:=JH 4 (h:=?_));refine JM 5 (h:=λV H=>?_);go_simp;refine(aE.o ay ag.o).mono ?_;rintro aj af ⟨rfl,aY⟩;have O:=Jh (ag.o.then aY);refine H.out _ _ ⟨(aa ((O.o.block y (Jw T.o)).trans ah.o) 0).trans rfl,trivial⟩ (λU=>?_);try simp only[an,JY]
 refine JH 6 (h:=JH 7 (h:=JH 8 (h:=JH 9 (h:=?_))));refine cy Jk ?_;have ar:=(O.o.block (y+2) (Jw T.o)).trans aU.o;obtain⟨M,aA⟩:=aP ar 0;simp only[aH,aD] at M;go_wp2_with fail;have bq:y+1+1=y+2:=rfl;obtain⟨D,bd,aZ,bb,bg,bh,bi⟩:∃D,af.setCell (Jp (y+1+1) 0) (Ji 0)=D/\Below y w D/\y+3<=D.heap.size/\
  D.cell? (Jp y 0)=some (Ji 0)/\D.heap[y+1]?=some (.cells #[.string ⟨#[]⟩] 9 (0,0))/\D.heap[y+2]?=some (.cells #[Ji 0] 32 (0,0)):=by
  have Y:Below y w af:=aL.o.trans (O.o.mono (Jw T.o));have W:=(O.o.block y (Jw T.o)).trans ah.o;have X:=(O.o.block (y+1) (Jw T.o)).trans aT.o;have Z:y+3<=af.heap.size:=by have:=T.o;have:=O.o.size;omega
  refine⟨_,rfl,Y.setCell (p:=(Jp (y+2) 0)) Js _,by simpa using Z,?_,(ae _ _ _ _ (show y+1≠y+2 by omega)).trans X,(am ar _).trans rfl⟩;exact(aa ((ae _ _ _ _ (show y≠y+2 by omega)).trans W) 0).trans rfl
 have aK:=Jh bd;have aN:=Jh aZ;have ab:=Jh bb;have W:=Jh bg;have aW:=Jh bh;have X:=Jh bi;have aF:=Jh (λ(Q:JW)(hr:Rd Q 1 (some (Jp D.heap.size 0)) 1 ([0].map λY:Nat=>cY .i64 (Y:Int)))=>nY (some (Jp D.heap.size 0)) 1 1 [0] Q hr rfl Jo (by intro Y a7;simp at a7;omega));have a8:Rd (D.alloc (.cells #[Ji 0] 3)).drew 1 (some (Jp D.heap.size 0)) 1 ([0].map λY:Nat=>cY .i64 (Y:Int)):=by
  have Z:=heap_alloc_new D (.cells #[Ji 0] 3);exact⟨rfl,λ_=>⟨_,_,rfl,Js,λQ ad ac=>by
   rw[show(D.alloc (.cells #[Ji 0] 3)).drew.cell? (Jp D.heap.size (0+Q))=(D.alloc (.cells #[Ji 0] 3)).cell? (Jp D.heap.size (0+Q)) from rfl,aa Z,bB];simpa using ac⟩⟩
 have aS:=Jh a8;have aB:=Jh (show S ([0].flatMap uint) ++ S (text (eT c))=S (uint 0 ++ text (eT c)) by rw[ef];simp);have bw:(9223372036854775807<(S ([0].flatMap uint)).size+(S (text (eT c))).size)=False:=by
  have Q:([0].flatMap uint).length<=10:=by simp[uint]
  rw[bH,bH];simp;simp at Q;omega
 generalize [0].flatMap uint=ad at*;simp only[aK.o];refine cB (n:=8) (S:=λw'=>w'.cell? (Jp y 0)=some (Ji 0)/\w'.cell? (Jp (y+1+1) 0)=some (Ji 0)/\True) aq 8 rfl ⟨W.o,(aa X.o 0).trans rfl,trivial⟩ (λU=>?_);refine JH 0 (h:=JH 1 (h:=JH 4 (h:=JH 6 (h:=?_))));refine JM 2 (h:=λV H=>?_);go_simp;refine H.out _ _ ⟨al (Below.one D _).drew W.o,al (Below.one D _).drew ((aa X.o 0).trans rfl),trivial⟩ (λU=>?_);try simp only[an,JY]
 refine JM 3 (h:=λV H=>?_);go_simp;refine(aF.o _ aS.o).mono ?_;rintro aj az ⟨rfl,a1⟩;have Q:=Jh (show Below D.heap.size D az from(Below.one D (.cells #[Ji 0] 3)).drew.then a1);refine H.out _ _ ⟨al Q.o W.o,al Q.o ((aa X.o 0).trans rfl),trivial⟩ (λU=>?_);try simp only[an,JY]
 refine JH 5 (h:=?_);have au:=(Q.o.block (y+1) (Jw ab.o)).trans aW.o;have av:=(Q.o.block (y+2) (Jw ab.o)).trans X.o;obtain⟨ac,bo⟩:=aP au 0;obtain⟨M,aA⟩:=aP av 0;simp only[aH,aD] at ac M;refine JM 7 (h:=λV H=>?_);go_simp;refine H.out _ _ ⟨(fK _ _ _ _ Js).trans (al Q.o W.o),(fK _ _ _ _ Js).trans M,trivial⟩ (λU=>?_);try simp only[an,JY]
 refine cy Jk ?_;have aO:=Jh (aN.o.trans (Q.o.mono (Jw ab.o)));obtain⟨V,H⟩:=Je (az.setCell (Jp (y+1) 0) (.string (S ad ++ S (text (eT c)))));have bj:V.heap[y+1]?=some (.cells #[.string (S ad ++ S (text (eT c)))] 9 (0,0)):=by rw[<-H];exact(am au _).trans rfl
 have aw:V.heap[y+2]?=some (.cells #[Ji 0] 32 (0,0)):=by rw[<-H];exact(ae _ _ _ _ (show y+2≠y+1 by omega)).trans av
 have aQ:Below y w V:=by rw[<-H];exact aO.o.setCell (p:=(Jp (y+1) 0)) Js _
 obtain⟨bm,bF⟩:=aP aw 0;simp only[aH,aD] at bm;simp only[H];go_wp2_with fail;obtain⟨Z,U⟩:=Je (V.setCell (Jp (y+2) 0) (Ji 0));have bk:Z.heap[y+1]?=some (.cells #[.string (S ad ++ S (text (eT c)))] 9 (0,0)):=by rw[<-U];exact(ae _ _ _ _ (show y+1≠y+2 by omega)).trans bj
 have bl:Z.heap[y+2]?=some (.cells #[Ji 0] 32 (0,0)):=by rw[<-U];exact(am aw _).trans rfl
 have aR:Below y w Z:=by rw[<-U];exact aQ.setCell (p:=(Jp (y+2) 0)) Js _
 obtain⟨ac,bo⟩:=aP bk 0;obtain⟨M,aA⟩:=aP bl 0;simp only[aH,aD] at ac M;simp only[U];refine leaves_cons (f:=299) (args:=#[.pointer (some (Jp (y+2) 0)),.pointer (some (Jp (y+1) 0))]) Js (by simp[go_sem]) ?_;refine(xy (y+1) (y+2) .returning Z M).mono ?_;rintro e bD bE ⟨rfl,rfl,rfl⟩;refine⟨_,(by rw[gj rfl];go_simp;rfl),?_,aR⟩;rw[aB.o]
theorem DF (A:JA)(c n:Nat)(rows:List Row)(w:JW)(hr:Rd w 3 A n (rows.flatMap aR))(ay:rows.length=n)(bb:0<n)(aw:n<=1000)(af:∀r∈rows,uW r)(az:∀r∈rows,pJ r.V):
 JC 207 #[.agg #[Ji 1,Jn,.slice A n c,Jn,Ji 0]] w λe w'=>e= .returned (.tuple #[.string (S (uint 1 ++ (uint n ++ ip rows))),Ji 0])/\Below w.heap.size w w':=by
 have ax:prog.follows .mixedOrders=true:=Jk;have bG:∀(D:Fn)(first y:Array Value)(w:JW),(cO D first y).run prog w= .ok (.func D first y) w:=λ_ _ _ _=>rfl;obtain⟨y,J⟩:=Je w.heap.size;obtain⟨E,bl,bj,aq,K,bn,bo⟩:∃E,((w.alloc (.cells #[Ji 1,Jn,.slice A n c,Jn,Ji 0] 108)).alloc (.cells #[.string ⟨#[]⟩] 9)).alloc (.cells #[Ji 0] 32)=E/\E.heap.size=y+3/\Below y w E/\
  E.heap[y]?=some (.cells #[Ji 1,Jn,.slice A n c,Jn,Ji 0] 108 (0,0))/\E.heap[y+1]?=some (.cells #[.string ⟨#[]⟩] 9 (0,0))/\E.heap[y+2]?=some (.cells #[Ji 0] 32 (0,0)):=by
  have M:=heap_alloc_new ((w.alloc (.cells #[Ji 1,Jn,.slice A n c,Jn,Ji 0] 108)).alloc (.cells #[.string ⟨#[]⟩] 9)) (.cells #[Ji 0] 32);have H:=heap_alloc_new (w.alloc (.cells #[Ji 1,Jn,.slice A n c,Jn,Ji 0] 108)) (.cells #[.string ⟨#[]⟩] 9);have D:=heap_alloc_new w (.cells #[Ji 1,Jn,.slice A n c,Jn,Ji 0] 108);simp only[aI,J,aV,bM] at D H M;exact⟨_,rfl,by simp[J],by rw[<-J];exact(cZ _ _ _).alloc (by simp;omega) _,(aJ _ _ _ (by simp[J];omega)).trans ((aJ _ _ _ (by simp[J])).trans D),(aJ _ _ _ (by simp[J])).trans H,M⟩
 have av:Below w.heap.size w E:=by rw[J];exact aq
 have bx:E.cell? (Jp y 0)=some (Ji 1):=(aa K 0).trans rfl;have bJ:E.cell? (Jp y 1)=some (Jn):=(aa K 1).trans rfl;have bK:E.cell? (Jp y 2)=some (.slice A n c):=(aa K 2).trans rfl;have bL:E.cell? (Jp y 3)=some (Jn):=(aa K 3).trans rfl;have bN:E.cell? (Jp y 4)=some (Ji 0):=(aa K 4).trans rfl;have aN:=Jh (FN A none 0 c n 0 rows E (hr.below av) ay aw af rfl bb);have aO:=Jh (λQ(D:Below E.heap.size E Q)=>LD y c n (Jn) A rows Q ⟨(D.block y Jo).trans K⟩ ((hr.below av).below D) ay aw af az);have bF:=LF;have bE:=xH;have aS:=Jh bl;have T:=Jh bj;have aU:=Jh aq;have ak:=Jh K;have a7:=Jh bn;have a8:=Jh bo;have bC:=Jh J;have bg:(uint n ++ ip rows).length<=40000:=by
  rw[ab];have D:=rN af az;have H:=bA (n:=n) Jo;omega
 go_enter_defers Tryz.func207,Tryz.ntmps207;refine Code.wp_mono Xe ?_;go_wp2_with fail;try simp only[aS.o]
 refine aN.o.mono ?_;rintro e aF ⟨rfl,ar⟩;have p0:=al ar bx;have ao:=Jh p0;have aW:=Jh ar;go_wp2_with fail;refine cB (n:=10) (S:=λw'=>w'.cell? (Jp y 0)=some (Ji 1)/\True) ax 10 rfl ⟨ao.o,trivial⟩ (λU=>?_);refine JH 1 (h:=JH 2 (h:=?_));refine JM 0 (h:=λW H=>?_);go_simp;refine(Ac _).mono ?_;rintro ap aG ⟨rfl,bc⟩;have au:Below aF.heap.size aF aG:=bc.h;refine H.out _ _ ⟨al au ao.o,trivial⟩ (λU=>?_);have aj:=Jh (aW.o.then au);try simp only[an,JY]
 refine JH 3 (h:=JH 4 (h:=?_));refine JM 5 (h:=λW H=>?_);go_simp;refine(aO.o aG aj.o).mono ?_;rintro ap ai ⟨rfl,bd⟩;have O:=Jh (aj.o.then bd);refine H.out _ _ ⟨(aa ((O.o.block y (Jw T.o)).trans ak.o) 0).trans rfl,trivial⟩ (λU=>?_);try simp only[an,JY]
 refine JH 6 (h:=JH 7 (h:=JH 8 (h:=JH 9 (h:=?_))));refine cy Jk ?_;have aA:=(O.o.block (y+2) (Jw T.o)).trans a8.o;obtain⟨M,aL⟩:=aP aA 0;simp only[aH,aD] at M;go_wp2_with fail;have bD:y+1+1=y+2:=rfl;obtain⟨D,bm,be,bk,bp,bq,br⟩:∃D,ai.setCell (Jp (y+1+1) 0) (Ji 0)=D/\Below y w D/\y+3<=D.heap.size/\
  D.cell? (Jp y 0)=some (Ji 1)/\D.heap[y+1]?=some (.cells #[.string ⟨#[]⟩] 9 (0,0))/\D.heap[y+2]?=some (.cells #[Ji 0] 32 (0,0)):=by
  have Z:Below y w ai:=aU.o.trans (O.o.mono (Jw T.o));have X:=(O.o.block y (Jw T.o)).trans ak.o;have Y:=(O.o.block (y+1) (Jw T.o)).trans a7.o;have ac:y+3<=ai.heap.size:=by have:=T.o;have:=O.o.size;omega
  refine⟨_,rfl,Z.setCell (p:=(Jp (y+2) 0)) Js _,by simpa using ac,?_,(ae _ _ _ _ (show y+1≠y+2 by omega)).trans Y,(am aA _).trans rfl⟩;exact(aa ((ae _ _ _ _ (show y≠y+2 by omega)).trans X) 0).trans rfl
 have aT:=Jh bm;have aX:=Jh be;have ad:=Jh bk;have X:=Jh bp;have ba:=Jh bq;have Y:=Jh br;have aQ:=Jh (λ(Q:JW)(hr:Rd Q 1 (some (Jp D.heap.size 0)) 1 ([1].map λZ:Nat=>cY .i64 (Z:Int)))=>nY (some (Jp D.heap.size 0)) 1 1 [1] Q hr rfl Jo (by intro Z bh;simp at bh;omega));have bi:Rd (D.alloc (.cells #[Ji 1] 3)).drew 1 (some (Jp D.heap.size 0)) 1 ([1].map λZ:Nat=>cY .i64 (Z:Int)):=by
  have ac:=heap_alloc_new D (.cells #[Ji 1] 3);exact⟨rfl,λ_=>⟨_,_,rfl,Js,λQ ah ag=>by
   rw[show(D.alloc (.cells #[Ji 1] 3)).drew.cell? (Jp D.heap.size (0+Q))=(D.alloc (.cells #[Ji 1] 3)).cell? (Jp D.heap.size (0+Q)) from rfl,aa ac,bB];simpa using ag⟩⟩
 have a6:=Jh bi;have aM:=Jh (show S ([1].flatMap uint) ++ S (uint n ++ ip rows)=S (uint 1 ++ (uint n ++ ip rows)) by rw[ef];simp);have bI:(9223372036854775807<(S ([1].flatMap uint)).size+(S (uint n ++ ip rows)).size)=False:=by
  have Q:([1].flatMap uint).length<=10:=by simp[uint]
  rw[bH,bH];simp;simp at Q;rw[ab] at bg;omega
 generalize [1].flatMap uint=ah at*;simp only[aT.o];refine cB (n:=8) (S:=λw'=>w'.cell? (Jp y 0)=some (Ji 1)/\w'.cell? (Jp (y+1+1) 0)=some (Ji 0)/\True) ax 8 rfl ⟨X.o,(aa Y.o 0).trans rfl,trivial⟩ (λU=>?_);refine JH 0 (h:=JH 1 (h:=JH 4 (h:=JH 6 (h:=?_))));refine JM 2 (h:=λW H=>?_);go_simp;refine H.out _ _ ⟨al (Below.one D _).drew X.o,al (Below.one D _).drew ((aa Y.o 0).trans rfl),trivial⟩ (λU=>?_);try simp only[an,JY]
 refine JM 3 (h:=λW H=>?_);go_simp;refine(aQ.o _ a6.o).mono ?_;rintro ap aK ⟨rfl,bf⟩;have Q:=Jh (show Below D.heap.size D aK from(Below.one D (.cells #[Ji 1] 3)).drew.then bf);refine H.out _ _ ⟨al Q.o X.o,al Q.o ((aa Y.o 0).trans rfl),trivial⟩ (λU=>?_);try simp only[an,JY]
 refine JH 5 (h:=?_);have aB:=(Q.o.block (y+1) (Jw ad.o)).trans ba.o;have aC:=(Q.o.block (y+2) (Jw ad.o)).trans Y.o;obtain⟨ag,bz⟩:=aP aB 0;obtain⟨M,aL⟩:=aP aC 0;simp only[aH,aD] at ag M;refine JM 7 (h:=λW H=>?_);go_simp;refine H.out _ _ ⟨(fK _ _ _ _ Js).trans (al Q.o X.o),(fK _ _ _ _ Js).trans M,trivial⟩ (λU=>?_);try simp only[an,JY]
 refine cy Jk ?_;have aY:=Jh (aX.o.trans (Q.o.mono (Jw ad.o)));obtain⟨W,H⟩:=Je (aK.setCell (Jp (y+1) 0) (.string (S ah ++ S (uint n ++ ip rows))));have bt:W.heap[y+1]?=some (.cells #[.string (S ah ++ S (uint n ++ ip rows))] 9 (0,0)):=by rw[<-H];exact(am aB _).trans rfl
 have aE:W.heap[y+2]?=some (.cells #[Ji 0] 32 (0,0)):=by rw[<-H];exact(ae _ _ _ _ (show y+2≠y+1 by omega)).trans aC
 have aZ:Below y w W:=by rw[<-H];exact aY.o.setCell (p:=(Jp (y+1) 0)) Js _
 obtain⟨bw,bQ⟩:=aP aE 0;simp only[aH,aD] at bw;simp only[H];go_wp2_with fail;obtain⟨ac,U⟩:=Je (W.setCell (Jp (y+2) 0) (Ji 0));have bu:ac.heap[y+1]?=some (.cells #[.string (S ah ++ S (uint n ++ ip rows))] 9 (0,0)):=by rw[<-U];exact(ae _ _ _ _ (show y+1≠y+2 by omega)).trans bt
 have bv:ac.heap[y+2]?=some (.cells #[Ji 0] 32 (0,0)):=by rw[<-U];exact(am aE _).trans rfl
 have a1:Below y w ac:=by rw[<-U];exact aZ.setCell (p:=(Jp (y+2) 0)) Js _
 obtain⟨ag,bz⟩:=aP bu 0;obtain⟨M,aL⟩:=aP bv 0;simp only[aH,aD] at ag M;simp only[U];refine leaves_cons (f:=299) (args:=#[.pointer (some (Jp (y+2) 0)),.pointer (some (Jp (y+1) 0))]) Js (by simp[go_sem]) ?_;refine(xy (y+1) (y+2) .returning ac M).mono ?_;rintro e bO bP ⟨rfl,rfl,rfl⟩;refine⟨_,(by rw[gj rfl];go_simp;rfl),?_,a1⟩;rw[aM.o]
def vy (x:Nat):Nat:=(x*2 % 65536) ^^^ (if x.testBit 15 then 4129 else 0)
def vz (x:Nat):Nat:=vy (vy (vy (vy x)))
def tb (c b:Nat):Nat:=vz (vz (c ^^^ b*256))
def ru (c:Nat):JU->Nat
 |[]=>c
 |b :: y=>ru (tb c b.toNat) y
def crc (l:JU):Nat:=ru 65535 l
theorem Fq {a b:Nat}(y:a<65536)(D:b<65536):a ^^^ b<65536:=Nat.xor_lt_two_pow (n:=16) y D
theorem RF (x:Nat):vy x<65536:=by
 unfold vy;exact Fq (dX _ Jd) (by split<;>decide)
theorem II (x:Nat):vz x<65536:=RF _
theorem FS (c b:Nat):tb c b<65536:=II _
theorem FT:∀(l:JU)(c:Nat),c<65536->ru c l<65536:=by
 intro l;induction l with
 |nil=>intro c y;exact y
 |cons b l D=>intro c _;exact D _ (FS _ _)
theorem BD (l:JU):crc l<65536:=FT l _ Jd
theorem xl:∀(l m:JU)(c:Nat),ru c (l ++ m)=ru (ru c l) m:=by
 intro l;induction l with
 |nil=>intro m c;rfl
 |cons b l y=>intro m c;exact y m _
theorem Sd (x y:Nat):(x ^^^ y)*2 % 65536=(x*2 % 65536) ^^^ (y*2 % 65536):=by
 have D:(x ^^^ y)*2=(x*2) ^^^ (y*2):=by
  have:=Nat.shiftLeft_xor_distrib (a:=x) (b:=y) (i:=1);simpa [Nat.shiftLeft_eq] using this
 have E:=Nat.xor_mod_two_pow (a:=x*2) (b:=y*2) (n:=16);rw[D];exact E
theorem Xn (a b c:Nat):a ^^^ (b ^^^ c)=b ^^^ (a ^^^ c):=by rw[<-fU,Nat.xor_comm a b,fU]
theorem xor_zero {x y:Nat}(h:x ^^^ y=0):x=y:=by
 have:(x ^^^ y) ^^^ y=y:=by rw[h,Nat.zero_xor]
 rwa [fU,Nat.xor_self,Nat.xor_zero] at this
theorem sZ (x D:Nat):vy (x ^^^ D)=vy x ^^^ vy D:=by
 unfold vy;rw[Sd,Nat.testBit_xor];generalize x*2 % 65536=H;generalize D*2 % 65536=E;have J:∀y:Nat,((H ^^^ E) ^^^ (if(x.testBit 15 ^^ D.testBit 15)=true then y else 0))=(H ^^^ (if x.testBit 15=true then y else 0)) ^^^ (E ^^^ (if D.testBit 15=true then y else 0)):=by
  intro y;cases x.testBit 15<;>cases D.testBit 15
  ·simp
  ·simp[fU]
  ·simp only[Bool.xor_false,if_true,Bool.false_eq_true,if_false,Nat.xor_zero];rw[fU,Nat.xor_comm E y,<-fU]
  simp only[Bool.xor_self,Bool.false_eq_true,if_false,if_true,Nat.xor_zero];rw[fU H y,Xn y E y,Nat.xor_self,Nat.xor_zero]
 exact J 4129
theorem CX (x y:Nat):vz (x ^^^ y)=vz x ^^^ vz y:=by
 unfold vz;rw[sZ,sZ,sZ,sZ]
theorem Tx {x:Nat}(h:x<65536):x.testBit 15=decide (32768<=x):=by
 rw[Nat.testBit_eq_decide_div_mod_eq];by_cases y:32768<=x
 ·have:x / 2 ^ 15 % 2=1:=Jo;simp[this,y]
 have:x / 2 ^ 15 % 2=0:=Jo;simp[this,y]
theorem oW {x:Nat}(h:x<32768):vy x=x*2:=by
 unfold vy;rw[Tx Jo];have:decide (32768<=x)=false:=by simp;omega
 rw[this];simp;omega
theorem CW {x:Nat}(h:x<4096):vz x=x*16:=by
 unfold vz;rw[oW (by omega:x<32768),oW (by omega:x*2<32768),oW (by omega:x*2*2<32768),oW (by omega:x*2*2*2<32768)];omega
def stepOf (n:Nat):Nat:=vz (n*4096)
theorem Ts (c:Nat):c=(c / 4096*4096) ^^^ (c % 4096):=by
 have E:c % 4096<2 ^ 12:=dX _ Jd;have H:=eu E (c / 4096);have y:2 ^ 12*(c / 4096) |||c % 4096=(2 ^ 12*(c / 4096)) ^^^ (c % 4096):=by
  apply Nat.eq_of_testBit_eq;intro D;rw[Nat.testBit_or,Nat.testBit_xor,Nat.testBit_two_pow_mul];by_cases J:D<12
  ·have:¬12<=D:=Jo;simp[this]
  have:(c % 4096).testBit D=false:=Nat.testBit_lt_two_pow (ai E (ce Jd Jo));simp[this]
 rw[<-H] at y;have D:2 ^ 12*(c / 4096)=c / 4096*4096:=by rw[dj]
 rw[D] at y;rw[<-y];omega
theorem half (c h:Nat):(c*16 % 65536) ^^^ stepOf ((c / 4096) ^^^ h)=vz (c ^^^ h*4096):=by
 have y:c ^^^ h*4096=(((c / 4096) ^^^ h)*4096) ^^^ (c % 4096):=by
  have D:((c / 4096) ^^^ h)*4096=(c / 4096*4096) ^^^ (h*4096):=by
   have:=Nat.shiftLeft_xor_distrib (a:=c / 4096) (b:=h) (i:=12);simpa [Nat.shiftLeft_eq] using this
  rw[D]
  conv=>lhs;rw[Ts c]
  rw[fU,fU,Nat.xor_comm (c % 4096)]
 rw[y,CX,CW (dX _ Jd),Nat.xor_comm];unfold stepOf;congr 1;omega
theorem Dd (c b:Nat)(H:b<256):tb c b=((((c*16 % 65536) ^^^ stepOf ((c / 4096) ^^^ (b / 16)))*16) % 65536) ^^^ stepOf ((((c*16 % 65536) ^^^ stepOf ((c / 4096) ^^^ (b / 16))) / 4096) ^^^ (b % 16)):=by
 rw[half,half];unfold tb;have D:b*256=(b / 16*4096) ^^^ (b % 16*256):=by
  have J:b=(b / 16*16) ^^^ (b % 16):=by
   have E:∀y:Fin 256,y.val=(y.val / 16*16) ^^^ (y.val % 16):=by decide+kernel
   exact E ⟨b,H⟩
  have y:=Nat.shiftLeft_xor_distrib (a:=b / 16*16) (b:=b % 16) (i:=8);rw[<-J] at y;simp only[Nat.shiftLeft_eq] at y;have E:b*256=b / 16*16*256 ^^^ b % 16*256:=y;rw[E,Nat.mul_assoc]
 have y:vz (b % 16*256)=b % 16*4096:=by rw[CW Jo];omega
 rw[D,<-fU,CX (c ^^^ b / 16*4096),y]
theorem Cv:(aL 16).map stepOf=[0,4129,8258,12387,16516,20645,24774,28903,33032,37161,41290,45419,49548,53677,57806,61935]:=by decide+kernel
def yY (w:JW):Prop:=0<w.heap.size/\∀y,y<16->w.cell? (Jp 0 y)=some (.int .u16 (stepOf y:Nat))
theorem yY.below {w w':JW}(h:yY w)(y:Jz w w'):yY w':=
 ⟨ai h.1 y.size,λD E=>(y.cell (p:=(Jp 0 D)) h.1).trans (h.2 D E)⟩
theorem yY.alloc {w:JW}(h:yY w)(o:Obj):yY (w.alloc o):=h.below ((ag _ _).alloc (ac _) o)
theorem Vb {P:Program}{E:JW}(h:Lib.TabIs P E "strandline/frame.steps" .u16 [0,4129,8258,12387,16516,20645,24774,28903,33032,37161,41290,45419,49548,53677,57806,61935])(T:P.globalNamed "strandline/frame.steps"=some 0):yY E:=by
 have M:∀y,y<16->E.cell? (Jp 0 y)=some (.int .u16 (stepOf y:Nat)):=by
  intro y K;have O:=h.cell T y K;rw[O];have J:=congrArg (λD=>D[y]?) Cv;simp only[List.getElem?_map,List.getElem?_range K,eO] at J;have Q:∀(D:List Nat)(H:List Int),H=D.map (λ(W:Nat)=>(W:Int))->D[y]?=some (stepOf y)->H.getD y 0=(stepOf y:Int):=by
   intro D H V U;rw[V,bQ,List.getElem?_map,U];rfl
  rw[Q _ _ Jr J.symm]
 exact⟨bq E _ (M 0 Jd),M⟩
theorem BO {s:ByteArray}{j:Nat}(h:j<s.size):s.data.toList.take (j+1)=s.data.toList.take j ++ [s[j]]:=by
 have y:j<s.data.toList.length:=by rw[<-bX];exact h
 rw[aO y];rfl
theorem Om (l:JU)(b:UInt8):crc (l ++ [b])=tb (crc l) b.toNat:=by unfold crc;rw[xl];rfl
theorem Aj {c n:Nat}(h:stepOf n<65536):bits .xor .u16 (IntKind.u16.wrap ((c:Int)*16)) (stepOf n:Nat)=(((c*16 % 65536) ^^^ stepOf n:Nat):Int):=by
 have y:IntKind.u16.wrap ((c:Int)*16)=((c*16 % 65536:Nat):Int):=by
  simp[IntKind.wrap,IntKind.bits,IntKind.signed]
 rw[y,u16_xor_nat _ _ (dX _ Jd) h]
theorem uQ (n:Nat):stepOf n<65536:=II _
theorem Ep {c h:Nat}(hc:c<65536)(D:h<16):bits .xor .u16 ((c:Int) / 4096) (h:Nat)=((c / 4096 ^^^ h:Nat):Int):=by
 have y:(c:Int) / 4096=((c / 4096:Nat):Int):=Jo;rw[y,u16_xor_nat _ _ Jo Jo]
theorem PR {c h:Nat}(hc:c<65536)(y:h<16):c / 4096 ^^^ h<16:=Nat.xor_lt_two_pow (n:=4) Jo y
theorem Vv {b:Nat}(y:b<256):bits .and .u8 (b:Int) 15=(b:Int) % 16:=by
 have:=bits_mask .u8 8 Jd wraps_u8 4 Jd (b:Int) Jo Jo;simpa using this
theorem IW (s:ByteArray)(w:JW)(Z:yY w)(au:s.size<1099511627776):
 JC 188 #[.string s] w λe w'=>e= .returned (Ji (crc s.data.toList))/\Jz w w':=by
 obtain⟨ak,ay,ap,X,ar,-,y⟩:=mr (P:=prog) w 9 22 5 s underlying9 underlying22 underlying5;have ac:=Jh y;have W:=Jh (Z.below X);clear y Z;go_enter Tryz.func188,Tryz.ntmps188;go_wp2_with fail;go_loop [3,9] (λE D=>∃y:Nat,D=Ji y/\y<=s.size/\E= .int .u16 (crc (s.data.toList.take y):Nat)) (λ_ D=>s.size - (intOf D).toNat)
 case atStart=>exact⟨0,rfl,Jo,rfl⟩
 obtain⟨y,rfl,aq,rfl⟩:=hrel;by_cases Y:y<s.size;rotate_left
 ·have M:=BD (s.data.toList.take y);have D:=Jh (show s.data.toList.take y=s.data.toList from aw (by rw[<-bX];omega));go_wp2_with fail;go_ret;exact⟨Ki (by rw[D.o]),X⟩
 have M:=BD (s.data.toList.take y);have H:=Jh (Om (s.data.toList.take y) s[y]);have U:=(s[y]).toNat_lt;have ah:=ac.o y Y;have ad:=Jh (BO Y);generalize crc (s.data.toList.take y)=E at M H;generalize af:s[y].toNat=D at U ah H;rw[Dd E D U] at H;have Q:=Ep (h:=D / 16) M Jo;have aa:=PR (h:=D / 16) M Jo;generalize ai:E / 4096 ^^^ D / 16=J at Q aa H;have ae:=Aj (c:=E) (n:=J) (uQ J);have av:=W.o.2 J aa;have V:E*16 % 65536 ^^^ stepOf J<65536:=Fq (dX _ Jd) (uQ _);generalize ag:E*16 % 65536 ^^^ stepOf J=O at ae V H;have T:=Ep (h:=D % 16) V Jo;have ab:=PR (h:=D % 16) V Jo;generalize aj:O / 4096 ^^^ D % 16=K at T ab H;have an:=Aj (c:=O) (n:=K) (uQ K);have ax:=W.o.2 K ab;have ao:=Vv U;have al:bits .xor .u16 ((E:Int) / 4096) ((D:Int) / 16)=(J:Int):=by rw[<-Q];simp
 have am:bits .xor .u16 ((O:Int) / 4096) ((D:Int) % 16)=(K:Int):=by rw[<-T];simp
 clear Q T ai ag aj af;generalize stepOf J=Q at*;generalize stepOf K=T at*;go_wp2_with fail;go_round
 case rel=>exact⟨y+1,by go_num,Jo,by rw[ad.o,H.o]⟩
 simp[intOf];omega
def ir (l:List UInt8):List UInt8:=[nN (crc l / 256),nN (crc l % 256)]
def frame (l:List UInt8):List UInt8:=text l ++ ir l
theorem Kn {l:List UInt8}(h:l.length<1099511627776):(text l).length<=l.length+10:=by
 rw[text,ab];have:=bA (n:=l.length) (by omega);omega
theorem LG (s:ByteArray)(w:World)(J:yY w)(E:s.size<1099511627776):
 Calls Tryz.prog 208 #[.string s] w λe w'=>e= .returned (.string (S (frame s.data.toList)))/\Jz w w':=by
 have T:=BD s.data.toList;have K:=eE (IW s w J E);have O:=eE (λw=>ri s w E);have M:Hid (frame s.data.toList=text s.data.toList ++ [nN (crc s.data.toList / 256),nN (crc s.data.toList % 256)]):=rfl;have W:(S (text s.data.toList)).size<=s.size+10:=by rw[bH,bX];exact Kn (by rw[<-bX];exact E)
 clear J;generalize crc s.data.toList=y at*;have U:=yw (P:=Tryz.prog) (src:=22) (dst:=9) (IntKind.u8.wrap ((y:Int) / 256)) (IntKind.u8.wrap (y:Int)) (nN (y / 256)) (nN (y % 256)) (by rw[yL _ (by omega),IntKind.wrap_u8];omega) (by rw[yL _ (by omega),IntKind.wrap_u8];omega) Tryz.underlying22 Tryz.underlying5 Tryz.underlying9;have V:(S [nN (y / 256),nN (y % 256)]).size=2:=by rw[bH];rfl
 go_enter Tryz.func208,Tryz.ntmps208;go_wp2_with fail;refine K.out.mono ?_;rintro e Y ⟨rfl,H⟩;go_wp2_with fail;go_region_with (go_at_call 108;refine(O.out _).mono ?_;rintro e Z ⟨rfl,D⟩;obtain⟨Q,_⟩:=Vw D);all_goals go_wp2_with fail
 all_goals go_ret
 all_goals refine⟨Ck (by rw[M.out,<-ef]),?_⟩
 all_goals first|exact H.then (D.h.then (Below.one _ _))|exact H.then D.h.X
structure Rc where
 k:Nat
 lA:JA
 ln:Nat
 lc:Nat
 rA:JA
 rn:Nat
 rc:Nat
 b:JU
def mM (r:Rc):List Value:=[Ji r.k,aQ r.lA r.ln r.lc,aQ r.rA r.rn r.rc,Jn,Ji 0]
theorem yl (r:Rc):(mM r).length=5:=rfl
structure Fz (r:Rc) (w:JW):Prop where
 enc:∀W,Below w.heap.size w W->JC 207 #[GP r.k (.slice r.lA r.ln r.lc) (.slice r.rA r.rn r.rc)] W λe w'=>e= .returned (.tuple #[.string (S r.b),Ji 0])/\Below W.heap.size W w'
 len:r.b.length<=40020
theorem Fz.below {r:Rc}{w w':JW}(h:Fz r w)(E:Below w.heap.size w w'):Fz r w':=
 ⟨λy D=>h.enc y (E.then D),h.len⟩
theorem US {A:JA}{cl:Nat}{c:UInt8}{w:JW}(h1:97<=c.toNat)(h2:c.toNat<=122)(hr:Rd w 2 A 1 (dR (kE c))):Fz ⟨0,A,1,cl,none,0,0,uint 0 ++ text (eT c)⟩ w:=
 ⟨λy D=>DD A cl c y h1 h2 (hr.below D),by simp[text,eT,uint]⟩
theorem Kg {A:JA}{c n:Nat}{rows:List Row}{w:JW}(hr:Rd w 3 A n (rows.flatMap aR))(M:rows.length=n)(H:0<n)(K:n<=1000)(y:∀r∈rows,uW r)(D:∀r∈rows,pJ r.V):Fz ⟨1,none,0,0,A,n,c,uint 1 ++ (uint n ++ ip rows)⟩ w:=
 ⟨λE J=>DF A c n rows E (hr.below J) M H K y D,by
  have O:=rN y D;have Q:=bA (n:=n) Jo;have T:(uint 1).length<=10:=bA Jo;simp only[ab];omega⟩
theorem TW {w:JW}{A:JA}{n:Nat}{xs:List Rc}(h:Rd w 5 A n (xs.flatMap mM)){i:Nat}(hi:i<xs.length):
 ∃b y,A=some (Jp b y)/\b<w.heap.size/\w.cell? (Jp b (y+i*5))=some (Ji xs[i].k)/\w.cell? (Jp b (y+i*5+1))=some (.slice xs[i].lA xs[i].ln xs[i].lc)/\w.cell? (Jp b (y+i*5+2))=some (.slice xs[i].rA xs[i].rn xs[i].rc)/\w.cell? (Jp b (y+i*5+3))=some (Jn)/\w.cell? (Jp b (y+i*5+4))=some (Ji 0):=by
 obtain⟨b,y,E,H,D⟩:=h.elem yl Jd hi;exact⟨b,y,E,H,D 0 _ rfl,by have:=D 1 _ rfl;rwa [<-aV] at this,by have:=D 2 _ rfl;rwa [<-aV] at this,by have:=D 3 _ rfl;rwa [<-aV] at this,by have:=D 4 _ rfl;rwa [<-aV] at this⟩
def tr (xs:List Rc):JU:=xs.flatMap λy=>frame y.b
theorem OT (xs:List Rc)(i:Nat)(h:i<xs.length):tr (xs.take (i+1))=tr (xs.take i) ++ frame xs[i].b:=by
 unfold tr;rw[aO h,ao];simp
theorem Ad {b:JU}(h:b.length<=40020):(frame b).length<=40032:=by
 unfold frame;rw[ab];have:=Kn (l:=b) Jo;have y:(ir b).length=2:=rfl;omega
theorem Su (xs:List Rc)(h:∀r∈xs,r.b.length<=40020):(tr xs).length<=40032*xs.length:=by
 induction xs with
 |nil=>simp[tr]
 |cons x xs E=>
  have y:=E λr D=>h r (aC _ D);have D:=Ad (h x (az ..));simp only[tr,aE,ab,ak] at y ⊢;omega
def cM:JU:=[119,97,108]
theorem Rb:lC cM:=⟨λD y=>by simp[cM] at y;rcases y with rfl|rfl|rfl<;>(unfold TV;decide),Jd,Jd⟩
theorem zq (F:Nat->Prop)(bs K nf:Nat)(fs:JU->Option JU)(A:JA)(c n:Nat)(xs:List Rc)(w:JW)(h:iN F bs K nf fs w)(am:w.cell? (Jp K 0)=some (Ji 512))(al:K<w.heap.size)
 (hr:Rd w 5 A n (xs.flatMap mM)) (T:xs.length=n) (aZ:n<=1000) (Z:∀r∈xs,Fz r w) (X:yY w)
 (Y:((fs cM).getD []).length+(tr xs).length<=1792) (O:jA fs) (U:nf<=16) (V:cntF fs cM nf<=16):
 JC 110 #[Jv bs,.slice A n c] w λe w'=>e= .returned (Ji 0)/\mZ F bs K (cntF fs cM nf) (eX fs cM ((fs cM).getD [] ++ tr xs)) w w':=by
 obtain⟨y,W⟩:=Je w.heap.size;obtain⟨H,ad,M,af,ae⟩:∃H,w.alloc (.cells #[.pointer none,Jn] 228)=H/\Below y w H/\H.heap.size=y+1/\H.heap[y]?=some (.cells #[.pointer none,Jn] 228 (0,0)):=
  ⟨_,rfl,by rw[<-W];exact Below.one _ _,by simp[W],by rw[<-W];exact heap_alloc_new _ _⟩
 have J:ue (λE=>E<=y) y 228 [] [] H:=kL ae jh (ac _);have aA:=Jh hr;have ai:=Jh T;have aj:=Jh Z;have aC:=Jh X;have ab:=Jh W;have aD:=Jh ad;have ax:=Jh (λ(Q:JW)(D:Below w.heap.size w Q)=>zl F bs K nf fs cM (tr xs) Q (h.below D) (D.cell (p:=(Jp K 0)) al |>.trans am) Rb Y O U V);have aB:=Jh (show ∃D:Nat,(cY .i64 (0:Nat))=Ji (D:Int)/\D<=n/\ue (λE=>E<=y) y 228 [] (tr (xs.take D)) H/\Below y w H/\y<H.heap.size from⟨0,rfl,Jo,J,M,Jo⟩);clear hr T Z ad M af ae J h am al X Y O U V;go_enter Tryz.func110,Tryz.ntmps110;go_wp2_with fail;try simp only[aD.o]
 go_loopw [12] (λM wr=>∃D:Nat,M=Ji (D:Int)/\D<=n/\ue (λE=>E<=y) y 228 [] (tr (xs.take D)) wr/\Below y w wr/\y<wr.heap.size) (λM _=>n - (intOf M).toNat)
 case atStart=>exact aB.o
 obtain⟨D,rfl,aY,J,T,an⟩:=hrel;have U:Below w.heap.size w wr:=by rw[ab.o];exact T
 by_cases aU:D<n;rotate_left
 ·obtain rfl:D=n:=Jo;have Q:gm (λE=>E<=y) wr:=λE Y=>by have aS:E<=y:=Y;omega
  have af:xs.take D=xs:=aw (Jw ai.o);rw[af] at J;have Y:=Jh (iC (λE=>E<=y) y 228 [] _ wr J Q);have ad:=Jh T;clear J T Q U;go_wp2_with fail;refine Y.o.mono ?_;rintro e E ⟨rfl,O⟩;have M:=Jh (show Below y w E from ad.o.trans (O.below λag aT=>by show ag<=y;omega));clear O;have O:=ax.o E (by rw[ab.o];exact M.o);have V:=Jh O;clear O;go_wp2_with fail;refine V.o.mono ?_;rintro e ag ⟨rfl,O⟩;have ae:=Jh (O.boxed (show Below w.heap.size w E by rw[ab.o];exact M.o));clear O;go_wp2_with fail;go_ret;exact⟨rfl,ae.o⟩
 have a1:(D:Int)<n:=Jo;have af:D<xs.length:=by rw[ai.o];exact aU
 obtain⟨aW,a7,rfl,aX,ap,aq,ar,aT,aV⟩:=TW (aA.o.below U) af;have htk:=OT xs D af;have V:=aj.o xs[D] (ah af);obtain⟨r,ag⟩:=Je (xs[D]);rw[ag] at ap aq ar htk V;obtain⟨av,ao⟩:=Je wr.heap.size;obtain⟨O,ak,Y,a6,M⟩:∃O,wr.alloc (.cells #[Ji r.k,aQ r.lA r.ln r.lc,aQ r.rA r.rn r.rc,Jn,Ji 0] 108)=O/\Below wr.heap.size wr O/\O.heap.size=av+1/\O.heap[av]?=some (.cells #[Ji r.k,aQ r.lA r.ln r.lc,aQ r.rA r.rn r.rc,Jn,Ji 0] 108 (0,0)):=
  ⟨_,rfl,Below.one _ _,by simp[ao],by rw[<-ao];exact heap_alloc_new _ _⟩
 have aI:=(aa M 0).trans rfl;have aK:=(aa M 1).trans rfl;have aM:=(aa M 2).trans rfl;have aN:=(aa M 3).trans rfl;have aS:=(aa M 4).trans rfl;have ay:=Jh (V.enc O (U.then Y));have az:=Jh (λ(Q:JW)(X:yY Q)=>LG (S r.b) Q X (by rw[bH];have:=V.len;omega));have aR:=Jh htk;have Q:=Su (xs.take D) λad Z=>(aj.o ad (eG Z)).len;have aH:(xs.take D).length<=1000:=by rw[aF];omega
 have au:=Ad V.len;have aL:=Jh (show(tr (xs.take D)).length+(S (frame r.b)).size<1099511627776 by rw[bH];omega);have aJ:=Jh J;have ad:=Jh T;have ae:=Jh an;have aG:=Jh Y;have aE:=Jh ak;have aO:=Jh (aC.o.below (U.then Y));clear J T an U ag Q aH au htk V ak Y M;go_wp2_with fail;try simp only[aE.o]
 refine ay.o.mono ?_;rintro e au ⟨rfl,M⟩;have aP:=Jh (aO.o.below M);have aH:=Jh (show Below wr.heap.size wr au from aG.o.then M);clear M aI aK aM aN aS ap aq ar aT aV;go_wp2_with fail;refine(az.o au aP.o).mono ?_;rintro e V ⟨rfl,ak⟩;have M:Below wr.heap.size wr V:=aH.o.then ak;have Q:gm (λE=>E<=y) V:=λE Y=>by have aS:E<=y:=Y;have:=ae.o;have:=M.size;omega
 have ag:=jt (λE=>E<=y) y 228 [] _ (S (frame r.b)) V (rj aJ.o M) aL.o Q;rw[cW,<-aR.o] at ag;have aq:=Jh ag;have ar:=Jh (ad.o.trans (M.mono (Jw ae.o)));have aM:=Jh (show y<V.heap.size by have:=ae.o;have:=M.size;omega);clear ag Q ak M;simp only[cW];go_wp2_with fail;refine aq.o.mono ?_;rintro e ap ⟨⟨aV,rfl⟩,ak,M,-⟩;have aK:=Jh ak;have aI:=Jh (show Below y w ap from ar.o.trans (M.below (ac _) λag aT=>by show ag<=y;omega));have aN:=Jh (show y<ap.heap.size by have:=aM.o;have:=M.size;omega);clear ak M;go_wp2_with fail;go_roundw
 case rel=>exact⟨D+1,by go_num,Jo,aK.o,aI.o,aN.o⟩
 simp[intOf];omega
structure bL where
 Day:Int
 Layout:Int
 File:JU
structure St where
 Parts:List bL
 Next:Int
 Past:Int
 On:Bool
 Day:Int
 To:Int
 Done:Int
structure Ed where
 Kind:Int
 Day:Int
 Layout:Int
 At:Int
def st0:St:=⟨[],0,0,false,0,0,0⟩
def cE (n:Int):JU:=102 :: dk n.toNat
def lW (d:Int):Prop:=0<=d/\d<17179869184
instance (d:Int):Decidable (lW d):=inferInstanceAs (Decidable (_/\_))
def kg (n:Int):Prop:=n=0∨n=1
instance (n:Int):Decidable (kg n):=inferInstanceAs (Decidable (_∨_))
def eh (l:List bL)(d:Int):Option bL:=l.find? λy=>y.Day == d
def Eu (s:St):St:={s with On:=false,Day:=0,To:=0,Done:=0}
def kh (s:St)(d:Int):St:=
 if s.On=true/\s.Day=d then Eu {s with Parts:=s.Parts.filter λy=>y.Day != d} else{s with Parts:=s.Parts.filter λy=>y.Day != d}
def jC (p:bL):List bL->List bL
 |[]=>[p]
 |x :: y=>if p.Day<x.Day then p :: x :: y else x :: jC p y
def rS (s:St)(d y:Int):Option St:=
 if lW d/\kg y/\s.Next<1099511627776 then some {kh s d with Parts:=jC ⟨d,y,cE s.Next⟩ (kh s d).Parts,Next:=s.Next+1} else none
def ep (s:St)(e:Ed):Option St:=
 if e.Kind=0 then rS s e.Day e.Layout
 else if e.Kind=1 then(if(eh s.Parts e.Day).isSome then some (kh s e.Day) else none)
 else if e.Kind=2 then(if s.Past<e.At/\e.At<=1099511627776 then some {s with Past:=e.At} else none)
 else if e.Kind=3 then(match eh s.Parts e.Day with
  |none=>none
  |some y=>if s.On=false/\kg e.Layout/\y.Layout≠e.Layout then some {s with On:=true,Day:=e.Day,To:=e.Layout} else none)
 else if e.Kind=4 then(if s.On=true/\s.Done<5000 then some {s with Done:=s.Done+1} else none)
 else if e.Kind=5 then(if s.On=true then rS s s.Day s.To else none)
 else if e.Kind=6 then(if s.On=true then some (Eu s) else none)
 else none
def oU:List bL->Prop
 |[]=>True
 |[_]=>True
 |x :: y :: D=>x.Day<y.Day/\oU (y :: D)
theorem jH {x:bL}{l:List bL}:oU (x :: l)↔(∀H∈l,x.Day<H.Day)/\oU l:=by
 induction l generalizing x with
 |nil=>simp[oU]
 |cons H l J=>
  simp only[oU];constructor
  ·rintro⟨D,y⟩;refine⟨λK E=>?_,y⟩;rcases List.mem_cons.1 E with rfl|E
   ·exact D
   have:=(J.1 y).1 K E;omega
  rintro⟨D,y⟩;exact⟨D H (az ..),y⟩
theorem wS {l:List bL}(h:oU l)(q:bL->Bool):oU (l.filter q):=by
 induction l with
 |nil=>exact h
 |cons x l D=>
  obtain⟨E,y⟩:=jH.1 h;rw[ei];split
  ·exact jH.2 ⟨λJ H=>E J (List.mem_filter.1 H).1,D y⟩
  exact D y
theorem nk {p x:bL}:∀{l:List bL},x∈jC p l↔x=p∨x∈l
 |[]=>by simp[jC]
 |y :: l=>by
  unfold jC;split
  ·simp
  simp only[dh,nk (l:=l)];constructor
  ·rintro (D|D|D);exact .inr (.inl D);exact .inl D;exact .inr (.inr D)
  rintro (D|D|D);exact .inr (.inl D);exact .inl D;exact .inr (.inr D)
theorem IH {p:bL}:∀{l:List bL},oU l->(∀x∈l,x.Day≠p.Day)->oU (jC p l)
 |[],_,_=>trivial
 |M :: l,D,H=>by
  obtain⟨E,J⟩:=jH.1 D;unfold jC;split
  ·rename_i K;refine jH.2 ⟨λx y=>?_,D⟩;rcases List.mem_cons.1 y with rfl|y
   ·exact K
   have:=E x y;omega
  rename_i O;refine jH.2 ⟨λx y=>?_,IH J λx y=>H x (aC _ y)⟩;rcases nk.1 y with rfl|y
  ·have:=H M (az ..);omega
  exact E x y
def jS (d:Int)(l:List bL):Nat:=l.countP λy=>decide (y.Day<d)
theorem BA (d:Int)(l:List bL):jS d l<=l.length:=List.countP_le_length
theorem rr (d:Int)(x:bL)(l:List bL):jS d (x :: l)=jS d l+if x.Day<d then 1 else 0:=by
 unfold jS;rw[List.countP_cons];simp
theorem rt {d:Int}:∀{l:List bL},(∀x∈l,d<=x.Day)->jS d l=0
 |[],_=>rfl
 |x :: l,y=>by
  have:=y x (az ..);rw[rr,if_neg Jo,rt λE D=>y E (aC _ D)]
theorem vY {d:Int}:∀{l:List bL},oU l->∀i,(y:i<l.length)->(l[i].Day<d↔i<jS d l)
 |[],_,i,y=>absurd y Js
 |K :: l,O,i,y=>by
  obtain⟨J,M⟩:=jH.1 O;rw[rr];by_cases H:K.Day<d
  ·rw[if_pos H];cases i with
   |zero=>simp;exact H
   |succ i=>
    simp only[ck];rw[vY M i (by simpa using y)];omega
  rw[if_neg H,rt λE D=>Jw (J E D)];have:∀E∈K :: l,¬E.Day<d:=λE D=>by
   rcases List.mem_cons.1 D with rfl|D
   ·exact H
   have:=J E D;omega
  have:=this _ (ah y);omega
theorem JL {p:bL}:∀{l:List bL},oU l->(E:jS p.Day l<l.length)->(l[jS p.Day l]).Day=p.Day->jC p (l.filter λx=>x.Day != p.Day)=l.set (jS p.Day l) p
 |[],_,E,_=>absurd E Js
 |x :: l,Q,E,M=>by
  obtain⟨J,O⟩:=jH.1 Q;by_cases U:x.Day<p.Day
  ·have D:jS p.Day (x :: l)=jS p.Day l+1:=by rw[rr,if_pos U]
   have K:(x.Day != p.Day)=true:=by simp;omega
   have H:jS p.Day l<l.length:=by rw[D] at E;simpa using E
   have y:(l[jS p.Day l]).Day=p.Day:=by
    have:=M;simp only[D,ck] at this;exact this
   rw[ei,if_pos K,D,aM];unfold jC;rw[if_neg Jo,JL O H y]
  have D:jS p.Day (x :: l)=0:=rt λy H=>by
   rcases List.mem_cons.1 H with rfl|H
   ·omega
   have:=J y H;omega
  have V:x.Day=p.Day:=by
   have:=M;simp only[D,bf] at this;exact this
  have K:(x.Day != p.Day)=false:=by simp[V]
  have T:l.filter (λy=>y.Day != p.Day)=l:=List.filter_eq_self.2 λy H=>by have:=J y H;simp;omega
  rw[ei,K,if_neg Js,T,D,bG];cases l with
  |nil=>rfl
  |cons y l=>
   unfold jC;rw[if_pos (Jw (J y (az ..)))]
theorem JJ {p:bL}:∀{l:List bL},oU l->(∀x∈l,x.Day≠p.Day)->jC p (l.filter λx=>x.Day != p.Day)=l.take (jS p.Day l) ++ p :: l.drop (jS p.Day l)
 |[],_,_=>rfl
 |x :: l,M,H=>by
  obtain⟨J,K⟩:=jH.1 M;have U:=H x (az ..);have Q:(x.Day != p.Day)=true:=by simp;exact U
  rw[ei,if_pos Q];unfold jC;by_cases T:x.Day<p.Day
  ·have E:jS p.Day (x :: l)=jS p.Day l+1:=by rw[rr,if_pos T]
   rw[if_neg Jo,E,dN,dr,JJ K λD y=>H D (aC _ y)];rfl
  have E:jS p.Day (x :: l)=0:=rt λD y=>by
   rcases List.mem_cons.1 y with rfl|y
   ·omega
   have:=J D y;omega
  have O:l.filter (λD=>D.Day != p.Day)=l:=List.filter_eq_self.2 λD y=>by have:=H D (aC _ y);simp;exact this
  rw[if_pos Jo,O,E];rfl
theorem Bg {d:Int}{l:List bL}(h:oU l):(∃x∈l,x.Day=d)↔∃h:jS d l<l.length,(l[jS d l]).Day=d:=by
 constructor
 ·rintro⟨x,W,O⟩;obtain⟨D,E,rfl⟩:=bz W;have Z:jS d l<=D:=by
   have:=vY (d:=d) h D E;omega
  have M:jS d l<l.length:=Jo;refine⟨M,?_⟩;have K:=vY (d:=d) h (jS d l) M;rcases et (jS d l) D with J|J
  ·have Y:∀{l:List bL},oU l->∀D H,(E:D<l.length)->(V:H<D)->(l[H]'Jo).Day<l[D].Day:=by
    intro l;induction l with
    |nil=>intro _ D _ E;exact absurd E Js
    |cons y l X=>
     intro U D H E V;obtain⟨Q,T⟩:=jH.1 U;cases D with
     |zero=>omega
     |succ D=>
      cases H with
      |zero=>simp only[bf,ck];exact Q _ (ah _)
      |succ H=>simp only[ck];exact X T D H (by simpa using E) Jo
   have:=Y h D (jS d l) E J;omega
  have H:jS d l=D:=Jo;simp only[H];exact O
 rintro⟨K,J⟩;exact⟨_,ah K,J⟩
end Go.Proofs.YtibmlemoghcbkaaGreatDoor
namespace Go.Proofs
open Go.Shelf
def Tryz.laysM171_ren:Go.Shelf.Ren:=⟨fun|171=>183|243=>275|246=>339|283=>384|284=>385|285=>386|286=>387|129=>148|317=>412|318=>413|319=>414|320=>415|337=>426|338=>427|n=>n,fun|3=>3|9=>9|2=>2|4=>4|171=>489|0=>0|53=>40|37=>22|5=>5|173=>491|212=>510|51=>279|20=>20|213=>511|46=>92|232=>532|233=>533|n=>n,fun|17=>2|18=>5|19=>6|n=>n⟩
theorem Tryz.laysM171:Go.Proofs.LaysM.n171 Tryz.prog Tryz.laysM171_ren:=by
 repeat' first|kernel_rfl|(intro _;kernel_rfl)|constructor
open Go.RowKit Go.Sort Go.Lib in
theorem Tryz.strconv_Itoa (n:Int)(y: -9223372036854775808<=n)(h1:n<=9223372036854775807)(w:World)(D:Lib.TabIs Tryz.prog w "internal/strconv.uint64pow10" .u64 Lib.pow10Tab):
 Calls Tryz.prog 183 #[.int .i64 n] w λe w'=>e= .returned (.string ⟨(Lib.itoa n).toArray⟩)/\∃k E,w'=grow (w.drewN k) E:=Any.strconv_Itoa Tryz.laysM171 n y h1 w D
end Go.Proofs
namespace Go.Proofs.YtibmlemoghcbkaaGreatDoor
open Go Go.RowKit
open Tryz
def aU (p:bL):List Value:=[Ji p.Day,Ji p.Layout,.string (S p.File)]
theorem uK (p:bL):(aU p).length=3:=rfl
def fL (p:bL):Value:=.agg #[Ji p.Day,Ji p.Layout,.string (S p.File)]
theorem mh {w:JW}{A:JA}{n:Nat}{xs:List bL}(h:Rd w 3 A n (xs.flatMap aU)){i:Nat}(hi:i<xs.length):
 ∃b y,A=some (Jp b y)/\b<w.heap.size/\w.cell? (Jp b (y+i*3))=some (Ji xs[i].Day)/\w.cell? (Jp b (y+i*3+1))=some (Ji xs[i].Layout)/\w.cell? (Jp b (y+i*3+2))=some (.string (S xs[i].File)):=by
 obtain⟨b,y,E,H,D⟩:=h.elem uK Jd hi;exact⟨b,y,E,H,D 0 _ rfl,by have:=D 1 _ rfl;rwa [<-aV] at this,by have:=D 2 _ rfl;rwa [<-aV] at this⟩
theorem wn:(prog.info? 76).map (λi=>(i.zero,i.size,i.bytes))=some (some (.agg #[Ji 0,Ji 0,.string ⟨#[]⟩]),3,32):=Jk
theorem AE {xs:List bL}:∀u∈xs.flatMap aU,u.oneCell'=true:=λu D=>by
 obtain⟨E,-,y⟩:=List.mem_flatMap.1 D;simp only[aU,dh,di,or_false] at y;rcases y with rfl|rfl|rfl<;>rfl
theorem AF:∀(i:Nat)(D:List bL)(r:bL),i<D.length->(((D.flatMap aU).set (i*3) (Ji r.Day)).set (i*3+1) (Ji r.Layout)).set (i*3+2) (.string (S r.File))=(D.set i r).flatMap aU:=by
 intro i;induction i with
 |zero=>
  intro D r E;cases D with
  |nil=>simp at E
  |cons y D=>simp[aU]
 |succ i H=>
  intro D r E;cases D with
  |nil=>simp at E
  |cons y D=>
   have:=H D r (by simpa using E);rw[aM,aE,aE,<-this];rw[show(i+1)*3=i*3+3 by omega];simp only[aU,aY,bi];rw[show i*3+3=(i*3+2)+1 by omega,aM,aM,aM];simp only[aM]
theorem SI (d:Int)(r:bL)(b:Nat)(w:JW)(y:w.cell? (Jp b 0)=some (Ji d)):
 JC 69 #[fL r,Jv b] w λe w'=>e= .returned (.bool (r.Day == d))/\Jz w w':=by
 unfold fL;obtain⟨E,D,H⟩:=r;simp only;have J:=bq w _ y;simp only at J;have K:(w.alloc (.cells #[Ji E,Ji D,.string (S H)] 76)).cell? (Jp b 0)=some (Ji d):=bO _ y;go_enter Tryz.func69,Tryz.ntmps69;go_wp2_with fail;go_ret;exact⟨rfl,(ag _ w).alloc (ac _) _⟩
def Ks (d:Int)(xs:List bL)(w:JW)(e:Ending)(w':JW):Prop:=
 Jz w w'/\(((∀E∈xs,(E.Day == d)=false)/\e= .returned (Ji (-1)))∨∃(y:Nat)(H:y<xs.length),(xs[y].Day == d)=true/\(∀D,(hj:D<y)->((xs[D]'Jo).Day == d)=false)/\e= .returned (Ji y))
theorem SG (d:Int)(b:Nat)(A:JA)(c n:Nat)(xs:List bL)(w:JW)(ae:w.cell? (Jp b 0)=some (Ji d))(hr:Rd w 3 A n (xs.flatMap aU))(aj:xs.length=n)(au:n<=1000000):
 JC 68 #[.slice A n c,.func (.func 69) #[] #[Jv b]] w (Ks d xs w):=by
 have ac:=Jh hr;have K:=Jh aj;have ab:=Jh ae;go_enter Tryz.func68,Tryz.ntmps68;go_wp2_with fail;go_loopw [8] (λE wr=>∃y:Nat,E=Ji y/\y<=n/\(∀D,D<y->∃M:D<xs.length,(xs[D].Day == d)=false)/\Jz w wr) (λE _=>n - (intOf E).toNat)
 case atStart=>exact⟨0,rfl,Jo,λD J=>absurd J Jo,ag _ _⟩
 obtain⟨y,rfl,aq,af,ah⟩:=hrel;have O:=Jh af;have H:=Jh ah;by_cases av:y<n;rotate_left
 ·obtain rfl:y=n:=Jo;go_wp2_with fail;go_ret;refine⟨H.o,.inl ⟨λW hr=>?_,rfl⟩⟩;obtain⟨D,J,rfl⟩:=bz hr;exact(O.o D (Jw K.o)).2
 have ai:y<xs.length:=Jw K.o;obtain⟨ao,aw,rfl,ap,Y,Z,aa⟩:=mh (ac.o.below H.o) ai;have ar:(y:Int)<n:=Jo;have E:=Jh (SI d xs[y] b wr (al H.o ab.o));obtain⟨W,hr⟩:=Je (xs[y]);rw[hr] at Y Z aa E;have X:=Jh (show ∀M:y<xs.length,xs[y]'M=W from λ_=>hr);obtain⟨ad,am,an⟩:=W;simp only at Y Z aa;unfold fL at E;simp only at E;cases M:(ad == d) with
 |false=>
  rw[M] at E;have Q:=Jh M;go_wp2_with fail;refine E.o.mono ?_;rintro U ak ⟨rfl,V⟩;have T:=Jh (H.o.trans (V.mono H.o.size));go_wp2_with fail;go_roundw
  case rel=>exact⟨y+1,by go_num,Jo,λD J=>by
   have:=K.o;by_cases U:D=y
   ·subst U;exact⟨Jo,by rw[X.o];exact Q.o⟩
   exact O.o D Jo,T.o⟩
  simp[intOf];omega
 |true=>
  rw[M] at E;have Q:=Jh M;go_wp2_with fail;refine E.o.mono ?_;rintro U ak ⟨rfl,V⟩;have T:=Jh (H.o.trans (V.mono H.o.size));go_wp2_with fail;go_ret;exact⟨T.o,.inr ⟨y,Jw K.o,by rw[X.o];exact Q.o,λD J=>(O.o D J).2,rfl⟩⟩
theorem ox (A:JA)(c n:Nat)(xs:List bL)(w:JW)(hr:Rd w 3 A n (xs.flatMap aU))(ab:xs.length=n)(ae:n<=1000000):
 JC 149 #[.slice A n c] w λe w'=>∃H M,e= .returned (.slice H n M)/\bP (λk=>k<w.heap.size) 76 3 (.slice H n M) n (xs.flatMap aU) w'/\Jz w w':=by
 have K:=Jh hr;have U:=Jh ab;cases A with
 |none=>
  have D:n=0:=by
   rcases dx n with y|y
   ·exact y
   obtain⟨E,J,e,-⟩:=K.o.2 y;cases e
  subst D;have y:xs=[]:=bu U.o;subst y;have ad:∀w,(binOp .eql 81 (.slice none 0 c) (Jn)).run prog w= .ok (.bool true) w:=λw=>fO w _ _ none 0 c 0 0 underlying81;go_enter Tryz.func149,Tryz.ntmps149;go_wp2_with fail;go_ret;exact⟨none,0,rfl,bP.nil _ _ _ _,ag _ _⟩
 |some D=>
  have ac:gm (λk=>k<w.heap.size) (w.alloc (.cells #[] 76)):=λk y=>by simp;omega
  have T:=Jh (bP.made (λk=>k<w.heap.size) w 76 3 (λk y=>y));have J:=Jh (Below.one w (.cells #[] 76));have V:=Jh (K.o.below J.o);have ad:∀w,(binOp .eql 81 (.slice (some D) n c) (Jn)).run prog w= .ok (.bool false) w:=λw=>fO w _ _ (some D) n c 0 0 underlying81;go_enter Tryz.func149,Tryz.ntmps149;go_wp2_with (at_builtin;go_must (refine cX rfl (.tmp 5) (.tmp 6) 81 Jr 76 (.agg #[Ji 0,Ji 0,.string ⟨#[]⟩]) 3 32 underlying81 wn rfl Jd (λk=>k<w.heap.size) 0 [] _ _ T.o Jr ac (some D) n c (xs.flatMap aU) Jr V.o AE Jm Jo ?_);intro af ah E O aa Z;have X:=Jh E;have W:=Jh (J.o.trans (O.below λk y=>y));obtain⟨Q,Y,rfl⟩:=E.form;clear E O aa Z);go_ret;exact⟨Q,Y,by simp only[bB];rfl,by have:=X.o;simpa using this,W.o⟩
def Pow (w:JW):Prop:=Lib.TabIs prog w "internal/strconv.uint64pow10" .u64 Lib.pow10Tab/\2<w.heap.size
theorem WI:prog.globalNamed "internal/strconv.uint64pow10"=some 2:=Jk
theorem Pow.later {w w':JW}(h:Pow w)(E:w.heap.size<=w'.heap.size)(D:w'.heap[2]?=w.heap[2]?):Pow w':=by
 refine⟨?_,ai h.2 E⟩;have y:=h.1;unfold Lib.TabIs World.var? at y ⊢;rw[WI] at y ⊢;simp only[bW] at y ⊢;rw[D];exact y
theorem Pow.below {w w':JW}(h:Pow w)(y:Jz w w'):Pow w':=h.later y.size (y.block _ h.2)
theorem Pe (n:Nat)(H:n<=9223372036854775807)(w:JW)(y:Pow w):JC 183 #[Ji n] w λe w'=>e= .returned (.string (S (dk n)))/\Jz w w':=by
 refine(Tryz.strconv_Itoa n Jo Jo w y.1).mono ?_;rintro e w' ⟨rfl,D,E,rfl⟩;refine⟨?_,Lib.below_grow _ w (ac _) D E⟩;unfold Lib.itoa;rw[if_neg Jo,dE];rfl
theorem xv (n:Nat)(h:n<=9223372036854775807):(dk n).length<=20:=by
 rw[Lib.decDigits_length];exact Lib.nDigits_le20 n Jo
theorem xB (n:Int)(h1:n<=9223372036854775807)(w:JW)(H:Pow w):JC 92 #[Ji n] w λe w'=>e= .returned (.string (S (cE n)))/\Jz w w':=by
 obtain⟨y,E⟩:∃y:Nat,n.toNat=y:=⟨_,rfl⟩;have Q:max n 0=(y:Int):=Jo;have T:(if n<0 then 0 else n)=(y:Int):=by split<;>omega
 have U:(if 0<n then n else 0)=(y:Int):=by split<;>omega
 have V:(if n<=0 then 0 else n)=(y:Int):=by split<;>omega
 have J:=Jh (Pe y Jo w H);have O:=xv y Jo;have K:=Jh (show cE n=102 :: dk y by unfold cE;rw[E]);generalize dk y=D at*;have W:(S D).size<=20:=by rw[bH];exact O
 have Y:¬9223372036854775807<1+(S D).size:=Jo;have Z:¬9223372036854775807<(S D).size+1:=Jo;have M:=Jh (show(⟨#[102]⟩:ByteArray) ++ S D=S (102 :: D) by rw[show(⟨#[102]⟩:ByteArray)=S [102] from rfl,ef];rfl);clear E h1 H;go_enter Tryz.func92,Tryz.ntmps92;go_wp2_with fail;refine J.o.mono ?_;rintro e X ⟨rfl,E⟩;go_wp2_with fail;go_ret;exact⟨by rw[K.o,<-M.o];rfl,E⟩
def nZ (n m:Int):Bool:=decide (0<=n) && decide (n<=m)
theorem iE (n m:Int)(w:JW):JC 150 #[Ji n,Ji m] w λe w'=>e= .returned (.bool (nZ n m))/\w=w':=by
 unfold nZ;by_cases y:0<=n
 ·have D:decide (0<=n)=true:=decide_eq_true y;rw[D,Bool.true_and];clear y;go_enter Tryz.func150,Tryz.ntmps150;go_wp2_with fail;go_ret;exact⟨rfl,rfl⟩
 have D:decide (0<=n)=false:=decide_eq_false y;rw[D,Bool.false_and];clear y;go_enter Tryz.func150,Tryz.ntmps150;go_wp2_with fail;go_ret;exact⟨rfl,rfl⟩
theorem zj {y:Func}{p:Tmp}{t:TypeId}(h:y.results= #[.cell p t])(tmps:Array Value)(P:Program)(w:JW):
 (results y tmps).run P w=((asAddr (tmps.getD p undef)).run P w).andThen λa D=>(loadVar t a).run P D:=by
 simp only[results,h];simp[jR,iM]
def dH (A:JA)(n c:Nat)(s:St):Value:=.agg #[.slice A n c,Ji s.Next,Ji s.Past,.bool s.On,Ji s.Day,Ji s.To,Ji s.Done]
def nh (e:Ed):Value:=.agg #[Ji e.Kind,Ji e.Day,Ji e.Layout,Ji e.At]
theorem SV (A:JA)(n c:Nat)(s:St)(w:JW):JC 155 #[dH A n c s] w λe w'=>e= .returned (dH A n c (Eu s))/\Jz w w':=by
 unfold dH Eu;obtain⟨H,D,J,E,y,K,M⟩:=s;simp only;go_enter Tryz.func155,Tryz.ntmps155;go_wp2_with fail
 ((try simp only[jc,gM]);refine bodyPost_ret (by rw[zj rfl];go_simp;rfl) rfl ?_)
 exact⟨rfl,((ag _ w).alloc (ac _) _).alloc Js _⟩
def kp (d:Int)(r:bL):Bool:=r.Day != d
section
variable {p:bL->Bool} {xs ys:List bL} {i j:Nat}
end
def p0:bL:=⟨0,0,[]⟩
theorem Ga {l:List bL}{d:Int}(h:∀r∈l,(r.Day == d)=false):eh l d=none:=by
 unfold eh;exact List.find?_eq_none.2 λr y=>by rw[h r y];simp
theorem xC:∀{l:List bL}{d:Int}{i:Nat}(hi:i<l.length),(l[i].Day == d)=true->(∀j,(H:j<i)->((l[j]'Jo).Day == d)=false)->eh l d=some l[i]
 |[],_,_,hi,_,_=>absurd hi Js
 |J :: l,d,0,_,y,_=>by
  simp only[bf] at y ⊢;unfold eh;simp only[List.find?_cons,y]
 |J :: l,d,i+1,hi,y,E=>by
  have D:=E 0 Jo;simp only[bf] at D;unfold eh;simp only[List.find?_cons,D];exact xC (l:=l) (by simpa using hi) y λj H=>by have:=E (j+1) Jo;simpa using this
theorem fw (d:Int)(A:JA)(c n:Nat)(s:St)(w:JW)(hr:Rd w 3 A n (s.Parts.flatMap aU))(U:s.Parts.length=n)(au:n<=1000000):
 JC 28 #[dH A n c s,Ji d] w λe w'=>e= .returned (.tuple #[fL ((eh s.Parts d).getD p0),.bool (eh s.Parts d).isSome])/\Below w.heap.size w w':=by
 unfold dH;obtain⟨ad,K,O,M,J,Q,T⟩:=s;simp only at hr U ⊢;obtain⟨D,y⟩:=Je w.heap.size;obtain⟨H,af,aH,E,ae,X⟩:∃H,((w.alloc (.cells #[.slice A n c,Ji K,Ji O,.bool M,Ji J,Ji Q,Ji T] 83)).alloc (.cells #[Ji d] 3)).alloc (.cells #[Ji 0,Ji 0,.string ⟨#[]⟩] 76)=H/\H.heap.size=D+3/\Below D w H/\H.cell? (Jp (D+1) 0)=some (Ji d)
  /\H.cell? (Jp D 0)=some (.slice A n c)/\H.heap[D+2]?=some (.cells #[Ji 0,Ji 0,.string ⟨#[]⟩] 76 (0,0)):=by
  have V:=heap_alloc_new w (.cells #[.slice A n c,Ji K,Ji O,.bool M,Ji J,Ji Q,Ji T] 83);have W:=heap_alloc_new (w.alloc (.cells #[.slice A n c,Ji K,Ji O,.bool M,Ji J,Ji Q,Ji T] 83)) (.cells #[Ji d] 3);have Y:=heap_alloc_new ((w.alloc (.cells #[.slice A n c,Ji K,Ji O,.bool M,Ji J,Ji Q,Ji T] 83)).alloc (.cells #[Ji d] 3)) (.cells #[Ji 0,Ji 0,.string ⟨#[]⟩] 76);simp only[aI,y,aV,bM] at V W Y;refine⟨_,rfl,by simp[y],?_,?_,?_,Y⟩
  ·subst y;exact(((ag _ _).alloc (ac _) _).alloc Js _).alloc (by simp;omega) _
  ·rw[aa ((aJ _ _ _ (by simp;omega)).trans W)];rfl
  rw[aa ((aJ _ _ _ (by simp;omega)).trans ((aJ _ _ _ (by simp;omega)).trans V))];rfl
 have W:=hr.below (y▸E);have V:=Jh (SG d (D+1) A c n ad H ae W U au);have ak:=Jh W;have aj:=Jh U;have Y:=Jh y;have ab:=Jh X.2;have av:=X.1;have Z:=Jh E;clear hr W E ae X U;go_enter Tryz.func28,Tryz.ntmps28;go_wp2_with fail;try simp only[af]
 clear af y;refine V.o.mono ?_;rintro e aM ⟨E,⟨af,rfl⟩|⟨i,ai,ah,ae,rfl⟩⟩
 ·have W:=Jh (Ga af);have X:=Jh (Z.o.trans (E.mono Jo));have y:=(E.block (D+2) Jo).trans ab.o;have ap:=(aa y 0).trans rfl;have aq:=(aa y 1).trans rfl;have ar:=(aa y 2).trans rfl;have az:=aW y 0;have aA:=aW y 1;have aB:=aW y 2;clear af E y V;go_wp2_with fail;refine bodyPost_ret (v:=.tuple #[fL p0,.bool false]) (by rw[results_cell_tmp rfl];go_simp;rfl) rfl ⟨by rw[W.o];rfl,?_⟩;rw[Y.o];exact((X.o.setCell (p:=(Jp (D+2) 0)) Js _).setCell (p:=(Jp (D+2) 1)) Js _).setCell (p:=(Jp (D+2) 2)) Js _
 have W:=Jh (xC ai ah ae);have X:=Jh (Z.o.trans (E.mono Jo));have y:=(E.block (D+2) Jo).trans ab.o;have ap:=(aa y 0).trans rfl;have aq:=(aa y 1).trans rfl;have ar:=(aa y 2).trans rfl;have az:=aW y 0;have aA:=aW y 1;have aB:=aW y 2;have aK:=al E av;obtain⟨aC,aL,rfl,aD,aw,ax,ay⟩:=mh (ak.o.below E) ai;have aE:i<n:=Jw aj.o;have aF:(i:Int)<n:=Jo;have aG:=Jf ((i:Int)<0);generalize ad[i]=p at*;obtain⟨an,am,ao⟩:=p;simp only at aw ax ay;clear E y V ah ae;go_wp2_with fail;refine bodyPost_ret (v:=.tuple #[fL ⟨an,am,ao⟩,.bool true]) (by rw[results_cell_tmp rfl];go_simp;rfl) rfl ⟨by rw[W.o];rfl,?_⟩;rw[Y.o];exact((X.o.setCell (p:=(Jp (D+2) 0)) Js _).setCell (p:=(Jp (D+2) 1)) Js _).setCell (p:=(Jp (D+2) 2)) Js _
theorem wp_copy_run (w:JW){P:Program}{o:Oper}{a:Act}{y:Act->World->Prop}{E:Exit->Act->World->Prop}(d s:Operand)(t D:TypeId)
 (ho:o.op= .call {callee:=.builtin .copy,args:=#[d,s],argTypes:=#[t,D]}) (v u:Value) (H:a.eval d=v) (J:a.eval s=u) {v':Value} {w':JW}
 (hr:(gI #[t,D] o.type #[v,u]).run P w= .ok v' w') (h:y (a.put o.dst v') w'):o.wp P a w y E:=by
 unfold jx execOp;simp only[ho,resolve,invoke,builtin,jR,Sem.run_pure,Result.andThen_ok,List.map_toArray,bV,ii,H,J,hr];exact h
theorem wpList_copy_run (w:JW){P:Program}{E:Array Oper}{H:List Oper}{o:Oper}{a:Act}{D:Exit->Act->World->Prop}(M:o.guard=none)(d s:Operand)(t y:TypeId)
 (ho:o.op= .call {callee:=.builtin .copy,args:=#[d,s],argTypes:=#[t,y]}) (v u:Value) (K:a.eval d=v) (O:a.eval s=u) {v':Value} {w':JW}
 (hr:(gI #[t,y] o.type #[v,u]).run P w= .ok v' w') (h:wpList P E D H (a.put o.dst v') w'):wpList P E D (o :: H) a w:=
 wpList_plain M λ_ J=>wp_copy_run w d s t y ho v u K O hr (J _ _ h)
theorem wpList_append_run (w:JW){P:Program}{D:Array Oper}{E:List Oper}{o:Oper}{a:Act}{y:Exit->Act->World->Prop}(M:o.guard=none)(d s:Operand)(t H:TypeId)
 (ho:o.op= .call {callee:=.builtin .append,args:=#[d,s],argTypes:=#[t,H]}) (v u:Value) (K:a.eval d=v) (O:a.eval s=u) {v':Value} {w':JW}
 (hr:(gp #[t,H] o.type #[v,u]).run P w= .ok v' w') (h:wpList P D y E (a.put o.dst v') w'):wpList P D y (o :: E) a w:=
 wpList_plain M λ_ J=>by
  unfold jx execOp;simp only[ho,resolve,invoke,builtin,jR,Sem.run_pure,Result.andThen_ok,List.map_toArray,bV,ii,K,O,hr];exact J _ _ h
theorem se {P:Program}{E:Array Oper}{o:Oper}{a:Act}{w:JW}{y:Act->World->Prop}{K:Exit->Act->World->Prop}{J:Prop}
 (Q:o.guard=none) (d x:Operand) (D H:TypeId) (T:o.op=Op.call {callee:=fD Builtin.copy,args:=#[d,x],argTypes:=#[D,H]})
 (v u:Value) (O:a.eval d=v) (V:a.eval x=u) {v':Value} {w':JW} (hr:(gI #[D,H] o.type #[v,u]).run P w= .ok v' w') (M:y (a.put o.dst v') w'):
 if dD o (yielded E a.tmps)=true then jx P o a w y K else J:=by
 have U:dD o (yielded E a.tmps)=true:=by simp[dD,Q]
 rw[if_pos U];unfold jx;simp[execOp,T,resolve,invoke,builtin,O,V,hr,iM];exact M
theorem ko {P:Program}(w:JW)(H ab ac y:TypeId)(k b o E M:Nat)(a:Addr)(K aa m:Nat)(cs:List Value)
 (Y:P.underlying H=some (.slice y)) (J:(P.info? y).map (·.size)=some k) (U:Nat.min K E=m) (V:cs.length=m*k)
 (W:∀j v,cs[j]?=some v->w.cell? (a.add j)=some v) (hc:∀j,j<cs.length->(w.cell? (Jp b (o+j))).isSome=true) (O:∀j,j<cs.length->w.frozen? (Jp b (o+j))=false) (h1:∀v∈cs,v.oneCell'=true):
 (gI #[H,ab] ac #[.slice (some (Jp b o)) E M,.slice (some a) K aa]).run P w= .ok (goInt m) (w.setCells b o cs):=by
 have T:=run_loadCells_list (P:=P) w a cs W;have X:=run_storeCells_cells (P:=P) b o cs 0 w (by simpa using hc) (by simpa using O) h1;cases D:P.info? y with
 |none=>simp[D] at J
 |some Z=>
  have Q:Z.size=k:=by simpa [D] using J
  simp[gI,run_underlying Y,Builtin.lenOf,Builtin.firstCells,sizeOf,typeInfo,D,Q,U,<-V,T,X]
section
variable {R:Nat->Prop} {e:TypeId} {size n c g:Nat} {w:JW} {xs:List Value}
theorem bP.extend {A:JA}(h:bP R e size (.slice A n c) n xs w)(Y:0<n)(hc:n+1<=c):∃us,us.length=size/\bP R e size (.slice A (n+1) c) (n+1) (xs ++ us) w:=by
 rcases h.1.2 with⟨W,X⟩|⟨J,V,y,H,K,M,Z,Q,E,U⟩
 ·omega
 simp only[Value.slice.injEq] at H;obtain⟨rfl,_,rfl⟩:=H;have O:(n+1)*size<=y.size:=by rw[E];exact dP _ hc
 have T:y.toList.take ((n+1)*size)=xs ++ (y.toList.drop (n*size)).take size:=by
  rw[ij,jF,List.take_add,U]
 have D:((y.toList.drop (n*size)).take size).length=size:=by
  rw[aF,bo,dM];rw[ij,jF] at O;omega
 refine⟨_,D,⟨by rw[ab,D,h.1.1,ij,jF],.inr ⟨J,c,y,rfl,K,M,hc,Q,E,T⟩⟩,h.2⟩
theorem bP.stores:∀(D:List Value)(o:Nat)(xs:List Value)(w:JW),bP R e size (.slice (some (Jp g 0)) n c) n xs w->o+D.length<=xs.length->bP R e size (.slice (some (Jp g 0)) n c) n (xs.take o ++ D ++ xs.drop (o+D.length)) (w.setCells g o D)
 |[],o,xs,w,E,_=>by simpa [World.setCells] using E
 |y :: H,o,xs,w,E,K=>by
  have J:=bP.stores H (o+1) (xs.set o y) (w.setCell (Jp g o) y) (E.store y) (by simp at K ⊢;omega);rw[World.setCells];have M:(xs.set o y).take (o+1)=xs.take o ++ [y]:=by
   rw[aO (by simp at K ⊢;omega),List.take_set_of_le (ac _)];simp
  have O:(xs.set o y).drop (o+1+H.length)=xs.drop (o+(y :: H).length):=by
   rw[List.drop_set_of_lt Jo];congr 1;simp;omega
  rw[M,O] at J;simpa using J
theorem bP.isSome (h:bP R e size (.slice (some (Jp g 0)) n c) n xs w){j:Nat}(y:j<n*size):(w.cell? (Jp g j)).isSome=true:=by
 have:=h.1.cellAt j y;rw[this,aT (by rw[h.1.1];exact y)];rfl
theorem bP.h (h:bP R e size (.slice (some (Jp g 0)) n c) n xs w):bP R e size (.slice (some (Jp g 0)) n c) n xs w.drew:=h
end
theorem Lw (xs:List bL)(i:Nat):(xs.flatMap aU).take (i*3)=(xs.take i).flatMap aU:=by
 induction xs generalizing i with
 |nil=>simp
 |cons x xs y=>
  cases i with
  |zero=>simp
  |succ i=>
   rw[dN,aE,aE,<-y i,show(i+1)*3=3+i*3 by omega];simp only[aU,aY,bi];rw[show 3+i*3=i*3+1+1+1 by omega,dN,dN,dN]
theorem Lu (xs:List bL)(i:Nat):(xs.flatMap aU).drop (i*3)=(xs.drop i).flatMap aU:=by
 induction xs generalizing i with
 |nil=>simp
 |cons x xs y=>
  cases i with
  |zero=>simp
  |succ i=>
   rw[dr,aE,<-y i];simp only[aU,aY,bi];rw[show(i+1)*3=i*3+1+1+1 by omega,dr,dr,dr]
theorem Pd {y us D:List Value}{i n:Nat}(K:y.length=n*3)(M:us.length=3)(H:D.length=3)(hi:i<n):
 (((y ++ us).take ((i+1)*3) ++ y.drop (i*3) ++ (y ++ us).drop ((i+1)*3+(y.drop (i*3)).length)).take (i*3)) ++ D ++ (((y ++ us).take ((i+1)*3) ++ y.drop (i*3) ++ (y ++ us).drop ((i+1)*3+(y.drop (i*3)).length)).drop (i*3+D.length))=y.take (i*3) ++ D ++ y.drop (i*3):=by
 have E:(y ++ us).drop ((i+1)*3+(y.drop (i*3)).length)=[]:=dF (by rw[ab,bo];omega);have J:((y ++ us).take ((i+1)*3)).length=(i+1)*3:=by rw[aF,ab];omega
 rw[E,cV,H];congr 1
 ·congr 1;rw[List.take_append_of_le_length Jo,List.take_take,ec Jo,List.take_append_of_le_length Jo]
 rw[show i*3+3=((y ++ us).take ((i+1)*3)).length by omega,eF]
theorem LL {y E D:List Value}{i n:Nat}(V:y.length=n*3)(U:E.length=(n+1 - i)*3)(M:D.length=3)(hi:i<n):
 let H:=(y.take (i*3) ++ E).take (i*3) ++ D ++ (y.take (i*3) ++ E).drop (i*3+D.length)
 H.take ((i+1)*3) ++ y.drop (i*3) ++ H.drop ((i+1)*3+(y.drop (i*3)).length)=y.take (i*3) ++ D ++ y.drop (i*3):=by
 intro H;have J:(y.take (i*3)).length=i*3:=by rw[aF];omega
 have Q:(y.take (i*3) ++ E).take (i*3)=y.take (i*3):=by
  have:=gT (l₁:=y.take (i*3)) (l₂:=E)
  rwa [J] at this
 have O:H=(y.take (i*3) ++ D) ++ (y.take (i*3) ++ E).drop (i*3+D.length):=by
  show(y.take (i*3) ++ E).take (i*3) ++ D ++ _=_;rw[Q]
 have K:(y.take (i*3) ++ D).length=(i+1)*3:=by rw[ab,J,M];omega
 have T:H.length=(n+1)*3:=by
  rw[O,ab,K,bo,ab,J,U,M];omega
 rw[show H.drop ((i+1)*3+(y.drop (i*3)).length)=[] from dF (by rw[T,bo];omega),cV];congr 1;rw[O];have:=gT (l₁:=y.take (i*3) ++ D) (l₂:=(y.take (i*3) ++ E).drop (i*3+D.length))
 rwa [K] at this
theorem Gq (B:Nat)(A:JA)(c n i M:Nat)(xs:List bL)(w:JW)(hB:B<=w.heap.size)(hr:bP (λk=>k<B) 76 3 (.slice A n c) n (xs.flatMap aU) w)(aN:xs.length=n)(bN:n<=1000000)(hi:i<=n)
 (Z:w.heap[M]?=some (.cells #[Ji 0,Ji 0,.string ⟨#[]⟩] 76 (0,0))) (ba:∀g,(aQ A n c).ownBlock=some g->M≠g) (bQ:n<=c):
 JC 152 #[.slice A n c,Ji i,.slice (some (Jp M 0)) 1 1] w λe w'=>
  ∃aT aV,e= .returned (.slice aT (n+1) aV)/\bP (λk=>k<B) 76 3 (.slice aT (n+1) aV) (n+1) ((xs.take i ++ p0 :: xs.drop i).flatMap aU) w'/\Below B w w':=by
 have bw:M<w.heap.size:=(Jl Z);have ar:∀y D,([Ji 0,Ji 0,.string ⟨#[]⟩]:List Value)[y]?=some D->w.cell? (Jp M y)=some D:=λy D E=>by
  rw[aa Z];simpa using E
 have ay:Rd w 3 (some (Jp M 0)) 1 [Ji 0,Ji 0,.string ⟨#[]⟩]:=⟨rfl,λ_=>⟨M,0,rfl,bw,λy am E=>by rw[bB];exact ar y am E⟩⟩;have bR:((1:Int) == 0)=false:=rfl;have bt:gm (λk=>k<B) w:=λk W=>ai W hB;by_cases br:i=n
 ·subst br;have U:=Jh hr;have J:=Jh aN;have V:=Jh ay;have aH:((i:Int) == (i:Int))=true:=Js;clear hr aN ay Z ba;go_enter Tryz.func152,Tryz.ntmps152;go_wp2_with (at_builtin;go_must (refine cX rfl (.tmp 23) (.tmp 24) 81 Jr 76 (.agg #[Ji 0,Ji 0,.string ⟨#[]⟩]) 3 32 underlying81 wn rfl Jd (λk=>k<B) i _ _ w U.o Jr bt (some (Jp M 0)) 1 1 [Ji 0,Ji 0,.string ⟨#[]⟩] Jr V.o (by intro am Y;simp at Y;rcases Y with rfl|rfl<;>rfl) Jm Jo ?_);intro ah aj H K af ae;have T:=Jh H;have Q:=Jh (K.below λk W=>W);obtain⟨O,X,rfl⟩:=H.form;clear H K af ae);all_goals
   go_ret;refine⟨O,X,rfl,?_,Q.o⟩;have ad:=T.o;rw[aw (by rw[J.o];exact ac _),dF (by rw[J.o];exact ac _)];simpa [aU,p0,S] using ad
 have a6:i<n:=Jo;obtain⟨g,rfl,-,-⟩:=hr.own Jo;have aZ:B<=g:=Nat.not_lt.1 λW=>hr.2 g rfl W;have bb:M≠g:=ba g rfl;have av:(xs.flatMap aU).length=n*3:=hr.1.1;have ah:∀y D,(xs.flatMap aU)[y]?=some D->w.cell? (Jp g y)=some D:=λy D E=>by
  obtain⟨H,O,J,-,K⟩:=hr.rd.2 Jo;obtain⟨rfl,rfl⟩:g=H/\0=O:=by simpa using J
  have:=K y D E
  rwa [bB] at this
 have aI:((xs.flatMap aU).drop (i*3)).length=(n - i)*3:=by rw[bo,av];omega
 have aJ:∀am∈xs.flatMap aU,am.oneCell'=true:=AE;have az:(prog.info? 76).map (·.size)=some 3:=by
  obtain⟨aS,ax,-,J,-⟩:=info_parts wn;rw[ax];simp[J]
 have aD:=Jh (show(xs.flatMap aU).take (i*3) ++ [Ji 0,Ji 0,.string ⟨#[]⟩] ++ (xs.flatMap aU).drop (i*3)=(xs.take i ++ p0 :: xs.drop i).flatMap aU by
  rw[Lw,Lu,ao,aE];simp[aU,p0,S])
 obtain⟨H,K⟩:=Je (xs.flatMap aU);rw[K] at hr ah aI aJ av aD;clear K aN;have aH:((i:Int) == (n:Int))=false:=beq_eq_false_iff_ne.2 Jo;have bz:IntKind.i64.wrap ((n:Int)+1)=(n:Int)+1:=by rw[aB];omega
 have bA:IntKind.i64.wrap ((i:Int)+1)=(i:Int)+1:=by rw[aB];omega
 have bD:((n:Int)+1).toNat=n+1:=Jo;have bE:((i:Int)+1).toNat=i+1:=Jo;have bF:(0:Int)<=(n:Int)+1:=Jo;have bG:(0:Int)<=(i:Int)+1:=Jo;have bH:¬(c=i):=Jo;by_cases bu:n+1<=c
 ·have bx:=Jf ((c:Int)<(n:Int)+1);obtain⟨bc,a8,Q⟩:=hr.extend Jo bu;have bi:(n:Int)+1<=c:=Jo;have bk:(i:Int)+1<=(n:Int)+1:=Jo;have bl:(i:Int)<=(n:Int)+1:=Jo;have bm:¬(c=i+1):=Jo;have bd:¬(c=n+1)∨c=n+1:=Jo;obtain⟨au,aO,a1⟩:∃k,w.shape? g=some (76,k)/\k≠0:=by
   rcases hr.1.2 with⟨J,_⟩|⟨T,au,K,aj,U,O,X,V,ad,ae⟩
   ·simp at J
   simp only[Value.slice.injEq,Option.some.injEq,Addr.mk.injEq] at aj;obtain⟨⟨rfl,_,_⟩,_,rfl⟩:=aj;refine⟨K.size,by simp[World.shape?,O],Jo⟩
  have a7:∀al ad T,(callFunc 243 #[.slice (some (Jp M 0)) 1 1,.slice (some (Jp g al)) ad T]).run prog w= .ok (.value (.bool false)) w:=λal ad T=>by
   rw[run_callFunc_extern Tryz.func243 Jk Jk Jk (e:=Extern.SlicesOverlaps.overlaps #[81,81] #[4]) Jk,
    Lib.run_overlaps_apart w 81 4 76 underlying81 3 Tryz.sizeOf76 (Jp M 0) (Jp g al) 1 1 ad T bb 76 76 3 au (by simp[World.shape?,Z]) aO a1 (aW Z 0) (aW Z 3)]
   rfl
  have aL:Nat.min (n+1 - i) (n - i)=n - i:=by simp only[Nat.min_def];split<;>omega
  have aM:Nat.min 1 (n+1 - i)=1:=by simp only[Nat.min_def];split<;>omega
  have ap:∀K O ae,(gI #[81,81] K #[.slice (some (Jp g ((i+1)*3))) (n - i) O,.slice (some (Jp g (i*3))) (n+1 - i) ae]).run prog w.drew= .ok (goInt (n - i:Nat)) (w.drew.setCells g ((i+1)*3) (H.drop (i*3))):=λK O ae=>
   ko w.drew _ _ K 76 3 g ((i+1)*3) _ O (Jp g (i*3)) _ ae (n - i) (H.drop (i*3)) underlying81 az aL aI
    (λy D E=>by rw[Addr.add_lit];exact ah (i*3+y) D (by rwa [dJ] at E))
    (λy E=>Q.isSome Jo) (λy E=>Q.cell _) (λD aj=>aJ D (List.mem_of_mem_drop aj))
  obtain⟨J,U⟩:∃J,J=w.drew.setCells g ((i+1)*3) (H.drop (i*3)):=⟨_,rfl⟩;have V:=bP.stores (H.drop (i*3)) ((i+1)*3) (H ++ bc) w.drew Q.h (by rw[ab];omega);rw[<-U] at V ap;have aq:∀y D,([Ji 0,Ji 0,.string ⟨#[]⟩]:List Value)[y]?=some D->J.cell? (Jp M y)=some D:=λy D E=>by
   rw[U,World.cell?_setCells_out g _ _ _ _ (λaf _=>absurd af bb)];exact ar y D E
  have aK:∀K O,(gI #[81,81] K #[.slice (some (Jp g (i*3))) (n+1 - i) O,.slice (some (Jp M 0)) 1 1]).run prog J= .ok (goInt (1:Nat)) (J.setCells g (i*3) [Ji 0,Ji 0,.string ⟨#[]⟩]):=λK O=>
   ko J _ _ K 76 3 g (i*3) _ O (Jp M 0) 1 1 1 [Ji 0,Ji 0,.string ⟨#[]⟩] underlying81 az aM rfl
    (λy D E=>by rw[Addr.add_lit,bB];exact aq y D E) (λy E=>V.isSome (by simp at E;omega)) (λy E=>V.cell _) (by intro am Y;simp at Y;rcases Y with rfl|rfl<;>rfl)
  have X:=bP.stores [Ji 0,Ji 0,.string ⟨#[]⟩] (i*3) _ J V (by simp only[ab,aF,bo,ak,aX];omega);have aA:Below B w (J.setCells g (i*3) [Ji 0,Ji 0,.string ⟨#[]⟩]):=by
   rw[U];exact iY aZ _ _ _ (iY aZ _ _ _ (ag B w).drew)
  have aY:=Jh X;have aP:=Jh aA;have aR:=Jh a8;have aC:=Jh av;clear V X aA U aq Q hr ar Z ah aO ay;go_enter Tryz.func152,Tryz.ntmps152;go_wp2_with (simp only[a7]);go_region_law (refine se rfl _ _ 81 81 rfl _ _ (by simp[Act.eval,an]) (by simp[Act.eval,an]) (ap _ _ _) ?_);go_wp2_with (at_builtin;refine wpList_copy_run _ rfl _ _ 81 81 rfl _ _ rfl rfl (aK _ _) ?_);go_ret;have Q:=aY.o;rw[Pd aC.o aR.o rfl a6,aD.o] at Q;exact⟨_,c,rfl,Q,aP.o⟩
 have bx:=Jt ((c:Int)<(n:Int)+1);have bJ:c<n+1:=Jo;obtain⟨aS,ax,bc,be,aO⟩:=info_parts wn;have bK:g<w.heap.size:=(hr.1.lt g rfl).2;have bM:(n:Int)+1 - (i:Int)=((n+1 - i:Nat):Int):=Jo;have a1:i+(n+1 - i)=n+1:=Jo;have bC:IntKind.i64.wrap ((n:Int)+1 - (i:Int))=(n:Int)+1 - (i:Int):=by rw[aB];omega
 have a8:(Builtin.firstCells aS.size i (.slice (some (Jp g 0)) i c)).run prog w.drew= .ok (H.take (i*3)).toArray w.drew:=by
  rw[be];exact run_firstCells_some w.drew 3 i (Jp g 0) i c (H.take (i*3)) (by rw[aF];omega) (λy D E=>by
   rw[Addr.add_lit,bB];rw[List.getElem?_take] at E;split at E
   ·exact ah y D E
   cases E)
 obtain⟨Q,au⟩:∃Q,Q=grownCap w (n+1) c 76:=⟨_,rfl⟩;have bq:n+1<=Q:=by rw[au];exact grownCap_ge _ _ _ _
 have bp:Q<=maxLen:=by rw[au];exact grownCap_le_maxLen _ _ _ _ Jm
 obtain⟨T,aR⟩:∃T,T=dO (Value.agg #[Ji 0,Ji 0,.string ⟨#[]⟩]).cells (n+1 - i):=⟨_,rfl⟩;obtain⟨ad,aP⟩:∃ad,ad=dO (Value.agg #[Ji 0,Ji 0,.string ⟨#[]⟩]).cells (Q - (n+1)):=⟨_,rfl⟩;have al:T.size=(n+1 - i)*3:=by rw[aR];simp[dO,Value.cells]
 have bd:ad.size=(Q - (n+1))*3:=by rw[aP];simp[dO,Value.cells]
 obtain⟨J,U⟩:∃J,J=w.drew.alloc (.cells ((H.take (i*3)).toArray ++ T ++ ad) 76):=⟨_,rfl⟩;have bv:∀K,(gp #[81,3] K #[.slice (some (Jp g 0)) i c,Ji ((n+1 - i:Nat):Int)]).run prog w= .ok (.slice (some (Jp w.heap.size 0)) (n+1) Q) J:=λK=>by
  have af:=Lib.run_append_grow_zeros w 81 3 K 76 aS _ .i64 .i64 underlying81 underlying3 ax bc (some (Jp g 0)) i c (H.take (i*3)) a8 (n+1 - i) Jo Jo Jo Jo (by rw[aO];omega) (by rw[aO,a1];exact growslice_fits Jo Jo);rw[a1,<-au,<-aR,<-aP,<-U] at af;exact af
 have a7:J.heap[w.heap.size]?=some (.cells ((H.take (i*3)).toArray ++ T ++ ad) 76 (0,0)):=by rw[U];exact heap_alloc_new w.drew _
 have aA:(H.take (i*3)).length=i*3:=by rw[aF];omega
 have V:bP (λk=>k<B) 76 3 (.slice (some (Jp w.heap.size 0)) (n+1) Q) (n+1) (H.take (i*3) ++ T.toList) J:=by
  refine⟨⟨by rw[ab,aA,dM,al];omega,.inr ⟨w.heap.size,Q,_,rfl,bj _,a7,bq,bp,by simp only[Array.size_append,cJ,aA,al,bd];omega,?_⟩⟩,λk W aY=>?_⟩
  ·have aH:((H.take (i*3)).toArray ++ T ++ ad).toList=(H.take (i*3) ++ T.toList) ++ ad.toList:=Js;rw[aH];have aY:(H.take (i*3) ++ T.toList).length=(n+1)*3:=by rw[ab,aA,dM,al];omega
   have:=gT (l₁:=H.take (i*3) ++ T.toList) (l₂:=ad.toList)
   rwa [aY] at this
  simp only[aG,Option.some.injEq] at W;subst W;omega
 have aq:∀y D,([Ji 0,Ji 0,.string ⟨#[]⟩]:List Value)[y]?=some D->J.cell? (Jp M y)=some D:=λy D E=>by
  rw[U];exact bO _ (ar y D E)
 have aM:Nat.min 1 (n+1 - i)=1:=by simp only[Nat.min_def];split<;>omega
 have aL:Nat.min (n - i) (n - i)=n - i:=Nat.min_self _;have ap:∀K O,(gI #[81,81] K #[.slice (some (Jp w.heap.size (i*3))) (n+1 - i) O,.slice (some (Jp M 0)) 1 1]).run prog J= .ok (goInt (1:Nat)) (J.setCells w.heap.size (i*3) [Ji 0,Ji 0,.string ⟨#[]⟩]):=λK O=>
  ko J _ _ K 76 3 w.heap.size (i*3) _ O (Jp M 0) 1 1 1 [Ji 0,Ji 0,.string ⟨#[]⟩] underlying81 az aM rfl
   (λy D E=>by rw[Addr.add_lit,bB];exact aq y D E) (λy E=>V.isSome (by simp at E;omega)) (λy E=>V.cell _) (by intro am Y;simp at Y;rcases Y with rfl|rfl<;>rfl)
 obtain⟨W,Y⟩:∃W,W=J.setCells w.heap.size (i*3) [Ji 0,Ji 0,.string ⟨#[]⟩]:=⟨_,rfl⟩;have bn:T.toList.length=(n+1 - i)*3:=by rw[dM];exact al
 have X:=bP.stores [Ji 0,Ji 0,.string ⟨#[]⟩] (i*3) _ J V (by rw[ab,aA,bn];simp only[ak,aX];omega);rw[<-Y] at X ap;have aY:∀y D,H[y]?=some D->W.cell? (Jp g y)=some D:=λy D E=>by
  rw[Y,World.cell?_setCells_out w.heap.size _ _ _ _ (λaf _=>absurd af (by simp only;omega)),U];exact bO _ (ah y D E)
 have aK:∀K O ae,(gI #[81,81] K #[.slice (some (Jp w.heap.size ((i+1)*3))) (n - i) O,.slice (some (Jp g (i*3))) (n - i) ae]).run prog W.drew= .ok (goInt (n - i:Nat)) (W.drew.setCells w.heap.size ((i+1)*3) (H.drop (i*3))):=λK O ae=>
  ko W.drew _ _ K 76 3 w.heap.size ((i+1)*3) _ O (Jp g (i*3)) _ ae (n - i) (H.drop (i*3)) underlying81 az aL aI
   (λy D E=>by rw[Addr.add_lit];exact aY (i*3+y) D (by rwa [dJ] at E))
   (λy E=>X.isSome Jo) (λy E=>X.cell _) (λD aj=>aJ D (List.mem_of_mem_drop aj))
 have aj:=bP.stores (H.drop (i*3)) ((i+1)*3) _ W.drew X.h (by simp only[ab,aF,bo,dM,ak,aX];omega);have af:Below B w (W.drew.setCells w.heap.size ((i+1)*3) (H.drop (i*3))):=by
  rw[Y,U];exact iY hB _ _ _ (iY hB _ _ _ ((ag B w).drew.alloc hB _)).drew
 have bg:=Jh aj;have bf:=Jh af;have aC:=Jh av;have bh:=Jh (show T.toList.length=(n+1 - i)*3 by rw[dM,al]);have bi:(i:Int)<=c:=Jo;have bk:(i:Int)+1<=(n:Int)+1:=Jo;have bl:(i:Int)<=(n:Int)+1:=Jo;have bm:¬(Q=i+1):=Jo;have bI:¬(Q=i):=Jo;clear V X aj af U Y aq hr ar Z ah aY ay a7 aR aP al bd au a8 ax bc be aO;go_enter Tryz.func152,Tryz.ntmps152;go_wp2_with (first|(at_builtin;refine wpList_copy_run _ rfl _ _ 81 81 rfl _ _ rfl rfl (ap _ _) ?_)|(at_builtin;go_must (refine wpList_append_run _ rfl _ _ 81 3 rfl _ _ rfl rfl (bv _) ?_)));go_region_law (refine se rfl _ _ 81 81 rfl (.slice (some (Jp w.heap.size ((i+1)*3))) (n - i) (Q - (i+1))) (.slice (some (Jp g (i*3))) (n - i) (c - i)) (by simp[Act.eval,an]) (by simp[Act.eval,an]) (aK _ _ _) ?_);go_wp2_with fail;go_ret;have Y:=bg.o;rw[LL aC.o bh.o rfl a6,aD.o] at Y;exact⟨_,Q,rfl,Y,bf.o⟩
theorem Dk (x y:Int)(w:JW):JC 26 #[Ji x,Ji y] w λe w'=>e= .returned (Ji (if x<y then -1 else if y<x then 1 else 0))/\w=w':=by
 have J:((x:Int) != x)=false:=Js;have K:((y:Int) != y)=false:=Js;by_cases D:x<y
 ·rw[if_pos D];have E:decide (x<y)=true:=decide_eq_true D;go_enter Tryz.func26,Tryz.ntmps26;go_wp2;go_ret;exact⟨rfl,rfl⟩
 rw[if_neg D];have E:decide (x<y)=false:=decide_eq_false D;by_cases D:y<x
 ·rw[if_pos D];have H:decide (y<x)=true:=decide_eq_true D;go_enter Tryz.func26,Tryz.ntmps26;go_wp2;go_ret;exact⟨rfl,rfl⟩
 rw[if_neg D];have H:decide (y<x)=false:=decide_eq_false D;go_enter Tryz.func26,Tryz.ntmps26;go_wp2;go_ret;exact⟨rfl,rfl⟩
def Bz (x y:Int):Int:=if x<y then -1 else if y<x then 1 else 0
theorem RZ (x y:Int):Bz x y<0↔x<y:=by unfold Bz;(repeat' split)<;>omega
theorem RY (x y:Int):Bz x y=0↔x=y:=by unfold Bz;(repeat' split)<;>omega
theorem xi (d:Int)(r:bL)(w:JW):JC 242 #[fL r,Ji d] w λe w'=>e= .returned (Ji (Bz r.Day d))/\Jz w w':=by
 unfold fL;obtain⟨y,K,M⟩:=r;simp only;have E:=Jh (λw=>Dk y d w);have H:=Jh (show(if y<d then(-1:Int) else if d<y then 1 else 0)=Bz y d from rfl);go_enter Tryz.func242,Tryz.ntmps242;go_wp2_with fail;refine(E.o _).mono ?_;rintro e Q ⟨rfl,rfl⟩;rw[H.o];obtain⟨O,D⟩:=Je (Bz y d);have J:=Jh D;rw[D];go_wp2_with fail;go_ret;exact⟨by rw[J.o];rfl,(ag _ w).alloc (ac _) _⟩
def lk (d:Int)(l:List bL):Bool:=if y:jS d l<l.length then l[jS d l].Day == d else false
theorem NR (d:Int)(A:JA)(c n:Nat)(xs:List bL)(w:JW)(hr:Rd w 3 A n (xs.flatMap aU))(ak:xs.length=n)(aF:n<=1000000)(aq:oU xs):
 JC 151 #[.slice A n c,Ji d] w λe w'=>e= .returned (.tuple #[Ji (jS d xs),.bool (lk d xs)])/\Jz w w':=by
 have ah:=Jh hr;have ab:=Jh ak;have af:=Jh (λE(D:E<xs.length)=>vY (d:=d) aq E D);have ai:jS d xs<=n:=by rw[<-ak];exact BA d xs
 obtain⟨V,aj⟩:=Je (jS d xs);rw[aj] at af ai ⊢;have ac:=Jh aj;go_enter Tryz.func151,Tryz.ntmps151;go_wp2_with (go_in);go_loopw [9,10] (λH J wr=>∃E y:Nat,H=Ji E/\J=Ji y/\E<=V/\V<=y/\y<=n/\Jz w wr) (λH J _=>(intOf J).toNat - (intOf H).toNat)
 case atStart=>exact⟨0,n,rfl,rfl,Jo,ai,Jo,ag _ _⟩
 obtain⟨E,y,rfl,rfl,aA,aI,aD,ar⟩:=hrel;have J:=Jh ar;by_cases aG:E<y
 ·have aE:(E:Int)<y:=Jo;have aJ:IntKind.i64.wrap ((E:Int)+(y:Int))=(E:Int)+(y:Int):=by rw[aB];omega
  have aK:IntKind.u64.wrap ((E:Int)+(y:Int))=(E:Int)+(y:Int):=by rw[bD];omega
  obtain⟨D,ax⟩:=Je ((E+y) / 2);have aL:((E:Int)+(y:Int)) / 2=(D:Int):=Jo;have aC:E<=D:=Jo;have az:D<y:=Jo;have aw:(D:Int)<n:=Jo;have U:D<xs.length:=Jw ab.o;obtain⟨ap,ay,rfl,au,W,X,Y⟩:=mh (ah.o.below J.o) U;have H:=Jh (xi d xs[D] wr);have O:=af.o D U;obtain⟨ae,hr⟩:=Je (xs[D]);rw[hr] at W X Y H O;obtain⟨K,an,ao⟩:=ae;unfold fL at H;simp only at W X Y H O;have aH:IntKind.i64.wrap ((D:Int)+1)=(D:Int)+1:=by rw[aB];omega
  obtain⟨aa,ad⟩:=Je (Bz K d);have M:=RZ K d;rw[ad] at H M;by_cases Z:K<d
  ·have al:decide (aa<0)=true:=decide_eq_true (M.2 Z);have av:D<V:=O.1 Z;go_wp2_with fail;refine H.o.mono ?_;rintro e am ⟨rfl,T⟩;have Q:=Jh (J.o.trans (T.mono J.o.size));go_wp2_with fail;go_roundw
   case rel=>exact⟨D+1,y,by go_num,rfl,Jo,Jo,Jo,Q.o⟩
   simp[intOf];omega
  have al:decide (aa<0)=false:=decide_eq_false (mt M.1 Z);have av:V<=D:=Nat.not_lt.1 (mt O.2 Z);go_wp2_with fail;refine H.o.mono ?_;rintro e am ⟨rfl,T⟩;have Q:=Jh (J.o.trans (T.mono J.o.size));go_wp2_with fail;go_roundw
  case rel=>exact⟨E,D,rfl,rfl,Jo,Jo,Jo,Q.o⟩
  simp[intOf];omega
 obtain rfl:E=V:=Jo;obtain rfl:y=E:=Jo;by_cases Z:y<n;rotate_left
 ·have O:=Jh (show lk d xs=false by unfold lk;rw[dif_neg (by rw[ac.o,ab.o];exact Z)]);have H:¬(y:Int)<n:=Jo;have al:decide ((y:Int)<(n:Int))=false:=decide_eq_false H;go_wp2_with fail;go_ret2;exact⟨by rw[O.o];rfl,J.o⟩
 have U:y<xs.length:=Jw ab.o;have O:=Jh (show lk d xs=(xs[y].Day == d) by unfold lk;rw[dif_pos (by rw[ac.o];exact U)];simp only[ac.o]);obtain⟨ap,ay,rfl,au,W,X,Y⟩:=mh (ah.o.below J.o) U;have H:=Jh (xi d xs[y] wr);obtain⟨ae,hr⟩:=Je (xs[y]);rw[hr] at W X Y H O;obtain⟨K,an,ao⟩:=ae;unfold fL at H;simp only at W X Y H O;have aw:(y:Int)<n:=Jo;obtain⟨aa,ad⟩:=Je (Bz K d);have M:=RY K d;rw[ad] at H M;have av:(aa == 0)=(K == d):=by
  by_cases D:K=d
  ·rw[beq_iff_eq.2 D,beq_iff_eq.2 (M.2 D)]
  rw[beq_eq_false_iff_ne.2 D,beq_eq_false_iff_ne.2 (mt M.1 D)]
 obtain⟨az,ax⟩:=Je ((K == d));rw[ax] at av O;go_wp2_with fail;refine H.o.mono ?_;rintro e am ⟨rfl,T⟩;have Q:=Jh (J.o.trans (T.mono J.o.size));go_wp2_with fail;go_ret2;exact⟨by rw[O.o];rfl,Q.o⟩
def sX (s:St)(e:Ed):St × Nat:=match ep s e with
 |none=>(st0,170)
 |some y=>(y,0)
theorem zD {s:St}{e:Ed}(h:ep s e=none):sX s e=(st0,170):=by unfold sX;rw[h]
theorem kK {s t:St}{e:Ed}(h:ep s e=some t):sX s e=(t,0):=by unfold sX;rw[h]
theorem app0 {s:St}{e:Ed}(h:e.Kind=0):ep s e=rS s e.Day e.Layout:=by unfold ep;rw[if_pos h]
theorem Ws {s:St}{e:Ed}(h:e.Kind=2):ep s e=if s.Past<e.At/\e.At<=1099511627776 then some {s with Past:=e.At} else none:=by unfold ep;rw[if_neg Jo,if_neg Jo,if_pos h]
theorem Wt {s:St}{e:Ed}(h:e.Kind=3):ep s e=match eh s.Parts e.Day with
 |none=>none
 |some y=>if s.On=false/\kg e.Layout/\y.Layout≠e.Layout then some {s with On:=true,Day:=e.Day,To:=e.Layout} else none:=by unfold ep;rw[if_neg Jo,if_neg Jo,if_neg Jo,if_pos h];try rfl
theorem Wu {s:St}{e:Ed}(h:e.Kind=4):ep s e=if s.On=true/\s.Done<5000 then some {s with Done:=s.Done+1} else none:=by unfold ep;rw[if_neg Jo,if_neg Jo,if_neg Jo,if_neg Jo,if_pos h]
theorem Wv {s:St}{e:Ed}(h:e.Kind=5):ep s e=if s.On=true then rS s s.Day s.To else none:=by unfold ep;rw[if_neg Jo,if_neg Jo,if_neg Jo,if_neg Jo,if_neg Jo,if_pos h]
theorem nG (n:Int):nZ n 1=decide (kg n):=by
 refine Bool.eq_iff_iff.2 ?_;rw[decide_eq_true_iff];unfold nZ kg;simp only[bT,decide_eq_true_eq];omega
theorem yR (n:Int):nZ n 17179869183=decide (lW n):=by
 refine Bool.eq_iff_iff.2 ?_;rw[decide_eq_true_iff];unfold nZ lW;simp only[bT,decide_eq_true_eq];omega
theorem OH (P:List bL)(N E:Int)(D:Bool)(y H J d:Int):kh ⟨P,N,E,D,y,H,J⟩ d=if D=true/\y=d then⟨P.filter (kp d),N,E,false,0,0,0⟩ else⟨P.filter (kp d),N,E,D,y,H,J⟩:=rfl
theorem rL {s:St}{d y:Int}(h:¬(lW d/\kg y/\s.Next<1099511627776)):rS s d y=none:=by unfold rS;rw[if_neg h]
theorem Ez {P:List bL}{N H:Int}{E:Bool}{D J K d y:Int}(h1:lW d)(h2:kg y)(M:N<1099511627776):
 rS ⟨P,N,H,E,D,J,K⟩ d y=some (if E=true/\D=d then⟨jC ⟨d,y,cE N⟩ (P.filter (kp d)),N+1,H,false,0,0,0⟩ else⟨jC ⟨d,y,cE N⟩ (P.filter (kp d)),N+1,H,E,D,J,K⟩):=by
 unfold rS;rw[if_pos ⟨h1,h2,M⟩,OH];split<;>rfl
theorem VM {w w1:JW}{a:Addr}(y:Jz w w1)(D:a.block<w.heap.size)(h:w.frozen? a=false):w1.frozen? a=false:=by
 unfold World.frozen? at h ⊢;rw[y.block _ D];exact h
theorem uE {w w1:JW}{b i j:Nat}{u:Value}(y:Jz w w1)(hc:w.cell? (Jp b i)=some u)(h:w.frozen? (Jp b j)=false):w1.frozen? (Jp b j)=false:=
 VM (a:=(Jp b j)) y (by have:=bq w _ hc;exact this) h
structure pZ (M:Nat) (A:JA) (n:Nat) (l:List bL) (w:JW):Prop where
 rd:Rd w 3 A n (l.flatMap aU)
 len:l.length=n
 hi:∀a,A=some a->M<=a.block
theorem pZ.mono {y D n:Nat}{A:JA}{l:List bL}{w:JW}(h:pZ y A n l w)(J:D<=y):pZ D A n l w:=⟨h.rd,h.len,λE H=>ap J (h.hi E H)⟩
theorem pZ.nil (y:Nat)(w:JW):pZ y none 0 [] w:=⟨Rd.nil _ _ _,rfl,λ_ D=>by cases D⟩
def FB (v:St × Nat)(B:Nat)(w:JW)(e:Ending)(w':JW):Prop:=
 ∃y D E,e= .returned (.tuple #[dH y D E v.1,Ji v.2])/\pZ B y D v.1.Parts w'/\Below B w w'
theorem seven {w:JW}{b:Nat}{v0 y v2 v3 v4 v5 D:Value}{E:TypeId}(h:w.heap[b]?=some (.cells #[v0,y,v2,v3,v4,v5,D] E (0,0))):
 w.cell? (Jp b 0)=some v0/\w.cell? (Jp b 1)=some y/\w.cell? (Jp b 2)=some v2/\w.cell? (Jp b 3)=some v3/\w.cell? (Jp b 4)=some v4/\w.cell? (Jp b 5)=some v5/\w.cell? (Jp b 6)=some D/\∀j,w.frozen? (Jp b j)=false:=
 ⟨by rw[aa h];rfl,by rw[aa h];rfl,by rw[aa h];rfl,by rw[aa h];rfl,by rw[aa h];rfl,by rw[aa h];rfl,by rw[aa h];rfl,λj=>aW h j⟩
theorem four {w:JW}{b:Nat}{v0 y v2 v3:Value}{D:TypeId}(h:w.heap[b]?=some (.cells #[v0,y,v2,v3] D (0,0))):
 w.cell? (Jp b 0)=some v0/\w.cell? (Jp b 1)=some y/\w.cell? (Jp b 2)=some v2/\w.cell? (Jp b 3)=some v3/\∀j,w.frozen? (Jp b j)=false:=
 ⟨by rw[aa h];rfl,by rw[aa h];rfl,by rw[aa h];rfl,by rw[aa h];rfl,λj=>aW h j⟩
theorem oP {w:JW}{b:Nat}{v0 D v2 v3 v4 v5 E:Value}{H:TypeId}(h:w.heap[b]?=some (.cells #[v0,D,v2,v3,v4,v5,E] H (0,0))):
 w.cell? (Jp b 0)=some v0/\w.cell? (Jp b 1)=some D/\w.cell? (Jp b 2)=some v2/\w.cell? (Jp b 3)=some v3/\w.cell? (Jp b 4)=some v4/\w.cell? (Jp b 5)=some v5/\w.cell? (Jp b 6)=some E/\w.frozen? (Jp b 0)=false/\w.frozen? (Jp b 1)=false/\w.frozen? (Jp b 2)=false/\w.frozen? (Jp b 3)=false/\w.frozen? (Jp b 4)=false/\w.frozen? (Jp b 5)=false/\w.frozen? (Jp b 6)=false:=by
 obtain⟨J,b,K,M,O,Q,T,y⟩:=seven h;exact⟨J,b,K,M,O,Q,T,y 0,y 1,y 2,y 3,y 4,y 5,y 6⟩
theorem Ly {w:JW}{b:Nat}{v0 y v2 v3:Value}{E:TypeId}(h:w.heap[b]?=some (.cells #[v0,y,v2,v3] E (0,0))):
 w.cell? (Jp b 0)=some v0/\w.cell? (Jp b 1)=some y/\w.cell? (Jp b 2)=some v2/\w.cell? (Jp b 3)=some v3/\w.frozen? (Jp b 1)=false/\w.frozen? (Jp b 2)=false:=by
 obtain⟨H,b,J,K,D⟩:=four h;exact⟨H,b,J,K,D 1,D 2⟩
theorem pZ.set {y n b j:Nat}{A:JA}{l:List bL}{w:JW}(h:pZ y A n l w)(U:b<y)(u:Value):pZ y A n l (w.setCell (Jp b j) u):=
 ⟨⟨h.rd.1,λK=>by
  obtain⟨E,Q,D,J,H⟩:=h.rd.2 K;have:=h.hi _ D;exact⟨E,Q,D,by simpa [aj] using J,λO T M=>by rw[fK _ _ _ _ (by simp only at this;simp only[ne_eq,Addr.mk.injEq];omega)];exact H O T M⟩⟩,h.len,h.hi⟩
theorem pZ.drew {y n:Nat}{A:JA}{l:List bL}{w:JW}(h:pZ y A n l w):pZ y A n l w.drew:=⟨h.rd,h.len,h.hi⟩
theorem pZ.below {y n:Nat}{A:JA}{l:List bL}{w w':JW}(h:pZ y A n l w)(D:Jz w w'):pZ y A n l w':=⟨h.rd.below D,h.len,h.hi⟩
theorem pZ.of {y n c:Nat}{A:JA}{l:List bL}{w:JW}(h:bP (λk=>k<y) 76 3 (.slice A n c) n (l.flatMap aU) w)(J:l.length=n):pZ y A n l w:=
 ⟨h.rd,J,λD E=>by subst E;exact Nat.not_lt.1 λH=>h.2 D.block rfl H⟩
def zf (l:JU):Nat:=l.foldl (λy D=>y*10+(D.toNat - 48)) 0
theorem Mg (l:JU)(b:UInt8):zf (l ++ [b])=zf l*10+(b.toNat - 48):=by simp[zf]
theorem digit_num {d:Nat}(h:d<10):(dw (48+d)).toNat - 48=d:=by
 have:(dw (48+d)).toNat=(48+d) % 256:=rfl;omega
theorem nU (n:Nat):zf (dk n)=n:=by
 induction n using Nat.strongRecOn with
 |ind n D=>
  rw[dk];by_cases y:n<10
  ·rw[dif_pos y];simp[zf];omega
  rw[dif_neg y,Mg,D (n / 10) Jo,digit_num Jo];omega
theorem uu {a b:Nat}(h:cE a=cE b):a=b:=by
 unfold cE at h;have y:=(List.cons.inj h).2;have:=congrArg zf y;rw[nU,nU] at this;simpa using this
theorem vg (s:St)(d:Int):(kh s d).Next=s.Next:=by unfold kh;split<;>rfl
theorem td (s:St)(d:Int):(kh s d).Parts=s.Parts.filter (kp d):=by unfold kh;split<;>rfl
theorem pi {d d':Int}(E:d'≠d):∀l:List bL,eh (l.filter (kp d)) d'=eh l d'
 |[]=>rfl
 |x :: l=>by
  rw[ei];by_cases D:x.Day=d
  ·rw[if_neg (by simp[kp,D]),pi E l];unfold eh;rw[dW (by simp;omega)]
  rw[if_pos (by simp[kp,D])];unfold eh;by_cases y:x.Day=d'
  ·rw[List.find?_cons_of_pos (by simpa using y),List.find?_cons_of_pos (by simpa using y)]
  rw[dW (by simpa using y),dW (by simpa using y)];exact pi E l
theorem zS {p:bL}{d:Int}(D:d≠p.Day):∀l:List bL,eh (jC p l) d=eh l d
 |[]=>by
  unfold jC eh;rw[dW (by simp;omega)]
 |x :: l=>by
  unfold jC;split
  ·unfold eh;rw[dW (by simp;omega)]
  unfold eh;by_cases y:x.Day=d
  ·rw[List.find?_cons_of_pos (by simpa using y),List.find?_cons_of_pos (by simpa using y)]
  rw[dW (by simpa using y),dW (by simpa using y)];exact zS D l
theorem uD (p:bL):∀l:List bL,(jC p l).Perm (p :: l)
 |[]=>by unfold jC;exact List.Perm.refl _
 |x :: l=>by
  unfold jC;split
  ·exact List.Perm.refl _
  exact((uD p l).cons x).trans (List.Perm.swap p x l)
theorem qJ (p:bL)(l:List bL):(jC p l).length=l.length+1:=by rw[(uD p l).length_eq];rfl
structure eV (s:St):Prop where
 n0:0<=s.Next
 n1:s.Next<=1099511627776
 p0:0<=s.Past
 p1:s.Past<=1099511627776
 oU:oU s.Parts
 part:∀p∈s.Parts,lW p.Day/\kg p.Layout/\∃m:Nat,(m:Int)<s.Next/\p.File=cE m
 files:s.Parts.Pairwise λp q=>p.File≠q.File
 vL:s.On=false->s.Day=0/\s.To=0/\s.Done=0
 conv:s.On=true->∃p,eh s.Parts s.Day=some p/\kg s.To/\p.Layout≠s.To/\0<=s.Done/\s.Done<=5000
theorem eV.Dw {s:St}(h:eV s):0<=s.Done:=by
 cases y:s.On with
 |false=>have:=h.vL y;omega
 |true=>obtain⟨_,_,_,_,D,_⟩:=h.conv y;exact D
theorem eV.Dx {s:St}(h:eV s):s.Done<=5000:=by
 cases y:s.On with
 |false=>have:=h.vL y;omega
 |true=>obtain⟨_,_,_,_,_,D⟩:=h.conv y;exact D
theorem eV.zero:eV st0:=⟨Jd,Jd,Jd,Jd,trivial,by simp[st0],by simp[st0],λ_=>⟨rfl,rfl,rfl⟩,λy=>by cases y⟩
theorem eV.off {s:St}(h:eV s):eV (Eu s):=
 ⟨h.n0,h.n1,h.p0,h.p1,h.oU,h.part,h.files,λ_=>⟨rfl,rfl,rfl⟩,λh=>by cases h⟩
theorem eV.drop {s:St}(h:eV s)(d:Int):eV (kh s d):=by
 have D:∀y∈s.Parts.filter (kp d),lW y.Day/\kg y.Layout/\∃H:Nat,(H:Int)<s.Next/\y.File=cE H:=λy D=>h.part y (List.mem_filter.1 D).1;unfold kh;split
 ·exact⟨h.n0,h.n1,h.p0,h.p1,wS h.oU _,D,h.files.filter _,λ_=>⟨rfl,rfl,rfl⟩,λh=>by cases h⟩
 rename_i O;refine⟨h.n0,h.n1,h.p0,h.p1,wS h.oU _,D,h.files.filter _,h.vL,λE=>?_⟩;obtain⟨y,K,M⟩:=h.conv E;refine⟨y,?_,M⟩;have:=pi (d:=d) (d':=s.Day) (λJ=>O ⟨E,J⟩) s.Parts;exact this.trans K
theorem OI {s:St}{d:Int}(h:(kh s d).On=true):s.On=true/\(kh s d).Day≠d:=by
 unfold kh at h ⊢;split at h
 ·cases h
 rename_i y;rw[if_neg y];exact⟨h,λD=>y ⟨h,D⟩⟩
theorem eV.put {s t:St}(h:eV s){d af:Int}(y:rS s d af=some t):eV t:=by
 unfold rS at y;split at y
 ·rename_i ac;obtain⟨W,X,ag⟩:=ac;obtain rfl:=(Option.some.inj y).symm;have D:=h.drop d;have ad:∀V∈(kh s d).Parts,V.Day≠d:=by
   rw[td];intro V ae;have:=(List.mem_filter.1 ae).2;simpa [kp] using this
  have Q:=vg s d;obtain⟨O,M⟩:=dA h.n0;refine⟨?_,?_,D.p0,D.p1,IH D.oU ad,?_,?_,D.vL,?_⟩
  ·show 0<=s.Next+1;have:=h.n0;omega
  ·show s.Next+1<=_;omega
  ·intro E y;show _/\_/\∃O:Nat,(O:Int)<s.Next+1/\_;rcases nk.1 y with rfl|y
   ·refine⟨W,X,O,Jo,?_⟩;show cE s.Next=_;rw[M]
   obtain⟨Y,Z,U,J,K⟩:=D.part E y;rw[Q] at J;exact⟨Y,Z,U,Jo,K⟩
  ·refine((uD _ _).pairwise_iff (λh H=>h H.symm)).2 (List.pairwise_cons.2 ⟨λE y=>?_,D.files⟩);obtain⟨_,_,U,J,K⟩:=D.part E y;rw[Q,M] at J;rw[K];show cE s.Next≠_;rw[M];intro H;have:=uu H;omega
  intro T;obtain⟨E,aa,ab⟩:=D.conv T;exact⟨E,(zS (OI T).2 _).trans aa,ab⟩
 cases y
theorem eV.app {s t:St}(h:eV s){e:Ed}(y:ep s e=some t):eV t:=by
 unfold ep at y;split at y
 ·exact h.put y
 split at y
 ·split at y
  ·obtain rfl:=(Option.some.inj y).symm;exact h.drop _
  cases y
 split at y
 ·split at y
  ·rename_i D;obtain rfl:=(Option.some.inj y).symm;exact⟨h.n0,h.n1,by have:=h.p0;show 0<=e.At;omega,D.2,h.oU,h.part,h.files,h.vL,h.conv⟩
  cases y
 split at y
 ·split at y
  ·cases y
  rename_i H U;split at y
  ·rename_i D;obtain⟨J,K,M⟩:=D;obtain rfl:=(Option.some.inj y).symm;obtain⟨_,_,X⟩:=h.vL J;exact⟨h.n0,h.n1,h.p0,h.p1,h.oU,h.part,h.files,(λh=>by cases h),λ_=>⟨H,U,K,M,by show 0<=s.Done;omega,by show s.Done<=5000;omega⟩⟩
  cases y
 split at y
 ·split at y
  ·rename_i D;obtain rfl:=(Option.some.inj y).symm;refine⟨h.n0,h.n1,h.p0,h.p1,h.oU,h.part,h.files,λE=>?_,λE=>?_⟩
   ·have E:s.On=false:=E;rw[D.1] at E;cases E
   obtain⟨H,O,Q,T,V,W⟩:=h.conv D.1;exact⟨H,O,Q,T,by show 0<=s.Done+1;omega,by show s.Done+1<=5000;omega⟩
  cases y
 split at y
 ·split at y
  ·exact h.put y
  cases y
 split at y
 ·split at y
  ·obtain rfl:=(Option.some.inj y).symm;exact h.off
  cases y
 cases y
theorem xx (s:St)(d:Int):(kh s d).Past=s.Past:=by unfold kh;split<;>rfl
theorem zO (s:St)(d:Int):(kh s d).Parts.length<=s.Parts.length:=by rw[td];exact fb _ _
theorem AL {s t:St}{d D:Int}(y:rS s d D=some t):t.Parts.length<=s.Parts.length+1/\t.Next=s.Next+1/\t.Past=s.Past:=by
 unfold rS at y;split at y
 ·obtain rfl:=(Option.some.inj y).symm;refine⟨?_,rfl,xx s d⟩;show(jC _ _).length<=_;rw[qJ];have:=zO s d;omega
 cases y
theorem Kv {s t:St}{e:Ed}(y:ep s e=some t):t.Parts.length<=s.Parts.length+1/\s.Next<=t.Next/\t.Next<=s.Next+1/\s.Past<=t.Past:=by
 unfold ep at y;split at y
 ·have:=AL y;omega
 split at y
 ·split at y
  ·obtain rfl:=(Option.some.inj y).symm;have D:=zO s e.Day;have E:=xx s e.Day;have H:=vg s e.Day;omega
  cases y
 split at y
 ·split at y
  ·rename_i J;obtain rfl:=(Option.some.inj y).symm;exact⟨Nat.le_succ _,gg _,by show s.Next<=s.Next+1;omega,by show s.Past<=e.At;omega⟩
  cases y
 split at y
 ·split at y
  ·cases y
  split at y
  ·obtain rfl:=(Option.some.inj y).symm;exact⟨Nat.le_succ _,gg _,by show s.Next<=s.Next+1;omega,gg _⟩
  cases y
 split at y
 ·split at y
  ·obtain rfl:=(Option.some.inj y).symm;exact⟨Nat.le_succ _,gg _,by show s.Next<=s.Next+1;omega,gg _⟩
  cases y
 split at y
 ·split at y
  ·have:=AL y;omega
  cases y
 split at y
 ·split at y
  ·obtain rfl:=(Option.some.inj y).symm;exact⟨Nat.le_succ _,gg _,by show s.Next<=s.Next+1;omega,gg _⟩
  cases y
 cases y
structure uV (s:St) (k:Nat):Prop where
 ok:eV s
 len:s.Parts.length<=k
 next:s.Next<=k
theorem uV.zero (k:Nat):uV st0 k:=⟨eV.zero,bj _,by show(0:Int)<=k;omega⟩
theorem uV.mono {s:St}{k m:Nat}(h:uV s k)(y:k<=m):uV s m:=⟨h.ok,Jw h.len,Jw h.next⟩
theorem uV.app {s t:St}{k:Nat}(h:uV s k){e:Ed}(y:ep s e=some t):uV t (k+1):=by
 have D:=Kv y;exact⟨h.ok.app y,Jw h.len,Jw h.next⟩
def mA (l:JU):Int:=if l=cE (zf l.tail)/\zf l.tail<100000000000000 then zf l.tail else -1
theorem FZ (m:Nat):(cE m).tail=dk m:=rfl
theorem Az {m:Nat}(h:m<100000000000000):mA (cE m)=m:=by
 unfold mA;rw[FZ,nU,if_pos ⟨rfl,h⟩]
theorem AA {l:JU}(h:mA l≠-1):∃m:Nat,mA l=m/\l=cE m/\m<100000000000000:=by
 unfold mA at h ⊢;split
 ·rename_i y;exact⟨_,rfl,y.1,y.2⟩
 rename_i y;rw[if_neg y] at h;exact absurd rfl h
theorem rF {l:JU}(h:∀m:Nat,m<100000000000000->l≠cE m):mA l= -1:=by
 unfold mA;rw[if_neg λy=>h _ y.2 y.1]
theorem pc:∀{k m:Nat},0<k->m<10 ^ k->(dk m).length<=k
 |0,_,y,_=>absurd y Jo
 |k+1,m,_,y=>by
  rw[dk];by_cases E:m<10
  ·rw[dif_pos E];simp
  rw[dif_neg E];have D:0<k:=by
   rcases dx k with rfl|D
   ·simp at y;omega
   exact D
  have:=pc D (show m / 10<10 ^ k by rw[gF] at y;omega);simp;omega
theorem xw (m:Nat):0<(dk m).length:=by
 rw[dk];split<;>simp
theorem xu (m:Nat):∀b∈dk m,48<=b.toNat/\b.toNat<=57:=by
 induction m using Nat.strongRecOn with
 |ind m J=>
  have H:∀D,D<10->48<=(dw (48+D)).toNat/\(dw (48+D)).toNat<=57:=λD H=>by
   have:(dw (48+D)).toNat=(48+D) % 256:=rfl;omega
  intro b y;rw[dk] at y;by_cases E:m<10
  ·rw[dif_pos E] at y;rw[List.mem_singleton] at y;subst y;exact H m E
  rw[dif_neg E] at y;rcases List.mem_append.1 y with y|y
  ·exact J (m / 10) Jo b y
  rw[List.mem_singleton] at y;subst y;exact H _ Jo
theorem Ln {m:Nat}(h:m<100000000000000):2<=(cE m).length/\(cE m).length<=15:=by
 have y:=xw m;have D:=pc (k:=14) Jd (show m<10 ^ 14 by exact h);unfold cE;simp only[ak,dE];omega
theorem QX {d:Int}{P:List bL}(h:∀p∈P,p.Day≠d):lk d P=false:=by
 unfold lk;split
 ·simpa using h _ (ah _)
 rfl
theorem lH {s:St}{e:Ed}{G:Prop}(h:∃t,ep s e=some t)(k:ep s e=none):G:=by
 obtain⟨t,y⟩:=h;rw[k] at y;cases y
theorem PK (A:JA)(n c:Nat)(s:St)(e:Ed)(w:JW)(hr:Rd w 3 A n (s.Parts.flatMap aU))(bz:s.Parts.length=n)(dk:n<=100000)(bW:oU s.Parts)(cC:0<=s.Next)(cD:s.Next<=1099511627776)(cA:0<=s.Done)(cB:s.Done<=5000)(bY:Pow w)(a6:e.Kind=0)(bZ:∃t,ep s e=some t)(bV:s.On=false)(bX:∀p∈s.Parts,p.Day≠e.Day):
 JC 70 #[dH A n c s,nh e] w (FB (sX s e) w.heap.size w):=by
 obtain⟨y,D⟩:=Je w.heap.size;obtain⟨E,H,V,W,U,X,Y⟩:=s;obtain⟨cy,J,Q,aQ⟩:=e;obtain rfl:cy=0:=a6;simp only at bZ bV bX hr bz bW cC cD cA cB;have bx:=Jh (Ja bZ (Ja bV bX));clear bZ bV bX;obtain⟨b9,K⟩:=Je (sX ⟨E,H,V,W,U,X,Y⟩ ⟨0,J,Q,aQ⟩);rw[K];have cx:=Jh K;have bc:=Jh (λaf M=>fw J A c n ⟨E,H,V,W,U,X,Y⟩ af M bz Jo);unfold dH nh;simp only;obtain⟨aq,Z,cM,M,ap,ay,aR⟩:∃aq,((w.alloc (.cells #[.slice A n c,Ji H,Ji V,.bool W,Ji U,Ji X,Ji Y] 83)).alloc (.cells #[Ji 0,Ji J,Ji Q,Ji aQ] 152)).alloc (.cells #[Jn,Ji 0,Ji 0,.bool false,Ji 0,Ji 0,Ji 0] 83)=aq/\aq.heap.size=y+3/\Below y w aq
  /\aq.heap[y]?=some (.cells #[.slice A n c,Ji H,Ji V,.bool W,Ji U,Ji X,Ji Y] 83 (0,0))/\aq.heap[y+1]?=some (.cells #[Ji 0,Ji J,Ji Q,Ji aQ] 152 (0,0))/\aq.heap[y+2]?=some (.cells #[Jn,Ji 0,Ji 0,.bool false,Ji 0,Ji 0,Ji 0] 83 (0,0)):=by
  have b0:=heap_alloc_new w (.cells #[.slice A n c,Ji H,Ji V,.bool W,Ji U,Ji X,Ji Y] 83);have b1:=heap_alloc_new (w.alloc (.cells #[.slice A n c,Ji H,Ji V,.bool W,Ji U,Ji X,Ji Y] 83)) (.cells #[Ji 0,Ji J,Ji Q,Ji aQ] 152);have b2:=heap_alloc_new ((w.alloc (.cells #[.slice A n c,Ji H,Ji V,.bool W,Ji U,Ji X,Ji Y] 83)).alloc (.cells #[Ji 0,Ji J,Ji Q,Ji aQ] 152)) (.cells #[Jn,Ji 0,Ji 0,.bool false,Ji 0,Ji 0,Ji 0] 83);simp only[aI,D,aV,bM] at b0 b1 b2;refine⟨_,rfl,by simp[D],?_,?_,?_,b2⟩
  ·subst D;exact(((ag _ _).alloc (ac _) _).alloc Js _).alloc (by simp;omega) _
  ·exact(aJ _ _ _ (by simp;omega)).trans ((aJ _ _ _ (by simp;omega)).trans b0)
  exact(aJ _ _ _ (by simp;omega)).trans b1
 have de:2<y:=D▸bY.2;have O:Below w.heap.size w aq:=D▸M;have T:=hr.below O;have av:=Jh (bY.below O);have ao:=Jh (ox A c n E aq T bz Jo);have bd:=Jh T;have aT:=Jh bz;have b6:=Jh D;have am:=Jh M;have bT:=Jh bW;obtain⟨au,-,-,-,-,-,-,aw,-,-,-,-,-,-⟩:=oP ap;have ax:=Jh ap;have aY:=Jh ay;have aZ:=Jh aR;clear hr T M O bz bW bY ap ay aR K;go_enter Tryz.func70,Tryz.ntmps70;go_wp2_with fail;try simp only[Z]
 clear Z D au aw;refine ao.o.mono ?_;rintro e bR ⟨ai,an,rfl,ah,T⟩;have ap:=(T.block y Jo).trans ax.o;have ay:=(T.block (y+1) Jo).trans aY.o;have aR:=(T.block (y+2) Jo).trans aZ.o;obtain⟨au,aC,aD,aE,aG,aH,aK,aw,-,-,-,-,-,-⟩:=oP ap;obtain⟨aM,aN,aO,aP,-⟩:=four ay;have bq:y+3<=bR.heap.size:=Jw T.size;rw[cM] at ah;have bf:Below aq.heap.size aq (bR.setCell (Jp y 0) (.slice ai n an))->True:=λ_=>trivial;obtain⟨ar,bb,bp,K,M,O,Z,a1,a8,ba⟩:∃ar,bR.setCell (Jp y 0) (.slice ai n an)=ar/\ar.heap.size=bR.heap.size/\ar.heap[y]?=some (.cells #[.slice ai n an,Ji H,Ji V,.bool W,Ji U,Ji X,Ji Y] 83 (0,0))/\ar.heap[y+1]?=some (.cells #[Ji 0,Ji J,Ji Q,Ji aQ] 152 (0,0))/\ar.heap[y+2]?=some (.cells #[Jn,Ji 0,Ji 0,.bool false,Ji 0,Ji 0,Ji 0] 83 (0,0))/\
  bP (λD=>D<y+3) 76 3 (.slice ai n an) n (E.flatMap aU) ar/\Below y w ar/\Pow ar/\Rd ar 3 ai n (E.flatMap aU):=by
  have Z:=fW ah (show y<y+3 by omega) 0 (.slice ai n an);exact⟨_,rfl,by simp[aj],by simp[aj,aA,ap],(ae _ _ _ _ Js).trans ay,(ae _ _ _ _ Js).trans aR,Z,(am.o.trans (T.mono Jo)).setCell (p:=(Jp y 0)) (ac y) _,(av.o.below T).later (by simp[aj]) (ae _ _ _ _ (by simp only;omega)),Z.rd⟩
 obtain⟨cb,cc,be,bg,bh,bi,bj,-⟩:=seven K;obtain⟨bk,bl,bm,bn,-⟩:=four M;have ad:=Jh (fw J ai an n ⟨E,H,V,W,U,X,Y⟩ ar ba aT.o Jo);unfold dH at ad;simp only at ad;have aX:=Jh Z;have aW:=Jh a1;have a7:=Jh a8;have az:=Jh K;have aL:=Jh M;have aS:=Jh O;clear ah T ao ax aY aZ ap ay aR Z a1 a8 ba K M O bf bc bd av am;go_wp2_with fail;try simp only[bb]
 clear bb au aC aD aE aG aH aK aM aN aO aP aw;refine ad.o.mono ?_;rintro e bf ⟨rfl,ah⟩;obtain⟨cl,ao⟩:=Je (eh E J);rw[ao];obtain⟨p,av⟩:=Je (cl.getD p0);obtain⟨dv,ax⟩:=Je cl.isSome;rw[av,ax];have c1:=Jh (Ja ao (Ja av ax));obtain⟨b3,bN,b4⟩:=p;unfold fL;simp only;have a8:=Below.one bf (.cells #[Ji b3,Ji bN,.string (S b4)] 76);have T:=ah.trans (a8.mono ah.size);obtain⟨Z,cd,cN,K,M,O,am,bb,ba,bc⟩:∃Z,bf.alloc (.cells #[Ji b3,Ji bN,.string (S b4)] 76)=Z/\y+3<=bf.heap.size/\Z.heap[y]?=some (.cells #[.slice ai n an,Ji H,Ji V,.bool W,Ji U,Ji X,Ji Y] 83 (0,0))/\Z.heap[y+1]?=some (.cells #[Ji 0,Ji J,Ji Q,Ji aQ] 152 (0,0))/\Z.heap[y+2]?=some (.cells #[Jn,Ji 0,Ji 0,.bool false,Ji 0,Ji 0,Ji 0] 83 (0,0))/\
  Z.heap[bf.heap.size]?=some (.cells #[Ji b3,Ji bN,.string (S b4)] 76 (0,0))/\bP (λD=>D<y+3) 76 3 (.slice ai n an) n (E.flatMap aU) Z/\Below y w Z/\Pow Z:=
  ⟨_,rfl,Jw ah.size,(T.block y Jo).trans az.o,(T.block (y+1) Jo).trans aL.o,(T.block (y+2) Jo).trans aS.o,heap_alloc_new _ _,aX.o.below T,aW.o.trans (T.mono Jo),a7.o.below T⟩
 have db:y+3<Z.heap.size:=by rw[<-cd];simp;omega
 have cK:bf.heap.size<Z.heap.size:=by rw[<-cd];simp
 obtain⟨cU,cL⟩:=Je bf.heap.size;rw[cL] at am cK cN;obtain⟨bA,bd⟩:Z.cell? (Jp cU 1)=some (Ji bN)/\True:=⟨by rw[aa am];rfl,trivial⟩;have b7:=Jh bb;have cr:=Jh ba;have cv:=Jh bc;have aY:=Jh K;have aZ:=Jh M;have a1:=Jh O;clear ah a8 T ad az aL aS aX aW a7 am bb ba bc cb cc be bg bh bi bj bk bl bm bn ao av ax bq bp bd;obtain⟨au,aC,aD,aE,aG,aH,aK,aw,bg,bh,bi,bj,bk,bl⟩:=oP K;obtain⟨aM,aN,aO,aP,bm,bn⟩:=Ly M;obtain⟨a7,a8,ba,bb,bc,bd,be,bp,bq,br,bt,bu,bv,bw⟩:=oP O;clear K M O;have T:=app0 (s:=⟨E,H,V,W,U,X,Y⟩) (e:=⟨0,J,Q,aQ⟩) rfl;simp only at T;have bF:=Jh T;clear T bA;have bD:=Jh (λw=>iE J 17179869183 w);have bE:=Jh (λw=>iE Q 1 w);rw[yR] at bD;rw[nG] at bE;by_cases bH:lW J;rotate_left
 ·exact lH bx.o.1 (bF.o.trans (rL λav=>bH av.1))
 rw[decide_eq_true bH] at bD;by_cases bI:kg Q;rotate_left
 ·exact lH bx.o.1 (bF.o.trans (rL λav=>bI av.2.1))
 rw[decide_eq_true bI] at bE;by_cases bJ:H<1099511627776;rotate_left
 ·exact lH bx.o.1 (bF.o.trans (rL λav=>bJ av.2.2))
 have b8:=Jh (show b9=(if W=true/\U=J then⟨jC ⟨J,Q,cE H⟩ (E.filter (kp J)),H+1,V,false,0,0,0⟩ else⟨jC ⟨J,Q,cE H⟩ (E.filter (kp J)),H+1,V,W,U,X,Y⟩,0) by rw[<-cx.o];exact kK (by rw[bF.o];exact Ez bH bI bJ));have a6:=BA J E;obtain⟨D,T⟩:=Je (jS J E);have cF:D<=n:=by rw[<-aT.o,<-T];exact a6
 obtain⟨cV,ah⟩:=Je (lk J E);have ad:=NR J ai an n E Z b7.o.rd aT.o Jo bT.o;rw[T,ah] at ad;have am:=Jh ad;have bU:=Jh (Ja T ah);have dw:decide (H<1099511627776)=true:=decide_eq_true bJ;have dr:IntKind.i64.wrap (H+1)=H+1:=by rw[aB];omega
 clear a6 T ah ad bJ bH bI;go_wp2_with fail;refine(bD.o _).mono ?_;rintro e cW ⟨rfl,rfl⟩;go_wp2_with fail;refine(bE.o _).mono ?_;rintro e cW ⟨rfl,rfl⟩;go_wp2_with fail;refine am.o.mono ?_;rintro e bA ⟨rfl,ao⟩;have ah:=b7.o.below ao;have cO:y+3<bA.heap.size:=Jw ao.size;have aX:=Jh (cr.o.trans (ao.mono Jo));have bL:=cv.o.below ao;have K:=(ao.block y Jo).trans aY.o;have M:=(ao.block (y+1) Jo).trans aZ.o;have O:=(ao.block (y+2) Jo).trans a1.o;clear au aC aD aE aG aH aK aM aN aO aP a7 a8 ba bb bc bd be aw bg bh bi bj bk bl bm bn bp bq br bt bu bv bw;obtain⟨au,aC,aD,aE,aG,aH,aK,aw,bg,bh,bi,bj,bk,bl⟩:=oP K;obtain⟨aM,aN,aO,aP,bm,bn⟩:=Ly M;obtain⟨a7,a8,ba,bb,bc,bd,be,bp,bq,br,bt,bu,bv,bw⟩:=oP O;have aY:=Jh K;have aZ:=Jh M;have a1:=Jh O;clear K M O;clear ao am bD bE;cases cV with
 |true=>exact absurd (bU.o.2.symm.trans (QX bx.o.2.2)) Jd
 |false=>
  have am:∀b5∈E,b5.Day≠J:=λb5 cP e=>by
   obtain⟨bK,ax⟩:=(Bg bT.o).1 ⟨b5,cP,e⟩;have T:=bU.o.2;unfold lk at T;rw[dif_pos bK,ax] at T;simp at T
  have cI:jC ⟨J,Q,cE H⟩ (E.filter (kp J))=(E.take D ++ p0 :: E.drop D).set D ⟨J,Q,cE H⟩:=by
   have ax:=JJ (p:=⟨J,Q,cE H⟩) bT.o am;simp only[bU.o.1] at ax;refine Eq.trans ax ?_;rw[List.set_append_right _ _ (by rw[aF];omega)];have T:D - (E.take D).length=0:=by rw[aF,aT.o];omega
   rw[T,bG]
  have ad:=Below.one bA (.cells #[Ji 0,Ji 0,.string ⟨#[]⟩] 76);have cJ:n<=an:=by
   rcases dx n with av|av
   ·omega
   obtain⟨_,_,ax,_⟩:=ah.own av;exact ax
  have aS:=Jh (Gq (y+3) ai an n D bA.heap.size E (bA.alloc (.cells #[Ji 0,Ji 0,.string ⟨#[]⟩] 76)) (by simp;omega) (ah.below ad) aT.o Jo cF (heap_alloc_new _ _) (λT az=>Jw ((ah.1.lt T az).2)) cJ);have dp:min (D:Int) (n:Int)=D:=Jo;have dq:(if(n:Int)<(D:Int) then(n:Int) else(D:Int))=D:=by split<;>omega
  clear am;go_wp2_with fail;refine aS.o.mono ?_;rintro e bC ⟨bS,aL,rfl,bQ,aW⟩;have am:Below (y+3) bA bC:=(ad.mono Jo).trans aW;have ce:=bL.later am.size (am.block _ Jo);have az:=Jh (aX.o.trans (am.mono Jo));have dl:=am.size;clear ah aS ad aW bL aX;have K:=(am.block y Jo).trans aY.o;have M:=(am.block (y+1) Jo).trans aZ.o;have O:=(am.block (y+2) Jo).trans a1.o;clear au aC aD aE aG aH aK aM aN aO aP a7 a8 ba bb bc bd be aw bg bh bi bj bk bl bm bn bp bq br bt bu bv bw;obtain⟨cb,-,-,-,-,-,-,dz,-,-,-,-,-,-⟩:=oP K;obtain⟨ad,c8,dm,bO,bK,ax,ah,aX,bL⟩:∃ad,bC.setCell (Jp y 0) (.slice bS (n+1) aL)=ad/\ad.heap.size=bC.heap.size/\ad.heap[y]?=some (.cells #[.slice bS (n+1) aL,Ji H,Ji V,.bool W,Ji U,Ji X,Ji Y] 83 (0,0))/\ad.heap[y+1]?=bC.heap[y+1]?/\ad.heap[y+2]?=bC.heap[y+2]?/\bP (λD=>D<y+3) 76 3 (.slice bS (n+1) aL) (n+1) ((E.take D ++ p0 :: E.drop D).flatMap aU) ad/\Below y w ad/\Pow ad:=
   ⟨_,rfl,by simp[aj],by simp[aj,aA,K],ae _ _ _ _ Js,ae _ _ _ _ Js,fW bQ (show y<y+3 by omega) 0 _,az.o.setCell (p:=(Jp y 0)) (ac y) _,ce.later (by simp[aj]) (ae _ _ _ _ (by simp only;omega))⟩
  have aS:=bK.trans M;have aW:=ax.trans O;have aX:=Jh aX;clear K M O bK ax bQ am ce az;have K:=bO;have M:=aS;have O:=aW;clear bO aS aW;obtain⟨au,aC,aD,aE,aG,aH,aK,aw,bg,bh,bi,bj,bk,bl⟩:=oP K;obtain⟨aM,aN,aO,aP,bm,bn⟩:=Ly M;obtain⟨a7,a8,ba,bb,bc,bd,be,bp,bq,br,bt,bu,bv,bw⟩:=oP O;have aY:=Jh K;have aZ:=Jh M;have a1:=Jh O;clear K M O;have cg:D<(E.take D ++ p0 :: E.drop D).length:=by rw[ab,aF,ak,bo,aT.o];omega
  have cH:(E.take D ++ p0 :: E.drop D).length=n+1:=by rw[ab,aF,ak,bo,aT.o];omega
  have cG:D<n+1:=Jo;have cO:y+3<ad.heap.size:=Jo;obtain⟨T,rfl,-,-⟩:=ah.own Jo;obtain⟨cz,cQ,am,df,aW,bO,bQ⟩:=mh ah.rd (i:=D) cg;obtain⟨rfl,rfl⟩:T=cz/\0=cQ:=by simpa using am
  simp only[bB] at aW bO bQ;have cm:=ah.cell (D*3);have cn:=ah.cell (D*3+1);have co:=ah.cell (D*3+2);generalize (E.take D ++ p0 :: E.drop D)[D]=du at aW bO bQ;have dh:(D:Int)<(((n+1):Nat):Int):=Jo;have di:(D:Int)<(n:Int)+1:=Jo;have dj:D<(n+1):=cG;have dg:y+3<=T:=Nat.not_lt.1 λa6=>ah.2 T rfl a6;have b0:¬y=T:=Jo;have b1:¬y+1=T:=Jo;have b2:¬T=y:=Jo;have ds:¬T=y+1:=Jo;have dt:¬y+2=T:=Jo;have ct:=Jh (λaf(av:Below ad.heap.size ad af)=>xB H Jo af (bL.below av));clear am;go_wp2_with fail;go_region_held3 (λaf=>af.cell? (Jp y 0)=some (.slice (some (Jp T 0)) (n+1) aL)/\af.cell? (Jp y 1)=some (Ji H)/\af.cell? (Jp (y+1) 1)=some (Ji J)/\af.cell? (Jp (y+1) 2)=some (Ji Q))
   (first|go_keep|(go_split_ands;refine⟨?_,?_,?_,?_⟩<;>(refine al am ?_;first|assumption|go_keep))|(go_split_ands;refine⟨?_,?_,?_,?_⟩<;>(go_simp;first|done|assumption)))
   (first|(go_at_call 92;refine(ct.o _ (by first|exact ag _ _|exact(ag _ _).drew|exact below_drewN (ag _ _) _)).mono ?_;rintro e aS ⟨rfl,am⟩;have af:=am.h;have cR:=al af aW;have cS:=al af bO;have cT:=al af bQ;have cX:=uE af aW cm;have cY:=uE af aW cn;have cZ:=uE af aW co))
  have ci:=ah.below af;have ce:Below y w aS:=aX.o.trans (af.mono Jo);have dn:=af.size;have K:=(af.block y Jo).trans aY.o;have M:=(af.block (y+1) Jo).trans aZ.o;have O:=(af.block (y+2) Jo).trans a1.o;clear au aC aD aE aG aH aK aM aN aO aP a7 a8 ba bb bc bd be aw bg bh bi bj bk bl bm bn bp bq br bt bu bv bw;obtain⟨-,cc,-,-,-,-,-,-,dA,-,-,-,-,-⟩:=oP K;obtain⟨am,da,dd,K,M,O,ck,cf⟩:∃am,((aS.setCell (Jp T (D*3)) (Ji J)).setCell (Jp T (D*3+1)) (Ji Q)).setCell (Jp T (D*3+2)) (.string (S (cE H)))=am/\y+3<am.heap.size/\am.heap[y]?=aS.heap[y]?/\am.heap[y+1]?=aS.heap[y+1]?/\am.heap[y+2]?=aS.heap[y+2]?/\pZ (y+3) (some (Jp T 0)) ((n+1)) (((E.take D ++ p0 :: E.drop D)).set D ⟨J,Q,cE H⟩) am/\Below y w am:=by
   refine⟨_,rfl,by simp[aj];omega,?_,?_,?_,?_,?_⟩
   ·exact(ae _ _ _ _ (by simp only;omega)).trans ((ae _ _ _ _ (by simp only;omega)).trans (ae _ _ _ _ (by simp only;omega)))
   ·exact(ae _ _ _ _ (by simp only;omega)).trans ((ae _ _ _ _ (by simp only;omega)).trans (ae _ _ _ _ (by simp only;omega)))
   ·exact(ae _ _ _ _ (by simp only;omega)).trans ((ae _ _ _ _ (by simp only;omega)).trans (ae _ _ _ _ (by simp only;omega)))
   ·refine pZ.of (c:=aL) ?_ (by rw[fk];exact cH);rw[<-AF D ((E.take D ++ p0 :: E.drop D)) ⟨J,Q,cE H⟩ cg];exact((ci.store _).store _).store _
   exact((ce.setCell (p:=(Jp T (D*3))) (by simp only;omega) _).setCell (p:=(Jp T (D*3+1))) (by simp only;omega) _).setCell (p:=(Jp T (D*3+2))) (by simp only;omega) _
  have ap:=K.trans (by assumption:aS.heap[y]?=some _);have ay:=M.trans (by assumption:aS.heap[y+1]?=some _);have aR:=O.trans (by assumption:aS.heap[y+2]?=some _);clear K M O;obtain⟨-,dy,-,-,-,-,-,-,dB,-,-,-,-,-⟩:=oP ap;obtain⟨az,c6,dc,K,M,O,cj,ao⟩:∃az,am.setCell (Jp y 1) (Ji (H+1))=az/\y+3<az.heap.size/\az.heap[y]?=some (.cells #[.slice (some (Jp T 0)) ((n+1)) aL,Ji (H+1),Ji V,.bool W,Ji U,Ji X,Ji Y] 83 (0,0))/\az.heap[y+1]?=am.heap[y+1]?/\az.heap[y+2]?=am.heap[y+2]?/\pZ (y+3) (some (Jp T 0)) ((n+1)) (((E.take D ++ p0 :: E.drop D)).set D ⟨J,Q,cE H⟩) az/\Below y w az:=
   ⟨_,rfl,by simp[aj];omega,by simp[aj,aA,ap],ae _ _ _ _ Js,ae _ _ _ _ Js,ck.set Jo _,cf.setCell (p:=(Jp y 1)) Js _⟩
  have M:=M.trans ay;have O:=O.trans aR;rw[cI] at b8;obtain⟨au,aC,aD,aE,aG,aH,aK,aw,bg,bh,bi,bj,bk,bl⟩:=oP K;obtain⟨aM,aN,aO,aP,bm,bn⟩:=Ly M;obtain⟨a7,a8,ba,bb,bc,bd,be,bp,bq,br,bt,bu,bv,bw⟩:=oP O;have aY:=Jh K;have aZ:=Jh M;have a1:=Jh O;clear K M O;have cu:=Jh cj;have cq:=Jh ao;clear cj ao ck cf ci ce cR cS cT cX cY cZ aW bO bQ cm cn co ap ay aR;cases W with
  |false=>
   have aW:=Jh (show b9=(⟨((E.take D ++ p0 :: E.drop D)).set D ⟨J,Q,cE H⟩,H+1,V,false,U,X,Y⟩,0) by rw[b8.o,if_neg Js]);go_wp2_with fail;refine bodyPost_ret (v:=.tuple #[dH ((some (Jp T 0))) ((n+1)) (aL) ⟨((E.take D ++ p0 :: E.drop D)).set D ⟨J,Q,cE H⟩,H+1,V,false,U,X,Y⟩,Ji 0]) (by rw[results_cell_tmp rfl];go_simp;rfl) rfl ⟨(some (Jp T 0)),(n+1),aL,by rw[aW.o];rfl,?_,?_⟩
   ·rw[aW.o,b6.o];exact(((((((cu.o.set (b:=y+2) (j:=0) Jo _).set (b:=y+2) (j:=1) Jo _).set (b:=y+2) (j:=2) Jo _).set (b:=y+2) (j:=3) Jo _).set (b:=y+2) (j:=4) Jo _).set (b:=y+2) (j:=5) Jo _).set (b:=y+2) (j:=6) Jo _).mono Jo
   rw[b6.o];exact(((((((cq.o.setCell (p:=(Jp (y+2) 0)) Js _).setCell (p:=(Jp (y+2) 1)) Js _).setCell (p:=(Jp (y+2) 2)) Js _).setCell (p:=(Jp (y+2) 3)) Js _).setCell (p:=(Jp (y+2) 4)) Js _).setCell (p:=(Jp (y+2) 5)) Js _).setCell (p:=(Jp (y+2) 6)) Js _)
  |true=>exact absurd bx.o.2.1 Jd
theorem Nn {d:Int}{P:List bL}(E:oU P){x:bL}(H:x∈P)(e:x.Day=d):lk d P=true:=by
 obtain⟨y,D⟩:=(Bg E).1 ⟨x,H,e⟩;unfold lk;rw[dif_pos y,D];simp
theorem PO (A:JA)(n c:Nat)(s:St)(e:Ed)(w:JW)(hr:Rd w 3 A n (s.Parts.flatMap aU))(be:s.Parts.length=n)(ec:n<=100000)(ce:oU s.Parts)(cZ:0<=s.Next)(c1:s.Next<=1099511627776)(cX:0<=s.Done)(cY:s.Done<=5000)(cm:Pow w)(a7:e.Kind=5)(ct:∃t,ep s e=some t)(ck:∃p∈s.Parts,p.Day=s.Day):
 JC 70 #[dH A n c s,nh e] w (FB (sX s e) w.heap.size w):=by
 obtain⟨y,aF⟩:=Je w.heap.size;obtain⟨K,E,U,Z,D,H,V⟩:=s;obtain⟨cU,ab,ao,ak⟩:=e;obtain rfl:cU=5:=a7;simp only at ct ck hr be ce cZ c1 cX cY;have aN:=Jh (Ja ct ck);obtain⟨b8,cc⟩:=Je (sX ⟨K,E,U,Z,D,H,V⟩ ⟨5,ab,ao,ak⟩);rw[cc];have cP:=Jh cc;have dL:=Jh (λaq dw=>fw ab A c n ⟨K,E,U,Z,D,H,V⟩ aq dw be Jo);unfold dH nh;simp only;obtain⟨ah,dA,dy,cg,ax,ay,ba⟩:∃ah,((w.alloc (.cells #[.slice A n c,Ji E,Ji U,.bool Z,Ji D,Ji H,Ji V] 83)).alloc (.cells #[Ji 5,Ji ab,Ji ao,Ji ak] 152)).alloc (.cells #[Jn,Ji 0,Ji 0,.bool false,Ji 0,Ji 0,Ji 0] 83)=ah/\ah.heap.size=y+3/\Below y w ah
  /\ah.heap[y]?=some (.cells #[.slice A n c,Ji E,Ji U,.bool Z,Ji D,Ji H,Ji V] 83 (0,0))/\ah.heap[y+1]?=some (.cells #[Ji 5,Ji ab,Ji ao,Ji ak] 152 (0,0))/\ah.heap[y+2]?=some (.cells #[Jn,Ji 0,Ji 0,.bool false,Ji 0,Ji 0,Ji 0] 83 (0,0)):=by
  have bV:=heap_alloc_new w (.cells #[.slice A n c,Ji E,Ji U,.bool Z,Ji D,Ji H,Ji V] 83);have bW:=heap_alloc_new (w.alloc (.cells #[.slice A n c,Ji E,Ji U,.bool Z,Ji D,Ji H,Ji V] 83)) (.cells #[Ji 5,Ji ab,Ji ao,Ji ak] 152);have bX:=heap_alloc_new ((w.alloc (.cells #[.slice A n c,Ji E,Ji U,.bool Z,Ji D,Ji H,Ji V] 83)).alloc (.cells #[Ji 5,Ji ab,Ji ao,Ji ak] 152)) (.cells #[Jn,Ji 0,Ji 0,.bool false,Ji 0,Ji 0,Ji 0] 83);simp only[aI,aF,aV,bM] at bV bW bX;refine⟨_,rfl,by simp[aF],?_,?_,?_,bX⟩
  ·subst aF;exact(((ag _ _).alloc (ac _) _).alloc Js _).alloc (by simp;omega) _
  ·exact(aJ _ _ _ (by simp;omega)).trans ((aJ _ _ _ (by simp;omega)).trans bV)
  exact(aJ _ _ _ (by simp;omega)).trans bW
 have d5:2<y:=aF▸cm.2;have ci:Below w.heap.size w ah:=aF▸cg;have cr:=hr.below ci;have cL:=Jh (cm.below ci);have cH:=Jh (ox A c n K ah cr be Jo);have dN:=Jh cr;have aO:=Jh be;have b4:=Jh aF;have cB:=Jh cg;have bN:=Jh ce;obtain⟨aE,-,-,-,-,-,-,aM,-,-,-,-,-,-⟩:=oP ax;have cQ:=Jh ax;have cR:=Jh ay;have cS:=Jh ba;go_enter Tryz.func70,Tryz.ntmps70;go_wp2_with fail;try simp only[dA]
 refine cH.o.mono ?_;rintro e bn ⟨Y,W,rfl,cl,aG⟩;have ax:=(aG.block y Jo).trans cQ.o;have ay:=(aG.block (y+1) Jo).trans cR.o;have ba:=(aG.block (y+2) Jo).trans cS.o;obtain⟨aE,aP,aQ,aR,aS,aT,aW,aM,-,-,-,-,-,-⟩:=oP ax;obtain⟨aX,aY,aZ,a1,-⟩:=four ay;have ef:y+3<=bn.heap.size:=Jw aG.size;rw[dy] at cl;have d4:Below ah.heap.size ah (bn.setCell (Jp y 0) (.slice Y n W))->True:=λ_=>trivial;obtain⟨ai,dB,ed,Q,M,T,bd,dc,dp,dx⟩:∃ai,bn.setCell (Jp y 0) (.slice Y n W)=ai/\ai.heap.size=bn.heap.size/\ai.heap[y]?=some (.cells #[.slice Y n W,Ji E,Ji U,.bool Z,Ji D,Ji H,Ji V] 83 (0,0))/\ai.heap[y+1]?=some (.cells #[Ji 5,Ji ab,Ji ao,Ji ak] 152 (0,0))/\ai.heap[y+2]?=some (.cells #[Jn,Ji 0,Ji 0,.bool false,Ji 0,Ji 0,Ji 0] 83 (0,0))/\
  bP (λJ=>J<y+3) 76 3 (.slice Y n W) n (K.flatMap aU) ai/\Below y w ai/\Pow ai/\Rd ai 3 Y n (K.flatMap aU):=by
  have bd:=fW cl (show y<y+3 by omega) 0 (.slice Y n W);exact⟨_,rfl,by simp[aj],by simp[aj,aA,ax],(ae _ _ _ _ Js).trans ay,(ae _ _ _ _ Js).trans ba,bd,(cB.o.trans (aG.mono Jo)).setCell (p:=(Jp y 0)) (ac y) _,(cL.o.below aG).later (by simp[aj]) (ae _ _ _ _ (by simp only;omega)),bd.rd⟩
 obtain⟨dO,cT,dP,dQ,dR,dS,dT,-⟩:=seven Q;obtain⟨dU,dV,dW,dX,-⟩:=four M;have bH:=Jh (fw ab Y W n ⟨K,E,U,Z,D,H,V⟩ ai dx aO.o Jo);unfold dH at bH;simp only at bH;have cJ:=Jh bd;have cC:=Jh dc;have cM:=Jh dp;have cx:=Jh Q;have cy:=Jh M;have cz:=Jh T;go_wp2_with fail;try simp only[dB]
 refine bH.o.mono ?_;rintro e aL ⟨rfl,bT⟩;obtain⟨cv,cn⟩:=Je (eh K ab);rw[cn];obtain⟨p,co⟩:=Je (cv.getD p0);obtain⟨em,cq⟩:=Je cv.isSome;rw[co,cq];have dM:=Jh (Ja cn (Ja co cq));obtain⟨bY,bf,bZ⟩:=p;unfold fL;simp only;have dd:=Below.one aL (.cells #[Ji bY,Ji bf,.string (S bZ)] 76);have aH:=bT.trans (dd.mono bT.size);obtain⟨X,cd,dz,Q,M,T,b9,dj,de,dq⟩:∃X,aL.alloc (.cells #[Ji bY,Ji bf,.string (S bZ)] 76)=X/\y+3<=aL.heap.size/\X.heap[y]?=some (.cells #[.slice Y n W,Ji E,Ji U,.bool Z,Ji D,Ji H,Ji V] 83 (0,0))/\X.heap[y+1]?=some (.cells #[Ji 5,Ji ab,Ji ao,Ji ak] 152 (0,0))/\X.heap[y+2]?=some (.cells #[Jn,Ji 0,Ji 0,.bool false,Ji 0,Ji 0,Ji 0] 83 (0,0))/\
  X.heap[aL.heap.size]?=some (.cells #[Ji bY,Ji bf,.string (S bZ)] 76 (0,0))/\bP (λJ=>J<y+3) 76 3 (.slice Y n W) n (K.flatMap aU) X/\Below y w X/\Pow X:=
  ⟨_,rfl,Jw bT.size,(aH.block y Jo).trans cx.o,(aH.block (y+1) Jo).trans cy.o,(aH.block (y+2) Jo).trans cz.o,heap_alloc_new _ _,cJ.o.below aH,cC.o.trans (aH.mono Jo),cM.o.below aH⟩
 have c8:y+3<X.heap.size:=by rw[<-cd];simp;omega
 have du:aL.heap.size<X.heap.size:=by rw[<-cd];simp
 obtain⟨dE,dv⟩:=Je aL.heap.size;rw[dv] at b9 du dz;obtain⟨dY,dZ⟩:X.cell? (Jp dE 1)=some (Ji bf)/\True:=⟨by rw[aa b9];rfl,trivial⟩;have bb:=Jh dj;have bG:=Jh de;have bJ:=Jh dq;have ar:=Jh Q;have au:=Jh M;have av:=Jh T;obtain⟨aE,aP,aQ,aR,aS,aT,aW,aM,bo,bp,bq,br,bt,bu⟩:=oP Q;obtain⟨aX,aY,aZ,a1,bv,bw⟩:=Ly M;obtain⟨bg,bh,bi,bj,bk,bl,bm,bx,bz,bA,bC,bD,bE,bF⟩:=oP T;have cf:=Wv (s:=⟨K,E,U,Z,D,H,V⟩) (e:=⟨5,ab,ao,ak⟩) rfl;simp only at cf;have b7:=Jh cf;cases Z with
 |false=>exact lH aN.o.1 (b7.o.trans rfl)
 |true=>
  have bc:=Jh (show ep ⟨K,E,U,true,D,H,V⟩ ⟨5,ab,ao,ak⟩=rS ⟨K,E,U,true,D,H,V⟩ D H from b7.o);obtain⟨X,c6,da,Q,M,T,di,db,dn⟩:∃aw,((X.setCell (Jp (y+1) 1) (Ji D)).setCell (Jp (y+1) 2) (Ji H)).drew=aw/\y+3<aw.heap.size/\aw.heap[y]?=some (.cells #[.slice Y n W,Ji E,Ji U,.bool true,Ji D,Ji H,Ji V] 83 (0,0))/\aw.heap[y+1]?=some (.cells #[Ji 5,Ji D,Ji H,Ji ak] 152 (0,0))/\aw.heap[y+2]?=some (.cells #[Jn,Ji 0,Ji 0,.bool false,Ji 0,Ji 0,Ji 0] 83 (0,0))/\
   bP (λJ=>J<y+3) 76 3 (.slice Y n W) n (K.flatMap aU) aw/\Below y w aw/\Pow aw:=by
   have ay:=au.o;refine⟨_,rfl,by simp[aj,World.drew];omega,?_,?_,?_,?_,?_,?_⟩
   ·exact(ae _ _ _ _ Js).trans ((ae _ _ _ _ Js).trans ar.o)
   ·show((X.setCell (Jp (y+1) 1) (Ji D)).setCell (Jp (y+1) 2) (Ji H)).heap[y+1]?=_;simp[aj,aA,ay]
   ·exact(ae _ _ _ _ Js).trans ((ae _ _ _ _ Js).trans av.o)
   ·exact fW (fW bb.o (show y+1<y+3 by omega) 1 _) (show y+1<y+3 by omega) 2 _
   ·exact((bG.o.setCell (p:=(Jp (y+1) 1)) Js _).setCell (p:=(Jp (y+1) 2)) Js _).drew
   exact bJ.o.later (by simp[aj,World.drew]) ((ae _ _ _ _ (by simp only;omega)).trans (ae _ _ _ _ (by simp only;omega)))
  go_wp2_with fail;go_region;all_goals
   try simp only[c6]
   obtain⟨aE,aP,aQ,aR,aS,aT,aW,aM,bo,bp,bq,br,bt,bu⟩:=oP Q;obtain⟨aX,aY,aZ,a1,bv,bw⟩:=Ly M;obtain⟨bg,bh,bi,bj,bk,bl,bm,bx,bz,bA,bC,bD,bE,bF⟩:=oP T;have ar:=Jh Q;have au:=Jh M;have av:=Jh T;have bb:=Jh di;have bG:=Jh db;have bJ:=Jh dn;have c8:=da;have bK:=Jh (λw=>iE D 17179869183 w);have bL:=Jh (λw=>iE H 1 w);rw[yR] at bK;rw[nG] at bL;by_cases bO:lW D;rotate_left
   ·exact lH aN.o.1 (bc.o.trans (rL λam=>bO am.1))
   rw[decide_eq_true bO] at bK;by_cases bQ:kg H;rotate_left
   ·exact lH aN.o.1 (bc.o.trans (rL λam=>bQ am.2.1))
   rw[decide_eq_true bQ] at bL;by_cases bR:E<1099511627776;rotate_left
   ·exact lH aN.o.1 (bc.o.trans (rL λam=>bR am.2.2))
   have b6:=Jh (show b8=(if true=true/\D=D then⟨jC ⟨D,H,cE E⟩ (K.filter (kp D)),E+1,U,false,0,0,0⟩ else⟨jC ⟨D,H,cE E⟩ (K.filter (kp D)),E+1,U,true,D,H,V⟩,0) by rw[<-cP.o];exact kK (by rw[bc.o];exact Ez bO bQ bR));have a7:=BA D K;obtain⟨J,bU⟩:=Je (jS D K);have eb:J<=n:=by rw[<-aO.o,<-bU];exact a7
   obtain⟨dF,cu⟩:=Je (lk D K);have b3:=NR D Y W n K X bb.o.rd aO.o Jo bN.o;rw[bU,cu] at b3;have cA:=Jh b3;have aC:=Jh (Ja bU cu);have er:decide (E<1099511627776)=true:=decide_eq_true bR;have ei:IntKind.i64.wrap (E+1)=E+1:=by rw[aB];omega
   go_wp2_with fail;refine(bK.o _).mono ?_;rintro e dG ⟨rfl,rfl⟩;go_wp2_with fail;refine(bL.o _).mono ?_;rintro e dG ⟨rfl,rfl⟩;go_wp2_with fail;refine cA.o.mono ?_;rintro e b2 ⟨rfl,ap⟩;have aD:=bb.o.below ap;have eg:y+3<b2.heap.size:=Jw ap.size;have cF:=Jh (bG.o.trans (ap.mono Jo));have dr:=bJ.o.below ap;have Q:=(ap.block y Jo).trans ar.o;have M:=(ap.block (y+1) Jo).trans au.o;have T:=(ap.block (y+2) Jo).trans av.o;obtain⟨aE,aP,aQ,aR,aS,aT,aW,aM,bo,bp,bq,br,bt,bu⟩:=oP Q;obtain⟨aX,aY,aZ,a1,bv,bw⟩:=Ly M;obtain⟨bg,bh,bi,bj,bk,bl,bm,bx,bz,bA,bC,bD,bE,bF⟩:=oP T;have ar:=Jh Q;have au:=Jh M;have av:=Jh T;cases dF with
   |true=>
    have a8:J<K.length:=by
     have:=aC.o.2;unfold lk at this;split at this
     ·rename_i am;rw[aC.o.1] at am;exact am
     cases this
    have dh:J<n:=by rw[<-aO.o];exact a8
    have dl:=aO.o;have dm:jC ⟨D,H,cE E⟩ (K.filter (kp D))=K.set J ⟨D,H,cE E⟩:=by
     have bS:=aC.o.2;unfold lk at bS;rw[dif_pos (by rw[aC.o.1];exact a8)] at bS;have cb:=JL (p:=⟨D,H,cE E⟩) bN.o (by simp only;rw[aC.o.1];exact a8) (by simpa using bS);simp only[aC.o.1] at cb;exact cb
    obtain⟨O,rfl,-,-⟩:=aD.own Jo;obtain⟨cV,dD,cW,d6,aK,b0,b1⟩:=mh aD.rd (i:=J) a8;obtain⟨rfl,rfl⟩:O=cV/\0=dD:=by simpa using cW
    simp only[bB] at aK b0 b1;have dI:=aD.cell (J*3);have dJ:=aD.cell (J*3+1);have dK:=aD.cell (J*3+2);generalize K[J]=el at aK b0 b1;have d8:(J:Int)<((n:Nat):Int):=Jo;have d9:(J:Int)<(n:Int)+1:=Jo;have ea:J<n:=dh;have d7:y+3<=O:=Nat.not_lt.1 λa7=>aD.2 O rfl a7;have bV:¬y=O:=Jo;have bW:¬y+1=O:=Jo;have bX:¬O=y:=Jo;have ej:¬O=y+1:=Jo;have ek:¬y+2=O:=Jo;have cI:=Jh (λaq(am:Below b2.heap.size b2 aq)=>xB E Jo aq (dr.below am));go_wp2_with fail;go_region_held3 (λaq=>aq.cell? (Jp y 0)=some (.slice (some (Jp O 0)) n W)/\aq.cell? (Jp y 1)=some (Ji E)/\aq.cell? (Jp (y+1) 1)=some (Ji D)/\aq.cell? (Jp (y+1) 2)=some (Ji H))
     (first|go_keep|(go_split_ands;refine⟨?_,?_,?_,?_⟩<;>(refine al cj ?_;first|assumption|go_keep))|(go_split_ands;refine⟨?_,?_,?_,?_⟩<;>(go_simp;first|done|assumption)))
     (first|(go_at_call 92;refine(cI.o _ (by first|exact ag _ _|exact(ag _ _).drew|exact below_drewN (ag _ _) _)).mono ?_;rintro e az ⟨rfl,cj⟩;have ad:=cj.h;have en:=al ad aK;have eo:=al ad b0;have eq:=al ad b1;have ev:=uE ad aK dI;have ew:=uE ad aK dJ;have ey:=uE ad aK dK))
    have dk:=aD.below ad;have df:Below y w az:=cF.o.trans (ad.mono Jo);have ee:=ad.size;have Q:=(ad.block y Jo).trans ar.o;have M:=(ad.block (y+1) Jo).trans au.o;have T:=(ad.block (y+2) Jo).trans av.o;obtain⟨-,cT,-,-,-,-,-,-,ez,-,-,-,-,-⟩:=oP Q;obtain⟨af,d1,d3,Q,M,T,dt,dg⟩:∃af,((az.setCell (Jp O (J*3)) (Ji D)).setCell (Jp O (J*3+1)) (Ji H)).setCell (Jp O (J*3+2)) (.string (S (cE E)))=af/\y+3<af.heap.size/\af.heap[y]?=az.heap[y]?/\af.heap[y+1]?=az.heap[y+1]?/\af.heap[y+2]?=az.heap[y+2]?/\pZ (y+3) (some (Jp O 0)) (n) ((K).set J ⟨D,H,cE E⟩) af/\Below y w af:=by
     refine⟨_,rfl,by simp[aj];omega,?_,?_,?_,?_,?_⟩
     ·exact(ae _ _ _ _ (by simp only;omega)).trans ((ae _ _ _ _ (by simp only;omega)).trans (ae _ _ _ _ (by simp only;omega)))
     ·exact(ae _ _ _ _ (by simp only;omega)).trans ((ae _ _ _ _ (by simp only;omega)).trans (ae _ _ _ _ (by simp only;omega)))
     ·exact(ae _ _ _ _ (by simp only;omega)).trans ((ae _ _ _ _ (by simp only;omega)).trans (ae _ _ _ _ (by simp only;omega)))
     ·refine pZ.of (c:=W) ?_ (by rw[fk];exact dl);rw[<-AF J (K) ⟨D,H,cE E⟩ a8];exact((dk.store _).store _).store _
     exact((df.setCell (p:=(Jp O (J*3))) (by simp only;omega) _).setCell (p:=(Jp O (J*3+1))) (by simp only;omega) _).setCell (p:=(Jp O (J*3+2))) (by simp only;omega) _
    have ax:=Q.trans (by assumption:az.heap[y]?=some _);have ay:=M.trans (by assumption:az.heap[y+1]?=some _);have ba:=T.trans (by assumption:az.heap[y+2]?=some _);obtain⟨-,es,-,-,-,-,-,-,eA,-,-,-,-,-⟩:=oP ax;obtain⟨an,d0,d2,Q,M,T,ds,ap⟩:∃an,af.setCell (Jp y 1) (Ji (E+1))=an/\y+3<an.heap.size/\an.heap[y]?=some (.cells #[.slice (some (Jp O 0)) (n) W,Ji (E+1),Ji U,.bool true,Ji D,Ji H,Ji V] 83 (0,0))/\an.heap[y+1]?=af.heap[y+1]?/\an.heap[y+2]?=af.heap[y+2]?/\pZ (y+3) (some (Jp O 0)) (n) ((K).set J ⟨D,H,cE E⟩) an/\Below y w an:=
     ⟨_,rfl,by simp[aj];omega,by simp[aj,aA,ax],ae _ _ _ _ Js,ae _ _ _ _ Js,dt.set Jo _,dg.setCell (p:=(Jp y 1)) Js _⟩
    have M:=M.trans ay;have T:=T.trans ba;rw[dm] at b6;obtain⟨aE,aP,aQ,aR,aS,aT,aW,aM,bo,bp,bq,br,bt,bu⟩:=oP Q;obtain⟨aX,aY,aZ,a1,bv,bw⟩:=Ly M;obtain⟨bg,bh,bi,bj,bk,bl,bm,bx,bz,bA,bC,bD,bE,bF⟩:=oP T;have ar:=Jh Q;have au:=Jh M;have av:=Jh T;have cN:=Jh ds;have cD:=Jh ap;have u1:(D == D)=true:=beq_iff_eq.2 rfl;have b5:=Jh (show b8=(⟨(K).set J ⟨D,H,cE E⟩,E+1,U,false,0,0,0⟩,0) by rw[b6.o,if_pos Js]);have bI:=SV ((some (Jp O 0))) (n) W ⟨(K).set J ⟨D,H,cE E⟩,E+1,U,true,D,H,V⟩ an;unfold dH Eu at bI;simp only at bI;have cK:=Jh bI;go_wp2_with fail;refine cK.o.mono ?_;rintro e et ⟨rfl,a6⟩;have Q:=(a6.block y Jo).trans ar.o;have M:=(a6.block (y+1) Jo).trans au.o;have T:=(a6.block (y+2) Jo).trans av.o;obtain⟨aE,aP,aQ,aR,aS,aT,aW,aM,bo,bp,bq,br,bt,bu⟩:=oP Q;obtain⟨aX,aY,aZ,a1,bv,bw⟩:=Ly M;obtain⟨bg,bh,bi,bj,bk,bl,bm,bx,bz,bA,bC,bD,bE,bF⟩:=oP T;have ar:=Jh Q;have au:=Jh M;have av:=Jh T;have cO:=Jh (cN.o.below a6);have cG:=Jh (cD.o.trans (a6.mono Jo));go_wp2_with fail;refine bodyPost_ret (v:=.tuple #[dH ((some (Jp O 0))) (n) (W) ⟨(K).set J ⟨D,H,cE E⟩,E+1,U,false,0,0,0⟩,Ji 0]) (by rw[results_cell_tmp rfl];go_simp;rfl) rfl ⟨(some (Jp O 0)),n,W,by rw[b5.o];rfl,?_,?_⟩
    ·rw[b5.o,b4.o];exact((((((((((((((cO.o.set (b:=y) (j:=0) Jo _).set (b:=y) (j:=1) Jo _).set (b:=y) (j:=2) Jo _).set (b:=y) (j:=3) Jo _).set (b:=y) (j:=4) Jo _).set (b:=y) (j:=5) Jo _).set (b:=y) (j:=6) Jo _).set (b:=y+2) (j:=0) Jo _).set (b:=y+2) (j:=1) Jo _).set (b:=y+2) (j:=2) Jo _).set (b:=y+2) (j:=3) Jo _).set (b:=y+2) (j:=4) Jo _).set (b:=y+2) (j:=5) Jo _).set (b:=y+2) (j:=6) Jo _).mono Jo
    rw[b4.o];exact((((((((((((((cG.o.setCell (p:=(Jp y 0)) Js _).setCell (p:=(Jp y 1)) Js _).setCell (p:=(Jp y 2)) Js _).setCell (p:=(Jp y 3)) Js _).setCell (p:=(Jp y 4)) Js _).setCell (p:=(Jp y 5)) Js _).setCell (p:=(Jp y 6)) Js _).setCell (p:=(Jp (y+2) 0)) Js _).setCell (p:=(Jp (y+2) 1)) Js _).setCell (p:=(Jp (y+2) 2)) Js _).setCell (p:=(Jp (y+2) 3)) Js _).setCell (p:=(Jp (y+2) 4)) Js _).setCell (p:=(Jp (y+2) 5)) Js _).setCell (p:=(Jp (y+2) 6)) Js _)
   |false=>
    obtain⟨eu,dC,e⟩:=aN.o.2;exact absurd (aC.o.2.symm.trans (Nn bN.o dC e)) Jd
theorem PL (A:JA)(n c:Nat)(s:St)(e:Ed)(w:JW)(hr:Rd w 3 A n (s.Parts.flatMap aU))(al:s.Parts.length=n)(bT:n<=100000)(au:oU s.Parts)(bw:0<=s.Next)(bx:s.Next<=1099511627776)(bu:0<=s.Done)(bv:s.Done<=5000)(av:Pow w)(bz:e.Kind=2)(az:ep s e=none):
 JC 70 #[dH A n c s,nh e] w (FB (sX s e) w.heap.size w):=by
 obtain⟨y,E⟩:=Je w.heap.size;obtain⟨Y,M,D,O,K,Q,T⟩:=s;obtain⟨br,U,Z,H⟩:=e;obtain rfl:br=2:=bz;simp only at az hr al au bw bx bu bv;have bd:=Jh az;clear az;obtain⟨bf,J⟩:=Je (sX ⟨Y,M,D,O,K,Q,T⟩ ⟨2,U,Z,H⟩);rw[J];have be:=Jh J;have bb:=Jh (λW V=>fw U A c n ⟨Y,M,D,O,K,Q,T⟩ W V al Jo);unfold dH nh;simp only;obtain⟨V,ad,bC,W,af,ai,am⟩:∃V,((w.alloc (.cells #[.slice A n c,Ji M,Ji D,.bool O,Ji K,Ji Q,Ji T] 83)).alloc (.cells #[Ji 2,Ji U,Ji Z,Ji H] 152)).alloc (.cells #[Jn,Ji 0,Ji 0,.bool false,Ji 0,Ji 0,Ji 0] 83)=V/\V.heap.size=y+3/\Below y w V
  /\V.heap[y]?=some (.cells #[.slice A n c,Ji M,Ji D,.bool O,Ji K,Ji Q,Ji T] 83 (0,0))/\V.heap[y+1]?=some (.cells #[Ji 2,Ji U,Ji Z,Ji H] 152 (0,0))/\V.heap[y+2]?=some (.cells #[Jn,Ji 0,Ji 0,.bool false,Ji 0,Ji 0,Ji 0] 83 (0,0)):=by
  have X:=heap_alloc_new w (.cells #[.slice A n c,Ji M,Ji D,.bool O,Ji K,Ji Q,Ji T] 83);have ab:=heap_alloc_new (w.alloc (.cells #[.slice A n c,Ji M,Ji D,.bool O,Ji K,Ji Q,Ji T] 83)) (.cells #[Ji 2,Ji U,Ji Z,Ji H] 152);have ah:=heap_alloc_new ((w.alloc (.cells #[.slice A n c,Ji M,Ji D,.bool O,Ji K,Ji Q,Ji T] 83)).alloc (.cells #[Ji 2,Ji U,Ji Z,Ji H] 152)) (.cells #[Jn,Ji 0,Ji 0,.bool false,Ji 0,Ji 0,Ji 0] 83);simp only[aI,E,aV,bM] at X ab ah;refine⟨_,rfl,by simp[E],?_,?_,?_,ah⟩
  ·subst E;exact(((ag _ _).alloc (ac _) _).alloc Js _).alloc (by simp;omega) _
  ·exact(aJ _ _ _ (by simp;omega)).trans ((aJ _ _ _ (by simp;omega)).trans X)
  exact(aJ _ _ _ (by simp;omega)).trans ab
 have bS:2<y:=E▸av.2;have X:Below w.heap.size w V:=E▸W;have ab:=hr.below X;have ay:=Jh (av.below X);have ax:=Jh (ox A c n Y V ab al Jo);have bc:=Jh ab;have aN:=Jh al;have aH:=Jh E;have aw:=Jh W;have bN:=Jh au;obtain⟨ao,-,-,-,-,-,-,aq,-,-,-,-,-,-⟩:=oP af;have aC:=Jh af;have aD:=Jh ai;have aO:=Jh am;clear hr ab W X al au av af ai am J;go_enter Tryz.func70,Tryz.ntmps70;go_wp2_with fail;try simp only[ad]
 clear ad E ao aq;refine ax.o.mono ?_;rintro e ap ⟨X,E,rfl,ar,J⟩;have af:=(J.block y Jo).trans aC.o;have ai:=(J.block (y+1) Jo).trans aD.o;have am:=(J.block (y+2) Jo).trans aO.o;obtain⟨ao,aP,aQ,aR,aS,aT,aW,aq,-,-,-,-,-,-⟩:=oP af;obtain⟨aX,aY,aZ,a1,-⟩:=four ai;have bF:y+3<=ap.heap.size:=Jw J.size;rw[bC] at ar;have bt:Below V.heap.size V (ap.setCell (Jp y 0) (.slice X n E))->True:=λ_=>trivial;obtain⟨W,ba,bD,ab,ad,ah,ak,a6,a7,a8⟩:∃W,ap.setCell (Jp y 0) (.slice X n E)=W/\W.heap.size=ap.heap.size/\W.heap[y]?=some (.cells #[.slice X n E,Ji M,Ji D,.bool O,Ji K,Ji Q,Ji T] 83 (0,0))/\W.heap[y+1]?=some (.cells #[Ji 2,Ji U,Ji Z,Ji H] 152 (0,0))/\W.heap[y+2]?=some (.cells #[Jn,Ji 0,Ji 0,.bool false,Ji 0,Ji 0,Ji 0] 83 (0,0))/\
  bP (λaB=>aB<y+3) 76 3 (.slice X n E) n (Y.flatMap aU) W/\Below y w W/\Pow W/\Rd W 3 X n (Y.flatMap aU):=by
  have ak:=fW ar (show y<y+3 by omega) 0 (.slice X n E);exact⟨_,rfl,by simp[aj],by simp[aj,aA,af],(ae _ _ _ _ Js).trans ai,(ae _ _ _ _ Js).trans am,ak,(aw.o.trans (J.mono Jo)).setCell (p:=(Jp y 0)) (ac y) _,(ay.o.below J).later (by simp[aj]) (ae _ _ _ _ (by simp only;omega)),ak.rd⟩
 obtain⟨bg,bh,bi,bj,bk,bl,bm,-⟩:=seven ab;obtain⟨bn,bo,bp,bq,-⟩:=four ad;have an:=Jh (fw U X E n ⟨Y,M,D,O,K,Q,T⟩ W a8 aN.o Jo);unfold dH at an;simp only at an;have aL:=Jh ak;have aK:=Jh a6;have aM:=Jh a7;have aE:=Jh ab;have aF:=Jh ad;have aG:=Jh ah;clear ar J ax aC aD aO af ai am ak a6 a7 a8 ab ad ah bt bb bc ay aw;go_wp2_with fail;try simp only[ba]
 clear ba ao aP aQ aR aS aT aW aX aY aZ a1 aq;refine an.o.mono ?_;rintro e ai ⟨rfl,ak⟩;obtain⟨bb,aw⟩:=Je (eh Y U);rw[aw];obtain⟨bG,ax⟩:=Je (bb.getD p0);obtain⟨bU,ay⟩:=Je bb.isSome;rw[ax,ay];have bO:=Jh (Ja aw (Ja ax ay));obtain⟨aC,am,aD⟩:=bG;unfold fL;simp only;have a6:=Below.one ai (.cells #[Ji aC,Ji am,.string (S aD)] 76);have af:=ak.trans (a6.mono ak.size);obtain⟨J,aO,bE,ab,ad,ah,ar,a8,a7,ba⟩:∃J,ai.alloc (.cells #[Ji aC,Ji am,.string (S aD)] 76)=J/\y+3<=ai.heap.size/\J.heap[y]?=some (.cells #[.slice X n E,Ji M,Ji D,.bool O,Ji K,Ji Q,Ji T] 83 (0,0))/\J.heap[y+1]?=some (.cells #[Ji 2,Ji U,Ji Z,Ji H] 152 (0,0))/\J.heap[y+2]?=some (.cells #[Jn,Ji 0,Ji 0,.bool false,Ji 0,Ji 0,Ji 0] 83 (0,0))/\
  J.heap[ai.heap.size]?=some (.cells #[Ji aC,Ji am,.string (S aD)] 76 (0,0))/\bP (λaB=>aB<y+3) 76 3 (.slice X n E) n (Y.flatMap aU) J/\Below y w J/\Pow J:=
  ⟨_,rfl,Jw ak.size,(af.block y Jo).trans aE.o,(af.block (y+1) Jo).trans aF.o,(af.block (y+2) Jo).trans aG.o,heap_alloc_new _ _,aL.o.below af,aK.o.trans (af.mono Jo),aM.o.below af⟩
 have bR:y+3<J.heap.size:=by rw[<-aO];simp;omega
 have bA:ai.heap.size<J.heap.size:=by rw[<-aO];simp
 obtain⟨bH,bB⟩:=Je ai.heap.size;rw[bB] at ar bA bE;obtain⟨bQ,bt⟩:J.cell? (Jp bH 1)=some (Ji am)/\True:=⟨by rw[aa ar];rfl,trivial⟩;have bc:=Jh a8;have aB:=Jh a7;have bL:=Jh ba;have bI:=Jh ab;have bJ:=Jh ad;have bK:=Jh ah;clear ak a6 af an aE aF aG aL aK aM ar a8 a7 ba bg bh bi bj bk bl bm bn bo bp bq aw ax ay bF bD bt;obtain⟨ao,aP,aQ,aR,aS,aT,aW,aq,aL,aM,a6,a7,a8,ba⟩:=oP ab;obtain⟨aX,aY,aZ,a1,bg,bh⟩:=Ly ad;obtain⟨ar,aw,ax,ay,aE,aF,aG,bi,bj,bk,bl,bm,bn,bo⟩:=oP ah;clear ab ad ah;have ab:=Ws (s:=⟨Y,M,D,O,K,Q,T⟩) (e:=⟨2,U,Z,H⟩) rfl;simp only at ab;have an:=Jh (pZ.of bc.o aN.o);by_cases E:D<H/\H<=1099511627776
 ·rw[if_pos E] at ab;exact absurd (bd.o.symm.trans ab) Js
 rw[if_neg E] at ab;have af:=Jh (show bf=(st0,170) by rw[<-be.o];exact zD ab);clear ab;by_cases ad:D<H
 ·have ak:decide (D<H)=true:=decide_eq_true ad;have aK:decide (H<=1099511627776)=false:=decide_eq_false λah=>E ⟨ad,ah⟩;clear E ad;go_wp2_with fail;refine bodyPost_ret (v:=.tuple #[dH none 0 0 st0,Ji 170]) (by rw[results_cell_tmp rfl];go_simp;rfl) rfl ⟨none,0,0,by rw[af.o];rfl,by rw[af.o];exact pZ.nil _ _,?_⟩;rw[aH.o];exact((((((((aB.o.setCell (p:=(Jp y 2)) Js _).setCell (p:=(Jp (y+2) 0)) Js _).setCell (p:=(Jp (y+2) 1)) Js _).setCell (p:=(Jp (y+2) 2)) Js _).setCell (p:=(Jp (y+2) 3)) Js _).setCell (p:=(Jp (y+2) 4)) Js _).setCell (p:=(Jp (y+2) 5)) Js _).setCell (p:=(Jp (y+2) 6)) Js _)
 have ak:decide (D<H)=false:=decide_eq_false ad;clear E ad;go_wp2_with fail;refine bodyPost_ret (v:=.tuple #[dH none 0 0 st0,Ji 170]) (by rw[results_cell_tmp rfl];go_simp;rfl) rfl ⟨none,0,0,by rw[af.o];rfl,by rw[af.o];exact pZ.nil _ _,?_⟩;rw[aH.o];exact((((((((aB.o.setCell (p:=(Jp y 2)) Js _).setCell (p:=(Jp (y+2) 0)) Js _).setCell (p:=(Jp (y+2) 1)) Js _).setCell (p:=(Jp (y+2) 2)) Js _).setCell (p:=(Jp (y+2) 3)) Js _).setCell (p:=(Jp (y+2) 4)) Js _).setCell (p:=(Jp (y+2) 5)) Js _).setCell (p:=(Jp (y+2) 6)) Js _)
theorem PN (A:JA)(n c:Nat)(s:St)(e:Ed)(w:JW)(hr:Rd w 3 A n (s.Parts.flatMap aU))(ar:s.Parts.length=n)(co:n<=100000)(aP:oU s.Parts)(bE:0<=s.Next)(bF:s.Next<=1099511627776)(bC:0<=s.Done)(bD:s.Done<=5000)(aW:Pow w)(bJ:e.Kind=4)(a6:∃t,ep s e=some t):
 JC 70 #[dH A n c s,nh e] w (FB (sX s e) w.heap.size w):=by
 obtain⟨y,ab⟩:=Je w.heap.size;obtain⟨T,H,J,Q,E,K,D⟩:=s;obtain⟨bB,M,Z,Y⟩:=e;obtain rfl:bB=4:=bJ;simp only at a6 hr ar aP bE bF bC bD;have aG:=Jh a6;obtain⟨bo,aN⟩:=Je (sX ⟨T,H,J,Q,E,K,D⟩ ⟨4,M,Z,Y⟩);rw[aN];have bk:=Jh aN;have bY:=Jh (λU O=>fw M A c n ⟨T,H,J,Q,E,K,D⟩ U O ar Jo);unfold dH nh;simp only;obtain⟨W,bU,bS,aQ,am,au,az⟩:∃W,((w.alloc (.cells #[.slice A n c,Ji H,Ji J,.bool Q,Ji E,Ji K,Ji D] 83)).alloc (.cells #[Ji 4,Ji M,Ji Z,Ji Y] 152)).alloc (.cells #[Jn,Ji 0,Ji 0,.bool false,Ji 0,Ji 0,Ji 0] 83)=W/\W.heap.size=y+3/\Below y w W
  /\W.heap[y]?=some (.cells #[.slice A n c,Ji H,Ji J,.bool Q,Ji E,Ji K,Ji D] 83 (0,0))/\W.heap[y+1]?=some (.cells #[Ji 4,Ji M,Ji Z,Ji Y] 152 (0,0))/\W.heap[y+2]?=some (.cells #[Jn,Ji 0,Ji 0,.bool false,Ji 0,Ji 0,Ji 0] 83 (0,0)):=by
  have O:=heap_alloc_new w (.cells #[.slice A n c,Ji H,Ji J,.bool Q,Ji E,Ji K,Ji D] 83);have U:=heap_alloc_new (w.alloc (.cells #[.slice A n c,Ji H,Ji J,.bool Q,Ji E,Ji K,Ji D] 83)) (.cells #[Ji 4,Ji M,Ji Z,Ji Y] 152);have V:=heap_alloc_new ((w.alloc (.cells #[.slice A n c,Ji H,Ji J,.bool Q,Ji E,Ji K,Ji D] 83)).alloc (.cells #[Ji 4,Ji M,Ji Z,Ji Y] 152)) (.cells #[Jn,Ji 0,Ji 0,.bool false,Ji 0,Ji 0,Ji 0] 83);simp only[aI,ab,aV,bM] at O U V;refine⟨_,rfl,by simp[ab],?_,?_,?_,V⟩
  ·subst ab;exact(((ag _ _).alloc (ac _) _).alloc Js _).alloc (by simp;omega) _
  ·exact(aJ _ _ _ (by simp;omega)).trans ((aJ _ _ _ (by simp;omega)).trans O)
  exact(aJ _ _ _ (by simp;omega)).trans U
 have cn:2<y:=ab▸aW.2;have aR:Below w.heap.size w W:=ab▸aQ;have a1:=hr.below aR;have bi:=Jh (aW.below aR);have bf:=Jh (ox A c n T W a1 ar Jo);have b5:=Jh a1;have aH:=Jh ar;have an:=Jh ab;have bd:=Jh aQ;have b3:=Jh aP;obtain⟨aK,-,-,-,-,-,-,a8,-,-,-,-,-,-⟩:=oP am;have bl:=Jh am;have bm:=Jh au;have bn:=Jh az;go_enter Tryz.func70,Tryz.ntmps70;go_wp2_with fail;try simp only[bU]
 refine bf.o.mono ?_;rintro e aw ⟨O,V,rfl,aT,ad⟩;have am:=(ad.block y Jo).trans bl.o;have au:=(ad.block (y+1) Jo).trans bm.o;have az:=(ad.block (y+2) Jo).trans bn.o;obtain⟨aK,bp,bq,br,bt,bu,bv,a8,-,-,-,-,-,-⟩:=oP am;obtain⟨bw,bx,bz,bA,-⟩:=four au;have cr:y+3<=aw.heap.size:=Jw ad.size;rw[bS] at aT;have cm:Below W.heap.size W (aw.setCell (Jp y 0) (.slice O n V))->True:=λ_=>trivial;obtain⟨X,bV,cq,ai,ak,ap,aq,bG,bL,bR⟩:∃X,aw.setCell (Jp y 0) (.slice O n V)=X/\X.heap.size=aw.heap.size/\X.heap[y]?=some (.cells #[.slice O n V,Ji H,Ji J,.bool Q,Ji E,Ji K,Ji D] 83 (0,0))/\X.heap[y+1]?=some (.cells #[Ji 4,Ji M,Ji Z,Ji Y] 152 (0,0))/\X.heap[y+2]?=some (.cells #[Jn,Ji 0,Ji 0,.bool false,Ji 0,Ji 0,Ji 0] 83 (0,0))/\
  bP (λal=>al<y+3) 76 3 (.slice O n V) n (T.flatMap aU) X/\Below y w X/\Pow X/\Rd X 3 O n (T.flatMap aU):=by
  have aq:=fW aT (show y<y+3 by omega) 0 (.slice O n V);exact⟨_,rfl,by simp[aj],by simp[aj,aA,am],(ae _ _ _ _ Js).trans au,(ae _ _ _ _ Js).trans az,aq,(bd.o.trans (ad.mono Jo)).setCell (p:=(Jp y 0)) (ac y) _,(bi.o.below ad).later (by simp[aj]) (ae _ _ _ _ (by simp only;omega)),aq.rd⟩
 obtain⟨b6,b7,b8,b9,cb,cc,cd,-⟩:=seven ai;obtain⟨ce,cf,cg,ci,-⟩:=four ak;have ax:=Jh (fw M O V n ⟨T,H,J,Q,E,K,D⟩ X bR aH.o Jo);unfold dH at ax;simp only at ax;have bg:=Jh aq;have be:=Jh bG;have bj:=Jh bL;have ba:=Jh ai;have bb:=Jh ak;have bc:=Jh ap;go_wp2_with fail;try simp only[bV]
 refine ax.o.mono ?_;rintro e ah ⟨rfl,ay⟩;obtain⟨a7,aX⟩:=Je (eh T M);rw[aX];obtain⟨bW,aY⟩:=Je (a7.getD p0);obtain⟨cu,aZ⟩:=Je a7.isSome;rw[aY,aZ];have b4:=Jh (Ja aX (Ja aY aZ));obtain⟨aC,av,aD⟩:=bW;unfold fL;simp only;have bH:=Below.one ah (.cells #[Ji aC,Ji av,.string (S aD)] 76);have af:=ay.trans (bH.mono ay.size);obtain⟨U,aO,bT,ai,ak,ap,aM,bK,bI,bN⟩:∃U,ah.alloc (.cells #[Ji aC,Ji av,.string (S aD)] 76)=U/\y+3<=ah.heap.size/\U.heap[y]?=some (.cells #[.slice O n V,Ji H,Ji J,.bool Q,Ji E,Ji K,Ji D] 83 (0,0))/\U.heap[y+1]?=some (.cells #[Ji 4,Ji M,Ji Z,Ji Y] 152 (0,0))/\U.heap[y+2]?=some (.cells #[Jn,Ji 0,Ji 0,.bool false,Ji 0,Ji 0,Ji 0] 83 (0,0))/\
  U.heap[ah.heap.size]?=some (.cells #[Ji aC,Ji av,.string (S aD)] 76 (0,0))/\bP (λal=>al<y+3) 76 3 (.slice O n V) n (T.flatMap aU) U/\Below y w U/\Pow U:=
  ⟨_,rfl,Jw ay.size,(af.block y Jo).trans ba.o,(af.block (y+1) Jo).trans bb.o,(af.block (y+2) Jo).trans bc.o,heap_alloc_new _ _,bg.o.below af,be.o.trans (af.mono Jo),bj.o.below af⟩
 have cl:y+3<U.heap.size:=by rw[<-aO];simp;omega
 have bO:ah.heap.size<U.heap.size:=by rw[<-aO];simp
 obtain⟨bX,bQ⟩:=Je ah.heap.size;rw[bQ] at aM bO bT;obtain⟨cj,ck⟩:U.cell? (Jp bX 1)=some (Ji av)/\True:=⟨by rw[aa aM];rfl,trivial⟩;have bh:=Jh bK;have aE:=Jh bI;have b2:=Jh bN;have bZ:=Jh ai;have b0:=Jh ak;have b1:=Jh ap;obtain⟨aK,bp,bq,br,bt,bu,bv,a8,cE,cF,cG,cH,cI,cJ⟩:=oP ai;obtain⟨bw,bx,bz,bA,cK,cL⟩:=Ly ak;obtain⟨cv,cx,cy,cz,cA,cB,cC,cM,cN,cO,cP,cQ,cR,cS⟩:=oP ap;have al:=Wu (s:=⟨T,H,J,Q,E,K,D⟩) (e:=⟨4,M,Z,Y⟩) rfl;simp only at al;have aF:=Jh (pZ.of bh.o aH.o);cases Q with
 |false=>exact lH aG.o (by rw[al,if_neg Js])
 |true=>
  by_cases aL:D<5000;rotate_left
  ·exact lH aG.o (by rw[al,if_neg (by simp;omega)])
  rw[if_pos ⟨rfl,aL⟩] at al;have ao:=Jh (show bo=(⟨T,H,J,true,E,K,D+1⟩,0) by rw[<-bk.o];exact kK al);have cD:decide (D<5000)=true:=decide_eq_true aL;have ct:IntKind.i64.wrap (D+1)=D+1:=by rw[aB];omega
  by_cases aS:E=M
  ·have u1:(E == M)=true:=beq_iff_eq.2 aS;go_wp2_with fail;refine bodyPost_ret (v:=.tuple #[dH (O) (n) (V) ⟨T,H,J,true,E,K,D+1⟩,Ji 0]) (by rw[results_cell_tmp rfl];go_simp;rfl) rfl ⟨O,n,V,by rw[ao.o];rfl,?_,?_⟩
   ·rw[ao.o,an.o];exact((((((((aF.o.set (b:=y) (j:=6) Jo _).set (b:=y+2) (j:=0) Jo _).set (b:=y+2) (j:=1) Jo _).set (b:=y+2) (j:=2) Jo _).set (b:=y+2) (j:=3) Jo _).set (b:=y+2) (j:=4) Jo _).set (b:=y+2) (j:=5) Jo _).set (b:=y+2) (j:=6) Jo _).mono Jo
   rw[an.o];exact((((((((aE.o.setCell (p:=(Jp y 6)) Js _).setCell (p:=(Jp (y+2) 0)) Js _).setCell (p:=(Jp (y+2) 1)) Js _).setCell (p:=(Jp (y+2) 2)) Js _).setCell (p:=(Jp (y+2) 3)) Js _).setCell (p:=(Jp (y+2) 4)) Js _).setCell (p:=(Jp (y+2) 5)) Js _).setCell (p:=(Jp (y+2) 6)) Js _)
  have u1:(E == M)=false:=beq_eq_false_iff_ne.2 aS;go_wp2_with fail;refine bodyPost_ret (v:=.tuple #[dH (O) (n) (V) ⟨T,H,J,true,E,K,D+1⟩,Ji 0]) (by rw[results_cell_tmp rfl];go_simp;rfl) rfl ⟨O,n,V,by rw[ao.o];rfl,?_,?_⟩
  ·rw[ao.o,an.o];exact((((((((aF.o.set (b:=y) (j:=6) Jo _).set (b:=y+2) (j:=0) Jo _).set (b:=y+2) (j:=1) Jo _).set (b:=y+2) (j:=2) Jo _).set (b:=y+2) (j:=3) Jo _).set (b:=y+2) (j:=4) Jo _).set (b:=y+2) (j:=5) Jo _).set (b:=y+2) (j:=6) Jo _).mono Jo
  rw[an.o];exact((((((((aE.o.setCell (p:=(Jp y 6)) Js _).setCell (p:=(Jp (y+2) 0)) Js _).setCell (p:=(Jp (y+2) 1)) Js _).setCell (p:=(Jp (y+2) 2)) Js _).setCell (p:=(Jp (y+2) 3)) Js _).setCell (p:=(Jp (y+2) 4)) Js _).setCell (p:=(Jp (y+2) 5)) Js _).setCell (p:=(Jp (y+2) 6)) Js _)
theorem PM (A:JA)(n c:Nat)(s:St)(e:Ed)(w:JW)(hr:Rd w 3 A n (s.Parts.flatMap aU))(ap:s.Parts.length=n)(bV:n<=100000)(aQ:oU s.Parts)(bI:0<=s.Next)(bJ:s.Next<=1099511627776)(bG:0<=s.Done)(bH:s.Done<=5000)(aR:Pow w)(bN:e.Kind=3)(aX:∃t,ep s e=some t):
 JC 70 #[dH A n c s,nh e] w (FB (sX s e) w.heap.size w):=by
 obtain⟨y,H⟩:=Je w.heap.size;obtain⟨U,J,K,T,V,W,O⟩:=s;obtain⟨bE,E,D,ah⟩:=e;obtain rfl:bE=3:=bN;simp only at aX hr ap aQ bI bJ bG bH;have ar:=Jh aX;clear aX;obtain⟨bD,M⟩:=Je (sX ⟨U,J,K,T,V,W,O⟩ ⟨3,E,D,ah⟩);rw[M];have bC:=Jh M;have aY:=Jh (λX Q=>fw E A c n ⟨U,J,K,T,V,W,O⟩ X Q ap Jo);unfold dH nh;simp only;obtain⟨Z,ab,bj,Q,ai,af,al⟩:∃Z,((w.alloc (.cells #[.slice A n c,Ji J,Ji K,.bool T,Ji V,Ji W,Ji O] 83)).alloc (.cells #[Ji 3,Ji E,Ji D,Ji ah] 152)).alloc (.cells #[Jn,Ji 0,Ji 0,.bool false,Ji 0,Ji 0,Ji 0] 83)=Z/\Z.heap.size=y+3/\Below y w Z
  /\Z.heap[y]?=some (.cells #[.slice A n c,Ji J,Ji K,.bool T,Ji V,Ji W,Ji O] 83 (0,0))/\Z.heap[y+1]?=some (.cells #[Ji 3,Ji E,Ji D,Ji ah] 152 (0,0))/\Z.heap[y+2]?=some (.cells #[Jn,Ji 0,Ji 0,.bool false,Ji 0,Ji 0,Ji 0] 83 (0,0)):=by
  have X:=heap_alloc_new w (.cells #[.slice A n c,Ji J,Ji K,.bool T,Ji V,Ji W,Ji O] 83);have Y:=heap_alloc_new (w.alloc (.cells #[.slice A n c,Ji J,Ji K,.bool T,Ji V,Ji W,Ji O] 83)) (.cells #[Ji 3,Ji E,Ji D,Ji ah] 152);have ad:=heap_alloc_new ((w.alloc (.cells #[.slice A n c,Ji J,Ji K,.bool T,Ji V,Ji W,Ji O] 83)).alloc (.cells #[Ji 3,Ji E,Ji D,Ji ah] 152)) (.cells #[Jn,Ji 0,Ji 0,.bool false,Ji 0,Ji 0,Ji 0] 83);simp only[aI,H,aV,bM] at X Y ad;refine⟨_,rfl,by simp[H],?_,?_,?_,ad⟩
  ·subst H;exact(((ag _ _).alloc (ac _) _).alloc Js _).alloc (by simp;omega) _
  ·exact(aJ _ _ _ (by simp;omega)).trans ((aJ _ _ _ (by simp;omega)).trans X)
  exact(aJ _ _ _ (by simp;omega)).trans Y
 have bL:2<y:=H▸aR.2;have X:Below w.heap.size w Z:=H▸Q;have Y:=hr.below X;have aL:=Jh (aR.below X);have aG:=Jh (ox A c n U Z Y ap Jo);have ba:=Jh Y;have be:=Jh ap;have a7:=Jh H;have aF:=Jh Q;have bU:=Jh aQ;obtain⟨am,-,-,-,-,-,-,ao,-,-,-,-,-,-⟩:=oP ai;have aM:=Jh ai;have aN:=Jh af;have aO:=Jh al;clear hr Y Q X ap aQ aR ai af al M;go_enter Tryz.func70,Tryz.ntmps70;go_wp2_with fail;try simp only[ab]
 clear ab H am ao;refine aG.o.mono ?_;rintro e aH ⟨Q,H,rfl,an,M⟩;have ai:=(M.block y Jo).trans aM.o;have af:=(M.block (y+1) Jo).trans aN.o;have al:=(M.block (y+2) Jo).trans aO.o;obtain⟨am,au,av,aw,ax,ay,az,ao,-,-,-,-,-,-⟩:=oP ai;obtain⟨aB,aC,aD,aE,-⟩:=four af;have bA:y+3<=aH.heap.size:=Jw M.size;rw[bj] at an;have bc:Below Z.heap.size Z (aH.setCell (Jp y 0) (.slice Q n H))->True:=λ_=>trivial;obtain⟨ab,aW,bz,X,Y,ad,ak,aP,aS,aT⟩:∃ab,aH.setCell (Jp y 0) (.slice Q n H)=ab/\ab.heap.size=aH.heap.size/\ab.heap[y]?=some (.cells #[.slice Q n H,Ji J,Ji K,.bool T,Ji V,Ji W,Ji O] 83 (0,0))/\ab.heap[y+1]?=some (.cells #[Ji 3,Ji E,Ji D,Ji ah] 152 (0,0))/\ab.heap[y+2]?=some (.cells #[Jn,Ji 0,Ji 0,.bool false,Ji 0,Ji 0,Ji 0] 83 (0,0))/\
  bP (λaK=>aK<y+3) 76 3 (.slice Q n H) n (U.flatMap aU) ab/\Below y w ab/\Pow ab/\Rd ab 3 Q n (U.flatMap aU):=by
  have ak:=fW an (show y<y+3 by omega) 0 (.slice Q n H);exact⟨_,rfl,by simp[aj],by simp[aj,aA,ai],(ae _ _ _ _ Js).trans af,(ae _ _ _ _ Js).trans al,ak,(aF.o.trans (M.mono Jo)).setCell (p:=(Jp y 0)) (ac y) _,(aL.o.below M).later (by simp[aj]) (ae _ _ _ _ (by simp only;omega)),ak.rd⟩
 obtain⟨bl,bm,bn,bo,bp,bq,br,-⟩:=seven X;obtain⟨bt,bu,bv,bw,-⟩:=four Y;have aq:=Jh (fw E Q H n ⟨U,J,K,T,V,W,O⟩ ab aT be.o Jo);unfold dH at aq;simp only at aq;have bb:=Jh ak;have a8:=Jh aP;have bd:=Jh aS;have aZ:=Jh X;have a1:=Jh Y;have a6:=Jh ad;clear an M aG aM aN aO ai af al ak aP aS aT X Y ad bc aY ba aL aF;go_wp2_with fail;try simp only[aW]
 clear aW am au av aw ax ay az aB aC aD aE ao;refine aq.o.mono ?_;rintro e an ⟨rfl,al⟩;obtain⟨aY,aS⟩:=Je (eh U E);rw[aS];obtain⟨bR,aT⟩:=Je (aY.getD p0);obtain⟨bS,aW⟩:=Je aY.isSome;rw[aT,aW];have aN:=Jh (Ja aS (Ja aT aW));obtain⟨aF,ak,aG⟩:=bR;unfold fL;simp only;have bf:=Below.one an (.cells #[Ji aF,Ji ak,.string (S aG)] 76);have af:=al.trans (bf.mono al.size);obtain⟨M,aP,bk,X,Y,ad,aO,bh,bg,bi⟩:∃M,an.alloc (.cells #[Ji aF,Ji ak,.string (S aG)] 76)=M/\y+3<=an.heap.size/\M.heap[y]?=some (.cells #[.slice Q n H,Ji J,Ji K,.bool T,Ji V,Ji W,Ji O] 83 (0,0))/\M.heap[y+1]?=some (.cells #[Ji 3,Ji E,Ji D,Ji ah] 152 (0,0))/\M.heap[y+2]?=some (.cells #[Jn,Ji 0,Ji 0,.bool false,Ji 0,Ji 0,Ji 0] 83 (0,0))/\
  M.heap[an.heap.size]?=some (.cells #[Ji aF,Ji ak,.string (S aG)] 76 (0,0))/\bP (λaK=>aK<y+3) 76 3 (.slice Q n H) n (U.flatMap aU) M/\Below y w M/\Pow M:=
  ⟨_,rfl,Jw al.size,(af.block y Jo).trans aZ.o,(af.block (y+1) Jo).trans a1.o,(af.block (y+2) Jo).trans a6.o,heap_alloc_new _ _,bb.o.below af,a8.o.trans (af.mono Jo),bd.o.below af⟩
 have bK:y+3<M.heap.size:=by rw[<-aP];simp;omega
 have bO:an.heap.size<M.heap.size:=by rw[<-aP];simp
 obtain⟨bT,bQ⟩:=Je an.heap.size;rw[bQ] at aO bO bk;obtain⟨bF,bx⟩:M.cell? (Jp bT 1)=some (Ji ak)/\True:=⟨by rw[aa aO];rfl,trivial⟩;have bc:=Jh bh;have ba:=Jh bg;have bB:=Jh bi;have aK:=Jh X;have aL:=Jh Y;have aM:=Jh ad;clear al bf af aq aZ a1 a6 bb a8 bd aO bh bg bi bl bm bn bo bp bq br bt bu bv bw aS aT aW bA bz bx;obtain⟨am,au,av,aw,ax,ay,az,ao,bi,bl,bm,bn,bo,bp⟩:=oP X;obtain⟨aB,aC,aD,aE,bq,br⟩:=Ly Y;obtain⟨a6,a8,bb,bd,bf,bg,bh,bt,bu,bv,bw,bx,bz,bA⟩:=oP ad;clear X Y ad;have af:=Wt (s:=⟨U,J,K,T,V,W,O⟩) (e:=⟨3,E,D,ah⟩) rfl;simp only at af;have aq:=Jh (λw=>iE D 1 w);rw[nG] at aq;rw[aN.o.1] at af;have aS:=Jh (show ∃al,(((M.setCell (Jp y 3) (.bool true)).setCell (Jp y 4) (Ji E)).setCell (Jp y 5) (Ji D)).drew=al/\y+3<al.heap.size/\al.heap[y]?=some (.cells #[.slice Q n H,Ji J,Ji K,.bool true,Ji E,Ji D,Ji O] 83 (0,0))/\al.heap[y+1]?=some (.cells #[Ji 3,Ji E,Ji D,Ji ah] 152 (0,0))/\al.heap[y+2]?=some (.cells #[Jn,Ji 0,Ji 0,.bool false,Ji 0,Ji 0,Ji 0] 83 (0,0))/\
  pZ (y+3) Q n U al/\Below y w al from by
  have ai:=aK.o;refine⟨_,rfl,by simp[aj,World.drew];omega,?_,?_,?_,?_,?_⟩
  ·show(((M.setCell (Jp y 3) (.bool true)).setCell (Jp y 4) (Ji E)).setCell (Jp y 5) (Ji D)).heap[y]?=_;simp[aj,aA,ai]
  ·exact(ae _ _ _ _ Js).trans ((ae _ _ _ _ Js).trans ((ae _ _ _ _ Js).trans aL.o))
  ·exact(ae _ _ _ _ Js).trans ((ae _ _ _ _ Js).trans ((ae _ _ _ _ Js).trans aM.o))
  ·exact(((pZ.of bc.o be.o).set (b:=y) (j:=3) Jo _).set (b:=y) (j:=4) Jo _).set (b:=y) (j:=5) Jo _ |>.drew
  exact(((ba.o.setCell (p:=(Jp y 3)) Js _).setCell (p:=(Jp y 4)) Js _).setCell (p:=(Jp y 5)) Js _).drew)
 clear am au av az ao bi bl bp aE a6 a8 bb bd bf bg bh bt bu bv bw bx bz bA bc ba bB aK aL aM bL bj bk;cases aY with
 |none=>exact lH ar.o af
 |some bj=>
  obtain rfl:true=bS:=aN.o.2.2;obtain rfl:bj=⟨aF,ak,aG⟩:=aN.o.2.1;simp only at af;cases T with
  |true=>exact lH ar.o (by rw[af,if_neg Js])
  |false=>
   by_cases H:kg D;rotate_left
   ·exact lH ar.o (by rw[af,if_neg (λaO=>H aO.2.1)])
   rw[decide_eq_true H] at aq;by_cases al:ak=D
   ·exact lH ar.o (by rw[af,if_neg (λaO=>aO.2.2 al)])
   rw[if_pos ⟨rfl,H,al⟩] at af;have aT:=Jh (show bD=(⟨U,J,K,true,E,D,O⟩,0) by rw[<-bC.o];exact kK af);have bk:(ak == D)=false:=beq_eq_false_iff_ne.2 al;have bW:(ak != D)=true:=by rw[bne,bk];rfl
   clear af H al;go_wp2_with fail;refine(aq.o _).mono ?_;rintro e bX ⟨rfl,rfl⟩;go_wp2_with fail;go_region;all_goals
    obtain⟨bB,aW,bL,X,Y,ad,a1,aZ⟩:=aS.o;simp only[aW];have bc:=Jh a1;have ba:=Jh aZ;clear aw ax ay bm bn bo aB aC aD bq br bF bK aW aP aS a1 aZ;obtain⟨am,au,av,aw,ax,ay,az,ao,bi,bl,bm,bn,bo,bp⟩:=oP X;obtain⟨aB,aC,aD,aE,bq,br⟩:=Ly Y;obtain⟨a6,a8,bb,bd,bf,bg,bh,bt,bu,bv,bw,bx,bz,bA⟩:=oP ad;have aK:=Jh X;have aL:=Jh Y;have aM:=Jh ad;clear X Y ad;go_wp2_with fail;refine bodyPost_ret (v:=.tuple #[dH (Q) (n) (H) ⟨U,J,K,true,E,D,O⟩,Ji 0]) (by rw[results_cell_tmp rfl];go_simp;rfl) rfl ⟨Q,n,H,by rw[aT.o];rfl,?_,?_⟩
    ·rw[aT.o,a7.o];exact(((((((bc.o.set (b:=y+2) (j:=0) Jo _).set (b:=y+2) (j:=1) Jo _).set (b:=y+2) (j:=2) Jo _).set (b:=y+2) (j:=3) Jo _).set (b:=y+2) (j:=4) Jo _).set (b:=y+2) (j:=5) Jo _).set (b:=y+2) (j:=6) Jo _).mono Jo
    rw[a7.o];exact(((((((ba.o.setCell (p:=(Jp (y+2) 0)) Js _).setCell (p:=(Jp (y+2) 1)) Js _).setCell (p:=(Jp (y+2) 2)) Js _).setCell (p:=(Jp (y+2) 3)) Js _).setCell (p:=(Jp (y+2) 4)) Js _).setCell (p:=(Jp (y+2) 5)) Js _).setCell (p:=(Jp (y+2) 6)) Js _)
section
open Go Go.RowKit Go.Deep Go.ChangeShapes Go.WideShapes
def Ed.ok (e:Ed):Prop:=pJ e.Kind/\pJ e.Day/\pJ e.Layout/\pJ e.At
section
variable {H:Type} {enc:TypeId × Value->H} {w:JW}
end
abbrev UW (A:JA)(n c:Nat)(s:St):Array Value:=#[.slice A n c,Ji s.Next,Ji s.Past,.bool s.On,Ji s.Day,Ji s.To,Ji s.Done]
abbrev z7:Array Value:=#[Jn,Ji 0,Ji 0,.bool false,Ji 0,Ji 0,Ji 0]
end
theorem three {w:JW}{b:Nat}{v0 y v2:Value}{D:TypeId}(h:w.heap[b]?=some (.cells #[v0,y,v2] D (0,0))):
 w.cell? (Jp b 0)=some v0/\w.cell? (Jp b 1)=some y/\w.cell? (Jp b 2)=some v2/\∀j,w.frozen? (Jp b j)=false:=
 ⟨by rw[aa h];rfl,by rw[aa h];rfl,by rw[aa h];rfl,λj=>aW h j⟩
structure Var (w:JW) (b:Nat) (T:TypeId) (A:JA) (n c:Nat) (s:St):Prop where
 blk:w.heap[b]?=some (.cells (UW A n c s) T (0,0))
 rd:Rd w 3 A n (s.Parts.flatMap aU)
 len:s.Parts.length=n
theorem Var.lt {w:JW}{b:Nat}{y:TypeId}{A:JA}{n c:Nat}{s:St}(h:Var w b y A n c s):b<w.heap.size:=(Jl h.blk)
theorem Var.below {w w':JW}{b:Nat}{y:TypeId}{A:JA}{n c:Nat}{s:St}(h:Var w b y A n c s)(D:Jz w w'):Var w' b y A n c s:=
 ⟨(D.block b h.lt).trans h.blk,h.rd.below D,h.len⟩
theorem Var.new {w:JW}{b:Nat}{y:TypeId}{A:JA}{n c:Nat}{s:St}(D:w.heap.size=b)(hr:Rd w 3 A n (s.Parts.flatMap aU))(E:s.Parts.length=n):Var (w.alloc (.cells (UW A n c s) y)) b y A n c s:=
 ⟨by rw[<-D];exact heap_alloc_new _ _,hr.below (Below.one _ _),E⟩
theorem Var.drew {w:JW}{b:Nat}{y:TypeId}{A:JA}{n c:Nat}{s:St}(h:Var w b y A n c s):Var w.drew b y A n c s:=⟨h.blk,h.rd,h.len⟩
theorem _root_.Go.RowKit.Below.then' {a b c:JW}(h:Jz a b)(k:Jz b c):Jz a c:=h.then k
theorem IG:∀{l:List bL},oU l->∀i j,(y:i<l.length)->(J:j<i)->(l[j]'Jo).Day<l[i].Day
 |[],_,i,_,y,_=>absurd y Js
 |K :: l,H,i,j,y,J=>by
  obtain⟨D,E⟩:=jH.1 H;cases i with
  |zero=>omega
  |succ i=>
   cases j with
   |zero=>simp only[bf,ck];exact D _ (ah _)
   |succ j=>simp only[ck];exact IG E i j (by simpa using y) Jo
theorem zT {l:List bL}{d:Int}{p:bL}(h:eh l d=some p):p∈l/\p.Day=d:=by
 unfold eh at h;exact⟨cL h,by simpa using eN h⟩
def calm (s:St):St:=if s.On=true then Eu s else s
def qX (l:List bL)(N:Int)(j:Nat)(h:j<l.length):Prop:=
 lW l[j].Day/\kg l[j].Layout/\0<=mA l[j].File/\mA l[j].File<N/\(∀y,j=y+1->(h':y<l.length)->l[y].Day<l[j].Day)/\∀D,(hk:D<j)->(l[D]'Jo).File≠l[j].File
theorem NP:∀{l:List bL},(∀i,(y:i+1<l.length)->(l[i]'Jo).Day<l[i+1].Day)->oU l
 |[],_=>trivial
 |[_],_=>trivial
 |H :: E :: l,y=>by
  refine⟨y 0 Js,NP (l:=E :: l) λi D=>?_⟩;have:=y (i+1) (by simpa using D);simpa using this
theorem AB {s:St}(h:eV s){j:Nat}(y:j<s.Parts.length):qX s.Parts s.Next j y:=by
 obtain⟨D,E,O,T,H⟩:=h.part _ (ah y);have W:=h.n1;have U:mA s.Parts[j].File=O:=by rw[H];exact Az Jo
 refine⟨D,E,Jo,Jo,λK V Q=>?_,λM J=>?_⟩
 ·exact IG h.oU j K y Jo
 exact(List.pairwise_iff_getElem.1 h.files) M j Jo y J
theorem Kb {s:St}(M:0<=s.Next)(O:s.Next<=1099511627776)(p0:0<=s.Past)(Q:s.Past<=1099511627776)(E:∀j,(y:j<s.Parts.length)->qX s.Parts s.Next j y)
 (T:s.On=false->s.Day=0/\s.To=0/\s.Done=0) (conv:s.On=true->∃p,eh s.Parts s.Day=some p/\kg s.To/\p.Layout≠s.To/\0<=s.Done/\s.Done<=5000):eV s:=by
 refine⟨M,O,p0,Q,NP λD H=>(E (D+1) H).2.2.2.2.1 D rfl Jo,λp K=>?_,List.pairwise_iff_getElem.2 λD j H y J=>(E j y).2.2.2.2.2 D J,T,conv⟩;obtain⟨j,y,rfl⟩:=bz K;obtain⟨D,H,U,V,-,-⟩:=E j y;obtain⟨K,W,J,-⟩:=AA (l:=s.Parts[j].File) Jo;exact⟨D,H,K,Jo,J⟩
def wO (s:St)(w:JW)(e:Ending)(w':JW):Prop:=∃y:Bool,e= .returned (.bool y)/\(y=true↔eV s)/\Jz w w'
theorem wO.yes {s:St}{w w':JW}(h:eV s)(y:Jz w w'):wO s w (.returned (.bool true)) w':=⟨true,rfl,by simp[h],y⟩
end Go.Proofs.YtibmlemoghcbkaaGreatDoor
namespace Go.Proofs
open Go.Shelf
def Tryz.lays103_ren:Go.Shelf.Ren:=⟨fun|103=>276|210=>340|206=>388|n=>n,fun|9=>9|4=>4|24=>97|3=>3|n=>n,fun|n=>n⟩
theorem Tryz.lays103:Go.Proofs.Lays.n103 Tryz.prog Tryz.lays103_ren:=by
 repeat' first|kernel_rfl|(intro _;kernel_rfl)|constructor
open Go.RowKit in
theorem Tryz.strings_CutPrefix (s p:ByteArray)(w:World):
 Calls Tryz.prog 276 #[.string s,.string p] w λe w'=>e= .returned (.tuple #[.string ⟨(Lib.trimPrefix s.data.toList p.data.toList).toArray⟩,.bool (ju s.data.toList p.data.toList)])/\w'=w:=Any.strings_CutPrefix Tryz.lays103 s p w
def Tryz.laysC172_ren:Go.Shelf.Ren:=⟨fun|172=>277|244=>341|245=>342|247=>389|279=>390|280=>391|281=>392|282=>393|287=>416|316=>417|171=>183|205=>418|321=>428|322=>429|243=>275|246=>339|283=>384|284=>385|285=>386|286=>387|129=>148|317=>412|318=>413|319=>414|320=>415|337=>426|338=>427|n=>n,fun|9=>9|3=>3|75=>230|76=>231|4=>4|5=>5|167=>493|37=>22|0=>0|85=>494|2=>2|168=>496|53=>40|175=>512|46=>92|210=>515|127=>347|145=>528|143=>526|21=>21|171=>489|173=>491|212=>510|51=>279|20=>20|213=>511|232=>532|233=>533|80=>187|n=>n,fun|15=>3|16=>4|17=>2|18=>5|19=>6|n=>n⟩
theorem Tryz.laysC172:Go.Proofs.LaysC.n172 Tryz.prog Tryz.laysC172_ren:=by
 repeat' first|kernel_rfl|(intro _;kernel_rfl)|constructor
open Go.RowKit in
theorem Tryz.strconv_Atoi_ok (s:ByteArray)(y:s.size<=9223372036854775806)(v:Int)(h:iW s.data.toList= .ok v)(w:World):
 Calls Tryz.prog 277 #[.string s] w λe w'=>e= .returned (.tuple #[.int .i64 v,.nilIface])/\(w'=w∨∃t,w'=Lib.bytesWorld w 5 t):=Any.strconv_Atoi_ok Tryz.laysC172 s y v h w
open Go.RowKit in
theorem Tryz.strconv_Atoi_syntax (s:ByteArray)(E:s.size<=281474976710656)(h:iW s.data.toList= .«syntax»)(y:Value)(w:World)(H:w.cell? ⟨3,0,none⟩=some y)(D:y= .nilIface∨∃K J,y= .iface K J):
 Calls Tryz.prog 277 #[.string s] w λe w'=>∃N,e= .returned (.tuple #[.int .i64 (0),.iface 496 (.pointer (some ⟨N,0,none⟩))])/\w.heap.size<=N/\w'.heap[N]?=some (.cells #[.string ⟨#[65,116,111,105]⟩,.string s,y] 515 (0,0))/\Below w.heap.size w w':=Any.strconv_Atoi_syntax Tryz.laysC172 s E h y w H D
open Go.RowKit in
theorem Tryz.strconv_Atoi_range (s:ByteArray)(E:s.size<=281474976710656)(h:iW s.data.toList= .range)(y:Value)(w:World)(H:w.cell? ⟨4,0,none⟩=some y)(D:y= .nilIface∨∃K J,y= .iface K J):
 Calls Tryz.prog 277 #[.string s] w λe w'=>∃N,e= .returned (.tuple #[.int .i64 (Lib.atoiSat s.data.toList),.iface 496 (.pointer (some ⟨N,0,none⟩))])/\w.heap.size<=N/\w'.heap[N]?=some (.cells #[.string ⟨#[65,116,111,105]⟩,.string s,y] 515 (0,0))/\Below w.heap.size w w':=Any.strconv_Atoi_range Tryz.laysC172 s E h y w H D
end Go.Proofs
namespace Go.Proofs.YtibmlemoghcbkaaGreatDoor
open Go Go.RowKit
open Tryz
theorem tI:∀(l:JU)(a:Nat),(∀b∈l,48<=b.toNat/\b.toNat<=57)->(a+1)*10 ^ l.length<=1000000000000000->Lib.parseUint10 a l= .ok (l.foldl (λa b=>a*10+(b.toNat - 48)) a)
 |[],a,_,_=>rfl
 |b :: l,a,D,y=>by
  obtain⟨E,H⟩:=D b (az ..);have J:1<=10 ^ l.length:=Nat.one_le_iff_ne_zero.2 (by exact Nat.ne_of_gt (Nat.pow_pos Jd));rw[ak,gF,<-Nat.mul_assoc,Nat.mul_right_comm] at y;have O:(a+1)*10<=1000000000000000:=ap (Nat.le_mul_of_pos_right _ J) y;unfold Lib.parseUint10;rw[if_pos ⟨E,H⟩,if_neg Jo,if_neg Jo,ia];refine tI l _ (λM K=>D M (aC _ K)) (ap (dP _ (show a*10+(b.toNat - 48)+1<=(a+1)*10 by omega)) y)
theorem nK {m:Nat}(h:m<100000000000000):iW (dk m)= .ok (m:Int):=by
 have D:=xu m;have H:=xw m;have J:=pc (k:=14) Jd (show m<10 ^ 14 by exact h);obtain⟨K,E⟩:=Je (dk m);have T:zf K=m:=by rw[<-E];exact nU m
 rw[E] at D H J ⊢;cases K with
 |nil=>simp at H
 |cons c y=>
  obtain⟨V,W⟩:=D c (az ..);rw[Lib.atoiAll_plain c y Jo Jo];unfold Lib.parseMag;have U:(0+1)*10 ^ (c :: y).length<=1000000000000000:=by
   rw[bB,jF];exact ap (ce Jd J) Jd
  rw[if_neg Js,tI (c :: y) 0 D U];have Q:(c :: y).foldl (λM O=>M*10+(O.toNat - 48)) 0=m:=T;rw[Q];show(if 9223372036854775808<=m then Lib.NumEnd.range else Lib.NumEnd.ok (m:Int))=_;rw[if_neg Jo]
theorem yf (t:JU):ju (102 :: t) [102]=true/\Lib.trimPrefix (102 :: t) [102]=t:=by
 have y:ju (102 :: t) [102]=true:=by simp[ju]
 exact⟨y,by unfold Lib.trimPrefix;rw[if_pos y];rfl⟩
theorem AJ {l:JU}(h:∀t,l≠102 :: t):ju l [102]=false/\Lib.trimPrefix l [102]=l:=by
 have D:ju l [102]=false:=by
  cases l with
  |nil=>rfl
  |cons x t=>
   have:x≠102:=λy=>h t (by rw[y]);unfold ju;show((102:UInt8) == x && [].isPrefixOf t)=false;rw[beq_eq_false_iff_ne.2 (λy=>this y.symm)];rfl
 exact⟨D,by unfold Lib.trimPrefix;rw[if_neg (by simp[D])]⟩
theorem zg {l:JU}(h:∀t,l≠102 :: t):mA l= -1:=rF λ_ _ y=>h _ y
theorem GC {t:JU}(h:∀v,iW t≠.ok v):mA (102 :: t)= -1:=
 rF λE D y=>by
  unfold cE at y;have:=(List.cons.inj y).2;exact h E (by rw[this];exact nK D)
theorem SU {t:JU}{v:Int}(h:iW t= .ok v):(cE v=102 :: t->v<100000000000000->mA (102 :: t)=v)/\(cE v≠102 :: t->mA (102 :: t)= -1)/\(100000000000000<=v->mA (102 :: t)= -1):=by
 refine⟨λE y=>?_,λE=>?_,λy=>?_⟩
 ·have y:t=dk v.toNat:=((List.cons.inj E).2).symm;have D:v.toNat<100000000000000:=Jo;rw[y,nK D] at h;have J:(v.toNat:Int)=v:=by injection h
  rw[<-E,<-J];have:=Az D;simpa using this
 ·refine rF λD K H=>E ?_;have y:t=dk D:=(List.cons.inj H).2;rw[y,nK K] at h;have J:(D:Int)=v:=by injection h
  rw[H,<-J]
 refine rF λD K H=>?_;have y:t=dk D:=(List.cons.inj H).2;rw[y,nK K] at h;have J:(D:Int)=v:=by injection h
 omega
def vu (w:JW):Prop:=(∃D y,w.cell? (Jp 3 0)=some (.iface D y))/\∃D y,w.cell? (Jp 4 0)=some (.iface D y)
theorem vu.below {w w':JW}(h:vu w)(y:Jz w w'):vu w':=by
 obtain⟨⟨K,H,D⟩,M,J,E⟩:=h;exact⟨⟨K,H,al y D⟩,M,J,al y E⟩
def NA (t:JU)(w:JW)(e:Ending)(w':JW):Prop:=
 ((∃y,iW t= .ok y/\e= .returned (.tuple #[Ji y,.nilIface]))∨((∀y,iW t≠.ok y)/\∃E D,e= .returned (.tuple #[Ji E,.iface 496 (Jv D)])))/\Jz w w'
theorem CU (t:JU)(w:JW)(V:t.length<=1000000000)(U:vu w):JC 277 #[.string (S t)] w (NA t w):=by
 have M:(S t).size=t.length:=bH t;have K:(S t).data.toList=t:=cW t;obtain⟨⟨Y,W,Q⟩,Z,X,T⟩:=U;cases D:iW t with
 |ok E=>
  refine(Tryz.strconv_Atoi_ok (S t) (by rw[M];omega) E (by rw[K];exact D) w).mono ?_;rintro y O ⟨rfl,H⟩;refine⟨.inl ⟨E,D,rfl⟩,?_⟩;rcases H with rfl|⟨J,rfl⟩
  ·exact ag _ _
  exact Lib.bytesWorld_below _ _ _
 | «syntax» =>
  refine(Tryz.strconv_Atoi_syntax (S t) (by rw[M];omega) (by rw[K];exact D) _ w Q (.inr ⟨_,_,rfl⟩)).mono ?_;rintro y O ⟨H,rfl,-,-,J⟩;exact⟨.inr ⟨λE y=>(by rw[D] at y;cases y),0,H,rfl⟩,J⟩
 |range=>
  refine(Tryz.strconv_Atoi_range (S t) (by rw[M];omega) (by rw[K];exact D) _ w T (.inr ⟨_,_,rfl⟩)).mono ?_;rintro y O ⟨H,rfl,-,-,J⟩;exact⟨.inr ⟨λE y=>(by rw[D] at y;cases y),_,H,rfl⟩,J⟩
theorem vl (l:JU)(w:JW)(ap:l.length<=1000000000)(ao:Pow w)(Z:vu w):
 JC 184 #[.string (S l)] w λe w'=>e= .returned (Ji (mA l))/\Jz w w':=by
 have E:=Tryz.strings_CutPrefix (S l) ⟨#[102]⟩ w;rw[cW] at E;by_cases ab:∃y,l=102 :: y;rotate_left
 ·have M:∀y,l≠102 :: y:=λy e=>ab ⟨y,e⟩;rw[show(⟨#[102]⟩:ByteArray).data.toList=[102] from rfl,(AJ M).1,(AJ M).2] at E;replace E:=Jh E;have H:=Jh (zg M);have Q:=Jh (CU l w Jo Z);go_enter Tryz.func184,Tryz.ntmps184;go_wp2_with fail;refine E.o.mono ?_;rintro aj aw ⟨rfl,rfl⟩;go_wp2_with fail;refine Q.o.mono ?_;rintro ak ac ⟨⟨D,V,rfl⟩|⟨aa,ax,ai,rfl⟩,K⟩;all_goals
   have J:=Jh K;go_wp2_with fail;go_ret;exact⟨by rw[H.o];rfl,J.o⟩
 obtain⟨y,rfl⟩:=ab;rw[show(⟨#[102]⟩:ByteArray).data.toList=[102] from rfl,(yf y).1,(yf y).2] at E;replace E:=Jh E;have Q:=Jh (CU y w (by simp at ap;omega) Z);have ae:=Jh ao;have X:=Jh (λH=>GC (t:=y) H);have Y:=Jh (λD H=>SU (t:=y) (v:=D) H);obtain⟨l,an⟩:∃l,102 :: y=l:=⟨_,rfl⟩;rw[an] at E X Y ⊢;go_enter Tryz.func184,Tryz.ntmps184;go_wp2_with fail;refine E.o.mono ?_;rintro aj aw ⟨rfl,rfl⟩;go_wp2_with fail;refine Q.o.mono ?_;rintro ak ac ⟨⟨D,V,rfl⟩|⟨aa,ax,ai,rfl⟩,K⟩
 ·obtain⟨aq,ar,au⟩:=Y.o D V;have al:=Lib.atoiAll_bounds V;have T:=Jh (xB D al.2 ac (ae.o.below K));have J:=Jh K;have af:=Jh aq;have ag:=Jh ar;have ah:=Jh au;by_cases O:cE D=l
  ·have am:((S (cE D)).toList == (S l).toList)=true:=by rw[O];simp
   by_cases U:100000000000000<=D
   ·have av:decide (100000000000000<=D)=true:=decide_eq_true U;have H:=Jh (ah.o U);go_wp2_with fail;refine T.o.mono ?_;rintro W ad ⟨rfl,M⟩;go_wp2_with fail;go_ret;exact⟨by rw[H.o];rfl,J.o.then M⟩
   have av:decide (100000000000000<=D)=false:=decide_eq_false U;have H:=Jh (af.o O Jo);go_wp2_with fail;refine T.o.mono ?_;rintro W ad ⟨rfl,M⟩;go_wp2_with fail;go_ret;exact⟨by rw[H.o];rfl,J.o.then M⟩
  have am:((S (cE D)).toList == (S l).toList)=false:=by
   rw[dY,dY,cW,cW];exact beq_eq_false_iff_ne.2 O
  have H:=Jh (ag.o O);go_wp2_with fail;refine T.o.mono ?_;rintro W ad ⟨rfl,M⟩;go_wp2_with fail;go_ret;exact⟨by rw[H.o];rfl,J.o.then M⟩
 have H:=Jh (X.o aa);have J:=Jh K;go_wp2_with fail;go_ret;exact⟨by rw[H.o];rfl,J.o⟩
def lw (w:JW)(b n:Nat)(E:JU->Bool):Prop:=
 ∃y:DataW Unit,w.ownsMap prog 9 (plainElem prog 4) b n y/\Maps.IsMap y/\∀D,y.atKey (.string D) (.lit (.bool false))= .lit (.bool (E D))
theorem lw.made (w:JW):lw (w.alloc (.map #[] 0)) w.heap.size 0 (λ_=>false):=
 ⟨.map [],World.ownsMap_made w _ _ _,Maps.isMap_empty,λ_=>rfl⟩
theorem lw.below {w w':JW}{b n:Nat}{y:JU->Bool}(h:lw w b n y)(T:Jz w w'):lw w' b n y:=by
 obtain⟨E,D,M,O⟩:=h;refine⟨E,?_,M,O⟩;have V:=D.lt;obtain⟨K,J,U,H,W,Q⟩:=D;exact⟨K,J,(T.block b V).trans U,H,W,Q⟩
theorem lw.lt {w:JW}{b n:Nat}{y:JU->Bool}(h:lw w b n y):b<w.heap.size:=by
 obtain⟨E,D,-,-⟩:=h;exact D.lt
theorem sM {P:Program}{e:TypeId}(y:P.underlying e=some .bool){v:Value}{z:DataW Unit × List MemPlace}(h:plainElem P e v=some z):∃x,v= .bool x/\z=(.lit (.bool x),[]):=by
 unfold plainElem at h;rw[y] at h;cases v<;>simp only[reduceCtorEq] at h;rename_i x;exact⟨x,rfl,(Option.some.inj h).symm⟩
theorem QL (f:JU)(y:f.length<=1000000000):keyOf prog 9 (.string (S f))=some (.string f):=by
 have:=Go.WideMaps.keyOf_string_mk (P:=prog) underlying9 (s:=S f) (by rw[bH];unfold maxLen;omega)
 rwa [cW] at this
theorem lw.look {w:JW}{b n:Nat}{D:JU->Bool}(h:lw w b n D)(f:JU)(J:f.length<=1000000000):
 (eQ 316 (.map (some b)) (.string (S f)) false).run prog w= .ok (.bool (D f)) w:=by
 obtain⟨O,E,Q,H⟩:=h;obtain⟨U,T,K,M⟩:=E.lookup (Maps.string_keyed underlying9) underlying316 (z:=.bool false) Jk (plainElem_bool underlying4 false) (QL f J);obtain⟨V,rfl,y⟩:=sM underlying4 M;rw[H f] at y;simp only[Prod.mk.injEq,DataW.lit.injEq,Lit.bool.injEq] at y;rw[K,y.1]
theorem lw.put {w:JW}{b n:Nat}{D:JU->Bool}(h:lw w b n D)(O:n<maxLen)(f:JU)(K:f.length<=1000000000):
 ∃w',(Instr.mapUpdate 316 (.map (some b)) (.string (S f)) (.bool true)).run prog w= .ok () w'/\lw w' b (n+1) (λg=>decide (g=f) || D g)/\w.grownBy w' (some b):=by
 obtain⟨U,H,E,J⟩:=h;obtain⟨w',T,Q,M⟩:=H.update (Maps.string_keyed underlying9) underlying316 O (QL f K) (plainElem_bool underlying4 true);refine⟨w',T,⟨_,Q,E.put _ _,λg=>?_⟩,M⟩;by_cases y:g=f
 ·subst y;rw[Maps.atKey_put_same E (by trivial)];simp
 rw[Maps.atKey_put_other (by simpa using y),J g];simp[y]
theorem lw.drew {w:JW}{b n:Nat}{y:JU->Bool}(h:lw w b n y):lw w.drew b n y:=h
theorem QM {P:List bL}{i:Nat}{E:JU->Bool}{p:bL}{hi:i<P.length}(K:∀g,E g=true↔∃k,∃_:k<i,∃D:k<P.length,P[k].File=g)(H:P[i]=p):
 ∀g,(decide (g=p.File) || E g)=true↔∃k,∃_:k<i+1,∃D:k<P.length,P[k].File=g:=λg=>by
 rw[Bool.or_eq_true,decide_eq_true_iff,K g];constructor
 ·rintro (rfl|⟨k,M,D,y⟩)
  ·exact⟨i,Jo,hi,by rw[H]⟩
  exact⟨k,Jo,D,y⟩
 rintro⟨k,M,D,y⟩;by_cases J:k=i
 ·subst J;rw[H] at y;exact .inl y.symm
 exact .inr ⟨k,Jo,D,y⟩
theorem ml {n m:Int}(h:0<=n/\n<=m):nZ n m=true:=by
 unfold nZ;rw[bT,decide_eq_true_iff,decide_eq_true_iff];exact h
def NI (P:List bL)(N:Int)(B n:Nat)(A:JA)(c:Nat)(s:St)(K iv:Value)(wr w:JW):Prop:=
 ∃(y:Nat)(E:Int)(H:JU->Bool),iv=Ji y/\K=Ji E/\y<=n/\((y=0/\E= -1)∨∃D,y=D+1/\∃J:D<P.length,E=P[D].Day)/\(∀D,D<y->(J:D<P.length)->qX P N D J)/\
  lw wr (B+1) y H/\(∀E,H E=true↔∃D,∃_:D<y,∃J:D<P.length,P[D].File=E)/\wr.heap[B]?=some (.cells (UW A n c s) 83 (0,0))/\Below B w wr
theorem GB (A:JA)(n c:Nat)(s:St)(w:JW)(hr:Rd w 3 A n (s.Parts.flatMap aU))(aY:s.Parts.length=n)(bV:n<=100000)(am:∀p∈s.Parts,p.File.length<=1000000)(ap:Pow w)(bh:vu w)(bg:eV s):
 JC 93 #[dH A n c s] w (wO s w):=by
 obtain⟨T,y⟩:=Je w.heap.size;obtain⟨H,D,K,Z,O,E,J⟩:=s;unfold dH;simp only at hr aY am ⊢;have Q:=Jh bg;clear bg;obtain⟨al,V,bO,U,ak⟩:∃al,w.alloc (.cells (UW A n c ⟨H,D,K,Z,O,E,J⟩) 83)=al/\al.heap.size=T+1/\Below T w al/\al.heap[T]?=some (.cells (UW A n c ⟨H,D,K,Z,O,E,J⟩) 83 (0,0)):=
  ⟨_,rfl,by simp[y],y▸Below.one _ _,by rw[<-y];exact heap_alloc_new _ _⟩
 obtain⟨aQ,W,M,aA⟩:∃aQ,al.alloc (.map #[] 0)=aQ/\Below al.heap.size al aQ/\lw aQ (T+1) 0 (λ_=>false):=⟨_,rfl,Below.one _ _,by rw[<-bO];exact lw.made al⟩;have bf:=Jh hr;have av:=Jh aY;have bo:=Jh am;have aq:=Jh y;have br:=Jh ap;have bn:=Jh bh;have aM:=(M.block T Jo).trans ak;have aR:=Jh (Ja aA (Ja aM (U.trans (M.mono Jo))));obtain⟨aE,aF,aG,aH,aI,aJ,aK,-⟩:=seven aM;have X:=@run_makeMap prog;clear hr aY am U ak ap bh M aA aM;go_enter Tryz.func93,Tryz.ntmps93;go_wp2_with fail;try simp only[V,W]
 clear V W y aE aF aG aH aI aJ aK X;go_loopw [4,15] (λM y wr=>NI H D T n A c ⟨H,D,K,Z,O,E,J⟩ M y wr w) (λ_ y _=>n - (intOf y).toNat)
 case atStart=>exact⟨0,-1,λ_=>false,rfl,rfl,bj _,.inl ⟨rfl,rfl⟩,(λX an=>absurd an Jo),aR.o.1,(λaC=>⟨(λy=>by cases y),(λ⟨aj,ao,_⟩=>absurd ao Jo)⟩),aR.o.2.1,aR.o.2.2⟩
 obtain⟨ad,aZ,aV,rfl,rfl,bT,aN,aO,aP,aL,ak,aw⟩:=hrel;obtain⟨aE,aF,aG,aH,aI,aJ,aK,-⟩:=seven ak;by_cases bW:ad<n
 ·have aD:ad<H.length:=Jw av.o;have aM:(ad:Int)<n:=Jo;obtain⟨bR,bY,rfl,bd,aW,aX,a6⟩:=mh (bf.o.below (by rw[aq.o];exact aw)) aD;obtain⟨ax,ai⟩:∃p,H[ad]=p:=⟨_,rfl⟩;rw[ai] at aW aX a6;have am:ax.File.length<=1000000000:=Jw (bo.o ax (by rw[<-ai];exact ah aD));have Q:eV ⟨H,D,K,Z,O,E,J⟩->qX H D ad aD:=λy=>AB y aD;unfold qX at Q;simp only[ai] at Q;have ay:eV ⟨H,D,K,Z,O,E,J⟩->aZ<ax.Day:=λy=>by
   have M:=(Q y).1;have az:=(Q y).2.2.2.2.1;rcases aN with⟨rfl,rfl⟩|⟨X,rfl,ag,rfl⟩
   ·have:=M.1;omega
   exact az X rfl ag
  obtain⟨ae,af,Y⟩:=ax;obtain⟨aB,aa⟩:=Je (mA Y);simp only[aa] at Q;simp only at aW aX a6 am ay;have aT:=Jh ai;have bu:=Jh aa;obtain⟨ab,bL⟩:∃U,wr.heap.size=U:=⟨_,rfl⟩;have bS:T+2<=ab:=Jw aP.lt;obtain⟨au,a7,M,ac⟩:∃V,wr.alloc (.cells #[Ji ae,Ji af,.string (S Y)] 76)=V/\Jz wr V/\V.heap[ab]?=some (.cells #[Ji ae,Ji af,.string (S Y)] 76 (0,0)):=
   ⟨_,rfl,Below.one _ _,by rw[<-bL];exact heap_alloc_new _ _⟩
  have bc:=(M.block T Jo).trans ak;have aA:=aP.below M;have W:Below T w au:=aw.trans (M.mono Jo);have bP:ab<au.heap.size:=(Jl ac);have aS:=vl Y au am (br.o.below (W.mono (Nat.le_of_eq aq.o))) (bn.o.below (W.mono (Nat.le_of_eq aq.o)));rw[aa] at aS;have bq:=Jh aS;obtain⟨p0,a1,be,-⟩:=three ac;have bb:=Jh aO;have ar:=Jh Q;have bm:=Jh ay;have ba:=Jh aN;have bv:=Jh aA;have bz:=Jh bc;have bC:=Jh ac;have bt:=Jh W;have a8:=Jh am;clear ai aa aw aO aN ac bc aS Q ay aP aA M W ak am;go_wp2_with fail;try simp only[a7]
  clear a7;refine bq.o.mono ?_;rintro aa W ⟨rfl,M⟩;clear aW aX a6 bd aE aF aG aH aI aJ aK p0 a1 be;have ay:=(M.block T Jo).trans bz.o;have aW:=(M.block ab bP).trans bC.o;have ac:=bv.o.below M;have bN:=ac.look Y a8.o;obtain⟨bE,bF,bG,bH,bI,bJ,bK,-⟩:=seven ay;obtain⟨p0,a1,be,-⟩:=three aW;have bw:=Jh ac;have bA:=Jh ay;have bD:=Jh aW;have bl:=Jh (show Below w.heap.size w W by rw[aq.o];exact bt.o.trans (M.mono Jo));have bX:au.heap.size<=W.heap.size:=M.size;have aX:=Jh (aL Y);have bp:=Jh aL;clear aL;have aS:=Jh (λw=>iE af 1 w);rw[nG] at aS;clear M ay aW ac;by_cases a6:ae<=aZ
  ·have M:=Jh (show ¬eV ⟨H,D,K,Z,O,E,J⟩ from λy=>Jw (bm.o y));exact absurd Q.o M.o
  have b2:decide (ae<=aZ)=false:=decide_eq_false a6;by_cases a7:17179869184<=ae
  ·have M:=Jh (show ¬eV ⟨H,D,K,Z,O,E,J⟩ from λy=>Jw ((ar.o y).1.2));exact absurd Q.o M.o
  have b3:decide (17179869184<=ae)=false:=decide_eq_false a7;by_cases ac:¬kg af
  ·have M:=Jh (show ¬eV ⟨H,D,K,Z,O,E,J⟩ from λy=>ac (ar.o y).2.1);exact absurd Q.o M.o
  replace ac:kg af:=Decidable.not_not.1 ac;rw[decide_eq_true ac] at aS;by_cases bc:aB<0
  ·have M:=Jh (show ¬eV ⟨H,D,K,Z,O,E,J⟩ from λy=>Jw ((ar.o y).2.2.1));exact absurd Q.o M.o
  have b4:decide (aB<0)=false:=decide_eq_false bc;by_cases bd:D<=aB
  ·have M:=Jh (show ¬eV ⟨H,D,K,Z,O,E,J⟩ from λy=>Jw ((ar.o y).2.2.2.1));exact absurd Q.o M.o
  have b5:decide (D<=aB)=false:=decide_eq_false bd;by_cases aW:aV Y=true
  ·have M:=Jh (show ¬eV ⟨H,D,K,Z,O,E,J⟩ from λy=>by
    obtain⟨aj,ao,bM,aa⟩:=aX.o.1 aW;exact(ar.o y).2.2.2.2.2 aj ao aa)
   exact absurd Q.o M.o
  have bi:=Jh (show 0<=ae by
   rcases ba.o with⟨-,aa⟩|⟨X,an,ag,aa⟩
   ·omega
   have:=(bb.o X Jo ag).1.1;omega)
  have ay:aV Y=false:=by simpa using aW
  rw[ay] at bN;have bk:=Jh (show qX H D ad (Jw av.o) by
   unfold qX;rw[aT.o];simp only[bu.o];refine⟨⟨bi.o,Jo⟩,ac,Jo,Jo,λX an ag=>?_,λaj ao aa=>?_⟩
   ·rcases ba.o with⟨rfl,-⟩|⟨bx,bQ,bU,bB⟩
    ·omega
    obtain rfl:bx=X:=Jo;omega
   have:=aX.o.2 ⟨aj,ao,(Jw av.o),aa⟩;rw[this] at ay;cases ay)
  clear a6 a7 ac bc bd aW ay;obtain⟨bQ,bU,ay,ac⟩:=bw.o.drew.put Jm Y a8.o;have bc:=Jh ((show Below T w W by have:=bl.o;rw[aq.o] at this;exact this).drew.grown ac (by show T<=W.heap.size;omega) (λaj ao=>by cases ao;omega));have aW:=(ac.block T (by show T<W.heap.size;omega) Js).trans bA.o;have a6:=(ac.block ab (by show ab<W.heap.size;omega) (by simp;omega)).trans bD.o;obtain⟨bZ,b0,b1,-⟩:=three a6;have bB:=Jh aW;have bx:=Jh ay;have bd:=Jh (show ∀aC,(decide (aC=Y) || aV aC)=true↔∃aj,∃ao:aj<ad+1,∃bM:aj<H.length,H[aj].File=aC from QM bp.o aT.o);clear aW a6 ay ac;go_wp2_with fail;refine(aS.o _).mono ?_;rintro ac a7 ⟨rfl,rfl⟩;go_wp2_with fail;go_region;all_goals
   go_wp2_with fail;go_roundw
   case rel=>
    refine⟨ad+1,ae,_,by go_num,rfl,Jo,.inr ⟨ad,rfl,Jw av.o,by rw[aT.o]⟩,λX an ag=>?_,bx.o,bd.o,bB.o,bc.o⟩;by_cases aa:X=ad
    ·subst aa;exact bk.o
    exact bb.o X Jo ag
   simp[intOf];omega
 obtain rfl:ad=n:=Jo;have ba:=Jh (show ∀X,(an:X<H.length)->qX H D X an from λX an=>aO X (Jw av.o) an);have ar:=fw O A c ad ⟨H,D,K,Z,O,E,J⟩ wr (bf.o.below (by rw[aq.o];exact aw)) av.o Jo;obtain⟨a6,W⟩:=Je (eh H O);obtain⟨p,ai⟩:=Je (a6.getD p0);obtain⟨bi,ab⟩:=Je a6.isSome;unfold dH at ar;simp only[W,ai,ab] at ar;obtain⟨ae,af,Y⟩:=p;unfold fL at ar;simp only at ar;replace ar:=Jh ar;have bd:=Jh W;have bm:=Jh ai;have be:=Jh ab;have bl:=Jh (show Below w.heap.size w wr by rw[aq.o];exact aw);have bq:=Jh ak;have bp:=Jh (show T<wr.heap.size from(Jl ak));clear aO aP aL ak aw aN W ai ab;go_wp2_with fail;refine ar.o.mono ?_;rintro aa a7 ⟨rfl,ab⟩;obtain⟨bt,bu⟩:∃U,a7.heap.size=U:=⟨_,rfl⟩;obtain⟨bC,bD,W,ac⟩:∃V,a7.alloc (.cells #[Ji ae,Ji af,.string (S Y)] 76)=V/\Below wr.heap.size wr V/\V.heap[bt]?=some (.cells #[Ji ae,Ji af,.string (S Y)] 76 (0,0)):=⟨_,rfl,ab.then (Below.one _ _),by rw[<-bu];exact heap_alloc_new _ _⟩;have bb:=Jh (bl.o.then W);have V:=(W.block T bp.o).trans bq.o;clear aE aF aG aH aI aJ aK;obtain⟨bE,bF,bG,bH,bI,bJ,bK,-⟩:=seven V;obtain⟨-,a1,-,-⟩:=three ac;have aS:=Jh (λw=>iE E 1 w);rw[nG] at aS;have a8:=Jh (λw=>iE J 5000 w);have aC:=Jh (λw=>iE D 1099511627776 w)
 have aD:=Jh (λw=>iE K 1099511627776 w);clear ab W ac V;cases Z with
 |false=>
  by_cases ab:¬O=0
  ·have M:=Jh (show ¬eV ⟨H,D,K,false,O,E,J⟩ from λy=>ab (y.vL rfl).1);exact absurd Q.o M.o
  replace ab:O=0:=Decidable.not_not.1 ab;have bk:(O == 0)=true:=beq_iff_eq.2 ab;by_cases ag:¬E=0
  ·have M:=Jh (show ¬eV ⟨H,D,K,false,O,E,J⟩ from λy=>ag (y.vL rfl).2.1);exact absurd Q.o M.o
  replace ag:E=0:=Decidable.not_not.1 ag;have aW:(E == 0)=true:=beq_iff_eq.2 ag;by_cases ac:¬J=0
  ·have M:=Jh (show ¬eV ⟨H,D,K,false,O,E,J⟩ from λy=>ac (y.vL rfl).2.2);exact absurd Q.o M.o
  replace ac:J=0:=Decidable.not_not.1 ac;have aX:(J == 0)=true:=beq_iff_eq.2 ac;have au:=Jh (Ja ab (Ja ag ac));clear ab ag ac;by_cases V:¬(0<=D/\D<=1099511627776)
  ·have M:=Jh (show ¬eV ⟨H,D,K,false,O,E,J⟩ from λy=>V ⟨y.n0,y.n1⟩);exact absurd Q.o M.o
  replace V:0<=D/\D<=1099511627776:=Decidable.not_not.1 V;rw[ml V] at aC;by_cases W:¬(0<=K/\K<=1099511627776)
  ·have M:=Jh (show ¬eV ⟨H,D,K,false,O,E,J⟩ from λy=>W ⟨y.p0,y.p1⟩);exact absurd Q.o M.o
  replace W:0<=K/\K<=1099511627776:=Decidable.not_not.1 W;rw[ml W] at aD;have aT:=Jh (show eV ⟨H,D,K,false,O,E,J⟩ from Kb V.1 V.2 W.1 W.2 ba.o (λ_=>au.o) (λy=>by cases y));clear V W;go_wp2_with fail;all_goals
   refine(aC.o _).mono ?_;rintro ay aB ⟨rfl,rfl⟩;go_wp2_with fail;refine(aD.o _).mono ?_;rintro ay aB ⟨rfl,rfl⟩;go_wp2_with fail;go_ret;exact wO.yes aT.o bb.o
 |true=>
  cases a6 with
  |none=>
   obtain rfl:false=bi:=be.o;obtain⟨bz,bv⟩:∃U,(O == 0)=U:=⟨_,rfl⟩;obtain⟨bA,bw⟩:∃U,(E == 0)=U:=⟨_,rfl⟩;obtain⟨bB,bx⟩:∃U,(J == 0)=U:=⟨_,rfl⟩;have M:=Jh (show ¬eV ⟨H,D,K,true,O,E,J⟩ from λy=>by
    obtain⟨p,ap,-⟩:=y.conv rfl;have aa:=bd.o.symm.trans ap;cases aa)
   exact absurd Q.o M.o
  |some ax=>
   obtain rfl:true=bi:=be.o;obtain rfl:ax=⟨ae,af,Y⟩:=bm.o;have bc:=bd;obtain⟨bz,bv⟩:∃U,(O == 0)=U:=⟨_,rfl⟩;obtain⟨bA,bw⟩:∃U,(E == 0)=U:=⟨_,rfl⟩;obtain⟨bB,bx⟩:∃U,(J == 0)=U:=⟨_,rfl⟩;by_cases ab:¬kg E
   ·have M:=Jh (show ¬eV ⟨H,D,K,true,O,E,J⟩ from λy=>by
     obtain⟨p,ap,az,U,aW,aX⟩:=y.conv rfl;exact ab az)
    exact absurd Q.o M.o
   replace ab:kg E:=Decidable.not_not.1 ab;rw[decide_eq_true ab] at aS;by_cases ag:af=E
   ·have M:=Jh (show ¬eV ⟨H,D,K,true,O,E,J⟩ from λy=>by
     obtain⟨p,ap,az,U,aW,aX⟩:=y.conv rfl;have aa:=bc.o.symm.trans ap;cases aa;exact U ag)
    exact absurd Q.o M.o
   have bk:(af == E)=false:=beq_eq_false_iff_ne.2 ag;have bL:(af != E)=true:=by rw[bne,bk];rfl
   by_cases ac:¬(0<=J/\J<=5000)
   ·have M:=Jh (show ¬eV ⟨H,D,K,true,O,E,J⟩ from λy=>by
     obtain⟨p,ap,az,U,aW,aX⟩:=y.conv rfl;exact ac ⟨aW,aX⟩)
    exact absurd Q.o M.o
   replace ac:0<=J/\J<=5000:=Decidable.not_not.1 ac;rw[ml ac] at a8;have au:=Jh (Ja ab (Ja ag ac));clear ab ag ac;by_cases V:¬(0<=D/\D<=1099511627776)
   ·have M:=Jh (show ¬eV ⟨H,D,K,true,O,E,J⟩ from λy=>V ⟨y.n0,y.n1⟩);exact absurd Q.o M.o
   replace V:0<=D/\D<=1099511627776:=Decidable.not_not.1 V;rw[ml V] at aC;by_cases W:¬(0<=K/\K<=1099511627776)
   ·have M:=Jh (show ¬eV ⟨H,D,K,true,O,E,J⟩ from λy=>W ⟨y.p0,y.p1⟩);exact absurd Q.o M.o
   replace W:0<=K/\K<=1099511627776:=Decidable.not_not.1 W;rw[ml W] at aD;have aT:=Jh (show eV ⟨H,D,K,true,O,E,J⟩ from Kb V.1 V.2 W.1 W.2 ba.o (λy=>by cases y) (λ_=>⟨_,bc.o,au.o.1,au.o.2.1,au.o.2.2.1,au.o.2.2.2⟩));clear V W;go_wp2_with fail;all_goals
    refine(aS.o _).mono ?_;rintro ay aB ⟨rfl,rfl⟩;go_wp2_with fail;refine(a8.o _).mono ?_;rintro ay aB ⟨rfl,rfl⟩;go_wp2_with fail;refine(aC.o _).mono ?_;rintro ay aB ⟨rfl,rfl⟩;go_wp2_with fail;refine(aD.o _).mono ?_;rintro ay aB ⟨rfl,rfl⟩;go_wp2_with fail;go_ret;exact wO.yes aT.o bb.o
def NB (y:Nat)(w:JW)(k:Nat):Prop:=k<w.heap.size/\(k<y∨∀D E,w.heap[k]?≠some (.cells D 5 E))
theorem NB.old (y:Nat)(w:JW):gm (NB y w) w:=λ_ D=>D.1
def lT (y b:Nat)(l:JU)(w:JW):Prop:=y<=b/\ue (NB y w) b 228 [] l w
def Kp (y b:Nat)(w w':JW):Prop:=Beside (NB y w) b w w'
theorem An {R:Nat->Prop}{e:TypeId}{size n:Nat}{v:Value}{xs:List Value}{w:JW}(h:bP R e size v n xs w){g:Nat}(D:v.ownBlock=some g):∃y,w.heap[g]?=some (.cells y e (0,0)):=by
 obtain⟨⟨-,H⟩,-⟩:=h;rcases H with⟨rfl,-⟩|⟨E,K,y,rfl,-,J,-⟩
 ·simp[aG] at D
 have:E=g:=by simpa [aG] using D
 subst this;exact⟨y,J⟩
theorem FI {y b:Nat}{l:JU}{R:Nat->Prop}{w:JW}(h:ue R b 228 [] l w)(Q:y<=b)(O:∀k,k<y->R k):lT y b l w:=by
 obtain⟨-,U,W,X,V,E,H⟩:=h;refine⟨Q,⟨?_,.inr λT Y D=>?_⟩,U,W,X,V,E,H.shift λJ K M=>?_⟩
 ·exact(Jl E)
 ·rw[E] at D;simp at D
 obtain⟨Y,T⟩:=An H K;rcases M.2 with D|D
 ·exact H.2 J K (O J D)
 exact D _ _ T
theorem lT.new (w:JW)(D:Nat)(hB:D<=w.heap.size):lT D w.heap.size [] (w.alloc (.cells #[.pointer none,Jn] 228)):=by
 have E:=heap_alloc_new w (.cells #[.pointer none,Jn] 228);refine FI (R:=λy=>y<w.heap.size+1) (kL E jh (by show _<_;omega)) hB λy H=>by show y<_;omega
theorem Kp.refl (y b:Nat)(w:JW):Kp y b w w:=Beside.refl _ _ _
theorem Kp.trans {y b:Nat}{a c d:JW}(h:Kp y b a c)(k:Kp y b c d):Kp y b a d:=by
 refine⟨k.os.trans h.os,k.tape.trans h.tape,k.output.trans h.output,ap h.size k.size,λJ E D=>?_⟩;have H:=h.block J E D;refine(k.block J ⟨ai E.1 h.size,?_⟩ D).trans H;rcases E.2 with D|D
 ·exact .inl D
 exact .inr λE K J=>D E K (H.symm.trans J)
theorem Kp.below {y b:Nat}{w w':JW}(h:Jz w w'):Kp y b w w':=⟨h.os,h.tape,h.output,h.size,λE D _=>h.block E D.1⟩
theorem Kp.cells {H b:Nat}{w w':JW}(h:Kp H b w w'){k:Nat}{cs:Array Value}{y:TypeId}{f:Nat × Nat}(E:w.heap[k]?=some (.cells cs y f))(J:y≠5)(K:k≠b):w'.heap[k]?=some (.cells cs y f):=
 (h.block k ⟨(Jl E),.inr λM O D=>by rw[E] at D;simp at D;exact J D.2.1⟩ K).trans E
theorem Kp.old {y b:Nat}{w w':JW}(h:Kp y b w w'){k:Nat}(E:k<y)(H:k<w.heap.size)(D:k≠b):w'.heap[k]?=w.heap[k]?:=h.block k ⟨H,.inl E⟩ D
theorem Kp.to {y b:Nat}{H w w':JW}(h:Kp y b w w')(K:y<=b)(D:Below y H w)(M:y<=w.heap.size):Below y H w':=
 ⟨h.os.trans D.os,h.tape.trans D.tape,h.output.trans D.output,ap D.size h.size,λJ E=>(h.old E Jo Jo).trans (D.block J E)⟩
theorem lT.below {y b:Nat}{l:JU}{w w':JW}(h:lT y b l w)(K:Jz w w'):lT y b l w':=by
 obtain⟨Q,-,U,Y,Z,X,H,J⟩:=h;have W:=(Jl H);refine FI (R:=λD=>D<y∨D=b) ⟨.inr rfl,U,Y,Z,X,(K.block b W).trans H,(J.below K).shift λO M T=>?_⟩ Q λD E=>.inl E;obtain⟨aa,E⟩:=An J M;have V:=(Jl E);rcases T with D|D
 ·exact J.2 O M ⟨V,.inl D⟩
 subst D;rw[H] at E;simp at E
theorem TE (y b:Nat)(l m:JU)(w:JW)(h:lT y b l w)(hB:y<=w.heap.size)(J:l.length+m.length<1000000000):
 JC 107 #[Jv b,.string (S m)] w λe w'=>(∃v,e= .returned v)/\lT y b (l ++ m) w'/\Kp y b w w':=by
 refine(jt (NB y w) b _ [] l (S m) w h.2 (by rw[bH];omega) (NB.old y w)).mono ?_;rintro e w' ⟨H,E,D,-⟩;rw[cW] at E;exact⟨H,FI E h.1 λK D=>⟨Jo,.inl D⟩,D⟩
theorem QR (y b:Nat)(l:JU)(w:JW)(h:lT y b l w):
 JC 109 #[Jv b] w λe w'=>e= .returned (.string (S l))/\Kp y b w w':=by
 refine(iC (NB y w) b _ [] l w h.2 (NB.old y w)).mono ?_;rintro e w' ⟨D,E⟩;exact⟨D,E.beside⟩
def Ca (L:List Nat):List Value:=L.map λ(y:Nat)=>cY .i64 (y:Int)
theorem rz (L:List Nat)(h:∀x∈L,x<18446744073709551616):(L.flatMap uint).length<=10*L.length:=by
 induction L with
 |nil=>simp
 |cons x L D=>
  have H:=bA (h x (az ..));have J:=D λE y=>h E (aC _ y);rw[aE,ab,ak];omega
theorem qY (D b g c:Nat)(l:JU)(L:List Nat)(w:JW)(h:lT D b l w)(hB:D<=w.heap.size)(V:w.heap[g]?=some (.cells (Ca L).toArray 3 (0,0)))(al:∀x∈L,x<9223372036854775808)(ay:L.length<=1000000)(aE:l.length<=100000000):
 JC 245 #[.slice (some (Jp g 0)) L.length c,Jv b] w λe w'=>(∃v,e= .returned v)/\lT D b (l ++ L.flatMap uint) w'/\Kp D b w w':=by
 obtain⟨E,X⟩:=Je L.length;rw[X] at ay ⊢;have aq:g≠b:=by
  obtain⟨-,-,-,H,v,-,y,-⟩:=h;rintro rfl;rw[V] at y;simp at y
 have U:=Jh X;have T:=Jh al;have Z:=Jh hB;have ad:=Jh V;have Y:=Jh h;have ai:=Jh aq;go_enter Tryz.func245,Tryz.ntmps245;go_wp2_with fail;go_loopw [7] (λH wr=>∃y:Nat,H=Ji y/\y<=E/\lT D b (l ++ (L.take y).flatMap uint) wr/\Kp D b w wr) (λH _=>E - (intOf H).toNat)
 case atStart=>exact⟨0,rfl,bj _,by simpa using Y.o,Kp.refl _ _ _⟩
 obtain⟨y,rfl,aC,K,O⟩:=hrel;by_cases aG:y<E;rotate_left
 ·obtain rfl:y=E:=Jo;have J:=Jh (show lT D b (l ++ L.flatMap uint) wr by rw[aw (by rw[U.o];exact ac _)] at K;exact K);have H:=Jh O;go_wp2_with fail;go_end0;exact⟨⟨_,rfl⟩,J.o,H.o⟩
 have W:y<L.length:=Jw U.o;have aD:(y:Int)<E:=Jo;have ar:=O.cells ad.o Jd ai.o;obtain⟨x,Q⟩:=Je (L[y]);have aI:x<9223372036854775808:=T.o x (by rw[<-Q];exact ah W);have aJ:wr.cell? (Jp g y)=some (Ji x):=by
  rw[aa ar];simp[Ca,W,Q]
 have ap:(L.take (y+1)).flatMap uint=(L.take y).flatMap uint ++ uint x:=by
  rw[show L.take (y+1)=L.take y ++ [L[y]] by rw[bc],ao,Q];simp
 have aH:IntKind.u64.wrap (x:Int)=(x:Int):=bJ _ Jo;have ae:=Jh (λw=>eY x w Jo);have ax:(l ++ (L.take y).flatMap uint).length+(uint x).length<1000000000:=by
  have H:=rz (L.take y) λM J=>Jw (T.o M (eG J));have J:=bA (n:=x) Jo;rw[aF] at H;rw[ab];omega
 have J:=Jh K;have H:=Jh O;have ag:=Jh ap;have ak:=Jh ax;go_wp2_with fail;refine(ae.o _).mono ?_;rintro aA az ⟨rfl,M⟩;have am:=J.o.below M;go_wp2_with fail;refine(TE D b _ (uint x) az am (by have:=Z.o;have:=H.o.size;have:=M.size;omega) ak.o).mono ?_;rintro aB aK ⟨⟨v,rfl⟩,an,av⟩;have af:=Jh an;have aj:=Jh ((H.o.trans (Kp.below M)).trans av);go_wp2_with fail;go_roundw
 case rel=>exact⟨y+1,by go_num,Jo,by rw[ag.o,<-au];exact af.o,aj.o⟩
 simp[intOf];omega
def oJ (p:bL):List Nat:=[p.Day.toNat,p.Layout.toNat,(mA p.File).toNat]
def Lf (s:St):List Nat:=if s.On=true then[1,s.Day.toNat,s.To.toNat,s.Done.toNat] else[0]
def Dz (s:St):List Nat:=s.Parts.length :: (s.Parts.flatMap oJ ++ ([s.Next.toNat,s.Past.toNat] ++ Lf s))
def iG (s:St):JU:=(Dz s).flatMap uint
theorem oH {s:St}(h:eV s){p:bL}(M:p∈s.Parts):0<=p.Day/\p.Day<17179869184/\0<=p.Layout/\p.Layout<=1/\0<=mA p.File/\mA p.File<1099511627776/\p.File=cE (mA p.File):=by
 obtain⟨O,K,rfl⟩:=bz M;obtain⟨y,D,E,Q,-,-⟩:=AB h K;have T:=h.n1;obtain⟨U,H,J,-⟩:=AA (l:=s.Parts[O].File) Jo;refine⟨y.1,y.2,?_,?_,E,Jo,by rw[H];exact J⟩<;>(rcases D with h|h<;>omega)
theorem FX {s:St}(h:eV s)(X:s.Parts.length<=1000000):∀x∈Dz s,x<=1099511627776:=by
 intro x y;unfold Dz at y;rw[dh,List.mem_append,List.mem_append,List.mem_flatMap] at y;rcases y with rfl|⟨T,E,y⟩|y|y
 ·omega
 ·obtain⟨H,J,U,K,M,V,-⟩:=oH h E;simp only[oJ,dh,di,or_false] at y;rcases y with rfl|rfl|rfl<;>omega
 ·have:=h.n0;have:=h.n1;have:=h.p0;have:=h.p1;simp only[dh,di,or_false] at y;rcases y with rfl|rfl<;>omega
 unfold Lf at y;split at y
 ·rename_i Q;obtain⟨T,E,D,-,K,M⟩:=h.conv Q;obtain⟨O,W⟩:=zT E;obtain⟨H,J,-⟩:=oH h O;simp only[dh,di,or_false] at y;rcases y with rfl|rfl|rfl|rfl
  ·omega
  ·omega
  ·rcases D with D|D<;>omega
  omega
 simp only[dh,di,or_false] at y;omega
theorem tJ (p:bL):(oJ p).length=3:=rfl
def Rm (s:St)(w:JW)(e:Ending)(w':JW):Prop:=
 ((eV s/\e= .returned (.tuple #[.string (S (iG s)),Ji 0]))∨(¬eV s/\e= .returned (.tuple #[.string ⟨#[]⟩,Ji 170])))/\Jz w w'
theorem ot:∀l:List bL,(l.flatMap oJ).length=3*l.length
 |[]=>rfl
 |p :: l=>by rw[aE,ab,tJ,ot l,ak];omega
def pU (n:Nat)(P:List bL)(i:Nat):List Nat:=n :: (P.take i).flatMap oJ
theorem AH {P:List bL}{N K:Int}{J:Bool}{H M O:Int}(h:eV ⟨P,N,K,J,H,M,O⟩){n i:Nat}(Z:P.length=n)(Y:n<=100000)(hi:i<=n):((pU n P i).flatMap uint).length<=10000000:=by
 have D:∀E∈pU n P i,E<18446744073709551616:=by
  intro E y;unfold pU at y;rw[dh,List.mem_flatMap] at y;rcases y with rfl|⟨aa,U,y⟩
  ·omega
  obtain⟨D,Q,T,V,W,X,-⟩:=oH h (eG U);simp only[oJ,dh,di,or_false] at y;rcases y with rfl|rfl|rfl<;>omega
 have Q:=rz _ D;have T:(pU n P i).length=3*i+1:=by
  unfold pU;rw[ak,ot,aF];omega
 omega
theorem Kc {P:List bL}{N E:Int}{D:Bool}{y H J:Int}(h:eV ⟨P,N,E,D,y,H,J⟩){n i:Nat}(M:P.length=n)(K:n<=100000)(hi:i<=n):((pU n P i).flatMap uint).length<=100000000:=ap (AH h M K hi) Jd
def Ue (D E n:Nat)(P:List bL)(H:JW)(iv:Value)(wr:JW):Prop:=
 ∃y:Nat,iv=Ji y/\y<=n/\lT D E ((pU n P y).flatMap uint) wr/\Kp D E H wr
theorem BZ (A:JA)(n c:Nat)(s:St)(w:JW)(hr:Rd w 3 A n (s.Parts.flatMap aU))(aZ:s.Parts.length=n)(b1:n<=100000)(az:∀p∈s.Parts,p.File.length<=1000000)(aq:Pow w)(bg:vu w)(be:eV s):
 JC 156 #[dH A n c s] w (Rm s w):=by
 obtain⟨H,bd⟩:∃y,w.heap.size=y:=⟨_,rfl⟩;obtain⟨D,M,O,aL,Q,T,U⟩:=s;have E:=λ(aa:JW)(y:Jz w aa)=>GB A n c ⟨D,M,O,aL,Q,T,U⟩ aa (hr.below y) aZ Jo az (aq.below y) (bg.below y) be;unfold dH at E ⊢;simp only at hr aZ az E ⊢;obtain⟨aN,X,b4,J,K⟩:∃aN,w.alloc (.cells (UW A n c ⟨D,M,O,aL,Q,T,U⟩) 83)=aN/\aN.heap.size=H+1/\Jz w aN/\aN.heap[H]?=some (.cells (UW A n c ⟨D,M,O,aL,Q,T,U⟩) 83 (0,0)):=
  ⟨_,rfl,by simp[bd],Below.one _ _,by rw[<-bd];exact heap_alloc_new _ _⟩
 have bC:=Jh be;have bE:=Jh hr;have aG:=Jh aZ;have bA:=Jh az;have aK:=Jh bd;have bD:=Jh aq;have bz:=Jh bg;have bv:=Jh (E aN J);have bt:=Jh J;have bH:=Jh K;obtain⟨ae,af,ai,aj,al,am,ap,-⟩:=seven K;have b3:∀(W:Fn)(first V:Array Value)(w:JW),(cO W first V).run prog w= .ok (.func W first V) w:=λ_ _ _ _=>rfl;clear hr aZ az J K aq bg E be;go_enter Tryz.func156,Tryz.ntmps156;go_wp2_with fail;try simp only[X]
 clear X;refine bv.o.mono ?_;rintro bS aV ⟨V,rfl,bf,aW⟩;cases V with
 |false=>
  have E:=Jh (show ¬eV ⟨D,M,O,aL,Q,T,U⟩ from λy=>by have:=bf.2 y;cases this);exact absurd bC.o E.o
 |true=>
  have Z:=Jh (bf.1 rfl);have aC:=(aW.block H Jo).trans bH.o;obtain⟨K,ar⟩:∃V,aV.heap.size=V:=⟨_,rfl⟩;have bZ:H<K:=Jw aW.size;obtain⟨ax,J,Y,av⟩:∃y,aV.alloc (.cells #[.pointer none,Jn] 228)=y/\Below aV.heap.size aV y/\lT H K [] y:=⟨_,rfl,Below.one _ _,by rw[<-ar];exact lT.new aV H Jo⟩;have aH:ax.heap.size=K+1:=by rw[<-J,<-ar];simp
  have ay:=(Y.block H Jo).trans aC;have ad:=Jh (show Below H w ax by have:=bt.o.then (aW.then Y);rw[aK.o] at this;exact this);have X:=Jh (show H<=K by omega);have aD:=Jh (show K<ax.heap.size by omega);have a7:=Jh (show H≠K by omega);have a8:=Jh ay;have bR:=Jh av;obtain⟨bp,aB⟩:∃V,ax.heap.size=V:=⟨_,rfl⟩;obtain⟨bI,aA,E,aF⟩:∃y,ax.alloc (.cells #[Ji n] 3)=y/\Below ax.heap.size ax y/\y.heap[bp]?=some (.cells #[Ji n] 3 (0,0)):=⟨_,rfl,Below.one _ _,by rw[<-aB];exact heap_alloc_new _ _⟩;have bx:=Jh (qY H K bp 1 [] [n] bI (av.below E) (Jw E.size) (by exact aF) (by intro aJ W;simp at W;omega) Js Js);have br:=Jh E;clear ae af ai aj al am ap;obtain⟨ae,af,ai,aj,al,am,ap,-⟩:=seven ay;clear bf aW aC Y av ay E aF aH;go_wp2_with fail;try simp only[J,aA]
  clear J aA aB ar;refine bx.o.mono ?_;rintro bU bQ ⟨⟨b7,rfl⟩,E,J⟩;have bu:=Jh (show lT H K ((pU n D 0).flatMap uint) bQ by simpa [pU] using E);have bl:=Jh ((Kp.below br.o).trans J);clear E J;have E:=bl.o.cells a8.o Jd a7.o;clear ae af ai aj al am ap;obtain⟨ae,af,ai,aj,al,am,ap,-⟩:=seven E;clear E;go_wp2_with fail;clear ae af ai aj al am ap;go_loopw [21] (λE wr=>Ue H K n D ax E wr) (λE _=>n - (intOf E).toNat)
  case atStart=>exact⟨0,rfl,bj _,bu.o,bl.o⟩
  obtain⟨E,rfl,bN,aY,aA⟩:=hrel;have bq:=aA.cells a8.o Jd a7.o;obtain⟨ae,af,ai,aj,al,am,ap,-⟩:=seven bq;by_cases b2:E<n
  ·have ay:E<D.length:=Jw aG.o;have b0:(E:Int)<n:=Jo;have aI:=aA.to X.o ad.o (by have:=ad.o.size;have:=X.o;have:=aD.o;omega);obtain⟨bX,b5,rfl,bM,aO,aP,aQ⟩:=mh (bE.o.below (by rw[aK.o];exact aI)) ay;obtain⟨p,aq⟩:=Je (D[E]);rw[aq] at aO aP aQ;have aM:p∈D:=by rw[<-aq];exact ah ay
   obtain⟨aS,aT,Y,aR,ar,a1,bJ⟩:=oH (s:=⟨D,M,O,aL,Q,T,U⟩) Z.o aM;have az:p.File.length<=1000000000:=Jw (bA.o p aM);have bi:pU n D (E+1)=pU n D E ++ oJ p:=by
    unfold pU;rw[show D.take (E+1)=D.take E ++ [D[E]] by rw[bc],ao,aq];simp
   obtain⟨aB,aC,av⟩:=p;simp only at aO aP aQ aS aT Y aR ar a1 az;obtain⟨bb,bL⟩:∃V,wr.heap.size=V:=⟨_,rfl⟩;obtain⟨ba,bh,J,bk⟩:∃y,wr.alloc (.cells #[Ji aB,Ji aC,.string (S av)] 76)=y/\Below wr.heap.size wr y/\y.heap[bb]?=some (.cells #[Ji aB,Ji aC,.string (S av)] 76 (0,0)):=⟨_,rfl,Below.one _ _,by rw[<-bL];exact heap_alloc_new _ _⟩;have bK:K<wr.heap.size:=by have:=aA.size;have:=aD.o;omega
   have aF:=Jh (show bb≠K by omega);have a6:=Jh (aI.trans (J.mono (by have:=aI.size;have:=ad.o.size;have:=X.o;omega)));have bm:=Jh (aY.below J);have bB:=Jh (aA.trans (Kp.below J));have aH:=Jh bk;have bw:=Jh az;have bn:=Jh (show(Ca (oJ ⟨aB,aC,av⟩)).toArray= #[Ji aB,Ji aC,Ji (mA av)] by
    unfold Ca oJ;simp only[bV,ii];rw[el aS,el Y,el ar])
   have bo:=Jh (show ∀aJ∈oJ ⟨aB,aC,av⟩,aJ<9223372036854775808 by
    intro aJ W;simp only[oJ,dh,di,or_false] at W;rcases W with rfl|rfl|rfl<;>omega)
   have bF:=Jh (show((pU n D E).flatMap uint).length<=100000000 from Kc Z.o aG.o Jo bN);have bG:=Jh bi;clear aq aM aS aT Y aR ar a1 bJ az bi aY aA aI J bk bK ay;go_wp2_with fail;try simp only[bh]
   clear bh aO aP aQ bM;refine wp_region_held_drew (S:=λaa=>Kp H K ba aa) Jk ?_ (λar=>?_)
   ·exact Kp.below (ag _ _).drew
   refine JK 0 (hy:=by(intro aa Y;have J:=Y.cells aH.o Jd aF.o;obtain⟨aO,aP,aQ,-⟩:=three J;clear J;go_simp)<;>with_reducible rfl) (h:=JK 1 (hy:=by(intro aa Y;have J:=Y.cells aH.o Jd aF.o;obtain⟨aO,aP,aQ,-⟩:=three J;clear J;go_simp)<;>with_reducible rfl) (h:=JK 2 (hy:=by(intro aa Y;have J:=Y.cells aH.o Jd aF.o;obtain⟨aO,aP,aQ,-⟩:=three J;clear J;go_simp)<;>with_reducible rfl) (h:=JK 3 (hy:=by(intro aa Y;have J:=Y.cells aH.o Jd aF.o;obtain⟨aO,aP,aQ,-⟩:=three J;clear J;go_simp)<;>with_reducible rfl) (h:=JK 4 (hy:=by(intro aa Y;have J:=Y.cells aH.o Jd aF.o;obtain⟨aO,aP,aQ,-⟩:=three J;clear J;go_simp)<;>with_reducible rfl) (h:=JK 5 (hy:=by(intro aa Y;have J:=Y.cells aH.o Jd aF.o;obtain⟨aO,aP,aQ,-⟩:=three J;clear J;go_simp)<;>with_reducible rfl) (h:=JK 6 (hy:=by(intro aa Y;have J:=Y.cells aH.o Jd aF.o;obtain⟨aO,aP,aQ,-⟩:=three J;clear J;go_simp)<;>with_reducible rfl) (h:=?_)))))));refine JN 7 (h:=λaR ay=>?_);go_simp;have aI:=ar.to X.o a6.o (Jx a6.o.size X.o);refine(vl av _ bw.o (bD.o.below (aI.mono (Nat.le_of_eq aK.o))) (bz.o.below (aI.mono (Nat.le_of_eq aK.o)))).mono ?_;rintro bW a1 ⟨rfl,bi⟩;go_wp2_with fail;refine ay.out _ _ ?_ (λar=>?_)
   ·exact ar.trans (Kp.below bi)
   clear ay aR;try simp only[an,JY]
   obtain⟨bh,bK⟩:∃V,a1.heap.size=V:=⟨_,rfl⟩;obtain⟨bJ,bY,bk,bP⟩:∃y,a1.alloc (.cells #[Ji aB,Ji aC,Ji (mA av)] 3)=y/\Below a1.heap.size a1 y/\y.heap[bh]?=some (.cells #[Ji aB,Ji aC,Ji (mA av)] 3 (0,0)):=⟨_,rfl,Below.one _ _,by rw[<-bK];exact heap_alloc_new _ _⟩;refine JN 8 (h:=λaR ay=>?_);go_simp;refine ay.out _ _ ?_ (λar=>?_)
   ·exact ar.trans (Kp.below bk)
   clear ay aR;try simp only[an,JY]
   refine JN 9 (h:=λaR ay=>?_);go_simp;have bM:=(bm.o.below ((ag _ _).drew:Jz ba ba.drew)).below bi;refine(qY H K bh 3 _ (oJ ⟨aB,aC,av⟩) bJ (bM.below bk) (by have:=ar.size;have:=a6.o.size;have:=X.o;omega) (by rw[bn.o];exact bP) bo.o (by rw[tJ];omega) bF.o).mono ?_;rintro bT b8 ⟨⟨b6,rfl⟩,aM,bO⟩;go_wp2_with fail;refine ay.out _ _ ?_ (λar=>?_)
   ·exact ar.trans bO
   clear ay aR;try simp only[an,JY]
   refine wpAnyH_done Jk ?_ _;go_wp2_with fail;go_roundw
   case rel=>exact⟨E+1,by go_num,Jo,by rw[bG.o,ao];exact aM,bB.o.trans ar⟩
   simp[intOf];omega
  obtain rfl:E=n:=Jo;have bm:=Jh (show pU E D E=E :: D.flatMap oJ by unfold pU;rw[aw (by rw[aG.o];exact ac _)]);have J:=Z.o.n0;have ar:=Z.o.n1;have Y:=Z.o.p0;have bb:=Z.o.p1;simp only at J ar Y bb;obtain⟨bo,ay⟩:∃V,wr.heap.size=V:=⟨_,rfl⟩;obtain⟨bF,av,aM,aB⟩:∃y,wr.alloc (.cells #[Ji M,Ji O] 3)=y/\Below wr.heap.size wr y/\y.heap[bo]?=some (.cells #[Ji M,Ji O] 3 (0,0)):=⟨_,rfl,Below.one _ _,by rw[<-ay];exact heap_alloc_new _ _⟩;have aC:=Kc Z.o aG.o Jo (ac E);have bw:=Jh (qY H K bo 2 _ [M.toNat,O.toNat] bF (aY.below aM) (by have:=aA.size;have:=ad.o.size;have:=aM.size;have:=X.o;have:=aD.o;omega)
   (by rw[show(Ca [M.toNat,O.toNat]).toArray= #[Ji M,Ji O] from by simp only[Ca,bV,ii];rw[el J,el Y]];exact aB) (by intro aJ W;simp only[dh,di,or_false] at W;rcases W with rfl|rfl<;>omega) Js Jo)
  have bB:=Jh (aA.trans (Kp.below aM));have bn:=Jh (show((pU E D E).flatMap uint ++ [M.toNat,O.toNat].flatMap uint).length<=100000000 by
   have aS:=AH Z.o aG.o Jo (ac E);have aT:=rz [M.toNat,O.toNat] (by intro aJ W;simp only[dh,di,or_false] at W;rcases W with rfl|rfl<;>omega);rw[ab];simp only[ak,aX] at aT;omega)
  clear J ar Y bb aY aA aM aB bq aC;go_wp2_with fail;try simp only[av]
  clear av ay ae af ai aj al am ap;refine bw.o.mono ?_;rintro bM Y ⟨⟨bO,rfl⟩,J,av⟩;have bk:=Jh J;have ar:=Jh (bB.o.trans av);have ay:=ar.o.cells a8.o Jd a7.o;obtain⟨ae,af,ai,aj,al,am,ap,-⟩:=seven ay;clear J av ay;cases aL with
  |true=>
   obtain⟨aC,aF,aH⟩:0<=Q/\0<=T/\0<=U/\Q<17179869184/\T<=1/\U<=5000:=by
    obtain⟨p,aq,J,-,bb,ay⟩:=Z.o.conv rfl;obtain⟨av,aB⟩:=zT aq;obtain⟨aS,aT,-⟩:=oH Z.o av;unfold kg at J;simp only at*;omega
   obtain⟨av,aB⟩:∃V,Y.heap.size=V:=⟨_,rfl⟩;obtain⟨ba,ay,J,aO⟩:∃y,Y.alloc (.cells #[Ji 1,Ji Q,Ji T,Ji U] 3)=y/\Below Y.heap.size Y y/\y.heap[av]?=some (.cells #[Ji 1,Ji Q,Ji T,Ji U] 3 (0,0)):=⟨_,rfl,Below.one _ _,by rw[<-aB];exact heap_alloc_new _ _⟩;have aR:=Jh (qY H K av 4 _ [1,Q.toNat,T.toNat,U.toNat] ba (bk.o.below J) (by have:=ar.o.size;have:=ad.o.size;have:=J.size;have:=X.o;have:=aD.o;omega) (by rw[show(Ca [1,Q.toNat,T.toNat,U.toNat]).toArray= #[Ji 1,Ji Q,Ji T,Ji U] from by simp only[Ca,bV,ii];rw[el aC,el aF,el aH.1];rfl];exact aO) (by intro aJ W;simp only[dh,di,or_false] at W;rcases W with rfl|rfl|rfl|rfl<;>omega) Js bn.o);have aP:=Jh J;clear J aO aC aF aH;go_wp2_with fail;try simp only[ay]
   clear ay aB;refine aR.o.mono ?_;rintro bG bh ⟨⟨bK,rfl⟩,aC,aH⟩;have aQ:=Jh aC;have a1:=Jh ((ar.o.trans (Kp.below aP.o)).trans aH);have a6:=Jh (QR H K _ bh aQ.o);clear aC aH ae af ai aj al am ap;go_wp2_with fail;refine a6.o.mono ?_;rintro bJ bL ⟨rfl,aI⟩;have aS:=Jh ((a1.o.trans aI).to X.o ad.o (by have:=ad.o.size;have:=X.o;have:=aD.o;omega));have aT:=Jh (show((pU E D E).flatMap uint ++ [M.toNat,O.toNat].flatMap uint) ++ [1,Q.toNat,T.toNat,U.toNat].flatMap uint=iG ⟨D,M,O,true,Q,T,U⟩ by
    unfold iG Dz Lf;rw[bm.o];simp[aG.o])
   clear aI;go_wp2_with fail;go_ret2;have aF:=aT.o;simp only[aE,iK,cV,au] at aF;exact⟨.inl ⟨Z.o,congrArg (λbi=>Ending.returned (Value.tuple #[.string (S bi),Ji 0])) aF⟩,aS.o.mono (Nat.le_of_eq aK.o)⟩
  |false=>
   obtain⟨av,aB⟩:∃V,Y.heap.size=V:=⟨_,rfl⟩;obtain⟨ba,ay,J,aO⟩:∃y,Y.alloc (.cells #[Ji 0] 3)=y/\Below Y.heap.size Y y/\y.heap[av]?=some (.cells #[Ji 0] 3 (0,0)):=⟨_,rfl,Below.one _ _,by rw[<-aB];exact heap_alloc_new _ _⟩;have aR:=Jh (qY H K av 1 _ [0] ba (bk.o.below J) (by have:=ar.o.size;have:=ad.o.size;have:=J.size;have:=X.o;have:=aD.o;omega) (by rw[show(Ca [0]).toArray= #[Ji 0] from rfl];exact aO) (by intro aJ W;simp at W;omega) Js bn.o);have aP:=Jh J;clear J aO;go_wp2_with fail;try simp only[ay]
   clear ay aB;refine aR.o.mono ?_;rintro bG bh ⟨⟨bK,rfl⟩,aC,aH⟩;have aQ:=Jh aC;have a1:=Jh ((ar.o.trans (Kp.below aP.o)).trans aH);have a6:=Jh (QR H K _ bh aQ.o);clear aC aH ae af ai aj al am ap;go_wp2_with fail;refine a6.o.mono ?_;rintro bJ bL ⟨rfl,aI⟩;have aS:=Jh ((a1.o.trans aI).to X.o ad.o (by have:=ad.o.size;have:=X.o;have:=aD.o;omega));have aT:=Jh (show((pU E D E).flatMap uint ++ [M.toNat,O.toNat].flatMap uint) ++ [0].flatMap uint=iG ⟨D,M,O,false,Q,T,U⟩ by
    unfold iG Dz Lf;rw[bm.o];simp[aG.o])
   clear aI;go_wp2_with fail;go_ret2;have aF:=aT.o;simp only[aE,iK,cV,au] at aF;exact⟨.inl ⟨Z.o,congrArg (λbi=>Ending.returned (Value.tuple #[.string (S bi),Ji 0])) aF⟩,aS.o.mono (Nat.le_of_eq aK.o)⟩
structure Rz where
 k:Nat
 left:List (List Row)
 done:List eP
structure iU where
 fs:JU->Option JU
 nf:Nat
 N:Nat
 man:St
 head:List eP
 m:Nat
 cnt:Int->Int × Int
 work:Option Rz
structure nI where
 bd:Nat
 bs:Nat
 bx:Nat
 bp:Nat
 A:JA
 cp:Nat
 hA:JA
 hc:Nat
 xs:List ej
 wv:Value
def tc (v:nI)(x:iU):Array Value:=#[Jv v.bd,Jv v.bs,Jv v.bx,.slice v.A x.man.Parts.length v.cp,Ji x.man.Next,Ji x.man.Past,.bool x.man.On,Ji x.man.Day,Ji x.man.To,Ji x.man.Done,
 .slice v.hA v.xs.length v.hc,Jn,Ji 0,Jv v.bp,v.wv]
structure sS where
 A:JA
 n:Nat
 c:Nat
def jJ (x:sS):List Value:=[.slice x.A x.n x.c]
structure Kt (col:Nat->Nat) (bw ba:Nat) (A DA:JA) (c dc:Nat) (ss:List sS) (ys:List ej) (u:Rz) (w:JW):Prop where
 cw:col bw=6
 ca:col ba=6
 ne:bw≠ba
 blk:w.heap[bw]?=some (.cells #[.int .i64 u.k,.int .i64 u.left.length,.func (.func 203) #[] #[Jv ba],.slice DA ys.length dc] 221 (0,0))
 box:w.heap[ba]?=some (.cells #[.slice A ss.length c] 346 (0,0))
 len:u.left.length=ss.length
 cap:ss.length<=c
 Og:c<=maxLen
 rd:Rd (Off (jB col) w) 1 A ss.length (ss.flatMap jJ)
 each:∀i,(h:i<ss.length)->∃h':i<u.left.length,u.left[i].length=ss[i].n/\ss[i].n<=ss[i].c/\Rd (Off (jB col) w) 3 ss[i].A ss[i].n (u.left[i].flatMap aR)
 done:fI (Off (jB col) w) DA ys u.done
 Ou:ys.length<=dc
 Ds:∀x∈ys,x.n<=x.c
def CO (col:Nat->Nat)(v:Value)(x:Option Rz)(w:JW):Prop:=match x with
 |none=>v= .pointer none
 |some O=>∃y H D E J K M Q,v=Jv y/\Kt col y H D E J K M Q O w
def sV (col:Nat->Nat)(w:JW):Prop:=∃y,yY y/\Pow y/\vu y/\Jz y w/\∀D,D<y.heap.size->col D=0
theorem sV.tab {col:Nat->Nat}{w:JW}(h:sV col w):yY w:=by obtain⟨E,y,-,-,D,-⟩:=h;exact y.below D
theorem sV.pow {col:Nat->Nat}{w:JW}(h:sV col w):Pow w:=by obtain⟨E,-,y,-,D,-⟩:=h;exact y.below D
theorem sV.errs {col:Nat->Nat}{w:JW}(h:sV col w):vu w:=by obtain⟨E,-,-,y,D,-⟩:=h;exact y.below D
structure cI (col:Nat->Nat) (d:Nat) (v:nI) (x:iU) (w:JW):Prop where
 lt:Lt col w
 cd:col d=1
 blk:w.heap[d]?=some (.cells (tc v x) 88 (0,0))
 C:iJ (λk=>col k=2) v.bd 512 w
 u:iN (λk=>col k=3) v.bs v.bd x.nf x.fs w
 idx:si (λk=>col k=4) (jB col) v.bx x.N w
 pol:jU (λk=>col k=5) v.bp x.m x.cnt w
 man:Rd (Off (jB col) w) 3 v.A x.man.Parts.length (x.man.Parts.flatMap aU)
 hd:fI (Off (jB col) w) v.hA v.xs x.head
 hcap:v.xs.length<=v.hc
 oE:∀y∈v.xs,y.n<=y.c
 wk:CO col v.wv x.work w
 E:sV col w
section
variable {col col':Nat->Nat} {d:Nat} {v:nI} {x:iU} {w w':JW} {P:Nat->Prop}
theorem Kt.I {D y:Nat}{A J:JA}{c K:Nat}{T:List sS}{U:List ej}{u:Rz}(h:Kt col D y A J c K T U u w)(p:bF P col col' w w')(V:¬P 0)(M:¬P 6):Kt col' D y A J c K T U u w':=by
 have Q:=p.at M D (Jl h.blk) h.cw;have O:=p.at M y (Jl h.box) h.ca;have H:=p.part V;exact⟨Q.1,O.1,h.ne,Q.2.trans h.blk,O.2.trans h.box,h.len,h.cap,h.Og,h.rd.part H,λX W=>(h.each X W).imp λY E=>⟨E.1,E.2.1,E.2.2.part H⟩,h.done.part H,h.Ou,h.Ds⟩
theorem CO.I {wv:Value}{y:Option Rz}(h:CO col wv y w)(p:bF P col col' w w')(Q:¬P 0)(T:¬P 6):CO col' wv y w':=by
 cases y with
 |none=>exact h
 |some X=>
  obtain⟨J,H,D,E,K,M,V,W,O,U⟩:=h;exact⟨J,H,D,E,K,M,V,W,O,U.I p Q T⟩
theorem sV.I (h:sV col w)(p:bF P col col' w w')(J:¬P 0):sV col' w':=by
 obtain⟨T,K,M,O,E,H⟩:=h;refine⟨T,K,M,O,E.trans (p.s.below E.size λD y=>?_),λD y=>?_⟩
 ·exact Nat.not_lt.1 λQ=>J (by rw[H D Q] at y;exact y)
 rw[p.old D (ai y E.size)];exact H D y
theorem iJ.move {F D:Nat->Prop}{y S:Nat}(h:iJ F y S w)(K:∀k,k<w.heap.size->F k->D k/\w'.heap[k]?=w.heap[k]?):iJ D y S w':=by
 obtain⟨Q,E,H,T,U,V,W,X,Y,J⟩:=h.ex;have M:=K y (Jl H) X;have O:=K E J.lt Y;exact⟨Q,E,M.2.trans H,T,U,V,W,M.1,O.1,J.kept O.2⟩
theorem jU.move {F D:Nat->Prop}{y m:Nat}{cnt:Int->Int × Int}(h:jU F y m cnt w)(K:∀k,k<w.heap.size->F k->D k/\w'.heap[k]?=w.heap[k]?):jU D y m cnt w':=by
 obtain⟨E,V,H,Q,T,U,J⟩:=h.ex;have M:=K y (Jl H) Q;have O:=K E J.lt T;exact⟨E,V,M.2.trans H,M.1,O.1,U,J.kept O.2⟩
theorem iJ.lt {F:Nat->Prop}{y S:Nat}(h:iJ F y S w):y<w.heap.size:=by
 obtain⟨H,E,D,-⟩:=h.ex;exact(Jl D)
theorem iJ.has {F:Nat->Prop}{y S:Nat}(h:iJ F y S w):F y:=by
 obtain⟨H,E,-,-,-,-,-,D,-⟩:=h.ex;exact D
theorem cI.dl (h:cI col d v x w):d<w.heap.size:=(Jl h.blk)
def Wm (P:Nat->Prop):Prop:=¬P 0/\¬P 1/\¬P 2/\¬P 3/\¬P 4/\¬P 5/\¬P 6
theorem cI.other (h:cI col d v x w)(p:bF P col col' w w')(n:Wm P):cI col' d v x w':=by
 obtain⟨D,J,K,M,O,Q,T⟩:=n;have H:=p.at J d h.dl h.cd;have y:=p.part D;exact⟨p.lt h.lt,H.1,H.2.trans h.blk,h.C.move (p.at K),h.u.move (p.at M),h.idx.move (p.at O) y,h.pol.move (p.at Q),h.man.part y,h.hd.part y,h.hcap,h.oE,h.wk.I p D T,h.E.I p D⟩
theorem cI.below (h:cI col d v x w)(y:Jz w w'):cI col d v x w':=h.other (bF.of (P:=λ_=>False) h.lt y) ⟨id,id,id,id,id,id,id⟩
theorem cI.store (h:cI col d v x w)(p:bF P col col' w w')(D:¬P 0)(K:¬P 1)(M:¬P 2)(O:¬P 4)(Q:¬P 5)(T:¬P 6){nf:Nat}{fs:JU->Option JU}(J:iN (λk=>col' k=3) v.bs v.bd nf fs w'):cI col' d v {x with fs:=fs,nf:=nf} w':=by
 have H:=p.at K d h.dl h.cd;have y:=p.part D;exact⟨p.lt h.lt,H.1,H.2.trans h.blk,h.C.move (p.at M),J,h.idx.move (p.at O) y,h.pol.move (p.at Q),h.man.part y,h.hd.part y,h.hcap,h.oE,h.wk.I p D T,h.E.I p D⟩
theorem cI.UQ (h:cI col d v x w)(p:bF P col col' w w')(D:¬P 0)(K:¬P 1)(M:¬P 2)(O:¬P 3)(Q:¬P 4)(T:¬P 6){m:Nat}{cnt:Int->Int × Int}(J:jU (λk=>col' k=5) v.bp m cnt w'):cI col' d v {x with m:=m,cnt:=cnt} w':=by
 have H:=p.at K d h.dl h.cd;have y:=p.part D;exact⟨p.lt h.lt,H.1,H.2.trans h.blk,h.C.move (p.at M),h.u.move (p.at O),h.idx.move (p.at Q) y,J,h.man.part y,h.hd.part y,h.hcap,h.oE,h.wk.I p D T,h.E.I p D⟩
theorem cI.WC (h:cI col d v x w)(p:bF P col col' w w')(y:¬P 0)(K:¬P 1)(M:¬P 2)(O:¬P 3)(Q:¬P 5)(T:¬P 6){N:Nat}(J:si (λk=>col' k=4) (jB col') v.bx N w'):cI col' d v {x with N:=N} w':=by
 have H:=p.at K d h.dl h.cd;have D:=p.part y;exact⟨p.lt h.lt,H.1,H.2.trans h.blk,h.C.move (p.at M),h.u.move (p.at O),J,h.pol.move (p.at Q),h.man.part D,h.hd.part D,h.hcap,h.oE,h.wk.I p y T,h.E.I p y⟩
theorem cI.self (h:cI col d v x w)(hc:jl (λk=>k=d) w w'){v':nI}{x':iU}(Q:v'.bd=v.bd/\v'.bs=v.bs/\v'.bx=v.bx/\v'.bp=v.bp)(ex:x'.fs=x.fs/\x'.nf=x.nf/\x'.N=x.N/\x'.m=x.m/\x'.cnt=x.cnt)
 (blk:w'.heap[d]?=some (.cells (tc v' x') 88 (0,0))) (man:Rd (Off (jB col) w) 3 v'.A x'.man.Parts.length (x'.man.Parts.flatMap aU)) (Z:fI (Off (jB col) w) v'.hA v'.xs x'.head) (Y:v'.xs.length<=v'.hc) (aa:∀J∈v'.xs,J.n<=J.c)
 (ab:CO col v'.wv x'.work w):cI col d v' x' w'/\bF (λc=>c=1) col col w w':=by
 have y:bF (λc=>c=1) col col w w':=⟨λ_ _=>rfl,λk H=>.inl (h.lt.zero H),hc.mono λk _ D=>by rw[D];exact h.cd⟩;have D:=y.part Jo;obtain⟨H,K,M,O⟩:=Q;obtain⟨T,U,V,W,X⟩:=ex;refine⟨⟨y.lt h.lt,h.cd,blk,?_,?_,?_,?_,man.part D,Z.part D,Y,aa,ab.I y Jo Jo,h.E.I y Jo⟩,y⟩
 ·rw[H];exact h.C.move (y.at Jo)
 ·rw[H,K,T,U];exact h.u.move (y.at Jo)
 ·rw[M,V];exact h.idx.move (y.at Jo) D
 rw[O,W,X];exact h.pol.move (y.at Jo)
end
def PD (c:Nat):Prop:=c≠0/\c≠7
def ic (col:Nat->Nat)(d:Nat)(x':iU)(w w':JW):Prop:=∃col' y,cI col' d y x' w'/\bF PD col col' w w'
theorem Sz:(prog.info? 1).map (λi=>(i.zero,i.size,i.bytes))=some (some .nilFunc,1,8):=Jk
theorem pz {w:JW}{b:Nat}{cs:Array Value}{t:TypeId}(h:w.heap[b]?=some (.cells cs t (0,0)))(j:Nat):w.cell? (Jp b j)=cs[j]?/\w.frozen? (Jp b j)=false:=by
 refine⟨aa h j,?_⟩;simp[World.frozen?,h]
theorem Sg (R:Nat->Prop)(ch n c:Nat)(p0:Value)(E:JA)(M:List Value)(K:Fn)(a0 J:Array Value)(w:JW)(H:w.heap[ch]?=some (.cells #[p0,Ji 0,.slice E n c] 156 (0,0)))
 (X:bP R 1 1 (.slice E n c) n M w) (W:R ch) (ho:gm R w) (au:n<=1000):
 JC 83 #[Jv ch,Ji 0,.func K a0 J] w λe w'=>e= .returned (.tuple #[])/\
  ∃U V,w'.heap[ch]?=some (.cells #[p0,Ji 0,.slice U (n+1) V] 156 (0,0))/\bP R 1 1 (.slice U (n+1) V) (n+1) (M ++ [.func K a0 J]) w'/\Beside R ch w w':=by
 obtain⟨ao,ay⟩:=pz H 1;obtain⟨an,ax⟩:=pz H 2;obtain⟨D,y⟩:=Je (w.setCell (Jp ch 1) (Ji 0));have Q:D.heap[ch]?=some (.cells #[p0,Ji 0,.slice E n c] 156 (0,0)):=by rw[<-y];exact(am H _).trans rfl
 have Y:bP R 1 1 (.slice E n c) n M D:=by rw[<-y];exact fW X W 1 _
 have O:Beside R ch w D:=by rw[<-y];exact gu R ch 1 w _
 have al:gm R D:=ho.mono O.size;obtain⟨ap,az⟩:=pz Q 2;simp only[aH,aD,aS] at an ao ap;have ae:=Jh (show D.heap.size=w.heap.size by rw[<-y];simp[aj]);have Z:=Jh y;have af:=Jh Q;have aa:=Jh O;have T:=Jh W;have ab:=Jh Y;clear X H y Q Y O ho;go_enter Tryz.func83,Tryz.ntmps83;go_wp2_with (at_builtin;go_must (simp only[Z.o];refine bb rfl (.tmp 18) (.tmp 20) 154 Jr 1 .nilFunc 1 8 underlying154 Sz rfl Jd R n _ _ D #[.func K a0 J] rfl (by intro av X;simp at X;subst X;rfl) ab.o Jr al (by rw[ae.o];rfl) Jm Jo ?_;intro aw ar y O ak ai;obtain⟨Y,ah,rfl⟩:=y.form;clear ak ai;have Q:=(O.block ch T.o).trans af.o;obtain⟨aq,aA⟩:=pz Q 2;simp only[aH,aD,aS] at aq;have ag:=Jh Q;have ad:=Jh O;have ac:=Jh y;clear Q O y));refine bodyPost_ret (v:=.tuple #[]) (by first|rfl|(simp[results];rfl)|kernel_rfl) rfl ?_;refine⟨rfl,Y,ah,(am ag.o _).trans rfl,fW ac.o T.o 2 _,(aa.o.trans ad.o.beside).trans (gu R ch 2 ar _)⟩
def eM:JU:=[109,97,110,105,102,101,115,116]
def nS:JU:=[105,110,100,101,120]
theorem UJ:lC eM:=⟨by intro D y;simp[eM] at y;unfold TV;rcases y with rfl|rfl|rfl|rfl|rfl|rfl|rfl|rfl<;>decide,Jd,Jd⟩
theorem UH:lC nS:=⟨by intro D y;simp[nS] at y;unfold TV;rcases y with rfl|rfl|rfl|rfl|rfl<;>decide,Jd,Jd⟩
def KX (D:Int)(N:Nat)(y:List Int):JU:=if D=0 then oo N y else mB N y
structure fQ (N:Nat) (us:List Int) (x:iU):Prop where
 n:x.N=if us=[] then 0 else N
 man:x.man=st0
 head:x.head=full N us
 m:x.m=0
 cnt:∀d,x.cnt d=(0,0)
 work:x.work=none
 fs:∀n,n≠cM->x.fs n=none
 D:(x.fs cM).isSome= !us.isEmpty
 len:((x.fs cM).getD []).length<=60+130*us.length
 nf:x.nf<=1
theorem fQ.ok {N:Nat}{us:List Int}{x:iU}(h:fQ N us x)(J:us.length<=12):jA x.fs:=by
 refine⟨λD H=>?_,λD y E=>?_⟩
 ·by_cases y:D=cM
  ·rw[y];decide
  rw[h.fs D y] at H;cases H
 by_cases y:D=cM
 ·have:=h.len;rw[<-y,E] at this;simp only[fu] at this;omega
 rw[h.fs D y] at E;cases E
structure Parts (N:Nat) (ts:List Int) (k c:Nat) (x:iU):Prop where
 n:x.N=N
 head:x.head=[]
 ok:eV x.man
 past:x.man.Past=0
 next:x.man.Next<=k
 days:qc ts (x.man.Parts.map (·.Day))
 file:∀p∈x.man.Parts,x.fs p.File=some (KX p.Layout N (fa ts p.Day))
 D:x.fs cM=none
 U:(x.fs eM).isSome=true
 K:jA x.fs
 nf:x.nf<=15
 m:x.m<=12*c
 cnt:∀d,0<=(x.cnt d).1/\(x.cnt d).1<=c/\0<=(x.cnt d).2/\(x.cnt d).2<=c
structure mF (N:Nat) (ts:List Int) (k c:Nat) (x:iU):Prop extends Parts N ts k c x where
 on:x.man.On=false
 work:x.work=none
structure lo (N:Nat) (ts:List Int) (k c:Nat) (d:Int) (j:Nat) (x:iU):Prop extends Parts N ts k c x where
 on:x.man.On=true
 day:x.man.Day=d
 to:x.man.To=1
 done:x.man.Done=j
 was:∃p,eh x.man.Parts d=some p/\p.Layout=0
 le:j<=N
 work:x.work=some ⟨0,((aL N).drop j).map λi=>rowsOf (fo (fa ts d) i),full j (fa ts d)⟩
section
variable {N k c:Nat} {ts:List Int} {x:iU}
theorem Parts.len (h:Parts N ts k c x):x.man.Parts.length<=ts.length:=by
 have:=qp h.days
 rwa [bU] at this
theorem Parts.part (h:Parts N ts k c x){p:bL}(D:p∈x.man.Parts):0<=p.Day/\p.Day<17179869184/\(p.Layout=0∨p.Layout=1)/\fa ts p.Day≠[]:=by
 obtain⟨y,E,-⟩:=h.ok.part p D;exact⟨y.1,y.2,E,wI h.days (List.mem_map.2 ⟨p,D,rfl⟩)⟩
theorem Parts.rows (h:Parts N ts k c x)(D:pM ts):(x.man.Parts.flatMap λp=>df N (fa ts p.Day))=df N ts:=by
 have y:=Aa N ts (x.man.Parts.map (·.Day));rw[Ls D h.days] at y;rw[<-y,List.flatMap_map]
end
structure pY (base:Nat) (g:List Nat) (v8 v9:Value) (xs ys:List Value) (W0 W:JW):Prop where
 st:cC (λk=>k<base) W0 W
 kp:KeepsOthers W0 W
 hb:base<=W.heap.size
 l8:bP (λk=>k<base∨v9.ownBlock=some k∨k∈g) 3 1 v8 xs.length xs W
 l9:bP (λk=>k<base∨v8.ownBlock=some k∨k∈g) 3 1 v9 ys.length ys W
 gl:∀k∈g,base<=k/\k<W.heap.size
theorem pY.swap {base:Nat}{g:List Nat}{E v9:Value}{xs H:List Value}{D y:JW}(h:pY base g E v9 xs H D y):pY base g v9 E H xs D y:=⟨h.st,h.kp,h.hb,h.l9,h.l8,h.gl⟩
theorem pY.UN {base:Nat}{g:List Nat}{J v9:Value}{xs K:List Value}{E D:JW}(h:pY base g J v9 xs K E D):gm (λk=>k<base∨v9.ownBlock=some k∨k∈g) D:=λk H=>by
 rcases H with y|y|y
 ·have:=h.hb;omega
 ·exact(h.l9.1.lt k y).2
 exact(h.gl k y).2
theorem pY.drew {base:Nat}{g:List Nat}{E v9:Value}{xs H:List Value}{D y:JW}(h:pY base g E v9 xs H D y):pY base g E v9 xs H D y.drew:=
 ⟨h.st.Y,⟨h.kp.size,h.kp.same⟩,h.hb,h.l8,h.l9,h.gl⟩
theorem pY.box {base:Nat}{g:List Nat}{O v9:Value}{xs Q:List Value}{J H:JW}(h:pY base g O v9 xs Q J H)(T:base<=J.heap.size)(o:Obj):
 pY base (H.heap.size :: g) O v9 xs Q J (H.alloc o):=by
 have M:Jz H (H.alloc o):=(ag _ _).alloc (ac _) _;refine⟨h.st.wQ (λE D=>ai D T) _,h.kp.trans (KeepsOthers.alloc _ _),by have:=h.hb;simp;omega,(h.l8.below M).shift ?_,(h.l9.below M).shift ?_,?_⟩
 ·intro E D K;rcases K with y|y|y
  ·exact h.l8.2 E D (.inl y)
  ·exact h.l8.2 E D (.inr (.inl y))
  rcases List.mem_cons.1 y with rfl|y
  ·exact absurd (h.l8.1.lt _ D).2 (iw _)
  exact h.l8.2 E D (.inr (.inr y))
 ·intro E D K;rcases K with y|y|y
  ·exact h.l9.2 E D (.inl y)
  ·exact h.l9.2 E D (.inr (.inl y))
  rcases List.mem_cons.1 y with rfl|y
  ·exact absurd (h.l9.1.lt _ D).2 (iw _)
  exact h.l9.2 E D (.inr (.inr y))
 intro E D;rcases List.mem_cons.1 D with rfl|D
 ·exact⟨h.hb,Js⟩
 have:=h.gl E D;exact⟨this.1,by simp;omega⟩
theorem oM (D:JW)(u:Value):Rd (D.alloc (.cells #[u] 3)) 1 (some (Jp D.heap.size 0)) 1 [u]:=by
 refine⟨Js,λ_=>⟨_,0,rfl,Js,λE H y=>?_⟩⟩
 match E,y with
 |0,y=>
  obtain rfl:u=H:=by simpa using y
  simp
 |E+1,y=>simp at y
theorem pY.append {base:Nat}{g:List Nat}{Q v9 K:Value}{xs V:List Value}{u:Value}{T E H:JW}(h:pY base g Q v9 xs V T E)
 (Z:bP (λk=>k<base∨v9.ownBlock=some k∨k∈g) 3 1 K (xs.length+1) (xs ++ [u]) H) (J:cC (λk=>k<base∨v9.ownBlock=some k∨k∈g) E H)
 (Y:E.grownBy H Q.ownBlock) (W:K.ownBlock=Q.ownBlock∨∃g,K.ownBlock=some g/\E.heap.size<=g):pY base g K v9 (xs ++ [u]) V T H:=by
 refine⟨h.st.trans (J.mono λk y=>.inl y),h.kp.trans (KeepsOthers.of_grownBy Y λaa ac D U=>?_),ap h.hb J.size,by rw[ab];exact Z,(h.l9.later λk y=>J.block k (.inr (.inl y))).shift ?_,λk y=>⟨(h.gl k y).1,ai (h.gl k y).2 J.size⟩⟩
 ·rcases h.l8.1.2 with⟨M,_⟩|⟨O,ad,ae,M,_,X,_⟩
  ·rw[M] at D;simp[aG] at D
  rw[M] at D;obtain rfl:O=aa:=by simpa [aG] using D
  rw[X] at U;obtain rfl:_=ac:=by simpa using U
  rfl
 intro k y U;rcases U with D|D|D
 ·exact h.l9.2 k y (.inl D)
 ·rcases W with M|⟨O,M,X⟩
  ·exact h.l9.2 k y (.inr (.inl (M.symm.trans D)))
  rw[M] at D;obtain rfl:O=k:=by simpa using D
  have:=(h.l9.1.lt _ y).2;omega
 exact h.l9.2 k y (.inr (.inr D))
theorem ED {y D:JW}{G:Nat}{u:Value}(h:Rd y 1 (some (Jp G 0)) 1 [u])(E:D.heap[G]?=y.heap[G]?):Rd D 1 (some (Jp G 0)) 1 [u]:=by
 refine⟨h.1,λH=>?_⟩;obtain⟨J,T,K,M,O⟩:=h.2 H;obtain⟨rfl,rfl⟩:G=J/\0=T:=by simpa using K
 refine⟨_,_,rfl,?_,λH U Q=>(af (a:=(Jp G (0+H))) E).trans (O H U Q)⟩;exact(Array.getElem?_eq_some_iff.1 (E.trans (Array.getElem?_eq_getElem M))).1
theorem pY.step {P:Program}{ag:Array Oper}{o:Oper}{a:Act}{J:Act->World->Prop}{U:Exit->Act->World->Prop}{T:Prop}(Z:o.guard=none)(s x:Operand)
 (ho:o.op=Op.call {callee:=fD gd,args:=#[s,x],argTypes:=#[23,23]}) (ae:P.underlying 23=some (.slice 3)) (aa:(P.info? 3).map (λi=>(i.zero,i.size,i.bytes))=some (some (Ji 0),1,8))
 {base:Nat} {g:List Nat} {H v9:Value} {xs Q:List Value} {u:Value} {K y:JW} (h:pY base g H v9 xs Q K y) (ad:a.eval s=H) (G c:Nat) (af:a.eval x= .slice (some (Jp G 0)) 1 c) (ac:Rd y 1 (some (Jp G 0)) 1 [u]) (h1:u.oneCell'=true)
 (ah:xs.length<1099511627776)
 (Y:∀E D,pY base g E v9 (xs ++ [u]) Q K D->(∀k∈g,D.heap[k]?=y.heap[k]?)->J (a.put o.dst E) D):
 if dD o (yielded ag a.tmps)=true then jx P o a y J U else T:=
 bN Z s x _ ho 3 (Ji 0) 1 8 ae aa rfl Jd (λk=>k<base∨v9.ownBlock=some k∨k∈g) xs.length xs H y h.l8 ad h.UN
  (some (Jp G 0)) 1 c [u] af ac (by intro ai O;simp at O;subst O;exact h1) Jm Jo
  (λE D V M W X=>Y E D (h.append V M W X) (λk ab=>M.block k (.inr (.inr ab))))
theorem pY.later {base J:Nat}{g:List Nat}{M v9:Value}{xs O:List Value}{Q H E:JW}(h:pY base g M v9 xs O Q H)(W:J<=base)(V:J<=E.heap.size)(T:∀k,M.ownBlock=some k->E.heap[k]?=H.heap[k]?)(U:∀k,v9.ownBlock=some k->E.heap[k]?=H.heap[k]?):
 pY J [] M v9 xs O E E:=
 ⟨cC.refl _ _,fR _,V,(h.l8.later T).shift (λk D K=>by
  rcases K with y|y|y
  ·exact h.l8.2 k D (.inl Jo)
  ·exact h.l8.2 k D (.inr (.inl y))
  ·cases y),(h.l9.later U).shift (λk D K=>by
  rcases K with y|y|y
  ·exact h.l9.2 k D (.inl Jo)
  ·exact h.l9.2 k D (.inr (.inl y))
  cases y),λk D=>by cases D⟩
theorem pY.PZ {base:Nat}{g:List Nat}{D v9:Value}{xs K:List Value}{H E:JW}(h:pY base g D v9 xs K H E){k:Nat}(J:D.ownBlock=some k):base<=k:=by
 rcases et k base with y|y
 ·exact absurd (.inl y) (h.l8.2 k J)
 exact y
theorem Qn (y:JW)(u:Value)(G:Nat)(h:G=y.heap.size):Rd (y.alloc (.cells #[u] 3)) 1 (some (Jp G 0)) 1 [u]:=by rw[h];exact oM y u
theorem pY.weak {base:Nat}{g:List Nat}{M v9:Value}{xs O:List Value}{K J:JW}(h:pY base g M v9 xs O K J):pY base [] M v9 xs O K J:=
 ⟨h.st,h.kp,h.hb,h.l8.shift λD y H=>h.l8.2 D y (H.imp id (Or.imp id λE=>by cases E)),h.l9.shift λD y H=>h.l9.2 D y (H.imp id (Or.imp id λE=>by cases E)),λD y=>by cases y⟩
theorem pY.start {base:Nat}{w:JW}(h:base<=w.heap.size):pY base [] (Jn) (Jn) [] [] w w:=⟨cC.refl _ _,fR _,h,bP.nil _ _ _ _,bP.nil _ _ _ _,λD y=>by cases y⟩
theorem SO (x y:Int)(w:JW)(U:0<=x)(h1:x<y)(h2:y<=1099511627776):JC 55 #[.agg #[Ji x,Ji y]] w λe w'=>e= .returned (.bool true)/\Below w.heap.size w w':=by
 obtain⟨H,E⟩:=Je w.heap.size;obtain⟨D,M,K,V,J⟩:∃D,w.alloc (.cells #[Ji x,Ji y] 30)=D/\Below H w D/\D.heap.size=H+1/\D.heap[H]?=some (.cells #[Ji x,Ji y] 30 (0,0)):=
  ⟨_,rfl,by rw[<-E];exact Below.one _ _,by simp[E],by rw[<-E];exact heap_alloc_new _ _⟩
 have W:=(aa J 0).trans rfl;have X:=(aa J 1).trans rfl;have Q:=Jh M;have T:=Jh K;have O:=Jh E;clear M K J V;have J:decide (0<=x)=true:=by simpa using U
 have K:decide (x<y)=true:=by simpa using h1
 have M:decide (y<=1099511627776)=true:=by simpa using h2
 go_enter Tryz.func55,Tryz.ntmps55;go_wp2_with fail;try simp only[Q.o]
 go_wp2_with fail;go_ret;exact⟨rfl,by rw[O.o];exact T.o⟩
theorem KY (t:Nat)(w:JW)(h:t<=1099511627776):JC 80 #[Ji (t:Int)] w λe w'=>e= .returned (Ji ((t / 100:Nat):Int))/\w'=w:=by
 have y:IntKind.i64.wrap ((t:Int).tdiv 100)=((t / 100:Nat):Int):=by
  rw[fE Jo,aB];omega
 go_enter Tryz.func80,Tryz.ntmps80;go_wp2_with fail;go_ret;exact⟨rfl,rfl⟩
theorem EZ (d:Nat)(w:JW)(h:d<=1099511627776):JC 56 #[Ji (d:Int)] w λe w'=>e= .returned (.agg #[Ji ((d*100:Nat):Int),Ji (((d+1)*100:Nat):Int)])/\Below w.heap.size w w':=by
 have y:IntKind.i64.wrap ((d:Int)*100)=((d*100:Nat):Int):=by rw[aB];omega
 have D:IntKind.i64.wrap ((d:Int)+1)=((d+1:Nat):Int):=by rw[aB];omega
 have E:IntKind.i64.wrap (((d+1:Nat):Int)*100)=(((d+1)*100:Nat):Int):=by rw[aB];omega
 go_enter Tryz.func56,Tryz.ntmps56;go_wp2_with fail;refine bodyPost_ret (v:=.agg #[Ji ((d*100:Nat):Int),Ji (((d+1)*100:Nat):Int)]) (by rw[fX rfl];go_simp) rfl ⟨rfl,?_⟩;exact Below.one _ _
theorem Mc (F:Nat->Prop)(d J N:Nat)(x D:Int)(w:JW)(W:w.cell? (Jp d 2)=some (Jv J))(ag:d<w.heap.size)(h:∀H,Jz w H->rW F J N H)(af:N<=1000)(U:0<=x)(h1:x<D)(h2:D<=1099511627776):JC 20 #[Jv d,Jn,.agg #[Ji x,Ji D]] w λe w'=>
 ∃E c,e= .returned (.tuple #[.slice E N c,Ji 0])/\bP (λk=>k<w.heap.size) 3 1 (.slice E N c) N (upto N) w'/\Jz w w':=by
 obtain⟨M,O⟩:=Je w.heap.size;obtain⟨y,Q,K,V,Y⟩:∃y,w.alloc (.cells #[Ji x,Ji D] 30)=y/\Jz w y/\y.heap.size=M+1/\y.heap[M]?=some (.cells #[Ji x,Ji D] 30 (0,0)):=
  ⟨_,rfl,Below.one _ _,by simp[O],by rw[<-O];exact heap_alloc_new _ _⟩
 have X:=(K.cell (p:=(Jp d 2)) ag).trans W;have ah:(w.alloc (.cells #[Ji x,Ji D] 30)).cell? (Jp d 2)=some (Jv J):=by rw[Q];exact X
 have ab:=Jh (zk F J N y (h y K) af);have Z:=Jh (λH=>SO x D H U h1 h2);have ac:=Jh Q;have T:=Jh K;have ae:=Jh Y;have ad:=Jh V;have al:=Jh O;clear Q K Y V h W X U h1 h2;go_enter Tryz.func20,Tryz.ntmps20;go_wp2_with fail;simp only[ac.o];refine ab.o.mono ?_;rintro e ak ⟨E,c,rfl,V,K⟩;have Q:=(K.block M (Jw ad.o)).trans ae.o;have ai:=(aa Q 0).trans rfl;have aj:=(aa Q 1).trans rfl;have X:=Jh V;have Y:=Jh K;clear V K ah;go_wp2_with fail;refine(Z.o ak).mono ?_;rintro e am ⟨rfl,V⟩;have K:=Jh V;clear V ai aj Q;go_wp2_with fail;refine bodyPost_ret (results_tmp2 rfl _ _ _) rfl ?_;refine⟨E,c,rfl,?_,T.o.then (Y.o.then K.o)⟩;have Q:=X.o.below K.o;exact⟨Q.1,λV ah ai=>Q.2 V ah (Jw T.o.size)⟩
theorem xS (F:Nat->Prop)(d bs y nf:Nat)(fs:JU->Option JU)(w:JW)(h:iN F bs y nf fs w)(E:w.cell? (Jp d 1)=some (Jv bs)):JC 32 #[Jv d] w λe w'=>e= .returned (.bool (fs cM).isSome)/\w=w':=by
 have D:=Jh (iq F bs y nf fs cM w h Jd);clear h;go_enter Tryz.func32,Tryz.ntmps32;go_wp2_with fail;refine D.o.mono ?_;rintro e H ⟨rfl,rfl⟩;go_wp2_with fail;go_ret;exact⟨rfl,rfl⟩
theorem Fo (d k:Nat)(A:JA)(c:UInt8)(y K P:Int)(w:JW)(h1:97<=c.toNat)(h2:c.toNat<=122)(hr:Rd w 2 A 1 (dR (kE c)))(T:w.cell? (Jp d 12)=some (Ji P))(ae:d<w.heap.size)(ac:0<=y)(Q:y<1099511627776)(ad:P<=y):
 JC 48 #[Jv d,.agg #[.slice A 1 k,Ji y,Ji K]] w λe w'=>e= .returned .nilIface/\Jz w w':=by
 obtain⟨J,O⟩:=Je w.heap.size;obtain⟨D,W,E,V,H⟩:∃D,w.alloc (.cells #[.slice A 1 k,Ji y,Ji K] 54)=D/\Jz w D/\D.heap.size=J+1/\D.heap[J]?=some (.cells #[.slice A 1 k,Ji y,Ji K] 54 (0,0)):=
  ⟨_,rfl,Below.one _ _,by simp[O],by rw[<-O];exact heap_alloc_new _ _⟩
 have af:=(aa H 0).trans rfl;have ag:=(aa H 1).trans rfl;have X:=Jh (um c h1 h2 A k D (hr.below E));have U:=(E.cell (p:=(Jp d 12)) ae).trans T;have Y:=Jh W;have Z:=Jh E;have ab:=Jh H;have M:=Jh V;have ah:decide (y<0)=false:=by simpa using ac
 have ai:decide (y≥1099511627776)=false:=by simpa using Q
 have aj:decide (y<P)=false:=by simpa using ad
 have ak:decide (1099511627776<=y)=false:=by simpa using Q
 clear W E H V hr T;go_enter Tryz.func48,Tryz.ntmps48;go_wp2_with fail;try simp only[Y.o]
 refine X.o.mono ?_;rintro e al ⟨rfl,E⟩;have H:=(E.block J (Jw M.o)).trans ab.o;have ag:=(aa H 1).trans rfl;have W:=(E.cell (p:=(Jp d 12)) (by have:=M.o;show d<D.heap.size;omega)).trans U;have V:=Jh E;clear af U E H;go_wp2_with fail;go_quiet (fail);go_wp2_with fail;go_ret;exact⟨rfl,(Z.o.then V.o).drewN _⟩
section
attribute [local go_sem] Oper.semAt_some
section
variable {col:Nat->Nat} {d:Nat} {v:nI} {x:iU} {w:JW}
theorem cI.c0 (h:cI col d v x w):w.cell? (Jp d 0)=some (Jv v.bd):=cl h.blk 0 rfl
theorem cI.c1 (h:cI col d v x w):w.cell? (Jp d 1)=some (Jv v.bs):=cl h.blk 1 rfl
theorem cI.c2 (h:cI col d v x w):w.cell? (Jp d 2)=some (Jv v.bx):=cl h.blk 2 rfl
theorem cI.c3 (h:cI col d v x w):w.cell? (Jp d 3)=some (.slice v.A x.man.Parts.length v.cp):=cl h.blk 3 rfl
theorem cI.c4 (h:cI col d v x w):w.cell? (Jp d 4)=some (Ji x.man.Next):=cl h.blk 4 rfl
theorem cI.c5 (h:cI col d v x w):w.cell? (Jp d 5)=some (Ji x.man.Past):=cl h.blk 5 rfl
theorem cI.c6 (h:cI col d v x w):w.cell? (Jp d 6)=some (.bool x.man.On):=cl h.blk 6 rfl
theorem cI.c7 (h:cI col d v x w):w.cell? (Jp d 7)=some (Ji x.man.Day):=cl h.blk 7 rfl
theorem cI.c8 (h:cI col d v x w):w.cell? (Jp d 8)=some (Ji x.man.To):=cl h.blk 8 rfl
theorem cI.c9 (h:cI col d v x w):w.cell? (Jp d 9)=some (Ji x.man.Done):=cl h.blk 9 rfl
theorem cI.c10 (h:cI col d v x w):w.cell? (Jp d 10)=some (.slice v.hA v.xs.length v.hc):=cl h.blk 10 rfl
theorem cI.c11 (h:cI col d v x w):w.cell? (Jp d 11)=some (Jn):=cl h.blk 11 rfl
theorem cI.c12 (h:cI col d v x w):w.cell? (Jp d 12)=some (Ji 0):=cl h.blk 12 rfl
theorem cI.c13 (h:cI col d v x w):w.cell? (Jp d 13)=some (Jv v.bp):=cl h.blk 13 rfl
theorem cI.c14 (h:cI col d v x w):w.cell? (Jp d 14)=some (v.wv):=cl h.blk 14 rfl
theorem cI.fz (h:cI col d v x w)(j:Nat):w.frozen? (Jp d j)=false:=(aP h.blk j).2
end
def uo (l:List bL):List Value:=l.map λy=>Ji y.Day
def uH (l:List bL):List Value:=l.map λy=>Ji y.Layout
def Vu (B:Nat)(l:List bL)(w:JW)(K M iv:Value)(wr:JW):Prop:=∃(y H J:Nat)(D E:JA),iv=Ji y/\K= .slice D y H/\M= .slice E y J/\y<=l.length/\pY B [] (.slice D y H) (.slice E y J) (uo (l.take y)) (uH (l.take y)) w wr
theorem xm {l:List bL}{i:Nat}(h:i<=l.length):(uo (l.take i)).length=i:=by simp[uo];omega
theorem xR {l:List bL}{i:Nat}(h:i<=l.length):(uH (l.take i)).length=i:=by simp[uH];omega
theorem mR {l:List bL}{i:Nat}(h:i<l.length):uo (l.take (i+1))=uo (l.take i) ++ [Ji l[i].Day]:=by
 unfold uo;rw[<-bc h,cH];rfl
theorem mU {l:List bL}{i:Nat}(h:i<l.length):uH (l.take (i+1))=uH (l.take i) ++ [Ji l[i].Layout]:=by
 unfold uH;rw[<-bc h,cH];rfl
theorem yb {w:JW}{A:JA}{n i:Nat}{l:List bL}(h:Rd w 3 A n (l.flatMap aU))(hi:i<l.length):
 ∃b y,A=some (Jp b y)/\b<w.heap.size/\w.cell? (Jp b (y+i*3))=some (Ji l[i].Day)/\w.cell? (Jp b (y+i*3+1))=some (Ji l[i].Layout)/\w.cell? (Jp b (y+i*3+2))=some (.string (S l[i].File)):=by
 obtain⟨b,y,E,H,D⟩:=h.elem (cells:=aU) (C:=3) (λ_=>rfl) Jd hi;exact⟨b,y,E,H,D 0 _ rfl,D 1 _ rfl,D 2 _ rfl⟩
theorem Fh (col:Nat->Nat)(d:Nat)(v:nI)(x:iU)(w:JW)(h:cI col d v x w)(aH:x.man.Parts.length<=100)(Z:∀p∈x.man.Parts,0<=p.Day/\p.Day<17179869184/\(p.Layout=0∨p.Layout=1))(hc:∀d,0<=(x.cnt d).1/\(x.cnt d).1<=8/\0<=(x.cnt d).2/\(x.cnt d).2<=8):
 JC 31 #[Jv d] w λe w'=>e= .returned (.tuple #[Ji 0,Ji 0,.bool false])/\Jz w w':=by
 have aZ:prog.follows .mixedOrders=true:=Jk;have aD:=h.c3;obtain⟨aL,aX⟩:=Je w.heap.size;have aU:=Jh h;have ap:=h.man.on;have aA:=Jh Z;have aT:=Jh hc;have bd:=Jh h.dl;obtain⟨K,aG⟩:=Je x.man.Parts;obtain⟨ax,aI⟩:=Je K.length;rw[aG,aI] at aD ap;generalize v.A=bb at aD ap;generalize v.cp=be at aD;have aV:=Jh ap;have aB:=Jh aG;have X:=Jh aI;have bc:=Jh aX;rw[aG,aI] at aH;go_enter Tryz.func31,Tryz.ntmps31;go_wp2_with fail;go_loopw [5,6,15] (λD E y wr=>Vu aL K w D E y wr) (λ_ _ y _=>ax - (intOf y).toNat)
 case atStart=>exact⟨0,0,0,none,none,rfl,rfl,rfl,Jo,pY.start Jo⟩
 obtain⟨H,aE,aF,ay,az,rfl,rfl,rfl,bh,Y⟩:=hrel;by_cases aY:H<ax;rotate_left
 ·obtain rfl:H=ax:=Jo;have au:Jz w wr:=Y.st.below λav ac=>Jo;have Q:K.take H=K:=aw Jo;rw[Q] at Y;have y:=aU.o.below au;have W:=y.dl;have U:=y.c13;have D:bP (λ_=>False) 3 1 (.slice ay H aE) H (uo K) wr:=by have:=Y.l8.shift (R':=λ_=>False) (λ_ _ h=>h);rwa [show(uo K).length=H by simp[uo,X.o]] at this
  have T:bP (λ_=>False) 3 1 (.slice az H aF) H (uH K) wr:=by have:=Y.l9.shift (R':=λ_=>False) (λ_ _ h=>h);rwa [show(uH K).length=H by simp[uH,X.o]] at this
  have E:=Jh (Ey _ v.bp x.m x.cnt ay az aE aF H (K.map (·.Day)) (K.map λp=>p.Layout.toNat) wr y.pol (λav ac=>y.lt av (by have V:col av=5:=ac;omega)) (by have:=D.rd;unfold uo at this;rw[ig];exact this)
   (by
    have:=T.rd;unfold uH at this;rw[ig,show((λd:Nat=>cY .i64 (d:Int)) ∘ λp:bL=>p.Layout.toNat)=λp:bL=>cY .i64 ((p.Layout.toNat:Nat):Int) from rfl,gw (g:=λp:bL=>cY .i64 p.Layout) λp Z=>?_]
    ·exact this
    have:=aA.o p (by rw[aB.o];exact Z);rw[show((p.Layout.toNat:Nat):Int)=p.Layout by omega])
   (by simpa using X.o) (by simpa using X.o) Jo D.caps.1 (λd J=>by
    obtain⟨p,Z,rfl⟩:=List.mem_map.1 J;have:=aA.o p (by rw[aB.o];exact Z);unfold pJ;omega) (λM aH=>by
    obtain⟨p,Z,rfl⟩:=List.mem_map.1 aH;have:=aA.o p (by rw[aB.o];exact Z);omega) aT.o)
  have M:=Jh au;go_wp2_with fail;refine E.o.mono ?_;rintro e aa ⟨rfl,O⟩;have J:=Jh (M.o.then O);go_wp2_with fail;go_ret3;exact⟨rfl,J.o⟩
 have bi:(H:Int)<ax:=Jo;have au:Jz w wr:=Y.st.below λav ac=>Jo;have M:H<K.length:=by rw[X.o];exact aY
 have ap:=aV.o;obtain⟨bf,bk,rfl,bg,a7,a8,ba⟩:=yb (ap.below au) M;obtain⟨y,V⟩:=Je (K[H]);rw[V] at a7 a8 ba;have bj:=Y.hb;obtain⟨D,aP⟩:=Je wr.heap.size;obtain⟨W,aO,aQ⟩:∃W,wr.alloc (.cells #[Ji y.Day,Ji y.Layout,.string (S y.File)] 76)=W/\W.heap[D]?=some (.cells #[Ji y.Day,Ji y.Layout,.string (S y.File)] 76 (0,0)):=⟨_,rfl,by rw[<-aP];exact heap_alloc_new _ _⟩;have aM:pY aL [D] (.slice ay H aE) (.slice az H aF) (uo (K.take H)) (uH (K.take H)) w W.drew:=by
  rw[<-aO,<-aP];exact(Y.box Jo _).drew
 have a1:=cl aQ 0 rfl;have a6:=cl aQ 1 rfl;have aJ:(uo (K.take H)).length<1099511627776:=by simp[uo];omega
 have aK:(uH (K.take H)).length<1099511627776:=by simp[uH];omega
 have aW:=Jh aO;go_wp2_with fail;try simp only[aW.o]
 have aj:∀{E J:JW},Jz E J->(E.cell? (Jp D 0)=some (Ji y.Day)/\E.cell? (Jp D 1)=some (Ji y.Layout))->(J.cell? (Jp D 0)=some (Ji y.Day)/\J.cell? (Jp D 1)=some (Ji y.Layout)):=λO h=>⟨al O h.1,al O h.2⟩;have ab:∀{E J:JW},J.heap[D]?=E.heap[D]?->(E.cell? (Jp D 0)=some (Ji y.Day)/\E.cell? (Jp D 1)=some (Ji y.Layout))->(J.cell? (Jp D 0)=some (Ji y.Day)/\J.cell? (Jp D 1)=some (Ji y.Layout)):=λac h=>⟨(af (a:=(Jp D 0)) ac).trans h.1,(af (a:=(Jp D 1)) ac).trans h.2⟩;refine cB (n:=10) (S:=λw'=>w'.cell? (Jp D 0)=some (Ji y.Day)/\w'.cell? (Jp D 1)=some (Ji y.Layout)) aZ 10 rfl ⟨a1,a6⟩ (λE=>?_);refine JH 0 (h:=JH 1 (h:=JH 2 (h:=JH 5 (h:=JH 6 (h:=JH 7 (h:=?_))))));refine dK (rs:=[3,8]) Jk Js ?_;refine cx.cons (o:=_) Jg Jd (λU J=>?_) (cx.cons (o:=_) Jg Jd (λU J=>?_) cx.nil)
 ·skip
  have ar:=aM.box Jo (.cells #[Ji y.Day] 3);go_simp;refine J.out _ _ (aj (Below.one _ _) E) (λE=>?_);try simp only[an,JY]
  refine dK (rs:=[4,8]) Jk Js ?_;refine cx.cons (o:=_) Jg Jd (λU J=>?_) (cx.cons (o:=_) Jg Jd (λU J=>?_) cx.nil)
  ·skip
   refine pY.step rfl (.tmp 19) (.tmp 22) rfl Jk Jk (u:=Ji y.Day) ar rfl _ 1 rfl (oM W.drew (Ji y.Day)) rfl aJ ?_;intro aR aC ag aa;refine J.out _ _ (ab (aa D Js) E) (λE=>?_);try simp only[an,JY]
   refine dK (rs:=[8]) Jk Js ?_;refine cx.cons (o:=_) Jg Jd (λU J=>?_) cx.nil;have ah:=ag.box Jo (.cells #[Ji y.Layout] 3);go_simp;refine J.out _ _ (aj (Below.one _ _) E) (λE=>?_);try simp only[an,JY]
   refine dK (rs:=[9]) Jk Js ?_;refine cx.cons (o:=_) Jg Jd (λU J=>?_) cx.nil;refine pY.step rfl (.tmp 24) (.tmp 27) rfl Jk Jk (u:=Ji y.Layout) (ah).swap rfl _ 1 rfl (oM aC (Ji y.Layout)) rfl aK ?_;intro aS aN ai aq;refine J.out _ _ (ab (aq D Js) E) (λE=>?_);try simp only[an,JY]
   refine cy Jk ?_;have O:=Jh ai.swap.weak;go_wp2_with fail;go_roundw
   case rel=>
    obtain⟨ad,ak,Q⟩:=O.o.l8.form;obtain⟨ae,am,T⟩:=O.o.l9.form;have ao:=O.o;rw[<-V,<-mR M] at Q;rw[<-V,<-mU M] at T;rw[xm Jo] at Q;rw[xR Jo] at T;subst Q T;exact⟨H+1,ak,am,ad,ae,by go_num,rfl,rfl,Jw X.o,by rw[mR M,mU M,V];exact ao⟩
   simp[intOf];omega
  skip
  have ag:=ar.box Jo (.cells #[Ji y.Layout] 3);go_simp;refine J.out _ _ (aj (Below.one _ _) E) (λE=>?_);try simp only[an,JY]
  refine dK (rs:=[4]) Jk Js ?_;refine cx.cons (o:=_) Jg Jd (λU J=>?_) cx.nil;refine pY.step rfl (.tmp 19) (.tmp 22) rfl Jk Jk (u:=Ji y.Day) ag rfl _ 1 rfl ((oM W.drew (Ji y.Day)).alloc (.cells #[Ji y.Layout] 3)) rfl aJ ?_;intro aR aC ah aa;refine J.out _ _ (ab (aa D Js) E) (λE=>?_);try simp only[an,JY]
  refine dK (rs:=[9]) Jk Js ?_;refine cx.cons (o:=_) Jg Jd (λU J=>?_) cx.nil;refine pY.step rfl (.tmp 24) (.tmp 27) rfl Jk Jk (u:=Ji y.Layout) (ah).swap rfl _ 1 rfl (ED (Qn (W.drew.alloc (.cells #[Ji y.Day] 3)) (Ji y.Layout) _ Js) (aa _ Js)) rfl aK ?_;intro aS aN ai aq;refine J.out _ _ (ab (aq D Js) E) (λE=>?_);try simp only[an,JY]
  refine cy Jk ?_;have O:=Jh ai.swap.weak;go_wp2_with fail;go_roundw
  case rel=>
   obtain⟨ad,ak,Q⟩:=O.o.l8.form;obtain⟨ae,am,T⟩:=O.o.l9.form;have ao:=O.o;rw[<-V,<-mR M] at Q;rw[<-V,<-mU M] at T;rw[xm Jo] at Q;rw[xR Jo] at T;subst Q T;exact⟨H+1,ak,am,ad,ae,by go_num,rfl,rfl,Jw X.o,by rw[mR M,mU M,V];exact ao⟩
  simp[intOf];omega
 skip
 have ar:=aM.box Jo (.cells #[Ji y.Layout] 3);go_simp;refine J.out _ _ (aj (Below.one _ _) E) (λE=>?_);try simp only[an,JY]
 refine dK (rs:=[3]) Jk Js ?_;refine cx.cons (o:=_) Jg Jd (λU J=>?_) cx.nil;have ag:=ar.box Jo (.cells #[Ji y.Day] 3);go_simp;refine J.out _ _ (aj (Below.one _ _) E) (λE=>?_);try simp only[an,JY]
 refine dK (rs:=[4]) Jk Js ?_;refine cx.cons (o:=_) Jg Jd (λU J=>?_) cx.nil;refine pY.step rfl (.tmp 19) (.tmp 22) rfl Jk Jk (u:=Ji y.Day) ag rfl _ 1 rfl (Qn (W.drew.alloc (.cells #[Ji y.Layout] 3)) (Ji y.Day) _ Js) rfl aJ ?_;intro aR aC ah aa;refine J.out _ _ (ab (aa D Js) E) (λE=>?_);try simp only[an,JY]
 refine dK (rs:=[9]) Jk Js ?_;refine cx.cons (o:=_) Jg Jd (λU J=>?_) cx.nil;refine pY.step rfl (.tmp 24) (.tmp 27) rfl Jk Jk (u:=Ji y.Layout) (ah).swap rfl _ 1 rfl (ED ((oM W.drew (Ji y.Layout)).alloc (.cells #[Ji y.Day] 3)) (aa _ Js)) rfl aK ?_;intro aS aN ai aq;refine J.out _ _ (ab (aq D Js) E) (λE=>?_);try simp only[an,JY]
 refine cy Jk ?_;have O:=Jh ai.swap.weak;go_wp2_with fail;go_roundw
 case rel=>
  obtain⟨ad,ak,Q⟩:=O.o.l8.form;obtain⟨ae,am,T⟩:=O.o.l9.form;have ao:=O.o;rw[<-V,<-mR M] at Q;rw[<-V,<-mU M] at T;rw[xm Jo] at Q;rw[xR Jo] at T;subst Q T;exact⟨H+1,ak,am,ad,ae,by go_num,rfl,rfl,Jw X.o,by rw[mR M,mU M,V];exact ao⟩
 simp[intOf];omega
end
section
attribute [local go_sem] Oper.semAt_some
theorem vq (w:JW):JC 116 #[] w λe w'=>e= .returned (.agg #[.func (.func 220) #[] #[],.func (.func 223) #[] #[]])/\Jz w w':=by
 go_enter Tryz.func116,Tryz.ntmps116;go_wp2_with fail;refine bodyPost_ret (by rw[fX rfl];go_simp;try exact rfl) rfl ⟨rfl,?_⟩;exact Below.one _ _
theorem sf (r:Row)(b d:Nat)(w:JW)(Z:w.cell? (Jp b 0)=some (Jv d))(ab:w.cell? (Jp d 11)=some (Jn)):
 JC 117 #[ML r,Jv b] w λe w'=>e= .returned (.bool (!true))/\Jz w w':=by
 have ac:prog.follows .mixedOrders=true:=Jk;obtain⟨U,X⟩:=Je w.heap.size;obtain⟨H,E,O⟩:=r;obtain⟨D,ad,J,T⟩:∃D,w.alloc (.cells #[Ji H,Ji E,Ji O] 130)=D/\Jz w D/\D.heap[U]?=some (.cells #[Ji H,Ji E,Ji O] 130 (0,0)):=
  ⟨_,rfl,Below.one _ _,by rw[<-X];exact heap_alloc_new _ _⟩
 have ae:=cl T 0 rfl;have af:=cl T 1 rfl;have ah:=al J Z;have ai:=al J ab;have V:=Jh ad;have W:=Jh J;go_enter Tryz.func117,Tryz.ntmps117;go_wp2_with fail;try simp only[V.o]
 refine cB (n:=9) (S:=λw'=>Jz D w') ac 9 rfl (ag _ _).drew (λQ=>?_);refine JH 0 (hy:=by(intro w y;obtain y:=y;have K:=al y ah;go_simp)<;>with_reducible rfl) (h:=JH 1 (h:=JH 2 (h:=JH 3 (hy:=by(intro w y;obtain y:=y;have K:=al y ai;go_simp)<;>with_reducible rfl) (h:=JH 4 (h:=JH 5 (hy:=by(intro w y;obtain y:=y;have K:=al y af;go_simp)<;>with_reducible rfl) (h:=JH 6 (h:=JH 7 (hy:=by(intro w y;obtain y:=y;have K:=al y ae;go_simp)<;>with_reducible rfl) (h:=?_))))))));refine JM 8 (h:=λM Y=>?_);go_simp;refine(FR E H _).mono ?_;rintro e aj ⟨rfl,aa⟩;have M:=Jh (Q.then aa);refine Y.out _ _ M.o (λQ=>?_);try simp only[an,JY]
 refine cy Jk ?_;go_wp2_with fail;go_ret;exact⟨rfl,W.o.then M.o⟩
theorem EF (y D:Value)(w:JW):(jD 245 (.agg #[y,D]) (Ji 0)).run prog w= .ok (.agg #[y]) w:=Jk
theorem EG (D y:Value)(w:JW):(jD 245 (.agg #[D,y]) (Ji 1)).run prog w= .ok (.agg #[y]) w:=Jk
theorem vp (y:Value)(w:JW):(Instr.field 244 (.agg #[y]) 0).run prog w= .ok y w:=Jk
theorem VU {N:Nat}{y:List Int}(_:Held N y):∀r∈df N y,0<=r.ID/\r.ID<N:=λr D=>by
 obtain⟨K,H,J,E,rfl⟩:=nB D;simp only;omega
theorem Ig (col:Nat->Nat)(d:Nat)(v:nI)(x:iU)(w:JW)(h:cI col d v x w)(N:Nat)(D:List Int)(bC:Held N D)(bE:D≠[])(p:bL)(bk:p.Layout=0∨p.Layout=1)(bi:x.fs p.File=some (KX p.Layout N D))(bj:p.File.length<=1000)
 (A:JA) (c:Nat) (hr:Rd w 1 A N (upto N)) (hc:N<=c):
 JC 57 #[Jv d,fL p,.slice A N c,.agg #[Ji 0,Ji 4000]] w λe w'=>
  ∃bc be,e= .returned (.slice bc (df N D).length be)/\bP (λk=>k<w.heap.size) 130 3 (.slice bc (df N D).length be) (df N D).length ((df N D).flatMap aR) w'/\Below w.heap.size w w':=by
 have aW:prog.follows .mixedOrders=true:=Jk;have bV:∀(E:Fn)(first y:Array Value)(w:JW),(cO E first y).run prog w= .ok (.func E first y) w:=λ_ _ _ _=>rfl;obtain⟨y,av⟩:=Je w.heap.size;obtain⟨aB,aq,ak⟩:=p;unfold fL;simp only at bk bi bj ⊢;obtain⟨J,bI,bh,bG,bm,aX,bN⟩:∃J,((w.alloc (.cells #[Jv d] 25)).alloc (.cells #[Ji aB,Ji aq,.string (S ak)] 76)).alloc (.cells #[Ji 0,Ji 4000] 30)=J/\Below w.heap.size w J/\J.heap.size=y+3/\
  J.heap[y]?=some (.cells #[Jv d] 25 (0,0))/\J.heap[y+1]?=some (.cells #[Ji aB,Ji aq,.string (S ak)] 76 (0,0))/\J.heap[y+2]?=some (.cells #[Ji 0,Ji 4000] 30 (0,0)):=by
  have E:=heap_alloc_new w (.cells #[Jv d] 25);have H:=heap_alloc_new (w.alloc (.cells #[Jv d] 25)) (.cells #[Ji aB,Ji aq,.string (S ak)] 76);have K:=heap_alloc_new ((w.alloc (.cells #[Jv d] 25)).alloc (.cells #[Ji aB,Ji aq,.string (S ak)] 76)) (.cells #[Ji 0,Ji 4000] 30);simp only[aI,av,aV,bM] at E H K;refine⟨_,rfl,((Below.one _ _).alloc Js _).alloc (by simp;omega) _,by simp[av],?_,?_,K⟩
  ·exact(aJ _ _ _ (by simp;omega)).trans ((aJ _ _ _ (by simp;omega)).trans E)
  exact(aJ _ _ _ (by simp;omega)).trans H
 have aE:=h.below bh;have bn:=cl bm 0 rfl;have bo:=cl aX 1 rfl;have bX:=cl aX 2 rfl;have bW:=aE.c1;have bQ:=aE.c12;have br:=Jh (λE=>(iq _ v.bs v.bd x.nf x.fs ak (J.drewN E) (aE.u.below ((ag _ _).drewN E)) bj).mono (λe w'(h:_/\_)=>(show e= .returned (.tuple #[.string (S (KX aq N D)),.bool true])/\w'=J.drewN E from⟨by rw[h.1,bi];rfl,h.2.symm⟩)));have a6:=Jh aE;have bS:=Jh bm;have bT:=Jh aX;have bx:=Jh bN;have bt:=Jh bI;have bu:=Jh bh;have ba:=Jh bG;have aa:=Jh bC;have bq:=Jh bE;have bw:=Jh hr;have bv:=Jh h.dl;go_enter Tryz.func57,Tryz.ntmps57;go_wp2_with fail;try simp only[bt.o]
 go_quiet ((go_at_call 40;exact ek (br.o _)));have bO:(J.drewN nq).heap[y+2]?=_:=bx.o;have bA:Below J.heap.size J (J.drewN nq):=(ag _ _).drewN nq;have ab:=Jh bA;have aK:=Jh bO;have bl:(J.drewN nq).heap.size=y+3:=ba.o;generalize J.drewN nq=aA at*;have bf:=al ab.o bQ;have ar:=al ab.o bn;have bp:=cl aK.o 0 rfl;go_wp2_with fail;refine cB (n:=7) (S:=λw'=>w'.cell? (Jp y 0)=some (Jv d)/\w'.cell? (Jp d 12)=some (Ji 0)/\w'.cell? (Jp (y+2) 0)=some (Ji 0)) aW 7 rfl ⟨ar,bf,bp⟩ (λT=>?_);refine JH 0 (h:=JH 1 (h:=JH 2 (h:=JH 3 (h:=JH 4 (h:=JH 5 (h:=?_))))));refine JM 6 (h:=λai K=>?_);go_simp;refine K.out _ _ ⟨ar,bf,bp⟩ (λT=>?_);try simp only[an,JY]
 refine cy Jk ?_;have bY:=(aP aK.o 0).2;obtain⟨E,az⟩:=Je (aA.drew.setCell (Jp (y+2) 0) (Ji 0));have bJ:E.heap[y+2]?=some (.cells #[Ji 0,Ji 4000] 30 (0,0)):=by rw[<-az];exact(am (w:=aA.drew) aK.o _).trans rfl
 have bF:∀k,k≠y+2->E.heap[k]?=aA.heap[k]?:=λk aw=>by rw[<-az];exact ae _ _ _ _ (by simpa using aw)
 have bH:E.heap.size=aA.heap.size:=by rw[<-az];simp[aj]
 have bz:Below w.heap.size w E:=by
  have H:Below w.heap.size w aA:=bu.o.then ab.o;rw[<-az,av];rw[av] at H;exact H.drew.setCell (p:=(Jp (y+2) 0)) (by simp only;omega) _
 have aD:=Jh bJ;have aC:=Jh bF;have ah:=Jh bz;have ap:=Jh bH;have bR:=Jh az;have ar:E.cell? (Jp y 0)=some (Jv d):=(af (a:=(Jp y 0)) (aC.o y Jo)).trans (al ab.o bn);have bU:=a6.o.dl;have bg:E.cell? (Jp d 11)=some (Jn):=by
  have H:d<y:=by rw[<-av];exact bv.o
  exact(af (a:=(Jp d 11)) (aC.o d Jo)).trans (al ab.o a6.o.c11)
 have a7:=Jh (show d<E.heap.size by rw[ap.o,bl];have:=ba.o;omega);have a8:∀ac,Below w.heap.size w ac->Rd ac 1 A N (upto N):=λac ad=>bw.o.below ad;have bb:=Jh bl;rcases bk with rfl|rfl
 ·skip
  go_wp2_with fail;have X:=(af (a:=(Jp (y+1) 1)) (aC.o (y+1) Jo)).trans (al ab.o bo);have Y:E.cell? (Jp (y+1+1) 0)=some (Ji 0):=cl aD.o 0 rfl;have Z:E.cell? (Jp (y+1+1) 1)=some (Ji 4000):=cl aD.o 1 rfl;refine cB (n:=11) (S:=λw'=>w'.cell? (Jp (y+1) 1)=some (Ji 0)/\w'.cell? (Jp (y+1+1) 0)=some (Ji 0)/\w'.cell? (Jp (y+1+1) 1)=some (Ji 4000)) aW 11 rfl ⟨X,Y,Z⟩ (λT=>?_);refine JH 1 (h:=JH 2 (h:=JH 5 (h:=JH 6 (h:=JH 7 (h:=JH 9 (h:=?_))))));refine JM 0 (h:=λai K=>?_);go_simp;refine(vq _).mono ?_;rintro au O ⟨rfl,M⟩;have M:Below E.heap.size E O:=M.h;have H:=Jh M;refine K.out _ _ ⟨al M X,al M Y,al M Z⟩ (λT=>?_);try simp only[an,JY]
  have bD:=EF;have bB:=vp;refine JH 3 (h:=JH 4 (h:=?_));refine JM 8 (h:=λai K=>?_);go_simp;refine(Ci N D aa.o bq.o A c O (a8 O (ah.o.then H.o)) hc).mono ?_;rintro au aZ ⟨aL,aN,rfl,aU,W⟩;have U:=H.o.then W;have aF:=Jh (qw (λ_=>true) 117 y O.heap.size aL aN (df N D).length (df N D) aZ (λ_ _=>rfl) (λac ad aY=>sf aY y d ac ((ad.cell (p:=(Jp y 0)) (by have:=H.o.size;have:=ap.o;have:=bb.o;show y<O.heap.size;omega)).trans (al W (al H.o ar))) ((ad.cell (p:=(Jp d 11)) (by have:=H.o.size;have:=ap.o;have:=a7.o;show d<O.heap.size;omega)).trans (al W (al H.o bg)))) W.size aU rfl (Jw aa.o.cnt));have aG:=Jh U;refine K.out _ _ ⟨al U X,al U Y,al U Z⟩ (λT=>?_);try simp only[an,JY]
  refine JM 10 (h:=λai K=>?_);go_simp;refine aF.o.mono ?_;rintro au a1 ⟨aM,bK,aO,rfl,ax,ay,Q⟩;have V:Below E.heap.size E a1:=aG.o.trans (⟨Q.os,Q.tape,Q.output,Q.size,λk aw=>Q.block k (Jw H.o.size)⟩);have aS:(df N D).filter (λ_=>true)=df N D:=List.filter_eq_self.2 λ_ _=>rfl;rw[aS] at ax ay;subst ax;have ao:=Jh ay;have aH:=Jh V;refine K.out _ _ ⟨al V X,al V Y,al V Z⟩ (λT=>?_);try simp only[an,JY]
  refine cy Jk ?_;go_wp2_with fail;go_ret;exact⟨aM,aO,rfl,⟨ao.o.1,λaQ aT aw=>ao.o.2 aQ aT (Jx ah.o.size H.o.size)⟩,ah.o.then aH.o⟩
 skip
 go_wp2_with fail;have X:=(af (a:=(Jp (y+1) 1)) (aC.o (y+1) Jo)).trans (al ab.o bo);have Y:E.cell? (Jp (y+1+1) 0)=some (Ji 0):=cl aD.o 0 rfl;have Z:E.cell? (Jp (y+1+1) 1)=some (Ji 4000):=cl aD.o 1 rfl;refine cB (n:=11) (S:=λw'=>w'.cell? (Jp (y+1) 1)=some (Ji 1)/\w'.cell? (Jp (y+1+1) 0)=some (Ji 0)/\w'.cell? (Jp (y+1+1) 1)=some (Ji 4000)) aW 11 rfl ⟨X,Y,Z⟩ (λT=>?_);refine JH 1 (h:=JH 2 (h:=JH 5 (h:=JH 6 (h:=JH 7 (h:=JH 9 (h:=?_))))));refine JM 0 (h:=λai K=>?_);go_simp;refine(vq _).mono ?_;rintro au O ⟨rfl,M⟩;have M:Below E.heap.size E O:=M.h;have H:=Jh M;refine K.out _ _ ⟨al M X,al M Y,al M Z⟩ (λT=>?_);try simp only[an,JY]
 have bD:=EG;have bB:=vp;refine JH 3 (h:=JH 4 (h:=?_));refine JM 8 (h:=λai K=>?_);go_simp;refine(Cj (mB N D) (df N D) A c N 0 4000 O (Jw aa.o.Cp) aa.o.Xh (VU aa.o) (a8 O (ah.o.then H.o)) (Jw aa.o.n4) aa.o.n1).mono ?_;rintro au aZ ⟨aL,aN,rfl,aU,W⟩;have U:=H.o.then W;have aF:=Jh (qw (λ_=>true) 117 y O.heap.size aL aN (df N D).length (df N D) aZ (λ_ _=>rfl) (λac ad aY=>sf aY y d ac ((ad.cell (p:=(Jp y 0)) (by have:=H.o.size;have:=ap.o;have:=bb.o;show y<O.heap.size;omega)).trans (al W (al H.o ar))) ((ad.cell (p:=(Jp d 11)) (by have:=H.o.size;have:=ap.o;have:=a7.o;show d<O.heap.size;omega)).trans (al W (al H.o bg)))) W.size aU rfl (Jw aa.o.cnt));have aG:=Jh U;refine K.out _ _ ⟨al U X,al U Y,al U Z⟩ (λT=>?_);try simp only[an,JY]
 refine JM 10 (h:=λai K=>?_);go_simp;refine aF.o.mono ?_;rintro au a1 ⟨aM,bK,aO,rfl,ax,ay,Q⟩;have V:Below E.heap.size E a1:=aG.o.trans (⟨Q.os,Q.tape,Q.output,Q.size,λk aw=>Q.block k (Jw H.o.size)⟩);have aS:(df N D).filter (λ_=>true)=df N D:=List.filter_eq_self.2 λ_ _=>rfl;rw[aS] at ax ay;subst ax;have ao:=Jh ay;have aH:=Jh V;refine K.out _ _ ⟨al V X,al V Y,al V Z⟩ (λT=>?_);try simp only[an,JY]
 refine cy Jk ?_;go_wp2_with fail;go_ret;exact⟨aM,aO,rfl,⟨ao.o.1,λaQ aT aw=>ao.o.2 aQ aT (Jx ah.o.size H.o.size)⟩,ah.o.then aH.o⟩
def li (N:Nat)(D:List Int)(l:List bL):List Row:=l.flatMap λy=>df N (fa D y.Day)
theorem GX (N:Nat)(y:List Int){l:List bL}{i:Nat}(h:i<l.length):li N y (l.take (i+1))=li N y (l.take i) ++ df N (fa y l[i].Day):=by
 unfold li;rw[<-bc h,ao];simp
theorem uN {N:Nat}{D:List Int}(y:Held N D):∀(l:List bL),(li N D l).length<=48*l.length
 |[]=>by simp[li]
 |p :: l=>by
  have E:=uN y l;have H:=(y.day p.Day).cnt;unfold li at E ⊢;rw[aE,ab,ak];omega
def pH (c:Nat)(l:List bL)(cnt:Int->Int × Int):Prop:=∀y:Int,0<=(cnt y).1/\0<=(cnt y).2/\((∀D∈l,D.Day≠y)->(cnt y).1<=c/\(cnt y).2<=c)/\(cnt y).1<=c+1/\(cnt y).2<=c+1
theorem pH.next {c:Nat}{l:List bL}{cnt:Int->Int × Int}{i:Nat}(h:pH c (l.take i) cnt)(hi:i<l.length)(Q:∀p∈l.take i,p.Day≠l[i].Day)(U:Nat):pH c (l.take (i+1)) (bump cnt l[i].Day U 1):=by
 intro D;obtain⟨J,K,H,M,O⟩:=h D;rw[<-bc hi];unfold bump sO;by_cases E:D=l[i].Day
 ·subst E;obtain⟨T,V⟩:=H Q;rw[if_pos rfl];refine⟨?_,?_,λy=>absurd rfl (y l[i] (List.mem_append_right _ (List.mem_singleton.2 rfl))),?_,?_⟩<;>split<;>simp only<;>omega
 rw[if_neg E];exact⟨J,K,λy=>H λp T=>y p (List.mem_append_left _ T),M,O⟩
structure vW (x:iU) (N:Nat) (ts:List Int):Prop where
 held:Held N ts
 n:x.man.Parts≠[]->x.N=N
 part:∀p∈x.man.Parts,(∃dn:Nat,p.Day=dn/\dn<=35)/\(p.Layout=0∨p.Layout=1)/\fa ts p.Day≠[]/\x.fs p.File=some (KX p.Layout N (fa ts p.Day))/\p.File.length<=1000
 VS:x.man.Parts.length<=12
 apart:x.man.Parts.Pairwise λp q=>p.Day≠q.Day
structure NE (col:Nat->Nat) (v:nI) (x:iU) (N:Nat) (ts:List Int) (B c:Nat) (w:JW) (i k co:Nat) (O:JA) (m:Nat) (cnt:Int->Int × Int) (wr:JW):Prop where
 le:i<=x.man.Parts.length
 len:(li N ts (x.man.Parts.take i)).length=k
 lie:bP (λj=>j<B) 130 3 (.slice O k co) k ((li N ts (x.man.Parts.take i)).flatMap aR) wr
 pol:jU (λj=>col j=5) v.bp m cnt wr
 s:jl (λj=>col j=5) w wr
 m:m<=x.m+i
 cnt:pH c (x.man.Parts.take i) cnt
theorem ya {col:Nat->Nat}{w w':JW}(D:Lt col w)(h:jl (λk=>col k=5) w w'):bF (λc=>c=5) col col w w':=⟨λ_ _=>rfl,λ_ y=>.inl (D.zero y),h⟩
theorem NE.db {col:Nat->Nat}{d:Nat}{v:nI}{x:iU}{N:Nat}{H:List Int}{B c:Nat}{w:JW}{i k E:Nat}{D:JA}{m:Nat}{cnt:Int->Int × Int}{wr:JW}(h:NE col v x N H B c w i k E D m cnt wr)(y:cI col d v x w):cI col d v {x with m:=m,cnt:=cnt} wr:=
 y.UQ (ya y.lt h.s) Jo Jo Jo Jo Jo Jo h.pol
structure Fw (x:iU):Prop where
 can:jP x.head
 each:∀s∈x.head,(∃k:Nat,s.ID=k/\k<x.N)/\s.L.length<=12/\∀y∈s.L,0<=y.T/\y.T<4000
 len:x.head.length<=4
def hrows (l:List eP)(i:Nat):List Row:=(l.take i).flatMap rowsOf
theorem sH {l:List eP}{i:Nat}(h:i<l.length):hrows l (i+1)=hrows l i ++ rowsOf l[i]:=by
 unfold hrows;rw[<-bc h,ao];simp
theorem uC {l:List eP}(y:∀s∈l,s.L.length<=12):∀i,i<=l.length->(hrows l i).length<=12*i
 |0,_=>by simp[hrows]
 |i+1,J=>by
  have D:=uC y i Jo;have E:=y _ (ah (show i<l.length by omega));rw[sH Jo,ab];have H:(rowsOf l[i]).length=l[i].L.length:=by simp[rowsOf]
  omega
structure Uh (l:List eP) (B2:Nat) (wq:JW) (i k co:Nat) (O:JA) (wr:JW):Prop where
 le:i<=l.length
 len:(hrows l i).length=k
 lie:bP (λj=>j<B2) 130 3 (.slice O k co) k ((hrows l i).flatMap aR) wr
 sR:Below B2 wq wr
 sz:B2<=wr.heap.size
theorem Qo (E:JW)(y:ej)(H:TypeId):Rd (E.alloc (.cells #[Ji y.ID,.slice y.A y.n y.c] H)) 2 (some (Jp E.heap.size 0)) 1 (cn y):=by
 have J:=heap_alloc_new E (.cells #[Ji y.ID,.slice y.A y.n y.c] H);have M:=(aP J 0).1;have O:=(aP J 1).1;refine⟨rfl,λ_=>⟨_,0,rfl,Js,λK Q D=>?_⟩⟩
 match K,D with
 |0,D=>
  cases D;exact M.trans rfl
 |1,D=>
  cases D;exact O.trans rfl
theorem Ky {B:Nat}{K wr H J:JW}{own:Option Nat}(h:Below B K wr)(y:Jz wr H)(D:cC (λj=>j<H.heap.size/\own≠some j) H J)(Q:B<=wr.heap.size)(ho:∀g,own=some g->B<=g):Below B K J:=
 ⟨D.os.trans (y.os.trans h.os),D.tape.trans (y.tape.trans h.tape),D.output.trans (y.output.trans h.output),ap h.size (ap y.size D.size),λE O=>
  (D.block E ⟨Jw y.size,λM=>Jw (ho E M)⟩).trans ((y.block E Jo).trans (h.block E O))⟩
structure jn (rows:List Row):Prop where
 once:Once kR rows
 ok:∀r∈rows,Row.ok r
 few:∀id,(cF rows id).length<20
 ids:∀L:List Int,L.Nodup->(∀i∈L,∃r∈rows,r.ID=i)->L.length<=12
theorem pn {R:Nat->Prop}{n size c:Nat}{e:TypeId}{w:JW}{A:JA}{xs:List Value}(h:bP R e size (.slice A n c) n xs w):n<=c:=by
 rcases dx n with y|y
 ·omega
 obtain⟨E,-,D,-⟩:=h.own y;exact D
theorem Ce {B:Nat}{y:TypeId}{A:JA}{c:Nat}{xs:List ej}{l:List eP}{w:JW}(h:fP B y (.slice A xs.length c) xs l w):xs.length<=c:=by
 obtain⟨E,-,-,D,-⟩:=h;exact pn D
theorem Qb {B J:Nat}{K:TypeId}{v:Value}{xs:List ej}{l:List eP}{w:JW}(h:fP B K v xs l w)(hB:J<=B):fP J K v xs l w:=by
 obtain⟨Q,T,U,V,W,y⟩:=h;exact⟨Q,λX Y=>T X Jo,U,V,W,λH D E=>⟨(y H D E).1,λM O=>⟨((y H D E).2 M O).1,Jw (((y H D E).2 M O).2)⟩⟩⟩
theorem RQ {F:Nat->Prop}{J wr K M:JW}{own:Option Nat}(h:jl F J wr)(y:Jz wr K)(D:cC (λj=>j<K.heap.size/\own≠some j) K M)(ho:∀g,own=some g->J.heap.size<=g):jl F J M:=
 ⟨D.os.trans (y.os.trans h.os),D.tape.trans (y.tape.trans h.tape),D.output.trans (y.output.trans h.output),ap h.size (ap y.size D.size),λE H Q=>
  (D.block E ⟨ai H (ap h.size y.size),λO=>Jw (ho E O)⟩).trans ((y.block E (ai H h.size)).trans (h.block E H Q))⟩
def CK (col:Nat->Nat)(d:Nat)(v:nI)(x:iU)(w:JW)(c:Nat)(K:List eP)(e:Ending)(w':JW):Prop:=∃E J D y,e= .returned E/\fP w.heap.size 68 E J K w'/\(∀H∈J,H.n<=H.c)/\
 cI col d v {x with m:=D,cnt:=y} w'/\jl (λE=>col E=5) w w'/\D<=x.m+x.man.Parts.length/\pH c x.man.Parts y
theorem Pq (col:Nat->Nat)(d:Nat)(v:nI)(x:iU)(w:JW)(h:cI col d v x w)(N:Nat)(W:List Int)(c:Nat)(dX:vW x N W)(cP:pH c [] x.cnt)(d5:c<=1000)(eh:x.m<=1000)(ea:Fw x)(bH ds:List eP)(ck:jV [] (li N W x.man.Parts) bH/\(∀s∈bH,s.L.length<=1000)/\bH.length<=1000/\jV bH (x.head.flatMap rowsOf) ds)(d7:jn (li N W x.man.Parts))(d8:jn (x.head.flatMap rowsOf))
 (A:JA) (ca:Nat) (hr:Rd (Off (jB col) w) 1 A x.N (upto x.N)) (fo:x.N<=ca) (fm:x.N<=4):
 JC 21 #[Jv d,.slice A x.N ca,.agg #[Ji 0,Ji 4000],.bool true] w (CK col d v x w c ds):=by
 have ei:prog.follows .mixedOrders=true:=Jk;obtain⟨M,cH⟩:=Je w.heap.size;obtain⟨ak,dp,b9,fw,er⟩:∃ak,w.alloc (.cells #[Ji 0,Ji 4000] 30)=ak/\Jz w ak/\ak.heap.size=M+1/\ak.heap[M]?=some (.cells #[Ji 0,Ji 4000] 30 (0,0)):=
  ⟨_,rfl,Below.one _ _,by simp[cH],by rw[<-cH];exact heap_alloc_new _ _⟩
 have aV:=h.below b9;have dO:(w.alloc (.cells #[Ji 0,Ji 4000] 30)).cell? (Jp d 3)=some (.slice v.A x.man.Parts.length v.cp):=by rw[dp];exact aV.c3
 obtain⟨co,de⟩:=Je x.man.Parts.length;rw[de] at dO;obtain⟨fO,cL⟩:=Je v.A;rw[cL] at dO;have eJ:=Jh cL;have bL:=Jh aV;have av:=Jh dX;have bt:=Jh ea;have bT:=Jh ck;have bM:=Jh d7;have bO:=Jh d8;have dz:=Jh (Ja cP (Ja d5 eh));have dk:Rd (Off (jB col) ak) 1 A x.N (upto x.N):=hr.part (gP b9);have eS:=Jh dp;have dD:=Jh b9;have dL:=Jh er;have bQ:=Jh de;obtain⟨aq,b7⟩:=Je x.N;rw[b7] at dk fo fm;rw[b7];have dB:=Jh b7;have dY:NE col v x N W (M+1) c ak 0 0 0 none x.m x.cnt ak:=⟨Jo,rfl,bP.nil _ _ _ _,aV.pol,jl.refl _ _,Jo,cP⟩;have eN:=Jh dY;have bK:=Jh (show ∀J,M<=J->¬col J=5 from λJ bk D=>Jw (h.lt.zero (k:=J) (by rw[cH];exact bk)));have aT:=Jh fw;have dC:=Jh (show ∀Q,jl (λJ=>col J=5) ak Q->Rd Q 1 A aq (upto aq) from λQ aX=>Rd.part (dk.part ((ya aV.lt aX).part Jo)) (nz _ Q));clear ea ck d7 d8 cL h aV dX cP hr dk dp b9 er de b7 d5 eh dY;go_enter Tryz.func21,Tryz.ntmps21;rcases(show(aq:Int)<=2∨¬(aq:Int)<=2 from Decidable.em _) with ee|ee;all_goals
  go_wp2_with fail;try simp only[eS.o]
  go_loopw [9,26] (λdv aZ wr=>∃(O J ad:Nat)(aa:JA)(aE:Nat)(az:Int->Int × Int),aZ=Ji O/\dv= .slice aa J ad/\NE col v x N W (M+1) c ak O J ad aa aE az wr) (λ_ aZ _=>co - (intOf aZ).toNat)
  case atStart=>exact⟨0,0,0,none,_,_,rfl,rfl,eN.o⟩
  obtain⟨O,J,ad,aa,aE,az,rfl,rfl,aW⟩:=hrel;by_cases bE:O<co
  ·have fS:(O:Int)<co:=Jo;have aO:O<x.man.Parts.length:=by rw[bQ.o];exact bE
   have cS:=aW.db bL.o;have dd:=cS.man.on;rw[eJ.o] at dd;have Y:=av.o.part _ (ah aO);obtain⟨fk,fA,D,cY,ew,ey,ez⟩:=yb dd aO;obtain⟨au,dj⟩:=Je (x.man.Parts[O]);rw[dj] at ew ey ez Y;obtain⟨⟨H,d6,fQ⟩,dc,dg,cU,cW⟩:=Y;obtain⟨fX,du,dt⟩:=au;simp only at d6 dc dg cU cW ew ey ez;subst d6;subst D;obtain⟨U,aY⟩:=Je wr.heap.size;obtain⟨Q,aX,bj,bG,a6⟩:∃Q,wr.alloc (.cells #[Ji (H:Int),Ji du,.string (S dt)] 76)=Q/\Below wr.heap.size wr Q/\Q.heap.size=U+1/\Q.heap[U]?=some (.cells #[Ji (H:Int),Ji du,.string (S dt)] 76 (0,0)):=⟨_,rfl,Below.one _ _,by simp[aY],by rw[<-aY];exact heap_alloc_new _ _⟩;have eR:=Jh (λQ=>EZ H Q Jo);have fF:=cl a6 0 rfl;have cx:=Jh aX;have cz:=Jh bj;have bW:=Jh bG;have cC:=Jh a6;have K:=Jh aW;have bb:=Jh cS;have dI:=Jh dj;have bS:=Jh (Ja dc (Ja dg (Ja cU cW)));have a8:=Jh aY;clear dd aW cS dj dc dg cU cW aX bj bG a6;go_wp2_with fail;try simp only[cx.o]
   try go_wp2_with fail
   refine(eR.o _).mono ?_;rintro D bJ ⟨rfl,cb⟩;have fx:M+1<=wr.heap.size:=by have:=K.o.s.size;have:=aT.o;omega
   have es:wr.heap[M]?=some (.cells #[Ji 0,Ji 4000] 30 (0,0)):=(K.o.s.block M (Jw aT.o) (bK.o M (ac _))).trans dL.o;obtain⟨dN,d0⟩:=Je bJ.heap.size;obtain⟨Z,fz,aM,en,dr⟩:∃Z,bJ.alloc (.cells #[Ji ((H:Int)*100),Ji (((H:Int)+1)*100)] 30)=Z/\Below bJ.heap.size bJ Z/\Z.heap.size=dN+1/\Z.heap[dN]?=some (.cells #[Ji ((H:Int)*100),Ji (((H:Int)+1)*100)] 30 (0,0)):=⟨_,rfl,Below.one _ _,by simp[d0],by rw[<-d0];exact heap_alloc_new _ _⟩;have ar:Jz wr Z:=(cz.o.then cb).then aM;have a1:=(ar.block M Jo).trans es;have aC:=((cb.then aM).block U (Jw bW.o)).trans cC.o;have ax:=cl a1 0 rfl;have aL:=cl a1 1 rfl;have e8:=cl dr 0 rfl;have e9:=cl dr 1 rfl;have p0:=cl aC 0 rfl;have fB:=cl aC 1 rfl;have fC:=cl aC 2 rfl;have fh:=Jf ((H:Int)*100≥4000);have fi:=Jf ((4000:Int)<=(H:Int)*100);have fj:decide (((H:Int)+1)*100<=0)=false:=decide_eq_false Jo;have b8:aq=N:=by rw[<-dB.o];exact av.o.n (λfe=>by rw[fe] at aO;simp at aO)
   have e3:=Jh (show U+1<=bJ.heap.size by rw[<-bW.o];exact cb.size);have bw:=Ig col d v {x with m:=aE,cnt:=az} Z (bb.o.below ar) N (fa W H) (av.o.held.day H) bS.o.2.1 ⟨H,du,dt⟩ bS.o.1 bS.o.2.2.1 bS.o.2.2.2 A ca (by rw[<-b8];exact dC.o Z (K.o.s.trans (jl.of ar) λ_ _ D=>D)) Jo;unfold fL at bw;simp only at bw;rw[<-b8] at bw;have eQ:=Jh bw;have eG:=Jh b8;have bV:=Jh ar;have e4:=Jh aC;have dJ:=Jh (Ja fx (Ja en aM.size));clear b8 bw ar es a1 aC dr aM cb en;go_wp2_with fail;clear fz;refine eQ.o.mono ?_;rintro D aS ⟨e6,fb,rfl,c8,cc⟩;have dQ:df aq (fa W (H:Int))=df N (fa W (H:Int)):=by rw[eG.o]
   rw[dQ] at c8 ⊢;clear dQ;have cO:Jz wr aS:=bV.o.then cc;have dU:=K.o.lie.below cO;have dV:∀E,(aQ aa J ad).ownBlock=some E->M+1<=E/\E<U:=λE T=>⟨Nat.not_lt.1 λbE=>K.o.lie.2 E T bE,by have:=(K.o.lie.1.lt E T).2;rw[a8.o] at this;exact this⟩;have dW:bP (λy=>y<aS.heap.size/\(aQ aa J ad).ownBlock≠some y) 130 3 (.slice aa J ad) J ((li N W (x.man.Parts.take O)).flatMap aR) aS:=dU.shift λE T Y=>Y.2 T;have fu:J<=48*O:=by rw[<-K.o.len];exact ap (uN av.o.held _) (Nat.mul_le_mul_left _ (by rw[aF];omega))
   have dm:=(av.o.held.day H).cnt;have fU:O<=12:=Jw av.o.VS;have p0:=al cc p0;have bv:=Jh (Ja dV dW);have bx:=Jh cO;have eX:=Jh c8.rd;have eZ:=Jh (show gm (λy=>y<aS.heap.size/\(aQ aa J ad).ownBlock≠some y) aS from λy aB=>aB.1);have e5:=Jh ((cc.block U (by have:=bV.o.size;have:=dJ.o.2.1;have:=dJ.o.2.2;have:=a8.o;have:=e3.o;omega)).trans e4.o);clear cO dU dV dW cc c8 fB fC ax aL e8 e9 fh fi fj;go_wp2_with (at_builtin;go_must (refine cX rfl (.tmp 45) (.tmp 50) 106 Jr 130 (.agg #[Ji 0,Ji 0,Ji 0]) 3 24 underlying106 mu rfl Jd (λy=>y<aS.heap.size/\(aQ aa J ad).ownBlock≠some y) J _ _ aS bv.o.2 Jr eZ.o e6 (df N (fa W H)).length fb _ Jr eX.o (px _) Jm Jo ?_);intro dy X dh eo fq d1;obtain⟨cD,cE,rfl⟩:=dh.form;have cA:=Jh dh;have bX:=Jh eo;have fM:=Jh d1;clear dh eo fq d1);have b4:∀y,col y=5->y<M+1:=λy aB=>Nat.lt_of_not_le λd9=>bK.o y Jo aB;have cF:jl (λy=>col y=5) ak X:=RQ K.o.s bx.o bX.o (λE T=>by rw[aT.o];exact(bv.o.1 E T).1);have fW:wr.heap.size<=X.heap.size:=ap bx.o.size bX.o.size;have bl:jU (λy=>col y=5) v.bp aE az X:=K.o.pol.kept λy aB=>(bX.o.block y ⟨by have:=b4 y aB;have:=bx.o.size;omega,λD=>by have:=(bv.o.1 y D).1;have:=b4 y aB;omega⟩).trans (bx.o.block y (Jw (b4 y aB)))
   have cR:=bL.o.UQ (ya bL.o.lt cF) Jo Jo Jo Jo Jo Jo bl;have fE:=cR.c13;have fD:X.cell? (Jp U 0)=some (Ji (H:Int)):=by
    refine Eq.trans ?_ p0;exact af (a:=(Jp U 0)) (bX.o.block U ⟨(Jl e5.o),λD=>Jw ((bv.o.1 U D).2)⟩)
   have bR:∀V:Nat,V<=1->JC 58 #[Jv v.bp,Ji (H:Int),Ji (V:Int),Ji 1] X.drew λD aH=>∃V:Nat,D= .returned (.tuple #[])/\jU (λy=>col y=5) v.bp (aE+1) (bump az H V 1) aH/\jl (λy=>col y=5) X.drew aH:=λV aj=>(PU (λy=>col y=5) v.bp aE az H V 1 X.drew (bl.kept λ_ _=>rfl) (by unfold pJ;omega) Jo Jo Jo (Jx (K.o.cnt H) dz.o.2.1) (Jx K.o.m dz.o.2.2) (λy aB=>by have:=b4 y aB;show y<X.heap.size;omega)).mono λD w h=>⟨V,h⟩;have bR:=Jh bR;have fN:=Jh cR;have eW:=Jh cF;clear cR cF bl;refine cB (n:=7) (S:=λaG=>aG.cell? (Jp d 13)=some (Jv v.bp)/\aG.cell? (Jp U 0)=some (Ji (H:Int))) ei 7 rfl ⟨fE,fD⟩ (λbe=>?_);refine JH 0 (h:=JH 1 (h:=JH 2 (h:=JH 3 (h:=JH 4 (h:=JH 5 (h:=JH 6 (h:=?_)))))));refine cy Jk ?_;go_wp2_with fail;first
   |(have fP:(aq:Int)<=2:=ee;refine(bR.o 0 Jo).mono ?_)
   |refine(bR.o 1 Jo).mono ?_
   rintro D aH ⟨V,rfl,ek,aA⟩;have aA:jl (λy=>col y=5) X aH:=⟨aA.os,aA.tape,aA.output,aA.size,aA.block⟩;have cZ:∀E,(aQ cD (J+(df N (fa W H)).length) cE).ownBlock=some E->M+1<=E:=λE T=>by
    have b1:=cA.o.2 E T;rcases et E aS.heap.size with b2|b2
    ·have cG:(aQ aa J ad).ownBlock=some E:=Decidable.byContradiction λcG=>b1 ⟨b2,cG⟩;exact(bv.o.1 E cG).1
    have:=bx.o.size;omega
   have dn:li N W (x.man.Parts.take (O+1))=li N W (x.man.Parts.take O) ++ df N (fa W H):=by rw[GX N W aO,dI.o]
   have dS:NE col v x N W (M+1) c ak (O+1) (J+(df N (fa W H)).length) cE cD (aE+1) (bump az H V 1) aH:=
    {le:=aO
     len:=by rw[dn,ab,K.o.len]
     lie:=by
      rw[dn,ao];exact(cA.o.shift λE T d9=>Jw (cZ E T)).later λE T=>aA.block E (cA.o.1.lt E T).2 (bK.o E (Jw (cZ E T)))
     pol:=ek
     s:=eW.o.trans aA λ_ _ D=>D
     m:=Jw K.o.m
     cnt:=by
      have b1:=K.o.cnt.next aO (λau Y=>by
       obtain⟨bI,bm,rfl⟩:=List.mem_take_iff_getElem.1 Y;have b2:=List.pairwise_iff_getElem.1 av.o.apart bI O Jo aO Jo;exact b2) V
      rw[dI.o] at b1;exact b1}
   have eF:=Jh dS;clear dS dn cZ aA ek;go_wp2_with fail;go_roundw
   case rel=>exact⟨O+1,J+(df N (fa W H)).length,cE,cD,aE+1,bump az H V 1,by go_num,rfl,eF.o⟩
   simp[intOf];omega
  have fr:O=co:=by have:=aW.le;rw[bQ.o] at this;omega
  subst fr
  rename World=>aI
  have K:=Jh aW;have bb:=Jh (aW.db bL.o);clear aW;have bd:=bb.o.c10;obtain⟨bz,b5⟩:=Je v.xs.length;rw[b5] at bd;have bu:=Jh (Ja b5 (show x.head.length=bz from bb.o.hd.len.trans b5));obtain⟨fK,cJ⟩:=Je v.hA;rw[cJ] at bd;have eD:=Jh cJ;obtain⟨bo,b3⟩:=Je aI.heap.size;have br:=Jh b3;have eO:=Jh (show Uh x.head bo aI 0 0 0 none aI from⟨Jo,rfl,bP.nil _ _ _ _,ag _ _,Jo⟩);clear b3 cJ b5;go_wp2_with fail;clear bd;go_loopw [14,67] (λdv aZ wr=>∃(O J ad:Nat)(aa:JA),aZ=Ji O/\dv= .slice aa J ad/\Uh x.head bo aI O J ad aa wr) (λ_ aZ _=>bz - (intOf aZ).toNat)
  case atStart=>exact⟨0,0,0,none,rfl,rfl,eO.o⟩
  obtain⟨y,aD,b0,bY,rfl,rfl,ae⟩:=hrel;by_cases eg:y<bz;rotate_left
  ·have ft:y=bz:=by have:=ae.le;rw[bu.o.2] at this;omega
   subst ft;have ai:=Jh ae;have cN:Below aI.heap.size aI wr:=by rw[br.o];exact ae.sR
   have b6:=K.o.lie.below cN;have bA:x.man.Parts.take O=x.man.Parts:=aw (by rw[bQ.o];exact ac _);have dP:hrows x.head y=x.head.flatMap rowsOf:=by unfold hrows;rw[aw (by rw[bu.o.2];exact ac _)]
   have bk:=K.o.len;have cQ:=K.o.cnt;rw[bA] at b6 bk cQ;have fu:J<=576:=by rw[<-bk];have:=uN av.o.held x.man.Parts;have:=av.o.VS;omega
   have cK:=ae.lie;have bm:=ae.len;rw[dP] at cK bm;have fV:y*12<=48/\aD<=12*y:=⟨by have:=bt.o.len;rw[bu.o.2] at this;omega,by rw[<-ae.len];exact uC (λs aP=>(bt.o.each s aP).2.1) y ae.le⟩;have eH:=Jh (lK none 0 [] [] aa ad J (li N W x.man.Parts) wr ⟨rfl,Rd.nil _ _ _,λO h=>absurd h Js⟩ b6.rd bk (pn b6) Js jP.nil bM.o.once bM.o.ok Js Js Js Jo bM.o.few bM.o.ids);have dG:=Jh cN;have dA:=Jh cK;have e0:=Jh bm;have eV:=Jh cQ;clear cN b6 bA dP bk cQ cK bm ae;go_wp2_with fail;refine eH.o.mono ?_;rintro D fG ⟨fZ,fI,eu,rfl,bF,d3,di,cM⟩;obtain⟨eB,fc,rfl⟩:=bF.form;have ff:eu=bH:=di.one bT.o.1;subst ff;have eI:=Jh (lK eB fc fI eu bY b0 aD (x.head.flatMap rowsOf) fG bF.yy (dA.o.below cM).rd e0.o (pn dA.o) (Ce bF) di.1 bO.o.once bO.o.ok d3 bT.o.2.1 (by rw[<-bF.len];exact bT.o.2.2.1) Jo bO.o.few bO.o.ids);have dE:=Jh cM;clear bF d3 di cM;go_wp2_with fail;refine eI.o.mono ?_;rintro D X ⟨dy,fJ,ev,rfl,ej,d4,bl,bi⟩;have fg:ev=ds:=bl.one bT.o.2.2.2;subst fg;have cV:=(dG.o.then dE.o).then bi
   have eC:=Jh (show CK col d v x w c ev (.returned dy) X from⟨dy,fJ,aE,az,rfl,Qb ej (by have:=dD.o.size;have:=K.o.s.size;have:=(dG.o.then dE.o).size;omega),d4,bb.o.below cV,((jl.of dD.o).trans K.o.s λ_ _ D=>D).trans (jl.of cV) λ_ _ D=>D,by have:=K.o.m;rw[bQ.o];exact this,eV.o⟩);clear ej d4 bl bi cV;go_wp2_with fail;go_ret;exact eC.o
  have fT:(y:Int)<bz:=Jo;have ce:y<x.head.length:=by rw[bu.o.2];exact eg
  have c1:y<v.xs.length:=by rw[bu.o.1];exact eg
  have ci:=bb.o.hd.on;rw[eD.o] at ci;obtain⟨fk,fA,D,cY,cq,cr⟩:=pE ci.rd c1;have bB:=ci.at_ y c1;have cT:=bt.o.each _ (ah ce);obtain⟨fH,dq⟩:=Je (v.xs[y]);obtain⟨s,aP⟩:=Je (x.head[y]);simp only at bB;rw[dq,aP] at bB;rw[aP] at cT;rw[dq] at cq cr;obtain⟨f0,ct,aJ,cu⟩:=fH;obtain⟨am,dw⟩:=s;simp only at cq cr cT;subst D;have cq:=gi ae.sR (by rw[<-br.o];exact cY) cq;have cr:=gi ae.sR (by rw[<-br.o];exact cY) cr;have cd:Below aI.heap.size aI wr:=by rw[br.o];exact ae.sR
  have bB:=bB.below cd;obtain⟨bA,c6,dl⟩:=bB;simp only at bA c6 dl;subst bA;obtain⟨⟨kI,ec,ed⟩,dR,dZ⟩:=cT;obtain⟨U,aY⟩:=Je wr.heap.size;obtain⟨Q,aX,bj,bG,a6⟩:∃Q,wr.alloc (.cells #[Ji am,.slice ct aJ cu] 68)=Q/\Below wr.heap.size wr Q/\Q.heap.size=U+1/\Q.heap[U]?=some (.cells #[Ji am,.slice ct aJ cu] 68 (0,0)):=⟨_,rfl,Below.one _ _,by simp[aY],by rw[<-aY];exact heap_alloc_new _ _⟩;have el:=dC.o Q ((K.o.s.trans (jl.of cd) λ_ _ D=>D).trans (jl.of bj) λ_ _ D=>D);rw[dB.o] at ed;have ep:Tz aq am=true:=by subst ec;simp[Tz];omega
  have cv:JC 59 #[.slice A aq ca,Ji am] Q λD aG=>D= .returned (.bool true)/\Jz Q aG:=by have:=Ea A ca aq am Q el Jo Jo;rw[ep] at this;exact this
  have cv:=Jh cv;have fF:=cl a6 0 rfl;have cx:=Jh aX;have cz:=Jh bj;have bW:=Jh bG;have cC:=Jh a6;have ai:=Jh ae;have aK:=Jh (Ja c6 (Ja dl (Ja dR dZ)));have dK:=Jh aP;have a8:=Jh aY;have dF:=Jh cd;clear ec ed dR dZ c6 dl dq aP ae ci aX bj bG a6 el ep c1 cd;go_wp2_with fail;try simp only[cx.o]
  try go_wp2_with fail
  refine cv.o.mono ?_;rintro D Z ⟨rfl,aM⟩;have ar:Jz wr Z:=cz.o.then aM;have a1:Z.heap[M]?=some (.cells #[Ji 0,Ji 4000] 30 (0,0)):=(ar.block M (by have:=dF.o.size;have:=K.o.s.size;have:=aT.o;omega)).trans ((dF.o.block M (Jx K.o.s.size aT.o)).trans ((K.o.s.block M (Jw aT.o) (bK.o M (ac _))).trans dL.o));have aC:=(aM.block U (Jw bW.o)).trans cC.o;have ax:=cl a1 0 rfl;have aL:=cl a1 1 rfl;have aU:=cl aC 0 rfl;have bc:=cl aC 1 rfl;have eE:=Jh (Gm ct cu aJ dw 4000 Z.drew ((aK.o.2.1.below ar).below (ag _ _).drew) aK.o.1 (Jx aK.o.1 aK.o.2.2.1) aK.o.2.2.2);have bV:=Jh ar;clear ar aM a1 aC;go_wp2_with fail;refine cB (n:=11) (S:=λaG=>aG.cell? (Jp U 0)=some (Ji am)/\aG.cell? (Jp U 1)=some (.slice ct aJ cu)/\aG.cell? (Jp M 0)=some (Ji 0)/\aG.cell? (Jp M 1)=some (Ji 4000)) ei 11 rfl ⟨aU,bc,ax,aL⟩ (λbe=>?_);refine JH 0 (h:=JH 1 (h:=JH 2 (h:=JH 3 (h:=JH 4 (h:=JH 5 (h:=?_))))));refine JM 6 (h:=λV aj=>?_);go_simp;refine eE.o.mono ?_;rintro D a7 ⟨bn,bZ,rfl,ef,d2⟩;have bf:Jz Z a7:=d2.h;have eY:=Jh (show Rd a7 2 bn aJ (dw.flatMap ay) from ef.rd);have eT:=Jh bf;refine aj.out _ _ ⟨al bf aU,al bf bc,al bf ax,al bf aL⟩ (λbe=>?_);clear aj V ef d2 bf;try simp only[an,JY]
  refine JH 7 (h:=?_);refine JM 8 (h:=λV aj=>?_);go_simp;obtain⟨X,eq,bi,dm⟩:∃X,a7.alloc (.cells #[Ji am,.slice bn aJ bZ] 68)=X/\Jz a7 X/\Rd X 2 (some (Jp a7.heap.size 0)) 1 (cn ⟨am,bn,aJ,bZ⟩):=⟨_,rfl,Below.one _ _,Qo a7 ⟨am,bn,aJ,bZ⟩ _⟩;rw[eq];have bg:=eT.o.then bi;refine aj.out _ _ ⟨al bg aU,al bg bc,al bg ax,al bg aL⟩ (λbe=>?_);have eM:=Jh (kP (some (Jp a7.heap.size 0)) 1 [⟨am,bn,aJ,bZ⟩] [⟨am,dw⟩] X ⟨rfl,dm,λO eb=>by
   have aV:O=0:=by simp at eb;exact eb
   subst aV;exact⟨rfl,aK.o.1,eY.o.below bi⟩⟩ Js (by have:=aK.o.2.2.1;simp[oX];omega))
  have eU:=Jh bg;clear aj V bg eq bi dm;try simp only[an,JY]
  refine JM 9 (h:=λV aj=>?_);go_simp;refine eM.o.mono ?_;rintro D aH ⟨e7,cm,fd,rfl,bC,-,da,aN⟩;rw[AX] at bC da;have bh:=eU.o.then aN;refine aj.out _ _ ⟨al bh aU,al bh bc,al bh ax,al bh aL⟩ (λbe=>?_);have eL:=Jh da.rd;have dH:=Jh bC;have ba:=Jh bh;clear aj V bh da aN bC;try simp only[an,JY]
  refine JM 10 (h:=λV aj=>?_);have aN:=bV.o.then ba.o;have dT:=ai.o.lie.below aN;have cf:∀E,(aQ bY aD b0).ownBlock=some E->bo<=E/\E<U:=λE T=>⟨Nat.not_lt.1 λbE=>ai.o.lie.2 E T bE,by have:=(ai.o.lie.1.lt E T).2;rw[a8.o] at this;exact this⟩;have fv:aD<=12*y:=by rw[<-ai.o.len];exact uC (λs aP=>(bt.o.each s aP).2.1) y ai.o.le
  have bC:cm<=12:=by rw[dH.o];simp only[rowsOf,bU];exact aK.o.2.2.1
  have fR:y<=4:=ap ai.o.le bt.o.len;refine bN rfl (.tmp 75) (.tmp 84) 106 rfl 130 (.agg #[Ji 0,Ji 0,Ji 0]) 3 24 underlying106 mu rfl Jd (λbI=>bI<aH.heap.size/\(aQ bY aD b0).ownBlock≠some bI) aD _ (.slice bY aD b0) aH (dT.shift λE T Y=>Y.2 T) rfl (λbI bm=>bm.1) e7 cm fd _ rfl eL.o (px _) Jm Jo ?_;intro fY eA cg cj fp fn;obtain⟨dM,bd,rfl⟩:=cg.form;have fy:U<Z.heap.size/\M<Z.heap.size:=⟨bq _ _ aU,bq _ _ ax⟩;have fl:=ba.o.size;have b3:M<bo:=by rw[<-br.o];have:=K.o.s.size;have:=aT.o;omega
  have bD:∀(au:Addr) dx,(au.block=U∨au.block=M)->aH.cell? au=some dx->eA.cell? au=some dx:=λau dx Y ck=>(af (a:=au) (cj.block au.block ⟨by rcases Y with Y|Y<;>omega,λD=>by have:=cf _ D;rcases Y with Y|Y<;>omega⟩)).trans ck;refine aj.out _ _ ⟨bD _ _ (.inl rfl) (al ba.o aU),bD _ _ (.inl rfl) (al ba.o bc),bD _ _ (.inr rfl) (al ba.o ax),bD _ _ (.inr rfl) (al ba.o aL)⟩ (λbe=>?_);have eK:=Jh (show Uh x.head bo aI (y+1) (aD+cm) bd dM eA from
   {le:=ce
    len:=by rw[sH ce,dK.o,ab,ai.o.len,dH.o]
    lie:=by
     rw[sH ce,dK.o,ao];exact cg.shift λE T d9=>by
      refine cg.2 E T ⟨?_,λD=>?_⟩
      ·have:=aN.size;rw[a8.o] at this;have:=ai.o.sz;rw[a8.o] at this;omega
      have:=(cf E D).1;omega
    sR:=Ky ai.o.sR aN cj ai.o.sz λE T=>(cf E T).1
    sz:=ap ai.o.sz (ap aN.size cj.size)})
  clear aj V bD b3 fl fy cg cj fp fn dT cf fv bC aN;try simp only[an,JY]
  refine cy Jk ?_;clear ax aL aU bc be;go_wp2_with fail;go_roundw
  case rel=>exact⟨y+1,aD+cm,bd,dM,by go_num,rfl,eK.o⟩
  simp[intOf];omega
end
theorem zB (ws:List iO)(D:iO)(f:Int):mq (ws ++ [D]) f=if D.From=f then ma (mq ws f) D else mq ws f:=by
 unfold mq;rw[dV,ei];by_cases y:D.From=f
 ·rw[if_pos y,if_pos (by simpa using y),List.filter_nil,List.foldl_append];rfl
 rw[if_neg y,if_neg (by simpa using y),List.filter_nil,cV]
theorem Ku {ws:List iO}{f:Int}(h:∀y∈ws,y.From≠f):mq ws f=pP:=by
 unfold mq;rw[List.filter_eq_nil_iff.2 λy D=>by simpa using h y D];rfl
def pS (ws:List iO)(k:Lit):Option Value:=(pR k).bind λy=>if(ws.any λD=>decide (D.From=y))=true then some (mQ (mq ws y)) else none
theorem PG (k:Lit):pS [] k=none:=by unfold pS;cases pR k<;>rfl
theorem sW {ws:List iO}{f:Int}:(ws.any λy=>decide (y.From=f))=true↔∃y∈ws,y.From=f:=Js
theorem PE (ws:List iO)(f:Int):(pS ws (.int .i64 f)).getD (mQ pP)=mQ (mq ws f):=by
 show(if _ then _ else _:Option Value).getD _=_;split
 ·rfl
 rename_i D;rw[Ku λH E y=>D (sW.2 ⟨H,E,y⟩)];rfl
theorem PH (ws:List iO)(y:iO)(k:Lit):pS (ws ++ [y]) k=od (pS ws) (.int .i64 y.From) (mQ (ma (mq ws y.From) y)) k:=by
 unfold od;by_cases D:k= .int .i64 y.From
 ·rw[if_pos D,D];show(if _ then _ else _:Option Value)=_;rw[if_pos (sW.2 ⟨y,Js,rfl⟩),zB,if_pos rfl]
 rw[if_neg D];unfold pS;cases J:pR k with
 |none=>rfl
 |some K=>
  have E:y.From≠K:=λH=>D (by rw[H];exact kN J);simp only[bW];rw[List.any_append,zB,if_neg E];simp[E]
theorem Mb {ws:List iO}{k:Lit}{v:Value}(h:pS ws k=some v):∃f,k= .int .i64 f/\(∃E∈ws,E.From=f)/\v=mQ (mq ws f):=by
 unfold pS at h;cases y:pR k with
 |none=>rw[y] at h;cases h
 |some f=>
  rw[y,bW] at h;split at h
  ·rename_i D;exact⟨f,kN y,sW.1 D,(Option.some.inj h).symm⟩
  cases h
theorem PF {ws:List iO}{f:Int}(h:∃y∈ws,y.From=f):pS ws (.int .i64 f)=some (mQ (mq ws f)):=by
 show(if _ then _ else _:Option Value)=_;rw[if_pos (sW.2 h)]
structure CM (ws:List iO) (left:Lit->Bool) (os:List iO):Prop where
 of:∀o∈os,left (.int .i64 o.From)=false/\(∃y∈ws,y.From=o.From)/\o=mq ws o.From
 all:∀f,(∃y∈ws,y.From=f)->left (.int .i64 f)=false->mq ws f∈os
 once:os.Pairwise λa b=>a.From≠b.From
theorem CM.len {ws y:List iO}{left:Lit->Bool}(h:CM ws left y){fs:List Int}(J:∀D∈ws,D.From∈fs):y.length<=fs.length:=by
 have M:(y.map (·.From)).Nodup:=by
  unfold List.Nodup;rw[cS];exact h.once
 have Q:∀E∈y.map (·.From),E∈fs:=λE K=>by
  obtain⟨U,O,rfl⟩:=List.mem_map.1 K;obtain⟨-,⟨D,T,H⟩,-⟩:=h.of U O;rw[<-H];exact J D T
 have:=rD M Q
 rwa [bU] at this
theorem CM.more {ws O:List iO}{left left':Lit->Bool}(h:CM ws left O){f:Int}(J:∃W∈ws,W.From=f)(V:left (.int .i64 f)=true)(E:∀k,left' k=(left k && !k.sameKey (.int .i64 f))):CM ws left' (O ++ [mq ws f]):=by
 have K:=zA J;refine⟨λD y=>?_,λH U M=>?_,?_⟩
 ·rcases List.mem_append.1 y with y|y
  ·obtain⟨Q,T⟩:=h.of D y;exact⟨by rw[E,Q];rfl,T⟩
  obtain rfl:D=mq ws f:=by simpa using y
  rw[K];exact⟨by rw[E];simp[Lit.sameKey],J,rfl⟩
 ·by_cases D:H=f
  ·subst D;simp
  refine List.mem_append.2 (.inl (h.all H U ?_));rw[E] at M;simpa [Lit.sameKey,D] using M
 rw[gh];refine⟨h.once,Js,λH Q M T=>?_⟩;obtain rfl:M=mq ws f:=by simpa using T
 rw[K];intro D;have:=(h.of H Q).1;rw[D,V] at this;cases this
theorem CM.agg {ws Q D:List iO}{left:Lit->Bool}(h:CM ws left Q)(T:∀k,left k=false)(E:D.Perm Q)(V:D.Pairwise λa b=>¬b.From<a.From):pG ws D:=by
 have U:D.Pairwise λa b=>a.From≠b.From:=(E.pairwise_iff λh=>fV h).2 h.once;refine⟨?_,λW=>⟨λy=>?_,λy=>?_⟩⟩
 ·rw[dS];intro M O H K J;have X:=List.pairwise_iff_getElem.1 V M O H K J;have Y:=List.pairwise_iff_getElem.1 U M O H K J;omega
 ·obtain⟨-,H,J⟩:=h.of W (E.mem_iff.1 y);exact⟨H,J⟩
 rw[y.2];exact E.mem_iff.2 (h.all _ y.1 (T _))
theorem uT (step:Int):∀l:List ar,∀w∈gE step l,∃x∈l,w.From=x.T / step*step
 |[],w,y=>by unfold gE at y;cases y
 |x :: l,w,y=>by
  rw[gE] at y;rcases List.mem_cons.1 y with rfl|y
  ·exact⟨x,az ..,rfl⟩
  obtain⟨D,H,E⟩:=uT step _ w y;exact⟨D,aC _ ((eR _).subset H),E⟩
termination_by l=>l.length
decreasing_by
 have:=(eR (λD:ar=>decide (D.T / step=x.T / step)) (l:=l)).length_le;simp only[ak];omega
section
open Go Go.RowKit Go.Shelf Go.Lib Go.Sort
instance:Inhabited iO:=⟨pP⟩
theorem Od (x E:iO)(w:JW):JC 25 #[mQ x,mQ E] w λe w'=>e= .returned (Ji (bK x.From E.From))/\∃q M,w'=grow (w.drewN q) M:=by
 obtain⟨H,O,Q,T,U⟩:=x;obtain⟨J,V,W,X,Y⟩:=E;obtain⟨Z,D⟩:=Je (bK H J);have y:=λK=>Tryz.cmp_Compare_int H J K;rw[D] at y;simp only[D];have K:=Jh y;clear y D;go_enter Tryz.func25,Tryz.ntmps25;go_wp2_with (go_at_call 26;refine(K.o _).mono ?_;rintro e w' ⟨rfl,rfl⟩);go_ret;exact⟨rfl,0,_,by rw[alloc_eq_grow,alloc_eq_grow,grow_grow];rfl⟩
def Vy (x y:iO):Int:=bK x.From y.From
theorem Bu (x y:iO):ltOf Vy x y=decide (x.From<y.From):=by
 unfold ltOf Vy;rw[Bool.eq_iff_iff,decide_eq_true_eq,decide_eq_true_eq];unfold bK;split
 ·omega
 split<;>omega
theorem RO:SWO (ltOf Vy) where
 irrefl x:=by rw[Bu];simp
 trans x y z h1 h2:=by rw[Bu] at*;simp at*;omega
 ntrans x y z h1 h2:=by rw[Bu] at*;simp at*;omega
theorem Ng (R:Nat->Prop)(g c n:Nat)(xs:List iO)(w:JW)(h:bP R 38 5 (.slice (some (Jp g 0)) n c) n (xs.flatMap gC) w)(K:xs.length=n)(Q:n<=12):
 JC 24 #[.slice (some (Jp g 0)) n c,.func (.func 25) #[] #[]] w λe w'=>e= .returned (.tuple #[])/\∃E:List iO,E.Perm xs/\(E.Pairwise λa b=>¬b.From<a.From)/\bP R 38 5 (.slice (some (Jp g 0)) n c) n (E.flatMap gC) w'/\ow g w w':=by
 have T:g<w.heap.size:=(h.1.lt g rfl).2;have y:xs.toArray.size=n:=by simpa using K
 have H:=AnyQ.slices_SortFunc_small_sorted Tryz.laySortW 5 Tryz.isAgg38 Tryz.sizeOf38 gC (λ_=>rfl) (λJ M D=>by simp[gC] at D;rcases D with rfl|rfl|rfl|rfl|rfl<;>rfl) Vy 25 #[] RO g 0 c xs.toArray w (enters_of Tryz.func25 Jk rfl)
  (λ_ _ _ _ J D=>Od J D _) (h.holds kt Jd K) T (by rw[y];exact Q) BS
 rw[y] at H;refine H.mono ?_;rintro e w' ⟨O,D,Y,Z,U,W,rfl⟩;have V:PermIn 0 xs.toArray.size xs.toArray D:=by rw[y];exact U
 have X:SortedIn (ltOf Vy) 0 xs.toArray.size D:=by rw[y];exact W
 obtain⟨M,aa⟩:=re V X;obtain⟨ab,ac⟩:=h.sorted kt Jd D (by have:=M.length_eq;simp at this;omega) Y Z;refine⟨O,_,by simpa using M,cQ (λ{a b} J=>?_) aa,ab,ac⟩;rw[Bu] at J;simpa using J
theorem LQ (p:JA)(cap:Nat)(y:Value)(w:JW):JC 139 #[.slice p 0 cap,Ji 0,Ji 0,y] w λe w'=>e= .returned (.tuple #[])/\w=w':=by
 go_enter Tryz.func139,Tryz.ntmps139;go_wp2_with fail;refine wp_loop_rounds 1 ?_;rw[rounds_succ];go_wp2_with fail;go_end0;exact⟨rfl,rfl⟩
theorem Mp (p:JA)(cap:Nat)(D:Int)(y:Value)(w:JW):JC 65 #[.slice p 0 cap,Ji 0,Ji 0,Ji D,y] w λe w'=>e= .returned (.tuple #[])/\w=w':=by
 go_enter Tryz.func65,Tryz.ntmps65;go_wp2_with fail;refine wp_loop_rounds 1 ?_;rw[rounds_succ];go_wp2_with fail;refine(LQ _ _ _ _).mono ?_;rintro e w' ⟨rfl,rfl⟩;go_wp2_with fail
 (try simp only[jc,gM]);refine bodyPost_ret (results_none rfl _ _ _) rfl ?_
 exact⟨rfl,rfl⟩
theorem Ib (p:JA)(cap:Nat)(E:Value)(w:JW):JC 24 #[.slice p 0 cap,E] w λe w'=>e= .returned (.tuple #[])/\w=w':=by
 have y:=BS 0 w Jo;have D:=Jh y;clear y;go_enter Tryz.func24,Tryz.ntmps24;go_wp2_with fail;refine D.o.mono ?_;rintro e w' ⟨⟨y,rfl⟩,rfl⟩;go_wp2_with fail;refine(Mp _ _ _ _ _).mono ?_;rintro e w' ⟨rfl,rfl⟩;go_wp2_with fail;go_end0;exact⟨rfl,rfl⟩
theorem Nf (R:Nat->Prop)(y:JA)(c n:Nat)(xs:List iO)(w:JW)(h:bP R 38 5 (.slice y n c) n (xs.flatMap gC) w)(K:xs.length=n)(W:n<=12):
 JC 24 #[.slice y n c,.func (.func 25) #[] #[]] w λe w'=>e= .returned (.tuple #[])/\∃E:List iO,E.Perm xs/\(E.Pairwise λa b=>¬b.From<a.From)/\bP R 38 5 (.slice y n c) n (E.flatMap gC) w'/\wK (.slice y n c) w w':=by
 rcases dx n with H|H
 ·subst H;have M:xs=[]:=bu K;subst M;refine(Ib y c _ w).mono ?_;rintro e w' ⟨J,D⟩;subst D;exact⟨J,[],List.Perm.refl _,cj,h,wK.of (ag _ _)⟩
 obtain⟨O,rfl,-,-⟩:=h.own H;refine(Ng R O c n xs w h K W).mono ?_;rintro e w' ⟨J,E,Q,T,U,D⟩;exact⟨J,E,Q,T,U,D.os,D.tape,D.output,D.size,λY V X=>D.block Y V λM=>X (by simp[aG,M])⟩
end
section
attribute [local go_sem] Oper.semAt_some
structure Calm (x:iU):Prop where
 len:x.man.Parts.length<=100
 part:∀p∈x.man.Parts,0<=p.Day/\p.Day<17179869184/\(p.Layout=0∨p.Layout=1)
 cnt:∀d,0<=(x.cnt d).1/\(x.cnt d).1<=8/\0<=(x.cnt d).2/\(x.cnt d).2<=8
theorem Ms (col:Nat->Nat)(d:Nat)(v:nI)(x:iU)(w:JW)(h:cI col d v x w)(hc:Calm x):
 JC 27 #[Jv d] w λe w'=>e= .returned (.bool (!(x.fs cM).isSome && !x.man.On))/\Jz w w':=by
 have M:=Jh (Fh col d v x w h hc.len hc.part hc.cnt);have K:=Jh h;obtain⟨T,D⟩:∃y,(x.fs cM).isSome=y:=⟨_,rfl⟩;obtain⟨U,E⟩:∃y,x.man.On=y:=⟨_,rfl⟩;rw[D,E];have H:=Jh D;have J:=Jh E;clear h hc D E;go_enter Tryz.func27,Tryz.ntmps27;go_wp2_with fail;refine M.o.mono ?_;rintro e W ⟨rfl,D⟩;have y:=K.o.below D;have E:=xS _ d v.bs v.bd x.nf x.fs W y.u y.c1;have V:=y.c6;rw[H.o] at E;rw[J.o] at V;have O:=Jh E;have Q:=Jh D;clear y D K M E H J;cases T<;>cases U;all_goals
  go_wp2_with fail;refine O.o.mono ?_;rintro e y ⟨rfl,rfl⟩;go_wp2_with fail;go_ret;exact⟨rfl,Q.o⟩
end
theorem vQ {a b x J:JU}(K:a.length<18446744073709551616)(M:b.length<18446744073709551616)(h:text a ++ x=text b ++ J):a=b/\x=J:=by
 unfold text at h;rw[au,au] at h;obtain⟨E,H⟩:=vR K M h;have y:=congrArg (List.take a.length) H;have D:=congrArg (List.drop a.length) H;rw[gT] at y;rw[eF] at D;rw[E,gT] at y;rw[E,eF] at D;exact⟨y,D⟩
theorem DT {p r:JU}{n:Nat}(y:n<18446744073709551616):aK (p ++ (uint n ++ r)) (p.length:Nat)=(n,((p.length+(uint n).length:Nat):Int),0):=by
 have:=qH (l:=p ++ (uint n ++ r)) (k:=p.length) (a:=n) (b:=(uint n).length) (by rw[eF];exact oB y r) Js;rw[this];simp
theorem xM {p t r:JU}(H:t.length<18446744073709551616):gO (p ++ (text t ++ r)) (p.length:Nat)=(t,((p.length+(text t).length:Nat):Int),0):=by
 have y:aK (p ++ (text t ++ r)) (p.length:Nat)=(t.length,((p.length+(uint t.length).length:Nat):Int),0):=by
  have:=DT (p:=p) (r:=t ++ r) H;rw[text,au];exact this
 have E:(p ++ (text t ++ r)).length=p.length+(uint t.length).length+t.length+r.length:=by simp[text];omega
 rw[xN y (by rw[E];omega)];have D:(p ++ (text t ++ r)).drop (p.length+(uint t.length).length)=t ++ r:=by
  rw[text,au,<-au,<-ab,eF]
 rw[D,gT];simp[text];omega
theorem vH {l:JU}{k:Nat}(Q:k<=l.length)(ac:l.length<18446744073709551616):
 (∃e:Nat,gO l k=([],0,e)/\(e=10∨e=11)/\∀t r,l.drop k≠text t ++ r)∨∃t r,gO l k=(t,((k+(text t).length:Nat):Int),0)/\l.drop k=text t ++ r:=by
 have W:l=l.take k ++ l.drop k:=(da k l).symm;have T:(l.take k).length=k:=by rw[aF];omega
 have K:∀t r,l.drop k=text t ++ r->gO l k=(t,((k+(text t).length:Nat):Int),0):=by
  intro t r y;have E:t.length<18446744073709551616:=by
   have:=congrArg eZ y;rw[bo,text,ab,ab] at this;omega
  have:=xM (p:=l.take k) (t:=t) (r:=r) E
  rwa [<-y,<-W,T] at this
 rcases nR l k with⟨e,y,Z⟩|⟨J,D,r,X,_,ae,M,y,ad⟩
 ·left;have aa:e≠1:=by
   rintro rfl;have:=tu Q;rw[y] at this;split at this
   ·simp at this
   rename_i U;have Y:=(EP (l.drop k) 0 0 (by simpa [lF] using U)).2.2;simp only[Prod.mk.injEq,true_and] at this;rw[lF] at this;omega
  refine⟨e,qI y Jo,Jo,λt r H=>?_⟩;have:=K t r H;rw[qI y Jo] at this;simp at this;omega
 obtain rfl:J=k:=Jo;by_cases E:(l.length:Int) - ((J+(uint D).length:Nat):Int)<D
 ·left;refine⟨10,og y E,.inl rfl,λt r H=>?_⟩;have:=K t r H;rw[og y E] at this;simp at this
 right;have V:D<=r.length:=by
  have:=congrArg eZ M;rw[bo,ab] at this;omega
 have O:text (r.take D) ++ r.drop D=l.drop J:=by
  rw[text,aF,ec V,au,da,M]
 exact⟨r.take D,r.drop D,K _ _ O.symm,O.symm⟩
def IC (r:JU):Prop:=∀D y,r≠frame D ++ y
def Rx (l:JU)(D:List JU):Prop:=∃y,l=D.flatMap frame ++ y/\IC y
theorem tE {t r:JU}(J:(text t ++ r).length<18446744073709551616)(h:∀D,r≠ir t ++ D):IC (text t ++ r):=by
 intro K D y;rw[frame,au] at y;have E:=congrArg eZ y;rw[ab,ab,text,text,ab,ab] at E;rw[ab,text,ab] at J;obtain⟨rfl,H⟩:=vQ (a:=t) (b:=K) Jo Jo y;exact h D H
def strCells (D:List JU):List Value:=D.map λy=>.string (S y)
theorem zn (y:List JU)(t:JU):strCells (y ++ [t])=strCells y ++ [.string (S t)]:=by simp[strCells]
theorem Va {y D:Nat}(J:y<256)(h1:D<256):bits .or .i64 ((y:Int)*256) (D:Int)=((y*256+D:Nat):Int):=by
 have E:(y:Int)*256=((y*256:Nat):Int):=Js;rw[E,Gk _ _ Jo Jo];congr 1;have H:D<2 ^ 8:=h1;have:=eu H y;rw[dj] at this;exact this.symm
theorem UZ {y D:UInt8}{t:JU}(h:y.toNat*256+D.toNat=crc t):[y,D]=ir t:=by
 have E:=y.toNat_lt;have H:=D.toNat_lt;unfold ir;rw[<-h,show(y.toNat*256+D.toNat) / 256=y.toNat by omega,show(y.toNat*256+D.toNat) % 256=D.toNat by omega,rq,rq]
theorem Tv {D E:UInt8}{t:JU}(h:D.toNat*256+E.toNat≠crc t):[D,E]≠ir t:=by
 intro y;unfold ir at y;simp only[List.cons.injEq,and_true] at y;have K:=BD t;have H:=congrArg UInt8.toNat y.1;have J:=congrArg UInt8.toNat y.2;rw[yL _ Jo] at H J;omega
def Rv (l:JU)(w:JW)(e:Ending)(w':JW):Prop:=
 ∃D E y,e= .returned (.tuple #[.slice D (y.length) E,Ji ((y.flatMap frame).length:Nat)])/\Rx l y/\Rd w' 1 D y.length (strCells y)/\Jz w w'
theorem Tu:(prog.info? 9).map (λi=>(i.zero,i.size,i.bytes))=some (some (.string ⟨#[]⟩),1,16):=Jk
theorem QE (s:ByteArray)(w:JW)(ah:yY w)(a6:s.size<1099511627776):
 JC 97 #[.string s] w (Rv s.data.toList w):=by
 go_enter Tryz.func97,Tryz.ntmps97;go_wp2_with fail;go_loopw [4,5] (λD y wr=>∃(J:Nat)(H:List JU)(K:JA)(M:Nat),y=Ji J/\J<=s.size/\s.data.toList=H.flatMap frame ++ s.data.toList.drop J/\J=(H.flatMap frame).length/\H.length<=J/\D= .slice K H.length M/\
  wr.ownsRow w.heap.size 9 1 (.slice K H.length M) H.length (strCells H)/\Jz w wr) (λ_ y _=>s.size - (intOf y).toNat)
 case atStart=>exact⟨0,[],none,0,rfl,Jo,Js,Js,Js,rfl,World.ownsRow_nil _ _ _ _,ag _ _⟩
 obtain⟨J,H,K,M,rfl,be,D,y,bj,rfl,af,O⟩:=hrel;have aA:=Jh (ah.below O);have ae:=Jh D;have ad:=Jh y;have an:s.data.toList.length=s.size:=by rw[bX]
 clear ah D y;have Q:=Jh (λw=>DU s J w a6);rcases vH (l:=s.data.toList) (k:=J) Jo Jo with⟨D,X,aZ,aD⟩|⟨E,ai,X,am⟩
 ·rw[X] at Q;have T:((D:Int) == 0)=false:=beq_eq_false_iff_ne.2 Jo;have U:((D:Int) != 0)=true:=by simp;omega
  have y:=Jh aD;clear X aZ aD an;go_wp2_with fail;refine(Q.o _).mono ?_;rintro D ay ⟨rfl,rfl⟩;go_wp2_with fail;go_quiet (fail);go_wp2_with fail;go_ret2;obtain⟨V,W,ac,Z⟩:=Rd.uJ af;obtain⟨rfl,rfl⟩:K=V/\M=W:=by simpa using ac
  refine⟨K,M,H,by rw[<-ad.o];rfl,⟨_,ae.o,λE aw=>?_⟩,Z,below_drewN O _⟩;have:=y.o E (ir E ++ aw)
  rwa [frame,au]
 rw[X] at Q;have T:=Jh am;have Y:=congrArg eZ am;rw[bo,ab,an] at Y;obtain⟨y,U⟩:∃y,y=J+(text E).length:=⟨_,rfl⟩;rw[<-U] at Q;have ar:ai.length+y=s.size:=Jo;have bf:J<y:=by have:=ua E.length;rw[U,text,ab];omega
 have a8:(S E).size<1099511627776:=by rw[bH];rw[text,ab] at Y;omega
 have aB:=Jh U;clear X am Y an U;by_cases a1:ai.length<2
 ·have aY:decide ((s.size:Int) - (y:Int)<2)=true:=by simp;omega
  have U:=Jh ar;have bc:y<=s.size:=Jo;clear ar;go_wp2_with fail;refine(Q.o _).mono ?_;rintro D ay ⟨rfl,rfl⟩;go_wp2_with fail;go_quiet (fail);go_wp2_with fail;go_ret2;obtain⟨V,W,ac,Z⟩:=Rd.uJ af;obtain⟨rfl,rfl⟩:K=V/\M=W:=by simpa using ac
  refine⟨K,M,H,by rw[<-ad.o];rfl,⟨_,ae.o,?_⟩,Z,below_drewN O _⟩;rw[T.o];exact tE (by rw[<-T.o,bo,<-bX];omega) λaw D=>by have:=congrArg eZ D;simp[ir] at this;omega
 have bb:y+1<s.size:=Jo;have U:s.data.toList.drop y=ai:=by
  rw[aB.o,<-bR,T.o,eF]
 have ba:y<s.size:=Jo;clear ar a1;have Y:ai=s[y] :: s[y+1] :: s.data.toList.drop (y+2):=U.symm.trans (by rw[drop_byte ba,drop_byte bb]);have az:=Jh Y;have aV:=(s[y]).toNat_lt;have aW:=(s[y+1]).toNat_lt;have aE:=Va aV aW;have bc:y<=s.size:=Jo;have aY:decide ((s.size:Int) - (y:Int)<2)=false:=by simp;omega
 have aj:=Jh (λw ah=>IW (S E) w ah a8);rw[cW] at aj;clear U Y;by_cases aa:s[y].toNat*256+s[y+1].toNat=crc E
 ·have ak:=Jh (UZ aa);rw[aa] at aE;have aC:((crc E:Int) != (crc E:Int))=false:=Js;clear aa;go_wp2_with fail;refine(Q.o _).mono ?_;rintro D ay ⟨rfl,rfl⟩;go_wp2_with fail;have aM:IntKind.i64.wrap ((y:Int)+1)=(y:Int)+1:=bC _ Jo;have aN:IntKind.i64.wrap ((s.size:Int) - (y:Int))=(s.size:Int) - (y:Int):=bC _ Jo;have aO:(0:Int)<=(y:Int)+1:=Jo;have aP:((y:Int)+1).toNat=y+1:=Jo;have aQ:(y:Int)<(s.size:Int):=Jo;have aS:IntKind.i64.wrap (s[y].toNat:Int)=(s[y].toNat:Int):=bC _ Jo;have aT:IntKind.i64.wrap (s[y+1].toNat:Int)=(s[y+1].toNat:Int):=bC _ Jo;have aU:IntKind.i64.wrap ((s[y].toNat:Int)*256)=(s[y].toNat:Int)*256:=bC _ Jo;have aR:(y:Int)+1<(s.size:Int):=Jo;have av:=aA.o;go_region_held3 (λax=>yY ax)
   (first|assumption|exact yY.below (by assumption) Y)
   (first|(go_at_call 188;refine(aj.o _ (by assumption)).mono ?_;rintro D aH ⟨rfl,Y⟩))
  all_goals
   clear av;have U:=Y.h;have al:=O.trans (U.mono O.size);have aq:=own_below af U;have a7:=ap O.size U.size;go_wp2_with (at_builtin;go_must (refine nH rfl _ _ 163 rfl 9 (.string ⟨#[]⟩) 1 16 underlying163 Tu rfl Jd w.heap.size _ _ _ _ aH #[.string (S E)] rfl (by intro bk aG;simp at aG;subst aG;rfl) aq rfl al a7 rfl Jm Jo ?_);intro bl bm aF bd aX bi bg bh);go_roundw
   case rel=>
    obtain⟨aI,aJ,rfl⟩:=qV aF;have aK:frame E ++ s.data.toList.drop (y+2)=s.data.toList.drop J:=by
     rw[T.o,az.o,frame,<-ak.o];simp
    have aL:(frame E).length=(text E).length+2:=by simp[frame,ir]
    exact⟨y+2,H ++ [E],aI,aJ,by go_num,Jo,by rw[ao,List.flatMap_singleton,au,aK];exact ae.o,by rw[ao,List.flatMap_singleton,ab,aL,<-ad.o,aB.o];omega,by simp;omega,Js,by simpa [zn] using aF,aX⟩
   simp[intOf];omega
 have ak:=Jh (Tv aa);have aC:(((s[y].toNat*256+s[y+1].toNat:Nat):Int) != (crc E:Int))=true:=by rw[bne_iff_ne];omega
 generalize s[y].toNat*256+s[y+1].toNat=aF at aE aC;clear aa;go_wp2_with fail;refine(Q.o _).mono ?_;rintro D ay ⟨rfl,rfl⟩;go_wp2_with fail;have aM:IntKind.i64.wrap ((y:Int)+1)=(y:Int)+1:=bC _ Jo;have aN:IntKind.i64.wrap ((s.size:Int) - (y:Int))=(s.size:Int) - (y:Int):=bC _ Jo;have aO:(0:Int)<=(y:Int)+1:=Jo;have aP:((y:Int)+1).toNat=y+1:=Jo;have aQ:(y:Int)<(s.size:Int):=Jo;have aS:IntKind.i64.wrap (s[y].toNat:Int)=(s[y].toNat:Int):=bC _ Jo;have aT:IntKind.i64.wrap (s[y+1].toNat:Int)=(s[y+1].toNat:Int):=bC _ Jo;have aU:IntKind.i64.wrap ((s[y].toNat:Int)*256)=(s[y].toNat:Int)*256:=bC _ Jo;have aR:(y:Int)+1<(s.size:Int):=Jo;have av:=aA.o;go_region_held3 (λax=>yY ax)
  (first|assumption|exact yY.below (by assumption) Y)
  (first|(go_at_call 188;refine(aj.o _ (by assumption)).mono ?_;rintro D aH ⟨rfl,Y⟩))
 all_goals
  clear av;have U:=Y.h;have al:=O.trans (U.mono O.size);have aq:=own_below af U;go_wp2_with fail;go_ret2;obtain⟨V,W,ac,Z⟩:=Rd.uJ aq;obtain⟨rfl,rfl⟩:K=V/\M=W:=by simpa using ac
  refine⟨K,M,H,by rw[<-ad.o];rfl,⟨_,ae.o,?_⟩,Z,al⟩;rw[T.o];refine tE (by rw[<-T.o,bo,<-bX];omega) λaw D=>?_;rw[az.o] at D;refine ak.o ?_;unfold ir at D ⊢;simp at D ⊢;exact⟨D.1,D.2.1⟩
theorem zu (F:Nat->Prop)(bs E nf:Nat)(fs:JU->Option JU)(w:JW)(h:iN F bs E nf fs w)(J:fs cM=none)(H:yY w):
 JC 43 #[Jv bs] w λe w'=>e= .returned (.tuple #[Jn,Ji 0])/\Jz w w':=by
 have O:=Jh (iq F bs E nf fs cM w h Jd);have Q:=Jh (QE (S []) w H Jd);have M:=Jh J;clear h J H;go_enter Tryz.func43,Tryz.ntmps43;go_wp2_with fail;refine O.o.mono ?_;rintro e ad ⟨rfl,rfl⟩;simp only[M.o,gN,gU];go_wp2_with fail;refine Q.o.mono ?_;rintro e ae ⟨X,Y,D,rfl,K,V,y⟩;have W:D=[]:=by
  obtain⟨ac,T,-⟩:=K;cases D with
  |nil=>rfl
  |cons x D=>
   exfalso;have U:=congrArg eZ T;simp only[cW,aX,ab,aE] at U;have Z:0<(frame x).length:=by
    unfold frame;rw[ab];have aa:(ir x).length=2:=rfl;omega
   omega
 subst W;have T:=Jh y;clear y K V;simp only[aX,iK];go_wp2_with fail;go_loopw [8,29] (λU K wr=>U=Jn/\K=Ji 0/\Jz w wr) (λ_ _ _=>0)
 case atStart=>exact⟨rfl,rfl,T.o⟩
 obtain⟨rfl,rfl,y⟩:=hrel;go_wp2_with fail;refine bodyPost_ret (results_tmp2 rfl _ _ _) rfl ?_;exact⟨rfl,y⟩
def Ba (y nm:Value)(o:Bool):Array Value:=#[y,.string ⟨#[]⟩,Ji 0,.bool o,nm]
theorem xY (y:Nat)(E nm:Value)(o:Bool)(w:JW)(h:w.heap[y]?=some (.cells (Ba E nm o) 314 (0,0))):JC 180 #[Jv y] w λe w'=>
 e= .returned (Ji 0)/\w'.heap[y]?=some (.cells (Ba E nm false) 314 (0,0))/\ow y w w':=by
 have H:=Jh (λD=>(im ⟨#[]⟩ 0 D Jd).mono (λe w'(h:_/\_)=>(show e= .returned (.tuple #[.int .u64 0,Ji 0,Ji 10])/\w'=D from⟨h.1,h.2.symm⟩)));obtain⟨K,-⟩:=aP h 1;obtain⟨M,-⟩:=aP h 2;obtain⟨O,U⟩:=aP h 3;simp only[Ba,aH,aD,aS] at K M O;have J:=Jh h;go_enter Tryz.func180,Tryz.ntmps180;go_wp2_with fail;go_quiet ((first|(go_at_call 91;exact ek (H.o _))));go_wp2_with fail;go_ret;refine⟨rfl,?_,rfl,rfl,rfl,by simp[aj],λT Q D=>ae _ _ _ _ (by simpa using D)⟩;have D:=J.o;simp[aj,aA,Ba] at D ⊢;exact⟨_,D,rfl⟩
theorem Qy (F:Nat->Prop)(D H i:Nat)(w:JW)(h:iJ F D H w)(hi:i<H)(aa:H<=512):JC 89 #[Jv D,Ji i] w λe w'=>
 e= .returned (.tuple #[Ji 0,.map none,Jn])/\Below w.heap.size w w':=by
 have al:=@run_makeMap prog;have Q:=Jh (BJ F D H i w h hi aa);go_enter Tryz.func89,Tryz.ntmps89;go_wp2_with fail;refine Q.o.mono ?_;rintro e K ⟨rfl,ab⟩;obtain⟨y,J⟩:=Je K.heap.size;obtain⟨E,ag,af,ac,ah⟩:∃E,(K.alloc (.map #[] 0)).alloc (.cells #[Jv D,.string ⟨#[]⟩,Ji 0,.bool true,.map (some y)] 314)=E/\E.heap.size=y+2/\Below y K E/\
  E.heap[y+1]?=some (.cells (Ba (Jv D) (.map (some y)) true) 314 (0,0)):=by
  have M:=heap_alloc_new (K.alloc (.map #[] 0)) (.cells #[Jv D,.string ⟨#[]⟩,Ji 0,.bool true,.map (some y)] 314);rw[aI,J] at M;exact⟨_,rfl,by simp[J],by rw[<-J];exact cZ _ _ _,M⟩
 have M:=Jh (xY (y+1) _ _ true E ah);have T:=Jh ag;have V:=Jh ac;have Y:=Jh af;have U:=Jh ab;go_wp2_with fail;try simp only[T.o]
 refine M.o.mono ?_;rintro e ak ⟨rfl,ai,ad⟩;have O:=Jh (xY (y+1) _ _ false ak ai);have W:=Jh ad;go_wp2_with fail;refine O.o.mono ?_;rintro e am ⟨rfl,aj,ae⟩;obtain⟨Z,-⟩:=aP aj 3;simp only[Ba,aH,aD,aS] at Z;have X:=Jh (W.o.trans ae);go_wp2_with fail
 (try simp only[jc,gM])
 refine bodyPost_ret (results_tmp3 rfl _ _ _) rfl ?_;refine⟨rfl,U.o.then ?_⟩;rw[J];exact V.o.trans (X.o.below Jo (Jw Y.o))
theorem EU (F:Nat->Prop)(H J:Nat)(w:JW)(h:iJ F H J w)(h2:2<=J)(ap:J<=512)(V:∀k,F k->k<w.heap.size):JC 37 #[Jv H] w λe w'=>
 ∃bs,e= .returned (.tuple #[Jv bs,Ji 0])/\iN (λk=>w.heap.size<=k/\k<w'.heap.size) bs H 0 (λ_=>none) w'/\Below w.heap.size w w':=by
 have aK:=@run_makeMap prog;obtain⟨y,K⟩:=Je w.heap.size;obtain⟨D,az,ay,X,aA,aB,T⟩:∃D,((w.alloc (.map #[] 0)).alloc (.map #[] 0)).alloc (.cells #[Jv H,.map (some y),.map (some (y+1)),Jn,Ji 0,.bool false] 161)=D/\D.heap.size=y+3/\Below y w D/\
  MapAt prog 9 D y 0 (λ_=>none)/\MapAt prog 9 D (y+1) 0 (λ_=>none)/\D.heap[y+2]?=some (.cells #[Jv H,.map (some y),.map (some (y+1)),Jn,Ji 0,.bool false] 161 (0,0)):=by
  have O:=heap_alloc_new ((w.alloc (.map #[] 0)).alloc (.map #[] 0)) (.cells #[Jv H,.map (some y),.map (some (y+1)),Jn,Ji 0,.bool false] 161);simp only[aI,K] at O;have E:=(MapAt.made (P:=prog) (k:=9) w).below (cZ _ (.map #[] 0) (.cells #[Jv H,.map (some y),.map (some (y+1)),Jn,Ji 0,.bool false] 161));have M:=(MapAt.made (P:=prog) (k:=9) (w.alloc (.map #[] 0))).below (Below.one _ (.cells #[Jv H,.map (some y),.map (some (y+1)),Jn,Ji 0,.bool false] 161));rw[K] at E;rw[aI,K] at M;exact⟨_,rfl,by simp[K],by rw[<-K];exact(cZ _ _ _).alloc (by simp;omega) _,E,M,O⟩
 have ac:=Jh (BI F H J w h);have ae:=Jh (λ(M:JW)(Q:Below D.heap.size D M)(E:Nat)(ar:E<2)=>Qy F H J E M (h.kept λk O=>(Q.block k (Jw (V k O))).trans (X.block k (Jw (V k O)))) Jo ap);have ao:D.cell? (Jp (y+2) 4)=some (Ji 0):=(aa T 4).trans rfl;have an:D.cell? (Jp (y+2) 2)=some (.map (some (y+1))):=(aa T 2).trans rfl;have ab:=Jh ao;have Z:=Jh an;have af:=Jh az;have aj:=Jh ay;have ah:=Jh X;have am:=Jh aA;have U:=Jh aB;have ak:=Jh T;go_enter Tryz.func37,Tryz.ntmps37;go_wp2_with fail;refine ac.o.mono ?_;rintro e aR ⟨rfl,rfl⟩;go_wp2_with fail;try simp only[af.o]
 go_loopw [18] (λM wr=>∃E:Nat,M=Ji E/\E<=2/\Below D.heap.size D wr) (λM _=>2 - (intOf M).toNat)
 case atStart=>exact⟨0,rfl,Jo,ag _ _⟩
 obtain⟨E,rfl,ar,O⟩:=hrel;by_cases au:E<2
 ·have ai:(E:Int)<2:=Jo;have W:=Jh (ae.o wr O E au);have Q:=Jh O;go_wp2_with fail;refine W.o.mono ?_;rintro e aq ⟨rfl,Y⟩;have M:=Jh (Q.o.then Y);have ad:=al M.o ab.o;go_wp2_with fail;go_roundw
  case rel=>exact⟨E+1,by go_num,Jo,M.o⟩
  simp[intOf];omega
 obtain rfl:E=2:=Jo;have aD:=al O Z.o;obtain⟨Y,ax,W,aq,aN⟩:=(U.o.below O).range (t:=159) ja underlying159;obtain⟨aP,aw⟩:=Je wr.heap.size;rw[aw] at W ax;have Q:=Jh O;have ad:=Jh W;have ai:=Jh (show Below wr.heap.size wr Y from aq.below' rfl);go_wp2_with fail;rcases ad.o.next ja 0 with⟨aF,aH,aL⟩|⟨aO,aQ,kl,aS,aC,aG,aJ,av,-⟩
 ·refine wp_loop_rounds 1 ?_;rw[rounds_succ];go_wp2_with fail
  (try simp only[jc,gM])
  refine bodyPost_ret (results_tmp2 rfl _ _ _) rfl ?_;have M:Below D.heap.size D Y:=Q.o.then ai.o;have aM:=M.size;have aE:=aj.o;refine⟨y+2,rfl,⟨y,y+1,(M.block _ Jo).trans ak.o,⟨Jo,Jo⟩,⟨Jo,Jo⟩,⟨Jo,Jo⟩,(am.o.below M).ext λk=>by unfold Ag;cases uF k<;>rfl,U.o.below M⟩,?_⟩;exact ah.o.trans (M.mono Jo)
 cases av
theorem zb (s:ByteArray)(A:JA)(n c:Nat)(w:JW)(h:JC 172 #[.slice A n c] w λe w'=>e= .returned (.tuple #[.string s,Ji 0])/\Jz w w'):
 JC 82 #[Ji 1,.slice A n c] w λe w'=>e= .returned (.tuple #[.string s,Ji 0])/\Jz w w':=by
 have D:=Jh h;clear h;go_enter Tryz.func82,Tryz.ntmps82;go_wp2_with fail;refine D.o.mono ?_;rintro e H ⟨rfl,y⟩;have E:=Jh y;clear y;go_wp2_with fail;refine bodyPost_ret (results_tmp2 rfl _ _ _) rfl ?_;exact⟨rfl,E.o⟩
theorem vC (s:ByteArray)(A:JA)(c n:Nat)(rows:List Row)(w:JW)(hr:Rd w 3 A n (rows.flatMap aR))(U:rows.length=n)(T:n<=1000000)(J:wN rows)
 (h:∀y,Jz w y->JC 171 #[.slice A n c] y λe w'=>∃v,e= .returned v/\Jz y w'/\JC 170 #[v] w' λe V=>e= .returned (.tuple #[.string s,Ji 0])/\Jz w' V):
 JC 82 #[Ji 0,.slice A n c] w λe w'=>e= .returned (.tuple #[.string s,Ji 0])/\Jz w w':=by
 have K:=Jh h;have M:=Jh (za A c n rows w hr U T J);clear h hr J;go_enter Tryz.func82,Tryz.ntmps82;go_wp2_with fail;refine M.o.mono ?_;rintro e W ⟨rfl,E⟩;have D:=Jh E;clear E;go_wp2_with fail;refine(K.o W D.o).mono ?_;rintro e X ⟨v,rfl,E,H⟩;have Q:=Jh (D.o.then E);have O:=Jh H;clear E H;go_wp2_with fail;refine O.o.mono ?_;rintro e Y ⟨rfl,E⟩;have H:=Jh (Q.o.then E);clear E;go_wp2_with fail;refine bodyPost_ret (results_tmp2 rfl _ _ _) rfl ?_;exact⟨rfl,H.o⟩
theorem CF (D T Q:Nat)(k:Int)(M:JA)(s:ByteArray)(w:JW)(ah:k=0∨k=1)(c0:w.cell? (Jp D 0)=some (Ji k))(af:w.cell? (Jp D 1)=some (Ji 0))(c3:w.cell? (Jp D 3)=some (.slice M T Q))(aa:D<w.heap.size)
 (h:∀O,Jz w O->JC 60 #[.slice M T Q] O λe w'=>∃A n c,e= .returned (.slice A n c)/\Jz O w'/\JC 82 #[Ji (1 - k),.slice A n c] w' λe ac=>e= .returned (.tuple #[.string s,Ji 0])/\Jz w' ac):
 JC 87 #[Jv D] w λe w'=>e= .returned (.tuple #[.string s,Ji 0])/\Jz w w':=by
 have ab:prog.follows .mixedOrders=true:=Jk;have W:=Jh h;have ai:IntKind.i64.wrap (1 - k)=1 - k:=by rw[aB];omega
 have H:=Jh c0;have J:=Jh c3;have ae:=Jh aa;clear h;go_enter Tryz.func87,Tryz.ntmps87;go_wp2_with fail;refine cB (n:=13) (S:=λw'=>w'.cell? (Jp D 0)=some (Ji k)/\w'.cell? (Jp D 3)=some (.slice M T Q)/\Jz w w') ab 13 rfl ⟨H.o,J.o,(ag _ _).drew⟩ (λU=>?_);refine JH 0 (h:=JH 1 (h:=JH 2 (h:=JH 3 (h:=JH 4 (h:=JH 5 (h:=JH 6 (h:=JH 7 (h:=JH 8 (h:=?_)))))))));refine JM 9 (h:=λK E=>?_);go_simp;refine(W.o _ (ag _ _).drew).mono ?_;rintro Z ad ⟨A,n,c,rfl,y,V⟩;have y:Jz w ad:=Below.h y;have X:=Jh y;have Y:=Jh V;refine E.out _ _ ⟨al y H.o,al y J.o,y⟩ (λU=>?_);clear E K y V;try simp only[an,JY]
 refine JM 10 (h:=λK E=>?_);go_simp;refine Y.o.mono ?_;rintro Z aj ⟨rfl,V⟩;have y:=Jh (X.o.then V);clear V;refine E.out _ _ ⟨al y.o H.o,al y.o J.o,y.o⟩ (λU=>?_);clear E K;try simp only[an,JY]
 refine JH 11 (h:=JH 12 (h:=?_));refine cy Jk ?_;go_wp2_with fail;refine bodyPost_ret (results_tmp2 rfl _ _ _) rfl ?_;exact⟨rfl,y.o⟩
end Go.Proofs.YtibmlemoghcbkaaGreatDoor
