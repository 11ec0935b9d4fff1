/-
  What 'TopSums' stands on, part 5 of 6.
-/
import Derived.Test.YtibmlemoghcbkaaGreatDoorP4
set_option linter.unusedSimpArgs false
set_option linter.unusedVariables false
set_option maxRecDepth 100000
set_option maxHeartbeats 8000000
open Array renaming getElem?_modify→aA,getElem?_setIfInBounds_ne→eC,length_toList→dM,replicate_succ→bY,replicate_zero→bZ
open BitVec renaming ofInt_natCast→fZ,ofInt→dU
open Bool renaming and_eq_true→bT
open Go.Act renaming put→an
open Go.Builtin renaming append_→gp,append→gd,zeroCells→dO
open Go.Callee renaming builtin→fD
open Go.Calls renaming quiet_of_same→ek
open Go.Exit renaming «then»→gM
open Go.Fence renaming wide→dI
open Go.Instr renaming lookup→eQ,makeFunc→cO
open Go.IntKind renaming wrap_i64→aB,wrap_u64→bD
open Go.IntWalk renaming i64_in→bC,u64_in→bJ
open Go.KeepsOthers renaming refl→fR,setCell→cU
open Go.Lib renaming alloc_old→aJ,bitLen_le8'→gq,cell?_alloc_some→bO,cell_of_heap→aa,compareInt→bK,decDigits→dk,frozen_of_heap→aW,heap_setCell_same→am,hid→eE,run_eql_slice_nil→fO,size_eq→bX,toList_data→dY
open Go.Region renaming ready→fH,wanted→dD
open Go.RowKit.Below renaming heap_setCell→ae,refl→ag
open Go.Value renaming int→cY,ownBlock→aG,slice→aQ
open Go.World renaming alloc_heap_new→cD,block_lt_of_cell?→bq,cell?_of_block→af,cell?_setCell_other→fK,cell?→dL,putObj_heap_other→aZ,putObj→ik,setCell→aj,size_alloc→aI
open Int renaming eq_ofNat_of_zero_le→dA,le_refl→gg,tdiv_eq_ediv_of_nonneg→fE,toNat_natCast→dE,toNat_of_nonneg→el
open List renaming append_assoc→au,append_nil→cV,append_toArray→cz,cons_append→aY,dropWhile_sublist→eR,drop_drop→bR,drop_eq_getElem_cons→dm,drop_eq_nil_of_le→dF,drop_left'→gr,drop_left→eF,drop_succ_cons→dr,drop_zero→fe,eq_nil_of_length_eq_zero→bu,filter_append→dV,filter_cons→ei,find?_cons_of_neg→dW,find?_some→eN,flatMap_append→ao,flatMap_cons→aE,flatMap_nil→iK,getD_eq_getElem?_getD→bQ,getElem?_append_left→eU,getElem?_append_right→fF,getElem?_cons_succ→aS,getElem?_cons_zero→aD,getElem?_drop→dJ,getElem?_eq_getElem→aT,getElem?_eq_none→gW,getElem?_toArray→aH,getElem_append_left→du,getElem_append_right→cK,getElem_cons_succ→ck,getElem_cons_zero→bf,getElem_map→eS,getElem_mem→ah,getElem_of_mem→bz,getElem_range→gS,length_append→ab,length_cons→ak,length_drop→bo,length_filter_le→fb,length_map→bU,length_nil→aX,length_range→dG,length_replicate→eo,length_set→fk,length_singleton→fc,length_take→aF,length→eZ,map_append→cH,map_congr_left→gw,map_cons→bV,map_map→ig,map_nil→ii,mem_cons_of_mem→aC,mem_cons_self→az,mem_cons→dh,mem_of_find?_eq_some→cL,mem_of_mem_take→eG,nil_append→bi,not_mem_nil→di,pairwise_append→gh,pairwise_iff_getElem→dS,pairwise_map→cS,push_toArray→cT,range_succ→dZ,range→aL,replicate→cm,setIfInBounds_toArray→bg,set_cons_succ→aM,set_cons_zero→bG,size_toArray→cJ,take_append_drop→da,take_append_getElem→bc,take_length→fq,take_of_length_le→aw,take_succ_cons→dN,take_succ_eq_append_getElem→aO,take_zero→ff
open List.Pairwise renaming filter→ie,imp→cQ,nil→cj
open Nat renaming add_assoc→aV,add_zero→dz,div_add_mod→jm,eq_zero_or_pos→dx,le_of_lt→fl,le_of_not_lt→ft,le_refl→ac,le_trans→ap,lt_irrefl→iw,lt_of_lt_of_le→ai,lt_or_ge→et,min_eq_left→ec,mod_eq_of_lt→fS,mod_lt→dX,mul_comm→dj,mul_le_mul_right→dP,mul_le_mul→ee,pow_le_pow_right→ce,reduceAdd→bM,reduceSub→dC,sub_self→fG,two_pow_add_eq_or_of_lt→eu,two_pow_pos→cg,xor_assoc→fU,zero_add→bB,zero_le→bj
open Ne renaming symm→fV
open Option renaming bind_some→bW,getD_none→gN,getD_some→fu,isSome_none→gU,map_some→eO
open Prod renaming fst→dQ,snd→gz
open UInt8 renaming ofNat→dw,toNat_ofNat'→eH
namespace Go.Proofs.YtibmlemoghcbkaaGreatDoor
open Go Go.RowKit
open Tryz
section
attribute [local go_sem] Oper.semAt_some
structure Bm (E:Nat->Prop) (ch bs n:Nat) (w:JW):Prop where
 ex:∃O c fns,w.heap[ch]?=some (.cells #[Jv bs,Ji 0,.slice O n c] 156 (0,0))/\E ch/\bP (λk=>k=ch) 1 1 (.slice O n c) n fns w/\∀g,(aQ O n c).ownBlock=some g->E g
theorem Bm.lt {y:Nat->Prop}{ch bs n:Nat}{w:JW}(h:Bm y ch bs n w):ch<w.heap.size:=by
 obtain⟨E,H,J,D,-⟩:=h.ex;exact(Jl D)
theorem Bm.move {J K:Nat->Prop}{ch bs n:Nat}{w w':JW}(h:Bm J ch bs n w)(H:∀k,k<w.heap.size->J k->K k/\w'.heap[k]?=w.heap[k]?):Bm K ch bs n w':=by
 obtain⟨T,U,V,M,W,E,O⟩:=h.ex;have Q:=H ch (Jl M) W;exact⟨T,U,V,Q.2.trans M,Q.1,E.later λy D=>(H y (E.1.lt y D).2 (O y D)).2,λy D=>(H y (E.1.lt y D).2 (O y D)).1⟩
theorem zH (H:Nat->Prop)(ch bs n:Nat)(X:Fn)(a0 W:Array Value)(w:JW)(h:Bm H ch bs n w)(ag:n<=1000):
 JC 83 #[Jv ch,Ji 0,.func X a0 W] w λe w'=>e= .returned (.tuple #[])/\∃V,Bm V ch bs (n+1) w'/\jl H w w'/\∀k,V k->H k∨(w.heap.size<=k/\k<w'.heap.size):=by
 obtain⟨M,Q,ad,Y,Z,U,aa⟩:=h.ex;have ac:=(Jl Y);refine(Sg (λk=>k<w.heap.size/\(aQ M n Q).ownBlock≠some k) ch n Q (Jv bs) M ad X a0 W w Y (U.shift λy E D=>D.2 E) ⟨ac,λe=>U.2 _ e rfl⟩ (λk D=>D.1) ag).mono ?_;rintro e w' ⟨rfl,O,T,ah,K,J⟩;have ae:∀y,(aQ O (n+1) T).ownBlock=some y->H y∨(w.heap.size<=y/\y<w'.heap.size):=λy E=>by
  have ab:=K.2 y E;by_cases af:y<w.heap.size
  ·by_cases e:(aQ M n Q).ownBlock=some y
   ·exact .inl (aa y e)
   exact absurd ⟨af,e⟩ ab
  exact .inr ⟨Jo,(K.1.lt y E).2⟩
 refine⟨rfl,λk=>H k∨(aQ O (n+1) T).ownBlock=some k,⟨O,T,_,ah,.inl Z,K.shift λy E e=>K.2 y E (by subst e;exact⟨ac,λe=>U.2 _ e rfl⟩),λy E=>.inr E⟩,⟨J.os,J.tape,J.output,J.size,λk D ab=>?_⟩,λk D=>?_⟩
 ·exact J.block k ⟨D,λe=>ab (aa k e)⟩ λe=>ab (by rw[e];exact Z)
 rcases D with D|D
 ·exact .inl D
 exact ae k D
structure mY (col:Nat->Nat) (ch bs bd n nf:Nat) (fs:JU->Option JU) (w:JW):Prop where
 lt:Lt col w
 C:w.cell? (Jp bd 0)=some (Ji 512)
 cd:col bd≠3/\col bd≠7
 NS:bd<w.heap.size
 u:iN (λk=>col k=3) bs bd nf fs w
 s:Bm (λk=>col k=7) ch bs n w
def c37 (c:Nat):Prop:=c=3∨c=7
theorem mY.below {col:Nat->Nat}{ch bs D n nf:Nat}{fs:JU->Option JU}{w w':JW}(h:mY col ch bs D n nf fs w)(y:Jz w w'):mY col ch bs D n nf fs w':=
 ⟨h.lt.mono y.size,(y.cell (p:=(Jp D 0)) h.NS).trans h.C,h.cd,ai h.NS y.size,h.u.below y,h.s.move λJ H E=>⟨E,y.block J H⟩⟩
open Classical in
theorem mY.VV {col:Nat->Nat}{ch bs y n nf M:Nat}{fs K:JU->Option JU}{w w':JW}(h:mY col ch bs y n nf fs w)(V:mZ (λk=>col k=3) bs y M K w w'):
 ∃J,bF c37 col J w w'/\mY J ch bs y n M K w':=by
 obtain⟨W,Q,E,T⟩:=V;obtain⟨H,U⟩:=tH E T h.lt;have O:bF c37 col _ w w':=H.mono λX D=>.inl D;refine⟨_,O,O.lt h.lt,?_,?_,ai h.NS E.size,Q.move λk X D=>⟨U k D,rfl⟩,h.s.move (H.at (c:=7) Jo)⟩
 ·unfold dL;rw[E.block y h.NS h.cd.1];exact h.C
 rw[H.old y h.NS];exact h.cd
open Classical in
theorem mY.Vz {col:Nat->Nat}{ch bs y n nf M:Nat}{fs:JU->Option JU}{w w':JW}(h:mY col ch bs y n nf fs w)(V:∃J,Bm J ch bs M w'/\jl (λk=>col k=7) w w'/\∀k,J k->col k=7∨(w.heap.size<=k/\k<w'.heap.size)):
 ∃K,bF c37 col K w w'/\mY K ch bs y M nf fs w':=by
 obtain⟨W,Q,E,T⟩:=V;obtain⟨H,U⟩:=tH E T h.lt;have O:bF c37 col _ w w':=H.mono λX D=>.inr D;refine⟨_,O,O.lt h.lt,?_,?_,ai h.NS E.size,h.u.move (H.at (c:=3) Jo),Q.move λk X D=>⟨U k D,rfl⟩⟩
 ·unfold dL;rw[E.block y h.NS h.cd.2];exact h.C
 rw[H.old y h.NS];exact h.cd
theorem VB {y β D:Type}{C:Prop}(F:y->β->D->Prop){G:y->β->D->Prop}(h1:(∀a b c,F a b c->G a b c)->C)(h2:∀a b c,F a b c->G a b c):C:=h1 h2
theorem nP (col:Nat->Nat)(ch bs aF n nf:Nat)(fs:JU->Option JU)(nm t:JU)(w:JW)(h:mY col ch bs aF n nf fs w)(aq:lC nm)(aC:t.length<=1792)(T:jA fs)(aA:nf<=16)(aB:cntF fs nm nf<=16)(hc:n<=900):
 JC 84 #[Jv ch,.string (S nm),.string (S t)] w λe w'=>e= .returned (.tuple #[])/\∃aT,bF c37 col aT w w'/\mY aT ch bs aF (n+1) (cntF fs nm nf) (eX fs nm t) w':=by
 have bj:∀(aG:Fn)(first y:Array Value)(w:JW),(cO aG first y).run prog w= .ok (.func aG first y) w:=λ_ _ _ _=>rfl;obtain⟨U,ap⟩:=Je w.heap.size;obtain⟨H,E,M,Z,J,K⟩:∃H,(w.alloc (.cells #[Jv ch] 153)).alloc (.cells #[.string (S nm)] 9)=H/\Below U w H/\H.heap.size=U+2/\H.heap[U]?=some (.cells #[Jv ch] 153 (0,0))/\H.heap[U+1]?=some (.cells #[.string (S nm)] 9 (0,0)):=by
  have y:=heap_alloc_new (w.alloc (.cells #[Jv ch] 153)) (.cells #[.string (S nm)] 9);rw[aI,ap] at y;refine⟨_,rfl,ap▸cZ _ _ _,by simp[ap],?_,y⟩;rw[<-ap];exact(heap_alloc_old _ _ Js).trans (heap_alloc_new _ _)
 have D:Below w.heap.size w H:=by rw[ap];exact M
 have ah:=h.below D;obtain⟨bd,bf,bh,y,-⟩:=ah.s.ex;have ar:=cl J 0 rfl;have ak:=cl K 0 rfl;have aw:=cl y 0 rfl;have aS:=cl y 1 rfl;have aa:((w.alloc (.cells #[Jv ch] 153)).alloc (.cells #[.string (S nm)] 9)).cell? (Jp ch 1)=some (Ji 0):=by rw[E];exact aS
 have ao:=Jh (λ(Q:JW)(ab:Jz H Q)=>iq _ bs aF nf fs nm Q (ah.u.below ab) (Jw aq.short));obtain⟨O,V⟩:=Je (S ((fs nm).getD []));obtain⟨X,W⟩:=Je ((fs nm).isSome);have au:=Jh V;have av:=Jh W;have aX:=Jh ah;have aZ:=Jh E;have a1:=Jh D;have a8:=Jh Z;have aY:=Jh (Ja h.lt (Ja aq (Ja aC (Ja T (Ja aA (Ja aB hc))))));have ba:=Jh J;have bb:=Jh K;have bc:=Jh y;clear h ah aq aC T aA aB E M D J K y V W;go_enter Tryz.func84,Tryz.ntmps84;go_wp2_with fail;try simp only[aZ.o]
 try go_wp2_with fail
 obtain⟨J,aU⟩:=Je H.heap.size;obtain⟨K,aV⟩:=Je (J+1);have ad:=Jh aU;have Y:=Jh aV;clear Z aa;apply VB (F:=λ(aQ aR:Nat)(Q:JW)=>Jz H Q/\Q.heap[aQ]?=some (.cells #[.string O] 9 (0,0))/\Q.heap[aR]?=some (.cells #[.bool X] 4 (0,0)))
 case h1=>
  intro aW;refine wp_region_held_drew (S:=λw'=>Jz H w') Jk ?_ (λD=>?_)
  ·exact(ag _ _).drew
  refine JK 0 (hy:=by(intro w W;obtain W:=W;have ar:=al W ar;go_simp)<;>with_reducible rfl) (h:=JK 1 (h:=JK 2 (h:=JK 3 (hy:=by(intro w W;obtain W:=W;have aw:=al W aw;go_simp)<;>with_reducible rfl) (h:=JK 4 (hy:=by(intro w W;obtain W:=W;have ak:=al W ak;go_simp)<;>with_reducible rfl) (h:=?_)))));refine wpAnyH_ready (rs:=[5,9,10]) Jk Js ?_;refine AllReadyH.cons (o:=_) Jg (λE y=>?_) (AllReadyH.cons (o:=_) Jg (λE y=>?_) (AllReadyH.cons (o:=_) Jg (λE y=>?_) AllReadyH.nil));go_simp;refine(ao.o _ D).mono ?_;rintro e aH ⟨rfl,rfl⟩;rw[au.o,av.o];refine y.out _ _ D (λD=>?_);clear y E;try simp only[an,JY]
  refine JK 6 (h:=JK 7 (h:=JK 8 (h:=?_)));refine wpAnyH_ready (rs:=[9,10]) Jk Js ?_;refine AllReadyH.cons (o:=_) Jg (λE y=>?_) (AllReadyH.cons (o:=_) Jg (λE y=>?_) AllReadyH.nil);go_simp;refine y.out _ _ (Below.then D (Below.one _ _)) (λD=>?_);clear y E;try simp only[an,JY]
  refine JN 10 (h:=λE y=>?_);go_simp;refine y.out _ _ (Below.then D (Below.one _ _)) (λD=>?_);clear y E;try simp only[an,JY]
  rotate_left;go_simp;refine y.out _ _ (Below.then D (Below.one _ _)) (λD=>?_);clear y E;try simp only[an,JY]
  refine JN 9 (h:=λE y=>?_);go_simp;refine y.out _ _ (Below.then D (Below.one _ _)) (λD=>?_);clear y E;try simp only[an,JY]
  rotate_left;go_simp;refine y.out _ _ (Below.then D (Below.one _ _)) (λD=>?_);clear y E;try simp only[an,JY]
  refine wpAnyH_ready (rs:=[5,10]) Jk Js ?_;refine AllReadyH.cons (o:=_) Jg (λE y=>?_) (AllReadyH.cons (o:=_) Jg (λE y=>?_) AllReadyH.nil);go_simp;refine(ao.o _ D).mono ?_;rintro e aH ⟨rfl,rfl⟩;rw[au.o,av.o];refine y.out _ _ D (λD=>?_);clear y E;try simp only[an,JY]
  refine JK 6 (h:=JK 7 (h:=JK 8 (h:=?_)));refine JN 10 (h:=λE y=>?_);go_simp;refine y.out _ _ (Below.then D (Below.one _ _)) (λD=>?_);clear y E;try simp only[an,JY]
  rotate_left;go_simp;refine y.out _ _ (Below.then D (Below.one _ _)) (λD=>?_);clear y E;try simp only[an,JY]
  refine JN 5 (h:=λE y=>?_);go_simp;refine(ao.o _ D).mono ?_;rintro e aH ⟨rfl,rfl⟩;rw[au.o,av.o];refine y.out _ _ D (λD=>?_);clear y E;try simp only[an,JY]
  refine JK 6 (h:=JK 7 (h:=JK 8 (h:=?_)));rotate_left;go_simp;refine y.out _ _ (Below.then D (Below.one _ _)) (λD=>?_);clear y E;try simp only[an,JY]
  refine wpAnyH_ready (rs:=[5,9]) Jk Js ?_;refine AllReadyH.cons (o:=_) Jg (λE y=>?_) (AllReadyH.cons (o:=_) Jg (λE y=>?_) AllReadyH.nil);go_simp;refine(ao.o _ D).mono ?_;rintro e aH ⟨rfl,rfl⟩;rw[au.o,av.o];refine y.out _ _ D (λD=>?_);clear y E;try simp only[an,JY]
  refine JK 6 (h:=JK 7 (h:=JK 8 (h:=?_)));refine JN 9 (h:=λE y=>?_);go_simp;refine y.out _ _ (Below.then D (Below.one _ _)) (λD=>?_);clear y E;try simp only[an,JY]
  rotate_left;go_simp;refine y.out _ _ (Below.then D (Below.one _ _)) (λD=>?_);clear y E;try simp only[an,JY]
  refine JN 5 (h:=λE y=>?_);go_simp;refine(ao.o _ D).mono ?_;rintro e aH ⟨rfl,rfl⟩;rw[au.o,av.o];refine y.out _ _ D (λD=>?_);clear y E;try simp only[an,JY]
  refine JK 6 (h:=JK 7 (h:=JK 8 (h:=?_)));rotate_left;all_goals
   first
   |skip
    have ax:((H.alloc (.cells #[.string ⟨#[]⟩] 9)).alloc (.cells #[.bool false] 4)).drew.heap[J]?=some (.cells #[.string ⟨#[]⟩] 9):=by rw[<-ad.o];exact(heap_alloc_old (H.alloc (.cells #[.string ⟨#[]⟩] 9)) (.cells #[.bool false] 4) Js).trans (heap_alloc_new H (.cells #[.string ⟨#[]⟩] 9))
    have ay:((H.alloc (.cells #[.string ⟨#[]⟩] 9)).alloc (.cells #[.bool false] 4)).drew.heap[K]?=some (.cells #[.bool false] 4):=by have:=heap_alloc_new (H.alloc (.cells #[.string ⟨#[]⟩] 9)) (.cells #[.bool false] 4);rw[aI,ad.o,Y.o] at this;exact this
    have V:=ax;have ai:=ay;clear ax ay;have ab:=D;clear D;generalize ((H.alloc (.cells #[.string ⟨#[]⟩] 9)).alloc (.cells #[.bool false] 4)).drew=M at V ai ab ⊢;have D:=ab;have aK:=cl V 0 rfl;have aO:=(aP V 0).2;refine JN 11 (h:=λE y=>?_);go_simp;have aj:Jz H (M.setCell (Jp J 0) (.string O)):=D.setCell (p:=(Jp J 0)) (by have:=ad.o;have:=Y.o;simp only;omega) _;have aa:(M.setCell (Jp J 0) (.string O)).heap[K]?=some (.cells #[.bool false] 4 (0,0)):=(ae _ _ _ _ (by have:=Y.o;simp only;omega)).trans ai;have az:(M.setCell (Jp J 0) (.string O)).heap[J]?=some (.cells #[.string O] 9 (0,0)):=(am V _).trans rfl;refine y.out _ _ aj (λD=>?_);clear y E;try simp only[an,JY]
    have aL:=cl aa 0 rfl;have z7:=(aP aa 0).2;refine JN 12 (h:=λE y=>?_);go_simp;have Z:Jz H ((M.setCell (Jp J 0) (.string O)).setCell (Jp K 0) (.bool X)):=aj.setCell (p:=(Jp K 0)) (by have:=ad.o;have:=Y.o;simp only;omega) _;have aE:((M.setCell (Jp J 0) (.string O)).setCell (Jp K 0) (.bool X)).heap[K]?=some (.cells #[.bool X] 4 (0,0)):=(am aa _).trans rfl;have aD:((M.setCell (Jp J 0) (.string O)).setCell (Jp K 0) (.bool X)).heap[J]?=some (.cells #[.string O] 9 (0,0)):=(ae _ _ _ _ (by have:=Y.o;simp only;omega)).trans az;refine y.out _ _ Z (λD=>?_);clear y E;try simp only[an,JY]
    refine wpAnyH_done Jk ?_ _;have T:=Ja Z (Ja aD aE);clear aK aO aL z7 az aa aj Z aD aE V ai ab;generalize (M.setCell (Jp J 0) (.string O)).setCell (Jp K 0) (.bool X)=aJ at T ⊢;generalize J=aM at T ⊢;generalize K=aN at T ⊢;exact aW aM aN aJ T
   |skip
    have ax:((H.alloc (.cells #[.bool false] 4)).alloc (.cells #[.string ⟨#[]⟩] 9)).drew.heap[J]?=some (.cells #[.bool false] 4):=by rw[<-ad.o];exact(heap_alloc_old (H.alloc (.cells #[.bool false] 4)) (.cells #[.string ⟨#[]⟩] 9) Js).trans (heap_alloc_new H (.cells #[.bool false] 4))
    have ay:((H.alloc (.cells #[.bool false] 4)).alloc (.cells #[.string ⟨#[]⟩] 9)).drew.heap[K]?=some (.cells #[.string ⟨#[]⟩] 9):=by have:=heap_alloc_new (H.alloc (.cells #[.bool false] 4)) (.cells #[.string ⟨#[]⟩] 9);rw[aI,ad.o,Y.o] at this;exact this
    have V:=ay;have ai:=ax;clear ax ay;have ab:=D;clear D;generalize ((H.alloc (.cells #[.bool false] 4)).alloc (.cells #[.string ⟨#[]⟩] 9)).drew=M at V ai ab ⊢;have D:=ab;have aK:=cl V 0 rfl;have aO:=(aP V 0).2;refine JN 11 (h:=λE y=>?_);go_simp;have aj:Jz H (M.setCell (Jp K 0) (.string O)):=D.setCell (p:=(Jp K 0)) (by have:=ad.o;have:=Y.o;simp only;omega) _;have aa:(M.setCell (Jp K 0) (.string O)).heap[J]?=some (.cells #[.bool false] 4 (0,0)):=(ae _ _ _ _ (by have:=Y.o;simp only;omega)).trans ai;have az:(M.setCell (Jp K 0) (.string O)).heap[K]?=some (.cells #[.string O] 9 (0,0)):=(am V _).trans rfl;refine y.out _ _ aj (λD=>?_);clear y E;try simp only[an,JY]
    have aL:=cl aa 0 rfl;have z7:=(aP aa 0).2;refine JN 12 (h:=λE y=>?_);go_simp;have Z:Jz H ((M.setCell (Jp K 0) (.string O)).setCell (Jp J 0) (.bool X)):=aj.setCell (p:=(Jp J 0)) (by have:=ad.o;have:=Y.o;simp only;omega) _;have aE:((M.setCell (Jp K 0) (.string O)).setCell (Jp J 0) (.bool X)).heap[J]?=some (.cells #[.bool X] 4 (0,0)):=(am aa _).trans rfl;have aD:((M.setCell (Jp K 0) (.string O)).setCell (Jp J 0) (.bool X)).heap[K]?=some (.cells #[.string O] 9 (0,0)):=(ae _ _ _ _ (by have:=Y.o;simp only;omega)).trans az;refine y.out _ _ Z (λD=>?_);clear y E;try simp only[an,JY]
    refine wpAnyH_done Jk ?_ _;have T:=Ja Z (Ja aD aE);clear aK aO aL z7 az aa aj Z aD aE V ai ab;generalize (M.setCell (Jp K 0) (.string O)).setCell (Jp J 0) (.bool X)=aJ at T ⊢;generalize K=aM at T ⊢;generalize J=aN at T ⊢;exact aW aM aN aJ T
 case h2=>
  intro aQ aR Q ⟨M,aa,ai⟩;have a7:prog.follows .mixedOrders=true:=Jk;have W:=aX.o.below M;have ar:=al M ar;have ak:=al M ak;have aw:=al M aw;have V:=W.below (w':=Q.drew) (ag _ _).drew;obtain⟨aH,aq,aC,T,aA,aB,hc⟩:=aY.o;have ay:=Jh (tX _ bs aF nf fs nm t Q.drew V.u V.C aq aC T aA aB);have aM:=Jh V;have az:=Jh (a1.o.then M);have aL:=Jh ap;clear W V aq aC T aA aB M aa ai ao aV aU;go_wp2_with fail;refine cB (n:=9) (S:=λw'=>w'.cell? (Jp U 0)=some (Jv ch)/\w'.cell? (Jp (U+1) 0)=some (.string (S nm))/\w'.cell? (Jp ch 0)=some (Jv bs)) a7 9 rfl ⟨ar,ak,aw⟩ (λD=>?_);refine JH 0 (h:=JH 1 (h:=JH 2 (h:=JH 3 (h:=JH 4 (h:=JH 5 (h:=JH 6 (h:=JH 8 (h:=?_))))))));refine JM 7 (h:=λE y=>?_);go_simp;refine ay.o.mono ?_;rintro aO aa ⟨rfl,aJ⟩;obtain⟨bg,aj,W⟩:=aM.o.VV aJ;obtain⟨be,aS,bi,aK,-⟩:=W.s.ex;have aD:∀M,U<=M->¬c37 (col M):=λM a6 e=>by
   have:=aH.zero (k:=M) (by rw[aL.o];exact a6);unfold c37 at e;omega
  have aE:∀M,U<=M->M<Q.drew.heap.size->aa.heap[M]?=Q.drew.heap[M]?:=λM V ah=>aj.s.block M ah (aD M V);have aW:U+1<Q.heap.size:=bq _ _ ak;have ai:∀M,U<=M->M<Q.heap.size->∀ax,Q.cell? (Jp M 0)=some ax->aa.cell? (Jp M 0)=some ax:=λM V ah ax aN=>(af (a:=(Jp M 0)) (aE M V ah)).trans aN;have ax:=Jh (λaG V aN=>zH _ ch bs n aG V aN aa W.s Jo);have V:=Jh (Ja aH (Ja aj W));have aG:aa.cell? (Jp ch 0)=some (Jv bs):=cl aK 0 rfl;refine y.out _ _ ⟨ai U (ac _) Jo _ ar,ai (U+1) Jo aW _ ak,aG⟩ (λD=>?_);clear y E aJ aj W ai aE aD aK ay D;try simp only[an,JY]
  refine cy Jk ?_;go_wp2_with fail;refine(ax.o _ _ _).mono ?_;rintro aO ay ⟨rfl,E⟩;obtain⟨aj,W,ai⟩:=V.o.2.2.Vz E;have y:=Jh (Ja W ai);clear E W ai;go_wp2_with fail;go_end0;have E:Lt col Q:=V.o.1.mono az.o.size;exact⟨rfl,aj,((bF.of V.o.1 az.o).trans (bF.of E (ag _ _).drew)).trans (V.o.2.1.trans y.o.1),y.o.2⟩
theorem VA {y β:Type}{C:Prop}(F:y->β->Prop){G:y->β->Prop}(h1:(∀a b,F a b->G a b)->C)(h2:∀a b,F a b->G a b):C:=h1 h2
theorem xd (col:Nat->Nat)(ch bs ae n nf:Nat)(fs:JU->Option JU)(nm:JU)(w:JW)(h:mY col ch bs ae n nf fs w)(W:lC nm)(hi:(fs nm).isSome=true)(O:jA fs)(ab:nf<=16)(hc:n<=900):
 JC 85 #[Jv ch,.string (S nm)] w λe w'=>e= .returned (.tuple #[])/\∃aA,bF c37 col aA w w'/\mY aA ch bs ae (n+1) (sA fs nm nf) (oe fs nm) w':=by
 have ba:∀(ai:Fn)(first y:Array Value)(w:JW),(cO ai first y).run prog w= .ok (.func ai first y) w:=λ_ _ _ _=>rfl;obtain⟨K,V⟩:=Je w.heap.size;obtain⟨H,E,Z,aj,M,T⟩:∃H,(w.alloc (.cells #[Jv ch] 153)).alloc (.cells #[.string (S nm)] 9)=H/\Below K w H/\H.heap.size=K+2/\H.heap[K]?=some (.cells #[Jv ch] 153 (0,0))/\H.heap[K+1]?=some (.cells #[.string (S nm)] 9 (0,0)):=by
  have y:=heap_alloc_new (w.alloc (.cells #[Jv ch] 153)) (.cells #[.string (S nm)] 9);rw[aI,V] at y;refine⟨_,rfl,V▸cZ _ _ _,by simp[V],?_,y⟩;rw[<-V];exact(heap_alloc_old _ _ Js).trans (heap_alloc_new _ _)
 have D:Below w.heap.size w H:=by rw[V];exact Z
 have Q:=h.below D;obtain⟨aY,a1,a7,y,-⟩:=Q.s.ex;have X:=cl M 0 rfl;have U:=cl T 0 rfl;have Y:=cl y 0 rfl;have ah:=cl y 1 rfl;have ap:((w.alloc (.cells #[Jv ch] 153)).alloc (.cells #[.string (S nm)] 9)).cell? (Jp ch 1)=some (Ji 0):=by rw[E];exact ah
 have ao:=Jh (λ(J:JW)(aa:Jz H J)=>iq _ bs ae nf fs nm J (Q.u.below aa) (Jw W.short));obtain⟨ad,ak⟩:=Je (S ((fs nm).getD []));have av:=Jh ak;have au:=Jh hi;have aH:=Jh Q;have aM:=Jh E;have aN:=Jh D;have aU:=Jh aj;have aK:=Jh (Ja h.lt (Ja W (Ja hi (Ja O (Ja ab hc)))));have aV:=Jh M;have aW:=Jh T;have aX:=Jh y;clear h Q W hi O ab E Z D M T y ak;go_enter Tryz.func85,Tryz.ntmps85;go_wp2_with fail;try simp only[aM.o]
 try go_wp2_with fail
 obtain⟨T,aC⟩:=Je H.heap.size;have ax:=Jh aC;clear aj ap;apply VA (F:=λ(az:Nat)(J:JW)=>Jz H J/\J.heap[az]?=some (.cells #[.string ad] 9 (0,0)))
 case h1=>
  intro aq;refine wp_region_held_drew (S:=λw'=>Jz H w') Jk ?_ (λD=>?_)
  ·exact(ag _ _).drew
  refine JK 0 (hy:=by(intro w y;obtain y:=y;have X:=al y X;go_simp)<;>with_reducible rfl) (h:=JK 1 (h:=JK 2 (h:=JK 3 (hy:=by(intro w y;obtain y:=y;have Y:=al y Y;go_simp)<;>with_reducible rfl) (h:=JK 4 (hy:=by(intro w y;obtain y:=y;have U:=al y U;go_simp)<;>with_reducible rfl) (h:=?_)))));refine wpAnyH_ready (rs:=[5,9]) Jk Js ?_;refine AllReadyH.cons (o:=_) Jg (λM E=>?_) (AllReadyH.cons (o:=_) Jg (λM E=>?_) AllReadyH.nil);go_simp;refine(ao.o _ D).mono ?_;rintro e aw ⟨rfl,rfl⟩;rw[av.o,au.o];refine E.out _ _ D (λD=>?_);clear E M;try simp only[an,JY]
  refine JK 6 (h:=JK 7 (h:=JK 8 (h:=?_)));refine JN 9 (h:=λM E=>?_);go_simp;refine E.out _ _ (Below.then D (Below.one _ _)) (λD=>?_);clear E M;try simp only[an,JY]
  rotate_left;go_simp;refine E.out _ _ (Below.then D (Below.one _ _)) (λD=>?_);clear E M;try simp only[an,JY]
  refine JN 5 (h:=λM E=>?_);go_simp;refine(ao.o _ D).mono ?_;rintro e aw ⟨rfl,rfl⟩;rw[av.o,au.o];refine E.out _ _ D (λD=>?_);clear E M;try simp only[an,JY]
  refine JK 6 (h:=JK 7 (h:=JK 8 (h:=?_)));rotate_left;all_goals
   have Z:(H.alloc (.cells #[.string ⟨#[]⟩] 9)).drew.heap[T]?=some (.cells #[.string ⟨#[]⟩] 9):=by rw[<-ax.o];exact heap_alloc_new H _
   have aa:=D;clear D;generalize (H.alloc (.cells #[.string ⟨#[]⟩] 9)).drew=aj at Z aa ⊢;have D:=aa;have ar:=cl Z 0 rfl;have ay:=(aP Z 0).2;refine JN 10 (h:=λM E=>?_);go_simp;have ak:Jz H (aj.setCell (Jp T 0) (.string ad)):=D.setCell (p:=(Jp T 0)) (by have:=ax.o;simp only;omega) _;have ap:(aj.setCell (Jp T 0) (.string ad)).heap[T]?=some (.cells #[.string ad] 9 (0,0)):=(am Z _).trans rfl;refine E.out _ _ ak (λD=>?_);clear E M;try simp only[an,JY]
   refine JK 11 (h:=?_);refine wpAnyH_done Jk ?_ _;have O:=Ja ak ap;clear ar ay ap ak Z aa;generalize (aj.setCell (Jp T 0) (.string ad))=Z at O ⊢;generalize T=ak at O ⊢;exact aq ak Z O
 case h2=>
  intro az J ⟨y,ak⟩;have aT:prog.follows .mixedOrders=true:=Jk;have aj:=aH.o.below y;have X:=al y X;have U:=al y U;have Y:=al y Y;have ah:=al y ah;have Z:=aj.below (w':=J.drew) (ag _ _).drew;obtain⟨aE,W,hi,O,ab,hc⟩:=aK.o;have aw:=Jh (zm _ bs ae nf fs nm J.drew Z.u Z.C W hi O ab);have aL:=Jh Z;have ay:=Jh (aN.o.then y);have aJ:=Jh V;clear aj Z W hi O ab y ak ao aC;go_wp2_with fail;refine cB (n:=8) (S:=λw'=>w'.cell? (Jp K 0)=some (Jv ch)/\w'.cell? (Jp (K+1) 0)=some (.string (S nm))/\w'.cell? (Jp ch 0)=some (Jv bs)) aT 8 rfl ⟨X,U,Y⟩ (λD=>?_);refine JH 0 (h:=JH 1 (h:=JH 2 (h:=JH 3 (h:=JH 4 (h:=JH 5 (h:=JH 7 (h:=?_)))))));refine JM 6 (h:=λM E=>?_);go_simp;refine aw.o.mono ?_;rintro aQ ak ⟨rfl,aF⟩;obtain⟨a6,aq,aj⟩:=aL.o.VV aF;obtain⟨aZ,ah,a8,aG,-⟩:=aj.s.ex;have aB:∀y,K<=y->¬c37 (col y):=λy aS e=>by
   have:=aE.zero (k:=y) (by rw[aJ.o];exact aS);unfold c37 at e;omega
  have aD:∀y,K<=y->y<J.drew.heap.size->ak.heap[y]?=J.drew.heap[y]?:=λy Z Q=>aq.s.block y Q (aB y Z);have aR:K+1<J.heap.size:=bq _ _ U;have ap:∀y,K<=y->y<J.heap.size->∀ar,J.cell? (Jp y 0)=some ar->ak.cell? (Jp y 0)=some ar:=λy Z Q ar aO=>(af (a:=(Jp y 0)) (aD y Z Q)).trans aO;have ar:=Jh (λai Z aO=>zH _ ch bs n ai Z aO ak aj.s Jo);have Z:=Jh (Ja aE (Ja aq aj));have aO:ak.cell? (Jp ch 0)=some (Jv bs):=cl aG 0 rfl;refine E.out _ _ ⟨ap K (ac _) Jo _ X,ap (K+1) Jo aR _ U,aO⟩ (λD=>?_);clear E M aF aq aj ap aD aB aG aw D;try simp only[an,JY]
  refine cy Jk ?_;go_wp2_with fail;refine(ar.o _ _ _).mono ?_;rintro aQ aq ⟨rfl,M⟩;obtain⟨ap,ai,aj⟩:=Z.o.2.2.Vz M;have E:=Jh (Ja ai aj);clear M ai aj;go_wp2_with fail;go_end0;have M:Lt col J:=Z.o.1.mono ay.o.size;exact⟨rfl,ap,((bF.of Z.o.1 ay.o).trans (bF.of M (ag _ _).drew)).trans (Z.o.2.1.trans E.o.1),E.o.2⟩
theorem oz {s:St}(h:eV s)(K:s.Parts.length<=20):(iG s).length<=670:=by
 have y:=FX h Jo;have H:=rz (Dz s) λE D=>Jw (y E D);have E:(Dz s).length<=67:=by
  unfold Dz;have D:=ot s.Parts;have J:(Lf s).length<=4:=by unfold Lf;split<;>simp
  simp only[ak,ab,D,aX];omega
 unfold iG;omega
theorem ul (col:Nat->Nat)(ch bs Y n nf:Nat)(fs:JU->Option JU)(A:JA)(m c:Nat)(s:St)(w:JW)(h:mY col ch bs Y n nf fs w)(hr:Rd w 3 A m (s.Parts.flatMap aU))(aj:s.Parts.length=m)(aP:m<=20)(U:eV s)(V:Pow w)(aA:vu w)(aa:jA fs)(ab:nf<=16)(ac:cntF fs eM nf<=16)(hc:n<=900):
 JC 71 #[Jv ch,dH A m c s] w λe w'=>e= .returned (.tuple #[])/\∃T,bF c37 col T w w'/\mY T ch bs Y (n+1) (cntF fs eM nf) (eX fs eM (iG s)) w':=by
 obtain⟨ae,ai⟩:=Je w.heap.size;have aB:∀y∈s.Parts,y.File.length<=1000000:=λy V=>by
  obtain⟨-,-,E,-,e⟩:=U.part y V;have D:=oH U V;rw[D.2.2.2.2.2.2];have:=xv (mA y.File).toNat Jo;unfold cE;simp only[ak];omega
 unfold dH;obtain⟨X,J,M,K,H,O,Q⟩:=s;simp only at hr aj;obtain⟨D,aG,E,aQ,aI⟩:∃D,w.alloc (.cells #[.slice A m c,Ji J,Ji M,.bool K,Ji H,Ji O,Ji Q] 83)=D/\Jz w D/\D.heap.size=ae+1/\D.heap[ae]?=some (.cells #[.slice A m c,Ji J,Ji M,.bool K,Ji H,Ji O,Ji Q] 83 (0,0)):=
  ⟨_,rfl,Below.one _ _,by simp[ai],by rw[<-ai];exact heap_alloc_new _ _⟩
 have W:=Jh (BZ A m c ⟨X,J,M,K,H,O,Q⟩ D (hr.below E) aj Jo aB (V.below E) (aA.below E) U);have af:=Jh U;have ah:=h.below E;obtain⟨aM,aN,aO,aJ,-⟩:=ah.s.ex;have ag:=cl aJ 1 rfl;obtain⟨aR,aS,aT,aV,aW,aX,aY,-⟩:=seven aI;have an:=Jh ah;have ap:=Jh (Ja h.lt (Ja aa (Ja ab (Ja ac hc))));have aq:=Jh aG;have av:=Jh E;have ax:=Jh (show X.length<=20 by omega);obtain⟨am,ad⟩:=Je (iG ⟨X,J,M,K,H,O,Q⟩);have aF:am.length<=1792:=by rw[<-ad];have:=oz af.o ax.o;omega
 rw[ad];have ay:=Jh ad;have az:=Jh aF;unfold dH at W;simp only at W;go_enter Tryz.func71,Tryz.ntmps71;go_wp2_with fail;try simp only[aq.o]
 try go_wp2_with fail
 refine W.o.mono ?_;rintro e aL ⟨aE,Z⟩;rcases aE with⟨-,rfl⟩|⟨aD,-⟩
 ·have ag:=al Z ag;obtain⟨aC,aa,ab,ac,hc⟩:=ap.o;have ar:=Jh (nP col ch bs Y n nf fs eM am aL (an.o.below Z) UJ az.o aa ab ac hc);have aw:=Jh (av.o.then Z);have ao:=Jh aC;rw[ay.o];go_wp2_with fail;refine ar.o.mono ?_;rintro e aZ ⟨rfl,aH⟩;have au:=Jh aH;go_wp2_with fail;go_end0;obtain⟨T,y,aK⟩:=au.o;exact⟨rfl,T,(bF.of ao.o aw.o).trans y,aK⟩
 exact absurd af.o aD
end
def eJ (y:List Int):St:={st0 with Parts:=y.zipIdx.map λD=>⟨D.1,0,cE D.2⟩,Next:=y.length}
theorem OO:eJ []=st0:=rfl
theorem Al {p:bL}:∀{l:List bL},(∀x∈l,x.Day<p.Day)->jC p l=l ++ [p]
 |[],_=>rfl
 |x :: l,y=>by
  unfold jC;have H:=y x (az ..);rw[if_neg Jo,Al λE D=>y E (aC _ D)];rfl
theorem ti {y:List Int}{p:bL}(h:p∈(eJ y).Parts):∃i,∃h:i<y.length,p=⟨y[i],0,cE i⟩:=by
 obtain⟨J,H,rfl⟩:=List.mem_map.1 h;obtain⟨K,i⟩:=J;have:=List.mem_zipIdx H;simp only[bB,bj,Nat.sub_zero,true_and] at this;obtain⟨D,E⟩:=this;exact⟨i,D,by rw[E]⟩
theorem zY (y:List Int):(eJ y).Parts.map (·.Day)=y:=by
 unfold eJ;simp only[ig];rw[show((λE:bL=>E.Day) ∘ λD:Int × Nat=>(⟨D.1,0,cE D.2⟩:bL))=dQ from rfl];simp
theorem lY (y:List Int):(eJ y).Parts.length=y.length:=by simp[eJ]
theorem uc {y:List Int}(H:y.Pairwise (·< ·)){n:Nat}(E:n<y.length):∀x∈y.take n,x<y[n]:=λx J=>by
 obtain⟨K,D,rfl⟩:=bz J;rw[aF] at D;rw[List.getElem_take];exact List.pairwise_iff_getElem.1 H K n Jo E Jo
theorem DN {y:List Int}{d:Int}(h:∀x∈y,x<d)(H:lW d)(T:y.length<1000):ep (eJ y) ⟨0,d,0,0⟩=some (eJ (y ++ [d])):=by
 have J:(eJ y).Parts.filter (λE=>E.Day != d)=(eJ y).Parts:=List.filter_eq_self.2 λE K=>by
  obtain⟨Q,D,rfl⟩:=ti K;have:=h _ (ah D);simp;omega
 have M:kh (eJ y) d=eJ y:=by
  unfold kh;rw[if_neg (by simp[eJ,st0]),J]
 unfold ep;rw[if_pos rfl];unfold rS;rw[M,if_pos ⟨H,.inl rfl,by simp[eJ];omega⟩,Al λx O=>by
  obtain⟨Q,D,rfl⟩:=ti O;exact h _ (ah D)]
 refine congrArg some ?_;unfold eJ;simp[List.zipIdx_append]
theorem tm {y:List Int}(H:y.Pairwise (·< ·))(E:∀d∈y,lW d)(K:y.length<1000):∀n,n<=y.length->eV (eJ (y.take n))
 |0,_=>eV.zero
 |n+1,M=>by
  have D:n<y.length:=M;have J:y.take (n+1)=y.take n ++ [y[n]]:=(bc D).symm;rw[J];exact(tm H E K n Jo).app (DN (λQ O=>uc H D Q O) (E _ (ah D)) (by rw[aF];omega))
theorem zZ {y:List Int}{d:Int}(h:∀x∈y,x≠d):eh (eJ y).Parts d=none:=by
 unfold eh;rw[List.find?_eq_none];intro J E;obtain⟨H,D,rfl⟩:=ti E;have:=h _ (ah D);simp[this]
theorem Lr {y:List Int}{d:Int}(h:∀x∈y,x≠d):eh (eJ (y ++ [d])).Parts d=some ⟨d,0,cE y.length⟩:=by
 have D:(eJ (y ++ [d])).Parts=(eJ y).Parts ++ [⟨d,0,cE y.length⟩]:=by
  unfold eJ;simp[List.zipIdx_append]
 unfold eh;rw[D,List.find?_append];have:=zZ h;unfold eh at this;rw[this];simp
def Vp {D:Type}(n:Nat)(P:Program)(g:Nat)(lb:Array Value)(e1:D->Value)(Kp:JW->World->Prop)(T:List D->D->World->Prop)(S:List D->Prop)(w:JW):Prop:=
 ∀(Q:Nat)(y:List D->World->Prop)(E:JW),Jz w E->AbidesFrom E.heap.size y->
  (∀M O J,y M J->T M O J->YieldAt dI (n - 1) P Q #[e1 O] J λK H=>K= .returned (.bool true)/\y (M ++ [O]) H/\Kp J H)->
  y [] E->
  CallsIn dI n P g (#[.func (.yield Q) #[] #[]] ++ lb) E λK H=>(∃M,K= .returned M)/\∃J,S J/\y J H
theorem Te {P:Program}{n:Nat}{M:Type}{g:Operand}{W:Tmp}{aa ah:Code}{al:Exit->Act->World->Prop}{a:Act}{w:JW}(aj:Tmp)
 (h1:1<=n) {gf:Nat} {lb:Array Value} (aN:a.eval g= .func (.func gf) #[] lb) (aB:∀args w,(callFunc gf args).run P w= .ok (.enter gf args) w)
 {e1:M->Value} {Kp:JW->World->Prop} {ag:List M->M->World->Prop} {S:List M->Prop} (aV:Vp (n - 1) P gf lb e1 Kp ag S w)
 (an:∀{A B C:JW},Kp A B->Kp B C->Kp A C) (am:∀(y:JW)(l:Nat)(o ax:Obj),w.heap.size<=l->y.heap[l]?=some o->o.isCells=false->o.isWalk=false->Kp y (y.putObj l ax))
 (aH:∀D x,OwnFrom w.heap.size (λ(_:Unit) y=>ag D x y)) (I:List M->World->Prop) (X:OwnFrom w.heap.size I) (aC:I [] w)
 (aK:∀(l:Nat)(x:M)(y:JW)(T:Act->World->Prop),T {tmps:=(a.tmps.setIfInBounds W (e1 x)).setIfInBounds aj (e1 x),defers:=[]} y->
  aa.wpIn (CN l) (n - 1 - 1) P (gM T (λ_ _ _=>False)) {tmps:=a.tmps.setIfInBounds W (e1 x),defers:=[]} y)
 (aL:∀(l:Nat)(D:List M)(x:M)(y:JW),I D y->ag D x y->
  ah.wpIn (CN l) (n - 1 - 1) P (ownPostK Kp I (λ_ _ _=>False) (D ++ [x]) y) {tmps:=(a.tmps.setIfInBounds W (e1 x)).setIfInBounds aj (e1 x),defers:=[]} y)
 (aM:∀(ai:Nat)(xs:List M)(y:JW),w.heap.size<=ai->S xs->I xs y->y.heap[ai]?=some (.deferred (some []))->al .normal {a with defers:={target:=.collected ai,args:=#[]} :: a.defers} y):
 (Code.rangeFunc g #[W] aa ah).wp P al a w:=by
 refine(wpIn_wide (n:=n)).1 (wpIn_rangeFunc λad aq=>?_);rw[show Fence.wide.round=none from rfl];obtain⟨E,Q⟩:∃E:LoopState->Loop,E=λH=>{state:=H,pending:=none,fn:=ad,tmps:=a.tmps,params:=#[W],assign:=aa,body:=ah,defers:=w.heap.size}:=⟨_,rfl⟩;obtain⟨H,ab⟩:=Je ((w.alloc (.deferred (some []))).alloc (.loop (E .ready)));have ao:Below w.heap.size w H:=by rw[<-ab];exact(Below.one _ _).alloc Js _
 have aD:H.heap[w.heap.size]?=some (.deferred (some [])):=by rw[<-ab];exact(heap_alloc_old _ _ Js).trans (heap_alloc_new _ _)
 have aG:H.heap[w.heap.size+1]?=some (.loop (E .ready)):=by
  have:=heap_alloc_new (w.alloc (.deferred (some []))) (.loop (E .ready))
  rwa [aI,ab] at this
 have aE:I [] H:=by rw[<-ab];exact X.alloc _ (X.alloc _ aC)
 refine⟨w.heap.size+1,[{target:=.collected w.heap.size,args:=#[]}],H,{target:=.fn (.func gf) lb,args:=#[.func (.yield (w.heap.size+1)) #[] #[]]},H,gf,#[.func (.yield (w.heap.size+1)) #[] #[]] ++ lb,H,?_,?_,?_,?_,λ_=>h1,?_⟩
 ·rw[<-ab,Q];exact run_enterLoop_outer _ _ _ _ _
 ·simp only[resolve,aN];simp[go_sem]
 ·intro J K;exact trivial
 ·simp[invoke,go_sem,aB]
 have aw:∀{B:Obj->Bool}{ae:Nat}{o:Obj}{A C:JW}{af:Option Nat},A.grownBy C af->(∀K,af=some K->H.heap.size<=K/\∃o:Obj,A.heap[K]?=some o/\o.isWalk=true)->A.heap[ae]?=some o->o.isWalk=false->C.heap[ae]?=some o:=by
  intro _ ae o A C af J O V Z;exact(J.block ae (Jl V) λU=>by
   obtain⟨-,ax,Y,ak⟩:=O ae (by first|exact U|exact U.symm);rw[V] at Y;obtain rfl:=Option.some.inj Y;rw[Z] at ak;cases ak).trans V
 refine(aV (w.heap.size+1) (λD y=>I D y/\y.heap[w.heap.size+1]?=some (.loop (E .ready))/\y.heap[w.heap.size]?=some (.deferred (some []))) H ao
  (λak A C af Y J O=>⟨X ak A C af Y.1 J λK U=>?_,aw (B:=λ_=>true) J O Y.2.1 rfl,aw (B:=λ_=>true) J O Y.2.2 rfl⟩) ?_ ⟨aE,aG,aD⟩).mono ?_
 ·obtain⟨J,o,Y,Z⟩:=O K U;exact⟨ap ao.size J,o,Y,Obj.not_cells_of_walk Z⟩
 ·
  rintro D x y ⟨ak,K,V⟩ aW;have aJ:∀T:Act->World->Prop,T {tmps:=(a.tmps.setIfInBounds W (e1 x)).setIfInBounds aj (e1 x),defers:=[]} y->aa.wpIn (CN (w.heap.size+1)) (n - 1 - 1) P (gM T (λ_ _ _=>False)) {tmps:=(#[W].zip #[e1 x]).foldl (λay(aY,az)=>ay.setIfInBounds aY az) a.tmps,defers:=[]} y:=λT aF=>by
   have:=aK (w.heap.size+1) x y T aF;simpa using this
  have aT:w.heap.size+1<y.heap.size:=(Jl K);have av:=run_yield (P:=P) (args:=#[e1 x]) K (by rw[Q];rfl);rw[Q] at av;refine⟨ad,_,aa,ah,av,roundIn_of_wpIn aq (aJ _ ⟨_,run_beginRound K (by rw[Q]),?_⟩)⟩;obtain⟨J,Y⟩:∃J,y.putObj (w.heap.size+1) (.loop {E .ready with state:=.busy})=J:=⟨_,rfl⟩;have aS:J.heap[w.heap.size+1]?=some (.loop {E .ready with state:=.busy}):=by rw[<-Y];exact World.putObj_heap_same aT
  have aQ:J.heap[w.heap.size]?=some (.deferred (some [])):=by rw[<-Y];exact(aZ Jo).trans V
  have aU:Kp y J:=by rw[<-Y];exact am _ _ _ _ Jo K rfl rfl
  have aO:I D J:=by rw[<-Y];exact X.putObj _ ak Jo K rfl
  have aX:ag D x J:=by rw[<-Y];exact(aH D x).putObj (s:=()) _ aW Jo K rfl
  rw[Y];refine wpIn_mono (aL _ D x J aO aX) ?_;rintro U a1 aA Z;cases U with
  |normal=>
   obtain⟨aq,aR,aP⟩:=Z;have ad:=aq.same _ _ aS rfl;have au:=run_endRound (P:=P) none ad;have ar:(aA.putObj (w.heap.size+1) (.loop (E .ready))).heap[w.heap.size+1]?=some (.loop (E .ready)):=World.putObj_heap_same (Jl ad);rw[Q] at au ar ad;refine⟨_,_,au,?_⟩;rw[Q];exact⟨rfl,⟨X.putObj _ aP Jo ad rfl,ar,(aZ Jo).trans (aq.same _ _ aQ rfl)⟩,an (an aU aR) (am _ _ _ _ Jo ad rfl rfl)⟩
  |ret=>exact Z.2.elim
  |exit aq=>exact Z.2.elim
  |goto ay=>exact Z.2.elim
  |panic ad=>exact Z.elim
  |outgrown=>exact Z.elim
 
 rintro U J ⟨⟨az,rfl⟩,xs,Y,ak,K,V⟩;have O:=run_endLoop (P:=P) K (by rw[Q];simp);rw[Q] at O;exact⟨none,_,O,aM _ xs _ (ac _) Y (X.putObj _ ak Jo K rfl) ((aZ Jo).trans V)⟩
structure qg where
 id:Int
 g:Nat
 c:Nat
 xs:List Row
def qg.val (e:qg):Value:=.slice (some ⟨e.g,0,none⟩) e.xs.length e.c
def Fv (B:Nat)(G:List qg)(i:Int)(j:Nat):Prop:=j<B∨∃y∈G,y.id≠i/\y.g=j
structure kH (B:Nat) (G:List qg) (w:JW):Prop where
 once:G.Pairwise λa b=>a.id≠b.id
 at_:∀e∈G,bP (Fv B G e.id) 130 3 e.val e.xs.length (e.xs.flatMap aR) w
def mapD (G:List qg)(k:Lit):Option Value:=(pR k).bind λD=>(G.find? λy=>decide (y.id=D)).map qg.val
def lJ (G:List qg)(i:Int):List Row:=((G.find? λy=>decide (y.id=i)).map qg.xs).getD []
def GF (G:List qg)(i:Int)(g c:Nat)(x:Row):List qg:=⟨i,g,c,lJ G i ++ [x]⟩ :: G.filter λy=>decide (y.id≠i)
theorem kH.nil (B:Nat)(w:JW):kH B [] w:=⟨cj,Js⟩
theorem mapD_nil:mapD []=λ_=>none:=by
 funext k;unfold mapD;all_goals (cases pR k<;>rfl)
theorem tD (G:List qg)(i:Int):mapD G (.int .i64 i)=(G.find? λe=>decide (e.id=i)).map qg.val:=rfl
section
variable {B:Nat} {G:List qg} {w w':JW}
theorem kH.look (h:kH B G w)(i:Int):∃v0,(mapD G (.int .i64 i)).getD (.slice none 0 0)=v0/\bP (Fv B G i) 130 3 v0 (lJ G i).length ((lJ G i).flatMap aR) w:=by
 refine⟨_,rfl,?_⟩;rw[tD];unfold lJ;cases D:G.find? λy=>decide (y.id=i) with
 |none=>exact bP.nil _ _ _ _
 |some y=>
  have H:=cL D;have E:y.id=i:=by simpa using eN D
  have:=h.at_ y H;rw[E] at this;exact this
theorem Px (i:Int)(g c:Nat)(x:Row)(k:Lit):mapD (GF G i g c x) k=od (mapD G) (.int .i64 i) (.slice (some ⟨g,0,none⟩) ((lJ G i).length+1) c) k:=by
 unfold od;by_cases D:k= .int .i64 i
 ·rw[if_pos D,D,tD];unfold GF;simp[qg.val]
 rw[if_neg D];unfold mapD;cases M:pR k with
 |none=>rfl
 |some J=>
  have H:J≠i:=λy=>D (by rw[<-y];exact kN M);rw[bW,bW];congr 1;unfold GF;rw[List.find?_cons,decide_eq_false (fV H)];simp only;rw[List.find?_filter];congr 1;funext y;by_cases E:y.id=J
  ·have:y.id≠i:=λK=>H (by rw[<-E,K]);simp[E,H]
  simp[E]
theorem kH.put (h:kH B G w){i:Int}{g c:Nat}{x:Row}(Q:bP (Fv B G i) 130 3 (.slice (some ⟨g,0,none⟩) ((lJ G i).length+1) c) ((lJ G i).length+1) ((lJ G i).flatMap aR ++ [.int .i64 x.T,.int .i64 x.ID,.int .i64 x.V]) w')
 (aa:∀j,Fv B G i j->w'.heap[j]?=w.heap[j]?):kH B (GF G i g c x) w':=by
 have Z:g∉(G.filter λy=>decide (y.id≠i)).map qg.g:=by
  intro H;obtain⟨y,E,M⟩:=List.mem_map.1 H;obtain⟨D,O⟩:=List.mem_filter.1 E;exact Q.2 g rfl (.inr ⟨y,D,by simpa using O,M⟩)
 refine⟨List.pairwise_cons.2 ⟨λy E=>?_,ie _ h.once⟩,λy E=>?_⟩
 ·have:=(List.mem_filter.1 E).2;simp only[decide_eq_true_eq] at this;exact fV this
 rcases List.mem_cons.1 E with rfl|E
 ·have X:((lJ G i ++ [x]).flatMap aR)=(lJ G i).flatMap aR ++ [.int .i64 x.T,.int .i64 x.ID,.int .i64 x.V]:=by simp[aR]
  have Y:(lJ G i ++ [x]).length=(lJ G i).length+1:=Js;simp only[qg.val,X,Y];refine Q.shift λj H J=>?_;rcases J with J|⟨U,K,W,M⟩
  ·exact Q.2 j H (.inl J)
  rcases List.mem_cons.1 K with rfl|K
  ·exact W rfl
  obtain⟨D,O⟩:=List.mem_filter.1 K;exact Q.2 j H (.inr ⟨U,D,by simpa using O,M⟩)
 obtain⟨D,O⟩:=List.mem_filter.1 E;have X:y.id≠i:=by simpa using O
 refine((h.at_ y D).later λj H=>aa j (.inr ⟨y,D,X,by simpa [qg.val,aG] using H⟩)).shift λj H J=>?_;have Y:y.g=j:=by simpa [qg.val,aG] using H
 rcases J with J|⟨U,K,W,M⟩
 ·exact(h.at_ y D).2 j H (.inl J)
 rcases List.mem_cons.1 K with rfl|K
 ·exact Z (List.mem_map.2 ⟨y,E,by rw[Y];exact M.symm⟩)
 exact(h.at_ y D).2 j H (.inr ⟨U,(List.mem_filter.1 K).1,W,M⟩)
theorem kH.below (h:kH B G w)(D:Jz w w'):kH B G w':=⟨h.once,λy E=>(h.at_ y E).below D⟩
theorem kH.old (h:kH B G w)(hB:B<=w.heap.size)(i:Int):gm (Fv B G i) w:=λH D=>by
 rcases D with D|⟨y,E,-,rfl⟩
 ·omega
 exact((h.at_ y E).1.lt y.g rfl).2
theorem kH.kept (h:kH B G w)(E:∀j,(∃e∈G,e.g=j)->w'.heap[j]?=w.heap[j]?):kH B G w':=⟨h.once,λe y=>(h.at_ e y).later λj D=>E j ⟨e,y,by simpa [qg.val,aG] using D⟩⟩
end
theorem Pw {G:List qg}{k:Lit}{v:Value}(h:mapD G k=some v):∃e∈G,k= .int .i64 e.id/\v=e.val:=by
 unfold mapD at h;cases D:pR k with
 |none=>rw[D] at h;cases h
 |some E=>
  rw[D,bW] at h;cases y:G.find? λe=>decide (e.id=E) with
  |none=>rw[y] at h;cases h
  |some e=>
   rw[y] at h;refine⟨e,cL y,?_,(Option.some.inj h).symm⟩;have H:e.id=E:=by simpa using eN y
   rw[H];exact kN D
theorem Pv {G:List qg}{e:qg}(h:e∈G):(mapD G (.int .i64 e.id)).isSome=true:=by
 rw[tD];cases D:G.find? λy=>decide (y.id=e.id) with
 |none=>exact absurd (List.find?_eq_none.1 D e h) Js
 |some y=>rfl
def tG (rows:List Row)(d:Int):List Row:=rows.filter λy=>decide (y.T / 100=d)
structure pI (G:List qg) (rows:List Row):Prop where
 each:∀e∈G,e.xs=tG rows e.id/\e.xs≠[]
 all:∀r∈rows,∃e∈G,e.id=r.T / 100
theorem pI.nil:pI [] []:=⟨Js,Js⟩
theorem GD {rows:List Row}{y:Int}(h:∀r∈rows,r.T / 100≠y):tG rows y=[]:=by
 unfold tG;rw[List.filter_eq_nil_iff];intro r D;simpa using h r D
theorem xZ (rows:List Row)(r:Row)(D:Int):tG (rows ++ [r]) D=tG rows D ++ if r.T / 100=D then[r] else[]:=by
 unfold tG;rw[dV,ei,List.filter_nil];by_cases y:r.T / 100=D
 ·rw[if_pos (by simpa using y),if_pos y]
 rw[if_neg (by simpa using y),if_neg y]
theorem pI.old {G:List qg}{rows:List Row}(h:pI G rows)(i:Int):lJ G i=tG rows i:=by
 unfold lJ;cases D:G.find? λy=>decide (y.id=i) with
 |none=>
  refine(GD λM K y=>?_).symm;obtain⟨E,H,J⟩:=h.all M K;have:=List.find?_eq_none.1 D E H;simp at this;exact this (J.trans y)
 |some y=>
  have H:=cL D;have E:y.id=i:=by simpa using eN D
  have:=(h.each y H).1;rw[E] at this;exact this
theorem pI.put {G:List qg}{rows:List Row}(h:pI G rows)(r:Row)(g c:Nat):pI (GF G (r.T / 100) g c r) (rows ++ [r]):=by
 refine⟨λy D=>?_,λK E=>?_⟩
 ·rcases List.mem_cons.1 D with rfl|D
  ·refine⟨?_,Js⟩;show lJ G (r.T / 100) ++ [_]=tG _ (r.T / 100);rw[xZ,if_pos rfl,h.old]
  obtain⟨J,M⟩:=List.mem_filter.1 D;have H:y.id≠r.T / 100:=by simpa using M
  rw[xZ,if_neg (fV H),cV];exact h.each y J
 rcases List.mem_append.1 E with E|E
 ·obtain⟨y,D,J⟩:=h.all K E;by_cases H:y.id=r.T / 100
  ·exact⟨_,az ..,by rw[<-J,H]⟩
  exact⟨y,aC _ (List.mem_filter.2 ⟨D,by simpa using H⟩),J⟩
 obtain rfl:K=r:=by simpa using E
 exact⟨_,az ..,rfl⟩
theorem OE:Tryz.zeroCells59.extract 1 513=Array.replicate 512 (.string ⟨#[]⟩):=Jk
theorem zN:515<=Tryz.zeroCells59.size:=of_decide_eq_true Jk
theorem Le:Tryz.zeroCells59[514]?=some (.bool false):=Jk
theorem OD (i:Nat)(hi:i<512):Tryz.zeroCells59[1+i]?=some (.string ⟨#[]⟩):=by
 have y:=congrArg (λD:Array Value=>D[i]?) OE;simp only[Array.getElem?_extract,Array.getElem?_replicate] at y;rw[if_pos hi] at y;rw[<-y,if_pos (Jw zN)]
theorem Dv (S:Nat)(w:JW)(h1:8<=S)(h2:S<=512):JC 7 #[Ji S] w λe w'=>∃y,e= .returned (Jv y)/\iJ (λk=>w.heap.size<=k/\k<w.heap.size+2) y S w'/\Jz w w'/\w'.heap.size=w.heap.size+2:=by
 have J:=@run_makeMap prog;have M:min (S:Int) 512=S:=Jo;have O:max (8:Int) (S:Int)=S:=Jo;go_enter Tryz.func7,Tryz.ntmps7;go_wp2_with fail;go_ret;have D:=heap_alloc_new (w.alloc (.map #[] 0)) (.cells ((Tryz.zeroCells59.setIfInBounds 0 (Ji S)).setIfInBounds 513 (.map (some w.heap.size))) 59);rw[aI] at D;have K:=zN;refine⟨_,rfl,⟨_,w.heap.size,D,?_,λH E=>?_,?_,?_,⟨Jo,Jo⟩,⟨Jo,Jo⟩,(MapAt.made w).below (Below.one _ _)⟩,(Below.one _ _).alloc Js _,Js⟩
 ·rw[eC Jo,Array.getElem?_setIfInBounds_self_of_lt Jo]
 ·rw[eC Jo,eC Jo];exact OD H E
 ·rw[Array.getElem?_setIfInBounds_self_of_lt (by simp only[Array.size_setIfInBounds];omega)]
 rw[eC Jo,eC Jo];exact Le
theorem wc {m:Nat}(h:m<100000):lC (cE m):=by
 refine⟨λD y=>?_,by simp[cE],Jw ((Ln (m:=m) Jo).2)⟩;unfold cE at y;rcases List.mem_cons.1 y with rfl|y
 ·unfold TV;decide
 have:=xu m D (by simpa using y);unfold TV;omega
theorem BN (m:Nat){c:UInt8}{l:JU}(h:(102:UInt8)≠c):cE m≠c :: l:=λy=>h (List.cons.inj y).1
theorem ni (m:Nat):cE m≠eM:=BN m Jd
theorem OL (m:Nat):cE m≠nS:=BN m Jd
theorem qD (m:Nat):cE m≠cM:=BN m Jd
theorem lO (fs:JU->Option JU)(n:JU)(nf:Nat):cntF fs n nf<=nf+1:=by unfold cntF;split<;>omega
theorem IU (fs:JU->Option JU)(n:JU)(nf:Nat):sA fs n nf<=nf:=by unfold sA;split<;>omega
theorem jT (fs:JU->Option JU)(n t:JU):eX fs n t n=some t:=if_pos rfl
theorem fN (fs:JU->Option JU){n m:JU}(t:JU)(h:m≠n):eX fs n t m=fs m:=if_neg h
theorem Lc (fs:JU->Option JU)(n:JU):oe fs n n=none:=if_pos rfl
theorem oZ (fs:JU->Option JU){n m:JU}(h:m≠n):oe fs n m=fs m:=if_neg h
theorem vr (s:eP)(E:Int):cF (rowsOf s) E=if s.ID=E then s.L else[]:=by
 obtain⟨H,M⟩:=s;unfold cF rowsOf;by_cases y:H=E
 ·rw[if_pos y,List.filter_eq_self.2 λJ D=>by
   obtain⟨K,-,rfl⟩:=List.mem_map.1 D;simpa using y,ig]
  exact List.map_id _
 rw[if_neg y,List.filter_eq_nil_iff.2 λJ D=>by
  obtain⟨K,-,rfl⟩:=List.mem_map.1 D;simpa using y]
 rfl
theorem EN (a b:List Row)(y:Int):cF (a ++ b) y=cF a y ++ cF b y:=by unfold cF;rw[dV,cH]
theorem tV {m:Nat}:∀{l:List eP},Up kI l->(∀s∈l,s.L.length<=m)->∀y,(cF (l.flatMap rowsOf) y).length<=m
 |[],_,_,y=>by simp[cF]
 |s :: l,J,H,y=>by
  obtain⟨M,O⟩:=List.pairwise_cons.1 J;rw[aE,EN,vr];by_cases E:s.ID=y
  ·rw[if_pos E];have K:cF (l.flatMap rowsOf) y=[]:=by
    unfold cF;rw[List.filter_eq_nil_iff.2 λQ D=>?_]
    ·rfl
    obtain⟨U,T,D⟩:=List.mem_flatMap.1 D;obtain⟨V,-,rfl⟩:=List.mem_map.1 D;have Q:=M U T;simp only[kI,kl] at Q;simp only[decide_eq_true_eq];omega
   rw[K,cV];exact H s (az ..)
  rw[if_neg E,bi];exact tV O (λs D=>H s (aC _ D)) y
theorem lR:jn []:=⟨cj,Js,by simp[cF],λy H D=>by
 cases y with
 |nil=>simp
 |cons i y=>
  obtain⟨J,E,-⟩:=D i (az ..);cases E⟩
section
variable {N k c:Nat} {ts:List Int} {x:iU}
theorem Held.good (h:Held N ts):jn (df N ts):=⟨(tR h.up).once,h.UV,λy=>Jw (h.each y),h.ids⟩
theorem OP {r:Row}(hr:r∈(full N ts).flatMap rowsOf):∃t∈ts,∃k,k<N/\r=⟨t,k,mC t k⟩:=by
 obtain⟨J,D,hr⟩:=List.mem_flatMap.1 hr;obtain⟨k,y,rfl⟩:=lZ D;obtain⟨K,H,rfl⟩:=List.mem_map.1 hr;obtain⟨t,E,rfl⟩:=nE H;exact⟨t,E,k,y,rfl⟩
theorem JD {r:Row}(hr:r∈(full N ts).flatMap rowsOf):r∈df N ts:=by
 obtain⟨E,D,k,y,rfl⟩:=OP hr;exact List.mem_flatMap.2 ⟨E,D,List.mem_map.2 ⟨k,List.mem_range.2 y,rfl⟩⟩
theorem Held.Lv (h:Held N ts):jn ((full N ts).flatMap rowsOf):=
 ⟨AC (jq h.up),λD y=>h.UV D (JD y),λQ=>Jw (tV (jq (N:=N) h.up).up h.short Q),λE J M=>h.ids E J λO K=>by
  obtain⟨D,y,H⟩:=M O K;exact⟨D,JD y,H⟩⟩
structure Reads (N:Nat) (ts:List Int) (c:Nat) (x:iU) (l1:List eP):Prop where
 parts:vW x N ts
 cnt:pH c [] x.cnt
 head:Fw x
 put:jV [] (li N ts x.man.Parts) l1/\(∀s∈l1,s.L.length<=1000)/\l1.length<=1000/\jV l1 (x.head.flatMap rowsOf) (full N ts)
 VK:jn (li N ts x.man.Parts)
 VL:jn (x.head.flatMap rowsOf)
 n:x.N<=4
theorem Held.JF (h:Held N ts):(full N ts).length<=4/\∀s∈full N ts,s.L.length<=12/\∀y∈s.L,0<=y.T/\y.T<4000:=
 ⟨h.few,λs D=>⟨h.short s D,λy H=>by
  obtain⟨k,-,rfl⟩:=lZ D;obtain⟨J,E,rfl⟩:=nE H;have:=h.pos J E;simp only;omega⟩⟩
theorem Ge:∀s∈full N ts,∀y∈s.L,y.T∈ts:=λs D y H=>by
 obtain⟨k,-,rfl⟩:=lZ D;obtain⟨J,E,rfl⟩:=nE H;exact E
theorem Parts.Xl (h:Parts N ts k c x)(D:Held N ts):vW x N ts:=by
 refine⟨D,λ_=>h.n,λy E=>?_,ap h.len D.len,?_⟩
 ·obtain⟨V,W,M,O⟩:=h.part E;obtain⟨Q,J,T⟩:=(h.days.mem y.Day).1 (List.mem_map.2 ⟨y,E,rfl⟩);have U:=D.pos Q J;have H:=h.file y E;refine⟨⟨y.Day.toNat,Jo,Jo⟩,M,O,H,?_⟩;have:=h.K.name y.File (by rw[H];rfl);omega
 have:=h.days.up;unfold pM at this;rw[cS] at this;exact cQ (λ{y E} H=>Jo) this
theorem Parts.reads (h:Parts N ts k c x)(y:Held N ts):Reads N ts c x (full N ts):=by
 have D:li N ts x.man.Parts=df N ts:=h.rows y.up;refine⟨h.Xl y,λM=>?_,?_,?_,by rw[D];exact y.good,by rw[h.head];exact lR,by rw[h.n];exact y.n4⟩
 ·obtain⟨E,H,J,K⟩:=h.cnt M;exact⟨E,J,λ_=>⟨H,K⟩,Jo,Jo⟩
 ·refine⟨by rw[h.head];exact jP.nil,by rw[h.head];simp,by rw[h.head];simp⟩
 rw[D,h.head];refine⟨wt y.up,λH E=>Jw (y.short H E),Jw y.few,yj (jq y.up)⟩
theorem fQ.reads (h:fQ N ts x)(y:Held N ts):Reads N ts 0 x []:=by
 have D:x.man.Parts=[]:=by rw[h.man];rfl
 refine⟨⟨y,λH=>absurd D H,by rw[D];simp,by rw[D];simp,by rw[D];exact cj⟩,λE=>?_,?_,?_,by rw[D];exact lR,by rw[h.head];exact y.Lv,?_⟩
 ·rw[h.cnt E];simp
 ·refine⟨by rw[h.head];exact jq y.up,λJ E=>?_,by rw[h.head];exact y.few⟩;rw[h.head] at E;obtain⟨k,J,rfl⟩:=lZ E;have K:ts≠[]:=λH=>by rw[H] at E;simp[full] at E
  have H:=y.JF.2 _ E;refine⟨⟨k,rfl,by rw[h.n,if_neg K];exact J⟩,H.1,H.2⟩
 ·rw[D,h.head];refine⟨yj jP.nil,Js,Js,Qk (jq y.up)⟩
 rw[h.n];split
 ·omega
 exact y.n4
theorem fQ.Ka (h:fQ N ts x){m:Nat}{cnt:Int->Int × Int}(y:m<=x.m+x.man.Parts.length)(hc:pH 0 x.man.Parts cnt):fQ N ts {x with m:=m,cnt:=cnt}:=by
 have J:x.man.Parts=[]:=by rw[h.man];rfl
 rw[J] at y hc;refine⟨h.n,h.man,h.head,by have:=h.m;simp only[aX] at y;show m=0;omega,λH=>?_,h.work,h.fs,h.D,h.len,h.nf⟩;obtain⟨K,M,E,-,-⟩:=hc H;obtain⟨H,O⟩:=E Js;exact Prod.ext (by simp only;omega) (by simp only;omega)
theorem mF.Ka (h:mF N ts k c x)(J:Held N ts){m:Nat}{cnt:Int->Int × Int}(T:m<=x.m+x.man.Parts.length)(hc:pH c x.man.Parts cnt):mF N ts k (c+1) {x with m:=m,cnt:=cnt}:=
 {n:=h.n,head:=h.head,ok:=h.ok,past:=h.past,next:=h.next,days:=h.days,file:=h.file,D:=h.D,U:=h.U,K:=h.K,nf:=h.nf,on:=h.on,work:=h.work
  m:=by have:=h.m;have:=h.len;have:=J.len;show m<=_;omega
  cnt:=λH=>by
   obtain⟨y,E,M,O,Q⟩:=hc H;exact⟨y,by simp only at*;omega,E,by simp only at*;omega⟩}
theorem Parts.calm (h:Parts N ts k c x)(D:Held N ts)(hc:c<=8):Calm x:=by
 refine⟨by have:=h.len;have:=D.len;omega,λH E=>?_,λy=>?_⟩
 ·obtain⟨H,J,K,-⟩:=h.part E;exact⟨H,J,K⟩
 obtain⟨E,H,J,K⟩:=h.cnt y;omega
theorem fQ.calm (h:fQ N ts x):Calm x:=by
 have y:x.man.Parts=[]:=by rw[h.man];rfl
 refine⟨by rw[y];simp,by rw[y];simp,λD=>by rw[h.cnt D];simp⟩
structure CJ (fs0:JU->Option JU) (N:Nat) (ts D:List Int) (i:Nat) (fs:JU->Option JU):Prop where
 new:∀j(h:j<D.length),j<i->fs (cE j)=some (oo N (fa ts D[j]))
 old:∀n,(∀j:Nat,j<i->n≠cE j)->fs n=fs0 n
theorem CJ.zero (y:JU->Option JU)(N:Nat)(H D:List Int):CJ y N H D 0 y:=⟨λJ _ E=>absurd E Jo,λK _=>rfl⟩
theorem CJ.next {H fs:JU->Option JU}{y:List Int}{i:Nat}(h:CJ H N ts y i fs)(hi:i<y.length):CJ H N ts y (i+1) (eX fs (cE i) (oo N (fa ts y[i]))):=by
 refine⟨λD J E=>?_,λO K=>?_⟩
 ·by_cases E:D=i
  ·subst E;exact jT _ _ _
  rw[fN _ _ λM=>E (uu M)];exact h.new D J Jo
 rw[fN _ _ (K i Jo)];exact h.old O λD J=>K D Jo
def zX (N:Nat)(y:List Int)(fs:JU->Option JU):JU->Option JU:=oe (eX (eX fs eM (iG (eJ y))) nS (uint N ++ oh N)) cM
def Sq (N:Nat)(y:List Int)(fs:JU->Option JU)(nf:Nat):Nat:=sA (eX (eX fs eM (iG (eJ y))) nS (uint N ++ oh N)) cM (cntF (eX fs eM (iG (eJ y))) nS (cntF fs eM nf))
theorem FV (H:Held N ts){y:List Int}(D:qc ts y):∀d∈y,lW d:=λd E=>by
 obtain⟨K,J,M⟩:=(D.mem d).1 E;have:=H.pos K J;unfold lW;omega
theorem fQ.flushed (h:fQ N ts x)(J:Held N ts)(V:ts≠[]){y:List Int}(H:qc ts y){fs:JU->Option JU}(Q:CJ x.fs N ts y y.length fs)(X:jA fs){nf:Nat}(ag:nf<=x.nf+y.length):
 mF N ts 12 0 {x with fs:=zX N y fs,nf:=Sq N y fs nf,man:=eJ y,head:=[],work:=none}:=by
 have ae:=qp H;have af:=J.len;have O:eV (eJ y):=by
  have:=tm H.up (FV J H) Jo y.length (ac _)
  rwa [fq] at this
 have Z:(eJ y).Parts.length<=20:=by rw[lY];omega
 refine{n:=?_,head:=rfl,ok:=O,past:=rfl,next:=?_,days:=?_,file:=λah Y=>?_,D:=?_,U:=?_,K:=?_,nf:=?_,m:=?_,cnt:=λM=>?_,on:=rfl,work:=rfl}
 ·show x.N=N;rw[h.n,if_neg V]
 ·show((y.length:Nat):Int)<=_;omega
 ·show qc ts ((eJ y).Parts.map _);rw[zY];exact H
 ·obtain⟨E,T,rfl⟩:=ti Y;show zX N y fs (cE E)=some (KX 0 N (fa ts y[E]));unfold zX;rw[oZ _ (qD E),fN _ _ (OL E),fN _ _ (ni E),Q.new E T T];rfl
 ·exact Lc (eX (eX fs eM (iG (eJ y))) nS (uint N ++ oh N)) cM
 ·show(zX N y fs eM).isSome=true;unfold zX;rw[oZ _ Jd,fN _ _ Jd,jT];rfl
 ·refine jA.del (jA.set (jA.set X Jd ?_) Jd ?_) _
  ·have:=oz O Z;omega
  have:=xQ N;have W:=J.n4;have E:=bA (n:=N) Jo;rw[ab];omega
 ·show Sq N y fs nf<=15;have aa:=h.nf;have E:fs cM=x.fs cM:=Q.old _ λT _=>(qD T).symm;have T:(eX (eX fs eM (iG (eJ y))) nS (uint N ++ oh N)) cM=x.fs cM:=by rw[fN _ _ Jd,fN _ _ Jd,E]
  have W:=lO fs eM nf;have ad:=lO (eX fs eM (iG (eJ y))) nS (cntF fs eM nf);unfold Sq;unfold sA;rw[T,h.D,if_pos (by cases ts with|nil=>exact absurd rfl V|cons _ _=>rfl)];omega
 ·have:=h.m;show x.m<=_;omega
 show 0<=(x.cnt M).1/\_;rw[h.cnt M];simp
theorem jg {l:List bL}{d:Int}{p:bL}(h:eh l d=some p):p∈l/\p.Day=d:=by
 unfold eh at h;exact⟨cL h,by simpa using eN h⟩
theorem mS (h:eV x.man)(H:x.man.Next<=k){p:bL}(E:p∈x.man.Parts):∃m:Nat,m<k/\p.File=cE m/\(m:Int)<x.man.Next:=by
 obtain⟨-,-,m,y,D⟩:=h.part p E;exact⟨m,Jo,D,y⟩
def lE (s:St)(d:Int):St:={s with On:=true,Day:=d,To:=1}
theorem zE {s:St}{d:Int}{p:bL}(y:eh s.Parts d=some p)(D:p.Layout=0)(ho:s.On=false):ep s ⟨3,d,1,0⟩=some (lE s d):=by
 unfold ep;simp only;rw[if_neg Jd,if_neg Jd,if_neg Jd,if_pos trivial,y];simp only;rw[if_pos ⟨ho,.inr rfl,Jo⟩];rfl
def mE (N:Nat)(y:List Int)(j:Nat):Rz:=⟨0,((aL N).drop j).map λD=>rowsOf (fo y D),full j y⟩
theorem mF.begun (h:mF N ts k c x)(Q:Held N ts){d:Int}{p:bL}(H:eh x.man.Parts d=some p)(E:p.Layout=0):
 eV (lE x.man d)/\lo N ts k c d 0 {x with man:=lE x.man d,fs:=eX x.fs eM (iG (lE x.man d)),nf:=cntF x.fs eM x.nf,work:=some (mE N (fa ts d) 0)}:=by
 have y:eV (lE x.man d):=h.ok.app (zE H E h.on);refine⟨y,{n:=h.n,head:=h.head,ok:=y,past:=h.past,next:=h.next,days:=h.days,file:=λM J=>?_,D:=?_,U:=?_,K:=?_,nf:=?_,m:=h.m,cnt:=h.cnt,on:=rfl,day:=rfl,to:=rfl,done:=?_,was:=⟨p,H,E⟩,le:=bj _,work:=rfl}⟩
 ·obtain⟨T,-,O,-⟩:=mS h.ok h.next J;show eX x.fs eM (iG (lE x.man d)) M.File=_;rw[fN _ _ (by rw[O];exact ni T)];exact h.file M J
 ·show eX x.fs eM (iG (lE x.man d)) cM=_;rw[fN _ _ Jd];exact h.D
 ·show(eX x.fs eM (iG (lE x.man d)) eM).isSome=true;rw[jT];rfl
 ·refine jA.set h.K Jd ?_;have:=oz y (by have:=h.len;have:=Q.len;show x.man.Parts.length<=20;omega);omega
 ·show cntF x.fs eM x.nf<=15;unfold cntF;rw[if_pos h.U];exact h.nf
 have:=(h.ok.vL h.on).2.2;show x.man.Done=_;omega
def vS (s:St):St:={s with Done:=s.Done+1}
theorem lo.CR {d:Int}{j:Nat}(h:lo N ts k c d j x)(D:j<N)(y:N<=4):ep x.man ⟨4,0,0,0⟩=some (vS x.man):=by
 unfold ep;simp only;rw[if_neg Jd,if_neg Jd,if_neg Jd,if_neg Jd,if_pos trivial,if_pos ⟨h.on,Jw h.done⟩];rfl
theorem lo.unit {d:Int}{j:Nat}(h:lo N ts k c d j x)(y:j<N)(E:N<=4):lo N ts k c d (j+1) {x with man:=vS x.man,work:=some (mE N (fa ts d) (j+1))}:=
 {n:=h.n,head:=h.head,ok:=h.ok.app (h.CR y E),past:=h.past,next:=h.next,days:=h.days,file:=h.file,D:=h.D,U:=h.U,K:=h.K,nf:=h.nf,m:=h.m,cnt:=h.cnt,on:=h.on,day:=h.day,to:=h.to
  done:=by have:=h.done;show x.man.Done+1=_;omega
  was:=h.was,le:=y,work:=rfl}
def jK (s:St):St:={s with Parts:=jC ⟨s.Day,1,cE s.Next⟩ (s.Parts.filter (kp s.Day)),Next:=s.Next+1,On:=false,Day:=0,To:=0,Done:=0}
theorem lo.IF {d:Int}{j:Nat}(h:lo N ts k c d j x)(M:k<=1000):ep x.man ⟨5,0,0,0⟩=some (jK x.man):=by
 obtain⟨K,E,-⟩:=h.was;obtain⟨J,H⟩:=jg E;have y:=(h.ok.part K J).1;rw[H] at y;have O:=h.next;unfold ep;simp only;rw[if_neg Jd,if_neg Jd,if_neg Jd,if_neg Jd,if_neg Jd,if_pos trivial,if_pos h.on];unfold rS;rw[h.to,if_pos ⟨by rw[h.day];exact y,.inr rfl,Jo⟩];have D:kh x.man x.man.Day=Eu {x.man with Parts:=x.man.Parts.filter (kp x.man.Day)}:=by
  unfold kh;rw[if_pos ⟨h.on,rfl⟩];rfl
 rw[D];rfl
def Dq (N:Nat)(y:List Int)(x:iU)(p:bL):JU->Option JU:=eX (oe (eX x.fs (cE x.man.Next) (mB N y)) p.File) eM (iG (jK x.man))
def Sb (N:Nat)(y:List Int)(x:iU)(p:bL):Nat:=cntF (oe (eX x.fs (cE x.man.Next) (mB N y)) p.File) eM (sA (eX x.fs (cE x.man.Next) (mB N y)) p.File (cntF x.fs (cE x.man.Next) x.nf))
theorem lo.ON {d:Int}{j:Nat}(h:lo N ts k c d j x):eh (jK x.man).Parts d=some ⟨d,1,cE x.man.Next⟩:=by
 have E:∀D∈x.man.Parts.filter (kp x.man.Day),D.Day≠d:=λD H=>by
  have:=(List.mem_filter.1 H).2;rw[h.day] at this;simpa [kp] using this
 show eh (jC ⟨x.man.Day,1,cE x.man.Next⟩ (x.man.Parts.filter (kp x.man.Day))) d=_;rw[h.day];rw[h.day] at E;generalize x.man.Parts.filter (kp d)=J at*;induction J with
 |nil=>simp[jC,eh]
 |cons y J K=>
  unfold jC;split
  ·simp[eh]
  unfold eh;rw[dW (by simpa using E y (az ..))];exact K λD H=>E D (aC _ H)
theorem lo.ended {d:Int}(h:lo N ts k c d N x)(ag:Held N ts)(al:k<=1000){p:bL}(am:eh x.man.Parts d=some p):
 eV (jK x.man)/\p.File≠cE x.man.Next/\mF N ts (k+1) c {x with man:=jK x.man,fs:=Dq N (fa ts d) x p,nf:=Sb N (fa ts d) x p,work:=none,cnt:=sO x.cnt d (0,0)}:=by
 have W:eV (jK x.man):=h.ok.app (h.IF al);obtain⟨M,aa⟩:=jg am;obtain⟨ad,X⟩:=dA h.ok.n0;have Y:∀E∈x.man.Parts,E.File≠cE x.man.Next:=λE H O=>by
  obtain⟨V,-,J,ae⟩:=mS h.ok h.next H;rw[J,X] at O;have:=uu O;omega
 have an:=h.file p M;have au:fa ts d≠[]:=by rw[<-aa];exact wI h.days (List.mem_map.2 ⟨p,M,rfl⟩)
 have ar:=h.next;have aj:cE x.man.Next≠eM:=by rw[X];exact ni ad
 have ao:p.File≠eM:=by
  obtain⟨V,-,J,-⟩:=mS h.ok h.next M;rw[J];exact ni V
 refine⟨W,Y p M,{n:=h.n,head:=h.head,ok:=W,past:=h.past,next:=?_,days:=?_,file:=λE H=>?_,D:=?_,U:=?_,K:=?_,nf:=?_,m:=h.m,cnt:=λO=>?_,on:=rfl,work:=rfl}⟩
 ·show x.man.Next+1<=_;omega
 ·have ac:pM ((jK x.man).Parts.map (·.Day)):=by
   have Q:=W.oU;generalize (jK x.man).Parts=T at Q;induction T with
   |nil=>exact cj
   |cons y T ah=>
    obtain⟨Z,ab⟩:=jH.1 Q;refine List.pairwise_cons.2 ⟨λai af=>?_,ah ab⟩;obtain⟨E,H,rfl⟩:=List.mem_map.1 af;exact Z E H
  refine⟨ac,λO=>?_⟩;rw[<-h.days.mem O];constructor
  ·intro T;obtain⟨E,H,rfl⟩:=List.mem_map.1 T;rcases nk.1 H with rfl|H
   ·exact List.mem_map.2 ⟨p,M,by rw[aa];exact h.day.symm⟩
   exact List.mem_map.2 ⟨E,(List.mem_filter.1 H).1,rfl⟩
  intro T;obtain⟨E,H,rfl⟩:=List.mem_map.1 T;by_cases J:E.Day=x.man.Day
  ·exact List.mem_map.2 ⟨⟨x.man.Day,1,cE x.man.Next⟩,nk.2 (.inl rfl),J.symm⟩
  exact List.mem_map.2 ⟨E,nk.2 (.inr (List.mem_filter.2 ⟨H,by simpa [kp] using J⟩)),rfl⟩
 ·show Dq N (fa ts d) x p E.File=some (KX E.Layout N (fa ts E.Day));unfold Dq;rcases nk.1 H with rfl|H
  ·simp only;rw[fN _ _ aj,oZ _ (Y p M).symm,jT,h.day];rfl
  obtain⟨Z,ak⟩:=List.mem_filter.1 H;have ap:E.Day≠d:=by rw[h.day] at ak;simpa [kp] using ak
  have aq:E.File≠p.File:=by
   obtain⟨ab,ah,rfl⟩:=bz Z;obtain⟨ac,ai,rfl⟩:=bz M;have af:=List.pairwise_iff_getElem.1 h.ok.files;rcases Nat.lt_trichotomy ab ac with Q|Q|Q
   ·exact af ab ac ah ai Q
   ·exact absurd (by subst Q;exact aa) ap
   exact(af ac ab ai ah Q).symm
  have ab:E.File≠eM:=by
   obtain⟨V,-,J,-⟩:=mS h.ok h.next Z;rw[J];exact ni V
  rw[fN _ _ ab,oZ _ aq,fN _ _ (Y E Z)];exact h.file E Z
 ·show Dq N (fa ts d) x p cM=none;unfold Dq;have Z:cM≠cE x.man.Next:=by rw[X];exact(qD ad).symm
  have ab:cM≠p.File:=by
   obtain⟨V,-,J,-⟩:=mS h.ok h.next M;rw[J];exact(qD V).symm
  rw[fN _ _ Jd,oZ _ ab,fN _ _ Z];exact h.D
 ·show(Dq N (fa ts d) x p eM).isSome=true;unfold Dq;rw[jT];rfl
 ·refine jA.set (jA.del (jA.set h.K ?_ ?_) _) Jd ?_
  ·rw[X];exact(wc (m:=ad) Jo).short
  ·have:=(ag.day d).Cp;omega
  have:=oz W (by
   have Q:=h.len;have J:=ag.len;show(jC _ _).length<=20;rw[qJ];have:=fb (kp x.man.Day) x.man.Parts;omega)
  omega
 ·show Sb N (fa ts d) x p<=15;have Z:=h.nf;have Q:=lO x.fs (cE x.man.Next) x.nf;have J:(eX x.fs (cE x.man.Next) (mB N (fa ts d))) p.File=x.fs p.File:=fN _ _ (Y p M);have ae:(oe (eX x.fs (cE x.man.Next) (mB N (fa ts d))) p.File) eM=x.fs eM:=by rw[oZ _ ao.symm,fN _ _ aj.symm]
  unfold Sb;generalize cntF x.fs (cE x.man.Next) x.nf=V at*;unfold cntF sA;rw[ae,J,if_pos h.U,if_pos (by rw[an];rfl)];omega
 show 0<=(sO x.cnt d (0,0) O).1/\_;unfold sO;by_cases T:O=d
 ·simp only[if_pos T];omega
 simp only[if_neg T];exact h.cnt O
end
section
open Go Go.RowKit Go.Deep Go.ChangeShapes Go.WideShapes
section
variable {H:Type} {enc:TypeId × Value->H} {P:Program} {w:JW}
theorem GN {O:Type}{cells:O->List Value}{R:O->Prop}{C:Nat}(U:∀x,(cells x).length=C)(ag:0<C){t e:TypeId}{v:Value}{d:DataW H}{p:List MemPlace}{r:Reach}{ak:Nat}
 (ah:P.underlying t=some (.slice e)) (am:P.cellsOf e=C)
 (al:∀n cs aw,cs.length=C->DataW.trod enc P w 0 (λ_=>true) true n e cs=some aw->∃x,cs=cells x/\R x)
 (ai:Value.okWide P w r ak t v) (h:DataW.Trod enc P w 0 (λ_=>true) true t v d p):
 ∃A c,∃xs:List O,v= .slice A xs.length c/\Rd w C A xs.length (xs.flatMap cells)/\(∀x∈xs,R x)/\xs.length<=c/\c<=maxLen:=by
 obtain⟨az,V,aA,rfl⟩:=okWide_slice ah ai;obtain⟨aC,ab⟩:=h;rcases open_slice ah ab with⟨T,_⟩|⟨Q,aD,aB,M,n,ax,ay,T,_,ao,ad,ae,_,aa⟩
 ·simp[Value.cells] at T;obtain⟨rfl,rfl,rfl⟩:=T;exact⟨none,0,[],rfl,Rd.nil _ _ _,Js,Js,Js⟩
 simp[Value.cells] at T;obtain⟨rfl,rfl,rfl⟩:=T;rw[if_pos rfl] at ae;subst ae;have W:∀y,y<V->∃x:O,(∀D E,(cells x)[D]?=some E->w.cell? (Q.add (y*C+D))=some E)/\R x:=by
  intro y J;obtain⟨Y,X,ap⟩:=aa y Jo;rw[am] at X;obtain⟨_,an,af⟩:=World.cells?_some X;obtain⟨x,W,Z⟩:=al n Y _ an ap;refine⟨x,λD E K=>?_,Z⟩;rw[<-W] at K;have aj:D<C:=Jw ((List.getElem?_eq_some_iff.1 K).1);rw[<-Go.Deep.add_add,af D aj,K]
 obtain⟨xs,ar,X⟩:∃xs:List O,xs.length=V/\∀y(J:y<xs.length),(∀D E,(cells xs[y])[D]?=some E->w.cell? (Q.add (y*C+D))=some E)/\R xs[y]:=by
  clear ab aa ai;have ap:∀M,M<=V->∃xs:List O,xs.length=M/\∀y(J:y<xs.length),(∀D E,(cells xs[y])[D]?=some E->w.cell? (Q.add (y*C+D))=some E)/\R xs[y]:=by
   intro M;induction M with
   |zero=>exact λ_=>⟨[],rfl,λy J=>absurd J Js⟩
   |succ M an=>
    intro ad;obtain⟨xs,Y,af⟩:=an Jo;obtain⟨x,aj⟩:=W M Jo;refine⟨xs ++ [x],by simp[Y],λy J=>?_⟩;by_cases Z:y<xs.length
    ·rw[du Z];exact af y Z
    obtain rfl:y=xs.length:=by simp at J;omega
    rw[cK (ac _)];simp only[fG,bf];rw[Y];exact aj
  exact ap V (ac _)
 subst ar;refine⟨some Q,_,xs,rfl,⟨de U xs,λZ=>?_⟩,λx aq=>?_,ao,ad⟩
 ·obtain⟨aj,au,av⟩:=Q;have Y:=(X 0 Z).1 0 ((cells xs[0])[0]'(by rw[U];exact ag)) (aT _);have ap:av=none:=by
   have:=World.cell?_spot Y;simpa [Addr.add] using this
  subst ap;refine⟨aj,au,rfl,?_,λD E K=>?_⟩
  ·have:=bq w _ Y
   rwa [na] at this
  have an:D<xs.length*C:=by have:=(List.getElem?_eq_some_iff.1 K).1;rwa [de U] at this
  have af:D=D / C*C+D % C:=by rw[dj];exact(jm D C).symm
  have Z:D / C<xs.length:=Nat.div_lt_of_lt_mul (by rw[dj];exact an);rw[af,qE U xs _ _ (dX _ ag),aT Z] at K;have:=(X _ Z).1 _ E K
  rwa [<-af,na] at this
 obtain⟨y,J,rfl⟩:=bz aq;exact(X y J).2
end
end
section
open Go Go.RowKit Go.Deep Go.ChangeShapes Go.WideShapes
def byteCells (b:UInt8):List Value:=[.int .u8 (b.toNat:Int)]
theorem byteCells_length (b:UInt8):(byteCells b).length=1:=rfl
section
variable {H:Type} {enc:TypeId × Value->H} {w:JW}
theorem GM {v:Value}{d:DataW H}{p:List MemPlace}{r:Reach}{D:Nat}(M:Value.okWide prog w r D 22 v)(h:DataW.Trod enc prog w 0 (λ_=>true) true 22 v d p):
 ∃A c,∃xs:JU,v= .slice A xs.length c/\Rd w 1 A xs.length (xs.flatMap byteCells)/\(∀x∈xs,True)/\xs.length<=c/\c<=maxLen:=by
 refine GN byteCells_length Jd underlying22 Jk ?_ M h;intro U Q V T h;obtain⟨y,J,_,O⟩:=DataW.trod_int underlying5 h;have K:=bounds_u8 O;refine⟨dw y.toNat,?_,trivial⟩;rw[J];have E:(dw y.toNat).toNat=y.toNat:=by
  rw[eH];omega
 simp only[byteCells,E];rw[el K.1]
end
end
def yE (xs:JU)(i:Nat):Nat:=((xs.take i).map λy=>1+y.toNat).sum
theorem uR {xs:JU}{i:Nat}(h:i<xs.length):yE xs (i+1)=yE xs i+(1+xs[i].toNat):=by
 unfold yE;rw[<-bc h,cH,List.sum_append];simp
theorem Cw (xs:JU):∀i,i<=xs.length->yE xs i<=256*i
 |0,_=>by simp[yE]
 |i+1,y=>by
  have D:=Cw xs i Jo;have E:=UInt8.toNat_lt xs[i];rw[uR Jo];omega
theorem Be {xs:JU}{i:Nat}:∀{j:Nat},i<j->j<=xs.length->yE xs i<yE xs j
 |0,y,_=>absurd y Jo
 |j+1,y,E=>by
  rw[uR Jo];rcases et i j with D|D
  ·have:=Be D (show j<=xs.length by omega);omega
  obtain rfl:i=j:=Jo;omega
def vM (xs:JU)(i:Nat):List Int:=(aL i).map λy=>(yE xs (y+1):Int)
theorem MI (xs:JU):vM xs 0=[]:=rfl
theorem MG (xs:JU)(i:Nat):vM xs (i+1)=vM xs i ++ [(yE xs (i+1):Int)]:=by
 unfold vM;rw[dZ,cH];rfl
theorem EK (xs:JU)(i:Nat):(vM xs i).length=i:=by simp[vM]
theorem Tl {xs:JU}{i:Nat}(h:i<=xs.length):pM (vM xs i):=by
 unfold vM pM;rw[cS,dS];intro y D E H J;simp only[dG] at E H;simp only[gS];have:=Be (xs:=xs) (i:=y+1) (j:=D+1) Jo Jo;omega
theorem MF {N:Nat}(h1:1<=N)(D:N<=4){xs:JU}{i:Nat}(h:i<=xs.length)(hi:i<=12):Held N (vM xs i):=
 ⟨h1,D,Tl h,by rw[EK];exact hi,λJ E=>by
  obtain⟨H,y,rfl⟩:=List.mem_map.1 E;have y:=List.mem_range.1 y;have:=Cw xs (H+1) Jo;omega⟩
section
variable {N:Nat} {ts:List Int}
theorem Held.wins (h:Held N ts)(step:Int):gY (mI step (full N ts))=((N*ts.length:Nat):Int)/\∀w∈mI step (full N ts),0<w.Count:=by
 have y:=qG N ts;have D:N*ts.length<=4*12:=ee h.n4 h.len;have:=Fp step (full N ts) Jo;rw[y] at this;exact this
theorem Held.agg (h:Held N ts){step:Int}{a:List iO}(E:pG (mI step (full N ts)) a):gY a=((N*ts.length:Nat):Int):=by
 obtain⟨y,D⟩:=h.wins step;have H:N*ts.length<=4*12:=ee h.n4 h.len;rw[E.count D Jo,y]
theorem Held.some (h:Held N ts){step:Int}{a:List iO}(H:pG (mI step (full N ts)) a):0<a.length↔0<ts.length:=by
 have E:=h.agg H;constructor
 ·intro D;obtain⟨O,M⟩:=List.exists_mem_of_length_pos D;obtain⟨⟨T,K,-⟩,-⟩:=(H.2 O).1 M;unfold mI at K;obtain⟨Q,J,-⟩:=List.mem_flatMap.1 K;have:ts≠[]:=λy=>by rw[y] at J;simp[full] at J
  exact List.length_pos_iff.2 this
 intro D;refine List.length_pos_iff.2 λy=>?_;rw[y] at E;have y:0<N*ts.length:=Nat.mul_pos h.n1 D;simp only[gY,ii,List.sum_nil] at E;omega
end
theorem Nk {a:List iO}{i:Nat}(h:i<a.length):gY (a.take (i+1))=gY (a.take i)+a[i].Count:=by
 rw[<-bc h,rh];simp[gY]
theorem Km {a:List iO}(h:∀w∈a,0<w.Count)(i:Nat):0<=gY (a.take i)/\gY (a.take i)<=gY a:=by
 have D:gY a=gY (a.take i)+gY (a.drop i):=by rw[<-rh,da]
 have E:=nV (ws:=a.drop i) λw y=>h w (List.mem_of_mem_drop y);have H:=nV (ws:=a.take i) λw y=>h w (eG y);omega
theorem fA (w:JW)(b j:Nat)(u:Value):jl (λk=>k=b) w (w.setCell (Jp b j) u):=⟨rfl,rfl,rfl,by simp[aj],λk _ y=>ae _ _ _ _ y⟩
section
variable {col col':Nat->Nat} {d:Nat} {v:nI} {x:iU} {w w':JW} {P:Nat->Prop}
theorem cI.TZ (h:cI col d v x w)(p:bF P col col' w w')(H:¬P 0)(K:¬P 1)(M:¬P 2)(O:¬P 3)(Q:¬P 4)(T:¬P 5){k:Option Rz}(J:CO col' v.wv k w'):cI col' d v {x with work:=k} w':=by
 have D:=p.at K d h.dl h.cd;have y:=p.part H;exact⟨p.lt h.lt,D.1,D.2.trans h.blk,h.C.move (p.at M),h.u.move (p.at O),h.idx.move (p.at Q) y,h.pol.move (p.at T),h.man.part y,h.hd.part y,h.hcap,h.oE,J,h.E.I p H⟩
theorem cI.VF (h:cI col d v x w):cI (λk=>if col k=7 then 0 else col k) d v x w:=by
 have T:∀k,jB (λk=>if col k=7 then 0 else col k) k->jB col k:=λk D H=>D (by simp only[H];rfl);have K:Part (Off (jB col) w) (Off (jB λk=>if col k=7 then 0 else col k) w):=eW (ac _) (λ_ _ _=>rfl) λk _ D=>T k D;have J:∀{M:Nat},M≠7->∀k,k<w.heap.size->col k=M->(if col k=7 then 0 else col k)=M/\w.heap[k]?=w.heap[k]?:=λy k _ H=>⟨by rw[if_neg Jo];exact H,rfl⟩;refine⟨λk D=>h.lt k (T k D),by rw[if_neg (by rw[h.cd];omega)];exact h.cd,h.blk,h.C.move (J Jo),h.u.move (J Jo),h.idx.move (J Jo) K,h.pol.move (J Jo),h.man.part K,h.hd.part K,h.hcap,h.oE,?_,?_⟩
 ·have D:=h.wk;unfold CO at D ⊢;cases U:x.work with
  |none=>rw[U] at D;exact D
  |some ae=>
   rw[U] at D;simp only at D ⊢;obtain⟨Q,O,V,W,M,X,aa,ab,H,y⟩:=D;exact⟨Q,O,V,W,M,X,aa,ab,H,(J Jo Q (Jl y.blk) y.cw).1,(J Jo O (Jl y.box) y.ca).1,y.ne,y.blk,y.box,y.len,y.cap,y.Og,y.rd.part K,λZ Y=>(y.each Z Y).imp λad H=>⟨H.1,H.2.1,H.2.2.part K⟩,y.done.part K,y.Ou,y.Ds⟩
 obtain⟨W,y,O,Q,U,V⟩:=h.E;exact⟨W,y,O,Q,U,λk D=>by simp only[V k D];rfl⟩
theorem ic.WH (D:∀k,col k≠7){x':iU}{v':nI}(h:cI col' d v' x' w')(p:bF (λc=>c≠0) col col' w w'):ic col d x' w w':=
 ⟨_,v',h.VF,(p.drop 7 D).mono λ_ y=>⟨y.1,y.2⟩⟩
theorem ic.of {x':iU}{v':nI}(h:cI col' d v' x' w')(p:bF PD col col' w w'):ic col d x' w w':=⟨_,v',h,p⟩
theorem bF.VZ (p:bF PD col col' w w')(H:∀k,col k≠7):∀k,col' k≠7:=λk y=>by
 by_cases E:k<w.heap.size
 ·exact H k ((p.old k E).symm.trans y)
 rcases p.new k Jo with D|D
 ·omega
 exact D.1.2 y
theorem ic.yK {x':iU}{w1:JW}(p:bF PD col col' w w1)(h:ic col' d x' w1 w'):ic col d x' w w':=by
 obtain⟨y,H,D,E⟩:=h;exact⟨y,H,D,p.trans E⟩
theorem ic.below {x':iU}{E:JW}(h:ic col d x' w w')(D:Jz w' E):ic col d x' w E:=by
 obtain⟨H,K,y,J⟩:=h;exact⟨H,K,y.below D,J.trans (bF.of y.lt D)⟩
theorem ic.after (E:Lt col w){x':iU}{y:JW}(D:Jz w y)(h:ic col d x' y w'):ic col d x' w w':=ic.yK (bF.of E D) h
theorem ic.same (h:cI col d v x w)(y:Jz w w'):ic col d x w w':=⟨col,v,h.below y,bF.of h.lt y⟩
theorem cI.TT (h:cI col d v x w){ch:Nat}(Q:w.heap.size<=ch)(H:Jz w w')(y:w'.heap[ch]?=some (.cells #[Jv v.bs,Ji 0,Jn] 156 (0,0))):
 ∃E,cI E d v x w'/\mY E ch v.bs v.bd 0 x.nf x.fs w'/\bF (λc=>c=7) col E w w'/\∀k,k≠ch->E k=col k:=by
 have T:ch<w'.heap.size:=(Jl y);refine⟨λk=>if k=ch then 7 else col k,?_⟩;have J:bF (λc=>c=7) col (λk=>if k=ch then 7 else col k) w w':=by
  refine⟨λk y=>if_neg Jo,λk y=>?_,(jl.of H)⟩;by_cases D:k=ch
  ·right;exact⟨if_pos D,Jo⟩
  left;simp only[if_neg D];exact h.lt.zero y
 have D:=h.other J ⟨Jo,Jo,Jo,Jo,Jo,Jo,Jo⟩;have M:=h.C.lt;refine⟨D,⟨D.lt,?_,?_,?_,D.u,⟨none,0,[],y,if_pos rfl,bP.nil _ _ _ _,λO K=>by simp[aG] at K⟩⟩,J,λk y=>if_neg y⟩
 ·obtain⟨O,K,-⟩:=D.C.cells;exact K
 ·have K:(if v.bd=ch then 7 else col v.bd)=2:=D.C.has;show(if v.bd=ch then 7 else col v.bd)≠3/\(if v.bd=ch then 7 else col v.bd)≠7;omega
 exact ai M H.size
def jY (w:JW)(d:Nat)(A:JA)(n c:Nat)(a b:Int)(o:Bool)(e f g:Int):JW:=
 ((((((w.setCell (Jp d 3) (.slice A n c)).setCell (Jp d 4) (Ji a)).setCell (Jp d 5) (Ji b)).setCell (Jp d 6) (.bool o)).setCell (Jp d 7) (Ji e)).setCell (Jp d 8) (Ji f)).setCell (Jp d 9) (Ji g)
theorem IR (w:JW)(d:Nat)(A:JA)(n c:Nat)(a b:Int)(o:Bool)(e f g:Int):jl (λk=>k=d) w (jY w d A n c a b o e f g):=by
 unfold jY;have y:=fA w d 3 (.slice A n c);have D:=y.trans (fA _ d 4 (Ji a)) λ_ _ e=>e;have E:=D.trans (fA _ d 5 (Ji b)) λ_ _ e=>e;have H:=E.trans (fA _ d 6 (.bool o)) λ_ _ e=>e;have J:=H.trans (fA _ d 7 (Ji e)) λ_ _ e=>e;have K:=J.trans (fA _ d 8 (Ji f)) λ_ _ e=>e;exact K.trans (fA _ d 9 (Ji g)) λ_ _ e=>e
theorem RG {w:JW}{d:Nat}{v:nI}{x:iU}(h:w.heap[d]?=some (.cells (tc v x) 88 (0,0)))(A:JA)(c:Nat)(s:St):
 (jY w d A s.Parts.length c s.Next s.Past s.On s.Day s.To s.Done).heap[d]?=some (.cells (tc {v with A:=A,cp:=c} {x with man:=s}) 88 (0,0)):=by
 have y:=am h (i:=3) (.slice A s.Parts.length c);have D:=am y (i:=4) (Ji s.Next);have E:=am D (i:=5) (Ji s.Past);have H:=am E (i:=6) (.bool s.On);have J:=am H (i:=7) (Ji s.Day);have K:=am J (i:=8) (Ji s.To);have M:=am K (i:=9) (Ji s.Done);refine M.trans ?_;simp only[tc,bg,aM,bG]
theorem cI.Ct (h:cI col d v x w){A:JA}{n c:Nat}{s:St}(hr:Rd (Off (jB col) w) 3 A n (s.Parts.flatMap aU))(y:s.Parts.length=n):
 cI col d {v with A:=A,cp:=c} {x with man:=s} (jY w d A n c s.Next s.Past s.On s.Day s.To s.Done)/\bF (λc=>c=1) col col w (jY w d A n c s.Next s.Past s.On s.Day s.To s.Done):=by
 subst y;exact h.self (IR _ _ _ _ _ _ _ _ _ _ _) ⟨rfl,rfl,rfl,rfl⟩ ⟨rfl,rfl,rfl,rfl,rfl⟩ (RG h.blk A c s) hr h.hd h.hcap h.oE h.wk
theorem pw {F:Nat->Prop}{size n:Nat}{A:JA}{xs:List Value}{w:JW}(h:Rd w size A n xs)(hA:∀a,A=some a->¬F a.block):Rd (Off F w) size A n xs:=
 ⟨h.1,λK=>by
  obtain⟨y,Q,D,J,H⟩:=h.2 K;refine⟨y,Q,D,by rw[km];exact J,λO T M=>?_⟩;have E:=H O T M;unfold dL at E ⊢;rw[sK F w y (hA _ D)];exact E⟩
theorem pZ.off {F:Nat->Prop}{y n:Nat}{A:JA}{l:List bL}{w:JW}(h:pZ y A n l w)(H:∀k,F k->k<y):Rd (Off F w) 3 A n (l.flatMap aU):=pw h.rd λD E J=>by
 have K:=h.hi D E;have M:=H _ J;omega
theorem cI.TP (h:cI col d v x w){ch n nf:Nat}{fs:JU->Option JU}(p:bF c37 col col' w w')(s:mY col' ch v.bs v.bd n nf fs w'):cI col' d v {x with fs:=fs,nf:=nf} w':=
 h.store p (by unfold c37;omega) (by unfold c37;omega) (by unfold c37;omega) (by unfold c37;omega) (by unfold c37;omega) (by unfold c37;omega) s.u
end
section
attribute [local go_sem] Oper.semAt_some
abbrev vx (step:Int)(l:List eP):List iO:=mI step l
theorem zC (step:Int){l:List eP}{i:Nat}(h:i<l.length):vx step (l.take (i+1))=vx step (l.take i) ++ gE step l[i].L:=by
 unfold vx mI;rw[<-bc h,ao];simp
theorem CP (step:Int){l:List eP}(y:∀s∈l,s.L.length<=12):∀i,i<=l.length->(vx step (l.take i)).length<=12*i
 |0,_=>by simp[mI]
 |i+1,J=>by
  have D:=CP step y i Jo;have E:=y _ (ah (show i<l.length by omega));have H:=rR step l[i].L;rw[zC step Jo,ab];omega
structure Rj (M:Nat) (w2:JW) (ws:List iO) (wr:JW):Prop where
 map:∃n,n<=ws.length/\MapAt prog 3 wr M n (pS ws)
 sR:Below M w2 wr
 sz:M<wr.heap.size
structure Vg (M br n:Nat) (w2:JW) (ws:List iO) (k co:Nat) (O:JA) (os:List iO) (left:Lit->Bool) (cnt:Nat) (wr:JW):Prop where
 len:os.length=k
 ran:kJ prog 3 wr M br n (pS ws) left cnt
 lie:bP (λj=>j<=M∨j=br) 38 5 (.slice O k co) k (os.flatMap gC) wr
 o:CM ws left os
 sR:Below M w2 wr
 lt:M<wr.heap.size
 iB:M<br
def Ix (col:Nat->Nat)(d:Nat)(v:nI)(x:iU)(w:JW)(c:Nat)(M:List eP)(step:Int)(e:Ending)(w':JW):Prop:=∃(E:JA)(y J:Nat)(D:List iO)(K:Nat)(H:Int->Int × Int),e= .returned (.tuple #[.slice E y J,Ji 0])/\D.length=y/\y<=12/\y<=J/\pG (mI step M) D/\
 Rd (Off (jB col) w') 5 E y (D.flatMap gC)/\cI col d v {x with m:=K,cnt:=H} w'/\jl (λJ=>col J=5) w w'/\K<=x.m+x.man.Parts.length/\pH c x.man.Parts H
theorem NM {step:Int}{l:List eP}{E:List Int}(h:∀s∈l,∀y∈s.L,y.T∈E):∀y∈mI step l,y.From∈E.map λt=>t / step*step:=λy D=>by
 unfold mI at D;obtain⟨s,K,D⟩:=List.mem_flatMap.1 D;obtain⟨H,M,J⟩:=uT step s.L y D;exact List.mem_map.2 ⟨H.T,h s K H M,J.symm⟩
theorem RA (col:Nat->Nat)(d:Nat)(v:nI)(x:iU)(w:JW)(h:cI col d v x w)(N:Nat)(bf:List Int)(c:Nat)(K:vW x N bf)(bM:pH c [] x.cnt)(bN:c<=1000)(ba:x.m<=1000)(bQ:Fw x)
 (aN O:List eP) (aG:jV [] (li N bf x.man.Parts) aN/\(∀s∈aN,s.L.length<=1000)/\aN.length<=1000/\jV aN (x.head.flatMap rowsOf) O) (Q:jn (li N bf x.man.Parts)) (ar:jn (x.head.flatMap rowsOf)) (cr:x.N<=4) (U:O.length<=4/\∀s∈O,s.L.length<=12/\∀y∈s.L,0<=y.T/\y.T<4000)
 (bg:List Int) (W:∀s∈O,∀y∈s.L,y.T∈bg) (V:bg.length<=12) (step:Int) (cS:1<=step) (bw:step<=1000):
 JC 8 #[Jv d,Jn,.agg #[Ji 0,Ji 4000],Ji step] w (Ix col d v x w c O step):=by
 have cv:prog.follows .mixedOrders=true:=Jk;obtain⟨ad,bK⟩:=Je w.heap.size;obtain⟨aH,X,M,cR,H⟩:∃aH,w.alloc (.cells #[Ji 0,Ji 4000] 30)=aH/\Jz w aH/\aH.heap.size=ad+1/\aH.heap[ad]?=some (.cells #[Ji 0,Ji 4000] 30 (0,0)):=
  ⟨_,rfl,Below.one _ _,by simp[bK],by rw[<-bK];exact heap_alloc_new _ _⟩
 have D:=h.below M;have b3:=Jh (Mc (λE=>col E=4) d v.bx x.N 0 4000 aH D.c2 D.dl (λJ ak=>(D.below ak).idx.at) Jo Jo Jo Jo);have bd:=cl H 0 rfl;have bA:=cl H 1 rfl;have bC:=Jh D;have bE:=Jh h.lt;have bi:=Jh X;have bF:=Jh M;have cm:=Jh H;have aI:=Jh (Ja aG.2.2.2.1 U);have aT:=Jh (Ja (NM (step:=step) W) V);have b1:=Jh (λ(J:JW)(ak:cI col d v x J) Y Z ae aa=>Pq col d v x J ak N bf c K bM bN ba bQ aN O aG Q ar Y Z ae aa cr);clear U W V h D K bM bN ba bQ aG Q ar X M H;go_enter Tryz.func8,Tryz.ntmps8;go_wp2_with fail;try simp only[bi.o]
 try go_wp2_with fail
 refine b3.o.mono ?_;rintro aC cz ⟨co,cq,rfl,H,D⟩;have M:=bC.o.below D;have b2:=Jh (b1.o cz M co cq (H.off.part (eW (ac _) (λ_ _ _=>rfl) λE aK af=>bC.o.lt E af)) (pn H));have bd:=al D bd;have bA:=al D bA;have cK:=Jf (step<1);have bk:=Jh D;clear M H D;go_wp2_with fail;refine b2.o.mono ?_;rintro aC X ⟨db,bB,cx,bm,rfl,D,bp,a7,aE,bc,a6⟩;obtain⟨cA,cH,rfl⟩:=D.form;obtain⟨aB,H⟩:=Je bB.length;have M:X.heap[ad]?=some (.cells #[Ji 0,Ji 4000] 30 (0,0)):=(aE.block ad (bq _ _ bd) (λaC=>Jw (Lt.zero (w:=w) (col:=col) bE.o (k:=ad) Jo))).trans ((bk.o.block ad Jo).trans cm.o);have bl:=Jh M;have bI:=Jh D;have bD:=Jh H;have b4:=Jh (Ja bp (Ja a7 (Ja aE (Ja bc a6))));rw[H];have cM:aB<=4:=by have U:=aI.o.2.1;have aj:=D.yy.len;omega
 clear M D bp a7 aE bc a6 H;obtain⟨H,ap⟩:=Je X.heap.size;have D:=@run_makeMap prog;have b6:=Jh (show Rj H X (vx step (O.take 0)) (X.alloc (.map #[] 0)) from
  {map:=⟨0,bj _,by rw[<-ap,show pS (vx step (O.take 0))=λ_=>none from funext λE=>PG E];exact MapAt.made _⟩
   sR:=by rw[<-ap];exact Below.one _ _
   sz:=by simp[ap]})
 go_wp2_with fail;clear D;go_loopw [44] (λQ wr=>∃D:Nat,Q=Ji D/\D<=aB/\Rj H X (vx step (O.take D)) wr) (λQ _=>aB - (intOf Q).toNat)
 case atStart=>exact⟨0,rfl,bj _,b6.o⟩
 obtain⟨D,rfl,ct,aa⟩:=hrel;by_cases bu:D<aB;rotate_left
 ·obtain rfl:D=aB:=Jo;have ae:O.take D=O:=aw (by have U:=bD.o;have aj:=bI.o.yy.len;omega);rw[ae] at aa;obtain⟨Q,ax⟩:=Je (vx step O);rw[ax] at aa;obtain⟨ai,av,W⟩:=aa.map;obtain⟨V,aq⟩:∃M,wr.heap.size=M:=⟨_,rfl⟩;obtain⟨bH,ay,M,az,aK⟩:=W.range (t:=65) lf underlying65;have am:Jz wr bH:=az.below' rfl;rw[aq] at ay M;have Y:H<V:=Jw aa.sz;have bO:=Jh (show Vg H V ai X Q 0 0 none [] (λx=>(pS Q x).isSome) ai bH from
   {len:=rfl,ran:=M,lie:=bP.nil _ _ _ _
    o:=⟨Js,λaD aQ aJ=>(by rw[PF aQ] at aJ;cases aJ),cj⟩
    sR:=aa.sR.trans (am.mono Jo),lt:=Jo,iB:=Y})
  have aA:=Jh ax;have cu:=Jf ((D:Int)<(D:Int));clear aa av W aq M az aK am Y ae ax bu ct;go_wp2_with fail;clear ay;go_loopw [20] (λM wr=>∃(E am:Nat)(ae:JA)(aJ:List iO)(left:Lit->Bool)(bm:Nat),M= .slice ae E am/\Vg H V ai X Q E am ae aJ left bm wr) (λ_ wr=>wr.rangeLeft H V)
  case atStart=>exact⟨0,0,none,[],_,_,rfl,bO.o⟩
  obtain⟨E,am,ae,aJ,left,cb,rfl,K⟩:=hrel;rcases K.ran.next lf 0 with⟨b0,br,ay⟩|⟨ci,cC,kl,Z,be,bo,aR,bt,ay,bv,aL,ar,bw,bn⟩
  ·have a8:E<=12:=by
    have U:=K.o.len (fs:=bg.map λaK=>aK / step*step) (by rw[<-aA.o];exact aT.o.1);have aj:=aT.o.2;rw[K.len,bU] at U;omega
   have M:=Jh K;have aU:=Jh br;clear K br b0;go_wp2_with fail;refine(Nf (λD=>D<=H∨D=V) ae am E aJ wr M.o.lie M.o.len a8).mono ?_;rintro aY aS ⟨rfl,aW,az,aP,Y,aM⟩;have bh:=Jh (show Ix col d v x w c O step (.returned (.tuple #[.slice ae E am,Ji 0])) aS from by
    obtain⟨bp,a7,aE,bc,a6⟩:=b4.o;have aq:Below H X aS:=M.o.sR.trans (aM.below (Jw M.o.lt) λW af=>Jw (M.o.lie.2 W af));rw[<-ap] at aq;refine⟨ae,E,am,aW,cx,bm,rfl,az.length_eq.trans M.o.len,a8,pn Y,?_,?_,a7.below aq,?_,bc,a6⟩
    ·have:=M.o.o.agg aU.o az aP;rw[<-aA.o] at this;exact this
    ·refine Y.off.part (eW (ac _) (λ_ _ _=>rfl) λW _ af=>.inl ?_);have U:=bE.o W af;have aj:=bF.o.size;have aX:=bk.o.size;have bT:=aE.size;omega
    exact(((jl.of (bF.o.then bk.o)).trans aE λ_ _ h=>h).trans (jl.of aq) λ_ _ h=>h))
   clear az aP Y aM;go_wp2_with fail;go_ret2;exact bh.o
  obtain⟨aD,rfl,aQ,rfl⟩:=Mb bt;obtain⟨b9,rfl,bG,-⟩:=Maps.keyOf_int_inv underlying3 bo;obtain rfl:aD=b9:=by simpa using bG
  have Y:=K.o.more aQ aR (left':=λx=>left x && !x.sameKey (.int .i64 aD)) (λ_=>rfl);have a8:E<12:=by
   have U:=Y.len (fs:=bg.map λaK=>aK / step*step) (by rw[<-aA.o];exact aT.o.1);have aj:=aT.o.2;rw[ab,K.len,bU,fc] at U;omega
  have bh:bP (λD=>D<=H∨D=V) 38 5 (.slice ae E am) E (aJ.flatMap gC) Z:=K.lie.later λW af=>ar.block W (K.lie.1.lt W af).2 (by
   have:=K.lie.2 W af;simp only[ne_eq,Option.some.injEq];omega)
  obtain⟨y,ag⟩:=Je (mq Q aD);rw[ag] at Y bn ay;obtain⟨aU,aS,aZ,aY,aW⟩:=y;simp only[mQ] at bn ay;have a1:Below H X Z:=K.sR.trans (ar.uj (Jw K.iB) (Jw K.lt));obtain⟨aM,bY,aP,bz⟩:∃J,Z.alloc (.cells #[Ji aU,Ji aS,Ji aZ,Ji aY,Ji aW] 38)=J/\Jz Z J/\J.heap.size=Z.heap.size+1:=⟨_,rfl,Below.one _ _,Js⟩;have az:aM.heap[Z.heap.size]?=some (.cells #[Ji aU,Ji aS,Ji aZ,Ji aY,Ji aW] 38 (0,0)):=by rw[<-bY];exact heap_alloc_new _ _
  have M:=Jh K;have aq:=Jh (Ja aR (Ja bv (Ja aL (Ja ar bw))));have bJ:=Jh (bh.below aP);have bT:=Jh Y;have aK:=Jh aP;have bV:=Jh bz;have bS:=Jh a1;have b7:gm (λD=>D<=H∨D=V) aM:=λW af=>by
   have U:=K.lt;have aj:=K.ran.lt;omega
  obtain⟨bL,b8⟩:∃bW,Z.heap.size=bW:=⟨_,rfl⟩;rw[b8] at az;have cc:=cl az 0 rfl;have cd:=cl az 1 rfl;have ce:=cl az 2 rfl;have cf:=cl az 3 rfl;have cg:=cl az 4 rfl;clear K aR bv aL ar bw bt bo bG Y bh ag a1 aP bz;go_wp2_with (at_builtin;go_must (refine bb rfl (.tmp 79) (.tmp 81) 31 Jr 38 (.agg #[Ji 0,Ji 0,Ji 0,Ji 0,Ji 0]) 5 40 underlying31 Re rfl Jd (λD=>D<=H∨D=V) E _ _ _ #[Ji aU,Ji aS,Ji aZ,Ji aY,Ji aW] rfl (by intro ck aG;simp at aG;rcases aG with rfl|rfl|rfl|rfl|rfl<;>rfl) bJ.o Jr b7 Jr Jm Jo ?_;intro cn bR aP bz b5 bZ;obtain⟨bW,bX,rfl⟩:=aP.form;have bG:=Jh aP;have Y:=Jh bz;clear b5 bZ aP bz));have bh:kJ prog 3 bR H V ai (pS Q) (λx=>left x && !x.sameKey (.int .i64 aD)) be:=
   aq.o.2.1.kept ((Y.o.block H (.inl (ac _))).trans (aK.o.block H (Jx M.o.lt aq.o.2.2.2.2))) ((Y.o.block V (.inr rfl)).trans (aK.o.block V (Jx M.o.ran.lt aq.o.2.2.2.2)))
  have a1:=Jh bh;clear bh;go_roundw
  case rel=>
   refine⟨E+1,bX,bW,_,_,be,rfl,{len:=by rw[ab,M.o.len];rfl,ran:=a1.o,lie:=?_,o:=bT.o,sR:=?_,lt:=?_,iB:=M.o.iB}⟩
   ·have:=bG.o;simpa [ao,gC] using this
   ·have U:Below H Z aM:=aK.o.mono (Jx M.o.lt aq.o.2.2.2.2);exact(bS.o.trans U).trans ⟨Y.o.os,Y.o.tape,Y.o.output,Y.o.size,λW af=>Y.o.block W (.inl Jo)⟩
   have:=M.o.lt;have:=aq.o.2.2.2.2;have:=bV.o;have:=Y.o.size;omega
  have U:=a1.o.left;have aj:=M.o.ran.left;have aX:=aq.o.2.2.1;omega
 have cu:(D:Int)<aB:=Jo;have br:D<bB.length:=by rw[bD.o];exact bu
 have am:=bI.o.yy;have bt:D<O.length:=by rw[am.len];exact br
 obtain⟨cL,cT,aC,bO,Y,ae⟩:=pE am.rd br;have av:=am.at_ D br;have M:=aI.o.2.2 _ (ah bt);have aq:=(aI.o.1.each _ (ah bt)).1;have ai:=zC step bt;obtain⟨y,ag⟩:=Je (bB[D]);obtain⟨s,aM⟩:=Je (O[D]);rw[ag,aM] at av;rw[aM] at M aq ai;rw[ag] at Y ae;obtain⟨dc,aQ,aS,aR⟩:=y;obtain⟨be,W⟩:=s;simp only at Y ae M aq ai;subst aC;have Y:=gi aa.sR (by rw[<-ap];exact bO) Y;have ae:=gi aa.sR (by rw[<-ap];exact bO) ae;have V:Below X.heap.size X wr:=by rw[ap];exact aa.sR
 obtain⟨bJ,ax,ay⟩:=av.below V;simp only at bJ ax ay;subst bJ;obtain⟨aW,bn⟩:=Je wr.heap.size;obtain⟨J,ak,Z,aL,aA⟩:∃J,wr.alloc (.cells #[Ji be,.slice aQ aS aR] 68)=J/\Below wr.heap.size wr J/\J.heap.size=aW+1/\J.heap[aW]?=some (.cells #[Ji be,.slice aQ aS aR] 68 (0,0)):=⟨_,rfl,Below.one _ _,by simp[bn],by rw[<-bn];exact heap_alloc_new _ _⟩;have az:=(Z.block ad (Jx ((Jl bl.o)) V.size)).trans ((V.block ad (Jl bl.o)).trans bl.o);have aD:=cl az 0 rfl;have aJ:=cl az 1 rfl;have aY:=cl aA 1 rfl;have aP:(wr.alloc (.cells #[Ji be,.slice aQ aS aR] 68)).cell? (Jp ad 0)=some (Ji 0):=by rw[ak];exact aD
 have aX:(wr.alloc (.cells #[Ji be,.slice aQ aS aR] 68)).cell? (Jp ad 1)=some (Ji 4000):=by rw[ak];exact aJ
 have cb:=Jh (CE aQ aR aS W 4000 step J (ay.below Z) ax Jo aq M.2 Jo Jo Jo Jo);have b7:=Jh M.2;have b8:=Jh M.1;have bi:=Jh ak;have bG:=Jh Z;have ci:=Jh aL;have cG:=Jh aA;have aU:=Jh aa;have cg:=Jh ai;have cc:=Jh bn;have cD:=Jh V;clear M aq ai ag aM av ax ay ak Z aL aA az aa V am;go_wp2_with fail;try simp only[bi.o]
 try go_wp2_with fail
 refine cb.o.mono ?_;rintro aC Z ⟨cn,ay,cJ,rfl,am,aq,M⟩;have a8:ay<=12:=by rw[am];have:=rR step W;have:=b8.o;omega
 have bH:=Jh am;have V:H<J.heap.size:=by have:=ci.o;have:=cc.o;have:=aU.o.sz;omega
 have ce:=Jh (show Rd (Off (λE=>E=H) Z) 5 cn ay _ from aq.off.part (eW (ac _) (λ_ _ _=>rfl) λE _ aK=>by subst aK;exact V));have ax:=M.size;have b5:=Jh (show Rj H X (vx step (O.take D) ++ (gE step W).take 0) Z from
  {map:=by
    obtain⟨ai,av,ba⟩:=aU.o.map;exact⟨ai,by simpa using av,by rw[ff,cV];exact(ba.below bG.o).below M⟩
   sR:=aU.o.sR.trans ((bG.o.then M).mono (fl aU.o.sz))
   sz:=by omega})
 have cE:=Jh (Ja V ax);clear am aq M V ax;go_wp2_with fail;clear aD aJ aY aP aX Y ae;go_loopw [58] (λQ wr=>∃M:Nat,Q=Ji M/\M<=ay/\Rj H X (vx step (O.take D) ++ (gE step W).take M) wr/\jl (λE=>E=H) Z wr) (λQ _=>ay - (intOf Q).toNat)
 case atStart=>exact⟨0,rfl,bj _,b5.o,jl.refl _ _⟩
 obtain⟨M,rfl,cO,aD,aY⟩:=hrel;by_cases aL:M<ay;rotate_left
 ·obtain rfl:M=ay:=Jo;rw[aw (l:=gE step W) (by rw[<-bH.o];exact ac _),<-cg.o] at aD;have az:=Jh aD;clear aD;go_wp2_with fail;go_roundw
  case rel=>exact⟨D+1,by go_num,bu,az.o⟩
  simp[intOf];omega
 have cP:(M:Int)<ay:=Jo;have aZ:M<(gE step W).length:=by rw[<-bH.o];exact aL
 have bR:=(ce.o.part (eW aY.size aY.block λ_ _ h=>h)).on;obtain⟨aK,aP,rfl,cN,aq⟩:=bR.elem kt Jd aZ;have bz:(gE step W).take (M+1)=(gE step W).take M ++ [(gE step W)[M]]:=aO aZ;obtain⟨y,ag⟩:=Je ((gE step W)[M]);rw[ag] at aq bz;have cZ:wr.cell? (Jp aK (aP+M*5))=some (Ji y.From):=aq 0 _ rfl;have c1:wr.cell? (Jp aK (aP+M*5+1))=some (Ji y.Count):=by have:=aq 1 _ rfl;rwa [<-aV] at this
 have c6:wr.cell? (Jp aK (aP+M*5+2))=some (Ji y.Sum):=by have:=aq 2 _ rfl;rwa [<-aV] at this
 have c8:wr.cell? (Jp aK (aP+M*5+3))=some (Ji y.Min):=by have:=aq 3 _ rfl;rwa [<-aV] at this
 have da:wr.cell? (Jp aK (aP+M*5+4))=some (Ji y.Max):=by have:=aq 4 _ rfl;rwa [<-aV] at this
 obtain⟨bY,bW,bT⟩:=uT step W y (by rw[<-ag];exact ah aZ);have bV:=b7.o bY bW;have a1:pJ y.From:=by
  have U:=Int.ediv_mul_le bY.T (show step≠0 by omega);have aj:=Int.ediv_nonneg bV.1 (show 0<=step by omega);have aX:=Int.mul_nonneg aj (show 0<=step by omega);rw[<-bT] at U aX;unfold pJ;omega
 obtain⟨ai,av,bv⟩:=aD.map;obtain⟨Y,bo⟩:∃aW,wr.heap.size=aW:=⟨_,rfl⟩;obtain⟨am,bL,bh,bS,bX⟩:∃J,wr.alloc (.cells #[Ji y.From,Ji y.Count,Ji y.Sum,Ji y.Min,Ji y.Max] 38)=J/\Below wr.heap.size wr J/\J.heap.size=Y+1/\J.heap[Y]?=some (.cells #[Ji y.From,Ji y.Count,Ji y.Sum,Ji y.Min,Ji y.Max] 38 (0,0)):=⟨_,rfl,Below.one _ _,by simp[bo],by rw[<-bo];exact heap_alloc_new _ _⟩;obtain⟨Q,ax⟩:=Je (vx step (O.take D) ++ (gE step W).take M);rw[ax] at bv av;have cf:=Jh (show ∀V,MapAt prog 3 V H ai (pS Q)->(eQ 65 (.map (some H)) (.int .i64 y.From) false).run prog V= .ok (mQ (mq Q y.From)) V from λV h=>by rw[<-PE];exact h.look lf underlying65 Jk (nu a1));have b0:=Jh a1;have aJ:=Jh (Ja av (bv.below bh));have b9:=Jh bL;have cd:=Jh bh;have cF:=Jh bS;have ae:=Jh bX;have aA:=Jh ax;have az:=Jh aD;have bZ:=Jh aY;have ck:=Jh bz;have cC:=Jh bo;clear bV bT bW a1 bv av bL bh bS bX ax aD aY bz ag bR aq aZ;go_wp2_with fail;try simp only[b9.o]
 try go_wp2_with fail
 have bV:am.drew.cell? (Jp Y 0)=some (.int .i64 y.From)/\am.drew.cell? (Jp Y 1)=some (.int .i64 y.Count)/\am.drew.cell? (Jp Y 2)=some (.int .i64 y.Sum)/\am.drew.cell? (Jp Y 3)=some (.int .i64 y.Min)/\am.drew.cell? (Jp Y 4)=some (.int .i64 y.Max)/\MapAt prog 3 am.drew H ai (pS Q):=
  ⟨cl ae.o 0 rfl,cl ae.o 1 rfl,cl ae.o 2 rfl,cl ae.o 3 rfl,cl ae.o 4 rfl,aJ.o.2.kept rfl⟩
 refine cB (n:=9) (S:=λV=>V.cell? (Jp Y 0)=some (.int .i64 y.From)/\V.cell? (Jp Y 1)=some (.int .i64 y.Count)/\V.cell? (Jp Y 2)=some (.int .i64 y.Sum)/\V.cell? (Jp Y 3)=some (.int .i64 y.Min)/\V.cell? (Jp Y 4)=some (.int .i64 y.Max)/\MapAt prog 3 V H ai (pS Q)) cv 9 rfl bV (λa1=>?_);refine JH 0 (h:=JH 1 (h:=JH 2 (h:=JH 3 (h:=JH 4 (h:=JH 5 (h:=JH 6 (hy:=by(intro w bW;obtain⟨bd,bA,cU,cW,cX,bL⟩:=bW;have cY:=cf.o _ bL;go_simp)<;>with_reducible rfl) (h:=JH 7 (h:=?_))))))));refine JM 8 (h:=λbS bz=>?_);go_simp;refine(Ef (mq Q y.From) y _).mono ?_;rintro aC bX ⟨rfl,V⟩;have V:Jz am bX:=V.h;obtain⟨bR,cQ,aZ,aq,bv⟩:=(aJ.o.2.below V).put (t:=65) lf underlying65 (by
  have U:=CP step (λs aM=>(aI.o.2.2 s aM).1) D Jo;have aj:Q.length<=12*D+12:=by rw[<-aA.o,ab,aF];omega
  have aX:=aI.o.2.1;have bT:=aJ.o.1;unfold maxLen;omega) (nu b0.o) (mQ (ma (mq Q y.From) y))
 refine bz.out _ _ ⟨al V (cl ae.o 0 rfl),al V (cl ae.o 1 rfl),al V (cl ae.o 2 rfl),al V (cl ae.o 3 rfl),al V (cl ae.o 4 rfl),aJ.o.2.below V⟩ (λa1=>?_);have bh:=Jh (Ja V (Ja aZ (Ja aq bv)));clear bz bS aZ aq bv a1 V;try simp only[an,JY]
 refine cy Jk ?_;go_wp2_with fail;go_roundw
 case rel=>
  obtain⟨V,aZ,aq,bv⟩:=bh.o;have a1:=cd.o.then V;have bz:vx step (O.take D) ++ (gE step W).take (M+1)=Q ++ [y]:=by rw[ck.o,<-au,aA.o]
  refine⟨M+1,by go_num,aL,{map:=⟨_,?_,by rw[bz,show pS (Q ++ [y])=_ from funext λE=>PH Q y E];exact aZ⟩,sR:=?_,sz:=?_},?_⟩
  ·rw[bz,ab];have:=aJ.o.1;split<;>simp<;>omega
  ·exact(az.o.sR.trans (a1.mono (fl az.o.sz))).trans (aq.uj (ac _) (Jx az.o.sz a1.size))
  ·have:=az.o.sz;have:=a1.size;have:=aq.size;omega
  exact(bZ.o.trans (jl.of (F:=λE=>E=H) a1) λ_ _ h=>h).trans (jl.grown (F:=λE=>E=H) aq rfl) λ_ _ h=>h
 simp[intOf];omega
end
section
open Go Go.RowKit Go.Shelf
attribute [local go_sem] Oper.semAt_some
theorem bP.obj {R:Nat->Prop}{E:TypeId}{size n g:Nat}{v:Value}{xs:List Value}{w:JW}(h:bP R E size v n xs w)(y:v.ownBlock=some g):∃cs H,w.heap[g]?=some (.cells cs E H):=by
 rcases h.1.2 with⟨D,_⟩|⟨J,M,O,D,_,K,_⟩
 ·rw[D] at y;simp[aG] at y
 rw[D] at y;obtain rfl:J=g:=by simpa [aG] using y
 exact⟨_,_,K⟩
theorem bP.apart {R R':Nat->Prop}{D E:TypeId}{size T n Q:Nat}{v v':Value}{xs U:List Value}{w:JW}(h:bP R D size v n xs w)(J:bP R' E T v' Q U w)(M:D≠E){g:Nat}(O:v.ownBlock=some g):v'.ownBlock≠some g:=λH=>by
 obtain⟨V,X,K⟩:=h.obj O;obtain⟨W,Y,y⟩:=J.obj H;rw[K] at y;simp only[Option.some.injEq,Obj.cells.injEq] at y;exact M y.2.1
theorem Qe {w w':JW}(y:Jz w w'):Part w (Off (λk=>w.heap.size<=k) w'):=
 ⟨by rw[km];exact y.size,λk J D H=>by
  have E:k<w.heap.size:=(Jl D);rw[sK _ w' k Jo,y.block k E];exact D⟩
def vA (v:sS):Value:=.slice v.A v.n v.c
def ub (l:List eP)(i:Nat):List Row:=(l[i]?.map rowsOf).getD []
theorem Bh {l:List eP}{i:Nat}(h:i<l.length):ub l i=rowsOf l[i]:=by unfold ub;rw[aT h];rfl
theorem Ns (s:JU)(l:List eP)(w:JW)(O:s.length<=1000000)(K:uq s=(l,0)):
 JC 202 #[Ji 0,.string (S s)] w λe w'=>∃(D:Nat)(A:JA)(c:Nat)(xs:List ej),e= .returned (.tuple #[Ji xs.length,.func (.func 294) #[] #[Jv D],Ji 0])/\
  w.heap.size<=D/\w'.heap[D]?=some (.cells #[.slice A xs.length c] 63 (0,0))/\fI w' A xs l/\(∀x∈xs,x.n<=x.c)/\Jz w w':=by
 have W:=Jh (λy=>Ek (S s) y (by show s.toArray.size<=_;simpa using O));have T:=Jh K;obtain⟨Z,aa⟩:=Je w.heap.size;have y:(S s).data.toList=s:=by simp[S]
 have U:=Jh y;clear O K y;have ab:∀(E:Fn)(first y:Array Value)(w:JW),(cO E first y).run prog w= .ok (.func E first y) w:=λ_ _ _ _=>rfl;go_enter Tryz.func202,Tryz.ntmps202;go_wp2_with fail;refine(W.o w).mono ?_;rintro e Y ⟨A,c,xs,rfl,y,J,H⟩;rw[U.o,T.o] at y ⊢;simp only at y ⊢;have Q:=Jh y;have X:=Jh J;have E:=Jh H;have M:=heap_alloc_new Y (.cells #[.slice A xs.length c] 63);have V:=Jh M;clear y J H M;go_wp2_with fail;go_ret3;exact⟨_,A,c,xs,rfl,E.o.size,V.o,Q.o.below (Below.one _ _),λx y=>(X.o x y).1,E.o.then (Below.one _ _)⟩
def Vt (D:Nat)(l:List eP)(y:List sS)(v:sS)(E:JW):Prop:=y.length<l.length/\(ub l y.length).length=v.n/\v.n<=v.c/\bP (λH=>H<D) 130 3 (vA v) v.n ((ub l y.length).flatMap aR) E
theorem QZ (m J ae c:Nat)(A:JA)(xs:List ej)(l:List eP)(w:JW)(hB:J<=w.heap.size)(bm:ae<J)(k:w.heap[ae]?=some (.cells #[.slice A xs.length c] 63 (0,0)))(hA:fI (Off (λk=>J<=k) w) A xs l)
 (M:∀s∈l,s.L.length<=1000) (a8:xs.length<=1000):
 Vp m prog 294 #[Jv ae] vA (vw λk=>k<J) (Vt J l) (λbc=>bc.length=l.length) w:=λbf aG an y H K aZ=>by
 refine callsIn_of_wp Tryz.func294 rfl trivial ?_ rfl;simp only[Tryz.ntmps294,cJ,ak,aX,bM,dC,bY,bZ,cT,cz,bi,aY];have Q:=(y.block ae Jo).trans k;have aW:=cl Q 0 rfl;have aB:=Jh (hA.part (eW y.size (λk X _=>y.block k X) λ_ _ D=>D));have aP:=Jh H;have aT:=Jh K;have aV:=Jh M;have aC:=Jh (show J<=an.heap.size by have:=y.size;omega);obtain⟨ad,E⟩:=Je xs.length;have aE:=Jh E;rw[E] at aW a8;clear H K M hA k Q y E;gi_wp2;gi_loopw [7] (λy wr=>∃H:List sS,y=Ji H.length/\H.length<=ad/\aG H wr/\vw (λk=>k<J) an wr) (λy _=>ad - (intOf y).toNat)
 case atStart=>exact⟨[],rfl,bj _,aZ,ac _,λ_ _=>rfl⟩
 obtain⟨H,rfl,a7,af,Z⟩:=hrel;obtain⟨y,aa⟩:=Je H.length;rw[aa] at a7 ⊢;have ao:=aB.o.part (eW Z.1 (λk _ E=>Z.2 k Jo) λ_ _ D=>D);have a6:l.length=xs.length:=aB.o.len;by_cases av:y<ad;rotate_left
 ·obtain rfl:y=ad:=Jo;have al:=Jh af;have K:=Jh aa;have a1:=Jf ((y:Int)<(y:Int));clear af Z ao aa av;gi_wp2;go_end0;exact⟨⟨_,rfl⟩,H,by rw[K.o,<-aE.o,a6],al.o⟩
 have a1:(y:Int)<ad:=Jo;have aJ:y<xs.length:=by rw[aE.o];exact av
 have ag:y<l.length:=Jo;have ay:=ao.on;obtain⟨bk,bo,E,bn,aN,aO⟩:=pE ay.rd aJ;have ap:=ay.at_ y aJ;have ax:=aV.o _ (ah ag);have az:=Bh ag;obtain⟨bb,Y⟩:=Je (xs[y]);obtain⟨s,aw⟩:=Je (l[y]);rw[Y,aw] at ap;rw[aw] at ax az;rw[Y] at aN aO;obtain⟨T,Q,V,U⟩:=bb;obtain⟨aL,aM⟩:=s;simp only at aN aO ax;subst E;obtain⟨W,aq⟩:=Je wr.heap.size;obtain⟨D,aI,ar,ai,aA⟩:∃D,wr.alloc (.cells #[Ji T,.slice Q V U] 68)=D/\Below wr.heap.size wr D/\D.heap.size=W+1/\D.heap[W]?=some (.cells #[Ji T,.slice Q V U] 68 (0,0)):=⟨_,rfl,Below.one _ _,by simp[aq],by rw[<-aq];exact heap_alloc_new _ _⟩;obtain⟨M,aj,au,aK,ba⟩:∃M,D.alloc (.cells #[Ji T,.slice Q V U] 68)=M/\Below D.heap.size D M/\M.heap.size=W+2/\M.heap[W+1]?=some (.cells #[Ji T,.slice Q V U] 68 (0,0)):=⟨_,rfl,Below.one _ _,by simp[ai],by rw[<-ai];exact heap_alloc_new _ _⟩;have bg:=cl aA 0 rfl;have bh:=cl aA 1 rfl;have aH:fI M (some (Jp (W+1) 0)) [⟨T,Q,V,U⟩] [⟨aL,aM⟩]:=by
  have K:=Qo D ⟨T,Q,V,U⟩ 68;rw[aj,ai] at K;exact⟨rfl,by simpa using K,λam al=>by
   obtain rfl:am=0:=by simpa using al
   exact(ap.below ar).below au⟩
 have aQ:=Jh (kP (some (Jp (W+1) 0)) 1 [⟨T,Q,V,U⟩] [⟨aL,aM⟩] M aH Js (by simp[oX];omega));have aF:=Jh az;have aR:=Jh aI;have aS:=Jh aj;have aD:=Jh (ar.then au);have be:=Jh aK;have al:=Jh af;have am:=Jh Z;have K:=Jh aa;have aU:=Jh ag;have bd:=Jh aq;clear af Z ao ay ap ax az Y aw aI aj ar au ai aK aA ba aH aa ag;gi_wp2;try simp only[aR.o]
 try gi_wp2
 try simp only[aS.o]
 refine⟨trivial,λE=>(by cases E),(callsIn_wide.2 aQ.o).mono ?_⟩;rintro E aj ⟨ar,k,au,rfl,X,az,ag,ay⟩;rw[AX] at X ag;have ai:Jz wr aj:=Below.O aD.o ay;have aw:aG H aj:=aP.o _ _ _ none al.o (grown_of ai) (λap E=>by cases E);have ax:vw (λk=>k<J) an aj:=am.o.trans ⟨ai.size,λk X=>ai.block k (Jx am.o.1 aC.o)⟩;obtain⟨ba,bp,aI,aK,Y,ap⟩:=aT.o H ⟨ar,k,au⟩ aj aw ⟨by rw[K.o];exact aU.o,by rw[K.o,aF.o];exact X.symm,az,by
  rw[K.o,aF.o];exact ag.shift λaA aH bl=>ag.2 aA aH (by have:=am.o.1;have:=aC.o;have:=aD.o.size;omega)⟩
 simp only[vA] at Y;have aA:=Jh ax;clear X az ag ay ai aw ax;gi_wp2;first|refine⟨λE=>(by cases E),ap.mono ?_⟩|refine ap.mono ?_
 rintro E ay ⟨rfl,ag,ai⟩;have aw:=Jh ag;have ax:=Jh (aA.o.trans ai);clear ag ai ap Y;gi_wp2;go_roundw
 case rel=>exact⟨H ++ [⟨ar,k,au⟩],by rw[ab,K.o];go_num,by rw[ab,K.o];exact av,aw.o,ax.o⟩
 simp[intOf];omega
def zz (q:Nat)(y:List sS)(j:Nat):Prop:=j<=q∨∃D∈y,(vA D).ownBlock=some j
def Wb (B q:Nat)(w:JW)(l:List eP)(y:List sS)(E:JW):Prop:=
 ∃D H,E.heap[q]?=some (.cells #[.slice D y.length H] 346 (0,0))/\bP (zz q y) 106 1 (.slice D y.length H) y.length (y.flatMap jJ) E/\
  (∀D,(h:D<y.length)->(ub l D).length=y[D].n/\y[D].n<=y[D].c/\bP (λH=>H<=q) 130 3 (vA y[D]) y[D].n ((ub l D).flatMap aR) E)/\Below B w E/\q+1<=E.heap.size
theorem Uo:(prog.info? 106).map (λi=>(i.zero,i.size,i.bytes))=some (some (Jn),1,24):=Jk
def Iy (l:List eP)(w:JW)(e:Ending)(w':JW):Prop:=∃(H E D:Nat)(K:JA)(y:List sS),e= .returned (.tuple #[Jv H,Ji 0])/\w.heap.size<=E/\E<H/\
 w'.heap[H]?=some (.cells #[Ji 0,Ji l.length,.func (.func 203) #[] #[Jv E],Jn] 221 (0,0))/\w'.heap[E]?=some (.cells #[.slice K y.length D] 346 (0,0))/\
 y.length=l.length/\y.length<=D/\D<=maxLen/\Rd (Off (λJ=>J=H∨J<=E) w') 1 K y.length (y.flatMap jJ)/\
 (∀D,(h:D<y.length)->(ub l D).length=y[D].n/\y[D].n<=y[D].c/\Rd (Off (λJ=>J=H∨J<=E) w') 3 y[D].A y[D].n ((ub l D).flatMap aR))/\Below w.heap.size w w'
theorem Dp (s:JU)(l:List eP)(w:JW)(bO:s.length<=1000000)(bH:uq s=(l,0))(bJ:∀t∈l,t.L.length<=1000)(bc:l.length<=200):
 JC 105 #[Ji 0,.string (S s)] w (Iy l w):=by
 have bn:=Jh (Ns s l w bO bH);have aJ:=Jh (Ja bJ bc);refine(callsIn_wide (n:=4)).1 (callsIn_of_wp_marks Tryz.func105 rfl trivial (wpIn_mono ?_ iQ.marks));simp only[Tryz.ntmps105,cJ,ak,aX,bM,dC,bY,bZ,cT,cz,bi,aY];refine wpIn_wide.2 ?_;obtain⟨aG,a7⟩:=Je w.heap.size;have aH:=Jh a7;go_wp2_with fail;refine bn.o.mono ?_;rintro Z aD ⟨az,aT,bA,aE,rfl,b0,ag,a6,b1,a8⟩;obtain⟨E,aw⟩:=Je aD.heap.size;have bL:l.length=aE.length:=a6.len;obtain⟨aR,be⟩:=Je aE.length;have bF:az<E:=by rw[<-aw];exact(Jl ag)
 obtain⟨af,bR,aL,bQ,bT⟩:∃af,aD.alloc (.cells #[Jn] 346)=af/\Below aD.heap.size aD af/\af.heap.size=E+1/\af.heap[E]?=some (.cells #[Jn] 346 (0,0)):=⟨_,rfl,Below.one _ _,by simp[aw],by rw[<-aw];exact heap_alloc_new _ _⟩;have bB:fI (Off (λM=>E<=M) af) aT aE l:=by
  have:=a6.part (Qe aL)
  rwa [aw] at this
 have bI:=(aL.block az Jo).trans ag;have bp:=Jh (a8.then aL);have bl:=Jh bB;have bo:=Jh bR;have bm:=Jh bI;have bv:=Jh bT;have an:=Jh bQ;have bt:=Jh be;have aV:=Jh bL;rw[be];have bC:aG<=E:=by rw[<-a7,<-aw];exact a8.size
 go_wp2_with fail;try simp only[bo.o]
 try go_wp2_with fail
 refine Te 10 (n:=4) Jd (gf:=294) (lb:=#[Jv az]) rfl (enters_of Tryz.func294 Jk rfl)
  (e1:=vA) (QZ 3 E az bA aT aE l af (by rw[an.o];omega) bF bm.o bl.o aJ.o.1 (Jx aV.o aJ.o.2)) (λQ M=>Q.trans M) ?kb ?hy (Wb aG E w l) ?own ?start ?assign ?body ?done
 case kb=>exact λO l al y bc _ _ _=>⟨by simp[ik],λM ag=>aZ (Jw an.o)⟩
 case hy=>
  rintro T U bV O Y X ⟨V,H,J,ad⟩ D y;exact⟨V,H,J,ad.grown D λaa Z=>(y aa Z).2⟩
 case own=>
  rintro T O Y X ⟨aq,ar,V,H,J,ad,au⟩ D y;have W:∀aa,X=some aa->∃al:Obj,O.heap[aa]?=some al/\al.isCells=false:=λaa Z=>(y aa Z).2;exact⟨aq,ar,ji V D W,H.grown D W,λK Q=>⟨(J K Q).1,(J K Q).2.1,(J K Q).2.2.grown D W⟩,ownFrom_below (β:=List sS) (n₀:=aG) (B:=af.heap.size) (w₀:=w) Jo (by rw[an.o];omega) T _ _ _ ad D y,ap au D.size⟩
 case start=>exact⟨none,0,bv.o,bP.nil _ _ _ _,λK Q=>absurd Q Js,by rw[<-aH.o];exact bp.o,by rw[an.o];omega⟩
 case assign=>
  intro bw U O W y;simp only[bg,bG,aM] at y ⊢;gi_wp2;exact y
 case body=>
  intro bw T U O bD bE;obtain⟨aq,ar,V,H,J,ad,au⟩:=bD;obtain⟨bj,bW,bX,ax⟩:=bE;simp only[bg,bG,aM];obtain⟨bU,p0⟩:=one_cell V;obtain⟨K,ba⟩:=Je T.length;have bS:∀y,(vA U).ownBlock=some y->E<y:=λy D=>by
   have aB:=ax.2 y D;have aC:y≠E:=λZ=>by
    subst Z;obtain⟨X,Y,W⟩:=ax.obj D;rw[V] at W;simp only[Option.some.injEq,Obj.cells.injEq] at W;exact absurd W.2.1 Jd
   omega
  have bK:bP (zz E (T ++ [U])) 106 1 (.slice aq T.length ar) T.length (T.flatMap jJ) O:=H.shift λy D W=>by
   rcases W with W|⟨ai,X,W⟩
   ·exact H.2 y D (.inl W)
   rcases List.mem_append.1 X with X|X
   ·exact H.2 y D (.inr ⟨ai,X,W⟩)
   obtain rfl:ai=U:=by simpa using X
   exact H.apart ax Jd D W
  have bN:gm (zz E (T ++ [U])) O:=λY av=>by
   rcases av with av|⟨ai,X,W⟩
   ·omega
   rcases List.mem_append.1 X with X|X
   ·obtain⟨M,ag,rfl⟩:=bz X;exact((J M ag).2.2.1.lt Y W).2
   obtain rfl:ai=U:=by simpa using X
   exact(ax.1.lt Y W).2
  have aU:=Jh bK;have bu:=Jh bN;have bk:=Jh V;have ay:=Jh J;have am:=Jh ad;have aI:=Jh (Ja bj (Ja bW (Ja bX ax)));have bq:=Jh ba;have a1:=Jh bS;have b2:K<=1000:=Jw aJ.o.2;rw[ba] at bU aU bj;try simp only[vA]
  gi_wp2_with (gi_at_builtin;go_must (refine fi rfl (.tmp 24) (.tmp 26) 346 Jr 106 (Jn) 1 24 underlying346 Uo rfl Jd (zz E (T ++ [U])) K _ _ O #[.slice U.A U.n U.c] rfl (by intro bV bh;simp at bh;rcases bh with rfl;rfl) aU.o Jr bu.o Jr Jm Jo ?_);intro b5 aS aO aP bb;have X:=Jh aP;have aW:=Jh aO;have br:=Jh bb;obtain⟨aF,aK,rfl⟩:=aO.form;have aQ:=(aP.block E (.inl (ac _))).trans bk.o;obtain⟨b3,b4⟩:=one_cell aQ;have bx:=Jh aQ;clear aO aP bb aQ);have bd:(T ++ [U]).length=K+1:=by rw[ab,bq.o];rfl
  have aN:∀y,E<y->(aS.setCell (Jp E 0) (.slice aF (K+1) aK)).heap[y]?=aS.heap[y]?:=λy D=>ae _ _ _ _ (by simp only;omega);refine⟨(br.o.trans (cU _ _ _)),⟨?_,λY av=>?_⟩,aF,aK,?_,?_,?_,?_,?_⟩
  ·exact ap X.o.size (by simp[aj])
  ·exact(ae _ _ _ _ (by simp only;omega)).trans (X.o.block Y (.inl Jo))
  ·rw[bd];simp[aj,aA,bx.o]
  ·rw[bd];have:=aW.o.later (w':=aS.setCell (Jp E 0) (.slice aF (K+1) aK)) (λy D=>aN y (by have:=aW.o.2 y D;unfold zz at this;omega));simpa [ao,jJ,vA] using this
  ·intro Y av;by_cases ai:Y<T.length
   ·rw[du ai];refine⟨(ay.o Y ai).1,(ay.o Y ai).2.1,(ay.o Y ai).2.2.later λy D=>(aN y ?_).trans (X.o.block y (.inr ⟨_,List.mem_append_left _ (ah ai),D⟩))⟩;have:=(ay.o Y ai).2.2.2 y D;omega
   obtain rfl:Y=T.length:=by simp at av;omega
   rw[cK (ac _)];simp only[fG,bf];refine⟨aI.o.2.1,aI.o.2.2.1,(aI.o.2.2.2.shift λy D W=>?_).later λy D=>(aN y (a1.o y D)).trans (X.o.block y (.inr ⟨U,Js,D⟩))⟩;have:=a1.o y D;omega
  ·refine Below.setCell (p:=(Jp E 0)) ?_ (by simp only;omega) _;exact⟨X.o.os.trans am.o.os,X.o.tape.trans am.o.tape,X.o.output.trans am.o.output,ap am.o.size X.o.size,λM ag=>(X.o.block M (.inl Jo)).trans (am.o.block M ag)⟩
  have aC:=X.o.size;simp[aj];omega
 case done=>
  rintro U aS O aU aN ⟨aq,ar,V,H,J,ad,au⟩ ax;obtain⟨X,am⟩:=Je O.heap.size;have aP:E<X:=Jo;have aW:U<X:=by rw[<-am];exact(Jl ax)
  have aI:=Jh (Ja V (Ja H (Ja J (Ja ad au))));have ai:=Jh ax;have aK:=Jh aN;have a1:∀(Y:Fn)(first T:Array Value)(w:JW),(cO Y first T).run prog w= .ok (.func Y first T) w:=λ_ _ _ _=>rfl;go_wp2_with fail;obtain⟨V,H,J,ad,au⟩:=aI.o;obtain⟨T,aO,Y,ba,aQ⟩:∃T,O.alloc (.cells #[Ji 0,Ji aR,.func (.func 203) #[] #[Jv E],Jn] 221)=T/\Below O.heap.size O T/\T.heap.size=X+1/\T.heap[X]?=some (.cells #[Ji 0,Ji aR,.func (.func 203) #[] #[Jv E],Jn] 221 (0,0)):=⟨_,rfl,Below.one _ _,by simp[am],by rw[<-am];exact heap_alloc_new _ _⟩;rw[aO];have av:T.heap[U]?=some (.deferred (some [])):=(Y.block U Jo).trans ai.o;have ay:T.grownBy (T.putObj U (.deferred none)) (some U):=grownBy_putObj' T U (.deferred none);have aF:∀aa,some U=some aa->∃al:Obj,T.heap[aa]?=some al/\al.isCells=false:=λaa Z=>by cases Z;exact⟨_,av,rfl⟩
  have al:E≠U:=λZ=>by rw[<-Z] at ai;rw[V] at ai;cases ai.o
  have aa:(l.length:Int)=aR:=by have aB:=bt.o;have aC:=aV.o;omega
  refine⟨Js,.inl ⟨_,_,rfl,run_takeDeferred av,?_⟩⟩;refine⟨_,results_tmp2 rfl _ _ _,X,E,ar,aq,aS,rfl,by rw[aH.o];exact bC,aP,?_,?_,aK.o,pn H,(bP.caps H).2,?_,λK Q=>⟨(J K Q).1,(J K Q).2.1,?_⟩,?_⟩
  ·rw[aZ Jo,aa];exact aQ
  ·rw[aZ al];exact(Y.block E Jo).trans V
  ·exact(((H.shift (R':=λM=>M=X∨M<=E) λy D W=>by
    have aB:=H.2 y D;have aC:=(H.1.lt y D).2;unfold zz at aB;omega).below Y).grown ay aF).off
  ·exact((((J K Q).2.2.shift (R':=λM=>M=X∨M<=E) λy D W=>by
    have aB:=(J K Q).2.2.2 y D;have aC:=((J K Q).2.2.1.lt y D).2;omega).below Y).grown ay aF).off
  rw[aH.o];exact iP (ad.trans (Y.mono Jo)) (Jw an.o)
end
section
attribute [local go_sem] Oper.semAt_some
theorem Nq {N:Nat}{y:List Int}(D:y≠[]){i:Nat}(hi:i<N):ub (full N y) i=rowsOf (fo y i):=by
 have E:i<(full N y).length:=by rw[nj N D];exact hi
 rw[Bh E];simp[full,D]
theorem cI.RE {col:Nat->Nat}{d N:Nat}{v:nI}{x:iU}{w w':JW}{J:List Int}{e:Ending}(h:cI col d v x w)(hw:x.work=none)(Y:J≠[])(ak:Iy (full N J) w e w'):
 ∃D M,e= .returned (.tuple #[Jv D,Ji 0])/\cI M d v x w'/\CO M (Jv D) (some (mE N J 0)) w'/\bF (λc=>c=6) col M w w':=by
 obtain⟨D,E,c,ab,an,rfl,ao,ap,T,U,af,ag,ah,ai,aj,ae⟩:=ak;have X:(full N J).length=N:=nj N Y;have ar:D<w'.heap.size:=(Jl T);have aq:E<w'.heap.size:=(Jl U);have aa:bF (λc=>c=6) col (λy=>if y=D∨y=E then 6 else col y) w w':=by
  refine⟨λy H=>if_neg Jo,λy H=>?_,jl.of ae⟩;by_cases e:y=D∨y=E
  ·right;exact⟨if_pos e,Jo⟩
  left;simp only[if_neg e];exact h.lt.zero H
 have am:∀y,jB (λy=>if y=D∨y=E then 6 else col y) y->y=D∨y<=E:=λy H=>by
  have H:(if y=D∨y=E then 6 else col y)≠0:=H;by_cases e:y=D∨y=E
  ·omega
  rw[if_neg e] at H;have:=h.lt y H;omega
 have Z:Part (Off (λy=>y=D∨y<=E) w') (Off (jB λy=>if y=D∨y=E then 6 else col y) w'):=eW (ac _) (λ_ _ _=>rfl) λy _ H=>am y H;refine⟨D,_,rfl,?_,?_,aa⟩
 ·have K:=h.TZ aa Jo Jo Jo Jo Jo Jo (k:=none) (by have:=h.wk;rw[hw] at this;exact this);have O:{x with work:=none}=x:=by rw[<-hw]
  rwa [O] at K
 refine⟨D,E,ab,none,c,0,an,[],rfl,{cw:=if_pos (.inl rfl),ca:=if_pos (.inr rfl),ne:=Jo,blk:=?_,box:=U,len:=?_,cap:=ag,Og:=ah,rd:=ai.part Z,each:=λK V=>?_,done:=?_,Ou:=ac _,Ds:=by simp}⟩
 ·rw[T];simp[mE,X]
 ·simp[mE,af,X]
 ·have W:K<N:=Jo;obtain⟨O,ad,Q⟩:=aj K V;rw[Nq Y W] at O Q;have al:K<(mE N J 0).left.length:=by simp[mE];exact W
  have V:(mE N J 0).left[K]=rowsOf (fo J K):=by simp[mE]
  exact⟨al,by rw[V];exact O,ad,by rw[V];exact Q.part Z⟩
 rw[show(mE N J 0).done=[] from LH J];exact⟨rfl,Rd.nil _ _ _,λK h=>absurd h Js⟩
theorem Ni (col:Nat->Nat)(d:Nat)(v:nI)(x:iU)(w:JW)(h:cI col d v x w)(N:Nat)(Y:List Int)(U:Held N Y)(ae:Y≠[])(p:bL)(aE:eh x.man.Parts x.man.Day=some p)(ad:p.Layout=0)(E:x.fs p.File=some (oo N Y))(af:p.File.length<=1000)(aI:x.man.Parts.length<=1000)(ar:x.work=none):
 JC 45 #[Jv d] w λe w'=>e= .returned (Ji 0)/\∃aq v',cI aq d v' {x with work:=some (mE N Y 0)} w'/\bF (λc=>c=1∨c=6) col aq w w':=by
 have aQ:prog.follows .mixedOrders=true:=Jk;obtain⟨W,az⟩:=Je x.man.Parts.length;have ah:=h.c3;have ai:=h.c4;have aj:=h.c5;have ak:=h.c6;have aa:=h.c7;have ao:=h.c8;have ap:=h.c9;have ax:=h.c1;rw[az] at ah;have K:=Jh (λ(M:JW)(y:Jz w M)=>fw x.man.Day v.A v.cp W x.man M ((by simpa [az] using h.man.on:Rd w 3 v.A W (x.man.Parts.flatMap aU)).below y) az Jo);unfold dH at K;have aC:=Jh h;have av:=Jh (Ja aE (Ja ad (Ja E af)));have au:=Jh (Ja U (Ja ae ar));obtain⟨aS,H⟩:∃y,x.man.Next=y:=⟨_,rfl⟩;obtain⟨aV,Q⟩:∃y,x.man.Past=y:=⟨_,rfl⟩;obtain⟨aT,J⟩:∃y,x.man.On=y:=⟨_,rfl⟩;obtain⟨aR,D⟩:∃y,x.man.Day=y:=⟨_,rfl⟩;obtain⟨aW,T⟩:∃y,x.man.To=y:=⟨_,rfl⟩;obtain⟨aX,V⟩:∃y,x.man.Done=y:=⟨_,rfl⟩;rw[H] at ai K;rw[Q] at aj K;rw[J] at ak K;rw[D] at aa K;rw[T] at ao K;rw[V] at ap K;rw[D] at av;rw[av.o.1] at K;clear h U ae aE ad E af aI ar H Q J D T V;obtain⟨X,T,Q⟩:=p;simp only[fu,Option.isSome_some,fL] at K;go_enter Tryz.func45,Tryz.ntmps45;go_wp2_with fail;apply VA (F:=λ(aD:Nat)(M:JW)=>Jz w M/\M.heap[aD]?=some (.cells #[Ji X,Ji T,.string (S Q)] 76 (0,0)))
 case h1=>
  intro aH;refine wp_region_held_drew (S:=λw'=>Jz w w') Jk ?_ (λy=>?_)
  ·exact(ag _ _).drew
  refine JK 0 (h:=JK 1 (h:=JK 2 (h:=JK 3 (hy:=by(intro w J;obtain J:=J;have ah:=al J ah;have ai:=al J ai;have aj:=al J aj;have ak:=al J ak;have aa:=al J aa;have ao:=al J ao;have ap:=al J ap;go_simp)<;>with_reducible rfl) (h:=JK 4 (h:=JK 5 (h:=JK 6 (h:=JK 7 (h:=JK 8 (hy:=by(intro w J;obtain J:=J;have aa:=al J aa;go_simp)<;>with_reducible rfl) (h:=?_)))))))));refine wpAnyH_ready (rs:=[9,13]) Jk Js ?_;refine AllReadyH.cons (o:=_) Jg (λH D=>?_) (AllReadyH.cons (o:=_) Jg (λH D=>?_) AllReadyH.nil)
  ·skip
   go_simp;refine(K.o _ y).mono ?_;rintro e Z ⟨rfl,ab⟩;have V:=Below.O y ab;refine D.out _ _ V (λy=>?_);clear D H ab;try simp only[an,JY]
   refine JK 10 (h:=JK 11 (h:=JK 12 (h:=?_)));refine JN 13 (h:=λH D=>?_);go_simp;refine D.out _ _ (Below.then y (Below.one _ _)) (λy=>?_);clear D H;try simp only[an,JY]
   refine JN 14 (h:=λH D=>?_);go_simp;have E:Jz w (Z.alloc (.cells #[Ji X,Ji T,.string (S Q)] 76))/\(Z.alloc (.cells #[Ji X,Ji T,.string (S Q)] 76)).heap[Z.heap.size]?=some (.cells #[Ji X,Ji T,.string (S Q)] 76 (0,0)):=⟨⟨y.os,y.tape,y.output,by have:=y.size;simpa using this,λay aw=>(heap_alloc_old _ _ (Jw V.size)).trans (V.block ay aw)⟩,heap_alloc_new _ _⟩;refine D.out _ _ E.1 (λy=>?_);clear D H y;try simp only[an,JY]
   refine JN 15 (h:=λH D=>?_);go_simp;refine D.out _ _ E.1 (λy=>?_);clear D H y;try simp only[an,JY]
   refine wpAnyH_done Jk ?_ _;clear V;generalize Z.alloc (.cells #[Ji X,Ji T,.string (S Q)] 76)=aw at E ⊢;generalize Z.heap.size=V at E ⊢;exact aH V aw E
  skip
  go_simp;refine D.out _ _ (Below.then y (Below.one _ _)) (λy=>?_);clear D H;try simp only[an,JY]
  have aB:(w.alloc (.cells #[Ji 0,Ji 0,.string ⟨#[]⟩] 76)).drew.heap[w.heap.size]?=some (.cells #[Ji 0,Ji 0,.string ⟨#[]⟩] 76 (0,0)):=heap_alloc_new w _;have aA:w.heap.size<(w.alloc (.cells #[Ji 0,Ji 0,.string ⟨#[]⟩] 76)).drew.heap.size:=Js;generalize (w.alloc (.cells #[Ji 0,Ji 0,.string ⟨#[]⟩] 76)).drew=aY at y aB aA ⊢;refine JN 9 (h:=λH D=>?_);go_simp;refine(K.o _ y).mono ?_;rintro e Z ⟨rfl,ab⟩;have V:=(ab.block w.heap.size aA).trans aB;have ay:=Below.O y ab;refine D.out _ _ ay (λy=>?_);clear D H ab aB aA;try simp only[an,JY]
  refine JK 10 (h:=JK 11 (h:=JK 12 (h:=?_)));have aJ:=cl V 0 rfl;have aK:=cl V 1 rfl;have aL:=cl V 2 rfl;have aM:=(aP V 0).2;have aN:=(aP V 1).2;have aO:=(aP V 2).2;refine JN 14 (h:=λH D=>?_);go_simp;have aB:=(am V (i:=0) (Ji X)).trans rfl;have aF:=(am aB (i:=1) (Ji T)).trans rfl;have aG:=(am aF (i:=2) (.string (S Q))).trans rfl;have aA:Jz w (((Z.setCell (Jp w.heap.size 0) (Ji X)).setCell (Jp w.heap.size 1) (Ji T)).setCell (Jp w.heap.size 2) (.string (S Q))):=((ay.setCell (p:=(Jp w.heap.size 0)) (ac _) _).setCell (p:=(Jp w.heap.size 1)) (ac _) _).setCell (p:=(Jp w.heap.size 2)) (ac _) _;have E:=Ja aA aG;refine D.out _ _ E.1 (λy=>?_);clear D H y;try simp only[an,JY]
  refine JN 15 (h:=λH D=>?_);go_simp;refine D.out _ _ E.1 (λy=>?_);clear D H y;try simp only[an,JY]
  refine wpAnyH_done Jk ?_ _;clear ay V aB aF aG aA aJ aK aL aM aN aO;generalize ((Z.setCell (Jp w.heap.size 0) (Ji X)).setCell (Jp w.heap.size 1) (Ji T)).setCell (Jp w.heap.size 2) (.string (S Q))=aw at E ⊢;exact aH _ aw E
 case h2=>
  intro aD M ⟨y,V⟩;have ay:=cl V 1 rfl;have aF:=cl V 2 rfl;have H:=aC.o.below y;have ax:=al y ax;obtain⟨-,ad,E,af⟩:=av.o;obtain⟨U,ae,ar⟩:=au.o;have J:=λW=>H.below (w':=M.drewN W) ⟨rfl,rfl,rfl,ac _,λ_ _=>rfl⟩;have Z:=Jh (λW=>(iq _ v.bs v.bd x.nf x.fs Q (M.drewN W) (J W).u af).mono (λe w'(h:_/\_)=>(show e= .returned (.tuple #[.string (S (oo N Y)),.bool true])/\w'=M.drewN W from⟨by rw[h.1,E];rfl,h.2.symm⟩)));have aB:=U.wj ae;have aA:=Jh (λD=>Dp (oo N Y) (full N Y) D Jo (U.uq ae) (λaw ab=>Jw (U.short aw ab)) (Jw U.few));have aw:=Jh J;have ab:=Jh H;have D:=Jh y;have ad:T=0:=ad;subst ad;clear y V H E af U ae ar J aB ah ai aj ak aa ao ap K;go_wp2_with fail;go_quiet ((go_at_call 40;exact ek (Z.o _)));have H:=aw.o nq;have y:Jz M (M.drewN nq):=⟨rfl,rfl,rfl,ac _,λ_ _=>rfl⟩;have ay:=al y ay;have ab:=Jh H;have D:=Jh (D.o.trans (y.mono D.o.size));clear y H Z aw aF ax;generalize M.drewN nq=aH at*;go_wp2_with fail;refine(aA.o _).mono ?_;rintro e aG Z;obtain⟨V,aq,rfl,y,H,J⟩:=ab.o.RE au.o.2.2 au.o.2.1 Z;have aK:=y.c14;have aJ:=y.fz 14;have aw:=Jh (Ja y (Ja H J));clear Z y H J;go_wp2_with fail;go_ret;obtain⟨y,H,J⟩:=aw.o
  obtain⟨Z,aB⟩:=y.self (w':=aG.setCell (Jp d 14) (Jv V)) (v':={v with wv:=Jv V}) (x':={x with work:=some (mE N Y 0)}) (fA _ _ _ _) ⟨rfl,rfl,rfl,rfl⟩ ⟨rfl,rfl,rfl,rfl,rfl⟩ (by
   rw[am y.blk];rfl) y.man y.hd y.hcap y.oE H
  have aF:=aC.o.lt;exact⟨rfl,aq,_,Z,((bF.of aF D.o).trans (J.mono λ_ e=>.inr e)).trans (aB.mono λ_ e=>.inl e)⟩
theorem Kw (col:Nat->Nat)(d:Nat)(v:nI)(x:iU)(w:JW)(h:cI col d v x w)(bw:∀k,col k≠7)(N k c:Nat)(ag:List Int)(hi:mF N ag k c x)(T:Held N ag)(day:Int)(p:bL)(Z:eh x.man.Parts day=some p)(Y:p.Layout=0):
 JC 29 #[Jv d,Ji day,Ji 1] w λe w'=>e= .returned (Ji 0)/\∃x',ic col d x' w w'/\lo N ag k c day 0 x':=by
 obtain⟨aq,Q⟩:=hi.begun T Z Y;obtain⟨az,ax⟩:=Je x.man.Parts.length;have bN:az<=12:=by have ap:=hi.toParts.len;have aD:=T.len;omega
 have aR:=zE Z Y hi.on;have J:=Jh (PM v.A az v.cp x.man ⟨3,day,1,0⟩ w (by simpa [ax] using h.man.on) ax Jo hi.ok.oU hi.ok.n0 hi.ok.n1 hi.ok.Dw hi.ok.Dx h.E.pow rfl ⟨_,aR⟩);rw[kK aR] at J;unfold dH nh at J;have bb:=h.c3;have bc:=h.c4;have be:=h.c5;have bf:=h.c6;have bg:=h.c7;have bh:=h.c8;have bi:=h.c9;rw[ax] at bb;have ao:=Jh h;have aM:=Jh (Ja bw (Ja hi (Ja T (Ja Z (Ja Y (Ja aq Q))))));obtain⟨ad,aT⟩:∃y,x.man.Next=y:=⟨_,rfl⟩;obtain⟨ae,aV⟩:∃y,x.man.Past=y:=⟨_,rfl⟩;obtain⟨bQ,bm⟩:∃y,x.man.On=y:=⟨_,rfl⟩;obtain⟨bP,bl⟩:∃y,x.man.Day=y:=⟨_,rfl⟩;obtain⟨bR,bn⟩:∃y,x.man.To=y:=⟨_,rfl⟩;obtain⟨af,aW⟩:∃y,x.man.Done=y:=⟨_,rfl⟩;rw[aT] at bc J;rw[aV] at be J;rw[bm] at bf J;rw[bl] at bg J;rw[bn] at bh J;rw[aW] at bi J;have aN:=Jh (Ja ax (Ja aT (Ja aV aW)));simp only at J;go_enter Tryz.func29,Tryz.ntmps29;go_wp2_with fail;refine J.o.mono ?_;rintro e ah ⟨D,H,O,rfl,aj,aG⟩;have bM:=Ja aj aG;unfold dH lE;simp only;obtain⟨aZ,al,am,an⟩:=aN.o;simp only[al,am,an];have aS:=ao.o.below aG;obtain⟨M,aE⟩:∃y,ah.heap.size=y:=⟨_,rfl⟩;obtain⟨X,bO,av,br,V,bu⟩:∃X,(ah.alloc (.cells #[.slice D H O,Ji ad,Ji ae,.bool true,Ji day,Ji 1,Ji af] 83)).alloc (.cells #[Jv v.bs,Ji 0,Jn] 156)=X/\Jz ah X/\X.heap.size=M+2/\
  X.heap[M]?=some (.cells #[.slice D H O,Ji ad,Ji ae,.bool true,Ji day,Ji 1,Ji af] 83 (0,0))/\X.heap[M+1]?=some (.cells #[Jv v.bs,Ji 0,Jn] 156 (0,0)):=by
  have y:=heap_alloc_new (ah.alloc (.cells #[.slice D H O,Ji ad,Ji ae,.bool true,Ji day,Ji 1,Ji af] 83)) (.cells #[Jv v.bs,Ji 0,Jn] 156);rw[aI,aE] at y;refine⟨_,rfl,cZ _ _ _,by simp[aE],?_,y⟩;rw[<-aE];exact(heap_alloc_old _ _ Js).trans (heap_alloc_new _ _)
 obtain⟨aC,ac,ar,ab,aw⟩:=aS.TT (ch:=M+1) Jo av bu;obtain⟨ay,hi,T,Z,Y,aq,Q⟩:=aM.o;have bp:Rd (Off (jB col) ah) 3 D H ((lE x.man day).Parts.flatMap aU):=aj.off λk y=>ao.o.lt k y;have ak:Rd (Off (jB aC) X) 3 D H ((lE x.man day).Parts.flatMap aU):=bp.part (ab.part Jo);have aH:H<=12:=by
  have ap:=aj.len;have aD:(lE x.man day).Parts.length=az:=aZ;have y:az<=12:=by have ap:=hi.toParts.len;have aD:=T.len;omega
  simp only at ap;omega
 have aB:=Jh (ul aC (M+1) v.bs v.bd 0 x.nf x.fs D H O (lE x.man day) X ar ak.on aj.len Jo aq ac.E.pow ac.E.errs hi.K (Jw hi.nf) (by unfold cntF;rw[if_pos hi.U];have:=hi.nf;omega) Jo);unfold dH lE at aB;simp only[al,am,an] at aB;have bx:=cl V 0 rfl;have bz:=cl V 1 rfl;have bA:=cl V 2 rfl;have bB:=cl V 3 rfl;have bC:=cl V 4 rfl;have bD:=cl V 5 rfl;have bE:=cl V 6 rfl;have bS:(ah.alloc (.cells #[.slice D H O,Ji ad,Ji ae,.bool true,Ji day,Ji 1,Ji af] 83)).cell? (Jp d 1)=some (Jv v.bs):=(aS.below (Below.one _ _)).c1;have aL:=Jh (Ja ac (Ja ar (Ja ab (Ja aw (Ja ak (Ja av aj.len))))));have aO:=Jh aG;have ba:=Jh V;have a8:=Jh br;go_wp2_with fail;refine aB.o.mono ?_;rintro e aK ⟨rfl,aP,W,au⟩;obtain⟨ac,ar,ab,aw,ak,av,aH⟩:=aL.o;have y:=ac.TP W au;have bt:aC M=0:=by rw[aw M Jo];exact ao.o.lt.zero (Jw aO.o.size)
 have aa:=(W.at (c:=0) (by unfold c37;omega) M (Jw a8.o) bt).2.trans ba.o;have bx:=cl aa 0 rfl;have bz:=cl aa 1 rfl;have bA:=cl aa 2 rfl;have bB:=cl aa 3 rfl;have bC:=cl aa 4 rfl;have bD:=cl aa 5 rfl;have bE:=cl aa 6 rfl;obtain⟨bG,bH,bK,bv,-⟩:=au.s.ex;have bJ:=cl bv 1 rfl;have b2:=y.fz 3;have b3:=y.fz 4;have b4:=y.fz 5;have b5:=y.fz 6;have z7:=y.fz 7;have b6:=y.fz 8;have b7:=y.fz 9;have bV:=y.c3;have bW:=y.c4;have bX:=y.c5;have bY:=y.c6;have bZ:=y.c7;have b0:=y.c8;have b1:=y.c9;have a1:=Jh (Ja y (Ja W au));go_wp2_with fail;obtain⟨y,W,au⟩:=a1.o;obtain⟨ac,ar,ab,aw,ak,av,aH⟩:=aL.o;obtain⟨ay,hi,T,Z,Y,aq,Q⟩:=aM.o;obtain⟨aZ,al,am,an⟩:=aN.o;obtain⟨aY,aX⟩:=jg Z;rw[show(⟨x.man.Parts,ad,ae,true,day,1,af⟩:St)=lE x.man day from by unfold lE;rw[al,am,an]] at y;have bq:Rd (Off (jB aP) aK) 3 D H ((lE x.man day).Parts.flatMap aU):=ak.part (W.part (by unfold c37;omega));obtain⟨aQ,aA⟩:=y.Ct (A:=D) (c:=O) (s:=lE x.man day) bq aH;have bj:jY aK d D H O (lE x.man day).Next (lE x.man day).Past (lE x.man day).On (lE x.man day).Day (lE x.man day).To (lE x.man day).Done=jY aK d D H O ad ae true day 1 af:=by
  unfold lE;simp only[al,am,an]
 rw[bj] at aQ aA;have bo:fa ag day≠[]:=by rw[<-aX];exact wI hi.days (List.mem_map.2 ⟨p,aY,rfl⟩)
 have ai:=Q.file p aY;have ai:eX x.fs eM (iG (lE x.man day)) p.File=some (oo N (fa ag day)):=by
  rw[Y,aX] at ai;exact ai
 have bk:=Jh (Ni aP d _ _ _ aQ N (fa ag day) (T.day day) bo p Z Y ai (by have:=Q.K.name p.File (by show(eX x.fs eM (iG (lE x.man day)) p.File).isSome=true;rw[ai];rfl);omega) (by
  have ap:=hi.toParts.len;have aD:=T.len;show x.man.Parts.length<=_;omega) hi.work)
 have a7:=Jh (Ja ab (Ja W (Ja aA (Ja ay Q))));refine bk.o.mono ?_;rintro e bU ⟨rfl,bI,bT,aF,aJ⟩;have a6:=Jh (Ja aF aJ);go_wp2_with fail;go_ret;obtain⟨aF,aJ⟩:=a6.o;obtain⟨ab,W,aA,ay,Q⟩:=a7.o;refine⟨rfl,_,ic.WH ay aF ?_,Q⟩;exact((((bF.of (P:=λc=>c≠0) ao.o.lt aO.o).trans (ab.mono λ_ e=>Jo)).trans (W.mono λ_ e=>by unfold c37 at e;omega)).trans (aA.mono λ_ e=>Jo)).trans (aJ.mono λ_ e=>Jo)
end
section
attribute [local go_sem] Oper.semAt_some
section
variable {N k c:Nat} {ts:List Int} {x:iU}
theorem Parts.mono (h:Parts N ts k c x){y:Nat}(E:k<=y):Parts N ts y c x:=
 {n:=h.n,head:=h.head,ok:=h.ok,past:=h.past,next:=Jw h.next,days:=h.days,file:=h.file,D:=h.D,U:=h.U,K:=h.K,nf:=h.nf,m:=h.m,cnt:=h.cnt}
theorem mF.mono (h:mF N ts k c x){y:Nat}(D:k<=y):mF N ts y c x:={toParts:=h.toParts.mono D,on:=h.on,work:=h.work}
end
def mW (N:Nat)(y:List Int)(k c m:Nat)(x:iU):Prop:=
 (m=0/\y=[]/\fQ N y x)∨(m=0/\mF N y k c x)∨(m=1/\y≠[]/\fQ N y x/\k=12/\c=0)∨(∃E D,k=D+1/\1<=m/\m<=N+1/\lo N y D c E (N+1 - m) x)
theorem mW.calm {N k c m:Nat}{D:List Int}{x:iU}(h:mW N D k c m x)(y:Held N D)(hc:c<=8):Calm x:=by
 rcases h with⟨-,-,h⟩|⟨-,h⟩|⟨-,-,h,-⟩|⟨E,H,-,-,-,h⟩
 ·exact h.calm
 ·exact h.toParts.calm y hc
 ·exact h.calm
 exact h.toParts.calm y hc
theorem mW.quiet {N k c m:Nat}{y:List Int}{x:iU}(h:mW N y k c m x):(!(x.fs cM).isSome && !x.man.On)=decide (m=0):=by
 rcases h with⟨rfl,rfl,h⟩|⟨rfl,h⟩|⟨rfl,E,h,-⟩|⟨H,K,-,J,-,h⟩
 ·rw[h.D,h.man];rfl
 ·rw[h.D,h.on];rfl
 ·rw[h.D,h.man];cases y with
  |nil=>exact absurd rfl E
  |cons _ _=>rfl
 rw[h.D,h.on,decide_eq_false Jo];rfl
def sk (N:Nat)(D:List Int)(k c m:Nat)(col:Nat->Nat)(d:Nat)(w w':JW):Prop:=∃y,ic col d y w w'/\mW N D k c m y
theorem rest_of (N k c m:Nat)(y:List Int)(col:Nat->Nat)(d:Nat)(v:nI)(x:iU)(w:JW)(h:cI col d v x w)(ap:∀k,col k≠7)(an:Held N y)(hr:mW N y k c m x)(hc:c<=8)(aw:m<=10)
 (ao:∀(m:Nat)(col:Nat->Nat)(v:nI)(x:iU)(w:JW),cI col d v x w->(∀k,col k≠7)->mW N y k c (m+1) x->JC 13 #[Jv d] w λe w'=>e= .returned (.tuple #[.bool true,Ji 0])/\sk N y k c m col d w w'):
 JC 9 #[Jv d] w λe w'=>e= .returned (.bool true)/\sk N y k c 0 col d w w':=by
 have au:=Jh h;have af:=Jh an;have ai:=Jh ao;have ah:=Jh ap;have ad:=Jh (show sk N y k c m col d w w from⟨x,ic.same h (ag _ _),hr⟩);go_enter Tryz.func9,Tryz.ntmps9;go_wp2_with fail;go_loopw [3] (λD wr=>∃H E:Nat,D=Ji H/\H+E=m/\sk N y k c E col d w wr) (λD _=>m - (intOf D).toNat)
 case atStart=>exact⟨0,m,rfl,Jo,ad.o⟩
 obtain⟨H,E,rfl,av,al⟩:=hrel;obtain⟨X,⟨U,W,aa,aj⟩,V⟩:=al;have M:=λ(D:JW)(J:Jz wr D)=>Ms U d W X D (aa.below J) (V.calm af.o hc);rw[V.quiet] at M;have Q:=Jh aa;have T:=Jh aj;have Z:=Jh V;have ax:=Jt ((H:Int)<500);by_cases ab:E=0
 ·subst ab;have J:=Jh (show ∀(D:JW),Jz wr D->JC 27 #[Jv d] D λe w'=>e= .returned (.bool true)/\Jz D w' from M);go_wp2_with fail;refine(J.o _ (ag _ _)).mono ?_;rintro e ac ⟨rfl,K⟩;have D:=Jh K;go_wp2_with fail;refine(J.o _ D.o).mono ?_;rintro e aq ⟨rfl,Y⟩;have O:=Jh (D.o.then Y);go_wp2_with fail;go_ret;exact⟨rfl,X,ic.below ⟨U,W,Q.o,T.o⟩ O.o,Z.o⟩
 obtain⟨O,rfl⟩:∃O,E=O+1:=⟨E - 1,Jo⟩;rw[decide_eq_false ab] at M;have J:=Jh M;go_wp2_with fail;refine(J.o _ (ag _ _)).mono ?_;rintro e ac ⟨rfl,K⟩;have ae:=Jh (ai.o O U W X ac (Q.o.below K) (T.o.VZ ah.o) Z.o);have D:=Jh K;go_wp2_with fail;refine ae.o.mono ?_;rintro e aq ⟨rfl,ar,am,ak⟩;have Y:=Jh (Ja am ak);go_wp2_with fail;go_roundw
 case rel=>exact⟨H+1,O,by go_num,Jo,ar,ic.yK (T.o.trans (bF.of Q.o.lt D.o)) Y.o.1,Y.o.2⟩
 simp[intOf];omega
end
section
attribute [local go_sem] Oper.semAt_some
theorem Lo {l:List bL}{d:Int}(h:d∈l.map (·.Day)):∃p,eh l d=some p:=by
 obtain⟨y,E,rfl⟩:=List.mem_map.1 h;unfold eh;cases D:l.find? λp=>p.Day == y.Day with
 |none=>exact absurd (List.find?_eq_none.1 D y E) Js
 |some p=>exact⟨p,rfl⟩
theorem LA (col:Nat->Nat)(d:Nat)(v:nI)(x:iU)(w:JW)(h:cI col d v x w)(an:∀k,col k≠7)(N k c:Nat)(M:List Int)(hi:mF N M k c x)(X:Held N M)(day:Int)(ak:∃t∈M,t / 100=day):
 JC 10 #[Jv d,Ji day,Ji 1] w λe w'=>e= .returned (Ji 0)/\∃m,m<=N+1/\sk N M (k+1) c m col d w w':=by
 obtain⟨au,J⟩:=Lo ((hi.days.mem day).2 ak);obtain⟨am,H⟩:=Je x.man.Parts.length;have az:am<=12:=by have ax:=hi.toParts.len;have ay:=X.len;omega
 obtain⟨W,Z⟩:=jg J;have Y:=(hi.toParts.part W).2.2.1;have y:=Jh (fw day v.A v.cp am x.man w (by simpa [H] using h.man.on) H Jo);rw[J] at y;unfold dH at y;have ad:=h.c3;have ae:=h.c4;have af:=h.c5;have ag:=h.c6;have ah:=h.c7;have ai:=h.c8;have aj:=h.c9;rw[H] at ad;rw[hi.on] at ag y;have T:=Jh h;have E:=Jh (Ja an (Ja hi (Ja X J)));obtain⟨aB,O⟩:∃D,x.man.Next=D:=⟨_,rfl⟩;obtain⟨aC,Q⟩:∃D,x.man.Past=D:=⟨_,rfl⟩;obtain⟨aA,K⟩:∃D,x.man.Day=D:=⟨_,rfl⟩;obtain⟨aD,U⟩:∃D,x.man.To=D:=⟨_,rfl⟩;obtain⟨aE,V⟩:∃D,x.man.Done=D:=⟨_,rfl⟩;rw[O] at ae y;rw[Q] at af y;rw[K] at ah y;rw[U] at ai y;rw[V] at aj y;clear h an hi X J H O Q K U V ak W Z;obtain⟨H,K,J⟩:=au;simp only[fu,Option.isSome_some,fL] at y Y;have aw:=Jh Y;go_enter Tryz.func10,Tryz.ntmps10;go_wp2_with fail;refine y.o.mono ?_;rintro e D ⟨rfl,U⟩;have al:=T.o.below U;obtain⟨Z,aq⟩:∃O,D.heap.size=O:=⟨_,rfl⟩;obtain⟨O,Q,V,ar⟩:∃O,D.alloc (.cells #[Ji H,Ji K,.string (S J)] 76)=O/\Below D.heap.size D O/\O.heap[Z]?=some (.cells #[Ji H,Ji K,.string (S J)] 76 (0,0)):=⟨_,rfl,Below.one _ _,by rw[<-aq];exact heap_alloc_new _ _⟩;have W:=al.below V;have av:=cl ar 1 rfl;have ao:=W.c6;rw[E.o.2.1.on] at ao
 have aF:(D.alloc (.cells #[Ji H,Ji K,.string (S J)] 76)).cell? (Jp Z 1)=some (Ji K):=by rw[Q];exact av
 have aG:(D.alloc (.cells #[Ji H,Ji K,.string (S J)] 76)).cell? (Jp d 6)=some (.bool false):=by rw[Q];exact ao
 have ap:=Jh W;have ab:=Jh (U.then V);have aa:=Jh Q;clear al U V W Q ad ae af ag ah ai aj y;rcases Y with rfl|rfl
 ·have V:=Jh (Kw col d v x O ap.o E.o.1 N k c M E.o.2.1 E.o.2.2.1 day ⟨H,0,J⟩ E.o.2.2.2 rfl);go_wp2_with fail;try simp only[aa.o]
  try go_wp2_with fail
  refine V.o.mono ?_;rintro e ad ⟨rfl,W,U,Q⟩;have y:=Jh (Ja U Q);clear U Q;go_wp2_with fail;go_ret;exact⟨rfl,N+1,ac _,W,ic.after T.o.lt ab.o y.o.1,.inr (.inr (.inr ⟨day,k,rfl,Jo,ac _,by rw[fG];exact y.o.2⟩))⟩
 go_wp2_with fail;try simp only[aa.o]
 try go_wp2_with fail
 go_ret;exact⟨rfl,0,bj _,x,ic.same T.o ab.o,.inr (.inl ⟨rfl,E.o.2.1.mono Jo⟩)⟩
end
section
open Go Go.RowKit Go.Shelf
attribute [local go_sem] Oper.semAt_some
theorem NT (F:Nat->Prop)(y c:Nat)(A:JA)(v:sS)(r:List sS)(w:JW)(D:w.heap[y]?=some (.cells #[.slice A (r.length+1) c] 346 (0,0)))(hc:r.length+1<=c)(Y:r.length<=1000)(hr:Rd (Off F w) 1 A (r.length+1) ((v :: r).flatMap jJ))(X:F y):
 JC 203 #[Jv y] w λe w'=>∃M,e= .returned (vA v)/\w'.heap[y]?=some (.cells #[.slice M r.length (c - 1)] 346 (0,0))/\Rd (Off F w') 1 M r.length (r.flatMap jJ)/\jl (λk=>k=y) w w':=by
 obtain⟨H,Q⟩:=Je r.length;rw[Q] at D hr hc Y ⊢;obtain⟨J,K,rfl,ac,Z,aa⟩:=Rd.head (C:=1) (cs:=jJ v) (r:=r.flatMap jJ) (n:=H) (by simpa using hr) rfl;have ag:w.cell? (Jp J K)=some (.slice v.A v.n v.c):=(nz F w).cell (Z 0 _ rfl);obtain⟨ad,p0⟩:=one_cell D;obtain⟨E,O⟩:∃E:JA,(if c=1 then some (Jp J K) else some (Jp J (K+1)))=E:=⟨_,rfl⟩;have V:=Jh (show Rd (Off F w) 1 E H (r.flatMap jJ) from lQ aa hc Q O);have af:(0:Int)<((H+1:Nat):Int):=Jo;have u1:(1:Int)<=(H:Int)+1:=Jo;have U:=Jh D;have T:=Jh X;have ab:=Jh hc;unfold vA;go_enter Tryz.func203,Tryz.ntmps203;go_wp2_with fail;try rw[O]
 go_ret;refine⟨E,rfl,?_,V.o.part (eW (by simp[aj]) (λk _ D=>ae _ _ _ _ (λe=>D (by rw[e];exact T.o))) λ_ _ W=>W),fA _ _ _ _⟩;rw[am U.o];rfl
def Wr (col:Nat->Nat)(D y:Nat)(u:Rz)(a:List Row)(Q:List (List Row))(w w':JW):Prop:=∃J K M O T U H,jV u.done a H/\Kt col D y J K M O T U ⟨u.k,Q,H⟩ w'/\jl (λE=>E=D∨E=y) w w'
theorem CG (col:Nat->Nat)(D H c ao:Nat)(A af:JA)(av:List sS)(ad:List ej)(u:Rz)(w:JW)(h:Kt col D H A af c ao av ad u w)(lt:Lt col w)(a:List Row)(au:List (List Row))(ab:u.left=a :: au)(aB:jP u.done)(W:jn a)(aL:a.length<=1000)(aC:∀s∈u.done,s.L.length<=1000)(aG:ad.length<=1000)(ar:av.length<=1000):
 JC 46 #[Jv D] w λe w'=>e= .returned (.bool true)/\Wr col D H u a au w w':=by
 have bh:prog.follows .mixedOrders=true:=Jk;obtain⟨K,J,rfl⟩:∃K J,av=K :: J:=by
  cases av with
  |nil=>have:=h.len;rw[ab] at this;simp at this
  |cons K J=>exact⟨K,J,rfl⟩
 obtain⟨T,aM⟩:=Je au.length;have bi:J.length=T:=by have:=h.len;rw[ab] at this;simp at this;omega
 have Q:=h.blk;rw[ab,ak,aM] at Q;have bl:=cl Q 1 rfl;have a7:=cl Q 2 rfl;have M:=cl Q 3 rfl;have bn:=(aP Q 1).2;have bo:=(aP Q 3).2;obtain⟨bq,aQ,aR,aS⟩:=h.each 0 Js;simp only[ab,bf] at aQ aR aS;have aV:=Jh (λ(y:JW)(E:Jz w y)=>NT (jB col) H c A K J y ((E.block H (Jl h.box)).trans h.box) (by have:=h.cap;simpa using this) (by simp at ar;omega) ((by simpa using h.rd:Rd (Off (jB col) w) 1 A (J.length+1) ((K :: J).flatMap jJ)).part (gP E)) (by unfold jB;rw[h.ca];omega));have E:=Jh h;have aH:=Jh Q;have al:=Jh (Ja aQ (Ja aR aS));have aX:=Jh (Ja aB (Ja W (Ja aL (Ja aC (Ja aG ar)))));have aZ:=Jh lt;have a1:=Jh bi;have a6:=Jh ab;have aI:=Jh aM;have br:(((T+1:Nat):Int) == 0)=false:=beq_eq_false_iff_ne.2 Jo;have bp:T<=1000:=by simp at ar;omega
 go_enter Tryz.func46,Tryz.ntmps46;go_wp2_with fail;refine cB (n:=11) (S:=λw'=>w'.cell? (Jp D 3)=some (.slice af ad.length ao)/\w'.cell? (Jp D 2)=some (.func (.func 203) #[] #[Jv H])) bh 11 rfl ⟨M,a7⟩ (λaJ=>?_);refine JH 0 (h:=JH 1 (h:=JH 2 (h:=JH 3 (h:=JH 4 (h:=JH 5 (h:=JH 6 (h:=JH 7 (h:=JH 8 (h:=?_)))))))));refine JM 9 (h:=λO ax=>?_);go_simp;refine(aV.o _ (ag _ _).drew).mono ?_;rintro e aw ⟨aU,rfl,aq,aF,V⟩;have be:aw.heap[D]?=w.drew.heap[D]?:=V.block D (Jl aH.o) E.o.ne;have ap:aw.heap[D]?=some (.cells #[Ji u.k,Ji ((T+1:Nat):Int),.func (.func 203) #[] #[Jv H],.slice af ad.length ao] 221 (0,0)):=be.trans aH.o;have aa:Part (Off (jB col) w) (Off (jB col) aw):=eW V.size (λy X aD=>V.block y X λe=>aD (by unfold jB;rw[e,E.o.ca];omega)) λ_ _ h=>h;obtain⟨aB,W,aL,aC,aG,ar⟩:=aX.o;have aY:=Jh (lK af ao ad u.done K.A K.c K.n a aw (E.o.done.part aa).on (al.o.2.2.part aa).on al.o.1 al.o.2.1 E.o.Ou aB W.once W.ok E.o.Ds aC aG (Jw al.o.1) W.few W.ids);have a8:=cl ap 2 rfl;have ba:=cl ap 3 rfl;have ah:=Jh (Ja aq (Ja aF (Ja V (Ja ap aa))));refine ax.out _ _ ⟨ba,a8⟩ (λaJ=>?_);try simp only[an,JY]
 refine JM 10 (h:=λO ax=>?_);unfold vA;go_simp;refine aY.o.mono ?_;rintro e ac ⟨bt,Y,bk,rfl,aK,aA,aE,U⟩;obtain⟨Z,M,rfl,ay⟩:=aK.off (F:=jB col) λy X=>ai (aZ.o y X) ah.o.2.2.1.size;have az:Y.length<=M:=Ce aK;have O:=(U.block D (Jl ah.o.2.2.2.1)).trans ah.o.2.2.2.1;have bm:=cl O 1 rfl;have bb:=cl O 2 rfl;have bc:=cl O 3 rfl;have bu:=(aP O 1).2;have bv:=(aP O 3).2;have aW:=Jh (Ja ay (Ja az (Ja aA (Ja aE (Ja U O)))));refine ax.out _ _ ⟨bc,bb⟩ (λaJ=>?_);try simp only[an,JY]
 refine cy Jk ?_;go_wp2_with fail;go_ret;obtain⟨ay,az,aA,aE,U,O⟩:=aW.o;obtain⟨aq,aF,V,ap,aa⟩:=ah.o;have bg:jB col D:=by unfold jB;rw[E.o.cw];omega
 have aO:∀y,y≠D->((ac.setCell (Jp D 3) (.slice Z Y.length M)).setCell (Jp D 1) (Ji T)).heap[y]?=ac.heap[y]?:=λy X=>(ae _ _ _ _ X).trans (ae _ _ _ _ X);have aN:Part (Off (jB col) ac) (Off (jB col) ((ac.setCell (Jp D 3) (.slice Z Y.length M)).setCell (Jp D 1) (Ji T))):=eW (by simp[aj]) (λy _ aD=>aO y λe=>aD (by rw[e];exact bg)) λ_ _ h=>h;have aJ:=(gP (F:=jB col) U).trans aN;have bj:(ac.setCell (Jp D 3) (.slice Z Y.length M)).heap[D]?=some (.cells #[Ji u.k,Ji ((T+1:Nat):Int),.func (.func 203) #[] #[Jv H],.slice Z Y.length M] 221 (0,0)):=(am O _).trans rfl;refine⟨rfl,aU,Z,c - 1,M,J,Y,bk,aE,?_,?_⟩
 ·refine{cw:=E.o.cw,ca:=E.o.ca,ne:=E.o.ne,blk:=?_,box:=?_,len:=?_,cap:=?_,Og:=?_,rd:=aF.part aJ,each:=λaT X=>?_,done:=ay.part aN,Ou:=az,Ds:=aA}
  ·rw[am bj,aI.o];rfl
  ·rw[aO H (fV E.o.ne)];exact(U.block H (Jl aq)).trans aq
  ·rw[aI.o,a1.o]
  ·have:=E.o.cap;simp only[ak] at this;omega
  ·have:=E.o.Og;omega
  obtain⟨bd,X,ax,aD⟩:=E.o.each (aT+1) (by simp;omega);simp only[a6.o,ak,ck] at bd X ax aD;exact⟨show aT<au.length by omega,X,ax,(aD.part aa).part aJ⟩
 refine((((jl.of (F:=λy=>y=D∨y=H) (ag w.heap.size w).drew).trans (V.mono (G:=λy=>y=D∨y=H) λy _ e=>.inr e) λ_ _ e=>e).trans (jl.of (F:=λy=>y=D∨y=H) U) λ_ _ e=>e).trans (fA _ _ _ _) λy _ e=>.inl e).trans (fA _ _ _ _) λy _ e=>.inl e
end
section
attribute [local go_sem] Oper.semAt_some
theorem GW {s:eP}{r:Row}(h:r∈rowsOf s):∃y∈s.L,r=⟨y.T,s.ID,y.V⟩:=by
 obtain⟨y,E,D⟩:=List.mem_map.1 h;exact⟨y,E,D.symm⟩
theorem Held.Nr {N:Nat}{E:List Int}(h:Held N E){j:Nat}(O:j<N):jn (rowsOf (fo E j)):=by
 have H:∀y∈rowsOf (fo E j),y∈df N E:=λy D=>by
  obtain⟨Q,K,rfl⟩:=GW D;obtain⟨M,J,rfl⟩:=nE K;exact List.mem_flatMap.2 ⟨M,J,List.mem_map.2 ⟨j,List.mem_range.2 O,rfl⟩⟩
 refine⟨(uM (wy h.up j)).once,λy D=>h.UV y (H y D),λU=>?_,λJ K Q=>h.ids J K λT M=>?_⟩
 ·rw[vr];split
  ·have:=lL E j;have:=h.len;omega
  simp
 obtain⟨y,D,J⟩:=Q T M;exact⟨y,H y D,J⟩
theorem TB {N j:Nat}{y:List Int}(D:j<N):(mE N y j).left=rowsOf (fo y j) :: (mE N y (j+1)).left:=by
 unfold mE;simp only;rw[dm (by simpa using D)];simp
theorem TC {N:Nat}{y:List Int}:(mE N y N).left=[]:=by
 unfold mE;simp
theorem cI.step {col:Nat->Nat}{d N j:Nat}{v:nI}{x:iU}{w:JW}{y:List Int}(h:cI col d v x w)(hw:x.work=some (mE N y j))(D:Held N y)(Q:j<N):
 ∃E,v.wv=Jv E/\JC 46 #[Jv E] w λe w'=>e= .returned (.bool true)/\cI col d v {x with work:=some (mE N y (j+1))} w'/\bF (λc=>c=6) col col w w':=by
 have K:=h.wk;rw[hw] at K;obtain⟨E,O,X,Z,c,ac,V,W,e,H⟩:=K;refine⟨E,e,?_⟩;have J:(mE N y j).done=full j y:=rfl;have am:W.length=(full j y).length:=by have:=H.done.len;rw[J] at this;exact this.symm
 have aj:(full j y).length<=4:=by
  by_cases M:y=[]
  ·simp[full,M]
  rw[nj j M];have:=D.n4;omega
 have al:V.length<=4:=by
  have M:=H.len;have T:(mE N y j).left.length=N - j:=by simp[mE]
  have:=D.n4;omega
 have ag:=D.Nr Q;have ak:(rowsOf (fo y j)).length<=12:=by
  have M:(rowsOf (fo y j)).length=y.length:=by simp[rowsOf,fo]
  have:=D.len;omega
 refine(CG col E O c ac X Z V W (mE N y j) w H h.lt _ _ (TB Q) (by rw[J];exact jq D.up) ag Jo (λM T=>?_) Jo Jo).mono ?_
 ·rw[J] at T;obtain⟨M,-,rfl⟩:=lZ T;have:=lL y M;have:=D.len;omega
 rintro e w' ⟨rfl,Y,aa,ab,ad,ah,ai,an,T,af,ae⟩;rw[J] at T;obtain rfl:=T.one (Qm D.up j);have U:bF (λc=>c=6) col col w w':=⟨λ_ _=>rfl,λM K=>.inl (h.lt.zero K),ae.mono λM _ e=>by
  rcases e with rfl|rfl
  ·exact H.cw
  exact H.ca⟩
 refine⟨rfl,h.TZ U Jo Jo Jo Jo Jo Jo ?_,U⟩;exact⟨E,O,Y,aa,ab,ad,ah,ai,by rw[<-e],af⟩
theorem BC (col:Nat->Nat)(d:Nat)(v:nI)(x:iU)(w:JW)(h:cI col d v x w)(N k c j:Nat)(ao:List Int)(day:Int)(hi:lo N ao k c day j x)(Y:Held N ao)(ab:j<N):
 JC 34 #[Jv d] w λe w'=>e= .returned (Ji 0)/\∃x',ic col d x' w w'/\lo N ao k c day (j+1) x':=by
 obtain⟨aY,aT,aS⟩:=h.step hi.work (Y.day day) ab;have aa:=hi.unit ab Y.n4;have T:=hi.CR ab Y.n4;obtain⟨aI,O⟩:=Je x.man.Parts.length;have a6:aI<=12:=by have aZ:=hi.toParts.len;have a1:=Y.len;omega
 have aN:=h.c14;rw[aT] at aN;have aM:=Jh aS;have aX:=Jh h;have aq:=Jh (Ja hi (Ja aa (Ja T O)));go_enter Tryz.func34,Tryz.ntmps34;go_wp2_with fail;refine aM.o.mono ?_;rintro e aW ⟨rfl,H,aV⟩;obtain⟨hi,aa,T,O⟩:=aq.o;have D:=Jh (PN v.A aI v.cp x.man ⟨4,0,0,0⟩ aW (by simpa [O] using H.man.on) O Jo hi.ok.oU hi.ok.n0 hi.ok.n1 hi.ok.Dw hi.ok.Dx H.E.pow rfl ⟨_,T⟩);rw[kK T] at D;unfold dH nh at D;have au:=H.c3;have av:=H.c4;have aw:=H.c5;have ax:=H.c6;have ay:=H.c7;have az:=H.c8;have aA:=H.c9;simp only at au av aw ax ay az aA;rw[O] at au;obtain⟨aj,aD⟩:∃y,x.man.Next=y:=⟨_,rfl⟩;obtain⟨al,aF⟩:∃y,x.man.Past=y:=⟨_,rfl⟩;obtain⟨ak,aE⟩:∃y,x.man.On=y:=⟨_,rfl⟩;obtain⟨ai,aC⟩:∃y,x.man.Day=y:=⟨_,rfl⟩;obtain⟨am,aG⟩:∃y,x.man.To=y:=⟨_,rfl⟩;obtain⟨an,aH⟩:∃y,x.man.Done=y:=⟨_,rfl⟩;rw[aD] at av D;rw[aF] at aw D;rw[aE] at ax D;rw[aC] at ay D;rw[aG] at az D;rw[aH] at aA D;have ar:=Jh (Ja aD (Ja aF (Ja aE (Ja aC (Ja aG aH)))));have W:=Jh (Ja H aV);simp only at D;go_wp2_with fail;refine D.o.mono ?_;rintro e ap ⟨M,V,Q,rfl,Z,X⟩;obtain⟨ac,ad,ae,af,ag,ah⟩:=ar.o;unfold dH vS;simp only[ac,ad,ae,af,ag,ah];have aQ:=W.o.1.below X;obtain⟨aK,aP⟩:∃y,ap.heap.size=y:=⟨_,rfl⟩
 obtain⟨K,a7,U,J⟩:∃K,ap.alloc (.cells #[.slice M V Q,Ji aj,Ji al,.bool ak,Ji ai,Ji am,Ji (an+1)] 83)=K/\Jz ap K/\
  K.heap[aK]?=some (.cells #[.slice M V Q,Ji aj,Ji al,.bool ak,Ji ai,Ji am,Ji (an+1)] 83 (0,0)):=⟨_,rfl,Below.one _ _,by rw[<-aP];exact heap_alloc_new _ _⟩
 have a8:=cl J 0 rfl;have ba:=cl J 1 rfl;have bb:=cl J 2 rfl;have bc:=cl J 3 rfl;have bd:=cl J 4 rfl;have be:=cl J 5 rfl;have bf:=cl J 6 rfl;have y:=aQ.below U;have bn:=y.fz 3;have bo:=y.fz 4;have bp:=y.fz 5;have bq:=y.fz 6;have z7:=y.fz 7;have br:=y.fz 8;have bt:=y.fz 9;have bg:=y.c3;have bh:=y.c4;have bi:=y.c5;have bj:=y.c6;have bk:=y.c7;have bl:=y.c8;have bm:=y.c9;have aL:=Jh (Ja Z (Ja X (Ja U y)));go_wp2_with fail;go_ret;obtain⟨Z,X,U,y⟩:=aL.o;obtain⟨hi,aa,T,O⟩:=aq.o;obtain⟨ac,ad,ae,af,ag,ah⟩:=ar.o;have aR:Rd (Off (jB col) K) 3 M V ((vS x.man).Parts.flatMap aU):=(Z.off λk aB=>W.o.1.lt k aB).part (gP U);obtain⟨aB,aJ⟩:=y.Ct (A:=M) (c:=Q) (s:=vS x.man) aR Z.len;have aO:jY K d M V Q (vS x.man).Next (vS x.man).Past (vS x.man).On (vS x.man).Day (vS x.man).To (vS x.man).Done=jY K d M V Q aj al ak ai am (an+1):=by
  unfold vS;simp only[ac,ad,ae,af,ag,ah]
 rw[aO] at aB aJ;refine⟨rfl,_,⟨col,_,aB,?_⟩,aa⟩;exact((W.o.2.mono λ_ e=>by unfold PD;omega).trans (bF.of W.o.1.lt (X.then U))).trans (aJ.mono λ_ e=>by unfold PD;omega)
theorem zw (y:Nat)(w:JW)(D:w.cell? (Jp y 1)=some (Ji 0)):JC 46 #[Jv y] w λe w'=>e= .returned (.bool false)/\w=w':=by
 go_enter Tryz.func46,Tryz.ntmps46;go_wp2_with fail;go_ret;exact⟨rfl,rfl⟩
theorem Wx {C:Prop}(F:JA->Nat->Nat->Nat->World->Prop){G:JA->Nat->Nat->Nat->World->Prop}(h1:(∀a b c d e,F a b c d e->G a b c d e)->C)(h2:∀a b c d e,F a b c d e->G a b c d e):C:=h1 h2
theorem Ot {col:Nat->Nat}{d N:Nat}{v:nI}{x:iU}{w:JW}{y:List Int}(h:cI col d v x w)(hw:x.work=some (mE N y N))(E:Held N y):
 ∃D,v.wv=Jv D/\w.cell? (Jp D 1)=some (Ji 0)/\∀H,Jz w H->JC 87 #[Jv D] H λe w'=>e= .returned (.tuple #[.string (S (mB N y)),Ji 0])/\Jz H w':=by
 have J:=h.wk;rw[hw] at J;obtain⟨D,ah,ag,W,aj,X,ao,V,e,Y⟩:=J;have K:=Y.blk;rw[TC] at K;have Z:=(Jl K);refine⟨D,e,cl K 1 rfl,λH M=>?_⟩;have T:=(M.block D Z).trans K;have ae:(mE N y N).done=full N y:=rfl;have U:=Y.done.on.below M;rw[ae] at U;have an:V.length<=4:=by have ak:=U.len;have al:=E.few;omega
 have ad:oX (full N y)<=50000:=by
  unfold oX;rw[qG];have:=ee E.n4 E.len;omega
 refine CF D V.length X 0 W (S (mB N y)) H (.inl rfl) (cl T 0 rfl) (cl T 1 rfl) (cl T 3 rfl) (ai Z M.size) λO Q=>?_;refine(kP W X V (full N y) O (U.below Q) Jo ad).mono ?_;rintro e ab ⟨M,aa,O,rfl,J,af,Q,ac⟩;rw[pB E.up] at J Q;refine⟨M,aa,O,rfl,ac,?_⟩;refine zb (S (mB N y)) M aa O ab ?_;have am:=E.cnt;subst J;exact Sl M O (df N y) ab Q.rd E.UV Jo af (bP.caps Q).2 E.iZ
theorem Dl (col:Nat->Nat)(d:Nat)(v:nI)(x:iU)(w:JW)(h:cI col d v x w)(cv:∀k,col k≠7)(N k c:Nat)(ai:List Int)(day:Int)(hi:lo N ai k c day N x)(ar:Held N ai)(bR:k<=1000):
 JC 34 #[Jv d] w λe w'=>e= .returned (Ji 0)/\∃x',ic col d x' w w'/\mF N ai (k+1) c x':=by
 obtain⟨cC,M,ah,J⟩:=Ot h hi.work (ar.day day);obtain⟨cR,ao,aA⟩:=hi.was;obtain⟨aN,az,aq⟩:=hi.ended ar bR ao;have ay:=hi.IF bR;have aE:=hi.ON;obtain⟨cc,Y⟩:=Je x.man.Parts.length;have cX:cc<=12:=by have aK:=hi.toParts.len;have aL:=ar.len;omega
 have cD:=h.c14;rw[M] at cD;have cS:=h.c7;rw[hi.day] at cS;have H:=Jh (zw cC w ah);have D:=Jh (J w (ag _ _));have bC:=Jh h;have aC:=Jh (Ja cv (Ja hi (Ja ar (Ja ao (Ja aN (Ja az (Ja aq (Ja ay (Ja aE Y)))))))));obtain⟨df,y⟩:∃Q,S (mB N (fa ai day))=Q:=⟨_,rfl⟩;rw[y] at D;have cB:=Jh y;clear h cv hi ar ao aA aN az aq ay aE ah J M Y y;go_enter Tryz.func34,Tryz.ntmps34;go_wp2_with fail;refine H.o.mono ?_;rintro e bX ⟨rfl,rfl⟩;clear H;go_wp2_with fail;refine D.o.mono ?_;rintro e bX ⟨rfl,H⟩;have M:=bC.o.below H;obtain⟨bb,ci⟩:∃aJ,bX.heap.size=aJ:=⟨_,rfl⟩;obtain⟨y,T,J,Q,V⟩:∃y,bX.alloc (.cells #[Ji 5,Ji 0,Ji 0,Ji 0] 152)=y/\Jz bX y/\y.heap.size=bb+1/\
  y.heap[bb]?=some (.cells #[Ji 5,Ji 0,Ji 0,Ji 0] 152 (0,0)):=⟨_,rfl,Below.one _ _,by simp[ci],by rw[<-ci];exact heap_alloc_new _ _⟩
 have bD:=Jh H;have au:=Jh (M.below J);have bZ:=Jh J;have bi:=Jh V;have cy:=Jh T;have b0:=Jh Q;clear H M J V T Q D;go_wp2_with fail;try simp only[cy.o]
 obtain⟨bj,hi,ar,ao,aN,az,aq,ay,aE,Y⟩:=aC.o;have ap:=Jh (λ(av:JW)(D:Jz y av)=>PO v.A cc v.cp x.man ⟨5,0,0,0⟩ av (by simpa [Y] using (au.o.below D).man.on) Y Jo hi.ok.oU hi.ok.n0 hi.ok.n1 hi.ok.Dw hi.ok.Dx (au.o.below D).E.pow rfl ⟨_,ay⟩ ⟨_,(jg ao).1,(jg ao).2.trans hi.day.symm⟩);rw[kK ay] at ap;unfold dH nh at ap;have bH:=au.o.c3;have bI:=au.o.c4;have bJ:=au.o.c5;have bK:=au.o.c6;have bL:=au.o.c7;have bM:=au.o.c8;have bN:=au.o.c9;rw[Y] at bH;obtain⟨db,H⟩:∃ak,x.man.Next=ak:=⟨_,rfl⟩;obtain⟨W,D⟩:∃ak,x.man.Past=ak:=⟨_,rfl⟩;obtain⟨dc,M⟩:∃ak,x.man.On=ak:=⟨_,rfl⟩;obtain⟨dd,Q⟩:∃ak,x.man.To=ak:=⟨_,rfl⟩;obtain⟨de,T⟩:∃ak,x.man.Done=ak:=⟨_,rfl⟩;obtain⟨Z,V⟩:∃ak,(jK x.man).Next=ak:=⟨_,rfl⟩;rw[H] at bI ap;rw[D] at bJ ap;rw[M] at bK ap;rw[hi.day] at bL ap;rw[Q] at bM ap;rw[T] at bN ap;have bh:=Jh (Ja H (Ja D (Ja M (Ja Q (Ja T V)))));have J:=Jh (show(jK x.man).Past=W/\(jK x.man).On=false/\(jK x.man).Day=0/\(jK x.man).To=0/\(jK x.man).Done=0 from⟨D,rfl,rfl,rfl,rfl⟩);have b1:=cl bi.o 0 rfl;have bO:=cl bi.o 1 rfl;have b2:=cl bi.o 2 rfl;have b3:=cl bi.o 3 rfl;clear bj hi ar ao aN az aq ay aE Y H D M Q T V;simp only at ap
 apply Wx (F:=λD H M ab av=>Jz y av/\pZ y.heap.size D H (jK x.man).Parts av/\av.heap[ab]?=some (.cells #[.slice D H M,Ji Z,Ji W,.bool false,Ji 0,Ji 0,Ji 0] 83 (0,0))/\y.heap.size<=ab)
 case h1=>
  intro aI;refine wp_region_held_drew (S:=λw'=>Jz y w') Jk ?_ (λT=>?_)
  ·exact(ag _ _).drew
  refine JK 0 (h:=JK 1 (h:=JK 2 (h:=JK 3 (hy:=by(intro w X;obtain X:=X;have bH:=al X bH;have bI:=al X bI;have bJ:=al X bJ;have bK:=al X bK;have bL:=al X bL;have bM:=al X bM;have bN:=al X bN;go_simp)<;>with_reducible rfl) (h:=JK 4 (hy:=by(intro w X;obtain X:=X;have b1:=al X b1;have bO:=al X bO;have b2:=al X b2;have b3:=al X b3;go_simp)<;>with_reducible rfl) (h:=?_)))));refine wpAnyH_ready (rs:=[5,9]) Jk Js ?_;refine AllReadyH.cons (o:=_) Jg (λaa Q=>?_) (AllReadyH.cons (o:=_) Jg (λaa Q=>?_) AllReadyH.nil)
  ·skip
   go_simp;refine(ap.o _ T).mono ?_;rintro e V ⟨D,H,M,rfl,aw,aF⟩;have bc:=Below.O T aF;have ax:pZ y.heap.size D H (jK x.man).Parts V:=aw.mono T.size;unfold dH;simp only[bh.o.2.2.2.2.2,J.o.1,J.o.2.1,J.o.2.2.1,J.o.2.2.2.1,J.o.2.2.2.2];refine Q.out _ _ bc (λT=>?_);clear Q aa aF aw;try simp only[an,JY]
   refine JK 6 (h:=JK 7 (h:=JK 8 (h:=?_)));refine JN 9 (h:=λaa Q=>?_);go_simp;refine Q.out _ _ (Below.then T (Below.one _ _)) (λT=>?_);clear Q aa;try simp only[an,JY]
   refine JN 10 (h:=λaa Q=>?_);go_simp;have aB:Jz y (V.alloc (.cells #[.slice D H M,Ji Z,Ji W,.bool false,Ji 0,Ji 0,Ji 0] 83))/\pZ y.heap.size D H (jK x.man).Parts (V.alloc (.cells #[.slice D H M,Ji Z,Ji W,.bool false,Ji 0,Ji 0,Ji 0] 83))/\(V.alloc (.cells #[.slice D H M,Ji Z,Ji W,.bool false,Ji 0,Ji 0,Ji 0] 83)).heap[V.heap.size]?=some (.cells #[.slice D H M,Ji Z,Ji W,.bool false,Ji 0,Ji 0,Ji 0] 83 (0,0))/\y.heap.size<=V.heap.size:=⟨Below.then bc (Below.one _ _),⟨ax.rd.below (Below.one _ _),ax.len,ax.hi⟩,heap_alloc_new _ _,bc.size⟩;refine Q.out _ _ aB.1 (λT=>?_);clear Q aa T;try simp only[an,JY]
   refine JN 11 (h:=λaa Q=>?_);go_simp;refine Q.out _ _ aB.1 (λT=>?_);clear Q aa T;try simp only[an,JY]
   refine wpAnyH_done Jk ?_ _;clear bc ax;generalize V.alloc (.cells #[.slice D H M,Ji Z,Ji W,.bool false,Ji 0,Ji 0,Ji 0] 83)=ad at aB ⊢;generalize V.heap.size=aD at aB ⊢;exact aI D H M aD ad aB
  skip
  go_simp;refine Q.out _ _ (Below.then T (Below.one _ _)) (λT=>?_);clear Q aa;try simp only[an,JY]
  have aG:(y.alloc (.cells #[Jn,Ji 0,Ji 0,.bool false,Ji 0,Ji 0,Ji 0] 83)).drew.heap[y.heap.size]?=some (.cells #[Jn,Ji 0,Ji 0,.bool false,Ji 0,Ji 0,Ji 0] 83 (0,0)):=heap_alloc_new y _;have aD:y.heap.size<(y.alloc (.cells #[Jn,Ji 0,Ji 0,.bool false,Ji 0,Ji 0,Ji 0] 83)).drew.heap.size:=Js;generalize (y.alloc (.cells #[Jn,Ji 0,Ji 0,.bool false,Ji 0,Ji 0,Ji 0] 83)).drew=bq at T aG aD ⊢;refine JN 5 (h:=λaa Q=>?_);go_simp;refine(ap.o _ T).mono ?_;rintro e V ⟨D,H,M,rfl,aw,aF⟩;have ad:=(aF.block y.heap.size aD).trans aG;have aH:=Below.O T aF;have ax:pZ (y.heap.size+1) D H (jK x.man).Parts V:=aw.mono aD;unfold dH;simp only[bh.o.2.2.2.2.2,J.o.1,J.o.2.1,J.o.2.2.1,J.o.2.2.2.1,J.o.2.2.2.2];refine Q.out _ _ aH (λT=>?_);clear Q aa aF aG aD aw;try simp only[an,JY]
  refine JK 6 (h:=JK 7 (h:=JK 8 (h:=?_)));have be:=cl ad 0 rfl;have bf:=cl ad 1 rfl;have bk:=cl ad 2 rfl;have bl:=cl ad 3 rfl;have bm:=cl ad 4 rfl;have bn:=cl ad 5 rfl;have bo:=cl ad 6 rfl;have br:=(aP ad 0).2;have bt:=(aP ad 1).2;have bu:=(aP ad 2).2;have cT:=(aP ad 3).2;have cU:=(aP ad 4).2;have cV:=(aP ad 5).2;have cW:=(aP ad 6).2;refine JN 10 (h:=λaa Q=>?_);go_simp;have aQ:=am ad (i:=0) (.slice D H M);have aR:=am aQ (i:=1) (Ji Z);have aS:=am aR (i:=2) (Ji W);have aT:=am aS (i:=3) (.bool false);have aV:=am aT (i:=4) (Ji 0);have aW:=am aV (i:=5) (Ji 0);have aG:=am aW (i:=6) (Ji 0);simp only[bg,aM,bG] at aG;have a6:∀aD,aD≠y.heap.size->(((((((V.setCell (Jp y.heap.size 0) (.slice D H M)).setCell (Jp y.heap.size 1) (Ji Z)).setCell (Jp y.heap.size 2) (Ji W)).setCell (Jp y.heap.size 3) (.bool false)).setCell (Jp y.heap.size 4) (Ji 0)).setCell (Jp y.heap.size 5) (Ji 0)).setCell (Jp y.heap.size 6) (Ji 0)).heap[aD]?=V.heap[aD]?:=λaD aZ=>by
   iterate 7 rw[ae _ _ _ _ aZ]
  have bP:Jz y (((((((V.setCell (Jp y.heap.size 0) (.slice D H M)).setCell (Jp y.heap.size 1) (Ji Z)).setCell (Jp y.heap.size 2) (Ji W)).setCell (Jp y.heap.size 3) (.bool false)).setCell (Jp y.heap.size 4) (Ji 0)).setCell (Jp y.heap.size 5) (Ji 0)).setCell (Jp y.heap.size 6) (Ji 0)):=(((((((aH.setCell (p:=(Jp y.heap.size 0)) (ac _) _).setCell (p:=(Jp y.heap.size 1)) (ac _) _).setCell (p:=(Jp y.heap.size 2)) (ac _) _).setCell (p:=(Jp y.heap.size 3)) (ac _) _).setCell (p:=(Jp y.heap.size 4)) (ac _) _).setCell (p:=(Jp y.heap.size 5)) (ac _) _).setCell (p:=(Jp y.heap.size 6)) (ac _) _);have a7:Rd (((((((V.setCell (Jp y.heap.size 0) (.slice D H M)).setCell (Jp y.heap.size 1) (Ji Z)).setCell (Jp y.heap.size 2) (Ji W)).setCell (Jp y.heap.size 3) (.bool false)).setCell (Jp y.heap.size 4) (Ji 0)).setCell (Jp y.heap.size 5) (Ji 0)).setCell (Jp y.heap.size 6) (Ji 0)) 3 D H ((jK x.man).Parts.flatMap aU):=⟨ax.rd.1,λY=>by
   obtain⟨ab,aO,e,a1,aX⟩:=ax.rd.2 Y;have aY:=ax.hi _ e;simp only at aY;exact⟨ab,aO,e,by simpa [aj] using a1,λaD ba a8=>(af (a:=(Jp ab (aO+aD))) (a6 ab Jo)).trans (aX aD ba a8)⟩⟩
  have aB:Jz y (((((((V.setCell (Jp y.heap.size 0) (.slice D H M)).setCell (Jp y.heap.size 1) (Ji Z)).setCell (Jp y.heap.size 2) (Ji W)).setCell (Jp y.heap.size 3) (.bool false)).setCell (Jp y.heap.size 4) (Ji 0)).setCell (Jp y.heap.size 5) (Ji 0)).setCell (Jp y.heap.size 6) (Ji 0))/\pZ y.heap.size D H (jK x.man).Parts (((((((V.setCell (Jp y.heap.size 0) (.slice D H M)).setCell (Jp y.heap.size 1) (Ji Z)).setCell (Jp y.heap.size 2) (Ji W)).setCell (Jp y.heap.size 3) (.bool false)).setCell (Jp y.heap.size 4) (Ji 0)).setCell (Jp y.heap.size 5) (Ji 0)).setCell (Jp y.heap.size 6) (Ji 0))/\(((((((V.setCell (Jp y.heap.size 0) (.slice D H M)).setCell (Jp y.heap.size 1) (Ji Z)).setCell (Jp y.heap.size 2) (Ji W)).setCell (Jp y.heap.size 3) (.bool false)).setCell (Jp y.heap.size 4) (Ji 0)).setCell (Jp y.heap.size 5) (Ji 0)).setCell (Jp y.heap.size 6) (Ji 0)).heap[y.heap.size]?=some (.cells #[.slice D H M,Ji Z,Ji W,.bool false,Ji 0,Ji 0,Ji 0] 83 (0,0))/\y.heap.size<=y.heap.size:=⟨bP,⟨a7,ax.len,λak e=>Jw (ax.hi ak e)⟩,aG,ac _⟩;refine Q.out _ _ aB.1 (λT=>?_);clear Q aa T;try simp only[an,JY]
  refine JN 11 (h:=λaa Q=>?_);go_simp;refine Q.out _ _ aB.1 (λT=>?_);clear Q aa T;try simp only[an,JY]
  refine wpAnyH_done Jk ?_ _;exact aI _ _ _ _ _ aB
 case h2=>
  intro D H M ab av ⟨aD,aw,aT,aY⟩;obtain⟨bj,hi,ar,ao,aN,az,aq,ay,aE,Y⟩:=aC.o;obtain⟨aZ,a1,a6,a7,a8,aS⟩:=bh.o;have aB:=au.o.below aD;have bT:Lt col av:=aB.lt;obtain⟨aI,b4⟩:∃aJ,av.heap.size=aJ:=⟨_,rfl⟩;have bQ:ab<aI:=by rw[<-b4];exact(Jl aT)
  obtain⟨aG,cY,aQ,bV,aW⟩:∃aG,av.alloc (.cells #[Jv v.bs,Ji 0,Jn] 156)=aG/\Jz av aG/\aG.heap.size=aI+1/\
   aG.heap[aI]?=some (.cells #[Jv v.bs,Ji 0,Jn] 156 (0,0)):=⟨_,rfl,Below.one _ _,by simp[b4],by rw[<-b4];exact heap_alloc_new _ _⟩
  obtain⟨aV,T,ax,ak,aa⟩:=aB.TT (ch:=aI) Jo aQ aW;have Q:=(aQ.block ab Jo).trans aT;have ah:∀k,y.heap.size<=k->k≠aI->aV k=0:=λk aK aL=>by
   rw[aa k aL];exact bC.o.lt.zero (Jx bD.o.size bZ.o.size)
  have aF:aV bb=0:=by
   have:=b0.o;rw[aa bb Jo];exact bC.o.lt.zero (Jw bD.o.size)
  have ba:=(aQ.block bb (Jx b0.o aD.size)).trans ((aD.block bb (Jw b0.o)).trans bi.o);have bW:=cl ba 0 rfl;have bY:=aB.c1;have be:=T.c3;have bk:=T.c4;have bl:=T.c5;have bx:=T.c6;have bz:=T.c7;have bB:=T.c8;have bU:=T.c9;rw[Y] at be;rw[aZ] at bk;rw[a1] at bl;rw[a6] at bx;rw[hi.day] at bz;rw[a7] at bB;rw[a8] at bU;have bm:=cl Q 0 rfl;have bn:=cl Q 1 rfl;have bo:=cl Q 2 rfl;have bq:=cl Q 3 rfl;have br:=cl Q 4 rfl;have bt:=cl Q 5 rfl;have bu:=cl Q 6 rfl;have aH:=Jh (λ(V:JW)(h:Jz aG V)=>fw day v.A v.cp cc x.man V (by simpa [Y] using (T.below h).man.on) Y Jo);rw[ao] at aH;unfold dH at aH;rw[aZ,a1,a6,hi.day,a7,a8] at aH;have ad:Rd (Off (jB aV) aG) 3 D H ((jK x.man).Parts.flatMap aU):=(aw.off λk bR=>au.o.lt k bR).part (ak.part Jo);have bS:H<=13:=by
   have aK:=aw.len;have aL:(jK x.man).Parts.length<=x.man.Parts.length+1:=by
    show(jC _ _).length<=_;rw[qJ];have:=fb (kp x.man.Day) x.man.Parts;omega
   omega
  have aO:=Jh (λ(V:JW)(h:Jz aG V)=>fw day D M H (jK x.man) V (ad.on.below h) aw.len Jo);rw[aE] at aO;unfold dH at aO;rw[aS,J.o.1,J.o.2.1,J.o.2.2.1,J.o.2.2.2.1,J.o.2.2.2.2] at aO;simp only[fu,Option.isSome_some,fL] at aH aO;obtain⟨cd,ce,X⟩:=cR;obtain⟨V,aR⟩:∃aX,cE x.man.Next=aX:=⟨_,rfl⟩;rw[aR] at aO;simp only at aH;have bA:=Jh (Ja T (Ja ax (Ja ak (Ja aa (Ja ad (Ja aw.len (Ja ah aF)))))));have cf:=Jh (Ja aD (Ja aQ (Ja Q ba)));have bE:=Jh aR;have cg:=Jh (Ja bS (Ja aY (Ja bQ bT)));have cA:=Jh bV;clear aD aw aT aY bj hi ar ao aN az aq ay aE Y aZ a1 a6 a7 a8 aS aB bT aQ aW T ax ak aa Q ah aF ba ad bS aR bV bQ bH bI bJ bK bL bM bN b1 bO b2 b3 ap;go_wp2_with fail;refine(aH.o _ (ag _ _)).mono ?_;rintro e bv ⟨rfl,aR⟩;obtain⟨bw,cZ,bP,aW,aX⟩:∃bw,bv.alloc (.cells #[Ji cd,Ji ce,.string (S X)] 76)=bw/\Jz bv bw/\bw.heap.size=bv.heap.size+1/\bw.heap[bv.heap.size]?=some (.cells #[Ji cd,Ji ce,.string (S X)] 76 (0,0)):=⟨_,rfl,Below.one _ _,Js,heap_alloc_new _ _⟩;have aB:=Below.O aR bP;have bm:=al aB bm;have bn:=al aB bn;have bo:=al aB bo;have bq:=al aB bq;have br:=al aB br;have bt:=al aB bt;have bu:=al aB bu;have bf:=Jh (Ja aB (Ja aW aX));obtain⟨aT,cj⟩:∃aJ,bv.heap.size=aJ:=⟨_,rfl⟩;have cz:=Jh aR
  clear aR bP aW aX aB be bk bl bx bz bB bU bW bY aH;go_wp2_with fail;refine(aO.o _ bf.o.1).mono ?_;rintro e bx ⟨rfl,aB⟩;obtain⟨aH,da,b5,cO,cu⟩:∃aH,bx.alloc (.cells #[Ji day,Ji 1,.string (S V)] 76)=aH/\Jz bx aH/\aH.heap.size=bx.heap.size+1/\aH.heap[bx.heap.size]?=some (.cells #[Ji day,Ji 1,.string (S V)] 76 (0,0)):=⟨_,rfl,Below.one _ _,Js,heap_alloc_new _ _⟩;obtain⟨bz,ck⟩:∃aJ,bx.heap.size=aJ:=⟨_,rfl⟩;obtain⟨bj,hi,ar,ao,aN,az,aq,ay,aE,Y⟩:=aC.o;obtain⟨T,ax,ak,aa,ad,aA,ah,aF⟩:=bA.o;obtain⟨aD,aQ,Q,ba⟩:=cf.o;obtain⟨bS,aY,bQ,bT⟩:=cg.o;have bV:=cA.o;have cL:=bf.o.1.size;have cM:=cz.o.size;have cN:=aB.size;have cF:aT<bz:=by rw[<-cj,<-ck];have:=bf.o.2.1;omega
  have aR:Jz aG aH:=Below.O bf.o.1 (Below.O aB b5);have be:aH.heap[bz]?=some (.cells #[Ji day,Ji 1,.string (S V)] 76 (0,0)):=by rw[<-ck];exact cu
  have aW:aH.heap[aT]?=some (.cells #[Ji cd,Ji ce,.string (S X)] 76 (0,0)):=by
   have aJ:=bf.o.2.2;rw[cj] at aJ;exact((b5.block aT Jo).trans (aB.block aT (Jl aJ))).trans aJ
  have aX:=(aR.block ab Jo).trans Q;have cQ:=cl be 2 rfl;have bl:aV ab=0:=ah ab aY Jo;have bk:aV aT=0:=ah aT (Jw aD.size) Jo;have bW:aV bz=0:=ah bz (Jw aD.size) Jo;obtain⟨b9,cH⟩:=jg ao;obtain⟨cP,cG,bU,-⟩:=mS hi.ok hi.next b9;simp only at bU;obtain⟨cx,cb⟩:=dA hi.ok.n0;have cJ:cx<=1000:=Jw hi.next;have b7:lC V:=by rw[<-bE.o,cb];exact wc Jo
  have cr:lC X:=by rw[bU];exact wc Jo
  have cK:=(ar.day day).Cp;have cq:=hi.nf;have b8:=hi.file _ b9;simp only at b8;rw[bE.o] at az;have co:=lO x.fs V x.nf;have bY:=Jh (nP aV aI v.bs v.bd 0 x.nf x.fs V (mB N (fa ai day)) aH (ax.below aR) b7 Jo hi.K Jo Jo Jo);have b6:jA (eX x.fs V (mB N (fa ai day))):=jA.set hi.K b7.short Jo;have cm:jA (oe (eX x.fs V (mB N (fa ai day))) X):=b6.del X;have ct:((eX x.fs V (mB N (fa ai day))) X).isSome=true:=by rw[fN _ _ az,b8];rfl
  have cn:((oe (eX x.fs V (mB N (fa ai day))) X) eM).isSome=true:=by
   rw[oZ _ (by rw[bU];exact(ni cP).symm),fN _ _ (by rw[<-bE.o,cb];exact(ni cx).symm)];exact hi.U
  rw[cB.o] at bY;have bB:=Jh (Ja aR (Ja be (Ja aW (Ja aX (Ja bl (Ja bk bW))))));have aJ:=Jh (Ja cr (Ja b6 (Ja cm (Ja ct (Ja cn (Ja co cq))))));clear aB b5 cO cu bj hi ar ao aN az aq ay aE Y T ax ak aa ad aA ah aF aD aQ Q ba bS aY bQ bT bV cL cM cN cF aR be aW aX bl bk bW b9 cH cG bU cb cJ b7 cr cK cq b8 co b6 cm ct cn bm bn bo bq br bt bu aO;go_wp2_with fail;refine bY.o.mono ?_;rintro e co ⟨rfl,cn,aB,aQ⟩;obtain⟨aR,be,aW,aX,bl,bk,bW⟩:=bB.o;have aD:=(aB.at (c:=0) (by unfold c37;omega) aT (Jl aW) bk);have Q:=(aB.at (c:=0) (by unfold c37;omega) ab (Jl aX) bl);have ba:=Q.2.trans aX;have u2:=cl (aD.2.trans aW) 2 rfl;have bQ:=Jh (xd cn aI v.bs v.bd 1 _ _ X co aQ aJ.o.1 aJ.o.2.2.2.1 aJ.o.2.1 (Jw aJ.o.2.2.2.2.2) Jo);have b5:=Jh (Ja aB (Ja aQ (Ja ba Q.1)));clear aR be aW aX bl bk bW aD Q ba aB aQ cQ bY;go_wp2_with fail;refine bQ.o.mono ?_;rintro e cb ⟨rfl,bW,aD,aW⟩;obtain⟨aB,aQ,ba,bk⟩:=b5.o;have aX:=(aD.at (c:=0) (by unfold c37;omega) ab (Jl ba) bk);have Q:=aX.2.trans ba;have bm:=cl Q 0 rfl;have bn:=cl Q 1 rfl;have bo:=cl Q 2 rfl;have bq:=cl Q 3 rfl;have br:=cl Q 4 rfl;have bt:=cl Q 5 rfl;have bu:=cl Q 6 rfl;obtain⟨T,ax,ak,aa,ad,aA,ah,aF⟩:=bA.o;have aR:=T.below bB.o.1;have be:=aR.TP aB aQ
  have aO:=be.TP aD aW;have aY:Rd (Off (jB bW) cb) 3 D H ((jK x.man).Parts.flatMap aU):=((ad.part (gP bB.o.1)).part (aB.part (by unfold c37;omega))).part (aD.part (by unfold c37;omega));have bS:=Jh (ul bW aI v.bs v.bd 2 _ _ D H M (jK x.man) cb aW aY.on aA (Jw cg.o.1) aC.o.2.2.2.2.1 aO.E.pow aO.E.errs aJ.o.2.2.1 (by
   have aK:=IU (eX x.fs V (mB N (fa ai day))) X (cntF x.fs V x.nf);have aL:=aJ.o.2.2.2.2.2;omega) (by
   have aK:=IU (eX x.fs V (mB N (fa ai day))) X (cntF x.fs V x.nf);have aL:=aJ.o.2.2.2.2.2;unfold cntF at aK aL ⊢;rw[if_pos aJ.o.2.2.2.2.1];omega) Jo)
  unfold dH at bS;obtain⟨aZ,a1,a6,a7,a8,aS⟩:=bh.o;rw[aS,J.o.1,J.o.2.1,J.o.2.2.1,J.o.2.2.2.1,J.o.2.2.2.2] at bS;have bV:=Jh (Ja aD (Ja aW (Ja Q (Ja aX.1 (Ja aO aY)))));clear aB aQ ba bk aX Q T ax ak aa ad aA ah aF aR be aO aY aD aW u2 bQ aZ a1 a6 a7 a8 aS;go_wp2_with fail;refine bS.o.mono ?_;rintro e bQ ⟨rfl,bT,ba,bU⟩;obtain⟨aD,aW,aX,b8,aO,aY⟩:=bV.o;have aR:=(ba.at (c:=0) (by unfold c37;omega) ab (Jl aX) b8).2.trans aX;have bm:=cl aR 0 rfl;have bn:=cl aR 1 rfl;have bo:=cl aR 2 rfl;have bq:=cl aR 3 rfl;have br:=cl aR 4 rfl;have bt:=cl aR 5 rfl;have bu:=cl aR 6 rfl;obtain⟨cq,cr,ct,b9,-⟩:=bU.s.ex;have bO:=cl b9 1 rfl;have Q:=aO.TP ba bU;have cT:=Q.fz 3;have cU:=Q.fz 4;have cV:=Q.fz 5;have cW:=Q.fz 6;have z7:=Q.fz 7;have cQ:=Q.fz 8;have dg:=Q.fz 9;have cO:=Q.fz 14;have cG:=Q.c3;have cH:=Q.c4;have cJ:=Q.c5;have cK:=Q.c6;have cL:=Q.c7;have cM:=Q.c8;have cN:=Q.c9;have cu:=Q.c13;have cF:=Q.c14;obtain⟨T,ax,ak,aa,ad,aA,ah,aF⟩:=bA.o;have b7:Rd (Off (jB bT) bQ) 3 D H ((jK x.man).Parts.flatMap aU):=aY.part (ba.part (by unfold c37;omega));obtain⟨aQ,bk⟩:=Q.Ct (A:=D) (c:=M) (s:=jK x.man) b7 aA;obtain⟨aZ,a1,a6,a7,a8,aS⟩:=bh.o
  have bY:jY bQ d D H M (jK x.man).Next (jK x.man).Past (jK x.man).On (jK x.man).Day (jK x.man).To (jK x.man).Done=jY bQ d D H M Z W false 0 0 0:=by rw[aS,J.o.1,J.o.2.1,J.o.2.2.1,J.o.2.2.2.1,J.o.2.2.2.2]
  rw[bY] at aQ bk;obtain⟨be,bl⟩:=aQ.self (w':=(jY bQ d D H M Z W false 0 0 0).setCell (Jp d 14) (.pointer none)) (v':={v with A:=D,cp:=M,wv:=.pointer none}) (x':={x with fs:=eX (oe (eX x.fs V (mB N (fa ai day))) X) eM (iG (jK x.man)),nf:=cntF (oe (eX x.fs V (mB N (fa ai day))) X) eM (sA (eX x.fs V (mB N (fa ai day))) X (cntF x.fs V x.nf)),man:=jK x.man,work:=none}) (fA _ _ _ _) ⟨rfl,rfl,rfl,rfl⟩ ⟨rfl,rfl,rfl,rfl,rfl⟩ (by
   rw[am aQ.blk];rfl) aQ.man aQ.hd aQ.hcap aQ.oE rfl
  have b6:pJ day:=by
   have aK:=aC.o.2.1.ok.part _ (jg aC.o.2.2.2.1).1;have aL:=(jg aC.o.2.2.2.1).2;simp only at aK aL;have bc:=aK.1;unfold lW at bc;unfold pJ;omega
  have cm:=Jh (Gb _ v.bp x.m x.cnt day _ be.pol b6);have bc:=Jh (Ja ba (Ja bk (Ja bl be)));clear aD aW aX b8 aO aY aR b9 Q T ax ak aa ad aA ah aF b7 aQ bk aZ a1 a6 a7 a8 aS bY be bl ba bU b6;go_wp2_with fail;refine cm.o.mono ?_;rintro e bU ⟨rfl,aQ,Q⟩;have aZ:=Jh (Ja aQ Q);clear aQ Q;go_wp2_with fail;go_ret;obtain⟨aQ,Q⟩:=aZ.o;obtain⟨ba,bk,bl,be⟩:=bc.o;obtain⟨aD,aW,-,-,aO,aY⟩:=bV.o;obtain⟨aB,-⟩:=b5.o;obtain⟨T,ax,ak,aa,ad,aA,ah,aF⟩:=bA.o;have aX:bF (λc=>c=5) bT bT _ bU:=ya be.lt Q;have a6:=be.UQ aX Jo Jo Jo Jo Jo Jo aQ;have aq:=aC.o.2.2.2.2.2.2.1;refine⟨rfl,_,ic.WH aC.o.1 a6 ?_,?_⟩
  ·have aR:=bC.o.lt;have aS:=aR.mono bD.o.size;have a7:=aS.mono bZ.o.size;have a8:=T.lt;have a1:=((((bF.of (P:=λc=>c≠0) aR bD.o).trans (bF.of aS bZ.o)).trans (bF.of a7 cf.o.1)).trans (ak.mono λ_ e=>Jo)).trans (bF.of a8 bB.o.1);exact((((((a1.trans (aB.mono λ_ e=>by unfold c37 at e;omega)).trans (aD.mono λ_ e=>by unfold c37 at e;omega)).trans (ba.mono λ_ e=>by unfold c37 at e;omega)).trans (bk.mono λ_ e=>Jo)).trans (bl.mono λ_ e=>Jo)).trans (aX.mono λ_ e=>Jo))
  unfold Dq Sb at aq;rw[bE.o] at aq;exact aq
end
section
open Go Go.RowKit Go.Shelf Go.Lib Go.Sort
theorem Es:∀D:List Int,D.flatMap iS=D.map (cY .i64)
 |[]=>rfl
 |y :: D=>by rw[aE,Es D];rfl
theorem bP.Tr {R:Nat->Prop}{K:TypeId}{g n c:Nat}{af:List Int}{w:JW}(h:bP R K 1 (.slice (some (Jp g 0)) n c) n (af.flatMap iS) w)(y:List Int)(hy:y.length=n)(m:Nat)(E:Array Obj):
 bP R K 1 (.slice (some (Jp g 0)) n c) n (y.flatMap iS) (grow (putRow (cY .i64) (Sort.ahead w m) g 0 y.toArray) E)/\ow g w (grow (putRow (cY .i64) (Sort.ahead w m) g 0 y.toArray) E):=by
 have ab:∀D:Int,(iS D).length=1:=λ_=>rfl;rcases h.1.2 with⟨X,_⟩|⟨ah,ag,M,V,Y,O,T,ad,U,aj⟩
 ·simp at X
 simp only[Value.slice.injEq,Option.some.injEq,Addr.mk.injEq] at V;obtain⟨⟨rfl,_,_⟩,_,rfl⟩:=V;have ac:=(Jl O);have W:∀D,D<w.heap.size->(grow (putRow (cY .i64) (Sort.ahead w m) g 0 y.toArray) E).heap[D]?=(putRow (cY .i64) w g 0 y.toArray).heap[D]?:=by
  intro D H;show((putRow (cY .i64) (Sort.ahead w m) g 0 y.toArray).heap ++ E)[D]?=_;rw[Array.getElem?_append_left (by simpa [putRow,mapBlock] using H)];rfl
 refine⟨⟨⟨by rw[de ab,hy],.inr ⟨g,c,putCells (cY .i64) 0 y.toArray M,rfl,Y,?_,T,ad,by simp[putCells,U],?_⟩⟩,h.2⟩,rfl,rfl,rfl,?_,λD H ae=>?_⟩
 ·rw[W g ac];simp[putRow,mapBlock,onCells,aA,O]
 ·refine List.ext_getElem? λJ=>?_;rw[Es];by_cases Q:J<n*1
  ·have Z:J<M.size:=by rw[U];exact ai Q (dP _ T)
   have aa:J<y.length:=Jo;rw[List.getElem?_take_of_lt Q];simp[putCells,Z,aa]
  rw[gW (by rw[aF];omega),gW (by rw[bU];omega)]
 ·show _<=((putRow (cY .i64) (Sort.ahead w m) g 0 y.toArray).heap ++ E).size;simp[putRow,mapBlock,Sort.ahead]
 rw[W D H];simp[putRow,mapBlock,aA,fV ae]
theorem Nc (R:Nat->Prop)(D:JA)(c n:Nat)(y:List Int)(w:JW)(h:bP R 3 1 (.slice D n c) n (y.flatMap iS) w)(U:y.length=n)(aj:n<=100000):
 JC 81 #[.slice D n c] w λe w'=>e= .returned (.tuple #[])/\∃V:List Int,V.Perm y/\(V.Pairwise λa b=>a<=b)/\bP R 3 1 (.slice D n c) n (V.flatMap iS) w'/\wK (.slice D n c) w w':=by
 rcases dx n with O|O
 ·subst O;have H:y=[]:=bu U;subst H;refine(Tryz.slices_Sort_int_none D c w).mono ?_;rintro e w' ⟨T,E⟩;subst E;exact⟨T,[],List.Perm.refl _,cj,h,wK.of (ag _ _)⟩
 obtain⟨K,rfl,-,-⟩:=h.own O;have ac:=(h.1.lt K rfl).2;have Z:Holds (cY .i64) w K 0 y.toArray:=λX aa=>by
  have E:X<y.length:=by simpa using aa
  obtain⟨b,H,e,-,M⟩:=h.rd.elem (cells:=iS) (C:=1) (λ_=>rfl) Jd E;obtain⟨rfl,rfl⟩:K=b/\0=H:=by simpa using e
  refine⟨?_,by have:=h.cell (0+X);exact this⟩;have Q:=M 0 _ rfl;simp only[Nat.mul_one,dz] at Q;rw[Q];congr 1;simp[E]
 have M:=Tryz.slices_Sort_int K 0 c y w Z ac Jo;rw[U] at M;refine M.mono ?_;rintro e w' ⟨T,af,ah,rfl⟩;have W:=List.mergeSort_perm y λH J=>decide (H<=J);obtain⟨ai,E⟩:=h.Tr (y.mergeSort λH J=>decide (H<=J)) (W.length_eq.trans U) af ah;refine⟨T,_,W,?_,ai,E.os,E.tape,E.output,E.size,λae ab ad=>E.block ae ab λY=>ad (by simp[aG,Y])⟩;have:=List.pairwise_mergeSort (le:=λH J:Int=>decide (H<=J)) (λa b c Q Y=>by simp at*;omega) (λa b=>by simp;omega) y;exact cQ (λ{a b} h=>by simpa using h) this
end
theorem Nh (E:JA)(H y:Nat)(rows:List Row)(w:JW)(hr:Rd w 3 E y (rows.flatMap aR))(Q:rows.length=y)(W:y<=H)
 (ho:Once kR rows) (J:∀r∈rows,Row.ok r) (V:y<=1000) (K:∀X,(cF rows X).length<20) (M:∀L:List Int,L.Nodup->(∀i∈L,∃r∈rows,r.ID=i)->L.length<=12):
 JC 171 #[.slice E y H] w λe w'=>∃v D out,e= .returned v/\fP w.heap.size 68 v D out w'/\(∀x∈D,x.n<=x.c/\x.c<=maxLen)/\jV [] rows out/\Jz w w':=by
 have U:=Jh (vt none 0 [] [] E H y rows w ⟨rfl,Rd.nil _ _ _,λi O=>absurd O Js⟩ hr Q W Js jP.nil ho J Js Js Js V K M);clear hr Q ho J K M;go_enter Tryz.func171,Tryz.ntmps171;go_wp2_with fail;refine U.o.mono ?_;rintro e w' ⟨v,D,out,rfl,J,K,M,O⟩;have T:=Jh (Ja J (Ja K (Ja M O)));clear J K M O;go_wp2_with fail;go_ret;exact⟨v,D,out,rfl,T.o⟩
theorem BE (N:Nat)(D:List Int)(y:Held N D)(ad:D≠[])(J:JA)(K k:Nat)(w:JW)(hr:Rd w 3 J k ((df N D).flatMap aR))(W:(df N D).length=k)(hc:k<=K):
 JC 82 #[Ji 0,.slice J k K] w λe w'=>e= .returned (.tuple #[.string (S (oo N D)),Ji 0])/\Jz w w':=by
 have ak:=y.cnt;have Q:=y.good;refine vC (S (oo N D)) J K k (df N D) w hr W Jo y.rise λE H=>?_;refine(Nh J K k (df N D) E (hr.below H) W hc Q.once Q.ok Jo Q.few Q.ids).mono ?_;rintro e w' ⟨ag,Y,am,rfl,U,ab,ae,aa⟩;obtain rfl:=ae.one (wt y.up);obtain⟨E,H,rfl⟩:∃E H,ag= .slice E Y.length H:=by
  obtain⟨T,-,-,M,-⟩:=U;obtain⟨E,H,O⟩:=M.form;exact⟨E,H,O⟩
 refine⟨_,rfl,aa,?_⟩;have T:=U.yy;have ai:=y.few;have al:=T.len;have ac:=y.sb ad;have X:=El E H Y (full N D) w' T (λaf M O=>?_) Jo λZ V=>Jw (y.short Z V)
 ·rw[ac] at X;exact X
 obtain⟨k,aj,Z⟩:=lZ (ah O);have V:=(T.at_ af M).id;rw[Z] at V;refine⟨?_,(y.Wa _ (ah O)).1,ab _ (ah M)⟩;have:=y.n4;unfold In64;simp only[fo] at V;omega
section
attribute [local go_sem] Oper.semAt_some
open Classical in
theorem cI.add {col:Nat->Nat}{d J:Nat}{v:nI}{x:iU}{w w':JW}{D:Nat->Prop}(h:cI col d v x w)(h1:si D (λk=>(k<w.heap.size/\jB col k)∨D k) v.bx J w')(h2:jl (λk=>col k=4) w w')(O:∀k,D k->col k=4∨(w.heap.size<=k/\k<w'.heap.size)):
 ∃K,cI K d v {x with N:=J} w'/\bF (λc=>c=4) col K w w':=by
 obtain⟨M,Q⟩:=tH h2 O h.lt;refine⟨_,h.WC M Jo Jo Jo Jo Jo Jo (h1.move (λk _ E=>⟨Q k E,rfl⟩) (eW (ac _) (λ_ _ _=>rfl) λk _ y=>?_)),M⟩;have y:(if k<w.heap.size then col k else if D k then 4 else 0)≠0:=y;by_cases H:k<w.heap.size
 ·left;rw[if_pos H] at y;exact⟨H,y⟩
 right;rw[if_neg H] at y;exact Decidable.byContradiction λE=>y (if_neg E)
theorem Mz (col:Nat->Nat)(d:Nat)(v:nI)(x:iU)(w:JW)(h:cI col d v x w)(J U:JA)(K W V:Nat)(av:x.N<8)(hr:Rd (Off (jB col) w) 2 J 1 (dR (kE (iB x.N)))):
 JC 44 #[Jv d,GP 0 (.slice J 1 K) (.slice U W V)] w λe w'=>e= .returned (.tuple #[])/\∃O,cI O d v {x with N:=x.N+1} w'/\bF (λc=>c=4) col O w w':=by
 obtain⟨D,Q⟩:=Je w.heap.size;obtain⟨E,aB,aw,aD,ai⟩:∃E,(w.alloc (.cells #[Jv d] 25)).alloc (.cells #[Ji 0,.slice J 1 K,.slice U W V,Jn,Ji 0] 108)=E/\Below D w E/\E.heap[D]?=some (.cells #[Jv d] 25 (0,0))/\E.heap[D+1]?=some (.cells #[Ji 0,.slice J 1 K,.slice U W V,Jn,Ji 0] 108 (0,0)):=by
  have y:=heap_alloc_new (w.alloc (.cells #[Jv d] 25)) (.cells #[Ji 0,.slice J 1 K,.slice U W V,Jn,Ji 0] 108);rw[aI,Q] at y;refine⟨_,rfl,Q▸cZ _ _ _,?_,y⟩;rw[<-Q];exact(heap_alloc_old _ _ Js).trans (heap_alloc_new _ _)
 have Z:Below w.heap.size w E:=by rw[Q];exact aw
 have H:=h.below Z;have aH:prog.follows .mixedOrders=true:=Jk;have aj:=cl aD 0 rfl;have aJ:=cl ai 0 rfl;have ak:=cl ai 1 rfl;have Y:=H.c2;have az:=gP (F:=jB col) Z;have aA:Part (Off (jB col) w) (Off (λy=>col y=4) E):=az.trans (eW (ac _) (λ_ _ _=>rfl) λy _ e=>by show col y≠0;omega);have am:=Jh (Gl (λy=>col y=4) (jB col) v.bx x.N J K E.drew (H.below (ag _ _).drew).idx (λy e=>by show col y≠0;omega) (λy e=>H.lt y e) av ((hr.part aA).part (gP (ag _ _).drew)));have ao:=Jh aB;have X:=Jh (H.below (ag _ _).drew);have M:=Jh (Ja h.lt Z);unfold GP;go_enter Tryz.func44,Tryz.ntmps44;go_wp2_with fail;try simp only[ao.o]
 try go_wp2_with fail
 refine wp_region_held_drew (S:=λw'=>w'.cell? (Jp D 0)=some (Jv d)/\w'.cell? (Jp (D+1) 1)=some (.slice J 1 K)/\w'.cell? (Jp d 2)=some (Jv v.bx)) Jk ?_ (λar=>?_)
 ·exact⟨aj,ak,Y⟩
 refine JK 0 (h:=JK 1 (h:=JK 2 (h:=JK 3 (h:=JK 4 (h:=JK 5 (h:=?_))))));refine JN 6 (h:=λT au=>?_);go_simp;refine am.o.mono ?_;rintro e al ⟨rfl,aF,ap,H,aq⟩;have aG:=X.o.lt;have aC:∀y,D<=y->col y≠4:=λy ae e=>by
  have:=M.o.1.zero (k:=y) Jo;omega
 have ad:∀y T,D<=y->∀ab,E.cell? (Jp y T)=some ab->al.cell? (Jp y T)=some ab:=λy T ae ab ah=>by
  have aa:=bq _ _ ah;exact(af (a:=(Jp y T)) (H.block y aa (aC y ae))).trans ah
 have ay:al.cell? (Jp d 2)=some (Jv v.bx):=by
  have aa:=bq _ _ Y;exact(af (a:=(Jp d 2)) (H.block d aa (by rw[X.o.cd];omega))).trans Y
 obtain⟨O,ax,aE⟩:=X.o.add ap H aq;refine au.out _ _ ⟨ad D 0 Jo _ aj,ad (D+1) 1 Jo _ ak,ay⟩ (λar=>?_);have aa:=Jh (Ja ax aE);try simp only[an,JY]
 refine wpAnyH_done Jk ?_ _;go_wp2_with fail;go_end0;exact⟨rfl,O,aa.o.1,((bF.of M.o.1 M.o.2).trans (bF.of (M.o.1.mono M.o.2.size) (ag _ _).drew)).trans aa.o.2⟩
theorem AP (col:Nat->Nat)(d:Nat)(v:nI)(x:iU)(w:JW)(h:cI col d v x w)(V J:JA)(X W y K:Nat)(rows:List Row)(l:List eP)(hr:Rd (Off (jB col) w) 3 J y (rows.flatMap aR))(aE:rows.length=y)(aH:y<=K)(aJ:y<=1000)(U:jn rows)(aF:jV x.head rows l)
 (hc:jP x.head) (aC:∀s∈x.head,s.L.length<=1000) (aW:x.head.length<=1000):
 JC 44 #[Jv d,GP 1 (.slice V X W) (.slice J y K)] w λe w'=>e= .returned (.tuple #[])/\∃v',cI col d v' {x with head:=l} w'/\bF (λc=>c=1) col col w w':=by
 obtain⟨M,Q⟩:=Je w.heap.size;obtain⟨E,aL,aA,aK,aM,ao⟩:∃E,(w.alloc (.cells #[Jv d] 25)).alloc (.cells #[Ji 1,.slice V X W,.slice J y K,Jn,Ji 0] 108)=E/\Below M w E/\E.heap.size=M+2/\E.heap[M]?=some (.cells #[Jv d] 25 (0,0))/\E.heap[M+1]?=some (.cells #[Ji 1,.slice V X W,.slice J y K,Jn,Ji 0] 108 (0,0)):=by
  have D:=heap_alloc_new (w.alloc (.cells #[Jv d] 25)) (.cells #[Ji 1,.slice V X W,.slice J y K,Jn,Ji 0] 108);rw[aI,Q] at D;refine⟨_,rfl,Q▸cZ _ _ _,by simp[Q],?_,D⟩;rw[<-Q];exact(heap_alloc_old _ _ Js).trans (heap_alloc_new _ _)
 have aj:Below w.heap.size w E:=by rw[Q];exact aA
 have ab:Jz w E.drew:=aj.drew;have H:=h.below ab;have aD:prog.follows .mixedOrders=true:=Jk;have ap:=cl aM 0 rfl;have aY:=cl ao 0 rfl;have aq:=cl ao 2 rfl;have ah:=H.c10;have aX:v.xs.length=x.head.length:=H.hd.len.symm;have af:=Jh (lK v.hA v.hc v.xs x.head J K y rows E.drew H.hd.on (hr.part (gP ab)).on aE aH H.hcap hc U.once U.ok H.oE aC Jo aJ U.few U.ids);have aw:=Jh aL;have Y:=Jh H;have ag:=Jh (Ja h.lt (Ja aj ab));have av:=Jh aF;obtain⟨aN,ak⟩:=Je v.xs.length;rw[ak] at ah af;have ax:=Jh ak;have aV:=H.dl;have aS:=Jh aK;unfold GP;go_enter Tryz.func44,Tryz.ntmps44;go_wp2_with fail;try simp only[aw.o]
 try go_wp2_with fail
 refine cB (n:=8) (S:=λw'=>w'.cell? (Jp M 0)=some (Jv d)/\w'.cell? (Jp (M+1) 2)=some (.slice J y K)/\w'.cell? (Jp d 10)=some (.slice v.hA aN v.hc)) aD 8 rfl ⟨ap,aq,ah⟩ (λay=>?_);refine JH 0 (h:=JH 1 (h:=JH 2 (h:=JH 3 (h:=JH 4 (h:=JH 5 (h:=JH 6 (h:=?_)))))));refine JM 7 (h:=λD az=>?_);go_simp;refine af.o.mono ?_;rintro e aQ ⟨aZ,ad,aP,rfl,ai,ac,aG,O⟩;obtain rfl:=aG.one av.o;obtain⟨ae,Z,rfl,aa⟩:=ai.off (F:=jB col) λT D=>Y.o.lt T D;obtain⟨aO,T⟩:=Je ad.length;have aB:aO<=Z:=by rw[<-T];exact Ce ai
 rw[T];have D:=Y.o.below O;have aU:=D.blk;have aT:=D.fz 10;have ar:=D.c10;rw[ax.o] at ar;have au:=Jh (Ja D (Ja aa (Ja ac (Ja T O))));refine az.out _ _ ⟨al O ap,al O aq,ar⟩ (λay=>?_);try simp only[an,JY]
 refine cy Jk ?_;go_wp2_with fail;go_end0;obtain⟨D,aa,ac,T,O⟩:=au.o;subst T;obtain⟨ay,az⟩:=D.self (w':=aQ.setCell (Jp d 10) (.slice ae ad.length Z)) (v':={v with hA:=ae,hc:=Z,xs:=ad}) (x':={x with head:=aP}) (fA _ _ _ _) ⟨rfl,rfl,rfl,rfl⟩ ⟨rfl,rfl,rfl,rfl,rfl⟩ (by
  rw[am D.blk];rfl) D.man aa aB ac D.wk
 exact⟨rfl,_,ay,((bF.of ag.o.1 ag.o.2.2).trans (bF.of Y.o.lt O)).trans az⟩
theorem VC {C:Prop}(F:JA->Nat->Nat->Nat->World->Prop){G:JA->Nat->Nat->Nat->World->Prop}(h1:(∀a b c d e,F a b c d e->G a b c d e)->C)(h2:∀a b c d e,F a b c d e->G a b c d e):C:=h1 h2
structure WR (B B1:Nat) (w w1:JW) (rows:List Row) (i:Nat) (wr:JW):Prop where
 le:i<=rows.length
 ex:∃(n:Nat)(G:List qg),n<=i/\MapAt prog 3 wr B n (mapD G)/\kH B1 G wr/\pI G (rows.take i)
 sR:Below B w wr
 s:jl (λk=>k=B) w1 wr
 sz:B1<=wr.heap.size
structure WS (B br n:Nat) (G:List qg) (wq:JW) (m cd:Nat) (A:JA) (ds:List Int) (left:Lit->Bool) (cnt:Nat) (wr:JW):Prop where
 len:ds.length=m
 ran:kJ prog 3 wr B br n (mapD G) left cnt
 lie:bP (λj=>j<=br) 3 1 (.slice A m cd) m (ds.flatMap iS) wr
 of:∀d∈ds,left (.int .i64 d)=false/\∃e∈G,e.id=d
 all:∀e∈G,left (.int .i64 e.id)=false->e.id∈ds
 once:ds.Nodup
 s:jl (λk=>k=br) wq wr
 sz:br<wr.heap.size
def Wi (B H n:Nat)(G:List qg)(O:JW)(M:Value)(wr:JW):Prop:=∃(E D:Nat)(y:JA)(K:List Int)(left:Lit->Bool)(J:Nat),M= .slice y E D/\WS B H n G O E D y K left J wr
theorem JG {G:List qg}{rows:List Row}(h:pI G rows){e:qg}(E:e∈G):∃r∈rows,r.T / 100=e.id:=by
 obtain⟨D,y⟩:=h.each e E;rw[D] at y;obtain⟨r,H⟩:=List.exists_mem_of_ne_nil _ y;obtain⟨J,K⟩:=List.mem_filter.1 H;exact⟨r,J,by simpa using K⟩
theorem Dr {G:List qg}{rows:List Row}(h:pI G rows){y:List Int}(K:y.Nodup)(E:∀d∈y,∃e∈G,e.id=d):y.length<=rows.length:=by
 have:=rD (m:=rows.map λD=>D.T / 100) K λd J=>by
  obtain⟨e,H,rfl⟩:=E d J;obtain⟨D,M,e⟩:=JG h H;exact List.mem_map.2 ⟨D,M,e⟩
 rwa [bU] at this
def WU (E N:Nat)(M:JW)(K iv:Value)(wr:JW):Prop:=∃(y H:Nat)(D:JA)(O:List Value),iv=Ji y/\K= .slice D y H/\y<=N/\bP (λJ=>J<E) 3 1 (.slice D y H) y O wr/\Below E M wr
theorem cI.UL {col:Nat->Nat}{d:Nat}{v:nI}{x:iU}{w w':JW}(h:cI col d v x w){b ch:Nat}(V:w.heap.size<=b)(W:b<w'.heap.size)(T:b≠ch)(X:w.heap.size<=ch)(J:Jz w w')(E:w'.heap[ch]?=some (.cells #[Jv v.bs,Ji 0,Jn] 156 (0,0))):
 ∃y,cI y d v x w'/\mY y ch v.bs v.bd 0 x.nf x.fs w'/\bF (λc=>c=7∨c=8) col y w w'/\y b=8/\∀k,k≠ch->k≠b->y k=col k:=by
 have Y:ch<w'.heap.size:=(Jl E);have K:bF (λc=>c=7∨c=8) col (λk=>if k=ch then 7 else if k=b then 8 else col k) w w':=by
  refine⟨λk E=>by rw[if_neg Jo,if_neg Jo],λk E=>?_,(jl.of J)⟩;by_cases D:k=ch
  ·right;exact⟨.inl (if_pos D),Jo⟩
  by_cases H:k=b
  ·right;exact⟨.inr (by rw[if_neg D,if_pos H]),Jo⟩
  left;simp only[if_neg D,if_neg H];exact h.lt.zero E
 have D:=h.other K ⟨Jo,Jo,Jo,Jo,Jo,Jo,Jo⟩;have M:=h.C.lt;refine⟨_,D,⟨D.lt,?_,?_,ai M J.size,D.u,⟨none,0,[],E,if_pos rfl,bP.nil _ _ _ _,λU H=>by simp[aG] at H⟩⟩,K,by rw[if_neg T,if_pos rfl],λk O Q=>by rw[if_neg O,if_neg Q]⟩
 ·obtain⟨O,H,-⟩:=D.C.cells;exact H
 have H:(if v.bd=ch then 7 else if v.bd=b then 8 else col v.bd)=2:=D.C.has;show(if v.bd=ch then 7 else if v.bd=b then 8 else col v.bd)≠3/\(if v.bd=ch then 7 else if v.bd=b then 8 else col v.bd)≠7;omega
theorem mY.other {col D:Nat->Nat}{P:Nat->Prop}{ch bs y n nf:Nat}{fs:JU->Option JU}{w w':JW}(h:mY col ch bs y n nf fs w)(p:bF P col D w w')(E:¬P 3)(H:¬P 7)(J:¬P (col y)):mY D ch bs y n nf fs w':=
 ⟨p.lt h.lt,(af (a:=(Jp y 0)) (p.s.block y h.NS J)).trans h.C,by rw[p.old y h.NS];exact h.cd,ai h.NS p.s.size,h.u.move (p.at E),h.s.move (p.at H)⟩
def setSt (w:JW)(d:Nat)(A:JA)(n c:Nat)(a b:Int)(o:Bool)(e f g:Int):JW:=
 ((((((w.setCell (Jp d 0) (.slice A n c)).setCell (Jp d 1) (Ji a)).setCell (Jp d 2) (Ji b)).setCell (Jp d 3) (.bool o)).setCell (Jp d 4) (Ji e)).setCell (Jp d 5) (Ji f)).setCell (Jp d 6) (Ji g)
theorem Un (w:JW)(d:Nat)(A:JA)(n c:Nat)(a b:Int)(o:Bool)(e f g:Int):jl (λk=>k=d) w (setSt w d A n c a b o e f g):=by
 unfold setSt;have y:=fA w d 0 (.slice A n c);have D:=y.trans (fA _ d 1 (Ji a)) λ_ _ e=>e;have E:=D.trans (fA _ d 2 (Ji b)) λ_ _ e=>e;have H:=E.trans (fA _ d 3 (.bool o)) λ_ _ e=>e;have J:=H.trans (fA _ d 4 (Ji e)) λ_ _ e=>e;have K:=J.trans (fA _ d 5 (Ji f)) λ_ _ e=>e;exact K.trans (fA _ d 6 (Ji g)) λ_ _ e=>e
theorem Uk {w:JW}{d:Nat}{v0 Q v2 v3 v4 v5 T:Value}{y:TypeId}(h:w.heap[d]?=some (.cells #[v0,Q,v2,v3,v4,v5,T] y (0,0)))(A:JA)(n c:Nat)(a b:Int)(o:Bool)(e f g:Int):
 (setSt w d A n c a b o e f g).heap[d]?=some (.cells #[.slice A n c,Ji a,Ji b,.bool o,Ji e,Ji f,Ji g] y (0,0)):=by
 have D:=am h (i:=0) (.slice A n c);have E:=am D (i:=1) (Ji a);have H:=am E (i:=2) (Ji b);have J:=am H (i:=3) (.bool o);have K:=am J (i:=4) (Ji e);have M:=am K (i:=5) (Ji f);have O:=am M (i:=6) (Ji g);refine O.trans ?_;simp only[bg,aM,bG]
def Ml (c:Nat):Prop:=c=3∨c=7∨c=8
def WT (O:Nat->Nat)(d:Nat)(v:nI)(x:iU)(N:Nat)(Q J:List Int)(K ch:Nat)(T:JW)(i:Nat)(wr:JW):Prop:=∃(y:Nat->Nat)(H:JA)(M E:Nat)(D:JU->Option JU),cI y d v {x with fs:=D,nf:=E} wr/\mY y ch v.bs v.bd i E D wr/\
 bF Ml O y T wr/\CJ x.fs N Q J i D/\jA D/\E<=x.nf+i/\wr.heap[K]?=some (.cells #[.slice H i M,Ji i,Ji 0,.bool false,Ji 0,Ji 0,Ji 0] 83 (0,0))/\Rd (Off (jB y) wr) 3 H i ((eJ (J.take i)).Parts.flatMap aU)
def WV (B D E n H:Nat)(G:List qg)(x:Row)(wr:JW)(J c9:Nat)(y:JW):Prop:=kH D (GF G H J c9 x) y/\MapAt prog 3 y B n (mapD G)/\Below D wr y/\E+2<=y.heap.size
theorem Sr {B J H n D i c9 U:Nat}{G:List qg}{X V W:Int}{w wr y T:JW}{v0:Value}{rows:List Row}(O:n<=i/\MapAt prog 3 wr B n (mapD G)/\kH J G wr/\pI G (rows.take i)/\Below B w wr/\J<=wr.heap.size/\Jz wr y)
 (Z:bP (Fv J G D) 130 3 v0 (lJ G D).length ((lJ G D).flatMap aR) y) (ah:MapAt prog 3 y B n (mapD G)) (am:v0.ownBlock≠some B) (ax:y.heap.size=H+1) (au:wr.heap.size=H) (ao:B+1<=J)
 (al:bP (λj=>j<H+1/\v0.ownBlock≠some j) 130 3 (.slice (some (Jp U 0)) ((lJ G D).length+1) c9) ((lJ G D).length+1) ((lJ G D).flatMap aR ++ [Ji X,Ji V,Ji W]) T)
 (Q:cC (λj=>j<H+1/\v0.ownBlock≠some j) (y.drew.alloc (.cells #[Ji X,Ji V,Ji W] 130)) T)
 (ai:(aQ (some (Jp U 0)) ((lJ G D).length+1) c9).ownBlock=v0.ownBlock∨∃g,(aQ (some (Jp U 0)) ((lJ G D).length+1) c9).ownBlock=some g/\(y.drew.alloc (.cells #[Ji X,Ji V,Ji W] 130)).heap.size<=g):
 WV B J H n D G ⟨X,V,W⟩ wr U c9 T:=by
 obtain⟨av,aq,ag,ap,ar,aw,ac⟩:=O;have O:∀E,E<H+1->v0.ownBlock≠some E->T.heap[E]?=y.heap[E]?:=λE ae K=>(Q.block E ⟨ae,K⟩).trans (heap_alloc_old y.drew _ (by show E<y.heap.size;omega));have ak:T.heap.size≥H+2:=by have K:=Q.size;simp at K;omega
 have aa:=ag.below ac;have ab:=aa.old Jo (D:Int);have aj:Below J wr y:=ac.mono Jo;refine⟨aa.put (al.shift λj ad M=>by
  rcases ai with K|⟨g,K,af⟩
  ·exact Z.2 j (K.symm.trans ad) M
  rw[ad] at K;obtain rfl:=Option.some.inj K;have an:=ab j M;simp at af;omega) λj M=>O j (Jw (ab j M)) λY=>Z.2 j Y M,ah.kept (O B Jo am),?_,ak⟩
 exact aj.trans ⟨Q.os,Q.tape,Q.output,Jo,λE ae=>O E Jo λY=>Z.2 E Y (.inl Jo)⟩
theorem Lx (col:Nat->Nat)(d:Nat)(v:nI)(x:iU)(w:JW)(h:cI col d v x w)(e0:∀k,col k≠7)(N:Nat)(aH:List Int)(hi:fQ N aH x)(aX:Held N aH)(ei:aH≠[]):
 JC 33 #[Jv d] w λe w'=>e= .returned (Ji 0)/\∃x',ic col d x' w w'/\mF N aH 12 0 x':=by
 have eT:prog.follows .mixedOrders=true:=Jk;obtain⟨Y,cV⟩:=Je w.heap.size;obtain⟨be,hrows⟩:∃bG,df N aH=bG:=⟨_,rfl⟩;have fR:=aX.cnt;rw[hrows] at fR;obtain⟨dc,J,y,U,V⟩:∃dc,w.alloc (.map #[] 0)=dc/\Below w.heap.size w dc/\dc.heap.size=Y+1/\MapAt prog 3 dc Y 0 (λ_=>none):=⟨_,rfl,Below.one _ _,by simp[cV],by rw[<-cV];exact MapAt.made _⟩;have dL:=h.below y;have M:oX (full N aH)<=50000:=by
  unfold oX;rw[qG];have:=ee aX.n4 aX.len;omega
 have aY:=dL.hd.on;rw[hi.head] at aY;have X:v.xs.length<=4:=by have ad:=aY.len;have az:=aX.few;omega
 have ez:=Jh (kP v.hA v.hc v.xs (full N aH) dc aY Jo M);rw[pB aX.up,hrows] at ez;have K:=dL.c10;have W:(w.alloc (.map #[] 0)).cell? (Jp d 10)=some (.slice v.hA v.xs.length v.hc):=by rw[J];exact K
 have dC:=Jh h;have ae:=Jh (Ja e0 (Ja hi (Ja aX (Ja ei hrows))));have fy:=Jh J;have dE:=Jh (Ja y (Ja U V));have H:=aX.UV;rw[hrows] at H;have fF:=Jh H;have Q:∀bG∈be,0<=bG.T/\bG.T<=3500:=λbG bi=>by
  rw[<-hrows] at bi;obtain⟨bH,aN,k,-,rfl⟩:=nB bi;exact aX.pos bH aN
 have fD:=Jh Q;clear h e0 hi aX ei hrows J y U V dL M aY X H Q;have V:=@run_makeMap prog;go_enter Tryz.func33,Tryz.ntmps33;go_wp2_with fail;try simp only[fy.o]
 try go_wp2_with fail
 refine ez.o.mono ?_;rintro e dv ⟨fH,k,gn,rfl,aE,U,M,H⟩;obtain⟨b7,J⟩:=Je dv.heap.size;have Q:=H.size;have fv:=Jh (show WR Y b7 w dv be 0 dv from
  {le:=bj _
   s:=jl.refl _ _
   ex:=⟨0,[],ac _,by rw[mapD_nil];exact dE.o.2.2.below H,kH.nil _ _,by rw[ff];exact pI.nil⟩
   sR:=by rw[<-cV];exact dE.o.1.then H
   sz:=by omega})
 have fE:=Jh (show Rd (Off (λk=>k=Y) dv) 3 fH k (be.flatMap aR) from M.off.part (eW (ac _) (λ_ _ _=>rfl) λy _ e=>Jw dE.o.2.1));have eB:=Jh aE;have cO:=Jh (show Y+1<=b7 by rw[<-J,<-dE.o.2.1];exact Q);have gt:k<=48:=Jo;have fo:=Jh J;clear aE U M H Q V K W J;go_wp2_with fail;go_loopw [40] (λaj wr=>∃K:Nat,aj=Ji K/\K<=k/\WR Y b7 w dv be K wr) (λaj _=>k - (intOf aj).toNat)
 case atStart=>exact⟨0,rfl,bj _,fv.o⟩
 obtain⟨K,rfl,hi,eF⟩:=hrel;by_cases ec:K<k
 ·have bO:(K:Int)<k:=Jo;have aL:K<be.length:=by rw[<-eB.o];exact ec
  obtain⟨eb,⟨aB,ak,cf,bK,bZ,bz⟩,bM,bq,cD⟩:=eF;have V:=(fE.o.part (eW (G:=λk=>k=Y) bq.size (λk aE bJ=>bq.block k aE bJ) λ_ _ e=>e)).on;obtain⟨bE,bT,rfl,bL,bk,bl,bm⟩:=jj V aL;have Q:=fF.o be[K] (ah aL);have J:=fD.o be[K] (ah aL);obtain⟨bG,bi⟩:=Je (be[K]);have bw:=Jh (show be.take (K+1)=be.take K ++ [bG] by rw[aO aL,bi]);rw[bi] at bk bl bm Q J;obtain⟨bh,ar,au⟩:=bG;simp only at bk bl bm J;obtain⟨H,rfl⟩:∃H:Nat,bh=H:=⟨bh.toNat,Jo⟩;have bS:H<=3500:=Jo;obtain⟨M,ce⟩:=Je (H / 100);have aC:=Jh (λbo=>KY H bo Jo);rw[ce] at aC;obtain⟨U,bf⟩:∃aJ,wr.heap.size=aJ:=⟨_,rfl⟩;obtain⟨X,cY,af,W,aa⟩:∃X,wr.alloc (.cells #[Ji H,Ji ar,Ji au] 130)=X/\Jz wr X/\X.heap.size=U+1/\X.heap[U]?=some (.cells #[Ji H,Ji ar,Ji au] 130 (0,0)):=
   ⟨_,rfl,Below.one _ _,by simp[bf],by rw[<-bf];exact heap_alloc_new _ _⟩
  have aM:=Jh (Ja cf (Ja bK (Ja bZ (Ja bz (Ja bM (Ja cD af))))));have bp:=Jh cY;have a1:=Jh W;have ai:=Jh aa;have bC:=Jh Q;have bW:=Jh ce;have aZ:=Jh bf;have bt:=Jh bq;clear eb cf bK bZ bz bM cD V Q J bi bq cY af W aa ce;obtain⟨cf,bK,bZ,bz,bM,cD,af⟩:=aM.o;obtain⟨aA,aa,J⟩:=bZ.look M;have Q:=J.below af;have aq:aA.ownBlock≠some U:=λe=>Jw ((J.1.lt _ e).2);have av:aA.ownBlock≠some Y:=λe=>J.2 _ e (.inl (Jw cO.o));have db:=nu (show pJ (M:Int) by unfold pJ;have:=bW.o;omega);have b3:∀w',MapAt prog 3 w' Y aB (mapD ak)->(eQ 179 (.map (some Y)) (.int .i64 M) false).run prog w'= .ok aA w':=λw' h=>by rw[<-aa];exact h.look lf underlying179 Jk db
  have V:=bK.below af;have cS:=Jh b3;have aV:=Jh Q;have aK:=Jh V;have a6:=Jh (Ja aq (Ja av db));have bv:=Jh (show(lJ ak M).length<=1000 by
   rw[bz.old];have ad:=fb (λbG:Row=>decide (bG.T / 100=(M:Int))) (be.take K);have az:=List.length_take_le K be;unfold tG;omega)
  have W:=Jh (show Jz X (X.drew.alloc (.cells #[Ji H,Ji ar,Ji au] 130)) from(Below.one X.drew (.cells #[Ji H,Ji ar,Ji au] 130)).h);clear cf bK bZ bz bM cD af aa J Q aq av db b3 V;go_wp2_with fail;try simp only[bp.o]
  apply VB (F:=λ(ay aa:Nat)(cH:JW)=>WV Y b7 U aB M ak ⟨H,ar,au⟩ wr ay aa cH)
  case h1=>
   intro du;have ba:X.drew.cell? (Jp U 0)=some (.int .i64 H)/\X.drew.cell? (Jp U 1)=some (.int .i64 ar)/\X.drew.cell? (Jp U 2)=some (.int .i64 au)/\MapAt prog 3 X.drew Y aB (mapD ak):=⟨cl ai.o 0 rfl,cl ai.o 1 rfl,cl ai.o 2 rfl,aK.o.kept rfl⟩;refine cB (n:=12) (S:=λw'=>w'.cell? (Jp U 0)=some (.int .i64 H)/\w'.cell? (Jp U 1)=some (.int .i64 ar)/\w'.cell? (Jp U 2)=some (.int .i64 au)/\MapAt prog 3 w' Y aB (mapD ak)) eT 12 rfl ba (λQ=>?_);refine JH 0 (h:=JH 1 (h:=JH 2 (h:=JH 4 (h:=JH 5 (h:=JH 6 (h:=JH 9 (h:=?_)))))));refine dK (rs:=[3,10]) Jk Js ?_;refine cx.cons (o:=_) Jg Jd (λV J=>?_) (cx.cons (o:=_) Jg Jd (λV J=>?_) cx.nil);go_simp;refine(aC.o _).mono ?_;rintro e w' ⟨rfl,rfl⟩;refine J.out _ _ Q (λQ=>?_);clear J V;try simp only[an,JY]
   refine dK (rs:=[7,10]) Jk Js ?_;refine cx.cons (o:=_) Jg Jd (λV J=>?_) (cx.cons (o:=_) Jg Jd (λV J=>?_) cx.nil);go_simp;refine(aC.o _).mono ?_;rintro e w' ⟨rfl,rfl⟩;refine J.out _ _ Q (λQ=>?_);clear J V;try simp only[an,JY]
   refine JH 8 (hy:=by(intro w ax;obtain⟨aW,a7,dT,aq⟩:=ax;have el:=cS.o _ aq;go_simp)<;>with_reducible rfl) (h:=?_);refine JM 10 (h:=λV J=>?_);go_simp;refine J.out _ _ ⟨al W.o (cl ai.o 0 rfl),al W.o (cl ai.o 1 rfl),al W.o (cl ai.o 2 rfl),aK.o.below W.o⟩ (λQ=>?_);clear J V;try simp only[an,JY]
   rotate_left;go_simp;refine J.out _ _ ⟨al W.o (cl ai.o 0 rfl),al W.o (cl ai.o 1 rfl),al W.o (cl ai.o 2 rfl),aK.o.below W.o⟩ (λQ=>?_);clear J V;try simp only[an,JY]
   refine JM 7 (h:=λV J=>?_);go_simp;refine(aC.o _).mono ?_;rintro e w' ⟨rfl,rfl⟩;refine J.out _ _ Q (λQ=>?_);clear J V;try simp only[an,JY]
   refine JH 8 (hy:=by(intro w ax;obtain⟨aW,a7,dT,aq⟩:=ax;have el:=cS.o _ aq;go_simp)<;>with_reducible rfl) (h:=?_);rotate_left;go_simp;refine J.out _ _ ⟨al W.o (cl ai.o 0 rfl),al W.o (cl ai.o 1 rfl),al W.o (cl ai.o 2 rfl),aK.o.below W.o⟩ (λQ=>?_);clear J V;try simp only[an,JY]
   refine JM 3 (h:=λV J=>?_);go_simp;refine(aC.o _).mono ?_;rintro e w' ⟨rfl,rfl⟩;refine J.out _ _ Q (λQ=>?_);clear J V;try simp only[an,JY]
   refine JM 7 (h:=λV J=>?_);go_simp;refine(aC.o _).mono ?_;rintro e w' ⟨rfl,rfl⟩;refine J.out _ _ Q (λQ=>?_);clear J V;try simp only[an,JY]
   refine JH 8 (hy:=by(intro w ax;obtain⟨aW,a7,dT,aq⟩:=ax;have el:=cS.o _ aq;go_simp)<;>with_reducible rfl) (h:=?_);rotate_left;all_goals
    refine JM 11 (h:=λV J=>?_);have aD:bP (λy=>y<U+1/\aA.ownBlock≠some y) 130 3 aA (lJ ak M).length ((lJ ak M).flatMap aR) (X.drew.alloc (.cells #[Ji H,Ji ar,Ji au] 130)):=(aV.o.below W.o).shift λa8 bD av=>av.2 bD;have bB:=aV.o.form;have bg:=bv.o;refine bN rfl (.tmp 52) (.tmp 54) 106 rfl 130 (.agg #[Ji 0,Ji 0,Ji 0]) 3 24 underlying106 mu rfl Jd (λy=>y<U+1/\aA.ownBlock≠some y) (lJ ak M).length _ aA _ aD rfl (λy cz=>by have:=a1.o;have dL:y<U+1:=cz.1;simp;omega) _ 1 _ [Ji H,Ji ar,Ji au] rfl (jX X.drew _ _) (by intro dU cg;simp at cg;rcases cg with rfl|rfl|rfl<;>rfl) Jm Jo ?_;intro e9 cH br b5 dp da;obtain⟨dG,aa,rfl⟩:=br.form;obtain⟨ay,rfl,bc,bn⟩:=br.own Jo;have aT:=Sr aM.o aV.o aK.o a6.o.2.1 a1.o aZ.o cO.o br b5 da;have aS:=(b5.block U ⟨Jo,a6.o.1⟩).trans ((heap_alloc_old X.drew _ (by have:=a1.o;show U<X.heap.size;omega)).trans ai.o);have av:=Jh aS;refine J.out _ _ ⟨cl av.o 0 rfl,cl av.o 1 rfl,cl av.o 2 rfl,aT.2.1⟩ (λQ=>?_);clear J V b5 br dp da aS bg aD bB Q bc bn av;try simp only[an,JY]
    refine cy Jk ?_;exact du ay aa cH aT
  case h2=>
   intro ay aa cH bJ;obtain⟨dd,bQ,aS,av,bg⟩:=bJ.2.1.put (t:=179) lf underlying179 (by have:=aM.o.1;unfold maxLen;omega) a6.o.2.2 (.slice (some (Jp ay 0)) ((lJ ak M).length+1) aa);have bn:=Jh bJ;have aq:=Jh (Ja aS (Ja av bg));clear bJ aS av bg;go_wp2_with fail;go_roundw
   case rel=>
    obtain⟨bc,bI,aD,bR⟩:=bn.o;obtain⟨aS,av,bg⟩:=aq.o;obtain⟨cf,bK,bZ,bz,bM,cD,af⟩:=aM.o;refine⟨K+1,by go_num,ec,{le:=aL,ex:=⟨if((mapD ak) (.int .i64 M)).isSome then aB else aB+1,GF ak M ay aa ⟨H,ar,au⟩,?_,aS.ext λx=>Px _ _ _ _ _,bc.kept λy cz=>?_,?_⟩,sR:=(bM.trans (aD.mono (Jw cO.o))).trans (av.uj (ac _) (Jx aD.size cO.o)),s:=?_,sz:=?_}⟩
    ·split<;>omega
    ·obtain⟨e,aW,rfl⟩:=cz;exact av.block _ ((bc.at_ e aW).1.lt e.g rfl).2 λd5=>(bc.at_ e aW).2 e.g rfl (.inl (Jx (Option.some.inj d5) cO.o))
    ·rw[bw.o];have ba:=bz.put ⟨H,ar,au⟩ ay aa;have a7:((H:Int) / 100)=M:=Jw bW.o;simp only[a7] at ba;exact ba
    ·have bq:=bt.o;have bB:=fo.o;refine⟨av.os.trans (aD.os.trans bq.os),av.tape.trans (aD.tape.trans bq.tape),av.output.trans (aD.output.trans bq.output),by have:=bq.size;have:=aZ.o;omega,λk aE bJ=>?_⟩;exact(av.block k Jo (by simp only[ne_eq,Option.some.injEq];omega)).trans ((aD.block k Jo).trans (bq.block k aE bJ))
    have:=aZ.o;omega
   simp[intOf];omega
 obtain rfl:K=k:=Jo;obtain⟨eb,⟨aB,ak,cf,bK,bZ,bz⟩,bM,bq,cD⟩:=eF;rw[aw (by rw[<-eB.o];exact ac _)] at bz;have bc:=dC.o.below (bM.mono (Nat.le_of_eq cV));have bX:=bc.c3;rw[ae.o.2.1.man] at bX;have bX:wr.cell? (Jp d 3)=some (.slice v.A 0 v.cp):=bX;obtain⟨aK,U⟩:∃aJ,wr.heap.size=aJ:=⟨_,rfl⟩;obtain⟨bf,dr,H,ai,dP⟩:=bK.range (t:=179) lf underlying179;have bB:Jz wr bf:=ai.below' rfl;rw[U] at dr H;have W:=bc.below bB;have au:=bK.lt;have ev:=Jh (show WS Y aK aB ak bf 0 0 none [] (λx=>(mapD ak x).isSome) aB bf from
  {len:=rfl,ran:=H,lie:=bP.nil _ _ _ _,of:=Js
   all:=λe aW ar=>by rw[Pv aW] at ar;cases ar
   once:=List.nodup_nil,s:=jl.refl _ _,sz:=by omega})
 have bv:=Jh (Ja W (Ja (bZ.below bB) (Ja bz (Ja cf (Ja (show Below Y w bf from bM.trans (bB.mono Jo)) (Ja (show bf.heap.size=aK+1 by omega) (show b7<=aK by omega)))))));have cR:=Jh (show Y<aK by omega);clear eb cf bK bZ bz bM bq cD bc U H ai dP bB W au ec hi;go_wp2_with fail;refine wp_loop_rounds 1 ?_;rw[rounds_succ];go_wp2_with fail;clear dr bX;go_loopw [10] (λay wr=>Wi Y aK aB ak bf ay wr) (λ_ wr=>wr.rangeLeft Y aK)
 case atStart=>exact⟨0,0,none,[],_,_,rfl,ev.o⟩
 obtain⟨aM,d4,bg,dI,left,gl,rfl,aS⟩:=hrel;rcases aS.ran.next lf 0 with⟨fO,eP,dr⟩|⟨du,gB,kl,fd,eD,db,b3,eU,dr,eY,eR,ea,eZ,fT⟩
 ·have ef:aM<=48:=by
   have ad:=Dr bv.o.2.2.1 aS.once λb9 cv=>(aS.of b9 cv).2;rw[aS.len] at ad;omega
  have aq:=Jh aS;have fC:=Jh eP;clear aS eP fO;go_wp2_with fail;refine(Nc (λy=>y<=aK) bg d4 aM dI wr aq.o.lie aq.o.len Jo).mono ?_;rintro bY aZ ⟨rfl,H,W,aD,au,U⟩;have aL:∀a8,(aQ bg aM d4).ownBlock=some a8->aK<a8:=λa8 bD=>Jw (au.2 a8 bD);have dP:=bv.o.2.2.2.2.2.1;have av:∀k,k<=aK->aZ.heap[k]?=wr.heap[k]?:=λk aE=>U.block k (Jw aq.o.sz) λe=>Jw (aL k e);have ai:∀k,k<aK->aZ.heap[k]?=bf.heap[k]?:=λk aE=>(av k Jo).trans (aq.o.s.block k Jo Jo);have aA:Below Y bf aZ:=⟨U.os.trans aq.o.s.os,U.tape.trans aq.o.s.tape,U.output.trans aq.o.s.output,ap aq.o.s.size U.size,λk aE=>ai k (Jw cR.o)⟩;have ct:Below Y w aZ:=bv.o.2.2.2.2.1.trans aA;have dk:MapAt prog 3 aZ Y aB (mapD ak):=aq.o.ran.owns.kept (av Y (Jw cR.o));have cu:kH b7 ak aZ:=bv.o.2.1.kept λy cz=>by
   obtain⟨e,aW,rfl⟩:=cz;have dj:=bv.o.2.1.at_ e aW;have ad:=(dj.1.lt e.g rfl).2;have az:e.g≠aK:=λa7=>by
    obtain⟨ar,aC,cb⟩:=bP.obj dj (g:=e.g) rfl;rw[a7] at cb;exact ev.o.ran.Z cb
   exact ai e.g Jo
  have ar:qc aH H:=by
   refine⟨?_,λb9=>?_⟩
   ·have dq:H.Nodup:=W.nodup_iff.2 aq.o.once;unfold pM;rw[dS];intro d3 aJ dN dO aC;have ad:=List.pairwise_iff_getElem.1 aD d3 aJ dN dO aC;have az:=List.pairwise_iff_getElem.1 dq d3 aJ dN dO aC;omega
   rw[W.mem_iff];obtain⟨-,hi,aX,ei,hrows⟩:=ae.o;constructor
   ·intro cv;obtain⟨-,e,aW,rfl⟩:=aq.o.of b9 cv;obtain⟨bG,bi,a7⟩:=JG bv.o.2.2.1 aW;rw[<-hrows] at bi;obtain⟨bH,aN,k,-,rfl⟩:=nB bi;exact⟨bH,aN,a7⟩
   rintro⟨bH,aN,rfl⟩;have bi:(⟨bH,((0:Nat):Int),mC bH 0⟩:Row)∈be:=by
    rw[<-hrows];exact List.mem_flatMap.2 ⟨bH,aN,List.mem_map.2 ⟨0,List.mem_range.2 aX.n1,rfl⟩⟩
   obtain⟨e,aW,a7⟩:=bv.o.2.2.1.all _ bi;simp only at a7;rw[<-a7];exact aq.o.all e aW (fC.o _)
  have b2:=dC.o.below (ct.mono (Nat.le_of_eq cV));have ds:x.N=N:=by rw[ae.o.2.1.n,if_neg ae.o.2.2.2.1]
  have ey:=Jh (pm _ v.bx x.N aZ b2.idx.at);rw[ds] at ey;have b8:=b2.c2;have eA:=Jh (Ja ar (Ja b2 (Ja ct (Ja dk (Ja cu (Ja (show Rd (Off (λk=>k<=aK) aZ) 1 bg aM (H.flatMap iS) from au.off) (show H.length=aM from W.length_eq.trans aq.o.len)))))));obtain⟨cK,aC⟩:=Je aZ.heap.size;have ew:=Jh (show aK<cK by have:=aq.o.sz;have:=U.size;omega);have ft:=Jh (show WU cK N aZ (Jn) (Ji (0:Nat)) aZ from⟨0,0,none,[],rfl,rfl,bj _,bP.nil _ _ _ _,ag _ _⟩);have gq:=ae.o.2.2.1.n4;have cN:=Jh aC;clear W aD au U aL dP av ai aA ct dk cu ar b2 ds aC;go_wp2_with fail;refine ey.o.mono ?_;rintro bY gC ⟨rfl,rfl⟩;go_wp2_with fail;go_loopw [12,97] (λay aj wr=>WU cK N aZ ay aj wr) (λ_ aj _=>N - (intOf aj).toNat)
  case atStart=>exact ft.o
  obtain⟨K,bp,gg,gD,rfl,rfl,gr,d9,dn⟩:=hrel;by_cases fV:K<N
  ·have ai:(K:Int)<N:=Jo;have U:=Jh d9;have W:=Jh dn;have ej:gm (λy=>y<cK) wr:=λy cz=>by have:=dn.size;have:=cN.o;omega
   clear d9 dn;go_wp2_with (at_builtin;go_must (refine bb rfl (.tmp 100) (.tmp 102) 23 Jr 3 (Ji 0) 1 8 underlying23 my rfl Jd (λy=>y<cK) K _ _ _ #[Ji K] rfl (by intro dU cg;simp at cg;rcases cg with rfl;rfl) U.o Jr ej Jr Jm Jo ?_;intro e9 cH br b5 dp da;obtain⟨dG,aa,rfl⟩:=br.form;have d2:=Jh br;have a6:=Jh b5;clear dp da br b5));go_roundw
   case rel=>exact⟨K+1,aa,dG,_,by go_num,rfl,fV,d2.o,W.o.trans ⟨a6.o.os,a6.o.tape,a6.o.output,a6.o.size,λa8 bD=>a6.o.block a8 bD⟩⟩
   simp[intOf];omega
  obtain rfl:K=N:=Jo;have bL:=Jf ((K:Int)<(K:Int));obtain⟨ar,b2,ct,dk,cu,bh,bw⟩:=eA.o;have ai:Below aZ.heap.size aZ wr:=by rw[cN.o];exact dn
  have bc:=b2.below ai;have bX:=bc.c3;have au:=bc.c4;have av:=bc.c5;have ay:=bc.c6;have aA:=bc.c7;have aC:=bc.c8;have aa:=bc.c9;rw[ae.o.2.1.man] at bX au av ay aA aC aa;replace bX:wr.cell? (Jp d 3)=some (.slice v.A 0 v.cp):=bX;replace au:wr.cell? (Jp d 4)=some (Ji 0):=au;replace av:wr.cell? (Jp d 5)=some (Ji 0):=av;replace ay:wr.cell? (Jp d 6)=some (.bool false):=ay;replace aA:wr.cell? (Jp d 7)=some (Ji 0):=aA;replace aC:wr.cell? (Jp d 8)=some (Ji 0):=aC;replace aa:wr.cell? (Jp d 9)=some (Ji 0):=aa;obtain⟨U,dM⟩:=Je wr.heap.size;have bI:(wr.alloc (.cells #[.slice v.A 0 v.cp,Ji 0,Ji 0,.bool false,Ji 0,Ji 0,Ji 0] 83)).cell? (Jp d 1)=some (Jv v.bs):=(bc.below (Below.one _ _)).c1;obtain⟨bn,bO,aD,dQ,bE,bt⟩:∃bn,(wr.alloc (.cells #[.slice v.A 0 v.cp,Ji 0,Ji 0,.bool false,Ji 0,Ji 0,Ji 0] 83)).alloc (.cells #[Jv v.bs,Ji 0,Jn] 156)=bn/\Jz wr bn/\bn.heap.size=U+2/\
   bn.heap[U]?=some (.cells #[.slice v.A 0 v.cp,Ji 0,Ji 0,.bool false,Ji 0,Ji 0,Ji 0] 83 (0,0))/\bn.heap[U+1]?=some (.cells #[Jv v.bs,Ji 0,Jn] 156 (0,0)):=by
   have W:=heap_alloc_new (wr.alloc (.cells #[.slice v.A 0 v.cp,Ji 0,Ji 0,.bool false,Ji 0,Ji 0,Ji 0] 83)) (.cells #[Jv v.bs,Ji 0,Jn] 156);rw[aI,dM] at W;refine⟨_,rfl,cZ _ _ _,by simp[dM],?_,W⟩;rw[<-dM];exact(heap_alloc_old _ _ Js).trans (heap_alloc_new _ _)
  obtain⟨cU,aL,aV,b6,bC,a1⟩:=bc.UL (b:=U) (ch:=U+1) Jo Jo Jo Jo aD bt;have aN:cK<=U:=by rw[<-cN.o,<-dM];exact ai.size
  have W:Jz aZ bn:=ai.then aD;have bR:∀k,Y<=k->k<U->cU k=0:=λk ad az=>by
   rw[a1 k Jo Jo];exact dC.o.lt.zero Jo
  have b4:Rd (Off (jB cU) bn) 1 bg aM (H.flatMap iS):=bh.part (eW W.size (λk aE _=>W.block k aE) λk aE ed=>by
   by_cases ba:k<Y
   ·have:=cR.o;omega
   exact absurd (bR k Jo (by rw[cN.o] at aE;omega)) ed)
  have fr:=Jh (show WT cU d v x K aH H U (U+1) bn 0 bn from
   ⟨cU,v.A,v.cp,x.nf,x.fs,aL,aV,bF.refl aL.lt,CJ.zero _ _ _ _,(fQ.ok ae.o.2.1 ae.o.2.2.1.len),ac _,bE,by rw[ff,OO];exact Rd.nil _ _ _⟩)
  have co:=Jh (Ja ar (Ja (ct.trans (W.mono (by have:=ew.o;have:=cN.o;have:=cR.o;omega))) (Ja (dk.below W) (Ja (cu.below W) (Ja b4 (Ja bw (Ja bR (Ja b6 bC))))))));have fu:=Jh (show bF (λbp=>bp≠0) col cU w bn from((bF.of dC.o.lt (ct.mono (Nat.le_of_eq cV))).trans (bF.of b2.lt ai)).trans (b6.mono λ_ e=>Jo));have dg:=Jh (Ja dQ (Ja W (Ja (ai.then aD) aN)));have gk:=Jh b2.lt;have ef:aM<=12:=by
   have ad:=qp ar;have az:=ae.o.2.2.1.len;omega
  clear ar b2 ct dk cu bh bw ai bc aD dQ bE bt aL aV b6 bC a1 aN W bR b4 d9 dn;go_wp2_with fail;clear bO bI bX au av ay aA aC aa bL;go_loopw [117] (λaj wr=>∃y:Nat,aj=Ji y/\y<=aM/\WT cU d v x K aH H U (U+1) bn y wr) (λaj _=>aM - (intOf aj).toNat)
  case atStart=>exact⟨0,rfl,bj _,fr.o⟩
  obtain⟨y,rfl,cz,eI⟩:=hrel;by_cases eS:y<aM;rotate_left
  ·obtain rfl:y=aM:=Jo;obtain⟨bI,aL,aa,bE,aD,ai,aA,aj,ay,au,aC,W,av⟩:=eI;obtain⟨ar,di,cX,cW,b4,bw,bR,b6,bC⟩:=co.o;have htk:H.take y=H:=aw Jo;rw[htk] at av;have M:eV (eJ H):=by
    have ad:=qp ar;have az:=ae.o.2.2.1.len;have:=tm ar.up (FV ae.o.2.2.1 ar) Jo H.length (ac _)
    rwa [fq] at this
   have bQ:(eJ H).Next=(y:Int):=by
    show((H.length:Nat):Int)=y;omega
   have bO:ep (eJ H) ⟨2,0,0,0⟩=none:=by
    unfold ep;simp only;rw[if_neg Jd,if_neg Jd,if_pos trivial,if_neg];intro ba;have d6:(0:Int)<0:=ba.1;omega
   have aN:=Jh (λ(bo:JW)(cY:Below wr.heap.size wr bo)=>PL aL y aa (eJ H) ⟨2,0,0,0⟩ bo (av.on.below cY) (by rw[lY];exact bw) Jo M.oU M.n0 M.n1 M.Dw M.Dx (ai.below cY).E.pow rfl bO);rw[zD bO] at aN;unfold dH nh at aN;rw[bQ] at aN;have aN:=Jh (show ∀(bo:JW)(cY:Jz wr bo),JC 70 #[.agg #[.slice aL y aa,Ji y,Ji 0,.bool false,Ji 0,Ji 0,Ji 0],.agg #[Ji 2,Ji 0,Ji 0,Ji 0]] bo (FB (st0,170) bo.heap.size bo) from aN.o);have bk:=cl W 0 rfl;have bl:=cl W 1 rfl;have bm:=cl W 2 rfl;have bS:=cl W 3 rfl;have bT:=cl W 4 rfl;have bU:=cl W 5 rfl;have bV:=cl W 6 rfl;have dh:=ai.c12;have a1:=Jh (Ja ai (Ja aA (Ja aj (Ja ay (Ja au (Ja aC (Ja W av)))))));have aV:=Jh (Ja M (Ja bQ bw));have fW:=Jf ((y:Int)<(y:Int));clear ai aA aj ay au aC W av ar di cX cW b4 bw bR b6 bC htk M bQ bO eS;go_wp2_with fail;apply VC (F:=λci cF b8 aJ X=>Jz wr X)
   case h1=>
    intro du;refine wp_region_held_drew (S:=λw'=>Jz wr w') Jk ?_ (λQ=>?_)
    ·exact(ag _ _).drew
    refine JK 0 (hy:=by(intro w ax;obtain ax:=ax;have bk:=al ax bk;have bl:=al ax bl;have bm:=al ax bm;have bS:=al ax bS;have bT:=al ax bT;have bU:=al ax bU;have bV:=al ax bV;go_simp)<;>with_reducible rfl) (h:=JK 1 (h:=JK 2 (h:=JK 3 (h:=JK 4 (hy:=by(intro w ax;obtain ax:=ax;have dh:=al ax dh;go_simp)<;>with_reducible rfl) (h:=JK 5 (h:=?_))))));refine wpAnyH_ready (rs:=[6,10]) Jk Js ?_;refine AllReadyH.cons (o:=_) Jg (λV J=>?_) (AllReadyH.cons (o:=_) Jg (λV J=>?_) AllReadyH.nil)
    ·skip
     go_simp;refine(aN.o _ Q).mono ?_;rintro e bf ⟨ci,cF,b8,rfl,-,bB⟩;have cb:=Below.O Q bB;unfold dH;simp only[st0];refine J.out _ _ cb (λQ=>?_);clear J V bB;try simp only[an,JY]
     refine JK 7 (h:=JK 8 (h:=JK 9 (h:=?_)));refine JN 10 (h:=λV J=>?_);go_simp;refine J.out _ _ (Below.then Q (Below.one _ _)) (λQ=>?_);clear J V;try simp only[an,JY]
     refine JN 11 (h:=λV J=>?_);go_simp;have aT:Jz wr (bf.alloc (.cells #[.slice ci cF b8,Ji 0,Ji 0,.bool false,Ji 0,Ji 0,Ji 0] 83)):=Below.then cb (Below.one _ _);refine J.out _ _ aT (λQ=>?_);clear J V Q;try simp only[an,JY]
     refine JN 12 (h:=λV J=>?_);go_simp;refine J.out _ _ aT (λQ=>?_);clear J V Q;try simp only[an,JY]
     refine wpAnyH_done Jk ?_ _;clear cb;generalize bf.alloc (.cells #[.slice ci cF b8,Ji 0,Ji 0,.bool false,Ji 0,Ji 0,Ji 0] 83)=M at aT ⊢;generalize bf.heap.size=bO at aT ⊢;exact du ci cF b8 bO M aT
    skip
    go_simp;refine J.out _ _ (Below.then Q (Below.one _ _)) (λQ=>?_);clear J V;try simp only[an,JY]
    have bW:(wr.alloc (.cells #[Jn,Ji 0,Ji 0,.bool false,Ji 0,Ji 0,Ji 0] 83)).drew.heap[wr.heap.size]?=some (.cells #[Jn,Ji 0,Ji 0,.bool false,Ji 0,Ji 0,Ji 0] 83 (0,0)):=heap_alloc_new wr _;have bO:wr.heap.size<(wr.alloc (.cells #[Jn,Ji 0,Ji 0,.bool false,Ji 0,Ji 0,Ji 0] 83)).drew.heap.size:=Js;generalize (wr.alloc (.cells #[Jn,Ji 0,Ji 0,.bool false,Ji 0,Ji 0,Ji 0] 83)).drew=cA at Q bW bO ⊢;refine JN 6 (h:=λV J=>?_);go_simp;refine(aN.o _ Q).mono ?_;rintro e bf ⟨ci,cF,b8,rfl,-,bB⟩;have M:=(bB.block wr.heap.size bO).trans bW;have b0:=Below.O Q bB;unfold dH;simp only[st0];refine J.out _ _ b0 (λQ=>?_);clear J V bB bW bO;try simp only[an,JY]
    refine JK 7 (h:=JK 8 (h:=JK 9 (h:=?_)));have bO:=cl M 0 rfl;have bW:=cl M 1 rfl;have cc:=cl M 2 rfl;have ce:=cl M 3 rfl;have ck:=cl M 4 rfl;have cn:=cl M 5 rfl;have cr:=cl M 6 rfl;have gc:=(aP M 0).2;have gd:=(aP M 1).2;have ge:=(aP M 2).2;have fh:=(aP M 3).2;have fi:=(aP M 4).2;have fj:=(aP M 5).2;have fk:=(aP M 6).2;refine JN 11 (h:=λV J=>?_);go_simp;have aT:Jz wr (((((((bf.setCell (Jp wr.heap.size 0) (.slice ci cF b8)).setCell (Jp wr.heap.size 1) (Ji 0)).setCell (Jp wr.heap.size 2) (Ji 0)).setCell (Jp wr.heap.size 3) (.bool false)).setCell (Jp wr.heap.size 4) (Ji 0)).setCell (Jp wr.heap.size 5) (Ji 0)).setCell (Jp wr.heap.size 6) (Ji 0)):=(((((((b0.setCell (p:=(Jp wr.heap.size 0)) (ac _) _).setCell (p:=(Jp wr.heap.size 1)) (ac _) _).setCell (p:=(Jp wr.heap.size 2)) (ac _) _).setCell (p:=(Jp wr.heap.size 3)) (ac _) _).setCell (p:=(Jp wr.heap.size 4)) (ac _) _).setCell (p:=(Jp wr.heap.size 5)) (ac _) _).setCell (p:=(Jp wr.heap.size 6)) (ac _) _);refine J.out _ _ aT (λQ=>?_);clear J V Q;try simp only[an,JY]
    refine JN 12 (h:=λV J=>?_);go_simp;refine J.out _ _ aT (λQ=>?_);clear J V Q;try simp only[an,JY]
    refine wpAnyH_done Jk ?_ _;exact du _ _ _ _ _ aT
   case h2=>
    intro ci cF b8 aJ X af;obtain⟨ai,aA,aj,ay,au,aC,W,av⟩:=a1.o;have bk:=al af bk;have bl:=al af bl;have bm:=al af bm;have bS:=al af bS;have bT:=al af bT;have bU:=al af bU;have bV:=al af bV;have bh:bI U=8:=by rw[aj.old U (Jw dg.o.1)];exact co.o.2.2.2.2.2.2.2.2
    have ck:H.length<=12:=by
     have ad:=qp co.o.1;have az:=ae.o.2.2.1.len;omega
    have cA:=ae.o.2.1.nf;have bO:=(af.block U (Jl W)).trans W;have M:=ai.below af;have Q:Rd (Off (jB bI) X) 3 aL y ((eJ H).Parts.flatMap aU):=av.part (gP af);have cr:=lO aD eM bE;have J:=Jh (ul bI (U+1) v.bs v.bd y bE aD aL y aa (eJ H) X (aA.below af) Q.on (by rw[lY];exact aV.o.2.2) (Jw aV.o.2.2) aV.o.1 M.E.pow M.E.errs au Jo (Jw aV.o.2.2) (Jw aV.o.2.2));unfold dH at J;rw[aV.o.2.1] at J;have J:=Jh (show JC 71 #[.pointer (some (Jp (U+1) 0)),.agg #[.slice aL y aa,Ji y,Ji 0,.bool false,Ji 0,Ji 0,Ji 0]] X λe w'=>e= .returned (.tuple #[])/\∃de,bF c37 bI de X w'/\mY de (U+1) v.bs v.bd (y+1) (cntF aD eM bE) (eX aD eM (iG (eJ H))) w' from J.o);have dd:=Jh (Ja af (Ja M (Ja Q (Ja bO (Ja bh (Ja ck (Ja cA cr)))))));clear ai aA aj ay au aC W av bh ck cA bO M Q cr af dh aN;go_wp2_with fail;refine J.o.mono ?_;rintro e bt ⟨rfl,de,V,cn⟩;obtain⟨af,M,Q,bO,bh,ck,cA,cr⟩:=dd.o;have ax:=M.TP V cn;have dl:=ax.c2;obtain⟨d8,cc⟩:∃bH,S (uint K ++ oh K)=bH:=⟨_,rfl⟩;have b0:=(V.at (c:=8) (by unfold c37;omega) U (Jl bO) bh);have cT:=b0.2.trans bO;have ds:x.N=K:=by rw[ae.o.2.1.n,if_neg ae.o.2.2.2.1]
    have dw:=ae.o.2.2.1.n4;have cP:Fx v.bx K bt:=by
     have:=ax.idx.all
     rwa [ds] at this
    have bW:=Jh (ze v.bx K bt cP Jo);rw[cc] at bW;have dA:=xQ K;have dB:=bA (n:=K) Jo;obtain⟨ai,aA,aj,ay,au,aC,W,av⟩:=a1.o;have dj:(eJ H).Parts.length<=20:=by rw[lY];omega
    have dt:=oz aV.o.1 dj;have cC:jA (eX aD eM (iG (eJ H))):=jA.set au Jd Jo;have cG:jA (eX (eX aD eM (iG (eJ H))) nS (uint K ++ oh K)):=jA.set cC Jd (by rw[ab];omega);have cS:=lO (eX aD eM (iG (eJ H))) nS (cntF aD eM bE);have cQ:y<=12:=Jw aV.o.2.2;have cJ:((eX (eX aD eM (iG (eJ H))) nS (uint K ++ oh K)) cM).isSome=true:=by
     rw[fN _ _ Jd,fN _ _ Jd,ay.old _ λy _=>(qD y).symm,ae.o.2.1.D];cases aH with
     |nil=>exact absurd rfl ae.o.2.2.2.1
     |cons _ _=>rfl
    have ce:=Jh (λ(bo:JW)(h:Below bt.heap.size bt bo)=>nP de (U+1) v.bs v.bd (y+1) _ _ nS (uint K ++ oh K) bo (cn.below h) UH (by rw[ab];omega) cC Jo Jo Jo);rw[cc] at ce;have dq:=Jh (Ja V (Ja cn (Ja ax (Ja cT (Ja b0.1 (Ja cC (Ja cG (Ja cS (Ja cQ cJ)))))))));clear af M Q bO bh ck cA cr ax b0 cT ds dw cP cc dA dB ai aA aj ay au aC W av dj dt cC cG cS cQ cJ V cn bk bl bm bS bT bU bV J;go_wp2_with fail;refine bW.o.mono ?_;rintro e em ⟨rfl,dm⟩;have cP:=Jh dm;clear dm bW dl;go_wp2_with fail;refine(ce.o _ cP.o).mono ?_;rintro e en ⟨rfl,cq,bW,bL⟩;obtain⟨af,M,Q,bO,bh,ck,cA,cr⟩:=dd.o;obtain⟨V,cn,ax,b0,dw,cC,cG,cS,cQ,cJ⟩:=dq.o;obtain⟨ai,aA,aj,ay,au,aC,W,av⟩:=a1.o;have dD:=Jh (xd cq (U+1) v.bs v.bd (y+1+1) _ _ cM en bL Rb cJ cG Jo Jo);have bo:=ax.below cP.o;have J:=(cP.o.block U (Jl b0)).trans b0;have cc:=(bW.at (c:=8) (by unfold c37;omega) U (Jl J) dw);have dx:=Jh (Ja bW (Ja bL (Ja (bo.TP bW bL) (Ja (cc.2.trans J) cc.1))));clear af M Q bO bh ck cA cr V cn ax b0 dw cC cG cS cQ cJ ai aA aj ay au aC W av bo J cc bW bL ce;go_wp2_with fail;refine dD.o.mono ?_;rintro e cm ⟨rfl,dF,ce,dt⟩;obtain⟨bW,bL,dT,cc,dA⟩:=dx.o;have J:=dT.TP ce dt
    have bo:=(ce.at (c:=8) (by unfold c37;omega) U (Jl cc) dA).2.trans cc;obtain⟨d0,d1,d5,dW,-⟩:=dt.s.ex;have eE:=cl dW 1 rfl;have bk:=cl bo 0 rfl;have bl:=cl bo 1 rfl;have bm:=cl bo 2 rfl;have bS:=cl bo 3 rfl;have bT:=cl bo 4 rfl;have bU:=cl bo 5 rfl;have bV:=cl bo 6 rfl;have fh:=J.fz 3;have fi:=J.fz 4;have fj:=J.fz 5;have fk:=J.fz 6;have z7:=J.fz 7;have eO:=J.fz 8;have e3:=J.fz 9;have eH:=J.fz 10;have eK:=J.fz 11;have eL:=J.fz 14;have eq:=J.c3;have er:=J.c4;have es:=J.c5;have et:=J.c6;have eu:=J.c7;have eC:=J.c8;have eG:=J.c9;have eg:=J.c10;have el:=J.c11;have eo:=J.c14;have dX:dF U=8:=by rw[ce.old U (Jl cc)];exact dA
    have dB:U≠d:=λa7=>by
     have:=J.cd;rw[<-a7] at this;omega
    obtain⟨-,M,Q,-,-,-,-,-⟩:=dd.o;obtain⟨V,-,-,-,-,-,-,-,-,-⟩:=dq.o;have dV:Rd (Off (jB dF) cm) 3 aL y ((eJ H).Parts.flatMap aU):=(((Q.part (V.part (by unfold c37;omega))).part (gP cP.o)).part (bW.part (by unfold c37;omega))).part (ce.part (by unfold c37;omega));obtain⟨b1,cT⟩:=J.Ct (A:=aL) (c:=aa) (s:=eJ H) dV (by rw[lY];exact aV.o.2.2);have dR:(jY cm d aL y aa (eJ H).Next (eJ H).Past (eJ H).On (eJ H).Day (eJ H).To (eJ H).Done)=jY cm d aL y aa y 0 false 0 0 0:=by rw[aV.o.2.1];rfl
    rw[dR] at b1 cT;obtain⟨dj,dl⟩:=b1.self (w':=(((jY cm d aL y aa y 0 false 0 0 0).setCell (Jp d 10) (Jn)).setCell (Jp d 11) (Jn)).setCell (Jp d 14) (.pointer none)) (v':={v with A:=aL,cp:=aa,hA:=none,xs:=[],hc:=0,wv:=.pointer none}) (x':={x with fs:=zX K H aD,nf:=Sq K H aD bE,man:=eJ H,head:=[],work:=none}) (((fA _ _ _ _).trans (fA _ _ _ _) λ_ _ e=>e).trans (fA _ _ _ _) λ_ _ e=>e) ⟨rfl,rfl,rfl,rfl⟩ ⟨rfl,rfl,rfl,rfl,rfl⟩ (by
     rw[am (am (am b1.blk _) _)];rfl) b1.man ⟨rfl,Rd.nil _ _ _,λK h=>absurd h Js⟩ (ac _) (λdZ dY=>by cases dY) rfl
    have dy:=Jh (Ja ce (Ja cT (Ja dl dj)));have dY:(jY cm d aL y aa y 0 false 0 0 0).heap[U]?=cm.heap[U]?:=(IR _ _ _ _ _ _ _ _ _ _ _).block U (Jl bo) dB;have d7:d≠U:=λe=>dB e.symm;have dZ:=Jh dB;clear J bo dW dX M Q V dV b1 cT dR dj dl dY ce dt bW bL dT cc dA dD;go_wp2_with fail;go_ret;obtain⟨af,M,Q,bO,bh,ck,cA,cr⟩:=dd.o;obtain⟨ai,aA,aj,ay,au,aC,W,av⟩:=a1.o;obtain⟨V,cn,ax,b0,dw,cC,cG,cS,cQ,cJ⟩:=dq.o;obtain⟨bW,-⟩:=dx.o;obtain⟨ce,cT,dl,dj⟩:=dy.o;refine⟨rfl,_,ic.WH ae.o.1 dj ?_,?_⟩
    ·have ad:=((fu.o.trans (aj.mono λ_ e=>by unfold Ml at e;omega)).trans (bF.of ai.lt af)).trans (V.mono λ_ e=>by unfold c37 at e;omega);have az:=((ad.trans (bF.of ax.lt cP.o)).trans (bW.mono λ_ e=>by unfold c37 at e;omega)).trans (ce.mono λ_ e=>by unfold c37 at e;omega);exact(az.trans (cT.mono λ_ e=>Jo)).trans (dl.mono λ_ e=>Jo)
    exact fQ.flushed ae.o.2.1 ae.o.2.2.1 ae.o.2.2.2.1 co.o.1 (by rw[aV.o.2.2];exact ay) au (by rw[aV.o.2.2];exact aC)
  have fW:(y:Int)<aM:=Jo;obtain⟨bI,aL,aa,bE,aD,ai,aA,aj,ay,au,aC,W,av⟩:=eI;obtain⟨ar,di,cX,cW,b4,bw,bR,b6,bC⟩:=co.o;have aX:=ae.o.2.2.1;have bO:y<H.length:=Jo;have bL:H[y]∈H:=ah bO;obtain⟨cG,ci,cT⟩:=(ar.mem H[y]).1 bL;have cF:=aX.pos cG ci;obtain⟨M,ce⟩:∃M:Nat,H[y]=M:=⟨H[y].toNat,Jo⟩;have eO:M<=35:=Jo;have cJ:fa aH (M:Int)≠[]:=by rw[<-ce];exact wI ar bL
  have fX:∃e,ak.find? (λe=>decide (e.id=(M:Int)))=some e:=by
   have bi:(⟨cG,((0:Nat):Int),mC cG 0⟩:Row)∈be:=by
    rw[<-ae.o.2.2.2.2];exact List.mem_flatMap.2 ⟨cG,ci,List.mem_map.2 ⟨0,List.mem_range.2 aX.n1,rfl⟩⟩
   obtain⟨e,aW,a7⟩:=bv.o.2.2.1.all _ bi;cases aT:ak.find? λe=>decide (e.id=(M:Int)) with
   |some e=>exact⟨e,rfl⟩
   |none=>
    have:=List.find?_eq_none.1 aT e aW;simp only at a7;simp at this;omega
  obtain⟨e,bh⟩:=fX;have aN:=cL bh;have b1:e.id=(M:Int):=by simpa using eN bh
  have cq:e.xs=df K (fa aH M):=by
   rw[(bv.o.2.2.1.each e aN).1,b1,<-ae.o.2.2.2.2];exact MP _ _ _
  have bt:Y<=e.g/\e.g<U:=by
   obtain⟨-,-,-,-,cu,-,-⟩:=eA.o;have ad:=cu.at_ e aN;have az:=(ad.1.lt e.g rfl).2;have cb:¬e.g<b7:=λba=>ad.2 e.g rfl (.inl ba);have:=cO.o;have:=dg.o.2.2.2;have:=cN.o;omega
  have ck:=cW.at_ e aN;have cc:∀k,Y<=k->k<U->wr.heap[k]?=bn.heap[k]?/\bI k=0:=λk ad az=>by
   have:=aj.at (c:=0) (by unfold Ml;omega) k (Jw dg.o.1) (bR k ad az);exact⟨this.2,this.1⟩
  have dj:bP (Fv b7 ak e.id) 130 3 (.slice (some (Jp e.g 0)) e.xs.length e.c) e.xs.length (e.xs.flatMap aR) wr:=ck.later λa8 bD=>by
   obtain rfl:e.g=a8:=by simpa [qg.val,aG] using bD
   exact(cc _ bt.1 bt.2).1
  have cm:MapAt prog 3 wr Y aB (mapD ak):=cX.kept (cc Y (ac _) (by have:=cR.o;have:=ew.o;have:=dg.o.2.2.2;omega)).1;have b3:∀w',MapAt prog 3 w' Y aB (mapD ak)->(eQ 179 (.map (some Y)) (.int .i64 M) false).run prog w'= .ok (.slice (some (Jp e.g 0)) e.xs.length e.c) w':=λw' h=>by
   have ad:=h.look (t:=179) (z:=Jn) lf underlying179 Jk (nu (show pJ (M:Int) by unfold pJ;omega));rw[tD,bh] at ad;exact ad
  have cA:=(b4.part (aj.part (by unfold Ml;omega))).on;obtain⟨gp,gx,rfl,cC,cn⟩:=cA.elem (cells:=iS) (C:=1) (λ_=>rfl) Jd bO;have eK:=cn 0 _ rfl;rw[ce] at eK;simp only[dz,Nat.mul_one] at eK;have cr:eh (eJ (H.take y)).Parts (M:Int)=none:=zZ λaV b0=>Jw (uc ar.up bO aV b0);have cP:=Jh (fw (M:Int) aL aa y (eJ (H.take y)) wr av.on (by rw[lY,aF];omega) Jo);rw[cr] at cP;have bQ:(eJ (H.take y)).Next=(y:Int):=by
   show((H.take y).length:Int)=y;rw[aF];omega
  unfold dH at cP;rw[bQ] at cP;have cP:=Jh (show JC 28 #[.agg #[.slice aL y aa,Ji y,Ji 0,.bool false,Ji 0,Ji 0,Ji 0],Ji M] wr λe w'=>e= .returned (.tuple #[.agg #[Ji 0,Ji 0,.string (S [])],.bool false])/\Jz wr w' from cP.o);have bk:=cl W 0 rfl;have bl:=cl W 1 rfl;have bm:=cl W 2 rfl;have bS:=cl W 3 rfl;have bT:=cl W 4 rfl;have bU:=cl W 5 rfl;have bV:=cl W 6 rfl;have a1:=Jh (Ja ai (Ja aA (Ja aj (Ja ay (Ja au (Ja aC (Ja W av)))))));have cQ:=Jh (Ja cq (Ja dj (Ja cm (Ja bt b1))));have cS:=Jh b3;have bW:=Jh (Ja ce (Ja eO (Ja cJ (Ja bO bQ))));obtain⟨f3,dq⟩:=Je e.xs.length;rw[dq] at cS cQ;have eC:=Jh dq;clear ai aA aj ay au aC W av ar di cX cW b4 bw bR b6 bC aX bL ci cT cF ce cJ bh aN b1 cq bt ck cc dj cm b3 cA cC cn cr bQ dq;go_wp2_with fail;refine cP.o.mono ?_;rintro bY dd ⟨rfl,aN⟩;obtain⟨bt,gv,b1,cc,bL⟩:∃bt,dd.alloc (.cells #[Ji 0,Ji 0,.string (S [])] 76)=bt/\Jz dd bt/\bt.heap.size=dd.heap.size+1/\bt.heap[dd.heap.size]?=some (.cells #[Ji 0,Ji 0,.string (S [])] 76 (0,0)):=⟨_,rfl,Below.one _ _,Js,heap_alloc_new _ _⟩;obtain⟨eo,eG⟩:=Je dd.heap.size;rw[eG] at bL;have bh:=aN.then b1;have dF:=Jh (Ja bh (Ja bL (show wr.heap.size<=eo by rw[<-eG];exact aN.size)))
  have dD:=Jh (cQ.o.2.2.1.below bh);clear aN b1 cc bL bh;go_wp2_with fail;refine cB (n:=7) (S:=λw'=>MapAt prog 3 w' Y aB (mapD ak)) eT 7 rfl (dD.o.kept rfl) (λQ=>?_);refine JH 0 (h:=JH 2 (h:=JH 3 (h:=JH 4 (hy:=by(intro w ax;obtain ax:=ax;have el:=cS.o _ ax;go_simp)<;>with_reducible rfl) (h:=?_))));refine JM 1 (h:=λV J=>?_);go_simp;refine(lK none 0 [] [] none 0 0 [] bt.drew ⟨rfl,Rd.nil _ _ _,λK h=>absurd h Js⟩ (Rd.nil _ _ _) rfl (ac _) (ac _) jP.nil cj Js Js Js Js Jo lR.few lR.ids).mono ?_;rintro bY em ⟨f4,fe,gy,rfl,aN,b1,bL,dm⟩;obtain rfl:=bL.one (yj jP.nil);obtain⟨fl,dh,rfl⟩:∃bg bp,f4= .slice bg fe.length bp:=by
   obtain⟨cm,-,-,ad,-⟩:=aN;obtain⟨bg,bp,az⟩:=ad.form;exact⟨bg,bp,az⟩
  have f1:fe=[]:=bu (by have:=aN.yy.len;simpa using this.symm);subst f1;have bh:Jz bt em:=dm.h;have dZ:=Jh bh;refine J.out _ _ (dD.o.below bh) (λQ=>?_);clear J V aN b1 bL dm bh Q;try simp only[an,JY]
  refine JM 5 (h:=λV J=>?_);go_simp;have aY:=ae.o.2.2.1.day (M:Int);have aN:=aY.good;have ck:=aY.cnt;rw[<-cQ.o.1] at aN ck;refine(lK fl dh [] [] (some (Jp e.g 0)) e.c f3 e.xs em ⟨rfl,⟨rfl,λh=>absurd h Js⟩,λK h=>absurd h Js⟩ ((cQ.o.2.1.rd.below dF.o.1).below dZ.o) eC.o (pn cQ.o.2.1) (bj _) jP.nil aN.once aN.ok Js Js Js (Jw eC.o) aN.few aN.ids).mono ?_;rintro bY en ⟨ga,fg,gz,rfl,b1,cn,ci,cc⟩;rw[cQ.o.1] at ci;obtain rfl:=ci.one (wt aY.up);obtain⟨fm,fK,rfl⟩:∃bg bp,ga= .slice bg fg.length bp:=by
   obtain⟨cm,-,-,ad,-⟩:=b1;obtain⟨bg,bp,az⟩:=ad.form;exact⟨bg,bp,az⟩
  have bL:=b1.yy;have cr:=bL.len;have cq:=aY.few;have cm:oX (full K (fa aH M))<=50000:=by
   unfold oX;rw[qG];have:=ee aY.n4 aY.len;omega
  have bh:=Jh (kP fm fK fg (full K (fa aH M)) en bL Jo cm);rw[pB aY.up] at bh;have dx:=Jh (dZ.o.then cc);refine J.out _ _ ((dD.o.below dZ.o).below cc) (λQ=>?_);clear J V b1 cn ci cc Q bL cr cq cm aN ck;try simp only[an,JY]
  refine JM 6 (h:=λV J=>?_);go_simp;refine bh.o.mono ?_;rintro bY cm ⟨fI,dR,fL,rfl,aN,b1,cn,cq⟩;have d0:=Jh (dx.o.then cq);have gs:0<dR:=by
   rw[aN,AY];exact Nat.mul_pos (List.length_pos_iff.2 bW.o.2.2.1) aY.n1
  refine J.out _ _ (dD.o.below d0.o) (λQ=>?_);have ck:=Jh (BE K (fa aH M) aY bW.o.2.2.1 fI fL dR cm cn.rd aN.symm b1);have gu:dR<=48:=Jw aY.cnt;have cc:=(d0.o.block eo (Jl dF.o.2.1)).trans dF.o.2.1;have cr:=cl cc 1 rfl;have ci:=cl cc 2 rfl;have gi:=Jh (Ja aN b1);clear J V aN b1 cn cq Q bh cc;try simp only[an,JY]
  refine cy Jk ?_;go_wp2_with fail;refine ck.o.mono ?_;rintro bY de ⟨rfl,aN⟩;obtain⟨gA,bh⟩:∃bH,S (oo K (fa aH M))=bH:=⟨_,rfl⟩;rw[bh];have fG:=Jh bh;have es:=Jh ((dF.o.1.then d0.o).then aN);have cr:=al aN cr;have ci:=al aN ci;have b1:=a1.o.1.below es.o;have cC:=b1.c1;have cq:=λaB=>b1.below (w':=de.drewN aB) ⟨rfl,rfl,rfl,ac _,λ_ _=>rfl⟩;obtain⟨u0,cA⟩:∃dU,S ((aD []).getD [])=dU:=⟨_,rfl⟩;obtain⟨fJ,cn⟩:∃aJ,(aD []).isSome=aJ:=⟨_,rfl⟩;have cc:=Jh (λaB=>(iq _ v.bs v.bd bE aD [] (de.drewN aB) (cq aB).u Js).mono (λe w'(h:_/\_)=>(show e= .returned (.tuple #[.string u0,.bool fJ])/\w'=de.drewN aB from⟨by rw[h.1,cA,cn],h.2.symm⟩)));clear aN b1 cq bh cA cn ck;have gw:((dR:Int) == 0)=false:=beq_eq_false_iff_ne.2 Jo;go_wp2_with fail;go_quiet ((go_at_call 40;exact ek (cc.o _)));have aN:Jz de (de.drewN nq):=⟨rfl,rfl,rfl,ac _,λ_ _=>rfl⟩;have cr:=al aN cr;have dy:=Jh (es.o.then aN);clear aN cc ci cC;generalize de.drewN nq=dV at*;obtain⟨ai,aA,aj,ay,au,aC,W,av⟩:=a1.o;have dB:=(dy.o.block U (Jl W)).trans W;obtain⟨eq,d7⟩:∃aJ,dV.heap.size=aJ:=⟨_,rfl⟩
  obtain⟨dW,fY,dl,dJ,cn⟩:∃X,dV.alloc (.cells #[Ji 0,Ji M,Ji 0,Ji 0] 152)=X/\Below dV.heap.size dV X/\X.heap.size=eq+1/\X.heap[eq]?=some (.cells #[Ji 0,Ji M,Ji 0,Ji 0] 152 (0,0)):=⟨_,rfl,Below.one _ _,by simp[d7],by rw[<-d7];exact heap_alloc_new _ _⟩;have dA:=Jh (dy.o.then dl);have bh:=(dl.block U (Jl dB)).trans dB;have bk:=cl bh 0 rfl;have bl:=cl bh 1 rfl;have bm:=cl bh 2 rfl;have bS:=cl bh 3 rfl;have bT:=cl bh 4 rfl;have bU:=cl bh 5 rfl;have bV:=cl bh 6 rfl;have dY:=cl cn 0 rfl;have eE:=cl cn 1 rfl;have d5:=cl cn 2 rfl;have d1:=cl cn 3 rfl;obtain⟨dt,eO,cJ,bO,bQ⟩:=bW.o;obtain⟨ar,di,cX,cW,b4,bw,bR,b6,bC⟩:=co.o;have cA:H.length<=12:=by rw[bw];exact ef
  have dw:(H.take y).length=y:=by rw[aF];omega
  have cF:∀aV∈H,lW aV:=FV ae.o.2.2.1 ar;have cc:eV (eJ (H.take y)):=tm ar.up cF Jo y Jo;have cC:eV (eJ (H.take (y+1))):=tm ar.up cF Jo (y+1) Jo;have ck:H.take (y+1)=H.take y ++ [(M:Int)]:=by rw[aO bO,dt]
  have cT:ep (eJ (H.take y)) ⟨0,M,0,0⟩=some (eJ (H.take (y+1))):=by
   rw[ck];exact DN (λaV b0=>Jw (uc ar.up bO aV b0)) (by have:=cF _ (ah bO);rw[dt] at this;exact this) Jo
  have aN:=Jh (PK aL y aa (eJ (H.take y)) ⟨0,M,0,0⟩ dW (av.on.below dA.o) (by rw[lY,dw]) Jo cc.oU cc.n0 cc.n1 cc.Dw cc.Dx (ai.below dA.o).E.pow rfl ⟨_,cT⟩ rfl (λaV b0=>by have fM:aV.Day∈H.take y:=by{rw[<-zY (H.take y)];exact List.mem_map.2 ⟨aV,b0,rfl⟩};have d6:=uc ar.up bO aV.Day fM;simp only;omega));rw[kK cT] at aN;unfold dH nh at aN;rw[bQ] at aN;have aN:=Jh (show JC 70 #[.agg #[.slice aL y aa,Ji y,Ji 0,.bool false,Ji 0,Ji 0,Ji 0],.agg #[Ji 0,Ji M,Ji 0,Ji 0]] dW (FB (eJ (H.take (y+1)),0) dW.heap.size dW) from aN.o);have ci:(eJ (H.take (y+1))).Next=((y+1:Nat):Int):=by
   show((H.take (y+1)).length:Int)=_;rw[aF];omega
  have cq:eh (eJ (H.take (y+1))).Parts (M:Int)=some ⟨M,0,cE y⟩:=by
   rw[ck,Lr λaV b0=>Jw (uc ar.up bO aV b0),dw]
  have fx:=Jh (Ja cC (Ja ci (Ja cq (Ja ck cA))));have gj:=Jh (Ja bh dJ);have gh:=Jh d7;clear ai aA aj ay au aC W av dB dl dJ bh cn ar di cX cW b4 bw bR b6 bC cA dw cF cc cC ck cT ci cq dt bQ cJ;subst fY;go_wp2_with fail;refine aN.o.mono ?_;rintro bY dw ⟨cn,f2,cT,rfl,b0,cF⟩;obtain⟨cC,ci,cq,ck,cA⟩:=fx.o;obtain rfl:f2=y+1:=by
   have ad:=b0.len;simp only at ad;rw[lY,aF] at ad;omega
  unfold dH;simp only[ci,show(eJ (H.take (y+1))).Past=0 from rfl,show(eJ (H.take (y+1))).On=false from rfl,show(eJ (H.take (y+1))).Day=0 from rfl,show(eJ (H.take (y+1))).To=0 from rfl,show(eJ (H.take (y+1))).Done=0 from rfl];have et:=Jh (dA.o.then cF);obtain⟨cJ,d8⟩:∃aJ,dw.heap.size=aJ:=⟨_,rfl⟩;obtain⟨dX,fZ,cc,dJ,aV⟩:∃X,dw.alloc (.cells #[.slice cn (y+1) cT,Ji ((y+1:Nat):Int),Ji 0,.bool false,Ji 0,Ji 0,Ji 0] 83)=X/\Below dw.heap.size dw X/\X.heap.size=cJ+1/\X.heap[cJ]?=some (.cells #[.slice cn (y+1) cT,Ji ((y+1:Nat):Int),Ji 0,.bool false,Ji 0,Ji 0,Ji 0] 83 (0,0)):=⟨_,rfl,Below.one _ _,by simp[d8],by rw[<-d8];exact heap_alloc_new _ _⟩;have dt:=b0.rd.below cc;have bh:=Jh (fw (M:Int) cn cT (y+1) (eJ (H.take (y+1))) dX dt b0.len Jo);rw[cq] at bh;unfold dH at bh;rw[ci] at bh;have bh:=Jh (show JC 28 #[.agg #[.slice cn (y+1) cT,Ji ((y+1:Nat):Int),Ji 0,.bool false,Ji 0,Ji 0,Ji 0],Ji M] dX λe w'=>e= .returned (.tuple #[.agg #[Ji M,Ji 0,.string (S (cE y))],.bool true])/\Jz dX w' from bh.o);have dl:Rd (Off (jB bI) dX) 3 cn (y+1) ((eJ (H.take (y+1))).Parts.flatMap aU):=(b0.off λk aE=>by
   have ad:=a1.o.1.lt k aE;have az:=dA.o.size;omega).part (gP cc)
  have dB:=Jh (Ja (et.o.then cc) (Ja aV (Ja dl dJ)));have cG:=cl aV 0 rfl;have e3:=cl aV 1 rfl;have e4:=cl aV 2 rfl;have e5:=cl aV 3 rfl;have e6:=cl aV 4 rfl;have e7:=cl aV 5 rfl;have e8:=cl aV 6 rfl;have fp:=Jh (show cJ=dw.heap.size from d8.symm);clear b0 cF cC ci cq ck cA cc dJ aV dt dl bk bl bm bS bT bU bV dY eE d5 d1 aN cr;subst fZ;go_wp2_with fail;refine bh.o.mono ?_;rintro bY dY ⟨rfl,ci⟩;obtain⟨cr,aV⟩:∃dJ,cE y=dJ:=⟨_,rfl⟩;rw[aV];obtain⟨er,eH⟩:∃aJ,dY.heap.size=aJ:=⟨_,rfl⟩;obtain⟨gb,f0,ck,eL,cq⟩:∃X,dY.alloc (.cells #[Ji M,Ji 0,.string (S cr)] 76)=X/\Below dY.heap.size dY X/\X.heap.size=er+1/\X.heap[er]?=some (.cells #[Ji M,Ji 0,.string (S cr)] 76 (0,0)):=⟨_,rfl,Below.one _ _,by simp[eH],by rw[<-eH];exact heap_alloc_new _ _⟩;obtain⟨ai,aA,aj,ay,au,aC,W,av⟩:=a1.o;have cc:=ci.then ck;have b0:=dB.o.1.then cc;have cA:lC cr:=by rw[<-aV];exact wc Jo
  have dt:=(ae.o.2.2.1.day (M:Int)).wj bW.o.2.2.1;have eg:=ae.o.2.1.nf;have dl:=lO aD cr bE;have d1:=Jh (nP bI (U+1) v.bs v.bd y bE aD cr (oo K (fa aH M)) gb (aA.below b0) cA Jo au Jo Jo Jo);rw[fG.o] at d1;have cC:=(cc.block cJ (Jl dB.o.2.1)).trans dB.o.2.1;have cF:=(b0.block U (Jl W)).trans W;have dT:=cl cq 2 rfl;have eu:=Jh (Ja b0 (Ja cC (Ja cF (Ja cc (Ja cA (show(oo K (fa aH M)).length<=1792 by omega))))));have fB:=Jh aV;clear ai aA aj ay au aC W av ci ck eL cq cc b0 cA dt eg dl cC cF cG e3 e4 e5 e6 e7 e8 bh aV;subst f0;go_wp2_with fail;refine d1.o.mono ?_;rintro bY fc ⟨rfl,cq,ck,dl⟩;obtain⟨ai,aA,aj,ay,au,aC,W,av⟩:=a1.o;obtain⟨b0,cC,cF,cc,cA,eg⟩:=eu.o;have bC:=co.o.2.2.2.2.2.2.2.2;have dQ:=dg.o.1;have bh:bI U=8:=by rw[aj.old U Jo];exact bC
  have eL:bI cJ=0:=ai.lt.zero (Jx fp.o et.o.size);have dt:=(ck.at (c:=8) (by unfold c37;omega) U (Jl cF) bh);have ci:=(ck.at (c:=0) (by unfold c37;omega) cJ (Jl cC) eL).2.trans cC;have aV:=dt.2.trans cF;have cG:=cl ci 0 rfl;have e3:=cl ci 1 rfl;have e4:=cl ci 2 rfl;have e5:=cl ci 3 rfl;have e6:=cl ci 4 rfl;have e7:=cl ci 5 rfl;have e8:=cl ci 6 rfl;have bk:=cl aV 0 rfl;have bl:=cl aV 1 rfl;have bm:=cl aV 2 rfl;have bS:=cl aV 3 rfl;have bT:=cl aV 4 rfl;have bU:=cl aV 5 rfl;have bV:=cl aV 6 rfl;have gc:=(aP aV 0).2;have gd:=(aP aV 1).2;have ge:=(aP aV 2).2;have fh:=(aP aV 3).2;have fi:=(aP aV 4).2;have fj:=(aP aV 5).2;have fk:=(aP aV 6).2;have fn:=Jh (Ja ck (Ja dl (Ja aV (Ja dt.1 bh))));clear ai aA aj ay au aC W av b0 cC cF cc cA eg bC dQ bh eL dt ci aV ck dl dT d1;go_wp2_with fail;go_roundw
  case rel=>
   obtain⟨ai,aA,aj,ay,au,aC,W,av⟩:=a1.o;obtain⟨ck,dl,dt,fP,bh⟩:=fn.o;obtain⟨b0,cC,cF,cc,cA,eg⟩:=eu.o;have ci:=(ai.below b0).TP ck dl;have fU:=ci.lt;have aV:bF (λbp=>bp=8) cq cq fc (setSt fc U cn (y+1) cT ((y+1:Nat):Int) 0 false 0 0 0):=⟨λ_ _=>rfl,λk aE=>.inl (fU.zero aE),(Un _ _ _ _ _ _ _ _ _ _ _).mono λk _ e=>by rw[e];exact fP⟩;have fS:=ci.other aV ⟨Jo,Jo,Jo,Jo,Jo,Jo,Jo⟩;have eL:=ci.C.has;have d1:=ay.next (i:=y) bW.o.2.2.2.1;rw[bW.o.1,fB.o] at d1;refine⟨y+1,by go_num,eS,cq,cn,cT,cntF aD cr bE,_,fS,dl.other aV Jo Jo (by show ¬cq v.bd=8;have az:cq v.bd=2:=eL;omega),?_,d1,jA.set au cA.short eg,?_,?_,?_⟩
   ·exact(((aj.trans (bF.of ai.lt b0)).trans (ck.mono λ_ e=>by unfold c37 at e;unfold Ml;omega)).trans (aV.mono λ_ e=>by unfold Ml;omega))
   ·have:=lO aD cr bE;omega
   ·exact Uk dt _ _ _ _ _ _ _ _ _
   exact((dB.o.2.2.1.part (gP cc)).part (ck.part (by unfold c37;omega))).part (aV.part Jo)
  simp[intOf];omega
 obtain⟨e,aW,rfl,rfl⟩:=Pw eU;obtain⟨X,rfl,Q,-⟩:=Maps.keyOf_int_inv underlying3 db;obtain rfl:e.id=X:=by simpa using Q
 unfold qg.val at dr fT;have M:e.id∉dI:=λed=>by
  have:=(aS.of _ ed).1;rw[b3] at this;cases this
 have ef:aM<100:=by
  have ad:=Dr bv.o.2.2.1 aS.once λb9 cv=>(aS.of b9 cv).2;rw[aS.len] at ad;omega
 have J:bP (λy=>y<=aK) 3 1 (.slice bg aM d4) aM (dI.flatMap iS) fd:=aS.lie.later λa8 bD=>ea.block a8 (aS.lie.1.lt a8 bD).2 (by
  have:=aS.lie.2 a8 bD;simp only[ne_eq,Option.some.injEq];omega)
 have ej:gm (λy=>y<=aK) fd:=λa8 bD=>Jw aS.sz;have aq:=Jh aS;have V:=Jh aW;have H:=Jh (Ja b3 (Ja eY (Ja eR (Ja ea eZ))));have U:=Jh J;have W:=Jh M;clear aS aW b3 eY eR ea eZ eU db Q J M;go_wp2_with (at_builtin;go_must (refine bb rfl (.tmp 86) (.tmp 88) 23 Jr 3 (Ji 0) 1 8 underlying23 my rfl Jd (λy=>y<=aK) aM _ _ _ #[Ji e.id] rfl (by intro dU cg;simp at cg;rcases cg with rfl;rfl) U.o Jr ej Jr Jm Jo ?_;intro e9 cH br b5 dp da;obtain⟨dG,aa,rfl⟩:=br.form;have d2:=Jh br;have a6:=Jh b5;clear dp da br b5));have J:kJ prog 3 cH Y aK aB (mapD ak) (λx=>left x && !x.sameKey (.int .i64 e.id)) eD:=
  H.o.2.1.kept (a6.o.block Y (Jw cR.o)) (a6.o.block aK (ac _))
 have a1:=Jh J;clear J;go_roundw
 case rel=>
  refine⟨aM+1,aa,dG,dI ++ [e.id],_,eD,rfl,{len:=by rw[ab,aq.o.len];rfl,ran:=a1.o,lie:=?_,of:=λb9 cv=>?_,all:=λdJ aT d6=>?_,once:=?_,s:=?_,sz:=?_}⟩
  ·have:=d2.o;simpa [ao,iS] using this
  ·rcases List.mem_append.1 cv with ba|ba
   ·obtain⟨ad,az⟩:=aq.o.of b9 ba;exact⟨by rw[ad];rfl,az⟩
   obtain rfl:b9=e.id:=by simpa using ba
   exact⟨by simp[Lit.sameKey],e,V.o,rfl⟩
  ·by_cases ba:dJ.id=e.id
   ·rw[ba];simp
   exact List.mem_append_left _ (aq.o.all dJ aT (by simpa [Lit.sameKey,ba] using d6))
  ·rw[List.nodup_append];exact⟨aq.o.once,Js,λd3 dN aJ dO=>by
    obtain rfl:aJ=e.id:=by simpa using dO
    intro a7;exact W.o (a7▸dN)⟩
  ·have J:=aq.o.s;have dP:=bv.o.2.2.2.2.2.1;refine⟨a6.o.os.trans (H.o.2.2.2.1.os.trans J.os),a6.o.tape.trans (H.o.2.2.2.1.tape.trans J.tape),a6.o.output.trans (H.o.2.2.2.1.output.trans J.output),by have:=a6.o.size;have:=H.o.2.2.2.2;have:=J.size;omega,λk aE bJ=>?_⟩;exact(a6.o.block k Jo).trans ((H.o.2.2.2.1.block k (Jw J.size) (by simp only[ne_eq,Option.some.injEq];exact bJ)).trans (J.block k aE bJ))
  have:=a6.o.size;have:=H.o.2.2.2.2;have:=aq.o.sz;omega
 have ad:=a1.o.left;have az:=aq.o.ran.left;have cb:=H.o.2.2.1;omega
theorem QP (N k c m:Nat)(y:List Int)(aj:Held N y)(hc:c<=8)(ar:k<=1000)(col:Nat->Nat)(d:Nat)(v:nI)(x:iU)(w:JW)(h:cI col d v x w)(ay:∀k,col k≠7)(hr:mW N y k c (m+1) x):
 JC 13 #[Jv d] w λe w'=>e= .returned (.tuple #[.bool true,Ji 0])/\sk N y k c m col d w w':=by
 have ac:=hr.calm aj hc;have am:=Jh (Fh col d v x w h ac.len ac.part ac.cnt);have ae:=Jh h;have W:=Jh aj;have ag:=Jh ay;have al:=Jh hr;have an:=Jh (Ja hc ar);go_enter Tryz.func13,Tryz.ntmps13;go_wp2_with fail;refine am.o.mono ?_;rintro e J ⟨rfl,ai⟩;have E:=ae.o.below ai;have T:=xS _ d v.bs v.bd x.nf x.fs J E.u E.c1;have ao:=E.c6;have ax:bF PD col col w J:=bF.of ae.o.lt ai;have af:=Jh ax;have aB:=Jh E;rcases al.o with⟨ah,-⟩|⟨ah,-⟩|⟨ah,ak,H,av,ap⟩|⟨Q,O,au,aC,aD,H⟩
 ·omega
 ·omega
 ·obtain rfl:m=0:=Jo;subst av ap;have X:(x.fs cM).isSome=true:=by
   rw[H.D];cases y with
   |nil=>exact absurd rfl ak
   |cons _ _=>rfl
  rw[X] at T;have V:=Jh T;have U:=Jh (Lx col d v x J E ag.o N y H W.o ak);go_wp2_with fail;refine V.o.mono ?_;rintro e az ⟨rfl,rfl⟩;go_wp2_with fail;refine U.o.mono ?_;rintro e aA ⟨rfl,ad,ab,aa⟩;have M:=Jh (Ja ab aa);go_wp2_with fail;go_ret2;exact⟨rfl,ad,ic.yK af.o M.o.1,.inr (.inl ⟨rfl,M.o.2⟩)⟩
 subst au;have X:(x.fs cM).isSome=false:=by rw[H.D];rfl
 rw[X] at T;rw[H.on] at ao;have V:=Jh T;have U:Jq (JC 34 #[Jv d] J λe w'=>e= .returned (Ji 0)/\∃K,ic col d K J w'/\mW N y (O+1) c m K):=by
  refine Jh ?_;by_cases aw:m=0
  ·subst aw;have aq:lo N y O c Q N x:=by simpa using H
   refine(Dl col d v x J E ag.o N O c y Q aq W.o (Jw an.o.2)).mono ?_;rintro e w' ⟨rfl,K,Y,Z⟩;exact⟨rfl,K,Y,.inr (.inl ⟨rfl,Z⟩)⟩
  refine(BC col d v x J E N O c (N+1 - (m+1)) y Q H W.o Jo).mono ?_;rintro e w' ⟨rfl,K,Y,Z⟩;refine⟨rfl,K,Y,.inr (.inr (.inr ⟨Q,O,rfl,Jo,Jo,?_⟩))⟩;have:N+1 - m=N+1 - (m+1)+1:=Jo;rw[this];exact Z
 go_wp2_with fail;refine V.o.mono ?_;rintro e az ⟨rfl,rfl⟩;go_wp2_with fail;refine U.o.mono ?_;rintro e aA ⟨rfl,ad,ab,aa⟩;have M:=Jh (Ja ab aa);go_wp2_with fail;go_ret2;exact⟨rfl,ad,ic.yK af.o M.o.1,M.o.2⟩
open Classical in
theorem cI.WM {col:Nat->Nat}{d:Nat}{v:nI}{x:iU}{w w':JW}(h:cI col d v x w){nf:Nat}{fs:JU->Option JU}(O:mZ (λk=>col k=3) v.bs v.bd nf fs w w'):
 ∃y,cI y d v {x with fs:=fs,nf:=nf} w'/\bF (λc=>c=3) col y w w':=by
 obtain⟨Q,H,J,K⟩:=O;obtain⟨D,M⟩:=tH J K h.lt;exact⟨_,h.store D Jo Jo Jo Jo Jo Jo (H.move λk T E=>⟨M k E,rfl⟩),D⟩
theorem JQ (col:Nat->Nat)(d:Nat)(v:nI)(x:iU)(w:JW)(h:cI col d v x w)(A:JA)(c n:Nat)(xs:List Rc)(hr:Rd (Off (jB col) w) 5 A n (xs.flatMap mM))(W:xs.length=n)(am:n<=1000)(ac:∀r∈xs,Fz r w)
 (V:((x.fs cM).getD []).length+(tr xs).length<=1792) (Q:jA x.fs) (T:x.nf<=16) (U:cntF x.fs cM x.nf<=16) (y:Nat->iU) (O:y 0={x with fs:=eX x.fs cM ((x.fs cM).getD [] ++ tr xs),nf:=cntF x.fs cM x.nf})
 (H:∀i(hi:i<xs.length) J aw D,cI J d aw (y i) D->bF PD col J w D->JC 44 #[Jv d,GP xs[i].k (.slice xs[i].lA xs[i].ln xs[i].lc) (.slice xs[i].rA xs[i].rn xs[i].rc)] D λe w'=>e= .returned (.tuple #[])/\∃K v2,cI K d v2 (y (i+1)) w'/\bF PD J K D w'):
 JC 53 #[Jv d,.slice A n c] w λe w'=>e= .returned (Ji 0)/\ic col d (y n) w w':=by
 have Y:=h.c1;have M:=Jh (zq _ v.bs v.bd x.nf x.fs A c n xs w h.u (by obtain⟨al,X,-⟩:=h.C.cells;exact X) (by obtain⟨aA,al,X,-⟩:=h.C.ex;exact(Jl X)) hr.on W am ac h.E.tab V Q T U);have ad:=Jh h;have ah:=Jh hr;have ag:=Jh W;have af:=Jh O;have ae:=Jh H;clear h hr W ac V Q T U O H;go_enter Tryz.func53,Tryz.ntmps53;go_wp2_with fail;refine M.o.mono ?_;rintro e ay ⟨rfl,O⟩;obtain⟨J,H,Q⟩:=ad.o.WM O;rw[<-af.o] at H;have ai:=Jh (show ic col d (y 0) w ay from⟨J,v,H,Q.mono λ_ e=>by unfold PD;omega⟩);clear O H Q M Y;go_wp2_with fail;go_loopw [19] (λH wr=>∃i:Nat,H=Ji i/\i<=n/\ic col d (y i) w wr) (λH _=>n - (intOf H).toNat)
 case atStart=>exact⟨0,rfl,bj _,ai.o⟩
 obtain⟨i,rfl,hi,K,v2,M,O⟩:=hrel;have Y:=Jh M;have Z:=Jh O;by_cases an:i<n;rotate_left
 ·obtain rfl:i=n:=Jo;have ao:=Jf ((i:Int)<i);clear M O;go_wp2_with fail;go_ret;exact⟨rfl,K,v2,Y.o,Z.o⟩
 have ao:=Jt ((i:Int)<n);have aa:i<xs.length:=by rw[ag.o];exact an
 obtain⟨aB,aD,rfl,aC,ar,au,av,aJ,aK⟩:=TW (ah.o.part (O.part (by unfold PD;omega))).on aa;have V:=λD H Q=>ae.o i aa K v2 D H Q;obtain⟨r,ap⟩:=Je (xs[i]);rw[ap] at ar au av V;obtain⟨az,aq⟩:=Je wr.heap.size;obtain⟨Q,ab,T,H⟩:∃Q,wr.alloc (.cells #[Ji r.k,aQ r.lA r.ln r.lc,aQ r.rA r.rn r.rc,Jn,Ji 0] 108)=Q/\Jz wr Q/\Q.heap[az]?=some (.cells #[Ji r.k,aQ r.lA r.ln r.lc,aQ r.rA r.rn r.rc,Jn,Ji 0] 108 (0,0)):=
  ⟨_,rfl,Below.one _ _,by rw[<-aq];exact heap_alloc_new _ _⟩
 have aE:=cl H 0 rfl;have aF:=cl H 1 rfl;have aG:=cl H 2 rfl;have aH:=cl H 3 rfl;have aI:=cl H 4 rfl;have U:=Jh (V Q (M.below T) (O.trans (bF.of M.lt T)));unfold GP at U;have ak:=Jh T;have aj:=Jh ab;clear M O V T H ab;go_wp2_with fail;try simp only[aj.o]
 refine U.o.mono ?_;rintro e aL ⟨rfl,ab,ax,T,V⟩;have H:=Jh (Ja T V);clear T V U;go_wp2_with fail;go_roundw
 case rel=>exact⟨i+1,by go_num,Jo,ab,ax,H.o.1,(Z.o.trans (bF.of Y.o.lt ak.o)).trans H.o.2⟩
 simp[intOf];omega
theorem Ec (w:JW):JC 38 #[] w λe w'=>∃H,e= .returned (Jv H)/\(∀G,si (λk=>w.heap.size<=k/\k<w.heap.size+3) G H 0 w')/\Jz w w'/\w'.heap.size=w.heap.size+3:=by
 have X:=@run_makeMap prog;obtain⟨D,y⟩:=Je (((w.alloc (.map #[] 0)).alloc (.map #[] 0)).alloc (.cells #[Jn,.map (some w.heap.size),.map (some (w.heap.size+1))] 195));have O:D.heap.size=w.heap.size+3:=by rw[<-y];simp
 have M:Below w.heap.size w D:=by rw[<-y];exact((Below.one _ _).alloc Js _).alloc (by simp;omega) _
 have K:MapAt prog 9 D w.heap.size 0 (oF 0):=by
  rw[<-y];exact((MapAt.made w).below ((Below.one _ _).alloc Js _)).ext λk=>by unfold oF;cases uF k<;>rfl
 have J:MapAt prog 9 D (w.heap.size+1) 0 (λ_=>none):=by
  rw[<-y];have:=(MapAt.made (P:=prog) (k:=9) (w.alloc (.map #[] 0))).below (Below.one _ (.cells #[Jn,.map (some w.heap.size),.map (some (w.heap.size+1))] 195));simpa using this
 have E:=heap_alloc_new ((w.alloc (.map #[] 0)).alloc (.map #[] 0)) (.cells #[Jn,.map (some w.heap.size),.map (some (w.heap.size+1))] 195);rw[y] at E;simp only[aI] at E;have T:=Jh y;have Q:=Jh (show(∀G,si (λk=>w.heap.size<=k/\k<w.heap.size+3) G (w.heap.size+1+1) 0 D)/\Jz w D/\D.heap.size=w.heap.size+3 from
  ⟨λG=>⟨none,0,w.heap.size,w.heap.size+1,w.heap.size+1,0,λ_=>none,[],E,⟨Jo,Jo⟩,⟨Jo,Jo⟩,⟨Jo,Jo⟩,Jo,rfl,bP.nil _ _ _ _,(λW V=>by simp[aG] at V),(λY U=>absurd U Js),K,.inl ⟨rfl,rfl,J⟩⟩,M,O⟩)
 clear K E J M O y;go_enter Tryz.func38,Tryz.ntmps38;go_wp2_with fail;go_ret;have y:=Q.o;rw[<-T.o] at y;exact⟨_,rfl,y⟩
def BG:iU:=⟨λ_=>none,0,0,st0,[],0,λ_=>(0,0),none⟩
theorem Sc (N:Nat):fQ N [] BG:=⟨by simp[BG],rfl,by simp[BG,full],rfl,λ_=>rfl,rfl,λ_ _=>rfl,rfl,by simp[BG],by simp[BG]⟩
theorem Mj (col:Nat->Nat)(W:Nat)(w:JW)(ae:sV col w)(aa:Lt col w)(Y:iJ (λk=>col k=2) W 512 w):
 JC 16 #[Jv W] w λe w'=>∃d,e= .returned (.tuple #[Jv d,Ji 0])/\∃aM v,cI aM d v BG w'/\bF PD col aM w w':=by
 have a1:prog.follows .mixedOrders=true:=Jk;have H:=Jh (EU _ W 512 w Y Jo Jo (λk y=>aa k Jo));have aH:=Jh (Ja ae (Ja aa Y));clear ae aa Y;go_enter Tryz.func16,Tryz.ntmps16;go_wp2_with fail;refine H.o.mono ?_;rintro e M ⟨U,rfl,ah,X⟩;have D:=Jh (Ec M);have aE:=Jh (Ja ah X);clear ah X H;go_wp2_with fail;refine D.o.mono ?_;rintro e Q ⟨ar,rfl,af,ad,an⟩;have aI:=Jh (GE Q);have aF:=Jh (Ja af (Ja ad an));clear af ad an D;go_wp2_with fail;refine aI.o.mono ?_;rintro e aD ⟨aq,rfl,aQ,aw,aV⟩;obtain⟨ae,aa,Y⟩:=aH.o;obtain⟨ah,X⟩:=aE.o;obtain⟨af,ad,an⟩:=aF.o;obtain⟨d,aN⟩:=Je aD.heap.size;obtain⟨v,ax⟩:∃v:nI,v=⟨W,U,ar,aq,none,0,none,0,[],.pointer none⟩:=⟨_,rfl⟩;obtain⟨D,a6,ak,aW,aR⟩:∃D,aD.alloc (.cells #[Jv W,Jv U,Jv ar,Jn,Ji 0,Ji 0,.bool false,Ji 0,Ji 0,Ji 0,Jn,Jn,Ji 0,Jv aq,.pointer none] 88)=D/\Jz aD D/\D.heap.size=d+1/\
  D.heap[d]?=some (.cells #[Jv W,Jv U,Jv ar,Jn,Ji 0,Ji 0,.bool false,Ji 0,Ji 0,Ji 0,Jn,Jn,Ji 0,Jv aq,.pointer none] 88 (0,0)):=⟨_,rfl,Below.one _ _,by simp[aN],by rw[<-aN];exact heap_alloc_new _ _⟩
 have aU:w.heap.size<=M.heap.size:=X.size;have au:Jz M D:=(ad.then aw).then ak;have aj:Jz w D:=X.then au;have av:Jz Q D:=aw.then ak;obtain⟨H,V⟩:∃H:Nat->Nat,H=λk=>if k=d then 1 else if w.heap.size<=k/\k<M.heap.size then 3 else if M.heap.size<=k/\k<M.heap.size+3 then 4 else if Q.heap.size<=k/\k<Q.heap.size+2 then 5 else col k:=⟨_,rfl⟩;have ao:∀k,k<w.heap.size->H k=col k:=λk y=>by
  rw[V];simp only;rw[if_neg Jo,if_neg Jo,if_neg Jo,if_neg Jo]
 have az:∀k,w.heap.size<=k->k<M.heap.size->H k=3:=λk J ab=>by
  rw[V];simp only;rw[if_neg Jo,if_pos ⟨J,ab⟩]
 have aA:∀k,M.heap.size<=k->k<M.heap.size+3->H k=4:=λk J ab=>by
  rw[V];simp only;rw[if_neg Jo,if_neg Jo,if_pos ⟨J,ab⟩]
 have aB:∀k,Q.heap.size<=k->k<Q.heap.size+2->H k=5:=λk J ab=>by
  rw[V];simp only;rw[if_neg Jo,if_neg Jo,if_neg Jo,if_pos ⟨J,ab⟩]
 have ay:H d=1:=by
  rw[V];simp
 have aC:∀k,d<k->H k=0:=λk y=>by
  rw[V];simp only;rw[if_neg Jo,if_neg Jo,if_neg Jo,if_neg Jo];exact aa.zero Jo
 have aP:Lt H D:=λk y=>by
  by_cases O:k<=d
  ·omega
  exact absurd (aC k Jo) y
 have aO:sV H D:=by
  obtain⟨aG,T,Z,al,K,ap⟩:=ae;exact⟨aG,T,Z,al,K.then' aj,λk y=>by rw[ao k (ai y K.size)];exact ap k y⟩
 have K:cI H d v BG D:=by
  subst ax;refine⟨aP,ay,aR,Y.move λk y e=>⟨(ao k y).trans e,aj.block k y⟩,ah.move λk y e=>⟨az k e.1 e.2,au.block k y⟩,(af (jB H)).move (λk y e=>⟨aA k e.1 e.2,av.block k y⟩) (gP av),aQ.move λk y e=>⟨aB k e.1 e.2,ak.block k y⟩,Rd.nil _ _ _,⟨rfl,Rd.nil _ _ _,λZ O=>absurd O Js⟩,ac _,λal T=>(by cases T),rfl,aO⟩
 have aS:bF PD col H w D:=by
  refine⟨ao,λk y=>?_,jl.of aj⟩;by_cases O:k<=d
  ·refine .inr ⟨?_,Jo⟩;rcases(show k=d∨k<M.heap.size∨(M.heap.size<=k/\k<M.heap.size+3)∨(Q.heap.size<=k/\k<Q.heap.size+2) by omega) with rfl|J|J|J
   ·rw[ay];unfold PD;omega
   ·rw[az k y J];unfold PD;omega
   ·rw[aA k J.1 J.2];unfold PD;omega
   rw[aB k J.1 J.2];unfold PD;omega
  exact .inl (aC k Jo)
 have al:v.bs=U:=by rw[ax]
 obtain⟨Z,aT⟩:=K.self (w':=D.setCell (Jp d 12) (Ji 0)) (v':=v) (x':=BG) (fA _ _ _ _) ⟨rfl,rfl,rfl,rfl⟩ ⟨rfl,rfl,rfl,rfl,rfl⟩ (by
  rw[am K.blk];rfl) K.man K.hd K.hcap K.oE K.wk
 have aK:=Jh (λT(O:Jz D T)=>iq _ U v.bd 0 (λ_=>none) eM T (by have:=(K.below O).u;rwa [al] at this) Jd);have aJ:=Jh (λT(O:Jz D T)=>iq _ U v.bd 0 (λ_=>none) nS T (by have:=(K.below O).u;rwa [al] at this) Jd);have aL:=Jh (zu _ U v.bd 0 (λ_=>none) _ (by have:=Z.u;rwa [al] at this) rfl Z.E.tab);have aY:=K.c5;have aX:=K.c12;have aZ:=K.fz 12;have ap:=Jh (Ja Z (aS.trans (aT.mono λ_ e=>by unfold PD;omega)));have aG:=Jh (λT(O:Below (D.setCell (Jp d 12) (Ji 0)).heap.size (D.setCell (Jp d 12) (Ji 0)) T)=>Ja (Z.below O).c6 (Z.below O).c9);clear ae aa Y ah X af ad an aQ aw aV ak aW aR aU au aj av V ao az aA aB ay aC aP aO K aS Z aT al ax aI aE aF aH;go_wp2_with fail;refine(aK.o _ (ag _ _)).mono ?_;rintro e V ⟨rfl,rfl⟩;go_wp2_with fail;refine(aJ.o _ (ag _ _)).mono ?_;rintro e V ⟨rfl,rfl⟩;go_wp2_with fail;refine aL.o.mono ?_;rintro e X ⟨rfl,K⟩;have Z:=(aG.o _ K).1;have ad:=(aG.o _ K).2;have T:=Jh K;clear K aL aK aJ aY aX aZ;go_wp2_with fail;go_loopw [81] (λK wr=>K=Ji 0/\wr=X) (λ_ _=>0)
 case atStart=>exact⟨rfl,rfl⟩
 obtain⟨rfl,rfl⟩:=hrel;go_wp2_with fail;go_ret2;exact⟨d,rfl,H,v,ap.o.1.below T.o,ap.o.2.trans (bF.of ap.o.1.lt T.o)⟩
def Ui (D:Nat)(A:JA)(l:Ug)(w:JW):Prop:=Rd w 2 A 1 (dR l)/\∀y,A=some y->D<=y.block
theorem GT (A:JA)(c n:Nat)(xs:JU)(w:JW)(hr:Rd w 1 A n (xs.flatMap byteCells))(ax:xs.length=n):
 JC 5 #[.slice A n c] w λe w'=>∃(D:JA)(k E:Nat),e= .returned (.slice D k E)/\k<=12/\k<=xs.length/\bP (λj=>j<w.heap.size) 3 1 (.slice D k E) k ((vM xs k).flatMap iS) w'/\Below w.heap.size w w':=by
 obtain⟨J,M⟩:=Je w.heap.size;have ai:=Jh hr;have W:=Jh ax;have ah:=Jh (show bP (λk=>k<J) 3 1 (.slice (some (Jp w.heap.size 0)) 0 0) 0 [] (w.alloc (.cells #[] 3)) from by rw[<-M];exact bP.made _ w _ _ λk O=>O);have aj:=Jh (show Below J w (w.alloc (.cells #[] 3)) from by rw[<-M];exact Below.one _ _);have T:=Jh M;go_enter Tryz.func5,Tryz.ntmps5;go_wp2_with fail;go_loopw [3,4,5] (λK Q H wr=>∃(y E:Nat)(D:JA),H=Ji y/\Q=Ji (yE xs y)/\K= .slice D y E/\y<=n/\y<=12/\bP (λk=>k<J) 3 1 (.slice D y E) y ((vM xs y).flatMap iS) wr/\Below J w wr) (λ_ _ H _=>12 - (intOf H).toNat)
 case atStart=>exact⟨0,0,_,rfl,rfl,rfl,bj _,Jo,by rw[MI];simpa [M] using ah.o,aj.o⟩
 obtain⟨y,E,D,rfl,rfl,rfl,aH,aI,aq,Y⟩:=hrel;have V:=Jh aq;have H:=Jh Y;by_cases ap:y<n;rotate_left
 ·obtain rfl:y=n:=Jo;have ag:=Jf ((y:Int)<y);go_wp2_with fail;go_ret;exact⟨D,y,E,rfl,Jo,Jw W.o,by rw[T.o];exact V.o,by rw[T.o];exact H.o⟩
 by_cases aF:y<12;rotate_left
 ·obtain rfl:y=12:=Jo;have ag:decide (((12:Nat):Int)<n)=true:=decide_eq_true Jo;go_wp2_with fail;go_ret;exact⟨D,12,E,rfl,Jo,Jw W.o,by rw[T.o];exact V.o,by rw[T.o];exact H.o⟩
 have ag:=Jt ((y:Int)<n);have aL:=Jt ((y:Int)<12);have ad:y<xs.length:=by rw[W.o];exact ap
 have az:=ai.o.below (by rw[M];exact Y);obtain⟨an,aC,rfl,aG,au⟩:=az.elem byteCells_length Jd ad;have aa:=uR ad;have aw:=Cw xs y Jo;have Q:=UInt8.toNat_lt xs[y];obtain⟨ac,aB⟩:=Je ((xs[y]).toNat);have aD:wr.cell? (Jp an (aC+y))=some (.int .u8 (xs[y].toNat:Int)):=by simpa using au 0 _ rfl
 rw[aB] at aD aa Q;obtain⟨ab,aA⟩:=Je (yE xs y);rw[aA] at aa aw ⊢;have X:=Jh aa;have ay:gm (λk=>k<J) wr:=λk O=>Jw Y.size;have aJ:ab<=3072:=Jo;obtain⟨U,af⟩:∃U:Nat,ab+(1+ac)=U:=⟨_,rfl⟩;have aK:(ab:Int)+(1+(ac:Int))=(U:Int):=Jo;rw[af] at X;have aE:=Jh (Ja af Q);go_wp2_with (at_builtin;go_must (refine bb rfl (.tmp 25) (.tmp 27) 23 Jr 3 (Ji 0) 1 8 underlying23 my rfl Jd (λj=>j<J) y _ _ _ #[Ji U] rfl (by intro ac Q;simp at Q;rcases Q with rfl;rfl) V.o Jr ay Jr Jm Jo ?_;intro aM aN Z ae av ar;obtain⟨al,am,rfl⟩:=Z.form;have ak:=Jh Z;have K:=Jh ae;clear av ar Z ae));go_roundw
 case rel=>
  refine⟨y+1,am,al,by go_num,?_,rfl,Jo,Jo,?_,?_⟩
  ·rw[X.o]
  ·have:=ak.o;rw[MG,X.o];simpa [ao,iS] using this
  exact⟨K.o.os.trans H.o.os,K.o.tape.trans H.o.tape,K.o.output.trans H.o.output,by have:=K.o.size;have:=H.o.size;omega,λk O=>(K.o.block k O).trans (H.o.block k O)⟩
 simp[intOf];omega
theorem SX (i:Nat)(hi:i<8)(w:JW):JC 18 #[Ji i] w λe w'=>∃(A:JA)(k:Nat),e= .returned (.slice A 1 k)/\Ui w.heap.size A (kE (iB i)) w'/\Below w.heap.size w w':=by
 have y:i=0∨i=1∨i=2∨i=3∨i=4∨i=5∨i=6∨i=7:=Jo;rcases y with rfl|rfl|rfl|rfl|rfl|rfl|rfl|rfl;all_goals
  go_enter Tryz.func18,Tryz.ntmps18;go_wp2_with fail;go_ret;exact⟨_,_,rfl,⟨jX w #[.string (S [97]),.string (S [iB _])] _,λD e=>by cases e;exact ac _⟩,Below.one _ _⟩
structure Rs where
 A:JA
 k:Nat
 T:Int
 V:Int
def wo (p:Rs):List Value:=[.slice p.A 1 p.k,Ji p.T,Ji p.V]
theorem yi (p:Rs):(wo p).length=3:=rfl
theorem Ke {w:JW}{A:JA}{n:Nat}{xs:List Rs}(h:Rd w 3 A n (xs.flatMap wo)){i:Nat}(hi:i<xs.length):
 ∃b y,A=some (Jp b y)/\b<w.heap.size/\w.cell? (Jp b (y+i*3))=some (.slice xs[i].A 1 xs[i].k)/\w.cell? (Jp b (y+i*3+1))=some (Ji xs[i].T)/\w.cell? (Jp b (y+i*3+2))=some (Ji xs[i].V):=by
 obtain⟨b,y,E,H,D⟩:=h.elem yi Jd hi;exact⟨b,y,E,H,D 0 _ rfl,by have:=D 1 _ rfl;rwa [<-aV] at this,by have:=D 2 _ rfl;rwa [<-aV] at this⟩
structure wM (N:Nat) (t:Int) (F:Nat->Prop) (A:JA) (ps:List Rs) (w:JW):Prop where
 len:ps.length=N
 rd:Rd (Off F w) 3 A N (ps.flatMap wo)
 each:∀i(h:i<ps.length),ps[i].T=t/\ps[i].V=mC t i/\Rd (Off F w) 2 ps[i].A 1 (dR (kE (iB i)))
theorem wM.part {N:Nat}{t:Int}{F E:Nat->Prop}{A:JA}{ps:List Rs}{w w':JW}(h:wM N t F A ps w)(H:Part (Off F w) (Off E w')):wM N t E A ps w':=
 ⟨h.len,h.rd.part H,λD y=>⟨(h.each D y).1,(h.each D y).2.1,(h.each D y).2.2.part H⟩⟩
theorem GO:(prog.info? 108).map (λi=>(i.zero,i.size,i.bytes))=some (some (.agg #[Ji 0,Jn,Jn,Jn,Ji 0]),5,88):=Jk
def io (t:Int)(i:Nat):List Row:=(aL i).map λ(y:Nat)=>⟨t,(y:Int),mC t y⟩
theorem yo (t:Int)(i:Nat):io t (i+1)=io t i ++ [⟨t,(i:Int),mC t i⟩]:=by
 unfold io;rw[dZ,cH];rfl
theorem oN (t:Int)(i:Nat):(io t i).length=i:=by simp[io]
theorem wx (t:Int)(N:Nat):df N [t]=io t N:=by simp[df,io]
theorem AW {t:Int}{i:Nat}{r:Row}(h:r∈io t i):∃k:Nat,k<i/\r=⟨t,(k:Int),mC t k⟩:=by
 unfold io at h;obtain⟨k,y,rfl⟩:=List.mem_map.1 h;exact⟨k,List.mem_range.1 y,rfl⟩
theorem Held.last {N:Nat}{us:List Int}{t:Int}(h:Held N (us ++ [t])):Held N [t]/\pM us/\pM [t]/\us.length<=11/\0<=t/\t<=3500:=by
 have E:=h.up;have D:=h.pos t Js;have H:=h.len;rw[ab] at H;simp only[ak,aX] at H;unfold pM at E;have y:=List.pairwise_append.1 E;exact⟨⟨h.n1,h.n4,y.2.1,Js,λK J=>by simp at J;subst J;exact D⟩,y.1,y.2.1,Jo,D.1,D.2⟩
theorem rO {t:Int}{N:Nat}(E:0<=t)(h1:t<=3500)(J:N<=4):(∀r∈io t N,uW r)/\∀r∈io t N,pJ r.V:=by
 constructor
 ·intro r D;obtain⟨y,H,rfl⟩:=AW D;exact⟨E,by show t<=_;omega,by show(0:Int)<=(y:Int);omega,by show(y:Int)<=199;omega⟩
 intro r D;obtain⟨y,H,rfl⟩:=AW D;unfold pJ;show _<=mC t y/\mC t y<=_;unfold mC;omega
theorem yt {t:Int}{N:Nat}(D:0<=t)(h1:t<=3500)(E:N<=4)(R:JA)(c:Nat):(tr [⟨1,none,0,0,R,N,c,uint 1 ++ (uint N ++ ip (io t N))⟩]).length<=130:=by
 have J:=rN (rO D h1 E).1 (rO D h1 E).2;rw[oN] at J;obtain⟨y,H⟩:=Je (uint 1 ++ (uint N ++ ip (io t N)));have K:y.length<=122:=by
  rw[<-H,ab,ab,fT Jo,fT Jo];simp only[ak,aX];omega
 rw[H];unfold tr frame text;simp only[aE,iK,cV,ab];rw[fT Jo];have:(ir y).length=2:=rfl;simp only[ak,aX];omega
theorem fQ.wrote {N:Nat}{us:List Int}{t:Int}{x:iU}(hi:fQ N us x)(M:Held N (us ++ [t]))(E:us≠[]){b:JU}(K:b.length<=130):
 fQ N (us ++ [t]) {x with fs:=eX x.fs cM ((x.fs cM).getD [] ++ b),nf:=cntF x.fs cM x.nf,head:=full N (us ++ [t])}:=by
 have J:(x.fs cM).isSome=true:=by
  rw[hi.D];cases us with
  |nil=>exact absurd rfl E
  |cons _ _=>rfl
 refine⟨?_,hi.man,rfl,hi.m,hi.cnt,hi.work,λH y=>?_,?_,?_,?_⟩
 ·show x.N=_;rw[hi.n,if_neg E,if_neg Js]
 ·show eX x.fs cM ((x.fs cM).getD [] ++ b) H=none;rw[fN _ _ y];exact hi.fs H y
 ·show(eX x.fs cM ((x.fs cM).getD [] ++ b) cM).isSome=_;rw[jT];simp
 ·show((eX x.fs cM ((x.fs cM).getD [] ++ b) cM).getD []).length<=_;rw[jT,fu,ab,ab];have:=hi.len;simp only[ak,aX];omega
 show cntF x.fs cM x.nf<=1;unfold cntF;rw[if_pos J];exact hi.nf
def WW (B N:Nat)(t:Int)(K:JW)(J iv:Value)(wr:JW):Prop:=∃(y:Nat)(D:JA)(E:Nat),J=Jn/\iv=Ji y/\y<=N/\Below (B+1) K wr/\wr.heap[B+1]?=some (.cells #[Ji 1,Jn,.slice D y E,Jn,Ji 0] 108 (0,0))/\
 bP (λH=>H<B+2) 130 3 (.slice D y E) y ((io t y).flatMap aR) wr
theorem It (col:Nat->Nat)(d:Nat)(v:nI)(x:iU)(w:JW)(h:cI col d v x w)(N:Nat)(us:List Int)(t:Int)(hi:fQ N us x)(bm:Held N (us ++ [t]))(b9:us≠[])(A:JA)(c:Nat)(ps:List Rs)(cb:wM N t (jB col) A ps w):
 JC 19 #[Jv d,.slice A N c] w λe w'=>e= .returned (Ji 0)/\∃x',ic col d x' w w'/\fQ N (us ++ [t]) x':=by
 have dj:prog.follows .mixedOrders=true:=Jk;have dk:=@run_makeMap prog;have aw:=Jh h;have aD:=Jh cb;have J:=Jh (Ja hi (Ja bm b9));have dg:=bm.n1;have bB:=bm.n4;have dm:=Jf ((N:Int)<1);have dn:=Jf ((N:Int) > 50);have dp:=Jf ((50:Int)<N);clear h cb hi bm b9;go_enter Tryz.func19,Tryz.ntmps19;go_wp2_with fail;go_loopw [29] (λaA wr=>∃D:Nat,aA=Ji D/\D<=N/\Jz w wr) (λaA _=>N - (intOf aA).toNat)
 case atStart=>exact⟨0,rfl,bj _,ag _ _⟩
 obtain⟨D,rfl,dh,aG⟩:=hrel;by_cases a6:D<N
 ·have cO:=Jt ((D:Int)<N);have b7:D<ps.length:=by rw[aD.o.len];exact a6
  obtain⟨cA,cY,rfl,cL,aN,aO,aQ⟩:=Ke (aD.o.rd.on.below aG) b7;obtain⟨ah,ai,ad⟩:=aD.o.each D b7;obtain⟨⟨aB,aC,aq,ar⟩,aJ⟩:∃bN,ps[D]=bN:=⟨_,rfl⟩;rw[aJ] at aN aO aQ ah ai ad;simp only at aN aO aQ ah ai ad;obtain⟨bv,bL⟩:=Je wr.heap.size;obtain⟨M,a8,ab,Y⟩:∃M,wr.alloc (.cells #[.slice aB 1 aC,Ji aq,Ji ar] 54)=M/\Jz wr M/\M.heap[bv]?=some (.cells #[.slice aB 1 aC,Ji aq,Ji ar] 54 (0,0)):=
   ⟨_,rfl,Below.one _ _,by rw[<-bL];exact heap_alloc_new _ _⟩
  have bc:=cl Y 0 rfl;have bO:=cl Y 1 rfl;have bQ:=cl Y 2 rfl;have aa:Jz w M:=aG.then ab;have cQ:=J.o.2.1.pos t Js;have bT:=Jh (Fo d aC aB (iB D) aq ar 0 M (by rw[iI Jo];omega) (by rw[iI Jo];omega) (ad.on.below aa) (aw.o.below aa).c12 (aw.o.below aa).dl Jo Jo Jo);have bA:=Jh aa;have bz:=Jh a8;clear ab Y a8 aa cQ ah ai ad aJ aG;go_wp2_with fail;try simp only[bz.o]
  refine bT.o.mono ?_;rintro e bu ⟨rfl,Q⟩;have cv:=Jh (bA.o.then Q);clear Q bT bc bO bQ;go_wp2_with fail;go_roundw
  case rel=>exact⟨D+1,by go_num,Jo,cv.o⟩
  simp[intOf];omega
 obtain rfl:D=N:=Jo;have cO:=Jf ((D:Int)<D);obtain⟨E,bh⟩:=Je wr.heap.size;obtain⟨X,cg,b2,ce,cj,ci⟩:∃X,(wr.alloc (.map #[] 0)).alloc (.cells #[Ji 1,Jn,Jn,Jn,Ji 0] 108)=X/\Jz wr X/\X.heap.size=E+2/\MapAt prog 9 X E 0 (λ_=>none)/\X.heap[E+1]?=some (.cells #[Ji 1,Jn,Jn,Jn,Ji 0] 108 (0,0)):=by
  refine⟨_,rfl,cZ _ _ _,by simp[bh],?_,?_⟩
  ·rw[<-bh];exact(MapAt.made wr).below (Below.one _ _)
  have ck:=heap_alloc_new (wr.alloc (.map #[] 0)) (.cells #[Ji 1,Jn,Jn,Jn,Ji 0] 108);rw[aI,bh] at ck;exact ck
 have cu:=Jh cg;have cr:=Jh (show WW E D t X (Jn) (Ji (0:Nat)) X from⟨0,none,0,rfl,rfl,bj _,ag _ _,ci,bP.nil _ _ _ _⟩);have av:=Jh (Ja (aG.then b2) (Ja ce (Ja cj (show w.heap.size<=E by rw[<-bh];exact aG.size))));clear aG b2 ce cj ci cg;go_wp2_with fail;try simp only[cu.o]
 go_loopw [10,53] (λc8 aA wr=>WW E D t X c8 aA wr) (λ_ aA _=>D - (intOf aA).toNat)
 case atStart=>exact cr.o
 rename_i dv;obtain⟨y,aU,be,rfl,rfl,di,U,K,T⟩:=hrel;by_cases a6:y<D
 ·have cP:=Jt ((y:Int)<D);have b8:y<ps.length:=by rw[aD.o.len];exact a6
  have W:Jz w wr:=av.o.1.trans (U.mono (Jw av.o.2.2.2));obtain⟨cA,cY,rfl,cL,aN,aO,aQ⟩:=Ke (aD.o.rd.on.below W) b8;obtain⟨ah,ai,ad⟩:=aD.o.each y b8;obtain⟨⟨aB,aC,aq,ar⟩,aJ⟩:∃bN,ps[y]=bN:=⟨_,rfl⟩;rw[aJ] at aN aO aQ ah ai ad;simp only at aN aO aQ ah ai ad;obtain⟨bv,bL⟩:=Je wr.heap.size;obtain⟨M,a8,ab,Y⟩:∃M,wr.alloc (.cells #[.slice aB 1 aC,Ji aq,Ji ar] 54)=M/\Jz wr M/\M.heap[bv]?=some (.cells #[.slice aB 1 aC,Ji aq,Ji ar] 54 (0,0)):=
   ⟨_,rfl,Below.one _ _,by rw[<-bL];exact heap_alloc_new _ _⟩
  have bc:=cl Y 0 rfl;have bO:=cl Y 1 rfl;have bQ:=cl Y 2 rfl;have aa:Jz w M:=W.then ab;have bD:=aw.o.below aa;have aW:=bD.c2;have ba:x.N=D:=by rw[J.o.1.n,if_neg J.o.2.2]
  have b1:∀Z,Jz M Z->rW (λH=>col H=4) v.bx D Z:=λZ bk=>by have:=(bD.below bk).idx.at;rwa [ba] at this
  have bw:=Jh (λ(Z:JW)(bk:Jz M Z)=>vi _ v.bx D y aB aC Z (b1 Z bk) Jo Jo ((ad.on.below aa).below bk));rw[if_pos a6,decide_eq_true a6] at bw;have bA:=Jh (Ja ab (Ja U (Ja K T)));have bz:=Jh a8;have bU:=Jh (Ja aJ (Ja ah ai));have bV:=Jh Y;clear ab Y a8 aa ah ai ad aJ W bD ba b1 U K T;go_wp2_with fail;try simp only[bz.o]
  refine wp_region_held_drew (S:=λw'=>Jz M w') Jk ?_ (λax=>?_)
  ·exact(ag _ _).drew
  refine JK 0 (h:=JK 1 (h:=JK 2 (h:=JK 3 (hy:=by(intro w ay;obtain ay:=ay;have aW:=al ay aW;go_simp)<;>with_reducible rfl) (h:=JK 4 (h:=JK 5 (hy:=by(intro w ay;obtain ay:=ay;have bc:=al ay bc;go_simp)<;>with_reducible rfl) (h:=?_))))));refine JN 6 (h:=λaT aj=>?_);go_simp;refine(bw.o _ ax).mono ?_;rintro e bu ⟨rfl,Q⟩;have aF:=Below.O ax Q;refine aj.out _ _ aF (λax=>?_);clear aj aT Q;try simp only[an,JY]
  refine JK 7 (h:=JK 8 (h:=JK 9 (h:=?_)));refine JN 10 (h:=λaT aj=>?_);go_simp;refine aj.out _ _ aF (λax=>?_);clear aj aT ax;try simp only[an,JY]
  refine JN 11 (h:=λaT aj=>?_);go_simp;refine aj.out _ _ aF (λax=>?_);clear aj aT ax;try simp only[an,JY]
  refine wpAnyH_done Jk ?_ _;obtain⟨ab,U,K,T⟩:=bA.o;have b3:E+2<=wr.heap.size:=by have:=U.size;have:=av.o.2.1;omega
  have Q:Jz wr bu:=ab.then aF;have bq:=(Q.block (E+1) Jo).trans K;have bM:=cl bq 2 rfl;have bt:=(aF.block bv (Jl bV.o)).trans bV.o;have bc:=cl bt 0 rfl;have bO:=cl bt 1 rfl;have bQ:=cl bt 2 rfl;have cn:=Jh (T.below Q);have bn:gm (λH=>H<E+2) bu:=λH aH=>Jw Q.size;have bR:=Jh (Ja Q (Ja U (Ja bq (Ja b3 K))));clear ab U K T Q bq bt aF aW aN aO aQ bw;go_wp2_with (at_builtin;go_must (refine bb rfl (.tmp 102) (.tmp 109) 106 Jr 130 (.agg #[Ji 0,Ji 0,Ji 0]) 3 24 underlying106 mu rfl Jd (λH=>H<E+2) y _ _ _ #[Ji aq,Ji y,Ji ar] rfl (by intro db af;simp at af;rcases af with rfl|rfl|rfl<;>rfl) cn.o Jr bn Jr Jm Jo ?_;intro de au az aK bH bC;obtain⟨aE,aY,rfl⟩:=az.form;have aS:=Jh az;have V:=Jh aK;have br:=(aK.block (E+1) Jo).trans bR.o.2.2.1;have ds:=cl br 2 rfl;have dw:=(aP br 2).2;have cy:=Jh br;clear bH bC az aK br bM));go_roundw
  case rel=>
   obtain⟨Q,U,bq,b3,K⟩:=bR.o;have aZ:Below (E+1) X bu:=U.trans (Q.mono Jo);have cF:Below (E+1) X au:=⟨V.o.os.trans aZ.os,V.o.tape.trans aZ.tape,V.o.output.trans aZ.output,by have:=V.o.size;have:=aZ.size;omega,λH aH=>(V.o.block H Jo).trans (aZ.block H aH)⟩;have bY:=am cy.o (i:=2) (.slice aE (y+1) aY);simp only[bg,aM,bG] at bY;refine⟨y+1,aE,aY,rfl,by go_num,Jo,cF.setCell (p:=(Jp (E+1) 2)) (ac _) _,bY,?_⟩;have cE:=aS.o.later (w':=au.setCell (Jp (E+1) 2) (.slice aE (y+1) aY)) λbX cK=>ae _ _ _ _ (by have df:=aS.o.2 bX cK;show bX≠E+1;omega);have cz:(io t y).flatMap aR ++ [Ji aq,Ji y,Ji ar]=(io t (y+1)).flatMap aR:=by
    rw[yo,ao,bU.o.2.1,bU.o.2.2];rfl
   rw[<-cz];exact cE
  simp[intOf];omega
 obtain rfl:y=D:=Jo;have cP:=Jf ((y:Int)<(y:Int));have W:Jz w wr:=av.o.1.trans (U.mono (Jw av.o.2.2.2));have ap:=aw.o.below W;have aW:=ap.c2;have ba:x.N=y:=by rw[J.o.1.n,if_neg J.o.2.2]
 have bS:=Jh (show JC 51 #[Jv v.bx] wr λe w'=>e= .returned (Ji y)/\wr=w' from by
  have:=pm _ v.bx _ wr ap.idx.at
  rwa [ba] at this)
 have bZ:=av.o.2.2.1.kept (U.block E Jo);have cN:=bZ.len (t:=122) underlying122;have dq:=Jf ((y:Int) > 200);have dr:=Jf ((200:Int)<y);have cU:=cl K 0 rfl;have cV:=cl K 1 rfl;have bM:=cl K 2 rfl;have cW:=cl K 3 rfl;have cX:=cl K 4 rfl;have cx:=Jh (Ja W (Ja ap (Ja K T)));have bn:gm (λH=>H<wr.heap.size) wr:=λH aH=>aH;clear W ap ba bZ K T U;go_wp2_with fail;refine bS.o.mono ?_;rintro e w' ⟨rfl,rfl⟩;clear bS;go_wp2_with (at_builtin;go_must (refine bb rfl (.tmp 123) (.tmp 125) 103 Jr 108 (.agg #[Ji 0,Jn,Jn,Jn,Ji 0]) 5 88 underlying103 GO rfl Jd (λH=>H<wr.heap.size) 0 [] (Jn) wr #[Ji 1,Jn,.slice aU y be,Jn,Ji 0] rfl (by intro db af;simp at af;rcases af with rfl|rfl|rfl|rfl|rfl<;>rfl) (bP.nil _ _ _ _) Jr bn Jr Jm Jo ?_;intro de au az aK bH bC;obtain⟨aE,aY,rfl⟩:=az.form;have aS:=Jh az;have V:=Jh aK;clear bH bC az aK));obtain⟨W,ap,K,T⟩:=cx.o;have bl:Jz wr au:=⟨V.o.os,V.o.tape,V.o.output,V.o.size,λH aH=>V.o.block H aH⟩;have b5:=ap.below bl;obtain⟨b6,af,cf,cR,bo,bp⟩:=J.o.2.1.last;have bJ:Rd (Off (jB col) au) 3 aU y ((io t y).flatMap aR):=pw (T.below bl).rd λaV e bI=>by
  subst e;have cB:=T.2 aV.block rfl;have cC:=aw.o.lt aV.block bI;have cD:=av.o.2.2.2;omega
 have b4:=T.caps.1;obtain⟨aL,a7⟩:∃aL:Rc,aL=⟨1,none,0,0,aU,y,be,uint 1 ++ (uint y ++ ip (io t y))⟩:=⟨_,rfl⟩;have cd:Rd (Off (jB col) au) 5 aE 1 ([aL].flatMap mM):=pw (by subst a7;exact aS.o.rd) λaV e bI=>by
  subst e;have cB:=aS.o.2 aV.block rfl;have cC:=aw.o.lt aV.block bI;have cD:=W.size;omega
 have bE:=yt bo bp bB aU be;rw[<-a7] at bE;have cS:=J.o.1.len;have cT:=J.o.1.nf;have cG:=lO x.fs cM x.nf;have a1:x.head=full y us:=J.o.1.head;obtain⟨bd,bi⟩:∃bd:Nat->iU,bd=λD=>if D=0 then{x with fs:=eX x.fs cM ((x.fs cM).getD [] ++ tr [aL]),nf:=cntF x.fs cM x.nf} else{x with fs:=eX x.fs cM ((x.fs cM).getD [] ++ tr [aL]),nf:=cntF x.fs cM x.nf,head:=full y (us ++ [t])}:=⟨_,rfl⟩;have co:=Jh (JQ col d v x au b5 aE aY 1 [aL] cd rfl Jo (λdt cc=>by
  simp only[List.mem_singleton] at cc;subst cc a7;exact Kg bJ.on (oN t y) Jo Jo (rO bo bp bB).1 (rO bo bp bB).2) Jo (J.o.1.ok Jo) Jo Jo bd (by rw[bi];rfl) (λD hi bW dd Z cJ c6=>by
  simp only[ak,aX] at hi;obtain rfl:D=0:=Jo;subst bi;simp only[bf];subst a7;refine(AP bW d dd _ Z cJ none aU 0 0 y be (io t y) (full y (us ++ [t])) (bJ.part (c6.part (by unfold PD;omega))) (oN t y) b4 Jo (by rw[<-wx];exact b6.good) ?_ ?_ ?_ ?_).mono ?_
  ·show jV x.head _ _;rw[a1,<-wx];exact EC af cf J.o.2.1.up
  ·show jP x.head;rw[a1];exact jq af
  ·show ∀da∈x.head,_;rw[a1];intro da bK;unfold full at bK;rw[if_neg J.o.2.2] at bK;obtain⟨H,-,rfl⟩:=List.mem_map.1 bK;rw[lL];omega
  ·show x.head.length<=_;rw[a1,nj _ J.o.2.2];omega
  rintro e w' ⟨rfl,dc,cH,c1⟩;exact⟨rfl,bW,dc,cH,c1.mono λ_ e=>by unfold PD;omega⟩))
 have cm:=Jh (show fQ y (us ++ [t]) (bd 1) from by
  rw[bi];exact J.o.1.wrote J.o.2.1 J.o.2.2 bE)
 have cq:=Jh (show bF PD col col w au from(bF.of aw.o.lt W).trans (bF.of ap.lt bl));clear W ap K T bl b5 b6 af cf cR bo bp bJ b4 a7 cd bE cS cT cG a1 bi cU cV bM cW cX cN aW bn;go_wp2_with fail;refine co.o.mono ?_;rintro e du ⟨rfl,b0⟩;have ct:=Jh b0;clear b0;go_wp2_with fail;go_ret;exact⟨rfl,_,ic.yK cq.o ct.o,cm.o⟩
theorem Held.take {N:Nat}{y:List Int}(h:Held N y)(i:Nat):Held N (y.take i):=
 ⟨h.n1,h.n4,h.up.sublist (List.take_sublist i y),by have:=h.len;rw[aF];omega,λE D=>h.pos E (eG D)⟩
def Xa (N:Nat)(E:List Int)(col:Nat->Nat)(d:Nat)(w:JW)(iv:Value)(wr:JW):Prop:=∃(y:Nat)(D:iU),iv= .int .i64 y/\y<=E.length/\ic col d D w wr/\fQ N (E.take y) D/\(y=0->D.nf=0)
def pK (B:Nat)(D:Value)(A:JA)(i:Nat)(w:JW):Prop:=Ui B A (kE (iB i)) w/\∀y,A=some y->y.block<w.heap.size/\D.ownBlock≠some y.block
theorem pK.keep {B:Nat}{H pv':Value}{A:JA}{i:Nat}{w w':JW}(h:pK B H A i w)(Z:w.heap.size<=w'.heap.size)(U:∀k,k<w.heap.size->H.ownBlock≠some k->w'.heap[k]?=w.heap[k]?)(ho:pv'.ownBlock=H.ownBlock∨∃g,pv'.ownBlock=some g/\w.heap.size<=g):pK B pv' A i w':=by
 obtain⟨⟨J,T⟩,K⟩:=h;refine⟨⟨⟨J.1,λE=>?_⟩,T⟩,λQ y=>?_⟩
 ·obtain⟨D,O,y,W,V⟩:=J.2 E;have E:=K _ y;exact⟨D,O,y,Jo,λM Y X=>(af (a:=⟨D,O+M,none⟩) (U D W E.2)).trans (V M Y X)⟩
 have E:=K Q y;refine⟨Jo,λD=>?_⟩;rcases ho with ho|⟨g,ho,M⟩
 ·exact E.2 (ho▸D)
 rw[ho] at D;have:=Option.some.inj D;omega
def Xb (B N:Nat)(t:Int)(w:JW)(M K:Value)(wr:JW):Prop:=∃(y:Nat)(H:JA)(J:Nat)(E:List Rs),M= .slice H y J/\K= .int .i64 y/\y<=N/\Below B w wr/\E.length=y/\bP (λD=>D<B) 54 3 (.slice H y J) y (E.flatMap wo) wr/\
 ∀D(O:D<E.length),E[D].T=t/\E[D].V=mC t D/\pK B (.slice H y J) E[D].A D wr
theorem VT:(prog.info? 54).map (λi=>(i.zero,i.size,i.bytes))=some (some (.agg #[.slice none 0 0,.int .i64 0,.int .i64 0]),3,40):=Jk
def NL (N:Nat):Prop:=∀(y:List Int)(J:Int)(E:Nat->Nat)(H:Nat)(T:nI)(K:iU)(D:JW)(M:JA)(O:Nat)(Q:List Rs),cI E H T K D->fQ N y K->(y=[]->K.nf=0)->Held N (y ++ [J])->wM N J (jB E) M Q D->
 JC 19 #[.pointer (some ⟨H,0,none⟩),.slice M N O] D λQ T=>Q= .returned (.int .i64 0)/\∃K,ic E H K D T/\fQ N (y ++ [J]) K
theorem Iw (N:Nat)(bM:NL N)(col:Nat->Nat)(aL:Nat)(w:JW)(be:sV col w)(ak:Lt col w)(bJ:iJ (λk=>col k=2) aL 512 w)(aJ:JA)(k bB:Nat)(K:List Int)(hr:Rd (Off (jB col) w) 1 aJ k (K.flatMap iS))(bL:K.length=k)(bg:Held N K):
 JC 6 #[.pointer (some ⟨aL,0,none⟩),.int .i64 N,.slice aJ k bB] w λe w'=>∃d,e= .returned (.pointer (some ⟨d,0,none⟩))/\∃a7 v x',cI a7 d v x' w'/\bF PD col a7 w w'/\fQ N K x':=by
 have b0:prog.follows .mixedOrders=true:=Jk;have bZ:k<=12:=Jw bg.len;have bq:=Jh (Mj col aL w be ak bJ);have br:=Jh hr;have aG:=Jh bL;have aH:=Jh bg;have bv:=Jh bM;go_enter Tryz.func6,Tryz.ntmps6;go_wp2_with fail;refine bq.o.mono ?_;rintro e aV ⟨d,rfl,a8,b6,bd,bS⟩;have bT:=Jh bd;have a1:=Jh bS;have bt:=Jh (show Xa N K a8 d aV (.int .i64 (0:Nat)) aV from⟨0,BG,rfl,bj _,ic.same bd (ag _ _),by rw[ff];exact Sc N,λ_=>rfl⟩);go_wp2_with fail;go_loopw [9] (λy wr=>Xa N K a8 d aV y wr) (λy _=>k - (intOf y).toNat)
 case atStart=>exact bt.o
 obtain⟨y,bn,rfl,Z,bc,aj,bO⟩:=hrel;have bw:=Jh bO;by_cases ak:y<k;rotate_left
 ·have E:y=k:=Jw aG.o;have bQ:=Jf ((y:Int)<k);have D:=Jh (Ja bc aj);go_wp2_with fail;go_ret;obtain⟨⟨ad,aU,aR,aT⟩,aj⟩:=D.o;rw[E,<-aG.o,fq] at aj;exact⟨d,rfl,ad,aU,bn,aR,a1.o.trans aT,aj⟩
 have bQ:=Jt ((y:Int)<k);obtain⟨ad,aU,aR,aT⟩:=bc;have aa:=Jh (Ja aR (Ja aT aj));have aS:y<K.length:=by rw[aG.o];exact ak
 have bi:Rd (Off (jB ad) wr) 1 aJ k (K.flatMap iS):=(br.o.part (a1.o.part (by unfold PD;omega))).part (aa.o.2.1.part (by unfold PD;omega));have bU:=Jh bi;obtain⟨bD,bl,rfl,be,bI⟩:=bi.on.elem (cells:=iS) (C:=1) (λ_=>rfl) Jd aS;obtain⟨E,aA⟩:∃D,K[y]=D:=⟨_,rfl⟩;have aE:wr.cell? ⟨bD,bl+y,none⟩=some (.int .i64 E):=by rw[<-aA];simpa using bI 0 _ rfl
 have aC:=aH.o.pos K[y] (ah aS);rw[aA] at aC;obtain⟨J,X⟩:=Je wr.heap.size;have bb:bP (λk=>k<J) 54 3 (.slice (some ⟨wr.heap.size,0,none⟩) 0 0) 0 [] (wr.alloc (.cells #[] 54)):=by rw[<-X];exact bP.made _ wr _ _ λk H=>H
 have bG:Below J wr (wr.alloc (.cells #[] 54)):=by rw[<-X];exact Below.one _ _
 rw[X] at bb;have bu:=Jh (show Xb J N E wr (.slice (some ⟨J,0,none⟩) 0 0) (.int .i64 (0:Nat)) (wr.alloc (.cells #[] 54)) from⟨0,_,0,[],rfl,rfl,bj _,bG,rfl,bb,λy Q=>absurd Q Js⟩);have bp:=Jh (λ(M:JW)(D:Below J wr M)=>Ja (aa.o.1.below (show Below wr.heap.size wr M by rw[X];exact D)) (aa.o.2.1.trans (bF.of (P:=PD) aa.o.1.lt (show Below wr.heap.size wr M by rw[X];exact D))));have aZ:=Jh (λ(k:Nat)(H:jB ad k)=>show k<J by have:=aa.o.1.lt k H;omega);have a6:=Jh (show K.take (y+1)=K.take y ++ [E] by rw[aO aS,aA]);have aY:=Jh X;have bx:=Jh (Ja aA aC);have aK:=Jh (λ(M:JW)(D:Below J wr M)=>al (show Below wr.heap.size wr M by rw[X];exact D) aE);go_wp2_with fail;go_loopw [10,11] (λT D U=>Xb J N E wr T D U) (λ_ D _=>N - (intOf D).toNat)
 case atStart=>simpa [aY.o] using bu.o
 obtain⟨D,ai,av,af,rfl,rfl,bX,aQ,am,aP,aq⟩:=hrel;have aE:=aK.o _ aQ;have bW:=aH.o.n4;by_cases bY:D<N;rotate_left
 ·obtain rfl:D=N:=Jo;have bR:=Jf ((D:Int)<(D:Int));obtain⟨ae,aw⟩:=bp.o _ aQ;have ar:wM D E (jB ad) ai af wr:=⟨am,pw aP.rd λV e H=>by
   subst e;have M:=aP.2 V.block rfl;have T:=aZ.o _ H;omega,λy Z=>⟨(aq y Z).1,(aq y Z).2.1,pw (aq y Z).2.2.1.1 λV e H=>by
   have M:=(aq y Z).2.2.1.2 V e;have T:=aZ.o _ H;omega⟩⟩
  have T:=Jh (bv.o (K.take y) E ad d aU bn wr ai av af ae aa.o.2.2 (λW=>bw.o (by have aM:=congrArg eZ W;rw[aF] at aM;simp only[aX] at aM;omega)) (by rw[<-a6.o];exact aH.o.take (y+1)) ar);have M:=Jh aw;go_wp2_with fail;refine T.o.mono ?_;rintro e bm ⟨rfl,ax,Y,U⟩;have au:=Jh (Ja Y U);go_wp2_with fail;go_roundw
  case rel=>exact⟨y+1,ax,by go_num,Jo,ic.yK M.o au.o.1,by rw[a6.o];exact au.o.2,λQ=>Jo⟩
  simp[intOf];omega
 have bR:=Jt ((D:Int)<N);have bo:=Jh (λM=>SX D Jo M);have aC:=bx.o.2;have T:=Jh (Ja aQ (Ja am (Ja aP aq)));go_wp2_with fail;have aN:J<=wr.heap.size:=by have:=T.o.1.size;rw[<-aY.o] at*;omega
 have ba:Jz wr wr.drew:=(ag _ _).drew;obtain⟨b1,b2⟩:=aC;have b3:IntKind.i64.wrap (E*10)=E*10:=by rw[aB];omega
 have b4:IntKind.i64.wrap (E*10+D)=E*10+D:=by rw[aB];omega
 refine wp_region_held_drew (S:=λw'=>Jz wr w'∨Below J wr w') Jk ?_ (λau=>?_)
 ·exact .inl ba
 refine JK 0 (h:=JK 1 (h:=JK 3 (h:=JK 4 (h:=JK 5 (h:=JK 6 (hy:=by(intro w Y;obtain Y:=Y;have aE:=aK.o _ (T.o.1.trans (Y.elim (λQ=>Q.mono aN) id));go_simp)<;>with_reducible rfl) (h:=JK 7 (h:=JK 8 (h:=JK 9 (h:=JK 10 (hy:=by(intro w Y;obtain Y:=Y;have aE:=aK.o _ (T.o.1.trans (Y.elim (λQ=>Q.mono aN) id));go_simp)<;>with_reducible rfl) (h:=JK 11 (h:=JK 12 (h:=JK 13 (h:=?_)))))))))))));refine JN 2 (h:=λaI V=>?_);go_simp;refine(bo.o _).mono ?_;rintro e aW ⟨ar,aD,rfl,ae,bH⟩;have aw:=Below.O ba bH;refine V.out _ _ (.inl aw) (λau=>?_);try simp only[an,JY]
 refine JK 14 (h:=?_);refine JN 15 (h:=λaI V=>?_);go_simp;have M:=Below.then aw (Below.one aW (.cells #[.slice ar 1 aD,.int .i64 E,.int .i64 (E*10+D)] 54));refine V.out _ _ (.inl M) (λau=>?_);try simp only[an,JY]
 refine JN 16 (h:=λaI V=>?_);have bE:=T.o.2.2.1.below M;refine bN rfl (.tmp 31) (.tmp 46) 50 rfl 54 (.agg #[.slice none 0 0,.int .i64 0,.int .i64 0]) 3 40 underlying50 VT rfl Jd (λk=>k<J) D _ _ _ bE rfl (λk H=>Jw M.size) _ 1 _ [.slice ar 1 aD,.int .i64 E,.int .i64 (E*10+D)] rfl (jX _ _ _) (by intro b5 bk;simp at bk;rcases bk with rfl|rfl|rfl<;>rfl) Jm Jo ?_;intro b7 bm az U ay ax;obtain⟨bz,bA,rfl⟩:=az.form;have W:Below J wr bm:=⟨U.os.trans M.os,U.tape.trans M.tape,U.output.trans M.output,by have:=U.size;have:=M.size;omega,λk H=>(U.block k H).trans (M.block k Jo)⟩;refine V.out _ _ (.inr W) (λau=>?_);try simp only[an,JY]
 refine JN 17 (h:=λaI V=>?_);go_simp;refine V.out _ _ (.inr W) (λau=>?_);try simp only[an,JY]
 refine wpAnyH_done Jk ?_ _;have au:=Jh (Ja ae (Ja aw (Ja M (Ja az (Ja U (Ja ay (Ja ax W)))))));go_wp2_with fail;go_roundw
 case rel=>
  obtain⟨ae,aw,M,az,U,ay,ax,W⟩:=au.o;refine⟨D+1,bz,bA,af ++ [⟨ar,aD,E,E*10+D⟩],rfl,by go_num,Jo,T.o.1.trans W,by rw[ab,T.o.2.1];rfl,by rw[ao];exact az,λy Z=>?_⟩;by_cases bh:y<af.length
  ·rw[du bh];obtain⟨V,aM,bC⟩:=T.o.2.2.2 y bh;refine⟨V,aM,?_⟩;have aI:=bC.keep (pv':=.slice ai D av) M.size (λk H _=>M.block k H) (.inl rfl);exact aI.keep U.size (λk H Q=>ay.block k H Q.symm) ax
  have bK:y=af.length:=by simp at Z;omega
  subst bK;rw[cK (ac _)];simp only[fG,bf];have am:=T.o.2.1;refine⟨by first|rfl|trivial,by rw[am];rfl,?_⟩;have aI:pK J (.slice ai D av) ar af.length aW:=by
   rw[am];refine⟨⟨ae.1,λV e=>ap aN (ae.2 V e)⟩,λV e=>⟨?_,λbC=>?_⟩⟩
   ·obtain⟨bV,bl,aM,ak,-⟩:=ae.1.2 Jo;rw[e] at aM;cases aM;exact ak
   have aM:=(T.o.2.2.1.1.lt _ bC).2;have bC:wr.heap.size<=V.block:=ae.2 V e;omega
  have bC:=aI.keep (pv':=.slice ai D av) (w':=aW.alloc (.cells #[.slice ar 1 aD,.int .i64 E,.int .i64 (E*10+D)] 54)) Js (λk H _=>heap_alloc_old _ _ H) (.inl rfl);exact bC.keep U.size (λk H Q=>ay.block k H Q.symm) ax
 simp[intOf];omega
end
theorem LS (c:UInt8):(frame (uint 0 ++ text (eT c))).length<=15:=by
 have E:(eT c).length<=8:=by simp[eT]
 unfold frame text;rw[fT (n:=0) Jo];rw[fT (n:=(eT c).length) Jo];simp only[ab,ak,aX];rw[fT Jo];have y:∀D:JU,(ir D).length=2:=λ_=>rfl;rw[y];simp only[ak,aX];omega
theorem fQ.first {N:Nat}{t:Int}{x:iU}(hi:fQ N [] x)(J:x.nf=0){b:JU}(K:b.length<=190):
 fQ N [t] {x with fs:=eX x.fs cM ((x.fs cM).getD [] ++ b),nf:=cntF x.fs cM x.nf,N:=N,head:=full N [t]}:=by
 have E:x.fs cM=none:=by
  have:=hi.D;cases y:x.fs cM with
  |none=>rfl
  |some _=>rw[y] at this;cases this
 refine⟨by rw[if_neg Js],hi.man,rfl,hi.m,hi.cnt,hi.work,λH y=>?_,?_,?_,?_⟩
 ·show eX x.fs cM ((x.fs cM).getD [] ++ b) H=none;rw[fN _ _ y];exact hi.fs H y
 ·show(eX x.fs cM ((x.fs cM).getD [] ++ b) cM).isSome=_;rw[jT];rfl
 ·show((eX x.fs cM ((x.fs cM).getD [] ++ b) cM).getD []).length<=_;rw[jT,E];simp;omega
 show cntF x.fs cM x.nf<=1;unfold cntF;rw[E,J];simp
theorem MN {B n m c:Nat}{A:JA}{J:TypeId}{H:Value}{xs:List Value}{w:JW}(h:bP (λk=>k<B∨H.ownBlock=some k) J 3 (.slice A n c) m xs w){v9:Value}(K:v9.ownBlock=H.ownBlock∨∃g,v9.ownBlock=some g/\w.heap.size<=g):∀g,(aQ A n c).ownBlock=some g->¬(g<B∨v9.ownBlock=some g):=by
 intro g E y;rcases y with y|y
 ·exact h.2 g E (.inl y)
 rcases K with D|⟨M,D,O⟩
 ·exact h.2 g E (.inr (D▸y))
 have Q:=Option.some.inj (D.symm.trans y);have T:=(h.1.lt g E).2;omega
def Ph (i:Nat)(k:Lit):Option Value:=oF i k
def Wl (B N:Nat)(t:Int)(U:JW)(T iv:Value)(wr:JW):Prop:=∃(y:Nat)(E:JA)(H:Nat)(K:JA)(M:Nat)(J:List Rc),T= .slice E y H/\iv=Ji y/\y<=N/\Below B U wr/\wr.heap[B+1]?=some (.cells #[Ji 1,Jn,.slice K y M,Jn,Ji 0] 108 (0,0))/\
 bP (λD=>D<B+2∨(aQ E y H).ownBlock=some D) 130 3 (.slice K y M) y ((io t y).flatMap aR) wr/\bP (λD=>D<B+2) 108 5 (.slice E y H) y (J.flatMap mM) wr/\J.length=y/\MapAt prog 9 wr B y (Ph y)/\
 ∀D(V:D<J.length),∃O Q,J[D]=⟨0,O,1,Q,none,0,0,uint 0 ++ text (eT (iB D))⟩/\pK (B+2) (.slice E y H) O D wr/\pK (B+2) (.slice K y M) O D wr
theorem pK.move {B:Nat}{K pv':Value}{A:JA}{i:Nat}{w w':JW}(h:pK B K A i w)(X:w.heap.size<=w'.heap.size)(Q:∀a,A=some a->w'.heap[a.block]?=w.heap[a.block]?)(ho:pv'.ownBlock=K.ownBlock∨∃g,pv'.ownBlock=some g/\w.heap.size<=g):pK B pv' A i w':=by
 obtain⟨⟨H,M⟩,O⟩:=h;refine⟨⟨⟨H.1,λJ=>?_⟩,M⟩,λa y=>?_⟩
 ·obtain⟨D,E,y,W,T⟩:=H.2 J;exact⟨D,E,y,Jo,λJ V U=>(af (a:=(Jp D (E+J))) (Q (Jp D E) y)).trans (T J V U)⟩
 have E:=O a y;refine⟨Jo,λD=>?_⟩;rcases ho with ho|⟨g,ho,J⟩
 ·exact E.2 (ho▸D)
 rw[ho] at D;have:=Option.some.inj D;omega
theorem Pt {B N j c J O Q c7:Nat}{t:Int}{ag wr y:JW}{P R E H A7:JA}{xs:List Rc}{iv:Value}
 (ax:j<N) (ap:iv=Ji ((j+1:Nat):Int)) (ay:B+2<=wr.heap.size) (M:Below B ag wr)
 (al:∀g,(aQ P j O).ownBlock=some g->B+2<=g) (an:∀g,(aQ R j Q).ownBlock=some g->B+2<=g) (af:xs.length=j)
 (av:∀i(h:i<xs.length),∃K X,xs[i]=⟨0,K,1,X,none,0,0,uint 0 ++ text (eT (iB i))⟩/\pK (B+2) (.slice P j O) K i wr/\pK (B+2) (.slice R j Q) K i wr)
 (aa:∀k,k<wr.heap.size->k≠B->k≠B+1->(aQ P j O).ownBlock≠some k->(aQ R j Q).ownBlock≠some k->y.heap[k]?=wr.heap[k]?)
 (aq:y.os=wr.os) (au:y.tape=wr.tape) (ar:y.output=wr.output) (ae:wr.heap.size<=y.heap.size)
 (ai:(aQ E (j+1) c).ownBlock=(aQ P j O).ownBlock∨∃g,(aQ E (j+1) c).ownBlock=some g/\wr.heap.size<=g)
 (ah:(aQ H (j+1) J).ownBlock=(aQ R j Q).ownBlock∨∃g,(aQ H (j+1) J).ownBlock=some g/\wr.heap.size<=g)
 (W:y.heap[B+1]?=some (.cells #[Ji 1,Jn,.slice H (j+1) J,Jn,Ji 0] 108 (0,0)))
 (am:bP (λk=>k<B+2∨(aQ E (j+1) c).ownBlock=some k) 130 3 (.slice H (j+1) J) (j+1) ((io t (j+1)).flatMap aR) y)
 (ak:bP (λk=>k<B+2) 108 5 (.slice E (j+1) c) (j+1) ((xs ++ [(⟨0,A7,1,c7,none,0,0,uint 0 ++ text (eT (iB j))⟩:Rc)]).flatMap mM) y)
 (aj:MapAt prog 9 y B (j+1) (Ph (j+1))) (ad:Ui (B+2) A7 (kE (iB j)) y)
 (V:∀a,A7=some a->a.block<y.heap.size/\(aQ E (j+1) c).ownBlock≠some a.block/\(aQ H (j+1) J).ownBlock≠some a.block):
 Wl B N t ag (.slice E (j+1) c) iv y:=by
 refine⟨j+1,E,c,H,J,xs ++ [⟨0,A7,1,c7,none,0,0,uint 0 ++ text (eT (iB j))⟩],rfl,ap,Jo,?_,W,am,ak,by simp[af],aj,λi ao=>?_⟩
 ·exact⟨aq.trans M.os,au.trans M.tape,ar.trans M.output,Jw M.size,λk W=>(aa k Jo Jo Jo (λD=>Jw (al k D)) (λD=>Jw (an k D))).trans (M.block k W)⟩
 by_cases ab:i<xs.length
 ·rw[du ab];obtain⟨K,X,D,U,Y⟩:=av i ab;have Z:∀a,K=some a->y.heap[a.block]?=wr.heap[a.block]?:=λa T=>by
   have aw:=U.1.2 a T;exact aa _ (U.2 a T).1 Jo Jo (U.2 a T).2 (Y.2 a T).2
  exact⟨K,X,D,U.move ae Z ai,Y.move ae Z ah⟩
 have T:i=xs.length:=by simp at ao;omega
 subst T;rw[cK (ac _)];simp only[fG,bf];rw[af];exact⟨A7,c7,rfl,⟨ad,λa D=>⟨(V a D).1,(V a D).2.1⟩⟩,⟨ad,λa D=>⟨(V a D).1,(V a D).2.2⟩⟩⟩
theorem Ut (x:iU)(F:JU->Option JU)(nf:Nat)(h:x.N=0):({x with fs:=F,nf:=nf,N:=0}:iU)={x with fs:=F,nf:=nf}:=by
 cases x;simp only at h;subst h;rfl
theorem Ss (xs y:List Rc):tr (xs ++ y)=tr xs ++ tr y:=by simp[tr]
theorem OR (xs:List Rc)(h:∀r∈xs,(frame r.b).length<=15):(tr xs).length<=15*xs.length:=by
 induction xs with
 |nil=>simp[tr]
 |cons r xs D=>
  have E:=h r Js;have H:=D λr y=>h r (by simp[y]);rw[show tr (r :: xs)=frame r.b ++ tr xs from by simp[tr],ab,ak];omega
structure IB (col:Nat->Nat) (xs:List Rc) (w:JW):Prop where
 each:∀i(h:i<xs.length),∃lA lc,xs[i]=⟨0,lA,1,lc,none,0,0,uint 0 ++ text (eT (iB i))⟩/\Rd (Off (jB col) w) 2 lA 1 (dR (kE (iB i)))
def JB (x:iU)(F:JU->Option JU)(nf N:Nat)(t:Int)(i:Nat):iU:=if i<=N then{x with fs:=F,nf:=nf,N:=i} else{x with fs:=F,nf:=nf,N:=N,head:=full N [t]}
theorem IA {x:iU}{F:JU->Option JU}{nf N i:Nat}{t:Int}(h:i<=N):JB x F nf N t i={x with fs:=F,nf:=nf,N:=i}:=if_pos h
theorem TF {x:iU}{F:JU->Option JU}{nf N:Nat}{t:Int}:JB x F nf N t (N+1)={x with fs:=F,nf:=nf,N:=N,head:=full N [t]}:=if_neg Jo
theorem Pp (col:Nat->Nat)(d:Nat)(v:nI)(x:iU)(w:JW)(h:cI col d v x w)(N:Nat)(t:Int)(hi:fQ N [] x)(az:x.nf=0)(J:Held N [t])(A R:JA)(c H:Nat)(xs:List Rc)
 (hA:Rd (Off (jB col) w) 5 A (N+1) ((xs ++ [(⟨1,none,0,0,R,N,H,uint 1 ++ (uint N ++ ip (io t N))⟩:Rc)]).flatMap mM)) (ai:Rd (Off (jB col) w) 3 R N ((io t N).flatMap aR)) (ap:N<=H) (X:xs.length=N) (Y:IB col xs w):
 JC 53 #[Jv d,.slice A (N+1) c] w λe w'=>e= .returned (Ji 0)/\∃x',ic col d x' w w'/\fQ N [t] x':=by
 have aA:=J.n1;have U:=J.n4;have ay:x.N=0:=by rw[hi.n,if_pos rfl]
 have E:=J.pos t Js;have aw:∀D∈xs,(frame D.b).length<=15:=λD K=>by
  obtain⟨y,hi,rfl⟩:=bz K;obtain⟨Z,aa,e,-⟩:=Y.each y hi;rw[e];exact LS _
 obtain⟨D,K⟩:∃D:Rc,D=⟨1,none,0,0,R,N,H,uint 1 ++ (uint N ++ ip (io t N))⟩:=⟨_,rfl⟩;have au:=yt E.1 E.2 U R H;rw[<-K] at au hA;have ar:(tr (xs ++ [D])).length<=190:=by
  rw[Ss,ab];have:=OR xs aw;omega
 have aD:((x.fs cM).getD []).length<=60:=by have:=hi.len;simpa using this
 have aB:=lO x.fs cM x.nf;have O:x.head=[]:=by rw[hi.head];simp[full]
 have aq:=hi.first (t:=t) az ar;obtain⟨af,ah⟩:=Je (eX x.fs cM ((x.fs cM).getD [] ++ tr (xs ++ [D])));obtain⟨al,ak⟩:=Je (cntF x.fs cM x.nf);have ao:=JQ col d v x w h A c (N+1) (xs ++ [D]) hA (by simp[X]) Jo (λaE ax=>by
  rcases List.mem_append.1 ax with Q|Q
  ·obtain⟨y,hi,rfl⟩:=bz Q;obtain⟨Z,aa,e,W⟩:=Y.each y hi;rw[e];exact US (by rw[iI Jo];omega) (by rw[iI Jo];omega) W.on
  ·simp only[List.mem_singleton] at Q;subst Q K;exact Kg ai.on (oN t N) Jo Jo (rO E.1 E.2 U).1 (rO E.1 E.2 U).2) Jo (hi.ok Js) Jo Jo (JB x af al N t) (by rw[IA (bj _),Ut x af al ay,ah,ak]) (λy av T ae ag M am=>by
  by_cases aC:y<N
  ·have aj:y<xs.length:=Jo;obtain⟨Z,aa,e,W⟩:=Y.each y aj;rw[du aj,e];rw[IA Jo] at M;refine(Mz T d ae _ ag M Z none aa 0 0 (show y<8 by omega) (W.part (am.part (by unfold PD;omega)))).mono ?_;rintro e w' ⟨rfl,an,V,ad⟩;refine⟨rfl,an,ae,?_,ad.mono λ_ e=>by unfold PD;omega⟩;rw[IA Jo];exact V
  obtain rfl:y=N:=by simp[X] at av;omega
  rw[cK Jo];simp only[X,fG,bf];rw[IA (ac _)] at M;subst K;refine(AP T d ae _ ag M none R 0 0 y H (io t y) (full y [t]) (ai.part (am.part (by unfold PD;omega))) (oN t y) ap Jo (by rw[<-wx];exact J.good) ?_ ?_ ?_ ?_).mono ?_
  ·show jV x.head _ _;rw[O,<-wx];exact wt J.up
  ·show jP x.head;rw[O];exact jP.nil
  ·show ∀Z∈x.head,_;rw[O];intro Z W;cases W
  ·show x.head.length<=_;rw[O];simp
  rintro e w' ⟨rfl,W,V,ad⟩;refine⟨rfl,T,W,?_,ad.mono λ_ e=>by unfold PD;omega⟩;rw[TF];exact V)
 refine ao.mono ?_;rintro e w' ⟨rfl,y⟩;refine⟨rfl,_,y,?_⟩;rw[TF,<-ah,<-ak];exact aq
section
attribute [local go_sem] Oper.semAt_some
theorem Iu (col:Nat->Nat)(d:Nat)(v:nI)(x:iU)(w:JW)(h:cI col d v x w)(N:Nat)(t:Int)(hi:fQ N [] x)(dd:x.nf=0)(bZ:Held N [t])(A:JA)(c:Nat)(ps:List Rs)(c6:wM N t (jB col) A ps w):
 JC 19 #[Jv d,.slice A N c] w λe w'=>e= .returned (Ji 0)/\∃x',ic col d x' w w'/\fQ N [t] x':=by
 have d5:prog.follows .mixedOrders=true:=Jk;have d6:=@run_makeMap prog;have aU:=Jh h;have bc:=Jh c6;have ba:=Jh (Ja hi (Ja bZ dd));have d1:=bZ.n1;have d2:=bZ.n4;have d8:=Jf ((N:Int)<1);have d9:=Jf ((N:Int) > 50);have ea:=Jf ((50:Int)<N);clear h c6 hi bZ dd;go_enter Tryz.func19,Tryz.ntmps19;go_wp2_with fail;go_loopw [29] (λa8 wr=>∃K:Nat,a8=Ji K/\K<=N/\Jz w wr) (λa8 _=>N - (intOf a8).toNat)
 case atStart=>exact⟨0,rfl,bj _,ag _ _⟩
 obtain⟨K,rfl,d3,bh⟩:=hrel;by_cases b0:K<N
 ·have dI:=Jt ((K:Int)<N);have cW:K<ps.length:=by rw[bc.o.len];exact b0
  obtain⟨dG,dV,rfl,dH,bn,bo,bp⟩:=Ke (bc.o.rd.on.below bh) cW;obtain⟨aE,aF,W⟩:=bc.o.each K cW;obtain⟨⟨ay,az,aL,aN⟩,bm⟩:∃cz,ps[K]=cz:=⟨_,rfl⟩;rw[bm] at bn bo bp aE aF W;simp only at bn bo bp aE aF W;obtain⟨ak,cq⟩:=Je wr.heap.size;obtain⟨V,bL,bi,aq⟩:∃V,wr.alloc (.cells #[.slice ay 1 az,Ji aL,Ji aN] 54)=V/\Jz wr V/\V.heap[ak]?=some (.cells #[.slice ay 1 az,Ji aL,Ji aN] 54 (0,0)):=
   ⟨_,rfl,Below.one _ _,by rw[<-cq];exact heap_alloc_new _ _⟩
  have aA:=cl aq 0 rfl;have aB:=cl aq 1 rfl;have aC:=cl aq 2 rfl;have ai:Jz w V:=bh.then bi;have dL:=ba.o.2.1.pos t Js;have cD:=Jh (Fo d az ay (iB K) aL aN 0 V (by rw[iI Jo];omega) (by rw[iI Jo];omega) (W.on.below ai) (aU.o.below ai).c12 (aU.o.below ai).dl Jo Jo Jo);have ap:=Jh ai;have cb:=Jh bL;clear bi aq bL ai dL aE aF W bm bh;go_wp2_with fail;try simp only[cb.o]
  refine cD.o.mono ?_;rintro e dY ⟨rfl,bH⟩;have dv:=Jh (ap.o.then bH);clear bH cD aA aB aC;go_wp2_with fail;go_roundw
  case rel=>exact⟨K+1,by go_num,Jo,dv.o⟩
  simp[intOf];omega
 obtain rfl:K=N:=Jo;have dI:=Jf ((K:Int)<K);obtain⟨H,bW⟩:=Je wr.heap.size;obtain⟨aD,db,cS,av,cx,de⟩:∃aD,(wr.alloc (.map #[] 0)).alloc (.cells #[Ji 1,Jn,Jn,Jn,Ji 0] 108)=aD/\Jz wr aD/\aD.heap.size=H+2/\MapAt prog 9 aD H 0 (λ_=>none)/\aD.heap[H+1]?=some (.cells #[Ji 1,Jn,Jn,Jn,Ji 0] 108 (0,0)):=by
  refine⟨_,rfl,cZ _ _ _,by simp[bW],?_,?_⟩
  ·rw[<-bW];exact(MapAt.made wr).below (Below.one _ _)
  have dg:=heap_alloc_new (wr.alloc (.map #[] 0)) (.cells #[Ji 1,Jn,Jn,Jn,Ji 0] 108);rw[aI,bW] at dg;exact dg
 have dt:=Jh db;have ds:=Jh (show Wl H K t aD (Jn) (.int .i64 (0:Nat)) aD from⟨0,none,0,none,0,[],rfl,rfl,bj _,ag _ _,de,bP.nil _ _ _ _,bP.nil _ _ _ _,rfl,cx.ext λy=>by unfold Ph oF;cases uF y<;>rfl,λK h=>absurd h Js⟩);have aS:=Jh (Ja (bh.then cS) (Ja av (Ja cx (show w.heap.size<=H by rw[<-bW];exact bh.size))));clear bh cS av cx de db;go_wp2_with fail;try simp only[dt.o]
 go_loopw [10,53] (λdW a8 wr=>Wl H K t aD dW a8 wr) (λ_ a8 _=>K - (intOf a8).toNat)
 case atStart=>exact ds.o
 rename_i ej;obtain⟨D,bU,bV,bf,bB,b6,rfl,rfl,d4,a6,ax,ac,ce,co,cf,bN⟩:=hrel;by_cases b0:D<K;rotate_left
 ·obtain rfl:D=K:=Jo;have dJ:=Jf ((D:Int)<(D:Int));have dM:=aS.o.2.2.2;have Y:Jz w wr:=aS.o.1.trans (a6.mono Jo);have cm:=aU.o.below Y;have aV:=cm.c2;have bM:x.N=0:=by rw[ba.o.1.n,if_pos rfl]
  have bt:=Jh (show JC 51 #[Jv v.bx] wr λe w'=>e= .returned (Ji (0:Nat))/\wr=w' from by
   have:=pm _ v.bx _ wr cm.idx.at
   rwa [bM] at this)
  have c1:=cf.len (t:=122) underlying122;have eb:=Jf ((D:Int) > 200);have ec:=Jf ((200:Int)<D);have dR:=cl ax 0 rfl;have dS:=cl ax 1 rfl;have cy:=cl ax 2 rfl;have dT:=cl ax 3 rfl;have dU:=cl ax 4 rfl;have av:H+2<=wr.heap.size:=by have:=a6.size;have:=aS.o.2.1;omega
  have bJ:gm (λy=>y<H+2) wr:=λy Q=>Jo;have dx:=Jh (Ja Y (Ja ac (Ja bN av)));have dn:=Jh ce;clear Y cm bM ax ac a6 ce cf av;go_wp2_with fail;refine bt.o.mono ?_;rintro e w' ⟨rfl,rfl⟩;clear bt;go_wp2_with (at_builtin;go_must (refine bb rfl (.tmp 123) (.tmp 125) 103 Jr 108 (.agg #[Ji 0,Jn,Jn,Jn,Ji 0]) 5 88 underlying103 GO rfl Jd (λy=>y<H+2) D _ (.slice bU D bV) wr #[Ji 1,Jn,.slice bf D bB,Jn,Ji 0] rfl (by intro dh aK;simp at aK;rcases aK with rfl|rfl|rfl|rfl|rfl<;>rfl) dn.o Jr bJ Jr Jm Jo ?_;intro dX aj a7 T aa ad;obtain⟨be,bA,rfl⟩:=a7.form;have bd:=Jh a7;have cc:=Jh (Ja T (Ja aa ad));clear aa ad a7 T));obtain⟨Y,ac,bN,av⟩:=dx.o;obtain⟨T,aa,ad⟩:=cc.o;have cj:Jz w aj:=⟨T.os.trans Y.os,T.tape.trans Y.tape,T.output.trans Y.output,by have:=T.size;have:=Y.size;omega,λy Q=>(T.block y Jo).trans (Y.block y Q)⟩;have cV:=aU.o.below cj;have b1:∀y,jB col y->y<H:=λy Q=>Jw (aU.o.lt y Q);have cL:=ac.later (w':=aj) λE J=>aa.block E ((ac.1.lt E J).2) (λe=>ac.2 E J (.inr e.symm));have da:Rd (Off (jB col) aj) 3 bf D ((io t D).flatMap aR):=pw cL.rd λM e bI=>by
   subst e;have U:=ac.2 M.block rfl;have Z:=b1 M.block bI;exact U (.inl Jo)
  have cU:=ac.caps.1;have c8:Rd (Off (jB col) aj) 5 be (D+1) ((b6 ++ [(⟨1,none,0,0,bf,D,bB,uint 1 ++ (uint D ++ ip (io t D))⟩:Rc)]).flatMap mM):=pw (by
   rw[ao];exact bd.o.rd) λM e bI=>by
   subst e;have U:=bd.o.2 M.block rfl;have Z:=b1 M.block bI;omega
  have cM:IB col b6 aj:=⟨λK hi=>by
   obtain⟨dP,dQ,e,U,-⟩:=bN K hi;have aW:=U.keep (pv':=.slice be (D+1) bA) (w':=aj) T.size (λy Q h=>aa.block y Q (λe=>h e.symm)) ad;exact⟨dP,dQ,e,pw aW.1.1 λM e bI=>by
    have au:=aW.1.2 M e;have d0:=b1 M.block bI;omega⟩⟩
  have dm:=Jh (Pp col d v x aj cV D t ba.o.1 ba.o.2.2 ba.o.2.1 be bf bA bB b6 c8 da cU co cM);have dr:=Jh (show bF PD col col w aj from bF.of aU.o.lt cj);clear Y ac bN av T aa ad cj cV b1 cL da cU c8 cM dR dS cy dT dU c1 aV bJ co;go_wp2_with fail;refine dm.o.mono ?_;rintro e aO ⟨rfl,x',cR,cK⟩;have cC:=Jh (Ja cR cK);clear cR cK;go_wp2_with fail;go_ret;exact⟨rfl,x',ic.yK dr.o cC.o.1,cC.o.2⟩
 have dJ:=Jt ((D:Int)<K);have cX:D<ps.length:=by rw[bc.o.len];exact b0
 have Y:Jz w wr:=aS.o.1.trans (a6.mono (Jw aS.o.2.2.2));obtain⟨dG,dV,rfl,dH,bn,bo,bp⟩:=Ke (bc.o.rd.on.below Y) cX;obtain⟨aE,aF,W⟩:=bc.o.each D cX;obtain⟨⟨ay,az,aL,aN⟩,bm⟩:∃cz,ps[D]=cz:=⟨_,rfl⟩;rw[bm] at bn bo bp aE aF W;simp only at bn bo bp aE aF W;obtain⟨ak,cq⟩:=Je wr.heap.size;obtain⟨V,bL,bi,aq⟩:∃V,wr.alloc (.cells #[.slice ay 1 az,Ji aL,Ji aN] 54)=V/\Jz wr V/\V.heap[ak]?=some (.cells #[.slice ay 1 az,Ji aL,Ji aN] 54 (0,0)):=
  ⟨_,rfl,Below.one _ _,by rw[<-cq];exact heap_alloc_new _ _⟩
 have aA:=cl aq 0 rfl;have aB:=cl aq 1 rfl;have aC:=cl aq 2 rfl;have ai:Jz w V:=Y.then bi;have ck:=aU.o.below ai;have aV:=ck.c2;have bM:x.N=0:=by rw[ba.o.1.n,if_pos rfl]
 have cg:∀ab,Jz V ab->rW (λy=>col y=4) v.bx 0 ab:=λab aH=>by have:=(ck.below aH).idx.at;rwa [bM] at this
 have b9:=Jh (λ(ab:JW)(aH:Jz V ab)=>vi _ v.bx 0 D ay az ab (cg ab aH) Jo Jo ((W.on.below ai).below aH));rw[if_neg (Nat.not_lt_zero D),decide_eq_false (Nat.not_lt_zero D)] at b9;have di:=Jh aV;have dw:=Jh ai;have dk:=Jh (λ(ab:JW)(aH:Jz w ab)=>W.on.below aH);have ar:=Jh (Ja ac ce);have dD:=Jh ax;have dq:=Jh cf;have br:=Jh (show H+2<=wr.heap.size by have:=a6.size;have:=aS.o.2.1;omega);have cB:=Jh (λ(ab:JW)(aH:Below V.heap.size V ab)=>BU (iB D) (by rw[iI Jo];omega) (by rw[iI Jo];omega) ay az ab ((W.on.below ai).below aH));have ap:=Jh (Ja bi (Ja a6 (Ja ax ac)));have cb:=Jh bL;have cF:=Jh (Ja bm (Ja aE aF));have bv:=Jh aq;clear bi aq bL ai aE aF W bm Y ck bM a6 ax ac;go_wp2_with fail;try simp only[cb.o]
 refine wp_region_held_drew (S:=λw'=>Jz V w') Jk ?_ (λaX=>?_)
 ·exact(ag _ _).drew
 refine JK 0 (h:=JK 1 (h:=JK 2 (h:=JK 3 (hy:=by(intro w aZ;obtain aZ:=aZ;have aV:=al aZ aV;go_simp)<;>with_reducible rfl) (h:=JK 4 (h:=JK 5 (hy:=by(intro w aZ;obtain aZ:=aZ;have aA:=al aZ aA;go_simp)<;>with_reducible rfl) (h:=?_))))));refine JN 6 (h:=λbu aG=>?_);go_simp;refine(b9.o _ aX).mono ?_;rintro e dY ⟨rfl,bH⟩;have au:=Below.O aX bH;refine aG.out _ _ au (λaX=>?_);clear aG bu bH;try simp only[an,JY]
 refine JK 7 (h:=JK 8 (h:=JK 9 (h:=?_)));refine JN 10 (h:=λbu aG=>?_);go_simp;refine aG.out _ _ au (λaX=>?_);clear aG bu aX;try simp only[an,JY]
 refine JN 11 (h:=λbu aG=>?_);go_simp;refine aG.out _ _ au (λaX=>?_);clear aG bu aX;try simp only[an,JY]
 refine wpAnyH_done Jk ?_ _;have b4:=(au.block ak (Jl bv.o)).trans bv.o;have aA:=cl b4 0 rfl;have aB:=cl b4 1 rfl;have aC:=cl b4 2 rfl;have b8:=Jh au;clear au b4 aV bn bo bp b9;go_wp2_with fail;refine(cB.o _ b8.o).mono ?_;rintro e bq ⟨rfl,bk⟩;have bl:=qM (N:=D) (i:=D) Jo Jo;rw[if_neg (iw D)] at bl;have cT:Jz wr bq:=ap.o.1.then (b8.o.then bk);have bX:=dq.o.kept (w':=bq) (cT.block H (Jw br.o));have W:=bX.xU (t:=122) (z:=Ji 0) ja underlying122 Jk (kZ (mz (iB D)) (by unfold mz text uint;simp));unfold Ph at W;rw[bl] at W;simp only[gN,gU] at W;have ah:=Jh (b8.o.then bk);have bt:=Jh (show JC 51 #[Jv v.bx] bq λe w'=>e= .returned (Ji (0:Nat))/\bq=w' from pm _ v.bx 0 bq (cg _ ah.o));have aV:=al ah.o di.o;have dp:=Jh bX;have aA:=al bk aA;have aB:=al bk aB;have aC:=al bk aC;have c1:=bX.len (t:=122) underlying122;clear bk bl bX cT cg cB;go_wp2_with fail;refine bt.o.mono ?_;rintro e w' ⟨rfl,rfl⟩;have cY:=kZ (mz (iB D)) (by unfold mz text uint;simp);obtain⟨bR,d7,aY,af,cr⟩:=dp.o.put (t:=122) ja underlying122 Jm cY (Ji D);have dM:=aS.o.2.2.2;have a1:Jz w bq:=dw.o.then ah.o
 have ci:Jz w bR:=⟨af.os.trans a1.os,af.tape.trans a1.tape,af.output.trans a1.output,Jw a1.size,λy Q=>(af.block y (Jw a1.size) (λe=>Jw (Option.some.inj e))).trans (a1.block y Q)⟩;have dj:=Jh (xf ay az 1 [kE (iB D)] bR (by simpa using dk.o _ ci) rfl Jo);have dZ:=Jh ci;clear a1 ci;have bO:=((af.block ak (Jx ah.o.size ((Jl bv.o))) (λe=>by have:=Option.some.inj e;have:=br.o;omega)).trans (ah.o.block ak (Jl bv.o))).trans bv.o;have aA:=cl bO 0 rfl;have aB:=cl bO 1 rfl;have aC:=cl bO 2 rfl;have aT:=Jh (Ja aY (Ja af (Ja cr bO)));clear bO aY af cr cY bt;go_wp2_with fail;refine dj.o.mono ?_;rintro e bS ⟨b7,cG,rfl,aJ,X⟩;have b2:=(ar.o.2.below (ap.o.1.then ah.o));have dc:=b2.later (w':=bR) λE J=>aT.o.2.1.block E ((b2.1.lt E J).2) (λe=>by have:=b2.2 E J;have:=Option.some.inj e;omega);have du:=Jh (dc.below X);have bJ:gm (λy=>y<H+2) bS:=λy Q=>by have:=X.size;have:=aT.o.2.2.1;have:=ah.o.size;have:=ap.o.1.size;have:=br.o;omega
 have bQ:=(X.block ak (Jl aT.o.2.2.2)).trans aT.o.2.2.2;have aB:=cl bQ 1 rfl;have aC:=cl bQ 2 rfl;have bT:=Jh (((ar.o.1.below (ap.o.1.then ah.o)).later (w':=bR) λE J=>aT.o.2.1.block E (((ar.o.1.below (ap.o.1.then ah.o)).1.lt E J).2) (λe=>by have:=ar.o.1.2 E J;have:=Option.some.inj e;omega)).below X);have dO:some ak≠(aQ bU D bV).ownBlock:=λe=>by
  have U:=(ar.o.2.1.lt ak e.symm).2;omega
 have dN:ak<bS.heap.size:=(Jl bQ);have ct:=((ap.o.1.then ah.o).block (H+1) (Jw br.o)).trans dD.o;have cu:=(aT.o.2.1.block (H+1) (Jw ((Jl ct))) (λe=>Jw (Option.some.inj e))).trans ct;have df:=(X.block (H+1) (Jl cu)).trans cu;have dB:=Jh df;have dE:=Jh bQ;have cA:=Jh (Ja aJ X);clear b2 dc aJ X aA bQ aB aC ct cu df
 go_wp2_with (at_builtin;first|(refine bb rfl (.tmp 94) (.tmp 99) 103 Jr 108 (.agg #[Ji 0,Jn,Jn,Jn,Ji 0]) 5 88 underlying103 GO rfl Jd (λy=>y<H+2) D _ _ _ #[Ji 0,.slice b7 1 cG,Jn,Jn,Ji 0] rfl (by intro dh aK;simp at aK;rcases aK with rfl|rfl|rfl|rfl|rfl<;>rfl) du.o Jr bJ Jr Jm Jo ?_;intro dX aj a7 T aa ad;obtain⟨be,bA,rfl⟩:=a7.form;have bd:=Jh a7;have cc:=Jh (Ja T (Ja aa ad));have cv:=(T.block (H+1) Jo).trans dB.o;have cy:=cl cv 2 rfl;have b5:=(aa.block ak dN dO).trans dE.o;have aB:=cl b5 1 rfl;have aC:=cl b5 2 rfl;have dC:=Jh (Ja cv b5);have dy:=Jh ((bT.o.later (w':=aj) λE J=>aa.block E ((bT.o.1.lt E J).2) (λe=>bT.o.2 E J (.inr e.symm))).shift (R':=λy=>y<H+2∨(aQ be (D+1) bA).ownBlock=some y) (MN bT.o ad));have dK:gm (λy=>y<H+2∨(aQ be (D+1) bA).ownBlock=some y) aj:=(λy Q=>Q.elim (λQ=>by have:=T.size;have:=bJ y Q;omega) (λQ=>(bd.o.1.lt y Q).2));clear aa ad a7 T cv b5)|(go_must (refine bb rfl (.tmp 102) (.tmp 109) 106 Jr 130 (.agg #[Ji 0,Ji 0,Ji 0]) 3 24 underlying106 mu rfl Jd _ D _ _ _ #[Ji aL,Ji D,Ji aN] rfl (by intro dh aK;simp at aK;rcases aK with rfl|rfl|rfl<;>rfl) dy.o Jr dK Jr Jm Jo ?_;intro ei aO cn aw bY bD;obtain⟨bw,bz,rfl⟩:=cn.form;have cE:=Jh cn;have dz:=Jh (Ja aw (Ja bY bD));have b3:=(aw.block (H+1) (.inl Jo)).trans dC.o.1;have ed:=cl b3 2 rfl;have ek:=(aP b3 2).2;have dA:=Jh b3;clear bY bD cn aw b3 cy)))
 go_roundw
 case rel=>
  obtain⟨T,aa,ad⟩:=cc.o;obtain⟨aw,bY,bD⟩:=dz.o;have X:=cA.o.2;have bE:=ap.o.1.then ah.o;obtain⟨aY,af,cr,-⟩:=aT.o;have ef:=bE.size;have eg:=X.size;have eh:=T.size;have ee:=aw.size;have av:=br.o;have cN:=λE J=>(ar.o.2.1.lt E J).2;have cO:∀E,(aQ bU D bV).ownBlock=some E->H+2<=E:=λE J=>Nat.not_lt.1 (ar.o.2.2 E J);have cP:=λE J=>(ar.o.1.1.lt E J).2;have cQ:∀E,(aQ bf D bB).ownBlock=some E->H+2<=E:=λE J=>Nat.not_lt.1 λh=>ar.o.1.2 E J (.inl h);have cH:=am dA.o (i:=2) (.slice bw (D+1) bz);simp only[bg,aM,bG] at cH;have bK:∀y,y≠H+1->(aO.setCell (Jp (H+1) 2) (.slice bw (D+1) bz)).heap[y]?=aO.heap[y]?:=λy Q=>ae _ _ _ _ Q;have cd:∀y,y<bS.heap.size->(aQ bU D bV).ownBlock≠some y->(aQ bf D bB).ownBlock≠some y->aO.heap[y]?=bS.heap[y]?:=λy Q U Z=>(bY.block y Jo (λe=>Z e.symm)).trans (aa.block y Q (λe=>U e.symm));have dF:(io t D).flatMap aR ++ [Ji aL,Ji D,Ji aN]=(io t (D+1)).flatMap aR:=by
   rw[yo,ao,cF.o.2.1,cF.o.2.2];rfl
  have bl:=qM (N:=D) (i:=D) Jo Jo;rw[if_neg (iw D)] at bl;unfold Ph at aY;rw[bl] at aY;simp only[gU] at aY;have aJ:=cA.o.1;have cJ:∀M,b7=some M->bR.heap.size<=M.block/\M.block<bS.heap.size:=λM e=>⟨Nat.not_lt.1 (aJ.2 M.block (by rw[e];rfl)),(aJ.1.lt M.block (by rw[e];rfl)).2⟩;refine Pt (iv:=_) (xs:=b6) (A7:=b7) (c7:=cG) b0 (by go_num) av ap.o.2.1 cO cQ co bN ?_ ?_ ?_ ?_ ?_ ?_ ?_ cH ?_ ?_ ?_ ?_ ?_
  ·intro y Q U Z aW au;exact(bK y Z).trans ((cd y Jo aW au).trans ((X.block y Jo).trans ((af.block y Jo (λe=>U (Option.some.inj e))).trans (bE.block y Q))))
  ·exact aw.os.trans (T.os.trans (X.os.trans (af.os.trans bE.os)))
  ·exact aw.tape.trans (T.tape.trans (X.tape.trans (af.tape.trans bE.tape)))
  ·exact aw.output.trans (T.output.trans (X.output.trans (af.output.trans bE.output)))
  ·simp only[World.size_setCell];omega
  ·rcases ad with h|⟨E,U,Z⟩
   ·exact .inl h
   exact .inr ⟨E,U,Jo⟩
  ·rcases bD with h|⟨E,U,Z⟩
   ·exact .inl h
   exact .inr ⟨E,U,Jo⟩
  ·rw[<-dF];exact cE.o.later λE J=>bK E (λe=>cE.o.2 E J (.inl Jo))
  ·have U:=(bd.o.later (w':=aO) λE J=>aw.block E (.inr J)).later (w':=aO.setCell (Jp (H+1) 2) (.slice bw (D+1) bz)) λE J=>bK E (λe=>bd.o.2 E J Jo);rw[ao];exact U
  ·refine(aY.kept (w':=aO.setCell (Jp (H+1) 2) (.slice bw (D+1) bz)) ?_).ext λy=>Am Jo y;exact(bK H Jo).trans ((cd H Jo (λe=>Jw (cO _ e)) (λe=>Jw (cQ _ e))).trans (X.block H Jo))
  ·have U:=aJ.later (w':=aO.setCell (Jp (H+1) 2) (.slice bw (D+1) bz)) λE J=>by
    have Z:=(aJ.1.lt E J).2;have aW:=aJ.2 E J;exact(bK E Jo).trans (cd E Z (λe=>Jw (cN _ e)) (λe=>Jw (cP _ e)))
   exact⟨by simpa using U.rd,λM e=>Jw ((cJ M e).1)⟩
  intro M e;have U:=cJ M e;refine⟨by simp only[World.size_setCell];omega,λbC=>?_,λbC=>?_⟩
  ·rcases ad with h|⟨E,Z,aW⟩
   ·have:=cN M.block (h▸bC);omega
   have:=Option.some.inj (Z.symm.trans bC);omega
  rcases bD with h|⟨E,Z,aW⟩
  ·have:=cP M.block (h▸bC);omega
  have:=Option.some.inj (Z.symm.trans bC);omega
 simp[intOf];omega
end
def FC (N:Nat)(K:List Int)(col:Nat->Nat)(d:Nat)(w:JW)(step:Int)(I:iU->Prop)(e:Ending)(w':JW):Prop:=∃(H:JA)(y D:Nat)(E:List iO),e= .returned (.tuple #[.slice H y D,Ji 0])/\E.length=y/\y<=12/\pG (mI step (full N K)) E/\
 ∃D M J,cI D d M J w'/\bF PD col D w w'/\I J/\Rd (Off (jB D) w') 5 H y (E.flatMap gC)
theorem Cx (N:Nat)(y:List Int)(D:Held N y)(c:Nat)(hc:c<=1000)(col:Nat->Nat)(d:Nat)(v:nI)(x:iU)(w:JW)(h:cI col d v x w)(E:List eP)(hr:Reads N y c x E)(V:x.m<=1000)(step:Int)(Z:1<=step)(aa:step<=1000)(I:iU->Prop)
 (O:∀m cnt,m<=x.m+x.man.Parts.length->pH c x.man.Parts cnt->I {x with m:=m,cnt:=cnt}):
 JC 8 #[Jv d,Jn,.agg #[Ji 0,Ji 4000],Ji step] w (FC N y col d w step I):=by
 refine(RA col d v x w h N y c hr.parts hr.cnt hc V hr.head E (full N y) hr.put hr.VK hr.VL hr.n D.JF y Ge D.len step Z aa).mono ?_;rintro K af ⟨H,ac,J,ad,m,cnt,rfl,X,M,ae,ab,Y,U,Q,W,T⟩;exact⟨H,ac,J,ad,rfl,X,M,ab,col,v,_,U,(ya h.lt Q).mono λ_ K=>by unfold PD;omega,O m cnt W T,Y⟩
theorem Tw (N:Nat)(y:List Int)(D:Held N y)(col:Nat->Nat)(d:Nat)(v:nI)(x:iU)(w:JW)(h:cI col d v x w)(hi:fQ N y x)(step:Int)(J:1<=step)(K:step<=1000):
 JC 8 #[Jv d,Jn,.agg #[Ji 0,Ji 4000],Ji step] w (FC N y col d w step (fQ N y)):=
 Cx N y D 0 Jo col d v x w h [] (hi.reads D) (Jw hi.m) step J K _ λ_ _ E H=>hi.Ka E H
theorem Bf (N k c:Nat)(D:List Int)(E:Held N D)(hc:c<=8)(col:Nat->Nat)(d:Nat)(v:nI)(x:iU)(w:JW)(h:cI col d v x w)(hr:mW N D k c 0 x)(step:Int)(M:1<=step)(O:step<=1000):
 JC 8 #[Jv d,Jn,.agg #[Ji 0,Ji 4000],Ji step] w (FC N D col d w step (mW N D k (c+1) 0)):=by
 rcases hr with⟨-,H,y⟩|⟨-,y⟩|⟨H,-⟩|⟨_,_,-,H,-⟩
 ·exact Cx N D E 0 Jo col d v x w h [] (y.reads E) (Jw y.m) step M O _ λ_ _ J K=>.inl ⟨rfl,H,y.Ka J K⟩
 ·exact Cx N D E c Jo col d v x w h _ (y.toParts.reads E) (Jw y.m) step M O _ λ_ _ J K=>.inr (.inl ⟨rfl,y.Ka E J K⟩)
 ·omega
 omega
theorem yB {ws:List iO}(y:∀w∈ws,0<w.Count)(p:iO->Bool):gY (ws.filter p)<=gY ws:=by
 induction ws with
 |nil=>simp
 |cons w ws E=>
  have H:=y w (az ..);have J:=E λw D=>y w (aC _ D);rw[ei];split
  ·rw[gQ,gQ];omega
  rw[gQ];omega
theorem QS {ws:List iO}(D:∀w∈ws,0<w.Count){E:iO}(hy:E∈ws):E.Count<=gY ws:=by
 induction ws with
 |nil=>cases hy
 |cons w ws J=>
  have K:=D w (az ..);have y:∀w∈ws,0<w.Count:=λw H=>D w (aC _ H);have H:=nV y;rw[gQ];rcases List.mem_cons.1 hy with rfl|hy
  ·omega
  have:=J y hy;omega
theorem pG.pos {ws out:List iO}(h:pG ws out)(y:∀w∈ws,0<w.Count)(T:gY ws<=1000000){w:iO}(hw:w∈out):0<w.Count:=by
 obtain⟨⟨E,D,K⟩,J⟩:=(h.2 w).1 hw;have Q:=yB y λH=>decide (H.From=w.From);have M:E∈ws.filter λH=>decide (H.From=w.From):=List.mem_filter.2 ⟨D,by simpa using K⟩;have H:=QS (λw hw=>y w (List.mem_filter.1 hw).1) M;have O:=y E D
 conv=>rhs;rw[J]
 unfold mq;rw[sE _ _ Jd (λE D=>y E (List.mem_filter.1 D).1) (by
  show 0+_<=_;rw[Int.zero_add];omega)]
 show 0<0+_;rw[Int.zero_add];omega
theorem Im {w:JW}{A:JA}{n:Nat}{xs:List iO}(h:Rd w 5 A n (xs.flatMap gC)){i:Nat}(hi:i<xs.length):
 ∃b y,A=some (Jp b y)/\b<w.heap.size/\w.cell? (Jp b (y+i*5))=some (Ji xs[i].From)/\w.cell? (Jp b (y+i*5+1))=some (Ji xs[i].Count)/\w.cell? (Jp b (y+i*5+2))=some (Ji xs[i].Sum)/\w.cell? (Jp b (y+i*5+3))=some (Ji xs[i].Min)/\w.cell? (Jp b (y+i*5+4))=some (Ji xs[i].Max):=by
 obtain⟨b,y,E,H,D⟩:=h.elem kt Jd hi;exact⟨b,y,E,H,D 0 _ rfl,by have:=D 1 _ rfl;rwa [<-aV] at this,by have:=D 2 _ rfl;rwa [<-aV] at this,by have:=D 3 _ rfl;rwa [<-aV] at this,by have:=D 4 _ rfl;rwa [<-aV] at this⟩
section
attribute [local go_sem] Oper.semAt_some
theorem Nw:prog.stoodInHeld 38=false:=Jk
theorem Io:prog.underlying 38=some (.struct (prog.fieldsOf 38)):=Jk
theorem vO (d:Nat)(x:iO)(w:JW):(Op.equalIn (d+2) 38 (mQ x) (mQ x)).run prog w= .ok true w:=by
 rw[run_equalIn_struct w (d+1) 38 _ _ Io Nw];simp[Program.fieldsOf,underlying38,underlying3,go_sem]
theorem EM (x:iO)(w:JW):(binOp .neq 38 (mQ x) (mQ x)).run prog w= .ok (.bool false) w:=by
 rw[run_neq_struct,vO 9998];rfl
theorem Iv (N:Nat):NL N:=λV U E H W Y X y D T J M Z K Q=>by
 by_cases O:V=[]
 ·subst O;exact Iu E H W Y X J N U M (Z rfl) K y D T Q
 exact It E H W Y X J N V U M K O y D T Q
structure IE (N:Nat) (ts:List Int) (O:JA) (k B:Nat) (col:Nat->Nat) (w:JW):Prop where
 ts:Rd (Off (jB col) w) 1 O k (ts.flatMap iS)
 c0:col B=0
 blk:w.heap[B]?=some (.cells #[Ji 0,Ji 4000] 30 (0,0))
 n7:∀k,col k≠7
theorem IE.I {N k B:Nat}{H:List Int}{y:JA}{col D:Nat->Nat}{w w':JW}(h:IE N H y k B col w)(p:bF PD col D w w'):IE N H y k B D w':=by
 have E:=p.at (c:=0) (by unfold PD;omega) B (Jl h.blk) h.c0;exact⟨h.ts.part (p.part (by unfold PD;omega)),E.1,E.2.trans h.blk,p.VZ h.n7⟩
theorem Tk {N:Nat}{y:List Int}{x:iU}(h:fQ N y x):∃m,m<=1/\mW N y 12 0 m x:=by
 by_cases D:y=[]
 ·exact⟨0,Jo,.inl ⟨rfl,D,h⟩⟩
 exact⟨1,Jo,.inr (.inr (.inl ⟨rfl,D,h,rfl,rfl⟩))⟩
theorem Ti {N k c:Nat}{D:List Int}{x:iU}(h:mW N D k c 0 x)(H:D≠[]):mF N D k c x:=by
 rcases h with⟨-,y,-⟩|⟨-,E⟩|⟨y,-⟩|⟨_,_,-,y,-⟩
 ·exact absurd y H
 ·exact E
 ·omega
 omega
theorem EH (N k c m:Nat)(y:List Int)(E:Held N y)(H:k<=1000)(hc:c<=8)(J:m<=10)(col:Nat->Nat)(d:Nat)(v:nI)(x:iU)(w:JW)(h:cI col d v x w)(D:∀k,col k≠7)(hr:mW N y k c m x):
 JC 9 #[Jv d] w λe w'=>e= .returned (.bool true)/\sk N y k c 0 col d w w':=
 rest_of N k c m y col d v x w h D E hr hc J λm col v x w h D hr=>QP N k c m y E hc H col d v x w h D hr
def WQ (N:Nat)(H:List Int)(d:Nat)(E:Nat->Nat)(K:JW)(i:Nat)(wr:JW):Prop:=∃y J D,cI y d J D wr/\bF PD E y K wr/\mW N H (12+i) 1 0 D
theorem Cz {w:JW}(n:Nat)(b2:Value)(ay:Nat)(ef:n<256)(bG:∃A c,∃xs:JU,b2= .slice A xs.length c/\Rd w 1 A xs.length (xs.flatMap byteCells)/\(∀x∈xs,True)/\xs.length<=c/\c<=maxLen)(es:ay<256)(c1:Pow w)(cQ:vu w)(df:yY w):
 JC 3 #[.int .u8 n,b2,.int .u8 ay] w λe w'=>e= .returned (.bool true)/\Jz w w':=by
 have ed:prog.follows .mixedOrders=true:=Jk;obtain⟨A,c,xs,rfl,c8,-,-,-⟩:=bG;obtain⟨ax,ek⟩:=Je (n % 4);have el:ax<4:=Jo;have en:(n:Int) % 4=(ax:Int):=Jo;obtain⟨E,d1⟩:=Je (1+ax);have d2:(1:Int)+(ax:Int)=(E:Int):=Jo;have cD:1<=E:=Jo;have aL:E<=4:=Jo;obtain⟨V,er⟩:=Je (1+ay);have eq:(1:Int)+(ay:Int)=(V:Int):=Jo;have aT:(1:Int)<=V:=Jo;have aU:(V:Int)<=1000:=Jo;have ci:=Jh (GT A c xs.length xs w c8 rfl);have aE:=Jh (Ja c1 (Ja cQ df));go_enter Tryz.func3,Tryz.ntmps3;go_wp2_with fail;refine ci.o.mono ?_;rintro e Y ⟨aI,y,cu,rfl,bR,cW,bJ,cG⟩;obtain⟨H,aW⟩:=Je (vM xs y);have cS:Held E H:=by rw[<-aW];exact MF cD aL cW bR
 have aP:H.length=y:=by rw[<-aW];exact EK xs y
 rw[aW] at bJ;have J:=Jh (Ja cS aP);have bf:=Jh bJ;have aH:=Jh cG;have cc:=Jh (Dv 512 Y Jo Jo);go_wp2_with fail;refine cc.o.mono ?_;rintro e Z ⟨ct,rfl,bN,bL,eo⟩;obtain⟨M,ao⟩:∃M:Nat->Nat,M=λy=>if Y.heap.size<=y/\y<Y.heap.size+2 then 2 else 0:=⟨_,rfl⟩;have cI:(λy=>M y=2)=λy=>Y.heap.size<=y/\y<Y.heap.size+2:=by
  funext y;rw[ao];simp only;split<;>simp[*]
 have aM:∀y,y<Y.heap.size->M y=0:=λy Q=>by
  rw[ao];exact if_neg Jo
 have cJ:∀y,M y≠7:=λy=>by
  rw[ao];simp only;split<;>omega
 rw[<-cI] at bN;have aQ:Lt M Z:=λy Q=>by
  rw[ao] at Q;simp only at Q;split at Q
  ·omega
  exact absurd rfl Q
 have bK:Jz w Z:=aH.o.then bL;have cR:sV M Z:=⟨w,aE.o.2.2,aE.o.1,aE.o.2.1,bK,λy Q=>aM y (Jw aH.o.size)⟩;have bU:Rd (Off (jB M) Z) 1 aI y (H.flatMap iS):=pw (bf.o.below bL).rd λcr e aR=>by
  subst e;have bI:=(bf.o.1.lt cr.block rfl).2;exact aR (aM _ bI)
 have cM:∀y,y<w.heap.size->¬PD (M y):=λy Q=>by
  have:=aM y (Jw aH.o.size);unfold PD;omega
 have cm:=Jh (Iw E (Iv E) M ct Z cR aQ bN aI y cu H bU J.o.2 J.o.1);have aa:=Jh (Ja bK (Ja bU (Ja cJ cM)));go_wp2_with fail;refine cm.o.mono ?_;rintro e bc ⟨U,rfl,aJ,dz,dI,aN,bX,cT⟩;obtain⟨be,cC⟩:=Je bc.heap.size;obtain⟨W,dh,bM,a1⟩:∃W,bc.alloc (.cells #[Ji 0,Ji 4000] 30)=W/\Jz bc W/\W.heap[be]?=some (.cells #[Ji 0,Ji 4000] 30 (0,0)):=
  ⟨_,rfl,Below.one _ _,by rw[<-cC];exact heap_alloc_new _ _⟩
 have bY:bF PD M aJ Z W:=bX.trans (bF.of aN.lt bM);have cq:IE E H aI y be aJ W:=⟨aa.o.2.1.part (bY.part (by unfold PD;omega)),aN.lt.zero Jo,a1,bX.VZ aa.o.2.2.1⟩;have b8:=Jh (Tw E H J.o.1 aJ U dz dI W (aN.below bM) cT V aT aU);have b0:=cl a1 0 rfl;have b1:=cl a1 1 rfl;have bg:=Jh (Ja cq bY);have ck:=Jh dh;go_wp2_with fail;try simp only[ck.o]
 refine b8.o.mono ?_;rintro e dE ⟨dO,T,dW,X,rfl,dk,eg,cE,cx,dB,dJ,cO,bZ,cU,db⟩;obtain⟨a6,aR,de⟩:=Tk cU;have aG:=Jh (Ja (bg.o.1.I bZ) (bg.o.2.trans bZ));have cf:=Jh (EH E 12 0 a6 H J.o.1 Jo Jo Jo cx U dB dJ dE cO aG.o.1.n7 de);have ab:=Jh (Ja dk (Ja cE db));go_wp2_with fail;refine cf.o.mono ?_;rintro e dF ⟨rfl,dK,⟨cy,dC,cP,a7⟩,dc⟩;have al:=Jh (Ja (aG.o.1.I a7) (aG.o.2.trans a7));have b9:=Jh (Bf E 12 0 H J.o.1 Jo cy U dC dK dF cP dc V aT aU);have b0:=cl al.o.1.blk 0 rfl;have b1:=cl al.o.1.blk 1 rfl;have cn:=Jh (ab.o.2.2.part (a7.part (by unfold PD;omega)));go_wp2_with fail;refine b9.o.mono ?_;rintro e bd ⟨dP,dr,dX,dM,rfl,dl,eh,cF,aK,dD,dL,bO,a8,cV,dd⟩;obtain rfl:X=dM:=ab.o.2.1.one cF;obtain rfl:T=dr:=ab.o.1.symm.trans dl;have bh:=Jh (Ja (al.o.1.I a8) (al.o.2.trans a8));have bi:=Jh (Ja (cn.o.part (a8.part (by unfold PD;omega))) dd);have cj:=Jh (show WQ E H U aK bd 0 bd from⟨aK,dD,dL,bO,bF.refl bO.lt,cV⟩);go_wp2_with fail;go_loopw [15] (λaY wr=>∃D:Nat,aY=Ji D/\D<=y/\WQ E H U aK bd D wr) (λaY _=>y - (intOf aY).toNat)
 case atStart=>exact⟨0,rfl,bj _,cj.o⟩
 obtain⟨D,rfl,eb,bC,b3,b5,bP,bb,bT⟩:=hrel;have ac:=bh.o.1.I bb;by_cases aP:D<y
 ·have dm:=Jt ((D:Int)<y);have ap:D<H.length:=by rw[J.o.2];exact aP
  have cZ:H≠[]:=λe=>by rw[e] at ap;simp at ap
  obtain⟨cB,dt,rfl,d6,cH⟩:=ac.ts.on.elem (cells:=iS) (C:=1) (λ_=>rfl) Jd ap;have bW:=ah ap;have dg:=J.o.1.pos H[D] bW;obtain⟨az,bV⟩:=dA dg.1;have eB:wr.cell? (Jp cB (dt+D))=some (Ji (az:Int)):=by rw[<-bV];simpa using cH 0 _ rfl
  obtain⟨am,d4⟩:=Je (az / 100);have em:IntKind.i64.wrap ((az:Int).tdiv 100)=(am:Int):=by
   rw[fE Jo,aB];omega
  have c6:(az:Int) / 100=(am:Int):=Jo;have d5:am<=35:=Jo;have ce:=Jh (LA bC U b3 b5 wr bP ac.n7 E (12+D) 1 H (Ti bT cZ) J.o.1 (am:Int) ⟨H[D],bW,by rw[bV];exact c6⟩);have ak:=Jh (Ja bb ac);go_wp2_with fail;refine ce.o.mono ?_;rintro e aA ⟨rfl,a6,aR,b6,⟨bD,b4,bQ,av⟩,aS⟩;have cg:=Jh (EH E (12+D+1) 1 a6 H J.o.1 Jo Jo Jo bD U b4 b6 aA bQ (av.VZ ak.o.2.n7) aS);have b7:=Jh av;go_wp2_with fail;refine cg.o.mono ?_;rintro e eC ⟨rfl,dH,⟨cv,dy,cN,du⟩,da⟩;have aD:=Jh (Ja cN (Ja du da));go_wp2_with fail;go_roundw
  case rel=>exact⟨D+1,by go_num,Jo,cv,dy,dH,aD.o.1,ak.o.1.trans (b7.o.trans aD.o.2.1),aD.o.2.2⟩
  simp[intOf];omega
 obtain rfl:D=y:=Jo;have dm:=Jf ((D:Int)<D);have cb:=Jh (Bf E (12+D) 1 H J.o.1 Jo bC U b3 b5 wr bP bT V aT aU);have b0:=cl ac.blk 0 rfl;have b1:=cl ac.blk 1 rfl;have ak:=Jh bb;go_wp2_with fail;refine cb.o.mono ?_;rintro e aA ⟨dQ,ds,dY,dN,rfl,aX,ei,an,bD,b4,b6,bQ,av,ea,aS⟩;obtain rfl:X=dN:=ab.o.2.1.one an;obtain rfl:T=ds:=ab.o.1.symm.trans aX;have ba:=ak.o.trans av;have cd:=Jh (show Jz w aA from aa.o.1.trans ((bh.o.2.trans ba).s.below aa.o.1.size λy e=>Nat.not_lt.1 λQ=>aa.o.2.2.2 y Q e));have bH:PD 0->False:=by unfold PD;omega
 have aF:=Jh (Ja (bi.o.1.part (ba.part bH)) (Ja (bi.o.2.part (ba.part bH)) aS));have aV:=J.o.1.agg an;have ai:=J.o.1.some an;have cK:=(J.o.1.wins V).2;have dj:=(J.o.1.wins V).1;have cL:∀aC∈X,0<aC.Count:=λaC au=>an.pos cK (by
  have bI:=ee aL J.o.1.len;rw[dj];omega) au
 have cX:H.length=D:=J.o.2;have cY:E*D<=48:=ee aL bR;rw[cX] at aV ai;rw[aX] at ai;obtain⟨dv,bS⟩:=Je (E*D);rw[bS] at aV cY;have ej:(E:Int)*(D:Int)=(dv:Int):=by rw[<-bS];simp
 obtain⟨ad,dS,dT,dU,dV⟩:∃ad,decide ((0:Int)<(T:Int))=ad/\decide (0<T)=ad/\decide ((0:Int)<(D:Int))=ad/\decide (0<D)=ad:=by
  refine⟨decide (0<D),?_,?_,?_,rfl⟩
  ·exact decide_eq_decide.2 Jo
  ·exact decide_eq_decide.2 Jo
  exact decide_eq_decide.2 Jo
 have O:=Jh (Ja aV (Ja cL aX));go_wp2_with fail;go_loopw [18,19] (λcz aZ dG=>∃K:Nat,aZ=Ji K/\cz=Ji (gY (X.take K))/\K<=T/\Jz aA dG) (λ_ aZ _=>T - (intOf aZ).toNat)
 case atStart=>exact⟨0,rfl,by simp[gY],bj _,ag _ _⟩
 rename_i eD;obtain⟨K,rfl,rfl,ec,ae⟩:=hrel;obtain⟨dw,ar⟩:=Je (gY (X.take K));have aO:=Km O.o.2.1 K;by_cases aQ:K<T;rotate_left
 ·obtain rfl:K=T:=Jo;have dn:=Jf ((K:Int)<(K:Int));rw[aw (by rw[O.o.2.2];omega),O.o.1] at ar;subst ar;have co:=Jh ae;rw[aw (by rw[O.o.2.2];omega),O.o.1];go_wp2_with fail;go_ret;exact⟨rfl,cd.o.then co.o⟩
 have dn:=Jt ((K:Int)<T);have af:K<X.length:=by rw[O.o.2.2];exact aQ
 have aj:=Nk af;have aq:=Km O.o.2.1 (K+1);have ai:=O.o.2.1 _ (ah af);obtain⟨bG,ey,rfl,d7,bl,bm,bn,bo,bp⟩:=Im (aF.o.1.on.below ae) af;obtain⟨dZ,ez,rfl,d8,bq,br,bt,bu,bv⟩:=Im (aF.o.2.1.on.below ae) af;obtain⟨d0,eA,rfl,d9,bw,bx,bz,bA,bB⟩:=Im (aF.o.2.2.on.below ae) af;obtain⟨⟨cA,bE,dx,dp,dq⟩,au⟩:∃aC,X[K]=aC:=⟨_,rfl⟩;have di:=EM ⟨cA,bE,dx,dp,dq⟩;dsimp only[mQ] at di;rw[au] at bl bm bn bo bp bq br bt bu bv bw bx bz bA bB aj ai;rw[O.o.1] at aO aq;rw[ar] at aO aj ⊢;rw[aj] at aq;dsimp only at bl bm bn bo bp bq br bt bu bv bw bx bz bA bB aj ai aq;obtain⟨et,eu⟩:=aO;obtain⟨ev,ew⟩:=aq;have ep:dw<=48:=Jo;have d3:bE<=48:=Jo;have bk:=Jh (Ja aj ae);have dR:=Jh (Ja au ar);go_wp2_with fail;go_quiet (fail);go_wp2_with fail;go_roundw
 case rel=>exact⟨K+1,by go_num,by rw[bk.o.1],Jo,bk.o.2.drewN _⟩
 simp[intOf];omega
end
end Go.Proofs.YtibmlemoghcbkaaGreatDoor
