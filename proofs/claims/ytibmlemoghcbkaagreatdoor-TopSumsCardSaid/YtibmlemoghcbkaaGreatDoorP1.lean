/-
  What 'TopSums' stands on, part 1 of 6.
-/
import Derived.Test.YtibmlemoghcbkaaGreatDoorProg
import Derived.ProofKit
import Derived.OpenShut
import Derived.ShutString
import Derived.WalkSpells
import Derived.WalkLawsBesides
import Derived.Deep.RegionHeld3
import Derived.StillTailTactics
import Derived.Lib.Zigzag
import Derived.Deep.Fields
import Derived.RangeFuncNested
import Derived.RangeFuncBound
import Derived.Shelf.Strings.Builder2
import Derived.Shelf.Small.Utf8
import Derived.Shelf.Small.Bits
import Derived.Shelf.Small.Wraps
import Derived.Shelf.Strconv.Itoa3
import Derived.Shelf.Strconv.ErrVarAll
import Derived.Shelf.Strings.Shaped
import Derived.Shelf.Sort.Plain
import Derived.Shelf.Slices.Clone
import Derived.Shelf.Slices.In.SortNone
import Derived.Shelf.Slices.Empties
import Derived.Shelf.SlicesE.Clone
import Derived.Deep.AppendLies
import Derived.Deep.DrawnRows
set_option linter.unusedSimpArgs false
set_option linter.unusedVariables false
set_option maxRecDepth 100000
set_option maxHeartbeats 8000000
open Array renaming getElem?_modify→aA,getElem?_setIfInBounds_ne→eC,length_toList→dM,replicate_succ→bY,replicate_zero→bZ
open BitVec renaming ofInt_natCast→fZ,ofInt→dU,toNat_ofNat→gR
open Bool renaming and_eq_true→bT
open Go.Act renaming put→an
open Go.Builtin renaming append_→gp,append→gd,zeroCells→dO
open Go.Callee renaming builtin→fD
open Go.Calls renaming quiet_of_same→ek
open Go.Exit renaming «then»→gM
open Go.Fence renaming wide→dI
open Go.Instr renaming lookup→eQ,makeFunc→cO
open Go.IntKind renaming wrap_i64→aB,wrap_u64→bD
open Go.IntWalk renaming i64_in→bC,u64_in→bJ
open Go.KeepsOthers renaming refl→fR,setCell→cU
open Go.Lib renaming alloc_old→aJ,bitLen_le8'→gq,bitLen→iu,cell?_alloc_some→bO,cell_of_heap→aa,compareInt→bK,decDigits→dk,frozen_of_heap→aW,heap_setCell_same→am,hid→eE,len8_of→jE,size_eq→bX,toList_data→dY
open Go.Maps renaming size→iL
open Go.Oper renaming wp→jx
open Go.Region renaming wanted→dD
open Go.Result renaming andThen→iM
open Go.RowKit renaming wrap64→iy
open Go.RowKit.Below renaming heap_setCell→ae,refl→ag
open Go.Sem renaming run_bind→jR
open Go.Value renaming int→cY,ownBlock→aG,slice→aQ
open Go.World renaming alloc_heap_new→cD,block_lt_of_cell?→bq,cell?_of_block→af,cell?→dL,putObj_heap_other→aZ,putObj→ik,setCell→aj,size_alloc→aI
open Int renaming eq_ofNat_of_zero_le→dA,le_refl→gg,tdiv_eq_ediv_of_nonneg→fE,toNat_natCast→dE,toNat_of_nonneg→el
open List renaming append_assoc→au,append_nil→cV,append_toArray→cz,cons_append→aY,dropWhile_sublist→eR,drop_drop→bR,drop_eq_getElem_cons→dm,drop_eq_nil_of_le→dF,drop_left'→gr,drop_left→eF,drop_succ_cons→dr,drop_zero→fe,eq_nil_of_length_eq_zero→bu,filter_append→dV,filter_cons→ei,find?_cons_of_neg→dW,find?_some→eN,flatMap_append→ao,flatMap_cons→aE,flatMap_nil→iK,foldl_cons→ia,getD_eq_getElem?_getD→bQ,getElem?_append_left→eU,getElem?_append_right→fF,getElem?_cons_succ→aS,getElem?_cons_zero→aD,getElem?_drop→dJ,getElem?_eq_getElem→aT,getElem?_eq_none→gW,getElem?_toArray→aH,getElem_append_left→du,getElem_append_right→cK,getElem_cons_succ→ck,getElem_cons_zero→bf,getElem_map→eS,getElem_mem→ah,getElem_of_mem→bz,length_append→ab,length_cons→ak,length_drop→bo,length_filter_le→fb,length_map→bU,length_nil→aX,length_range→dG,length_replicate→eo,length_set→fk,length_singleton→fc,length_take→aF,length→eZ,map_append→cH,map_congr_left→gw,map_cons→bV,map_map→ig,map_nil→ii,mem_cons_of_mem→aC,mem_cons_self→az,mem_cons→dh,mem_of_find?_eq_some→cL,mem_of_mem_take→eG,nil_append→bi,not_mem_nil→di,pairwise_iff_getElem→dS,pairwise_map→cS,push_toArray→cT,range_succ→dZ,range→aL,replicate→cm,setIfInBounds_toArray→bg,set_cons_succ→aM,set_cons_zero→bG,size_toArray→cJ,sum_cons→gJ,take_append_drop→da,take_append_getElem→bc,take_left→gT,take_length→fq,take_of_length_le→aw,take_succ_cons→dN,take_succ_eq_append_getElem→aO,take_zero→ff
open List.Pairwise renaming imp→cQ,nil→cj
open Nat renaming add_assoc→aV,add_mul→ij,add_zero→dz,div_add_mod→jm,eq_zero_or_pos→dx,le_of_lt→fl,le_of_not_lt→ft,le_refl→ac,le_trans→ap,lt_irrefl→iw,lt_of_lt_of_le→ai,lt_or_ge→et,min_eq_left→ec,mod_eq_of_lt→fS,mod_lt→dX,mul_comm→dj,mul_le_mul_right→dP,mul_le_mul→ee,one_mul→jF,pow_add→jG,pow_le_pow_right→ce,pow_succ→gF,reduceAdd→bM,reduceSub→dC,sub_self→fG,two_pow_add_eq_or_of_lt→eu,two_pow_pos→cg,zero_add→bB,zero_le→bj,zero_mul→gG
open Ne renaming symm→fV
open Option renaming bind_some→bW,getD_none→gN,getD_some→fu,isSome_none→gU,map_some→eO
open Prod renaming fst→dQ,snd→gz
open UInt8 renaming ofNat→dw,toNat_ofNat'→eH
namespace Go.Proofs.YtibmlemoghcbkaaGreatDoor
open Go Go.RowKit
open Tryz
theorem Ki {k:IntKind}{a b:Int}(h:a=b):Ending.returned (.int k a)= .returned (.int k b):=by rw[h]
theorem Ck {a b:ByteArray}(h:a=b):Ending.returned (.string a)= .returned (.string b):=by rw[h]
theorem _root_.Go.RowKit.Below.then {a b c:World}(h:Below a.heap.size a b)(k:Below b.heap.size b c):Below a.heap.size a c:=h.trans (k.mono h.size)
theorem cZ (w:World)(o o':Obj):Below w.heap.size w ((w.alloc o).alloc o'):=((Below.refl _ _).alloc (Nat.le_refl _) o).alloc (by simp) o'
theorem Vw {W w1:World}(hb:Below W.heap.size W w1):(∀b o,b<W.heap.size->w1.cell? ⟨b,o,none⟩=W.cell? ⟨b,o,none⟩)/\(∀b o,b<W.heap.size->w1.frozen? ⟨b,o,none⟩=W.frozen? ⟨b,o,none⟩):=
 ⟨λb o h=>hb.cell (p:=⟨b,o,none⟩) h,λb o h=>hb.frozen (p:=⟨b,o,none⟩) h⟩
theorem al {w w1:World}{a:Addr}{v:Value}(hb:Below w.heap.size w w1)(h:w.cell? a=some v):w1.cell? a=some v:=(hb.cell (World.block_lt_of_cell? w a h)).trans h
theorem _root_.Go.RowKit.Below.h {w w':World}(h:Below w.drew.heap.size w.drew w'):Below w.heap.size w w':=((Below.refl _ _).drew).trans h
theorem _root_.Go.RowKit.Below.X {w w':World}{o:Obj}(h:Below (w.alloc o).heap.size (w.alloc o) w'):Below w.heap.size w w':=Below.then ((Below.refl _ _).alloc (Nat.le_refl _) o) h
theorem _root_.Go.RowKit.Below.one (w:World)(o:Obj):Below w.heap.size w (w.alloc o):=(Below.refl _ _).alloc (Nat.le_refl _) o
def cellsOf (l:List UInt8):List Value:=l.map λb=>.int .u8 (b.toNat:Int)
theorem xa (l:List UInt8):(cellsOf l).length=l.length:=by simp[cellsOf]
theorem ta (l:List UInt8)(c:UInt8):cellsOf (l ++ [c])=cellsOf l ++ [.int .u8 (c.toNat:Int)]:=by simp[cellsOf]
def S (l:List UInt8):ByteArray:=⟨l.toArray⟩
theorem bH (l:List UInt8):(S l).size=l.length:=by simp[S,ByteArray.size]
theorem FA (s:ByteArray):S s.data.toList=s:=by simp[S]
theorem cW (l:List UInt8):(S l).data.toList=l:=by simp[S]
theorem ef (a b:List UInt8):S a ++ S b=S (a ++ b):=by
 apply ByteArray.ext;simp[S,ByteArray.data_append]
theorem nc (w:World)(us:Array Value)(t:TypeId):∀j u,us.toList[j]?=some u->(w.alloc (.cells us t)).cell? ((⟨w.heap.size,0,none⟩:Addr).add j)=some u:=by
 intro j u hj;have hadd:(⟨w.heap.size,0,none⟩:Addr).add j=⟨w.heap.size,j,none⟩:=by unfold Addr.add;split<;>simp_all
 rw[hadd,cell_of_row (w.alloc (.cells us t)) w.heap.size j us t (0,0) (heap_alloc_new w _)];simpa using hj
theorem nH {P:Program}{ops:Array Oper}{rest:List Oper}{o:Oper}{a:Act}{Q:Exit->Act->World->Prop}(hgd:o.guard=none)(s x:Operand)(T:TypeId)
 (ho:o.op=Op.call {callee:=Callee.builtin Builtin.append,args:=#[s,x],argTypes:=#[T,T]})
 (e:TypeId) (z:Value) (size bytes:Nat) (ht:P.underlying T=some (.slice e)) (hinf:(P.info? e).map (λi=>(i.zero,i.size,i.bytes))=some (some z,size,bytes))
 (hzs:z.cells.size=size) (hsz:0<size) (base n:Nat) (xs:List Value) (v:Value) (W w0:World) (us:Array Value) (hus:us.size=size) (h1:∀u∈us.toList,u.oneCell'=true)
 (hown:w0.ownsRow base e size v n xs) (hs:a.eval s=v) (hbel:Below base W w0) (hbase:base<=w0.heap.size) (hx:a.eval x= .slice (some ⟨w0.heap.size,0,none⟩) 1 1)
 (hn:n+1<=maxLen) (hb:(n+1)*bytes<=140737488355328)
 (h:∀v' w',w'.ownsRow base e size v' (n+1) (xs ++ us.toList)->w0.grownBy w' v.ownBlock->Below base W w'->base<=w'.heap.size->w0.heap.size<w'.heap.size->v'≠.slice none 0 0->wpList P ops Q rest (a.put o.dst v') w'):
 wpList P ops Q (o :: rest) a (w0.alloc (.cells us e)):=by
 obtain⟨i,hi,hz,hz1,hz2⟩:=info_parts hinf;have hg0:=World.grownBy_alloc w0 (.cells us e) v.ownBlock;refine wpList_append_own _ hgd s x T ho base e i z size bytes ht hi hz hz1 hz2 hzs hsz v n xs hs (hown.alloc _) ⟨w0.heap.size,0,none⟩ 1 1 us.toList hx (by simp[hus]) (nc w0 us e) h1 hn hb (by simp;omega) ?_;intro v' w' hown' hgr hnil;have hsize:w0.heap.size<w'.heap.size:=by have:=hgr.size;simp at this;omega
 refine h v' w' hown' ⟨hgr.os.trans hg0.os,hgr.tape.trans hg0.tape,hgr.output.trans hg0.output,by omega,λk hk hne=>(hgr.block k (by simp;omega) hne).trans (hg0.block k hk hne)⟩ ?_ (by omega) hsize ?_
 ·refine(hbel.alloc hbase _).grown hgr (by simp;omega) λk hk=>?_;exact(hown.lt k hk).1
 intro e';have:=hnil.1 e';simp at this
theorem wpList_append_byte {P:Program}{ops:Array Oper}{rest:List Oper}{o:Oper}{a:Act}{Q:Exit->Act->World->Prop}(hgd:o.guard=none)(s x:Operand)(T:TypeId)
 (ho:o.op=Op.call {callee:=Callee.builtin Builtin.append,args:=#[s,x],argTypes:=#[T,T]})
 (e:TypeId) (ht:P.underlying T=some (.slice e)) (hinf:(P.info? e).map (λi=>(i.zero,i.size,i.bytes))=some (some (.int .u8 0),1,1))
 (base n:Nat) (l:List UInt8) (v:Value) (W w0:World) (y:Int) (c:UInt8) (hy:y=(c.toNat:Int))
 (hown:w0.ownsRow base e 1 v n (cellsOf l)) (hs:a.eval s=v) (hbel:Below base W w0) (hbase:base<=w0.heap.size) (hx:a.eval x= .slice (some ⟨w0.heap.size,0,none⟩) 1 1)
 (hn:n+1<=140737488355328)
 (h:∀v' w',w'.ownsRow base e 1 v' (n+1) (cellsOf (l ++ [c]))->w0.grownBy w' v.ownBlock->Below base W w'->base<=w'.heap.size->w0.heap.size<w'.heap.size->v'≠.slice none 0 0->wpList P ops Q rest (a.put o.dst v') w'):
 wpList P ops Q (o :: rest) a (w0.alloc (.cells #[.int .u8 y] e)):=by
 subst hy;refine nH hgd s x T ho e (.int .u8 0) 1 1 ht hinf rfl (by decide) base n (cellsOf l) v W w0 #[.int .u8 (c.toNat:Int)] rfl (by intro u hu;simp at hu;subst hu;rfl) hown hs hbel hbase hx (by unfold maxLen;omega) (by omega) ?_;intro v' w' h1;exact h v' w' (by rw[ta];exact h1)
theorem pW {P:Program}{w:World}{B n:Nat}{src dst e:TypeId}{v:Value}{l:List UInt8}(h:w.ownsRow B e 1 v n (cellsOf l))
 (hs:P.underlying src=some (.slice e)) (he:P.underlying e=some (.int .u8)) (hd:P.underlying dst=some .string) (hv:v≠.slice none 0 0):
 (convert src dst v).run P w= .ok (.string (S l)) w:=by
 have hn:=h.1;have hc:∀g,v.ownBlock=some g->∀j(hj:j<l.length),w.cell? ((⟨g,0,none⟩:Addr).add j)=some (.int .u8 (l[j].toNat:Int)):=
  λg hg j hj=>h.cells hg j _ (by simp[cellsOf,hj])
 rcases h.2 with⟨rfl,_⟩|⟨g,cap,cur,rfl,hb,hg,hr⟩
 ·exact absurd rfl hv
 rw[xa] at hn;obtain rfl:n=l.length:=by omega
 exact run_convert_bytes_back w src dst e ⟨g,0,none⟩ cap l hs he hd (hc g rfl)
theorem yv {P:Program}(w:World){src dst e:TypeId}(y:Int)(c:UInt8)(hy:y=(c.toNat:Int))
 (hs:P.underlying src=some (.slice e)) (he:P.underlying e=some (.int .u8)) (hd:P.underlying dst=some .string):
 (convert src dst (.slice (some ⟨w.heap.size,0,none⟩) 1 1)).run P (w.alloc (.cells #[.int .u8 y] e))= .ok (.string (S [c])) (w.alloc (.cells #[.int .u8 y] e)):=by
 subst hy;refine run_convert_bytes_back (w.alloc (.cells #[.int .u8 (c.toNat:Int)] e)) src dst e ⟨w.heap.size,0,none⟩ 1 [c] hs he hd λj hj=>?_;obtain rfl:j=0:=by simpa using hj
 exact nc w #[.int .u8 (c.toNat:Int)] e 0 _ rfl
theorem mr {P:Program}(w:World)(src dst e:TypeId)(s:ByteArray)(hs:P.underlying src=some .string)(hd:P.underlying dst=some (.slice e))(he:P.underlying e=some (.int .u8)):
 ∃cap w1,(convert src dst (.string s)).run P w= .ok (.slice (some ⟨w.heap.size,0,none⟩) s.size cap) w1/\Below w.heap.size w w1/\w.heap.size<w1.heap.size/\s.size<=cap/\
  ∀j(hj:j<s.size),w1.cell? ⟨w.heap.size,j,none⟩=some (.int .u8 (s[j].toNat:Int)):=by
 refine⟨_,_,run_bytes_of_string w src dst e s hs hd he,?_,?_,grownCap_ge _ _ _ _,λj hj=>?_⟩
 ·exact(Below.refl _ _).drew.alloc (Nat.le_refl _) _
 ·simp
 rw[cell_of_row (w.drew.alloc _) w.heap.size j _ e _ (heap_alloc_new w.drew _)];exact bytesRow_at s _ j hj
theorem Gk (a b:Nat)(ha:a<9223372036854775808)(hb:b<9223372036854775808):bits .or .i64 (a:Int) (b:Int)=((a |||b:Nat):Int):=by
 have hx:a |||b<2 ^ 63:=Nat.or_lt_two_pow (by omega) (by omega);have h1:(BitVec.ofInt 64 (a:Int)).toNat=a:=by
  rw[BitVec.ofInt_natCast,BitVec.toNat_ofNat];exact Nat.mod_eq_of_lt (by omega)
 have h2:(BitVec.ofInt 64 (b:Int)).toNat=b:=by
  rw[BitVec.ofInt_natCast,BitVec.toNat_ofNat];exact Nat.mod_eq_of_lt (by omega)
 show IntKind.i64.wrap ((BitVec.ofInt 64 (a:Int) |||BitVec.ofInt 64 (b:Int)).toNat:Int)=_;rw[BitVec.toNat_or,h1,h2,IntKind.wrap_i64];omega
theorem yw {P:Program}{src dst e:TypeId}(x y:Int)(b c:UInt8)(hx:x=(b.toNat:Int))(hy:y=(c.toNat:Int))
 (hs:P.underlying src=some (.slice e)) (he:P.underlying e=some (.int .u8)) (hd:P.underlying dst=some .string) (w:World) (g:Nat) (h0:w.cell? ⟨g,0,none⟩=some (.int .u8 x)) (h1:w.cell? ⟨g,1,none⟩=some (.int .u8 y)):
 (convert src dst (.slice (some ⟨g,0,none⟩) 2 2)).run P w= .ok (.string (S [b,c])) w:=by
 subst hx hy;refine run_convert_bytes_back w src dst e ⟨g,0,none⟩ 2 [b,c] hs he hd λj hj=>?_;have hj2:j<2:=by simpa using hj
 match j,hj2 with
 |0,_=>exact h0
 |1,_=>exact h1
section
open Go Go.RowKit Go.Deep Go.ChangeShapes Go.WideShapes
def Rd (w:World)(size:Nat)(A:Option Addr)(n:Nat)(xs:List Value):Prop:=
 xs.length=n*size/\(0<n->∃b off,A=some ⟨b,off,none⟩/\b<w.heap.size/\∀j u,xs[j]?=some u->w.cell? ⟨b,off+j,none⟩=some u)
section
variable {w w':World} {size n:Nat} {A:Option Addr} {xs:List Value}
theorem Rd.nil (w:World)(size:Nat)(A:Option Addr):Rd w size A 0 []:=⟨by simp,λh=>absurd h (by omega)⟩
theorem Rd.below (h:Rd w size A n xs)(hb:Below w.heap.size w w'):Rd w' size A n xs:=
 ⟨h.1,λhn=>by
  obtain⟨b,off,e,hlt,hc⟩:=h.2 hn;have hs:=hb.size;exact⟨b,off,e,by omega,λj u hu=>(hb.cell (p:=⟨b,off+j,none⟩) hlt).trans (hc j u hu)⟩⟩
theorem Rd.drew (h:Rd w size A n xs):Rd w.drew size A n xs:=h
theorem Rd.alloc (h:Rd w size A n xs)(o:Obj):Rd (w.alloc o) size A n xs:=h.below ((Below.refl _ _).alloc (Nat.le_refl _) o)
theorem Rd.uJ {B:Nat}{e:TypeId}{v:Value}(h:w.ownsRow B e size v n xs):∃A c,v= .slice A n c/\Rd w size A n xs:=by
 have hl:=h.1;rcases h.2 with⟨rfl,rfl⟩|⟨g,cap,cur,rfl,hb,hg,hn,hm,hs,ht⟩
 ·exact⟨none,0,rfl,hl,λh=>absurd h (by omega)⟩
 refine⟨_,cap,rfl,hl,λ_=>⟨g,0,rfl,(Array.getElem?_eq_some_iff.1 hg).1,λj u hu=>?_⟩⟩;have:=h.cells (g:=g) rfl j u hu;have hadd:(⟨g,0,none⟩:Addr).add j=⟨g,0+j,none⟩:=by unfold Addr.add;split<;>simp_all
 rwa [hadd] at this
end
theorem boxed {w wr:World}{o:Obj}(h:Below (w.heap.size+1) (w.alloc o) wr):Below w.heap.size w wr:=((Below.refl _ _).alloc (Nat.le_refl _) o).trans (h.mono (by omega))
theorem own_below {w w':World}{B n:Nat}{e:TypeId}{size:Nat}{v:Value}{xs:List Value}(h:w.ownsRow B e size v n xs)(hb:Below w.heap.size w w'):w'.ownsRow B e size v n xs:=by
 refine⟨h.1,?_⟩;rcases h.2 with hn|⟨g,cap,cur,rfl,hB,hg,rest⟩
 ·exact .inl hn
 exact .inr ⟨g,cap,cur,rfl,hB,(hb.block g (Array.getElem?_eq_some_iff.1 hg).1).trans hg,rest⟩
theorem qV {w:World}{B n:Nat}{e:TypeId}{size:Nat}{v:Value}{xs:List Value}(h:w.ownsRow B e size v n xs):∃A c,v= .slice A n c:=by
 rcases h.2 with⟨rfl,rfl⟩|⟨g,cap,cur,rfl,_⟩
 ·exact⟨none,0,rfl⟩
 exact⟨_,cap,rfl⟩
theorem na (b off j:Nat):(⟨b,off,none⟩:Addr).add j=⟨b,off+j,none⟩:=by unfold Addr.add;split<;>simp_all
theorem qE {α:Type}{cells:α->List Value}{C:Nat}(hC:∀x,(cells x).length=C):∀(xs:List α)(i j:Nat),j<C->(xs.flatMap cells)[i*C+j]?=(xs[i]?).bind λx=>(cells x)[j]?:=by
 intro xs;induction xs with
 |nil=>intro i j _;simp
 |cons x xs ih=>
  intro i j hj;rw[List.flatMap_cons];cases i with
  |zero=>rw[Nat.zero_mul,Nat.zero_add,List.getElem?_append_left (by rw[hC];exact hj)];rfl
  |succ i=>
   rw[List.getElem?_append_right (by rw[hC,Nat.succ_mul];omega),hC,Nat.succ_mul,show i*C+C+j - C=i*C+j by omega,ih i j hj];rfl
theorem de {α:Type}{cells:α->List Value}{C:Nat}(hC:∀x,(cells x).length=C)(xs:List α):(xs.flatMap cells).length=xs.length*C:=by
 induction xs with
 |nil=>simp
 |cons x xs ih=>rw[List.flatMap_cons,List.length_append,ih,hC,List.length_cons,Nat.succ_mul];omega
theorem Rd.elem {α:Type}{cells:α->List Value}{C:Nat}(hC:∀x,(cells x).length=C)(hp:0<C){w:World}{A:Option Addr}{n:Nat}{xs:List α}(h:Rd w C A n (xs.flatMap cells)){i:Nat}(hi:i<xs.length):
 ∃b off,A=some ⟨b,off,none⟩/\b<w.heap.size/\∀j u,(cells xs[i])[j]?=some u->w.cell? ⟨b,off+(i*C+j),none⟩=some u:=by
 have hl:=h.1;rw[de hC] at hl;have hn:n=xs.length:=(Nat.eq_of_mul_eq_mul_right hp hl).symm;obtain⟨b,off,e,hlt,hc⟩:=h.2 (by omega);refine⟨b,off,e,hlt,λj u hu=>hc _ u ?_⟩;have hj:j<C:=by have:=(List.getElem?_eq_some_iff.1 hu).1;rwa [hC] at this
 rw[qE hC xs i j hj,List.getElem?_eq_getElem hi];exact hu
section
variable {H:Type} {enc:TypeId × Value->H} {P:Program} {w:World}
end
end
theorem pC {P:Program}{w:World}(base:Nat)(t ty e:TypeId)(i:TypeInfo)(size:Nat)(ht:P.underlying t=some (.slice e))(hi:P.info? e=some i)
 (v:Value) (n c:Nat) (xs:List Value) (hown:w.ownsRow base e size v n xs):
 (Builtin.append_ #[t,t] ty #[v,.slice none 0 c]).run P w= .ok v w:=by
 rcases hown.2 with⟨rfl,rfl⟩|⟨g,cap,cur,rfl,_,_,hnc,_⟩
 ·simp[Builtin.append_,run_underlying ht,sizeOf,typeInfo,hi,Builtin.lenOf,Builtin.firstCells]
 simp[Builtin.append_,run_underlying ht,sizeOf,typeInfo,hi,Builtin.lenOf,Builtin.firstCells,hnc,storeCells]
def gm (Pr:Nat->Prop)(w:World):Prop:=∀k,Pr k->k<w.heap.size
theorem gm.mono {Pr:Nat->Prop}{w w':World}(h:gm Pr w)(hs:w.heap.size<=w'.heap.size):gm Pr w':=λk hk=>Nat.lt_of_lt_of_le (h k hk) hs
structure Beside (Pr:Nat->Prop) (b:Nat) (w w':World):Prop where
 os:w'.os=w.os
 tape:w'.tape=w.tape
 output:w'.output=w.output
 size:w.heap.size<=w'.heap.size
 block:∀k,Pr k->k≠b->w'.heap[k]?=w.heap[k]?
theorem Beside.refl (R:Nat->Prop)(b:Nat)(w:World):Beside R b w w:=⟨rfl,rfl,rfl,Nat.le_refl _,λ_ _ _=>rfl⟩
theorem Beside.trans {R:Nat->Prop}{b:Nat}{a c d:World}(h:Beside R b a c)(k:Beside R b c d):Beside R b a d:=
 ⟨k.os.trans h.os,k.tape.trans h.tape,k.output.trans h.output,Nat.le_trans h.size k.size,λi hi hb=>(k.block i hi hb).trans (h.block i hi hb)⟩
theorem Beside.below {R:Nat->Prop}{b B:Nat}{w w':World}(h:Beside R b w w')(hB:B<=b)(hb:∀k,k<B->R k):Below B w w':=⟨h.os,h.tape,h.output,h.size,λk hk=>h.block k (hb k hk) (by omega)⟩
theorem gu (R:Nat->Prop)(b:Nat)(j:Nat)(w:World)(v:Value):Beside R b w (w.setCell ⟨b,j,none⟩ v):=
 ⟨rfl,rfl,rfl,by simp[World.setCell],λk _ hk=>Below.heap_setCell _ _ _ _ hk⟩
theorem Beside.cell {R:Nat->Prop}{b:Nat}{w w':World}(h:Beside R b w w'){p:Addr}(hp:R p.block)(hb:p.block≠b):w'.cell? p=w.cell? p:=by
 simp only[World.cell?,h.block _ hp hb]
theorem Beside.Y {R:Nat->Prop}{b:Nat}{w w':World}(h:Beside R b w w'):Beside R b w w'.drew:=⟨h.os,h.tape,h.output,h.size,h.block⟩
theorem Beside.h {R:Nat->Prop}{b:Nat}{w w':World}(h:Beside R b w.drew w'):Beside R b w w':=⟨h.os,h.tape,h.output,h.size,h.block⟩
structure cC (Pr:Nat->Prop) (w w':World):Prop where
 os:w'.os=w.os
 tape:w'.tape=w.tape
 output:w'.output=w.output
 size:w.heap.size<=w'.heap.size
 block:∀k,Pr k->w'.heap[k]?=w.heap[k]?
theorem cC.refl (R:Nat->Prop)(w:World):cC R w w:=⟨rfl,rfl,rfl,Nat.le_refl _,λ_ _=>rfl⟩
theorem cC.trans {R:Nat->Prop}{a c d:World}(h:cC R a c)(k:cC R c d):cC R a d:=
 ⟨k.os.trans h.os,k.tape.trans h.tape,k.output.trans h.output,Nat.le_trans h.size k.size,λi hi=>(k.block i hi).trans (h.block i hi)⟩
theorem cC.Y {R:Nat->Prop}{w w':World}(h:cC R w w'):cC R w w'.drew:=⟨h.os,h.tape,h.output,h.size,h.block⟩
theorem cC.h {R:Nat->Prop}{w w':World}(h:cC R w.drew w'):cC R w w':=⟨h.os,h.tape,h.output,h.size,h.block⟩
theorem cC.wQ {R:Nat->Prop}{w w':World}(h:cC R w w')(ho:gm R w)(o:Obj):cC R w (w'.alloc o):=
 ⟨h.os,h.tape,h.output,by have:=h.size;simp;omega,λk hk=>(heap_alloc_old w' o (Nat.lt_of_lt_of_le (ho k hk) h.size)).trans (h.block k hk)⟩
theorem cC.beside {R:Nat->Prop}{b:Nat}{w w':World}(h:cC R w w'):Beside R b w w':=⟨h.os,h.tape,h.output,h.size,λk hk _=>h.block k hk⟩
theorem cC.below {R:Nat->Prop}{B:Nat}{w w':World}(h:cC R w w')(hb:∀k,k<B->R k):Below B w w':=⟨h.os,h.tape,h.output,h.size,λk hk=>h.block k (hb k hk)⟩
theorem cC.of {R:Nat->Prop}{w w':World}(h:Below w.heap.size w w')(ho:gm R w):cC R w w':=⟨h.os,h.tape,h.output,h.size,λk hk=>h.block k (ho k hk)⟩
theorem cC.mono {R R':Nat->Prop}{w w':World}(h:cC R w w')(hr:∀k,R' k->R k):cC R' w w':=⟨h.os,h.tape,h.output,h.size,λk hk=>h.block k (hr k hk)⟩
theorem Cu {R:Nat->Prop}{w w':World}(h:cC R w w'){p:Addr}(hp:¬R p.block)(n:Nat):cC R w (w'.freeze p n):=by
 unfold World.freeze;split
 ·exact h
 refine⟨h.os,h.tape,h.output,by simp;exact h.size,λk hk=>?_⟩;simp only[Array.getElem?_modify];rw[if_neg (λe:p.block=k=>hp (by rw[e];exact hk))];exact h.block k hk
def bP (Pr:Nat->Prop)(e:TypeId)(size:Nat)(v:Value)(n:Nat)(xs:List Value)(w:World):Prop:=
 w.ownsRow 0 e size v n xs/\∀g,v.ownBlock=some g->¬Pr g
theorem bP.nil (Pr:Nat->Prop)(w:World)(e:TypeId)(size:Nat):bP Pr e size (.slice none 0 0) 0 [] w:=⟨World.ownsRow_nil _ _ _ _,by intro g hg;simp[Value.ownBlock] at hg⟩
theorem bP.form {Pr:Nat->Prop}{e:TypeId}{size n:Nat}{v:Value}{xs:List Value}{w:World}(h:bP Pr e size v n xs w):∃A c,v= .slice A n c:=qV h.1
theorem fW {R:Nat->Prop}{b n size:Nat}{e:TypeId}{w:World}{v:Value}{xs:List Value}(h:bP R e size v n xs w)(hb:R b)(j:Nat)(u:Value):bP R e size v n xs (w.setCell ⟨b,j,none⟩ u):=by
 refine⟨h.1.kept (row:=some b) ⟨rfl,rfl,rfl,by simp[World.setCell],λk _ hk=>Below.heap_setCell _ _ _ _ (λe=>hk (by simp[e]))⟩ (Or.inr ?_),h.2⟩;intro e1;exact h.2 b e1 hb
theorem bP.later {R:Nat->Prop}{n size:Nat}{e:TypeId}{w w':World}{v:Value}{xs:List Value}(h:bP R e size v n xs w)(hg:∀g,v.ownBlock=some g->w'.heap[g]?=w.heap[g]?):bP R e size v n xs w':=by
 refine⟨⟨h.1.1,?_⟩,h.2⟩;rcases h.1.2 with hn|⟨g,cap,cur,rfl,hb,hgg,rest⟩
 ·exact .inl hn
 exact .inr ⟨g,cap,cur,rfl,hb,(hg g rfl).trans hgg,rest⟩
theorem bP.shift {R R':Nat->Prop}{n size:Nat}{e:TypeId}{w:World}{v:Value}{xs:List Value}(h:bP R e size v n xs w)(hr:∀g,v.ownBlock=some g->¬R' g):bP R' e size v n xs w:=⟨h.1,hr⟩
theorem bP.below {R:Nat->Prop}{n size:Nat}{e:TypeId}{w w':World}{v:Value}{xs:List Value}(h:bP R e size v n xs w)(hb:Below w.heap.size w w'):bP R e size v n xs w':=
 h.later λg hg=>hb.block g (h.1.lt g hg).2
theorem bP.rd {R:Nat->Prop}{n size:Nat}{e:TypeId}{w:World}{A:Option Addr}{c:Nat}{xs:List Value}(h:bP R e size (.slice A n c) n xs w):Rd w size A n xs:=by
 obtain⟨A',c',hv,hr⟩:=Rd.uJ h.1;obtain⟨rfl,rfl⟩:A=A'/\c=c':=by simpa using hv
 exact hr
theorem bP.made (R:Nat->Prop)(w:World)(e:TypeId)(size:Nat)(ho:gm R w):bP R e size (.slice (some ⟨w.heap.size,0,none⟩) 0 0) 0 [] (w.alloc (.cells #[] e)):=
 ⟨World.ownsRow_made _ #[] 0 (Nat.zero_le _) (by decide) (by simp),by
  intro g hg hR;have e1:w.heap.size=g:=by simpa [Value.ownBlock] using hg
  have:=ho g hR;omega⟩
theorem bb {P:Program}{ops:Array Oper}{rest:List Oper}{o:Oper}{a:Act}{Q:Exit->Act->World->Prop}(hgd:o.guard=none)(s x:Operand)(T:TypeId)
 (ho:o.op=Op.call {callee:=Callee.builtin Builtin.append,args:=#[s,x],argTypes:=#[T,T]})
 (e:TypeId) (z:Value) (size bytes:Nat) (ht:P.underlying T=some (.slice e)) (hinf:(P.info? e).map (λi=>(i.zero,i.size,i.bytes))=some (some z,size,bytes))
 (hzs:z.cells.size=size) (hsz:0<size) (Pr:Nat->Prop) (n:Nat) (xs:List Value) (v:Value) (w0:World) (us:Array Value) (hus:us.size=size) (h1:∀u∈us.toList,u.oneCell'=true)
 (hown:bP Pr e size v n xs w0) (hs:a.eval s=v) (hold:gm Pr w0) (hx:a.eval x= .slice (some ⟨w0.heap.size,0,none⟩) 1 1)
 (hn:n+1<=maxLen) (hb:(n+1)*bytes<=140737488355328)
 (h:∀v' w',bP Pr e size v' (n+1) (xs ++ us.toList) w'->cC Pr w0 w'->w0.grownBy w' v.ownBlock->(v'.ownBlock=v.ownBlock∨∃g,v'.ownBlock=some g/\w0.heap.size<=g)->wpList P ops Q rest (a.put o.dst v') w'):
 wpList P ops Q (o :: rest) a (w0.alloc (.cells us e)):=by
 obtain⟨i,hi,hz,hz1,hz2⟩:=info_parts hinf;have hg0:=World.grownBy_alloc w0 (.cells us e) v.ownBlock;refine wpList_append_own_at _ hgd s x T ho 0 e i z size bytes ht hi hz hz1 hz2 hzs hsz v n xs hs (hown.1.alloc _) ⟨w0.heap.size,0,none⟩ 1 1 us.toList hx (by simp[hus]) (nc w0 us e) h1 hn hb (Nat.zero_le _) ?_;intro v' w' hown' hgr hnil hat
 have hgr':w0.grownBy w' v.ownBlock:=hg0.trans hgr;have hat':v'.ownBlock=v.ownBlock∨∃g,v'.ownBlock=some g/\w0.heap.size<=g:=by
  rcases hat with h1|h1
  ·exact .inl h1
  exact .inr ⟨_,h1,by simp⟩
 refine h v' w' ⟨hown',λg hg hR=>?_⟩ ⟨hgr'.os,hgr'.tape,hgr'.output,hgr'.size,λk hk=>hgr'.block k (hold k hk) (λe1=>hown.2 k e1.symm hk)⟩ hgr' hat';rcases hat' with h1|⟨g',h1,h2⟩
 ·exact hown.2 g (h1.symm.trans hg) hR
 rw[h1] at hg;obtain rfl:g'=g:=by simpa using hg
 have:=hold _ hR;omega
theorem tS {P:Program}(T ty e:TypeId)(z:Value)(size bytes:Nat)(ht:P.underlying T=some (.slice e))(hinf:(P.info? e).map (λi=>(i.zero,i.size,i.bytes))=some (some z,size,bytes))
 (hzs:z.cells.size=size) (hsz:0<size) (Pr:Nat->Prop) (n:Nat) (xs:List Value) (v:Value) (w0:World)
 (hown:bP Pr e size v n xs w0) (hold:gm Pr w0)
 (A:Option Addr) (m c:Nat) (news:List Value) (hrd:Rd w0 size A m news) (h1:∀u∈news,u.oneCell'=true)
 (hn:n+m<=maxLen) (hb:(n+m)*bytes<=140737488355328):
 ∃v' w',(Builtin.append_ #[T,T] ty #[v,.slice A m c]).run P w0= .ok v' w'/\bP Pr e size v' (n+m) (xs ++ news) w'/\cC Pr w0 w'/\w0.grownBy w' v.ownBlock/\(v'.ownBlock=v.ownBlock∨∃g,v'.ownBlock=some g/\w0.heap.size<=g):=by
 obtain⟨i,hi,hz,hz1,hz2⟩:=info_parts hinf;have fin:∀v' w',w'.ownsRow 0 e size v' (n+m) (xs ++ news)->w0.grownBy w' v.ownBlock->(v'.ownBlock=v.ownBlock∨∃g,v'.ownBlock=some g/\w0.heap.size<=g)->bP Pr e size v' (n+m) (xs ++ news) w'/\cC Pr w0 w':=by
  intro v' w' hown' hgr' hat';refine⟨⟨hown',λg hg hR=>?_⟩,⟨hgr'.os,hgr'.tape,hgr'.output,hgr'.size,λk hk=>hgr'.block k (hold k hk) (λe1=>hown.2 k e1.symm hk)⟩⟩;rcases hat' with h1|⟨g',h1,h2⟩
  ·exact hown.2 g (h1.symm.trans hg) hR
  rw[h1] at hg;obtain rfl:g'=g:=by simpa using hg
  have:=hold _ hR;omega
 have some_case:∀ad,(∀j u,news[j]?=some u->w0.cell? (ad.add j)=some u)->∃v' w',(Builtin.append_ #[T,T] ty #[v,.slice (some ad) m c]).run P w0= .ok v' w'/\bP Pr e size v' (n+m) (xs ++ news) w'/\cC Pr w0 w'/\w0.grownBy w' v.ownBlock/\(v'.ownBlock=v.ownBlock∨∃g,v'.ownBlock=some g/\w0.heap.size<=g):=by
  intro ad hnews;obtain⟨v',w',hr,hown',hgr,_,hat⟩:=run_append_own_at (P:=P) w0 0 T ty e i z size bytes ht hi hz hz1 hz2 hzs hsz v n xs hown.1 ad m c news hrd.1 hnews h1 hn hb (Nat.zero_le _);have hat':v'.ownBlock=v.ownBlock∨∃g,v'.ownBlock=some g/\w0.heap.size<=g:=by
   rcases hat with h1|h1
   ·exact .inl h1
   exact .inr ⟨_,h1,Nat.le_refl _⟩
  obtain⟨f1,f2⟩:=fin v' w' hown' hgr hat';exact⟨v',w',hr,f1,f2,hgr,hat'⟩
 by_cases hm:0<m
 ·obtain⟨b,off,hA,_,hc⟩:=hrd.2 hm;subst hA;exact some_case _ λj u hu=>by rw[na];exact hc j u hu
 obtain rfl:m=0:=by omega
 have hnil:news=[]:=List.eq_nil_of_length_eq_zero (by rw[hrd.1];simp);subst hnil
 match A with
 |some ad=>exact some_case ad (by simp)
 |none=>
  have hg0:w0.grownBy w0 v.ownBlock:=⟨rfl,rfl,rfl,Nat.le_refl _,λ_ _ _=>rfl⟩;obtain⟨f1,f2⟩:=fin v w0 (by simpa using hown.1) hg0 (.inl rfl);exact⟨v,w0,pC (P:=P) (w:=w0) 0 T ty e i size ht hi v n c xs hown.1,f1,f2,hg0,.inl rfl⟩
theorem oT {P:Program}{o:Oper}{a:Act}{K:Act->World->Prop}{Q:Exit->Act->World->Prop}(s x:Operand)(T:TypeId)
 (ho:o.op=Op.call {callee:=Callee.builtin Builtin.append,args:=#[s,x],argTypes:=#[T,T]})
 (e:TypeId) (z:Value) (size bytes:Nat) (ht:P.underlying T=some (.slice e)) (hinf:(P.info? e).map (λi=>(i.zero,i.size,i.bytes))=some (some z,size,bytes))
 (hzs:z.cells.size=size) (hsz:0<size) (Pr:Nat->Prop) (n:Nat) (xs:List Value) (v:Value) (w0:World)
 (hown:bP Pr e size v n xs w0) (hs:a.eval s=v) (hold:gm Pr w0)
 (A:Option Addr) (m c:Nat) (news:List Value) (hx:a.eval x= .slice A m c) (hrd:Rd w0 size A m news) (h1:∀u∈news,u.oneCell'=true)
 (hn:n+m<=maxLen) (hb:(n+m)*bytes<=140737488355328)
 (h:∀v' w',bP Pr e size v' (n+m) (xs ++ news) w'->cC Pr w0 w'->w0.grownBy w' v.ownBlock->(v'.ownBlock=v.ownBlock∨∃g,v'.ownBlock=some g/\w0.heap.size<=g)->K (a.put o.dst v') w'):o.wp P a w0 K Q:=by
 obtain⟨v',w',hr,h2,h3,h4,h5⟩:=tS (P:=P) T o.type e z size bytes ht hinf hzs hsz Pr n xs v w0 hown hold A m c news hrd h1 hn hb;unfold Oper.wp execOp;simp only[ho,resolve,invoke,builtin,Sem.run_bind,Sem.run_pure,Result.andThen_ok,List.map_toArray,List.map_cons,List.map_nil,hs,hx,hr];exact h v' w' h2 h3 h4 h5
theorem cX {P:Program}{ops:Array Oper}{rest:List Oper}{o:Oper}{a:Act}{Q:Exit->Act->World->Prop}(hgd:o.guard=none)(s x:Operand)(T:TypeId)
 (ho:o.op=Op.call {callee:=Callee.builtin Builtin.append,args:=#[s,x],argTypes:=#[T,T]})
 (e:TypeId) (z:Value) (size bytes:Nat) (ht:P.underlying T=some (.slice e)) (hinf:(P.info? e).map (λi=>(i.zero,i.size,i.bytes))=some (some z,size,bytes))
 (hzs:z.cells.size=size) (hsz:0<size) (Pr:Nat->Prop) (n:Nat) (xs:List Value) (v:Value) (w0:World)
 (hown:bP Pr e size v n xs w0) (hs:a.eval s=v) (hold:gm Pr w0)
 (A:Option Addr) (m c:Nat) (news:List Value) (hx:a.eval x= .slice A m c) (hrd:Rd w0 size A m news) (h1:∀u∈news,u.oneCell'=true)
 (hn:n+m<=maxLen) (hb:(n+m)*bytes<=140737488355328)
 (h:∀v' w',bP Pr e size v' (n+m) (xs ++ news) w'->cC Pr w0 w'->w0.grownBy w' v.ownBlock->(v'.ownBlock=v.ownBlock∨∃g,v'.ownBlock=some g/\w0.heap.size<=g)->wpList P ops Q rest (a.put o.dst v') w'):
 wpList P ops Q (o :: rest) a w0:=
 wpList_plain hgd λ_ hK=>oT s x T ho e z size bytes ht hinf hzs hsz Pr n xs v w0 hown hs hold A m c news hx hrd h1 hn hb λv' w' a1 a2 a3 a4=>hK _ _ (h v' w' a1 a2 a3 a4)
theorem bN {P:Program}{ops:Array Oper}{o:Oper}{a:Act}{K:Act->World->Prop}{Q:Exit->Act->World->Prop}{E:Prop}(hgd:o.guard=none)(s x:Operand)(T:TypeId)
 (ho:o.op=Op.call {callee:=Callee.builtin Builtin.append,args:=#[s,x],argTypes:=#[T,T]})
 (e:TypeId) (z:Value) (size bytes:Nat) (ht:P.underlying T=some (.slice e)) (hinf:(P.info? e).map (λi=>(i.zero,i.size,i.bytes))=some (some z,size,bytes))
 (hzs:z.cells.size=size) (hsz:0<size) (Pr:Nat->Prop) (n:Nat) (xs:List Value) (v:Value) (w0:World)
 (hown:bP Pr e size v n xs w0) (hs:a.eval s=v) (hold:gm Pr w0)
 (A:Option Addr) (m c:Nat) (news:List Value) (hx:a.eval x= .slice A m c) (hrd:Rd w0 size A m news) (h1:∀u∈news,u.oneCell'=true)
 (hn:n+m<=maxLen) (hb:(n+m)*bytes<=140737488355328)
 (h:∀v' w',bP Pr e size v' (n+m) (xs ++ news) w'->cC Pr w0 w'->w0.grownBy w' v.ownBlock->(v'.ownBlock=v.ownBlock∨∃g,v'.ownBlock=some g/\w0.heap.size<=g)->K (a.put o.dst v') w'):
 if Region.wanted o (yielded ops a.tmps)=true then Oper.wp P o a w0 K Q else E:=by
 have hw:Region.wanted o (yielded ops a.tmps)=true:=by simp[Region.wanted,hgd]
 rw[if_pos hw];exact oT s x T ho e z size bytes ht hinf hzs hsz Pr n xs v w0 hown hs hold A m c news hx hrd h1 hn hb h
structure Fs (F F':Nat->Prop) (w w':World):Prop where
 os:w'.os=w.os
 tape:w'.tape=w.tape
 output:w'.output=w.output
 size:w.heap.size<=w'.heap.size
 block:∀k,k<w.heap.size->¬F k->w'.heap[k]?=w.heap[k]?
 new:∀k,F' k->F k∨w.heap.size<=k
theorem Fs.refl (F:Nat->Prop)(w:World):Fs F F w w:=⟨rfl,rfl,rfl,Nat.le_refl _,λ_ _ _=>rfl,λ_ h=>.inl h⟩
theorem Fs.trans {F F' F'':Nat->Prop}{a b c:World}(h:Fs F F' a b)(k:Fs F' F'' b c):Fs F F'' a c:=
 ⟨k.os.trans h.os,k.tape.trans h.tape,k.output.trans h.output,Nat.le_trans h.size k.size,λi hi hF=>(k.block i (Nat.lt_of_lt_of_le hi h.size) (λe=>by
  rcases h.new i e with h1|h1
  ·exact hF h1
  ·omega)).trans (h.block i hi hF),λi hi=>by
  rcases k.new i hi with h1|h1
  ·exact h.new i h1
  exact .inr (Nat.le_trans h.size h1)⟩
theorem Fs.below {F F':Nat->Prop}{B:Nat}{w w':World}(h:Fs F F' w w')(hB:B<=w.heap.size)(hF:∀k,F k->B<=k):Below B w w':=
 ⟨h.os,h.tape,h.output,h.size,λk hk=>h.block k (by omega) (λe=>by have:=hF k e;omega)⟩
theorem Fs.of {F:Nat->Prop}{w w':World}(h:Below w.heap.size w w'):Fs F F w w':=⟨h.os,h.tape,h.output,h.size,λk hk _=>h.block k hk,λ_ h=>.inl h⟩
theorem Fs.other {F F' G:Nat->Prop}{w w':World}(h:Fs F F' w w')(hd:∀k,F k->¬G k)(hG:∀k,G k->k<w.heap.size):∀k,G k->w'.heap[k]?=w.heap[k]?:=
 λk hk=>h.block k (hG k hk) (λe=>hd k e hk)
theorem Fs.apart {F F' G:Nat->Prop}{w w':World}(h:Fs F F' w w')(hd:∀k,F k->¬G k)(hG:∀k,G k->k<w.heap.size):∀k,F' k->¬G k:=λk hk hg=>by
 rcases h.new k hk with h1|h1
 ·exact hd k h1 hg
 have:=hG k hg;omega
abbrev CN (l:Nat):Fence:=Fence.wide.inRound l
section
variable {P:Program} {ops:Array Oper} {Q:Exit->Act->World->Prop} {l n:Nat}
theorem VQ {o:Oper}{a:Act}{w:World}{K:Act->World->Prop}(hd:∀c,o.op≠.defer c)(h:o.wp P a w K Q):o.wpIn (CN l) n P a w K Q:=by
 refine⟨λ_ _=>trivial,?_⟩;rw[Oper.semAt_eq _ _ _ hd];unfold Oper.wp at h;generalize (execOp a.eval o).run P w=r at*;cases r with
 |ok x w'=>
  cases x<;>simp only[Oper.upon,Oper.uponIn] at h ⊢
  case value v=>exact h
  case skip=>exact h
  case defer d=>exact h
  case enter f args=>exact⟨λe=>(by cases e),CallsIn.inRound l (callsIn_wide.2 h)⟩
  case row row args=>
   refine⟨λe=>(by cases e),λc cs _=>?_⟩;obtain⟨v,w'',hr,hs⟩:=h c cs;exact⟨v,w'',hr,stepsIn_wide.2 hs⟩
 |halt x w'=>cases x<;>simp only[Oper.upon,Oper.uponIn] at h ⊢ <;>exact h
def nJ (ops:List Oper):Prop:=∀o∈ops,∀c,o.op≠.defer c
theorem TD (hl:¬LetsOut Q)(hd:nJ ops.toList){i:Nat}{K:Act->World->Prop}{a:Act}{w:World}(h:wpOp P ops Q i K a w):wpOpIn (CN l) n P ops Q i K a w:=by
 unfold wpOp at h;unfold wpOpIn;split
 ·rename_i ho;simp only[ho] at h;exact h
 rename_i o ho;simp only[ho] at h;split
 ·rename_i hw;rw[if_pos hw] at h;rcases h with h|h
  ·exact VQ (hd o (Array.mem_toList_iff.2 (Array.mem_of_getElem? ho))) h
  exact absurd h.2 hl
 rename_i hw;rw[if_neg hw] at h;exact⟨λ_ _=>trivial,h⟩
theorem FD (hl:¬LetsOut Q)(hd:nJ ops.toList){md:Region.Mode}:∀(fuel:Nat)(listed:Array Bool)(a:Act)(w:World),wpAny P md ops Q fuel listed a w->wpAnyIn (CN l) n P md ops Q fuel listed a w
 |0,_,_,_,h=>h
 |fuel+1,_,_,_,h=>⟨h.1,λi hi=>wpOpIn_mono (λa' w' h'=>FD hl hd fuel _ a' w' h') (TD hl hd (h.2 i hi))⟩
theorem OG {id:Nat}{a:Act}{w:World}{S:World->Prop}(hm:P.follows .mixedOrders=true)(hl:¬LetsOut Q)(hd:nJ ops.toList)(hS:S w.drew)
 (h:S w.drew->wpAnyH P .any ops Q S ops.size (Array.replicate ops.size false) a w.drew):(Code.region id ops true).wpIn (CN l) n P Q a w:=
 wpIn_region_any hm (FD hl hd _ _ _ _ (wpAny_of_held _ _ _ _ (h hS)))
end
structure ND (F:Fence):Prop where
 fn:∀f,F.fn f
 depth:F.depth.isSome=true->False
 calls:∀{n:Nat}{P:Program}{f:FuncId}{args:Array Value}{w:World}{R:Ending->World->Prop},Calls P f args w R->CallsIn F n P f args w R
theorem Ae:ND Fence.wide:=⟨λ_=>trivial,λe=>(by cases e),λh=>callsIn_wide.2 h⟩
section
variable {F:Fence} {n:Nat} {P:Program} {ops:Array Oper} {md:Region.Mode} {w:World}
theorem QQ (hF:ND F){o:Oper}{a:Act}{K:Act->Prop}{K':Act->World->Prop}{Q':Exit->Act->World->Prop}(hd:∀c,o.op≠.defer c)(h:∀a,K a->K' a w)(hh:o.still P a w K):o.wpIn F n P a w K' Q':=by
 refine⟨λ_ _=>hF.fn _,?_⟩;rw[Oper.semAt_eq _ _ _ hd];unfold Oper.still at hh;generalize (execOp a.eval o).run P w=r at*;cases r with
 |ok nx w'=>
  cases nx<;>simp only[Oper.stillUpon] at hh<;>simp only[Oper.uponIn]
  case enter f args=>
   obtain⟨rfl,v,hc,hn⟩:=hh;exact⟨λe=>(hF.depth e).elim,(hF.calls hc).mono λe w'' ⟨he,hw⟩=>by subst he;subst hw;exact h _ hn⟩
  all_goals (obtain⟨rfl,h2⟩:=hh;exact h _ h2)
 |halt x w'=>simp only[Oper.stillUpon] at hh
theorem Tt (hF:ND F)(hd:nJ ops.toList){i:Nat}{a:Act}{K:Act->Prop}{K':Act->World->Prop}{Q':Exit->Act->World->Prop}(h:∀a,K a->K' a w)(hh:stOp P ops w i K a):wpOpIn F n P ops Q' i K' a w:=by
 unfold stOp at hh;unfold wpOpIn;split
 ·rename_i ho;simp only[ho] at hh;exact h _ hh
 rename_i o ho;simp only[ho] at hh;split
 ·rename_i hw;simp only[hw,if_true] at hh;exact QQ hF (hd o (Array.mem_toList_iff.2 (Array.mem_of_getElem? ho))) h hh
 rename_i hw;simp only[hw] at hh;exact⟨λ_ _=>hF.fn _,h _ hh⟩
theorem JI (hF:ND F)(hd:nJ ops.toList){m g:Nat}{L:Array Bool->Act->Prop}{Q':Exit->Act->World->Prop}(hL:∀listed a,L listed a->wpAnyIn F n P md ops Q' g listed a w):
 ∀(f:Nat)(listed:Array Bool)(a:Act),wpAnyL P md ops w m L f listed a->wpAnyIn F n P md ops Q' (f+g) listed a w
 |0,listed,a,h=>by rw[Nat.zero_add];exact hL _ _ h
 |f+1,listed,a,h=>by
  rw[show f+1+g=(f+g)+1 by omega];exact⟨λh0=>absurd h0 h.1,λi hi=>Tt hF hd (λa' h'=>JI hF hd hL f _ a' h') (h.2 i hi).2⟩
theorem QI {Q':Exit->Act->World->Prop}:∀(l:List Oper)(k:Nat)(listed:Array Bool)(a:Act)(w:World),(∀j,l[j]?=ops[k+j]?)->
 Region.seqB md ops l.length k listed=true->wpListIn F n P ops Q' l a w->wpAnyIn F n P md ops Q' l.length listed a w
 |[],_,_,_,_,_,hB,h=>⟨by simpa [Region.seqB] using hB,h⟩
 |o :: l,k,listed,a,w,hl,hB,h=>by
  have h0:ops[k]?=some o:=by simpa using (hl 0).symm
  simp only[List.length_cons,Region.seqB,Bool.and_eq_true,decide_eq_true_eq] at hB;refine⟨λh1=>(by rw[hB.1] at h1;cases h1),λi hi=>?_⟩;rw[hB.1] at hi;have hik:i=k:=by simpa using hi
  subst hik;have hw:wpOpIn F n P ops Q' i (wpListIn F n P ops Q' l) a w:=by unfold wpOpIn;simp only[h0];exact h
  exact wpOpIn_mono (λa' w' h'=>QI l (i+1) _ a' w' (λj=>by have:=hl (j+1);simpa [Nat.add_assoc,Nat.add_comm 1 j] using this) hB.2 h') hw
theorem mj (hF:ND F){id:Nat}{Q:Exit->Act->World->Prop}{a:Act}{w:World}{l:List Oper}(m:Nat)(hm:P.follows .mixedOrders=true)(hd:nJ l)(hB:Region.lexTailB .any l.toArray m=true)
 (h:wpStill P l.toArray w.drew (λa'=>wpListIn F n P l.toArray Q (l.drop m) a' w.drew) (l.take m) a):(Code.region id l.toArray true).wpIn F n P Q a w:=by
 simp only[Region.lexTailB,Bool.and_eq_true,decide_eq_true_eq] at hB;obtain⟨⟨⟨⟨hsel,hn⟩,hs⟩,hc⟩,hlex⟩:=hB;have hn':m<l.length:=by simpa using hn
 have htl:(l.take m).length=m:=by simp;omega
 have hdl:(l.drop m).length=l.toArray.size - m:=by simp
 have inv0:HeadInv .any l.toArray m (Array.replicate l.toArray.size false):=
  ⟨by simp,λj oj _ hl=>(by rw[getD_replicate_false] at hl;cases hl),λt _ ht=>getD_in (by simpa using ht) (getD_replicate_false _ _)⟩
 have H:=wpAnyL_lex (md:=.any) (g:=l.toArray.size - m) hsel hs hc hn (l.take m) 0 _ a (λj hj=>by
  have hj':j<m:=by rw[htl] at hj;exact hj
  simp[hj']) (by simpa using htl) inv0 (by rw[htl];exact hlex) h
 refine wpIn_region_any hm ?_;have:=JI (n:=n) (Q':=Q) (g:=l.toArray.size - m) hF hd (λlisted a' hL=>by
  have:=QI (F:=F) (n:=n) (P:=P) (md:=.any) (Q':=Q) (l.drop m) m listed a' {w with drawn:=w.drawn+1} (λj=>by simp[List.getElem?_drop]) (by rw[hdl];exact hL.1) hL.2
  rwa [hdl] at this) _ _ _ H
 rw[htl,show m+(l.toArray.size - m)=l.toArray.size by omega] at this;exact this
end
def PS (l:List Oper):Bool:=l.all λo=>match o.op with| .defer _=>false|_=>true
theorem pt {l:List Oper}(h:PS l=true):nJ l:=λo ho c e=>by
 have:=List.all_eq_true.1 h o ho;rw[e] at this;cases this
section
variable {P:Program} {ops:Array Oper} {Q:Exit->Act->World->Prop} {md:Region.Mode} {S:World->Prop} {n:Nat}
def fY (P:Program)(md:Region.Mode)(ops:Array Oper)(Q:Exit->Act->World->Prop)(S:World->Prop)(n:Nat)(L:Array Bool->Act->World->Prop):Nat->Array Bool->Act->World->Prop
 |0,listed,a,w=>L listed a w
 |f+1,listed,a,w=>
  Region.ready md ops listed≠[]/\∀i∈Region.ready md ops listed,i<n/\wpOp P ops Q i (λa' w'=>S w'/\fY P md ops Q S n L f (listed.setIfInBounds i true) a' w') a w
theorem uX {g:Nat}{L:Array Bool->Act->World->Prop}(hL:∀listed a w,L listed a w->wpAny P md ops Q g listed a w):
 ∀(f:Nat)(listed:Array Bool)(a:Act)(w:World),fY P md ops Q S n L f listed a w->wpAny P md ops Q (f+g) listed a w
 |0,listed,a,w,h=>by rw[Nat.zero_add];exact hL _ _ _ h
 |f+1,listed,a,w,h=>by
  rw[show f+1+g=(f+g)+1 by omega];exact⟨λh0=>absurd h0 h.1,λi hi=>wpOp_mono (λa' w' h'=>uX hL f _ a' w' h'.2) (h.2 i hi).2⟩
theorem zy {i:Nat}{oi:Oper}{v:Value}{L:Array Bool->Act->World->Prop}(hi:ops[i]?=some oi)(hsel:∀(j:Nat)(o:Oper) cs b,ops[j]?=some o->o.op≠.select cs b)
 (hs:Region.sinkB md ops n=true) (hc:Region.chainB md ops n=true) (hn:n<ops.size) (hin:i<n)
 (hdone:∀listed a w,L listed a w->∀j∈Region.ready md ops listed,n<=j) (hQ:∀c a w,Q (.panic c) (a.put oi.dst v) w->Q (.panic c) a w):
 ∀(f:Nat)(listed:Array Bool)(a:Act)(w:World),HeadInv md ops n listed->
  (∀j oj,ops[j]?=some oj->j≠i->listed.getD j true=false->(∀e∈oj.after,Region.binds md e=true->e.on≠i)->oi.apart ops oj=true)->
  i∈Region.ready md ops listed->YieldsIf P ops S oi v a->S w->
  fY P md ops Q S n L f (listed.setIfInBounds i true) (a.put oi.dst v) w->fY P md ops Q S n L (f+1) listed a w:=by
 intro f;induction f with
 |zero=>
  intro listed a w inv _ hr hy hS H;have hun:=(mem_ready.1 hr).1;refine⟨λh=>(by rw[h] at hr;cases hr),λj hj=>?_⟩;have hjn:j<n:=by
   rcases Nat.lt_or_ge j n with h|h
   ·exact h
   exact absurd hj (tail_waits hs hc hn inv _ i rfl hin hun j h)
  refine⟨hjn,?_⟩;by_cases hji:j=i
  ·subst hji;exact hy.wpOp hi hS ⟨hS,H⟩
  have:=hdone _ _ _ H j (ready_mono hj hji);omega
 |succ f ih=>
  intro listed a w inv hfree hr hy hS H;have hun:=(mem_ready.1 hr).1;refine⟨λh=>(by rw[h] at hr;cases hr),λj hj=>?_⟩;have hjn:j<n:=by
   rcases Nat.lt_or_ge j n with h|h
   ·exact h
   exact absurd hj (tail_waits hs hc hn inv _ i rfl hin hun j h)
  refine⟨hjn,?_⟩;by_cases hji:j=i
  ·subst hji;exact hy.wpOp hi hS ⟨hS,H⟩
  have h1:=(H.2 j (ready_mono hj hji)).2;obtain⟨hjun,oj,hoj,hall⟩:=mem_ready.1 hj;have hnot:∀e∈oj.after,Region.binds md e=true->e.on≠i:=λe he hb heq=>by
   have h1:=hall e he hb;rw[heq,getD_both hun] at h1;cases h1
  have h2:=wpOp_putIf hoj (hfree j oj hoj hji hjun hnot) (λcs b=>hsel i oi cs b hi) (λcs b=>hsel j oj cs b hoj) hQ hy h1;have hfree':∀k ok,ops[k]?=some ok->k≠i->(listed.setIfInBounds j true).getD k true=false->
   (∀e∈ok.after,Region.binds md e=true->e.on≠i)->oi.apart ops ok=true:=λk ok hk hki hun hno=>by
   refine hfree k ok hk hki ?_ hno;by_cases hjk:j=k
   ·subst hjk;exact hjun
   rw[getD_set_ne true hjk] at hun;exact hun
  refine wpOp_mono (λa' w' h3=>⟨h3.2.1,ih (listed.setIfInBounds j true) a' w' (inv.set hj hjn) hfree' (ready_mono hr (Ne.symm hji)) h3.1 h3.2.1 ?_⟩) h2;rw[Array.setIfInBounds_comm _ _ hji];exact h3.2.2
def Tail (P:Program)(md:Region.Mode)(ops:Array Oper)(Q:Exit->Act->World->Prop)(n:Nat)(listed:Array Bool)(a:Act)(w:World):Prop:=
 Region.seqB md ops (ops.size - n) n listed=true/\wpList P ops Q (ops.toList.drop n) a w
def OY (md:Region.Mode)(ops:Array Oper)(n:Nat):Bool:=
 Region.noSelect ops && decide (n<ops.size) && Region.sinkB md ops n && Region.chainB md ops n
def SH (md:Region.Mode)(ops:Array Oper)(n:Nat)(listed:Array Bool):Bool:=
 decide (listed.size=ops.size) && ((List.range ops.size).all λj=>!(listed.getD j false) || (match ops[j]? with|some oj=>oj.after.all (λe=>!(Region.binds md e) || listed.getD e.on false)|none=>true)) &&
  ((List.range ops.size).all λt=>decide (t<n) || !(listed.getD t true))
theorem inv_of {listed:Array Bool}(h:SH md ops n listed=true):HeadInv md ops n listed:=by
 simp only[SH,Bool.and_eq_true,decide_eq_true_eq] at h;obtain⟨⟨h1,h2⟩,h3⟩:=h;refine⟨h1,λj oj hj hl e he hb=>?_,λt ht ht'=>?_⟩
 ·have:=List.all_eq_true.1 h2 j (List.mem_range.2 (Array.getElem?_eq_some_iff.1 hj).1);simp only[hl,Bool.not_true,Bool.false_or,hj] at this;have:=Array.all_eq_true'.1 this e he;simpa [hb] using this
 have:=List.all_eq_true.1 h3 t (List.mem_range.2 ht');simp only[Bool.or_eq_true,decide_eq_true_eq,Bool.not_eq_true'] at this;rcases this with h|h
 ·omega
 exact h
theorem head_take {i:Nat}{oi:Oper}{v:Value}{f:Nat}{listed:Array Bool}{a:Act}{w:World}(hi:ops[i]?=some oi)(hin:i<n)
 (hB:OY md ops n=true) (hI:SH md ops n listed=true) (hf:Region.free md ops listed i=true) (hr:(Region.ready md ops listed).contains i=true)
 (hQ:∀c a w,Q (.panic c) (a.put oi.dst v) w->Q (.panic c) a w) (hy:YieldsIf P ops S oi v a) (hS:S w)
 (h:fY P md ops Q S n (Tail P md ops Q n) f (listed.setIfInBounds i true) (a.put oi.dst v) w):fY P md ops Q S n (Tail P md ops Q n) (f+1) listed a w:=by
 simp only[OY,Bool.and_eq_true,decide_eq_true_eq] at hB;obtain⟨⟨⟨hsel,hn⟩,hs⟩,hc⟩:=hB;exact zy hi (Region.noSelect_spec hsel) hs hc hn hin (λlisted a w hL=>seqB_ready hL.1) hQ f listed a w (inv_of hI) (Region.free_spec hi hf) (by simpa using hr) hy hS h
def cx (P:Program)(md:Region.Mode)(ops:Array Oper)(Q:Exit->Act->World->Prop)(S:World->Prop)(n f:Nat)(listed:Array Bool)(a:Act)(w:World)(rs:List Nat):Prop:=
 ∀i∈rs,i<n/\wpOp P ops Q i (λa' w'=>S w'/\fY P md ops Q S n (Tail P md ops Q n) f (listed.setIfInBounds i true) a' w') a w
theorem cx.nil {f:Nat}{listed:Array Bool}{a:Act}{w:World}:cx P md ops Q S n f listed a w []:=λ_ h=>by cases h
theorem cx.cons {f:Nat}{listed:Array Bool}{a:Act}{w:World}{i:Nat}{o:Oper}{rs:List Nat}(ho:ops[i]?=some o)(hin:i<n)
 (h:∀K':Act->World->Prop,Shut (∀a w,S w->(S w->fY P md ops Q S n (Tail P md ops Q n) f (listed.setIfInBounds i true) a w)->K' a w)->if Region.wanted o (yielded ops a.tmps)=true then Oper.wp P o a w K' Q else K' (a.put o.dst undef) w)
 (hs:cx P md ops Q S n f listed a w rs):cx P md ops Q S n f listed a w (i :: rs):=λj hj=>by
 rcases List.mem_cons.1 hj with rfl|hj
 ·exact⟨hin,wpOp_step ho (λK' hK=>h K' (λa w hS hW=>hK a w ⟨hS,hW hS⟩))⟩
 exact hs j hj
theorem dK {rs:List Nat}{f:Nat}{listed:Array Bool}{a:Act}{w:World}(hr:Region.ready md ops listed=rs)(hne:rs≠[])
 (h:cx P md ops Q S n f listed a w rs):fY P md ops Q S n (Tail P md ops Q n) (f+1) listed a w:=⟨λe=>hne (hr.symm.trans e),λi hi=>h i (hr▸hi)⟩
theorem cy {listed:Array Bool}{a:Act}{w:World}(hB:Region.seqB md ops (ops.size - n) n listed=true)(h:wpList P ops Q (ops.toList.drop n) a w):fY P md ops Q S n (Tail P md ops Q n) 0 listed a w:=⟨hB,h⟩
theorem CQ {f:Nat}{listed:Array Bool}{a:Act}{w:World}(hB:f+(ops.size - n)=ops.size)(h:fY P md ops Q S n (Tail P md ops Q n) f listed a w):wpAny P md ops Q ops.size listed a w:=by
 have hlen:(ops.toList.drop n).length=ops.size - n:=by simp
 have:=uX (S:=S) (n:=n) (g:=ops.size - n) (L:=Tail P md ops Q n) (λlisted' a' w' hL=>by
  have:=wpAny_of_seq (P:=P) (md:=md) (Q':=Q) (ops.toList.drop n) n listed' a' w' (λj=>by simp[List.getElem?_drop]) (by rw[hlen];exact hL.1) hL.2
  rwa [hlen] at this) f listed a w h
 rw[hB] at this;exact this
theorem zc {l m id:Nat}{a:Act}{w:World}(hm:P.follows .mixedOrders=true)(hl:¬LetsOut Q)(hd:nJ ops.toList)(f:Nat)(hf:f+(ops.size - n)=ops.size)(hS:S w.drew)
 (h:S w.drew->fY P .any ops Q S n (Tail P .any ops Q n) f (Array.replicate ops.size false) a w.drew):(Code.region id ops true).wpIn (CN l) m P Q a w:=
 wpIn_region_any hm (FD hl hd _ _ _ _ (CQ hf (h hS)))
theorem cB {id:Nat}{a:Act}{w:World}(hm:P.follows .mixedOrders=true)(f:Nat)(hf:f+(ops.size - n)=ops.size)(hS:S w.drew)
 (h:S w.drew->fY P .any ops Q S n (Tail P .any ops Q n) f (Array.replicate ops.size false) a w.drew):(Code.region id ops true).wp P Q a w:=
 wp_region_any hm (CQ hf (h hS))
def WO (md:Region.Mode)(ops:Array Oper)(listed:Array Bool)(i:Nat):Bool:=Region.noSelect ops && Region.free md ops listed i && (Region.ready md ops listed).contains i
theorem tk (i:Nat){oi:Oper}{v:Value}{fuel:Nat}{listed:Array Bool}{a:Act}{w:World}(hS:S w)
 (hi:ops[i]?=some oi:=by simp only[List.getElem?_toArray,List.getElem?_cons_succ,List.getElem?_cons_zero];rfl) (hB:WO md ops listed i=true:=by kernel_rfl) (hQ:∀c a w,Q (.panic c) (a.put oi.dst v) w->Q (.panic c) a w:=by exact λ_ _ _ h=>h)
 (hw:Region.wanted oi (yielded ops a.tmps)=true:=by rfl) (hy:∀w,S w->(execOp a.eval oi).run P w= .ok (.value v) w)
 (h:wpAnyH P md ops Q S fuel (listed.setIfInBounds i true) (a.put oi.dst v) w):wpAnyH P md ops Q S (fuel+1) listed a w:=by
 simp only[WO,Bool.and_eq_true] at hB;exact wpAnyH_take hi hB.1.1 hB.1.2 hB.2 hQ (.inl ⟨hw,hy⟩) hS h
theorem Xm (i:Nat){o:Oper}{fuel:Nat}{listed:Array Bool}{a:Act}{w:World}(hr:Region.ready md ops listed=[i]:=by kernel_rfl)(ho:ops[i]?=some o:=by simp only[List.getElem?_toArray,List.getElem?_cons_succ,List.getElem?_cons_zero];rfl)
 (h:∀K':Act->World->Prop,Shut (∀a w,S w->(S w->wpAnyH P md ops Q S fuel (listed.setIfInBounds i true) a w)->K' a w)->if Region.wanted o (yielded ops a.tmps)=true then Oper.wp P o a w K' Q else K' (a.put o.dst undef) w):wpAnyH P md ops Q S (fuel+1) listed a w:=
 wpAnyH_ready hr (by simp) (AllReadyH.cons ho h AllReadyH.nil)
def UF (md:Region.Mode)(ops:Array Oper)(n:Nat)(listed:Array Bool)(i:Nat):Bool:=decide (i<n) && OY md ops n && SH md ops n listed && Region.free md ops listed i && (Region.ready md ops listed).contains i
theorem htk (i:Nat){oi:Oper}{v:Value}{f:Nat}{listed:Array Bool}{a:Act}{w:World}(hS:S w)
 (hi:ops[i]?=some oi:=by simp only[List.getElem?_toArray,List.getElem?_cons_succ,List.getElem?_cons_zero];rfl) (hB:UF md ops n listed i=true:=by kernel_rfl) (hQ:∀c a w,Q (.panic c) (a.put oi.dst v) w->Q (.panic c) a w:=by exact λ_ _ _ h=>h)
 (hw:Region.wanted oi (yielded ops a.tmps)=true:=by rfl) (hy:∀w,S w->(execOp a.eval oi).run P w= .ok (.value v) w)
 (h:fY P md ops Q S n (Tail P md ops Q n) f (listed.setIfInBounds i true) (a.put oi.dst v) w):fY P md ops Q S n (Tail P md ops Q n) (f+1) listed a w:=by
 simp only[UF,Bool.and_eq_true,decide_eq_true_eq] at hB;obtain⟨⟨⟨⟨h1,h2⟩,h3⟩,h4⟩,h5⟩:=hB;exact head_take hi h1 h2 h3 h4 h5 hQ (.inl ⟨hw,hy⟩) hS h
theorem Wz (i:Nat){o:Oper}{f:Nat}{listed:Array Bool}{a:Act}{w:World}(hr:Region.ready md ops listed=[i]:=by kernel_rfl)(hin:i<n:=by decide)(ho:ops[i]?=some o:=by simp only[List.getElem?_toArray,List.getElem?_cons_succ,List.getElem?_cons_zero];rfl)
 (h:∀K':Act->World->Prop,Shut (∀a w,S w->(S w->fY P md ops Q S n (Tail P md ops Q n) f (listed.setIfInBounds i true) a w)->K' a w)->if Region.wanted o (yielded ops a.tmps)=true then Oper.wp P o a w K' Q else K' (a.put o.dst undef) w):
 fY P md ops Q S n (Tail P md ops Q n) (f+1) listed a w:=
 dK hr (by simp) (cx.cons ho hin h cx.nil)
end
theorem fX {fn:Func}{p:Tmp}{t:TypeId}(h:fn.results= #[.cell p t])(tmps:Array Value)(P:Program)(w:World):
 (results fn tmps).run P w=((asAddr (tmps.getD p undef)).run P w).andThen λa w₁=>(loadVar t a).run P w₁:=by
 simp only[results,h];simp[Sem.run_bind,Result.andThen]
theorem Jo {p:Prop}(h:p:=by omega):p:=h
theorem Jk {p:Prop}(h:p:=by kernel_rfl):p:=h
theorem Jr {p:Prop}(h:p:=by rfl):p:=h
theorem Js {p:Prop}(h:p:=by simp):p:=h
theorem Jd {p:Prop}(h:p:=by decide):p:=h
theorem Jg {p:Prop}(h:p:=by(simp only[List.getElem?_toArray,List.getElem?_cons_succ,List.getElem?_cons_zero];rfl)):p:=h
structure Jq (p:Prop):Prop where
 o:p
theorem Jh {p:Prop}(h:p):Jq p:=⟨h⟩
theorem Jc {α:Type}{a b:α}(h:a=b:=by kernel_rfl):some a=some b:=congrArg some h
theorem Jm {p:Prop}(h:p:=by unfold maxLen;omega):p:=h
theorem Jw {q p:Prop}(x:q)(h:q->p:=by intro _;omega):p:=h x
theorem Jx {q r p:Prop}(x:q)(y:r)(h:q->r->p:=by intro _ _;omega):p:=h x y
theorem Jl {α:Type}{xs:Array α}{i:Nat}{a:α}(h:xs[i]?=some a):i<xs.size:=(Array.getElem?_eq_some_iff.1 h).1
abbrev JA:=Option Addr
abbrev JU:=List UInt8
abbrev JW:=World
abbrev Jn:Value:=.slice none 0 0
abbrev Ji (x:Int):Value:=.int .i64 x
abbrev Jp (b i:Nat):Addr:=⟨b,i,none⟩
abbrev Jv (b:Nat):Value:=.pointer (some ⟨b,0,none⟩)
theorem Ja {a b:Prop}(h:a)(k:b):a/\b:=⟨h,k⟩
theorem Je {α:Type}(a:α):∃b,a=b:=⟨a,rfl⟩
theorem Jt (p:Prop)[Decidable p](h:p:=by omega):decide p=true:=decide_eq_true h
theorem Jf (p:Prop)[Decidable p](h:¬p:=by omega):decide p=false:=decide_eq_false h
theorem JY {α:Type}:(∀(l:List α)(i:Nat)(a:α),l.toArray.setIfInBounds i a=(l.set i a).toArray)/\(∀(a b:α)(l:List α),(a :: l).set 0 b=b :: l)/\(∀(a b:α)(l:List α)(i:Nat),(a :: l).set (i+1) b=a :: l.set i b):=⟨λ_ _ _=>by simp,λ_ _ _=>rfl,λ_ _ _ _=>rfl⟩
abbrev JC:=Calls Tryz.prog
abbrev Jz (w:World):=Below w.heap.size w
section
variable {P:Program} {ops:Array Oper} {Q:Exit->Act->World->Prop} {md:Region.Mode} {S:World->Prop} {n:Nat}
theorem JK (i:Nat){oi:Oper}{v:Value}{fuel:Nat}{listed:Array Bool}{a a':Act}{w:World}(hS:S w:=by assumption)
 (hi:ops[i]?=some oi:=by simp only[List.getElem?_toArray,List.getElem?_cons_succ,List.getElem?_cons_zero];rfl) (hB:WO md ops listed i=true:=by kernel_rfl) (hQ:∀c a w,Q (.panic c) (a.put oi.dst v) w->Q (.panic c) a w:=by exact λ_ _ _ h=>h)
 (hw:Region.wanted oi (yielded ops a.tmps)=true:=by kernel_rfl) (hy:∀w,S w->(execOp a.eval oi).run P w= .ok (.value v) w:=by(intro w hSw;(try dsimp only at hSw);go_simp)<;>with_reducible rfl)
 (ha:a.put oi.dst v=a':=by first|(simp only[Act.put,JY];try rfl)|rfl) (h:wpAnyH P md ops Q S fuel (listed.setIfInBounds i true) a' w):wpAnyH P md ops Q S (fuel+1) listed a w:=tk i hS hi hB hQ hw hy (ha▸h)
theorem JH (i:Nat){oi:Oper}{v:Value}{f:Nat}{listed:Array Bool}{a a':Act}{w:World}(hS:S w:=by assumption)
 (hi:ops[i]?=some oi:=by simp only[List.getElem?_toArray,List.getElem?_cons_succ,List.getElem?_cons_zero];rfl) (hB:UF md ops n listed i=true:=by kernel_rfl) (hQ:∀c a w,Q (.panic c) (a.put oi.dst v) w->Q (.panic c) a w:=by exact λ_ _ _ h=>h)
 (hw:Region.wanted oi (yielded ops a.tmps)=true:=by kernel_rfl) (hy:∀w,S w->(execOp a.eval oi).run P w= .ok (.value v) w:=by(intro w hSw;(try dsimp only at hSw);go_simp)<;>with_reducible rfl)
 (ha:a.put oi.dst v=a':=by first|(simp only[Act.put,JY];try rfl)|rfl) (h:fY P md ops Q S n (Tail P md ops Q n) f (listed.setIfInBounds i true) a' w):fY P md ops Q S n (Tail P md ops Q n) (f+1) listed a w:=htk i hS hi hB hQ hw hy (ha▸h)
theorem JN (i:Nat){o:Oper}{fuel:Nat}{listed:Array Bool}{a:Act}{w:World}(hr:Region.ready md ops listed=[i]:=by kernel_rfl)(ho:ops[i]?=some o:=by simp only[List.getElem?_toArray,List.getElem?_cons_succ,List.getElem?_cons_zero];rfl)
 (h:∀K':Act->World->Prop,Shut (∀a w,S w->(S w->wpAnyH P md ops Q S fuel (listed.setIfInBounds i true) a w)->K' a w)->if Region.wanted o (yielded ops a.tmps)=true then Oper.wp P o a w K' Q else K' (a.put o.dst undef) w):wpAnyH P md ops Q S (fuel+1) listed a w:=Xm i hr ho h
theorem JM (i:Nat){o:Oper}{f:Nat}{listed:Array Bool}{a:Act}{w:World}(hr:Region.ready md ops listed=[i]:=by kernel_rfl)(hin:i<n:=by decide)(ho:ops[i]?=some o:=by simp only[List.getElem?_toArray,List.getElem?_cons_succ,List.getElem?_cons_zero];rfl)
 (h:∀K':Act->World->Prop,Shut (∀a w,S w->(S w->fY P md ops Q S n (Tail P md ops Q n) f (listed.setIfInBounds i true) a w)->K' a w)->if Region.wanted o (yielded ops a.tmps)=true then Oper.wp P o a w K' Q else K' (a.put o.dst undef) w):
 fY P md ops Q S n (Tail P md ops Q n) (f+1) listed a w:=Wz i hr hin ho h
end
structure Ug where
 name:JU
 val:JU
def dR (x:Ug):List Value:=[.string (S x.name),.string (S x.val)]
theorem vJ (x:Ug):(dR x).length=2:=rfl
theorem Uw:(prog.info? 115).map (λi=>(i.zero,i.size,i.bytes))=some (some (.agg #[.string ⟨#[]⟩,.string ⟨#[]⟩]),2,32):=Jk
theorem Sj {xs:List Ug}:∀u∈xs.flatMap dR,u.oneCell'=true:=λu D=>by
 obtain⟨E,-,y⟩:=List.mem_flatMap.1 D;simp only[dR,dh,di,or_false] at y;rcases y with rfl|rfl<;>rfl
theorem BV {w:JW}{A:JA}{n:Nat}{xs:List Ug}(h:Rd w 2 A n (xs.flatMap dR)){i:Nat}(hi:i<xs.length):
 ∃b y,A=some (Jp b y)/\b<w.heap.size/\w.cell? (Jp b (y+i*2))=some (.string (S xs[i].name))/\w.cell? (Jp b (y+i*2+1))=some (.string (S xs[i].val)):=by
 obtain⟨b,y,E,H,D⟩:=h.elem vJ Jd hi;exact⟨b,y,E,H,D 0 _ rfl,by have:=D 1 _ rfl;rwa [<-aV] at this⟩
end Go.Proofs.YtibmlemoghcbkaaGreatDoor
namespace Go.Proofs
open Go.Shelf
def Tryz.lays118_ren:Go.Shelf.Ren:=⟨fun|118=>297|n=>n,fun|21=>21|3=>3|4=>4|n=>n,fun|n=>n⟩
theorem Tryz.lays118:Go.Proofs.Lays.n118 Tryz.prog Tryz.lays118_ren:=by
 repeat' first|kernel_rfl|(intro _;kernel_rfl)|constructor
theorem Tryz.utf8_RuneLen (r:Int)(w:World):
 Calls Tryz.prog 297 #[.int .i32 r] w λe w'=>e= .returned (.int .i64 (Lib.runeLen r))/\w'=w:=Any.utf8_RuneLen Tryz.lays118 r w
def Tryz.lays125_ren:Go.Shelf.Ren:=⟨fun|125=>66|128=>147|129=>148|n=>n,fun|46=>92|3=>3|51=>279|53=>40|4=>4|5=>5|9=>9|n=>n,fun|n=>n⟩
theorem Tryz.lays125:Go.Proofs.Lays.n125 Tryz.prog Tryz.lays125_ren:=by
 repeat' first|kernel_rfl|(intro _;kernel_rfl)|constructor
theorem Tryz.bits_Len (x:Int)(w:World)(y:0<=x)(h1:x<=18446744073709551615):
 Calls Tryz.prog 66 #[.int .u64 x] w λe w'=>e= .returned (.int .i64 (iu x.toNat))/\w'=w:=Any.bits_Len Tryz.lays125 x w y h1
def Tryz.lays122_ren:Go.Shelf.Ren:=⟨fun|122=>26|215=>67|n=>n,fun|3=>3|4=>4|n=>n,fun|n=>n⟩
theorem Tryz.lays122:Go.Proofs.Lays.n122 Tryz.prog Tryz.lays122_ren:=by
 repeat' first|kernel_rfl|(intro _;kernel_rfl)|constructor
open Go.RowKit in
theorem Tryz.cmp_Compare_int (x y:Int)(w:World):
 Calls Tryz.prog 26 #[.int .i64 x,.int .i64 y] w λe w'=>e= .returned (.int .i64 (bK x y))/\w'=w:=Any.cmp_Compare_int Tryz.lays122 x y w
def Tryz.lays189_ren:Go.Shelf.Ren:=⟨fun|189=>81|125=>66|257=>168|128=>147|129=>148|294=>255|295=>256|296=>257|297=>258|298=>259|299=>260|216=>228|300=>261|301=>262|328=>327|329=>237|330=>238|331=>328|332=>329|215=>67|343=>377|n=>n,fun|28=>23|3=>3|46=>92|0=>0|51=>279|53=>40|4=>4|183=>273|182=>272|131=>123|5=>5|9=>9|218=>366|222=>370|228=>439|229=>440|n=>n,fun|n=>n⟩
theorem Tryz.lays189:Go.Proofs.Lays.n189 Tryz.prog Tryz.lays189_ren:=by
 repeat' first|kernel_rfl|(intro _;kernel_rfl)|constructor
open Go.Sort Go.RowKit in
theorem Tryz.slices_Sort_int (blk D cap:Nat)(y:List Int)(w:World)(E:Holds (cY .i64) w blk D y.toArray)(H:blk<w.heap.size)(J:y.length<4611686018427387904):
 Calls Tryz.prog 81 #[.slice (some ⟨blk,D,none⟩) y.length cap] w λe w'=>
  e= .returned (.tuple #[])/\∃n K,w'=grow (putRow (cY .i64) (Sort.ahead w n) blk D (y.mergeSort λx M=>decide (x<=M)).toArray) K:=Any.slices_Sort_int Tryz.lays189 blk D cap y w E H J
def Tryz.lays190_ren:Go.Shelf.Ren:=⟨fun|190=>247|125=>66|258=>325|128=>147|129=>148|302=>368|303=>369|304=>370|305=>371|306=>372|307=>373|308=>374|309=>375|310=>376|333=>406|329=>237|330=>238|334=>407|335=>408|336=>409|344=>425|n=>n,fun|31=>163|9=>9|3=>3|46=>92|0=>0|51=>279|53=>40|4=>4|183=>273|182=>272|131=>123|5=>5|218=>366|222=>370|228=>439|229=>440|n=>n,fun|n=>n⟩
theorem Tryz.lays190:Go.Proofs.Lays.n190 Tryz.prog Tryz.lays190_ren:=by
 repeat' first|kernel_rfl|(intro _;kernel_rfl)|constructor
open Go.Sort Go.RowKit in
theorem Tryz.slices_Sort_string (blk D cap:Nat)(y:List (List UInt8))(w:World)(E:Holds encStr w blk D y.toArray)(H:blk<w.heap.size)(J:y.length<4611686018427387904):
 Calls Tryz.prog 247 #[.slice (some ⟨blk,D,none⟩) y.length cap] w λe w'=>
  e= .returned (.tuple #[])/\∃n K,w'=grow (putRow encStr (Sort.ahead w n) blk D (y.mergeSort λx M=>decide (x<=M)).toArray) K:=Any.slices_Sort_string Tryz.lays190 blk D cap y w E H J
def Tryz.laysNm225_ren:Go.Shelf.Ren:=⟨fun|25=>120|31=>228|32=>229|37=>67|n=>n,fun|22=>23|3=>3|4=>4|40=>92|0=>0|n=>n,fun|n=>n⟩
theorem Tryz.laysNm225:Go.Proofs.Lays2.n25 Tryz.prog Tryz.laysNm225_ren:=by
 repeat' first|kernel_rfl|(intro _;kernel_rfl)|constructor
open Go.RowKit Go.Lib in
theorem Tryz.slices_BinarySearch_int (b D n c:Nat)(y:List Int)(x:Int)(w:World)(J:n<=y.length)(E:n<4611686018427387904)(hc:∀j,j<y.length->w.cell? ⟨b,D+j,none⟩=some (.int .i64 (y.getD j 0)))(H:(y.take n).Pairwise (·<=·)):
 Calls Tryz.prog 120 #[.slice (some ⟨b,D,none⟩) n c,.int .i64 x] w λe w'=>e= .returned (.tuple #[.int .i64 ((y.take n).countP (·<x):Nat),.bool ((y.take n).contains x)])/\∃q,w'=w.drewN q:=Any.slices_BinarySearch_int Tryz.laysNm225 b D n c y x w J E hc H
open Go.RowKit Go.Sort in
theorem Tryz.slices_Sort_string_none (p:Option Addr)(cap:Nat)(w:World):
 Calls Tryz.prog 247 #[.slice p 0 cap] w λe w'=>e= .returned (.tuple #[])/\w'=w:=Any.slices_Sort_string_none Tryz.lays190 p cap w
open Go.RowKit Go.Sort in
theorem Tryz.slices_Sort_int_none (p:Option Addr)(cap:Nat)(w:World):
 Calls Tryz.prog 81 #[.slice p 0 cap] w λe w'=>e= .returned (.tuple #[])/\w'=w:=Any.slices_Sort_int_none Tryz.lays189 p cap w
end Go.Proofs
namespace Go.Proofs.YtibmlemoghcbkaaGreatDoor
open Go Go.RowKit
open Tryz
theorem PP (c:UInt8)(h1:97<=c.toNat)(h2:c.toNat<=122)(w:JW):JC 204 #[.string (S [c])] w λe w'=>e= .returned (.bool true)/\Jz w w':=by
 obtain⟨D,J⟩:∃D:Nat,c.toNat=D:=⟨_,rfl⟩;rw[J] at h1 h2;have Y:=Jt ((97:Int)<=(D:Int));have Z:=Jt ((D:Int)<=122);have X:(S [c]).toList.isEmpty=false:=by rw[dY,cW];rfl
 have E:(S [c]).size=1:=bH [c];obtain⟨y,U,T,K⟩:∃y,w.iter (S [c]) 0=y/\Jz w y/\y.heap[w.heap.size]?=some (.stringIter (S [c]) 0):=⟨_,rfl,Below.one _ _,heap_alloc_new _ _⟩;have H:((S [c])[0]'(by rw[E];omega))=c:=rfl;have W:=Lib.run_next_ascii_at (P:=prog) y w.heap.size (S [c]) 0 0 K (by rw[E];omega) (by rw[H];omega);rw[H,J,bB] at W;have V:=Lib.iterAt_heap y w.heap.size (S [c]) 0 1 K;have aa:=Lib.run_next_end_at (P:=prog) (y.iterAt w.heap.size (S [c]) 1) w.heap.size (S [c]) 1 0 V (by rw[E];omega);have Q:=Lib.below_iterAt T (ac _) (S [c]) 1;have O:=Jh Q;have M:=Jh U;go_enter Tryz.func204,Tryz.ntmps204;go_wp2_with fail;try simp only[M.o]
 refine wp_loop_rounds 2 ?_;rw[rounds_succ];go_wp2_with fail;rw[rounds_succ];go_wp2_with fail;go_ret;exact⟨rfl,O.o⟩
theorem Nu (c:UInt8)(h1:97<=c.toNat)(h2:c.toNat<=122)(w:JW):JC 205 #[.string (S [c])] w λe w'=>e= .returned (.bool true)/\Jz w w':=by
 obtain⟨D,J⟩:∃D:Nat,c.toNat=D:=⟨_,rfl⟩;rw[J] at h1 h2;have T:=λy=>Tryz.utf8_RuneLen (D:Int) y;have aa:Lib.runeLen (D:Int)=1:=by unfold Lib.runeLen;(repeat' split)<;>omega
 have M:=Jh T;have Z:(S [c]).toList.isEmpty=false:=by rw[dY,cW];rfl
 have E:(S [c]).size=1:=bH [c];obtain⟨y,W,V,K⟩:∃y,w.iter (S [c]) 0=y/\Jz w y/\y.heap[w.heap.size]?=some (.stringIter (S [c]) 0):=⟨_,rfl,Below.one _ _,heap_alloc_new _ _⟩;have H:((S [c])[0]'(by rw[E];omega))=c:=rfl;have Y:=Lib.run_next_ascii_at (P:=prog) y w.heap.size (S [c]) 0 0 K (by rw[E];omega) (by rw[H];omega);rw[H,J,bB] at Y;have X:=Lib.iterAt_heap y w.heap.size (S [c]) 0 1 K;have ab:=Lib.run_next_end_at (P:=prog) (y.iterAt w.heap.size (S [c]) 1) w.heap.size (S [c]) 1 0 X (by rw[E];omega);have U:=Lib.below_iterAt V (ac _) (S [c]) 1;have Q:=Jh U;have O:=Jh W;go_enter Tryz.func205,Tryz.ntmps205;go_wp2_with fail;try simp only[O.o]
 refine wp_loop_rounds 2 ?_;rw[rounds_succ];go_wp2_with fail;refine(M.o _).mono ?_;rintro e w' ⟨rfl,rfl⟩;go_wp2_with fail;rw[rounds_succ];go_wp2_with fail;go_ret;exact⟨rfl,Q.o⟩
def kE (c:UInt8):Ug:=⟨[97],[c]⟩
theorem um (c:UInt8)(h1:97<=c.toNat)(h2:c.toNat<=122)(A:JA)(k:Nat)(w:JW)(hr:Rd w 2 A 1 (dR (kE c))):JC 106 #[.slice A 1 k] w λe w'=>e= .returned (Ji 0)/\Jz w w':=by
 obtain⟨Y,af,rfl,ad,V,W⟩:=BV (xs:=[kE c]) (n:=1) (by simpa using hr) (i:=0) Js;simp only[kE,bf,gG,dz] at V W;obtain⟨y,J,H,ae,D⟩:∃y,w.alloc (.cells #[.string (S [97]),.string (S [c])] 115)=y/\Jz w y/\y.heap.size=w.heap.size+1/\y.heap[w.heap.size]?=some (.cells #[.string (S [97]),.string (S [c])] 115 (0,0)):=
  ⟨_,rfl,Below.one _ _,Js,heap_alloc_new _ _⟩
 have O:=Jh J;have Q:=Jh H;have X:=Jh D;have K:=Jh (λE=>PP 97 Jd Jd E);have M:=Jh (λE=>Nu c h1 h2 E);have T:y.cell? (Jp w.heap.size 0)=some (.string (S [97])):=(aa D 0).trans rfl;have U:y.cell? (Jp w.heap.size 1)=some (.string (S [c])):=(aa D 1).trans rfl;have Z:(S [c]).toList.isEmpty=false:=by rw[dY,cW];rfl
 have ab:(S [97]).toList.isEmpty=false:=by rw[dY,cW];rfl
 have ac:Op.bytesLess (S [97]).toList []=false:=by rw[dY,cW];rfl
 clear J H D hr h1 h2;go_enter Tryz.func106,Tryz.ntmps106;go_wp2_with fail;refine wp_loop_rounds 2 ?_;rw[rounds_succ];go_wp2_with fail;try simp only[O.o]
 refine(K.o _).mono ?_;rintro e ai ⟨rfl,D⟩;have p0:=al D T;have J:=al D U;have E:=Jh (Q.o.then D);clear D;go_wp2_with fail;refine(M.o _).mono ?_;rintro e aj ⟨rfl,D⟩;have ag:=al D p0;have ah:=al D J;have H:=Jh (E.o.then D);clear D;go_wp2_with fail;rw[rounds_succ];go_wp2_with fail;go_ret;exact⟨rfl,H.o⟩
theorem IJ:∃j,prog.info? 228=some j/\j.size=2:=⟨_,rfl,rfl⟩
theorem xe (b:Nat)(w:JW)(D:w.cell? (Jp b 0)=some (Jv b)):
 JC 206 #[Jv b] w λe w'=>e= .returned (.tuple #[])/\w'=w:=by
 obtain⟨H,y,_⟩:=IJ;have E:=Lib.run_neq_ptr_same (P:=prog) w (Jp b 0) underlying226 y;go_enter Tryz.func206,Tryz.ntmps206;go_wp2;go_end0;exact⟨rfl,rfl⟩
def Fits (y:TypeId)(n:Nat):Prop:=liesAt prog prog.depth y (n / prog.cellsOf y) 0 228 1=true
theorem jh:Fits 228 2:=by unfold Fits;kernel_rfl
theorem DL:Fits 486 4:=by unfold Fits;kernel_rfl
theorem ve (b:Nat)(w:JW)(M:w.cell? (Jp b 0)=some (.pointer none))(y:TypeId)(n:Nat)(J:Fits y n)(H:0<n)(E:w.shape? b=some (y,n))(Q:w.frozen? (Jp b 0)=false):
 JC 206 #[Jv b] w λe w'=>e= .returned (.tuple #[])/\w'=w.setCell (Jp b 0) (Jv b):=by
 obtain⟨U,D,K⟩:=IJ;have T:=Lib.run_to_unsafe (P:=prog) w (Jp b 0) underlying226 underlying407 D (by rw[K];decide) E H;have O:=Lib.run_from_unsafe (P:=prog) w (Jp b 0) underlying407 underlying226 D E J;go_enter Tryz.func206,Tryz.ntmps206;go_wp2;rw[run_callFunc_extern Tryz.func298 Jk Jk Jk (e:=Extern.AbiNoEscape.same) Jk,Lib.run_noEscape];simp only[iM];rw[Oper.upon_value];go_wp2;go_end0;exact⟨rfl,rfl⟩
def ue (D:Nat->Prop)(b:Nat)(E:TypeId)(tl:List Value)(l:JU)(w:JW):Prop:=
 D b/\Fits E (2+tl.length)/\∃y H,(y= .pointer none∨y=Jv b)/\w.heap[b]?=some (.cells (y :: H :: tl).toArray E (0,0))/\bP D 5 1 H l.length (cellsOf l) w
theorem kL {w':JW}{b:Nat}{R:Nat->Prop}{y:TypeId}{tl:List Value}(H:w'.heap[b]?=some (.cells (.pointer none :: Jn :: tl).toArray y (0,0)))(D:Fits y (2+tl.length))(E:R b):ue R b y tl [] w':=
 ⟨E,D,_,_,.inl rfl,H,bP.nil _ _ _ _⟩
theorem KL (R:Nat->Prop)(b:Nat)(y:TypeId)(tl:List Value)(l:JU)(w:JW)(h:ue R b y tl l w):
 JC 206 #[Jv b] w λe w'=>e= .returned (.tuple #[])/\ue R b y tl l w'/\w'.cell? (Jp b 0)=some (Jv b)/\Beside R b w w':=by
 obtain⟨J,H,U,K,Q,D,O⟩:=h;have T:w.shape? b=some (y,2+tl.length):=by simp[World.shape?,D];omega
 have E:w.cell? (Jp b 0)=some U:=by rw[aa D];rfl
 rcases Q with rfl|rfl
 ·refine(ve b w E y _ H Jo T (aW D 0)).mono ?_;rintro e w' ⟨rfl,rfl⟩;have M:(w.setCell (Jp b 0) (Jv b)).heap[b]?=some (.cells (Jv b :: K :: tl).toArray y (0,0)):=by
   simp[aj,aA,D]
  exact⟨rfl,⟨J,H,_,K,.inr rfl,M,fW O J _ _⟩,by rw[aa M];rfl,gu _ _ _ _ _⟩
 refine(xe b w E).mono ?_;rintro e w' ⟨rfl,rfl⟩;exact⟨rfl,⟨J,H,_,K,.inr rfl,D,O⟩,E,Beside.refl _ _ _⟩
theorem lS (R:Nat->Prop)(b:Nat)(E:TypeId)(tl:List Value)(l:JU)(z:Int)(c:UInt8)(w:JW)(hy:z=(c.toNat:Int))(h:ue R b E tl l w)(ap:l.length<1099511627776)(Y:gm R w):
 JC 279 #[Jv b,.int .u8 z] w λe w'=>e= .returned .nilIface/\ue R b E tl (l ++ [c]) w'/\Beside R b w w':=by
 subst hy;have V:=Jh (KL R b E tl l w h);clear h;go_enter Tryz.func279,Tryz.ntmps279;go_wp2_with fail;refine V.o.mono ?_;rintro e O ⟨rfl,⟨J,D,ae,M,ad,y,ac⟩,X,H⟩;have W:=Jh D;have Z:=Y.mono H.size;clear D;have ag:O.cell? (Jp b 1)=some M:=by rw[aa y];rfl
 have an:b<O.heap.size:=(Jl y);have aq:=H.size;go_wp2_with ((at_builtin;go_must (refine bb rfl _ _ 22 rfl 5 (.int .u8 0) 1 1 underlying22 Jk rfl Jd R l.length (cellsOf l) M O #[.int .u8 (c.toNat:Int)] rfl (by intro ar U;simp at U;subst U;rfl) ac rfl Z rfl Jm Jo ?_);intro au Q K T ao am;obtain⟨af,ah,rfl⟩:=qV K.1;have D:=(T.block b J).trans y;have ai:Q.cell? (Jp b 0)=some (Jv b):=(aa D 0).trans ((aa y 0).symm.trans X);have ak:Q.cell? (Jp b 1)=some M:=(aa D 1).trans rfl;have al:Q.frozen? (Jp b 1)=false:=aW D 1));go_ret;rw[<-ta] at K;refine⟨rfl,⟨J,W.o,ae,_,ad,?_,fW (by rw[ab];exact K) J _ _⟩,(H.trans T.beside).trans (gu _ _ _ _ _)⟩;simp[aj,aA,D]
theorem EW (R:Nat->Prop)(b:Nat)(H:TypeId)(tl:List Value)(l:JU)(w:JW)(h:ue R b H tl l w)(J:l≠[]):
 JC 109 #[Jv b] w λe w'=>e= .returned (.string (S l))/\cC R w w':=by
 obtain⟨ah,af,Z,ab,al,M,K,V⟩:=h;have U:l.length≠0:=by simpa using J
 obtain⟨y,D,E,rfl,ai,Q,ak,O,aj,am⟩:∃y D E,ab= .slice (some (Jp y 0)) l.length D/\0<=y/\w.heap[y]?=some (.cells E 5 (0,0))/\l.length<=D/\D<=maxLen/\E.size=D*1/\E.toList.take (l.length*1)=cellsOf l:=by
  rcases K.2 with⟨_,W⟩|⟨y,D,E,T,X⟩
  ·exact absurd W U
  exact⟨y,D,E,T,X⟩
 have ad:w.drew.cell? (Jp b 1)=some (.slice (some (Jp y 0)) l.length D):=by
  have:w.drew.heap[b]?=some (.cells (Z :: .slice (some (Jp y 0)) l.length D :: tl).toArray H (0,0)):=M;rw[aa this];rfl
 have ae:(Builtin.unsafeSliceData_ #[22] 347 #[.slice (some (Jp y 0)) l.length D]).run prog w.drew= .ok (Jv y) w.drew:=
  Lib.run_unsafeSliceData_row (P:=prog) _ _ _ _ _ _ Jo
 have ag:(Builtin.unsafeString_ #[347,3] 9 #[Jv y,Ji l.length]).run prog w.drew= .ok (.string (S l)) (w.drew.freeze (Jp y 0) l.length):=by
  refine Lib.run_unsafeString_row (P:=prog) (w:=w.drew) 347 3 9 5 underlying347 Jk y E.size (by have T:w.drew.heap[y]?=some (.cells E 5 (0,0)):=Q;simp[World.shape?,T]) l J Jo (by unfold maxLen at O;omega) ?_;intro X ac W;have:=K.cells (g:=y) rfl X (.int .u8 ac.toNat) (by simp[cellsOf,W]);exact this
 go_enter Tryz.func109,Tryz.ntmps109;go_wp2;go_region;all_goals (go_wp2;go_ret;exact⟨rfl,Cu (cC.Y (cC.refl R w)) (p:=(Jp y 0)) (V y rfl) _⟩)
theorem Ih (R:Nat->Prop)(b:Nat)(H:TypeId)(tl:List Value)(p:Value)(w:JW)(T:gm R w)(v:Value)(E:w.heap[b]?=some (.cells (p :: v :: tl).toArray H (0,0)))(W:w.ownsRow 0 5 1 v 0 []):
 JC 109 #[Jv b] w λe w'=>e= .returned (.string (S []))/\cC R w w':=by
 have ab:=λy D=>Lib.run_unsafeString_none (P:=prog) (w:=y) 347 3 9 D;have V:b<w.heap.size:=(Jl E);rcases W.2 with⟨rfl,_⟩|⟨y,D,M,rfl,ac,U,_,_,_,_⟩
 ·have K:w.drew.cell? (Jp b 1)=some (Jn):=by
   have:w.drew.heap[b]?=some (.cells (p :: Jn :: tl).toArray H (0,0)):=E;rw[aa this];rfl
  have O:(Builtin.unsafeSliceData_ #[22] 347 #[Jn]).run prog w.drew= .ok (.pointer none) w.drew:=rfl;go_enter Tryz.func109,Tryz.ntmps109;go_wp2;go_region;all_goals (go_wp2;go_ret;exact⟨rfl,cC.Y (cC.refl R w)⟩)
 have K:w.drew.cell? (Jp b 1)=some (.slice (some (Jp y 0)) 0 D):=by
  have:w.drew.heap[b]?=some (.cells (p :: .slice (some (Jp y 0)) 0 D :: tl).toArray H (0,0)):=E;rw[aa this];rfl
 by_cases J:D=0
 ·subst J;have O:(Builtin.unsafeSliceData_ #[22] 347 #[.slice (some (Jp y 0)) 0 0]).run prog w.drew= .ok (Jv w.drew.heap.size) (w.drew.alloc (.view (Jp y 0) 5)):=
   Lib.run_unsafeSliceData_zero (P:=prog) (w:=w.drew) _ _ 5 underlying347 (Jp y 0) 0 (5,M.size) (by have Q:w.drew.heap[y]?=some (.cells M 5 (0,0)):=U;simp[World.shape?,Q])
  have Q:(w.drew.alloc (.view (Jp y 0) 5)).cell? (Jp b 1)=some (.slice (some (Jp y 0)) 0 0):=by
   have:(w.drew.alloc (.view (Jp y 0) 5)).heap[b]?=_:=(aJ w.drew _ b V).trans E;rw[aa this];rfl
  have Z:(w.alloc (.view (Jp y 0) 5)).drew.cell? (Jp b 1)=some (.slice (some (Jp y 0)) 0 0):=Q;have X:w.cell? (Jp b 1)=some (.slice (some (Jp y 0)) 0 0):=K;go_enter Tryz.func109,Tryz.ntmps109;go_wp2;go_region;all_goals (go_wp2;go_ret;exact⟨rfl,(cC.Y (cC.refl R w)).wQ T _⟩)
 have O:(Builtin.unsafeSliceData_ #[22] 347 #[.slice (some (Jp y 0)) 0 D]).run prog w.drew= .ok (Jv y) w.drew:=
  Lib.run_unsafeSliceData_row (P:=prog) _ _ _ _ _ _ J
 clear J;go_enter Tryz.func109,Tryz.ntmps109;go_wp2;go_region;all_goals (go_wp2;go_ret;exact⟨rfl,cC.Y (cC.refl R w)⟩)
theorem iC (R:Nat->Prop)(b:Nat)(y:TypeId)(tl:List Value)(l:JU)(w:JW)(h:ue R b y tl l w)(D:gm R w):
 JC 109 #[Jv b] w λe w'=>e= .returned (.string (S l))/\cC R w w':=by
 cases l with
 |nil=>
  obtain⟨O,M,J,K,T,E,H,Q⟩:=h;exact Ih R b y tl J w D K E H
 |cons u E=>exact EW R b y tl (u :: E) w h Js
theorem tU {P:Program}(t u K e:TypeId)(i:TypeInfo)(O:P.underlying t=some (.slice e))(Q:P.underlying u=some .string)(hi:P.info? e=some i)(Z:i.zero=some (.int .u8 0))(M:i.size=1)(W:i.bytes=1)
 (v:Value) (n:Nat) (xs:List Value) (w:JW) (E:w.ownsRow 0 e 1 v n xs) (s:ByteArray) (V:n+s.size<=maxLen) (aa:n+s.size<=140737488355328):
 ∃v' w',(gp #[t,u] K #[v,.string s]).run P w= .ok v' w'/\w'.ownsRow 0 e 1 v' (n+s.size) (xs ++ Lib.strCells s)/\w.grownBy w' v.ownBlock/\(v'.ownBlock=v.ownBlock∨∀g,v'.ownBlock=some g->w.heap.size<=g):=by
 have al:n+s.size<=9223372036854775807:=by simp only[maxLen] at V;omega
 rcases E.2 with⟨rfl,rfl⟩|⟨g,y,T,rfl,ah,X,ak,ai,aj,am⟩
 ·have ab:xs=[]:=bu (by simpa using E.1);subst ab;obtain⟨v',w',H,D,U,-⟩:=Lib.run_append_own_string (P:=P) (w:=w) w.heap.size t u K e i O Q hi Z M W (Jn) 0 [] (World.ownsRow_nil _ _ _ _) s V aa (ac _);refine⟨v',w',H,⟨D.1,?_⟩,U,.inr λg X=>(D.lt g X).1⟩;rcases D.2 with J|⟨g,y,T,J,ad,Y⟩
  ·exact .inl J
  exact .inr ⟨g,y,T,J,bj _,Y⟩
 obtain⟨v',w',H,D,U,-⟩:=Lib.run_append_own_string (P:=P) (w:=w) 0 t u K e i O Q hi Z M W _ n xs E s V aa (bj _);refine⟨v',w',H,D,U,?_⟩;by_cases ae:n+s.size<=y
 ·have J:=Lib.run_append_room_string (P:=P) w t u K e i O Q hi M g n y T X s ae Jo;rw[H] at J;left;injection J with Y _;rw[Y];rfl
 have ad:∀ab u,xs[ab]?=some u->w.cell? (((Jp g 0):Addr).add ab)=some u:=E.cells (g:=g) rfl;have af:xs.length=n:=by simpa using E.1
 have J:=Lib.run_append_grow_string (P:=P) w t u K e i (.int .u8 0) O Q hi Z (Jp g 0) n y xs (by rw[M];simpa using af) ad s Jo Jo (by rw[W];exact growslice_fits Jo Jo);rw[H] at J;right;injection J with Y _;rw[Y];intro ag ab;simp only[aG,Option.some.injEq] at ab;omega
theorem pX {P:Program}{X:Array Oper}{Y:List Oper}{o:Oper}{a:Act}{M:Exit->Act->World->Prop}(af:o.guard=none)(Z x:Operand)(t u:TypeId)
 (ho:o.op= .call {callee:=.builtin .append,args:=#[Z,x],argTypes:=#[t,u]}) (e:TypeId) (al:P.underlying t=some (.slice e)) (am:P.underlying u=some .string) (ah:(P.info? e).map (λi=>(i.zero,i.size,i.bytes))=some (some (.int .u8 0),1,1))
 (E:Nat->Prop) (v:Value) (n:Nat) (xs:List Value) (D:JW) (ak:a.eval Z=v) (J:bP E e 1 v n xs D) (W:gm E D) (s:ByteArray) (an:a.eval x= .string s) (ab:n+s.size<=maxLen) (ae:n+s.size<=140737488355328)
 (h:∀v' w',bP E e 1 v' (n+s.size) (xs ++ Lib.strCells s) w'->cC E D w'->KeepsOthers D w'->wpList P X M Y (a.put o.dst v') w'):wpList P X M (o :: Y) a D:=by
 obtain⟨i,ag,ao,ap,aq⟩:=info_parts ah;obtain⟨v',w',aj,ai,y,ad⟩:=tU (P:=P) t u o.type e i al am ag ao ap aq v n xs D J.1 s ab ae;refine wpList_plain af λH ac=>?_;unfold jx execOp;simp only[ho,resolve,invoke,builtin,jR,Sem.run_pure,Result.andThen_ok,List.map_toArray,bV,ii,ak,an,aj];refine ac _ _ (h v' w' ⟨ai,λO T Q=>?_⟩ ⟨y.os,y.tape,y.output,y.size,λK V=>y.block K (W K V) (λaa=>J.2 K aa.symm V)⟩ (KeepsOthers.of_grownBy y λar o H U=>?_))
 ·rcases ad with K|K
  ·exact J.2 O (K.symm.trans T) Q
  have:=W _ Q;have:=K O T;omega
 rcases J.1.2 with⟨e,_⟩|⟨K,Q,T,e,_,O,_⟩
 ·rw[e] at H;simp[aG] at H
 rw[e] at H;obtain rfl:K=ar:=by simpa [aG] using H
 rw[O] at U;obtain rfl:_=o:=by simpa using U
 rfl
theorem EV (s:ByteArray):Lib.strCells s=cellsOf s.data.toList:=by
 simp[Lib.strCells,cellsOf]
theorem jt (R:Nat->Prop)(b:Nat)(D:TypeId)(tl:List Value)(l:JU)(s:ByteArray)(w:JW)(h:ue R b D tl l w)(aq:l.length+s.size<1099511627776)(ae:gm R w):
 JC 107 #[Jv b,.string s] w λe w'=>(∃v,e= .returned v)/\ue R b D tl (l ++ s.data.toList) w'/\Beside R b w w'/\KeepsOthers w w':=by
 have V:∀y,Beside R b w y->(y=w∨y=w.setCell (Jp b 0) (Jv b))->KeepsOthers w y:=λy _ h=>by
  rcases h with rfl|rfl
  ·exact fR _
  exact cU _ _ _
 have M:JC 206 #[Jv b] w λe w'=>e= .returned (.tuple #[])/\ue R b D tl l w'/\w'.cell? (Jp b 0)=some (Jv b)/\Beside R b w w'/\KeepsOthers w w':=by
  obtain⟨K,E,T,v,Q,H,U⟩:=h;have W:w.shape? b=some (D,2+tl.length):=by simp[World.shape?,H];omega
  have J:w.cell? (Jp b 0)=some T:=by rw[aa H];rfl
  rcases Q with rfl|rfl
  ·refine(ve b w J D _ E Jo W (aW H 0)).mono ?_;rintro e w' ⟨rfl,rfl⟩;have O:(w.setCell (Jp b 0) (Jv b)).heap[b]?=some (.cells (Jv b :: v :: tl).toArray D (0,0)):=by
    simp[aj,aA,H]
   exact⟨rfl,⟨K,E,_,v,.inr rfl,O,fW U K _ _⟩,by rw[aa O];rfl,gu _ _ _ _ _,cU _ _ _⟩
  refine(xe b w J).mono ?_;rintro e w' ⟨rfl,rfl⟩;exact⟨rfl,⟨K,E,_,v,.inr rfl,H,U⟩,J,Beside.refl _ _ _,fR _⟩
 have X:=Jh M;clear h M V;go_enter Tryz.func107,Tryz.ntmps107;go_wp2_with fail;refine X.o.mono ?_;rintro e y ⟨rfl,⟨M,E,T,v,Q,H,ah⟩,ad,K,J⟩;have Y:=Jh E;have ag:=ae.mono K.size;have Z:=Jh J;clear E J;have ak:y.cell? (Jp b 1)=some v:=by rw[aa H];rfl
 have ap:b<y.heap.size:=(Jl H);have ar:=K.size;go_wp2_with ((at_builtin;go_must (refine pX rfl (.tmp 12) (.tmp 13) 22 9 Jr 5 underlying22 underlying9 Jk R v l.length (cellsOf l) y Jr ah ag s Jr Jm Jo ?_);intro au U O V W;obtain⟨ai,al,rfl⟩:=qV O.1;have ac:=Jh W;clear W;have J:=(V.block b M).trans H;have am:U.cell? (Jp b 0)=some (Jv b):=(aa J 0).trans ((aa H 0).symm.trans ad);have an:U.cell? (Jp b 1)=some v:=(aa J 1).trans rfl;have ao:U.frozen? (Jp b 1)=false:=aW J 1));go_ret2;have af:(l ++ s.data.toList).length=l.length+s.size:=by rw[ab,<-bX]
 rw[EV,<-show cellsOf (l ++ s.data.toList)=cellsOf l ++ cellsOf s.data.toList by simp[cellsOf]] at O;refine⟨⟨_,rfl⟩,⟨M,Y.o,T,_,Q,?_,fW (by rw[af];exact O) M _ _⟩,(K.trans V.beside).trans (gu _ _ _ _ _),(Z.o.trans ac.o).trans (cU _ _ _)⟩;simp[aj,aA,J]
theorem FH (R:Nat->Prop)(b:Nat)(E:TypeId)(tl:List Value)(l:JU)(w:JW)(h:ue R b E tl l w):
 JC 266 #[Jv b] w λe w'=>e= .returned (Ji l.length)/\w=w':=by
 obtain⟨Q,H,U,J,T,y,D⟩:=h;have M:w.cell? (Jp b 1)=some J:=by rw[aa y];rfl
 obtain⟨K,O,rfl⟩:=qV D.1;clear H D y;go_enter Tryz.func266,Tryz.ntmps266;go_wp2_with fail;go_ret;exact⟨rfl,rfl⟩
structure Ev (R:Nat->Prop) (W W':JW):Prop where
 st:cC R W W'
 kp:KeepsOthers W W'
theorem Ev.refl (R:Nat->Prop)(y:JW):Ev R y y:=⟨cC.refl _ _,fR _⟩
theorem Ev.trans {R:Nat->Prop}{A B C:JW}(h:Ev R A B)(k:Ev R B C):Ev R A C:=⟨h.st.trans k.st,h.kp.trans k.kp⟩
theorem qK {y D:JW}(h:Jz y D):KeepsOthers y D:=⟨h.size,λH _ E _=>(h.block H (Jl E)).trans E⟩
theorem Ev.below {R:Nat->Prop}{y D:JW}(E:gm R y)(h:Jz y D):Ev R y D:=⟨cC.of h E,qK h⟩
structure ku (R:Nat->Prop) (p q:Nat) (l m:JU) (W:JW):Prop where
 ex:∃u v a b,(a= .pointer none∨a=Jv p)/\(b= .pointer none∨b=Jv q)/\W.heap[p]?=some (.cells #[a,u] 228 (0,0))/\W.heap[q]?=some (.cells #[b,v] 228 (0,0))/\
  bP (λk=>R k∨k=p∨k=q∨v.ownBlock=some k) 5 1 u l.length (cellsOf l) W/\bP (λk=>R k∨k=p∨k=q∨u.ownBlock=some k) 5 1 v m.length (cellsOf m) W
 ne:p≠q
 np:¬R p
 nq:¬R q
section
variable {R:Nat->Prop} {p q:Nat} {l m:JU} {W W':JW}
theorem ku.swap (h:ku R p q l m W):ku R q p m l W:=by
 obtain⟨⟨Z,aa,K,M,O,Q,T,U,H,J⟩,V,X,Y⟩:=h;refine⟨⟨aa,Z,M,K,Q,O,U,T,J.shift ?_,H.shift ?_⟩,λy=>V y.symm,Y,X⟩
 ·intro y D E;exact J.2 y D (by rcases E with h|h|h|h<;>simp[h])
 intro y D E;exact H.2 y D (by rcases E with h|h|h|h<;>simp[h])
theorem ku.lt (h:ku R p q l m W):p<W.heap.size/\q<W.heap.size:=by
 obtain⟨⟨V,X,E,H,J,K,y,D,M,O⟩,Q,T,U⟩:=h;exact⟨(Jl y),(Jl D)⟩
theorem ku.later (h:ku R p q l m W)(hc:∀k cs t f,W.heap[k]?=some (.cells cs t f)->k=p∨k=q∨¬R k->W'.heap[k]?=W.heap[k]?):ku R p q l m W':=by
 obtain⟨⟨ai,E,X,Y,aa,ab,K,M,O,Q⟩,ac,ad,ae⟩:=h;have J:∀{E:Value}{U:Nat}{V:List Value}{H:Nat->Prop},bP H 5 1 E U V W->(∀k,R k->H k)->∀k,E.ownBlock=some k->W'.heap[k]?=W.heap[k]?:=λ{E U V H} T ah k D=>by
  have ag:¬R k:=λy=>T.2 k D (ah k y);rcases T.1.2 with⟨y,_⟩|⟨Z,aj,ak,y,_,af,_⟩
  ·rw[y] at D;simp[aG] at D
  rw[y] at D;obtain rfl:Z=k:=by simpa [aG] using D
  exact hc _ _ _ _ af (.inr (.inr ag))
 exact⟨⟨ai,E,X,Y,aa,ab,(hc _ _ _ _ K (.inl rfl)).trans K,(hc _ _ _ _ M (.inr (.inl rfl))).trans M,O.later (J O λ_ h=>.inl h),Q.later (J Q λ_ h=>.inl h)⟩,ac,ad,ae⟩
theorem ku.below (h:ku R p q l m W)(y:Jz W W'):ku R p q l m W':=h.later λE _ _ _ D _=>y.block E (Jl D)
theorem ku.write (h:ku R p q l m W)(s:ByteArray)(ai:l.length+s.size<1099511627776)(ae:gm R W):
 JC 107 #[Jv p,.string s] W λe M=>(∃v,e= .returned v)/\ku R p q (l ++ s.data.toList) m M/\Ev R W M:=by
 have an:=h.lt;obtain⟨⟨al,v,U,X,Y,Z,aa,ab,ac,J⟩,O,Q,ad⟩:=h;have aj:gm (λy=>R y∨y=p∨y=q∨v.ownBlock=some y) W:=λy K=>by
  rcases K with h|h|h|h
  ·exact ae y h
  ·omega
  ·omega
  exact(J.1.lt y h).2
 refine(jt (λy=>R y∨y=p∨y=q∨v.ownBlock=some y) p 228 [] l s W ⟨.inr (.inl rfl),jh,U,al,Y,aa,ac⟩ ai aj).mono ?_;rintro e M ⟨ag,⟨-,-,V,am,af,ah,T⟩,E,K⟩;refine⟨ag,⟨⟨am,v,V,X,af,Z,ah,(E.block q (.inr (.inr (.inl rfl))) (λe=>O e.symm)).trans ab,T,(J.later λD H=>E.block D (.inr (.inr (.inr H))) λe=>J.2 D H (.inr (.inl e))).shift λD H ak=>?_⟩,O,Q,ad⟩,⟨⟨E.os,E.tape,E.output,E.size,λy K=>E.block y (.inl K) λe=>Q (e▸K)⟩,K⟩⟩;rcases ak with h|h|h|h
 ·exact J.2 D H (.inl h)
 ·exact J.2 D H (.inr (.inl h))
 ·exact J.2 D H (.inr (.inr (.inl h)))
 exact T.2 D h (.inr (.inr (.inr H)))
theorem ku.len (h:ku R p q l m W):JC 266 #[Jv p] W λe D=>e= .returned (Ji l.length)/\W=D:=by
 obtain⟨⟨M,O,E,Q,H,T,J,U,K,V⟩,X,Y,Z⟩:=h;exact FH (λy=>R y∨y=p∨y=q∨O.ownBlock=some y) p 228 [] l W ⟨.inr (.inl rfl),jh,E,M,H,J,K⟩
theorem ku.str (h:ku R p q l m W)(O:gm R W):JC 109 #[Jv p] W λe D=>e= .returned (.string (S l))/\cC R W D/\∃R',ue R' q 228 [] m D/\gm R' D/\∀k,R k->R' k:=by
 have ag:=h.lt;obtain⟨⟨ac,M,Q,T,U,V,X,Y,Z,H⟩,ad,ae,af⟩:=h;have aa:gm (λk=>R k∨k=p∨k=q∨M.ownBlock=some k) W:=λk y=>by
  rcases y with h|h|h|h
  ·exact O k h
  ·omega
  ·omega
  exact(H.1.lt k h).2
 refine(iC (λk=>R k∨k=p∨k=q∨M.ownBlock=some k) p 228 [] l W ⟨.inr (.inl rfl),jh,Q,ac,U,X,Z⟩ aa).mono ?_;rintro e D ⟨rfl,K⟩;refine⟨rfl,K.mono λk y=>.inl y,λk=>R k∨k=q,⟨.inr rfl,jh,T,M,V,(K.block q (.inr (.inr (.inl rfl)))).trans Y,(H.later λE J=>K.block E (.inr (.inr (.inr J)))).shift λE J ab=>?_⟩,λk y=>?_,λk y=>.inl y⟩
 ·rcases ab with h|h
  ·exact H.2 E J (.inl h)
  exact H.2 E J (.inr (.inr (.inl h)))
 have:=K.size;rcases y with h|h
 ·have:=O k h;omega
 omega
end
theorem CZ {R:Nat->Prop}(w:JW)(D:gm R w):ku R w.heap.size (w.heap.size+1) [] [] ((w.alloc (.cells #[.pointer none,Jn] 228)).alloc (.cells #[.pointer none,Jn] 228)):=by
 have H:=heap_alloc_new w (.cells #[.pointer none,Jn] 228);have E:=heap_alloc_new (w.alloc (.cells #[.pointer none,Jn] 228)) (.cells #[.pointer none,Jn] 228);simp only[aI] at E;refine⟨⟨Jn,Jn,.pointer none,.pointer none,.inl rfl,.inl rfl,(aJ _ _ _ Js).trans H,E,bP.nil _ _ _ _,bP.nil _ _ _ _⟩,Jo,λy=>Jw (D _ y),λy=>Jw (D _ y)⟩
def fh (n:Int):Nat:=if 0<=n then(2*n).toNat else(-2*n - 1).toNat
def bE (k:Nat):Int:=if k % 2=0 then(k / 2:Nat) else -((k / 2:Nat):Int) - 1
theorem jp {n:Int}(y: -9223372036854775808<=n)(h1:n<=9223372036854775807):fh n<18446744073709551616:=by
 unfold fh;split<;>omega
theorem yN {k:Nat}(h:k<18446744073709551616): -9223372036854775808<=bE k:=by
 unfold bE;split<;>omega
theorem yM {k:Nat}(h:k<18446744073709551616):bE k<=9223372036854775807:=by
 unfold bE;split<;>omega
theorem nX (n:Int):bE (fh n)=n:=by
 unfold bE fh;split<;>split<;>omega
theorem Lz {n:Int}(H: -9223372036854775808<=n)(h1:n<=9223372036854775807):
 bits .xor .u64 (IntKind.u64.wrap (wrap64 (n*2))) (IntKind.u64.wrap (n / 9223372036854775808))=(fh n:Int):=by
 by_cases E:0<=n
 ·have y:IntKind.u64.wrap (wrap64 (n*2))=((2*n).toNat:Int):=by rw[bD];unfold wrap64;omega
  have D:IntKind.u64.wrap (n / 9223372036854775808)=((0:Nat):Int):=by rw[bD];omega
  rw[y,D,bits_xor_u64_nat _ _ Jo Jo];unfold fh;rw[if_pos E,Nat.xor_zero]
 have y:IntKind.u64.wrap (wrap64 (n*2))=((2*n+18446744073709551616).toNat:Int):=by rw[bD];unfold wrap64;omega
 have D:IntKind.u64.wrap (n / 9223372036854775808)=((2 ^ 64 - 1:Nat):Int):=by
  have:n / 9223372036854775808= -1:=Jo;rw[this,bD];rfl
 rw[y,D,bits_xor_u64_nat _ _ Jo Jo,Nat.xor_comm,Lib.xor_ones64 _ Jo];unfold fh;rw[if_neg E];omega
theorem Fe {k:Nat}(h:k<18446744073709551616):
 bits .xor .i64 (wrap64 ((k:Int) / 2)) (wrap64 (-wrap64 (bits .and .u64 (k:Int) 1)))=bE k:=by
 rw[Lib.u64_and1 _ Jo Jo];have H:wrap64 ((k:Int) / 2)=((k / 2:Nat):Int):=by unfold wrap64;omega
 by_cases J:k % 2=0
 ·have y:wrap64 (-wrap64 ((k:Int) % 2))=((0:Nat):Int):=by unfold wrap64;omega
  rw[H,y];show IntKind.i64.wrap ((dU 64 ((k / 2:Nat):Int) ^^^ dU 64 ((0:Nat):Int)).toNat:Int)=_;have D:(dU 64 ((k / 2:Nat):Int)).toNat=k / 2:=by
   rw[fZ,gR];exact fS Jo
  have E:(dU 64 ((0:Nat):Int)).toNat=0:=Jd;rw[BitVec.toNat_xor,D,E,Nat.xor_zero,aB];unfold bE;rw[if_pos J];omega
 have y:wrap64 (-wrap64 ((k:Int) % 2))= -1:=by unfold wrap64;omega
 rw[H,y];show IntKind.i64.wrap ((dU 64 ((k / 2:Nat):Int) ^^^ dU 64 (-1)).toNat:Int)=_;have D:(dU 64 ((k / 2:Nat):Int)).toNat=k / 2:=by
  rw[fZ,gR];exact fS Jo
 have E:(dU 64 (-1)).toNat=2 ^ 64 - 1:=Jd;rw[BitVec.toNat_xor,D,E,Nat.xor_comm,Lib.xor_ones64 _ Jo,aB];unfold bE;rw[if_neg J];omega
def nN (n:Nat):UInt8:=dw n
def uint (n:Nat):JU:=if n<128 then[nN n] else nN (n % 128+128) :: uint (n / 128)
termination_by n
decreasing_by omega
theorem fT {n:Nat}(h:n<128):uint n=[nN n]:=by rw[uint,if_pos h]
theorem tZ {n:Nat}(h:128<=n):uint n=nN (n % 128+128) :: uint (n / 128):=by rw[uint,if_neg Jo]
theorem yL (n:Nat)(h:n<256):(nN n).toNat=n:=by
 unfold nN;rw[eH];omega
theorem rq (c:UInt8):nN c.toNat=c:=by unfold nN;simp
theorem ua (n:Nat):0<(uint n).length:=by
 rw[uint];split<;>simp
theorem jb:∀(k n:Nat),n<128 ^ (k+1)->(uint n).length<=k+1:=by
 intro k;induction k with
 |zero=>intro n y;rw[fT (by simpa using y)];simp
 |succ k E=>
  intro n y;by_cases D:n<128
  ·rw[fT D];simp
  rw[tZ Jo];have:=E (n / 128) (by rw[gF] at y;omega);simp;omega
theorem bA {n:Nat}(h:n<18446744073709551616):(uint n).length<=10:=
 jb 9 n (by have:(128:Nat) ^ (9+1)=1180591620717411303424:=Jd;omega)
def scan (i y:Nat):JU->Nat × Nat × Nat
 |[]=>if 10<=i then(0,0,11) else(0,0,10)
 |c :: D=>
  if 10<=i then(0,0,11)
  else if i=9/\1<c.toNat then(0,0,11)
  else if c.toNat=0/\0<i then(0,0,11)
  else if c.toNat<128 then(y+c.toNat*128 ^ i,i+1,0)
  else scan (i+1) (y+(c.toNat - 128)*128 ^ i) D
def lF (l:JU):Nat × Nat × Nat:=scan 0 0 l
theorem MX:∀(n i D:Nat)(r:JU),i+(uint n).length<=10->(0<i->0<n)->n*128 ^ i<18446744073709551616->
 scan i D (uint n ++ r)=(D+n*128 ^ i,i+(uint n).length,0):=by
 intro n;induction n using Nat.strongRecOn with
 |ind n O=>
  intro i D r y M K;by_cases E:n<128
  ·rw[fT E] at y ⊢;simp only[fc,List.singleton_append,scan,yL n Jo] at y ⊢;rw[if_neg Jo,if_neg (by
    rintro⟨rfl,H⟩;have:(128:Nat) ^ 9=9223372036854775808:=Jd;rw[this] at K;omega),if_neg (by rintro⟨H,J⟩;have:=M J;omega),if_pos E]
  have T:=ua (n / 128);rw[tZ Jo] at y ⊢;simp only[ak,aY,scan,yL (n % 128+128) Jo] at y ⊢;rw[if_neg Jo,if_neg Jo,if_neg Jo,if_neg Jo,show n % 128+128 - 128=n % 128 by omega];have H:128 ^ (i+1)=128*128 ^ i:=by rw[gF,dj]
  have Q:=jm n 128;have J:n*128 ^ i=n % 128*128 ^ i+n / 128*128 ^ (i+1):=by
   rw[H,<-Nat.mul_assoc,<-ij];congr 1;omega
  rw[O (n / 128) Jo (i+1) _ r Jo (λ_=>Jo) Jo,J];simp only[Prod.mk.injEq,and_true];omega
theorem oB {n:Nat}(h:n<18446744073709551616)(r:JU):lF (uint n ++ r)=(n,(uint n).length,0):=by
 have:=MX n 0 0 r (Jw (bA h)) Jo (by simpa using h);simpa [lF] using this
theorem GZ:∀(l:JU)(i D m k:Nat),scan i D l=(m,k,0)->
 ∃n r,l=uint n ++ r/\m=D+n*128 ^ i/\k=i+(uint n).length/\(0<i->0<n)/\k<=10/\(i=9->n<=1)/\(i<9->n<2*128 ^ (9 - i)):=by
 intro l;induction l with
 |nil=>intro i D m k y;simp only[scan] at y;split at y<;>simp at y
 |cons c l Z=>
  intro i D m k y;simp only[scan] at y;split at y
  ·simp at y
  split at y
  ·simp at y
  split at y
  ·simp at y
  rename_i ab ac aa;split at y
  ·rename_i H;simp only[Prod.mk.injEq,and_true] at y;refine⟨c.toNat,l,?_,y.1.symm,?_,λE=>Jo,Jo,λE=>Jo,λE=>?_⟩
   ·rw[fT H,rq];simp
   ·rw[fT H];simp;omega
   have:128 ^ 1<=128 ^ (9 - i):=ce Jo Jo;omega
  rename_i H;obtain⟨n,r,Y,V,Q,X,T,K,U⟩:=Z _ _ _ _ y;have ad:=c.toNat_lt;have ae:=X Jo;have af:=ua n;have M:(n*128+(c.toNat - 128)) / 128=n:=Jo;have W:(n*128+(c.toNat - 128)) % 128=c.toNat - 128:=Jo;have J:uint (n*128+(c.toNat - 128))=c :: uint n:=by
   rw[tZ Jo,M,W,show c.toNat - 128+128=c.toNat by omega,rq]
  refine⟨n*128+(c.toNat - 128),r,?_,?_,?_,λ_=>Jo,T,λE=>Jo,λE=>?_⟩
  ·rw[J,Y];rfl
  ·rw[V,gF,ij,dj (128 ^ i) 128,<-Nat.mul_assoc];omega
  ·rw[J,Q,ak];omega
  by_cases O:i=8
  ·subst O;have:=K rfl;simp;omega
  have:=U Jo;rw[show 9 - i=(9 - (i+1))+1 by omega,gF];omega
theorem xK {l:JU}{m k:Nat}(h:lF l=(m,k,0)):∃r,l=uint m ++ r/\k=(uint m).length/\m<18446744073709551616:=by
 obtain⟨K,r,E,y,D,_,_,_,H⟩:=GZ l 0 0 m k h;have:(128:Nat) ^ 9=9223372036854775808:=Jd;have J:=H Jo;simp only[Nat.sub_zero,this] at J;simp at y D;subst y;exact⟨r,E,D,Jo⟩
theorem EP:∀(l:JU)(i y:Nat),(scan i y l).2.2≠0->(scan i y l).1=0/\(scan i y l).2.1=0/\((scan i y l).2.2=10∨(scan i y l).2.2=11):=by
 intro l;induction l with
 |nil=>intro i y;simp only[scan];split<;>simp
 |cons c l D=>
  intro i y;simp only[scan];split
  ·simp
  split
  ·simp
  split
  ·simp
  split
  ·simp
  exact D _ _
theorem vR {a b:Nat}{x D:JU}(E:a<18446744073709551616)(H:b<18446744073709551616)(h:uint a ++ x=uint b ++ D):a=b/\x=D:=by
 have y:=oB E x;rw[h,oB H D] at y;simp only[Prod.mk.injEq,and_true] at y;obtain rfl:=y.1;exact⟨rfl,by simpa using h⟩
theorem u8_or128 (m:Nat):bits .or .u8 ((m:Int) % 256) 128=((nN (m % 128+128)).toNat:Int):=by
 rw[yL _ Jo];have D:(m:Int) % 256=((m % 256:Nat):Int):=Jo;rw[D];have:=u8_or_nat (m % 256) 128 Jo Jo;have E:(128:Int)=((128:Nat):Int):=rfl;rw[E,this];have H:∀y:Fin 256,y.val |||128=y.val % 128+128:=by decide+kernel
 have:=H ⟨m % 256,Jo⟩;simp only at this;rw[this];omega
theorem VW {m:Nat}(h:m<256):(m:Int)=((nN m).toNat:Int):=by
 rw[yL _ h]
theorem TY:(prog.info? 5).map (λi=>(i.zero,i.size,i.bytes))=some (some (.int .u8 0),1,1):=Jk
theorem eY (n:Nat)(w:JW)(h:n<18446744073709551616):
 JC 77 #[.int .u64 n] w λe w'=>e= .returned (.string (S (uint n)))/\Jz w w':=by
 have ab:∀w,(Instr.makeSlice 22 (Ji 0) (Ji 10)).run prog w= .ok (.slice (some (Jp w.heap.size 0)) 0 10) (w.alloc (.cells #[.int .u8 0,.int .u8 0,.int .u8 0,.int .u8 0,.int .u8 0,.int .u8 0,.int .u8 0,.int .u8 0,.int .u8 0,.int .u8 0] 5)):=λ_=>Jk;go_enter Tryz.func77,Tryz.ntmps77;go_wp2;go_loopw [0,3] (λE H wr=>∃y D,E= .int .u64 (y:Nat)/\uint n=D ++ uint y/\D.length+(uint y).length<=10/\wr.ownsRow w.heap.size 5 1 H D.length (cellsOf D)/\Jz w wr/\w.heap.size<=wr.heap.size) (λE _ _=>(intOf E).toNat)
 case atStart=>exact⟨n,[],rfl,rfl,by have:=bA h;simpa using this,World.ownsRow_made _ _ _ (ac _) Jd rfl,(ag _ _).alloc (ac _) _,Js⟩
 obtain⟨y,D,rfl,E,O,T,M,U⟩:=hrel;have J:=Jh E;clear E ab h;by_cases Y:128<=y
 ·have E:=tZ Y;have K:=Jh E;clear E;go_wp2_with (at_builtin;refine wpList_append_byte rfl _ _ 22 rfl 5 underlying22 TY w.heap.size _ D _ w _ _ _ (u8_or128 y) T rfl M U rfl Jo ?_;intro ad ae H X E V Z Q);go_roundw
  case rel=>exact⟨y / 128,D ++ [nN (y % 128+128)],by go_num,by rw[J.o,K.o];simp,by rw[K.o] at O;simp at O ⊢;omega,by simpa using H,E,V⟩
  simp[intOf];omega
 have aa:y<256:=Jo;have K:=fT (show y<128 by omega);have W:=Jh K;clear K;go_wp2_with (at_builtin;refine wpList_append_byte rfl _ _ 22 rfl 5 underlying22 TY w.heap.size _ D _ w _ _ _ (VW aa) T rfl M U rfl Jo ?_;intro ad ae H X E V Z Q;have K:=pW (P:=prog) (src:=22) (dst:=9) H underlying22 underlying5 underlying9 Q);go_ret;exact⟨Ck (by rw[J.o,W.o]),E⟩
theorem xG (n:Int)(w:JW)(y: -9223372036854775808<=n)(h1:n<=9223372036854775807):
 JC 336 #[Ji n] w λe w'=>e= .returned (.int .u64 (fh n))/\w=w':=by
 have D:=Jh (Lz y h1);clear y h1;go_enter Tryz.func336,Tryz.ntmps336;go_wp2;go_ret;exact⟨by rw[<-D.o];rfl,rfl⟩
theorem sQ (k:Nat)(w:JW)(h:k<18446744073709551616):
 JC 398 #[.int .u64 k] w λe w'=>e= .returned (Ji (bE k))/\w=w':=by
 have y:=Jh (Fe h);clear h;go_enter Tryz.func398,Tryz.ntmps398;go_wp2;go_ret;exact⟨by rw[<-y.o];rfl,rfl⟩
theorem wh (n:Int)(w:JW)(y: -9223372036854775808<=n)(h1:n<=9223372036854775807):
 JC 267 #[Ji n] w λe w'=>e= .returned (.string (S (uint (fh n))))/\Jz w w':=by
 have E:=jp y h1;go_enter Tryz.func267,Tryz.ntmps267;go_wp2_with fail;refine(xG n _ y h1).mono ?_;rintro e w' ⟨rfl,rfl⟩;go_wp2_with fail;refine(eY _ _ E).mono ?_;rintro e w' ⟨rfl,D⟩;go_wp2_with fail;go_ret;exact⟨rfl,D⟩
def text (l:JU):JU:=uint l.length ++ l
theorem ri (s:ByteArray)(w:JW)(h:s.size<1099511627776):
 JC 108 #[.string s] w λe w'=>e= .returned (.string (S (text s.data.toList)))/\Jz w w':=by
 have D:(S (uint s.size)).size<=10:=by rw[bH];exact bA Jo
 go_enter Tryz.func108,Tryz.ntmps108;go_wp2_with fail;refine(eY s.size _ Jo).mono ?_;rintro e w' ⟨rfl,y⟩;go_wp2_with fail;go_ret;exact⟨Ck (by rw[text,<-ef,FA,<-bX]),y⟩
theorem rj {R:Nat->Prop}{b:Nat}{y:TypeId}{tl:List Value}{l:JU}{w w':JW}(h:ue R b y tl l w)(E:Jz w w'):ue R b y tl l w':=by
 obtain⟨H,J,O,Q,K,D,M⟩:=h;exact⟨H,J,O,Q,K,(E.block b (Jl D)).trans D,M.below E⟩
def mz (c:UInt8):JU:=text [97] ++ text [c]
theorem BU (c:UInt8)(h1:97<=c.toNat)(h2:c.toNat<=122)(A:JA)(k:Nat)(w:JW)(hr:Rd w 2 A 1 (dR (kE c))):JC 50 #[.slice A 1 k] w λe w'=>e= .returned (.tuple #[.string (S (mz c)),Ji 0])/\Jz w w':=by
 have am:=Jh (um c h1 h2 A k w hr);have ao:=Jh hr;have aH:prog.follows .mixedOrders=true:=Jk;have ab:=Jh (show ∀(O:JU),O.length<=1000->∀K,JC 108 #[.string (S O)] K λe w'=>e= .returned (.string (S (text O)))/\Below K.heap.size K w' from λO aT K=>by
  have h1:=ri (S O) K (by rw[bH];omega)
  rwa [cW] at h1)
 have aR:(S (text [97])).size=2:=by rw[bH];unfold text uint;rfl
 have aS:(S (text [c])).size=2:=by rw[bH];unfold text uint;rfl
 go_enter Tryz.func50,Tryz.ntmps50;go_wp2_with fail;refine am.o.mono ?_;rintro e Q ⟨rfl,ae⟩;obtain⟨y,M⟩:=Je Q.heap.size;obtain⟨ax,aX,rfl,aV,aO,aP⟩:=BV (xs:=[kE c]) (n:=1) (by simpa using ao.o.below ae) (i:=0) Js;simp only[kE,bf,gG,dz] at aO aP;have ad:=Jh ae;have aW:ax<y:=Jo;obtain⟨E,aM,az,aK,aN,kl⟩:∃E,(Q.alloc (.cells #[.pointer none,Jn] 228)).alloc (.cells #[.string (S [97]),.string (S [c])] 115)=E/\Below y Q E/\E.heap.size=y+2/\E.heap[y]?=some (.cells #[.pointer none,Jn] 228 (0,0))/\
  E.heap[y+1]?=some (.cells #[.string (S [97]),.string (S [c])] 115 (0,0)):=by
  have D:=heap_alloc_new (Q.alloc (.cells #[.pointer none,Jn] 228)) (.cells #[.string (S [97]),.string (S [c])] 115);rw[aI,M] at D;refine⟨_,rfl,M▸cZ _ _ _,by simp[M],?_,D⟩;rw[<-M];exact(heap_alloc_old _ _ Js).trans (heap_alloc_new _ _)
 have aD:ue (λD=>D<=y) y 228 [] [] E:=kL aN jh Jo;have ap:=Jh aM;have ar:=Jh az;have J:=Jh aK;have U:=Jh kl;have av:=Jh aD;go_wp2_with fail;refine wp_loop_rounds 2 ?_;rw[rounds_succ];go_wp2_with fail;try simp only[ap.o]
 refine cB (n:=7) (S:=λw'=>w'.heap[y+1]?=some (.cells #[.string (S [97]),.string (S [c])] 115 (0,0))/\True) aH 7 rfl ⟨U.o,trivial⟩ (λW=>?_);refine JH 0 (hy:=by(intro w H;obtain⟨h1,h2⟩:=H;have X:=(aa h1 0).trans rfl;have Y:=(aa h1 1).trans rfl;go_simp)<;>with_reducible rfl) (h:=JH 1 (hy:=by(intro w H;obtain⟨h1,h2⟩:=H;have X:=(aa h1 0).trans rfl;have Y:=(aa h1 1).trans rfl;go_simp)<;>with_reducible rfl) (h:=JH 3 (hy:=by(intro w H;obtain⟨h1,h2⟩:=H;have X:=(aa h1 0).trans rfl;have Y:=(aa h1 1).trans rfl;go_simp)<;>with_reducible rfl) (h:=JH 4 (hy:=by(intro w H;obtain⟨h1,h2⟩:=H;have X:=(aa h1 0).trans rfl;have Y:=(aa h1 1).trans rfl;go_simp)<;>with_reducible rfl) (h:=?_))));refine JM 2 (h:=λZ T=>?_);go_simp;refine(ab.o [97] Js _).mono ?_;rintro V aQ ⟨rfl,aA⟩;have af:Jz E aQ:=aA.h;refine T.out _ _ ⟨(af.block (y+1) (Jw J.o)).trans U.o,trivial⟩ (λW=>?_);have au:=Jh af;try simp only[an,JY]
 refine JM 5 (h:=λZ T=>?_);go_simp;refine(ab.o [c] Js _).mono ?_;rintro V Z ⟨rfl,aB⟩;have ag:Jz E Z:=au.o.then aB;refine T.out _ _ ⟨(ag.block (y+1) (Jw J.o)).trans U.o,trivial⟩ (λW=>?_);have T:=Jh ag;try simp only[an,JY]
 refine JH 6 (h:=?_);refine cy Jk ?_;have aJ:gm (λD=>D<=y) Z:=λD W=>by have h1:=T.o.size;have h2:=J.o;have ay:D<=y:=W;omega
 have aE:=rj av.o T.o;have ai:S (text [97]) ++ S (text [c])=S (mz c):=ef _ _;have ak:=jt (λD=>D<=y) y 228 [] [] (S (mz c)) Z aE (by rw[<-ai];simp[aR,aS]) aJ;rw[cW] at ak;have aq:=Jh ak;go_wp2_with fail;try simp only[ai]
 refine aq.o.mono ?_;rintro V al ⟨⟨aY,rfl⟩,aF,ah,-⟩;have aC:Below y Q al:=(ar.o.trans (T.o.mono (Jw J.o))).trans (ah.below (ac _) λk aG=>by show k<=y;omega);have aj:=iC (λD=>D<=y) y 228 [] _ al aF (λD W=>by have h1:=T.o.size;have h2:=J.o;have ay:D<=y:=W;have aU:=ah.size;omega);rw[bi] at aj;have W:=Jh aj;have D:=Jh aC;go_wp2_with fail;rw[rounds_succ];go_wp2_with fail;refine W.o.mono ?_;rintro V aZ ⟨rfl,aL⟩;have aw:=Jh aL;go_wp2_with fail;go_ret2;exact⟨rfl,(ad.o.then (M▸D.o)).trans (aw.o.below λk aG=>by have:=ad.o.size;show k<=y;omega)⟩
section
def RV (v:Value):Option (DataW Value × List MemPlace):=some (.held v,[])
variable {P:Program}
def MapAt (P:Program)(k:TypeId)(w:JW)(b n:Nat)(D:Lit->Option Value):Prop:=
 ∃y:DataW Value,w.ownsMap P k RV b n y/\iL y=n/\(∀kl,(D kl).isSome=Maps.has y kl)/\∀kl E,D kl=some E->∀H,y.atKey kl H= .held E
open Classical in
noncomputable def od (D:Lit->Option Value)(k:Lit)(v:Value):Lit->Option Value:=λy=>if y=k then some v else D y
open Classical in
noncomputable def Fy (D:Lit->Option Value)(k:Lit):Lit->Option Value:=λy=>if y=k then none else D y
section
variable {k:TypeId} {w:JW} {b n:Nat} {M:Lit->Option Value}
theorem MapAt.made (w:JW):MapAt P k (w.alloc (.map #[] 0)) w.heap.size 0 (λ_=>none):=
 ⟨.map [],World.ownsMap_made w _ _ _,rfl,λ_=>rfl,λ_ _ y=>by cases y⟩
theorem MapAt.lt (h:MapAt P k w b n M):b<w.heap.size:=by
 obtain⟨D,y,-⟩:=h;exact y.lt
theorem MapAt.kept {w':JW}(h:MapAt P k w b n M)(T:w'.heap[b]?=w.heap[b]?):MapAt P k w' b n M:=by
 obtain⟨y,⟨H,E,J,D,U,Q⟩,K,O⟩:=h;exact⟨y,⟨H,E,T.trans J,D,U,Q⟩,K,O⟩
theorem MapAt.below {w':JW}(h:MapAt P k w b n M)(y:Jz w w'):MapAt P k w' b n M:=h.kept (y.block b h.lt)
theorem MapAt.ext {y:Lit->Option Value}(h:MapAt P k w b n M)(e:∀x,y x=M x):MapAt P k w b n y:=by
 have:y=M:=funext e
 rwa [this]
theorem MapAt.zero (h:MapAt P k w b n M)(Q:∀x,M x=none)(E:Maps.Keyed P k):n=0:=by
 obtain⟨T,H,J,K,-⟩:=h;obtain⟨y,rfl,-,O⟩:=H.entries E;cases y with
 |nil=>exact J.symm
 |cons p y=>
  have D:=K p.1;rw[Q,Maps.has_eq,List.any_cons,WideAt.sameKey_self (O p (az ..))] at D;cases D
variable {t e:TypeId} {z key:Value} {kl:Lit}
theorem MapAt.look (h:MapAt P k w b n M)(J:Maps.Keyed P k)(V:P.underlying t=some (.map k e))(X:(zeroValue e).run P w= .ok z w)(T:keyOf P k key=some kl):
 (eQ t (.map (some b)) key false).run P w= .ok ((M kl).getD z) w:=by
 obtain⟨H,K,-,O,Q⟩:=h;obtain⟨Z,aa,U,W⟩:=K.lookup J V X (zd:=.held z) (zp:=[]) rfl T;have y:DataW.held Z=H.atKey kl (.held z):=congrArg dQ (Option.some.inj W);rw[U];cases E:M kl with
 |some Y=>
  rw[Q kl Y E] at y;injection y with y;rw[y];rfl
 |none=>
  have D:=O kl;rw[E] at D;rw[Maps.atKey_of_not_has D.symm] at y;injection y with y;rw[y];rfl
theorem MapAt.xU (h:MapAt P k w b n M)(K:Maps.Keyed P k)(V:P.underlying t=some (.map k e))(X:(zeroValue e).run P w= .ok z w)(T:keyOf P k key=some kl):
 (eQ t (.map (some b)) key true).run P w= .ok (.tuple #[(M kl).getD z,.bool (M kl).isSome]) w:=by
 obtain⟨J,O,-,D,Q⟩:=h;obtain⟨Z,aa,U,W⟩:=O.look_ok K V X (zd:=.held z) (zp:=[]) rfl T;have y:DataW.held Z=J.atKey kl (.held z):=congrArg dQ (Option.some.inj W);rw[U,<-D kl];cases H:M kl with
 |some Y=>
  rw[Q kl Y H] at y;injection y with y;rw[y];rfl
 |none=>
  have E:=D kl;rw[H] at E;rw[Maps.atKey_of_not_has E.symm] at y;injection y with y;rw[y];rfl
theorem MapAt.len (h:MapAt P k w b n M)(E:P.underlying t=some (.map k e))(y:TypeId):(Builtin.len_ #[t] y #[.map (some b)]).run P w= .ok (Ji n) w:=by
 obtain⟨H,D,rfl,-⟩:=h;exact D.len E y
theorem MapAt.put (h:MapAt P k w b n M)(J:Maps.Keyed P k)(ai:P.underlying t=some (.map k e))(ae:n<maxLen)(T:keyOf P k key=some kl)(v:Value):
 ∃w',(Instr.mapUpdate t (.map (some b)) key v).run P w= .ok () w'/\MapAt P k w' b (if(M kl).isSome then n else n+1) (od M kl v)/\w.grownBy w' (some b)/\w'.heap.size=w.heap.size:=by
 obtain⟨H,E,aa,O,ab⟩:=h;have U:WideAt.IsKeyLit kl:=J.key T;obtain⟨w',ag,af,W⟩:=E.store J ai ae T (val:=v) (d:=.held v) (ps:=[]) rfl;have ad:=W.grown;have ah:w'.heap.size=w.heap.size:=by
  obtain⟨K,cl,D,y,-,rfl⟩:=W;simp[ChangeMaps.setBlock]
 have V:iL (H.put kl (.held v))=if(M kl).isSome then n else n+1:=by
  rw[Maps.size_put (E.tidy J),aa,O kl]
 refine⟨w',ag,⟨H.put kl (.held v),?_,V,λD=>?_,λD aj y ak=>?_⟩,ad,ah⟩
 ·obtain⟨K,Y,Z,X,al,Q⟩:=af;refine⟨K,Y,Z,X,?_,Q⟩;have:iL (H.put kl (.held v))=K.size:=by rw[Q];simp[iL,length_sorted]
  rw[<-this,V];exact ac _
 ·unfold od;by_cases y:D=kl
  ·subst y;rw[if_pos rfl,Maps.has_put_same E.isMap U];rfl
  rw[if_neg y,Maps.has_put_other y,O D]
 unfold od at y;by_cases K:D=kl
 ·subst K;rw[if_pos rfl] at y;rw[Maps.atKey_put_same E.isMap U,<-Option.some.inj y]
 rw[if_neg K] at y;rw[Maps.atKey_put_other K];exact ab D aj y ak
theorem MapAt.del (h:MapAt P k w b n M)(J:Maps.Keyed P k)(ag:P.underlying t=some (.map k e))(ab:keyOf P k key=some kl)(V:TypeId):
 ∃w',(Builtin.delete_ #[t,k] V #[.map (some b),key]).run P w= .ok (.tuple #[]) w'/\MapAt P k w' b (if(M kl).isSome then n - 1 else n) (Fy M kl)/\w.grownBy w' (some b)/\w'.heap.size=w.heap.size:=by
 obtain⟨E,K,Z,O,aa⟩:=h;obtain⟨w',ae,ad,U⟩:=K.drop J ag ab V;have af:w'.heap.size=w.heap.size:=by
  obtain⟨H,cl,D,y,-,rfl⟩:=U;simp[ChangeMaps.setBlock]
 have T:iL (E.del kl)=if(M kl).isSome then n - 1 else n:=by
  have y:=Maps.size_del (k:=kl) (K.tidy J);rw[<-O kl,Z] at y;cases D:(M kl).isSome<;>simp[D] at y ⊢ <;>omega
 refine⟨w',ae,⟨E.del kl,?_,T,λD=>?_,λD ah y ai=>?_⟩,U.grown,af⟩
 ·obtain⟨H,X,Y,W,aj,Q⟩:=ad;refine⟨H,X,Y,W,?_,Q⟩;have:iL (E.del kl)=H.size:=by rw[Q];simp[iL,length_sorted]
  rw[<-this,T];exact ac _
 ·unfold Fy;by_cases y:D=kl
  ·subst y;rw[if_pos rfl,Maps.has_del_same];rfl
  rw[if_neg y,Maps.has_del_other y,O D]
 unfold Fy at y;by_cases H:D=kl
 ·rw[if_pos H] at y;cases y
 rw[if_neg H] at y;rw[Maps.atKey_del_other H];exact aa D ah y ai
def kJ (P:Program)(k:TypeId)(w:JW)(b r n:Nat)(D:Lit->Option Value)(left:Lit->Bool)(cnt:Nat):Prop:=
 ∃y:DataW Value,w.ranges P k RV b r n y left cnt/\(∀H,left H=true->(D H).isSome=true)/\iL y=n/\(∀kl,(D kl).isSome=Maps.has y kl)/\∀kl E,D kl=some E->∀z,y.atKey kl z= .held E
theorem kJ.owns {r:Nat}{left:Lit->Bool}{cnt:Nat}(h:kJ P k w b r n M left cnt):MapAt P k w b n M:=by
 obtain⟨y,D,-,E⟩:=h;exact⟨y,D.owns,E⟩
theorem kJ.left {r:Nat}{left:Lit->Bool}{cnt:Nat}(h:kJ P k w b r n M left cnt):w.rangeLeft b r=cnt:=by
 obtain⟨D,y,E⟩:=h;exact y.left_eq
theorem kJ.lt {r:Nat}{left:Lit->Bool}{cnt:Nat}(h:kJ P k w b r n M left cnt):r<w.heap.size:=by
 obtain⟨D,y,E⟩:=h;exact y.lt
theorem kJ.kept {w':JW}{r:Nat}{left:Lit->Bool}{cnt:Nat}(h:kJ P k w b r n M left cnt)(U:w'.heap[b]?=w.heap[b]?)(hr:w'.heap[r]?=w.heap[r]?):kJ P k w' b r n M left cnt:=by
 obtain⟨y,⟨J,H,Y,X,E,K,D,V,T,O,W⟩,Q⟩:=h;exact⟨y,⟨J,H,Y,X,E,U.trans K,D,V,T,hr.trans O,W⟩,Q⟩
theorem kJ.Z {r:Nat}{left:Lit->Bool}{cnt:Nat}(h:kJ P k w b r n M left cnt){cs:Array Value}{t:TypeId}{f:Nat × Nat}(hc:w.heap[r]?=some (.cells cs t f)):False:=by
 obtain⟨D,⟨K,J,X,W,H,O,E,U,T,y,V⟩,Q⟩:=h;rw[hc] at y;cases y
theorem MapAt.range (h:MapAt P k w b n M)(H:Maps.Keyed P k)(V:P.underlying t=some (.map k e)):
 ∃w',(Instr.range t (.map (some b))).run P w= .ok (Jv w.heap.size) w'/\kJ P k w' b w.heap.size n M (λx=>(M x).isSome) n/\w.grownBy w' none/\w'.heap.size=w.heap.size+1:=by
 obtain⟨y,J,D,E,K⟩:=h;obtain⟨w',T,Q,O,U⟩:=J.range H V;refine⟨w',T,⟨y,?_,λ_ h=>h,D,E,K⟩,O,U⟩;rw[D] at Q
 rwa [show(λx=>(M x).isSome)=Maps.has y from funext E]
theorem kJ.next {r:Nat}{left:Lit->Bool}{cnt:Nat}(h:kJ P k w b r n M left cnt)(W:Maps.Keyed P k)(J:TypeId):
 (cnt=0/\(∀kl,left kl=false)/\(Instr.next (Jv r) false J).run P w= .ok (.tuple #[.bool false]) w)∨
 ∃D v kl w' E,keyOf P k D=some kl/\left kl=true/\M kl=some v/\(Instr.next (Jv r) false J).run P w= .ok (.tuple #[.bool true,D,v]) w'/\
  kJ P k w' b r n M (λx=>left x && !x.sameKey kl) E/\E<cnt/\w.grownBy w' (some r)/\w'.heap.size=w.heap.size/\(Instr.entry (Jv r)).run P w'= .ok (.tuple #[D,v]) w':=by
 obtain⟨V,Z,Q,aa,ab,K⟩:=h;rcases Z.next W J with⟨Y,ag,H⟩|⟨D,v,kl,am,w',E,af,T,ak,ac,H,ai,ah,ae,aj,ad⟩
 ·exact .inl ⟨Y,ag,H⟩
 refine .inr ⟨D,v,kl,w',E,af,T,?_,H,⟨V,ai,λx y=>Q x (by simp at y;exact y.1),aa,ab,K⟩,ah,ae,aj,ad⟩;have O:=Q kl T;cases U:M kl with
 |none=>rw[U] at O;cases O
 |some al=>
  have y:=K kl al U (.held undef);rw[ac] at y;have X:am.1= .held v:=(congrArg dQ (Option.some.inj ak)).symm;rw[X] at y;injection y with y;rw[y]
end
end
def iB (i:Nat):UInt8:=dw (97+i)
theorem iI {i:Nat}(h:i<100):(iB i).toNat=97+i:=by
 unfold iB;rw[eH];exact fS Jo
theorem BX {i j:Nat}(hi:i<100)(D:j<100)(h:iB i=iB j):i=j:=by
 have y:=congrArg UInt8.toNat h;rw[iI hi,iI D] at y;omega
theorem Eg {a b:UInt8}(h:mz a=mz b):a=b:=by
 unfold mz text uint at h;simpa using h
def uF:Lit->Option JU
 | .string y=>some y
 |_=>none
theorem rC {k:Lit}{l:JU}(h:uF k=some l):k= .string l:=by
 unfold uF at h;split at h
 ·rw[Option.some.inj h]
 cases h
def oF (N:Nat)(k:Lit):Option Value:=(uF k).bind λD=>((aL N).find? λy=>decide (mz (iB y)=D)).map λy=>.int .i64 y
theorem qM {N i:Nat}(hi:i<100)(M:N<=100):oF N (.string (mz (iB i)))=if i<N then some (.int .i64 i) else none:=by
 unfold oF uF;rw[bW];by_cases E:i<N
 ·rw[if_pos E];cases D:(aL N).find? λy=>decide (mz (iB y)=mz (iB i)) with
  |none=>exact absurd (List.find?_eq_none.1 D i (List.mem_range.2 E)) Js
  |some y=>
   have J:=List.mem_range.1 (cL D);have H:mz (iB y)=mz (iB i):=by simpa using eN D
   obtain rfl:=BX Jo hi (Eg H);rfl
 rw[if_neg E];have D:((aL N).find? λy=>decide (mz (iB y)=mz (iB i)))=none:=by
  rw[List.find?_eq_none];intro y K;have J:=List.mem_range.1 K;simp only[decide_eq_true_eq];intro H;have:=BX Jo hi (Eg H);omega
 rw[D];rfl
theorem Am {N:Nat}(J:N<100)(k:Lit):oF (N+1) k=od (oF N) (.string (mz (iB N))) (.int .i64 N) k:=by
 unfold od;by_cases y:k= .string (mz (iB N))
 ·rw[if_pos y,y,qM J Jo,if_pos Jo]
 rw[if_neg y];unfold oF;cases M:uF k with
 |none=>rfl
 |some O=>
  rw[bW,bW,dZ,List.find?_append];have H:([N].find? λD=>decide (mz (iB D)=O))=none:=by
   rw[List.find?_eq_none];intro D K;obtain rfl:D=N:=by simpa using K
   simp only[decide_eq_true_eq];intro E;exact y (by rw[E];exact rC M)
  rw[H,Option.or_none]
theorem ja:Maps.Keyed prog 9:=Maps.string_keyed underlying9
theorem kZ (l:JU)(h:l.length<=1000000):keyOf prog 9 (.string (S l))=some (.string l):=by
 have:=Go.WideMaps.keyOf_string_mk (P:=prog) underlying9 (s:=S l) (by rw[bH];unfold maxLen;omega)
 rwa [cW] at this
structure rW (F:Nat->Prop) (bx N:Nat) (w:JW):Prop where
 ex:∃O c bk bh n,w.heap[bx]?=some (.cells #[.slice O N c,.map (some bk),.map (some bh)] 195 (0,0))/\F bx/\F bk/\F bh/\bk≠bh/\n<=N/\MapAt prog 9 w bk n (oF N)
theorem rW.cells {F:Nat->Prop}{D N:Nat}{w:JW}(h:rW F D N w):∃E c y H n,w.cell? (Jp D 0)=some (.slice E N c)/\w.cell? (Jp D 1)=some (.map (some y))/\w.cell? (Jp D 2)=some (.map (some H))/\MapAt prog 9 w y n (oF N):=by
 obtain⟨E,c,y,H,n,J,-,-,-,-,-,K⟩:=h.ex;exact⟨E,c,y,H,n,(aa J 0).trans rfl,(aa J 1).trans rfl,(aa J 2).trans rfl,K⟩
theorem pm (F:Nat->Prop)(y N:Nat)(w:JW)(h:rW F y N w):JC 51 #[Jv y] w λe w'=>e= .returned (Ji N)/\w=w':=by
 obtain⟨D,J,H,E,M,K,-,-,-⟩:=h.cells;clear h;go_enter Tryz.func51,Tryz.ntmps51;go_wp2_with fail;go_ret;exact⟨rfl,rfl⟩
theorem vi (F:Nat->Prop)(K N i:Nat)(A:JA)(k:Nat)(w:JW)(h:rW F K N w)(hi:i<8)(ad:N<=8)(hr:Rd w 2 A 1 (dR (kE (iB i)))):JC 49 #[Jv K,.slice A 1 k] w λe w'=>
 e= .returned (.tuple #[Ji (if i<N then(i:Int) else -1),.bool (decide (i<N))])/\Jz w w':=by
 obtain⟨W,Z,Y,X,ae,aa,V,ab,D⟩:=h.cells;have O:=Jh (BU (iB i) (by rw[iI Jo];omega) (by rw[iI Jo];omega) A k w hr);have Q:=Jh D;have y:=qM (N:=N) (i:=i) Jo Jo;have E:=kZ (mz (iB i)) (by unfold mz text uint;simp);have H:=Jh y;have U:=Jh E;clear h hr D y E;by_cases D:i<N;all_goals
  first
  |(have y:=H.o;rw[if_pos D] at y ⊢;rw[decide_eq_true D];have J:=Jh y;clear y)
  |(have y:=H.o;rw[if_neg D] at y ⊢;rw[decide_eq_false D];have J:=Jh y;clear y)
  clear H D;go_enter Tryz.func49,Tryz.ntmps49;go_wp2_with fail;refine O.o.mono ?_;rintro e af ⟨rfl,E⟩;have ac:=al E V;have M:=(Q.o.below E).xU (t:=122) (z:=Ji 0) ja underlying122 Jk U.o;rw[J.o] at M;simp only[fu,gN,Option.isSome_some,gU] at M;have T:=Jh E;clear E;go_wp2_with fail;go_ret2;exact⟨rfl,T.o⟩
section
open Go Go.RowKit Go.Deep Go.ChangeShapes Go.WideShapes
structure ar where
 T:Int
 V:Int
def In64 (n:Int):Prop:=-9223372036854775808<=n/\n<=9223372036854775807
def ar.ok (r:ar):Prop:=In64 r.T/\In64 r.V
def ay (r:ar):List Value:=[Ji r.T,Ji r.V]
theorem dy (r:ar):(ay r).length=2:=rfl
theorem ez {w:JW}{A:JA}{n:Nat}{xs:List ar}(h:Rd w 2 A n (xs.flatMap ay)){i:Nat}(hi:i<xs.length):
 ∃b y,A=some (Jp b y)/\b<w.heap.size/\w.cell? (Jp b (y+i*2))=some (Ji xs[i].T)/\w.cell? (Jp b (y+i*2+1))=some (Ji xs[i].V):=by
 obtain⟨b,y,E,H,D⟩:=h.elem dy Jd hi;exact⟨b,y,E,H,D 0 _ rfl,by have:=D 1 _ rfl;rwa [<-aV] at this⟩
section
variable {H:Type} {enc:TypeId × Value->H} {w:JW}
end
def jZ (l:List ar):Prop:=(∀D∈l,0<=D.T/\D.T<1099511627776)/\∀y,(h:y+1<l.length)->(l[y]'Jo).T<l[y+1].T
def ib (l:List ar)(i:Nat):ar:=l.getD i ⟨0,0⟩
theorem fM {l:List ar}{i:Nat}(h:i<l.length):ib l i=l[i]:=by unfold ib;rw[bQ,aT h];rfl
def dist (l:List ar)(i:Nat):Int:=(ib l (i+1)).T - (ib l i).T
def ahead (l:List ar):Nat->Int
 |0=>0
 |i+1=>dist l i
def jz (n:Int):Int:=IntKind.i64.wrap n
theorem ud (n:Int):In64 (jz n):=by unfold jz In64;rw[aB];omega
def mf (l:List ar)(i:Nat):Nat × Nat:=(fh (dist l i - ahead l i),fh (jz ((ib l (i+1)).V - (ib l i).V)))
def nums (l:List ar):List (Nat × Nat):=(aL (l.length - 1)).map (mf l)
theorem nums_length (l:List ar):(nums l).length=l.length - 1:=by simp[nums]
theorem qU {l:List ar}{i:Nat}(h:i<(nums l).length):(nums l)[i]=mf l i:=by simp[nums]
theorem Mi {l:List ar}{i:Nat}(h:i+1<l.length):(nums l).take (i+1)=(nums l).take i ++ [mf l i]:=by
 have y:i<(nums l).length:=by rw[nums_length];omega
 rw[aO y,qU]
theorem vZ {l:List ar}(h:jZ l){i:Nat}(hi:i+1<l.length):0<dist l i/\dist l i<1099511627776:=by
 have y:=h.2 i hi;have D:=h.1 _ (ah hi);have E:=h.1 _ (ah (show i<l.length by omega));unfold dist;rw[fM hi,fM Jo];omega
theorem wP {l:List ar}(h:jZ l){i:Nat}(hi:i<l.length):0<=ahead l i/\ahead l i<1099511627776:=by
 cases i with
 |zero=>exact⟨gg _,(by decide:(0:Int)<1099511627776)⟩
 |succ i=>have:=vZ h hi;exact⟨Int.le_of_lt this.1,this.2⟩
theorem Cd {l:List ar}(h:jZ l){i:Nat}(hi:i+1<l.length):(mf l i).1<18446744073709551616/\(mf l i).2<18446744073709551616:=by
 have D:=vZ h hi;have E:=wP h (show i<l.length by omega);have y:=ud ((ib l (i+1)).V - (ib l i).V);exact⟨jp Jo Jo,jp y.1 y.2⟩
end
section
open Go Go.RowKit Go.Shelf
attribute [local go_sem] Oper.semAt_some
theorem Et (A:JA)(n c:Nat)(w:JW):
 JC 330 #[.slice A n c] w λe w'=>e= .returned (.func (.func 378) #[] #[Jv w.heap.size])/\w'=w.alloc (.cells #[.slice A n c] 66):=by
 go_enter Tryz.func330,Tryz.ntmps330;go_wp2_with fail;go_ret;exact⟨rfl,rfl⟩
def Rr (n₀ Bn:Nat)(D E:JW):Prop:=D.heap.size<=E.heap.size/\∀y,y<n₀∨y=Bn->E.heap[y]?=D.heap[y]?
theorem Rr.trans {n₀ Bn:Nat}{A B C:JW}(h:Rr n₀ Bn A B)(k:Rr n₀ Bn B C):Rr n₀ Bn A C:=⟨ap h.1 k.1,λD y=>(k.2 D y).trans (h.2 D y)⟩
theorem DX (w:JW)(n:Nat)(row:Option Nat):w.grownBy (w.drewN n) row:=⟨rfl,rfl,rfl,ac _,λ_ _ _=>rfl⟩
theorem zh (n:Nat)(n₀ Bn:Nat)(A:JA)(c:Nat)(l:List ar)(w:JW)(bp:n₀<=w.heap.size)(aN:Bn<w.heap.size)(aQ:w.cell? (Jp Bn 0)=some (.slice A l.length c))
 (y:Rd w 2 A l.length (l.flatMap ay)) (hA:∀b D,A=some (Jp b D)->b<n₀) (J:jZ l) (h1:2<=l.length) (bn:l.length<=5000) (hc:l.length<=c) (H:c<=maxLen):
 SeqStopsK dI n prog 378 #[Jv Bn] (λx:Nat × Nat=>#[.int .u64 (x.1:Int),.int .u64 (x.2:Int)]) (Rr n₀ Bn)
  (λxs=>xs=nums l) (λaT=>aT<+:nums l) (l.length - 1) w:=λE Z Jx K ae ax az aA aM=>by
 refine callsIn_of_wp Tryz.func378 rfl trivial ?_ rfl;simp only[Tryz.ntmps378,cJ,ak,aX,bM,dC,bY,bZ,cT,cz,bi,aY];obtain⟨b,D,rfl,bj,E⟩:=y.2 Jo;have aD:=y.below ae;have aP:=hA b D rfl;have aR:K.cell? (Jp Bn 0)=some (.slice (some (Jp b D)) l.length c):=(ae.cell (p:=(Jp Bn 0)) aN).trans aQ;have bk:¬c=1:=Jo;have bq:=ae.size;have aj:=Jh ax;have aV:=Jh az;have aI:=Jh aA;have am:=Jh J;have aU:=Jh hA;have aW:=Jh E;have aZ:=Jh H;clear ax az aA J hA E y H;gi_wp2;gi_loopw [3,10] (λH E wr=>∃y:Nat,E=Ji y/\y<=l.length - 1/\H=Ji (ahead l y)/\Z ((nums l).take y) wr/\Rr n₀ Bn K wr) (λ_ E _=>l.length - (intOf E).toNat)
 case atStart=>exact⟨0,rfl,Jo,rfl,aM,ac _,λ_ _=>rfl⟩
 obtain⟨y,rfl,bl,rfl,W,X⟩:=hrel;by_cases bo:y<l.length - 1;rotate_left
 ·obtain rfl:y=l.length - 1:=Jo;have O:=Jh W;clear W;gi_wp2;go_end0;have H:(nums l).take (l.length - 1)=nums l:=aw (by rw[nums_length];exact ac _);rw[H] at O;exact⟨⟨_,rfl⟩,.inl ⟨_,rfl,O.o⟩⟩
 have J:wr.heap[b]?=K.heap[b]?:=X.2 b (.inl aP);have aE:wr.heap[Bn]?=K.heap[Bn]?:=X.2 Bn (.inr rfl);have aB:=(af (a:=(Jp Bn 0)) aE).trans aR;obtain⟨aa,ai,au,_,ap,aq⟩:=ez aD (show y<l.length by omega);obtain⟨rfl,rfl⟩:b=aa/\D=ai:=by simpa using au
 obtain⟨aa,ai,av,_,an,ao⟩:=ez aD (show y+1<l.length by omega);obtain⟨rfl,rfl⟩:b=aa/\D=ai:=by simpa using av
 have ab:=(af (a:=(Jp b (D+y*2))) J).trans ap;have ad:=(af (a:=(Jp b (D+y*2+1))) J).trans aq;have Q:=(af (a:=(Jp b (D+(y+1)*2))) J).trans an;have U:=(af (a:=(Jp b (D+(y+1)*2+1))) J).trans ao;rw[<-fM] at ab ad Q U;rw[show D+(y+1)*2=D+2+y*2 by omega] at Q U;have aS:=vZ am.o (show y+1<l.length by omega);have aO:=wP am.o (show y<l.length by omega);have bt:IntKind.i64.wrap ((ib l (y+1)).T - (ib l y).T)=dist l y:=bC _ (by have:dist l y=(ib l (y+1)).T - (ib l y).T:=rfl;omega);obtain⟨Y,ah⟩:=Je (dist l y - ahead l y);have bu:IntKind.i64.wrap (dist l y - ahead l y)=Y:=(bC _ Jo).trans ah;have bv:IntKind.i64.wrap ((ib l (y+1)).V - (ib l y).V)=jz ((ib l (y+1)).V - (ib l y).V):=rfl;have ag:=ud ((ib l (y+1)).V - (ib l y).V);have aG:=Jh (λw=>(xG Y w Jo Jo).mono λH M(E:H=_/\w=M)=>(⟨E.1,E.2.symm⟩:H=_/\M=w));have aH:=Jh (λw=>(xG (jz ((ib l (y+1)).V - (ib l y).V)) w ag.1 ag.2).mono λH M(E:H=_/\w=M)=>(⟨E.1,E.2.symm⟩:H=_/\M=w));have aC:mf l y=(fh Y,fh (jz ((ib l (y+1)).V - (ib l y).V))):=by rw[<-ah];rfl
 have E:=Mi (show y+1<l.length by omega);rw[aC] at E;have M:ahead l (y+1)=dist l y:=rfl;have aK:=Jh M;have aL:=Jh E;have O:=Jh W;have al:=Jh X;clear aS aO ag aC ah M E W X J aE au av ap aq an ao;generalize jz ((ib l (y+1)).V - (ib l y).V)=aO at*;generalize (ib l (y+1)).T=ag at*;generalize (ib l (y+1)).V=ah at*;generalize (ib l y).T=aC at*;generalize (ib l y).V=aE at*;generalize dist l y=a8 at*;obtain⟨E,an,bb,bc,bd,be,bf,bg,bh,ap,au⟩:∃E,wr.alloc (.cells #[Ji ag,Ji ah] 113)=E/\E.cell? (Jp b (D+y*2))=some (Ji aC)/\E.cell? (Jp b (D+y*2+1))=some (Ji aE)
  /\E.cell? (Jp b (D+2+y*2))=some (Ji ag)/\E.cell? (Jp b (D+2+y*2+1))=some (Ji ah)/\E.cell? (Jp Bn 0)=some (.slice (some (Jp b D)) l.length c)
  /\E.cell? (Jp wr.heap.size 0)=some (Ji ag)/\E.cell? (Jp wr.heap.size 1)=some (Ji ah)/\Jq (Z ((nums l).take y) E)/\Jq (Rr n₀ Bn K E):=
  ⟨_,rfl,bO _ ab,bO _ ad,bO _ Q,bO _ U,bO _ aB,Js,Js,Jh (aj.o _ _ _ none O.o (World.grownBy_alloc wr _ none) (λao H=>by cases H)),
   Jh (al.o.trans ⟨Js,λJ M=>aJ wr _ J (by
    have:=al.o.1;rcases M with M|rfl
    ·omega
    omega)⟩)⟩
 gi_wp2;generalize wr.heap.size=aS at*;clear an aB ab ad Q U;refine wpIn_wide.2 ?_;go_quiet (fail);gi_wp2;have aB:(prog).follows .mixedOrders=true:=Jk;have aq:Jq (∀J,Z ((nums l).take y) (E.drewN J)):=Jh λJ=>aj.o _ _ _ none ap.o (DX _ _ _) (λao H=>by cases H);have av:Jq (∀J,Rr n₀ Bn K (E.drewN J)):=Jh λJ=>au.o.trans ⟨ac _,λ_ _=>rfl⟩;refine mj Ae 14 aB (pt Jk) Jk ?_;simp only[dN,ff,dr,fe];have bm:y<l.length:=Jo
 iterate 4 still_step
 still_call aG.o _
 iterate 8 still_step
 still_call aH.o _
 refine wpStill_nil ?_;obtain⟨ba,br,a6,a7,Q,M⟩:=aI.o ((nums l).take y) (fh Y,fh aO) (E.drewN (nq+1)) (aq.o _) (by rw[aF,nums_length];omega);rw[<-aL.o] at M;dsimp only at Q;gi_wp2;first|refine⟨λH=>(by cases H),M.mono ?_⟩|refine M.mono ?_
 rintro H a1 (⟨rfl,U,ad⟩|⟨rfl,ab⟩)
 ·have an:=Jh U;have ao:=Jh ad;clear U ad M Q;gi_wp2;refine⟨⟨y+1,rfl,Jo,by rw[aK.o],an.o,((av.o _).trans ao.o)⟩,?_⟩;simp[intOf];omega
 have an:=Jh ab;clear ab M Q;gi_wp2;refine bodyPost_ret (results_none rfl _ _ _) rfl ?_;exact⟨⟨_,rfl⟩,.inr ⟨_,List.take_prefix _ _,an.o⟩⟩
end
def gV (n b:Nat):List Bool:=(aL b).map λy=>n.testBit (b - 1 - y)
theorem dB (n b:Nat):(gV n b).length=b:=by simp[gV]
def lU (n k:Nat):List Bool:=if 24<=n / 2 ^ k then cm 24 true ++ gV n 64 else cm (n / 2 ^ k) true ++ [false] ++ gV n k
def il (n k:Nat):Nat:=if n / 2 ^ k<24 then n / 2 ^ k+1+k else 88
theorem oY (n k:Nat):(lU n k).length=il n k:=by
 unfold lU il;split<;>split<;>simp[dB]<;>omega
theorem FQ {n k:Nat}(y:k<=40):il n k<=88:=by unfold il;split<;>omega
theorem vf {n k:Nat}(h:¬n / 2 ^ k<24):il n k=88:=by unfold il;rw[if_neg h]
theorem rZ {n k:Nat}(h:n / 2 ^ k<24):il n k=n / 2 ^ k+1+k:=by unfold il;rw[if_pos h]
def gn (l:List Nat)(k:Nat):Nat:=(l.map λy=>il y k).sum
theorem FP (l:List Nat)(x k:Nat):gn (l ++ [x]) k=gn l k+il x k:=by simp[gn]
theorem xj {k:Nat}(y:k<=40):∀l:List Nat,gn l k<=88*l.length:=by
 intro l;induction l with
 |nil=>simp[gn]
 |cons x l D=>
  have:=FQ (n:=x) y;simp[gn] at D ⊢;omega
def iF (l:List Nat):Nat->Nat
 |0=>0
 |j+1=>if gn l (j+1)<gn l (iF l j) then j+1 else iF l j
theorem sY (l:List Nat):∀j,iF l j<=j:=by
 intro j;induction j with
 |zero=>simp[iF]
 |succ j y=>simp only[iF];split<;>omega
theorem rP (x k:Nat):(x:Int) / 2 ^ k=((x / 2 ^ k:Nat):Int):=by norm_cast
def fx (l:List Nat):List Value:=l.map λ(y:Nat)=>.int .u64 (y:Int)
theorem Il {w:JW}{A:JA}{l:List Nat}(h:Rd w 1 A l.length (fx l)){i:Nat}(hi:i<l.length):
 ∃b y,A=some (Jp b y)/\b<w.heap.size/\w.cell? (Jp b (y+i))=some (.int .u64 (l[i]:Int)):=by
 obtain⟨b,y,D,E,H⟩:=h.2 Jo;exact⟨b,y,D,E,H i _ (by simp[fx,hi])⟩
theorem PQ {l:List Nat}{i:Nat}(hi:i<l.length):l.take (i+1)=l.take i ++ [l[i]]:=by
 rw[aO hi]
theorem IV (A:JA)(c:Nat)(l:List Nat)(k:Nat)(w:JW)(hr:Rd w 1 A l.length (fx l))(af:l.length<=5000)(W:k<=40)(O:∀x∈l,x<18446744073709551616):
 JC 379 #[.slice A l.length c,Ji k] w λe w'=>e= .returned (Ji (gn l k))/\Jz w w':=by
 have ac:=Jf ((k:Int)<0);have ad:=Jf ((40:Int)<(k:Int));have ae:(k:Int)<=40:=Jo;have U:=Jh O;clear O;go_enter Tryz.func379,Tryz.ntmps379;go_wp2;go_loopw [5,17] (λQ D wr=>∃y:Nat,D=Ji y/\y<=l.length/\Q=Ji (gn (l.take y) k:Nat)/\Jz w wr) (λ_ D _=>l.length - (intOf D).toNat)
 case atStart=>exact⟨0,rfl,Jo,rfl,ag _ _⟩
 obtain⟨y,rfl,ab,rfl,D⟩:=hrel;by_cases H:y<l.length;rotate_left
 ·obtain rfl:y=l.length:=Jo;rw[fq];go_wp2_with fail;go_ret;exact⟨rfl,D⟩
 obtain⟨X,al,rfl,Z,Y⟩:=Il (hr.below D) H;have M:=FP (l.take y) l[y] k;rw[<-PQ H] at M;have J:=Jh M;have V:=xj W (l.take y);have ak:=U.o _ (ah H);rw[aF] at V;have aa:gn (l.take y) k<=440000:=Jo;generalize gn (l.take y) k=Q at*;generalize l[y]=x at*;have aj:=rP x k;by_cases K:x / 2 ^ k<24
 ·have E:=Jh (rZ K);generalize x / 2 ^ k=T at*;go_wp2_with fail;go_roundw
  case rel=>exact⟨y+1,by go_num,Jo,by rw[J.o,E.o];go_num,D⟩
  simp[intOf];omega
 have E:=Jh (vf K);generalize x / 2 ^ k=T at*;have ai:=Jf ((T:Int)<24);go_wp2_with fail;go_roundw
 case rel=>exact⟨y+1,by go_num,Jo,by rw[J.o,E.o];go_num,D⟩
 simp[intOf];omega
theorem kQ {w:JW}{b k j:Nat}{v:Value}(h:k≠b):(w.setCell (Jp b j) v).heap[k]?=w.heap[k]?:=ae w (Jp b j) v k h
theorem wH {w:JW}{b:Nat}{u v:Value}{t:TypeId}(h:w.heap[b]?=some (.cells #[u] t (0,0))):(w.setCell (Jp b 0) v).heap[b]?=some (.cells #[v] t (0,0)):=by
 simp[aj,aA,h]
theorem rl {w w':JW}{b:Nat}{o:Obj}(h:Jz w w')(y:w.heap[b]?=some o):w'.heap[b]?=some o:=
 (h.block b (Jl y)).trans y
def Tried (D y le:Nat)(v:Value)(b E:Nat)(w:JW):Prop:=
 w.heap[D]?=some (.cells #[v] 447 (0,0))/\w.heap[y]?=some (.cells #[Ji b] 3 (0,0))/\w.heap[le]?=some (.cells #[Ji E] 3 (0,0))
theorem Tried.kept {E D le:Nat}{v:Value}{b H:Nat}{w w':JW}(h:Tried E D le v b H w)(y:Jz w w'):Tried E D le v b H w':=
 ⟨rl y h.1,rl y h.2.1,rl y h.2.2⟩
theorem Ty (B K D le:Nat)(A:JA)(c:Nat)(l:List Nat)(i b J:Nat)(w:JW)(T:Tried K D le (.slice A l.length c) b J w)(W:D≠le)(ac:K≠D)(ad:K≠le)(h1:B<=D)(h2:B<=le)(hB:B<=w.heap.size)
 (hr:Rd w 1 A l.length (fx l)) (Z:l.length<=5000) (y:∀x∈l,x<18446744073709551616) (hi:i<=40):
 JC 380 #[Ji i,Jv K,Jv le,Jv D] w λe w'=>e= .returned (.tuple #[])/\
  Tried K D le (.slice A l.length c) (if gn l i<J then i else b) (if gn l i<J then gn l i else J) w'/\Below B w w':=by
 have O:=Jh (IV A c l i w hr Z hi y);have p0:w.cell? (Jp K 0)=some (.slice A l.length c):=by rw[aa T.1];rfl
 have U:=Jh T;obtain⟨x,E⟩:∃x,x=gn l i:=⟨_,rfl⟩;rw[<-E] at O ⊢;have ab:le≠D:=λe=>W e.symm;clear hr y T E;by_cases V:x<J
 ·simp only[if_pos V];go_enter Tryz.func380,Tryz.ntmps380;go_wp2_with fail;refine O.o.mono ?_;rintro e E ⟨rfl,H⟩;have y:=U.o.kept H;have ae:E.cell? (Jp D 0)=some (Ji b):=by rw[aa y.2.1];rfl
  have af:E.cell? (Jp le 0)=some (Ji J):=by rw[aa y.2.2];rfl
  have X:E.frozen? (Jp D 0)=false:=aW y.2.1 0;have Y:E.frozen? (Jp le 0)=false:=aW y.2.2 0;have Q:Below B w E:=H.mono hB;have M:=Jh y;clear y H;go_wp2_with fail;go_end0;exact⟨rfl,⟨by rw[kQ ad,kQ ac];exact M.o.1,by rw[kQ W];exact wH M.o.2.1,wH (by rw[kQ ab];exact M.o.2.2)⟩,(Q.setCell (p:=(Jp D 0)) h1 _).setCell (p:=(Jp le 0)) h2 _⟩
 simp only[if_neg V];go_enter Tryz.func380,Tryz.ntmps380;go_wp2_with fail;refine O.o.mono ?_;rintro e E ⟨rfl,H⟩;have y:=U.o.kept H;have ae:E.cell? (Jp D 0)=some (Ji b):=by rw[aa y.2.1];rfl
 have af:E.cell? (Jp le 0)=some (Ji J):=by rw[aa y.2.2];rfl
 have X:E.frozen? (Jp D 0)=false:=aW y.2.1 0;have Y:E.frozen? (Jp le 0)=false:=aW y.2.2 0;have Q:Below B w E:=H.mono hB;have M:=Jh y;clear y H;go_wp2_with fail;go_end0;exact⟨rfl,M.o,Q⟩
theorem CV (A:JA)(c:Nat)(l:List Nat)(w:JW)(hr:Rd w 1 A l.length (fx l))(V:l.length<=5000)(O:∀x∈l,x<18446744073709551616):
 JC 331 #[.slice A l.length c] w λe w'=>e= .returned (Ji (iF l 40))/\Jz w w':=by
 have W:=Jh (λD w y hr=>IV A c l D w hr V y O);have Q:=Jh hr;have ac:=Jh O;clear O hr;go_enter Tryz.func331,Tryz.ntmps331;have ah:∀(D:Fn)(first y:Array Value)(w:JW),(cO D first y).run prog w= .ok (.func D first y) w:=λ_ _ _ _=>rfl;go_wp2_with fail;refine(W.o 0 _ Jo (Q.o.below (Below.one _ _))).mono ?_;rintro e D ⟨rfl,y⟩;go_wp2_with fail;have ad:w.heap.size<D.heap.size:=by have:=y.size;simp at this;omega
 have E:=(y.X).then (cZ D (.cells #[Ji 0] 3) (.cells #[Ji (gn l 0:Nat)] 3));have H:Tried w.heap.size D.heap.size (D.heap.size+1) (.slice A l.length c) (iF l 0) (gn l (iF l 0)) ((D.alloc (.cells #[Ji 0] 3)).alloc (.cells #[Ji (gn l 0:Nat)] 3)):=by
  refine⟨?_,?_,?_⟩
  ·exact(aJ _ _ _ (by simp;omega)).trans ((aJ _ _ _ ad).trans (rl y (heap_alloc_new w _)))
  ·exact(aJ _ _ _ Js).trans (heap_alloc_new D _)
  have:=heap_alloc_new (D.alloc (.cells #[Ji 0] 3)) (.cells #[Ji (gn l 0:Nat)] 3);simp only[aI] at this;exact this
 have ab:=Jh H;have Z:=Jh E;clear H E y;go_loopw [6] (λE wr=>∃y:Nat,E=Ji (y+1:Nat)/\y<=40/\Tried w.heap.size D.heap.size (D.heap.size+1) (.slice A l.length c) (iF l y) (gn l (iF l y)) wr/\Jz w wr) (λE _=>41 - (intOf E).toNat)
 case atStart=>exact⟨0,rfl,Jo,ab.o,Z.o⟩
 obtain⟨y,rfl,af,J,H⟩:=hrel;by_cases ag:y<40
 ·have K:=Jh (Ty w.heap.size w.heap.size D.heap.size (D.heap.size+1) A c l (y+1) (iF l y) (gn l (iF l y)) _ J Jo Jo Jo Jo Jo H.size (Q.o.below H) V ac.o Jo);have T:(if gn l (y+1)<gn l (iF l y) then y+1 else iF l y)=iF l (y+1):=rfl;have U:(if gn l (y+1)<gn l (iF l y) then gn l (y+1) else gn l (iF l y))=gn l (iF l (y+1)):=by
   simp only[iF];split<;>rfl
  rw[T,U] at K;have Y:=Jh H;obtain⟨E,M⟩:∃E,E=y+1:=⟨_,rfl⟩;rw[<-M] at K;rw[show((y+1:Nat):Int)=(E:Int) by omega];have ae:(E:Int)<=40:=Jo;clear T U J H;have U:=Jh M;clear M;go_wp2_with fail;refine K.o.mono ?_;rintro e ai ⟨rfl,T,M⟩;go_wp2_with fail;go_roundw
  case rel=>exact⟨E,by go_num,Jo,T,Y.o.trans M⟩
  simp[intOf];omega
 obtain rfl:y=40:=Jo;have M:wr.cell? (Jp D.heap.size 0)=some (Ji (iF l 40:Nat)):=by rw[aa J.2.1];rfl
 have K:=Jh H;clear J H;go_wp2_with fail;go_ret;exact⟨rfl,K.o⟩
structure Gr (base:Nat) (g:List Nat) (v8 v9:Value) (xs ys:List Value) (W0 W:JW):Prop where
 st:cC (λk=>k<base) W0 W
 kp:KeepsOthers W0 W
 hb:base<=W.heap.size
 l8:bP (λk=>k<base∨v9.ownBlock=some k∨k∈g) 40 1 v8 xs.length xs W
 l9:bP (λk=>k<base∨v8.ownBlock=some k∨k∈g) 40 1 v9 ys.length ys W
 gl:∀k∈g,base<=k/\k<W.heap.size
theorem Gr.swap {base:Nat}{g:List Nat}{E v9:Value}{xs H:List Value}{D y:JW}(h:Gr base g E v9 xs H D y):Gr base g v9 E H xs D y:=⟨h.st,h.kp,h.hb,h.l9,h.l8,h.gl⟩
theorem Gr.UN {base:Nat}{g:List Nat}{J v9:Value}{xs K:List Value}{E D:JW}(h:Gr base g J v9 xs K E D):gm (λk=>k<base∨v9.ownBlock=some k∨k∈g) D:=λk H=>by
 rcases H with y|y|y
 ·have:=h.hb;omega
 ·exact(h.l9.1.lt k y).2
 exact(h.gl k y).2
theorem Gr.drew {base:Nat}{g:List Nat}{E v9:Value}{xs H:List Value}{D y:JW}(h:Gr base g E v9 xs H D y):Gr base g E v9 xs H D y.drew:=
 ⟨h.st.Y,⟨h.kp.size,h.kp.same⟩,h.hb,h.l8,h.l9,h.gl⟩
theorem Gr.build {base:Nat}{g:List Nat}{O v9:Value}{xs Q:List Value}{J H:JW}(h:Gr base g O v9 xs Q J H)(T:base<=J.heap.size)(u:Value):
 Gr base (H.heap.size :: g) O v9 xs Q J (H.alloc (.cells #[u] 40)):=by
 have M:Jz H (H.alloc (.cells #[u] 40)):=(ag _ _).alloc (ac _) _;refine⟨h.st.wQ (λE D=>ai D T) _,h.kp.trans (KeepsOthers.alloc _ _),by have:=h.hb;simp;omega,(h.l8.below M).shift ?_,(h.l9.below M).shift ?_,?_⟩
 ·intro E D K;rcases K with y|y|y
  ·exact h.l8.2 E D (.inl y)
  ·exact h.l8.2 E D (.inr (.inl y))
  rcases List.mem_cons.1 y with rfl|y
  ·exact absurd (h.l8.1.lt _ D).2 (iw _)
  exact h.l8.2 E D (.inr (.inr y))
 ·intro E D K;rcases K with y|y|y
  ·exact h.l9.2 E D (.inl y)
  ·exact h.l9.2 E D (.inr (.inl y))
  rcases List.mem_cons.1 y with rfl|y
  ·exact absurd (h.l9.1.lt _ D).2 (iw _)
  exact h.l9.2 E D (.inr (.inr y))
 intro E D;rcases List.mem_cons.1 D with rfl|D
 ·exact⟨h.hb,Js⟩
 have:=h.gl E D;exact⟨this.1,by simp;omega⟩
theorem qZ (D:JW)(u:Value):Rd (D.alloc (.cells #[u] 40)) 1 (some (Jp D.heap.size 0)) 1 [u]:=by
 refine⟨Js,λ_=>⟨_,0,rfl,Js,λE H y=>?_⟩⟩
 match E,y with
 |0,y=>
  obtain rfl:u=H:=by simpa using y
  simp
 |E+1,y=>simp at y
theorem Gr.append {base:Nat}{g:List Nat}{Q v9 K:Value}{xs V:List Value}{u:Value}{T E H:JW}(h:Gr base g Q v9 xs V T E)
 (Z:bP (λk=>k<base∨v9.ownBlock=some k∨k∈g) 40 1 K (xs.length+1) (xs ++ [u]) H) (J:cC (λk=>k<base∨v9.ownBlock=some k∨k∈g) E H)
 (Y:E.grownBy H Q.ownBlock) (W:K.ownBlock=Q.ownBlock∨∃g,K.ownBlock=some g/\E.heap.size<=g):Gr base g K v9 (xs ++ [u]) V T H:=by
 refine⟨h.st.trans (J.mono λk y=>.inl y),h.kp.trans (KeepsOthers.of_grownBy Y λaa ac D U=>?_),ap h.hb J.size,by rw[ab];exact Z,(h.l9.later λk y=>J.block k (.inr (.inl y))).shift ?_,λk y=>⟨(h.gl k y).1,ai (h.gl k y).2 J.size⟩⟩
 ·rcases h.l8.1.2 with⟨M,_⟩|⟨O,ad,ae,M,_,X,_⟩
  ·rw[M] at D;simp[aG] at D
  rw[M] at D;obtain rfl:O=aa:=by simpa [aG] using D
  rw[X] at U;obtain rfl:_=ac:=by simpa using U
  rfl
 intro k y U;rcases U with D|D|D
 ·exact h.l9.2 k y (.inl D)
 ·rcases W with M|⟨O,M,X⟩
  ·exact h.l9.2 k y (.inr (.inl (M.symm.trans D)))
  rw[M] at D;obtain rfl:O=k:=by simpa using D
  have:=(h.l9.1.lt _ y).2;omega
 exact h.l9.2 k y (.inr (.inr D))
theorem Kh {y D:JW}{G:Nat}{u:Value}(h:Rd y 1 (some (Jp G 0)) 1 [u])(E:D.heap[G]?=y.heap[G]?):Rd D 1 (some (Jp G 0)) 1 [u]:=by
 refine⟨h.1,λH=>?_⟩;obtain⟨J,T,K,M,O⟩:=h.2 H;obtain⟨rfl,rfl⟩:G=J/\0=T:=by simpa using K
 refine⟨_,_,rfl,?_,λH U Q=>(af (a:=(Jp G (0+H))) E).trans (O H U Q)⟩;exact(Array.getElem?_eq_some_iff.1 (E.trans (Array.getElem?_eq_getElem M))).1
theorem Gr.step {P:Program}{ag:Array Oper}{o:Oper}{a:Act}{J:Act->World->Prop}{U:Exit->Act->World->Prop}{T:Prop}(Z:o.guard=none)(s x:Operand)
 (ho:o.op=Op.call {callee:=fD gd,args:=#[s,x],argTypes:=#[447,447]}) (ae:P.underlying 447=some (.slice 40)) (aa:(P.info? 40).map (λi=>(i.zero,i.size,i.bytes))=some (some (.int .u64 0),1,8))
 {base:Nat} {g:List Nat} {H v9:Value} {xs Q:List Value} {u:Value} {K y:JW} (h:Gr base g H v9 xs Q K y) (ad:a.eval s=H) (G c:Nat) (af:a.eval x= .slice (some (Jp G 0)) 1 c) (ac:Rd y 1 (some (Jp G 0)) 1 [u]) (h1:u.oneCell'=true)
 (ah:xs.length<1099511627776)
 (Y:∀E D,Gr base g E v9 (xs ++ [u]) Q K D->(∀k∈g,D.heap[k]?=y.heap[k]?)->J (a.put o.dst E) D):
 if dD o (yielded ag a.tmps)=true then jx P o a y J U else T:=
 bN Z s x _ ho 40 (.int .u64 0) 1 8 ae aa rfl Jd (λk=>k<base∨v9.ownBlock=some k∨k∈g) xs.length xs H y h.l8 ad h.UN
  (some (Jp G 0)) 1 c [u] af ac (by intro ai O;simp at O;subst O;exact h1) Jm Jo
  (λE D V M W X=>Y E D (h.append V M W X) (λk ab=>M.block k (.inr (.inr ab))))
theorem Gr.later {base J:Nat}{g:List Nat}{M v9:Value}{xs O:List Value}{Q H E:JW}(h:Gr base g M v9 xs O Q H)(W:J<=base)(V:J<=E.heap.size)(T:∀k,M.ownBlock=some k->E.heap[k]?=H.heap[k]?)(U:∀k,v9.ownBlock=some k->E.heap[k]?=H.heap[k]?):
 Gr J [] M v9 xs O E E:=
 ⟨cC.refl _ _,fR _,V,(h.l8.later T).shift (λk D K=>by
  rcases K with y|y|y
  ·exact h.l8.2 k D (.inl Jo)
  ·exact h.l8.2 k D (.inr (.inl y))
  ·cases y),(h.l9.later U).shift (λk D K=>by
  rcases K with y|y|y
  ·exact h.l9.2 k D (.inl Jo)
  ·exact h.l9.2 k D (.inr (.inl y))
  cases y),λk D=>by cases D⟩
theorem Gr.PZ {base:Nat}{g:List Nat}{D v9:Value}{xs K:List Value}{H E:JW}(h:Gr base g D v9 xs K H E){k:Nat}(J:D.ownBlock=some k):base<=k:=by
 rcases et k base with y|y
 ·exact absurd (.inl y) (h.l8.2 k J)
 exact y
def Acc (J:TypeId)(base E H:Nat)(xs M:List Value)(w y:JW):Prop:=
 (∃D K,y.heap[E]?=some (.cells #[D] J (0,0))/\y.heap[H]?=some (.cells #[K] J (0,0))/\Gr base [] D K xs M y y)/\
  (∀D,D<base->D≠E->D≠H->y.heap[D]?=w.heap[D]?)/\y.os=w.os/\y.tape=w.tape/\y.output=w.output
theorem Gr.stored {Q:TypeId}{base y D:Nat}{g:List Nat}{J v9 af ag:Value}{xs V:List Value}{w E K:JW}(h:Gr base g J v9 xs V E K)(Y:y<base)(Z:D<base)(U:y≠D)
 (aa:E.heap[y]?=some (.cells #[af] Q (0,0))) (ab:E.heap[D]?=some (.cells #[ag] Q (0,0))) (hw:∀k,k<base->k≠y->k≠D->E.heap[k]?=w.heap[k]?) (ad:E.os=w.os) (ae:E.tape=w.tape) (ho:E.output=w.output):
 Acc Q base y D xs V w ((K.setCell (Jp y 0) J).setCell (Jp D 0) v9)/\KeepsOthers E ((K.setCell (Jp y 0) J).setCell (Jp D 0) v9):=by
 have W:=wH (v:=J) ((h.st.block y Y).trans aa);have X:=wH (v:=v9) ((kQ (v:=J) (j:=0) (fV U)).trans ((h.st.block D Z).trans ab));have T:∀k,k≠y->k≠D->((K.setCell (Jp y 0) J).setCell (Jp D 0) v9).heap[k]?=K.heap[k]?:=λk M O=>(kQ O).trans (kQ M);refine⟨⟨⟨J,v9,(kQ U).trans W,X,h.later (ac _) (by simp[aj];exact h.hb) (λk H=>T k (Jw (h.PZ H)) (Jw (h.PZ H))) (λk H=>T k (Jw (h.swap.PZ H)) (Jw (h.swap.PZ H)))⟩,?_,h.st.os.trans ad,h.st.tape.trans ae,h.st.output.trans ho⟩,(h.kp.trans (cU _ _ _)).trans (cU _ _ _)⟩;exact λk H M O=>(T k M O).trans ((h.st.block k H).trans (hw k H M O))
theorem Acc.kept {Y:TypeId}{base Q T:Nat}{xs ad:List Value}{w E O:JW}{row:Option Nat}(h:Acc Y base Q T xs ad w E)(ag:Q<base)(ah:T<base)(H:E.grownBy O row)(hr:∀r,row=some r->base<=r/\∃o:Obj,E.heap[r]?=some o/\o.isCells=false):Acc Y base Q T xs ad w O:=by
 obtain⟨⟨aq,ar,aj,ak,M⟩,D,an,ao,am⟩:=h;have low:∀y,y<base->O.heap[y]?=E.heap[y]?:=λy D=>H.block y (ai D M.hb) λJ=>Jw ((hr y J.symm).1);have Z:∀{W:Value}{ab:Nat}{ae:List Value}{X:Nat->Prop},bP X 40 1 W ab ae E->∀y,W.ownBlock=some y->O.heap[y]?=E.heap[y]?:=λ{W ab ae X} al y D=>by
  rcases al.1.2 with⟨J,_⟩|⟨U,au,av,J,_,aa,_⟩
  ·rw[J] at D;simp[aG] at D
  rw[J] at D;obtain rfl:U=y:=by simpa [aG] using D
  refine H.block U (Jl aa) λaf=>?_;obtain⟨_,o,K,V⟩:=hr U af.symm;rw[aa] at K;obtain rfl:_=o:=by simpa using K
  cases V
 refine⟨⟨aq,ar,(low _ ag).trans aj,(low _ ah).trans ak,M.later (ac _) (ap M.hb H.size) (Z M.l8) (Z M.l9)⟩,λy K V U=>(low y K).trans (D y K V U),H.os.trans an,H.tape.trans ao,H.output.trans am⟩
structure jw where
 L:JU
 a:Nat
 m:Nat
def jw.ok (s:jw):Prop:=s.m<8/\s.a<2 ^ s.m
def qi (R:Nat->Prop)(b:Nat)(s:jw)(w:JW):Prop:=ue R b 486 [.int .u64 s.a,Ji s.m] s.L w
def jw.put (s:jw)(n k:Nat):jw:=
 if 8<=s.m+k then⟨s.L ++ [nN ((s.a*2 ^ k+n) / 2 ^ (s.m+k - 8))],(s.a*2 ^ k+n) % 2 ^ (s.m+k - 8),s.m+k - 8⟩
 else⟨s.L,s.a*2 ^ k+n,s.m+k⟩
theorem u64_or_nat (a b:Nat)(E:a<18446744073709551616)(H:b<18446744073709551616):bits .or .u64 (a:Int) (b:Int)=((a |||b:Nat):Int):=by
 have J:a |||b<2 ^ 64:=Nat.or_lt_two_pow Jo Jo;have y:(dU 64 (a:Int)).toNat=a:=by
  rw[fZ,gR];exact fS Jo
 have D:(dU 64 (b:Int)).toNat=b:=by
  rw[fZ,gR];exact fS Jo
 show IntKind.u64.wrap ((dU 64 (a:Int) |||dU 64 (b:Int)).toNat:Int)=_;rw[BitVec.toNat_or,y,D,bD];omega
theorem PY {a n k:Nat}(D:n<2 ^ k)(h:a*2 ^ k+n<18446744073709551616):bits .or .u64 ((a:Int)*2 ^ k) (n:Int)=((a*2 ^ k+n:Nat):Int):=by
 have y:(a:Int)*2 ^ k=((a*2 ^ k:Nat):Int):=by norm_cast
 rw[y,u64_or_nat _ _ Jo Jo];congr 1;rw[dj,eu D]
theorem rk {R:Nat->Prop}{b:Nat}{x D:Value}{l:JU}{w:JW}(h:ue R b 486 [x,D] l w):(w.cell? (Jp b 2)=some x/\w.cell? (Jp b 3)=some D)/\w.frozen? (Jp b 2)=false:=by
 obtain⟨_,_,E,H,_,y,_⟩:=h;exact⟨⟨by rw[aa y];rfl,by rw[aa y];rfl⟩,aW y 2⟩
theorem Dc (q:Nat):IntKind.u8.wrap (q:Int)=((nN q).toNat:Int):=by
 unfold nN;rw[eH,IntKind.wrap_u8];omega
theorem Cs {w:JW}{b:Nat}{v0 y v2 v3 x:Value}{t:TypeId}(D:w.heap[b]?=some (.cells #[v0,y,v2,v3] t (0,0))):(w.setCell (Jp b 2) x).heap[b]?=some (.cells #[v0,y,x,v3] t (0,0)):=by
 simp[aj,aA,D]
theorem uP {w:JW}{b:Nat}{v0 y v2 v3 x:Value}{t:TypeId}(D:w.heap[b]?=some (.cells #[v0,y,v2,v3] t (0,0))):(w.setCell (Jp b 3) x).heap[b]?=some (.cells #[v0,y,v2,x] t (0,0)):=by
 simp[aj,aA,D]
theorem Kf (R:Nat->Prop)(b:Nat)(s:jw)(n k:Nat)(w:JW)(h:qi R b s w)(aB:s.ok)(ae:n<2 ^ k)(ay:k<=8)(ad:s.L.length<1099511627776)(au:gm R w):
 JC 410 #[Jv b,.int .u64 n,Ji k] w λe w'=>e= .returned (.tuple #[])/\qi R b (s.put n k) w'/\Beside R b w w':=by
 obtain⟨K,H,E⟩:=s;obtain⟨az,O⟩:=aB;simp only at az O ad;obtain⟨J,D,ah,ai,ag,y,Q⟩:=h;have V:=Jh D;clear D;have al:w.cell? (Jp b 2)=some (.int .u64 H):=by rw[aa y];rfl
 have am:w.cell? (Jp b 3)=some (Ji E):=by rw[aa y];rfl
 have ap:w.frozen? (Jp b 2)=false:=aW y 2;have aq:w.frozen? (Jp b 3)=false:=aW y 3;have aM:(k:Int)<=8:=Jo;have T:(2:Nat) ^ k<=256:=ce Jd ay;have ab:(2:Nat) ^ E<=128:=ce (n:=2) Jd (by omega:E<=7);have U:H*2 ^ k<=128*256:=ee Jo T;have af:=PY (a:=H) ae Jo;have an:IntKind.u64.wrap ((H:Int)*2 ^ k)=(H:Int)*2 ^ k:=bJ _ (by
  have:(H:Int)*2 ^ k=((H*2 ^ k:Nat):Int):=by norm_cast
  omega)
 have aF:H*2 ^ k+n<65536:=Jo;obtain⟨D,M⟩:∃D,D=H*2 ^ k+n:=⟨_,rfl⟩;rw[<-M] at af aF;have Z:=Jh M;have aD:IntKind.i64.wrap ((E:Int)+(k:Int))=(E:Int)+(k:Int):=bC _ Jo;have W:=Jh y;have X:=Jh Q;clear M T ab U y Q O ae;by_cases aL:E+k<8
 ·have ac:=Jf ((8:Int)<=(E:Int)+(k:Int));have O:jw.put ⟨K,H,E⟩ n k=⟨K,D,E+k⟩:=by unfold jw.put;rw[if_neg (by simp only;omega),Z.o]
  rw[O];clear O;go_enter Tryz.func410,Tryz.ntmps410;go_wp2_with fail;go_region;go_wp2_with fail;go_end0;refine⟨rfl,⟨J,V.o,ah,ai,ag,?_,fW (fW X.o J _ _) J _ _⟩,((gu R b 2 w _).trans (gu R b 3 _ _)).Y⟩;show((w.setCell (Jp b 2) (.int .u64 D)).setCell (Jp b 3) (Ji ((E:Int)+(k:Int)))).heap[b]?=_;rw[uP (Cs W.o)];simp
 have ac:=Jt ((8:Int)<=(E:Int)+(k:Int));obtain⟨y,M⟩:∃y,y=E+k - 8:=⟨_,rfl⟩;have O:jw.put ⟨K,H,E⟩ n k=⟨K ++ [nN (D / 2 ^ y)],D % 2 ^ y,y⟩:=by unfold jw.put;rw[if_pos (by simp only;omega),Z.o,M]
 rw[O];have aP:(y:Int)<8:=Jo;have av:(E:Int)+(k:Int) - 8=(y:Int):=Jo;have aI:=Jh M;have aE:=rP D y;clear O M;go_enter Tryz.func410,Tryz.ntmps410;go_wp2_with fail;go_region;go_wp2_with fail;obtain⟨M,Q⟩:∃M,M=(((w.setCell (Jp b 2) (.int .u64 D)).setCell (Jp b 3) (Ji ((E:Int)+(k:Int)))).setCell (Jp b 3) (Ji y)).drew:=⟨_,rfl⟩;rw[<-Q];have T:ue R b 486 [.int .u64 D,Ji y] K M:=by
  rw[Q];exact⟨J,V.o,ah,ai,ag,uP (uP (Cs W.o)),fW (fW (fW X.o J _ _) J _ _) J _ _⟩
 have U:Beside R b w M:=by
  rw[Q];exact(((gu R b 2 w _).trans (gu R b 3 _ _)).trans (gu R b 3 _ _)).Y
 have ak:=Jh U;obtain⟨⟨aR,aS⟩,-⟩:=rk T;have ab:=Jh (λaw w' aj ao ar=>lS R b 486 [.int .u64 D,Ji y] K aw (nN (D / 2 ^ y)) w' aj ao ad ar);have aj:=Jh T;have ar:gm R M:=au.mono U.size;have aQ:IntKind.u64.wrap (y:Int)=(y:Int):=bJ _ Jo;have aO:min y 64=y:=Jo;clear Q T U al am ap aq af an aD av ac;obtain⟨T,Q⟩:∃T,T=D / 2 ^ y:=⟨_,rfl⟩;rw[<-Q] at aE ab;have U:=Jh Q;clear Q;go_region_held (λw'=>w'.cell? (Jp b 2)=some (.int .u64 D)/\w'.cell? (Jp b 3)=some (Ji y))
  (first|go_keep|(exact(rk Q).1))
  (first|(go_at_call 279;refine(ab.o _ M.drew ?_ aj.o ar).mono ?_;(exact Dc _);rintro e ao ⟨rfl,Q,aw⟩))
 obtain⟨⟨aV,aX⟩,aJ⟩:=rk Q;have av:(2:Nat) ^ y<=128:=ce (n:=2) Jd (by omega:y<=7);have ax:=cg y;have ao:(2:Int) ^ y=((2 ^ y:Nat):Int):=by norm_cast
 have aT:IntKind.u64.wrap ((2:Int) ^ y)=(2:Int) ^ y:=bJ _ Jo;have aU:IntKind.u64.wrap ((2:Int) ^ y - 1)=(2:Int) ^ y - 1:=bJ _ Jo;clear av ax ao;have aN:=bits_mask .u64 64 Jd wraps_u64 y Jo (D:Int) Jo Jo;go_wp2_with fail;go_region;go_wp2_with fail;go_end0;obtain⟨aK,av,aG,aH,aC,ax,aA⟩:=Q;rw[<-U.o];refine⟨rfl,⟨J,av,aG,aH,aC,?_,fW aA J _ _⟩,ak.o.trans (aw.h.trans (gu R b 2 _ _).Y)⟩;have ao:((D % 2 ^ y:Nat):Int)=(D:Int) % 2 ^ y:=by norm_cast
 simp only[ao];exact Cs ax
theorem GH {s:jw}{n k:Nat}(h:s.ok)(J:n<2 ^ k)(H:k<=8):(s.put n k).ok:=by
 obtain⟨E,D⟩:=h;unfold jw.put;by_cases y:8<=s.m+k
 ·rw[if_pos y];exact⟨by simp only;omega,by simp only;exact dX _ (cg _)⟩
 rw[if_neg y];refine⟨by simp only;omega,?_⟩;simp only;rw[jG];have:(s.a+1)*2 ^ k<=2 ^ s.m*2 ^ k:=dP _ D;rw[ij] at this;omega
theorem Cg (s:jw)(n k:Nat):(s.put n k).L.length<=s.L.length+1:=by
 unfold jw.put;split<;>simp
def jw.all (s:jw)(n k:Nat):jw:=if 8<k then(s.put (n / 2 ^ (k - 8) % 256) 8).all n (k - 8) else s.put (n % 2 ^ k) k
termination_by k
decreasing_by omega
theorem Bo {s:jw}{n k:Nat}(h:8<k):s.all n k=(s.put (n / 2 ^ (k - 8) % 256) 8).all n (k - 8):=by rw[jw.all,if_pos h]
theorem uh {s:jw}{n k:Nat}(h:¬8<k):s.all n k=s.put (n % 2 ^ k) k:=by rw[jw.all,if_neg h]
theorem VO {q:Nat}(h:q<18446744073709551616):bits .and .u64 (q:Int) 255=((q % 256:Nat):Int):=by
 have:=bits_mask .u64 64 Jd wraps_u64 8 Jd (q:Int) Jo Jo;rw[show((q % 256:Nat):Int)=(q:Int) % 256 by omega];simpa using this
theorem vX (R:Nat->Prop)(b:Nat)(s:jw)(n k:Nat)(w:JW)(h:qi R b s w)(aj:s.ok)(ai:n<18446744073709551616)(ag:k<=64)(ao:s.L.length<1099511627000)(ae:gm R w):
 JC 381 #[Jv b,.int .u64 n,Ji k] w λe w'=>e= .returned (.tuple #[])/\qi R b (s.all n k) w'/\Beside R b w w':=by
 go_enter Tryz.func381,Tryz.ntmps381;go_wp2_with fail;go_loopw [2] (λD wr=>∃(y:Nat)(E:jw),D=Ji y/\y<=64/\qi R b E wr/\E.ok/\E.all n y=s.all n k/\E.L.length+y<=s.L.length+64/\Beside R b w wr) (λD _=>(intOf D).toNat)
 case atStart=>exact⟨k,s,rfl,ag,h,aj,rfl,Jo,Beside.refl _ _ _⟩
 obtain⟨y,E,rfl,an,O,M,H,ap,K⟩:=hrel;have X:gm R wr:=ae.mono K.size;by_cases Z:8<y
 ·obtain⟨D,U⟩:∃D,D=y - 8:=⟨_,rfl⟩;rw[Bo Z,<-U] at H;have Y:=Jh H;have ar:(y:Int) - 8=(D:Int):=Jo;have aq:(D:Int)<=56:=Jo;have af:=Jt ((8:Int)<(y:Int));have am:IntKind.u64.wrap (D:Int)=(D:Int):=bJ _ Jo;have ah:min D 64=D:=Jo;have al:=rP n D;have V:n / 2 ^ D<18446744073709551616:=Nat.lt_of_le_of_lt (Nat.div_le_self _ _) ai;have ab:=VO V;have J:=Jh (Kf R b E (n / 2 ^ D % 256) 8 wr O M (dX _ Jd) Jo Jo X);have ac:=Jh (GH (n:=n / 2 ^ D % 256) (k:=8) M (dX _ Jd) Jo);have aa:=Jh (Cg E (n / 2 ^ D % 256) 8);have ak:n / 2 ^ D % 256<256:=dX _ Jd;have T:=Jh K;obtain⟨Q,ad⟩:∃Q,Q=n / 2 ^ D % 256:=⟨_,rfl⟩;rw[<-ad] at J ac aa Y ak ab;generalize n / 2 ^ D=au at al ab;have W:=Jh U;clear ad O M H K V U;go_wp2_with fail;refine J.o.mono ?_;rintro e ad ⟨rfl,U,V⟩;go_wp2_with fail;go_roundw
  case rel=>exact⟨D,E.put Q 8,by go_num,Jo,U,ac.o,Y.o,by have:=aa.o;have:=W.o;omega,T.o.trans V⟩
  simp[intOf];have:=W.o;omega
 have af:=Jf ((8:Int)<(y:Int));have J:=Jh (Kf R b E (n % 2 ^ y) y wr O M (dX _ (cg _)) Jo Jo X);rw[uh Z] at H;rw[H] at J;have aa:(y:Int)<=8:=Jo;have am:IntKind.u64.wrap (y:Int)=(y:Int):=bJ _ Jo;have ah:min y 64=y:=Jo;have W:(2:Nat) ^ y<=256:=ce (n:=2) Jd (by omega:y<=8);have Y:=cg y;have D:(2:Int) ^ y=((2 ^ y:Nat):Int):=by norm_cast
 have ad:IntKind.u64.wrap ((2:Int) ^ y)=(2:Int) ^ y:=bJ _ Jo;have ak:IntKind.u64.wrap ((2:Int) ^ y - 1)=(2:Int) ^ y - 1:=bJ _ Jo;have ab:=bits_mask .u64 64 Jd wraps_u64 y Jo (n:Int) Jo Jo;have ac:(n:Int) % 2 ^ y=((n % 2 ^ y:Nat):Int):=by norm_cast
 have T:=Jh K;clear W Y D O M H K;generalize n % 2 ^ y=Q at*;go_wp2_with fail;refine J.o.mono ?_;rintro e ad ⟨rfl,U,V⟩;go_wp2_with fail;go_end0;exact⟨rfl,U,T.o.trans V⟩
theorem ug:∀(k:Nat)(s:jw)(n:Nat),s.ok->(s.all n k).ok/\(s.all n k).L.length<=s.L.length+k / 8+1:=by
 intro k;induction k using Nat.strongRecOn with
 |ind k K=>
  intro s n y;by_cases D:8<k
  ·rw[Bo D];have E:=GH (n:=n / 2 ^ (k - 8) % 256) (k:=8) y (dX _ Jd) Jo;have H:=Cg s (n / 2 ^ (k - 8) % 256) 8;obtain⟨J,M⟩:=K (k - 8) Jo _ n E;exact⟨J,Jo⟩
  rw[uh D];have H:=Cg s (n % 2 ^ k) k;exact⟨GH y (dX _ (cg _)) Jo,Jo⟩
def jw.J (s:jw)(n k:Nat):jw:=if 24<=n / 2 ^ k then(s.all 16777215 24).all n 64 else(s.all ((2 ^ (n / 2 ^ k) - 1)*2) (n / 2 ^ k+1)).all (n % 2 ^ k) k
theorem Qu (R:Nat->Prop)(b:Nat)(s:jw)(n k:Nat)(w:JW)(h:qi R b s w)(E:s.ok)(Z:n<18446744073709551616)(ac:k<=40)(ao:s.L.length<1099511626000)(D:gm R w):
 JC 333 #[Jv b,.int .u64 n,Ji k] w λe w'=>e= .returned (Ji 0)/\qi R b (s.J n k) w'/\Beside R b w w':=by
 have al:=Jf ((k:Int)<0);have am:=Jf ((40:Int)<(k:Int));have an:(k:Int)<=40:=Jo;have aj:=rP n k;by_cases W:24<=n / 2 ^ k
 ·have K:s.J n k=(s.all 16777215 24).all n 64:=by unfold jw.J;rw[if_pos W]
  rw[K];obtain⟨M,Y⟩:=ug 24 s 16777215 E;have O:=Jh (vX R b s 16777215 24 w h E Jo Jo Jo D);have Q:=Jh (λw h D=>vX R b (s.all 16777215 24) n 64 w h M Z Jo Jo D);clear K h E M Y;generalize n / 2 ^ k=y at*;have ab:=Jt ((24:Int)<=(y:Int));go_enter Tryz.func333,Tryz.ntmps333;go_wp2_with fail;refine O.o.mono ?_;rintro e ak ⟨rfl,T,H⟩;go_wp2_with fail;refine(Q.o _ T (D.mono H.size)).mono ?_;rintro e aa ⟨rfl,U,V⟩;go_wp2_with fail;go_ret;exact⟨rfl,U,H.trans V⟩
 obtain⟨y,X⟩:∃y,y=n / 2 ^ k:=⟨_,rfl⟩;have K:s.J n k=(s.all ((2 ^ y - 1)*2) (y+1)).all (n % 2 ^ k) k:=by unfold jw.J;rw[if_neg W,<-X]
 rw[K];rw[<-X] at aj W;obtain⟨M,Y⟩:=ug (y+1) s ((2 ^ y - 1)*2) E;have ah:(2:Nat) ^ y<=8388608:=ce (n:=2) Jd (by omega:y<=23);have ai:=cg y;have O:=Jh (vX R b s ((2 ^ y - 1)*2) (y+1) w h E Jo Jo Jo D);have Q:=Jh (λw h D=>vX R b (s.all ((2 ^ y - 1)*2) (y+1)) (n % 2 ^ k) k w h M (Nat.lt_of_le_of_lt (Nat.mod_le _ _) Z) Jo Jo D);have av:(y:Int)<24:=Jo;have ad:(2:Int) ^ y=((2 ^ y:Nat):Int):=by norm_cast
 have aa:IntKind.u64.wrap ((2:Int) ^ y)=(2:Int) ^ y:=bJ _ Jo;have az:IntKind.u64.wrap ((2:Int) ^ y - 1)=(2:Int) ^ y - 1:=bJ _ Jo;have aA:IntKind.u64.wrap (((2:Int) ^ y - 1)*2)=(((2 ^ y - 1)*2:Nat):Int):=by rw[bJ _ Jo];omega
 have au:min y 64=y:=Jo;have ar:min k 64=k:=Jo;have ae:(2:Nat) ^ k<=1099511627776:=ce (n:=2) Jd ac;have af:=cg k;have ag:(2:Int) ^ k=((2 ^ k:Nat):Int):=by norm_cast
 have ax:IntKind.u64.wrap ((2:Int) ^ k)=(2:Int) ^ k:=bJ _ Jo;have ay:IntKind.u64.wrap ((2:Int) ^ k - 1)=(2:Int) ^ k - 1:=bJ _ Jo;have aw:IntKind.u64.wrap (k:Int)=(k:Int):=bJ _ Jo;have ap:=bits_mask .u64 64 Jd wraps_u64 k Jo (n:Int) Jo Jo;have aq:(n:Int) % 2 ^ k=((n % 2 ^ k:Nat):Int):=by norm_cast
 have ab:=Jf ((24:Int)<=(y:Int));rw[show((y+1:Nat):Int)=(y:Int)+1 by omega] at O;clear K h E M Y ah ai ad ae af ag X;generalize (2 ^ y - 1)*2=X at*;generalize n % 2 ^ k=ad at*;go_enter Tryz.func333,Tryz.ntmps333;go_wp2_with fail;refine O.o.mono ?_;rintro e ak ⟨rfl,T,H⟩;go_wp2_with fail;refine(Q.o _ T (D.mono H.size)).mono ?_;rintro e aa ⟨rfl,U,V⟩;go_wp2_with fail;go_ret;exact⟨rfl,U,H.trans V⟩
theorem nw {n b i:Nat}(h:i<(gV n b).length):(gV n b)[i]=n.testBit (b - 1 - i):=by simp[gV]
theorem po {a n k:Nat}(m:Nat)(E:n<2 ^ k):gV (a*2 ^ k+n) (m+k)=gV a m ++ gV n k:=by
 apply List.ext_getElem
 ·simp[dB]
 intro H y J;rw[dB] at y;rw[nw];rw[dj,Nat.testBit_two_pow_mul_add a E];by_cases D:H<m
 ·rw[du (by rw[dB];exact D),nw,if_neg Jo];congr 1;omega
 rw[cK (by rw[dB];omega),nw,if_pos Jo];congr 1;rw[dB];omega
theorem oG (n b:Nat):gV (n % 2 ^ b) b=gV n b:=by
 apply List.ext_getElem
 ·simp[dB]
 intro E y D;rw[dB] at y;rw[nw,nw,Nat.testBit_mod_two_pow];simp;omega
def jw.bits (s:jw):List Bool:=(s.L.flatMap λy=>gV y.toNat 8) ++ gV s.a s.m
theorem Ql {s:jw}{n k:Nat}(O:n<2 ^ k):(s.put n k).bits=s.bits ++ gV n k:=by
 unfold jw.put;have E:gV (s.a*2 ^ k+n) (s.m+k)=gV s.a s.m ++ gV n k:=po _ O;by_cases H:8<=s.m+k
 ·rw[if_pos H];obtain⟨y,Q⟩:∃y,y=s.m+k - 8:=⟨_,rfl⟩;obtain⟨D,J⟩:∃D,D=s.a*2 ^ k+n:=⟨_,rfl⟩;rw[<-Q,<-J];rw[<-J] at E;unfold jw.bits;simp only[ao,List.flatMap_singleton];have K:(nN (D / 2 ^ y)).toNat=D / 2 ^ y % 2 ^ 8:=by unfold nN;rw[eH]
  have M:gV D (s.m+k)=gV (D / 2 ^ y) 8 ++ gV (D % 2 ^ y) y:=by
   have:=po (a:=D / 2 ^ y) (n:=D % 2 ^ y) (k:=y) 8 (dX _ (cg _));rw[dj,jm] at this;rw[<-this];congr 1;omega
  rw[K,oG,au,<-M,E,au]
 rw[if_neg H];unfold jw.bits;simp only;rw[E,au]
theorem Bp:∀(k:Nat)(s:jw)(n:Nat),(s.all n k).bits=s.bits ++ gV n k:=by
 intro k;induction k using Nat.strongRecOn with
 |ind k D=>
  intro s n;by_cases y:8<k
  ·rw[Bo y,D (k - 8) Jo,Ql (n:=n / 2 ^ (k - 8) % 256) (k:=8) (dX _ Jd),au];congr 1;have:=po (a:=n / 2 ^ (k - 8)) (n:=n % 2 ^ (k - 8)) (k:=k - 8) 8 (dX _ (cg _));rw[dj,jm,oG,show 8+(k - 8)=k by omega] at this;rw[this];congr 1;exact oG _ 8
  rw[uh y,Ql (dX _ (cg _)),oG]
theorem Ps:gV 16777215 24=cm 24 true:=Jd
theorem Ma:∀q:Fin 24,gV ((2 ^ q.val - 1)*2) (q.val+1)=cm q.val true ++ [false]:=Jd
theorem Kj (s:jw)(n k:Nat):(s.J n k).bits=s.bits ++ lU n k:=by
 unfold jw.J lU;by_cases y:24<=n / 2 ^ k
 ·rw[if_pos y,if_pos y,Bp,Bp,Ps,au]
 rw[if_neg y,if_neg y,Bp,Bp,oG];have:=Ma ⟨n / 2 ^ k,Jo⟩;simp only at this;rw[this,au]
section
open Go
def gk (l:List Bool):Nat:=l.foldl (λD y=>2*D+y.toNat) 0
theorem tF:gk []=0:=rfl
theorem fold_acc:∀(m:List Bool)(a:Nat),m.foldl (λn b=>2*n+b.toNat) a=a*2 ^ m.length+gk m:=by
 intro m;induction m with
 |nil=>intro a;simp[gk]
 |cons b m y=>
  intro a;have D:=y (2*0+b.toNat);unfold gk;rw[ia,ia,y,D,ak,gF];generalize gk m=H;generalize 2 ^ m.length=E;rw[ij,ij,dj 2 a,Nat.mul_assoc a,dj 2 E];omega
theorem nT (l m:List Bool):gk (l ++ m)=gk l*2 ^ m.length+gk m:=by
 unfold gk;rw[List.foldl_append,fold_acc];rfl
theorem Cc:∀(l:List Bool),gk l<2 ^ l.length:=by
 intro l;induction l with
 |nil=>simp[tF]
 |cons b m H=>
  have y:=nT [b] m;simp only[List.singleton_append] at y;have D:gk [b]<=1:=by cases b<;>decide
  have E:gk [b]*2 ^ m.length<=1*2 ^ m.length:=dP _ D;rw[y,ak,gF];omega
theorem rE (b:Bool)(l:List Bool):gk (b :: l)=b.toNat*2 ^ l.length+gk l:=by
 have:=nT [b] l;simp only[List.singleton_append] at this;rw[this];congr 1;cases b<;>rfl
theorem Aw (q:Nat):gk (cm q true)=2 ^ q - 1:=by
 induction q with
 |zero=>rfl
 |succ q y=>
  rw[List.replicate_succ,rE,y,eo,gF];have:=cg q;simp;omega
theorem Mf {l:List Bool}:gk l=0↔∀b∈l,b=false:=by
 induction l with
 |nil=>simp[tF]
 |cons b l y=>
  rw[rE];have:=cg l.length;cases b
  ·simp only[Bool.toNat_false,gG,bB,y,dh,forall_eq_or_imp,true_and]
  simp
theorem LY (n k:Nat):gV n (k+1)=n.testBit k :: gV n k:=by
 unfold gV;rw[List.range_succ_eq_map,bV,ig];congr 1;apply gw;intro y _;simp only[Function.comp];congr 1;omega
theorem xX (n:Nat):∀k,gk (gV n k)=n % 2 ^ k:=by
 intro k;induction k with
 |zero=>simp[gV,tF,Nat.mod_one]
 |succ k y=>
  rw[LY,rE,y,dB,Nat.mod_pow_succ,Nat.toNat_testBit,dj,Nat.add_comm]
def bitsOf (L:JU):List Bool:=L.flatMap λy=>gV y.toNat 8
theorem rY (L:JU):(bitsOf L).length=8*L.length:=by
 unfold bitsOf;induction L with
 |nil=>rfl
 |cons c L y=>rw[aE,ab,y,dB,ak];omega
theorem va (c:UInt8)(L:JU):bitsOf (c :: L)=gV c.toNat 8 ++ bitsOf L:=rfl
theorem yZ (L y:JU):bitsOf (L ++ y)=bitsOf L ++ bitsOf y:=by simp[bitsOf]
theorem FG:∀(L:JU)(i o:Nat),o<8->(bitsOf L)[8*i+o]?=(L[i]?).map λc=>c.toNat.testBit (7 - o):=by
 intro L;induction L with
 |nil=>intro i o _;simp[bitsOf]
 |cons c L D=>
  intro i o y;rw[va];cases i with
  |zero=>
   rw[Nat.mul_zero,bB,eU (by rw[dB];exact y)];simp[gV,y]
  |succ i=>
   rw[fF (by rw[dB];omega),dB,show 8*(i+1)+o - 8=8*i+o by omega,D i o y];simp
theorem Mn (L:JU)(i o t:Nat)(hi:i<L.length)(h:o+t<=8):gk (((bitsOf L).drop (8*i+o)).take t)=L[i].toNat / 2 ^ (8 - o - t) % 2 ^ t:=by
 rw[<-xX];congr 1;apply List.ext_getElem?;intro D;rw[List.getElem?_take];by_cases y:D<t
 ·rw[if_pos y,dJ,aV,FG _ _ _ Jo,aT hi,aT (by rw[dB];exact y),nw,Nat.testBit_div_two_pow];simp only[eO];congr 2;omega
 rw[if_neg y,gW (by rw[dB];omega)]
theorem Cy (l:List Bool)(j t:Nat)(h:j+t<=l.length):gk (l.take (j+t))=gk (l.take j)*2 ^ t+gk ((l.drop j).take t):=by
 rw[List.take_add,nT,aF,bo,ec Jo]
def lead (l:List Bool)(m:Nat):Nat:=((l.take m).takeWhile id).length
theorem JO (l:List Bool)(m:Nat):lead l m<=m/\lead l m<=l.length:=by
 have:=(List.takeWhile_prefix (p:=id) (l:=l.take m)).length_le;rw[aF] at this;unfold lead;omega
theorem Pn (l:List Bool)(m:Nat):lead l (min m l.length)=lead l m:=by
 unfold lead;by_cases y:m<=l.length
 ·rw[ec y]
 rw[Nat.min_eq_right Jo,fq,aw Jo]
def jW (l:List Bool)(k:Nat):Nat × Nat × Nat:=
 if lead l 24<24 then(if l.length<lead l 24+1+k then(0,0,10) else(lead l 24*2 ^ k+gk ((l.drop (lead l 24+1)).take k),lead l 24+1+k,0))
 else if l.length<88 then(0,0,10) else if gk ((l.drop 24).take 64) / 2 ^ k<24 then(0,0,11) else(gk ((l.drop 24).take 64),88,0)
theorem yJ:∀l:List Bool,(∃q r,l=cm q true ++ false :: r/\(l.takeWhile id).length=q)∨(l=cm l.length true/\(l.takeWhile id).length=l.length):=by
 intro l;induction l with
 |nil=>right;simp
 |cons b l E=>
  cases b
  ·left;exact⟨0,l,Js,Js⟩
  rcases E with⟨q,r,y,D⟩|⟨y,D⟩
  ·left;exact⟨q+1,r,by rw[List.replicate_succ,aY,<-y],by simpa using D⟩
  right;exact⟨by rw[ak,List.replicate_succ,<-y],by simpa using D⟩
theorem LV (q:Nat)(r:List Bool)(m:Nat)(h:q<m):lead (cm q true ++ false :: r) m=q:=by
 unfold lead;rw[List.take_append,eo,aw (by rw[eo];omega)];obtain⟨y,D⟩:∃y,m - q=y+1:=⟨m - q - 1,Jo⟩;rw[D,dN,List.takeWhile_append_of_pos Js];simp
theorem LU (r:List Bool)(m:Nat):lead (cm m true ++ r) m=m:=by
 unfold lead;rw[List.take_append,eo,aw (by rw[eo];omega),fG,ff,cV];rw[List.takeWhile_replicate];simp
theorem AU {n k:Nat}(O:n<18446744073709551616)(r:List Bool):jW (lU n k ++ r) k=(n,il n k,0):=by
 unfold jW;by_cases K:24<=n / 2 ^ k
 ·have E:lU n k=cm 24 true ++ gV n 64:=by unfold lU;rw[if_pos K]
  rw[E,au,LU,if_neg Jo];have J:¬(cm 24 true ++ (gV n 64 ++ r)).length<88:=by simp[dB]<;>omega
  rw[if_neg J];have H:((cm 24 true ++ (gV n 64 ++ r)).drop 24).take 64=gV n 64:=by
   rw[gr Js,List.take_left' (dB _ _)]
  rw[H,xX,fS O,if_neg Jo,vf Jo]
 obtain⟨y,D⟩:∃y,y=n / 2 ^ k:=⟨_,rfl⟩;have E:lU n k=cm y true ++ [false] ++ gV n k:=by unfold lU;rw[if_neg K,D]
 rw[<-D] at K;have M:lU n k ++ r=cm y true ++ false :: (gV n k ++ r):=by rw[E];simp
 rw[M,LV y _ 24 Jo,if_pos Jo];have J:¬(cm y true ++ false :: (gV n k ++ r)).length<y+1+k:=by simp[dB]<;>omega
 rw[if_neg J];have H:((cm y true ++ false :: (gV n k ++ r)).drop (y+1)).take k=gV n k:=by
  have:cm y true ++ false :: (gV n k ++ r)=(cm y true ++ [false]) ++ (gV n k ++ r):=Js;rw[this,gr Js,List.take_left' (dB _ _)]
 rw[H,xX,rZ Jo,<-D];congr 1;rw[D,dj];exact jm n (2 ^ k)
theorem rX {x k:Nat}(y:x<2 ^ 64)(E:k<=64):iu x<=k↔x<2 ^ k:=by
 constructor
 ·intro H;apply Classical.byContradiction;intro J;have K:=Lib.bitLen_shift k x Jo y;have D:x / 2 ^ k≠0:=by
   have:=(Nat.le_div_iff_mul_le (cg k)).2 (by rw[jF];omega:1*2 ^ k<=x);omega
  have M:=Lib.bitLen_half (x / 2 ^ k) D (Nat.lt_of_le_of_lt (Nat.div_le_self _ _) y);omega
 exact Lib.bitLen_le x k E
theorem zF {x k:Nat}(y:x<2 ^ 64)(D:k<=64)(h1:x<2 ^ k)(h2:0<k->2 ^ (k - 1)<=x):iu x=k:=by
 have E:=(rX y D).2 h1;by_cases J:k=0
 ·omega
 have H:=mt (rX (k:=k - 1) y Jo).1 (Jw (h2 Jo));omega
theorem SL (l:List Bool)(h:l.length<=24):iu (18446744073709551615 - gk l*2 ^ (64 - l.length))=64 - (l.takeWhile id).length:=by
 rcases yJ l with⟨E,D,K,Q⟩|⟨K,Q⟩
 ·rw[Q];have aa:l.length=E+1+D.length:=by rw[K];simp;omega
  have ab:=Cc D;have X:gk l=(2 ^ E - 1)*2 ^ (1+D.length)+gk D:=by
   rw[K,nT,Aw,rE];simp[Nat.add_comm]
  have J:2 ^ E*(2*2 ^ D.length)*2 ^ (64 - l.length)=18446744073709551616:=by
   rw[<-Nat.pow_succ',<-jG,<-jG,show E+(D.length+1)+(64 - l.length)=64 by omega]
  have U:2 ^ (64 - E)=2*2 ^ D.length*2 ^ (64 - l.length):=by
   rw[<-Nat.pow_succ',<-jG];congr 1;omega
  have W:2 ^ (64 - E - 1)=2 ^ D.length*2 ^ (64 - l.length):=by
   rw[<-jG];congr 1;omega
  rw[X];have Y:=cg E;have Z:=cg (64 - l.length);rw[show 1+D.length=D.length+1 by omega,Nat.pow_succ'];generalize gk D=M at*;generalize 2 ^ D.length=H at*;generalize 2 ^ (64 - l.length)=y at*;generalize 2 ^ E=O at*;have V:((O - 1)*(2*H)+M)*y+(2*H*y)=18446744073709551616+M*y:=by
   obtain⟨T,rfl⟩:∃T,O=T+1:=⟨O - 1,Jo⟩;rw[<-J,Nat.add_sub_cancel];simp only[ij,jF];omega
  have ac:M*y+y<=H*y:=by
   have:=dP y (show M+1<=H by omega)
   rwa [ij,jF] at this
  have T:2*H*y=H*y+H*y:=by rw[Nat.mul_assoc];omega
  apply zF Jo Jo
  ·rw[U];omega
  intro _;rw[W];omega
 rw[Q];obtain⟨y,H⟩:∃y,y=l.length:=⟨_,rfl⟩;rw[K,Aw,eo];rw[<-H] at h ⊢;have J:2 ^ y*2 ^ (64 - y)=18446744073709551616:=by
  rw[<-jG,show y+(64 - y)=64 by omega]
 have M:=cg y;have T:=cg (64 - y);have V:(2 ^ y - 1)*2 ^ (64 - y)=18446744073709551616 - 2 ^ (64 - y):=by rw[Nat.sub_mul,J,jF]
 have U:2 ^ (64 - y)=2*2 ^ (64 - y - 1):=by rw[<-Nat.pow_succ'];congr 1;omega
 rw[V];have O:2 ^ (64 - y)<=18446744073709551616:=by rw[<-J];exact Nat.le_mul_of_pos_left _ M
 apply zF Jo Jo
 ·omega
 intro _;omega
def jw.o (s:jw):JU:=if s.m=0 then s.L else s.L ++ [nN (s.a*2 ^ (8 - s.m))]
def pad (m:Nat):Nat:=if m=0 then 0 else 8 - m
theorem SK {a m:Nat}(H:m<=8):gV (a*2 ^ (8 - m)) 8=gV a m ++ cm (8 - m) false:=by
 have y:=po (a:=a) (n:=0) (k:=8 - m) m (cg _);rw[dz,show m+(8 - m)=8 by omega] at y;rw[y];congr 1;apply List.ext_getElem
 ·simp[dB]
 intro J D E;rw[nw];simp
theorem Ew {s:jw}(h:s.m<8):bitsOf s.o=s.bits ++ cm (pad s.m) false:=by
 unfold jw.o pad jw.bits;by_cases y:s.m=0
 ·rw[if_pos y,if_pos y,y];simp[gV,bitsOf]
 rw[if_neg y,if_neg y,yZ];have D:bitsOf [nN (s.a*2 ^ (8 - s.m))]=gV (s.a*2 ^ (8 - s.m)) 8:=by
  rw[va];unfold nN;rw[eH];rw[oG _ 8];simp[bitsOf]
 rw[D,SK Jo,au];rfl
theorem len8tab_size:(Lib.len8tab.size:Int)=256:=by
 have:Lib.len8tab.size=256:=Jd;omega
theorem wrap_add (k a b:Nat)(E:k<=56)(y:a<=8)(D:b=k+a):iy ((k:Int)+iy (a:Int))=(b:Int):=by
 unfold iy;omega
theorem wrap_wrap (a:Nat)(y:a<=8):iy (iy (a:Int))=(a:Int):=by
 unfold iy;omega
theorem wrap_one (a:Nat)(y:a<=8):iy (a:Int)=(a:Int):=by
 unfold iy;omega
theorem len8_get (y:Int)(h:y.toNat<Lib.len8tab.size):((Lib.len8tab[y.toNat]'h).toNat:Int)=Lib.len8 y:=by
 unfold Lib.len8;rw[getElem?_pos Lib.len8tab y.toNat h];rfl
theorem LW (x:Int)(w:JW)(E:0<=x)(h1:x<=18446744073709551615):
 JC 148 #[.int .u64 x] w λe w'=>e= .returned (Ji (iu x.toNat))/\w'=w:=by
 go_enter Tryz.func148,Tryz.ntmps148;go_wp2;all_goals first
  |(go_ret;refine⟨congrArg Ending.returned (congrArg (cY IntKind.i64) ?_),rfl⟩;go_light)
  |(exfalso;go_light;have y:=len8tab_size;omega)
 all_goals first
  |(rw[len8_get (x / 4294967296 / 65536 / 256) _,jE (x / 4294967296 / 65536 / 256) Jo Jo];have e:(x / 4294967296 / 65536 / 256).toNat=x.toNat / 72057594037927936:=Jo;have y:=gq (x / 4294967296 / 65536 / 256) Jo Jo;have D:=Lib.bitLen_shift56 x.toNat Jo Jo;rw[e] at y ⊢;exact wrap_add 56 _ _ Jd y D)
  |(rw[len8_get (x / 4294967296 / 65536) _,jE (x / 4294967296 / 65536) Jo Jo];have e:(x / 4294967296 / 65536).toNat=x.toNat / 281474976710656:=Jo;have y:=gq (x / 4294967296 / 65536) Jo Jo;have D:=Lib.bitLen_shift48 x.toNat Jo Jo;rw[e] at y ⊢;exact wrap_add 48 _ _ Jd y D)
  |(rw[len8_get (x / 4294967296 / 256) _,jE (x / 4294967296 / 256) Jo Jo];have e:(x / 4294967296 / 256).toNat=x.toNat / 1099511627776:=Jo;have y:=gq (x / 4294967296 / 256) Jo Jo;have D:=Lib.bitLen_shift40 x.toNat Jo Jo;rw[e] at y ⊢;exact wrap_add 40 _ _ Jd y D)
  |(rw[len8_get (x / 4294967296) _,jE (x / 4294967296) Jo Jo];have e:(x / 4294967296).toNat=x.toNat / 4294967296:=Jo;have y:=gq (x / 4294967296) Jo Jo;have D:=Lib.bitLen_shift32 x.toNat Jo Jo;rw[e] at y ⊢;exact wrap_add 32 _ _ Jd y D)
  |(rw[len8_get (x / 65536 / 256) _,jE (x / 65536 / 256) Jo Jo];have e:(x / 65536 / 256).toNat=x.toNat / 16777216:=Jo;have y:=gq (x / 65536 / 256) Jo Jo;have D:=Lib.bitLen_shift24 x.toNat Jo Jo;rw[e] at y ⊢;exact wrap_add 24 _ _ Jd y D)
  |(rw[len8_get (x / 65536) _,jE (x / 65536) Jo Jo];have e:(x / 65536).toNat=x.toNat / 65536:=Jo;have y:=gq (x / 65536) Jo Jo;have D:=Lib.bitLen_shift16 x.toNat Jo Jo;rw[e] at y ⊢;exact wrap_add 16 _ _ Jd y D)
  |(rw[len8_get (x / 256) _,jE (x / 256) Jo Jo];have e:(x / 256).toNat=x.toNat / 256:=Jo;have y:=gq (x / 256) Jo Jo;have D:=Lib.bitLen_shift8 x.toNat Jo Jo;rw[e] at y ⊢;exact wrap_add 8 _ _ Jd y D)
  |(rw[len8_get (x) _,jE (x) Jo Jo];have e:(x).toNat=x.toNat:=Jo;have y:=gq (x) Jo Jo;rw[e] at y ⊢;first|exact wrap_wrap _ y|exact wrap_add 0 _ _ Jd y Jo|exact wrap_one _ y)
theorem Pu (x:Int)(w:JW)(y:0<=x)(h1:x<=18446744073709551615)(H:iu x.toNat<=64):
 JC 431 #[.int .u64 x] w λe w'=>e= .returned (Ji (64 - (iu x.toNat:Int)))/\w'=w:=by
 have D:=LW x w y h1;generalize iu x.toNat=E at*;have J:(E:Int)<=64:=Jo;clear y h1;go_enter Tryz.func431,Tryz.ntmps431;go_wp2_with fail;refine D.mono ?_;rintro e K ⟨rfl,rfl⟩;go_wp2_with fail;go_ret;exact⟨rfl,rfl⟩
end
def jw.len (s:jw):Nat:=8*s.L.length+s.m
def NJ (b:Nat)(n a m:Nat)(w:JW):Prop:=∃E y D,w.heap[b]?=some (.cells #[E,.slice y n D,.int .u64 a,Ji m] 486 (0,0))
theorem qi.blk {R:Nat->Prop}{b:Nat}{s:jw}{w:JW}(h:qi R b s w):NJ b s.L.length s.a s.m w:=by
 obtain⟨_,_,J,K,_,E,H⟩:=h;obtain⟨y,D,rfl⟩:=H.form;exact⟨J,y,D,E⟩
theorem NJ.later {b n a m:Nat}{w w':JW}(h:NJ b n a m w)(E:w'.heap[b]?=w.heap[b]?):NJ b n a m w':=by
 obtain⟨J,y,D,H⟩:=h;exact⟨J,y,D,E.trans H⟩
def Same (w w':JW):Prop:=cC (λ_=>True) w w'
theorem Same.refl (w:JW):Same w w:=cC.refl _ _
theorem Same.drew (w:JW):Same w w.drew:=(cC.refl _ _).Y
theorem SR (w:JW):
 JC 332 #[] w λe w'=>e= .returned (Jv w.heap.size)/\w'=w.alloc (.cells #[.pointer none,Jn,.int .u64 0,Ji 0] 486):=by
 go_enter Tryz.func332,Tryz.ntmps332;go_wp2_with fail;go_ret;exact⟨rfl,rfl⟩
def jw.none:jw:=⟨[],0,0⟩
theorem SS:jw.none.ok:=by unfold jw.ok jw.none;decide
theorem UK {R:Nat->Prop}{b:Nat}{w:JW}(D:w.heap[b]?=some (.cells #[.pointer none,Jn,.int .u64 0,Ji 0] 486 (0,0)))(y:R b):qi R b jw.none w:=
 kL (tl:=[.int .u64 0,Ji 0]) D DL y
theorem Cm {s:jw}{n k:Nat}(h:s.ok)(M:k<=40):(s.J n k).ok/\(s.J n k).L.length<=s.L.length+20:=by
 unfold jw.J;by_cases E:24<=n / 2 ^ k
 ·rw[if_pos E];obtain⟨y,H⟩:=ug 24 s 16777215 h;obtain⟨D,K⟩:=ug 64 _ n y;exact⟨D,Jo⟩
 rw[if_neg E];obtain⟨y,H⟩:=ug (n / 2 ^ k+1) s ((2 ^ (n / 2 ^ k) - 1)*2) h;obtain⟨D,K⟩:=ug k _ (n % 2 ^ k) y;exact⟨D,Jo⟩
section
attribute [local go_sem ↓] Go.wp_at_zero Go.wp_at_succ
def Fit (n:Nat)(k:Int):Prop:=0<=k/\k<=64/\n<2 ^ k.toNat
theorem yu {P:Program}{src dst e:TypeId}(c:UInt8)
 (J:P.underlying src=some (.slice e)) (E:P.underlying e=some (.int .u8)) (D:P.underlying dst=some .string) (w:JW) (g:Nat) (y:w.cell? (Jp g 0)=some (.int .u8 (c.toNat:Int))):
 (convert src dst (.slice (some (Jp g 0)) 1 1)).run P w= .ok (.string (S [c])) w:=by
 refine run_convert_bytes_back w src dst e (Jp g 0) 1 [c] J E D λK H=>?_;obtain rfl:K=0:=by simpa using H
 exact y
theorem Rh {R R':Nat->Prop}{b:Nat}{s:jw}{w w':JW}(h:qi R b s w)(V:R' b)(M:∀k,k<w.heap.size->w'.heap[k]?=w.heap[k]?)(Q:∀k,k<w.heap.size->R' k->R k):qi R' b s w':=by
 obtain⟨Y,U,X,O,W,E,K,J⟩:=h;refine⟨V,U,X,O,W,(M b (Jl E)).trans E,?_⟩;have H:∀y,O.ownBlock=some y->y<w.heap.size:=λy D=>(K.lt y D).2;exact bP.shift (bP.later ⟨K,J⟩ λy D=>M y (H y D)) λy D T=>J y D (Q y (H y D) T)
theorem KH (R:Nat->Prop)(b:Nat)(s:jw)(w:JW)(h:qi R b s w)(ab:s.ok)(M:gm R w)(av:s.L.length<1099511626000):
 JC 334 #[Jv b] w λe w'=>e= .returned (.string (S s.o))/\cC R w w':=by
 obtain⟨⟨Y,Z⟩,-⟩:=rk h;have O:R b:=h.1;have ar:b<w.heap.size:=M b O;have X:=Jh (λw'(y:qi R b s w')(D:gm R w')=>iC R b _ _ s.L w' y D);by_cases Q:s.m=0
 ·have T:s.o=s.L:=by unfold jw.o;rw[if_pos Q]
  rw[T];have ak:((s.m:Int) == 0)=true:=by rw[Q];rfl
  have V:=Jh h;have J:=Jh M;clear T h Q ab;go_enter Tryz.func334,Tryz.ntmps334;go_wp2_with fail;refine(X.o _ V.o J.o).mono ?_;rintro e D ⟨rfl,y⟩;go_wp2_with fail;go_ret;exact⟨rfl,y⟩
 obtain⟨aw,E⟩:=ab;obtain⟨D,y⟩:∃D,D=s.a*2 ^ (8 - s.m):=⟨_,rfl⟩;have T:S s.o=S s.L ++ S [nN D]:=by unfold jw.o;rw[if_neg Q,ef,<-y]
 rw[T];have U:D<256:=by
  have:s.a*2 ^ (8 - s.m)<2 ^ s.m*2 ^ (8 - s.m):=Nat.mul_lt_mul_of_pos_right E (cg _);rw[<-jG,show s.m+(8 - s.m)=8 by omega] at this;omega
 obtain⟨H,K⟩:∃H,H=8 - s.m:=⟨_,rfl⟩;have ak:((s.m:Int) == 0)=false:=beq_eq_false_iff_ne.2 Jo;have an:IntKind.i64.wrap (8 - (s.m:Int))=(H:Int):=by rw[bC _ Jo];omega
 have ao:IntKind.u64.wrap (H:Int)=(H:Int):=bJ _ Jo;have ax:min H 64=H:=Jo;have ap:IntKind.u64.wrap ((s.a:Int)*2 ^ H)=(D:Int):=by
  have:(s.a:Int)*2 ^ H=((s.a*2 ^ H:Nat):Int):=by norm_cast
  rw[this,K,<-y];exact bJ _ Jo
 have aq:IntKind.u8.wrap (D:Int)=((nN D).toNat:Int):=Dc D;have V:=Jh h;have J:=Jh M;clear T h Q E y K U;have ay:=λw=>yv (P:=prog) (src:=22) (dst:=9) (e:=5) w ((nN D).toNat:Int) (nN D) rfl underlying22 underlying5 underlying9;have aA:(s.m:Int)<8:=Jo;have az:=yu (P:=prog) (src:=22) (dst:=9) (e:=5) (nN D) underlying22 underlying5 underlying9 (w.alloc (.cells #[.int .u8 ((nN D).toNat:Int)] 5)).drew w.heap.size (by
  have:=nc w #[.int .u8 ((nN D).toNat:Int)] 5 0 _ rfl;rw[na] at this;exact this)
 have K:∀w':JW,(∀y,R y->w'.heap[y]?=w.heap[y]?)->w'.cell? (Jp b 2)=some (.int .u64 s.a)/\w'.cell? (Jp b 3)=some (Ji s.m):=λw' E=>by
  have e:=E b O;simp only[dL,e] at Y Z ⊢;exact⟨Y,Z⟩
 have aa:=Jh (λy(E:y<w.heap.size)=>aJ w (.cells #[.int .u8 ((nN D).toNat:Int)] 5) y E);have ae:=Jh (λw'(ad:w'.heap=(w.alloc (.cells #[.int .u8 ((nN D).toNat:Int)] 5)).heap)=>
  iC (λy=>R y∨y=w.heap.size) b _ _ s.L w' (Rh V.o (.inl O) (λy E=>by rw[ad];exact aa.o y E) (λy E M=>M.elim id (λe=>absurd e Jo))) (λy E=>by
   have U:w'.heap.size=w.heap.size+1:=by rw[ad];simp
   rcases E with h|h
   ·have:=J.o y h;omega
   omega))
 have ag:=Jh (λU(aj:cC (λy=>R y∨y=w.heap.size) (w.alloc (.cells #[.int .u8 ((nN D).toNat:Int)] 5)) U)=>by
  have:=nc w #[.int .u8 ((nN D).toNat:Int)] 5 0 _ rfl;rw[na] at this;exact(af (aj.block w.heap.size (.inr rfl))).trans this)
 have W:=Jh K;clear K;have am:=Jh O;clear O;have aB:(S s.L).size<=1099511626000:=by rw[bH];omega
 have aC:(S [nN D]).size<=1:=by rw[bH];exact ac 1
 go_enter Tryz.func334,Tryz.ntmps334;go_wp2_with fail;go_region_held (λw'=>w'.cell? (Jp b 2)=some (.int .u64 s.a)/\w'.cell? (Jp b 3)=some (Ji s.m))
  (go_keep)
  (first
   |(go_at_call 109;refine(X.o w.drew V.o J.o).mono ?_;rintro e U ⟨rfl,K⟩;obtain⟨ah,ai⟩:=W.o _ K.block)
   |(go_at_call 109;refine(ae.o _ Jr).mono ?_;rintro e U ⟨rfl,al⟩;have K:=al.h;obtain⟨ah,ai⟩:=W.o _ λy E=>(K.block y (.inl E)).trans (aa.o y (J.o y E));have au:=yu (P:=prog) (src:=22) (dst:=9) (e:=5) (nN D) underlying22 underlying5 underlying9 U w.heap.size (ag.o U K)))
 all_goals
  go_wp2_with fail;go_ret;refine⟨rfl,?_⟩;first
   |exact K.h.wQ J.o _
   |exact((cC.refl R w).wQ J.o _).trans (K.mono λy E=>.inl E)
end
def Local (b:Nat)(J:(Nat->Prop)->World->Prop):Prop:=
 ∀E H D K,J E D->H b->(∀y,y<D.heap.size->(y=b∨¬E y)->K.heap[y]?=D.heap[y]?)->(∀y,y<D.heap.size->H y->E y)->J H K
def Vd (F:Nat->Prop)(b:Nat)(w:JW)(k:Nat):Prop:=k<w.heap.size/\(¬F k∨k=b)
structure Fu (b:Nat) (O:(Nat->Prop)->World->Prop) (F:Nat->Prop) (w:JW):Prop where
 at_:F b
 lt:∀k,F k->k<w.heap.size
 says:O (Vd F b w) w
theorem Fu.old {b:Nat}{y:(Nat->Prop)->World->Prop}{F:Nat->Prop}{w:JW}(_:Fu b y F w):gm (Vd F b w) w:=λ_ D=>D.1
theorem Fu.shut {b:Nat}{O H:(Nat->Prop)->World->Prop}(Q:Local b H){F:Nat->Prop}{w w':JW}(h:Fu b O F w)(h1:H (Vd F b w) w')(h2:Beside (Vd F b w) b w w'):∃M,Fu b H M w'/\Fs F M w w':=by
 have U:=h.lt b h.at_;refine⟨λD=>F D∨(w.heap.size<=D/\D<w'.heap.size),⟨.inl h.at_,?_,?_⟩,⟨h2.os,h2.tape,h2.output,h2.size,?_,?_⟩⟩
 ·intro D y;have:=h2.size;rcases y with y|y
  ·have:=h.lt D y;omega
  exact y.2
 ·refine Q _ _ w' w' h1 ⟨Jw h2.size,.inr rfl⟩ (λ_ _ _=>rfl) λD y J=>?_;have T:D<w.heap.size∨w.heap.size<=D:=Jo;rcases J.2 with E|E
  ·rcases T with K|K
   ·exact⟨K,.inl λJ=>E (.inl J)⟩
   exact absurd (.inr ⟨K,y⟩) E
  exact⟨Jo,.inr E⟩
 ·intro D y K;exact h2.block D ⟨y,.inl K⟩ (λJ=>K (J▸h.at_))
 intro D y;rcases y with E|E
 ·exact .inl E
 exact .inr E.1
theorem Fu.later {b:Nat}{D:(Nat->Prop)->World->Prop}(K:Local b D){F:Nat->Prop}{w w':JW}(h:Fu b D F w)(M:w.heap.size<=w'.heap.size)(H:∀k,F k->w'.heap[k]?=w.heap[k]?):Fu b D F w':=by
 have O:=h.lt b h.at_;refine⟨h.at_,λk y=>ai (h.lt k y) M,?_⟩;refine K _ _ w w' h.says ⟨Jo,.inr rfl⟩ (λk y E=>?_) λk y J=>⟨y,J.2⟩;rcases E with rfl|E
 ·exact H k h.at_
 apply H;apply Classical.byContradiction;intro J;exact E ⟨y,.inl J⟩
theorem Fu.below {b:Nat}{y:(Nat->Prop)->World->Prop}(H:Local b y){F:Nat->Prop}{w w':JW}(h:Fu b y F w)(D:Below w.heap.size w w'):Fu b y F w':=
 h.later H D.size λE J=>D.block E (h.lt E J)
theorem yW (b:Nat)(s:jw):Local b (λR=>qi R b s):=by
 intro R aa Z ac Q W M T;obtain⟨ab,V,Y,O,X,H,K,E⟩:=Q;have J:∀y,O.ownBlock=some y->y<Z.heap.size:=λy D=>(K.lt y D).2;refine⟨W,V,Y,O,X,(M b (Jl H) (.inl rfl)).trans H,?_⟩;exact bP.shift (bP.later ⟨K,E⟩ λy D=>M y (J y D) (.inr (E y D))) λy D U=>E y D (T y (J y D) U)
instance (n:Nat)(k:Int):Decidable (Fit n k):=by unfold Fit;infer_instance
def jw.rS (s:jw)(n:Nat)(k:Int):jw:=if Fit n k then s.all n k.toNat else s
def NK (b:Nat)(s:jw)(F:Nat->Prop)(w:JW):Prop:=Fu b (λy=>qi y b s) F w
theorem NK.blk {b:Nat}{s:jw}{F:Nat->Prop}{w:JW}(h:NK b s F w):NJ b s.L.length s.a s.m w:=qi.blk (Fu.says h)
theorem Ul (b:Nat)(s:jw)(F:Nat->Prop)(w:JW)(h:NK b s F w)(D:s.ok)(y:s.L.length<1099511626000):
 JC 334 #[Jv b] w λe w'=>e= .returned (.string (S s.o))/\cC (Vd F b w) w w':=
 KH _ b s w h.says D h.old y
theorem newF (w:JW)(cs:Array Value)(D:TypeId)(y:(Nat->Prop)->World->Prop)(h:∀R:Nat->Prop,R w.heap.size->y R (w.alloc (.cells cs D))):Fu w.heap.size y (λk=>k=w.heap.size) (w.alloc (.cells cs D)):=
 ⟨rfl,λk E=>by subst E;simp,h _ ⟨Js,.inr rfl⟩⟩
structure But (b:Nat) (w w':JW):Prop where
 os:w'.os=w.os
 tape:w'.tape=w.tape
 output:w'.output=w.output
 size:w'.heap.size=w.heap.size
 block:∀k,k≠b->w'.heap[k]?=w.heap[k]?
theorem But.refl (b:Nat)(w:JW):But b w w:=⟨rfl,rfl,rfl,rfl,λ_ _=>rfl⟩
theorem But.trans {b:Nat}{a c d:JW}(h:But b a c)(k:But b c d):But b a d:=
 ⟨k.os.trans h.os,k.tape.trans h.tape,k.output.trans h.output,k.size.trans h.size,λD y=>(k.block D y).trans (h.block D y)⟩
theorem nM (b j:Nat)(w:JW)(v:Value):But b w (w.setCell (Jp b j) v):=
 ⟨rfl,rfl,rfl,by simp[aj],λD y=>ae _ _ _ _ y⟩
theorem But.below {b B:Nat}{w w':JW}(h:But b w w')(D:B<=b):Below B w w':=⟨h.os,h.tape,h.output,Nat.le_of_eq h.size.symm,λy E=>h.block y Jo⟩
theorem nL {R:Nat->Prop}{n size c:Nat}{e:TypeId}{w w':JW}{v:Value}{xs:List Value}(h:bP R e size v n xs w)(D:But c w w')(hc:R c):bP R e size v n xs w':=
 h.later λy E=>D.block y λe=>h.2 y E (e▸hc)
theorem fJ {e:Nat}(h:e=0):((e:Int) == 0)=true/\((e:Int) != 0)=false:=by subst h;exact⟨rfl,rfl⟩
theorem lP {e:Nat}(h:e≠0):((e:Int) == 0)=false/\((e:Int) != 0)=true:=by
 have:((e:Int) == 0)=false:=beq_eq_false_iff_ne.2 Jo;exact⟨this,by rw[bne,this];rfl⟩
theorem bP.alloc {R:Nat->Prop}{n size:Nat}{e:TypeId}{w:JW}{v:Value}{xs:List Value}(h:bP R e size v n xs w)(o:Obj):bP R e size v n xs (w.alloc o):=h.below (Below.one w o)
theorem bP.drew {R:Nat->Prop}{n size:Nat}{e:TypeId}{w:JW}{v:Value}{xs:List Value}(h:bP R e size v n xs w):bP R e size v n xs w.drew:=h.below (ag _ _).drew
def lenOf:Value->Nat
 | .slice _ n _=>n
 |_=>0
theorem Mk {w:JW}{B n:Nat}{e:TypeId}{size:Nat}{v:Value}{xs:List Value}(h:w.ownsRow B e size v n xs):∃A c,v= .slice A n c/\Rd w size A n xs/\n<=c/\c<=maxLen:=by
 have D:=Rd.uJ h;rcases h.2 with⟨rfl,rfl⟩|⟨M,E,K,rfl,O,Q,J,H,T,U⟩
 ·obtain⟨A,c,e,y⟩:=D;cases e;exact⟨none,0,rfl,y,Jo,by unfold maxLen;omega⟩
 obtain⟨A,c,e,y⟩:=D;cases e;exact⟨_,E,rfl,y,J,H⟩
theorem Xc {a:JU}{s:ByteArray}(h:a=s.data.toList):((S a).toList == s.toList)=true:=by
 rw[dY,dY,cW,h];simp
theorem Xd {a:JU}{s:ByteArray}(h:a≠s.data.toList):((S a).toList == s.toList)=false:=by
 rw[dY,dY,cW,beq_eq_false_iff_ne];exact h
theorem pg (s:ByteArray)(a:Nat)(h:a<=s.size):(s.extract a s.size).data.toList=s.data.toList.drop a:=by
 rw[Lib.extract_data];have y:s.data.toList.length=s.size:=(bX s).symm;rw[aw];rw[bo];omega
structure mJ (R:Nat->Prop) (E1:TypeId) (s1:Nat) (v:Value) (n:Nat) (xs:List Value) (E2:TypeId) (s2:Nat) (m:Value) (k:Nat) (ys:List Value) (w:JW):Prop where
 l:bP (λj=>R j∨m.ownBlock=some j) E1 s1 v n xs w
 r:bP (λj=>R j∨v.ownBlock=some j) E2 s2 m k ys w
section
variable {R:Nat->Prop} {E1 E2:TypeId} {s1 s2 n k:Nat} {v m:Value} {xs ys:List Value} {w w':JW}
theorem mJ.swap (h:mJ R E1 s1 v n xs E2 s2 m k ys w):mJ R E2 s2 m k ys E1 s1 v n xs w:=⟨h.r,h.l⟩
theorem mJ.old (h:mJ R E1 s1 v n xs E2 s2 m k ys w)(D:gm R w):gm (λj=>R j∨m.ownBlock=some j) w:=λj E=>by
 rcases E with y|y
 ·exact D j y
 exact(h.r.1.lt j y).2
theorem mJ.append {v':Value}{H:Nat}{J:List Value}(h:mJ R E1 s1 v n xs E2 s2 m k ys w)(M:bP (λj=>R j∨m.ownBlock=some j) E1 s1 v' H J w')(O:cC (λj=>R j∨m.ownBlock=some j) w w')
 (K:v'.ownBlock=v.ownBlock∨∃g,v'.ownBlock=some g/\w.heap.size<=g):mJ R E1 s1 v' H J E2 s2 m k ys w':=by
 refine⟨M,(h.r.later λj D=>O.block j (.inr D)).shift λj D E=>?_⟩;rcases E with y|y
 ·exact h.r.2 j D (.inl y)
 rcases K with E|⟨g,E,Q⟩
 ·exact h.r.2 j D (.inr (E.symm.trans y))
 rw[E] at y;obtain rfl:g=j:=by simpa using y
 have:=(h.r.1.lt _ D).2;omega
theorem mJ.but {c:Nat}(h:mJ R E1 s1 v n xs E2 s2 m k ys w)(y:But c w w')(hc:R c):mJ R E1 s1 v n xs E2 s2 m k ys w':=⟨nL h.l y (.inl hc),nL h.r y (.inl hc)⟩
theorem mJ.below (h:mJ R E1 s1 v n xs E2 s2 m k ys w)(y:Jz w w'):mJ R E1 s1 v n xs E2 s2 m k ys w':=⟨h.l.below y,h.r.below y⟩
theorem mJ.shift {R':Nat->Prop}(h:mJ R E1 s1 v n xs E2 s2 m k ys w)(hr:∀j,j<w.heap.size->R' j->R j):mJ R' E1 s1 v n xs E2 s2 m k ys w:=
 ⟨h.l.shift λj y D=>h.l.2 j y (D.imp (hr j (h.l.1.lt j y).2) id),h.r.shift λj y D=>h.r.2 j y (D.imp (hr j (h.r.1.lt j y).2) id)⟩
theorem mJ.nil (R:Nat->Prop)(y D:TypeId)(E H:Nat)(w:JW):mJ R y E (Jn) 0 [] D H (Jn) 0 [] w:=⟨bP.nil _ _ _ _,bP.nil _ _ _ _⟩
end
def gK (y:TypeId)(b:Nat)(s:ByteArray)(j:Nat)(w:JW):Prop:=w.heap[b]?=some (.cells #[.string s,Ji (j:Int)] y (0,0))
theorem gK.cells {y:TypeId}{b j:Nat}{s:ByteArray}{w:JW}(h:gK y b s j w):w.cell? (Jp b 0)=some (.string s)/\w.cell? (Jp b 1)=some (Ji (j:Int))/\w.frozen? (Jp b 1)=false:=
 ⟨(aa h 0).trans rfl,(aa h 1).trans rfl,aW h 1⟩
theorem gK.set {y:TypeId}{b j k:Nat}{s:ByteArray}{w:JW}(h:gK y b s j w):gK y b s k (w.setCell (Jp b 1) (Ji (k:Int))):=by
 unfold gK at*;simp[aj,aA,h]
theorem gK.set2 {y:TypeId}{b j k t:Nat}{s:ByteArray}{w:JW}(h:gK y b s j w):gK y b s (k+t) (w.setCell (Jp b 1) (Ji ((k:Int)+(t:Int)))):=by
 rw[<-Int.natCast_add];exact h.set
theorem But.h {b:Nat}{w w':JW}(h:But b w.drew w'):But b w w':=⟨h.os,h.tape,h.output,h.size,h.block⟩
theorem But.Y {b:Nat}{w w':JW}(h:But b w w'):But b w w'.drew:=⟨h.os,h.tape,h.output,h.size,h.block⟩
def dt (s:ByteArray):List Bool:=bitsOf s.data.toList
theorem kF (s:ByteArray):(dt s).length=8*s.size:=by unfold dt;rw[rY,bX]
theorem Tb {s:ByteArray}{i o t:Nat}(hi:i<s.size)(h:o+t<=8):gk (((dt s).drop (8*i+o)).take t)=s[i].toNat / 2 ^ (8 - o - t) % 2 ^ t:=by
 have y:i<s.data.toList.length:=by rw[<-bX];exact hi
 exact Mn s.data.toList i o t y h
theorem nW (l:List Bool)(j k:Nat):gk ((l.drop j).take k)<2 ^ k:=by
 refine ai (Cc _) (ce Jd ?_);rw[aF];omega
theorem Mq {s:ByteArray}{p j i o t r:Nat}(hi:i<s.size)(H:p+j=8*i+o)(ho:o+t<=8)(hr:r=8 - o - t)(D:j+t<=64)(M:p+j+t<=8*s.size):
 gk (((dt s).drop p).take (j+t))=gk (((dt s).drop p).take j)*2 ^ t+s[i].toNat / 2 ^ r % 2 ^ t/\gk (((dt s).drop p).take j)*2 ^ t+s[i].toNat / 2 ^ r % 2 ^ t<18446744073709551616/\s[i].toNat / 2 ^ r % 2 ^ t<2 ^ t:=by
 have E:=Tb (s:=s) (i:=i) (o:=o) (t:=t) hi ho;have y:=Cy ((dt s).drop p) j t (by rw[bo,kF];omega);rw[bR,H,E,<-hr] at y;have K:=nW (dt s) p (j+t);have J:(2:Nat) ^ (j+t)<=18446744073709551616:=ce (n:=2) Jd D;exact⟨y,by rw[<-y];omega,dX _ (cg t)⟩
theorem Oe (c:UInt8)(r:Nat):c.toNat / 2 ^ r<=c.toNat/\c.toNat<256:=⟨Nat.div_le_self _ _,UInt8.toNat_lt c⟩
theorem Mr {t:Nat}(y:t<=8):IntKind.u64.wrap ((2:Int) ^ t)=(2:Int) ^ t/\IntKind.u64.wrap ((2:Int) ^ t - 1)=(2:Int) ^ t - 1:=by
 have E:(2:Nat) ^ t<=256:=ce (n:=2) Jd y;have H:=cg t;have D:(2:Int) ^ t=((2 ^ t:Nat):Int):=by norm_cast
 exact⟨bJ _ Jo,bJ _ Jo⟩
theorem oK (b:Nat)(s:ByteArray)(p k:Nat)(w:JW)(ap:w.cell? (Jp b 0)=some (.string s))(X:s.size<1099511627776)(au:k<=64)(V:p+k<=8*s.size):
 JC 432 #[Jv b,Ji p,Ji k] w λe w'=>e= .returned (.int .u64 (gk (((dt s).drop p).take k):Nat))/\w=w':=by
 go_enter Tryz.func432,Tryz.ntmps432;go_wp2;go_loop [1,2,7] (λD y M=>∃H:Nat,H<=k/\D=Ji ((p+H:Nat):Int)/\y=Ji ((k - H:Nat):Int)/\M= .int .u64 (gk (((dt s).drop p).take H):Nat)) (λ_ y _=>(intOf y).toNat)
 case atStart=>exact⟨0,Jo,rfl,rfl,rfl⟩
 obtain⟨H,ar,rfl,rfl,rfl⟩:=hrel;by_cases av:H<k;rotate_left
 ·obtain rfl:H=k:=Jo;rw[fG];go_wp2_with fail;go_ret;exact⟨rfl,rfl⟩
 obtain⟨O,Q⟩:∃O,O=p+H:=⟨_,rfl⟩;obtain⟨J,U⟩:∃J,J=k - H:=⟨_,rfl⟩;obtain⟨E,af⟩:∃E,E=O / 8:=⟨_,rfl⟩;obtain⟨K,aj⟩:∃K,K=O % 8:=⟨_,rfl⟩;obtain⟨y,al⟩:∃y,y=min (8 - K) J:=⟨_,rfl⟩;have ah:(if(J:Int)<8 - (K:Int) then(J:Int) else 8 - (K:Int))=(y:Int):=by split<;>omega
 have ay:min (8 - (K:Int)) (J:Int)=(y:Int):=by rw[<-ah];split<;>omega
 obtain⟨D,W⟩:∃D,D=8 - K - y:=⟨_,rfl⟩;have aH:8 - (K:Int) - (y:Int)=(D:Int):=Jo;have aC:(O:Int) / 8=(E:Int):=Jo;have aD:(O:Int) % 8=(K:Int):=Jo;have ag:E<s.size:=Jo;have aB:(K:Int)<8:=Jo;have aw:(0:Int)<(J:Int):=Jo;have ax:(J:Int)<=64:=Jo;have aE:(O:Int)<=8796093022208:=Jo;obtain⟨Y,Z,aa⟩:=Mq (s:=s) (p:=p) (j:=H) (i:=E) (o:=K) (t:=y) (r:=D) ag Jo Jo W Jo Jo;obtain⟨ae,ad⟩:=Oe s[E] D;have ak:=rP s[E].toNat D;have ai:((s[E].toNat / 2 ^ D:Nat):Int) % 2 ^ y=((s[E].toNat / 2 ^ D % 2 ^ y:Nat):Int):=by norm_cast
 have am:y<=8:=Jo;have aG:D<=8:=Jo;have aJ:(y:Int)<=(J:Int):=Jo;have aq:(1:Int)<=(y:Int):=Jo;have T:1<=y/\y<=J/\J=k - H:=Jo;have ao:=Jh X;have ab:=Jh (Ja V T);rw[<-Q,<-U];have ac:=Jh Q;clear W af aj al U Q T X V;generalize s[E].toNat / 2 ^ D % 2 ^ y=al at*;generalize s[E].toNat / 2 ^ D=an at*;generalize gk (((dt s).drop p).take H)=M at*;have U:=PY (a:=M) (n:=al) (k:=y) aa Z;have W:IntKind.u64.wrap ((M:Int)*2 ^ y)=(M:Int)*2 ^ y:=bJ _ (by
  have:(M:Int)*2 ^ y=((M*2 ^ y:Nat):Int):=by norm_cast
  omega)
 obtain⟨af,aj⟩:=Mr am;have T:=bits_mask .u64 64 Jd wraps_u64 y Jo (an:Int) Jo Jo;have aK:IntKind.u64.wrap (D:Int)=(D:Int):=bJ _ Jo;have aL:IntKind.u64.wrap (y:Int)=(y:Int):=bJ _ Jo;have aM:IntKind.u64.wrap (s[E].toNat:Int)=(s[E].toNat:Int):=bJ _ Jo;have az:min D 64=D:=Jo;have aA:min y 64=y:=Jo;have aI:(y:Int)<=8:=Jo;have aF:(D:Int)<=8:=Jo;have Q:=Jh Y;clear Z aa ae ad Y;go_wp2_with fail;go_round
 case rel=>
  have:=ab.o;have:=ac.o;clear U T ai ak W af aj;exact⟨H+y,Jo,by congr 1;omega,by congr 1;omega,by congr 1;rw[Q.o];norm_cast⟩
 simp[intOf];omega
def iT (l:List Bool)(k:Int):Nat × Nat × Nat:=if 0<=k/\k<=40 then jW l k.toNat else(0,0,1)
def Got (y:TypeId)(b:Nat)(s:ByteArray)(j:Nat)(g:Nat × Nat × Nat)(w:JW)(e:Ending)(w':JW):Prop:=
 e= .returned (.tuple #[.int .u64 (g.1:Nat),Ji (g.2.2:Nat)])/\gK y b s (j+g.2.1) w'/\But b w w'
def Still (w w':JW):Prop:=w'.os=w.os/\w'.tape=w.tape/\w'.output=w.output/\w'.heap=w.heap
theorem Still.refl (w:JW):Still w w:=⟨rfl,rfl,rfl,rfl⟩
theorem Still.but {w w':JW}(h:Still w w')(b:Nat):But b w w':=⟨h.1,h.2.1,h.2.2.1,by rw[h.2.2.2],λ_ _=>by rw[h.2.2.2]⟩
theorem Still.Vf {w w':JW}(h:Still w w'){y:TypeId}{b j:Nat}{s:ByteArray}(hr:gK y b s j w):gK y b s j w':=by unfold gK at*;rw[h.2.2.2];exact hr
theorem Still.below {w w':JW}(h:Still w w'):Below w.heap.size w w':=⟨h.1,h.2.1,h.2.2.1,by rw[h.2.2.2];exact ac _,λ_ _=>by rw[h.2.2.2]⟩
theorem tC (b:Nat)(s:ByteArray)(j:Nat)(w:JW)(h:gK 530 b s j w)(M:s.size<1099511627776)(D:j<=8*s.size):
 JC 430 #[Jv b] w λe w'=>e= .returned (Ji ((8*s.size - j:Nat):Int))/\Still w w':=by
 obtain⟨E,H,-⟩:=h.cells;have y:((8*s.size - j:Nat):Int)=8*(s.size:Int) - (j:Int):=Jo;rw[y];have J:IntKind.i64.wrap (8*(s.size:Int))=8*(s.size:Int):=bC _ Jo;have K:IntKind.i64.wrap (8*(s.size:Int) - (j:Int))=8*(s.size:Int) - (j:Int):=bC _ Jo;clear y D;go_enter Tryz.func430,Tryz.ntmps430;go_wp2_with fail;go_quiet (fail);go_wp2_with fail;go_ret;exact⟨rfl,rfl,rfl,rfl,rfl⟩
theorem Qq (s:ByteArray)(w:JW):
 JC 422 #[.string s] w λe w'=>e= .returned (Jv w.heap.size)/\w'=w.alloc (.cells #[.string s,Ji 0] 530):=by
 go_enter Tryz.func422,Tryz.ntmps422;go_wp2_with fail;go_ret;exact⟨rfl,rfl⟩
def tf (l:List Bool):Nat:=if 8<=l.length∨gk l≠0 then 11 else 0
theorem Sm (b:Nat)(s:ByteArray)(j:Nat)(w:JW)(h:gK 530 b s j w)(V:s.size<1099511627776)(H:j<=8*s.size):
 JC 424 #[Jv b] w λe w'=>e= .returned (Ji (tf ((dt s).drop j):Nat))/\Still w w':=by
 have Q:=Jh (tC b s j w h V H);have X:=Jh h;have J:((dt s).drop j).length=8*s.size - j:=by rw[bo,kF]
 by_cases U:8<=8*s.size - j
 ·have e:tf ((dt s).drop j)=11:=by unfold tf;rw[if_pos (.inl Jo)]
  rw[e];have aa:decide ((8:Int)<=((8*s.size - j:Nat):Int))=true:=decide_eq_true Jo;clear e J h H U;generalize 8*s.size - j=ac at*;go_enter Tryz.func424,Tryz.ntmps424;go_wp2_with fail;refine Q.o.mono ?_;rintro e O ⟨rfl,D⟩;go_wp2_with fail;go_ret;exact⟨rfl,D⟩
 have aa:decide ((8:Int)<=((8*s.size - j:Nat):Int))=false:=decide_eq_false Jo;have T:=Jh (λO y=>oK b s j (8*s.size - j) O y V Jo Jo);have K:((dt s).drop j).take (8*s.size - j)=(dt s).drop j:=aw Jo;rw[K] at T;have E:tf ((dt s).drop j)=if gk ((dt s).drop j)=0 then 0 else 11:=by
  unfold tf;by_cases y:gk ((dt s).drop j)=0
  ·rw[if_neg (by rw[J];omega),if_pos y]
  rw[if_pos (.inr y),if_neg y]
 rw[E];clear E K J h H U;generalize 8*s.size - j=ac at*;generalize gk ((dt s).drop j)=E at*;have Z:(((E:Int) == 0)=true/\(if E=0 then(0:Nat) else 11)=0)∨(((E:Int) == 0)=false/\(if E=0 then(0:Nat) else 11)=11):=by
  by_cases K:E=0
  ·exact .inl ⟨by rw[K];rfl,if_pos K⟩
  exact .inr ⟨beq_eq_false_iff_ne.2 Jo,if_neg K⟩
 rcases Z with⟨ab,K⟩|⟨ab,K⟩;all_goals
  rw[K];clear K;go_enter Tryz.func424,Tryz.ntmps424;go_wp2_with fail;refine Q.o.mono ?_;rintro e O ⟨rfl,D⟩;have M:=D.Vf X.o;obtain⟨Y,ae,af⟩:=gK.cells M;have ad:=Jh M;have W:=Jh D;clear M D;go_wp2_with fail;refine(T.o _ Y).mono ?_;rintro e M ⟨rfl,rfl⟩;go_wp2_with fail;go_ret;exact⟨rfl,W.o⟩
theorem xO {l:List Bool}{y q:Nat}(H:(l.take y).length=y)(Q:y<=24)(O:((l.take y).takeWhile id).length=q):
 ∃D E M:Nat,M=64 - y/\D=gk (l.take y)*2 ^ M/\D+E=18446744073709551615/\iu E=64 - q/\q<=y:=by
 have J:=SL (l.take y) Jo;rw[H,O] at J;have K:=Cc (l.take y);rw[H] at K;have T:gk (l.take y)*2 ^ (64 - y)<18446744073709551616:=by
  have:=Nat.mul_lt_mul_of_pos_right K (cg (64 - y))
  rwa [<-jG,show y+(64 - y)=64 by omega] at this
 refine⟨_,18446744073709551615 - gk (l.take y)*2 ^ (64 - y),64 - y,rfl,rfl,Jo,J,?_⟩;have:=(List.takeWhile_prefix (p:=id) (l:=l.take y)).length_le;omega
theorem Cb {y D:Nat}(h:y+D=18446744073709551615):bits .xor .u64 IntKind.u64.max (y:Int)=(D:Int):=by
 show bits .xor .u64 18446744073709551615 (y:Int)=(D:Int);have J:=u64_xor_nat 18446744073709551615 y Jo Jo;have K:18446744073709551615 ^^^ y=D:=by
  obtain rfl:D=2 ^ 64 - (y+1):=Jo;apply Nat.eq_of_testBit_eq;intro H;have M:(18446744073709551615:Nat)=2 ^ 64 - 1:=Jd;rw[Nat.testBit_xor,Nat.testBit_two_pow_sub_succ Jo,M,Nat.testBit_two_pow_sub_one];by_cases E:H<64
  ·simp[E]
  have:y.testBit H=false:=Nat.testBit_lt_two_pow (ai (by omega:y<2 ^ 64) (ce Jd Jo));simp[E,this]
 rw[<-K];exact J
theorem Gv (y q:Nat)(w:JW)(E:y<=18446744073709551615)(D:iu y=64 - q)(H:q<=24):
 JC 431 #[.int .u64 y] w λe w'=>e= .returned (Ji q)/\w=w':=by
 refine(Pu (y:Int) w Jo Jo (by rw[dE,D];omega)).mono ?_;rintro e w' ⟨rfl,rfl⟩;rw[dE,D];exact⟨by congr 2;omega,rfl⟩
theorem GR (b:Nat)(s:ByteArray)(j k:Nat)(w:JW)(h:gK 530 b s j w)(av:s.size<=1000000)(ar:j<8*s.size)(aE:k<=40)(aa:lead ((dt s).drop j) 24<24):
 JC 423 #[Jv b,Ji k] w (Got 530 b s j (jW ((dt s).drop j) k) w):=by
 have a7:=Jf ((k:Int)<0);have a8:=Jf ((40:Int)<(k:Int));have ae:=Jh (tC b s j w h Jo Jo);have am:=Jh h;have T:((dt s).drop j).length=8*s.size - j:=by rw[bo,kF]
 obtain⟨Q,ab⟩:∃Q,Q=8*s.size - j:=⟨_,rfl⟩;rw[<-ab] at ae;obtain⟨D,aj⟩:∃D,D=min 24 Q:=⟨_,rfl⟩;have aZ:(if(Q:Int)<24 then(Q:Int) else 24)=(D:Int):=by split<;>omega
 have a1:min (24:Int) (Q:Int)=(D:Int):=Jo;obtain⟨y,U⟩:∃y,y=lead ((dt s).drop j) 24:=⟨_,rfl⟩;have ao:=Jh (λW af=>oK b s j D W af Jo Jo Jo);have ak:(((dt s).drop j).take D).length=D:=by rw[aF,T];omega
 have al:((((dt s).drop j).take D).takeWhile id).length=y:=by
  rw[U,<-Pn,T,<-ab,<-aj];rfl
 obtain⟨az,aA,J,aw,ag,ah,ai,bb⟩:=xO ak Jo al;have an:=Jh (λw=>Gv aA y w Jo ai Jo);have aK:64 - (D:Int)=(J:Int):=Jo;have aL:IntKind.u64.wrap (J:Int)=(J:Int):=bJ _ Jo;have aM:min J 64=J:=Jo;have aN:IntKind.u64.wrap ((gk (((dt s).drop j).take D):Int)*2 ^ J)=(az:Int):=by
  have:(gk (((dt s).drop j).take D):Int)*2 ^ J=((gk (((dt s).drop j).take D)*2 ^ J:Nat):Int):=by norm_cast
  rw[this,<-ag];exact bJ _ Jo
 have aY:((D:Int) == 0)=false:=beq_eq_false_iff_ne.2 Jo;have aO:(if(D:Int)<(y:Int) then(D:Int) else(y:Int))=(y:Int):=by split<;>omega
 have aP:min (y:Int) (D:Int)=(y:Int):=Jo;have bf:((y:Int) == 24)=false:=beq_eq_false_iff_ne.2 Jo;have bg:=Jt ((y:Int)<24);obtain⟨E,Y⟩:∃E,E=j+y+1:=⟨_,rfl⟩;have aQ:(j:Int)+(y:Int)+1=(E:Int):=Jo;have a6:(j:Int)<=8000000:=Jo;have bc:(y:Int)<=24:=Jo;have bd:(s.size:Int)<=1000000:=Jo;generalize aq:gk (((dt s).drop j).take D)=aJ at*;have be:=Cb ah;by_cases ax:Q<y+1+k
 ·have V:jW ((dt s).drop j) k=(0,0,10):=by unfold jW;rw[if_pos aa,if_pos (by rw[T,<-U];omega)]
  rw[V];have aD:=Jt (8*(s.size:Int) - (E:Int)<(k:Int));clear ab aj U ak al aw ag ah ai Y aq ar aa h av T V ax;go_enter Tryz.func423,Tryz.ntmps423;go_wp2_with fail;refine ae.o.mono ?_;rintro H W ⟨rfl,K⟩;have M:=K.Vf am.o;obtain⟨X,aB,aC⟩:=gK.cells M;have ad:=Jh M;have ac:=Jh K;clear M K;go_wp2_with fail;refine(ao.o _ X).mono ?_;rintro H aH ⟨rfl,rfl⟩;go_wp2_with fail;refine(an.o _).mono ?_;rintro H aI ⟨rfl,rfl⟩;go_wp2_with fail;go_ret2;exact⟨rfl,ad.o,ac.o.but b⟩
 obtain⟨O,Z⟩:∃O,O=gk (((dt s).drop E).take k):=⟨_,rfl⟩;have V:jW ((dt s).drop j) k=(y*2 ^ k+O,y+1+k,0):=by
  unfold jW;rw[if_pos aa,if_neg (by rw[T,<-U];omega),<-U,bR,Z,Y];simp only[aV]
 rw[V];have au:O<2 ^ k:=by rw[Z];exact nW _ _ _
 have aD:=Jf (8*(s.size:Int) - (E:Int)<(k:Int));have ap:=Jh (λW af=>oK b s E k W af Jo Jo Jo);rw[<-Z] at ap;have af:(2:Nat) ^ k<=1099511627776:=ce (n:=2) Jd aE;have aG:y*2 ^ k<=24*1099511627776:=ee Jo af;have aR:IntKind.u64.wrap (y:Int)=(y:Int):=bJ _ Jo;have aS:IntKind.u64.wrap (k:Int)=(k:Int):=bJ _ Jo;have aT:min k 64=k:=Jo;have aU:IntKind.u64.wrap ((y:Int)*2 ^ k)=(y:Int)*2 ^ k:=bJ _ (by
  have:(y:Int)*2 ^ k=((y*2 ^ k:Nat):Int):=by norm_cast
  omega)
 have aW:Go.bits .or .u64 (O:Int) ((y:Int)*2 ^ k)=((y*2 ^ k+O:Nat):Int):=by
  have H:(y:Int)*2 ^ k=((y*2 ^ k:Nat):Int):=by norm_cast
  rw[H,u64_or_nat _ _ Jo Jo,Nat.or_comm];congr 1;rw[dj,eu au]
 have aX:(E:Int)<=8000100:=Jo;have ba:(k:Int)<=40:=Jo;have ay:=Jh Y;clear ab aj U ak al aw ag ah ai Y aq ar aa h av T V ax Z au af aG;generalize y*2 ^ k+O=au at*;go_enter Tryz.func423,Tryz.ntmps423;go_wp2_with fail;refine ae.o.mono ?_;rintro H W ⟨rfl,K⟩;have M:=K.Vf am.o;obtain⟨X,aB,aC⟩:=gK.cells M;have ad:=Jh M;have ac:=Jh K;clear M K;go_wp2_with fail;refine(ao.o _ X).mono ?_;rintro H aH ⟨rfl,rfl⟩;go_wp2_with fail;refine(an.o _).mono ?_;rintro H aI ⟨rfl,rfl⟩;go_wp2_with fail;refine(ap.o _ X).mono ?_;rintro H af ⟨rfl,rfl⟩;go_wp2_with fail;go_ret2;refine⟨rfl,?_,(ac.o.but b).trans (nM _ _ _ _)⟩;have Z:j+(y+1+k)=E+k:=Jw ay.o;simp only[Z];exact gK.set2 ad.o
theorem Qw (b:Nat)(s:ByteArray)(j k:Nat)(w:JW)(h:gK 530 b s j w)(aq:s.size<=1000000)(ao:j<=8*s.size)(aP:k<=40)(X:¬lead ((dt s).drop j) 24<24):
 JC 423 #[Jv b,Ji k] w (Got 530 b s j (jW ((dt s).drop j) k) w):=by
 have aQ:=Jf ((k:Int)<0);have aR:=Jf ((40:Int)<(k:Int));have Y:=Jh (tC b s j w h Jo Jo);have ai:=Jh h;have O:((dt s).drop j).length=8*s.size - j:=by rw[bo,kF]
 obtain⟨M,ah⟩:∃M,M=8*s.size - j:=⟨_,rfl⟩;rw[<-ah] at Y;have ap:=JO ((dt s).drop j) 24;have av:24<=M:=Jo;have aM:(if(M:Int)<24 then(M:Int) else 24)=24:=by split<;>omega
 have aN:min (24:Int) (M:Int)=24:=Jo;have ak:=Jh (λQ aa=>oK b s j 24 Q aa Jo Jo Jo);have ae:(((dt s).drop j).take 24).length=24:=by rw[aF,O];omega
 have ag:((((dt s).drop j).take 24).takeWhile id).length=24:=by
  have:((((dt s).drop j).take 24).takeWhile id).length=lead ((dt s).drop j) 24:=rfl;omega
 obtain⟨aw,am,aC,ar,ab,ac,ad,aT⟩:=xO ae Jo ag;have Z:∀w,JC 431 #[.int .u64 am] w λH y=>H= .returned (Ji 24)/\w=y:=λw=>Gv am 24 w Jo ad Jo;have aj:=Jh Z;have aB:aC=40:=Jo;subst aB;have aH:IntKind.u64.wrap ((gk (((dt s).drop j).take 24):Int)*1099511627776)=(aw:Int):=by
  rw[ab];rw[bJ _ Jo];omega
 obtain⟨E,W⟩:∃E,E=j+24:=⟨_,rfl⟩;have aI:(j:Int)+24=(E:Int):=Jo;have aO:(j:Int)<=8000000:=Jo;have aV:(s.size:Int)<=1000000:=Jo;generalize an:gk (((dt s).drop j).take 24)=aG at*;have aW:=Cb ac;by_cases au:M<88
 ·have y:jW ((dt s).drop j) k=(0,0,10):=by unfold jW;rw[if_neg X,if_pos (by rw[O];omega)]
  rw[y];have aA:=Jt (8*(s.size:Int) - (E:Int)<64);clear ah ae ag ab ac ad W an ao X h aq O y au ap av Z ar;go_enter Tryz.func423,Tryz.ntmps423;go_wp2_with fail;refine Y.o.mono ?_;rintro H Q ⟨rfl,J⟩;have K:=J.Vf ai.o;obtain⟨V,ax,ay⟩:=gK.cells K;have U:=Jh K;have T:=Jh J;clear K J;go_wp2_with fail;refine(ak.o _ V).mono ?_;rintro H aD ⟨rfl,rfl⟩;go_wp2_with fail;refine(aj.o _).mono ?_;rintro H aE ⟨rfl,rfl⟩;go_wp2_with fail;go_ret2;exact⟨rfl,U.o,T.o.but b⟩
 obtain⟨D,af⟩:∃D,D=gk (((dt s).drop E).take 64):=⟨_,rfl⟩;have y:jW ((dt s).drop j) k=if D / 2 ^ k<24 then(0,0,11) else(D,88,0):=by
  unfold jW;rw[if_neg X,if_neg (by rw[O];omega),bR,<-W,<-af]
 have aA:=Jf (8*(s.size:Int) - (E:Int)<64);have al:=Jh (λQ aa=>oK b s E 64 Q aa Jo Jo Jo);rw[<-af] at al;have aJ:IntKind.u64.wrap (k:Int)=(k:Int):=bJ _ Jo;have aK:min k 64=k:=Jo;have aU:=rP D k;have az:(decide (((D / 2 ^ k:Nat):Int)<24)=true/\jW ((dt s).drop j) k=(0,0,11))∨(decide (((D / 2 ^ k:Nat):Int)<24)=false/\jW ((dt s).drop j) k=(D,88,0)):=by
  by_cases aa:D / 2 ^ k<24
  ·exact .inl ⟨decide_eq_true Jo,by rw[y,if_pos aa]⟩
  exact .inr ⟨decide_eq_false Jo,by rw[y,if_neg aa]⟩
 have aL:(E:Int)<=8000100:=Jo;have aS:(k:Int)<=40:=Jo;have aa:=Jh W;clear ah ae ag ab ac ad W an ao X h aq O y au ap av Z ar af;generalize D / 2 ^ k=aY at*;rcases az with⟨af,y⟩|⟨af,y⟩;all_goals
  rw[y];clear y;go_enter Tryz.func423,Tryz.ntmps423;go_wp2_with fail;refine Y.o.mono ?_;rintro H Q ⟨rfl,J⟩;have K:=J.Vf ai.o;obtain⟨V,ax,ay⟩:=gK.cells K;have U:=Jh K;have T:=Jh J;clear K J;go_wp2_with fail;refine(ak.o _ V).mono ?_;rintro H aD ⟨rfl,rfl⟩;go_wp2_with fail;refine(aj.o _).mono ?_;rintro H aE ⟨rfl,rfl⟩;go_wp2_with fail;refine(al.o _ V).mono ?_;rintro H aX ⟨rfl,rfl⟩;go_wp2_with fail;go_ret2
 ·exact⟨rfl,U.o,T.o.but b⟩
 refine⟨rfl,?_,(T.o.but b).trans (nM _ _ _ _)⟩;have J:j+88=E+64:=Jw aa.o;simp only[J];exact gK.set2 (t:=64) U.o
theorem ME (b:Nat)(s:ByteArray)(j k:Nat)(w:JW)(h:gK 530 b s j w)(X:s.size<=1000000)(W:j=8*s.size)(ac:k<=40):
 JC 423 #[Jv b,Ji k] w (Got 530 b s j (jW ((dt s).drop j) k) w):=by
 have O:(dt s).drop j=[]:=bu (by rw[bo,kF];omega);have Q:jW ((dt s).drop j) k=(0,0,10):=by rw[O];unfold jW lead;simp
 rw[Q];have ad:=Jf ((k:Int)<0);have ae:=Jf ((40:Int)<(k:Int));have J:=Jh (tC b s j w h Jo Jo);rw[show 8*s.size - j=0 by omega] at J;have U:=Jh h;have K:=Jh (λT y=>oK b s j 0 T y Jo Jo Jo);rw[ff,tF] at K;obtain⟨y,H⟩:∃y,0+y=18446744073709551615:=⟨_,bB _⟩;have ah:Go.bits .xor .u64 IntKind.u64.max 0=(y:Int):=Cb H;have af:min (24:Int) 0=0:=Jd;have M:iu y=64 - 0:=by
  obtain rfl:y=18446744073709551615:=Jo;decide+kernel
 have E:∀w,JC 431 #[.int .u64 y] w λD V=>D= .returned (Ji 0)/\w=V:=λw=>Gv y 0 w Jo M Jo;have V:=Jh E;have ab:(j:Int)<=8000000:=Jo;have ag:(s.size:Int)<=1000000:=Jo;have aa:decide (8*(s.size:Int) - ((j:Int)+1)<(k:Int))=true:=decide_eq_true Jo;clear O Q H M E W X h;go_enter Tryz.func423,Tryz.ntmps423;go_wp2_with fail;refine J.o.mono ?_;rintro D T ⟨rfl,E⟩;have H:=E.Vf U.o;obtain⟨Q,Y,Z⟩:=gK.cells H;have O:=Jh H;have M:=Jh E;clear H E;go_wp2_with fail;refine(K.o _ Q).mono ?_;rintro D E ⟨rfl,rfl⟩;go_wp2_with fail;refine(V.o _).mono ?_;rintro D H ⟨rfl,rfl⟩;go_wp2_with fail;go_ret2;exact⟨rfl,O.o,M.o.but b⟩
theorem Qv (b:Nat)(s:ByteArray)(j:Nat)(k:Int)(w:JW)(h:gK 530 b s j w)(H:k<0∨40<k):
 JC 423 #[Jv b,Ji k] w (Got 530 b s j (0,0,1) w):=by
 have E:decide (k<0)=true∨(decide (k<0)=false/\decide (40<k)=true):=by
  simp only[decide_eq_true_eq,decide_eq_false_iff_not];omega
 have y:=Jh h;clear H h;rcases E with D|⟨D,J⟩;all_goals
  go_enter Tryz.func423,Tryz.ntmps423;go_wp2_with fail;go_ret2;exact⟨rfl,y.o,But.refl _ _⟩
theorem tP (b:Nat)(s:ByteArray)(j:Nat)(k:Int)(w:JW)(h:gK 530 b s j w)(E:s.size<=1000000)(M:j<=8*s.size):
 JC 423 #[Jv b,Ji k] w (Got 530 b s j (iT ((dt s).drop j) k) w):=by
 unfold iT;by_cases D:0<=k/\k<=40
 ·rw[if_pos D];obtain⟨y,rfl⟩:=dA D.1;have H:y<=40:=Jo;show Calls _ _ #[_,Ji ((y:Nat):Int)] w (Got _ b s j (jW ((dt s).drop j) y) w);by_cases J:lead ((dt s).drop j) 24<24
  ·by_cases K:j=8*s.size
   ·exact ME b s j y w h E K H
   exact GR b s j y w h E Jo H J
  exact Qw b s j y w h E M H J
 rw[if_neg D];exact Qv b s j k w h Jo
theorem EI (l:List Bool)(k:Int):(iT l k).2.1<=l.length:=by
 have H:=JO l 24;unfold iT jW;split
 ·split
  ·split
   ·exact bj _
   rename_i D y;exact ft y
  split
  ·exact bj _
  split
  ·exact bj _
  rename_i D y E;exact ft y
 exact bj _
def Uc (b:Nat)(s:jw)(F:Nat->Prop)(w:JW)(e:Ending)(w':JW):Prop:=e= .returned (Ji 0)/\∃y,NK b s y w'/\Fs F y w w'
theorem Qt (b:Nat)(s:jw)(F:Nat->Prop)(n k:Nat)(w:JW)(h:NK b s F w)(O:s.ok)(M:n<18446744073709551616)(H:k<=40)(K:s.L.length<1099511626000):
 JC 333 #[Jv b,.int .u64 n,Ji k] w (Uc b (s.J n k) F w):=
 (Qu _ b s n k w h.says O M H K h.old).mono λ_ _ ⟨y,D,E⟩=>⟨y,h.shut (yW b _) D E⟩
theorem WE (w:JW):NK w.heap.size jw.none (λk=>k=w.heap.size) (w.alloc (.cells #[.pointer none,Jn,.int .u64 0,Ji 0] 486)):=
 newF w _ _ _ λ_ y=>UK (heap_alloc_new w _) y
theorem Sn (m:Nat)(H:m<8):tf (cm (pad m) false)=0:=by
 unfold tf;rw[if_neg];rw[eo];intro y;rcases y with y|y
 ·unfold pad at y;split at y<;>omega
 exact y (Mf.2 λE D=>(List.mem_replicate.1 D).2)
theorem Ta (s:jw):s.o.length<=s.L.length+1:=by unfold jw.o;split<;>simp
def vT (ps:List (Nat × Nat))(a b:Nat):jw:=ps.foldl (λD y=>(D.J y.1 a).J y.2 b) jw.none
theorem yU (ps:List (Nat × Nat))(p:Nat × Nat)(a b:Nat):vT (ps ++ [p]) a b=((vT ps a b).J p.1 a).J p.2 b:=by simp[vT]
theorem Rf {ps:List (Nat × Nat)}{xs y:List Nat}(D:ps.map dQ=xs)(hy:ps.map gz=y){j:Nat}(h:j<xs.length)(E:j<y.length)(a b:Nat):
 vT (ps.take (j+1)) a b=((vT (ps.take j) a b).J xs[j] a).J y[j] b:=by
 subst D hy;rw[aO (by simpa using h),yU];simp
theorem Ao {α:Type}{Pr:List α->Prop}(h0:Pr [])(h1:∀l x,Pr l->Pr (l ++ [x]))(l:List α):Pr l:=by
 have key:∀n(l:List α),l.length=n->Pr l:=by
  intro n;induction n with
  |zero=>intro l hl;rw[bu hl];exact h0
  |succ n ih=>
   intro l hl;have hne:l≠[]:=by intro e;rw[e] at hl;simp at hl
   rw[<-List.dropLast_concat_getLast hne];exact h1 _ _ (ih _ (by simp[hl]))
 exact key _ l rfl
theorem Iq {a b:Nat}(H:a<=40)(J:b<=40)(ps:List (Nat × Nat)):(vT ps a b).ok/\(vT ps a b).L.length<=40*ps.length:=by
 induction ps using Ao with
 |h0=>exact⟨SS,ac _⟩
 |h1 ps p y=>
  rw[yU];obtain⟨D,K⟩:=Cm (n:=p.1) (k:=a) y.1 H;obtain⟨E,M⟩:=Cm (n:=p.2) (k:=b) D J;refine⟨E,?_⟩;have:=y.2;rw[ab,fc];omega
def gL (ps:List (Nat × Nat))(a b:Nat):List Bool:=ps.flatMap λy=>lU y.1 a ++ lU y.2 b
theorem Fl (ps:List (Nat × Nat))(a b:Nat):(vT ps a b).bits=gL ps a b:=by
 induction ps using Ao with
 |h0=>rfl
 |h1 ps p y=>rw[yU,Kj,Kj,y];simp[gL]
def pN (l:List ar):Nat:=iF ((nums l).map dQ) 40
def pO (l:List ar):Nat:=iF ((nums l).map gz) 40
theorem qk (l:List ar):pN l<=40:=sY _ _
theorem ql (l:List ar):pO l<=40:=sY _ _
def uw (l:List ar):JU:=uint (ib l 0).T.toNat ++ uint (fh (ib l 0).V)
def Da (l:List ar):JU:=[dw (pN l),dw (pO l)] ++ (vT (nums l) (pN l) (pO l)).o
def eI (l:List ar):JU:=uint l.length ++ (if l.length=0 then[] else uw l) ++ (if l.length<2 then[] else Da l)
section
open Go Go.RowKit Go.Shelf
attribute [local go_sem] Oper.semAt_some
def iQ (F:Fence)(n:Nat)(P:Program)(E:Func)(R:Ending->World->Prop):Exit->Act->World->Prop
 | .normal,y,D| .ret,y,D=>LeavesInM F n P E y.tmps R y.defers .returning D
 |_,_,_=>False
theorem iQ.marks {F:Fence}{n:Nat}{P:Program}{y:Func}{R:Ending->World->Prop}(e:Exit)(a:Act)(w:JW)(h:iQ F n P y R e a w):bodyPostM F n P y R e a w:=by
 cases e<;>first|exact h|exact False.elim h
theorem Mv {P:Program}{n:Nat}{D:Type}{g:Operand}{E H:Tmp}{U V:Code}{T:Exit->Act->World->Prop}{a:Act}{w:JW}(M O:Tmp)
 (h1:1<=n) {gf:Nat} {lb:Array Value} (ah:a.eval g= .func (.func gf) #[] lb) (X:∀args w,(callFunc gf args).run P w= .ok (.enter gf args) w)
 {e1 e2:D->Value} {Kp:JW->World->Prop} {S W:List D->Prop} {N:Nat} (aj:SeqStopsK dI (n - 1) P gf lb (λx=>#[e1 x,e2 x]) Kp S W N w)
 (ac:∀{A B C:JW},Kp A B->Kp B C->Kp A C) (ab:∀(y:JW)(l:Nat)(o ak:Obj),w.heap.size<=l->y.heap[l]?=some o->o.isCells=false->o.isWalk=false->Kp y (y.putObj l ak))
 (I:List D->World->Prop) (aa:OwnFrom w.heap.size I) (Z:I [] w)
 (ad:∀(l:Nat)(x:D)(y:JW)(J:Act->World->Prop),J {tmps:=(((a.tmps.setIfInBounds E (e1 x)).setIfInBounds H (e2 x)).setIfInBounds M (e1 x)).setIfInBounds O (e2 x),defers:=[]} y->
  U.wpIn (CN l) (n - 1 - 1) P (gM J (λ_ _ _=>False)) {tmps:=(a.tmps.setIfInBounds E (e1 x)).setIfInBounds H (e2 x),defers:=[]} y)
 (ae:∀(l:Nat)(Q:List D)(x:D)(y:JW),I Q y->Q.length<N->
  V.wpIn (CN l) (n - 1 - 1) P (ownPostK Kp I (λ_ _ _=>False) (Q ++ [x]) y) {tmps:=(((a.tmps.setIfInBounds E (e1 x)).setIfInBounds H (e2 x)).setIfInBounds M (e1 x)).setIfInBounds O (e2 x),defers:=[]} y)
 (af:∀(K:Nat)(xs:List D)(y:JW),w.heap.size<=K->S xs->I xs y->y.heap[K]?=some (.deferred (some []))->T .normal {a with defers:={target:=.collected K,args:=#[]} :: a.defers} y):
 (Code.rangeFunc g #[E,H] U V).wp P T a w:=
 wpIn_wide.1 (wpIn_rangeFunc_ownF (F:=dI) rfl h1 ah trivial X aj ac ab (ag _ _) (λ_=>rfl) I (λ_ _ _=>False) aa (λ_ _ _ _ _ Y _ _=>Y) Z
  (λx=>{tmps:=(((a.tmps.setIfInBounds E (e1 x)).setIfInBounds H (e2 x)).setIfInBounds M (e1 x)).setIfInBounds O (e2 x),defers:=[]}) (λl x y J ai=>by have:=ad l x y J ai;simpa using this) ae af (λ_ _ _ _ _ _ Y _=>Y.elim))
theorem EY {y E:JW}{D H:TypeId}{u v:Value}(h:E=((y.alloc (.cells #[u] D)).alloc (.cells #[u] D)).alloc (.cells #[v] H)):
 E.heap.size=y.heap.size+3/\Jz y E/\E.heap[y.heap.size]?=some (.cells #[u] D (0,0))/\E.heap[y.heap.size+1]?=some (.cells #[u] D (0,0))/\E.cell? (Jp (y.heap.size+2) 0)=some v:=by
 have M:=cD y (.cells #[u] D);have J:=cD (y.alloc (.cells #[u] D)) (.cells #[u] D);have K:=cD ((y.alloc (.cells #[u] D)).alloc (.cells #[u] D)) (.cells #[v] H);simp only[aI] at J K;subst h;refine⟨Js,((((ag _ _).alloc (ac _) _).alloc Js _).alloc (by simp;omega) _),?_,?_,?_⟩
 ·exact(aJ _ _ _ (by simp;omega)).trans ((aJ _ _ _ Js).trans M)
 ·exact(aJ _ _ _ Js).trans J
 rw[show y.heap.size+2=y.heap.size+1+1 from rfl,aa K];rfl
theorem Gr.held {base:Nat}{g:List Nat}{K v9 u8 u9:Value}{xs M:List Value}{y D:JW}{p q:Nat}(h:Gr base g K v9 xs M y D)(E:y.cell? (Jp p 0)=some u8)(c9:y.cell? (Jp q 0)=some u9)(H:p<base)(J:q<base):
 D.cell? (Jp p 0)=some u8/\D.cell? (Jp q 0)=some u9:=
 ⟨(af (a:=(Jp p 0)) (h.st.block p H)).trans E,(af (a:=(Jp q 0)) (h.st.block q J)).trans c9⟩
theorem TX (y:JW)(u:Value)(G:Nat)(h:G=y.heap.size):Rd (y.alloc (.cells #[u] 40)) 1 (some (Jp G 0)) 1 [u]:=by
 subst h;exact qZ y u
theorem wX {H:TypeId}{base p n₀ Bn:Nat}{xs M K O:List Value}{w E D:JW}(hA:Acc H base p (p+1) K O w D)(J:KeepsOthers E D)(U:∀k,k<base->k≠p->k≠p+1->E.heap[k]?=w.heap[k]?)
 (h1:n₀<=p) (h2:Bn<base) (V:Bn=p+2) (ex:K=xs) (Q:O=M):KeepsOthers E D/\Rr n₀ Bn E D/\Acc H base p (p+1) xs M w D:=by
 subst ex Q;refine⟨J,⟨J.size,λk T=>?_⟩,hA⟩;have y:k<base/\k≠p/\k≠p+1:=by rcases T with y|y<;>omega
 exact(hA.2.1 k y.1 y.2.1 y.2.2).trans (U k y.1 y.2.1 y.2.2).symm
theorem Kx {B q:Nat}{w y D:JW}(h:Below B w y)(O:B<=q)(Q:q+3<=y.heap.size)(J:y.heap.size<=D.heap.size)(E:∀k,k<y.heap.size->k≠q->k≠q+1->D.heap[k]?=y.heap[k]?)(H:D.os=y.os)(K:D.tape=y.tape)(ho:D.output=y.output):Below B w D:=
 h.trans ⟨H,K,ho,J,λk M=>E k Jo Jo Jo⟩
theorem iP {B y:Nat}{o:Obj}{w w':JW}(h:Below B w w')(H:B<=y):Below B w (w'.putObj y o):=
 ⟨h.os,h.tape,h.output,by simp[ik];exact h.size,λE D=>(aZ Jo).trans (h.block E D)⟩
theorem FJ {F:Nat->Prop}{b:Nat}{y D:JW}{u v:Value}{E:TypeId}(h:cC (Vd F b (y.alloc (.cells #[u,v] E)).drew) (y.alloc (.cells #[u,v] E)).drew D)(K:∀k,F k->k<y.heap.size):
 D.cell? (Jp y.heap.size 0)=some u/\D.cell? (Jp y.heap.size 1)=some v:=by
 have H:D.heap[y.heap.size]?=some (.cells #[u,v] E (0,0)):=(h.block _ ⟨Js,.inl λJ=>iw _ (K _ J)⟩).trans (heap_alloc_new y _);exact⟨(aa H 0).trans rfl,(aa H 1).trans rfl⟩
def ly (l:List ar):Nat->Int
 |0=>-1
 |j+1=>(ib l j).T
theorem yg {l:List ar}(h:jZ l){j:Nat}(y:j<l.length):ly l j<(ib l j).T/\(ib l j).T<1099511627776:=by
 have D:=h.1 _ (ah y);rw[fM y];refine⟨?_,D.2⟩;cases j with
 |zero=>have:=D.1;show(-1:Int)<_;omega
 |succ j=>
  have:=h.2 j y;show(ib l j).T<_;rw[fM Jo];exact this
theorem Oz (A:JA)(c:Nat)(l:List ar)(w:JW)(cG:Rd w 2 A l.length (l.flatMap ay))(dG:jZ l)(aq:∀x∈l,ar.ok x)(eU:l.length<=5000)(h2:2<=l.length)(hc:l.length<=c)(dF:c<=maxLen):
 JC 263 #[.slice A l.length c] w λe w'=>e= .returned (.tuple #[.string (S (eI l)),Ji 0])/\Jz w w':=by
 refine(callsIn_wide (n:=4)).1 (callsIn_of_wp_marks Tryz.func263 rfl trivial (wpIn_mono ?_ iQ.marks));simp only[Tryz.ntmps263,cJ,ak,aX,bM,dC,bY,bZ,cT,cz,bi,aY];refine wpIn_wide.2 ?_;have cd:=Jh cG;have bf:=Jh dG;have df:=Jh aq;have ek:=Jh dF;obtain⟨af,aC,rfl,dA,_⟩:=cG.2 Jo;clear cG dG aq dF;go_wp2_with fail;go_loopw [4,22] (λcR bd wr=>∃E:Nat,bd=Ji E/\E<=l.length/\cR=Ji (ly l E)/\Jz w wr) (λ_ bd _=>l.length - (intOf bd).toNat)
 case atStart=>exact⟨0,rfl,Jo,rfl,ag _ _⟩
 obtain⟨E,rfl,dH,rfl,aU⟩:=hrel;by_cases a7:E<l.length
 ·obtain⟨ci,cQ,aJ,_,bj,bk⟩:=ez (cd.o.below aU) a7;obtain⟨rfl,rfl⟩:af=ci/\aC=cQ:=by simpa using aJ
  rw[<-fM a7] at bj bk;have aB:=yg bf.o a7;have bm:ly l (E+1)=(ib l E).T:=rfl;have e3:=aU.size;have cc:=Jh bm;have bL:=Jh aU;clear bm aU;generalize ly l E=cR at*;generalize (ib l E).T=cU at*;generalize (ib l E).V=fA at*;have O:¬cU<=cR:=Jo;have Q:¬cU≥1099511627776:=Jo;have b5:¬1099511627776<=cU:=Jo;clear aB;go_wp2_with fail;go_roundw
  case rel=>exact⟨E+1,rfl,Jo,by rw[cc.o],bL.o.alloc e3 _⟩
  simp[intOf];omega
 obtain rfl:E=l.length:=Jo;clear a7 dH;obtain⟨ci,cQ,aJ,_,bj,bk⟩:=ez (cd.o.below aU) (show 0<l.length by omega);obtain⟨rfl,rfl⟩:af=ci/\aC=cQ:=by simpa using aJ
 have a1:af<wr.heap.size:=ai dA aU.size;have eO:=bf.o.1 _ (ah (show 0<l.length by omega));have dx:=df.o _ (ah (show 0<l.length by omega));rw[gG,dz] at bj bk;obtain⟨aD,cI⟩:∃e5:Nat,l[0].T=e5:=⟨l[0].T.toNat,Jo⟩;obtain⟨aG,b3⟩:∃e8,l[0].V=e8:=⟨_,rfl⟩;rw[cI] at bj eO;rw[b3] at bk;have aL:In64 aG:=b3▸dx.2;have ev:=Jh (λw=>eY l.length w Jo);have ew:=Jh (λw=>eY aD w Jo);have ey:=Jh (λw=>wh aG w aL.1 aL.2);have fq:IntKind.u64.wrap (aD:Int)=aD:=by rw[bD];omega
 have d3:(S (uint l.length)).size<=10:=by rw[bH];exact bA Jo
 have d4:(S (uint aD)).size<=10:=by rw[bH];exact bA Jo
 have d5:(S (uint (fh aG))).size<=10:=by rw[bH];exact bA (jp aL.1 aL.2)
 have fD:¬9223372036854775807<(S (uint aD)).size+(S (uint (fh aG))).size:=Jo;have fE:¬9223372036854775807<(S (uint l.length)).size+((S (uint aD)).size+(S (uint (fh aG))).size):=Jo;clear d3 d4 d5;have bL:=Jh aU;have eo:=Jh cI;have dg:=Jh b3;clear aU dx aL cI b3;go_wp2_with fail;refine(ev.o _).mono ?_;rintro e e9 ⟨rfl,bc⟩;have ft:=(bc.cell (p:=(Jp af aC)) a1).trans bj;have fu:=(bc.cell (p:=(Jp af (aC+1))) a1).trans bk;have dB:af<e9.heap.size:=ai a1 bc.size;have ep:=Jh bc;clear bc bj bk a1;have a1:=dB;clear dB;go_wp2_with fail;refine wp_region_held_drew (S:=λw'=>w'.cell? (Jp af aC)=some (Ji (aD:Int))/\w'.cell? (Jp af (aC+1))=some (Ji aG)) Jk ?_ (λH=>?_)
 ·go_keep
 refine JK 0 (h:=JK 1 (h:=JK 2 (h:=JK 3 (h:=JK 4 (h:=JK 5 (h:=JK 7 (h:=JK 8 (h:=JK 9 (h:=JK 10 (h:=?_))))))))));refine JN 6 (h:=λK y=>?_);go_simp;refine(ew.o _).mono ?_;rintro e fb ⟨rfl,dN⟩;have bw:=Jh dN;clear dN;go_wp2_with fail;refine y.out _ _ ?_ (λH=>?_)
 ·exact⟨(bw.o.cell (p:=(Jp af aC)) a1).trans H.1,(bw.o.cell (p:=(Jp af (aC+1))) a1).trans H.2⟩
 clear y K;try simp only[an,JY]
 refine JN 11 (h:=λK y=>?_);go_simp;have dD:af<fb.heap.size:=ai a1 bw.o.size;refine(ey.o _).mono ?_;rintro e cX ⟨rfl,dO⟩;have bO:=Jh dO;clear dO;go_wp2_with fail;refine y.out _ _ ?_ (λH=>?_)
 ·exact⟨(bO.o.cell (p:=(Jp af aC)) dD).trans H.1,(bO.o.cell (p:=(Jp af (aC+1))) dD).trans H.2⟩
 clear y K;try simp only[an,JY]
 refine JK 12 (h:=JK 13 (h:=JK 14 (h:=?_)));refine wpAnyH_done Jk ?_ _;go_wp2_with fail;refine(Et _ _ _ _).mono ?_;have bx:Jz w cX:=by
  have bc:=ep.o.mono bL.o.size;have dl:=(bL.o.trans bc).drew;have dm:=dl.trans (bw.o.mono dl.size);exact dm.trans (bO.o.mono dm.size)
 rintro e bI ⟨rfl,dM⟩;obtain⟨fp,dE,eP,eQ,eS⟩:=EY dM;have dy:=bx.trans (dE.mono bx.size);have eR:af<cX.heap.size:=ai dA bx.size;have db:=Jh dy;have ce:=Jh bx.size;clear dM dE bx dy bw bO;simp only[aI,aV,bM];generalize cX.heap.size=D at*;go_wp2_with fail;refine Mv 10 11 (n:=4) Jd (gf:=378) (lb:=#[.pointer (some (Jp (D+2) 0))]) rfl (enters_of Tryz.func378 Jk rfl)
  (zh 3 D (D+2) (some (Jp af aC)) c l bI Jo Jo eS (cd.o.below db.o) (λ_ _ e=>by cases e;exact eR) bf.o h2 Jo hc ek.o) (λW M=>W.trans M) ?kb
  (λbF U=>Acc 447 bI.heap.size D (D+1) (fx (bF.map dQ)) (fx (bF.map gz)) bI U) ?own ?start ?assign ?body ?done
 case kb=>exact λU l b6 fr eU _ _ _=>⟨by simp[ik],λM aE=>aZ Jo⟩
 case own=>exact λfz U ff fy e0 eT bE=>e0.kept Jo Jo eT bE
 case start=>exact⟨⟨_,_,eP,eQ,⟨cC.refl _ _,fR _,ac _,bP.nil _ _ _ _,bP.nil _ _ _ _,λM aE=>by cases aE⟩⟩,λ_ _ _ _=>rfl,rfl,rfl,rfl⟩
 case assign=>
  intro es x U K y;simp only[bg,bG,aM] at y ⊢;gi_wp2;exact y
 case body=>
  intro es bF x U cr eV;simp only[bg,bG,aM];have eW:(prog).follows .mixedOrders=true:=Jk;obtain⟨⟨cV,cW,az,aA,ao⟩,aK,bn,bo,a8⟩:=cr;have aj:U.cell? (Jp D 0)=some cV:=by rw[aa az];rfl
  have al:U.cell? (Jp (D+1) 0)=some cW:=by rw[aa aA];rfl
  gi_wp2;refine zc (n:=8) (S:=λw'=>w'.cell? (Jp D 0)=some cV/\w'.cell? (Jp (D+1) 0)=some cW) eW (λ⟨_,_,W⟩=>W) (pt Jk) 8 rfl ⟨aj,al⟩ (λH=>?_);have c8:=ao.drew;have Z:D<bI.heap.size:=Jo;have ad:D+1<bI.heap.size:=Jo;have cD:(fx (bF.map dQ)).length<1099511627776:=by simp[fx];omega
  have cE:(fx (bF.map gz)).length<1099511627776:=by simp[fx];omega
  try simp only[an,JY]
  refine head_take (i:=0) (oi:=_) (v:=?_) Jg Jd Jk Jk Jk Jk (by exact λ_ _ _ W=>W) (Or.inl ⟨Jr,?_⟩) (by assumption) ?_;rotate_left
  ·(intro w bb;(try dsimp only at bb);go_simp)<;>with_reducible rfl
  try simp only[an,JY]
  refine head_take (i:=1) (oi:=_) (v:=?_) Jg Jd Jk Jk Jk Jk (by exact λ_ _ _ W=>W) (Or.inl ⟨Jr,?_⟩) (by assumption) ?_;rotate_left
  ·(intro w bb;(try dsimp only at bb);go_simp)<;>with_reducible rfl
  try simp only[an,JY]
  refine head_take (i:=4) (oi:=_) (v:=?_) Jg Jd Jk Jk Jk Jk (by exact λ_ _ _ W=>W) (Or.inl ⟨Jr,?_⟩) (by assumption) ?_;rotate_left
  ·(intro w bb;(try dsimp only at bb);go_simp)<;>with_reducible rfl
  try simp only[an,JY]
  refine head_take (i:=5) (oi:=_) (v:=?_) Jg Jd Jk Jk Jk Jk (by exact λ_ _ _ W=>W) (Or.inl ⟨Jr,?_⟩) (by assumption) ?_;rotate_left
  ·(intro w bb;(try dsimp only at bb);go_simp)<;>with_reducible rfl
  try simp only[an,JY]
  refine dK (rs:=[2,6]) Jk Js ?_;refine cx.cons (o:=_) Jg Jd (λK y=>?_) (cx.cons (o:=_) Jg Jd (λK y=>?_) cx.nil)
  ·skip
   have be:=c8.build (ap Jo ao.hb) (.int .u64 (x.1:Nat));go_simp;refine y.out _ _ (be.held aj al Z ad) (λH=>?_);clear y K;try simp only[an,JY]
   refine dK (rs:=[3,6]) Jk Js ?_;refine cx.cons (o:=_) Jg Jd (λK y=>?_) (cx.cons (o:=_) Jg Jd (λK y=>?_) cx.nil)
   ·skip
    refine Gr.step rfl (.tmp 67) (.tmp 69) rfl Jk Jk (u:=.int .u64 ((x.1:Nat):Int)) be rfl _ 1 rfl (qZ U.drew (.int .u64 ((x.1:Nat):Int))) rfl cD ?_;intro dY eA aR Q;refine y.out _ _ (aR.held aj al Z ad) (λH=>?_);clear y K;try simp only[an,JY]
    refine dK (rs:=[6]) Jk Js ?_;refine cx.cons (o:=_) Jg Jd (λK y=>?_) cx.nil;have aS:=aR.build (ap Jo ao.hb) (.int .u64 (x.2:Nat));go_simp;refine y.out _ _ (aS.held aj al Z ad) (λH=>?_);clear y K;try simp only[an,JY]
    refine dK (rs:=[7]) Jk Js ?_;refine cx.cons (o:=_) Jg Jd (λK y=>?_) cx.nil;refine Gr.step rfl (.tmp 71) (.tmp 73) rfl Jk Jk (u:=.int .u64 ((x.2:Nat):Int)) aS.swap rfl _ 1 rfl (qZ eA (.int .u64 ((x.2:Nat):Int))) rfl cE ?_;intro dZ di aT dV;refine y.out _ _ (aT.swap.held aj al Z ad) (λH=>?_);clear y K;try simp only[an,JY]
    refine cy Jk ?_;have X:=aT.swap;obtain⟨bt,bp,av⟩:=X.l8.form;obtain⟨bu,bq,ax⟩:=X.l9.form;subst av ax;have am:=X.stored Z ad Jo az aA aK bn bo a8;have bJ:=(X.st.block D Z).trans az;have bK:=(X.st.block (D+1) ad).trans aA;have d1:=H.1;have d2:=H.2;have dp:=aW bJ 0;have dq:=aW bK 0;simp only[ab,ak,aX,bB] at am;have aQ:=Jh (Ja am.1 am.2);clear am X;simp only[dr,fe];go_wp2_with fail;refine wX (n₀:=D) (Bn:=D+2) aQ.o.1 aQ.o.2 aK Jo Jo Jo ?_ ?_<;>simp[fx]
   skip
   have aR:=be.build (ap Jo ao.hb) (.int .u64 (x.2:Nat));go_simp;refine y.out _ _ (aR.held aj al Z ad) (λH=>?_);clear y K;try simp only[an,JY]
   refine dK (rs:=[3]) Jk Js ?_;refine cx.cons (o:=_) Jg Jd (λK y=>?_) cx.nil;refine Gr.step rfl (.tmp 67) (.tmp 69) rfl Jk Jk (u:=.int .u64 ((x.1:Nat):Int)) aR rfl _ 1 rfl ((qZ U.drew (.int .u64 ((x.1:Nat):Int))).alloc (.cells #[(.int .u64 ((x.2:Nat):Int))] 40)) rfl cD ?_;intro dY eB aS b5;refine y.out _ _ (aS.held aj al Z ad) (λH=>?_);clear y K;try simp only[an,JY]
   refine dK (rs:=[7]) Jk Js ?_;refine cx.cons (o:=_) Jg Jd (λK y=>?_) cx.nil;refine Gr.step rfl (.tmp 71) (.tmp 73) rfl Jk Jk (u:=.int .u64 ((x.2:Nat):Int)) aS.swap rfl _ 1 rfl (Kh (TX (U.drew.alloc (.cells #[(.int .u64 ((x.1:Nat):Int))] 40)) (.int .u64 ((x.2:Nat):Int)) _ Js) (b5 _ Js)) rfl cE ?_;intro dZ di aT dV;refine y.out _ _ (aT.swap.held aj al Z ad) (λH=>?_);clear y K;try simp only[an,JY]
   refine cy Jk ?_;have X:=aT.swap;obtain⟨bt,bp,av⟩:=X.l8.form;obtain⟨bu,bq,ax⟩:=X.l9.form;subst av ax;have am:=X.stored Z ad Jo az aA aK bn bo a8;have bJ:=(X.st.block D Z).trans az;have bK:=(X.st.block (D+1) ad).trans aA;have d1:=H.1;have d2:=H.2;have dp:=aW bJ 0;have dq:=aW bK 0;simp only[ab,ak,aX,bB] at am;have aQ:=Jh (Ja am.1 am.2);clear am X;simp only[dr,fe];go_wp2_with fail;refine wX (n₀:=D) (Bn:=D+2) aQ.o.1 aQ.o.2 aK Jo Jo Jo ?_ ?_<;>simp[fx]
  skip
  have be:=c8.build (ap Jo ao.hb) (.int .u64 (x.2:Nat));go_simp;refine y.out _ _ (be.held aj al Z ad) (λH=>?_);clear y K;try simp only[an,JY]
  refine dK (rs:=[2]) Jk Js ?_;refine cx.cons (o:=_) Jg Jd (λK y=>?_) cx.nil;have aR:=be.build (ap Jo ao.hb) (.int .u64 (x.1:Nat));go_simp;refine y.out _ _ (aR.held aj al Z ad) (λH=>?_);clear y K;try simp only[an,JY]
  refine dK (rs:=[3]) Jk Js ?_;refine cx.cons (o:=_) Jg Jd (λK y=>?_) cx.nil;refine Gr.step rfl (.tmp 67) (.tmp 69) rfl Jk Jk (u:=.int .u64 ((x.1:Nat):Int)) aR rfl _ 1 rfl (TX (U.drew.alloc (.cells #[(.int .u64 ((x.2:Nat):Int))] 40)) (.int .u64 ((x.1:Nat):Int)) _ Js) rfl cD ?_;intro dY eB aS b5;refine y.out _ _ (aS.held aj al Z ad) (λH=>?_);clear y K;try simp only[an,JY]
  refine dK (rs:=[7]) Jk Js ?_;refine cx.cons (o:=_) Jg Jd (λK y=>?_) cx.nil;refine Gr.step rfl (.tmp 71) (.tmp 73) rfl Jk Jk (u:=.int .u64 ((x.2:Nat):Int)) aS.swap rfl _ 1 rfl (Kh ((qZ U.drew (.int .u64 ((x.2:Nat):Int))).alloc (.cells #[(.int .u64 ((x.1:Nat):Int))] 40)) (b5 _ Js)) rfl cE ?_;intro dZ di aT dV;refine y.out _ _ (aT.swap.held aj al Z ad) (λH=>?_);clear y K;try simp only[an,JY]
  refine cy Jk ?_;have X:=aT.swap;obtain⟨bt,bp,av⟩:=X.l8.form;obtain⟨bu,bq,ax⟩:=X.l9.form;subst av ax;have am:=X.stored Z ad Jo az aA aK bn bo a8;have bJ:=(X.st.block D Z).trans az;have bK:=(X.st.block (D+1) ad).trans aA;have d1:=H.1;have d2:=H.2;have dp:=aW bJ 0;have dq:=aW bK 0;simp only[ab,ak,aX,bB] at am;have aQ:=Jh (Ja am.1 am.2);clear am X;simp only[dr,fe];go_wp2_with fail;refine wX (n₀:=D) (Bn:=D+2) aQ.o.1 aQ.o.2 aK Jo Jo Jo ?_ ?_<;>simp[fx]
 case done=>
  rintro b8 fC U eL rfl cr bV;obtain⟨⟨cV,cW,az,aA,ao⟩,aK,bn,bo,a8⟩:=cr;obtain⟨bt,bp,rfl⟩:=ao.l8.form;obtain⟨bu,bq,rfl⟩:=ao.l9.form;have av:(fx ((nums l).map dQ)).length=((nums l).map dQ).length:=by simp[fx]
  have ax:(fx ((nums l).map gz)).length=((nums l).map gz).length:=by simp[fx]
  have bS:Rd U 1 bt ((nums l).map dQ).length (fx ((nums l).map dQ)):=by have:=ao.l8.rd;rwa [av] at this
  have bT:Rd U 1 bu ((nums l).map gz).length (fx ((nums l).map gz)):=by have:=ao.l9.rd;rwa [ax] at this
  have aj:U.cell? (Jp D 0)=some (.slice bt ((nums l).map dQ).length bp):=by rw[aa az,<-av];rfl
  have al:U.cell? (Jp (D+1) 0)=some (.slice bu ((nums l).map gz).length bq):=by rw[aa aA,<-ax];rfl
  obtain⟨cj,cO,rfl,fk,_⟩:=bS.2 (by rw[bU,nums_length];omega);obtain⟨ck,cP,rfl,fm,_⟩:=bT.2 (by rw[bU,nums_length];omega);have b0:D<U.heap.size:=(Jl az);have cF:D+1<U.heap.size:=(Jl aA);have cN:∀aO∈nums l,aO.1<18446744073709551616/\aO.2<18446744073709551616:=λaO aB=>by
   obtain⟨dU,a6,rfl⟩:=bz aB;rw[qU a6];rw[nums_length] at a6;exact Cd bf.o Jo
  have dW:((nums l).map dQ).length<=5000:=by rw[bU,nums_length];omega
  have dX:((nums l).map gz).length<=5000:=by rw[bU,nums_length];omega
  have cY:=Jh (λw bE=>CV (some (Jp cj cO)) bp ((nums l).map dQ) w bE dW (λx aN=>by obtain⟨aO,aB,rfl⟩:=List.mem_map.1 aN;exact(cN aO aB).1));have cZ:=Jh (λw bE=>CV (some (Jp ck cP)) bq ((nums l).map gz) w bE dX (λx aN=>by obtain⟨aO,aB,rfl⟩:=List.mem_map.1 aN;exact(cN aO aB).2));clear av ax cN az aA dW dX;generalize dP:(nums l).map dQ=ae at*;generalize dR:(nums l).map gz=aH at*;have bQ:=Jh dP;have bR:=Jh dR;clear dP dR;go_wp2_with fail;refine wp_region_held_drew (S:=λw'=>w'.cell? (Jp D 0)=some (.slice (some (Jp cj cO)) ae.length bp)/\w'.cell? (Jp (D+1) 0)=some (.slice (some (Jp ck cP)) aH.length bq)) Jk ?_ (λH=>?_)
  ·go_keep
  refine JK 0 (h:=JK 2 (h:=?_));refine JN 1 (h:=λK y=>?_);go_simp;refine(cY.o U.drew bS).mono ?_;rintro e fc ⟨rfl,dS⟩;have bh:=Jh dS;clear dS;go_wp2_with fail;refine y.out _ _ ?_ (λH=>?_)
  ·exact⟨(bh.o.cell (p:=(Jp D 0)) b0).trans H.1,(bh.o.cell (p:=(Jp (D+1) 0)) cF).trans H.2⟩
  clear y K;try simp only[an,JY]
  refine JN 3 (h:=λK y=>?_);go_simp;refine(cZ.o fc (bT.drew.below bh.o)).mono ?_;rintro e Y ⟨rfl,aF⟩;have cf:=Jh aF;clear aF;go_wp2_with fail;refine y.out _ _ ?_ (λH=>?_)
  ·exact⟨(cf.o.cell (p:=(Jp D 0)) (ai b0 bh.o.size)).trans H.1,(cf.o.cell (p:=(Jp (D+1) 0)) (ai cF bh.o.size)).trans H.2⟩
  clear y K;try simp only[an,JY]
  refine JK 4 (h:=JK 5 (h:=?_));refine wpAnyH_done Jk ?_ _;have cM:=(ag U.heap.size U).drew.trans (bh.o.mono (ac _));have aF:=cM.trans (cf.o.mono cM.size);have da:=Jh ((Kx db.o ce.o Jo (fl (Nat.lt_of_le_of_lt eL (Jl bV))) aK bn bo a8).trans (aF.mono (ap ce.o (fl b0))));have et:=Jh (bS.below aF);have eu:=Jh (bT.below aF);have eX:D<Y.heap.size:=ai b0 aF.size;have eZ:D+1<Y.heap.size:=ai cF aF.size;have eE:=H.1;have eF:=H.2;have co:=Jh ((aF.block b8 (Jl bV)).trans bV);clear aF cM bS bT aj al ao aK bn bo a8 bV;go_wp2_with fail;refine(SR _).mono ?_;rintro e d0 ⟨rfl,cL⟩;have dT:NK Y.heap.size jw.none (λM=>M=Y.heap.size) d0:=by rw[cL];exact WE Y
  have ct:Below Y.heap.size Y d0:=by rw[cL];exact Below.one _ _
  have fi:=(ct.cell (p:=(Jp D 0)) eX).trans eE;have er:=Jh dT;have ej:=Jh ct;clear dT ct cL;have cA:iF ae 40<=40:=sY _ _;have dI:iF aH 40<=40:=sY _ _;have dc:Jq (iF ae 40=pN l/\iF aH 40=pO l):=Jh ⟨by rw[<-bQ.o];rfl,by rw[<-bR.o];rfl⟩;have dd:ae.length=l.length - 1:=by rw[<-bQ.o,bU,nums_length]
  have en:aH.length=l.length - 1:=by rw[<-bR.o,bU,nums_length]
  have eV:ae.length<=aH.length/\ae.length<=5000:=Jo;have de:=Jh dd;clear dd en cY cZ;generalize iF ae 40=O at*;generalize iF aH 40=Q at*;have dh:=Jh (λ(E:Nat)(W:E<ae.length)(eJ:E<aH.length)=>Rf bQ.o bR.o W eJ O Q);have cg:=Jh (λE=>Iq cA dI ((nums l).take E));have dj:Jq (∀x∈ae,x<18446744073709551616):=Jh (λx aN=>by
   rw[<-bQ.o] at aN;obtain⟨aO,aB,rfl⟩:=List.mem_map.1 aN;obtain⟨dU,a6,rfl⟩:=bz aB;rw[qU a6];rw[nums_length] at a6;exact(Cd bf.o Jo).1)
  have dk:Jq (∀x∈aH,x<18446744073709551616):=Jh (λx aN=>by
   rw[<-bR.o] at aN;obtain⟨aO,aB,rfl⟩:=List.mem_map.1 aN;obtain⟨dU,a6,rfl⟩:=bz aB;rw[qU a6];rw[nums_length] at a6;exact(Cd bf.o Jo).2)
  go_wp2_with fail;go_loopw [82] (λbd br=>∃(E:Nat)(aP:Nat->Prop),bd=Ji E/\E<=ae.length/\NK Y.heap.size (vT ((nums l).take E) O Q) aP br/\(∀M,aP M->Y.heap.size<=M)/\Jz Y br) (λbd _=>ae.length - (intOf bd).toNat)
  case atStart=>exact⟨0,_,rfl,Jo,er.o,λM aE=>Jo,ej.o⟩
  rename World=>br
  obtain⟨E,aP,rfl,dH,ba,bW,bl⟩:=hrel;have b2:=bl.size;by_cases a7:E<ae.length
  ·have cB:E<aH.length:=Jo;obtain⟨eC,e6,aJ,_,av⟩:=Il (et.o.below bl) a7;obtain⟨rfl,rfl⟩:cj=eC/\cO=e6:=by simpa using aJ
   have aq:=cg.o E;have bm:=dh.o E a7 cB;have cm:=dj.o _ (ah a7);have cn:=dk.o _ (ah cB);have dJ:(vT ((nums l).take E) O Q).L.length<=200000:=by
    have eK:=aq.2;have h2:((nums l).take E).length<=E:=List.length_take_le _ _;omega
   obtain⟨cS,cH⟩:=Je (ae[E]);obtain⟨fd,b4⟩:=Je (aH[E]);rw[cH] at av cm;rw[b4] at cn;rw[cH,b4] at bm;have eq:=Jh b4;have cc:=Jh bm;have d6:=Jh (Qt Y.heap.size (vT ((nums l).take E) O Q) aP cS O br ba aq.1 cm cA Jo);have dL:=Cm (n:=cS) aq.1 cA;have d7:=Jh (λd8 w' W=>Qt Y.heap.size ((vT ((nums l).take E) O Q).J cS O) d8 fd Q w' W dL.1 cn dI Jo);have b9:=Jh ba;have bv:=Jh bW;have bN:=Jh bl;clear aJ aq bm b4 cH cm cn dL ba bW bl;go_wp2_with fail;refine d6.o.mono ?_;rintro e fa ⟨rfl,d9,dt,cu⟩;have bX:Jz Y fa:=bN.o.trans (cu.below b2 bv.o);obtain⟨eD,e7,aJ,_,ax⟩:=Il (eu.o.below bX) cB;obtain⟨rfl,rfl⟩:ck=eD/\cP=e7:=by simpa using aJ
   rw[eq.o] at ax;have fg:=(bX.cell (p:=(Jp (D+1) 0)) eZ).trans eF;have ea:=Jh dt;have em:=Jh cu;have cb:=Jh bX;clear aJ dt cu bX;go_wp2_with fail;refine(d7.o _ _ ea.o).mono ?_;rintro e fB ⟨rfl,c6,du,cv⟩;have cq:∀M,d9 M->Y.heap.size<=M:=λM aE=>(em.o.new M aE).elim (bv.o M) (λW=>ap b2 W);have eM:=Jh (show ∀M,c6 M->Y.heap.size<=M from λM aE=>(cv.new M aE).elim (cq M) (λW=>ap cb.o.size W));have eh:=Jh (cb.o.trans (cv.below cb.o.size cq));have eb:=Jh du;clear du cv cq;go_wp2_with fail;go_roundw
   case rel=>exact⟨E+1,c6,by go_num,Jo,by rw[cc.o];exact eb.o,eM.o,eh.o⟩
   simp[intOf];omega
  obtain rfl:E=ae.length:=Jo;have dn:(nums l).take ae.length=nums l:=aw (by rw[nums_length,de.o];exact ac _);have aq:=cg.o ae.length;rw[dn] at ba aq;have dJ:(vT (nums l) O Q).L.length<=200000:=by
   have eK:=aq.2;have h2:=nums_length l;have fj:=de.o;omega
  have eN:=Jh ba.lt;have a8:=Jh (Ta (vT (nums l) O Q));have fG:(S (vT (nums l) O Q).o).size<=300000:=by rw[bH];have:=a8.o;omega
  have fF:(S [dw O,dw Q]).size=2:=by rw[bH];rfl
  have d3:(S (uint l.length)).size<=10:=by rw[bH];exact bA Jo
  have d4:(S (uint aD)).size<=10:=by rw[bH];exact bA Jo
  have d5:(S (uint (fh aG))).size<=10:=by
   have aL:=(df.o _ (ah (show 0<l.length by omega))).2;rw[dg.o] at aL;rw[bH];exact bA (jp aL.1 aL.2)
  have c1:=Jh (λw'(W:NK Y.heap.size (vT (nums l) O Q) aP w')=>Ul Y.heap.size (vT (nums l) O Q) aP w' W aq.1 Jo);have u1:IntKind.u8.wrap (O:Int)=(O:Int):=by rw[IntKind.wrap_u8];omega
  have u2:IntKind.u8.wrap (Q:Int)=(Q:Int):=by rw[IntKind.wrap_u8];omega
  have fn:=yw (P:=prog) (src:=22) (dst:=9) (O:Int) (Q:Int) (dw O) (dw Q) (by rw[eH];omega) (by rw[eH];omega) underlying22 underlying5 underlying9;have el:Jq (S (uint l.length) ++ (S (uint aD) ++ S (uint (fh aG))) ++ S [dw O,dw Q] ++ S (vT (nums l) O Q).o=S (eI l)):=Jh (by
   have eG:(ib l 0).T.toNat=aD:=by rw[fM (show 0<l.length by omega),eo.o];rfl
   have cl:(ib l 0).V=aG:=by rw[fM (show 0<l.length by omega),dg.o]
   unfold eI uw Da;rw[if_neg Jo,if_neg Jo,eG,cl,<-dc.o.1,<-dc.o.2];simp only[ef,au])
  have b9:=Jh ba;have bv:=Jh bW;have bN:=Jh bl;clear dn aq ba bW bl dJ dh cg dj dk;go_wp2_with fail;have ed:Jq (NK Y.heap.size (vT (nums l) O Q) aP br.drew):=Jh (Fu.below (yW _ _) b9.o (ag _ _).drew);have ec:Jq (NK Y.heap.size (vT (nums l) O Q) aP (br.alloc (.cells #[.int .u8 (O:Int),.int .u8 (Q:Int)] 5)).drew):=Jh (Fu.below (yW _ _) b9.o (Below.one _ _).drew);go_region_with (first|(go_at_call 334;refine(c1.o _ ed.o).mono ?_;rintro e b7 ⟨rfl,b1⟩)|(go_at_call 334;refine(c1.o _ ec.o).mono ?_;rintro e b7 ⟨rfl,b1⟩;obtain⟨fv,fw⟩:=FJ b1 eN.o));all_goals
   have bC:Jz Y b7:=by
    first
     |exact bN.o.trans ((cC.h b1).below (λM aE=>⟨ai aE b2,.inl λe=>absurd (bv.o M e) Jo⟩))
     |exact(bN.o.trans ((Below.one _ _).drew.mono b2)).trans (b1.below (λM aE=>⟨by simp;omega,.inl λe=>absurd (bv.o M e) Jo⟩))
   have ds:=(Jl co.o);have y:=(bC.block b8 ds).trans co.o;have dv:=λb6=>((bC.trans ((Below.one b7 b6).mono bC.size)).block b8 ds).trans co.o;have ee:=Jh y;have eg:=Jh dv;have ei:=Jh bC;clear y dv bC;go_wp2_with fail;first
    |refine⟨Js,.inl ⟨_,_,rfl,run_takeDeferred ee.o,?_⟩⟩
    |refine⟨Js,.inl ⟨_,_,rfl,run_takeDeferred (eg.o _),?_⟩⟩
   refine⟨_,results_tmp2 rfl _ _ _,?_,?_⟩
   ·have cl:Ending.returned (.tuple #[.string (S (uint l.length) ++ (S (uint aD) ++ S (uint (fh aG))) ++ S [dw O,dw Q] ++ S (vT (nums l) O Q).o),Ji 0])= .returned (.tuple #[.string (S (eI l)),Ji 0]):=by rw[el.o]
    exact cl
   have cK:=da.o.trans (ei.o.mono da.o.size);have e4:=λb6=>cK.trans ((Below.one b7 b6).mono cK.size);have fo:=ce.o;first
    |exact iP cK Jo
    |exact iP (e4 _) Jo
theorem zo:S (eI [])=S (uint 0):=by simp[eI]
theorem OB (A:JA)(c:Nat)(w:JW):
 JC 263 #[.slice A 0 c] w λe w'=>e= .returned (.tuple #[.string (S (eI [])),Ji 0])/\Jz w w':=by
 have y:=Jh (λw=>eY 0 w Jo);rw[zo];go_enter Tryz.func263,Tryz.ntmps263;go_wp2_with fail;go_loop [22] (λD=>D=Ji 0) (λ_=>0)
 case atStart=>rfl
 subst hrel;go_wp2_with fail;refine(y.o _).mono ?_;rintro e E ⟨rfl,D⟩;go_wp2_with fail;go_ret2;exact⟨rfl,D⟩
theorem OC (A:JA)(c:Nat)(l:List ar)(w:JW)(aw:Rd w 2 A l.length (l.flatMap ay))(aK:jZ l)(aL:∀x∈l,ar.ok x)(aV:l.length<=5000)(h1:1<=l.length)(h2:l.length<2)(aJ:c<=maxLen):
 JC 263 #[.slice A l.length c] w λe w'=>e= .returned (.tuple #[.string (S (eI l)),Ji 0])/\Jz w w':=by
 refine(callsIn_wide (n:=4)).1 (callsIn_of_wp_marks Tryz.func263 rfl trivial (wpIn_mono ?_ iQ.marks));simp only[Tryz.ntmps263,cJ,ak,aX,bM,dC,bY,bZ,cT,cz,bi,aY];refine wpIn_wide.2 ?_;have aq:=Jh aw;have ap:=Jh aK;have az:=Jh aL;have aR:=Jh aJ;obtain⟨y,E,rfl,aH,_⟩:=aw.2 Jo;go_wp2_with fail;go_loopw [4,22] (λao H wr=>∃D:Nat,H=Ji D/\D<=l.length/\ao=Ji (ly l D)/\Jz w wr) (λ_ H _=>l.length - (intOf H).toNat)
 case atStart=>exact⟨0,rfl,Jo,rfl,ag _ _⟩
 obtain⟨D,rfl,aU,rfl,O⟩:=hrel;by_cases aj:D<l.length
 ·obtain⟨ac,am,ae,_,U,W⟩:=ez (aq.o.below O) aj;obtain⟨rfl,rfl⟩:y=ac/\E=am:=by simpa using ae
  rw[<-fM aj] at U W;have Q:=yg ap.o aj;have K:ly l (D+1)=(ib l D).T:=rfl;have M:=O.size;have J:=Jh K;have X:=Jh O;generalize ly l D=ao at*;generalize (ib l D).T=H at*;generalize (ib l D).V=ab at*;have Y:¬H<=ao:=Jo;have Z:¬H≥1099511627776:=Jo;have aa:¬1099511627776<=H:=Jo;go_wp2_with fail;go_roundw
  case rel=>exact⟨D+1,rfl,Jo,by rw[J.o],X.o.alloc M _⟩
  simp[intOf];omega
 obtain rfl:D=l.length:=Jo;obtain⟨ac,am,ae,_,U,W⟩:=ez (aq.o.below O) (show 0<l.length by omega);obtain⟨rfl,rfl⟩:y=ac/\E=am:=by simpa using ae
 have K:y<wr.heap.size:=ai aH O.size;have aE:=ap.o.1 _ (ah (show 0<l.length by omega));have aF:=az.o _ (ah (show 0<l.length by omega));rw[gG,dz] at U W;obtain⟨H,al⟩:∃J:Nat,l[0].T=J:=⟨l[0].T.toNat,Jo⟩;obtain⟨J,Z⟩:∃M,l[0].V=M:=⟨_,rfl⟩;rw[al] at U aE;rw[Z] at W;have aa:In64 J:=Z▸aF.2;have aB:=Jh (λw=>eY l.length w Jo);have aC:=Jh (λw=>eY H w Jo);have aD:=Jh (λw=>wh J w aa.1 aa.2);have aW:IntKind.u64.wrap (H:Int)=H:=by rw[bD];omega
 have a8:(S (uint l.length)).size<=10:=by rw[bH];exact bA Jo
 have ba:(S (uint H)).size<=10:=by rw[bH];exact bA Jo
 have bb:(S (uint (fh J))).size<=10:=by rw[bH];exact bA (jp aa.1 aa.2)
 have a6:¬9223372036854775807<(S (uint H)).size+(S (uint (fh J))).size:=Jo;have a7:¬9223372036854775807<(S (uint l.length)).size+((S (uint H)).size+(S (uint (fh J))).size):=Jo;have X:=Jh O;have aS:=Jh al;have aT:=Jh Z;have ax:Jq (S (uint l.length) ++ (S (uint H) ++ S (uint (fh J)))=S (eI l)):=Jh (by
  have M:(ib l 0).T.toNat=H:=by rw[fM (show 0<l.length by omega),al];rfl
  have ad:(ib l 0).V=J:=by rw[fM (show 0<l.length by omega),Z]
  unfold eI uw;rw[if_neg Jo,if_pos Jo,M,ad];simp only[ef,au,cV])
 go_wp2_with fail;refine(aB.o _).mono ?_;rintro e aO ⟨rfl,Q⟩;have aZ:=(Q.cell (p:=(Jp y E)) K).trans U;have a1:=(Q.cell (p:=(Jp y (E+1))) K).trans W;have aI:y<aO.heap.size:=ai K Q.size;have aA:=Jh Q;have K:=aI;go_wp2_with fail;refine wp_region_held_drew (S:=λw'=>w'.cell? (Jp y E)=some (Ji (H:Int))/\w'.cell? (Jp y (E+1))=some (Ji J)) Jk ?_ (λM=>?_)
 ·go_keep
 refine JK 0 (h:=JK 1 (h:=JK 2 (h:=JK 3 (h:=JK 4 (h:=JK 5 (h:=JK 7 (h:=JK 8 (h:=JK 9 (h:=JK 10 (h:=?_))))))))));refine JN 6 (h:=λab af=>?_);go_simp;refine(aC.o _).mono ?_;rintro e aP ⟨rfl,aM⟩;have Y:=Jh aM;go_wp2_with fail;refine af.out _ _ ?_ (λM=>?_)
 ·exact⟨(Y.o.cell (p:=(Jp y E)) K).trans M.1,(Y.o.cell (p:=(Jp y (E+1))) K).trans M.2⟩
 try simp only[an,JY]
 refine JN 11 (h:=λab af=>?_);go_simp;have av:y<aP.heap.size:=ai K Y.o.size;refine(aD.o _).mono ?_;rintro e aQ ⟨rfl,aN⟩;have ab:=Jh aN;go_wp2_with fail;refine af.out _ _ ?_ (λM=>?_)
 ·exact⟨(ab.o.cell (p:=(Jp y E)) av).trans M.1,(ab.o.cell (p:=(Jp y (E+1))) av).trans M.2⟩
 try simp only[an,JY]
 refine JK 12 (h:=JK 13 (h:=JK 14 (h:=?_)));refine wpAnyH_done Jk ?_ _;have aG:Jz w aQ:=by
  have Q:=aA.o.mono X.o.size;have M:=(X.o.trans Q).drew;have af:=M.trans (Y.o.mono M.size);exact af.trans (ab.o.mono af.size)
 have M:=Jh aG;go_wp2_with fail;refine⟨_,results_tmp2 rfl _ _ _,?_,M.o⟩;have ad:Ending.returned (.tuple #[.string (S (uint l.length) ++ (S (uint H) ++ S (uint (fh J)))),Ji 0])= .returned (.tuple #[.string (S (eI l)),Ji 0]):=by rw[ax.o]
 exact ad
def GoodAt (l:List ar)(j:Nat):Prop:=ly l j<(ib l j).T/\(ib l j).T<1099511627776
theorem Jy {l:List ar}(h:∀j,j<l.length->GoodAt l j):jZ l:=by
 have J:∀j,j<l.length->0<=(ib l j).T:=by
  intro j;induction j with
  |zero=>intro E;have y:=(h 0 E).1;have D:ly l 0= -1:=rfl;omega
  |succ j H=>intro E;have y:=(h _ E).1;have D:ly l (j+1)=(ib l j).T:=rfl;have:=H Jo;omega
 refine⟨λM K=>?_,λH E=>?_⟩
 ·obtain⟨H,E,rfl⟩:=bz K;have y:=J H E;have D:=(h H E).2;rw[fM E] at y D;exact⟨y,D⟩
 have y:=(h _ E).1;have D:ly l (H+1)=(ib l H).T:=rfl;rw[D,fM (show H<l.length by omega),fM E] at y;exact y
theorem zW {l:List ar}(h:jZ l){j:Nat}(y:j<l.length):GoodAt l j:=yg h y
theorem PT {l:List ar}(h:¬jZ l):∃m,m<l.length/\(∀i,i<m->GoodAt l i)/\¬GoodAt l m:=by
 have M:∀y,(∀i,i<y->GoodAt l i)∨∃m,m<y/\(∀i,i<m->GoodAt l i)/\¬GoodAt l m:=by
  intro y;induction y with
  |zero=>exact .inl λi J=>absurd J Jo
  |succ y K=>
   rcases K with D|⟨m,D,E⟩
   ·by_cases H:GoodAt l y
    ·refine .inl λi J=>?_;rcases et i y with E|E
     ·exact D i E
     obtain rfl:i=y:=Jo;exact H
    exact .inr ⟨y,Jo,D,H⟩
   exact .inr ⟨m,Jo,E⟩
 rcases M l.length with D|D
 ·exact absurd (Jy D) h
 exact D
theorem Sf (A:JA)(c:Nat)(l:List ar)(w:JW)(O:Rd w 2 A l.length (l.flatMap ay))(ah:¬jZ l)(aw:l.length<=5000):
 JC 263 #[.slice A l.length c] w λe w'=>e= .returned (.tuple #[.string (S []),Ji 30])/\Jz w w':=by
 obtain⟨M,ax,ai,ae⟩:=PT ah;have Y:=Jh O;have W:=Jh ai;have U:=Jh ae;obtain⟨Z,am,rfl,aq,_⟩:=O.2 Jo;go_enter Tryz.func263,Tryz.ntmps263;go_wp2_with fail;go_loopw [4,22] (λD E wr=>∃y:Nat,E=Ji y/\y<=M/\D=Ji (ly l y)/\Jz w wr) (λ_ E _=>l.length - (intOf E).toNat)
 case atStart=>exact⟨0,rfl,Jo,rfl,ag _ _⟩
 obtain⟨y,rfl,au,rfl,J⟩:=hrel;obtain⟨aa,an,ad,_,ab,ac⟩:=ez (Y.o.below J) (show y<l.length by omega);obtain⟨rfl,rfl⟩:Z=aa/\am=an:=by simpa using ad
 rw[<-fM (show y<l.length by omega)] at ab ac;have ak:ly l (y+1)=(ib l y).T:=rfl;have K:=J.size;have X:=Jh ak;have H:=Jh J;have av:y<l.length:=Jo;by_cases aj:y<M
 ·obtain⟨af,ap⟩:=W.o y aj;generalize ly l y=D at*;generalize (ib l y).T=E at*;generalize (ib l y).V=ao at*;have Q:¬E<=D:=Jo;have al:¬E≥1099511627776:=Jo;have az:¬1099511627776<=E:=Jo;go_wp2_with fail;go_roundw
  case rel=>exact⟨y+1,rfl,Jo,by rw[X.o],H.o.alloc K _⟩
  simp[intOf];omega
 obtain rfl:y=M:=Jo;have af:(ib l y).T<=ly l y∨(¬(ib l y).T<=ly l y/\1099511627776<=(ib l y).T):=by
  have:=U.o;unfold GoodAt at this;omega
 generalize ly l y=D at*;generalize (ib l y).T=E at*;generalize (ib l y).V=ao at*;rcases af with Q|⟨Q,al⟩
 ·go_wp2_with fail;go_ret2;exact⟨rfl,H.o.alloc K _⟩
 go_wp2_with fail;go_ret2;exact⟨rfl,H.o.alloc K _⟩
def vh (l:List ar):Bool:=(aL l.length).all λy=>decide (ly l y<(ib l y).T) && decide ((ib l y).T<1099511627776)
theorem oA {l:List ar}:vh l=true↔jZ l:=by
 unfold vh;rw[List.all_eq_true];constructor
 ·intro y;refine Jy λE D=>?_;have:=y E (List.mem_range.2 D);simpa [GoodAt] using this
 intro y E D;have:=zW y (List.mem_range.1 D);simpa [GoodAt] using this
def Sk (l:List ar):JU × Nat:=if vh l then(eI l,0) else([],30)
theorem ry {l:List ar}(h:jZ l):Sk l=(eI l,0):=if_pos (oA.2 h)
theorem Ju {l:List ar}(h:¬jZ l):Sk l=([],30):=if_neg (mt oA.1 h)
theorem xt (A:JA)(c:Nat)(l:List ar)(w:JW)(E:Rd w 2 A l.length (l.flatMap ay))(J:∀x∈l,ar.ok x)(D:l.length<=5000)(hc:l.length<=c)(H:c<=maxLen):
 JC 263 #[.slice A l.length c] w λe w'=>e= .returned (.tuple #[.string (S (Sk l).1),Ji (Sk l).2])/\Jz w w':=by
 by_cases y:jZ l
 ·rw[ry y];by_cases O:2<=l.length
  ·exact Oz A c l w E y J D O hc H
  by_cases M:1<=l.length
  ·exact OC A c l w E y J D M Jo H
  have K:l=[]:=bu Jo;subst K;exact OB A c w
 rw[Ju y];exact Sf A c l w E y D
end
theorem UP {m:Nat}(h:m<8):pad m<=7:=by unfold pad;split<;>omega
theorem Qa {s:jw}(h:s.m<8):8*s.o.length<=s.bits.length+7:=by
 have y:=congrArg eZ (Ew h);rw[rY,ab,eo] at y;have:=UP h;omega
theorem Bq (ps:List (Nat × Nat))(a b:Nat):(gL ps a b).length=gn (ps.map dQ) a+gn (ps.map gz) b:=by
 induction ps with
 |nil=>rfl
 |cons p ps y=>
  simp only[gL,aE,ab,oY,bV,gn,gJ] at y ⊢;omega
theorem Ob (l:List ar):8*(Da l).length<=gn ((nums l).map dQ) (pN l)+gn ((nums l).map gz) (pO l)+23:=by
 have y:=Iq (qk l) (ql l) (nums l);have D:=Qa y.1.1;rw[Fl,Bq] at D;unfold Da;rw[ab];simp only[ak,aX];omega
theorem rQ {n:Nat}(h:n<=5000):(uint n).length<=2:=jb 1 n Jo
theorem Lq {l:List ar}(D:jZ l)(E:∀x∈l,ar.ok x)(h:0<l.length):(uw l).length<=16:=by
 have H:=D.1 _ (ah h);have y:=(E _ (ah h)).2;have J:(uint l[0].T.toNat).length<=6:=jb 5 _ Jo;have K:(uint (fh l[0].V)).length<=10:=bA (jp y.1 y.2);unfold uw;rw[fM h,ab];omega
theorem Dy {l:List ar}(J:jZ l)(M:∀x∈l,ar.ok x)(K:l.length<=5000):(eI l).length<=25+22*l.length:=by
 have O:=rQ K;unfold eI;by_cases y:l.length=0
 ·rw[if_pos y,if_pos Jo];simp only[ab,aX];omega
 have Q:=Lq J M Jo;rw[if_neg y];by_cases D:l.length<2
 ·rw[if_pos D];simp only[ab,aX];omega
 rw[if_neg D];have T:=Ob l;have E:=xj (qk l) ((nums l).map dQ);have H:=xj (ql l) ((nums l).map gz);rw[bU,nums_length] at E H;simp only[ab];omega
def aK (l:JU)(y:Int):Nat × Int × Nat:=
 if y<0∨(l.length:Int)<y then(0,0,1)
 else if(lF (l.drop y.toNat)).2.2=0 then((lF (l.drop y.toNat)).1,y+(lF (l.drop y.toNat)).2.1,0)
 else(0,0,(lF (l.drop y.toNat)).2.2)
theorem uA {l:JU}{a:Int}(h:a<0∨(l.length:Int)<a):aK l a=(0,0,1):=by unfold aK;rw[if_pos h]
theorem tu {l:JU}{k:Nat}(h:k<=l.length):
 aK l k=if(lF (l.drop k)).2.2=0 then((lF (l.drop k)).1,(k:Int)+(lF (l.drop k)).2.1,0) else(0,0,(lF (l.drop k)).2.2):=by
 unfold aK;rw[if_neg Jo];rfl
theorem drop_byte {s:ByteArray}{k:Nat}(h:k<s.size):s.data.toList.drop k=s[k] :: s.data.toList.drop (k+1):=by
 have y:k<s.data.toList.length:=by rw[<-bX];exact h
 rw[dm y];rfl
theorem qH {l:JU}{k a b:Nat}(h:lF (l.drop k)=(a,b,0))(y:k<=l.length):aK l k=(a,(k:Int)+b,0):=by
 rw[tu y,h];simp
theorem kX {l:JU}{k e:Nat}(h:lF (l.drop k)=(0,0,e))(y:e≠0)(D:k<=l.length):aK l k=(0,0,e):=by
 rw[tu D,h];simp[y]
theorem QG {r:JU}{j m:Nat}{c:UInt8}(E:j<10)(D:9<=j->c.toNat<=1)(y:0<j->0<c.toNat)(hc:c.toNat<128):scan j m (c :: r)=(m+c.toNat*128 ^ j,j+1,0):=by
 simp only[scan];rw[if_neg Jo,if_neg Jo,if_neg Jo,if_pos hc]
theorem MW {r:JU}{j m:Nat}{c:UInt8}(E:(9<=j/\1<c.toNat)∨(0<j/\c.toNat<1)):scan j m (c :: r)=(0,0,11):=by
 simp only[scan];by_cases y:10<=j
 ·rw[if_pos y]
 rw[if_neg y];by_cases D:j=9/\1<c.toNat
 ·rw[if_pos D]
 rw[if_neg D,if_pos Jo]
theorem QF {j m:Nat}(y:j<10):scan j m []=(0,0,10):=by simp only[scan];rw[if_neg Jo]
theorem QH {r:JU}{j m:Nat}(y:10<=j):scan j m r=(0,0,11):=by cases r<;>simp only[scan]<;>rw[if_pos y]
theorem uB {l r:JU}{k j m:Nat}{c:UInt8}(h:scan j m (c :: r)=lF (l.drop k))(H:k<=l.length)(E:j<10)(D:9<=j->c.toNat<=1)(y:0<j->0<c.toNat)(hc:c.toNat<128):
 aK l k=(m+c.toNat*128 ^ j,(k:Int)+j+1,0):=by
 rw[qH (h.symm.trans (QG E D y hc)) H];simp;omega
theorem sF {l r:JU}{k j m:Nat}{c:UInt8}(h:scan j m (c :: r)=lF (l.drop k))(D:k<=l.length)(y:(9<=j/\1<c.toNat)∨(0<j/\c.toNat<1)):
 aK l k=(0,0,11):=kX (h.symm.trans (MW y)) Jd D
theorem Gf {r:JU}{j m:Nat}{c:UInt8}(y:j<9)(hc:128<=c.toNat):scan j m (c :: r)=scan (j+1) (m+c.toNat % 128*128 ^ j) r:=by
 have:=c.toNat_lt;simp only[scan];rw[if_neg Jo,if_neg Jo,if_neg Jo,if_neg Jo,show c.toNat - 128=c.toNat % 128 by omega]
theorem DR {l:JU}{k j m:Nat}(h:scan j m []=lF (l.drop k))(D:k<=l.length)(y:j<10):aK l k=(0,0,10):=kX (h.symm.trans (QF y)) Jd D
theorem LJ {l r:JU}{k j m:Nat}(h:scan j m r=lF (l.drop k))(D:k<=l.length)(y:10<=j):aK l k=(0,0,11):=kX (h.symm.trans (QH y)) Jd D
theorem SZ {m j:Nat}{c:UInt8}(y:m<128 ^ j)(T:j<9):
 bits .or .u64 (m:Int) (IntKind.u64.wrap (IntKind.u64.wrap (bits .and .u8 (c.toNat:Int) 127)*2 ^ (7*j)))=((m+c.toNat % 128*128 ^ j:Nat):Int):=by
 have Q:=c.toNat_lt;have D:bits .and .u8 (c.toNat:Int) 127=((c.toNat % 128:Nat):Int):=by
  have:=bits_mask .u8 8 Jd wraps_u8 7 Jd (c.toNat:Int) Jo Jo;simpa using this
 have E:(128:Nat) ^ j=2 ^ (7*j):=by rw[Nat.pow_mul]
 have M:(2:Nat) ^ (7*j)<=2 ^ 56:=ce Jo Jo;rw[E] at y ⊢;have H:IntKind.u64.wrap (((c.toNat % 128:Nat):Int))=((c.toNat % 128:Nat):Int):=by rw[bD];omega
 have J:(((c.toNat % 128:Nat):Int))*2 ^ (7*j)=((c.toNat % 128*2 ^ (7*j):Nat):Int):=by rw[Int.natCast_mul];congr 1
 have O:c.toNat % 128*2 ^ (7*j)<=127*2 ^ 56:=ee Jo M;rw[D,H,J];have K:IntKind.u64.wrap ((c.toNat % 128*2 ^ (7*j):Nat):Int)=((c.toNat % 128*2 ^ (7*j):Nat):Int):=by rw[bD];omega
 rw[K,bits_or_u64_nat _ _ Jo Jo];congr 1;rw[Nat.or_comm,dj,<-eu y,Nat.add_comm,dj]
theorem SY {m j:Nat}{c:UInt8}(K:j=9)(y:m<128 ^ j)(hc:c.toNat<=1):
 bits .or .u64 (m:Int) (IntKind.u64.wrap (IntKind.u64.wrap (bits .and .u8 (c.toNat:Int) 127)*9223372036854775808))=((m+c.toNat*128 ^ j:Nat):Int):=by
 subst K;have E:bits .and .u8 (c.toNat:Int) 127=((c.toNat:Nat):Int):=by
  have:=bits_mask .u8 8 Jd wraps_u8 7 Jd (c.toNat:Int) Jo Jo;simp at this;rw[this];omega
 have D:(128:Nat) ^ 9=2 ^ 63:=Jd;rw[D] at y ⊢;have H:IntKind.u64.wrap ((c.toNat:Nat):Int)=((c.toNat:Nat):Int):=by rw[bD];omega
 have J:IntKind.u64.wrap ((c.toNat:Nat)*9223372036854775808:Int)=((c.toNat*2 ^ 63:Nat):Int):=by rw[bD];omega
 rw[E,H,J,bits_or_u64_nat _ _ Jo Jo];congr 1;rw[Nat.or_comm,dj,<-eu y,Nat.add_comm,dj]
theorem Qh {m j c:Nat}(y:m<128 ^ j)(hc:c<128):m+c*128 ^ j<128 ^ (j+1):=by
 rw[gF];have:c*128 ^ j<=127*128 ^ j:=dP _ Jo;omega
theorem rM {n E b y e D:Int}(h1:n=E)(h2:b=y)(H:e=D):
 Ending.returned (.tuple #[.int .u64 n,Ji b,Ji e])= .returned (.tuple #[.int .u64 E,Ji y,Ji D]):=by rw[h1,h2,H]
theorem Gg (s:ByteArray)(k:Nat)(w:JW)(al:s.size<1099511627776)(ac:k<=s.size):
 JC 91 #[.string s,Ji k] w λe w'=>e= .returned (.tuple #[.int .u64 (aK s.data.toList k).1,Ji (aK s.data.toList k).2.1,Ji (aK s.data.toList k).2.2])/\w=w':=by
 have ad:k<=s.data.toList.length:=by rw[<-bX];exact ac
 have E:=Jh ad;have ag:decide (s.size<k)=false:=by simp;omega
 have ah:decide ((k:Int)<0)=false:=Js;go_enter Tryz.func91,Tryz.ntmps91;go_wp2;go_loop [4,7,17] (λH _ D=>∃(K y:Nat),H= .int .u64 K/\D=Ji y/\y<=10/\k+y<=s.size/\K<128 ^ y/\scan y K (s.data.toList.drop (k+y))=lF (s.data.toList.drop k)) (λ_ _ D=>10 - (intOf D).toNat)
 case atStart=>exact⟨0,0,rfl,rfl,Jo,Jo,Js,by simp[lF]⟩
 obtain⟨K,y,rfl,rfl,ai,ak,ae,Q⟩:=hrel;by_cases M:y<10;rotate_left
 ·have D:=Jh (LJ Q E.o Jo);go_wp2_with fail;go_ret3;exact⟨by rw[D.o];rfl,rfl⟩
 by_cases aa:k+y<s.size;rotate_left
 ·have D:=Jh (DR (by rw[<-Q,dF (by rw[<-bX];omega)]) E.o M);go_wp2_with fail;go_ret3;exact⟨by rw[D.o];rfl,rfl⟩
 rw[drop_byte aa] at Q;have H:=Jh Q;have U:=Jh ae;have af:=(s[k+y]).toNat_lt;by_cases ab:9<=y
 ·by_cases V:1<s[k+y].toNat
  ·have D:=Jh (sF H.o E.o (.inl ⟨ab,V⟩));go_wp2_with fail;go_ret3;exact⟨by rw[D.o];rfl,rfl⟩
  by_cases O:s[k+y].toNat<1
  ·have D:=Jh (sF H.o E.o (.inr ⟨Jo,O⟩));go_wp2_with fail;go_ret3;exact⟨by rw[D.o];rfl,rfl⟩
  have D:=Jh (uB H.o E.o M Jo Jo Jo);have J:=Jh (SY (c:=s[k+y]) (show y=9 by omega) U.o Jo);have T:=Jh (show y=9 by omega);go_wp2_with fail;go_ret3;exact⟨by rw[D.o];exact rM (by rw[J.o]) (by simp[T.o]) rfl,rfl⟩
 have J:=Jh (SZ (c:=s[k+y]) U.o Jo);by_cases Z:128<=s[k+y].toNat
 ·have D:=Jh (Gf (r:=List.drop (k+y+1) s.data.toList) (j:=y) (m:=K) Jo Z);go_wp2_with fail;go_round
  case rel=>exact⟨K+s[k+y].toNat % 128*128 ^ y,y+1,by rw[J.o],by go_num,Jo,Jo,Qh U.o Jo,by rw[<-H.o,D.o];rfl⟩
  simp[intOf];omega
 by_cases aj:0<y
 ·by_cases O:s[k+y].toNat<1
  ·have D:=Jh (sF H.o E.o (.inr ⟨Jo,O⟩));go_wp2_with fail;go_ret3;exact⟨by rw[D.o];rfl,rfl⟩
  have D:=Jh (uB H.o E.o M Jo Jo Jo);have T:=Jh (show s[k+y].toNat % 128=s[k+y].toNat by omega);go_wp2_with fail;go_ret3;exact⟨by rw[D.o];exact rM (by rw[J.o,T.o]) Js rfl,rfl⟩
 have D:=Jh (uB H.o E.o M Jo Jo Jo);have T:=Jh (show s[k+y].toNat % 128=s[k+y].toNat by omega);by_cases O:s[k+y].toNat<1
 ·have W:s[k+y].toNat=0:=Jo;have V:=J.o;rw[W] at V;have Y:=Jh W;have X:=Jh V;go_wp2_with fail;go_ret3;exact⟨by rw[D.o];exact rM (by rw[Y.o];exact X.o) Js rfl,rfl⟩
 go_wp2_with fail;go_ret3;exact⟨by rw[D.o];exact rM (by rw[J.o,T.o]) Js rfl,rfl⟩
def val:JU->Nat
 |[]=>0
 |c :: y=>c.toNat % 128+128*val y
theorem xJ (l:JU):(∃m k,lF l=(m,k,0))∨lF l=(0,0,10)∨lF l=(0,0,11):=by
 by_cases D:(lF l).2.2=0
 ·exact .inl ⟨(lF l).1,(lF l).2.1,by rw[<-D]⟩
 obtain⟨E,H,y⟩:=EP l 0 0 D;rcases y with y|y
 ·exact .inr (.inl (Prod.ext E (Prod.ext H y)))
 exact .inr (.inr (Prod.ext E (Prod.ext H y)))
theorem im (s:ByteArray)(a:Int)(w:JW)(H:s.size<1099511627776):
 JC 91 #[.string s,Ji a] w λe w'=>e= .returned (.tuple #[.int .u64 (aK s.data.toList a).1,Ji (aK s.data.toList a).2.1,Ji (aK s.data.toList a).2.2])/\w=w':=by
 by_cases D:a<0
 ·have y:=Jh (uA (l:=s.data.toList) (.inl D));go_enter Tryz.func91,Tryz.ntmps91;go_wp2_with fail;go_ret3;exact⟨by rw[y.o];rfl,rfl⟩
 by_cases E:(s.size:Int)<a
 ·have y:=Jh (uA (l:=s.data.toList) (.inr (by rw[<-bX];exact E)));go_enter Tryz.func91,Tryz.ntmps91;go_wp2_with fail;go_ret3;exact⟨by rw[y.o];rfl,rfl⟩
 obtain⟨y,rfl⟩:=dA (by omega:0<=a);exact Gg s y w H Jo
theorem nR (l:JU)(a:Int):(∃e,aK l a=(0,0,e)/\(e=1∨e=10∨e=11))∨
 ∃(k m:Nat)(r:JU),a=k/\k<=l.length/\m<18446744073709551616/\l.drop k=uint m ++ r/\aK l a=(m,((k+(uint m).length:Nat):Int),0)/\k+(uint m).length<=l.length:=by
 by_cases K:a<0∨(l.length:Int)<a
 ·exact .inl ⟨1,uA K,.inl rfl⟩
 obtain⟨k,rfl⟩:=dA (by omega:0<=a);have D:k<=l.length:=Jo;rcases xJ (l.drop k) with⟨m,M,y⟩|y|y
 ·obtain⟨r,E,H,J⟩:=xK y;refine .inr ⟨k,m,r,rfl,D,J,E,by rw[qH y D,H];simp,?_⟩;have:=congrArg eZ E;simp only[bo,ab] at this;have:=ua m;omega
 ·exact .inl ⟨10,kX y Jd D,.inr (.inl rfl)⟩
 exact .inl ⟨11,kX y Jd D,.inr (.inr rfl)⟩
theorem ki (l:JU)(a:Int):(aK l a).1<18446744073709551616:=by
 rcases nR l a with⟨E,y,_⟩|⟨H,J,K,_,_,D,_,y,_⟩
 ·rw[y];exact(by decide:(0:Nat)<18446744073709551616)
 rw[y];exact D
theorem kC (l:JU)(a:Int):0<=(aK l a).2.1/\(aK l a).2.1<=l.length:=by
 rcases nR l a with⟨D,y,_⟩|⟨H,J,K,_,_,E,_,y,_⟩
 ·rw[y];simp
 rw[y];simp;omega
def oC (l:JU)(a:Int):Int × Int × Nat:=(bE (aK l a).1,(aK l a).2.1,(aK l a).2.2)
theorem xL (s:ByteArray)(a:Int)(w:JW)(D:s.size<1099511627776):
 JC 344 #[.string s,Ji a] w λe w'=>e= .returned (.tuple #[Ji (oC s.data.toList a).1,Ji (oC s.data.toList a).2.1,Ji (oC s.data.toList a).2.2])/\w=w':=by
 have y:=ki s.data.toList a;go_enter Tryz.func344,Tryz.ntmps344;go_wp2_with fail;refine(im s a _ D).mono ?_;rintro e w' ⟨rfl,rfl⟩;go_wp2_with fail;refine(sQ _ _ y).mono ?_;rintro e w' ⟨rfl,rfl⟩;go_wp2_with fail;go_ret3;exact⟨rfl,rfl⟩
def gO (l:JU)(a:Int):JU × Int × Nat:=
 if(aK l a).2.2≠0 then([],0,(aK l a).2.2)
 else if(l.length:Int) - (aK l a).2.1<(aK l a).1 then([],0,10)
 else((l.drop (aK l a).2.1.toNat).take (aK l a).1,(aK l a).2.1+(aK l a).1,0)
theorem Qs {a b:ByteArray}{x y e f:Int}(h1:a=b)(h2:x=y)(D:e=f):
 Ending.returned (.tuple #[.string a,Ji x,Ji e])= .returned (.tuple #[.string b,Ji y,Ji f]):=by rw[h1,h2,D]
theorem qI {l:JU}{a:Int}{e:Nat}(h:aK l a=(0,0,e))(y:e≠0):gO l a=([],0,e):=by unfold gO;rw[h];simp[y]
theorem og {l:JU}{a:Int}{m x:Nat}(h:aK l a=(m,(x:Int),0))(y:(l.length:Int) - x<m):gO l a=([],0,10):=by unfold gO;rw[h];simp[y]
theorem xN {l:JU}{a:Int}{m x:Nat}(h:aK l a=(m,(x:Int),0))(y:¬(l.length:Int) - x<m):gO l a=((l.drop x).take m,((x+m:Nat):Int),0):=by unfold gO;rw[h];simp[y]
theorem DU (s:ByteArray)(a:Int)(w:JW)(U:s.size<1099511627776):
 JC 94 #[.string s,Ji a] w λe w'=>e= .returned (.tuple #[.string (S (gO s.data.toList a).1),Ji (gO s.data.toList a).2.1,Ji (gO s.data.toList a).2.2])/\w=w':=by
 have H:=im s a w U;rcases nR s.data.toList a with⟨e,E,W⟩|⟨V,y,aa,M,_,Y,O,E,T⟩
 ·rw[qI E Jo];rw[E] at H;dsimp only at H;have D:((e:Int) == 0)=false:=beq_eq_false_iff_ne.2 Jo;have J:=Jh H;go_enter Tryz.func94,Tryz.ntmps94;go_wp2_with fail;refine J.o.mono ?_;rintro e w' ⟨rfl,rfl⟩;go_wp2_with fail;go_ret3;exact⟨rfl,rfl⟩
 clear M O;rw[E] at H;dsimp only at H;rw[<-bX] at T;generalize Z:V+(uint y).length=D at*;have J:=Jh H;by_cases X:s.size<D+y
 ·rw[og E (by rw[<-bX];omega)];have Q:decide ((s.size:Int) - (D:Int)<(y:Int))=true:=by simp;omega
  go_enter Tryz.func94,Tryz.ntmps94;go_wp2_with fail;refine J.o.mono ?_;rintro e w' ⟨rfl,rfl⟩;go_wp2_with fail;go_ret3;exact⟨rfl,rfl⟩
 rw[xN E (by rw[<-bX];omega)];have Q:decide ((s.size:Int) - (D:Int)<(y:Int))=false:=by simp;omega
 have K:=Jh (Lib.extract_eq s D (D+y));go_enter Tryz.func94,Tryz.ntmps94;go_wp2_with fail;refine J.o.mono ?_;rintro e w' ⟨rfl,rfl⟩;go_wp2_with fail;go_ret3;exact⟨Qs (by rw[K.o,show D+y - D=y by omega];rfl) Js rfl,rfl⟩
def tW (L:List Bool)(a b:Int)(j:Nat)(d t v:Int):Option (Nat × Int × Int × Int):=
 if(iT (L.drop j) a).2.2=0/\(iT (L.drop (j+(iT (L.drop j) a).2.1)) b).2.2=0/\bE (iT (L.drop j) a).1<=1099511627776/\-1099511627776<=bE (iT (L.drop j) a).1/\
  1<=d+bE (iT (L.drop j) a).1/\d+bE (iT (L.drop j) a).1<=1099511627776/\t+(d+bE (iT (L.drop j) a).1)<1099511627776 then
  some (j+(iT (L.drop j) a).2.1+(iT (L.drop (j+(iT (L.drop j) a).2.1)) b).2.1,d+bE (iT (L.drop j) a).1,t+(d+bE (iT (L.drop j) a).1),jz (v+bE (iT (L.drop (j+(iT (L.drop j) a).2.1)) b).1))
 else none
def lh (L:List Bool)(a b:Int):Nat->Nat->Int->Int->Int->Option (List ar × Nat)
 |0,D,_,_,_=>some ([],D)
 |J+1,D,H,K,M=>match tW L a b D H K M with
  |none=>none
  |some y=>(lh L a b J y.1 y.2.1 y.2.2.1 y.2.2.2).map λE=>(⟨y.2.2.1,y.2.2.2⟩ :: E.1,E.2)
def nth (l:JU)(i:Nat):Nat:=(l.getD i 0).toNat
def jy (l:JU):Option (List ar × Bool):=
 if(aK l 0).2.2≠0∨5000<(aK l 0).1 then none
 else if(aK l 0).1=0 then some ([],decide ((aK l 0).2.1=l.length))
 else if(aK l (aK l 0).2.1).2.2≠0∨1099511627776<=(aK l (aK l 0).2.1).1 then none
 else if(aK l (aK l (aK l 0).2.1).2.1).2.2≠0 then none
 else if(aK l 0).1=1 then some ([⟨((aK l (aK l 0).2.1).1:Int),bE (aK l (aK l (aK l 0).2.1).2.1).1⟩],decide ((aK l (aK l (aK l 0).2.1).2.1).2.1=l.length))
 else if l.length<(aK l (aK l (aK l 0).2.1).2.1).2.1.toNat+2 then none
 else match lh (bitsOf (l.drop ((aK l (aK l (aK l 0).2.1).2.1).2.1.toNat+2))) (nth l (aK l (aK l (aK l 0).2.1).2.1).2.1.toNat) (nth l ((aK l (aK l (aK l 0).2.1).2.1).2.1.toNat+1))
  ((aK l 0).1 - 1) 0 0 ((aK l (aK l 0).2.1).1:Int) (bE (aK l (aK l (aK l 0).2.1).2.1).1) with
  |none=>none
  |some y=>some (⟨((aK l (aK l 0).2.1).1:Int),bE (aK l (aK l (aK l 0).2.1).2.1).1⟩ :: y.1,decide (tf ((bitsOf (l.drop ((aK l (aK l (aK l 0).2.1).2.1).2.1.toNat+2))).drop y.2)=0))
theorem step_ok {L:List Bool}{a b:Int}{j:Nat}{d t v:Int}{x:Nat × Int × Int × Int}(h:tW L a b j d t v=some x):t<x.2.2.1/\x.2.2.1<1099511627776/\In64 x.2.2.2/\1<=x.2.1/\x.2.1<=1099511627776:=by
 unfold tW at h;split at h
 ·rename_i y;obtain rfl:=Option.some.inj h;refine⟨?_,y.2.2.2.2.2.2,ud _,y.2.2.2.2.1,y.2.2.2.2.2.1⟩;simp only;omega
 cases h
def Rw:Int->List ar->Prop
 |_,[]=>True
 |E,y :: D=>E<y.T/\y.T<1099511627776/\In64 y.V/\Rw y.T D
theorem Tj {L:List Bool}{a b:Int}:∀(m j:Nat)(d t v:Int)(r:List ar × Nat),lh L a b m j d t v=some r->Rw t r.1/\r.1.length=m:=by
 intro m;induction m with
 |zero=>intro j d t v r y;simp only[lh,Option.some.injEq] at y;subst y;exact⟨trivial,rfl⟩
 |succ m Q=>
  intro j d t v r y;simp only[lh] at y;split at y
  ·cases y
  rename_i U K;obtain⟨D,E,H,_⟩:=step_ok K;simp only[Option.map_eq_some_iff] at y;obtain⟨T,J,rfl⟩:=y;obtain⟨M,O⟩:=Q _ _ _ _ _ J;exact⟨⟨D,E,H,M⟩,by simp[O]⟩
theorem MJ:∀(l:List ar)(t:Int),Rw t l->-1<=t->(∀x∈l,0<=x.T/\x.T<1099511627776/\In64 x.V)/\∀i,(y:i+1<l.length)->(l[i]'Jo).T<l[i+1].T:=by
 intro l;induction l with
 |nil=>intro t _ _;exact⟨λx D=>(by cases D),λi y=>absurd y Js⟩
 |cons x l U=>
  intro t y X;obtain⟨W,K,M,E⟩:=y;obtain⟨O,Q⟩:=U x.T E Jo;refine⟨λJ D=>?_,λi H=>?_⟩
  ·rcases List.mem_cons.1 D with rfl|D
   ·exact⟨Jo,K,M⟩
   exact O J D
  cases i with
  |zero=>
   cases l with
   |nil=>simp at H
   |cons J l=>exact E.1
  |succ i=>exact Q i (by simpa using H)
theorem uL {l:List ar}{t:Int}(h:Rw t l)(H: -1<=t):jZ l/\∀x∈l,ar.ok x:=by
 obtain⟨D,E⟩:=MJ l t h H;exact⟨⟨λx y=>⟨(D x y).1,(D x y).2.1⟩,E⟩,λx y=>⟨by have:=D x y;unfold In64;omega,(D x y).2.2⟩⟩
theorem oR {k:Nat}(h:k<18446744073709551616):In64 (bE k):=⟨yN h,yM h⟩
theorem wu {l:JU}{r:List ar × Bool}(h:jy l=some r):(jZ r.1/\∀x∈r.1,ar.ok x)/\r.1.length<=5000:=by
 unfold jy at h;have y:=ki l (aK l (aK l 0).2.1).2.1;generalize aK l 0=D at*;generalize aK l D.2.1=K at*;generalize aK l K.2.1=Q at*;split at h
 ·cases h
 rename_i M;split at h
 ·obtain rfl:=Option.some.inj h;exact⟨uL (t:=-1) trivial Jo,Js⟩
 split at h
 ·cases h
 rename_i O;split at h
 ·cases h
 split at h
 ·obtain rfl:=Option.some.inj h;exact⟨uL (t:=-1) ⟨by simp only;omega,by simp only;omega,oR y,trivial⟩ Jo,Js⟩
 split at h
 ·cases h
 split at h
 ·cases h
 rename_i x E;obtain rfl:=Option.some.inj h;obtain⟨H,J⟩:=Tj _ _ _ _ _ _ E;exact⟨uL (t:=-1) ⟨by simp only;omega,by simp only;omega,oR y,H⟩ Jo,by simp only[ak,J];omega⟩
theorem AQ {l:List Bool}{k:Nat}(h:k<=40):iT l (k:Int)=jW l k:=by unfold iT;rw[if_pos Jo];rfl
theorem Ny {x y:Int}(D:In64 x):jz (y+jz (x - y))=x:=by
 unfold jz;unfold In64 at D;rw[aB,aB];omega
theorem CY (ps:List (Nat × Nat))(a b:Nat){i:Nat}(h:i<ps.length):gL ps a b=gL (ps.take i) a b ++ (lU ps[i].1 a ++ (lU ps[i].2 b ++ gL (ps.drop (i+1)) a b)):=by
 have y:ps=ps.take i ++ ps[i] :: ps.drop (i+1):=Js;have D:gL ps a b=gL (ps.take i ++ ps[i] :: ps.drop (i+1)) a b:=congrArg (λE=>gL E a b) y;rw[D];simp only[gL,ao,aE,au]
theorem wW (ps:List (Nat × Nat))(a b:Nat){i:Nat}(h:i<ps.length):(gL (ps.take (i+1)) a b).length=(gL (ps.take i) a b).length+il ps[i].1 a+il ps[i].2 b:=by
 rw[aO h];simp only[gL,ao,aE,iK,cV,ab,oY];omega
theorem Nj {l:List ar}(y:jZ l)(Y:∀x∈l,ar.ok x){a b:Nat}(Q:a<=40)(W:b<=40)(p:List Bool){i:Nat}(h:i+1<l.length):
 tW (gL (nums l) a b ++ p) a b (gL ((nums l).take i) a b).length (ahead l i) (ib l i).T (ib l i).V=some ((gL ((nums l).take (i+1)) a b).length,ahead l (i+1),(ib l (i+1)).T,(ib l (i+1)).V):=by
 have D:i<(nums l).length:=by rw[nums_length];omega
 have J:=qU D;have H:=Cd y h;have E:(gL (nums l) a b ++ p).drop (gL ((nums l).take i) a b).length=lU (mf l i).1 a ++ (lU (mf l i).2 b ++ (gL ((nums l).drop (i+1)) a b ++ p)):=by
  rw[CY _ _ _ D,J,au,gr rfl];simp only[au]
 have K:(gL (nums l) a b ++ p).drop ((gL ((nums l).take i) a b).length+il (mf l i).1 a)=lU (mf l i).2 b ++ (gL ((nums l).drop (i+1)) a b ++ p):=by
  rw[<-bR,E,gr (oY _ _)]
 have aa:iT ((gL (nums l) a b ++ p).drop (gL ((nums l).take i) a b).length) (a:Int)=((mf l i).1,il (mf l i).1 a,0):=by rw[E,AQ Q,AU H.1]
 have ab:iT ((gL (nums l) a b ++ p).drop ((gL ((nums l).take i) a b).length+il (mf l i).1 a)) (b:Int)=((mf l i).2,il (mf l i).2 b,0):=by rw[K,AQ W,AU H.2]
 have ad:=vZ y h;have ac:=wP y (show i<l.length by omega);have u1:bE (mf l i).1=dist l i - ahead l i:=nX _;have u2:bE (mf l i).2=jz ((ib l (i+1)).V - (ib l i).V):=nX _;have M:(ib l i).T+dist l i=(ib l (i+1)).T:=by unfold dist;omega
 have X:=(zW y h).2;have O:jz ((ib l i).V+jz ((ib l (i+1)).V - (ib l i).V))=(ib l (i+1)).V:=Ny (by rw[fM h];exact(Y _ (ah h)).2);have Z:ahead l i+(dist l i - ahead l i)=dist l i:=Jo;have U:ahead l (i+1)=dist l i:=rfl;unfold tW;rw[aa];simp only;rw[ab];simp only;rw[u1,u2,Z,M,O,U,wW _ _ _ D,J];rw[if_pos (by refine⟨trivial,trivial,?_,?_,?_,?_,X⟩<;>omega)]
theorem MA {l:List ar}(J:jZ l)(K:∀x∈l,ar.ok x){a b:Nat}(E:a<=40)(H:b<=40)(p:List Bool):∀(m i:Nat),i+1+m=l.length->
 lh (gL (nums l) a b ++ p) a b m (gL ((nums l).take i) a b).length (ahead l i) (ib l i).T (ib l i).V=some (l.drop (i+1),(gL (nums l) a b).length):=by
 intro m;induction m with
 |zero=>
  intro i D;have y:(nums l).take i=nums l:=aw (by rw[nums_length];omega);simp only[lh,y];rw[dF Jo]
 |succ m y=>
  intro i D;simp only[lh];rw[Nj J K E H p Jo];simp only;rw[y (i+1) Jo];simp only[eO];rw[dm (show i+1<l.length by omega),<-fM]
theorem lG {l r:JU}{n k:Nat}(D:n<18446744073709551616)(y:k<=l.length)(h:l.drop k=uint n ++ r):aK l k=(n,((k+(uint n).length:Nat):Int),0):=by
 have:=qH (l:=l) (k:=k) (a:=n) (b:=(uint n).length) (by rw[h];exact oB D r) y;rw[this];rfl
theorem zJ {l:List ar}(h:0<l.length):(ib l 0) :: l.drop 1=l:=by
 rw[fM h];cases l with
 |nil=>simp at h
 |cons x l=>rfl
theorem De {k:Nat}(h:k<256):(dw k).toNat=k:=by rw[eH];omega
theorem AN {l:List ar}(ac:jZ l)(ad:∀x∈l,ar.ok x)(az:l.length<=5000):jy (eI l)=some (l,true):=by
 by_cases U:l.length=0
 ·have D:l=[]:=bu U;subst D;have y:eI []=[nN 0]:=by
   unfold eI;rw[show([]:List ar).length=0 from rfl,fT Jo];rfl
  have Q:aK [nN 0] 0=(0,1,0):=Jd;unfold jy;rw[y,Q];rfl
 have H:0<l.length:=Jo;have aq:=ac.1 _ (ah H);have X:=(ad _ (ah H)).2;rw[<-fM H] at aq X;obtain⟨D,E⟩:=Je ((if l.length<2 then[] else Da l));have W:eI l=uint l.length ++ (uint (ib l 0).T.toNat ++ (uint (fh (ib l 0).V) ++ D)):=by
  unfold eI uw;rw[if_neg U,E];simp only[au]
 obtain⟨K,ae⟩:∃J,J=(uint l.length).length:=⟨_,rfl⟩;obtain⟨M,af⟩:∃J,J=K+(uint (ib l 0).T.toNat).length:=⟨_,rfl⟩;obtain⟨y,ag⟩:∃J,J=M+(uint (fh (ib l 0).V)).length:=⟨_,rfl⟩;have aA:(eI l).length=y+D.length:=by rw[W];simp only[ab];omega
 have Y:(eI l).drop K=uint (ib l 0).T.toNat ++ (uint (fh (ib l 0).V) ++ D):=by rw[W,ae,gr rfl]
 have Z:(eI l).drop M=uint (fh (ib l 0).V) ++ D:=by rw[af,<-bR,Y,gr rfl]
 have O:(eI l).drop y=D:=by rw[ag,<-bR,Z,gr rfl]
 have Q:aK (eI l) 0=(l.length,(K:Int),0):=by
  have:=lG (l:=eI l) (k:=0) (n:=l.length) Jo Jo (by rw[fe];exact W);rw[show((0:Nat):Int)=0 from rfl] at this;rw[this,ae];simp
 have ao:aK (eI l) (K:Int)=((ib l 0).T.toNat,(M:Int),0):=by rw[lG Jo Jo Y,af]
 have ap:aK (eI l) (M:Int)=(fh (ib l 0).V,(y:Int),0):=by rw[lG (jp X.1 X.2) Jo Z,ag]
 have av:(((ib l 0).T.toNat:Nat):Int)=(ib l 0).T:=Jo;have aj:(⟨(ib l 0).T,(ib l 0).V⟩:ar)=ib l 0:=rfl;unfold jy;rw[Q];simp only;rw[ao];simp only;rw[ap];simp only;rw[if_neg Jo,if_neg U,if_neg Jo,if_neg Js,nX,av];by_cases aa:l.length=1
 ·rw[if_pos aa];rw[if_pos Jo] at E;have ai:D.length=0:=by rw[<-E];rfl
  have J:l=[ib l 0]:=by
   have:=zJ H;rw[dF Jo] at this;exact this.symm
  rw[show decide ((y:Int)=((eI l).length:Int))=true from decide_eq_true Jo,aj,<-J]
 rw[if_neg Jo] at E;have J:D=dw (pN l) :: dw (pO l) :: (vT (nums l) (pN l) (pO l)).o:=by rw[<-E];rfl
 have ay:2<=D.length:=by rw[J];simp
 have al:nth (eI l) y=pN l:=by
  unfold nth;have:=qk l;rw[bQ,<-dz y,<-dJ,O,J];exact De Jo
 have am:nth (eI l) (y+1)=pO l:=by
  unfold nth;have:=ql l;rw[bQ,<-dJ,O,J];exact De Jo
 have ak:=Iq (qk l) (ql l) (nums l);have an:bitsOf ((eI l).drop (y+2))=gL (nums l) (pN l) (pO l) ++ cm (pad (vT (nums l) (pN l) (pO l)).m) false:=by
  rw[<-bR,O,J,<-Fl,<-Ew ak.1.1];rfl
 rw[if_neg aa,show((y:Int)).toNat=y from rfl,if_neg Jo,al,am,an];have ai:=MA ac ad (qk l) (ql l) (cm (pad (vT (nums l) (pN l) (pO l)).m) false) (l.length - 1) 0 Jo;have ax:(gL ((nums l).take 0) (pN l) (pO l)).length=0:=rfl;have aw:ahead l 0=0:=rfl;rw[ax,aw] at ai;rw[ai];simp only;rw[aj,bB,zJ H,gr rfl,Sn _ ak.1.1];rfl
def qq (l:JU):Option (List ar):=match jy l with
 |none=>none
 |some y=>if eI y.1=l then some y.1 else none
theorem Ow {l:List ar}(y:jZ l)(E:∀x∈l,ar.ok x)(D:l.length<=5000):qq (eI l)=some l:=by
 unfold qq;rw[AN y E D];simp
theorem Lb {l:JU}{r:List ar × Bool}(h:jy l=some r)(J:eI r.1=l):r.2=true:=by
 obtain⟨⟨D,E⟩,H⟩:=wu h;have y:=AN D E H;rw[J,h] at y;have:=Option.some.inj y;rw[this]
theorem Uu {l:JU}{r:List ar}(h:qq l=some r):jZ r/\(∀x∈r,ar.ok x)/\r.length<=5000/\eI r=l:=by
 unfold qq at h;split at h
 ·cases h
 rename_i x J;obtain⟨⟨y,D⟩,E⟩:=wu J;split at h
 ·rename_i H;obtain rfl:=Option.some.inj h;exact⟨y,D,E,H⟩
 cases h
section
open Go Go.RowKit Go.Shelf
theorem Gr.drewN {base:Nat}{g:List Nat}{E v9:Value}{xs H:List Value}{D y:JW}(h:Gr base g E v9 xs H D y)(n:Nat):Gr base g E v9 xs H D (y.drewN n):=
 ⟨⟨h.st.os,h.st.tape,h.st.output,h.st.size,h.st.block⟩,⟨h.kp.size,h.kp.same⟩,h.hb,h.l8,h.l9,h.gl⟩
end
theorem MV:(prog.info? 113).map (λi=>(i.zero,i.size,i.bytes))=some (some (.agg #[Ji 0,Ji 0]),2,16):=Jk
section
open Go Go.RowKit Go.Shelf
theorem EJ (l:List Bool)(k:Int):(iT l k).1<18446744073709551616:=by
 have D:gk ((l.drop 24).take 64)<2 ^ 64:=nW l 24 64;unfold iT;split
 ·rename_i E;have y:2 ^ k.toNat<=2 ^ 40:=ce Jd Jo;have J:=nW l (lead l 24+1) k.toNat
  unfold jW;split
  ·rename_i H;split
   ·simp only;omega
   simp only;have:lead l 24*2 ^ k.toNat<=24*2 ^ 40:=ee Jo y;omega
  split
  ·simp only;omega
  split<;>simp only<;>omega
 simp only;omega
theorem VN {y:List ar}{p:ar}{m:Nat}(h:y.length=m):ib (y ++ [p]) m=p:=by
 subst h;rw[fM Js];simp
theorem FK (y:List ar)(p:ar):(y ++ [p]).flatMap ay=y.flatMap ay ++ [Ji p.T,Ji p.V]:=by simp[ay]
theorem Mw (w:JW)(u v:Value)(y:TypeId):Rd (w.alloc (.cells #[u,v] y)) 2 (some (Jp w.heap.size 0)) 1 [u,v]:=by
 refine⟨Js,λ_=>⟨_,0,rfl,Js,λE H D=>?_⟩⟩;have:=nc w #[u,v] y E H (by simpa using D)
 rwa [na] at this
theorem MC {L:List Bool}{a b:Int}{m j:Nat}{d t v:Int}{y:List ar}{p:ar}{x:Nat × Int × Int × Int}{R:Option (List ar × Nat)}(h:(lh L a b (m+1) j d t v).map (λr=>(y ++ p :: r.1,r.2))=R)(D:tW L a b j d t v=some x):
 (lh L a b m x.1 x.2.1 x.2.2.1 x.2.2.2).map (λr=>((y ++ [p]) ++ ⟨x.2.2.1,x.2.2.2⟩ :: r.1,r.2))=R:=by
 rw[<-h];simp only[lh,D,Option.map_map];congr 1;funext r;simp
theorem MD {L:List Bool}{a b:Int}{m j:Nat}{d t v:Int}{D:List ar}{p:ar}{R:Option (List ar × Nat)}(h:(lh L a b (m+1) j d t v).map (λr=>(D ++ p :: r.1,r.2))=R)(y:tW L a b j d t v=none):R=none:=by
 rw[<-h];simp[lh,y]
theorem MB {L:List Bool}{a b:Int}{j:Nat}{d t v:Int}{y:List ar}{p:ar}{R:Option (List ar × Nat)}(h:(lh L a b 0 j d t v).map (λr=>(y ++ p :: r.1,r.2))=R):R=some (y ++ [p],j):=by
 rw[<-h];rfl
theorem RI {w w1:JW}{u v:Value}{y:TypeId}(h:w.alloc (.cells #[u,v] y)=w1):w1.cell? (Jp w.heap.size 0)=some u/\w1.cell? (Jp w.heap.size 1)=some v:=by
 subst h;simp
def NH (B n:Nat)(L:List Bool)(R:Option (List ar × Nat))(w:JW)(e:Ending)(w':JW):Prop:=
 (R=none/\e= .returned (.tuple #[Jn,.bool false])/\Below B w w')∨
  ∃y D,R=some y/\e= .returned (.tuple #[D,.bool ((tf (L.drop y.2):Int) == 0)])/\bP (λE=>E<B) 113 2 D n (y.1.flatMap ay) w'/\Below B w w'
def Ru (B c n:Nat)(q:ByteArray)(a b:Int)(R:Option (List ar × Nat))(w:JW)(U Q:Value)(wr:JW):Prop:=
 ∃(J:List ar)(y:ar)(H D:Nat)(E:Int)(K:JA)(M:Nat),U= .slice K (D+1) M/\Q=Ji E/\J.length=D/\D+1<=n/\0<=y.T/\y.T<1099511627776/\In64 y.V/\0<=E/\E<=1099511627776/\H<=8*q.size/\
  bP (λO=>O<B∨O=c) 113 2 (.slice K (D+1) M) (D+1) ((J ++ [y]).flatMap ay) wr/\gK 530 c q H wr/\Below B w wr/\
  (lh (dt q) a b (n - (D+1)) H E y.T y.V).map (λK=>(J ++ y :: K.1,K.2))=R
theorem zi (B n:Nat)(q:ByteArray)(aC:ar)(v:Value)(w:JW)(bG:bP (λk=>k<B) 113 2 v 1 (ay aC) w)(hB:B<=w.heap.size)(cP:q.size<=1000000)(cS:2<=q.size)(cL:1<=n)(cM:n<=5000)
 (cj:0<=aC.T) (ck:aC.T<1099511627776) (cl:In64 aC.V) (R:Option (List ar × Nat)) (y:(lh (dt (q.extract 2 q.size)) (q[0].toNat:Int) (q[1].toNat:Int) (n - 1) 0 0 aC.T aC.V).map (λr=>(aC :: r.1,r.2))=R):
 JC 403 #[v,Ji n,.string q] w (NH B n (dt (q.extract 2 q.size)) R w):=by
 have W:=Jh bG;have bS:=Jh y;obtain⟨bw,bz,rfl⟩:=bG.form;have cW:(q.extract 2 q.size).size=q.size - 2:=by rw[ByteArray.size_extract];omega
 have cT:(2:Int)<=(q.size:Int):=Jo;have cU:(0:Int)<(q.size:Int):=Jo;have cV:(1:Int)<(q.size:Int):=Jo;have cQ:0<q.size:=Jo;have cR:1<q.size:=Jo;obtain⟨aD,bC⟩:∃aD:Nat,q[0].toNat=aD:=⟨_,rfl⟩;obtain⟨aE,bD⟩:∃aE:Nat,q[1].toNat=aE:=⟨_,rfl⟩;rw[bC,bD] at bS;have cG:aD<=255:=Jw (UInt8.toNat_lt q[0]);have K:aE<=255:=Jw (UInt8.toNat_lt q[1]);clear bG y;go_enter Tryz.func403,Tryz.ntmps403;go_wp2_with fail;go_quiet (fail);go_wp2_with fail;have Q:Jq (Below B w (w.drewN nq)):=Jh (below_drewN (ag _ _) _);have y:Jq (bP (λk=>k<B) 113 2 (.slice bw 1 bz) 1 (ay aC) (w.drewN nq)):=Jh (W.o.below (below_drewN (ag _ _) _));have J:B<=(w.drewN nq).heap.size:=hB;generalize w.drewN nq=bl at*;refine(Qq _ _).mono ?_;rintro H bL ⟨rfl,E⟩;generalize (q.extract 2 q.size)=ao at*;have Y:gK 530 bl.heap.size ao 0 bL:=by rw[E];exact heap_alloc_new bl _
 have X:bP (λk=>k<B∨k=bl.heap.size) 113 2 (.slice bw 1 bz) 1 (ay aC) bL:=by
  rw[E];refine(y.o.alloc _).shift λD bp M=>?_;have U:=(y.o.1.lt D bp).2;rcases M with M|M
  ·exact y.o.2 D bp M
  omega
 have K:Below B w bL:=by rw[E];exact Q.o.alloc J _
 have ce:=Jh Y;have b8:=Jh X;have b7:=Jh K;have O:B<=bl.heap.size:=J;clear Y X K E J W y Q;generalize bl.heap.size=ad at*;go_wp2_with fail;go_loopw [0,11] (λy E wr=>Ru B ad n ao aD aE R w y E wr) (λy _ _=>n - lenOf y)
 case atStart=>exact⟨[],aC,0,0,0,bw,bz,rfl,rfl,rfl,Jo,cj,ck,cl,Jo,Jo,Jo,b8.o,ce.o,b7.o,bS.o⟩
 obtain⟨a8,Y,ak,K,ac,cC,bV,rfl,rfl,br,cK,cN,cO,cr,cH,cI,bY,a1,bj,bn,bc⟩:=hrel;by_cases cq:K+1<n;rotate_left
 ·obtain rfl:n=K+1:=Jo;have y:R=some (a8 ++ [Y],ak):=MB (by rw[fG] at bc;exact bc);have E:=Jh (Sm ad ao ak wr bj Jo bY);have bh:=Jh a1;have aw:=Jh bn;have J:=Jh y;clear bc y a1 bj bn cq bC bD br;go_wp2_with fail;refine E.o.mono ?_;rintro H aT ⟨rfl,aQ⟩;have y:=Jh aQ;clear aQ;go_wp2_with fail;go_ret2;refine .inr ⟨(a8 ++ [Y],ak),_,J.o,rfl,?_,aw.o.trans (y.o.below.mono (ap hB aw.o.size))⟩;exact(bP.later bh.o λD _=>by rw[y.o.2.2.2]).shift λD bp M=>bh.o.2 D bp (.inl M)
 obtain⟨D,ai,rfl,cJ,aG,aH⟩:=ez a1.rd (show K<(a8 ++ [Y]).length by simp;omega);rw[<-fM,VN br] at aG aH;have aa:D≠ad:=λH=>a1.2 D rfl (.inr H);obtain⟨bK,Z⟩:∃bK,n - (K+1)=bK+1:=⟨n - (K+1) - 1,Jo⟩;rw[Z] at bc;have bH:=EI ((dt ao).drop ak) (aD:Int);have y:=EJ ((dt ao).drop ak) (aD:Int);have J:=tP ad ao ak (aD:Int) wr bj Jo bY;obtain⟨bA,W⟩:∃bA,iT ((dt ao).drop ak) (aD:Int)=bA:=⟨_,rfl⟩;rw[W] at bH y J;obtain⟨aI,aS,aF⟩:=bA;simp only at bH y;rw[bo,kF] at bH;have bI:=EI ((dt ao).drop (ak+aS)) (aE:Int);have E:=EJ ((dt ao).drop (ak+aS)) (aE:Int);have Q:=λaP M=>tP ad ao (ak+aS) (aE:Int) aP M Jo Jo;obtain⟨bB,X⟩:∃bB,iT ((dt ao).drop (ak+aS)) (aE:Int)=bB:=⟨_,rfl⟩;rw[X] at bI E Q;obtain⟨bQ,bu,aM⟩:=bB;simp only at bI E;rw[bo,kF] at bI;have bd:tW (dt ao) aD aE ak ac Y.T Y.V=if aF=0/\aM=0/\bE aI<=1099511627776/\-1099511627776<=bE aI/\1<=ac+bE aI/\ac+bE aI<=1099511627776/\Y.T+(ac+bE aI)<1099511627776 then
  some (ak+aS+bu,ac+bE aI,Y.T+(ac+bE aI),jz (Y.V+bE bQ)) else none:=by
  unfold tW;rw[W];simp only;rw[X]
 have aL:=Jh (λw=>sQ aI w y);have cg:=Jh (λw=>(sQ bQ w E).mono λH aP(M:H=_/\w=aP)=>(⟨M.1,M.2.symm⟩:H=_/\aP=w));have cu:=oR y;have cv:=oR E;unfold In64 at cu cv cr;have aJ:=Jh J;have aK:=Jh Q;have bh:=Jh a1;have cD:=Jh bj;have aw:=Jh bn;have bT:=Jh br;have bm:=Jh bc;have cc:=Jh Z;have aj:=Jh aa;have cX:=Jh (a1.1.lt D rfl);clear J Q W X y E a1 bj bn br bc Z aa bC bD;generalize bE aI=y at*;generalize bE bQ=bv at*;have bb:(aF≠0∨(aF=0/\aM≠0)∨(aF=0/\aM=0/\1099511627776<y)∨(aF=0/\aM=0/\¬1099511627776<y/\y< -1099511627776)∨(aF=0/\aM=0/\¬1099511627776<y/\¬y< -1099511627776/\ac+y<1)∨
  (aF=0/\aM=0/\¬1099511627776<y/\¬y< -1099511627776/\¬ac+y<1/\1099511627776<ac+y)∨(aF=0/\aM=0/\¬1099511627776<y/\¬y< -1099511627776/\¬ac+y<1/\¬1099511627776<ac+y/\1099511627776<=Y.T+(ac+y)))∨
  (aF=0/\aM=0/\y<=1099511627776/\-1099511627776<=y/\1<=ac+y/\ac+y<=1099511627776/\Y.T+(ac+y)<1099511627776):=Jo
 rcases bb with bb|bb
 ·rw[if_neg Jo] at bd;have au:=Jh (MD bm.o bd);clear bd bm;generalize Y.T=av at*;generalize Y.V=aA at*;rcases bb with U|⟨U,ah⟩|⟨U,ah,am⟩|⟨U,ah,am,ax⟩|⟨U,ah,am,ax,aN⟩|⟨U,ah,am,ax,aN,ba⟩|⟨U,ah,am,ax,aN,ba,aY⟩
  ·obtain⟨a6,a7⟩:=lP U;clear U;go_wp2_with fail;refine aJ.o.mono ?_;rintro H aT ⟨rfl,aa,Z⟩;have al:=Jh aa;have Q:=Jh Z;clear aa Z;go_wp2_with fail;refine(aK.o _ al.o).mono ?_;rintro H ae ⟨rfl,X,E⟩;have J:=(E.block D aj.o).trans (Q.o.block D aj.o);have aW:=(af (a:=(Jp D (ai+K*2))) J).trans aG;have aX:=(af (a:=(Jp D (ai+K*2+1))) J).trans aH;have W:ad<ae.heap.size:=(Jl X);have aq:=Jh (((aw.o.trans (Q.o.below O)).trans (E.below O)).alloc (ap O (fl W)) (.cells #[Ji av,Ji aA] 113));clear X E J W;go_wp2_with fail;refine(aL.o _).mono ?_;rintro H aV ⟨rfl,rfl⟩;go_wp2_with fail;go_ret2;exact .inl ⟨au.o,rfl,aq.o⟩
  ·obtain⟨a6,a7⟩:=fJ U;obtain⟨be,bf⟩:=lP ah;clear U ah;go_wp2_with fail;refine aJ.o.mono ?_;rintro H aT ⟨rfl,aa,Z⟩;have al:=Jh aa;have Q:=Jh Z;clear aa Z;go_wp2_with fail;refine(aK.o _ al.o).mono ?_;rintro H ae ⟨rfl,X,E⟩;have J:=(E.block D aj.o).trans (Q.o.block D aj.o);have aW:=(af (a:=(Jp D (ai+K*2))) J).trans aG;have aX:=(af (a:=(Jp D (ai+K*2+1))) J).trans aH;have W:ad<ae.heap.size:=(Jl X);have aq:=Jh (((aw.o.trans (Q.o.below O)).trans (E.below O)).alloc (ap O (fl W)) (.cells #[Ji av,Ji aA] 113));clear X E J W;go_wp2_with fail;refine(aL.o _).mono ?_;rintro H aV ⟨rfl,rfl⟩;go_wp2_with fail;go_ret2;exact .inl ⟨au.o,rfl,aq.o⟩
  ·obtain⟨a6,a7⟩:=fJ U;obtain⟨be,bf⟩:=fJ ah;have bk:decide (1099511627776<y)=true:=decide_eq_true am;clear U ah;go_wp2_with fail;refine aJ.o.mono ?_;rintro H aT ⟨rfl,aa,Z⟩;have al:=Jh aa;have Q:=Jh Z;clear aa Z;go_wp2_with fail;refine(aK.o _ al.o).mono ?_;rintro H ae ⟨rfl,X,E⟩;have J:=(E.block D aj.o).trans (Q.o.block D aj.o);have aW:=(af (a:=(Jp D (ai+K*2))) J).trans aG;have aX:=(af (a:=(Jp D (ai+K*2+1))) J).trans aH;have W:ad<ae.heap.size:=(Jl X);have aq:=Jh (((aw.o.trans (Q.o.below O)).trans (E.below O)).alloc (ap O (fl W)) (.cells #[Ji av,Ji aA] 113));clear X E J W;go_wp2_with fail;refine(aL.o _).mono ?_;rintro H aV ⟨rfl,rfl⟩;go_wp2_with fail;go_ret2;exact .inl ⟨au.o,rfl,aq.o⟩
  ·obtain⟨a6,a7⟩:=fJ U;obtain⟨be,bf⟩:=fJ ah;have bk:decide (1099511627776<y)=false:=decide_eq_false am;have bt:decide (y< -1099511627776)=true:=decide_eq_true ax;clear U ah am;go_wp2_with fail;refine aJ.o.mono ?_;rintro H aT ⟨rfl,aa,Z⟩;have al:=Jh aa;have Q:=Jh Z;clear aa Z;go_wp2_with fail;refine(aK.o _ al.o).mono ?_;rintro H ae ⟨rfl,X,E⟩;have J:=(E.block D aj.o).trans (Q.o.block D aj.o);have aW:=(af (a:=(Jp D (ai+K*2))) J).trans aG;have aX:=(af (a:=(Jp D (ai+K*2+1))) J).trans aH;have W:ad<ae.heap.size:=(Jl X);have aq:=Jh (((aw.o.trans (Q.o.below O)).trans (E.below O)).alloc (ap O (fl W)) (.cells #[Ji av,Ji aA] 113));clear X E J W;go_wp2_with fail;refine(aL.o _).mono ?_;rintro H aV ⟨rfl,rfl⟩;go_wp2_with fail;go_ret2;exact .inl ⟨au.o,rfl,aq.o⟩
  ·obtain⟨a6,a7⟩:=fJ U;obtain⟨be,bf⟩:=fJ ah;have bk:decide (1099511627776<y)=false:=decide_eq_false am;have bt:decide (y< -1099511627776)=false:=decide_eq_false ax;have bJ:decide (ac+y<1)=true:=decide_eq_true aN;have aO:y<=1099511627776:=Jo;have aQ: -1099511627776<=y:=Jo;clear U ah am ax;go_wp2_with fail;refine aJ.o.mono ?_;rintro H aT ⟨rfl,aa,Z⟩;have al:=Jh aa;have Q:=Jh Z;clear aa Z;go_wp2_with fail;refine(aK.o _ al.o).mono ?_;rintro H ae ⟨rfl,X,E⟩;have J:=(E.block D aj.o).trans (Q.o.block D aj.o);have aW:=(af (a:=(Jp D (ai+K*2))) J).trans aG;have aX:=(af (a:=(Jp D (ai+K*2+1))) J).trans aH;have W:ad<ae.heap.size:=(Jl X);have aq:=Jh (((aw.o.trans (Q.o.below O)).trans (E.below O)).alloc (ap O (fl W)) (.cells #[Ji av,Ji aA] 113));clear X E J W;go_wp2_with fail;refine(aL.o _).mono ?_;rintro H aV ⟨rfl,rfl⟩;go_wp2_with fail;go_ret2;exact .inl ⟨au.o,rfl,aq.o⟩
  ·obtain⟨a6,a7⟩:=fJ U;obtain⟨be,bf⟩:=fJ ah;have bk:decide (1099511627776<y)=false:=decide_eq_false am;have bt:decide (y< -1099511627776)=false:=decide_eq_false ax;have bJ:decide (ac+y<1)=false:=decide_eq_false aN;have b1:decide (1099511627776<ac+y)=true:=decide_eq_true ba;have aO:y<=1099511627776:=Jo;have aQ: -1099511627776<=y:=Jo;clear U ah am ax aN;go_wp2_with fail;refine aJ.o.mono ?_;rintro H aT ⟨rfl,aa,Z⟩;have al:=Jh aa;have Q:=Jh Z;clear aa Z;go_wp2_with fail;refine(aK.o _ al.o).mono ?_;rintro H ae ⟨rfl,X,E⟩;have J:=(E.block D aj.o).trans (Q.o.block D aj.o);have aW:=(af (a:=(Jp D (ai+K*2))) J).trans aG;have aX:=(af (a:=(Jp D (ai+K*2+1))) J).trans aH;have W:ad<ae.heap.size:=(Jl X);have aq:=Jh (((aw.o.trans (Q.o.below O)).trans (E.below O)).alloc (ap O (fl W)) (.cells #[Ji av,Ji aA] 113));clear X E J W;go_wp2_with fail;refine(aL.o _).mono ?_;rintro H aV ⟨rfl,rfl⟩;go_wp2_with fail;go_ret2;exact .inl ⟨au.o,rfl,aq.o⟩
  obtain⟨a6,a7⟩:=fJ U;obtain⟨be,bf⟩:=fJ ah;have bk:decide (1099511627776<y)=false:=decide_eq_false am;have bt:decide (y< -1099511627776)=false:=decide_eq_false ax;have aO:y<=1099511627776:=Jo;have aQ: -1099511627776<=y:=Jo;have aR:1<=ac+y:=Jo;have aU:ac+y<=1099511627776:=Jo;clear am ax aN ba;obtain⟨az,bF⟩:=Je (ac+y);rw[bF] at aY aR aU;have bJ:=Jf (az<1);have b1:=Jf (1099511627776<az);have cA:decide (1099511627776<=av+az)=true:=decide_eq_true aY;have cB:decide (av+az≥1099511627776)=true:=decide_eq_true aY;clear U ah;go_wp2_with fail;refine aJ.o.mono ?_;rintro H aT ⟨rfl,aa,Z⟩;have al:=Jh aa;have Q:=Jh Z;clear aa Z;go_wp2_with fail;refine(aK.o _ al.o).mono ?_;rintro H ae ⟨rfl,X,E⟩;have J:=(E.block D aj.o).trans (Q.o.block D aj.o);have aW:=(af (a:=(Jp D (ai+K*2))) J).trans aG;have aX:=(af (a:=(Jp D (ai+K*2+1))) J).trans aH;have W:ad<ae.heap.size:=(Jl X);have aq:=Jh (((aw.o.trans (Q.o.below O)).trans (E.below O)).alloc (ap O (fl W)) (.cells #[Ji av,Ji aA] 113));clear X E J W;go_wp2_with fail;refine(aL.o _).mono ?_;rintro H aV ⟨rfl,rfl⟩;go_wp2_with fail;go_ret2;exact .inl ⟨au.o,rfl,aq.o⟩
 rw[if_pos bb] at bd;obtain⟨U,ah,am,ax,aN,ba,aY⟩:=bb;obtain⟨a6,a7⟩:=fJ U;obtain⟨be,bf⟩:=fJ ah;clear U ah;have au:=Jh (MC bm.o bd);have bX:=ud (Y.V+bv);obtain⟨az,bF⟩:=Je (ac+y);rw[bF] at aN ba aY au;obtain⟨aq,bZ⟩:=Je (Y.T+az);rw[bZ] at aY au;have cx:IntKind.i64.wrap (Y.V+bv)=jz (Y.V+bv):=rfl;obtain⟨bg,aO⟩:=Je (jz (Y.V+bv));rw[aO] at au bX cx;have cy:IntKind.i64.wrap aq=aq:=by rw[aB];omega
 have cY:IntKind.i64.wrap (Y.T+az)=aq:=by rw[bZ,cy]
 have ct:0<=aq:=Jo;have bU:=Jh (FK (a8 ++ [Y]) ⟨aq,bg⟩);have cz:((a8 ++ [Y]).flatMap ay).length=(K+1)*2:=by rw[de dy,ab,bT.o];rfl
 clear bd bm aO;generalize aO:(a8 ++ [Y]).flatMap ay=b2 at bh bU cz;clear aO;have bk:=Jf (1099511627776<y);have bt:=Jf (y< -1099511627776);have bJ:=Jf (az<1);have b1:=Jf (1099511627776<az);have cA:=Jf (1099511627776<=aq);have cB:=Jf (aq≥1099511627776);generalize aO:Y.T=av at*;generalize aQ:Y.V=aA at*;clear aO aQ;go_wp2_with fail;refine aJ.o.mono ?_;rintro H aT ⟨rfl,aa,Z⟩;have al:=Jh aa;have Q:=Jh Z;clear aa Z;go_wp2_with fail;refine(aK.o _ al.o).mono ?_;rintro H ae ⟨rfl,X,E⟩;have J:=(E.block D aj.o).trans (Q.o.block D aj.o);have aW:=(af (a:=(Jp D (ai+K*2))) J).trans aG;have aX:=(af (a:=(Jp D (ai+K*2+1))) J).trans aH;have bi:=(aw.o.trans (Q.o.below O)).trans (E.below O);have aQ:=nL (nL bh.o Q.o (.inr rfl)) E (.inr rfl);have W:ad<ae.heap.size:=(Jl X);obtain⟨aU,aO⟩:=Je (ae.alloc (.cells #[Ji av,Ji aA] 113));obtain⟨cE,cF⟩:=RI aO;have bR:gK 530 ad ao (ak+aS+bu) aU:=by rw[<-aO];exact(heap_alloc_old ae _ W).trans X
 have bq:bP (λk=>k<B∨k=ad∨k=ae.heap.size) 113 2 (.slice (some (Jp D ai)) (K+1) bV) (K+1) b2 aU:=by
  rw[<-aO];refine(aQ.alloc _).shift λk aZ M=>?_;rcases M with M|M|M
  ·exact aQ.2 k aZ (.inl M)
  ·exact aQ.2 k aZ (.inr M)
  exact iw _ (M▸(aQ.1.lt k aZ).2)
 have aR:Below B w aU:=by rw[<-aO];exact bi.alloc (ap O (fl W)) _
 have bM:gm (λk=>k<B∨k=ad∨k=ae.heap.size) aU:=by
  intro k aZ;have:aU.heap.size=ae.heap.size+1:=by rw[<-aO];simp
  rcases aZ with M|M|M<;>omega
 have bx:=Jh bR;have b9:=Jh bq;have b3:=Jh aR;have cd:=Jh bM;clear X E J bi aQ W bR bq aR bM;go_wp2_with fail;generalize ae.heap.size=aR at*;refine(aL.o _).mono ?_;rintro H aV ⟨rfl,rfl⟩;clear aO;go_wp2_with fail;have b4:=Jh (b9.o.drew.alloc (.cells #[Ji aq,Ji bg] 113));have b5:Jq (gm (λk=>k<B∨k=ad∨k=aR) (aU.drew.alloc (.cells #[Ji aq,Ji bg] 113))):=Jh (cd.o.mono Js);have b6:=Jh (Mw aU.drew (Ji aq) (Ji bg) 113);refine wp_region_held_drew (S:=λaP=>aP.cell? (Jp aR 0)=some (Ji av)/\aP.cell? (Jp aR 1)=some (Ji aA)) Jk ?_ (λaO=>?_)
 ·go_keep
 refine JK 0 (h:=JK 1 (h:=JK 2 (h:=JK 3 (h:=JK 4 (h:=JK 5 (h:=JK 6 (h:=JK 7 (h:=?_))))))));refine JN 8 (h:=λbi aP=>?_);go_simp;refine(cg.o _).mono ?_;rintro H aV ⟨rfl,rfl⟩;go_wp2_with fail;refine aP.out _ _ ?_ (λaO=>?_)
 ·exact aO
 clear aP bi;try simp only[an,JY]
 refine JK 9 (h:=JK 10 (h:=?_));refine JN 11 (h:=λbi aP=>?_);go_simp;refine aP.out _ _ ?_ (λaO=>?_)
 ·exact⟨bO _ aO.1,bO _ aO.2⟩
 clear aP bi;try simp only[an,JY]
 refine JN 12 (h:=λbi aP=>?_);refine bN rfl (.tmp 84) (.tmp 95) 66 rfl 113 (.agg #[Ji 0,Ji 0]) 2 16 underlying66 MV rfl Jd (λk=>k<B∨k=ad∨k=aR) (K+1) b2 (.slice (some (Jp D ai)) (K+1) bV) _ b4.o rfl b5.o _ 1 _ [Ji aq,Ji bg] rfl b6.o (by intro c1 b0;simp at b0;rcases b0 with rfl|rfl<;>rfl) Jm Jo ?_;intro cZ bM bq aQ co cm;obtain⟨bR,bW,rfl⟩:=bq.form;refine aP.out _ _ ?_ (λaO=>?_)
 ·exact⟨(af (a:=(Jp aR 0)) (aQ.block aR (.inr (.inr rfl)))).trans aO.1,(af (a:=(Jp aR 1)) (aQ.block aR (.inr (.inr rfl)))).trans aO.2⟩
 clear aP bi;try simp only[an,JY]
 refine JK 13 (h:=?_);refine wpAnyH_done Jk ?_ _;have aP:gK 530 ad ao (ak+aS+bu) bM:=(aQ.block ad (.inr (.inl rfl))).trans ((heap_alloc_old aU.drew _ (Jl bx.o)).trans bx.o);have aO:Below B w bM:=(b3.o.drew.alloc (ap O (fl (Jl bx.o))) _).trans (aQ.below λk aZ=>.inl aZ);have cf:=Jh aP;have bi:=Jh aO;have cb:=Jh (bP.shift bq (λci cn M=>bq.2 ci cn (M.elim .inl (λM=>.inr (.inl M)))):bP (λk=>k<B∨k=ad) 113 2 (.slice bR (K+1+1) bW) (K+1+1) _ bM);clear aP aO bq aQ co cm;go_wp2_with fail;go_roundw
 case rel=>
  exact⟨a8 ++ [Y],⟨aq,bg⟩,ak+aS+bu,K+1,az,bR,bW,rfl,rfl,by rw[ab,bT.o];rfl,Jo,ct,aY,bX,Jo,ba,Jo,by rw[bU.o];exact cb.o,cf.o,bi.o,by
   have:n - (K+1+1)=bK:=Jw cc.o;rw[this];exact au.o⟩
 simp[lenOf];omega
def wL (B:Nat)(A:JA):Prop:=∀y,A=some y->B<=y.block
theorem uz {R:Nat->Prop}{B n c m size:Nat}{e:TypeId}{A:JA}{xs:List Value}{w:JW}(h:bP R e size (.slice A n c) m xs w)(D:∀k,k<B->R k):wL B A:=λy e=>by
 subst e;exact Nat.not_lt.1 λE=>h.2 y.block rfl (D _ E)
theorem Af (B:Nat):wL B none:=λD y=>by cases y
def NC (R:Option (List ar))(w:JW)(e:Ending)(w':JW):Prop:=
 (R=none/\e= .returned (.tuple #[Jn,Ji 11])/\Jz w w')∨
  ∃y D E,R=some y/\e= .returned (.tuple #[.slice D y.length E,Ji 0])/\Rd w' 2 D y.length (y.flatMap ay)/\y.length<=E/\E<=maxLen/\Jz w w'/\wL w.heap.size D
theorem PV {s:ByteArray}{i:Nat}(h:i<s.size):nth s.data.toList i=s[i].toNat:=by
 unfold nth;rw[bQ,aT (by rw[<-bX];exact h)];rfl
theorem DG {s:ByteArray}{p i:Nat}(h:p+i<s.size)(y:i<(s.extract p s.size).size):(s.extract p s.size)[i].toNat=nth s.data.toList (p+i):=by
 have D:=PV y;rw[<-D];unfold nth;rw[pg _ _ Jo,bQ,bQ,dJ]
theorem GQ (q:ByteArray)(v:Value)(n:Nat)(w:JW)(y:q.size<2):JC 403 #[v,Ji n,.string q] w λe w'=>e= .returned (.tuple #[Jn,.bool false])/\w=w':=by
 go_enter Tryz.func403,Tryz.ntmps403;go_wp2_with fail;go_ret2;exact⟨rfl,rfl⟩
theorem Mx {l:JU}(h:(aK l 0).2.2≠0∨5000<(aK l 0).1):jy l=none:=by unfold jy;rw[if_pos h]
theorem qt {l:JU}(h:jy l=none):qq l=none:=by unfold qq;rw[h]
theorem xo {l:JU}{r:List ar}(h:jy l=some (r,false)):qq l=none:=by
 unfold qq;rw[h];simp only;rw[if_neg];intro y;have:=Lb h y;cases this
theorem zM {l:JU}{r:List ar}{b:Bool}(h:jy l=some (r,b))(y:eI r≠l):qq l=none:=by unfold qq;rw[h];simp only;rw[if_neg y]
theorem xp {l:JU}{r:List ar}{b:Bool}(h:jy l=some (r,b))(y:eI r=l):qq l=some r:=by unfold qq;rw[h];simp only;rw[if_pos y]
theorem AO {l:JU}{y:Int}(h:aK l 0=(0,y,0)):jy l=some ([],decide (y=l.length)):=by unfold jy;rw[h];rfl
theorem Ox {l:JU}{H:Int}(h:aK l 0=(0,H,0))(W:¬H<l.length):qq l=some []:=by
 refine xp (AO h) ?_;have y:=tu (l:=l) (k:=0) Jo;rw[show((0:Nat):Int)=0 from rfl,h,fe] at y;have K:=xJ l;split at y
 ·rename_i E;rcases K with⟨T,X,D⟩|D|D
  ·obtain⟨U,J,V,_⟩:=xK D;rw[D] at y;simp only[Prod.mk.injEq] at y;have O:T=0:=y.1.symm;subst O;have M:=congrArg eZ J;rw[ab] at M;have Q:U=[]:=bu Jo;rw[J,Q];unfold eI;simp
  ·rw[D] at E;simp at E
  rw[D] at E;simp at E
 rename_i E;simp only[Prod.mk.injEq] at y;exact absurd y.2.2.symm E
theorem UT {l:JU}{n:Nat}{y:Int}(h1:aK l 0=(n,y,0))(D:n≠0)(E:n<=5000)(h:(aK l y).2.2≠0∨1099511627776<=(aK l y).1):jy l=none:=by
 unfold jy;rw[h1];simp only;rw[if_neg Jo,if_neg D,if_pos h]
theorem UU {l:JU}{n t:Nat}{y a2:Int}(h1:aK l 0=(n,y,0))(D:n≠0)(E:n<=5000)(h2:aK l y=(t,a2,0))(H:t<1099511627776)(h:(aK l a2).2.2≠0):jy l=none:=by
 unfold jy;rw[h1];simp only;rw[h2];simp only;rw[if_neg Jo,if_neg D,if_neg Jo,if_pos h]
theorem Qr {l:JU}{t v:Nat}{y a2 a3:Int}(h1:aK l 0=(1,y,0))(h2:aK l y=(t,a2,0))(E:t<1099511627776)(D:aK l a2=(v,a3,0)):jy l=some ([⟨(t:Int),bE v⟩],decide (a3=l.length)):=by
 unfold jy;rw[h1];simp only;rw[h2];simp only;rw[D];simp only;rw[if_neg Jo,if_neg Jo,if_neg Jo,if_neg Js,if_pos trivial]
theorem My {l:JU}{n t v p:Nat}{y a2:Int}(h1:aK l 0=(n,y,0))(E:2<=n)(H:n<=5000)(h2:aK l y=(t,a2,0))(J:t<1099511627776)(D:aK l a2=(v,(p:Int),0)):
 jy l=if l.length<p+2 then none else((lh (bitsOf (l.drop (p+2))) (nth l p) (nth l (p+1)) (n - 1) 0 0 (t:Int) (bE v)).map λr=>((⟨(t:Int),bE v⟩:ar) :: r.1,r.2)).map λr=>(r.1,decide (tf ((bitsOf (l.drop (p+2))).drop r.2)=0)):=by
 unfold jy;rw[h1];simp only;rw[h2];simp only;rw[D];simp only;rw[if_neg Jo,if_neg Jo,if_neg Jo,if_neg Js,if_neg Jo,show((p:Int)).toNat=p from rfl];split
 ·rfl
 cases lh (bitsOf (l.drop (p+2))) (nth l p) (nth l (p+1)) (n - 1) 0 0 (t:Int) (bE v)<;>rfl
theorem TS (w:JW)(B:Nat)(hB:B<=w.heap.size)(x:ar):bP (λk=>k<B) 113 2 (.slice (some (Jp w.heap.size 0)) 1 1) 1 (ay x) (w.alloc (.cells #[Ji x.T,Ji x.V] 113)):=by
 refine⟨⟨rfl,.inr ⟨w.heap.size,1,#[Ji x.T,Ji x.V],rfl,bj _,heap_alloc_new w _,Jo,by unfold maxLen;omega,rfl,rfl⟩⟩,λy D E=>?_⟩;have:w.heap.size=y:=by simpa [aG] using D
 omega
theorem UI {s:ByteArray}{a:Int}{v e:Nat}{p:Int}(h:aK s.data.toList a=(v,p,e)):oC s.data.toList a=(bE v,p,e):=by unfold oC;rw[h]
theorem FW (s:ByteArray)(w:JW)(bH:s.size<=1000000):JC 361 #[.string s] w (NC (qq s.data.toList) w):=by
 have ab:=Jh (bX s);have aR:=im s 0 w Jo;obtain⟨bm,W⟩:∃M,aK s.data.toList 0=M:=⟨_,rfl⟩;have a8:=kC s.data.toList 0;have aZ:=ki s.data.toList 0;rw[W,<-ab.o] at a8;rw[W] at aR aZ;obtain⟨J,Y,au⟩:=bm;simp only at a8 aZ;have Q:=Jh aR;by_cases bp:au≠0∨5000<J
 ·have E:=Jh (qt (Mx (l:=s.data.toList) (by rw[W];exact bp)));have am:au≠0∨(au=0/\5000<J):=Jo;rcases am with H|⟨H,U⟩
  ·obtain⟨bf,aA⟩:=lP H;go_enter Tryz.func361,Tryz.ntmps361;go_wp2_with fail;refine Q.o.mono ?_;rintro y D ⟨rfl,rfl⟩;go_wp2_with fail;go_ret2;exact .inl ⟨E.o,rfl,ag _ _⟩
  obtain⟨bf,aA⟩:=fJ H;have aP:decide (5000<J)=true:=decide_eq_true U;have aj:=Jt ((5000:Int)<(J:Int));go_enter Tryz.func361,Tryz.ntmps361;go_wp2_with fail;refine Q.o.mono ?_;rintro y D ⟨rfl,rfl⟩;go_wp2_with fail;go_ret2;exact .inl ⟨E.o,rfl,ag _ _⟩
 obtain⟨O,ay⟩:au=0/\J<=5000:=Jo;subst O;have bf:=Jf ((5000:Int)<(J:Int));have bJ:=Jf (5000<J);by_cases aG:J=0
 ·subst aG;by_cases K:Y<s.size
  ·have E:=Jh (xo (r:=[]) (by rw[AO W,show decide (Y=(s.data.toList.length:Int))=false from decide_eq_false (by rw[<-ab.o];omega)]));have aA:decide (Y<(s.size:Int))=true:=decide_eq_true K;go_enter Tryz.func361,Tryz.ntmps361;go_wp2_with fail;refine Q.o.mono ?_;rintro y D ⟨rfl,rfl⟩;go_wp2_with fail;go_ret2;exact .inl ⟨E.o,rfl,ag _ _⟩
  have E:=Jh (Ox W (by rw[<-ab.o];exact K));have aA:decide (Y<(s.size:Int))=false:=decide_eq_false K;go_enter Tryz.func361,Tryz.ntmps361;go_wp2_with fail;refine Q.o.mono ?_;rintro y D ⟨rfl,rfl⟩;go_wp2_with fail;go_ret2;exact .inr ⟨[],none,0,E.o,rfl,Rd.nil _ _ _,Js,Js,ag _ _,Af _⟩
 have aA:((J:Int) == 0)=false:=beq_eq_false_iff_ne.2 Jo;have aS:=im s Y w Jo;obtain⟨bn,af⟩:∃M,aK s.data.toList Y=M:=⟨_,rfl⟩;have ba:=kC s.data.toList Y;have a1:=ki s.data.toList Y;rw[af,<-ab.o] at ba;rw[af] at aS a1;obtain⟨K,ap,av⟩:=bn;simp only at ba a1;have X:=Jh aS;by_cases bq:av≠0∨1099511627776<=K
 ·have E:=Jh (qt (UT W aG ay (by rw[af];exact bq)));have am:av≠0∨(av=0/\1099511627776<=K):=Jo;rcases am with H|⟨H,U⟩
  ·obtain⟨aP,aj⟩:=lP H;go_enter Tryz.func361,Tryz.ntmps361;go_wp2_with fail;refine Q.o.mono ?_;rintro y D ⟨rfl,rfl⟩;go_wp2_with fail;refine X.o.mono ?_;rintro y D ⟨rfl,rfl⟩;go_wp2_with fail;go_ret2;exact .inl ⟨E.o,rfl,ag _ _⟩
  obtain⟨aP,aj⟩:=fJ H;have aQ:=Jt ((1099511627776:Int)<=(K:Int));go_enter Tryz.func361,Tryz.ntmps361;go_wp2_with fail;refine Q.o.mono ?_;rintro y D ⟨rfl,rfl⟩;go_wp2_with fail;refine X.o.mono ?_;rintro y D ⟨rfl,rfl⟩;go_wp2_with fail;go_ret2;exact .inl ⟨E.o,rfl,ag _ _⟩
 obtain⟨O,aO⟩:av=0/\K<1099511627776:=Jo;subst O;have aP:=Jf ((1099511627776:Int)<=(K:Int));have aT:=xL s ap w Jo;obtain⟨bo,ah⟩:∃M,aK s.data.toList ap=M:=⟨_,rfl⟩;have bb:=kC s.data.toList ap;have aI:=ki s.data.toList ap;rw[ah,<-ab.o] at bb;rw[ah] at aI;obtain⟨U,aV,aX⟩:=bo;simp only at bb aI;rw[UI ah] at aT;have ad:=Jh aT;by_cases aY:aX≠0
 ·have E:=Jh (qt (UU W aG ay af aO (by rw[ah];exact aY)));obtain⟨aj,aQ⟩:=lP aY;go_enter Tryz.func361,Tryz.ntmps361;go_wp2_with fail;refine Q.o.mono ?_;rintro y D ⟨rfl,rfl⟩;go_wp2_with fail;refine X.o.mono ?_;rintro y D ⟨rfl,rfl⟩;go_wp2_with fail;refine ad.o.mono ?_;rintro y D ⟨rfl,rfl⟩;go_wp2_with fail;go_ret2;exact .inl ⟨E.o,rfl,ag _ _⟩
 have bu:aX=0:=Jo;subst bu;obtain⟨H,an⟩:∃H:Nat,aV=(H:Int):=⟨aV.toNat,Jo⟩;subst an;have bx:=oR aI;have bI:IntKind.i64.wrap (K:Int)=K:=by rw[aB];omega
 by_cases bv:J=1
 ·subst bv;have aa:=Qr W af aO ah;obtain⟨M,az⟩:∃M:ar,M=⟨(K:Int),bE U⟩:=⟨_,rfl⟩;obtain⟨ae,ax⟩:=wu aa;rw[<-az] at aa ae ax;have aH:M.T=(K:Int):=by rw[az]
  have aJ:M.V=bE U:=by rw[az]
  have aq:=TS w w.heap.size (ac _) M;rw[aH,aJ] at aq;have ak:=xt (some (Jp w.heap.size 0)) 1 [M] (w.alloc (.cells #[Ji (K:Int),Ji (bE U)] 113)) (by simpa using aq.rd) ae.2 ax Js Jm;rw[ry ae.1] at ak;have al:=Jh ak;have aD:=Jh aq;generalize bE U=ao at*;by_cases an:(H:Int)=s.size;rotate_left
  ·have E:=Jh (xo (r:=[M]) (by rw[aa,show decide ((H:Int)=(s.data.toList.length:Int))=false from decide_eq_false (by rw[<-ab.o];exact an)]));have aj:((H:Int) == (s.size:Int))=false:=beq_eq_false_iff_ne.2 an;go_enter Tryz.func361,Tryz.ntmps361;go_wp2_with fail;refine Q.o.mono ?_;rintro y D ⟨rfl,rfl⟩;go_wp2_with fail;refine X.o.mono ?_;rintro y D ⟨rfl,rfl⟩;go_wp2_with fail;refine ad.o.mono ?_;rintro y D ⟨rfl,rfl⟩;go_wp2_with fail;go_ret2;exact .inl ⟨E.o,rfl,Below.one _ _⟩
  have aj:((H:Int) == (s.size:Int))=true:=beq_iff_eq.2 an;by_cases O:eI [M]=s.data.toList
  ·have E:=Jh (xp aa O);have aL:=Xc O;generalize S (eI [M])=aF at*;go_enter Tryz.func361,Tryz.ntmps361;go_wp2_with fail;refine Q.o.mono ?_;rintro y D ⟨rfl,rfl⟩;go_wp2_with fail;refine X.o.mono ?_;rintro y D ⟨rfl,rfl⟩;go_wp2_with fail;refine ad.o.mono ?_;rintro y D ⟨rfl,rfl⟩;go_wp2_with fail;refine al.o.mono ?_;rintro y D ⟨rfl,Z⟩;have aw:=(Below.one w (.cells #[Ji (K:Int),Ji ao] 113)).then Z;have aa:=aD.o.rd.below Z;have ai:=Jh aw;have aE:=Jh aa;go_wp2_with fail;go_ret2;exact .inr ⟨[M],_,1,E.o,rfl,by simpa using aE.o,Js,by unfold maxLen;omega,ai.o,uz aD.o λbj aC=>aC⟩
  have E:=Jh (zM aa O);have aL:=Xd O;generalize S (eI [M])=aF at*;go_enter Tryz.func361,Tryz.ntmps361;go_wp2_with fail;refine Q.o.mono ?_;rintro y D ⟨rfl,rfl⟩;go_wp2_with fail;refine X.o.mono ?_;rintro y D ⟨rfl,rfl⟩;go_wp2_with fail;refine ad.o.mono ?_;rintro y D ⟨rfl,rfl⟩;go_wp2_with fail;refine al.o.mono ?_;rintro y D ⟨rfl,Z⟩;have aw:=(Below.one w (.cells #[Ji (K:Int),Ji ao] 113)).then Z;have ai:=Jh aw;go_wp2_with fail;go_ret2;exact .inl ⟨E.o,rfl,ai.o⟩
 have ai:=My W Jo ay af aO ah;rw[<-ab.o] at ai;have aj:=Jt ((1:Int)<(J:Int));have bK:=Jt (1<J);have bD:2<=J:=Jo;have bC:IntKind.i64.wrap (J:Int)=J:=by rw[aB];omega
 have bG:(s.extract H s.size).size=s.size - H:=by rw[ByteArray.size_extract];omega
 have bF:(H:Int)<=(s.size:Int):=Jo;by_cases bc:s.size<H+2
 ·rw[if_pos bc] at ai;have E:=Jh (qt ai);have M:=Jh (λU D=>GQ (s.extract H s.size) U J D Jo);go_enter Tryz.func361,Tryz.ntmps361;go_wp2_with fail;refine Q.o.mono ?_;rintro y D ⟨rfl,rfl⟩;go_wp2_with fail;refine X.o.mono ?_;rintro y D ⟨rfl,rfl⟩;go_wp2_with fail;refine ad.o.mono ?_;rintro y D ⟨rfl,rfl⟩;go_wp2_with fail;refine(M.o _ _).mono ?_;rintro y D ⟨rfl,rfl⟩;go_wp2_with fail;go_ret2;exact .inl ⟨E.o,rfl,Below.one _ _⟩
 rw[if_neg bc] at ai;obtain⟨aE,a6⟩:∃aE,(lh (bitsOf (s.data.toList.drop (H+2))) (nth s.data.toList H) (nth s.data.toList (H+1)) (J - 1) 0 0 (K:Int) (bE U)).map (λM=>((⟨(K:Int),bE U⟩:ar) :: M.1,M.2))=aE:=⟨_,rfl⟩;rw[a6] at ai;have bw:(s.extract H s.size).data.toList=s.data.toList.drop H:=pg s H Jo;have bd:dt ((s.extract H s.size).extract 2 (s.extract H s.size).size)=bitsOf (s.data.toList.drop (H+2)):=by
  unfold dt;rw[pg _ 2 Jo,bw,bR]
 have aJ:=zi w.heap.size J (s.extract H s.size) ⟨(K:Int),bE U⟩ _ _ (TS w w.heap.size (ac _) ⟨(K:Int),bE U⟩) Js Jo Jo Jo ay (by simp only;omega) (by simp only;omega) bx aE (by
  rw[bd,DG (p:=H) (i:=0) Jo Jo,DG (p:=H) (i:=1) Jo Jo];exact a6)
 rw[bd] at aJ;generalize bitsOf (s.data.toList.drop (H+2))=aq at*;simp only at aJ;generalize bE U=ao at*;have bh:=Jh aJ;have aU:=Jh ai;go_enter Tryz.func361,Tryz.ntmps361;go_wp2_with fail;refine Q.o.mono ?_;rintro y D ⟨rfl,rfl⟩;go_wp2_with fail;refine X.o.mono ?_;rintro y D ⟨rfl,rfl⟩;go_wp2_with fail;refine ad.o.mono ?_;rintro y D ⟨rfl,rfl⟩;go_wp2_with fail;refine bh.o.mono ?_;rintro y bA (⟨br,rfl,Z⟩|⟨M,bL,bt,rfl,aM,Z⟩)
 ·have E:=Jh (qt (by rw[aU.o,br];rfl));have aa:=Jh ((ag _ w).trans ((Below.one w (.cells #[Ji (K:Int),Ji ao] 113)).trans Z));go_wp2_with fail;go_ret2;exact .inl ⟨E.o,rfl,aa.o⟩
 have az:jy s.data.toList=some (M.1,decide (tf (aq.drop M.2)=0)):=by rw[aU.o,bt];rfl
 obtain⟨ae,ax⟩:=wu az;obtain⟨bg,aW,rfl,be,am,a7⟩:=Mk aM.1;have aN:M.1.length=J:=by
  have:=aM.1.1;rw[de dy] at this;omega
 have aa:=Jh ((Below.one w (.cells #[Ji (K:Int),Ji ao] 113)).trans Z);have bi:=Jh (uz aM λbj aC=>aC);by_cases aH:tf (aq.drop M.2)=0;rotate_left
 ·obtain⟨aQ,bz⟩:=lP aH;have E:=Jh (xo (r:=M.1) (by rw[az,decide_eq_false aH]));generalize tf (aq.drop M.2)=bl at*;go_wp2_with fail;go_ret2;exact .inl ⟨E.o,rfl,aa.o⟩
 obtain⟨aQ,bz⟩:=fJ aH;have ak:=xt bg aW M.1 bA (by rw[aN];exact be) ae.2 ax Jo a7;rw[ry ae.1,aN] at ak;have al:=Jh ak;have bk:=Jh be;generalize tf (aq.drop M.2)=bl at*;by_cases O:eI M.1=s.data.toList
 ·have E:=Jh (xp az O);have aL:=Xc O;have aD:=Jh aN;generalize S (eI M.1)=aF at*;go_wp2_with fail;refine al.o.mono ?_;rintro y bB ⟨rfl,aw⟩;have aC:=Jh (aa.o.trans (aw.mono aa.o.size));have bj:=Jh (bk.o.below aw);go_wp2_with fail;go_ret2;refine .inr ⟨M.1,_,aW,E.o,by rw[aD.o];rfl,by rw[aD.o];exact bj.o,by rw[aD.o];exact am,a7,aC.o,bi.o⟩
 have E:=Jh (zM az O);have aL:=Xd O;generalize S (eI M.1)=aF at*;go_wp2_with fail;refine al.o.mono ?_;rintro y bB ⟨rfl,aw⟩;have aC:=Jh (aa.o.trans (aw.mono aa.o.size));go_wp2_with fail;go_ret2;exact .inl ⟨E.o,rfl,aC.o⟩
def pQ (l:JU):List ar:=(qq l).getD []
def vF (l:JU):Nat:=if(qq l).isSome then 0 else 11
theorem KZ (s:ByteArray)(w:JW)(M:s.size<=1000000):JC 361 #[.string s] w λe w'=>∃A c,e= .returned (.tuple #[.slice A (pQ s.data.toList).length c,Ji (vF s.data.toList)])/\Rd w' 2 A (pQ s.data.toList).length ((pQ s.data.toList).flatMap ay)/\(pQ s.data.toList).length<=c/\c<=maxLen/\Jz w w'/\wL w.heap.size A:=by
 refine(FW s w M).mono ?_;rintro e w' (⟨y,rfl,D⟩|⟨O,A,c,y,rfl,K,E,H,D,J⟩)
 ·unfold pQ vF;rw[y];exact⟨none,0,rfl,Rd.nil _ _ _,Js,Js,D,Af _⟩
 unfold pQ vF;rw[y];exact⟨A,c,rfl,K,E,H,D,J⟩
theorem Se (l:JU):jZ (pQ l)/\(∀x∈pQ l,ar.ok x)/\(pQ l).length<=5000/\(vF l=0->eI (pQ l)=l)/\(vF l=0∨vF l=11):=by
 unfold pQ vF;cases D:qq l with
 |none=>exact⟨⟨λx y=>(by cases y),λH E=>absurd E Js⟩,λx y=>(by cases y),Js,Js,Js⟩
 |some K=>
  obtain⟨y,E,H,J⟩:=Uu D;exact⟨y,E,H,λ_=>J,.inl rfl⟩
theorem IY {l:List ar}(y:jZ l)(E:∀x∈l,ar.ok x)(D:l.length<=5000):pQ (eI l)=l/\vF (eI l)=0:=by
 unfold pQ vF;rw[Ow y E D];exact⟨rfl,rfl⟩
end
structure eP where
 ID:Int
 L:List ar
def FY (l:JU)(a last:Int):Option (Nat × Nat × Int):=
 if(aK l a).2.2=0/\(aK l (aK l a).2.1).2.2=0/\(aK l a).1<200/\last<(aK l a).1/\(aK l (aK l a).2.1).1<=l.length then
  some ((aK l a).1,(aK l (aK l a).2.1).1,(aK l (aK l a).2.1).2.1)
 else none
def mH (l:JU):Nat->Int->Int->Option (List (Nat × Nat) × Int)
 |0,D,_=>some ([],D)
 |H+1,D,J=>match FY l D J with
  |none=>none
  |some y=>(mH l H y.2.2 y.1).map λE=>((y.1,y.2.1) :: E.1,E.2)
def kT (D:List (Nat × Nat)):Nat:=(D.map λy=>y.2).sum
def mK:List (Nat × Nat)->JU->List (Nat × JU)
 |[],_=>[]
 |y :: E,D=>(y.1,D.take y.2) :: mK E (D.drop y.2)
def iD (l:JU):Option (List (Nat × JU)):=
 if(aK l 0).2.2≠0∨200<(aK l 0).1 then none
 else match mH l (aK l 0).1 (aK l 0).2.1 (-1) with
  |none=>none
  |some y=>if(kT y.1:Int)=(l.length:Int) - y.2 then some (mK y.1 (l.drop y.2.toNat)) else none
def kO (c:JU):Option (List ar):=if vF c=0/\pQ c≠[] then some (pQ c) else none
def nQ:List (Nat × JU)->Int->Option (List ar) × Nat
 |[],_=>(none,3)
 |D :: E,y=>if(D.1:Int)=y then(match kO D.2 with|none=>(none,11)|some s=>(some s,0)) else nQ E y
def rb:List (Nat × JU)->Option (List eP)
 |[]=>some []
 |p :: y=>match kO p.2 with
  |none=>none
  |some E=>(rb y).map λD=>⟨(p.1:Int),E⟩ :: D
def lx (last:Int):List eP->Prop
 |[]=>True
 |x :: y=>jZ x.L/\x.L≠[]/\last<x.ID/\x.ID<200/\lx x.ID y
def jM (l:List eP):JU:=l.flatMap λy=>uint y.ID.toNat ++ uint (eI y.L).length
def jI (l:List eP):JU:=l.flatMap λy=>eI y.L
def encS (l:List eP):JU:=uint l.length ++ jM l ++ jI l
def pd (l:List eP):List (Nat × Nat):=l.map λy=>(y.ID.toNat,(eI y.L).length)
def partsOf (l:List eP):List (Nat × JU):=l.map λy=>(y.ID.toNat,eI y.L)
theorem rx {l x r:JU}{k:Nat}(h:l.drop k=x ++ r)(y:k<=l.length):l.drop (k+x.length)=r/\k+x.length<=l.length:=by
 refine⟨by rw[<-bR,h,eF],?_⟩;have:=congrArg eZ h;simp only[bo,ab] at this;omega
theorem DW:∀{l:List eP}{last:Int},lx last l->∀x∈l,last<x.ID/\x.ID<200/\jZ x.L/\x.L≠[]
 |[],_,_,x,y=>by cases y
 |T :: l,last,E,x,y=>by
  obtain⟨H,J,K,M,O⟩:=E;rcases List.mem_cons.1 y with rfl|y
  ·exact⟨K,M,H,J⟩
  obtain⟨Q,D⟩:=DW O x y;exact⟨Jo,D⟩
theorem Ah:∀{l:List eP}{last:Int},lx last l->(l.length:Int)+last<200∨l=[]
 |[],_,_=>.inr rfl
 |O :: l,last,y=>by
  obtain⟨H,J,K,M,D⟩:=y;rcases Ah D with E|rfl
  ·left;simp only[ak];omega
  left;simp;omega
theorem zQ {l:JU}:∀(s:List eP)(a:Nat)(last:Int)(r:JU),lx last s->-1<=last->(∀x∈s,(eI x.L).length<=l.length)->l.length<18446744073709551616->a<=l.length->l.drop a=jM s ++ r->
 mH l s.length a last=some (pd s,((a+(jM s).length:Nat):Int))
 |[],a,last,r,_,_,_,_,_,_=>by simp[mH,pd,jM]
 |x :: s,a,last,r,V,ag,H,W,E,y=>by
  obtain⟨ac,ad,ae,af,T⟩:=V;have J:jM (x :: s)=uint x.ID.toNat ++ (uint (eI x.L).length ++ jM s):=by simp[jM]
  have U:=H x (az ..);rw[J,au,au] at y;have O:=lG Jo E y;obtain⟨D,K⟩:=rx y E;have Q:=lG Jo K D;obtain⟨M,Z⟩:=rx D K;have X:=zQ s (a+(uint x.ID.toNat).length+(uint (eI x.L).length).length) x.ID r T Jo (λaa Y=>H aa (aC _ Y)) W Z M;have Y:FY l a last=some (x.ID.toNat,(eI x.L).length,((a+(uint x.ID.toNat).length+(uint (eI x.L).length).length:Nat):Int)):=by
   unfold FY;simp only[O,Q];rw[if_pos ⟨trivial,trivial,Jo,Jo,U⟩]
  simp only[ak,mH,Y];rw[show((x.ID.toNat:Nat):Int)=x.ID by omega,X];simp only[eO,Option.some.injEq,Prod.mk.injEq];refine⟨by simp[pd],by rw[J];simp only[ab];omega⟩
theorem Do:∀(s:List eP),mK (pd s) (jI s)=partsOf s/\kT (pd s)=(jI s).length
 |[]=>⟨rfl,rfl⟩
 |y :: s=>by
  obtain⟨E,D⟩:=Do s;have H:jI (y :: s)=eI y.L ++ jI s:=by simp[jI]
  rw[H];unfold kT at D ⊢;refine⟨?_,?_⟩
  ·simp only[pd,bV,mK];rw[eF,gT];rw[show(s.map λy=>(y.ID.toNat,(eI y.L).length))=pd s from rfl,E];rfl
  simp only[pd,bV,gJ,ab];rw[show(s.map λy=>(y.ID.toNat,(eI y.L).length))=pd s from rfl,D]
theorem Ii {s:List eP}(H:lx (-1) s)(V:(encS s).length<18446744073709551616):iD (encS s)=some (partsOf s):=by
 have X:s.length<=200:=by
  rcases Ah H with y|rfl
  ·omega
  simp
 have E:(encS s).drop 0=uint s.length ++ (jM s ++ jI s):=by rw[fe];unfold encS;rw[au]
 have Q:=lG Jo (bj _) E;obtain⟨y,J⟩:=rx E (bj _);have T:∀K∈s,(eI K.L).length<=(encS s).length:=λK W=>by
  obtain⟨M,O,D⟩:=List.append_of_mem W;unfold encS jI;rw[D];simp only[ao,aE,ab];omega
 have U:=zQ s (0+(uint s.length).length) (-1) _ H Jo T V J y;obtain⟨D,Y⟩:=rx y J;unfold iD;rw[show((0:Int))=((0:Nat):Int) from rfl,Q];rw[if_neg (by simp only;omega)];simp only;rw[U];simp only;obtain⟨M,O⟩:=Do s;rw[O,dE,D,M];rw[if_pos];have:=congrArg eZ D;simp only[bo] at this;omega
theorem ES:∀(s:List eP)(last:Int),lx last s->-1<=last->(∀x∈s,(∀y∈x.L,ar.ok y)/\x.L.length<=5000)->rb (partsOf s)=some s
 |[],_,_,_,_=>rfl
 |x :: s,last,J,aa,D=>by
  obtain⟨K,M,O,Z,Q⟩:=J;obtain⟨V,W⟩:=D x (az ..);obtain⟨E,H⟩:=IY K V W;have T:=ES s x.ID Q Jo λy U=>D y (aC _ U);have U:kO (eI x.L)=some x.L:=by
   unfold kO;rw[E,H,if_pos ⟨rfl,M⟩]
  simp only[partsOf,bV,rb,U];rw[show(s.map λx=>(x.ID.toNat,eI x.L))=partsOf s from rfl,T];simp only[eO,Option.some.injEq,List.cons.injEq,and_true];obtain⟨X,Y⟩:=x;simp only at O ⊢;congr 1;omega
theorem bP.store {R:Nat->Prop}{n size c g:Nat}{e:TypeId}{w:JW}{xs:List Value}(h:bP R e size (.slice (some (Jp g 0)) n c) n xs w){j:Nat}(u:Value):bP R e size (.slice (some (Jp g 0)) n c) n (xs.set j u) (w.setCell (Jp g j) u):=by
 refine⟨⟨by rw[fk];exact h.1.1,?_⟩,h.2⟩;rcases h.1.2 with⟨E,_⟩|⟨U,T,D,y,H,J,M,K,O,Q⟩
 ·simp at E
 right;simp only[Value.slice.injEq,Option.some.injEq,Addr.mk.injEq] at y;obtain⟨⟨rfl,_,_⟩,_,rfl⟩:=y;refine⟨g,c,D.setIfInBounds j u,rfl,H,?_,M,K,by simp[O],?_⟩
 ·simp[aj,aA,J]
 rw[<-Q];simp[List.take_set]
theorem bP.cell {R:Nat->Prop}{n size c g:Nat}{e:TypeId}{w:JW}{xs:List Value}(h:bP R e size (.slice (some (Jp g 0)) n c) n xs w)(j:Nat):w.frozen? (Jp g j)=false:=by
 rcases h.1.2 with⟨D,_⟩|⟨K,H,J,y,M,E,Q,O,T,U⟩
 ·simp at D
 simp only[Value.slice.injEq,Option.some.injEq,Addr.mk.injEq] at y;obtain⟨⟨rfl,_,_⟩,_,rfl⟩:=y;exact aW E j
theorem bP.own {R:Nat->Prop}{n size c:Nat}{e:TypeId}{w:JW}{A:JA}{xs:List Value}(h:bP R e size (.slice A n c) n xs w)(y:0<n):∃g,A=some (Jp g 0)/\n<=c/\c<=maxLen:=by
 rcases h.1.2 with⟨M,O⟩|⟨E,J,K,D,Q,T,y,H,U,V⟩
 ·omega
 simp only[Value.slice.injEq] at D;obtain⟨rfl,_,rfl⟩:=D;exact⟨E,rfl,y,H⟩
section
variable {R:Nat->Prop} {E1 E2:TypeId} {s1 s2 n k:Nat} {v m:Value} {xs ys:List Value} {w w':JW}
end
def ny:Nat->List (Nat × Nat)->List (Nat × Nat × Nat)
 |_,[]=>[]
 |D,y :: E=>(y.1,D,D+y.2) :: ny (D+y.2) E
theorem pq:∀(y:List (Nat × Nat))(D:Nat),(ny D y).length=y.length
 |[],_=>rfl
 |_ :: y,D=>by simp[ny,pq y]
theorem Bd (y:List (Nat × Nat))(x:Nat × Nat):kT (y ++ [x])=kT y+x.2:=by simp[kT]
theorem Em:∀(y:List (Nat × Nat))(D:Nat)(x:Nat × Nat),ny D (y ++ [x])=ny D y ++ [(x.1,D+kT y,D+kT y+x.2)]
 |[],D,x=>by simp[ny,kT]
 |E :: y,D,x=>by
  simp only[aY,ny,Em y];rw[show kT (E :: y)=E.2+kT y by simp[kT],aV]
theorem Gz:∀(y:List (Nat × Nat))(E:Nat)(x:Nat × Nat × Nat),x∈ny E y->x.2.1<=E+kT y/\x.2.2<=E+kT y/\x.2.1<=x.2.2
 |[],_,x,D=>by cases D
 |H :: y,E,x,D=>by
  have J:kT (H :: y)=H.2+kT y:=by simp[kT]
  rw[J];rcases List.mem_cons.1 D with rfl|D
  ·simp only;omega
  have:=Gz y (E+H.2) x D;omega
def jo (x:Nat × Nat × Nat):List Value:=[Ji (x.1:Int),Ji (x.2.1:Int),Ji (x.2.2:Int)]
theorem mw (x:Nat × Nat × Nat):(jo x).length=3:=rfl
theorem Ux:(prog.info? 421).map (λi=>(i.zero,i.size,i.bytes))=some (some (.agg #[Ji 0,Ji 0,Ji 0]),3,24):=Jk
def sJ:Nat->Nat->List (Nat × Nat × Nat)->List (Nat × Nat × Nat)
 |0,_,E=>E
 |_+1,_,[]=>[]
 |H+1,y,D :: E=>(D.1,D.2.1+y,D.2.2+y) :: sJ H y E
theorem vm:∀(j a:Nat)(xs:List (Nat × Nat × Nat)),(sJ j a xs).length=xs.length
 |0,_,_=>rfl
 |_+1,_,[]=>rfl
 |j+1,a,_ :: xs=>by simp[sJ,vm j a xs]
theorem Eo:∀(j a:Nat)(xs:List (Nat × Nat × Nat))(h:j<xs.length),(sJ j a xs)[j]?=some xs[j]
 |0,_,xs,h=>by simp[sJ,aT h]
 |_+1,_,[],h=>absurd h Js
 |j+1,a,y :: xs,h=>by simp only[sJ,aS];rw[Eo j a xs (by simpa using h)];rfl
theorem Au:∀(j a:Nat)(xs:List (Nat × Nat × Nat))(h:j<xs.length),((((sJ j a xs).flatMap jo).set (j*3+1) (Ji ((xs[j].2.1+a:Nat):Int))).set (j*3+2) (Ji ((xs[j].2.2+a:Nat):Int)))=(sJ (j+1) a xs).flatMap jo
 |0,a,D :: xs,_=>by simp[sJ,jo]
 |0,_,[],h=>absurd h Js
 |_+1,_,[],h=>absurd h Js
 |j+1,a,D :: xs,h=>by
  have y:=Au j a xs (by simpa using h);simp only[sJ,aE,ck] at y ⊢;rw[<-y];rw[show(j+1)*3+1=((j*3+1)+1+1+1) by omega,show(j+1)*3+2=((j*3+2)+1+1+1) by omega];simp only[jo,aY,bi,aM]
theorem En:∀(y:List (Nat × Nat))(D a:Nat),sJ y.length a (ny D y)=ny (D+a) y
 |[],_,_=>rfl
 |E :: y,D,a=>by
  simp only[ak,ny,sJ];rw[En y,show D+E.2+a=D+a+E.2 by omega]
section
variable {l:JU} {k:Nat} {a last:Int} {es:List (Nat × Nat)} {H:Option (List (Nat × Nat) × Int)} {x:Nat × Nat × Int}
theorem Li (h:(mH l (k+1) a last).map (λr=>(es ++ r.1,r.2))=H)(y:FY l a last=none):H=none:=by rw[<-h];simp[mH,y]
theorem Lh (h:(mH l (k+1) a last).map (λr=>(es ++ r.1,r.2))=H)(y:FY l a last=some x):(mH l k x.2.2 x.1).map (λr=>((es ++ [(x.1,x.2.1)]) ++ r.1,r.2))=H:=by
 rw[<-h];simp only[mH,y,Option.map_map];congr 1;funext r;simp
theorem Lg (h:(mH l 0 a last).map (λr=>(es ++ r.1,r.2))=H):H=some (es,a):=by rw[<-h];simp[mH]
theorem Uy {last y a2:Int}{p q e1 e2:Nat}(h1:aK l a=(p,y,e1))(h2:aK l y=(q,a2,e2)):
 FY l a last=if e1=0/\e2=0/\p<200/\last<p/\q<=l.length then some (p,q,a2) else none:=by
 unfold FY;simp only[h1,h2]
end
def QU (l:JU)(D:Option (List (Nat × Nat) × Int)):Option (List (Nat × JU)):=match D with
 |none=>none
 |some y=>if(kT y.1:Int)=(l.length:Int) - y.2 then some (mK y.1 (l.drop y.2.toNat)) else none
theorem QV {l:JU}{n e:Nat}{a:Int}(h:aK l 0=(n,a,e)):iD l=if e≠0∨200<n then none else QU l (mH l n a (-1)):=by
 unfold iD QU;simp only[h];all_goals (cases mH l n a (-1)<;>rfl)
def Ry (s:ByteArray)(B:Nat)(w:JW)(e:Ending)(w':JW):Prop:=
 (iD s.data.toList=none/\(∃y,e= .returned (.tuple #[y,.bool false]))/\Below B w w')∨
  ∃(es:List (Nat × Nat))(a:Nat)(y:Value),iD s.data.toList=some (mK es (s.data.toList.drop a))/\a+kT es=s.size/\(∀x∈es,x.1<200)/\e= .returned (.tuple #[y,.bool true])/\bP (λk=>k<B) 421 3 y es.length ((ny a es).flatMap jo) w'/\es.length<=200/\Below B w w'
def Uj (B n:Nat)(s:ByteArray)(H:Option (List (Nat × Nat) × Int))(w:JW)(J O T Q K:Value)(wr:JW):Prop:=
 ∃(es:List (Nat × Nat))(k:Nat)(a last:Int)(y:JA)(D:Nat),J=Ji a/\O= .slice y es.length D/\T=Ji last/\Q=Ji (kT es:Nat)/\K= .int .u64 (es.length:Nat)/\es.length+k=n/\0<=a/\a<=s.size/\-1<=last/\last<200/\kT es<=es.length*1000000/\(∀x∈es,x.1<200)/\
  bP (λM=>M<B) 421 3 (.slice y es.length D) es.length ((ny 0 es).flatMap jo) wr/\Below B w wr/\(mH s.data.toList k a last).map (λE=>(es ++ E.1,E.2))=H
end Go.Proofs.YtibmlemoghcbkaaGreatDoor
