/-
  What 'TopSums' stands on, part 6 of 6.
-/
import Derived.Test.YtibmlemoghcbkaaGreatDoorP5
import Derived.Test.YtibmlemoghcbkaaGreatDoorCards
import Derived.Test.YtibmlemoghcbkaaGreatDoorTie
import Derived.Deep.DeepHandedRow
import Derived.Stop.LaidErr
set_option linter.unusedSimpArgs false
set_option linter.unusedVariables false
set_option maxRecDepth 100000
set_option maxHeartbeats 8000000
open Array renaming getElem?_modify→aA
open Go.Act renaming put→an
open Go.IntKind renaming wrap_i64→aB
open Go.Lib renaming alloc_old→aJ,cell_of_heap→aa,heap_setCell_same→am
open Go.RowKit.Below renaming heap_setCell→ae,refl→ag
open Go.Value renaming ownBlock→aG,slice→aQ
open Go.World renaming block_lt_of_cell?→bq,cell?_of_block→af,setCell→aj,size_alloc→aI
open Int renaming eq_ofNat_of_zero_le→dA
open List renaming append_assoc→au,flatMap_append→ao,flatMap_cons→aE,getElem?_cons_zero→aD,getElem?_toArray→aH,getElem_mem→ah,length_append→ab,length_cons→ak,length_take→aF,mem_cons_of_mem→aC,mem_cons_self→az,range→aL,set_cons_succ→aM,take_of_length_le→aw,take_succ_eq_append_getElem→aO
open Nat renaming le_refl→ac,le_trans→ap,lt_of_lt_of_le→ai
namespace Go.Proofs.YtibmlemoghcbkaaGreatDoor.topSums
open Go Go.ChangeShapes Go.WideShapes Go.ChangeAt Go.RowKit
open Go.ChangeMaps (open_string shut_string)
theorem own:ownKnob Tryz.prog.godebug=none:=Jk
theorem laidOut:laidOutB Tryz.prog=true:=Jk
theorem VJ:Tryz.prog.globalNamed "internal/strconv.uint64pow10"=some 2:=Jk
theorem OW:(Tryz.prog.globals[2]?).map (·.type)=some 510:=Jk
theorem Um:Tryz.prog.cellsOf 510=20:=Jk
theorem cellsE:Tryz.prog.cellsOf 40=1:=Jk
theorem Tc:(Rows.laid_internal_strconv_uint64pow10:DataW Unit)=Lib.tabData .u64 Lib.pow10Tab:=Jk
theorem star: "*" ++ "errors.errorString"= "*errors.errorString":=Jd
theorem Qi (u:TypeId)(h:Tryz.prog.typeName? 3 u=some "*errors.errorString"):u=526:=
 typeName_ptr_named (nm:= "errors.errorString") (by rw[star];kernel_rfl) Jk Jd u (by rw[star];exact h)
theorem TQ:Tryz.prog.globalNamed "strandline/frame.steps"=some 0:=Jk
theorem LI:(Tryz.prog.globals[0]?).map (·.type)=some 399:=Jk
theorem Oh:Tryz.prog.cellsOf 399=16:=Jk
theorem Oi:Tryz.prog.cellsOf 398=1:=Jk
theorem QO:(Rows.laid_strandline_frame_steps:DataW Unit)=Lib.tabData .u16 [0,4129,8258,12387,16516,20645,24774,28903,33032,37161,41290,45419,49548,53677,57806,61935]:=Jk
theorem VI:Tryz.prog.globalNamed "strconv.ErrSyntax"=some 3:=Jk
theorem VH:Tryz.prog.globalNamed "strconv.ErrRange"=some 4:=Jk
theorem OV:(Tryz.prog.globals[3]?).map (·.type)=some 230:=Jk
theorem OU:(Tryz.prog.globals[4]?).map (·.type)=some 230:=Jk
theorem IQ:Tryz.prog.cellsOf 528=1:=Jk
theorem cellsS:Tryz.prog.cellsOf 9=1:=Jk
theorem table {y:World}(h:laidMetH Tryz.prog Rows.topSumsRow.laid y):Pow y/\vu y/\yY y:=by
 have T:laidMet Tryz.prog Rows.topSumsRow.laid y:=h;have D:laidMet Tryz.prog (("internal/strconv.uint64pow10",Rows.laid_internal_strconv_uint64pow10) :: [("strandline/frame.steps",Rows.laid_strandline_frame_steps),("strconv.ErrRange",Rows.laid_strconv_ErrRange),("strconv.ErrSyntax",Rows.laid_strconv_ErrSyntax)]) y:=laidMet.tail (laidMet.tail T);have E:=laidMet.tail D;have H:=laidMet.tail E;have U:=laidMet.tail H;rw[QO] at E;have V:yY y:=Vb (Lib.tabIs_of_head TQ LI Tryz.underlying399 Tryz.underlying398 Oi Oh E) TQ;rw[Tc] at D;have J:Lib.TabIs Tryz.prog y "internal/strconv.uint64pow10" .u64 Lib.pow10Tab:=
  Lib.tabIs_of_head VJ OW Tryz.underlying510 Tryz.underlying40 cellsE Um D
 obtain⟨K,Y,W,-,-,-⟩:=laid_sentinel H VH OU Tryz.underlying230 Qi Tryz.underlying526 Tryz.underlying528 rfl rfl Tryz.underlying9 IQ cellsS;obtain⟨M,Z,X,-,-,-⟩:=laid_sentinel U VI OV Tryz.underlying230 Qi Tryz.underlying526 Tryz.underlying528 rfl rfl Tryz.underlying9 IQ cellsS;have O:y.cell? (Jp 4 0)=some (.iface 526 (.pointer (some K))):=by simpa using World.var?_cell VH W 0
 have Q:y.cell? (Jp 3 0)=some (.iface 526 (.pointer (some M))):=by simpa using World.var?_cell VI X 0
 exact⟨⟨J,bq y _ (J.cell VJ 0 (by rw[Lib.pow10Tab_length];omega))⟩,⟨⟨_,_,Q⟩,⟨_,_,O⟩⟩,V⟩
theorem contract (J:Type)(enc:TypeId × Value->J)(y:World)(base:Nat)(args:Array Value)(Q ah:List (DataW J))(af:List MemPlace)
 (X:∀(j:Nat) t v,Tryz.f3.params[j]?=some t->args[j]?=some v->Value.okWide Tryz.prog y .any base t v)
 (W:DataW.Whole enc Tryz.prog Tryz.f3.params.toList Rows.topSumsSpec.vars false y args.toList Q ah af) (E:laidMetH Tryz.prog Rows.topSumsRow.laid y):
 Calls Tryz.prog 3 args y λe K=>∃v,e= .returned v/\Rows.topSumsSpec.post enc Tryz.prog Tryz.f3 false true false false y args v K:=by
 have D:∀(j:Nat) t v,Tryz.f3.params[j]?=some t->args[j]?=some v->Value.okWide Tryz.prog y .any base t v:=X;have al:=W;obtain⟨ar,aI,V,ak,rfl,aF,aG⟩:=W;have U:DataW.TrodAll enc Tryz.prog y 0 (λ_=>true) true Tryz.f3.params.toList args.toList Q ar:=V;rw[Tryz.params3] at U D;obtain⟨Z,aM,ay,aB,p0,aJ,aE,rfl,rfl,ai,av⟩:=trodAll_cons U;obtain⟨H,aN,az,aC,au,aK,rfl,rfl,rfl,T,aw⟩:=trodAll_cons av;obtain⟨aa,aO,aA,aD,aH,aL,rfl,rfl,rfl,aj,ax⟩:=trodAll_cons aw;obtain⟨rfl,rfl,rfl⟩:=trodAll_nil ax;obtain rfl:args= #[Z,H,aa]:=by cases args;simp_all
 obtain⟨rfl,rfl⟩:=trodVars_none ak;obtain⟨aP,rfl,rfl,rfl,ab⟩:=open_int Tryz.underlying5 (D 0 5 Z rfl rfl) ai;have ad:=bounds_u8 ab;obtain⟨M,rfl⟩:=dA ad.1;have an:M<256:=Jo;have Y:=T;have ao:∀O∈au,O.block<y.heap.size:=by obtain⟨aq,am⟩:=Y;exact DataW.trod_lt aq _ _ _ am
 have ag:=GM (D 1 22 H rfl rfl) T;obtain⟨aQ,rfl,rfl,rfl,ac⟩:=open_int Tryz.underlying5 (D 2 5 aa rfl rfl) aj;have ae:=bounds_u8 ac;obtain⟨O,rfl⟩:=dA ae.1;have ap:O<256:=Jo;clear V X;refine(Cz (w:=y) M H O an ag ap (table E).1 (table E).2.1 (table E).2.2).mono λe K ⟨X,V⟩=>?_;subst X;exact⟨_,rfl,_,_,_,[],_,[],al,trodAll_mk1 (shut_bool Tryz.underlying4 _),(trodAll_cons_mk (shut_int Tryz.underlying5 ab) (trodAll_cons_mk (Below.trod laidOut Jk (of_decide_eq_true Jk) Y V ao) (trodAll_cons_mk (shut_int Tryz.underlying5 ac) trodAll_mk0))),rfl,V.frame _,λX=>by cases X⟩
abbrev WJ:ByteArray:={data:=#[118,97,108,117,101,32,111,117,116,32,111,102,32,114,97,110,103,101]}
abbrev WN:ByteArray:={data:=#[105,110,118,97,108,105,100,32,115,121,110,116,97,120]}
noncomputable def low:Nat:=(World.holding Tryz.prog default ⟨#[],#[],[]⟩).heap.size
noncomputable def uG (E:Os):World:=
 let D:=World.holding Tryz.prog E ⟨#[.cells #[.string WJ] 528,.cells #[.string WN] 528],#[],[]⟩
 {D with heap:=(((((D.heap.modify 5 fun
   | .cells _ t y=>.cells #[.int .u8 0,.int .u8 1,.int .u8 28,.int .u8 2,.int .u8 29,.int .u8 14,.int .u8 24,.int .u8 3,.int .u8 30,.int .u8 22,.int .u8 20,.int .u8 15,.int .u8 25,.int .u8 17,.int .u8 4,.int .u8 8,.int .u8 31,.int .u8 27,.int .u8 13,.int .u8 23,.int .u8 21,.int .u8 19,.int .u8 16,.int .u8 7,.int .u8 26,.int .u8 12,.int .u8 18,.int .u8 6,.int .u8 11,.int .u8 5,.int .u8 10,.int .u8 9] t y
   |o=>o).modify 6 fun
   | .cells _ t y=>.cells #[.int .u8 0,.int .u8 1,.int .u8 56,.int .u8 2,.int .u8 57,.int .u8 49,.int .u8 28,.int .u8 3,.int .u8 61,.int .u8 58,.int .u8 42,.int .u8 50,.int .u8 38,.int .u8 29,.int .u8 17,.int .u8 4,.int .u8 62,.int .u8 47,.int .u8 59,.int .u8 36,.int .u8 45,.int .u8 43,.int .u8 51,.int .u8 22,.int .u8 53,.int .u8 39,.int .u8 33,.int .u8 30,.int .u8 24,.int .u8 18,.int .u8 12,.int .u8 5,.int .u8 63,.int .u8 55,.int .u8 48,.int .u8 27,.int .u8 60,.int .u8 41,.int .u8 37,.int .u8 16,.int .u8 46,.int .u8 35,.int .u8 44,.int .u8 21,.int .u8 52,.int .u8 32,.int .u8 23,.int .u8 11,.int .u8 54,.int .u8 26,.int .u8 40,.int .u8 15,.int .u8 34,.int .u8 20,.int .u8 31,.int .u8 10,.int .u8 25,.int .u8 14,.int .u8 19,.int .u8 9,.int .u8 13,.int .u8 8,.int .u8 7,.int .u8 6] t y
   |o=>o).modify 2 fun
   | .cells _ t y=>.cells #[.int .u64 1,.int .u64 10,.int .u64 100,.int .u64 1000,.int .u64 10000,.int .u64 100000,.int .u64 1000000,.int .u64 10000000,.int .u64 100000000,.int .u64 1000000000,.int .u64 10000000000,.int .u64 100000000000,.int .u64 1000000000000,.int .u64 10000000000000,.int .u64 100000000000000,.int .u64 1000000000000000,.int .u64 10000000000000000,.int .u64 100000000000000000,.int .u64 1000000000000000000,.int .u64 10000000000000000000] t y
   |o=>o).modify 0 fun
   | .cells _ t y=>.cells #[.int .u16 0,.int .u16 4129,.int .u16 8258,.int .u16 12387,.int .u16 16516,.int .u16 20645,.int .u16 24774,.int .u16 28903,.int .u16 33032,.int .u16 37161,.int .u16 41290,.int .u16 45419,.int .u16 49548,.int .u16 53677,.int .u16 57806,.int .u16 61935] t y
   |o=>o).modify 4 fun
   | .cells _ t y=>.cells #[.iface 526 (Jv low)] t y
   |o=>o).modify 3 fun
   | .cells _ t y=>.cells #[.iface 526 (.pointer (some (Jp (low+1) 0)))] t y
   |o=>o}
theorem Pm (y:Os):laidMet Tryz.prog Rows.topSumsRow.laid ((uG y).forCall (λ_ _=>0) ⟨#[],#[.int .u8 0,Jn,.int .u8 0],[]⟩).memory:=
 laidMet_of_run' 8 Jk Jk
theorem reads (D:Os){y:Type}(enc:TypeId × Value->y):∃E,DataW.whole enc Tryz.prog ((uG D).forCall (λ_ _=>0) ⟨#[],#[.int .u8 0,Jn,.int .u8 0],[]⟩).memory Tryz.f3.params.toList Rows.topSumsSpec.vars false #[(.int .u8 0:Value),(Jn:Value),(.int .u8 0:Value)].toList 8=some ([.lit (.int .u8 0),.nil,.lit (.int .u8 0)],[],E):=
 ⟨[],Jk⟩
theorem lifted (y:Os)(W:y.Started)(D:Type)(enc:TypeId × Value->D)(F:Stop.Interp):
 ReturnsInHanded {} Tryz.checked y 3 .any ((OpenSpec.ofChange Rows.topSumsSpec).preRow enc Tryz.prog Tryz.f3 Rows.topSumsRow.domain false Rows.topSumsRow.laid) (((OpenSpec.ofChange Rows.topSumsSpec).at F).post enc Tryz.prog Tryz.f3 false true false false):=by
 obtain⟨X,V⟩:=reads y enc;refine returnsInHanded_of_row (C:=Tryz.checked) (s:=OpenSpec.ofChange Rows.topSumsSpec) own W Jk Tryz.func3
  (witness_row_at (enc:=enc) (C:=Tryz.checked) false (uG y) #[.int .u8 0,Jn,.int .u8 0] rfl Jk Jk Jk
   (OpenSpec.preRow_of_cond 8 V Jk (λH E=>by cases E) Jk (Pm y))) ?_
 intro E J H M O K U T _ _ _ Q _ _;exact contract D enc E J H M O K U T Q
abbrev BW:List Nat:=[3,5,7,6,16,37,72,89,179,180,91,181,164,182,94,269,38,39,40,41,90,92,183,275,339,384,385,148,412,413,386,387,414,415,426,427,93,184,276,340,388,277,341,389,416,428,429,342,390,417,391,392,418,393,150,28,69,68,42,51,95,185,186,278,343,394,419,395,396,397,420,187,279,206,298,109,106,204,205,297,96,50,108,77,107,52,43,97,188,98,189,190,280,178,273,274,338,383,411,281,282,283,267,336,284,285,344,398,286,287,288,289,191,290,44,62,127,128,232,312,313,363,404,129,26,67,130,131,132,133,66,147,233,314,315,364,316,237,238,317,365,366,405,318,319,320,321,134,135,234,136,125,99,193,192,291,194,195,292,345,346,399,347,348,400,401,421,349,350,351,352,196,197,101,102,198,199,201,200,124,231,100,103,104,123,230,45,105,202,293,305,306,360,307,361,403,422,423,430,432,431,424,263,330,378,331,379,380,332,333,381,410,334,294,60,121,122,295,224,308,362,309,310,264,311,115,219,172,265,335,266,296,203,46,18,19,48,49,53,110,207,299,208,209,174,271,270,337,382,76,161,250,251,160,249,162,159,248,158,246,324,247,325,368,374,409,369,406,370,371,407,408,425,372,373,375,376,163,252,326,8,20,54,111,112,210,114,213,214,300,353,354,355,356,357,358,402,301,215,302,359,216,211,303,218,217,304,113,212,55,21,56,57,116,220,221,222,61,126,223,225,59,120,228,229,117,118,227,226,58,119,22,63,64,137,138,235,23,24,65,139,140,236,141,142,239,240,322,143,144,145,146,25,9,27,31,79,167,32,13,33,80,81,168,255,256,327,257,258,328,329,377,259,260,261,262,82,169,171,170,70,149,151,241,242,152,243,244,323,367,154,153,155,83,173,268,84,175,176,272,85,177,71,156,245,86,34,87,88,29,10]
theorem Ww:Tryz.prog.closure 3=BW:=Jk
theorem Xi:(Rows.topSumsRow.inPlace == Tryz.pinned.checked.prog.inPlace 3)=true:=by
 have y:Tryz.pinned.checked.prog.inPlace 3=Tryz.prog.inPlaceOf (Tryz.prog.closure 3):=rfl;have D:(Rows.topSumsRow.inPlace == Tryz.prog.inPlaceOf BW)=true:=Jk;rw[y,Ww];exact D
theorem VG:Tryz.pinned.checked.prog.unfollowed 3=true:=by
 unfold Program.unfollowed;show((Tryz.prog.closure 3).any _)=true;rw[Ww];kernel_rfl
theorem Xj:(Rows.topSumsRow.unfollowed == Tryz.pinned.checked.prog.unfollowed 3)=true:=by
 rw[VG];rfl
theorem Wy:(Rows.topSumsRow.recurses == Tryz.pinned.checked.prog.recurses 3)=true:=by
 unfold Program.recurses;rw[VG,Bool.true_or];rfl
theorem Uz:(Rows.topSumsRow.named == Tryz.pinned.checked.prog.varsNamed 3)=true:=by
 have y:Tryz.pinned.checked.prog.varsNamed 3=Tryz.prog.varsOf (Tryz.prog.closure 3):=rfl;have D:(Rows.topSumsRow.named == Tryz.prog.varsOf BW)=true:=Jk;rw[y,Ww];exact D
theorem closed:joinedFacts Tryz.pinned.checked.prog 3 Tryz.f3 (OpenSpec.ofChange Rows.topSumsSpec).bare Rows.topSumsRow=true:=by
 unfold joinedFacts;rw[Xi,Xj,Wy,Uz];kernel_rfl
theorem said:Rows.TopSumsSaid:=
 OpenClaim.holds_of_cond 3 Tryz.f3 rfl rfl rfl rfl rfl rfl rfl ⟨rfl,rfl,rfl,rfl,rfl⟩ rfl rfl rfl rfl rfl Jk Tryz.func3 closed
  (of_decide_eq_true Jk) (by unfold Func.isWrapper;first|(rw[if_pos (by decide+kernel)];kernel_rfl)|(rw[if_neg (by decide+kernel)];exact⟨rfl,rfl⟩))
  (λH J D E _ y=>by rw[OpenClaim.pre_eq_preRow];exact lifted H J D E y)
theorem plain (f:FuncId)(y:Func)(D:Tryz.pinned.checked.prog.funcNamed "strandline/strandlinetop.TopSums"=some f)(E:Tryz.pinned.checked.prog.funcs[f]?=some y):
 true=Tryz.pinned.checked.prog.looks []/\∀(j:Nat) t,y.params[j]?=some t->Tryz.pinned.checked.prog.wantsStandIn t=false:=by
 obtain rfl:f=3:=Option.some.inj ((show Tryz.prog.funcNamed "strandline/strandlinetop.TopSums"=some 3 by kernel_rfl).symm.trans D) |>.symm;obtain rfl:y=Tryz.f3:=(Option.some.inj (Tryz.func3.symm.trans E)).symm;refine⟨Jk,λj t J=>?_⟩;have H:(Tryz.f3.params.all λt=>!Tryz.prog.wantsStandIn t)=true:=Jk;have:=Array.all_eq_true_iff_forall_mem.1 H t (Array.mem_of_getElem? J);show Tryz.prog.wantsStandIn t=false;simpa using this
theorem LK {P:Program}(h:P.funcs.any Func.goes=false)(f:FuncId):P.goes f=false:=by
 unfold Program.goes;rw[h,Bool.and_false,Bool.or_false,List.any_eq_false];intro D _;cases H:P.funcs[D]? with
 |none=>simp
 |some y=>
  have E:=Array.any_eq_false'.1 h y (Array.mem_of_getElem? H);simpa using E
theorem DV {P:Program}{c:OpenClaim}(h:P.funcs.any Func.goes=false)(D:c.start= .entering):false=c.goesBy P:=by
 unfold OpenClaim.goesBy Program.goesAt Program.goesFrom;rw[D];simp only[Bool.or_false];cases P.funcNamed c.func with
 |none=>rfl
 |some y=>exact(LK h y).symm
theorem WG:Tryz.prog.funcs.any Func.goes=false:=Jk
theorem proved:Rows.TopSumsCardSaid:=
 Claim7.holds_tied_plain_at .later [] _ _ _ _ said (λ_ y=>by cases y) Jk (λ_ y=>by cases y) topSums_row_tie rfl ⟨rfl,rfl⟩ Jk rfl plain (DV WG rfl)
end Go.Proofs.YtibmlemoghcbkaaGreatDoor.topSums
