/- queryParseErrorOffset_holds, part 3: the layer, the plain functions and what they compute; conditions as in the statement. -/
import Derived.Test.YtibojibdiibdgaaGreatDoorEob
set_option maxHeartbeats 4000000
namespace Go.Proofs.YtibojibdiibdgaaGreatDoor
noncomputable section
open Go Go.Ab
attribute [local irreducible] V Ao Do Gh Eff PH IntKind.wrap
set_option maxRecDepth 4000
def ah(rA:LQueryparserParser)(sA:List UInt8):Option (Bool×LQueryparserParser):=
 ar (bi rA) fun x7=>
 cx (
  cond (x7.1.kind==(2:Int))
   ((x7.1.text==sA))
   (cond (x7.1.kind==(5:Int))
    ((x7.1.text==sA))
    (false))) fun(t1:Bool)=>
 cond t1
  (some (true,(LQueryparserParser.mk x7.2.tokens (IntKind.i64.wrap (x7.2.next+(1:Int))) x7.2.size)))
  (some (false,x7.2))
theorem az(b_rA:Nat)(rA:LQueryparserParser)(sA:List UInt8)(r:Bool×LQueryparserParser)(H:ah rA sA=some r):
  PH Tryz.prog 52 [(.box 1500 b_rA 0),(.str sA)] ⟨upd (fun _=>none) 1500 (some ⟨b_rA,(aa rA)⟩),fun _=>none⟩ (fun u H=>u=(bG r.1)∧H=⟨upd (fun _=>none) 1500 (some ⟨b_rA,(aa r.2)⟩),fun _=>none⟩):=by
 unfold ah at H;refine PH.cd Tryz.func52 Tryz.ntmps52 ?_;refine bE 1 tk rfl (ak (ae (aC tk rfl ?_)))
 obtain⟨x7,h7,H⟩:=aM H
 have s7:=bX b_rA rA _ h7;refine bf (g:=84) rfl rfl rfl Tryz.call84 [(1500,1500)] [] rfl rfl rfl rfl (cX.of2 (dC.cons gN.boxT dC.nil)) (by rw[aN,aR,aS];rfl) s7 ?_;rintro u7 H7h ⟨rfl,rfl⟩
 refine⟨_,rfl,?_⟩
 refine aE (st':=⟨_,_,upd (fun _=>none) 1500 (some ⟨b_rA,(aa x7.2)⟩),fun _=>none⟩) (Gh.le (av _ _) (ab rfl (cX.r) ao) am) ?_;refine aV tk fun b5=>?_
 refine ap tk ?_;refine af (ak (ak ?_));refine kP (γ:=Unit) (fun t1 g1=>⟨29,upd (upd (fun _=>.any) 21 (bG t1)) 0 (.box 1500 b_rA 0),upd (fun _=>none) 1500 (some ⟨b_rA,(aa x7.2)⟩),fun _=>none⟩) H (fun _ H=>?_) (fun t1 g1 H=>?_)
 ·refine ae (aC tk rfl (aw tk ?_));refine aA 2 tk rfl ?_;refine dy rfl rfl rfl H (fun H=>?_) (fun H=>?_)
  ·refine aA 6 tk rfl (aw tk ?_);refine aA 3 tk rfl (af ?_);refine cb _ () H Gh.d
  refine aC tk rfl (aw tk ?_);refine aA 3 tk rfl ?_;refine dy rfl rfl rfl H (fun H=>?_) (fun H=>?_)
  ·refine aC tk rfl (aw tk ?_);refine aA 3 tk rfl (af ?_);refine cb _ () H Gh.d
  refine aA 5 tk rfl (af ?_);refine cb _ () H Gh.d
 refine bj rfl H (fun H=>?_) (fun H=>?_)
 ·refine ak (ae (aA 3 tk rfl (aw tk ?_)));refine aA 3 tk rfl (ap tk ?_);refine af (bE 1 tk rfl ?_);obtain rfl:=aF H;refine be (st':=⟨29,upd (fun _=>.any) 4 (bG true),upd (fun _=>none) 1500 (some ⟨b_rA,(aa (LQueryparserParser.mk x7.2.tokens (IntKind.i64.wrap (x7.2.next+(1:Int))) x7.2.size))⟩),fun _=>none⟩) (Gh.le (bg aO) (ab rfl (cX.r) ao) am) ?_;refine ii tk rfl (ps:=[(bG true)]) ⟨_,_,rfl,rfl,rfl⟩ (PLe.q rfl) ⟨rfl,rfl⟩
 refine bc (bE 1 tk rfl ?_);obtain rfl:=aF H;refine be (st':=⟨29,upd (fun _=>.any) 4 (bG false),upd (fun _=>none) 1500 (some ⟨b_rA,(aa x7.2)⟩),fun _=>none⟩) (Gh.le (bg aO) (ab rfl (cX.r) ao) am) ?_;refine ii tk rfl (ps:=[(bG false)]) ⟨_,_,rfl,rfl,rfl⟩ (PLe.q rfl) ⟨rfl,rfl⟩
def aI(rA:LQueryparserParser):Option (Except Int (LQueryparserParser)):=
 ar (bi rA) fun x3=>
 some (.error x3.1.offset)
theorem bn(b_rA:Nat)(rA:LQueryparserParser)(r:Except Int (LQueryparserParser))(H:aI rA=some r):
  aP Tryz.prog 56 [(.box 1500 b_rA 0)] ⟨upd (fun _=>none) 1500 (some ⟨b_rA,(aa rA)⟩),fun _=>none⟩ (RX r (fun rv u H=>u=(.tup [])∧H=⟨upd (fun _=>none) 1500 (some ⟨b_rA,(aa rv)⟩),fun _=>none⟩)) (PX 106 r):=by
 unfold aI at H;refine aP.intro Tryz.func56 rfl Tryz.ntmps56 rfl ?_;refine ae (aC tk rfl ?_)
 obtain⟨x3,h3,H⟩:=aM H
 have s3:=bX b_rA rA _ h3;refine bf (g:=84) rfl rfl rfl Tryz.call84 [(1500,1500)] [] rfl rfl rfl rfl (cX.of2 (dC.cons gN.boxT dC.nil)) (by rw[aN,aR,aS];rfl) s3 ?_;rintro u3 H3h ⟨rfl,rfl⟩
 refine⟨_,rfl,?_⟩
 refine aE (st':=⟨_,_,upd (fun _=>none) 1500 (some ⟨b_rA,(aa x3.2)⟩),fun _=>none⟩) (Gh.le (av _ _) (ab rfl (cX.r) ao) am) ?_;refine aA 2 tk rfl (Ao.mkI tk rfl rfl rfl rfl rfl ?_);obtain rfl:=aF H;exact lA rfl rfl
def bN(sA:List (List UInt8))(v:List UInt8):Option (Bool):=
 ar (ca sA v) fun x7=>
 some (decide (x7≥(0:Int)))
theorem fy(sA:List (List UInt8))(v:List UInt8)(r:Bool)(H:bN sA v=some r):
  da Tryz.prog 58 [(.list 9 (sA.map aB)),(.str v)] (bG r):=by
 unfold bN at H;refine PH.cd Tryz.func58 Tryz.ntmps58 ?_;refine bE 1 tk rfl (ak (ae (aA 2 tk rfl ?_)))
 obtain⟨x7,h7,H⟩:=aM H
 have s7:=fV sA v _ h7;refine bs Tryz.call94 (cX.r) s7 ?_;refine aA 2 tk rfl (af ?_);exact im tk H rfl
theorem fk(xs:List (List UInt8))(v:(List UInt8)):bN xs v=some (xs.any (fun x1=>(v==x1))):=by
 unfold bN;rw[fF,bPs,idxOf_any]
def ep(sA:List UInt8)(fromA:Int):Option (LLexerToken×Int×Bool):=
 ar (cR (σ:=Int) (ρ:=Empty) (fun(s1:Int)=>
  cond (decide (s1<(sA.length:Int)))
   (ar (bO sA s1) fun(x19:UInt8)=>
   cx (cA x19) fun x20=>
   cond x20
    (some (.next (IntKind.i64.wrap (s1+(1:Int)))))
    (some (.brk s1)))
   (some (.brk s1))) fromA) fun fl1=>fl1.thenP fun(s1:Int)=>
 ar (dJ sA fromA s1) fun(x28:List UInt8)=>
 ar (atoiL x28) fun x29=>
 cond (!x29.2)
  (cond (decide (x29.1≤(1000000000000:Int)))
   (ar (dJ sA fromA s1) fun(x44:List UInt8)=>
   ar (itoaL x29.1) fun x40=>
   cond (x40==x44)
    (cond (s1==(sA.length:Int))
     (some ((LLexerToken.mk 3 [] x29.1 0),s1,true))
     (ar (bO sA s1) fun(x55:UInt8)=>
     cx (dp x55) fun x56=>
     some ((LLexerToken.mk 3 [] x29.1 0),s1,(!x56))))
    (some ((LLexerToken.mk 3 [] x29.1 0),s1,false)))
   (some ((LLexerToken.mk 3 [] x29.1 0),s1,false)))
  (some ((LLexerToken.mk 3 [] x29.1 0),s1,false))
theorem W_lexer_number(sA:List UInt8)(fromA:Int)(r:LLexerToken×Int×Bool)(H:ep sA fromA=some r):
  da Tryz.prog 61 [(.str sA),(ac fromA)] (.tup [(.agg (aJ r.1)),(ac r.2.1),(bG r.2.2)]):=by
 unfold ep at H;refine PH.cd Tryz.func61 Tryz.ntmps61 ?_;refine ak (ae ?_);refine aV tk fun b4=>?_
 refine aA 2 tk rfl (af (bE 2 tk rfl (ak ?_)))
 obtain⟨fl1,H1,Hp1⟩:=aM H
 refine ef (τ:=Int) (γ:=Unit) (fun s1 g1=>⟨64,upd (upd (upd (upd (fun _=>.any) 7 (ac s1)) 4 (.box 4 b4 0)) 1 (ac fromA)) 0 (.str sA),upd (fun _=>none) 4 (some ⟨b4,[(ac 0),(.str []),(ac 0),(ac 0)]⟩),fun _=>none⟩) (fun t=>fl1= .next t) ?_ (fun s1 g1 hn1=>?_)
 ·refine bt ?_;refine eF (fun s1 g1=>⟨64,upd (upd (upd (upd (fun _=>.any) 7 (ac s1)) 4 (.box 4 b4 0)) 1 (ac fromA)) 0 (.str sA),upd (fun _=>none) 4 (some ⟨b4,[(ac 0),(.str []),(ac 0),(ac 0)]⟩),fun _=>none⟩) () H1 Gh.d (fun m1 s1 g1 hr1=>?_)
  obtain⟨fb1,H,hg1⟩:=dI hr1
  refine ak (ak (ae (aA 5 tk rfl ?_)));refine dy rfl rfl rfl H (fun H=>?_) (fun H=>?_)
  ·refine aA 2 tk rfl ?_
   obtain⟨x19,k19,H⟩:=eH H
   refine dZ tk k19.1 k19.2 ?_
   obtain⟨x20,h20,H⟩:=ed H
   have s20:=gS x19;rw[h20]at s20;refine bs Tryz.call60 (cX.r) s20 ?_;refine aC tk rfl (af ?_);refine bj rfl H (fun H=>?_) (fun H=>?_)
   ·refine bc (bt (gT 3 tk rfl (cn ?_)));obtain rfl:=aF H;refine dE (IntKind.i64.wrap (s1+(1:Int))) () hg1 Gh.d
   refine dB rfl ?_;obtain rfl:=aF H;refine cb s1 () hg1 Gh.d
  refine aA 5 tk rfl (af (kh rfl (dB rfl ?_)));obtain rfl:=aF H;refine cb s1 () hg1 Gh.d
 have H:=thenP_next hn1 Hp1;refine ak (ae (aA 3 tk rfl ?_))
 obtain⟨x28,h28,H⟩:=aM H
 have k28:=dV h28;refine ig tk rfl rfl rfl rfl rfl rfl rfl k28.1 k28.2 rfl ?_
 obtain⟨x29,h29,H⟩:=aM H
 have s29:=W_atoi x28 _ h29;refine bs Tryz.call95 (cX.r) s29 ?_;refine aA 5 tk rfl (af (ak (dz tk mok ⟨false,false,[]⟩ [0,1,2,3,4,5,6,7,9,10,11,12,8,13,14,15,16,17,18,19,20,21,22,23,24,25,26,27,28] rfl (by decide+kernel) rfl (cN rfl (Do.errN rfl rfl rfl Tryz.underlying146 rfl rfl (cN rfl ?_))))));refine lc rfl rfl rfl rfl H (fun H=>?_) (fun H=>?_)
 ·refine cm 4 rfl ?_;refine lc rfl rfl rfl rfl H (fun H=>?_) (fun H=>?_)
  ·refine cm 4 rfl ?_
   obtain⟨x44,h44,H⟩:=aM H
   have k44:=dV h44;refine la rfl rfl rfl rfl rfl rfl rfl rfl k44.1 k44.2 rfl ?_
   obtain⟨x40,h40,H⟩:=aM H
   have s40:=W_itoa x29.1 _ h40;refine fw (g:=31) rfl rfl rfl rfl Tryz.call31 (cX.r) s40 rfl (cm 3 rfl ?_);refine lc rfl rfl rfl rfl H (fun H=>?_) (fun H=>?_)
   ·refine cm 5 rfl ?_;refine lc rfl rfl rfl rfl H (fun H=>?_) (fun H=>?_)
    ·refine cm 8 rfl (cQ (ak (ae (aA 4 tk rfl (ap tk ?_)))));refine aA 2 tk rfl (af ?_);obtain rfl:=aF H;refine cB tk rfl (ps:=[(.agg [(ac 3),(.str []),(ac x29.1),(ac 0)]),(ac s1),(bG true)]) ⟨_,_,rfl,⟨_,_,_,_,_,rfl,rfl,rfl,rfl⟩,_,_,rfl,rfl,_,_,rfl,rfl,rfl⟩ (PLe.q rfl)
    refine cm 2 rfl ?_
    obtain⟨x55,k55,H⟩:=eH H
    refine ln rfl rfl rfl rfl rfl rfl rfl k55.1 k55.2 rfl ?_
    obtain⟨x56,h56,H⟩:=ed H
    have s56:=gQ x55;rw[h56]at s56;refine fw (g:=57) rfl rfl rfl rfl Tryz.call57 (cX.r) s56 rfl (cm 4 rfl (cQ (ak (ae (aA 4 tk rfl (ap tk ?_))))));refine aA 2 tk rfl (af ?_);obtain rfl:=aF H;refine cB tk rfl (ps:=[(.agg [(ac 3),(.str []),(ac x29.1),(ac 0)]),(ac s1),(bG (!x56))]) ⟨_,_,rfl,⟨_,_,_,_,_,rfl,rfl,rfl,rfl⟩,_,_,rfl,rfl,_,_,rfl,rfl,rfl⟩ (PLe.q rfl)
   refine cm 13 rfl (cQ (ak (ae (aA 4 tk rfl (ap tk ?_)))));refine aA 2 tk rfl (af ?_);obtain rfl:=aF H;refine cB tk rfl (ps:=[(.agg [(ac 3),(.str []),(ac x29.1),(ac 0)]),(ac s1),(bG false)]) ⟨_,_,rfl,⟨_,_,_,_,_,rfl,rfl,rfl,rfl⟩,_,_,rfl,rfl,_,_,rfl,rfl,rfl⟩ (PLe.q rfl)
  refine cm 22 rfl (cQ (ak (ae (aA 4 tk rfl (ap tk ?_)))));refine aA 2 tk rfl (af ?_);obtain rfl:=aF H;refine cB tk rfl (ps:=[(.agg [(ac 3),(.str []),(ac x29.1),(ac 0)]),(ac s1),(bG false)]) ⟨_,_,rfl,⟨_,_,_,_,_,rfl,rfl,rfl,rfl⟩,_,_,rfl,rfl,_,_,rfl,rfl,rfl⟩ (PLe.q rfl)
 refine cm 26 rfl (cQ (ak (ae (aA 4 tk rfl (ap tk ?_)))));refine aA 2 tk rfl (af ?_);obtain rfl:=aF H;refine cB tk rfl (ps:=[(.agg [(ac 3),(.str []),(ac x29.1),(ac 0)]),(ac s1),(bG false)]) ⟨_,_,rfl,⟨_,_,_,_,_,rfl,rfl,rfl,rfl⟩,_,_,rfl,rfl,_,_,rfl,rfl,rfl⟩ (PLe.q rfl)
def dL(sA:List UInt8):Option (LLexerToken×Int×Bool):=
 ar (
  cond (decide ((sA.length:Int)<(3:Int)))
   (some true)
   (ar (bO sA 1) fun(x11:UInt8)=>
   cx (cA x11) fun x12=>
   cond (!x12)
    (some true)
    (cond (decide ((sA.length:Int)>(3:Int)))
     (ar (bO sA 3) fun(x21:UInt8)=>
     cx (dp x21) fun x22=>
     some x22)
     (some false)))) fun(t1:Bool)=>
 cond t1
  (some ((LLexerToken.mk 0 [] 0 0),0,false))
  (ar (bO sA 2) fun(x27:UInt8)=>
  ar (js ([105,98,116]:List UInt8) x27) fun x28=>
  cond (decide (x28<(0:Int)))
   (some ((LLexerToken.mk 0 [] 0 0),0,false))
   (ar (bO sA 1) fun(x33:UInt8)=>
   ar (dJ sA 2 3) fun(x37:List UInt8)=>
   some ((LLexerToken.mk 6 x37 (IntKind.i64.wrap (IntKind.u8.wrap ((x33.toNat:Int)-(48:Int)))) 0),3,true)))
theorem kM(sA:List UInt8)(r:LLexerToken×Int×Bool)(H:dL sA=some r):
  da Tryz.prog 62 [(.str sA)] (.tup [(.agg (aJ r.1)),(ac r.2.1),(bG r.2.2)]):=by
 unfold dL at H;refine PH.cd Tryz.func62 Tryz.ntmps62 ?_;refine ak (ae ?_);refine aV tk fun b2=>?_
 refine aA 2 tk rfl (af (ak (ak ?_)));refine ld (γ:=Unit) (fun t1 g1=>⟨39,upd (upd (upd (fun _=>.any) 24 (bG t1)) 2 (.box 2 b2 0)) 0 (.str sA),upd (fun _=>none) 2 (some ⟨b2,[(ac 0),(.str []),(ac 0),(ac 0)]⟩),fun _=>none⟩) H (fun _ H=>?_) (fun t1 g1 H=>?_)
 ·refine ae (aA 4 tk rfl ?_);refine dy rfl rfl rfl H (fun H=>?_) (fun H=>?_)
  ·refine aA 15 tk rfl (af ?_);refine cb _ () (aF H) Gh.d
  refine aC tk rfl ?_
  obtain⟨x11,k11,H⟩:=eH H
  refine dZ tk k11.1 k11.2 ?_
  obtain⟨x12,h12,H⟩:=ed H
  have s12:=gS x11;rw[h12]at s12;refine bs Tryz.call60 (cX.r) s12 ?_;refine aA 3 tk rfl ?_;refine dy rfl rfl rfl H (fun H=>?_) (fun H=>?_)
  ·refine aA 9 tk rfl (af ?_);refine cb _ () (aF H) Gh.d
  refine aA 4 tk rfl ?_;refine dy rfl rfl rfl H (fun H=>?_) (fun H=>?_)
  ·refine aC tk rfl ?_
   obtain⟨x21,k21,H⟩:=eH H
   refine dZ tk k21.1 k21.2 ?_
   obtain⟨x22,h22,H⟩:=ed H
   have s22:=gQ x21;rw[h22]at s22;refine bs Tryz.call57 (cX.r) s22 ?_;refine aA 2 tk rfl (af ?_);refine cb _ () (aF H) Gh.d
  refine aA 5 tk rfl (af ?_);refine cb _ () (aF H) Gh.d
 refine bj rfl H (fun H=>?_) (fun H=>?_)
 ·refine ak (ae (aC tk rfl (ap tk ?_)));refine aA 2 tk rfl (af ?_);obtain rfl:=aF H;refine cB tk rfl (ps:=[(.agg [(ac 0),(.str []),(ac 0),(ac 0)]),(ac 0),(bG false)]) ⟨_,_,rfl,⟨_,_,_,_,_,rfl,rfl,rfl,rfl⟩,_,_,rfl,rfl,_,_,rfl,rfl,rfl⟩ (PLe.q rfl)
 refine bc (ak (ae (aC tk rfl ?_)))
 obtain⟨x27,k27,H⟩:=eH H
 refine dZ tk k27.1 k27.2 ?_
 obtain⟨x28,h28,H⟩:=aM H
 have s28:=W_idxByte ([105,98,116]:List UInt8) x27 _ h28;refine bs Tryz.call96 (cX.r) s28 ?_;refine aC tk rfl (af (ak (bE 2 tk rfl ?_)));refine bj rfl H (fun H=>?_) (fun H=>?_)
 ·refine ak (ae (aC tk rfl (ap tk ?_)));refine aA 2 tk rfl (af ?_);obtain rfl:=aF H;refine cB tk rfl (ps:=[(.agg [(ac 0),(.str []),(ac 0),(ac 0)]),(ac 0),(bG false)]) ⟨_,_,rfl,⟨_,_,_,_,_,rfl,rfl,rfl,rfl⟩,_,_,rfl,rfl,_,_,rfl,rfl,rfl⟩ (PLe.q rfl)
 refine bc (ak (dz tk mok ⟨false,false,[]⟩ [0,1,2,3,4,5,6,7,8,9] rfl (by decide+kernel) rfl (cN rfl ?_)))
 obtain⟨x33,k33,H⟩:=eH H
 refine ln rfl rfl rfl rfl rfl rfl rfl k33.1 k33.2 rfl (cm 3 rfl ?_)
 obtain⟨x37,h37,H⟩:=aM H
 have k37:=dV h37;refine la rfl rfl rfl rfl rfl rfl rfl rfl k37.1 k37.2 rfl (cN rfl (eD rfl rfl rfl rfl rfl rfl rfl rfl rfl rfl rfl rfl (cm 2 rfl (cQ ?_))));obtain rfl:=aF H;refine cB tk rfl (ps:=[(.agg [(ac 6),(.str x37),(ac (IntKind.i64.wrap (IntKind.u8.wrap ((x33.toNat:Int)-(48:Int))))),(ac 0)]),(ac 3),(bG true)]) ⟨_,_,rfl,⟨_,_,_,_,_,rfl,rfl,rfl,rfl⟩,_,_,rfl,rfl,_,_,rfl,rfl,rfl⟩ (PLe.q rfl)
def aD(rA:LQueryparserParser)(sA:List UInt8):Option (Except Int (LQueryparserParser)):=
 ar (ah rA sA) fun x6=>
 cond (!x6.1)
  (aT (aI x6.2) fun x9=>
  some (.ok x9))
  (some (.ok x6.2))
theorem aK(b_rA:Nat)(rA:LQueryparserParser)(sA:List UInt8)(r:Except Int (LQueryparserParser))(H:aD rA sA=some r):
  aP Tryz.prog 53 [(.box 1500 b_rA 0),(.str sA)] ⟨upd (fun _=>none) 1500 (some ⟨b_rA,(aa rA)⟩),fun _=>none⟩ (RX r (fun rv u H=>u=(.tup [])∧H=⟨upd (fun _=>none) 1500 (some ⟨b_rA,(aa rv)⟩),fun _=>none⟩)) (PX 106 r):=by
 unfold aD at H;refine aP.intro Tryz.func53 rfl Tryz.ntmps53 rfl ?_;refine ak (ae (aA 2 tk rfl ?_))
 obtain⟨x6,h6,H⟩:=aM H
 have s6:=az b_rA rA sA _ h6;refine bf (g:=52) rfl rfl rfl Tryz.call52 [(1500,1500)] [] rfl rfl rfl rfl (cX.of2 (dC.cons gN.boxT (dC.cons (gN.of_eq rfl) dC.nil))) (by rw[aN,aR,aS];rfl) s6 ?_;rintro u6 H6h ⟨rfl,rfl⟩
 refine⟨_,rfl,?_⟩
 refine aE (st':=⟨_,_,upd (fun _=>none) 1500 (some ⟨b_rA,(aa x6.2)⟩),fun _=>none⟩) (Gh.le (av _ _) (ab rfl (cX.r) ao) am) ?_;refine aC tk rfl (af ?_);refine bj rfl H (fun H=>?_) (fun H=>?_)
 ·refine ae (aC tk rfl ?_)
  obtain⟨y9,h9,X9,H⟩:=aX H
  have s9:=bn b_rA x6.2 _ h9;refine aH Tryz.call56 [(1500,1500)] [] s9 (X9 _) ?_;rintro u9 H9h hR9
  obtain⟨x9,⟨rfl,rfl⟩,H⟩:=H _ _ _ hR9
  refine⟨_,rfl,?_⟩
  refine aE (st':=⟨_,_,upd (fun _=>none) 1500 (some ⟨b_rA,(aa x9)⟩),fun _=>none⟩) (Gh.le (av _ _) (ab rfl (cX.r) ao) am) ?_;refine af ?_;obtain rfl:=aF H;refine be (st':=⟨10,fun _=>.any,upd (fun _=>none) 1500 (some ⟨b_rA,(aa x9)⟩),fun _=>none⟩) (Gh.le aO (ab rfl (cX.r) ao) am) ?_;refine dG rfl (PLe.q rfl) ⟨rfl,rfl⟩
 refine bc ?_;obtain rfl:=aF H;refine be (st':=⟨10,fun _=>.any,upd (fun _=>none) 1500 (some ⟨b_rA,(aa x6.2)⟩),fun _=>none⟩) (Gh.le aO (ab rfl (cX.r) ao) am) ?_;refine dG rfl (PLe.q rfl) ⟨rfl,rfl⟩
def aU(rA:LQueryparserParser):Option (Except Int ((List UInt8)×LQueryparserParser)):=
 ar (bi rA) fun x5=>
 ar (
  cond (x5.1.kind !=(1:Int))
   (ci (aI x5.2) fun x10=>
   some (.next x10))
   (some (.next x5.2))) fun(fl1:Flow (LQueryparserParser) (Except Int ((List UInt8)×LQueryparserParser)))=>fl1.thenR fun t1=>
 some (.ok (x5.1.text,(LQueryparserParser.mk t1.tokens (IntKind.i64.wrap (t1.next+(1:Int))) t1.size)))
theorem bQ(b_rA:Nat)(rA:LQueryparserParser)(r:Except Int ((List UInt8)×LQueryparserParser))(H:aU rA=some r):
  aP Tryz.prog 54 [(.box 1500 b_rA 0)] ⟨upd (fun _=>none) 1500 (some ⟨b_rA,(aa rA)⟩),fun _=>none⟩ (RX r (fun rv u H=>u=(.str rv.1)∧H=⟨upd (fun _=>none) 1500 (some ⟨b_rA,(aa rv.2)⟩),fun _=>none⟩)) (PX 106 r):=by
 unfold aU at H;refine aP.intro Tryz.func54 rfl Tryz.ntmps54 rfl ?_;refine bE 1 tk rfl (ak (ae (aC tk rfl ?_)))
 obtain⟨x5,h5,H⟩:=aM H
 have s5:=bX b_rA rA _ h5;refine bf (g:=84) rfl rfl rfl Tryz.call84 [(1500,1500)] [] rfl rfl rfl rfl (cX.of2 (dC.cons gN.boxT dC.nil)) (by rw[aN,aR,aS];rfl) s5 ?_;rintro u5 H5h ⟨rfl,rfl⟩
 refine⟨_,rfl,?_⟩
 refine aE (st':=⟨_,_,upd (fun _=>none) 1500 (some ⟨b_rA,(aa x5.2)⟩),fun _=>none⟩) (Gh.le (av _ _) (ab rfl (cX.r) ao) am) ?_;refine aV tk fun b3=>?_
 refine ap tk ?_;refine af (ak (ak (ae (aC tk rfl (aw tk ?_)))));refine aC tk rfl (af ?_);refine jO (γ:=Unit) (fun t1 g1=>⟨20,upd (upd (fun _=>.any) 3 (.box 3 b3 0)) 0 (.box 1500 b_rA 0),upd (upd (fun _=>none) 1500 (some ⟨b_rA,(aa t1)⟩)) 3 (some ⟨b3,(aJ x5.1)⟩),fun _=>none⟩) H (fun _ H Hp1=>?_) (fun t1 g1 H=>?_)
 ·refine bj rfl H (fun H=>?_) (fun H=>?_)
  ·refine ae (aC tk rfl ?_)
   obtain⟨y10,h10,X10,H⟩:=cV H
   have s10:=bn b_rA x5.2 _ h10;refine aH Tryz.call56 [(1500,1500)] [] s10 (pxF (fun e he=>(lvJ (X10 e he) Hp1)) _) ?_;rintro u10 H10h hR10
   obtain⟨x10,⟨rfl,rfl⟩,H⟩:=H _ _ _ hR10
   refine⟨_,rfl,?_⟩
   refine aE (st':=⟨_,_,upd (upd (fun _=>none) 1500 (some ⟨b_rA,(aa x10)⟩)) 3 (some ⟨b3,(aJ x5.1)⟩),fun _=>none⟩) (Gh.le (av _ _) (ab rfl (cX.r) (ab rfl (cX.r) ao)) am) ?_;refine af ?_;refine cb _ () (aF H).symm Gh.d
  refine bc ?_;refine cb _ () (aF H).symm Gh.d
 refine ak (ae (aA 3 tk rfl (aw tk ?_)));refine aA 3 tk rfl (ap tk ?_);refine af (ak (ae (aC tk rfl (aw tk ?_))));refine aC tk rfl (af ?_);obtain rfl:=aF H;refine be (st':=⟨20,upd (fun _=>.any) 2 (.str x5.1.text),upd (fun _=>none) 1500 (some ⟨b_rA,(aa (LQueryparserParser.mk t1.tokens (IntKind.i64.wrap (t1.next+(1:Int))) t1.size))⟩),fun _=>none⟩) (Gh.le (bg aO) (ab rfl (cX.r) ao) am) ?_;refine ii tk rfl (ps:=[(.str x5.1.text)]) ⟨_,_,rfl,rfl,rfl⟩ (PLe.q rfl) ⟨rfl,rfl⟩
def bh(rA:LQueryparserParser):Option (Except Int (Int×LQueryparserParser)):=
 ar (bi rA) fun x5=>
 ar (
  cond (x5.1.kind !=(3:Int))
   (ci (aI x5.2) fun x10=>
   some (.next x10))
   (some (.next x5.2))) fun(fl1:Flow (LQueryparserParser) (Except Int (Int×LQueryparserParser)))=>fl1.thenR fun t1=>
 some (.ok (x5.1.number,(LQueryparserParser.mk t1.tokens (IntKind.i64.wrap (t1.next+(1:Int))) t1.size)))
theorem cU(b_rA:Nat)(rA:LQueryparserParser)(r:Except Int (Int×LQueryparserParser))(H:bh rA=some r):
  aP Tryz.prog 93 [(.box 1500 b_rA 0)] ⟨upd (fun _=>none) 1500 (some ⟨b_rA,(aa rA)⟩),fun _=>none⟩ (RX r (fun rv u H=>u=(ac rv.1)∧H=⟨upd (fun _=>none) 1500 (some ⟨b_rA,(aa rv.2)⟩),fun _=>none⟩)) (PX 106 r):=by
 unfold bh at H;refine aP.intro Tryz.func93 rfl Tryz.ntmps93 rfl ?_;refine bE 1 tk rfl (ak (ae (aC tk rfl ?_)))
 obtain⟨x5,h5,H⟩:=aM H
 have s5:=bX b_rA rA _ h5;refine bf (g:=84) rfl rfl rfl Tryz.call84 [(1500,1500)] [] rfl rfl rfl rfl (cX.of2 (dC.cons gN.boxT dC.nil)) (by rw[aN,aR,aS];rfl) s5 ?_;rintro u5 H5h ⟨rfl,rfl⟩
 refine⟨_,rfl,?_⟩
 refine aE (st':=⟨_,_,upd (fun _=>none) 1500 (some ⟨b_rA,(aa x5.2)⟩),fun _=>none⟩) (Gh.le (av _ _) (ab rfl (cX.r) ao) am) ?_;refine aV tk fun b3=>?_
 refine ap tk ?_;refine af (ak (ak (ae (aC tk rfl (aw tk ?_)))));refine aC tk rfl (af ?_);refine jO (γ:=Unit) (fun t1 g1=>⟨20,upd (upd (fun _=>.any) 3 (.box 3 b3 0)) 0 (.box 1500 b_rA 0),upd (upd (fun _=>none) 1500 (some ⟨b_rA,(aa t1)⟩)) 3 (some ⟨b3,(aJ x5.1)⟩),fun _=>none⟩) H (fun _ H Hp1=>?_) (fun t1 g1 H=>?_)
 ·refine bj rfl H (fun H=>?_) (fun H=>?_)
  ·refine ae (aC tk rfl ?_)
   obtain⟨y10,h10,X10,H⟩:=cV H
   have s10:=bn b_rA x5.2 _ h10;refine aH Tryz.call56 [(1500,1500)] [] s10 (pxF (fun e he=>(lvJ (X10 e he) Hp1)) _) ?_;rintro u10 H10h hR10
   obtain⟨x10,⟨rfl,rfl⟩,H⟩:=H _ _ _ hR10
   refine⟨_,rfl,?_⟩
   refine aE (st':=⟨_,_,upd (upd (fun _=>none) 1500 (some ⟨b_rA,(aa x10)⟩)) 3 (some ⟨b3,(aJ x5.1)⟩),fun _=>none⟩) (Gh.le (av _ _) (ab rfl (cX.r) (ab rfl (cX.r) ao)) am) ?_;refine af ?_;refine cb _ () (aF H).symm Gh.d
  refine bc ?_;refine cb _ () (aF H).symm Gh.d
 refine ak (ae (aA 3 tk rfl (aw tk ?_)));refine aA 3 tk rfl (ap tk ?_);refine af (ak (ae (aC tk rfl (aw tk ?_))));refine aC tk rfl (af ?_);obtain rfl:=aF H;refine be (st':=⟨20,upd (fun _=>.any) 2 (ac x5.1.number),upd (fun _=>none) 1500 (some ⟨b_rA,(aa (LQueryparserParser.mk t1.tokens (IntKind.i64.wrap (t1.next+(1:Int))) t1.size))⟩),fun _=>none⟩) (Gh.le (bg aO) (ab rfl (cX.r) ao) am) ?_;refine ii tk rfl (ps:=[(ac x5.1.number)]) ⟨_,_,rfl,rfl,rfl⟩ (PLe.q rfl) ⟨rfl,rfl⟩
def cM(rA:LQueryparserParser):Option (Except Int (LQueryparserParser)):=
 cond (decide (rA.next<(rA.tokens.length:Int)))
  (aT (aI rA) fun x13=>
  some (.ok x13))
  (some (.ok rA))
theorem ir(b_rA:Nat)(rA:LQueryparserParser)(r:Except Int (LQueryparserParser))(H:cM rA=some r):
  aP Tryz.prog 23 [(.box 1500 b_rA 0)] ⟨upd (fun _=>none) 1500 (some ⟨b_rA,(aa rA)⟩),fun _=>none⟩ (RX r (fun rv u H=>u=(.tup [])∧H=⟨upd (fun _=>none) 1500 (some ⟨b_rA,(aa rv)⟩),fun _=>none⟩)) (PX 106 r):=by
 unfold cM at H;refine aP.intro Tryz.func23 rfl Tryz.ntmps23 rfl ?_;refine ak (dz tk mok ⟨true,false,[]⟩ [0,1,2,3,4,5,6,7,8,9] rfl (by decide+kernel) rfl (cm 3 rfl (cW ?_)));refine cm 3 rfl (cW ?_);refine kU rfl rfl rfl rfl rfl rfl (zl _) rfl (cN rfl (cQ ?_));refine bj rfl H (fun H=>?_) (fun H=>?_)
 ·refine ae (aC tk rfl ?_)
  obtain⟨y13,h13,X13,H⟩:=aX H
  have s13:=bn b_rA rA _ h13;refine aH Tryz.call56 [(1500,1500)] [] s13 (X13 _) ?_;rintro u13 H13h hR13
  obtain⟨x13,⟨rfl,rfl⟩,H⟩:=H _ _ _ hR13
  refine⟨_,rfl,?_⟩
  refine aE (st':=⟨_,_,upd (fun _=>none) 1500 (some ⟨b_rA,(aa x13)⟩),fun _=>none⟩) (Gh.le (av _ _) (ab rfl (cX.r) ao) am) ?_;refine af ?_;obtain rfl:=aF H;refine be (st':=⟨14,fun _=>.any,upd (fun _=>none) 1500 (some ⟨b_rA,(aa x13)⟩),fun _=>none⟩) (Gh.le aO (ab rfl (cX.r) ao) am) ?_;refine dG rfl (PLe.q rfl) ⟨rfl,rfl⟩
 refine bc ?_;obtain rfl:=aF H;refine be (st':=⟨14,fun _=>.any,upd (fun _=>none) 1500 (some ⟨b_rA,(aa rA)⟩),fun _=>none⟩) (Gh.le aO (ab rfl (cX.r) ao) am) ?_;refine dG rfl (PLe.q rfl) ⟨rfl,rfl⟩
def eO(sA:List UInt8):Option (LLexerToken×Int×Bool):=
 ar (bO sA 0) fun(x11:UInt8)=>
 cx (
  cond (decide ((x11.toNat:Int)≥(97:Int)))
   ((decide ((x11.toNat:Int)≤(122:Int))))
   (false)) fun(t1:Bool)=>
 cond t1
  (ar (cR (σ:=Int) (ρ:=Empty) (fun(s2:Int)=>
   cond (decide (s2<(sA.length:Int)))
    (ar (bO sA s2) fun(x26:UInt8)=>
    cx (dp x26) fun x27=>
    cond x27
     (some (.next (IntKind.i64.wrap (s2+(1:Int)))))
     (some (.brk s2)))
    (some (.brk s2))) 1) fun fl2=>fl2.thenP fun(s2:Int)=>
  ar (dJ sA 0 s2) fun(x34:List UInt8)=>
  cx (eC) fun x31=>
  ar (bN x31 x34) fun x35=>
  cx (
   cond x35
    (2)
    (1)) fun(t3:Int)=>
  ar (dJ sA 0 s2) fun(x39:List UInt8)=>
  cond (t3==(2:Int))
   (some ((LLexerToken.mk t3 x39 0 0),s2,true))
   (some ((LLexerToken.mk t3 x39 0 0),s2,(decide (s2≤(12:Int))))))
  (cx (cA x11) fun x50=>
  cond x50
   (ar (ep sA 0) fun x52=>
   some (x52.1,x52.2.1,x52.2.2))
   (cond ((x11.toNat:Int)==(63:Int))
    (ar (dL sA) fun x60=>
    some (x60.1,x60.2.1,x60.2.2))
    (cond ((x11.toNat:Int)==(39:Int))
     (ar (eu sA) fun x68=>
     some (x68.1,x68.2.1,x68.2.2))
     (ar (fM (([[124,124],[60,61],[40],[41],[44],[124],[43],[45],[42],[61],[60],[36]]:List (List UInt8)).length:Int)) fun(n4:Nat)=>
     ar (bJ (σ:=Unit) (ρ:=(LLexerToken×Int×Bool)) (fun(j4:Nat) (_:Nat) (_:Unit)=>
      ar (bO ([[124,124],[60,61],[40],[41],[44],[124],[43],[45],[42],[61],[60],[36]]:List (List UInt8)) (j4:Int)) fun(x76:List UInt8)=>
      ar (fL sA x76) fun x80=>
      cond x80
       (some (.ret ((LLexerToken.mk 5 x76 0 0),(x76.length:Int),true)))
       (some (.next ()))) 0 (List.range n4) ()) fun fl4=>fl4.thenR fun(_:Unit)=>
     some ((LLexerToken.mk 0 [] 0 0),0,false)))))
theorem W_lexer_one(sA:List UInt8)(r:LLexerToken×Int×Bool)(H:eO sA=some r):
  da Tryz.prog 24 [(.str sA)] (.tup [(.agg (aJ r.1)),(ac r.2.1),(bG r.2.2)]):=by
 unfold eO at H;refine PH.cd Tryz.func24 Tryz.ntmps24 ?_;refine ak (ae ?_);refine aV tk fun b2=>?_
 refine aA 2 tk rfl (af (ak (ak (ae (aC tk rfl ?_)))))
 obtain⟨x11,k11,H⟩:=eH H
 refine dZ tk k11.1 k11.2 ?_;refine aC tk rfl (af (bt (ak ?_)));refine kP (γ:=Unit) (fun t1 g1=>⟨87,upd (upd (upd (upd (fun _=>.any) 12 (bG t1)) 5 (.val (.int .u8 (x11.toNat:Int)))) 2 (.box 2 b2 0)) 0 (.str sA),upd (fun _=>none) 2 (some ⟨b2,[(ac 0),(.str []),(ac 0),(ac 0)]⟩),fun _=>none⟩) H (fun _ H=>?_) (fun t1 g1 H=>?_)
 ·refine ae (aA 3 tk rfl ?_);refine dy rfl rfl rfl H (fun H=>?_) (fun H=>?_)
  ·refine aA 4 tk rfl (af ?_);refine cb _ () H Gh.d
  refine aA 4 tk rfl (af ?_);refine cb _ () H Gh.d
 refine bj rfl H (fun H=>?_) (fun H=>?_)
 ·refine bE 1 tk rfl (ak ?_)
  obtain⟨fl2,H2,Hp2⟩:=aM H
  refine ef (τ:=Int) (γ:=Unit) (fun s2 g2=>⟨87,upd (upd (upd (fun _=>.any) 6 (ac s2)) 2 (.box 2 b2 0)) 0 (.str sA),upd (fun _=>none) 2 (some ⟨b2,[(ac 0),(.str []),(ac 0),(ac 0)]⟩),fun _=>none⟩) (fun t=>fl2= .next t) ?_ (fun s2 g2 hn2=>?_)
  ·refine bt ?_;refine eF (fun s2 g2=>⟨87,upd (upd (upd (fun _=>.any) 6 (ac s2)) 2 (.box 2 b2 0)) 0 (.str sA),upd (fun _=>none) 2 (some ⟨b2,[(ac 0),(.str []),(ac 0),(ac 0)]⟩),fun _=>none⟩) () H2 Gh.d (fun m2 s2 g2 hr2=>?_)
   obtain⟨fb2,H,hg2⟩:=dI hr2
   refine ak (ak (ae (aA 5 tk rfl ?_)));refine dy rfl rfl rfl H (fun H=>?_) (fun H=>?_)
   ·refine aA 2 tk rfl ?_
    obtain⟨x26,k26,H⟩:=eH H
    refine dZ tk k26.1 k26.2 ?_
    obtain⟨x27,h27,H⟩:=ed H
    have s27:=gQ x26;rw[h27]at s27;refine bs Tryz.call57 (cX.r) s27 ?_;refine aC tk rfl (af ?_);refine bj rfl H (fun H=>?_) (fun H=>?_)
    ·refine bc (bt (gT 3 tk rfl (cn ?_)));obtain rfl:=aF H;refine dE (IntKind.i64.wrap (s2+(1:Int))) () hg2 Gh.d
    refine dB rfl ?_;obtain rfl:=aF H;refine cb s2 () hg2 Gh.d
   refine aA 5 tk rfl (af (kh rfl (dB rfl ?_)));obtain rfl:=aF H;refine cb s2 () hg2 Gh.d
  have H:=thenP_next hn2 Hp2;refine bE 1 tk rfl (ak (ak (dz tk mok ⟨false,false,[]⟩ [1,2,3,0,4] rfl (by decide+kernel) rfl (cm 2 rfl ?_))))
  obtain⟨x34,h34,H⟩:=aM H
  have k34:=dV h34;refine la rfl rfl rfl rfl rfl rfl rfl rfl k34.1 k34.2 rfl ?_
  obtain⟨x31,h31,H⟩:=ed H
  have s31:=kK;rw[h31]at s31;refine fw (g:=59) rfl rfl rfl rfl Tryz.call59 (cX.r) s31 rfl ?_
  obtain⟨x35,h35,H⟩:=aM H
  have s35:=fy x31 x34 _ h35;refine fw (g:=58) rfl rfl rfl rfl Tryz.call58 (cX.r) s35 rfl (cQ ?_);refine kP (γ:=Unit) (fun t3 g3=>⟨87,upd (upd (upd (upd (fun _=>.any) 7 (ac t3)) 6 (ac s2)) 2 (.box 2 b2 0)) 0 (.str sA),upd (fun _=>none) 2 (some ⟨b2,[(ac 0),(.str []),(ac 0),(ac 0)]⟩),fun _=>none⟩) H (fun _ H=>?_) (fun t3 g3 H=>?_)
  ·refine bj rfl H (fun H=>?_) (fun H=>?_)
   ·refine gT 1 tk rfl ?_;refine cb _ () H Gh.d
   refine bc ?_;refine cb _ () H Gh.d
  refine ak (ae (aA 3 tk rfl ?_))
  obtain⟨x39,h39,H⟩:=aM H
  have k39:=dV h39;refine ig tk rfl rfl rfl rfl rfl rfl rfl k39.1 k39.2 rfl (aA 5 tk rfl ?_);refine dy rfl rfl rfl H (fun H=>?_) (fun H=>?_)
  ·refine aA 3 tk rfl (ap tk ?_);refine aA 2 tk rfl (af ?_);obtain rfl:=aF H;refine cB tk rfl (ps:=[(.agg [(ac t3),(.str x39),(ac 0),(ac 0)]),(ac s2),(bG true)]) ⟨_,_,rfl,⟨_,_,_,_,_,rfl,rfl,rfl,rfl⟩,_,_,rfl,rfl,_,_,rfl,rfl,rfl⟩ (PLe.q rfl)
  refine aA 3 tk rfl (ap tk ?_);refine aA 2 tk rfl (af ?_);obtain rfl:=aF H;refine cB tk rfl (ps:=[(.agg [(ac t3),(.str x39),(ac 0),(ac 0)]),(ac s2),(bG (decide (s2≤(12:Int))))]) ⟨_,_,rfl,⟨_,_,_,_,_,rfl,rfl,rfl,rfl⟩,_,_,rfl,rfl,_,_,rfl,rfl,rfl⟩ (PLe.q rfl)
 refine ak (ae (aC tk rfl ?_))
 obtain⟨x50,h50,H⟩:=ed H
 have s50:=gS x11;rw[h50]at s50;refine bs Tryz.call60 (cX.r) s50 ?_;refine aC tk rfl (af ?_);refine bj rfl H (fun H=>?_) (fun H=>?_)
 ·refine ak (ae (aC tk rfl ?_))
  obtain⟨x52,h52,H⟩:=aM H
  have s52:=W_lexer_number sA 0 _ h52;refine bs Tryz.call61 (cX.r) s52 ?_;refine aA 3 tk rfl (ap tk ?_);refine aA 2 tk rfl (af ?_);obtain rfl:=aF H;refine cB tk rfl (ps:=[(.agg (aJ x52.1)),(ac x52.2.1),(bG x52.2.2)]) ⟨_,_,rfl,⟨_,_,_,_,_,rfl,rfl,rfl,rfl⟩,_,_,rfl,rfl,_,_,rfl,rfl,rfl⟩ (PLe.q rfl)
 refine bE 3 tk rfl ?_;refine bj rfl H (fun H=>?_) (fun H=>?_)
 ·refine ak (ae (aC tk rfl ?_))
  obtain⟨x60,h60,H⟩:=aM H
  have s60:=kM sA _ h60;refine bs Tryz.call62 (cX.r) s60 ?_;refine aA 3 tk rfl (ap tk ?_);refine aA 2 tk rfl (af ?_);obtain rfl:=aF H;refine cB tk rfl (ps:=[(.agg (aJ x60.1)),(ac x60.2.1),(bG x60.2.2)]) ⟨_,_,rfl,⟨_,_,_,_,_,rfl,rfl,rfl,rfl⟩,_,_,rfl,rfl,_,_,rfl,rfl,rfl⟩ (PLe.q rfl)
 refine bE 3 tk rfl ?_;refine bj rfl H (fun H=>?_) (fun H=>?_)
 ·refine ak (ae (aC tk rfl ?_))
  obtain⟨x68,h68,H⟩:=aM H
  have s68:=W_lexer_quoted sA _ h68;refine bs Tryz.call63 (cX.r) s68 ?_;refine aA 3 tk rfl (ap tk ?_);refine aA 2 tk rfl (af ?_);obtain rfl:=aF H;refine cB tk rfl (ps:=[(.agg (aJ x68.1)),(ac x68.2.1),(bG x68.2.2)]) ⟨_,_,rfl,⟨_,_,_,_,_,rfl,rfl,rfl,rfl⟩,_,_,rfl,rfl,_,_,rfl,rfl,rfl⟩ (PLe.q rfl)
 refine bc (cn (ak (ak (ae (kT (e:=9) (rows:=[[(.str [124,124])],[(.str [60,61])],[(.str [40])],[(.str [41])],[(.str [44])],[(.str [124])],[(.str [43])],[(.str [45])],[(.str [42])],[(.str [61])],[(.str [60])],[(.str [36])]]) tk rfl rfl rfl rfl (rows':=List.map aB ([[124,124],[60,61],[40],[41],[44],[124],[43],[45],[42],[61],[60],[36]]:List (List UInt8))) (by kernel_rfl) (cS.refl _) rfl rfl (iZ tk rfl rfl rfl rfl rfl (zl _) rfl (aC tk rfl (af ?_))))))))
 obtain⟨n4,hs4,H⟩:=aM H
 have hz4:=iQ hs4
 obtain⟨fl4,H4,Hp4⟩:=aM H
 refine ef (τ:=Unit) (γ:=Unit) (fun s4 g4=>⟨87,upd (fun _=>.any) 2 (.box 2 b2 0),upd (fun _=>none) 2 (some ⟨b2,[(ac 0),(.str []),(ac 0),(ac 0)]⟩),fun _=>none⟩) (fun t=>fl4= .next t) ?_ (fun s4 g4 hn4=>?_)
 ·refine bt ?_;refine jF (fun j4 s4 g4=>⟨87,upd (upd (upd (upd (upd (fun _=>.any) 74 (ac (j4:Int))) 73 (ac (([[124,124],[60,61],[40],[41],[44],[124],[43],[45],[42],[61],[60],[36]]:List (List UInt8)).length:Int))) 72 (.list 9 (([[124,124],[60,61],[40],[41],[44],[124],[43],[45],[42],[61],[60],[36]]:List (List UInt8)).map aB))) 2 (.box 2 b2 0)) 0 (.str sA),upd (fun _=>none) 2 (some ⟨b2,[(ac 0),(.str []),(ac 0),(ac 0)]⟩),fun _=>none⟩) () H4 Gh.d (fun j4 s4 g4 hj4 hr4=>?_);refine bE 1 tk rfl (ak ?_);refine ik rfl (fun h=>?_) (fun h=>?_)
  ·have hl4:=natLt hz4 h
   obtain⟨x4,fb4,hx4,H,hg4⟩:=rMc hl4 hr4
   obtain rfl:=natX hx4;refine bc (ak (bt (ak (ae ?_))))
   obtain⟨x76,k76,H⟩:=eH H
   refine kQ tk rfl rfl rfl rfl rfl rfl k76.1 (jC (fun _=>rfl) k76.2) rfl ?_;refine aA 2 tk rfl (af (ak (ae (aA 2 tk rfl ?_))))
   obtain⟨x80,h80,H⟩:=aM H
   have s80:=W_hasPrefix sA x76 _ h80;refine bs Tryz.call64 (cX.r) s80 ?_;refine af ?_;refine bj rfl H (fun H=>?_) (fun H=>?_)
   ·refine ak (ae (aA 4 tk rfl (ap tk ?_)));refine aA 2 tk rfl (af ?_);obtain rfl:=aF H;have e4:fl4= .ret _:=hg4;subst e4;obtain rfl:=eB Hp4;refine cB tk rfl (ps:=[(.agg [(ac 5),(.str x76),(ac 0),(ac 0)]),(ac (x76.length:Int)),(bG true)]) ⟨_,_,rfl,⟨_,_,_,_,_,rfl,rfl,rfl,rfl⟩,_,_,rfl,rfl,_,_,rfl,rfl,rfl⟩ (PLe.q rfl)
   refine bc (cn (gT 2 tk rfl ?_));exact lb () H hl4 hg4 (Gh.le (bg (bg (bg (bg (it (PLe.q (jo hz4 hl4)) aO))))) (ab rfl (cX.r) ao) am)
  have hn4:=rMd (natGe hz4 h) hr4;refine dB rfl ?_;refine cb s4 g4 hn4 Gh.d
 have H:=du hn4 Hp4;refine ak (ae (aC tk rfl (ap tk ?_)));refine aA 2 tk rfl (af ?_);obtain rfl:=aF H;refine cB tk rfl (ps:=[(.agg [(ac 0),(.str []),(ac 0),(ac 0)]),(ac 0),(bG false)]) ⟨_,_,rfl,⟨_,_,_,_,_,rfl,rfl,rfl,rfl⟩,_,_,rfl,rfl,_,_,rfl,rfl,rfl⟩ (PLe.q rfl)
def cC(rA:LQueryparserParser):Option (Except Int (LVal×LQueryparserParser)):=
 ar (bi rA) fun x6=>
 ar (ah x6.2 ([110,117,108,108]:List UInt8)) fun x9=>
 cond x9.1
  (some (.ok ((LVal.mk 0 0 []),x9.2)))
  (ar (ah x9.2 ([116,114,117,101]:List UInt8)) fun x13=>
  cond x13.1
   (cx (ee true) fun x14=>
   some (.ok (x14,x13.2)))
   (ar (ah x13.2 ([102,97,108,115,101]:List UInt8)) fun x17=>
   cond x17.1
    (cx (ee false) fun x18=>
    some (.ok (x18,x17.2)))
    (ar (ah x17.2 ([45]:List UInt8)) fun x21=>
    cond x21.1
     (aT (bh x21.2) fun x23=>
     cond (x23.1==(0:Int))
      (aT (aI (LQueryparserParser.mk x23.2.tokens (IntKind.i64.wrap (x23.2.next-(1:Int))) x23.2.size)) fun x34=>
      cx (dU (IntKind.i64.wrap (0-x23.1))) fun x37=>
      some (.ok (x37,x34)))
      (cx (dU (IntKind.i64.wrap (0-x23.1))) fun x37=>
      some (.ok (x37,x23.2))))
     (cond (x6.1.kind==(4:Int))
      (some (.ok ((LVal.mk 3 0 x6.1.text),(LQueryparserParser.mk x21.2.tokens (IntKind.i64.wrap (x21.2.next+(1:Int))) x21.2.size))))
      (aT (bh x21.2) fun x53=>
      cx (dU x53.1) fun x54=>
      some (.ok (x54,x53.2)))))))
theorem gR(b_rA:Nat)(rA:LQueryparserParser)(r:Except Int (LVal×LQueryparserParser))(H:cC rA=some r):
  aP Tryz.prog 133 [(.box 1500 b_rA 0)] ⟨upd (fun _=>none) 1500 (some ⟨b_rA,(aa rA)⟩),fun _=>none⟩ (RX r (fun rv u H=>u=(.agg (dT rv.1))∧H=⟨upd (fun _=>none) 1500 (some ⟨b_rA,(aa rv.2)⟩),fun _=>none⟩)) (PX 106 r):=by
 unfold cC at H;refine aP.intro Tryz.func133 rfl Tryz.ntmps133 rfl ?_;refine ak (ae ?_);refine aV tk fun b2=>?_
 refine af (ak (ae (aC tk rfl ?_)))
 obtain⟨x6,h6,H⟩:=aM H
 have s6:=bX b_rA rA _ h6;refine bf (g:=84) rfl rfl rfl Tryz.call84 [(1500,1500)] [] rfl rfl rfl rfl (cX.of2 (dC.cons gN.boxT dC.nil)) (by rw[aN,aR,aS];rfl) s6 ?_;rintro u6 H6h ⟨rfl,rfl⟩
 refine⟨_,rfl,?_⟩
 refine aE (st':=⟨_,_,upd (upd (fun _=>none) 1500 (some ⟨b_rA,(aa x6.2)⟩)) 2 (some ⟨b2,[(ac 0),(ac 0),(.str [])]⟩),fun _=>none⟩) (Gh.le (av _ _) (ab rfl (cX.r) (ab rfl (cX.r) ao)) am) ?_;refine aV tk fun b3=>?_
 refine ap tk ?_;refine af (ak (bt (ak (ae (aC tk rfl ?_)))))
 obtain⟨x9,h9,H⟩:=aM H
 have s9:=az b_rA x6.2 ([110,117,108,108]:List UInt8) _ h9;refine bf (g:=52) rfl rfl rfl Tryz.call52 [(1500,1500)] [] rfl rfl rfl rfl (cX.of2 (dC.cons gN.boxT (dC.cons (gN.of_eq rfl) dC.nil))) (by rw[aN,aR,aS];rfl) s9 ?_;rintro u9 H9h ⟨rfl,rfl⟩
 refine⟨_,rfl,?_⟩
 refine aE (st':=⟨_,_,upd (upd (upd (fun _=>none) 1500 (some ⟨b_rA,(aa x9.2)⟩)) 3 (some ⟨b3,(aJ x6.1)⟩)) 2 (some ⟨b2,[(ac 0),(ac 0),(.str [])]⟩),fun _=>none⟩) (Gh.le (av _ _) (ab rfl (cX.r) (ab rfl (cX.r) (ab rfl (cX.r) ao))) am) ?_;refine aC tk rfl (af ?_);refine bj rfl H (fun H=>?_) (fun H=>?_)
 ·refine ak (ae (aC tk rfl (ap tk ?_)));refine af ?_;obtain rfl:=aF H;refine be (st':=⟨55,upd (fun _=>.any) 2 (.box 2 b2 0),upd (upd (fun _=>none) 1500 (some ⟨b_rA,(aa x9.2)⟩)) 2 (some ⟨b2,[(ac 0),(ac 0),(.str [])]⟩),fun _=>none⟩) (Gh.le (bg aO) (ab rfl (cX.r) (ab rfl (cX.r) ao)) am) ?_;refine bS tk rfl (ps:=[(.agg [(ac 0),(ac 0),(.str [])])]) ⟨_,_,rfl,⟨_,_,_,_,_,rfl,rfl,rfl,rfl⟩,rfl⟩ (PLe.q rfl) (HSub.updB rfl) ⟨rfl,rfl⟩
 refine ak (ae (aC tk rfl ?_))
 obtain⟨x13,h13,H⟩:=aM H
 have s13:=az b_rA x9.2 ([116,114,117,101]:List UInt8) _ h13;refine bf (g:=52) rfl rfl rfl Tryz.call52 [(1500,1500)] [] rfl rfl rfl rfl (cX.of2 (dC.cons gN.boxT (dC.cons (gN.of_eq rfl) dC.nil))) (by rw[aN,aR,aS];rfl) s13 ?_;rintro u13 H13h ⟨rfl,rfl⟩
 refine⟨_,rfl,?_⟩
 refine aE (st':=⟨_,_,upd (upd (upd (fun _=>none) 1500 (some ⟨b_rA,(aa x13.2)⟩)) 3 (some ⟨b3,(aJ x6.1)⟩)) 2 (some ⟨b2,[(ac 0),(ac 0),(.str [])]⟩),fun _=>none⟩) (Gh.le (av _ _) (ab rfl (cX.r) (ab rfl (cX.r) (ab rfl (cX.r) ao))) am) ?_;refine aC tk rfl (af ?_);refine bj rfl H (fun H=>?_) (fun H=>?_)
 ·refine ak (ae ?_)
  obtain⟨x14,h14,H⟩:=ed H
  have s14:=kG true;rw[h14]at s14;refine bs Tryz.call172 (cX.r) s14 ?_;refine ap tk ?_;refine af ?_;obtain rfl:=aF H;refine be (st':=⟨55,upd (fun _=>.any) 2 (.box 2 b2 0),upd (upd (fun _=>none) 1500 (some ⟨b_rA,(aa x13.2)⟩)) 2 (some ⟨b2,(dT x14)⟩),fun _=>none⟩) (Gh.le (bg aO) (ab rfl (cX.r) (ab rfl (cX.r) ao)) am) ?_;refine bS tk rfl (ps:=[(.agg (dT x14))]) ⟨_,_,rfl,⟨_,_,_,_,_,rfl,rfl,rfl,rfl⟩,rfl⟩ (PLe.q rfl) (HSub.updB rfl) ⟨rfl,rfl⟩
 refine ak (ae (aC tk rfl ?_))
 obtain⟨x17,h17,H⟩:=aM H
 have s17:=az b_rA x13.2 ([102,97,108,115,101]:List UInt8) _ h17;refine bf (g:=52) rfl rfl rfl Tryz.call52 [(1500,1500)] [] rfl rfl rfl rfl (cX.of2 (dC.cons gN.boxT (dC.cons (gN.of_eq rfl) dC.nil))) (by rw[aN,aR,aS];rfl) s17 ?_;rintro u17 H17h ⟨rfl,rfl⟩
 refine⟨_,rfl,?_⟩
 refine aE (st':=⟨_,_,upd (upd (upd (fun _=>none) 1500 (some ⟨b_rA,(aa x17.2)⟩)) 3 (some ⟨b3,(aJ x6.1)⟩)) 2 (some ⟨b2,[(ac 0),(ac 0),(.str [])]⟩),fun _=>none⟩) (Gh.le (av _ _) (ab rfl (cX.r) (ab rfl (cX.r) (ab rfl (cX.r) ao))) am) ?_;refine aC tk rfl (af ?_);refine bj rfl H (fun H=>?_) (fun H=>?_)
 ·refine ak (ae ?_)
  obtain⟨x18,h18,H⟩:=ed H
  have s18:=kG false;rw[h18]at s18;refine bs Tryz.call172 (cX.r) s18 ?_;refine ap tk ?_;refine af ?_;obtain rfl:=aF H;refine be (st':=⟨55,upd (fun _=>.any) 2 (.box 2 b2 0),upd (upd (fun _=>none) 1500 (some ⟨b_rA,(aa x17.2)⟩)) 2 (some ⟨b2,(dT x18)⟩),fun _=>none⟩) (Gh.le (bg aO) (ab rfl (cX.r) (ab rfl (cX.r) ao)) am) ?_;refine bS tk rfl (ps:=[(.agg (dT x18))]) ⟨_,_,rfl,⟨_,_,_,_,_,rfl,rfl,rfl,rfl⟩,rfl⟩ (PLe.q rfl) (HSub.updB rfl) ⟨rfl,rfl⟩
 refine ak (ae (aC tk rfl ?_))
 obtain⟨x21,h21,H⟩:=aM H
 have s21:=az b_rA x17.2 ([45]:List UInt8) _ h21;refine bf (g:=52) rfl rfl rfl Tryz.call52 [(1500,1500)] [] rfl rfl rfl rfl (cX.of2 (dC.cons gN.boxT (dC.cons (gN.of_eq rfl) dC.nil))) (by rw[aN,aR,aS];rfl) s21 ?_;rintro u21 H21h ⟨rfl,rfl⟩
 refine⟨_,rfl,?_⟩
 refine aE (st':=⟨_,_,upd (upd (upd (fun _=>none) 1500 (some ⟨b_rA,(aa x21.2)⟩)) 3 (some ⟨b3,(aJ x6.1)⟩)) 2 (some ⟨b2,[(ac 0),(ac 0),(.str [])]⟩),fun _=>none⟩) (Gh.le (av _ _) (ab rfl (cX.r) (ab rfl (cX.r) (ab rfl (cX.r) ao))) am) ?_;refine aC tk rfl (af ?_);refine bj rfl H (fun H=>?_) (fun H=>?_)
 ·refine ak (ae (aC tk rfl ?_))
  obtain⟨y23,h23,X23,H⟩:=aX H
  have s23:=cU b_rA x21.2 _ h23;refine aH Tryz.call93 [(1500,1500)] [] s23 (X23 _) ?_;rintro u23 H23h hR23
  obtain⟨x23,⟨rfl,rfl⟩,H⟩:=H _ _ _ hR23
  refine⟨_,rfl,?_⟩
  refine aE (st':=⟨_,_,upd (upd (upd (fun _=>none) 1500 (some ⟨b_rA,(aa x23.2)⟩)) 3 (some ⟨b3,(aJ x6.1)⟩)) 2 (some ⟨b2,[(ac 0),(ac 0),(.str [])]⟩),fun _=>none⟩) (Gh.le (av _ _) (ab rfl (cX.r) (ab rfl (cX.r) (ab rfl (cX.r) ao))) am) ?_;refine aC tk rfl (af (ak (bE 2 tk rfl ?_)));refine bj rfl H (fun H=>?_) (fun H=>?_)
  ·refine ak (ae (aA 3 tk rfl (aw tk ?_)));refine aA 3 tk rfl (ap tk ?_);refine af (ae (aC tk rfl ?_))
   obtain⟨y34,h34,X34,H⟩:=aX H
   have s34:=bn b_rA (LQueryparserParser.mk x23.2.tokens (IntKind.i64.wrap (x23.2.next-(1:Int))) x23.2.size) _ h34;refine aH Tryz.call56 [(1500,1500)] [] s34 (X34 _) ?_;rintro u34 H34h hR34
   obtain⟨x34,⟨rfl,rfl⟩,H⟩:=H _ _ _ hR34
   refine⟨_,rfl,?_⟩
   refine aE (st':=⟨_,_,upd (upd (upd (fun _=>none) 1500 (some ⟨b_rA,(aa x34)⟩)) 3 (some ⟨b3,(aJ x6.1)⟩)) 2 (some ⟨b2,[(ac 0),(ac 0),(.str [])]⟩),fun _=>none⟩) (Gh.le (av _ _) (ab rfl (cX.r) (ab rfl (cX.r) (ab rfl (cX.r) ao))) am) ?_;refine af (ak (ae (aA 2 tk rfl ?_)))
   obtain⟨x37,h37,H⟩:=ed H
   have s37:=jE (IntKind.i64.wrap (0-x23.1));rw[h37]at s37;refine bs Tryz.call173 (cX.r) s37 ?_;refine ap tk ?_;refine af ?_;obtain rfl:=aF H;refine be (st':=⟨55,upd (fun _=>.any) 2 (.box 2 b2 0),upd (upd (fun _=>none) 1500 (some ⟨b_rA,(aa x34)⟩)) 2 (some ⟨b2,(dT x37)⟩),fun _=>none⟩) (Gh.le (bg aO) (ab rfl (cX.r) (ab rfl (cX.r) ao)) am) ?_;refine bS tk rfl (ps:=[(.agg (dT x37))]) ⟨_,_,rfl,⟨_,_,_,_,_,rfl,rfl,rfl,rfl⟩,rfl⟩ (PLe.q rfl) (HSub.updB rfl) ⟨rfl,rfl⟩
  refine bc (ak (ae (aA 2 tk rfl ?_)))
  obtain⟨x37,h37,H⟩:=ed H
  have s37:=jE (IntKind.i64.wrap (0-x23.1));rw[h37]at s37;refine bs Tryz.call173 (cX.r) s37 ?_;refine ap tk ?_;refine af ?_;obtain rfl:=aF H;refine be (st':=⟨55,upd (fun _=>.any) 2 (.box 2 b2 0),upd (upd (fun _=>none) 1500 (some ⟨b_rA,(aa x23.2)⟩)) 2 (some ⟨b2,(dT x37)⟩),fun _=>none⟩) (Gh.le (bg aO) (ab rfl (cX.r) (ab rfl (cX.r) ao)) am) ?_;refine bS tk rfl (ps:=[(.agg (dT x37))]) ⟨_,_,rfl,⟨_,_,_,_,_,rfl,rfl,rfl,rfl⟩,rfl⟩ (PLe.q rfl) (HSub.updB rfl) ⟨rfl,rfl⟩
 refine ak (ae (aC tk rfl (aw tk ?_)));refine aA 2 tk rfl (af ?_);refine bj rfl H (fun H=>?_) (fun H=>?_)
 ·refine ak (ae (aA 3 tk rfl (aw tk ?_)));refine aA 3 tk rfl (ap tk ?_);refine af (ak (ae (aC tk rfl (aw tk ?_))));refine aC tk rfl (ap tk ?_);refine af ?_;obtain rfl:=aF H;refine be (st':=⟨55,upd (fun _=>.any) 2 (.box 2 b2 0),upd (upd (fun _=>none) 1500 (some ⟨b_rA,(aa (LQueryparserParser.mk x21.2.tokens (IntKind.i64.wrap (x21.2.next+(1:Int))) x21.2.size))⟩)) 2 (some ⟨b2,[(ac 3),(ac 0),(.str x6.1.text)]⟩),fun _=>none⟩) (Gh.le (bg aO) (ab rfl (cX.r) (ab rfl (cX.r) ao)) am) ?_;refine bS tk rfl (ps:=[(.agg [(ac 3),(ac 0),(.str x6.1.text)])]) ⟨_,_,rfl,⟨_,_,_,_,_,rfl,rfl,rfl,rfl⟩,rfl⟩ (PLe.q rfl) (HSub.updB rfl) ⟨rfl,rfl⟩
 refine bc (cn (ak (ae (aC tk rfl ?_))))
 obtain⟨y53,h53,X53,H⟩:=aX H
 have s53:=cU b_rA x21.2 _ h53;refine aH Tryz.call93 [(1500,1500)] [] s53 (X53 _) ?_;rintro u53 H53h hR53
 obtain⟨x53,⟨rfl,rfl⟩,H⟩:=H _ _ _ hR53
 refine⟨_,rfl,?_⟩
 refine aE (st':=⟨_,_,upd (upd (upd (fun _=>none) 1500 (some ⟨b_rA,(aa x53.2)⟩)) 3 (some ⟨b3,(aJ x6.1)⟩)) 2 (some ⟨b2,[(ac 0),(ac 0),(.str [])]⟩),fun _=>none⟩) (Gh.le (av _ _) (ab rfl (cX.r) (ab rfl (cX.r) (ab rfl (cX.r) ao))) am) ?_
 obtain⟨x54,h54,H⟩:=ed H
 have s54:=jE x53.1;rw[h54]at s54;refine bs Tryz.call173 (cX.r) s54 ?_;refine ap tk ?_;refine af ?_;obtain rfl:=aF H;refine be (st':=⟨55,upd (fun _=>.any) 2 (.box 2 b2 0),upd (upd (fun _=>none) 1500 (some ⟨b_rA,(aa x53.2)⟩)) 2 (some ⟨b2,(dT x54)⟩),fun _=>none⟩) (Gh.le (bg aO) (ab rfl (cX.r) (ab rfl (cX.r) ao)) am) ?_;refine bS tk rfl (ps:=[(.agg (dT x54))]) ⟨_,_,rfl,⟨_,_,_,_,_,rfl,rfl,rfl,rfl⟩,rfl⟩ (PLe.q rfl) (HSub.updB rfl) ⟨rfl,rfl⟩
def bW(sA:List UInt8):Option ((List LLexerToken)×Int×Int):=
 cond (decide ((sA.length:Int)>(4000:Int)))
  (some ([],0,2))
  (ar (cR (σ:=List LLexerToken×Int) (ρ:=((List LLexerToken)×Int×Int)) (fun(s1:List LLexerToken×Int)=>
   cond (decide (s1.2<(sA.length:Int)))
    (ar (
     ar (bO sA s1.2) fun(x19:UInt8)=>
     cond ((x19.toNat:Int)==(32:Int))
      (some true)
      (ar (bO sA s1.2) fun(x24:UInt8)=>
      some ((x24.toNat:Int)==(10:Int)))) fun(t4:Bool)=>
    cond t4
     (some (.next (s1.1,(IntKind.i64.wrap (s1.2+(1:Int))))))
     (ar (dJ sA s1.2 (sA.length:Int)) fun(x32:List UInt8)=>
     ar (eO x32) fun x33=>
     cond (!x33.2.2)
      (some (.ret ([],s1.2,22)))
      (ar (ec 40 s1.1 ([(LLexerToken.mk x33.1.kind x33.1.text x33.1.number s1.2)]:List LLexerToken)) fun(x45:List LLexerToken)=>
      some (.next (x45,(IntKind.i64.wrap (s1.2+x33.2.1)))))))
    (some (.brk (s1.1,s1.2)))) ([],0)) fun fl1=>fl1.thenR fun(s1:List LLexerToken×Int)=>
  some (s1.1,0,0))
theorem ix(sA:List UInt8)(r:(List LLexerToken)×Int×Int)(H:bW sA=some r):
  da Tryz.prog 8 [(.str sA)] (.tup [(.list 76 (r.1.map aJ)),(ac r.2.1),(ac r.2.2)]):=by
 unfold bW at H;refine PH.cd Tryz.func8 Tryz.ntmps8 ?_;refine bE 3 tk rfl (ak (bE 3 tk rfl ?_));refine bj rfl H (fun H=>?_) (fun H=>?_)
 ·refine bE 3 tk rfl ?_;obtain rfl:=aF H;refine cB tk rfl (ps:=[(.val (.slice none 0 0)),(ac 0),(ac 2)]) ⟨_,_,rfl,rfl,_,_,rfl,rfl,_,_,rfl,rfl,rfl⟩ (PLe.of2 (gN.tup (dC.cons (gN.nil tk rfl) (dC.cons (gN.of_eq rfl) (dC.cons (gN.of_eq rfl) dC.nil)))))
 refine bc (bE 1 tk rfl (ak (bE 1 tk rfl ?_)))
 obtain⟨fl1,H1,Hp1⟩:=aM H
 refine ef (τ:=List LLexerToken×Int) (γ:=OwnRef) (fun s1 g1=>⟨50,upd (fun _=>.any) 5 (.own 45 g1 (s1.1.map aJ).length),fun _=>none,upd (fun _=>none) 45 (some ⟨g1,76,(s1.1.map aJ),true⟩)⟩) (fun t=>fl1= .next t) ?_ (fun s1 g1 hn1=>?_)
 ·refine bt (V.nilO tk 5 45 (e:=76) rfl rfl ?_);refine eF (fun s1 g1=>⟨50,upd (upd (upd (fun _=>.any) 6 (ac s1.2)) 5 (.own 45 g1 (s1.1.map aJ).length)) 0 (.str sA),fun _=>none,upd (fun _=>none) 45 (some ⟨g1,76,(s1.1.map aJ),true⟩)⟩) (⟨none,0⟩) H1 Gh.d (fun m1 s1 g1 hr1=>?_)
  obtain⟨fb1,H,hg1⟩:=dI hr1
  refine ak (bE 4 tk rfl ?_);refine bj rfl H (fun H=>?_) (fun H=>?_)
  ·refine bc (bt (ak (ak ?_)));refine ld (γ:=Unit) (fun t4 g4=>⟨50,upd (upd (upd (upd (fun _=>.any) 26 (bG t4)) 6 (ac s1.2)) 5 (.own 45 g1 (s1.1.map aJ).length)) 0 (.str sA),fun _=>none,upd (fun _=>none) 45 (some ⟨g1,76,(s1.1.map aJ),true⟩)⟩) H (fun _ H=>?_) (fun t4 g4 H=>?_)
   ·refine ae (aA 2 tk rfl ?_)
    obtain⟨x19,k19,H⟩:=eH H
    refine dZ tk k19.1 k19.2 ?_;refine aA 2 tk rfl ?_;refine dy rfl rfl rfl H (fun H=>?_) (fun H=>?_)
    ·refine aA 5 tk rfl (af ?_);refine cb _ () (aF H) Gh.d
    refine aA 2 tk rfl ?_
    obtain⟨x24,k24,H⟩:=eH H
    refine dZ tk k24.1 k24.2 ?_;refine aA 2 tk rfl (af ?_);refine cb _ () (aF H) Gh.d
   refine bj rfl H (fun H=>?_) (fun H=>?_)
   ·refine bE 3 tk rfl (dB rfl ?_);obtain rfl:=aF H;refine dE (s1.1,(IntKind.i64.wrap (s1.2+(1:Int)))) g1 hg1 Gh.d
   refine bc (ak (ae (aA 2 tk rfl ?_)))
   obtain⟨x32,h32,H⟩:=aM H
   have k32:=dV h32;refine ig tk rfl rfl rfl rfl rfl rfl rfl k32.1 k32.2 rfl ?_
   obtain⟨x33,h33,H⟩:=aM H
   have s33:=W_lexer_one x32 _ h33;refine bs Tryz.call24 (cX.r) s33 ?_;refine aA 4 tk rfl ?_;refine aV tk fun b7=>?_
   refine ap tk ?_;refine aA 2 tk rfl (af (ak (bE 2 tk rfl ?_)));refine bj rfl H (fun H=>?_) (fun H=>?_)
   ·refine bE 4 tk rfl ?_;obtain rfl:=aF H;have e1:fl1= .ret _:=hg1;subst e1;obtain rfl:=eB Hp1;refine cB tk rfl (ps:=[(.val (.slice none 0 0)),(ac s1.2),(ac 22)]) ⟨_,_,rfl,rfl,_,_,rfl,rfl,_,_,rfl,rfl,rfl⟩ (PLe.of2 (gN.tup (dC.cons (gN.nil tk rfl) (dC.cons (gN.of_eq rfl) (dC.cons (gN.of_eq rfl) dC.nil)))))
   refine bc (ak (ae (aA 2 tk rfl (ap tk ?_))));refine af (ak (ae (aC tk rfl (aw tk ?_))));refine je tk (rows':=List.map aJ ([(LLexerToken.mk x33.1.kind x33.1.text x33.1.number s1.2)]:List LLexerToken)) rfl (cS.refl _) ?_
   obtain⟨x45,h45,H⟩:=aM H
   have k45:=dW h45;refine lq (rows2':=List.map aJ ([(LLexerToken.mk x33.1.kind x33.1.text x33.1.number s1.2)]:List LLexerToken)) (rows':=List.map aJ x45) tk rfl rfl rfl rfl rfl rfl rfl rfl rfl rfl rfl rfl rfl (cS.refl _) (fj k45.1) (fa k45.2.1) (fh k45.2.2) fun g45=>?_
   refine aC tk rfl (af (gT 4 tk rfl (cn ?_)));obtain rfl:=aF H;refine dE (x45,(IntKind.i64.wrap (s1.2+x33.2.1))) g45 hg1 Gh.d
  refine dB rfl ?_;obtain rfl:=aF H;refine cb (s1.1,s1.2) g1 hg1 Gh.d
 have H:=du hn1 Hp1;refine bE 4 tk rfl (lu 2 rfl rfl rfl ?_);exact im tk H rfl
def cF(_rec85:LQueryparserParser→Option (Except Int (LExpr×LQueryparserParser)))(rec132:LQueryparserParser→Option (Except Int (LExpr×LQueryparserParser)))(rA:LQueryparserParser):Option (Except Int (LExpr×LQueryparserParser)):=
 ar (bi rA) fun x5=>
 cond (x5.1.kind==(1:Int))
  (some (.ok ((LExpr.mk 2 x5.1.text 0 (LVal.mk 0 0 []) []),(LQueryparserParser.mk x5.2.tokens (IntKind.i64.wrap (x5.2.next+(1:Int))) x5.2.size))))
  (cond (x5.1.kind==(6:Int))
   (ar (idx1 ([63,105,98,116]:List UInt8) x5.1.text) fun x35=>
   some (.ok ((LExpr.mk 3 [] x5.1.number (LVal.mk x35 0 []) []),(LQueryparserParser.mk x5.2.tokens (IntKind.i64.wrap (x5.2.next+(1:Int))) x5.2.size))))
   (ar (ah x5.2 ([36]:List UInt8)) fun x40=>
   cond x40.1
    (aT (aU x40.2) fun x42=>
    some (.ok ((LExpr.mk 4 x42.1 0 (LVal.mk 0 0 []) []),x42.2)))
    (ar (ah x40.2 ([40]:List UInt8)) fun x46=>
    cond x46.1
     (aT (rec132 x46.2) fun x48=>
     some (.ok (x48.1,x48.2)))
     (aT (cC x46.2) fun x50=>
     some (.ok ((LExpr.mk 1 [] 0 x50.1 []),x50.2))))))
theorem gL(b_rA:Nat)(rec85:LQueryparserParser→Option (Except Int (LExpr×LQueryparserParser)))(rec132:LQueryparserParser→Option (Except Int (LExpr×LQueryparserParser)))(_hrec85:∀bb0 a0 r,rec85 a0=some r→aP Tryz.prog 85 [(.box 1500 bb0 0)] ⟨upd (fun _=>none) 1500 (some ⟨bb0,(aa a0)⟩),fun _=>none⟩ (RX r (fun rv u H=>u=(.agg (bM rv.1))∧H=⟨upd (fun _=>none) 1500 (some ⟨bb0,(aa rv.2)⟩),fun _=>none⟩)) (PX 106 r))(hrec132:∀bb0 a0 r,rec132 a0=some r→aP Tryz.prog 132 [(.box 1500 bb0 0)] ⟨upd (fun _=>none) 1500 (some ⟨bb0,(aa a0)⟩),fun _=>none⟩ (RX r (fun rv u H=>u=(.agg (bM rv.1))∧H=⟨upd (fun _=>none) 1500 (some ⟨bb0,(aa rv.2)⟩),fun _=>none⟩)) (PX 106 r))(rA:LQueryparserParser)(r:Except Int (LExpr×LQueryparserParser))(H:cF rec85 rec132 rA=some r):
  aP Tryz.prog 85 [(.box 1500 b_rA 0)] ⟨upd (fun _=>none) 1500 (some ⟨b_rA,(aa rA)⟩),fun _=>none⟩ (RX r (fun rv u H=>u=(.agg (bM rv.1))∧H=⟨upd (fun _=>none) 1500 (some ⟨b_rA,(aa rv.2)⟩),fun _=>none⟩)) (PX 106 r):=by
 unfold cF at H;refine aP.intro Tryz.func85 rfl Tryz.ntmps85 rfl ?_;refine ak (ae ?_);refine aV tk fun b2=>?_
 refine af (ak (ae (aC tk rfl ?_)))
 obtain⟨x5,h5,H⟩:=aM H
 have s5:=bX b_rA rA _ h5;refine bf (g:=84) rfl rfl rfl Tryz.call84 [(1500,1500)] [] rfl rfl rfl rfl (cX.of2 (dC.cons gN.boxT dC.nil)) (by rw[aN,aR,aS];rfl) s5 ?_;rintro u5 H5h ⟨rfl,rfl⟩
 refine⟨_,rfl,?_⟩
 refine aE (st':=⟨_,_,upd (upd (fun _=>none) 1500 (some ⟨b_rA,(aa x5.2)⟩)) 2 (some ⟨b2,[(ac 0),(.str []),(ac 0),(ac 0),(ac 0),(.str []),(.val (.slice none 0 0))]⟩),fun _=>none⟩) (Gh.le (av _ _) (ab rfl (cX.r) (ab rfl (cX.r) ao)) am) ?_;refine aV tk fun b3=>?_
 refine ap tk ?_;refine af (ak (bt (ak (ae (aC tk rfl (aw tk ?_))))));refine aA 2 tk rfl (af ?_);refine bj rfl H (fun H=>?_) (fun H=>?_)
 ·refine ak (ae (aA 3 tk rfl (aw tk ?_)));refine aA 3 tk rfl (ap tk ?_);refine af (ak (ae (aC tk rfl (aw tk ?_))));refine aC tk rfl (ap tk ?_);refine af ?_;obtain rfl:=aF H;refine be (st':=⟨52,upd (fun _=>.any) 2 (.box 2 b2 0),upd (upd (fun _=>none) 1500 (some ⟨b_rA,(aa (LQueryparserParser.mk x5.2.tokens (IntKind.i64.wrap (x5.2.next+(1:Int))) x5.2.size))⟩)) 2 (some ⟨b2,[(ac 2),(.str x5.1.text),(ac 0),(ac 0),(ac 0),(.str []),(.val (.slice none 0 0))]⟩),fun _=>none⟩) (Gh.le (bg aO) (ab rfl (cX.r) (ab rfl (cX.r) ao)) am) ?_;refine bS tk rfl (ps:=[(.agg [(ac 2),(.str x5.1.text),(ac 0),(ac 0),(ac 0),(.str []),(.val (.slice none 0 0))])]) ⟨_,_,rfl,⟨_,_,_,_,_,rfl,rfl,rfl,rfl⟩,rfl⟩ (PLe.of2 (gN.agg (dC.cons (gN.of_eq rfl) (dC.cons (gN.of_eq rfl) (dC.cons (gN.of_eq rfl) (dC.cons (gN.of_eq rfl) (dC.cons (gN.of_eq rfl) (dC.cons (gN.of_eq rfl) (dC.cons (gN.nil tk rfl) dC.nil))))))))) (HSub.updB rfl) ⟨rfl,rfl⟩
 refine ak (ae (aC tk rfl (aw tk ?_)));refine aA 2 tk rfl (af ?_);refine bj rfl H (fun H=>?_) (fun H=>?_)
 ·refine ak (ae (aA 3 tk rfl (aw tk ?_)));refine aA 3 tk rfl (ap tk ?_);refine af (ak (iK 3 rfl rfl rfl rfl (dz tk mok ⟨false,false,[]⟩ [0,1,2,3,4,5,6,7] rfl (by decide+kernel) rfl (cm 4 rfl ?_))))
  obtain⟨x35,h35,H⟩:=aM H
  have s35:=W_idx1 ([63,105,98,116]:List UInt8) x5.1.text _ h35;refine fw (g:=131) rfl rfl rfl rfl Tryz.call131 (cX.r) s35 rfl (cm 2 rfl (eD rfl rfl rfl rfl rfl rfl rfl rfl rfl rfl rfl rfl (cQ ?_)));obtain rfl:=aF H;refine be (st':=⟨52,upd (fun _=>.any) 2 (.box 2 b2 0),upd (upd (fun _=>none) 1500 (some ⟨b_rA,(aa (LQueryparserParser.mk x5.2.tokens (IntKind.i64.wrap (x5.2.next+(1:Int))) x5.2.size))⟩)) 2 (some ⟨b2,[(ac 3),(.str []),(ac x5.1.number),(ac x35),(ac 0),(.str []),(.val (.slice none 0 0))]⟩),fun _=>none⟩) (Gh.le (bg aO) (ab rfl (cX.r) (ab rfl (cX.r) ao)) am) ?_;refine bS tk rfl (ps:=[(.agg [(ac 3),(.str []),(ac x5.1.number),(ac x35),(ac 0),(.str []),(.val (.slice none 0 0))])]) ⟨_,_,rfl,⟨_,_,_,_,_,rfl,rfl,rfl,rfl⟩,rfl⟩ (PLe.of2 (gN.agg (dC.cons (gN.of_eq rfl) (dC.cons (gN.of_eq rfl) (dC.cons (gN.of_eq rfl) (dC.cons (gN.of_eq rfl) (dC.cons (gN.of_eq rfl) (dC.cons (gN.of_eq rfl) (dC.cons (gN.nil tk rfl) dC.nil))))))))) (HSub.updB rfl) ⟨rfl,rfl⟩
 refine ak (ae (aC tk rfl ?_))
 obtain⟨x40,h40,H⟩:=aM H
 have s40:=az b_rA x5.2 ([36]:List UInt8) _ h40;refine bf (g:=52) rfl rfl rfl Tryz.call52 [(1500,1500)] [] rfl rfl rfl rfl (cX.of2 (dC.cons gN.boxT (dC.cons (gN.of_eq rfl) dC.nil))) (by rw[aN,aR,aS];rfl) s40 ?_;rintro u40 H40h ⟨rfl,rfl⟩
 refine⟨_,rfl,?_⟩
 refine aE (st':=⟨_,_,upd (upd (upd (fun _=>none) 1500 (some ⟨b_rA,(aa x40.2)⟩)) 3 (some ⟨b3,(aJ x5.1)⟩)) 2 (some ⟨b2,[(ac 0),(.str []),(ac 0),(ac 0),(ac 0),(.str []),(.val (.slice none 0 0))]⟩),fun _=>none⟩) (Gh.le (av _ _) (ab rfl (cX.r) (ab rfl (cX.r) (ab rfl (cX.r) ao))) am) ?_;refine aC tk rfl (af ?_);refine bj rfl H (fun H=>?_) (fun H=>?_)
 ·refine ak (ae (aC tk rfl ?_))
  obtain⟨y42,h42,X42,H⟩:=aX H
  have s42:=bQ b_rA x40.2 _ h42;refine aH Tryz.call54 [(1500,1500)] [] s42 (X42 _) ?_;rintro u42 H42h hR42
  obtain⟨x42,⟨rfl,rfl⟩,H⟩:=H _ _ _ hR42
  refine⟨_,rfl,?_⟩
  refine aE (st':=⟨_,_,upd (upd (upd (fun _=>none) 1500 (some ⟨b_rA,(aa x42.2)⟩)) 3 (some ⟨b3,(aJ x5.1)⟩)) 2 (some ⟨b2,[(ac 0),(.str []),(ac 0),(ac 0),(ac 0),(.str []),(.val (.slice none 0 0))]⟩),fun _=>none⟩) (Gh.le (av _ _) (ab rfl (cX.r) (ab rfl (cX.r) (ab rfl (cX.r) ao))) am) ?_;refine aC tk rfl (ap tk ?_);refine af ?_;obtain rfl:=aF H;refine be (st':=⟨52,upd (fun _=>.any) 2 (.box 2 b2 0),upd (upd (fun _=>none) 1500 (some ⟨b_rA,(aa x42.2)⟩)) 2 (some ⟨b2,[(ac 4),(.str x42.1),(ac 0),(ac 0),(ac 0),(.str []),(.val (.slice none 0 0))]⟩),fun _=>none⟩) (Gh.le (bg aO) (ab rfl (cX.r) (ab rfl (cX.r) ao)) am) ?_;refine bS tk rfl (ps:=[(.agg [(ac 4),(.str x42.1),(ac 0),(ac 0),(ac 0),(.str []),(.val (.slice none 0 0))])]) ⟨_,_,rfl,⟨_,_,_,_,_,rfl,rfl,rfl,rfl⟩,rfl⟩ (PLe.of2 (gN.agg (dC.cons (gN.of_eq rfl) (dC.cons (gN.of_eq rfl) (dC.cons (gN.of_eq rfl) (dC.cons (gN.of_eq rfl) (dC.cons (gN.of_eq rfl) (dC.cons (gN.of_eq rfl) (dC.cons (gN.nil tk rfl) dC.nil))))))))) (HSub.updB rfl) ⟨rfl,rfl⟩
 refine ak (ae (aC tk rfl ?_))
 obtain⟨x46,h46,H⟩:=aM H
 have s46:=az b_rA x40.2 ([40]:List UInt8) _ h46;refine bf (g:=52) rfl rfl rfl Tryz.call52 [(1500,1500)] [] rfl rfl rfl rfl (cX.of2 (dC.cons gN.boxT (dC.cons (gN.of_eq rfl) dC.nil))) (by rw[aN,aR,aS];rfl) s46 ?_;rintro u46 H46h ⟨rfl,rfl⟩
 refine⟨_,rfl,?_⟩
 refine aE (st':=⟨_,_,upd (upd (upd (fun _=>none) 1500 (some ⟨b_rA,(aa x46.2)⟩)) 3 (some ⟨b3,(aJ x5.1)⟩)) 2 (some ⟨b2,[(ac 0),(.str []),(ac 0),(ac 0),(ac 0),(.str []),(.val (.slice none 0 0))]⟩),fun _=>none⟩) (Gh.le (av _ _) (ab rfl (cX.r) (ab rfl (cX.r) (ab rfl (cX.r) ao))) am) ?_;refine aC tk rfl (af ?_);refine bj rfl H (fun H=>?_) (fun H=>?_)
 ·refine ak (ae (aC tk rfl ?_))
  obtain⟨y48,h48,X48,H⟩:=aX H
  have s48:=hrec132 b_rA x46.2 _ h48;refine aH Tryz.call132 [(1500,1500)] [] s48 (X48 _) ?_;rintro u48 H48h hR48
  obtain⟨x48,⟨rfl,rfl⟩,H⟩:=H _ _ _ hR48
  refine⟨_,rfl,?_⟩
  refine aE (st':=⟨_,_,upd (upd (upd (fun _=>none) 1500 (some ⟨b_rA,(aa x48.2)⟩)) 3 (some ⟨b3,(aJ x5.1)⟩)) 2 (some ⟨b2,[(ac 0),(.str []),(ac 0),(ac 0),(ac 0),(.str []),(.val (.slice none 0 0))]⟩),fun _=>none⟩) (Gh.le (av _ _) (ab rfl (cX.r) (ab rfl (cX.r) (ab rfl (cX.r) ao))) am) ?_;refine ap tk ?_;refine af ?_;obtain rfl:=aF H;refine be (st':=⟨52,upd (fun _=>.any) 2 (.box 2 b2 0),upd (upd (fun _=>none) 1500 (some ⟨b_rA,(aa x48.2)⟩)) 2 (some ⟨b2,(bM x48.1)⟩),fun _=>none⟩) (Gh.le (bg aO) (ab rfl (cX.r) (ab rfl (cX.r) ao)) am) ?_;refine bS tk rfl (ps:=[(.agg (bM x48.1))]) ⟨_,_,rfl,⟨_,_,_,_,_,rfl,rfl,rfl,rfl⟩,rfl⟩ (PLe.q rfl) (HSub.updB rfl) ⟨rfl,rfl⟩
 refine bc (cn (ak (ae (aC tk rfl ?_))))
 obtain⟨y50,h50,X50,H⟩:=aX H
 have s50:=gR b_rA x46.2 _ h50;refine aH Tryz.call133 [(1500,1500)] [] s50 (X50 _) ?_;rintro u50 H50h hR50
 obtain⟨x50,⟨rfl,rfl⟩,H⟩:=H _ _ _ hR50
 refine⟨_,rfl,?_⟩
 refine aE (st':=⟨_,_,upd (upd (upd (fun _=>none) 1500 (some ⟨b_rA,(aa x50.2)⟩)) 3 (some ⟨b3,(aJ x5.1)⟩)) 2 (some ⟨b2,[(ac 0),(.str []),(ac 0),(ac 0),(ac 0),(.str []),(.val (.slice none 0 0))]⟩),fun _=>none⟩) (Gh.le (av _ _) (ab rfl (cX.r) (ab rfl (cX.r) (ab rfl (cX.r) ao))) am) ?_;refine aC tk rfl (ap tk ?_);refine af ?_;obtain rfl:=aF H;refine be (st':=⟨52,upd (fun _=>.any) 2 (.box 2 b2 0),upd (upd (fun _=>none) 1500 (some ⟨b_rA,(aa x50.2)⟩)) 2 (some ⟨b2,[(ac 1),(.str []),(ac 0),(ac x50.1.kind),(ac x50.1.int),(.str x50.1.text),(.val (.slice none 0 0))]⟩),fun _=>none⟩) (Gh.le (bg aO) (ab rfl (cX.r) (ab rfl (cX.r) ao)) am) ?_;refine bS tk rfl (ps:=[(.agg [(ac 1),(.str []),(ac 0),(ac x50.1.kind),(ac x50.1.int),(.str x50.1.text),(.val (.slice none 0 0))])]) ⟨_,_,rfl,⟨_,_,_,_,_,rfl,rfl,rfl,rfl⟩,rfl⟩ (PLe.of2 (gN.agg (dC.cons (gN.of_eq rfl) (dC.cons (gN.of_eq rfl) (dC.cons (gN.of_eq rfl) (dC.cons (gN.of_eq rfl) (dC.cons (gN.of_eq rfl) (dC.cons (gN.of_eq rfl) (dC.cons (gN.nil tk rfl) dC.nil))))))))) (HSub.updB rfl) ⟨rfl,rfl⟩
def cj(rec85:LQueryparserParser→Option (Except Int (LExpr×LQueryparserParser)))(_rec132:LQueryparserParser→Option (Except Int (LExpr×LQueryparserParser)))(rA:LQueryparserParser):Option (Except Int (LExpr×LQueryparserParser)):=
 ar (fM (([[110,111,116],[108,101,110,103,116,104]]:List (List UInt8)).length:Int)) fun(n1:Nat)=>
 ar (bJ (σ:=LQueryparserParser) (ρ:=(Except Int (LExpr×LQueryparserParser))) (fun(j1:Nat) (_:Nat) (s1:LQueryparserParser)=>
  ar (bO ([[110,111,116],[108,101,110,103,116,104]]:List (List UInt8)) (j1:Int)) fun(x18:List UInt8)=>
  ar (ah s1 x18) fun x22=>
  cond x22.1
   (ci (rec85 x22.2) fun x26=>
   cx (br x18 ([x26.1]:List LExpr)) fun x28=>
   ci (aD x26.2 ([41]:List UInt8)) fun x30=>
   some (.ret (.ok (x28,x30))))
   (some (.next x22.2))) 0 (List.range n1) rA) fun fl1=>fl1.thenR fun(s1:LQueryparserParser)=>
 ar (ah s1 ([105,102]:List UInt8)) fun x34=>
 cond x34.1
  (aT (rec85 x34.2) fun x36=>
  aT (aD x36.2 ([116,104,101,110]:List UInt8)) fun x38=>
  aT (rec85 x38) fun x40=>
  aT (aD x40.2 ([101,108,115,101]:List UInt8)) fun x42=>
  aT (rec85 x42) fun x47=>
  cx (br ([105,102]:List UInt8) ([x36.1,x40.1,x47.1]:List LExpr)) fun x49=>
  aT (aD x47.2 ([41]:List UInt8)) fun x51=>
  some (.ok (x49,x51)))
  (aT (rec85 x34.2) fun x54=>
  ar (ah x54.2 ([105,115]:List UInt8)) fun x56=>
  cond x56.1
   (aT (aD x56.2 ([110,117,108,108]:List UInt8)) fun x58=>
   aT (aD x58 ([41]:List UInt8)) fun x60=>
   cx (br ([105,115,32,110,117,108,108]:List UInt8) ([x54.1]:List LExpr)) fun x64=>
   some (.ok (x64,x60)))
   (ar (fM (([[43],[45],[42],[61],[60,61],[60],[97,110,100],[111,114],[124,124]]:List (List UInt8)).length:Int)) fun(n2:Nat)=>
   ar (bJ (σ:=LQueryparserParser) (ρ:=(Except Int (LExpr×LQueryparserParser))) (fun(j2:Nat) (_:Nat) (s2:LQueryparserParser)=>
    ar (bO ([[43],[45],[42],[61],[60,61],[60],[97,110,100],[111,114],[124,124]]:List (List UInt8)) (j2:Int)) fun(x69:List UInt8)=>
    ar (ah s2 x69) fun x73=>
    cond x73.1
     (ci (rec85 x73.2) fun x78=>
     cx (br x69 ([x54.1,x78.1]:List LExpr)) fun x80=>
     ci (aD x78.2 ([41]:List UInt8)) fun x82=>
     some (.ret (.ok (x80,x82))))
     (some (.next x73.2))) 0 (List.range n2) x56.2) fun fl2=>fl2.thenR fun(s2:LQueryparserParser)=>
   aT (aI s2) fun x86=>
   some (.ok (x54.1,x86))))
theorem fW(b_rA:Nat)(rec85:LQueryparserParser→Option (Except Int (LExpr×LQueryparserParser)))(rec132:LQueryparserParser→Option (Except Int (LExpr×LQueryparserParser)))(hrec85:∀bb0 a0 r,rec85 a0=some r→aP Tryz.prog 85 [(.box 1500 bb0 0)] ⟨upd (fun _=>none) 1500 (some ⟨bb0,(aa a0)⟩),fun _=>none⟩ (RX r (fun rv u H=>u=(.agg (bM rv.1))∧H=⟨upd (fun _=>none) 1500 (some ⟨bb0,(aa rv.2)⟩),fun _=>none⟩)) (PX 106 r))(_hrec132:∀bb0 a0 r,rec132 a0=some r→aP Tryz.prog 132 [(.box 1500 bb0 0)] ⟨upd (fun _=>none) 1500 (some ⟨bb0,(aa a0)⟩),fun _=>none⟩ (RX r (fun rv u H=>u=(.agg (bM rv.1))∧H=⟨upd (fun _=>none) 1500 (some ⟨bb0,(aa rv.2)⟩),fun _=>none⟩)) (PX 106 r))(rA:LQueryparserParser)(r:Except Int (LExpr×LQueryparserParser))(H:cj rec85 rec132 rA=some r):
  aP Tryz.prog 132 [(.box 1500 b_rA 0)] ⟨upd (fun _=>none) 1500 (some ⟨b_rA,(aa rA)⟩),fun _=>none⟩ (RX r (fun rv u H=>u=(.agg (bM rv.1))∧H=⟨upd (fun _=>none) 1500 (some ⟨b_rA,(aa rv.2)⟩),fun _=>none⟩)) (PX 106 r):=by
 unfold cj at H;refine aP.intro Tryz.func132 rfl Tryz.ntmps132 rfl ?_;refine ak (ae ?_);refine aV tk fun b2=>?_
 refine af (bE 1 tk rfl (ak (ak (ae (je tk (rows':=List.map aB ([[110,111,116],[108,101,110,103,116,104]]:List (List UInt8))) rfl (cS.refl _) ?_)))));refine iZ tk rfl rfl rfl rfl rfl (zl _) rfl (aC tk rfl (af ?_))
 obtain⟨n1,hs1,H⟩:=aM H
 have hz1:=iQ hs1
 obtain⟨fl1,H1,Hp1⟩:=aM H
 refine ef (τ:=LQueryparserParser) (γ:=Unit) (fun s1 g1=>⟨88,upd (upd (upd (fun _=>.any) 3 (.fn 171 [])) 2 (.box 2 b2 0)) 0 (.box 1500 b_rA 0),upd (upd (fun _=>none) 1500 (some ⟨b_rA,(aa s1)⟩)) 2 (some ⟨b2,[(ac 0),(.str []),(ac 0),(ac 0),(ac 0),(.str []),(.val (.slice none 0 0))]⟩),fun _=>none⟩) (fun t=>fl1= .next t) ?_ (fun s1 g1 hn1=>?_)
 ·refine bt ?_;refine jF (fun j1 s1 g1=>⟨88,upd (upd (upd (upd (upd (upd (fun _=>.any) 16 (ac (j1:Int))) 15 (ac (([[110,111,116],[108,101,110,103,116,104]]:List (List UInt8)).length:Int))) 14 (.list 9 (([[110,111,116],[108,101,110,103,116,104]]:List (List UInt8)).map aB))) 3 (.fn 171 [])) 2 (.box 2 b2 0)) 0 (.box 1500 b_rA 0),upd (upd (fun _=>none) 1500 (some ⟨b_rA,(aa s1)⟩)) 2 (some ⟨b2,[(ac 0),(.str []),(ac 0),(ac 0),(ac 0),(.str []),(.val (.slice none 0 0))]⟩),fun _=>none⟩) () H1 Gh.d (fun j1 s1 g1 hj1 hr1=>?_);refine bE 1 tk rfl (ak ?_);refine ik rfl (fun h=>?_) (fun h=>?_)
  ·have hl1:=natLt hz1 h
   obtain⟨x1,fb1,hx1,H,hg1⟩:=rMc hl1 hr1
   obtain rfl:=natX hx1;refine bc (ak (bt (ak (ae ?_))))
   obtain⟨x18,k18,H⟩:=eH H
   refine kQ tk rfl rfl rfl rfl rfl rfl k18.1 (jC (fun _=>rfl) k18.2) rfl ?_;refine aA 2 tk rfl (af (ak (ae (aA 2 tk rfl ?_))))
   obtain⟨x22,h22,H⟩:=aM H
   have s22:=az b_rA s1 x18 _ h22;refine bf (g:=52) rfl rfl rfl Tryz.call52 [(1500,1500)] [] rfl rfl rfl rfl (cX.of2 (dC.cons gN.boxT (dC.cons (gN.of_eq rfl) dC.nil))) (by rw[aN,aR,aS];rfl) s22 ?_;rintro u22 H22h ⟨rfl,rfl⟩
   refine⟨_,rfl,?_⟩
   refine aE (st':=⟨_,_,upd (upd (fun _=>none) 1500 (some ⟨b_rA,(aa x22.2)⟩)) 2 (some ⟨b2,[(ac 0),(.str []),(ac 0),(ac 0),(ac 0),(.str []),(.val (.slice none 0 0))]⟩),fun _=>none⟩) (Gh.le (av _ _) (ab rfl (cX.r) (ab rfl (cX.r) ao)) am) ?_;refine af ?_;refine bj rfl H (fun H=>?_) (fun H=>?_)
   ·refine ak (ae (aA 3 tk rfl ?_))
    obtain⟨y26,h26,X26,H⟩:=cV H
    have s26:=hrec85 b_rA x22.2 _ h26;refine aH Tryz.call85 [(1500,1500)] [] s26 (pxF (fun e he=>(lvR (X26 e he) hg1 Hp1)) _) ?_;rintro u26 H26h hR26
    obtain⟨x26,⟨rfl,rfl⟩,H⟩:=H _ _ _ hR26
    refine⟨_,rfl,?_⟩
    refine aE (st':=⟨_,_,upd (upd (fun _=>none) 1500 (some ⟨b_rA,(aa x26.2)⟩)) 2 (some ⟨b2,[(ac 0),(.str []),(ac 0),(ac 0),(ac 0),(.str []),(.val (.slice none 0 0))]⟩),fun _=>none⟩) (Gh.le (av _ _) (ab rfl (cX.r) (ab rfl (cX.r) ao)) am) ?_;refine je tk (rows':=List.map al ([x26.1]:List LExpr)) rfl (cS.trans (b:=List.map bM [x26.1]) (cS.refl _) (cS.of_eq (dl cO [x26.1]))) ?_
    obtain⟨x28,h28,H⟩:=ed H
    have s28:=cD x18 ([x26.1]:List LExpr);rw[h28]at s28;refine bs Tryz.call171 (cX.r) s28 ?_;refine aV tk fun b6=>?_
    refine ap tk ?_;refine af (ak (ae (aC tk rfl ?_)))
    obtain⟨y30,h30,X30,H⟩:=cV H
    have s30:=aK b_rA x26.2 ([41]:List UInt8) _ h30;refine aH Tryz.call53 [(1500,1500)] [] s30 (pxF (fun e he=>(lvR (X30 e he) hg1 Hp1)) _) ?_;rintro u30 H30h hR30
    obtain⟨x30,⟨rfl,rfl⟩,H⟩:=H _ _ _ hR30
    refine⟨_,rfl,?_⟩
    refine aE (st':=⟨_,_,upd (upd (upd (fun _=>none) 1500 (some ⟨b_rA,(aa x30)⟩)) 6 (some ⟨b6,(bM x28)⟩)) 2 (some ⟨b2,[(ac 0),(.str []),(ac 0),(ac 0),(ac 0),(.str []),(.val (.slice none 0 0))]⟩),fun _=>none⟩) (Gh.le (av _ _) (ab rfl (cX.r) (ab rfl (cX.r) (ab rfl (cX.r) ao))) am) ?_;refine af (ak (ae (aw tk ?_)));refine ap tk ?_;refine af ?_;obtain rfl:=aF H;have e1:fl1= .ret _:=hg1;subst e1;obtain rfl:=eB Hp1;refine be (st':=⟨88,upd (fun _=>.any) 2 (.box 2 b2 0),upd (upd (fun _=>none) 1500 (some ⟨b_rA,(aa x30)⟩)) 2 (some ⟨b2,(bM x28)⟩),fun _=>none⟩) (Gh.le (bg aO) (ab rfl (cX.r) (ab rfl (cX.r) ao)) am) ?_;refine bS tk rfl (ps:=[(.agg (bM x28))]) ⟨_,_,rfl,⟨_,_,_,_,_,rfl,rfl,rfl,rfl⟩,rfl⟩ (PLe.q rfl) (HSub.updB rfl) ⟨rfl,rfl⟩
   refine bc (cn (gT 2 tk rfl ?_));exact lb () H hl1 hg1 (Gh.le (bg (bg (bg (bg (bg (it (PLe.q (jo hz1 hl1)) aO)))))) (ab rfl (cX.r) (ab rfl (cX.r) ao)) am)
  have hn1:=rMd (natGe hz1 h) hr1;refine dB rfl ?_;refine cb s1 g1 hn1 Gh.d
 have H:=du hn1 Hp1;refine ak (ak (ae (aC tk rfl ?_)))
 obtain⟨x34,h34,H⟩:=aM H
 have s34:=az b_rA s1 ([105,102]:List UInt8) _ h34;refine bf (g:=52) rfl rfl rfl Tryz.call52 [(1500,1500)] [] rfl rfl rfl rfl (cX.of2 (dC.cons gN.boxT (dC.cons (gN.of_eq rfl) dC.nil))) (by rw[aN,aR,aS];rfl) s34 ?_;rintro u34 H34h ⟨rfl,rfl⟩
 refine⟨_,rfl,?_⟩
 refine aE (st':=⟨_,_,upd (upd (fun _=>none) 1500 (some ⟨b_rA,(aa x34.2)⟩)) 2 (some ⟨b2,[(ac 0),(.str []),(ac 0),(ac 0),(ac 0),(.str []),(.val (.slice none 0 0))]⟩),fun _=>none⟩) (Gh.le (av _ _) (ab rfl (cX.r) (ab rfl (cX.r) ao)) am) ?_;refine af ?_;refine bj rfl H (fun H=>?_) (fun H=>?_)
 ·refine ak (ae (aC tk rfl ?_))
  obtain⟨y36,h36,X36,H⟩:=aX H
  have s36:=hrec85 b_rA x34.2 _ h36;refine aH Tryz.call85 [(1500,1500)] [] s36 (X36 _) ?_;rintro u36 H36h hR36
  obtain⟨x36,⟨rfl,rfl⟩,H⟩:=H _ _ _ hR36
  refine⟨_,rfl,?_⟩
  refine aE (st':=⟨_,_,upd (upd (fun _=>none) 1500 (some ⟨b_rA,(aa x36.2)⟩)) 2 (some ⟨b2,[(ac 0),(.str []),(ac 0),(ac 0),(ac 0),(.str []),(.val (.slice none 0 0))]⟩),fun _=>none⟩) (Gh.le (av _ _) (ab rfl (cX.r) (ab rfl (cX.r) ao)) am) ?_;refine aV tk fun b7=>?_
  refine ap tk ?_;refine af (ak (ae (aC tk rfl ?_)))
  obtain⟨y38,h38,X38,H⟩:=aX H
  have s38:=aK b_rA x36.2 ([116,104,101,110]:List UInt8) _ h38;refine aH Tryz.call53 [(1500,1500)] [] s38 (X38 _) ?_;rintro u38 H38h hR38
  obtain⟨x38,⟨rfl,rfl⟩,H⟩:=H _ _ _ hR38
  refine⟨_,rfl,?_⟩
  refine aE (st':=⟨_,_,upd (upd (upd (fun _=>none) 1500 (some ⟨b_rA,(aa x38)⟩)) 7 (some ⟨b7,(bM x36.1)⟩)) 2 (some ⟨b2,[(ac 0),(.str []),(ac 0),(ac 0),(ac 0),(.str []),(.val (.slice none 0 0))]⟩),fun _=>none⟩) (Gh.le (av _ _) (ab rfl (cX.r) (ab rfl (cX.r) (ab rfl (cX.r) ao))) am) ?_;refine af (ak (ae (aC tk rfl ?_)))
  obtain⟨y40,h40,X40,H⟩:=aX H
  have s40:=hrec85 b_rA x38 _ h40;refine aH Tryz.call85 [(1500,1500)] [] s40 (X40 _) ?_;rintro u40 H40h hR40
  obtain⟨x40,⟨rfl,rfl⟩,H⟩:=H _ _ _ hR40
  refine⟨_,rfl,?_⟩
  refine aE (st':=⟨_,_,upd (upd (upd (fun _=>none) 1500 (some ⟨b_rA,(aa x40.2)⟩)) 7 (some ⟨b7,(bM x36.1)⟩)) 2 (some ⟨b2,[(ac 0),(.str []),(ac 0),(ac 0),(ac 0),(.str []),(.val (.slice none 0 0))]⟩),fun _=>none⟩) (Gh.le (av _ _) (ab rfl (cX.r) (ab rfl (cX.r) (ab rfl (cX.r) ao))) am) ?_;refine aV tk fun b8=>?_
  refine ap tk ?_;refine af (ak (ae (aC tk rfl ?_)))
  obtain⟨y42,h42,X42,H⟩:=aX H
  have s42:=aK b_rA x40.2 ([101,108,115,101]:List UInt8) _ h42;refine aH Tryz.call53 [(1500,1500)] [] s42 (X42 _) ?_;rintro u42 H42h hR42
  obtain⟨x42,⟨rfl,rfl⟩,H⟩:=H _ _ _ hR42
  refine⟨_,rfl,?_⟩
  refine aE (st':=⟨_,_,upd (upd (upd (upd (fun _=>none) 1500 (some ⟨b_rA,(aa x42)⟩)) 8 (some ⟨b8,(bM x40.1)⟩)) 7 (some ⟨b7,(bM x36.1)⟩)) 2 (some ⟨b2,[(ac 0),(.str []),(ac 0),(ac 0),(ac 0),(.str []),(.val (.slice none 0 0))]⟩),fun _=>none⟩) (Gh.le (av _ _) (ab rfl (cX.r) (ab rfl (cX.r) (ab rfl (cX.r) (ab rfl (cX.r) ao)))) am) ?_;refine af (ak (iK 7 rfl rfl rfl rfl (iK 8 rfl rfl rfl rfl (dz tk mok ⟨false,false,[999997,3000009]⟩ [0,1,2,3,4,5,6,7,8] rfl (by decide+kernel) rfl (cm 4 rfl ?_)))))
  obtain⟨y47,h47,X47,H⟩:=aX H
  have s47:=hrec85 b_rA x42 _ h47;refine eA Tryz.call85 [(1500,1500)] [] s47 (X47 _) ?_;rintro u47 H47h hR47
  obtain⟨x47,⟨rfl,rfl⟩,H⟩:=H _ _ _ hR47
  refine⟨_,rfl,?_⟩
  refine cN rfl ?_
  obtain⟨x49,h49,H⟩:=ed H
  have s49:=cD ([105,102]:List UInt8) ([x36.1,x40.1,x47.1]:List LExpr);rw[h49]at s49;refine fw (g:=171) rfl rfl rfl rfl Tryz.call171 (cX.of2 (dC.cons (gN.of_eq rfl) (dC.cons (gN.list (cS.trans (b:=List.map bM [x36.1,x40.1,x47.1]) (cS.refl _) (cS.of_eq (dl cO [x36.1,x40.1,x47.1])))) dC.nil))) s49 rfl ?_;refine lf rfl rfl rfl rfl rfl rfl rfl rfl fun b9=>?_
  refine eD rfl rfl rfl rfl rfl rfl rfl rfl rfl rfl rfl rfl (cQ ?_);refine be (st':=⟨_,_,upd (upd (upd (fun _=>none) 1500 (some ⟨b_rA,(aa x47.2)⟩)) 9 (some ⟨b9,(bM x49)⟩)) 2 (some ⟨b2,[(ac 0),(.str []),(ac 0),(ac 0),(ac 0),(.str []),(.val (.slice none 0 0))]⟩),fun _=>none⟩) (Gh.le (av _ _) (ab rfl (cX.r) (ab rfl (cX.r) (ab rfl (cX.r) ao))) am) ?_;refine ak (ae (aC tk rfl ?_))
  obtain⟨y51,h51,X51,H⟩:=aX H
  have s51:=aK b_rA x47.2 ([41]:List UInt8) _ h51;refine aH Tryz.call53 [(1500,1500)] [] s51 (X51 _) ?_;rintro u51 H51h hR51
  obtain⟨x51,⟨rfl,rfl⟩,H⟩:=H _ _ _ hR51
  refine⟨_,rfl,?_⟩
  refine aE (st':=⟨_,_,upd (upd (upd (fun _=>none) 1500 (some ⟨b_rA,(aa x51)⟩)) 9 (some ⟨b9,(bM x49)⟩)) 2 (some ⟨b2,[(ac 0),(.str []),(ac 0),(ac 0),(ac 0),(.str []),(.val (.slice none 0 0))]⟩),fun _=>none⟩) (Gh.le (av _ _) (ab rfl (cX.r) (ab rfl (cX.r) (ab rfl (cX.r) ao))) am) ?_;refine af (ak (ae (aw tk ?_)));refine ap tk ?_;refine af ?_;obtain rfl:=aF H;refine be (st':=⟨88,upd (fun _=>.any) 2 (.box 2 b2 0),upd (upd (fun _=>none) 1500 (some ⟨b_rA,(aa x51)⟩)) 2 (some ⟨b2,(bM x49)⟩),fun _=>none⟩) (Gh.le (bg aO) (ab rfl (cX.r) (ab rfl (cX.r) ao)) am) ?_;refine bS tk rfl (ps:=[(.agg (bM x49))]) ⟨_,_,rfl,⟨_,_,_,_,_,rfl,rfl,rfl,rfl⟩,rfl⟩ (PLe.q rfl) (HSub.updB rfl) ⟨rfl,rfl⟩
 refine bc (ak (ae (aC tk rfl ?_)))
 obtain⟨y54,h54,X54,H⟩:=aX H
 have s54:=hrec85 b_rA x34.2 _ h54;refine aH Tryz.call85 [(1500,1500)] [] s54 (X54 _) ?_;rintro u54 H54h hR54
 obtain⟨x54,⟨rfl,rfl⟩,H⟩:=H _ _ _ hR54
 refine⟨_,rfl,?_⟩
 refine aE (st':=⟨_,_,upd (upd (fun _=>none) 1500 (some ⟨b_rA,(aa x54.2)⟩)) 2 (some ⟨b2,[(ac 0),(.str []),(ac 0),(ac 0),(ac 0),(.str []),(.val (.slice none 0 0))]⟩),fun _=>none⟩) (Gh.le (av _ _) (ab rfl (cX.r) (ab rfl (cX.r) ao)) am) ?_;refine aV tk fun b10=>?_
 refine ap tk ?_;refine af (ak (ak (ae (aC tk rfl ?_))))
 obtain⟨x56,h56,H⟩:=aM H
 have s56:=az b_rA x54.2 ([105,115]:List UInt8) _ h56;refine bf (g:=52) rfl rfl rfl Tryz.call52 [(1500,1500)] [] rfl rfl rfl rfl (cX.of2 (dC.cons gN.boxT (dC.cons (gN.of_eq rfl) dC.nil))) (by rw[aN,aR,aS];rfl) s56 ?_;rintro u56 H56h ⟨rfl,rfl⟩
 refine⟨_,rfl,?_⟩
 refine aE (st':=⟨_,_,upd (upd (upd (fun _=>none) 1500 (some ⟨b_rA,(aa x56.2)⟩)) 10 (some ⟨b10,(bM x54.1)⟩)) 2 (some ⟨b2,[(ac 0),(.str []),(ac 0),(ac 0),(ac 0),(.str []),(.val (.slice none 0 0))]⟩),fun _=>none⟩) (Gh.le (av _ _) (ab rfl (cX.r) (ab rfl (cX.r) (ab rfl (cX.r) ao))) am) ?_;refine af ?_;refine bj rfl H (fun H=>?_) (fun H=>?_)
 ·refine ak (ae (aC tk rfl ?_))
  obtain⟨y58,h58,X58,H⟩:=aX H
  have s58:=aK b_rA x56.2 ([110,117,108,108]:List UInt8) _ h58;refine aH Tryz.call53 [(1500,1500)] [] s58 (X58 _) ?_;rintro u58 H58h hR58
  obtain⟨x58,⟨rfl,rfl⟩,H⟩:=H _ _ _ hR58
  refine⟨_,rfl,?_⟩
  refine aE (st':=⟨_,_,upd (upd (upd (fun _=>none) 1500 (some ⟨b_rA,(aa x58)⟩)) 10 (some ⟨b10,(bM x54.1)⟩)) 2 (some ⟨b2,[(ac 0),(.str []),(ac 0),(ac 0),(ac 0),(.str []),(.val (.slice none 0 0))]⟩),fun _=>none⟩) (Gh.le (av _ _) (ab rfl (cX.r) (ab rfl (cX.r) (ab rfl (cX.r) ao))) am) ?_;refine af (ak (ae (aC tk rfl ?_)))
  obtain⟨y60,h60,X60,H⟩:=aX H
  have s60:=aK b_rA x58 ([41]:List UInt8) _ h60;refine aH Tryz.call53 [(1500,1500)] [] s60 (X60 _) ?_;rintro u60 H60h hR60
  obtain⟨x60,⟨rfl,rfl⟩,H⟩:=H _ _ _ hR60
  refine⟨_,rfl,?_⟩
  refine aE (st':=⟨_,_,upd (upd (upd (fun _=>none) 1500 (some ⟨b_rA,(aa x60)⟩)) 10 (some ⟨b10,(bM x54.1)⟩)) 2 (some ⟨b2,[(ac 0),(.str []),(ac 0),(ac 0),(ac 0),(.str []),(.val (.slice none 0 0))]⟩),fun _=>none⟩) (Gh.le (av _ _) (ab rfl (cX.r) (ab rfl (cX.r) (ab rfl (cX.r) ao))) am) ?_;refine af (ak (ae (aC tk rfl (aw tk ?_))));refine je tk (rows':=List.map al ([x54.1]:List LExpr)) rfl (cS.trans (b:=List.map bM [x54.1]) (cS.refl _) (cS.of_eq (dl cO [x54.1]))) ?_
  obtain⟨x64,h64,H⟩:=ed H
  have s64:=cD ([105,115,32,110,117,108,108]:List UInt8) ([x54.1]:List LExpr);rw[h64]at s64;refine bs Tryz.call171 (cX.r) s64 ?_;refine ap tk ?_;refine af ?_;obtain rfl:=aF H;refine be (st':=⟨88,upd (fun _=>.any) 2 (.box 2 b2 0),upd (upd (fun _=>none) 1500 (some ⟨b_rA,(aa x60)⟩)) 2 (some ⟨b2,(bM x64)⟩),fun _=>none⟩) (Gh.le (bg aO) (ab rfl (cX.r) (ab rfl (cX.r) ao)) am) ?_;refine bS tk rfl (ps:=[(.agg (bM x64))]) ⟨_,_,rfl,⟨_,_,_,_,_,rfl,rfl,rfl,rfl⟩,rfl⟩ (PLe.q rfl) (HSub.updB rfl) ⟨rfl,rfl⟩
 refine bc (ak (ak (ae (kT (e:=9) (rows:=[[(.str [43])],[(.str [45])],[(.str [42])],[(.str [61])],[(.str [60,61])],[(.str [60])],[(.str [97,110,100])],[(.str [111,114])],[(.str [124,124])]]) tk rfl rfl rfl rfl (rows':=List.map aB ([[43],[45],[42],[61],[60,61],[60],[97,110,100],[111,114],[124,124]]:List (List UInt8))) (by kernel_rfl) (cS.refl _) rfl rfl (iZ tk rfl rfl rfl rfl rfl (zl _) rfl (aC tk rfl (af (iK 10 rfl rfl rfl rfl ?_))))))))
 obtain⟨n2,hs2,H⟩:=aM H
 have hz2:=iQ hs2
 obtain⟨fl2,H2,Hp2⟩:=aM H
 refine ef (τ:=LQueryparserParser) (γ:=Unit) (fun s2 g2=>⟨88,upd (upd (upd (fun _=>.any) 10 (.ptr (bM x54.1))) 2 (.box 2 b2 0)) 0 (.box 1500 b_rA 0),upd (upd (fun _=>none) 1500 (some ⟨b_rA,(aa s2)⟩)) 2 (some ⟨b2,[(ac 0),(.str []),(ac 0),(ac 0),(ac 0),(.str []),(.val (.slice none 0 0))]⟩),fun _=>none⟩) (fun t=>fl2= .next t) ?_ (fun s2 g2 hn2=>?_)
 ·refine bt ?_;refine jF (fun j2 s2 g2=>⟨88,upd (upd (upd (upd (upd (upd (upd (fun _=>.any) 67 (ac (j2:Int))) 66 (ac (([[43],[45],[42],[61],[60,61],[60],[97,110,100],[111,114],[124,124]]:List (List UInt8)).length:Int))) 65 (.list 9 (([[43],[45],[42],[61],[60,61],[60],[97,110,100],[111,114],[124,124]]:List (List UInt8)).map aB))) 10 (.ptr (bM x54.1))) 3 (.fn 171 [])) 2 (.box 2 b2 0)) 0 (.box 1500 b_rA 0),upd (upd (fun _=>none) 1500 (some ⟨b_rA,(aa s2)⟩)) 2 (some ⟨b2,[(ac 0),(.str []),(ac 0),(ac 0),(ac 0),(.str []),(.val (.slice none 0 0))]⟩),fun _=>none⟩) () H2 Gh.d (fun j2 s2 g2 hj2 hr2=>?_);refine bE 1 tk rfl (ak ?_);refine ik rfl (fun h=>?_) (fun h=>?_)
  ·have hl2:=natLt hz2 h
   obtain⟨x2,fb2,hx2,H,hg2⟩:=rMc hl2 hr2
   obtain rfl:=natX hx2;refine bc (ak (bt (ak (ae ?_))))
   obtain⟨x69,k69,H⟩:=eH H
   refine kQ tk rfl rfl rfl rfl rfl rfl k69.1 (jC (fun _=>rfl) k69.2) rfl ?_;refine aA 2 tk rfl (af (ak (ae (aA 2 tk rfl ?_))))
   obtain⟨x73,h73,H⟩:=aM H
   have s73:=az b_rA s2 x69 _ h73;refine bf (g:=52) rfl rfl rfl Tryz.call52 [(1500,1500)] [] rfl rfl rfl rfl (cX.of2 (dC.cons gN.boxT (dC.cons (gN.of_eq rfl) dC.nil))) (by rw[aN,aR,aS];rfl) s73 ?_;rintro u73 H73h ⟨rfl,rfl⟩
   refine⟨_,rfl,?_⟩
   refine aE (st':=⟨_,_,upd (upd (fun _=>none) 1500 (some ⟨b_rA,(aa x73.2)⟩)) 2 (some ⟨b2,[(ac 0),(.str []),(ac 0),(ac 0),(ac 0),(.str []),(.val (.slice none 0 0))]⟩),fun _=>none⟩) (Gh.le (av _ _) (ab rfl (cX.r) (ab rfl (cX.r) ao)) am) ?_;refine af ?_;refine bj rfl H (fun H=>?_) (fun H=>?_)
   ·refine ak (dz tk mok ⟨false,false,[999997,3000013]⟩ [0,1,2,3,4,5,6,7,8] rfl (by decide+kernel) rfl (cm 4 rfl ?_))
    obtain⟨y78,h78,X78,H⟩:=cV H
    have s78:=hrec85 b_rA x73.2 _ h78;refine eA Tryz.call85 [(1500,1500)] [] s78 (pxF (fun e he=>(lvR (X78 e he) hg2 Hp2)) _) ?_;rintro u78 H78h hR78
    obtain⟨x78,⟨rfl,rfl⟩,H⟩:=H _ _ _ hR78
    refine⟨_,rfl,?_⟩
    refine cN rfl ?_
    obtain⟨x80,h80,H⟩:=ed H
    have s80:=cD x69 ([x54.1,x78.1]:List LExpr);rw[h80]at s80;refine fw (g:=171) rfl rfl rfl rfl Tryz.call171 (cX.of2 (dC.cons (gN.of_eq rfl) (dC.cons (gN.list (cS.trans (b:=List.map bM [x54.1,x78.1]) (cS.refl _) (cS.of_eq (dl cO [x54.1,x78.1])))) dC.nil))) s80 rfl ?_;refine lf rfl rfl rfl rfl rfl rfl rfl rfl fun b13=>?_
    refine eD rfl rfl rfl rfl rfl rfl rfl rfl rfl rfl rfl rfl (cQ ?_);refine be (st':=⟨_,_,upd (upd (upd (fun _=>none) 1500 (some ⟨b_rA,(aa x78.2)⟩)) 13 (some ⟨b13,(bM x80)⟩)) 2 (some ⟨b2,[(ac 0),(.str []),(ac 0),(ac 0),(ac 0),(.str []),(.val (.slice none 0 0))]⟩),fun _=>none⟩) (Gh.le (av _ _) (ab rfl (cX.r) (ab rfl (cX.r) (ab rfl (cX.r) ao))) am) ?_;refine ak (ae (aC tk rfl ?_))
    obtain⟨y82,h82,X82,H⟩:=cV H
    have s82:=aK b_rA x78.2 ([41]:List UInt8) _ h82;refine aH Tryz.call53 [(1500,1500)] [] s82 (pxF (fun e he=>(lvR (X82 e he) hg2 Hp2)) _) ?_;rintro u82 H82h hR82
    obtain⟨x82,⟨rfl,rfl⟩,H⟩:=H _ _ _ hR82
    refine⟨_,rfl,?_⟩
    refine aE (st':=⟨_,_,upd (upd (upd (fun _=>none) 1500 (some ⟨b_rA,(aa x82)⟩)) 13 (some ⟨b13,(bM x80)⟩)) 2 (some ⟨b2,[(ac 0),(.str []),(ac 0),(ac 0),(ac 0),(.str []),(.val (.slice none 0 0))]⟩),fun _=>none⟩) (Gh.le (av _ _) (ab rfl (cX.r) (ab rfl (cX.r) (ab rfl (cX.r) ao))) am) ?_;refine af (ak (ae (aw tk ?_)));refine ap tk ?_;refine af ?_;obtain rfl:=aF H;have e2:fl2= .ret _:=hg2;subst e2;obtain rfl:=eB Hp2;refine be (st':=⟨88,upd (fun _=>.any) 2 (.box 2 b2 0),upd (upd (fun _=>none) 1500 (some ⟨b_rA,(aa x82)⟩)) 2 (some ⟨b2,(bM x80)⟩),fun _=>none⟩) (Gh.le (bg aO) (ab rfl (cX.r) (ab rfl (cX.r) ao)) am) ?_;refine bS tk rfl (ps:=[(.agg (bM x80))]) ⟨_,_,rfl,⟨_,_,_,_,_,rfl,rfl,rfl,rfl⟩,rfl⟩ (PLe.q rfl) (HSub.updB rfl) ⟨rfl,rfl⟩
   refine bc (cn (gT 2 tk rfl ?_));exact lb () H hl2 hg2 (Gh.le (bg (bg (bg (bg (bg (bg (it (PLe.q (jo hz2 hl2)) aO))))))) (ab rfl (cX.r) (ab rfl (cX.r) ao)) am)
  have hn2:=rMd (natGe hz2 h) hr2;refine dB rfl ?_;refine cb s2 g2 hn2 Gh.d
 have H:=du hn2 Hp2;refine ak (ae (aC tk rfl ?_))
 obtain⟨y86,h86,X86,H⟩:=aX H
 have s86:=bn b_rA s2 _ h86;refine aH Tryz.call56 [(1500,1500)] [] s86 (X86 _) ?_;rintro u86 H86h hR86
 obtain⟨x86,⟨rfl,rfl⟩,H⟩:=H _ _ _ hR86
 refine⟨_,rfl,?_⟩
 refine aE (st':=⟨_,_,upd (upd (fun _=>none) 1500 (some ⟨b_rA,(aa x86)⟩)) 2 (some ⟨b2,[(ac 0),(.str []),(ac 0),(ac 0),(ac 0),(.str []),(.val (.slice none 0 0))]⟩),fun _=>none⟩) (Gh.le (av _ _) (ab rfl (cX.r) (ab rfl (cX.r) ao)) am) ?_;refine af (ak (ae (aC tk rfl (ap tk ?_))));refine af ?_;obtain rfl:=aF H;refine be (st':=⟨88,upd (fun _=>.any) 2 (.box 2 b2 0),upd (upd (fun _=>none) 1500 (some ⟨b_rA,(aa x86)⟩)) 2 (some ⟨b2,(bM x54.1)⟩),fun _=>none⟩) (Gh.le (bg aO) (ab rfl (cX.r) (ab rfl (cX.r) ao)) am) ?_;refine bS tk rfl (ps:=[(.agg (bM x54.1))]) ⟨_,_,rfl,⟨_,_,_,_,_,rfl,rfl,rfl,rfl⟩,rfl⟩ (PLe.q rfl) (HSub.updB rfl) ⟨rfl,rfl⟩
mutual
def bv:Nat→LQueryparserParser→Option (Except Int (LExpr×LQueryparserParser))
 |0,_=>none
 |n+1,v0=>cF (fun b0=>bv n b0) (fun b0=>bw n b0) v0
def bw:Nat→LQueryparserParser→Option (Except Int (LExpr×LQueryparserParser))
 |0,_=>none
 |n+1,v0=>cj (fun b0=>bv n b0) (fun b0=>bw n b0) v0
end
theorem gJ  (n:Nat):(∀bb0 a0 r,bv n a0=some r→aP Tryz.prog 85 [(.box 1500 bb0 0)] ⟨upd (fun _=>none) 1500 (some ⟨bb0,(aa a0)⟩),fun _=>none⟩ (RX r (fun rv u H=>u=(.agg (bM rv.1))∧H=⟨upd (fun _=>none) 1500 (some ⟨bb0,(aa rv.2)⟩),fun _=>none⟩)) (PX 106 r))∧(∀bb0 a0 r,bw n a0=some r→aP Tryz.prog 132 [(.box 1500 bb0 0)] ⟨upd (fun _=>none) 1500 (some ⟨bb0,(aa a0)⟩),fun _=>none⟩ (RX r (fun rv u H=>u=(.agg (bM rv.1))∧H=⟨upd (fun _=>none) 1500 (some ⟨bb0,(aa rv.2)⟩),fun _=>none⟩)) (PX 106 r)):=by
 induction n with
 |zero=>exact⟨(by intros;rename_i h;exact absurd (show(none:Option _)=some _ from h) (by simp)),(by intros;rename_i h;exact absurd (show(none:Option _)=some _ from h) (by simp))⟩
 |succ n ih=>
  exact⟨(fun bb0 v0 r h=>gL bb0 (fun b0=>bv n b0) (fun b0=>bw n b0) ih.1 ih.2 v0  r h),(fun bb0 v0 r h=>fW bb0 (fun b0=>bv n b0) (fun b0=>bw n b0) ih.1 ih.2 v0  r h)⟩
def bI(rA:LQueryparserParser):Option (Except Int (LExpr×LQueryparserParser)):=limN fun n=>bv n rA
theorem cE(b_rA:Nat)(rA:LQueryparserParser)(r:Except Int (LExpr×LQueryparserParser))(H:bI rA=some r):
  aP Tryz.prog 85 [(.box 1500 b_rA 0)] ⟨upd (fun _=>none) 1500 (some ⟨b_rA,(aa rA)⟩),fun _=>none⟩ (RX r (fun rv u H=>u=(.agg (bM rv.1))∧H=⟨upd (fun _=>none) 1500 (some ⟨b_rA,(aa rv.2)⟩),fun _=>none⟩)) (PX 106 r):=by
 obtain⟨n,h⟩:=limN_some H
 exact(gJ  n).1 b_rA rA r h
def bA(rA:LQueryparserParser)(qA:LQuery):Option (Except Int (LQueryparserParser×LQuery)):=
 aT (bI rA) fun x5=>
 ar (ec 88 qA.exprs ([(LExpr.mk 0 [] 0 (LVal.mk 0 0 []) [])]:List LExpr)) fun(x8:List LExpr)=>
 ar (bO x8 (qA.exprs.length:Int)) fun(_:LExpr)=>
 cx (x8.set ((qA.exprs.length:Int).toNat) x5.1) fun(y1:List LExpr)=>
 ar (ah x5.2 ([100,101,115,99]:List UInt8)) fun x14=>
 ar (ec 1 qA.descending ([x14.1]:List Bool)) fun(x16:List Bool)=>
 some (.ok (x14.2,(LQuery.mk qA.kind qA.table qA.names y1 qA.aggregates x16 qA.count qA.offset qA.inputs)))
theorem er(b_rA:Nat)(b_qA:Nat)(g_qA_2:OwnRef)(g_qA_3:OwnRef)(g_qA_4:OwnRef)(g_qA_5:OwnRef)(b_c0:Nat)(rA:LQueryparserParser)(qA:LQuery)(r:Except Int (LQueryparserParser×LQuery))(H:bA rA qA=some r):
  aP Tryz.prog 92 [(.box 1501 b_qA 0),(.box 1700 b_c0 0)] ⟨upd (upd (upd (fun _=>none) 1700 (some ⟨b_c0,[(.box 1500 b_rA 0)]⟩)) 1501 (some ⟨b_qA,[(ac qA.kind),(.str qA.table),(.own 1622 g_qA_2 (qA.names.map aB).length),(.own 1623 g_qA_3 (qA.exprs.map al).length),(.own 1624 g_qA_4 (qA.aggregates.map ax).length),(.own 1625 g_qA_5 (qA.descending.map ay).length),(ac qA.count),(ac qA.offset),(.list 29 (qA.inputs.map ag))]⟩)) 1500 (some ⟨b_rA,(aa rA)⟩),upd (upd (upd (upd (fun _=>none) 1625 (some ⟨g_qA_5,4,(qA.descending.map ay),true⟩)) 1624 (some ⟨g_qA_4,85,(qA.aggregates.map ax),true⟩)) 1623 (some ⟨g_qA_3,82,(qA.exprs.map al),true⟩)) 1622 (some ⟨g_qA_2,9,(qA.names.map aB),true⟩)⟩ (RX r (fun rv u H=>∃gz1_2,∃gz1_3,∃gz1_4,∃gz1_5,u=(.tup [])∧H=⟨upd (upd (upd (fun _=>none) 1700 (some ⟨b_c0,[(.box 1500 b_rA 0)]⟩)) 1501 (some ⟨b_qA,[(ac rv.2.kind),(.str rv.2.table),(.own 1622 gz1_2 (rv.2.names.map aB).length),(.own 1623 gz1_3 (rv.2.exprs.map al).length),(.own 1624 gz1_4 (rv.2.aggregates.map ax).length),(.own 1625 gz1_5 (rv.2.descending.map ay).length),(ac rv.2.count),(ac rv.2.offset),(.list 29 (rv.2.inputs.map ag))]⟩)) 1500 (some ⟨b_rA,(aa rv.1)⟩),upd (upd (upd (upd (fun _=>none) 1625 (some ⟨gz1_5,4,(rv.2.descending.map ay),true⟩)) 1624 (some ⟨gz1_4,85,(rv.2.aggregates.map ax),true⟩)) 1623 (some ⟨gz1_3,82,(rv.2.exprs.map al),true⟩)) 1622 (some ⟨gz1_2,9,(rv.2.names.map aB),true⟩)⟩)) (PX 106 r):=by
 unfold bA at H;refine aP.intro Tryz.func92 rfl Tryz.ntmps92 rfl ?_;refine ak ?_;refine fJ (tag:=1622) rfl (fun ho1622=>?_);refine fJ (tag:=1623) rfl (fun ho1623=>?_);refine fJ (tag:=1624) rfl (fun ho1624=>?_);refine fJ (tag:=1625) rfl (fun ho1625=>?_);refine dz tk mok ⟨true,false,[999997,3001501,3001700,4000003,4000004,999996,5000009]⟩ [0,1,2,4,5,3,6,7,9,10,8] rfl (by decide+kernel) rfl (cN rfl (cL tk ?_));refine cL tk ?_;refine kX rfl rfl rfl rfl rfl rfl (zl _) rfl (cN rfl ?_)
 obtain⟨y5,h5,X5,H⟩:=aX H
 have s5:=cE b_rA rA _ h5;refine eA Tryz.call85 [(1500,1500)] [] s5 (X5 _) ?_;rintro u5 H5h hR5
 obtain⟨x5,⟨rfl,rfl⟩,H⟩:=H _ _ _ hR5
 refine⟨_,rfl,?_⟩
 obtain⟨x8,h8,H⟩:=aM H
 have k8:=dW h8;refine jv (rows2':=List.map al ([(LExpr.mk 0 [] 0 (LVal.mk 0 0 []) [])]:List LExpr)) (rows':=List.map al x8) tk rfl rfl rfl rfl rfl rfl rfl rfl rfl rfl rfl rfl rfl rfl (cS.trans (b:=List.map bM [(LExpr.mk 0 [] 0 (LVal.mk 0 0 []) [])]) (cS.cons (kv.cons (gN.of_eq rfl) (kv.cons (gN.of_eq rfl) (kv.cons (gN.of_eq rfl) (kv.cons (gN.of_eq rfl) (kv.cons (gN.of_eq rfl) (kv.cons (gN.of_eq rfl) (kv.cons (gN.nil tk rfl) kv.nil))))))) cS.nil) (cS.of_eq (dl cO [(LExpr.mk 0 [] 0 (LVal.mk 0 0 []) [])]))) (fj k8.1) (fa k8.2.1) (fh k8.2.2) fun g8 ho1623=>?_
 obtain⟨x9,k9,H⟩:=eH H
 refine kV tk rfl rfl rfl rfl rfl rfl rfl rfl ⟨k9.1,(idxLen k9.2)⟩ (idxBlk ho1623 k9.2) rfl (cN rfl (eD rfl rfl rfl rfl rfl rfl rfl rfl rfl rfl rfl rfl ?_))
 obtain⟨y1,hy1,H⟩:=ed H
 refine jU tk rfl rfl rfl rfl rfl rfl rfl rfl rfl (by rw[zl];exact(zg.1 k9.2).1) (PLe.refl _ _) rfl rfl rfl rfl (by decide) (jA cO k9.2 rfl hy1) ?_;refine cQ ?_;refine be (st':=⟨_,_,upd (upd (upd (fun _=>none) 1700 (some ⟨b_c0,[(.box 1500 b_rA 0)]⟩)) 1501 (some ⟨b_qA,[(ac qA.kind),(.str qA.table),(.own 1622 g_qA_2 (qA.names.map aB).length),(.own 1623 g8 (x8.map al).length),(.own 1624 g_qA_4 (qA.aggregates.map ax).length),(.own 1625 g_qA_5 (qA.descending.map ay).length),(ac qA.count),(ac qA.offset),(.list 29 (qA.inputs.map ag))]⟩)) 1500 (some ⟨b_rA,(aa x5.2)⟩),upd (upd (upd (upd (fun _=>none) 1625 (some ⟨g_qA_5,4,(qA.descending.map ay),true⟩)) 1624 (some ⟨g_qA_4,85,(qA.aggregates.map ax),true⟩)) 1623 (some ⟨g8,82,(y1.map al),true⟩)) 1622 (some ⟨g_qA_2,9,(qA.names.map aB),true⟩)⟩) (Gh.le (av _ _) (ab rfl (cX.r) (ab rfl (cX.r) (ab rfl (cX.r) ao))) (aq (aq (aq (aq am))))) ?_;refine dz tk mok ⟨true,false,[999997,3001501,3001700,4000012,4000013]⟩ [0,1,2,3,4,5,6,7] rfl (by decide+kernel) rfl (cN rfl (cL tk ?_));refine cL tk ?_
 obtain⟨x14,h14,H⟩:=aM H
 have s14:=az b_rA x5.2 ([100,101,115,99]:List UInt8) _ h14;refine lr (g:=52) rfl rfl rfl rfl Tryz.call52 rfl rfl [(1500,1500)] [] rfl rfl rfl rfl (cX.of2 (dC.cons gN.boxT (dC.cons (gN.of_eq rfl) dC.nil))) (by rw[aN,aR,aS];rfl) s14 ?_;rintro u14 H14h ⟨rfl,rfl⟩
 refine⟨_,rfl,?_⟩
 refine cN rfl ?_
 obtain⟨x16,h16,H⟩:=aM H
 have k16:=dW h16;refine fH (rows2':=List.map ay ([x14.1]:List Bool)) (rows':=List.map ay x16) tk rfl rfl rfl rfl rfl rfl rfl rfl rfl rfl rfl rfl rfl rfl (cS.refl _) (fj k16.1) (fa k16.2.1) (fh k16.2.2) fun g16=>?_
 refine cN rfl (eD rfl rfl rfl rfl rfl rfl rfl rfl rfl rfl rfl rfl (cQ ?_));refine be (st':=⟨_,_,upd (upd (upd (fun _=>none) 1700 (some ⟨b_c0,[(.box 1500 b_rA 0)]⟩)) 1501 (some ⟨b_qA,[(ac qA.kind),(.str qA.table),(.own 1622 g_qA_2 (qA.names.map aB).length),(.own 1623 g8 (x8.map al).length),(.own 1624 g_qA_4 (qA.aggregates.map ax).length),(.own 1625 g16 (x16.map ay).length),(ac qA.count),(ac qA.offset),(.list 29 (qA.inputs.map ag))]⟩)) 1500 (some ⟨b_rA,(aa x14.2)⟩),upd (upd (upd (upd (fun _=>none) 1625 (some ⟨g16,4,(x16.map ay),true⟩)) 1624 (some ⟨g_qA_4,85,(qA.aggregates.map ax),true⟩)) 1623 (some ⟨g8,82,(y1.map al),true⟩)) 1622 (some ⟨g_qA_2,9,(qA.names.map aB),true⟩)⟩) (Gh.le (av _ _) (ab rfl (cX.r) (ab rfl (cX.r) (ab rfl (cX.r) ao))) (aq (aq (aq (aq am))))) ?_;obtain rfl:=aF H;refine be (st':=⟨18,fun _=>.any,upd (upd (upd (fun _=>none) 1700 (some ⟨b_c0,[(.box 1500 b_rA 0)]⟩)) 1501 (some ⟨b_qA,[(ac ((LQuery.mk qA.kind qA.table qA.names y1 qA.aggregates x16 qA.count qA.offset qA.inputs).kind)),(.str ((LQuery.mk qA.kind qA.table qA.names y1 qA.aggregates x16 qA.count qA.offset qA.inputs).table)),(.own 1622 g_qA_2 (qA.names.map aB).length),(.own 1623 g8 (y1.map al).length),(.own 1624 g_qA_4 (qA.aggregates.map ax).length),(.own 1625 g16 (x16.map ay).length),(ac ((LQuery.mk qA.kind qA.table qA.names y1 qA.aggregates x16 qA.count qA.offset qA.inputs).count)),(ac ((LQuery.mk qA.kind qA.table qA.names y1 qA.aggregates x16 qA.count qA.offset qA.inputs).offset)),(.list 29 (((LQuery.mk qA.kind qA.table qA.names y1 qA.aggregates x16 qA.count qA.offset qA.inputs).inputs).map ag))]⟩)) 1500 (some ⟨b_rA,(aa x14.2)⟩),upd (upd (upd (upd (fun _=>none) 1625 (some ⟨g16,4,(x16.map ay),true⟩)) 1624 (some ⟨g_qA_4,85,(qA.aggregates.map ax),true⟩)) 1623 (some ⟨g8,82,(y1.map al),true⟩)) 1622 (some ⟨g_qA_2,9,(qA.names.map aB),true⟩)⟩) (Gh.le aO (ab rfl (cX.r) (ab rfl (cX.of2 (dC.cons (gN.of_eq rfl) (dC.cons (gN.of_eq rfl) (dC.cons (gN.of_eq rfl) (dC.cons (gN.own (set_len (f:=al) hy1)) (dC.cons (gN.of_eq rfl) (dC.cons (gN.of_eq rfl) (dC.cons (gN.of_eq rfl) (dC.cons (gN.of_eq rfl) (dC.cons (gN.of_eq rfl) dC.nil)))))))))) (ab rfl (cX.r) ao))) (aq (aq (aq (aq am))))) ?_;refine dG rfl (PLe.q rfl) ⟨_,_,_,_,rfl,rfl⟩
def cf(rA:LQueryparserParser)(qA:LQuery):Option (Except Int (LQueryparserParser×LQuery)):=
 aT (bA rA qA) fun x5=>
 ar (cR (σ:=LQueryparserParser×LQuery) (ρ:=(Except Int (LQueryparserParser×LQuery))) (fun(s1:LQueryparserParser×LQuery)=>
  ar (ah s1.1 ([44]:List UInt8)) fun x7=>
  cond x7.1
   (ci (bA x7.2 s1.2) fun x9=>
   some (.next (x9.1,x9.2)))
   (some (.brk (x7.2,s1.2)))) (x5.1,x5.2)) fun fl1=>fl1.thenR fun(s1:LQueryparserParser×LQuery)=>
 some (.ok (s1.1,s1.2))
theorem gr(b_rA:Nat)(b_qA:Nat)(g_qA_2:OwnRef)(g_qA_3:OwnRef)(g_qA_4:OwnRef)(g_qA_5:OwnRef)(b_c0:Nat)(rA:LQueryparserParser)(qA:LQuery)(r:Except Int (LQueryparserParser×LQuery))(H:cf rA qA=some r):
  aP Tryz.prog 86 [(.box 1500 b_rA 0),(.fn 92 [(.box 1501 b_qA 0),(.box 1700 b_c0 0)])] ⟨upd (upd (upd (fun _=>none) 1700 (some ⟨b_c0,[(.box 1500 b_rA 0)]⟩)) 1501 (some ⟨b_qA,[(ac qA.kind),(.str qA.table),(.own 1622 g_qA_2 (qA.names.map aB).length),(.own 1623 g_qA_3 (qA.exprs.map al).length),(.own 1624 g_qA_4 (qA.aggregates.map ax).length),(.own 1625 g_qA_5 (qA.descending.map ay).length),(ac qA.count),(ac qA.offset),(.list 29 (qA.inputs.map ag))]⟩)) 1500 (some ⟨b_rA,(aa rA)⟩),upd (upd (upd (upd (fun _=>none) 1625 (some ⟨g_qA_5,4,(qA.descending.map ay),true⟩)) 1624 (some ⟨g_qA_4,85,(qA.aggregates.map ax),true⟩)) 1623 (some ⟨g_qA_3,82,(qA.exprs.map al),true⟩)) 1622 (some ⟨g_qA_2,9,(qA.names.map aB),true⟩)⟩ (RX r (fun rv u H=>∃gz1_2,∃gz1_3,∃gz1_4,∃gz1_5,u=(.tup [])∧H=⟨upd (upd (upd (fun _=>none) 1700 (some ⟨b_c0,[(.box 1500 b_rA 0)]⟩)) 1501 (some ⟨b_qA,[(ac rv.2.kind),(.str rv.2.table),(.own 1622 gz1_2 (rv.2.names.map aB).length),(.own 1623 gz1_3 (rv.2.exprs.map al).length),(.own 1624 gz1_4 (rv.2.aggregates.map ax).length),(.own 1625 gz1_5 (rv.2.descending.map ay).length),(ac rv.2.count),(ac rv.2.offset),(.list 29 (rv.2.inputs.map ag))]⟩)) 1500 (some ⟨b_rA,(aa rv.1)⟩),upd (upd (upd (upd (fun _=>none) 1625 (some ⟨gz1_5,4,(rv.2.descending.map ay),true⟩)) 1624 (some ⟨gz1_4,85,(rv.2.aggregates.map ax),true⟩)) 1623 (some ⟨gz1_3,82,(rv.2.exprs.map al),true⟩)) 1622 (some ⟨gz1_2,9,(rv.2.names.map aB),true⟩)⟩)) (PX 106 r):=by
 unfold cf at H;refine aP.intro Tryz.func86 rfl Tryz.ntmps86 rfl ?_;refine ak (ae (aC tk rfl ?_))
 obtain⟨y5,h5,X5,H⟩:=aX H
 have s5:=er b_rA b_qA g_qA_2 g_qA_3 g_qA_4 g_qA_5 b_c0 rA qA _ h5;refine aH Tryz.call92 [(1500,1500),(1501,1501),(1700,1700)] [(1622,1622),(1623,1623),(1624,1624),(1625,1625)] s5 (X5 _) ?_;rintro u5 H5h hR5
 obtain⟨x5,⟨gz5_1622,gz5_1623,gz5_1624,gz5_1625,rfl,rfl⟩,H⟩:=H _ _ _ hR5
 refine⟨_,rfl,?_⟩
 refine aE (st':=⟨_,_,upd (upd (upd (fun _=>none) 1700 (some ⟨b_c0,[(.box 1500 b_rA 0)]⟩)) 1501 (some ⟨b_qA,[(ac x5.2.kind),(.str x5.2.table),(.own 1622 gz5_1622 (x5.2.names.map aB).length),(.own 1623 gz5_1623 (x5.2.exprs.map al).length),(.own 1624 gz5_1624 (x5.2.aggregates.map ax).length),(.own 1625 gz5_1625 (x5.2.descending.map ay).length),(ac x5.2.count),(ac x5.2.offset),(.list 29 (x5.2.inputs.map ag))]⟩)) 1500 (some ⟨b_rA,(aa x5.1)⟩),upd (upd (upd (upd (fun _=>none) 1625 (some ⟨gz5_1625,4,(x5.2.descending.map ay),true⟩)) 1624 (some ⟨gz5_1624,85,(x5.2.aggregates.map ax),true⟩)) 1623 (some ⟨gz5_1623,82,(x5.2.exprs.map al),true⟩)) 1622 (some ⟨gz5_1622,9,(x5.2.names.map aB),true⟩)⟩) (Gh.le (av _ _) (ab rfl (cX.r) (ab rfl (cX.r) (ab rfl (cX.r) ao))) (aq (aq (aq (aq am))))) ?_;refine af ?_
 obtain⟨fl1,H1,Hp1⟩:=aM H
 refine ef (τ:=LQueryparserParser×LQuery) (γ:=OwnRef×OwnRef×OwnRef×OwnRef) (fun s1 g1=>⟨10,upd (upd (fun _=>.any) 1 (.fn 92 [(.box 1501 b_qA 0),(.box 1700 b_c0 0)])) 0 (.box 1500 b_rA 0),upd (upd (upd (fun _=>none) 1700 (some ⟨b_c0,[(.box 1500 b_rA 0)]⟩)) 1501 (some ⟨b_qA,[(ac s1.2.kind),(.str s1.2.table),(.own 1622 g1.1 (s1.2.names.map aB).length),(.own 1623 g1.2.1 (s1.2.exprs.map al).length),(.own 1624 g1.2.2.1 (s1.2.aggregates.map ax).length),(.own 1625 g1.2.2.2 (s1.2.descending.map ay).length),(ac s1.2.count),(ac s1.2.offset),(.list 29 (s1.2.inputs.map ag))]⟩)) 1500 (some ⟨b_rA,(aa s1.1)⟩),upd (upd (upd (upd (fun _=>none) 1625 (some ⟨g1.2.2.2,4,(s1.2.descending.map ay),true⟩)) 1624 (some ⟨g1.2.2.1,85,(s1.2.aggregates.map ax),true⟩)) 1623 (some ⟨g1.2.1,82,(s1.2.exprs.map al),true⟩)) 1622 (some ⟨g1.1,9,(s1.2.names.map aB),true⟩)⟩) (fun t=>fl1= .next t) ?_ (fun s1 g1 hn1=>?_)
 ·refine bt ?_;refine eF (fun s1 g1=>⟨10,upd (upd (fun _=>.any) 1 (.fn 92 [(.box 1501 b_qA 0),(.box 1700 b_c0 0)])) 0 (.box 1500 b_rA 0),upd (upd (upd (fun _=>none) 1700 (some ⟨b_c0,[(.box 1500 b_rA 0)]⟩)) 1501 (some ⟨b_qA,[(ac s1.2.kind),(.str s1.2.table),(.own 1622 g1.1 (s1.2.names.map aB).length),(.own 1623 g1.2.1 (s1.2.exprs.map al).length),(.own 1624 g1.2.2.1 (s1.2.aggregates.map ax).length),(.own 1625 g1.2.2.2 (s1.2.descending.map ay).length),(ac s1.2.count),(ac s1.2.offset),(.list 29 (s1.2.inputs.map ag))]⟩)) 1500 (some ⟨b_rA,(aa s1.1)⟩),upd (upd (upd (upd (fun _=>none) 1625 (some ⟨g1.2.2.2,4,(s1.2.descending.map ay),true⟩)) 1624 (some ⟨g1.2.2.1,85,(s1.2.aggregates.map ax),true⟩)) 1623 (some ⟨g1.2.1,82,(s1.2.exprs.map al),true⟩)) 1622 (some ⟨g1.1,9,(s1.2.names.map aB),true⟩)⟩) (gz5_1622,gz5_1623,gz5_1624,gz5_1625) H1 Gh.d (fun m1 s1 g1 hr1=>?_)
  obtain⟨fb1,H,hg1⟩:=dI hr1
  refine ak (ak (ae (aC tk rfl ?_)))
  obtain⟨x7,h7,H⟩:=aM H
  have s7:=az b_rA s1.1 ([44]:List UInt8) _ h7;refine bf (g:=52) rfl rfl rfl Tryz.call52 [(1500,1500)] [] rfl rfl rfl rfl (cX.of2 (dC.cons gN.boxT (dC.cons (gN.of_eq rfl) dC.nil))) (by rw[aN,aR,aS];rfl) s7 ?_;rintro u7 H7h ⟨rfl,rfl⟩
  refine⟨_,rfl,?_⟩
  refine aE (st':=⟨_,_,upd (upd (upd (fun _=>none) 1700 (some ⟨b_c0,[(.box 1500 b_rA 0)]⟩)) 1501 (some ⟨b_qA,[(ac s1.2.kind),(.str s1.2.table),(.own 1622 g1.1 (s1.2.names.map aB).length),(.own 1623 g1.2.1 (s1.2.exprs.map al).length),(.own 1624 g1.2.2.1 (s1.2.aggregates.map ax).length),(.own 1625 g1.2.2.2 (s1.2.descending.map ay).length),(ac s1.2.count),(ac s1.2.offset),(.list 29 (s1.2.inputs.map ag))]⟩)) 1500 (some ⟨b_rA,(aa x7.2)⟩),upd (upd (upd (upd (fun _=>none) 1625 (some ⟨g1.2.2.2,4,(s1.2.descending.map ay),true⟩)) 1624 (some ⟨g1.2.2.1,85,(s1.2.aggregates.map ax),true⟩)) 1623 (some ⟨g1.2.1,82,(s1.2.exprs.map al),true⟩)) 1622 (some ⟨g1.1,9,(s1.2.names.map aB),true⟩)⟩) (Gh.le (av _ _) (ab rfl (cX.r) (ab rfl (cX.r) (ab rfl (cX.r) ao))) (aq (aq (aq (aq am))))) ?_;refine af ?_;refine bj rfl H (fun H=>?_) (fun H=>?_)
  ·refine bc (bt (ae (aC tk rfl ?_)))
   obtain⟨y9,h9,X9,H⟩:=cV H
   have s9:=er b_rA b_qA g1.1 g1.2.1 g1.2.2.1 g1.2.2.2 b_c0 x7.2 s1.2 _ h9;refine aH Tryz.call92 [(1500,1500),(1501,1501),(1700,1700)] [(1622,1622),(1623,1623),(1624,1624),(1625,1625)] s9 (pxF (fun e he=>(lvR (X9 e he) hg1 Hp1)) _) ?_;rintro u9 H9h hR9
   obtain⟨x9,⟨gz9_1622,gz9_1623,gz9_1624,gz9_1625,rfl,rfl⟩,H⟩:=H _ _ _ hR9
   refine⟨_,rfl,?_⟩
   refine aE (st':=⟨_,_,upd (upd (upd (fun _=>none) 1700 (some ⟨b_c0,[(.box 1500 b_rA 0)]⟩)) 1501 (some ⟨b_qA,[(ac x9.2.kind),(.str x9.2.table),(.own 1622 gz9_1622 (x9.2.names.map aB).length),(.own 1623 gz9_1623 (x9.2.exprs.map al).length),(.own 1624 gz9_1624 (x9.2.aggregates.map ax).length),(.own 1625 gz9_1625 (x9.2.descending.map ay).length),(ac x9.2.count),(ac x9.2.offset),(.list 29 (x9.2.inputs.map ag))]⟩)) 1500 (some ⟨b_rA,(aa x9.1)⟩),upd (upd (upd (upd (fun _=>none) 1625 (some ⟨gz9_1625,4,(x9.2.descending.map ay),true⟩)) 1624 (some ⟨gz9_1624,85,(x9.2.aggregates.map ax),true⟩)) 1623 (some ⟨gz9_1623,82,(x9.2.exprs.map al),true⟩)) 1622 (some ⟨gz9_1622,9,(x9.2.names.map aB),true⟩)⟩) (Gh.le (av _ _) (ab rfl (cX.r) (ab rfl (cX.r) (ab rfl (cX.r) ao))) (aq (aq (aq (aq am))))) ?_;refine af (cn ?_);obtain rfl:=aF H;refine dE (x9.1,x9.2) (gz9_1622,gz9_1623,gz9_1624,gz9_1625) hg1 Gh.d
  refine dB rfl ?_;obtain rfl:=aF H;refine cb (x7.2,s1.2) (g1.1,g1.2.1,g1.2.2.1,g1.2.2.2) hg1 Gh.d
 have H:=du hn1 Hp1;obtain rfl:=aF H;refine be (st':=⟨10,fun _=>.any,upd (upd (upd (fun _=>none) 1700 (some ⟨b_c0,[(.box 1500 b_rA 0)]⟩)) 1501 (some ⟨b_qA,[(ac s1.2.kind),(.str s1.2.table),(.own 1622 g1.1 (s1.2.names.map aB).length),(.own 1623 g1.2.1 (s1.2.exprs.map al).length),(.own 1624 g1.2.2.1 (s1.2.aggregates.map ax).length),(.own 1625 g1.2.2.2 (s1.2.descending.map ay).length),(ac s1.2.count),(ac s1.2.offset),(.list 29 (s1.2.inputs.map ag))]⟩)) 1500 (some ⟨b_rA,(aa s1.1)⟩),upd (upd (upd (upd (fun _=>none) 1625 (some ⟨g1.2.2.2,4,(s1.2.descending.map ay),true⟩)) 1624 (some ⟨g1.2.2.1,85,(s1.2.aggregates.map ax),true⟩)) 1623 (some ⟨g1.2.1,82,(s1.2.exprs.map al),true⟩)) 1622 (some ⟨g1.1,9,(s1.2.names.map aB),true⟩)⟩) (Gh.le aO (ab rfl (cX.r) (ab rfl (cX.r) (ab rfl (cX.r) ao))) (aq (aq (aq (aq am))))) ?_;refine dG rfl (PLe.q rfl) ⟨_,_,_,_,rfl,rfl⟩
def bU(rA:LQueryparserParser)(q:LQuery):Option (Except Int (LQueryparserParser×LQuery)):=
 aT (bI rA) fun x9=>
 ar (ec 88 q.exprs ([(LExpr.mk 0 [] 0 (LVal.mk 0 0 []) [])]:List LExpr)) fun(x12:List LExpr)=>
 ar (bO x12 (q.exprs.length:Int)) fun(_:LExpr)=>
 cx (x12.set ((q.exprs.length:Int).toNat) x9.1) fun(y1:List LExpr)=>
 aT (aD x9.2 ([97,115]:List UInt8)) fun x17=>
 aT (aU x17) fun x24=>
 ar (ec 16 q.names ([x24.1]:List (List UInt8))) fun(x26:List (List UInt8))=>
 some (.ok (x24.2,(LQuery.mk q.kind q.table x26 y1 q.aggregates q.descending q.count q.offset q.inputs)))
theorem eJ(b_rA:Nat)(b_q:Nat)(g_q_2:OwnRef)(g_q_3:OwnRef)(g_q_4:OwnRef)(g_q_5:OwnRef)(rA:LQueryparserParser)(q:LQuery)(r:Except Int (LQueryparserParser×LQuery))(H:bU rA q=some r):
  aP Tryz.prog 88 [(.box 1500 b_rA 0),(.box 1501 b_q 0)] ⟨upd (upd (fun _=>none) 1501 (some ⟨b_q,[(ac q.kind),(.str q.table),(.own 1622 g_q_2 (q.names.map aB).length),(.own 1623 g_q_3 (q.exprs.map al).length),(.own 1624 g_q_4 (q.aggregates.map ax).length),(.own 1625 g_q_5 (q.descending.map ay).length),(ac q.count),(ac q.offset),(.list 29 (q.inputs.map ag))]⟩)) 1500 (some ⟨b_rA,(aa rA)⟩),upd (upd (upd (upd (fun _=>none) 1625 (some ⟨g_q_5,4,(q.descending.map ay),true⟩)) 1624 (some ⟨g_q_4,85,(q.aggregates.map ax),true⟩)) 1623 (some ⟨g_q_3,82,(q.exprs.map al),true⟩)) 1622 (some ⟨g_q_2,9,(q.names.map aB),true⟩)⟩ (RX r (fun rv u H=>∃gz1_2,∃gz1_3,∃gz1_4,∃gz1_5,u=(.tup [])∧H=⟨upd (upd (fun _=>none) 1501 (some ⟨b_q,[(ac rv.2.kind),(.str rv.2.table),(.own 1622 gz1_2 (rv.2.names.map aB).length),(.own 1623 gz1_3 (rv.2.exprs.map al).length),(.own 1624 gz1_4 (rv.2.aggregates.map ax).length),(.own 1625 gz1_5 (rv.2.descending.map ay).length),(ac rv.2.count),(ac rv.2.offset),(.list 29 (rv.2.inputs.map ag))]⟩)) 1500 (some ⟨b_rA,(aa rv.1)⟩),upd (upd (upd (upd (fun _=>none) 1625 (some ⟨gz1_5,4,(rv.2.descending.map ay),true⟩)) 1624 (some ⟨gz1_4,85,(rv.2.aggregates.map ax),true⟩)) 1623 (some ⟨gz1_3,82,(rv.2.exprs.map al),true⟩)) 1622 (some ⟨gz1_2,9,(rv.2.names.map aB),true⟩)⟩)) (PX 106 r):=by
 unfold bU at H;refine aP.intro Tryz.func88 rfl Tryz.ntmps88 rfl ?_;refine ak ?_;refine fJ (tag:=1622) rfl (fun ho1622=>?_);refine fJ (tag:=1623) rfl (fun ho1623=>?_);refine fJ (tag:=1624) rfl (fun ho1624=>?_);refine fJ (tag:=1625) rfl (fun ho1625=>?_);refine dz tk mok ⟨true,false,[999997,3001501,4000007,999996,5000013]⟩ [0,1,2,3,4,6,7,5,8,9,11,12,13,10] rfl (by decide+kernel) rfl (cm 3 rfl (cL tk ?_));refine cN rfl (kX rfl rfl rfl rfl rfl rfl (zl _) rfl (cN rfl ?_))
 obtain⟨y9,h9,X9,H⟩:=aX H
 have s9:=cE b_rA rA _ h9;refine eA Tryz.call85 [(1500,1500)] [] s9 (X9 _) ?_;rintro u9 H9h hR9
 obtain⟨x9,⟨rfl,rfl⟩,H⟩:=H _ _ _ hR9
 refine⟨_,rfl,?_⟩
 obtain⟨x12,h12,H⟩:=aM H
 have k12:=dW h12;refine jv (rows2':=List.map al ([(LExpr.mk 0 [] 0 (LVal.mk 0 0 []) [])]:List LExpr)) (rows':=List.map al x12) tk rfl rfl rfl rfl rfl rfl rfl rfl rfl rfl rfl rfl rfl rfl (cS.trans (b:=List.map bM [(LExpr.mk 0 [] 0 (LVal.mk 0 0 []) [])]) (cS.cons (kv.cons (gN.of_eq rfl) (kv.cons (gN.of_eq rfl) (kv.cons (gN.of_eq rfl) (kv.cons (gN.of_eq rfl) (kv.cons (gN.of_eq rfl) (kv.cons (gN.of_eq rfl) (kv.cons (gN.nil tk rfl) kv.nil))))))) cS.nil) (cS.of_eq (dl cO [(LExpr.mk 0 [] 0 (LVal.mk 0 0 []) [])]))) (fj k12.1) (fa k12.2.1) (fh k12.2.2) fun g12 ho1623=>?_
 obtain⟨x13,k13,H⟩:=eH H
 refine kV tk rfl rfl rfl rfl rfl rfl rfl rfl ⟨k13.1,(idxLen k13.2)⟩ (idxBlk ho1623 k13.2) rfl (cm 2 rfl (eD rfl rfl rfl rfl rfl rfl rfl rfl rfl rfl rfl rfl ?_))
 obtain⟨y1,hy1,H⟩:=ed H
 refine jU tk rfl rfl rfl rfl rfl rfl rfl rfl rfl (by rw[zl];exact(zg.1 k13.2).1) (PLe.refl _ _) rfl rfl rfl rfl (by decide) (jA cO k13.2 rfl hy1) ?_;refine cQ ?_;refine be (st':=⟨_,_,upd (upd (fun _=>none) 1501 (some ⟨b_q,[(ac q.kind),(.str q.table),(.own 1622 g_q_2 (q.names.map aB).length),(.own 1623 g12 (x12.map al).length),(.own 1624 g_q_4 (q.aggregates.map ax).length),(.own 1625 g_q_5 (q.descending.map ay).length),(ac q.count),(ac q.offset),(.list 29 (q.inputs.map ag))]⟩)) 1500 (some ⟨b_rA,(aa x9.2)⟩),upd (upd (upd (upd (fun _=>none) 1625 (some ⟨g_q_5,4,(q.descending.map ay),true⟩)) 1624 (some ⟨g_q_4,85,(q.aggregates.map ax),true⟩)) 1623 (some ⟨g12,82,(y1.map al),true⟩)) 1622 (some ⟨g_q_2,9,(q.names.map aB),true⟩)⟩) (Gh.le (av _ _) (ab rfl (cX.r) (ab rfl (cX.r) ao)) (aq (aq (aq (aq am))))) ?_;refine ak (ae (aC tk rfl ?_))
 obtain⟨y17,h17,X17,H⟩:=aX H
 have s17:=aK b_rA x9.2 ([97,115]:List UInt8) _ h17;refine aH Tryz.call53 [(1500,1500)] [] s17 (X17 _) ?_;rintro u17 H17h hR17
 obtain⟨x17,⟨rfl,rfl⟩,H⟩:=H _ _ _ hR17
 refine⟨_,rfl,?_⟩
 refine aE (st':=⟨_,_,upd (upd (fun _=>none) 1501 (some ⟨b_q,[(ac q.kind),(.str q.table),(.own 1622 g_q_2 (q.names.map aB).length),(.own 1623 g12 (x12.map al).length),(.own 1624 g_q_4 (q.aggregates.map ax).length),(.own 1625 g_q_5 (q.descending.map ay).length),(ac q.count),(ac q.offset),(.list 29 (q.inputs.map ag))]⟩)) 1500 (some ⟨b_rA,(aa x17)⟩),upd (upd (upd (upd (fun _=>none) 1625 (some ⟨g_q_5,4,(q.descending.map ay),true⟩)) 1624 (some ⟨g_q_4,85,(q.aggregates.map ax),true⟩)) 1623 (some ⟨g12,82,(y1.map al),true⟩)) 1622 (some ⟨g_q_2,9,(q.names.map aB),true⟩)⟩) (Gh.le (av _ _) (ab rfl (cX.r) (ab rfl (cX.r) ao)) (aq (aq (aq (aq am))))) ?_;refine af (dz tk mok ⟨true,false,[999997,3001501,4000022]⟩ [0,1,2,3,4,5,6,7,8,9,10,11] rfl (by decide+kernel) rfl (cm 4 rfl (cL tk ?_)));refine cN rfl ?_
 obtain⟨y24,h24,X24,H⟩:=aX H
 have s24:=bQ b_rA x17 _ h24;refine eA Tryz.call54 [(1500,1500)] [] s24 (X24 _) ?_;rintro u24 H24h hR24
 obtain⟨x24,⟨rfl,rfl⟩,H⟩:=H _ _ _ hR24
 refine⟨_,rfl,?_⟩
 refine cN rfl ?_
 obtain⟨x26,h26,H⟩:=aM H
 have k26:=dW h26;refine fH (rows2':=List.map aB ([x24.1]:List (List UInt8))) (rows':=List.map aB x26) tk rfl rfl rfl rfl rfl rfl rfl rfl rfl rfl rfl rfl rfl rfl (cS.refl _) (fj k26.1) (fa k26.2.1) (fh k26.2.2) fun g26=>?_
 refine cm 2 rfl (eD rfl rfl rfl rfl rfl rfl rfl rfl rfl rfl rfl rfl (cQ ?_));refine be (st':=⟨_,_,upd (upd (fun _=>none) 1501 (some ⟨b_q,[(ac q.kind),(.str q.table),(.own 1622 g26 (x26.map aB).length),(.own 1623 g12 (x12.map al).length),(.own 1624 g_q_4 (q.aggregates.map ax).length),(.own 1625 g_q_5 (q.descending.map ay).length),(ac q.count),(ac q.offset),(.list 29 (q.inputs.map ag))]⟩)) 1500 (some ⟨b_rA,(aa x24.2)⟩),upd (upd (upd (upd (fun _=>none) 1625 (some ⟨g_q_5,4,(q.descending.map ay),true⟩)) 1624 (some ⟨g_q_4,85,(q.aggregates.map ax),true⟩)) 1623 (some ⟨g12,82,(y1.map al),true⟩)) 1622 (some ⟨g26,9,(x26.map aB),true⟩)⟩) (Gh.le (av _ _) (ab rfl (cX.r) (ab rfl (cX.r) ao)) (aq (aq (aq (aq am))))) ?_;obtain rfl:=aF H;refine be (st':=⟨29,fun _=>.any,upd (upd (fun _=>none) 1501 (some ⟨b_q,[(ac ((LQuery.mk q.kind q.table x26 y1 q.aggregates q.descending q.count q.offset q.inputs).kind)),(.str ((LQuery.mk q.kind q.table x26 y1 q.aggregates q.descending q.count q.offset q.inputs).table)),(.own 1622 g26 (x26.map aB).length),(.own 1623 g12 (y1.map al).length),(.own 1624 g_q_4 (q.aggregates.map ax).length),(.own 1625 g_q_5 (q.descending.map ay).length),(ac ((LQuery.mk q.kind q.table x26 y1 q.aggregates q.descending q.count q.offset q.inputs).count)),(ac ((LQuery.mk q.kind q.table x26 y1 q.aggregates q.descending q.count q.offset q.inputs).offset)),(.list 29 (((LQuery.mk q.kind q.table x26 y1 q.aggregates q.descending q.count q.offset q.inputs).inputs).map ag))]⟩)) 1500 (some ⟨b_rA,(aa x24.2)⟩),upd (upd (upd (upd (fun _=>none) 1625 (some ⟨g_q_5,4,(q.descending.map ay),true⟩)) 1624 (some ⟨g_q_4,85,(q.aggregates.map ax),true⟩)) 1623 (some ⟨g12,82,(y1.map al),true⟩)) 1622 (some ⟨g26,9,(x26.map aB),true⟩)⟩) (Gh.le aO (ab rfl (cX.r) (ab rfl (cX.of2 (dC.cons (gN.of_eq rfl) (dC.cons (gN.of_eq rfl) (dC.cons (gN.of_eq rfl) (dC.cons (gN.own (set_len (f:=al) hy1)) (dC.cons (gN.of_eq rfl) (dC.cons (gN.of_eq rfl) (dC.cons (gN.of_eq rfl) (dC.cons (gN.of_eq rfl) (dC.cons (gN.of_eq rfl) dC.nil)))))))))) ao)) (aq (aq (aq (aq am))))) ?_;refine dG rfl (PLe.q rfl) ⟨_,_,_,_,rfl,rfl⟩
def bC(rA:LQueryparserParser)(qA:LQuery):Option (Except Int (LQueryparserParser×LQuery)):=
 aT (aU rA) fun x4=>
 aT (aD x4.2 ([40]:List UInt8)) fun x7=>
 ar (ah x7 ([41]:List UInt8)) fun x9=>
 ar (
  cond (!x9.1)
   (ci (bI x9.2) fun x12=>
   ci (aD x12.2 ([41]:List UInt8)) fun x16=>
   some (.next ([x12.1],x16)))
   (some (.next ([],x9.2)))) fun(fl1:Flow (List LExpr×LQueryparserParser) (Except Int (LQueryparserParser×LQuery)))=>fl1.thenR fun t1=>
 aT (aD t1.2 ([97,115]:List UInt8)) fun x18=>
 aT (aU x18) fun x20=>
 ar (ec 56 qA.aggregates ([(LAggregateCall.mk x20.1 x4.1 t1.1)]:List LAggregateCall)) fun(x29:List LAggregateCall)=>
 some (.ok (x20.2,(LQuery.mk qA.kind qA.table qA.names qA.exprs x29 qA.descending qA.count qA.offset qA.inputs)))
theorem ej(b_rA:Nat)(b_qA:Nat)(g_qA_2:OwnRef)(g_qA_3:OwnRef)(g_qA_4:OwnRef)(g_qA_5:OwnRef)(b_c0:Nat)(b_c1:Nat)(rA:LQueryparserParser)(qA:LQuery)(r:Except Int (LQueryparserParser×LQuery))(H:bC rA qA=some r):
  aP Tryz.prog 135 [(.box 1700 b_c0 0),(.box 1701 b_c1 0)] ⟨upd (upd (upd (upd (fun _=>none) 1701 (some ⟨b_c1,[(.box 1501 b_qA 0)]⟩)) 1700 (some ⟨b_c0,[(.box 1500 b_rA 0)]⟩)) 1501 (some ⟨b_qA,[(ac qA.kind),(.str qA.table),(.own 1622 g_qA_2 (qA.names.map aB).length),(.own 1623 g_qA_3 (qA.exprs.map al).length),(.own 1624 g_qA_4 (qA.aggregates.map ax).length),(.own 1625 g_qA_5 (qA.descending.map ay).length),(ac qA.count),(ac qA.offset),(.list 29 (qA.inputs.map ag))]⟩)) 1500 (some ⟨b_rA,(aa rA)⟩),upd (upd (upd (upd (fun _=>none) 1625 (some ⟨g_qA_5,4,(qA.descending.map ay),true⟩)) 1624 (some ⟨g_qA_4,85,(qA.aggregates.map ax),true⟩)) 1623 (some ⟨g_qA_3,82,(qA.exprs.map al),true⟩)) 1622 (some ⟨g_qA_2,9,(qA.names.map aB),true⟩)⟩ (RX r (fun rv u H=>∃gz1_2,∃gz1_3,∃gz1_4,∃gz1_5,u=(.tup [])∧H=⟨upd (upd (upd (upd (fun _=>none) 1701 (some ⟨b_c1,[(.box 1501 b_qA 0)]⟩)) 1700 (some ⟨b_c0,[(.box 1500 b_rA 0)]⟩)) 1501 (some ⟨b_qA,[(ac rv.2.kind),(.str rv.2.table),(.own 1622 gz1_2 (rv.2.names.map aB).length),(.own 1623 gz1_3 (rv.2.exprs.map al).length),(.own 1624 gz1_4 (rv.2.aggregates.map ax).length),(.own 1625 gz1_5 (rv.2.descending.map ay).length),(ac rv.2.count),(ac rv.2.offset),(.list 29 (rv.2.inputs.map ag))]⟩)) 1500 (some ⟨b_rA,(aa rv.1)⟩),upd (upd (upd (upd (fun _=>none) 1625 (some ⟨gz1_5,4,(rv.2.descending.map ay),true⟩)) 1624 (some ⟨gz1_4,85,(rv.2.aggregates.map ax),true⟩)) 1623 (some ⟨gz1_3,82,(rv.2.exprs.map al),true⟩)) 1622 (some ⟨gz1_2,9,(rv.2.names.map aB),true⟩)⟩)) (PX 106 r):=by
 unfold bC at H;refine aP.intro Tryz.func135 rfl Tryz.ntmps135 rfl ?_;refine ak (ae (aw tk ?_))
 obtain⟨y4,h4,X4,H⟩:=aX H
 have s4:=bQ b_rA rA _ h4;refine aH Tryz.call54 [(1500,1500)] [] s4 (X4 _) ?_;rintro u4 H4h hR4
 obtain⟨x4,⟨rfl,rfl⟩,H⟩:=H _ _ _ hR4
 refine⟨_,rfl,?_⟩
 refine aE (st':=⟨_,_,upd (upd (upd (upd (fun _=>none) 1701 (some ⟨b_c1,[(.box 1501 b_qA 0)]⟩)) 1700 (some ⟨b_c0,[(.box 1500 b_rA 0)]⟩)) 1501 (some ⟨b_qA,[(ac qA.kind),(.str qA.table),(.own 1622 g_qA_2 (qA.names.map aB).length),(.own 1623 g_qA_3 (qA.exprs.map al).length),(.own 1624 g_qA_4 (qA.aggregates.map ax).length),(.own 1625 g_qA_5 (qA.descending.map ay).length),(ac qA.count),(ac qA.offset),(.list 29 (qA.inputs.map ag))]⟩)) 1500 (some ⟨b_rA,(aa x4.2)⟩),upd (upd (upd (upd (fun _=>none) 1625 (some ⟨g_qA_5,4,(qA.descending.map ay),true⟩)) 1624 (some ⟨g_qA_4,85,(qA.aggregates.map ax),true⟩)) 1623 (some ⟨g_qA_3,82,(qA.exprs.map al),true⟩)) 1622 (some ⟨g_qA_2,9,(qA.names.map aB),true⟩)⟩) (Gh.le (av _ _) (ab rfl (cX.r) (ab rfl (cX.r) (ab rfl (cX.r) (ab rfl (cX.r) ao)))) (aq (aq (aq (aq am))))) ?_;refine aC tk rfl ?_;refine aV tk fun b2=>?_
 refine ap tk ?_;refine af (ak (ae (aw tk ?_)))
 obtain⟨y7,h7,X7,H⟩:=aX H
 have s7:=aK b_rA x4.2 ([40]:List UInt8) _ h7;refine aH Tryz.call53 [(1500,1500)] [] s7 (X7 _) ?_;rintro u7 H7h hR7
 obtain⟨x7,⟨rfl,rfl⟩,H⟩:=H _ _ _ hR7
 refine⟨_,rfl,?_⟩
 refine aE (st':=⟨_,_,upd (upd (upd (upd (upd (fun _=>none) 1701 (some ⟨b_c1,[(.box 1501 b_qA 0)]⟩)) 1700 (some ⟨b_c0,[(.box 1500 b_rA 0)]⟩)) 1501 (some ⟨b_qA,[(ac qA.kind),(.str qA.table),(.own 1622 g_qA_2 (qA.names.map aB).length),(.own 1623 g_qA_3 (qA.exprs.map al).length),(.own 1624 g_qA_4 (qA.aggregates.map ax).length),(.own 1625 g_qA_5 (qA.descending.map ay).length),(ac qA.count),(ac qA.offset),(.list 29 (qA.inputs.map ag))]⟩)) 1500 (some ⟨b_rA,(aa x7)⟩)) 2 (some ⟨b2,[(.str []),(.str x4.1),(.val (.slice none 0 0))]⟩),upd (upd (upd (upd (fun _=>none) 1625 (some ⟨g_qA_5,4,(qA.descending.map ay),true⟩)) 1624 (some ⟨g_qA_4,85,(qA.aggregates.map ax),true⟩)) 1623 (some ⟨g_qA_3,82,(qA.exprs.map al),true⟩)) 1622 (some ⟨g_qA_2,9,(qA.names.map aB),true⟩)⟩) (Gh.le (av _ _) (ab rfl (cX.r) (ab rfl (cX.r) (ab rfl (cX.r) (ab rfl (cX.r) (ab rfl (cX.r) ao))))) (aq (aq (aq (aq am))))) ?_;refine af (ak (ak (ae (aw tk ?_))))
 obtain⟨x9,h9,H⟩:=aM H
 have s9:=az b_rA x7 ([41]:List UInt8) _ h9;refine bf (g:=52) rfl rfl rfl Tryz.call52 [(1500,1500)] [] rfl rfl rfl rfl (cX.of2 (dC.cons gN.boxT (dC.cons (gN.of_eq rfl) dC.nil))) (by rw[aN,aR,aS];rfl) s9 ?_;rintro u9 H9h ⟨rfl,rfl⟩
 refine⟨_,rfl,?_⟩
 refine aE (st':=⟨_,_,upd (upd (upd (upd (upd (fun _=>none) 1701 (some ⟨b_c1,[(.box 1501 b_qA 0)]⟩)) 1700 (some ⟨b_c0,[(.box 1500 b_rA 0)]⟩)) 1501 (some ⟨b_qA,[(ac qA.kind),(.str qA.table),(.own 1622 g_qA_2 (qA.names.map aB).length),(.own 1623 g_qA_3 (qA.exprs.map al).length),(.own 1624 g_qA_4 (qA.aggregates.map ax).length),(.own 1625 g_qA_5 (qA.descending.map ay).length),(ac qA.count),(ac qA.offset),(.list 29 (qA.inputs.map ag))]⟩)) 1500 (some ⟨b_rA,(aa x9.2)⟩)) 2 (some ⟨b2,[(.str []),(.str x4.1),(.val (.slice none 0 0))]⟩),upd (upd (upd (upd (fun _=>none) 1625 (some ⟨g_qA_5,4,(qA.descending.map ay),true⟩)) 1624 (some ⟨g_qA_4,85,(qA.aggregates.map ax),true⟩)) 1623 (some ⟨g_qA_3,82,(qA.exprs.map al),true⟩)) 1622 (some ⟨g_qA_2,9,(qA.names.map aB),true⟩)⟩) (Gh.le (av _ _) (ab rfl (cX.r) (ab rfl (cX.r) (ab rfl (cX.r) (ab rfl (cX.r) (ab rfl (cX.r) ao))))) (aq (aq (aq (aq am))))) ?_;refine aC tk rfl (af ?_);refine jO (γ:=Unit) (fun t1 g1=>⟨32,upd (upd (upd (fun _=>.any) 2 (.box 2 b2 0)) 1 (.box 1701 b_c1 0)) 0 (.box 1700 b_c0 0),upd (upd (upd (upd (upd (fun _=>none) 1701 (some ⟨b_c1,[(.box 1501 b_qA 0)]⟩)) 1700 (some ⟨b_c0,[(.box 1500 b_rA 0)]⟩)) 1501 (some ⟨b_qA,[(ac qA.kind),(.str qA.table),(.own 1622 g_qA_2 (qA.names.map aB).length),(.own 1623 g_qA_3 (qA.exprs.map al).length),(.own 1624 g_qA_4 (qA.aggregates.map ax).length),(.own 1625 g_qA_5 (qA.descending.map ay).length),(ac qA.count),(ac qA.offset),(.list 29 (qA.inputs.map ag))]⟩)) 1500 (some ⟨b_rA,(aa t1.2)⟩)) 2 (some ⟨b2,[(.str []),(.str x4.1),(.list 82 (t1.1.map al))]⟩),upd (upd (upd (upd (fun _=>none) 1625 (some ⟨g_qA_5,4,(qA.descending.map ay),true⟩)) 1624 (some ⟨g_qA_4,85,(qA.aggregates.map ax),true⟩)) 1623 (some ⟨g_qA_3,82,(qA.exprs.map al),true⟩)) 1622 (some ⟨g_qA_2,9,(qA.names.map aB),true⟩)⟩) H (fun _ H Hp1=>?_) (fun t1 g1 H=>?_)
 ·refine bj rfl H (fun H=>?_) (fun H=>?_)
  ·refine ak (ae (aw tk ?_))
   obtain⟨y12,h12,X12,H⟩:=cV H
   have s12:=cE b_rA x9.2 _ h12;refine aH Tryz.call85 [(1500,1500)] [] s12 (pxF (fun e he=>(lvJ (X12 e he) Hp1)) _) ?_;rintro u12 H12h hR12
   obtain⟨x12,⟨rfl,rfl⟩,H⟩:=H _ _ _ hR12
   refine⟨_,rfl,?_⟩
   refine aE (st':=⟨_,_,upd (upd (upd (upd (upd (fun _=>none) 1701 (some ⟨b_c1,[(.box 1501 b_qA 0)]⟩)) 1700 (some ⟨b_c0,[(.box 1500 b_rA 0)]⟩)) 1501 (some ⟨b_qA,[(ac qA.kind),(.str qA.table),(.own 1622 g_qA_2 (qA.names.map aB).length),(.own 1623 g_qA_3 (qA.exprs.map al).length),(.own 1624 g_qA_4 (qA.aggregates.map ax).length),(.own 1625 g_qA_5 (qA.descending.map ay).length),(ac qA.count),(ac qA.offset),(.list 29 (qA.inputs.map ag))]⟩)) 1500 (some ⟨b_rA,(aa x12.2)⟩)) 2 (some ⟨b2,[(.str []),(.str x4.1),(.val (.slice none 0 0))]⟩),upd (upd (upd (upd (fun _=>none) 1625 (some ⟨g_qA_5,4,(qA.descending.map ay),true⟩)) 1624 (some ⟨g_qA_4,85,(qA.aggregates.map ax),true⟩)) 1623 (some ⟨g_qA_3,82,(qA.exprs.map al),true⟩)) 1622 (some ⟨g_qA_2,9,(qA.names.map aB),true⟩)⟩) (Gh.le (av _ _) (ab rfl (cX.r) (ab rfl (cX.r) (ab rfl (cX.r) (ab rfl (cX.r) (ab rfl (cX.r) ao))))) (aq (aq (aq (aq am))))) ?_;refine je tk (rows':=List.map al ([x12.1]:List LExpr)) rfl (cS.trans (b:=List.map bM [x12.1]) (cS.refl _) (cS.of_eq (dl cO [x12.1]))) ?_;refine aC tk rfl (ap tk ?_);refine af (ae (aw tk ?_))
   obtain⟨y16,h16,X16,H⟩:=cV H
   have s16:=aK b_rA x12.2 ([41]:List UInt8) _ h16;refine aH Tryz.call53 [(1500,1500)] [] s16 (pxF (fun e he=>(lvJ (X16 e he) Hp1)) _) ?_;rintro u16 H16h hR16
   obtain⟨x16,⟨rfl,rfl⟩,H⟩:=H _ _ _ hR16
   refine⟨_,rfl,?_⟩
   refine aE (st':=⟨_,_,upd (upd (upd (upd (upd (fun _=>none) 1701 (some ⟨b_c1,[(.box 1501 b_qA 0)]⟩)) 1700 (some ⟨b_c0,[(.box 1500 b_rA 0)]⟩)) 1501 (some ⟨b_qA,[(ac qA.kind),(.str qA.table),(.own 1622 g_qA_2 (qA.names.map aB).length),(.own 1623 g_qA_3 (qA.exprs.map al).length),(.own 1624 g_qA_4 (qA.aggregates.map ax).length),(.own 1625 g_qA_5 (qA.descending.map ay).length),(ac qA.count),(ac qA.offset),(.list 29 (qA.inputs.map ag))]⟩)) 1500 (some ⟨b_rA,(aa x16)⟩)) 2 (some ⟨b2,[(.str []),(.str x4.1),(.list 82 (([x12.1]:List LExpr).map al))]⟩),upd (upd (upd (upd (fun _=>none) 1625 (some ⟨g_qA_5,4,(qA.descending.map ay),true⟩)) 1624 (some ⟨g_qA_4,85,(qA.aggregates.map ax),true⟩)) 1623 (some ⟨g_qA_3,82,(qA.exprs.map al),true⟩)) 1622 (some ⟨g_qA_2,9,(qA.names.map aB),true⟩)⟩) (Gh.le (av _ _) (ab rfl (cX.r) (ab rfl (cX.r) (ab rfl (cX.r) (ab rfl (cX.r) (ab rfl (cX.r) ao))))) (aq (aq (aq (aq am))))) ?_;refine af ?_;refine cb _ () (aF H).symm Gh.d
  refine bc ?_;refine cb _ () (aF H).symm (Gh.le (bg (bg (bg aO))) (ab rfl (cX.of2 (dC.cons (gN.of_eq rfl) (dC.cons (gN.of_eq rfl) (dC.cons (gN.nil tk rfl) dC.nil)))) (ab rfl (cX.r) (ab rfl (cX.r) (ab rfl (cX.r) (ab rfl (cX.r) ao))))) (aq (aq (aq (aq am)))))
 refine ak (ae (aw tk ?_))
 obtain⟨y18,h18,X18,H⟩:=aX H
 have s18:=aK b_rA t1.2 ([97,115]:List UInt8) _ h18;refine aH Tryz.call53 [(1500,1500)] [] s18 (X18 _) ?_;rintro u18 H18h hR18
 obtain⟨x18,⟨rfl,rfl⟩,H⟩:=H _ _ _ hR18
 refine⟨_,rfl,?_⟩
 refine aE (st':=⟨_,_,upd (upd (upd (upd (upd (fun _=>none) 1701 (some ⟨b_c1,[(.box 1501 b_qA 0)]⟩)) 1700 (some ⟨b_c0,[(.box 1500 b_rA 0)]⟩)) 1501 (some ⟨b_qA,[(ac qA.kind),(.str qA.table),(.own 1622 g_qA_2 (qA.names.map aB).length),(.own 1623 g_qA_3 (qA.exprs.map al).length),(.own 1624 g_qA_4 (qA.aggregates.map ax).length),(.own 1625 g_qA_5 (qA.descending.map ay).length),(ac qA.count),(ac qA.offset),(.list 29 (qA.inputs.map ag))]⟩)) 1500 (some ⟨b_rA,(aa x18)⟩)) 2 (some ⟨b2,[(.str []),(.str x4.1),(.list 82 (t1.1.map al))]⟩),upd (upd (upd (upd (fun _=>none) 1625 (some ⟨g_qA_5,4,(qA.descending.map ay),true⟩)) 1624 (some ⟨g_qA_4,85,(qA.aggregates.map ax),true⟩)) 1623 (some ⟨g_qA_3,82,(qA.exprs.map al),true⟩)) 1622 (some ⟨g_qA_2,9,(qA.names.map aB),true⟩)⟩) (Gh.le (av _ _) (ab rfl (cX.r) (ab rfl (cX.r) (ab rfl (cX.r) (ab rfl (cX.r) (ab rfl (cX.r) ao))))) (aq (aq (aq (aq am))))) ?_;refine af (ak (ae (aw tk ?_)))
 obtain⟨y20,h20,X20,H⟩:=aX H
 have s20:=bQ b_rA x18 _ h20;refine aH Tryz.call54 [(1500,1500)] [] s20 (X20 _) ?_;rintro u20 H20h hR20
 obtain⟨x20,⟨rfl,rfl⟩,H⟩:=H _ _ _ hR20
 refine⟨_,rfl,?_⟩
 refine aE (st':=⟨_,_,upd (upd (upd (upd (upd (fun _=>none) 1701 (some ⟨b_c1,[(.box 1501 b_qA 0)]⟩)) 1700 (some ⟨b_c0,[(.box 1500 b_rA 0)]⟩)) 1501 (some ⟨b_qA,[(ac qA.kind),(.str qA.table),(.own 1622 g_qA_2 (qA.names.map aB).length),(.own 1623 g_qA_3 (qA.exprs.map al).length),(.own 1624 g_qA_4 (qA.aggregates.map ax).length),(.own 1625 g_qA_5 (qA.descending.map ay).length),(ac qA.count),(ac qA.offset),(.list 29 (qA.inputs.map ag))]⟩)) 1500 (some ⟨b_rA,(aa x20.2)⟩)) 2 (some ⟨b2,[(.str []),(.str x4.1),(.list 82 (t1.1.map al))]⟩),upd (upd (upd (upd (fun _=>none) 1625 (some ⟨g_qA_5,4,(qA.descending.map ay),true⟩)) 1624 (some ⟨g_qA_4,85,(qA.aggregates.map ax),true⟩)) 1623 (some ⟨g_qA_3,82,(qA.exprs.map al),true⟩)) 1622 (some ⟨g_qA_2,9,(qA.names.map aB),true⟩)⟩) (Gh.le (av _ _) (ab rfl (cX.r) (ab rfl (cX.r) (ab rfl (cX.r) (ab rfl (cX.r) (ab rfl (cX.r) ao))))) (aq (aq (aq (aq am))))) ?_;refine aC tk rfl (ap tk ?_);refine af (dz tk mok ⟨true,false,[]⟩ [0,1,2,3,4,5,6,7,8,9,10] rfl (by decide+kernel) rfl (cW ?_));refine cW ?_;refine cm 2 rfl (cW ?_);refine cW ?_;refine cN rfl ?_
 obtain⟨x29,h29,H⟩:=aM H
 have k29:=dW h29;refine fH (rows2':=List.map ax ([(LAggregateCall.mk x20.1 x4.1 t1.1)]:List LAggregateCall)) (rows':=List.map ax x29) tk rfl rfl rfl rfl rfl rfl rfl rfl rfl rfl rfl rfl rfl rfl (cS.refl _) (fj k29.1) (fa k29.2.1) (fh k29.2.2) fun g29=>?_
 refine cm 2 rfl (eD rfl rfl rfl rfl rfl rfl rfl rfl rfl rfl rfl rfl (cQ ?_));obtain rfl:=aF H;refine be (st':=⟨32,fun _=>.any,upd (upd (upd (upd (fun _=>none) 1701 (some ⟨b_c1,[(.box 1501 b_qA 0)]⟩)) 1700 (some ⟨b_c0,[(.box 1500 b_rA 0)]⟩)) 1501 (some ⟨b_qA,[(ac ((LQuery.mk qA.kind qA.table qA.names qA.exprs x29 qA.descending qA.count qA.offset qA.inputs).kind)),(.str ((LQuery.mk qA.kind qA.table qA.names qA.exprs x29 qA.descending qA.count qA.offset qA.inputs).table)),(.own 1622 g_qA_2 (qA.names.map aB).length),(.own 1623 g_qA_3 (qA.exprs.map al).length),(.own 1624 g29 (x29.map ax).length),(.own 1625 g_qA_5 (qA.descending.map ay).length),(ac ((LQuery.mk qA.kind qA.table qA.names qA.exprs x29 qA.descending qA.count qA.offset qA.inputs).count)),(ac ((LQuery.mk qA.kind qA.table qA.names qA.exprs x29 qA.descending qA.count qA.offset qA.inputs).offset)),(.list 29 (((LQuery.mk qA.kind qA.table qA.names qA.exprs x29 qA.descending qA.count qA.offset qA.inputs).inputs).map ag))]⟩)) 1500 (some ⟨b_rA,(aa x20.2)⟩),upd (upd (upd (upd (fun _=>none) 1625 (some ⟨g_qA_5,4,(qA.descending.map ay),true⟩)) 1624 (some ⟨g29,85,(x29.map ax),true⟩)) 1623 (some ⟨g_qA_3,82,(qA.exprs.map al),true⟩)) 1622 (some ⟨g_qA_2,9,(qA.names.map aB),true⟩)⟩) (Gh.le aO (ab rfl (cX.r) (ab rfl (cX.r) (ab rfl (cX.r) (ab rfl (cX.r) ao)))) (aq (aq (aq (aq am))))) ?_;refine dG rfl (PLe.q rfl) ⟨_,_,_,_,rfl,rfl⟩
def bY(rA:LQueryparserParser)(qA:LQuery):Option (Except Int (LQueryparserParser×LQuery)):=
 aT (bC rA qA) fun x5=>
 ar (cR (σ:=LQueryparserParser×LQuery) (ρ:=(Except Int (LQueryparserParser×LQuery))) (fun(s1:LQueryparserParser×LQuery)=>
  ar (ah s1.1 ([44]:List UInt8)) fun x7=>
  cond x7.1
   (ci (bC x7.2 s1.2) fun x9=>
   some (.next (x9.1,x9.2)))
   (some (.brk (x7.2,s1.2)))) (x5.1,x5.2)) fun fl1=>fl1.thenR fun(s1:LQueryparserParser×LQuery)=>
 some (.ok (s1.1,s1.2))
theorem fU(b_rA:Nat)(b_qA:Nat)(g_qA_2:OwnRef)(g_qA_3:OwnRef)(g_qA_4:OwnRef)(g_qA_5:OwnRef)(b_c0:Nat)(b_c1:Nat)(rA:LQueryparserParser)(qA:LQuery)(r:Except Int (LQueryparserParser×LQuery))(H:bY rA qA=some r):
  aP Tryz.prog 86 [(.box 1500 b_rA 0),(.fn 135 [(.box 1700 b_c0 0),(.box 1701 b_c1 0)])] ⟨upd (upd (upd (upd (fun _=>none) 1701 (some ⟨b_c1,[(.box 1501 b_qA 0)]⟩)) 1700 (some ⟨b_c0,[(.box 1500 b_rA 0)]⟩)) 1501 (some ⟨b_qA,[(ac qA.kind),(.str qA.table),(.own 1622 g_qA_2 (qA.names.map aB).length),(.own 1623 g_qA_3 (qA.exprs.map al).length),(.own 1624 g_qA_4 (qA.aggregates.map ax).length),(.own 1625 g_qA_5 (qA.descending.map ay).length),(ac qA.count),(ac qA.offset),(.list 29 (qA.inputs.map ag))]⟩)) 1500 (some ⟨b_rA,(aa rA)⟩),upd (upd (upd (upd (fun _=>none) 1625 (some ⟨g_qA_5,4,(qA.descending.map ay),true⟩)) 1624 (some ⟨g_qA_4,85,(qA.aggregates.map ax),true⟩)) 1623 (some ⟨g_qA_3,82,(qA.exprs.map al),true⟩)) 1622 (some ⟨g_qA_2,9,(qA.names.map aB),true⟩)⟩ (RX r (fun rv u H=>∃gz1_2,∃gz1_3,∃gz1_4,∃gz1_5,u=(.tup [])∧H=⟨upd (upd (upd (upd (fun _=>none) 1701 (some ⟨b_c1,[(.box 1501 b_qA 0)]⟩)) 1700 (some ⟨b_c0,[(.box 1500 b_rA 0)]⟩)) 1501 (some ⟨b_qA,[(ac rv.2.kind),(.str rv.2.table),(.own 1622 gz1_2 (rv.2.names.map aB).length),(.own 1623 gz1_3 (rv.2.exprs.map al).length),(.own 1624 gz1_4 (rv.2.aggregates.map ax).length),(.own 1625 gz1_5 (rv.2.descending.map ay).length),(ac rv.2.count),(ac rv.2.offset),(.list 29 (rv.2.inputs.map ag))]⟩)) 1500 (some ⟨b_rA,(aa rv.1)⟩),upd (upd (upd (upd (fun _=>none) 1625 (some ⟨gz1_5,4,(rv.2.descending.map ay),true⟩)) 1624 (some ⟨gz1_4,85,(rv.2.aggregates.map ax),true⟩)) 1623 (some ⟨gz1_3,82,(rv.2.exprs.map al),true⟩)) 1622 (some ⟨gz1_2,9,(rv.2.names.map aB),true⟩)⟩)) (PX 106 r):=by
 unfold bY at H;refine aP.intro Tryz.func86 rfl Tryz.ntmps86 rfl ?_;refine ak (ae (aC tk rfl ?_))
 obtain⟨y5,h5,X5,H⟩:=aX H
 have s5:=ej b_rA b_qA g_qA_2 g_qA_3 g_qA_4 g_qA_5 b_c0 b_c1 rA qA _ h5;refine aH Tryz.call135 [(1500,1500),(1501,1501),(1700,1700),(1701,1701)] [(1622,1622),(1623,1623),(1624,1624),(1625,1625)] s5 (X5 _) ?_;rintro u5 H5h hR5
 obtain⟨x5,⟨gz5_1622,gz5_1623,gz5_1624,gz5_1625,rfl,rfl⟩,H⟩:=H _ _ _ hR5
 refine⟨_,rfl,?_⟩
 refine aE (st':=⟨_,_,upd (upd (upd (upd (fun _=>none) 1701 (some ⟨b_c1,[(.box 1501 b_qA 0)]⟩)) 1700 (some ⟨b_c0,[(.box 1500 b_rA 0)]⟩)) 1501 (some ⟨b_qA,[(ac x5.2.kind),(.str x5.2.table),(.own 1622 gz5_1622 (x5.2.names.map aB).length),(.own 1623 gz5_1623 (x5.2.exprs.map al).length),(.own 1624 gz5_1624 (x5.2.aggregates.map ax).length),(.own 1625 gz5_1625 (x5.2.descending.map ay).length),(ac x5.2.count),(ac x5.2.offset),(.list 29 (x5.2.inputs.map ag))]⟩)) 1500 (some ⟨b_rA,(aa x5.1)⟩),upd (upd (upd (upd (fun _=>none) 1625 (some ⟨gz5_1625,4,(x5.2.descending.map ay),true⟩)) 1624 (some ⟨gz5_1624,85,(x5.2.aggregates.map ax),true⟩)) 1623 (some ⟨gz5_1623,82,(x5.2.exprs.map al),true⟩)) 1622 (some ⟨gz5_1622,9,(x5.2.names.map aB),true⟩)⟩) (Gh.le (av _ _) (ab rfl (cX.r) (ab rfl (cX.r) (ab rfl (cX.r) (ab rfl (cX.r) ao)))) (aq (aq (aq (aq am))))) ?_;refine af ?_
 obtain⟨fl1,H1,Hp1⟩:=aM H
 refine ef (τ:=LQueryparserParser×LQuery) (γ:=OwnRef×OwnRef×OwnRef×OwnRef) (fun s1 g1=>⟨10,upd (upd (fun _=>.any) 1 (.fn 135 [(.box 1700 b_c0 0),(.box 1701 b_c1 0)])) 0 (.box 1500 b_rA 0),upd (upd (upd (upd (fun _=>none) 1701 (some ⟨b_c1,[(.box 1501 b_qA 0)]⟩)) 1700 (some ⟨b_c0,[(.box 1500 b_rA 0)]⟩)) 1501 (some ⟨b_qA,[(ac s1.2.kind),(.str s1.2.table),(.own 1622 g1.1 (s1.2.names.map aB).length),(.own 1623 g1.2.1 (s1.2.exprs.map al).length),(.own 1624 g1.2.2.1 (s1.2.aggregates.map ax).length),(.own 1625 g1.2.2.2 (s1.2.descending.map ay).length),(ac s1.2.count),(ac s1.2.offset),(.list 29 (s1.2.inputs.map ag))]⟩)) 1500 (some ⟨b_rA,(aa s1.1)⟩),upd (upd (upd (upd (fun _=>none) 1625 (some ⟨g1.2.2.2,4,(s1.2.descending.map ay),true⟩)) 1624 (some ⟨g1.2.2.1,85,(s1.2.aggregates.map ax),true⟩)) 1623 (some ⟨g1.2.1,82,(s1.2.exprs.map al),true⟩)) 1622 (some ⟨g1.1,9,(s1.2.names.map aB),true⟩)⟩) (fun t=>fl1= .next t) ?_ (fun s1 g1 hn1=>?_)
 ·refine bt ?_;refine eF (fun s1 g1=>⟨10,upd (upd (fun _=>.any) 1 (.fn 135 [(.box 1700 b_c0 0),(.box 1701 b_c1 0)])) 0 (.box 1500 b_rA 0),upd (upd (upd (upd (fun _=>none) 1701 (some ⟨b_c1,[(.box 1501 b_qA 0)]⟩)) 1700 (some ⟨b_c0,[(.box 1500 b_rA 0)]⟩)) 1501 (some ⟨b_qA,[(ac s1.2.kind),(.str s1.2.table),(.own 1622 g1.1 (s1.2.names.map aB).length),(.own 1623 g1.2.1 (s1.2.exprs.map al).length),(.own 1624 g1.2.2.1 (s1.2.aggregates.map ax).length),(.own 1625 g1.2.2.2 (s1.2.descending.map ay).length),(ac s1.2.count),(ac s1.2.offset),(.list 29 (s1.2.inputs.map ag))]⟩)) 1500 (some ⟨b_rA,(aa s1.1)⟩),upd (upd (upd (upd (fun _=>none) 1625 (some ⟨g1.2.2.2,4,(s1.2.descending.map ay),true⟩)) 1624 (some ⟨g1.2.2.1,85,(s1.2.aggregates.map ax),true⟩)) 1623 (some ⟨g1.2.1,82,(s1.2.exprs.map al),true⟩)) 1622 (some ⟨g1.1,9,(s1.2.names.map aB),true⟩)⟩) (gz5_1622,gz5_1623,gz5_1624,gz5_1625) H1 Gh.d (fun m1 s1 g1 hr1=>?_)
  obtain⟨fb1,H,hg1⟩:=dI hr1
  refine ak (ak (ae (aC tk rfl ?_)))
  obtain⟨x7,h7,H⟩:=aM H
  have s7:=az b_rA s1.1 ([44]:List UInt8) _ h7;refine bf (g:=52) rfl rfl rfl Tryz.call52 [(1500,1500)] [] rfl rfl rfl rfl (cX.of2 (dC.cons gN.boxT (dC.cons (gN.of_eq rfl) dC.nil))) (by rw[aN,aR,aS];rfl) s7 ?_;rintro u7 H7h ⟨rfl,rfl⟩
  refine⟨_,rfl,?_⟩
  refine aE (st':=⟨_,_,upd (upd (upd (upd (fun _=>none) 1701 (some ⟨b_c1,[(.box 1501 b_qA 0)]⟩)) 1700 (some ⟨b_c0,[(.box 1500 b_rA 0)]⟩)) 1501 (some ⟨b_qA,[(ac s1.2.kind),(.str s1.2.table),(.own 1622 g1.1 (s1.2.names.map aB).length),(.own 1623 g1.2.1 (s1.2.exprs.map al).length),(.own 1624 g1.2.2.1 (s1.2.aggregates.map ax).length),(.own 1625 g1.2.2.2 (s1.2.descending.map ay).length),(ac s1.2.count),(ac s1.2.offset),(.list 29 (s1.2.inputs.map ag))]⟩)) 1500 (some ⟨b_rA,(aa x7.2)⟩),upd (upd (upd (upd (fun _=>none) 1625 (some ⟨g1.2.2.2,4,(s1.2.descending.map ay),true⟩)) 1624 (some ⟨g1.2.2.1,85,(s1.2.aggregates.map ax),true⟩)) 1623 (some ⟨g1.2.1,82,(s1.2.exprs.map al),true⟩)) 1622 (some ⟨g1.1,9,(s1.2.names.map aB),true⟩)⟩) (Gh.le (av _ _) (ab rfl (cX.r) (ab rfl (cX.r) (ab rfl (cX.r) (ab rfl (cX.r) ao)))) (aq (aq (aq (aq am))))) ?_;refine af ?_;refine bj rfl H (fun H=>?_) (fun H=>?_)
  ·refine bc (bt (ae (aC tk rfl ?_)))
   obtain⟨y9,h9,X9,H⟩:=cV H
   have s9:=ej b_rA b_qA g1.1 g1.2.1 g1.2.2.1 g1.2.2.2 b_c0 b_c1 x7.2 s1.2 _ h9;refine aH Tryz.call135 [(1500,1500),(1501,1501),(1700,1700),(1701,1701)] [(1622,1622),(1623,1623),(1624,1624),(1625,1625)] s9 (pxF (fun e he=>(lvR (X9 e he) hg1 Hp1)) _) ?_;rintro u9 H9h hR9
   obtain⟨x9,⟨gz9_1622,gz9_1623,gz9_1624,gz9_1625,rfl,rfl⟩,H⟩:=H _ _ _ hR9
   refine⟨_,rfl,?_⟩
   refine aE (st':=⟨_,_,upd (upd (upd (upd (fun _=>none) 1701 (some ⟨b_c1,[(.box 1501 b_qA 0)]⟩)) 1700 (some ⟨b_c0,[(.box 1500 b_rA 0)]⟩)) 1501 (some ⟨b_qA,[(ac x9.2.kind),(.str x9.2.table),(.own 1622 gz9_1622 (x9.2.names.map aB).length),(.own 1623 gz9_1623 (x9.2.exprs.map al).length),(.own 1624 gz9_1624 (x9.2.aggregates.map ax).length),(.own 1625 gz9_1625 (x9.2.descending.map ay).length),(ac x9.2.count),(ac x9.2.offset),(.list 29 (x9.2.inputs.map ag))]⟩)) 1500 (some ⟨b_rA,(aa x9.1)⟩),upd (upd (upd (upd (fun _=>none) 1625 (some ⟨gz9_1625,4,(x9.2.descending.map ay),true⟩)) 1624 (some ⟨gz9_1624,85,(x9.2.aggregates.map ax),true⟩)) 1623 (some ⟨gz9_1623,82,(x9.2.exprs.map al),true⟩)) 1622 (some ⟨gz9_1622,9,(x9.2.names.map aB),true⟩)⟩) (Gh.le (av _ _) (ab rfl (cX.r) (ab rfl (cX.r) (ab rfl (cX.r) (ab rfl (cX.r) ao)))) (aq (aq (aq (aq am))))) ?_;refine af (cn ?_);obtain rfl:=aF H;refine dE (x9.1,x9.2) (gz9_1622,gz9_1623,gz9_1624,gz9_1625) hg1 Gh.d
  refine dB rfl ?_;obtain rfl:=aF H;refine cb (x7.2,s1.2) (g1.1,g1.2.1,g1.2.2.1,g1.2.2.2) hg1 Gh.d
 have H:=du hn1 Hp1;obtain rfl:=aF H;refine be (st':=⟨10,fun _=>.any,upd (upd (upd (upd (fun _=>none) 1701 (some ⟨b_c1,[(.box 1501 b_qA 0)]⟩)) 1700 (some ⟨b_c0,[(.box 1500 b_rA 0)]⟩)) 1501 (some ⟨b_qA,[(ac s1.2.kind),(.str s1.2.table),(.own 1622 g1.1 (s1.2.names.map aB).length),(.own 1623 g1.2.1 (s1.2.exprs.map al).length),(.own 1624 g1.2.2.1 (s1.2.aggregates.map ax).length),(.own 1625 g1.2.2.2 (s1.2.descending.map ay).length),(ac s1.2.count),(ac s1.2.offset),(.list 29 (s1.2.inputs.map ag))]⟩)) 1500 (some ⟨b_rA,(aa s1.1)⟩),upd (upd (upd (upd (fun _=>none) 1625 (some ⟨g1.2.2.2,4,(s1.2.descending.map ay),true⟩)) 1624 (some ⟨g1.2.2.1,85,(s1.2.aggregates.map ax),true⟩)) 1623 (some ⟨g1.2.1,82,(s1.2.exprs.map al),true⟩)) 1622 (some ⟨g1.1,9,(s1.2.names.map aB),true⟩)⟩) (Gh.le aO (ab rfl (cX.r) (ab rfl (cX.r) (ab rfl (cX.r) (ab rfl (cX.r) ao)))) (aq (aq (aq (aq am))))) ?_;refine dG rfl (PLe.q rfl) ⟨_,_,_,_,rfl,rfl⟩
def bL(rA:LQueryparserParser)(qA:LQuery):Option (Except Int (LQueryparserParser×LQuery)):=
 aT (bU rA qA) fun x3=>
 some (.ok (x3.1,x3.2))
theorem et(b_rA:Nat)(b_qA:Nat)(g_qA_2:OwnRef)(g_qA_3:OwnRef)(g_qA_4:OwnRef)(g_qA_5:OwnRef)(b_c0:Nat)(rA:LQueryparserParser)(qA:LQuery)(r:Except Int (LQueryparserParser×LQuery))(H:bL rA qA=some r):
  aP Tryz.prog 87 [(.box 1700 b_c0 0),(.box 1501 b_qA 0)] ⟨upd (upd (upd (fun _=>none) 1700 (some ⟨b_c0,[(.box 1500 b_rA 0)]⟩)) 1501 (some ⟨b_qA,[(ac qA.kind),(.str qA.table),(.own 1622 g_qA_2 (qA.names.map aB).length),(.own 1623 g_qA_3 (qA.exprs.map al).length),(.own 1624 g_qA_4 (qA.aggregates.map ax).length),(.own 1625 g_qA_5 (qA.descending.map ay).length),(ac qA.count),(ac qA.offset),(.list 29 (qA.inputs.map ag))]⟩)) 1500 (some ⟨b_rA,(aa rA)⟩),upd (upd (upd (upd (fun _=>none) 1625 (some ⟨g_qA_5,4,(qA.descending.map ay),true⟩)) 1624 (some ⟨g_qA_4,85,(qA.aggregates.map ax),true⟩)) 1623 (some ⟨g_qA_3,82,(qA.exprs.map al),true⟩)) 1622 (some ⟨g_qA_2,9,(qA.names.map aB),true⟩)⟩ (RX r (fun rv u H=>∃gz1_2,∃gz1_3,∃gz1_4,∃gz1_5,u=(.tup [])∧H=⟨upd (upd (upd (fun _=>none) 1700 (some ⟨b_c0,[(.box 1500 b_rA 0)]⟩)) 1501 (some ⟨b_qA,[(ac rv.2.kind),(.str rv.2.table),(.own 1622 gz1_2 (rv.2.names.map aB).length),(.own 1623 gz1_3 (rv.2.exprs.map al).length),(.own 1624 gz1_4 (rv.2.aggregates.map ax).length),(.own 1625 gz1_5 (rv.2.descending.map ay).length),(ac rv.2.count),(ac rv.2.offset),(.list 29 (rv.2.inputs.map ag))]⟩)) 1500 (some ⟨b_rA,(aa rv.1)⟩),upd (upd (upd (upd (fun _=>none) 1625 (some ⟨gz1_5,4,(rv.2.descending.map ay),true⟩)) 1624 (some ⟨gz1_4,85,(rv.2.aggregates.map ax),true⟩)) 1623 (some ⟨gz1_3,82,(rv.2.exprs.map al),true⟩)) 1622 (some ⟨gz1_2,9,(rv.2.names.map aB),true⟩)⟩)) (PX 106 r):=by
 unfold bL at H;refine aP.intro Tryz.func87 rfl Tryz.ntmps87 rfl ?_;refine ae (aw tk ?_)
 obtain⟨y3,h3,X3,H⟩:=aX H
 have s3:=eJ b_rA b_qA g_qA_2 g_qA_3 g_qA_4 g_qA_5 rA qA _ h3;refine aH Tryz.call88 [(1500,1500),(1501,1501)] [(1622,1622),(1623,1623),(1624,1624),(1625,1625)] s3 (X3 _) ?_;rintro u3 H3h hR3
 obtain⟨x3,⟨gz3_1622,gz3_1623,gz3_1624,gz3_1625,rfl,rfl⟩,H⟩:=H _ _ _ hR3
 refine⟨_,rfl,?_⟩
 refine aE (st':=⟨_,_,upd (upd (upd (fun _=>none) 1700 (some ⟨b_c0,[(.box 1500 b_rA 0)]⟩)) 1501 (some ⟨b_qA,[(ac x3.2.kind),(.str x3.2.table),(.own 1622 gz3_1622 (x3.2.names.map aB).length),(.own 1623 gz3_1623 (x3.2.exprs.map al).length),(.own 1624 gz3_1624 (x3.2.aggregates.map ax).length),(.own 1625 gz3_1625 (x3.2.descending.map ay).length),(ac x3.2.count),(ac x3.2.offset),(.list 29 (x3.2.inputs.map ag))]⟩)) 1500 (some ⟨b_rA,(aa x3.1)⟩),upd (upd (upd (upd (fun _=>none) 1625 (some ⟨gz3_1625,4,(x3.2.descending.map ay),true⟩)) 1624 (some ⟨gz3_1624,85,(x3.2.aggregates.map ax),true⟩)) 1623 (some ⟨gz3_1623,82,(x3.2.exprs.map al),true⟩)) 1622 (some ⟨gz3_1622,9,(x3.2.names.map aB),true⟩)⟩) (Gh.le (av _ _) (ab rfl (cX.r) (ab rfl (cX.r) (ab rfl (cX.r) ao))) (aq (aq (aq (aq am))))) ?_;refine af ?_;obtain rfl:=aF H;refine be (st':=⟨4,fun _=>.any,upd (upd (upd (fun _=>none) 1700 (some ⟨b_c0,[(.box 1500 b_rA 0)]⟩)) 1501 (some ⟨b_qA,[(ac x3.2.kind),(.str x3.2.table),(.own 1622 gz3_1622 (x3.2.names.map aB).length),(.own 1623 gz3_1623 (x3.2.exprs.map al).length),(.own 1624 gz3_1624 (x3.2.aggregates.map ax).length),(.own 1625 gz3_1625 (x3.2.descending.map ay).length),(ac x3.2.count),(ac x3.2.offset),(.list 29 (x3.2.inputs.map ag))]⟩)) 1500 (some ⟨b_rA,(aa x3.1)⟩),upd (upd (upd (upd (fun _=>none) 1625 (some ⟨gz3_1625,4,(x3.2.descending.map ay),true⟩)) 1624 (some ⟨gz3_1624,85,(x3.2.aggregates.map ax),true⟩)) 1623 (some ⟨gz3_1623,82,(x3.2.exprs.map al),true⟩)) 1622 (some ⟨gz3_1622,9,(x3.2.names.map aB),true⟩)⟩) (Gh.le aO (ab rfl (cX.r) (ab rfl (cX.r) (ab rfl (cX.r) ao))) (aq (aq (aq (aq am))))) ?_;refine dG rfl (PLe.q rfl) ⟨_,_,_,_,rfl,rfl⟩
def cg(rA:LQueryparserParser)(qA:LQuery):Option (Except Int (LQueryparserParser×LQuery)):=
 aT (bL rA qA) fun x5=>
 ar (cR (σ:=LQueryparserParser×LQuery) (ρ:=(Except Int (LQueryparserParser×LQuery))) (fun(s1:LQueryparserParser×LQuery)=>
  ar (ah s1.1 ([44]:List UInt8)) fun x7=>
  cond x7.1
   (ci (bL x7.2 s1.2) fun x9=>
   some (.next (x9.1,x9.2)))
   (some (.brk (x7.2,s1.2)))) (x5.1,x5.2)) fun fl1=>fl1.thenR fun(s1:LQueryparserParser×LQuery)=>
 some (.ok (s1.1,s1.2))
theorem gm(b_rA:Nat)(b_qA:Nat)(g_qA_2:OwnRef)(g_qA_3:OwnRef)(g_qA_4:OwnRef)(g_qA_5:OwnRef)(b_c0:Nat)(rA:LQueryparserParser)(qA:LQuery)(r:Except Int (LQueryparserParser×LQuery))(H:cg rA qA=some r):
  aP Tryz.prog 86 [(.box 1500 b_rA 0),(.fn 87 [(.box 1700 b_c0 0),(.box 1501 b_qA 0)])] ⟨upd (upd (upd (fun _=>none) 1700 (some ⟨b_c0,[(.box 1500 b_rA 0)]⟩)) 1501 (some ⟨b_qA,[(ac qA.kind),(.str qA.table),(.own 1622 g_qA_2 (qA.names.map aB).length),(.own 1623 g_qA_3 (qA.exprs.map al).length),(.own 1624 g_qA_4 (qA.aggregates.map ax).length),(.own 1625 g_qA_5 (qA.descending.map ay).length),(ac qA.count),(ac qA.offset),(.list 29 (qA.inputs.map ag))]⟩)) 1500 (some ⟨b_rA,(aa rA)⟩),upd (upd (upd (upd (fun _=>none) 1625 (some ⟨g_qA_5,4,(qA.descending.map ay),true⟩)) 1624 (some ⟨g_qA_4,85,(qA.aggregates.map ax),true⟩)) 1623 (some ⟨g_qA_3,82,(qA.exprs.map al),true⟩)) 1622 (some ⟨g_qA_2,9,(qA.names.map aB),true⟩)⟩ (RX r (fun rv u H=>∃gz1_2,∃gz1_3,∃gz1_4,∃gz1_5,u=(.tup [])∧H=⟨upd (upd (upd (fun _=>none) 1700 (some ⟨b_c0,[(.box 1500 b_rA 0)]⟩)) 1501 (some ⟨b_qA,[(ac rv.2.kind),(.str rv.2.table),(.own 1622 gz1_2 (rv.2.names.map aB).length),(.own 1623 gz1_3 (rv.2.exprs.map al).length),(.own 1624 gz1_4 (rv.2.aggregates.map ax).length),(.own 1625 gz1_5 (rv.2.descending.map ay).length),(ac rv.2.count),(ac rv.2.offset),(.list 29 (rv.2.inputs.map ag))]⟩)) 1500 (some ⟨b_rA,(aa rv.1)⟩),upd (upd (upd (upd (fun _=>none) 1625 (some ⟨gz1_5,4,(rv.2.descending.map ay),true⟩)) 1624 (some ⟨gz1_4,85,(rv.2.aggregates.map ax),true⟩)) 1623 (some ⟨gz1_3,82,(rv.2.exprs.map al),true⟩)) 1622 (some ⟨gz1_2,9,(rv.2.names.map aB),true⟩)⟩)) (PX 106 r):=by
 unfold cg at H;refine aP.intro Tryz.func86 rfl Tryz.ntmps86 rfl ?_;refine ak (ae (aC tk rfl ?_))
 obtain⟨y5,h5,X5,H⟩:=aX H
 have s5:=et b_rA b_qA g_qA_2 g_qA_3 g_qA_4 g_qA_5 b_c0 rA qA _ h5;refine aH Tryz.call87 [(1500,1500),(1501,1501),(1700,1700)] [(1622,1622),(1623,1623),(1624,1624),(1625,1625)] s5 (X5 _) ?_;rintro u5 H5h hR5
 obtain⟨x5,⟨gz5_1622,gz5_1623,gz5_1624,gz5_1625,rfl,rfl⟩,H⟩:=H _ _ _ hR5
 refine⟨_,rfl,?_⟩
 refine aE (st':=⟨_,_,upd (upd (upd (fun _=>none) 1700 (some ⟨b_c0,[(.box 1500 b_rA 0)]⟩)) 1501 (some ⟨b_qA,[(ac x5.2.kind),(.str x5.2.table),(.own 1622 gz5_1622 (x5.2.names.map aB).length),(.own 1623 gz5_1623 (x5.2.exprs.map al).length),(.own 1624 gz5_1624 (x5.2.aggregates.map ax).length),(.own 1625 gz5_1625 (x5.2.descending.map ay).length),(ac x5.2.count),(ac x5.2.offset),(.list 29 (x5.2.inputs.map ag))]⟩)) 1500 (some ⟨b_rA,(aa x5.1)⟩),upd (upd (upd (upd (fun _=>none) 1625 (some ⟨gz5_1625,4,(x5.2.descending.map ay),true⟩)) 1624 (some ⟨gz5_1624,85,(x5.2.aggregates.map ax),true⟩)) 1623 (some ⟨gz5_1623,82,(x5.2.exprs.map al),true⟩)) 1622 (some ⟨gz5_1622,9,(x5.2.names.map aB),true⟩)⟩) (Gh.le (av _ _) (ab rfl (cX.r) (ab rfl (cX.r) (ab rfl (cX.r) ao))) (aq (aq (aq (aq am))))) ?_;refine af ?_
 obtain⟨fl1,H1,Hp1⟩:=aM H
 refine ef (τ:=LQueryparserParser×LQuery) (γ:=OwnRef×OwnRef×OwnRef×OwnRef) (fun s1 g1=>⟨10,upd (upd (fun _=>.any) 1 (.fn 87 [(.box 1700 b_c0 0),(.box 1501 b_qA 0)])) 0 (.box 1500 b_rA 0),upd (upd (upd (fun _=>none) 1700 (some ⟨b_c0,[(.box 1500 b_rA 0)]⟩)) 1501 (some ⟨b_qA,[(ac s1.2.kind),(.str s1.2.table),(.own 1622 g1.1 (s1.2.names.map aB).length),(.own 1623 g1.2.1 (s1.2.exprs.map al).length),(.own 1624 g1.2.2.1 (s1.2.aggregates.map ax).length),(.own 1625 g1.2.2.2 (s1.2.descending.map ay).length),(ac s1.2.count),(ac s1.2.offset),(.list 29 (s1.2.inputs.map ag))]⟩)) 1500 (some ⟨b_rA,(aa s1.1)⟩),upd (upd (upd (upd (fun _=>none) 1625 (some ⟨g1.2.2.2,4,(s1.2.descending.map ay),true⟩)) 1624 (some ⟨g1.2.2.1,85,(s1.2.aggregates.map ax),true⟩)) 1623 (some ⟨g1.2.1,82,(s1.2.exprs.map al),true⟩)) 1622 (some ⟨g1.1,9,(s1.2.names.map aB),true⟩)⟩) (fun t=>fl1= .next t) ?_ (fun s1 g1 hn1=>?_)
 ·refine bt ?_;refine eF (fun s1 g1=>⟨10,upd (upd (fun _=>.any) 1 (.fn 87 [(.box 1700 b_c0 0),(.box 1501 b_qA 0)])) 0 (.box 1500 b_rA 0),upd (upd (upd (fun _=>none) 1700 (some ⟨b_c0,[(.box 1500 b_rA 0)]⟩)) 1501 (some ⟨b_qA,[(ac s1.2.kind),(.str s1.2.table),(.own 1622 g1.1 (s1.2.names.map aB).length),(.own 1623 g1.2.1 (s1.2.exprs.map al).length),(.own 1624 g1.2.2.1 (s1.2.aggregates.map ax).length),(.own 1625 g1.2.2.2 (s1.2.descending.map ay).length),(ac s1.2.count),(ac s1.2.offset),(.list 29 (s1.2.inputs.map ag))]⟩)) 1500 (some ⟨b_rA,(aa s1.1)⟩),upd (upd (upd (upd (fun _=>none) 1625 (some ⟨g1.2.2.2,4,(s1.2.descending.map ay),true⟩)) 1624 (some ⟨g1.2.2.1,85,(s1.2.aggregates.map ax),true⟩)) 1623 (some ⟨g1.2.1,82,(s1.2.exprs.map al),true⟩)) 1622 (some ⟨g1.1,9,(s1.2.names.map aB),true⟩)⟩) (gz5_1622,gz5_1623,gz5_1624,gz5_1625) H1 Gh.d (fun m1 s1 g1 hr1=>?_)
  obtain⟨fb1,H,hg1⟩:=dI hr1
  refine ak (ak (ae (aC tk rfl ?_)))
  obtain⟨x7,h7,H⟩:=aM H
  have s7:=az b_rA s1.1 ([44]:List UInt8) _ h7;refine bf (g:=52) rfl rfl rfl Tryz.call52 [(1500,1500)] [] rfl rfl rfl rfl (cX.of2 (dC.cons gN.boxT (dC.cons (gN.of_eq rfl) dC.nil))) (by rw[aN,aR,aS];rfl) s7 ?_;rintro u7 H7h ⟨rfl,rfl⟩
  refine⟨_,rfl,?_⟩
  refine aE (st':=⟨_,_,upd (upd (upd (fun _=>none) 1700 (some ⟨b_c0,[(.box 1500 b_rA 0)]⟩)) 1501 (some ⟨b_qA,[(ac s1.2.kind),(.str s1.2.table),(.own 1622 g1.1 (s1.2.names.map aB).length),(.own 1623 g1.2.1 (s1.2.exprs.map al).length),(.own 1624 g1.2.2.1 (s1.2.aggregates.map ax).length),(.own 1625 g1.2.2.2 (s1.2.descending.map ay).length),(ac s1.2.count),(ac s1.2.offset),(.list 29 (s1.2.inputs.map ag))]⟩)) 1500 (some ⟨b_rA,(aa x7.2)⟩),upd (upd (upd (upd (fun _=>none) 1625 (some ⟨g1.2.2.2,4,(s1.2.descending.map ay),true⟩)) 1624 (some ⟨g1.2.2.1,85,(s1.2.aggregates.map ax),true⟩)) 1623 (some ⟨g1.2.1,82,(s1.2.exprs.map al),true⟩)) 1622 (some ⟨g1.1,9,(s1.2.names.map aB),true⟩)⟩) (Gh.le (av _ _) (ab rfl (cX.r) (ab rfl (cX.r) (ab rfl (cX.r) ao))) (aq (aq (aq (aq am))))) ?_;refine af ?_;refine bj rfl H (fun H=>?_) (fun H=>?_)
  ·refine bc (bt (ae (aC tk rfl ?_)))
   obtain⟨y9,h9,X9,H⟩:=cV H
   have s9:=et b_rA b_qA g1.1 g1.2.1 g1.2.2.1 g1.2.2.2 b_c0 x7.2 s1.2 _ h9;refine aH Tryz.call87 [(1500,1500),(1501,1501),(1700,1700)] [(1622,1622),(1623,1623),(1624,1624),(1625,1625)] s9 (pxF (fun e he=>(lvR (X9 e he) hg1 Hp1)) _) ?_;rintro u9 H9h hR9
   obtain⟨x9,⟨gz9_1622,gz9_1623,gz9_1624,gz9_1625,rfl,rfl⟩,H⟩:=H _ _ _ hR9
   refine⟨_,rfl,?_⟩
   refine aE (st':=⟨_,_,upd (upd (upd (fun _=>none) 1700 (some ⟨b_c0,[(.box 1500 b_rA 0)]⟩)) 1501 (some ⟨b_qA,[(ac x9.2.kind),(.str x9.2.table),(.own 1622 gz9_1622 (x9.2.names.map aB).length),(.own 1623 gz9_1623 (x9.2.exprs.map al).length),(.own 1624 gz9_1624 (x9.2.aggregates.map ax).length),(.own 1625 gz9_1625 (x9.2.descending.map ay).length),(ac x9.2.count),(ac x9.2.offset),(.list 29 (x9.2.inputs.map ag))]⟩)) 1500 (some ⟨b_rA,(aa x9.1)⟩),upd (upd (upd (upd (fun _=>none) 1625 (some ⟨gz9_1625,4,(x9.2.descending.map ay),true⟩)) 1624 (some ⟨gz9_1624,85,(x9.2.aggregates.map ax),true⟩)) 1623 (some ⟨gz9_1623,82,(x9.2.exprs.map al),true⟩)) 1622 (some ⟨gz9_1622,9,(x9.2.names.map aB),true⟩)⟩) (Gh.le (av _ _) (ab rfl (cX.r) (ab rfl (cX.r) (ab rfl (cX.r) ao))) (aq (aq (aq (aq am))))) ?_;refine af (cn ?_);obtain rfl:=aF H;refine dE (x9.1,x9.2) (gz9_1622,gz9_1623,gz9_1624,gz9_1625) hg1 Gh.d
  refine dB rfl ?_;obtain rfl:=aF H;refine cb (x7.2,s1.2) (g1.1,g1.2.1,g1.2.2.1,g1.2.2.2) hg1 Gh.d
 have H:=du hn1 Hp1;obtain rfl:=aF H;refine be (st':=⟨10,fun _=>.any,upd (upd (upd (fun _=>none) 1700 (some ⟨b_c0,[(.box 1500 b_rA 0)]⟩)) 1501 (some ⟨b_qA,[(ac s1.2.kind),(.str s1.2.table),(.own 1622 g1.1 (s1.2.names.map aB).length),(.own 1623 g1.2.1 (s1.2.exprs.map al).length),(.own 1624 g1.2.2.1 (s1.2.aggregates.map ax).length),(.own 1625 g1.2.2.2 (s1.2.descending.map ay).length),(ac s1.2.count),(ac s1.2.offset),(.list 29 (s1.2.inputs.map ag))]⟩)) 1500 (some ⟨b_rA,(aa s1.1)⟩),upd (upd (upd (upd (fun _=>none) 1625 (some ⟨g1.2.2.2,4,(s1.2.descending.map ay),true⟩)) 1624 (some ⟨g1.2.2.1,85,(s1.2.aggregates.map ax),true⟩)) 1623 (some ⟨g1.2.1,82,(s1.2.exprs.map al),true⟩)) 1622 (some ⟨g1.1,9,(s1.2.names.map aB),true⟩)⟩) (Gh.le aO (ab rfl (cX.r) (ab rfl (cX.r) (ab rfl (cX.r) ao))) (aq (aq (aq (aq am))))) ?_;refine dG rfl (PLe.q rfl) ⟨_,_,_,_,rfl,rfl⟩
def bK(rA:LQueryparserParser)(qA:LQuery):Option (Except Int (LQueryparserParser×LQuery)):=
 aT (bU rA qA) fun x4=>
 some (.ok (x4.1,x4.2))
theorem ew(b_rA:Nat)(b_qA:Nat)(g_qA_2:OwnRef)(g_qA_3:OwnRef)(g_qA_4:OwnRef)(g_qA_5:OwnRef)(b_c0:Nat)(b_c1:Nat)(rA:LQueryparserParser)(qA:LQuery)(r:Except Int (LQueryparserParser×LQuery))(H:bK rA qA=some r):
  aP Tryz.prog 134 [(.box 1700 b_c0 0),(.box 1701 b_c1 0)] ⟨upd (upd (upd (upd (fun _=>none) 1701 (some ⟨b_c1,[(.box 1501 b_qA 0)]⟩)) 1700 (some ⟨b_c0,[(.box 1500 b_rA 0)]⟩)) 1501 (some ⟨b_qA,[(ac qA.kind),(.str qA.table),(.own 1622 g_qA_2 (qA.names.map aB).length),(.own 1623 g_qA_3 (qA.exprs.map al).length),(.own 1624 g_qA_4 (qA.aggregates.map ax).length),(.own 1625 g_qA_5 (qA.descending.map ay).length),(ac qA.count),(ac qA.offset),(.list 29 (qA.inputs.map ag))]⟩)) 1500 (some ⟨b_rA,(aa rA)⟩),upd (upd (upd (upd (fun _=>none) 1625 (some ⟨g_qA_5,4,(qA.descending.map ay),true⟩)) 1624 (some ⟨g_qA_4,85,(qA.aggregates.map ax),true⟩)) 1623 (some ⟨g_qA_3,82,(qA.exprs.map al),true⟩)) 1622 (some ⟨g_qA_2,9,(qA.names.map aB),true⟩)⟩ (RX r (fun rv u H=>∃gz1_2,∃gz1_3,∃gz1_4,∃gz1_5,u=(.tup [])∧H=⟨upd (upd (upd (upd (fun _=>none) 1701 (some ⟨b_c1,[(.box 1501 b_qA 0)]⟩)) 1700 (some ⟨b_c0,[(.box 1500 b_rA 0)]⟩)) 1501 (some ⟨b_qA,[(ac rv.2.kind),(.str rv.2.table),(.own 1622 gz1_2 (rv.2.names.map aB).length),(.own 1623 gz1_3 (rv.2.exprs.map al).length),(.own 1624 gz1_4 (rv.2.aggregates.map ax).length),(.own 1625 gz1_5 (rv.2.descending.map ay).length),(ac rv.2.count),(ac rv.2.offset),(.list 29 (rv.2.inputs.map ag))]⟩)) 1500 (some ⟨b_rA,(aa rv.1)⟩),upd (upd (upd (upd (fun _=>none) 1625 (some ⟨gz1_5,4,(rv.2.descending.map ay),true⟩)) 1624 (some ⟨gz1_4,85,(rv.2.aggregates.map ax),true⟩)) 1623 (some ⟨gz1_3,82,(rv.2.exprs.map al),true⟩)) 1622 (some ⟨gz1_2,9,(rv.2.names.map aB),true⟩)⟩)) (PX 106 r):=by
 unfold bK at H;refine aP.intro Tryz.func134 rfl Tryz.ntmps134 rfl ?_;refine ae (aw tk ?_);refine aw tk ?_
 obtain⟨y4,h4,X4,H⟩:=aX H
 have s4:=eJ b_rA b_qA g_qA_2 g_qA_3 g_qA_4 g_qA_5 rA qA _ h4;refine aH Tryz.call88 [(1500,1500),(1501,1501)] [(1622,1622),(1623,1623),(1624,1624),(1625,1625)] s4 (X4 _) ?_;rintro u4 H4h hR4
 obtain⟨x4,⟨gz4_1622,gz4_1623,gz4_1624,gz4_1625,rfl,rfl⟩,H⟩:=H _ _ _ hR4
 refine⟨_,rfl,?_⟩
 refine aE (st':=⟨_,_,upd (upd (upd (upd (fun _=>none) 1701 (some ⟨b_c1,[(.box 1501 b_qA 0)]⟩)) 1700 (some ⟨b_c0,[(.box 1500 b_rA 0)]⟩)) 1501 (some ⟨b_qA,[(ac x4.2.kind),(.str x4.2.table),(.own 1622 gz4_1622 (x4.2.names.map aB).length),(.own 1623 gz4_1623 (x4.2.exprs.map al).length),(.own 1624 gz4_1624 (x4.2.aggregates.map ax).length),(.own 1625 gz4_1625 (x4.2.descending.map ay).length),(ac x4.2.count),(ac x4.2.offset),(.list 29 (x4.2.inputs.map ag))]⟩)) 1500 (some ⟨b_rA,(aa x4.1)⟩),upd (upd (upd (upd (fun _=>none) 1625 (some ⟨gz4_1625,4,(x4.2.descending.map ay),true⟩)) 1624 (some ⟨gz4_1624,85,(x4.2.aggregates.map ax),true⟩)) 1623 (some ⟨gz4_1623,82,(x4.2.exprs.map al),true⟩)) 1622 (some ⟨gz4_1622,9,(x4.2.names.map aB),true⟩)⟩) (Gh.le (av _ _) (ab rfl (cX.r) (ab rfl (cX.r) (ab rfl (cX.r) (ab rfl (cX.r) ao)))) (aq (aq (aq (aq am))))) ?_;refine af ?_;obtain rfl:=aF H;refine be (st':=⟨5,fun _=>.any,upd (upd (upd (upd (fun _=>none) 1701 (some ⟨b_c1,[(.box 1501 b_qA 0)]⟩)) 1700 (some ⟨b_c0,[(.box 1500 b_rA 0)]⟩)) 1501 (some ⟨b_qA,[(ac x4.2.kind),(.str x4.2.table),(.own 1622 gz4_1622 (x4.2.names.map aB).length),(.own 1623 gz4_1623 (x4.2.exprs.map al).length),(.own 1624 gz4_1624 (x4.2.aggregates.map ax).length),(.own 1625 gz4_1625 (x4.2.descending.map ay).length),(ac x4.2.count),(ac x4.2.offset),(.list 29 (x4.2.inputs.map ag))]⟩)) 1500 (some ⟨b_rA,(aa x4.1)⟩),upd (upd (upd (upd (fun _=>none) 1625 (some ⟨gz4_1625,4,(x4.2.descending.map ay),true⟩)) 1624 (some ⟨gz4_1624,85,(x4.2.aggregates.map ax),true⟩)) 1623 (some ⟨gz4_1623,82,(x4.2.exprs.map al),true⟩)) 1622 (some ⟨gz4_1622,9,(x4.2.names.map aB),true⟩)⟩) (Gh.le aO (ab rfl (cX.r) (ab rfl (cX.r) (ab rfl (cX.r) (ab rfl (cX.r) ao)))) (aq (aq (aq (aq am))))) ?_;refine dG rfl (PLe.q rfl) ⟨_,_,_,_,rfl,rfl⟩
def bZ(rA:LQueryparserParser)(qA:LQuery):Option (Except Int (LQueryparserParser×LQuery)):=
 aT (bK rA qA) fun x5=>
 ar (cR (σ:=LQueryparserParser×LQuery) (ρ:=(Except Int (LQueryparserParser×LQuery))) (fun(s1:LQueryparserParser×LQuery)=>
  ar (ah s1.1 ([44]:List UInt8)) fun x7=>
  cond x7.1
   (ci (bK x7.2 s1.2) fun x9=>
   some (.next (x9.1,x9.2)))
   (some (.brk (x7.2,s1.2)))) (x5.1,x5.2)) fun fl1=>fl1.thenR fun(s1:LQueryparserParser×LQuery)=>
 some (.ok (s1.1,s1.2))
theorem fX(b_rA:Nat)(b_qA:Nat)(g_qA_2:OwnRef)(g_qA_3:OwnRef)(g_qA_4:OwnRef)(g_qA_5:OwnRef)(b_c0:Nat)(b_c1:Nat)(rA:LQueryparserParser)(qA:LQuery)(r:Except Int (LQueryparserParser×LQuery))(H:bZ rA qA=some r):
  aP Tryz.prog 86 [(.box 1500 b_rA 0),(.fn 134 [(.box 1700 b_c0 0),(.box 1701 b_c1 0)])] ⟨upd (upd (upd (upd (fun _=>none) 1701 (some ⟨b_c1,[(.box 1501 b_qA 0)]⟩)) 1700 (some ⟨b_c0,[(.box 1500 b_rA 0)]⟩)) 1501 (some ⟨b_qA,[(ac qA.kind),(.str qA.table),(.own 1622 g_qA_2 (qA.names.map aB).length),(.own 1623 g_qA_3 (qA.exprs.map al).length),(.own 1624 g_qA_4 (qA.aggregates.map ax).length),(.own 1625 g_qA_5 (qA.descending.map ay).length),(ac qA.count),(ac qA.offset),(.list 29 (qA.inputs.map ag))]⟩)) 1500 (some ⟨b_rA,(aa rA)⟩),upd (upd (upd (upd (fun _=>none) 1625 (some ⟨g_qA_5,4,(qA.descending.map ay),true⟩)) 1624 (some ⟨g_qA_4,85,(qA.aggregates.map ax),true⟩)) 1623 (some ⟨g_qA_3,82,(qA.exprs.map al),true⟩)) 1622 (some ⟨g_qA_2,9,(qA.names.map aB),true⟩)⟩ (RX r (fun rv u H=>∃gz1_2,∃gz1_3,∃gz1_4,∃gz1_5,u=(.tup [])∧H=⟨upd (upd (upd (upd (fun _=>none) 1701 (some ⟨b_c1,[(.box 1501 b_qA 0)]⟩)) 1700 (some ⟨b_c0,[(.box 1500 b_rA 0)]⟩)) 1501 (some ⟨b_qA,[(ac rv.2.kind),(.str rv.2.table),(.own 1622 gz1_2 (rv.2.names.map aB).length),(.own 1623 gz1_3 (rv.2.exprs.map al).length),(.own 1624 gz1_4 (rv.2.aggregates.map ax).length),(.own 1625 gz1_5 (rv.2.descending.map ay).length),(ac rv.2.count),(ac rv.2.offset),(.list 29 (rv.2.inputs.map ag))]⟩)) 1500 (some ⟨b_rA,(aa rv.1)⟩),upd (upd (upd (upd (fun _=>none) 1625 (some ⟨gz1_5,4,(rv.2.descending.map ay),true⟩)) 1624 (some ⟨gz1_4,85,(rv.2.aggregates.map ax),true⟩)) 1623 (some ⟨gz1_3,82,(rv.2.exprs.map al),true⟩)) 1622 (some ⟨gz1_2,9,(rv.2.names.map aB),true⟩)⟩)) (PX 106 r):=by
 unfold bZ at H;refine aP.intro Tryz.func86 rfl Tryz.ntmps86 rfl ?_;refine ak (ae (aC tk rfl ?_))
 obtain⟨y5,h5,X5,H⟩:=aX H
 have s5:=ew b_rA b_qA g_qA_2 g_qA_3 g_qA_4 g_qA_5 b_c0 b_c1 rA qA _ h5;refine aH Tryz.call134 [(1500,1500),(1501,1501),(1700,1700),(1701,1701)] [(1622,1622),(1623,1623),(1624,1624),(1625,1625)] s5 (X5 _) ?_;rintro u5 H5h hR5
 obtain⟨x5,⟨gz5_1622,gz5_1623,gz5_1624,gz5_1625,rfl,rfl⟩,H⟩:=H _ _ _ hR5
 refine⟨_,rfl,?_⟩
 refine aE (st':=⟨_,_,upd (upd (upd (upd (fun _=>none) 1701 (some ⟨b_c1,[(.box 1501 b_qA 0)]⟩)) 1700 (some ⟨b_c0,[(.box 1500 b_rA 0)]⟩)) 1501 (some ⟨b_qA,[(ac x5.2.kind),(.str x5.2.table),(.own 1622 gz5_1622 (x5.2.names.map aB).length),(.own 1623 gz5_1623 (x5.2.exprs.map al).length),(.own 1624 gz5_1624 (x5.2.aggregates.map ax).length),(.own 1625 gz5_1625 (x5.2.descending.map ay).length),(ac x5.2.count),(ac x5.2.offset),(.list 29 (x5.2.inputs.map ag))]⟩)) 1500 (some ⟨b_rA,(aa x5.1)⟩),upd (upd (upd (upd (fun _=>none) 1625 (some ⟨gz5_1625,4,(x5.2.descending.map ay),true⟩)) 1624 (some ⟨gz5_1624,85,(x5.2.aggregates.map ax),true⟩)) 1623 (some ⟨gz5_1623,82,(x5.2.exprs.map al),true⟩)) 1622 (some ⟨gz5_1622,9,(x5.2.names.map aB),true⟩)⟩) (Gh.le (av _ _) (ab rfl (cX.r) (ab rfl (cX.r) (ab rfl (cX.r) (ab rfl (cX.r) ao)))) (aq (aq (aq (aq am))))) ?_;refine af ?_
 obtain⟨fl1,H1,Hp1⟩:=aM H
 refine ef (τ:=LQueryparserParser×LQuery) (γ:=OwnRef×OwnRef×OwnRef×OwnRef) (fun s1 g1=>⟨10,upd (upd (fun _=>.any) 1 (.fn 134 [(.box 1700 b_c0 0),(.box 1701 b_c1 0)])) 0 (.box 1500 b_rA 0),upd (upd (upd (upd (fun _=>none) 1701 (some ⟨b_c1,[(.box 1501 b_qA 0)]⟩)) 1700 (some ⟨b_c0,[(.box 1500 b_rA 0)]⟩)) 1501 (some ⟨b_qA,[(ac s1.2.kind),(.str s1.2.table),(.own 1622 g1.1 (s1.2.names.map aB).length),(.own 1623 g1.2.1 (s1.2.exprs.map al).length),(.own 1624 g1.2.2.1 (s1.2.aggregates.map ax).length),(.own 1625 g1.2.2.2 (s1.2.descending.map ay).length),(ac s1.2.count),(ac s1.2.offset),(.list 29 (s1.2.inputs.map ag))]⟩)) 1500 (some ⟨b_rA,(aa s1.1)⟩),upd (upd (upd (upd (fun _=>none) 1625 (some ⟨g1.2.2.2,4,(s1.2.descending.map ay),true⟩)) 1624 (some ⟨g1.2.2.1,85,(s1.2.aggregates.map ax),true⟩)) 1623 (some ⟨g1.2.1,82,(s1.2.exprs.map al),true⟩)) 1622 (some ⟨g1.1,9,(s1.2.names.map aB),true⟩)⟩) (fun t=>fl1= .next t) ?_ (fun s1 g1 hn1=>?_)
 ·refine bt ?_;refine eF (fun s1 g1=>⟨10,upd (upd (fun _=>.any) 1 (.fn 134 [(.box 1700 b_c0 0),(.box 1701 b_c1 0)])) 0 (.box 1500 b_rA 0),upd (upd (upd (upd (fun _=>none) 1701 (some ⟨b_c1,[(.box 1501 b_qA 0)]⟩)) 1700 (some ⟨b_c0,[(.box 1500 b_rA 0)]⟩)) 1501 (some ⟨b_qA,[(ac s1.2.kind),(.str s1.2.table),(.own 1622 g1.1 (s1.2.names.map aB).length),(.own 1623 g1.2.1 (s1.2.exprs.map al).length),(.own 1624 g1.2.2.1 (s1.2.aggregates.map ax).length),(.own 1625 g1.2.2.2 (s1.2.descending.map ay).length),(ac s1.2.count),(ac s1.2.offset),(.list 29 (s1.2.inputs.map ag))]⟩)) 1500 (some ⟨b_rA,(aa s1.1)⟩),upd (upd (upd (upd (fun _=>none) 1625 (some ⟨g1.2.2.2,4,(s1.2.descending.map ay),true⟩)) 1624 (some ⟨g1.2.2.1,85,(s1.2.aggregates.map ax),true⟩)) 1623 (some ⟨g1.2.1,82,(s1.2.exprs.map al),true⟩)) 1622 (some ⟨g1.1,9,(s1.2.names.map aB),true⟩)⟩) (gz5_1622,gz5_1623,gz5_1624,gz5_1625) H1 Gh.d (fun m1 s1 g1 hr1=>?_)
  obtain⟨fb1,H,hg1⟩:=dI hr1
  refine ak (ak (ae (aC tk rfl ?_)))
  obtain⟨x7,h7,H⟩:=aM H
  have s7:=az b_rA s1.1 ([44]:List UInt8) _ h7;refine bf (g:=52) rfl rfl rfl Tryz.call52 [(1500,1500)] [] rfl rfl rfl rfl (cX.of2 (dC.cons gN.boxT (dC.cons (gN.of_eq rfl) dC.nil))) (by rw[aN,aR,aS];rfl) s7 ?_;rintro u7 H7h ⟨rfl,rfl⟩
  refine⟨_,rfl,?_⟩
  refine aE (st':=⟨_,_,upd (upd (upd (upd (fun _=>none) 1701 (some ⟨b_c1,[(.box 1501 b_qA 0)]⟩)) 1700 (some ⟨b_c0,[(.box 1500 b_rA 0)]⟩)) 1501 (some ⟨b_qA,[(ac s1.2.kind),(.str s1.2.table),(.own 1622 g1.1 (s1.2.names.map aB).length),(.own 1623 g1.2.1 (s1.2.exprs.map al).length),(.own 1624 g1.2.2.1 (s1.2.aggregates.map ax).length),(.own 1625 g1.2.2.2 (s1.2.descending.map ay).length),(ac s1.2.count),(ac s1.2.offset),(.list 29 (s1.2.inputs.map ag))]⟩)) 1500 (some ⟨b_rA,(aa x7.2)⟩),upd (upd (upd (upd (fun _=>none) 1625 (some ⟨g1.2.2.2,4,(s1.2.descending.map ay),true⟩)) 1624 (some ⟨g1.2.2.1,85,(s1.2.aggregates.map ax),true⟩)) 1623 (some ⟨g1.2.1,82,(s1.2.exprs.map al),true⟩)) 1622 (some ⟨g1.1,9,(s1.2.names.map aB),true⟩)⟩) (Gh.le (av _ _) (ab rfl (cX.r) (ab rfl (cX.r) (ab rfl (cX.r) (ab rfl (cX.r) ao)))) (aq (aq (aq (aq am))))) ?_;refine af ?_;refine bj rfl H (fun H=>?_) (fun H=>?_)
  ·refine bc (bt (ae (aC tk rfl ?_)))
   obtain⟨y9,h9,X9,H⟩:=cV H
   have s9:=ew b_rA b_qA g1.1 g1.2.1 g1.2.2.1 g1.2.2.2 b_c0 b_c1 x7.2 s1.2 _ h9;refine aH Tryz.call134 [(1500,1500),(1501,1501),(1700,1700),(1701,1701)] [(1622,1622),(1623,1623),(1624,1624),(1625,1625)] s9 (pxF (fun e he=>(lvR (X9 e he) hg1 Hp1)) _) ?_;rintro u9 H9h hR9
   obtain⟨x9,⟨gz9_1622,gz9_1623,gz9_1624,gz9_1625,rfl,rfl⟩,H⟩:=H _ _ _ hR9
   refine⟨_,rfl,?_⟩
   refine aE (st':=⟨_,_,upd (upd (upd (upd (fun _=>none) 1701 (some ⟨b_c1,[(.box 1501 b_qA 0)]⟩)) 1700 (some ⟨b_c0,[(.box 1500 b_rA 0)]⟩)) 1501 (some ⟨b_qA,[(ac x9.2.kind),(.str x9.2.table),(.own 1622 gz9_1622 (x9.2.names.map aB).length),(.own 1623 gz9_1623 (x9.2.exprs.map al).length),(.own 1624 gz9_1624 (x9.2.aggregates.map ax).length),(.own 1625 gz9_1625 (x9.2.descending.map ay).length),(ac x9.2.count),(ac x9.2.offset),(.list 29 (x9.2.inputs.map ag))]⟩)) 1500 (some ⟨b_rA,(aa x9.1)⟩),upd (upd (upd (upd (fun _=>none) 1625 (some ⟨gz9_1625,4,(x9.2.descending.map ay),true⟩)) 1624 (some ⟨gz9_1624,85,(x9.2.aggregates.map ax),true⟩)) 1623 (some ⟨gz9_1623,82,(x9.2.exprs.map al),true⟩)) 1622 (some ⟨gz9_1622,9,(x9.2.names.map aB),true⟩)⟩) (Gh.le (av _ _) (ab rfl (cX.r) (ab rfl (cX.r) (ab rfl (cX.r) (ab rfl (cX.r) ao)))) (aq (aq (aq (aq am))))) ?_;refine af (cn ?_);obtain rfl:=aF H;refine dE (x9.1,x9.2) (gz9_1622,gz9_1623,gz9_1624,gz9_1625) hg1 Gh.d
  refine dB rfl ?_;obtain rfl:=aF H;refine cb (x7.2,s1.2) (g1.1,g1.2.1,g1.2.2.1,g1.2.2.2) hg1 Gh.d
 have H:=du hn1 Hp1;obtain rfl:=aF H;refine be (st':=⟨10,fun _=>.any,upd (upd (upd (upd (fun _=>none) 1701 (some ⟨b_c1,[(.box 1501 b_qA 0)]⟩)) 1700 (some ⟨b_c0,[(.box 1500 b_rA 0)]⟩)) 1501 (some ⟨b_qA,[(ac s1.2.kind),(.str s1.2.table),(.own 1622 g1.1 (s1.2.names.map aB).length),(.own 1623 g1.2.1 (s1.2.exprs.map al).length),(.own 1624 g1.2.2.1 (s1.2.aggregates.map ax).length),(.own 1625 g1.2.2.2 (s1.2.descending.map ay).length),(ac s1.2.count),(ac s1.2.offset),(.list 29 (s1.2.inputs.map ag))]⟩)) 1500 (some ⟨b_rA,(aa s1.1)⟩),upd (upd (upd (upd (fun _=>none) 1625 (some ⟨g1.2.2.2,4,(s1.2.descending.map ay),true⟩)) 1624 (some ⟨g1.2.2.1,85,(s1.2.aggregates.map ax),true⟩)) 1623 (some ⟨g1.2.1,82,(s1.2.exprs.map al),true⟩)) 1622 (some ⟨g1.1,9,(s1.2.names.map aB),true⟩)⟩) (Gh.le aO (ab rfl (cX.r) (ab rfl (cX.r) (ab rfl (cX.r) (ab rfl (cX.r) ao)))) (aq (aq (aq (aq am))))) ?_;refine dG rfl (PLe.q rfl) ⟨_,_,_,_,rfl,rfl⟩
def ct(rA:LQueryparserParser)(q:LQuery):Option (Except Int (LQueryparserParser×LQuery)):=
 ar (ah rA ([98,121]:List UInt8)) fun x6=>
 ar (
  cond x6.1
   (ci (bZ x6.2 q) fun x10=>
   some (.next (x10.1,x10.2)))
   (some (.next (x6.2,q)))) fun(fl1:Flow (LQueryparserParser×LQuery) (Except Int (LQueryparserParser×LQuery)))=>fl1.thenR fun t1=>
 ar (ah t1.1 ([97,103,103,114,101,103,97,116,101]:List UInt8)) fun x12=>
 cond (!x12.1)
  (cond (!x6.1)
   (aT (aI x12.2) fun x17=>
   some (.ok (x17,t1.2)))
   (some (.ok (x12.2,t1.2))))
  (aT (bY x12.2 t1.2) fun x20=>
  some (.ok (x20.1,x20.2)))
theorem gP(b_rA:Nat)(b_q:Nat)(g_q_2:OwnRef)(g_q_3:OwnRef)(g_q_4:OwnRef)(g_q_5:OwnRef)(rA:LQueryparserParser)(q:LQuery)(r:Except Int (LQueryparserParser×LQuery))(H:ct rA q=some r):
  aP Tryz.prog 91 [(.box 1500 b_rA 0),(.box 1501 b_q 0)] ⟨upd (upd (fun _=>none) 1501 (some ⟨b_q,[(ac q.kind),(.str q.table),(.own 1622 g_q_2 (q.names.map aB).length),(.own 1623 g_q_3 (q.exprs.map al).length),(.own 1624 g_q_4 (q.aggregates.map ax).length),(.own 1625 g_q_5 (q.descending.map ay).length),(ac q.count),(ac q.offset),(.list 29 (q.inputs.map ag))]⟩)) 1500 (some ⟨b_rA,(aa rA)⟩),upd (upd (upd (upd (fun _=>none) 1625 (some ⟨g_q_5,4,(q.descending.map ay),true⟩)) 1624 (some ⟨g_q_4,85,(q.aggregates.map ax),true⟩)) 1623 (some ⟨g_q_3,82,(q.exprs.map al),true⟩)) 1622 (some ⟨g_q_2,9,(q.names.map aB),true⟩)⟩ (RX r (fun rv u H=>∃gz1_2,∃gz1_3,∃gz1_4,∃gz1_5,u=(.tup [])∧H=⟨upd (upd (fun _=>none) 1501 (some ⟨b_q,[(ac rv.2.kind),(.str rv.2.table),(.own 1622 gz1_2 (rv.2.names.map aB).length),(.own 1623 gz1_3 (rv.2.exprs.map al).length),(.own 1624 gz1_4 (rv.2.aggregates.map ax).length),(.own 1625 gz1_5 (rv.2.descending.map ay).length),(ac rv.2.count),(ac rv.2.offset),(.list 29 (rv.2.inputs.map ag))]⟩)) 1500 (some ⟨b_rA,(aa rv.1)⟩),upd (upd (upd (upd (fun _=>none) 1625 (some ⟨gz1_5,4,(rv.2.descending.map ay),true⟩)) 1624 (some ⟨gz1_4,85,(rv.2.aggregates.map ax),true⟩)) 1623 (some ⟨gz1_3,82,(rv.2.exprs.map al),true⟩)) 1622 (some ⟨gz1_2,9,(rv.2.names.map aB),true⟩)⟩)) (PX 106 r):=by
 unfold ct at H;refine aP.intro Tryz.func91 rfl Tryz.ntmps91 rfl ?_;refine ak (ae ?_);refine kR (d:=2) rfl rfl rfl rfl rfl fun b2=>?_
 refine kR (d:=3) rfl rfl rfl rfl rfl fun b3=>?_
 refine af (ak (ae (aw tk ?_)))
 obtain⟨x6,h6,H⟩:=aM H
 have s6:=az b_rA rA ([98,121]:List UInt8) _ h6;refine bf (g:=52) rfl rfl rfl Tryz.call52 [(1500,1500)] [] rfl rfl rfl rfl (cX.of2 (dC.cons gN.boxT (dC.cons (gN.of_eq rfl) dC.nil))) (by rw[aN,aR,aS];rfl) s6 ?_;rintro u6 H6h ⟨rfl,rfl⟩
 refine⟨_,rfl,?_⟩
 refine aE (st':=⟨_,_,upd (upd (upd (upd (fun _=>none) 1501 (some ⟨b_q,[(ac q.kind),(.str q.table),(.own 1622 g_q_2 (q.names.map aB).length),(.own 1623 g_q_3 (q.exprs.map al).length),(.own 1624 g_q_4 (q.aggregates.map ax).length),(.own 1625 g_q_5 (q.descending.map ay).length),(ac q.count),(ac q.offset),(.list 29 (q.inputs.map ag))]⟩)) 1500 (some ⟨b_rA,(aa x6.2)⟩)) 3 (some ⟨b3,[(.box 1501 b_q 0)]⟩)) 2 (some ⟨b2,[(.box 1500 b_rA 0)]⟩),upd (upd (upd (upd (fun _=>none) 1625 (some ⟨g_q_5,4,(q.descending.map ay),true⟩)) 1624 (some ⟨g_q_4,85,(q.aggregates.map ax),true⟩)) 1623 (some ⟨g_q_3,82,(q.exprs.map al),true⟩)) 1622 (some ⟨g_q_2,9,(q.names.map aB),true⟩)⟩) (Gh.le (av _ _) (ab rfl (cX.r) (ab rfl (cX.r) (ab rfl (cX.r) (ab rfl (cX.r) ao)))) (aq (aq (aq (aq am))))) ?_;refine aC tk rfl (af (ak (bE 1 tk rfl ?_)));refine jO (γ:=OwnRef×OwnRef×OwnRef×OwnRef) (fun t1 g1=>⟨21,upd (upd (upd (upd (upd (fun _=>.any) 4 (bG x6.1)) 3 (.box 3 b3 0)) 2 (.box 2 b2 0)) 1 (.box 1501 b_q 0)) 0 (.box 1500 b_rA 0),upd (upd (upd (upd (fun _=>none) 1501 (some ⟨b_q,[(ac t1.2.kind),(.str t1.2.table),(.own 1622 g1.1 (t1.2.names.map aB).length),(.own 1623 g1.2.1 (t1.2.exprs.map al).length),(.own 1624 g1.2.2.1 (t1.2.aggregates.map ax).length),(.own 1625 g1.2.2.2 (t1.2.descending.map ay).length),(ac t1.2.count),(ac t1.2.offset),(.list 29 (t1.2.inputs.map ag))]⟩)) 1500 (some ⟨b_rA,(aa t1.1)⟩)) 3 (some ⟨b3,[(.box 1501 b_q 0)]⟩)) 2 (some ⟨b2,[(.box 1500 b_rA 0)]⟩),upd (upd (upd (upd (fun _=>none) 1625 (some ⟨g1.2.2.2,4,(t1.2.descending.map ay),true⟩)) 1624 (some ⟨g1.2.2.1,85,(t1.2.aggregates.map ax),true⟩)) 1623 (some ⟨g1.2.1,82,(t1.2.exprs.map al),true⟩)) 1622 (some ⟨g1.1,9,(t1.2.names.map aB),true⟩)⟩) H (fun _ H Hp1=>?_) (fun t1 g1 H=>?_)
 ·refine bj rfl H (fun H=>?_) (fun H=>?_)
  ·refine ae (aw tk ?_);refine aC tk rfl ?_
   obtain⟨y10,h10,X10,H⟩:=cV H
   have s10:=fX b_rA b_q g_q_2 g_q_3 g_q_4 g_q_5 b2 b3 x6.2 q _ h10;refine aH Tryz.call86 [(1500,1500),(1501,1501),(2,1700),(3,1701)] [(1622,1622),(1623,1623),(1624,1624),(1625,1625)] s10 (pxF (fun e he=>(lvJ (X10 e he) Hp1)) _) ?_;rintro u10 H10h hR10
   obtain⟨x10,⟨gz10_1622,gz10_1623,gz10_1624,gz10_1625,rfl,rfl⟩,H⟩:=H _ _ _ hR10
   refine⟨_,rfl,?_⟩
   refine aE (st':=⟨_,_,upd (upd (upd (upd (fun _=>none) 1501 (some ⟨b_q,[(ac x10.2.kind),(.str x10.2.table),(.own 1622 gz10_1622 (x10.2.names.map aB).length),(.own 1623 gz10_1623 (x10.2.exprs.map al).length),(.own 1624 gz10_1624 (x10.2.aggregates.map ax).length),(.own 1625 gz10_1625 (x10.2.descending.map ay).length),(ac x10.2.count),(ac x10.2.offset),(.list 29 (x10.2.inputs.map ag))]⟩)) 1500 (some ⟨b_rA,(aa x10.1)⟩)) 3 (some ⟨b3,[(.box 1501 b_q 0)]⟩)) 2 (some ⟨b2,[(.box 1500 b_rA 0)]⟩),upd (upd (upd (upd (fun _=>none) 1625 (some ⟨gz10_1625,4,(x10.2.descending.map ay),true⟩)) 1624 (some ⟨gz10_1624,85,(x10.2.aggregates.map ax),true⟩)) 1623 (some ⟨gz10_1623,82,(x10.2.exprs.map al),true⟩)) 1622 (some ⟨gz10_1622,9,(x10.2.names.map aB),true⟩)⟩) (Gh.le (av _ _) (ab rfl (cX.r) (ab rfl (cX.r) (ab rfl (cX.r) (ab rfl (cX.r) ao)))) (aq (aq (aq (aq am))))) ?_;refine af ?_;refine cb _ (gz10_1622,gz10_1623,gz10_1624,gz10_1625) (aF H).symm Gh.d
  refine bc ?_;refine cb _ (g_q_2,g_q_3,g_q_4,g_q_5) (aF H).symm Gh.d
 refine ak (ak (ae (aw tk ?_)))
 obtain⟨x12,h12,H⟩:=aM H
 have s12:=az b_rA t1.1 ([97,103,103,114,101,103,97,116,101]:List UInt8) _ h12;refine bf (g:=52) rfl rfl rfl Tryz.call52 [(1500,1500)] [] rfl rfl rfl rfl (cX.of2 (dC.cons gN.boxT (dC.cons (gN.of_eq rfl) dC.nil))) (by rw[aN,aR,aS];rfl) s12 ?_;rintro u12 H12h ⟨rfl,rfl⟩
 refine⟨_,rfl,?_⟩
 refine aE (st':=⟨_,_,upd (upd (upd (upd (fun _=>none) 1501 (some ⟨b_q,[(ac t1.2.kind),(.str t1.2.table),(.own 1622 g1.1 (t1.2.names.map aB).length),(.own 1623 g1.2.1 (t1.2.exprs.map al).length),(.own 1624 g1.2.2.1 (t1.2.aggregates.map ax).length),(.own 1625 g1.2.2.2 (t1.2.descending.map ay).length),(ac t1.2.count),(ac t1.2.offset),(.list 29 (t1.2.inputs.map ag))]⟩)) 1500 (some ⟨b_rA,(aa x12.2)⟩)) 3 (some ⟨b3,[(.box 1501 b_q 0)]⟩)) 2 (some ⟨b2,[(.box 1500 b_rA 0)]⟩),upd (upd (upd (upd (fun _=>none) 1625 (some ⟨g1.2.2.2,4,(t1.2.descending.map ay),true⟩)) 1624 (some ⟨g1.2.2.1,85,(t1.2.aggregates.map ax),true⟩)) 1623 (some ⟨g1.2.1,82,(t1.2.exprs.map al),true⟩)) 1622 (some ⟨g1.1,9,(t1.2.names.map aB),true⟩)⟩) (Gh.le (av _ _) (ab rfl (cX.r) (ab rfl (cX.r) (ab rfl (cX.r) (ab rfl (cX.r) ao)))) (aq (aq (aq (aq am))))) ?_;refine aC tk rfl (af ?_);refine bj rfl H (fun H=>?_) (fun H=>?_)
 ·refine ak (bE 2 tk rfl ?_);refine bj rfl H (fun H=>?_) (fun H=>?_)
  ·refine ae (aw tk ?_)
   obtain⟨y17,h17,X17,H⟩:=aX H
   have s17:=bn b_rA x12.2 _ h17;refine aH Tryz.call56 [(1500,1500)] [] s17 (X17 _) ?_;rintro u17 H17h hR17
   obtain⟨x17,⟨rfl,rfl⟩,H⟩:=H _ _ _ hR17
   refine⟨_,rfl,?_⟩
   refine aE (st':=⟨_,_,upd (upd (upd (upd (fun _=>none) 1501 (some ⟨b_q,[(ac t1.2.kind),(.str t1.2.table),(.own 1622 g1.1 (t1.2.names.map aB).length),(.own 1623 g1.2.1 (t1.2.exprs.map al).length),(.own 1624 g1.2.2.1 (t1.2.aggregates.map ax).length),(.own 1625 g1.2.2.2 (t1.2.descending.map ay).length),(ac t1.2.count),(ac t1.2.offset),(.list 29 (t1.2.inputs.map ag))]⟩)) 1500 (some ⟨b_rA,(aa x17)⟩)) 3 (some ⟨b3,[(.box 1501 b_q 0)]⟩)) 2 (some ⟨b2,[(.box 1500 b_rA 0)]⟩),upd (upd (upd (upd (fun _=>none) 1625 (some ⟨g1.2.2.2,4,(t1.2.descending.map ay),true⟩)) 1624 (some ⟨g1.2.2.1,85,(t1.2.aggregates.map ax),true⟩)) 1623 (some ⟨g1.2.1,82,(t1.2.exprs.map al),true⟩)) 1622 (some ⟨g1.1,9,(t1.2.names.map aB),true⟩)⟩) (Gh.le (av _ _) (ab rfl (cX.r) (ab rfl (cX.r) (ab rfl (cX.r) (ab rfl (cX.r) ao)))) (aq (aq (aq (aq am))))) ?_;refine af ?_;obtain rfl:=aF H;refine be (st':=⟨21,fun _=>.any,upd (upd (fun _=>none) 1501 (some ⟨b_q,[(ac t1.2.kind),(.str t1.2.table),(.own 1622 g1.1 (t1.2.names.map aB).length),(.own 1623 g1.2.1 (t1.2.exprs.map al).length),(.own 1624 g1.2.2.1 (t1.2.aggregates.map ax).length),(.own 1625 g1.2.2.2 (t1.2.descending.map ay).length),(ac t1.2.count),(ac t1.2.offset),(.list 29 (t1.2.inputs.map ag))]⟩)) 1500 (some ⟨b_rA,(aa x17)⟩),upd (upd (upd (upd (fun _=>none) 1625 (some ⟨g1.2.2.2,4,(t1.2.descending.map ay),true⟩)) 1624 (some ⟨g1.2.2.1,85,(t1.2.aggregates.map ax),true⟩)) 1623 (some ⟨g1.2.1,82,(t1.2.exprs.map al),true⟩)) 1622 (some ⟨g1.1,9,(t1.2.names.map aB),true⟩)⟩) (Gh.le aO (ab rfl (cX.r) (ab rfl (cX.r) ao)) (aq (aq (aq (aq am))))) ?_;refine ii tk rfl (ps:=[]) rfl (PLe.q rfl) ⟨_,_,_,_,rfl,rfl⟩
  refine bc ?_;obtain rfl:=aF H;refine be (st':=⟨21,fun _=>.any,upd (upd (fun _=>none) 1501 (some ⟨b_q,[(ac t1.2.kind),(.str t1.2.table),(.own 1622 g1.1 (t1.2.names.map aB).length),(.own 1623 g1.2.1 (t1.2.exprs.map al).length),(.own 1624 g1.2.2.1 (t1.2.aggregates.map ax).length),(.own 1625 g1.2.2.2 (t1.2.descending.map ay).length),(ac t1.2.count),(ac t1.2.offset),(.list 29 (t1.2.inputs.map ag))]⟩)) 1500 (some ⟨b_rA,(aa x12.2)⟩),upd (upd (upd (upd (fun _=>none) 1625 (some ⟨g1.2.2.2,4,(t1.2.descending.map ay),true⟩)) 1624 (some ⟨g1.2.2.1,85,(t1.2.aggregates.map ax),true⟩)) 1623 (some ⟨g1.2.1,82,(t1.2.exprs.map al),true⟩)) 1622 (some ⟨g1.1,9,(t1.2.names.map aB),true⟩)⟩) (Gh.le aO (ab rfl (cX.r) (ab rfl (cX.r) ao)) (aq (aq (aq (aq am))))) ?_;refine ii tk rfl (ps:=[]) rfl (PLe.q rfl) ⟨_,_,_,_,rfl,rfl⟩
 refine bc (ae (aw tk ?_));refine aC tk rfl ?_
 obtain⟨y20,h20,X20,H⟩:=aX H
 have s20:=fU b_rA b_q g1.1 g1.2.1 g1.2.2.1 g1.2.2.2 b2 b3 x12.2 t1.2 _ h20;refine aH Tryz.call86 [(1500,1500),(1501,1501),(2,1700),(3,1701)] [(1622,1622),(1623,1623),(1624,1624),(1625,1625)] s20 (X20 _) ?_;rintro u20 H20h hR20
 obtain⟨x20,⟨gz20_1622,gz20_1623,gz20_1624,gz20_1625,rfl,rfl⟩,H⟩:=H _ _ _ hR20
 refine⟨_,rfl,?_⟩
 refine aE (st':=⟨_,_,upd (upd (upd (upd (fun _=>none) 1501 (some ⟨b_q,[(ac x20.2.kind),(.str x20.2.table),(.own 1622 gz20_1622 (x20.2.names.map aB).length),(.own 1623 gz20_1623 (x20.2.exprs.map al).length),(.own 1624 gz20_1624 (x20.2.aggregates.map ax).length),(.own 1625 gz20_1625 (x20.2.descending.map ay).length),(ac x20.2.count),(ac x20.2.offset),(.list 29 (x20.2.inputs.map ag))]⟩)) 1500 (some ⟨b_rA,(aa x20.1)⟩)) 3 (some ⟨b3,[(.box 1501 b_q 0)]⟩)) 2 (some ⟨b2,[(.box 1500 b_rA 0)]⟩),upd (upd (upd (upd (fun _=>none) 1625 (some ⟨gz20_1625,4,(x20.2.descending.map ay),true⟩)) 1624 (some ⟨gz20_1624,85,(x20.2.aggregates.map ax),true⟩)) 1623 (some ⟨gz20_1623,82,(x20.2.exprs.map al),true⟩)) 1622 (some ⟨gz20_1622,9,(x20.2.names.map aB),true⟩)⟩) (Gh.le (av _ _) (ab rfl (cX.r) (ab rfl (cX.r) (ab rfl (cX.r) (ab rfl (cX.r) ao)))) (aq (aq (aq (aq am))))) ?_;refine af ?_;obtain rfl:=aF H;refine be (st':=⟨21,fun _=>.any,upd (upd (fun _=>none) 1501 (some ⟨b_q,[(ac x20.2.kind),(.str x20.2.table),(.own 1622 gz20_1622 (x20.2.names.map aB).length),(.own 1623 gz20_1623 (x20.2.exprs.map al).length),(.own 1624 gz20_1624 (x20.2.aggregates.map ax).length),(.own 1625 gz20_1625 (x20.2.descending.map ay).length),(ac x20.2.count),(ac x20.2.offset),(.list 29 (x20.2.inputs.map ag))]⟩)) 1500 (some ⟨b_rA,(aa x20.1)⟩),upd (upd (upd (upd (fun _=>none) 1625 (some ⟨gz20_1625,4,(x20.2.descending.map ay),true⟩)) 1624 (some ⟨gz20_1624,85,(x20.2.aggregates.map ax),true⟩)) 1623 (some ⟨gz20_1623,82,(x20.2.exprs.map al),true⟩)) 1622 (some ⟨gz20_1622,9,(x20.2.names.map aB),true⟩)⟩) (Gh.le aO (ab rfl (cX.r) (ab rfl (cX.r) ao)) (aq (aq (aq (aq am))))) ?_;refine dG rfl (PLe.q rfl) ⟨_,_,_,_,rfl,rfl⟩
end
end Go.Proofs.YtibojibdiibdgaaGreatDoor
