/- queryParseFormatsCanonically_holds, part 3: the layer, the plain functions and what they compute; conditions as in the statement. -/
import Derived.Test.YtibojibdiibdgaaGreatDoorQfb
set_option maxHeartbeats 4000000
namespace Go.Proofs.YtibojibdiibdgaaGreatDoor
noncomputable section
open Go Go.Ab
attribute [local irreducible] V Ao Do Gh Eff PH IntKind.wrap
set_option maxRecDepth 4000
def aG(rA:LQueryparserParser)(sA:List UInt8):Option (Except Int (LQueryparserParser)):=
 ag (al rA sA) fun x6=>
 cond (!x6.1)
  (bg (aR x6.2) fun x9=>
  some (.ok x9))
  (some (.ok x6.2))
theorem aS(b_rA:Nat)(rA:LQueryparserParser)(sA:List UInt8)(r:Except Int (LQueryparserParser))(H:aG rA sA=some r):
  ba Tryz.prog 53 [(.box 1500 b_rA 0),(.str sA)] ⟨upd (fun _=>none) 1500 (some ⟨b_rA,(aa rA)⟩),fun _=>none⟩ (RX r (fun rv u H=>u=(.tup [])∧H=⟨upd (fun _=>none) 1500 (some ⟨b_rA,(aa rv)⟩),fun _=>none⟩)) (PX 106 r):=by
 unfold aG at H;refine ba.intro Tryz.func53 rfl Tryz.ntmps53 rfl ?_;refine ah (ae (au 2 tk rfl ?_))
 obtain⟨x6,h6,H⟩:=ax H
 have s6:=aC b_rA rA sA _ h6;refine bE (g:=52) rfl rfl rfl Tryz.call52 [(1500,1500)] [] rfl rfl rfl rfl (dQ.of2 (eO.cons jn.boxT (eO.cons (jn.of_eq rfl) eO.nil))) (by rw[aU,be,bf];rfl) s6 ?_;rintro u6 H6h ⟨rfl,rfl⟩
 refine⟨_,rfl,?_⟩
 refine aH (st':=⟨_,_,upd (fun _=>none) 1500 (some ⟨b_rA,(aa x6.2)⟩),fun _=>none⟩) (Gh.le (az _ _) (ab rfl (dQ.r) ar) aq) ?_;refine ap tk rfl (af ?_);refine aT rfl H (fun H=>?_) (fun H=>?_)
 ·refine ae (ap tk rfl ?_)
  obtain⟨y9,h9,X9,H⟩:=bq H
  have s9:=bO b_rA x6.2 _ h9;refine aP Tryz.call56 [(1500,1500)] [] s9 (X9 _) ?_;rintro u9 H9h hR9
  obtain⟨x9,⟨rfl,rfl⟩,H⟩:=H _ _ _ hR9
  refine⟨_,rfl,?_⟩
  refine aH (st':=⟨_,_,upd (fun _=>none) 1500 (some ⟨b_rA,(aa x9)⟩),fun _=>none⟩) (Gh.le (az _ _) (ab rfl (dQ.r) ar) aq) ?_;refine af ?_;obtain rfl:=aF H;refine bD (st':=⟨10,fun _=>.any,upd (fun _=>none) 1500 (some ⟨b_rA,(aa x9)⟩),fun _=>none⟩) (Gh.le aV (ab rfl (dQ.r) ar) aq) ?_;refine eU rfl (PLe.q rfl) ⟨rfl,rfl⟩
 refine aQ ?_;obtain rfl:=aF H;refine bD (st':=⟨10,fun _=>.any,upd (fun _=>none) 1500 (some ⟨b_rA,(aa x6.2)⟩),fun _=>none⟩) (Gh.le aV (ab rfl (dQ.r) ar) aq) ?_;refine eU rfl (PLe.q rfl) ⟨rfl,rfl⟩
def bh(rA:LQueryparserParser):Option (Except Int ((List UInt8)×LQueryparserParser)):=
 ag (bJ rA) fun x5=>
 ag (
  cond (x5.1.kind !=(1:Int))
   (cZ (aR x5.2) fun x10=>
   some (.next x10))
   (some (.next x5.2))) fun(fl1:Flow (LQueryparserParser) (Except Int ((List UInt8)×LQueryparserParser)))=>fl1.thenR fun t1=>
 some (.ok (x5.1.text,(LQueryparserParser.mk t1.tokens (IntKind.i64.wrap (t1.next+(1:Int))) t1.size)))
theorem cB(b_rA:Nat)(rA:LQueryparserParser)(r:Except Int ((List UInt8)×LQueryparserParser))(H:bh rA=some r):
  ba Tryz.prog 54 [(.box 1500 b_rA 0)] ⟨upd (fun _=>none) 1500 (some ⟨b_rA,(aa rA)⟩),fun _=>none⟩ (RX r (fun rv u H=>u=(.str rv.1)∧H=⟨upd (fun _=>none) 1500 (some ⟨b_rA,(aa rv.2)⟩),fun _=>none⟩)) (PX 106 r):=by
 unfold bh at H;refine ba.intro Tryz.func54 rfl Tryz.ntmps54 rfl ?_;refine aM 1 tk rfl (ah (ae (ap tk rfl ?_)))
 obtain⟨x5,h5,H⟩:=ax H
 have s5:=cM b_rA rA _ h5;refine bE (g:=84) rfl rfl rfl Tryz.call84 [(1500,1500)] [] rfl rfl rfl rfl (dQ.of2 (eO.cons jn.boxT eO.nil)) (by rw[aU,be,bf];rfl) s5 ?_;rintro u5 H5h ⟨rfl,rfl⟩
 refine⟨_,rfl,?_⟩
 refine aH (st':=⟨_,_,upd (fun _=>none) 1500 (some ⟨b_rA,(aa x5.2)⟩),fun _=>none⟩) (Gh.le (az _ _) (ab rfl (dQ.r) ar) aq) ?_;refine aW tk fun b3=>?_
 refine ao tk ?_;refine af (ah (ah (ae (ap tk rfl (av tk ?_)))));refine ap tk rfl (af ?_);refine lW (γ:=Unit) (fun t1 g1=>⟨20,upd (upd (fun _=>.any) 3 (.box 3 b3 0)) 0 (.box 1500 b_rA 0),upd (upd (fun _=>none) 1500 (some ⟨b_rA,(aa t1)⟩)) 3 (some ⟨b3,(aO x5.1)⟩),fun _=>none⟩) H (fun _ H Hp1=>?_) (fun t1 g1 H=>?_)
 ·refine aT rfl H (fun H=>?_) (fun H=>?_)
  ·refine ae (ap tk rfl ?_)
   obtain⟨y10,h10,X10,H⟩:=dP H
   have s10:=bO b_rA x5.2 _ h10;refine aP Tryz.call56 [(1500,1500)] [] s10 (pxF (fun e he=>(lvJ (X10 e he) Hp1)) _) ?_;rintro u10 H10h hR10
   obtain⟨x10,⟨rfl,rfl⟩,H⟩:=H _ _ _ hR10
   refine⟨_,rfl,?_⟩
   refine aH (st':=⟨_,_,upd (upd (fun _=>none) 1500 (some ⟨b_rA,(aa x10)⟩)) 3 (some ⟨b3,(aO x5.1)⟩),fun _=>none⟩) (Gh.le (az _ _) (ab rfl (dQ.r) (ab rfl (dQ.r) ar)) aq) ?_;refine af ?_;refine bX _ () (aF H).symm Gh.d
  refine aQ ?_;refine bX _ () (aF H).symm Gh.d
 refine ah (ae (au 3 tk rfl (av tk ?_)));refine au 3 tk rfl (ao tk ?_);refine af (ah (ae (ap tk rfl (av tk ?_))));refine ap tk rfl (af ?_);obtain rfl:=aF H;refine bD (st':=⟨20,upd (fun _=>.any) 2 (.str x5.1.text),upd (fun _=>none) 1500 (some ⟨b_rA,(aa (LQueryparserParser.mk t1.tokens (IntKind.i64.wrap (t1.next+(1:Int))) t1.size))⟩),fun _=>none⟩) (Gh.le (bF aV) (ab rfl (dQ.r) ar) aq) ?_;refine jZ tk rfl (ps:=[(.str x5.1.text)]) ⟨_,_,rfl,rfl,rfl⟩ (PLe.q rfl) ⟨rfl,rfl⟩
def bG(rA:LQueryparserParser):Option (Except Int (Int×LQueryparserParser)):=
 ag (bJ rA) fun x5=>
 ag (
  cond (x5.1.kind !=(3:Int))
   (cZ (aR x5.2) fun x10=>
   some (.next x10))
   (some (.next x5.2))) fun(fl1:Flow (LQueryparserParser) (Except Int (Int×LQueryparserParser)))=>fl1.thenR fun t1=>
 some (.ok (x5.1.number,(LQueryparserParser.mk t1.tokens (IntKind.i64.wrap (t1.next+(1:Int))) t1.size)))
theorem dO(b_rA:Nat)(rA:LQueryparserParser)(r:Except Int (Int×LQueryparserParser))(H:bG rA=some r):
  ba Tryz.prog 93 [(.box 1500 b_rA 0)] ⟨upd (fun _=>none) 1500 (some ⟨b_rA,(aa rA)⟩),fun _=>none⟩ (RX r (fun rv u H=>u=(ac rv.1)∧H=⟨upd (fun _=>none) 1500 (some ⟨b_rA,(aa rv.2)⟩),fun _=>none⟩)) (PX 106 r):=by
 unfold bG at H;refine ba.intro Tryz.func93 rfl Tryz.ntmps93 rfl ?_;refine aM 1 tk rfl (ah (ae (ap tk rfl ?_)))
 obtain⟨x5,h5,H⟩:=ax H
 have s5:=cM b_rA rA _ h5;refine bE (g:=84) rfl rfl rfl Tryz.call84 [(1500,1500)] [] rfl rfl rfl rfl (dQ.of2 (eO.cons jn.boxT eO.nil)) (by rw[aU,be,bf];rfl) s5 ?_;rintro u5 H5h ⟨rfl,rfl⟩
 refine⟨_,rfl,?_⟩
 refine aH (st':=⟨_,_,upd (fun _=>none) 1500 (some ⟨b_rA,(aa x5.2)⟩),fun _=>none⟩) (Gh.le (az _ _) (ab rfl (dQ.r) ar) aq) ?_;refine aW tk fun b3=>?_
 refine ao tk ?_;refine af (ah (ah (ae (ap tk rfl (av tk ?_)))));refine ap tk rfl (af ?_);refine lW (γ:=Unit) (fun t1 g1=>⟨20,upd (upd (fun _=>.any) 3 (.box 3 b3 0)) 0 (.box 1500 b_rA 0),upd (upd (fun _=>none) 1500 (some ⟨b_rA,(aa t1)⟩)) 3 (some ⟨b3,(aO x5.1)⟩),fun _=>none⟩) H (fun _ H Hp1=>?_) (fun t1 g1 H=>?_)
 ·refine aT rfl H (fun H=>?_) (fun H=>?_)
  ·refine ae (ap tk rfl ?_)
   obtain⟨y10,h10,X10,H⟩:=dP H
   have s10:=bO b_rA x5.2 _ h10;refine aP Tryz.call56 [(1500,1500)] [] s10 (pxF (fun e he=>(lvJ (X10 e he) Hp1)) _) ?_;rintro u10 H10h hR10
   obtain⟨x10,⟨rfl,rfl⟩,H⟩:=H _ _ _ hR10
   refine⟨_,rfl,?_⟩
   refine aH (st':=⟨_,_,upd (upd (fun _=>none) 1500 (some ⟨b_rA,(aa x10)⟩)) 3 (some ⟨b3,(aO x5.1)⟩),fun _=>none⟩) (Gh.le (az _ _) (ab rfl (dQ.r) (ab rfl (dQ.r) ar)) aq) ?_;refine af ?_;refine bX _ () (aF H).symm Gh.d
  refine aQ ?_;refine bX _ () (aF H).symm Gh.d
 refine ah (ae (au 3 tk rfl (av tk ?_)));refine au 3 tk rfl (ao tk ?_);refine af (ah (ae (ap tk rfl (av tk ?_))));refine ap tk rfl (af ?_);obtain rfl:=aF H;refine bD (st':=⟨20,upd (fun _=>.any) 2 (ac x5.1.number),upd (fun _=>none) 1500 (some ⟨b_rA,(aa (LQueryparserParser.mk t1.tokens (IntKind.i64.wrap (t1.next+(1:Int))) t1.size))⟩),fun _=>none⟩) (Gh.le (bF aV) (ab rfl (dQ.r) ar) aq) ?_;refine jZ tk rfl (ps:=[(ac x5.1.number)]) ⟨_,_,rfl,rfl,rfl⟩ (PLe.q rfl) ⟨rfl,rfl⟩
def dF(rA:LQueryparserParser):Option (Except Int (LQueryparserParser)):=
 cond (decide (rA.next<(rA.tokens.length:Int)))
  (bg (aR rA) fun x13=>
  some (.ok x13))
  (some (.ok rA))
theorem kr(b_rA:Nat)(rA:LQueryparserParser)(r:Except Int (LQueryparserParser))(H:dF rA=some r):
  ba Tryz.prog 23 [(.box 1500 b_rA 0)] ⟨upd (fun _=>none) 1500 (some ⟨b_rA,(aa rA)⟩),fun _=>none⟩ (RX r (fun rv u H=>u=(.tup [])∧H=⟨upd (fun _=>none) 1500 (some ⟨b_rA,(aa rv)⟩),fun _=>none⟩)) (PX 106 r):=by
 unfold dF at H;refine ba.intro Tryz.func23 rfl Tryz.ntmps23 rfl ?_;refine ah (de tk mok ⟨true,false,[]⟩ [0,1,2,3,4,5,6,7,8,9] rfl (by decide+kernel) rfl (bA 3 rfl (dH ?_)));refine bA 3 rfl (dH ?_);refine mB rfl rfl rfl rfl rfl rfl (zl _) rfl (bQ rfl (bP ?_));refine aT rfl H (fun H=>?_) (fun H=>?_)
 ·refine ae (ap tk rfl ?_)
  obtain⟨y13,h13,X13,H⟩:=bq H
  have s13:=bO b_rA rA _ h13;refine aP Tryz.call56 [(1500,1500)] [] s13 (X13 _) ?_;rintro u13 H13h hR13
  obtain⟨x13,⟨rfl,rfl⟩,H⟩:=H _ _ _ hR13
  refine⟨_,rfl,?_⟩
  refine aH (st':=⟨_,_,upd (fun _=>none) 1500 (some ⟨b_rA,(aa x13)⟩),fun _=>none⟩) (Gh.le (az _ _) (ab rfl (dQ.r) ar) aq) ?_;refine af ?_;obtain rfl:=aF H;refine bD (st':=⟨14,fun _=>.any,upd (fun _=>none) 1500 (some ⟨b_rA,(aa x13)⟩),fun _=>none⟩) (Gh.le aV (ab rfl (dQ.r) ar) aq) ?_;refine eU rfl (PLe.q rfl) ⟨rfl,rfl⟩
 refine aQ ?_;obtain rfl:=aF H;refine bD (st':=⟨14,fun _=>.any,upd (fun _=>none) 1500 (some ⟨b_rA,(aa rA)⟩),fun _=>none⟩) (Gh.le aV (ab rfl (dQ.r) ar) aq) ?_;refine eU rfl (PLe.q rfl) ⟨rfl,rfl⟩
def gm(sA:List UInt8):Option (LLexerToken×Int×Bool):=
 ag (bl sA 0) fun(x11:UInt8)=>
 dv (
  cond (decide ((x11.toNat:Int)≥(97:Int)))
   ((decide ((x11.toNat:Int)≤(122:Int))))
   (false)) fun(t1:Bool)=>
 cond t1
  (ag (dJ (σ:=Int) (ρ:=Empty) (fun(s2:Int)=>
   cond (decide (s2<(sA.length:Int)))
    (ag (bl sA s2) fun(x26:UInt8)=>
    dv (et x26) fun x27=>
    cond x27
     (some (.next (IntKind.i64.wrap (s2+(1:Int)))))
     (some (.brk s2)))
    (some (.brk s2))) 1) fun fl2=>fl2.thenP fun(s2:Int)=>
  ag (fj sA 0 s2) fun(x34:List UInt8)=>
  dv (fX) fun x31=>
  ag (cz x31 x34) fun x35=>
  dv (
   cond x35
    (2)
    (1)) fun(t3:Int)=>
  ag (fj sA 0 s2) fun(x39:List UInt8)=>
  cond (t3==(2:Int))
   (some ((LLexerToken.mk t3 x39 0 0),s2,true))
   (some ((LLexerToken.mk t3 x39 0 0),s2,(decide (s2≤(12:Int))))))
  (dv (cU x11) fun x50=>
  cond x50
   (ag (fR sA 0) fun x52=>
   some (x52.1,x52.2.1,x52.2.2))
   (cond ((x11.toNat:Int)==(63:Int))
    (ag (fg sA) fun x60=>
    some (x60.1,x60.2.1,x60.2.2))
    (cond ((x11.toNat:Int)==(39:Int))
     (ag (fO sA) fun x68=>
     some (x68.1,x68.2.1,x68.2.2))
     (ag (iq (([[124,124],[60,61],[40],[41],[44],[124],[43],[45],[42],[61],[60],[36]]:List (List UInt8)).length:Int)) fun(n4:Nat)=>
     ag (aY (σ:=Unit) (ρ:=(LLexerToken×Int×Bool)) (fun(j4:Nat) (_:Nat) (_:Unit)=>
      ag (bl ([[124,124],[60,61],[40],[41],[44],[124],[43],[45],[42],[61],[60],[36]]:List (List UInt8)) (j4:Int)) fun(x76:List UInt8)=>
      ag (ix sA x76) fun x80=>
      cond x80
       (some (.ret ((LLexerToken.mk 5 x76 0 0),(x76.length:Int),true)))
       (some (.next ()))) 0 (List.range n4) ()) fun fl4=>fl4.thenR fun(_:Unit)=>
     some ((LLexerToken.mk 0 [] 0 0),0,false)))))
theorem W_lexer_one(sA:List UInt8)(r:LLexerToken×Int×Bool)(H:gm sA=some r):
  bI Tryz.prog 24 [(.str sA)] (.tup [(.agg (aO r.1)),(ac r.2.1),(bu r.2.2)]):=by
 unfold gm at H;refine PH.br Tryz.func24 Tryz.ntmps24 ?_;refine ah (ae ?_);refine aW tk fun b2=>?_
 refine au 2 tk rfl (af (ah (ah (ae (ap tk rfl ?_)))))
 obtain⟨x11,k11,H⟩:=dg H
 refine fD tk k11.1 k11.2 ?_;refine ap tk rfl (af (bs (ah ?_)));refine ni (γ:=Unit) (fun t1 g1=>⟨87,upd (upd (upd (upd (fun _=>.any) 12 (bu t1)) 5 (.val (.int .u8 (x11.toNat:Int)))) 2 (.box 2 b2 0)) 0 (.str sA),upd (fun _=>none) 2 (some ⟨b2,[(ac 0),(.str []),(ac 0),(ac 0)]⟩),fun _=>none⟩) H (fun _ H=>?_) (fun t1 g1 H=>?_)
 ·refine ae (au 3 tk rfl ?_);refine cL rfl rfl rfl H (fun H=>?_) (fun H=>?_)
  ·refine au 4 tk rfl (af ?_);refine bX _ () H Gh.d
  refine au 4 tk rfl (af ?_);refine bX _ () H Gh.d
 refine aT rfl H (fun H=>?_) (fun H=>?_)
 ·refine aM 1 tk rfl (ah ?_)
  obtain⟨fl2,H2,Hp2⟩:=ax H
  refine fI (τ:=Int) (γ:=Unit) (fun s2 g2=>⟨87,upd (upd (upd (fun _=>.any) 6 (ac s2)) 2 (.box 2 b2 0)) 0 (.str sA),upd (fun _=>none) 2 (some ⟨b2,[(ac 0),(.str []),(ac 0),(ac 0)]⟩),fun _=>none⟩) (fun t=>fl2= .next t) ?_ (fun s2 g2 hn2=>?_)
  ·refine bs ?_;refine fV (fun s2 g2=>⟨87,upd (upd (upd (fun _=>.any) 6 (ac s2)) 2 (.box 2 b2 0)) 0 (.str sA),upd (fun _=>none) 2 (some ⟨b2,[(ac 0),(.str []),(ac 0),(ac 0)]⟩),fun _=>none⟩) () H2 Gh.d (fun m2 s2 g2 hr2=>?_)
   obtain⟨fb2,H,hg2⟩:=eY hr2
   refine ah (ah (ae (au 5 tk rfl ?_)));refine cL rfl rfl rfl H (fun H=>?_) (fun H=>?_)
   ·refine au 2 tk rfl ?_
    obtain⟨x26,k26,H⟩:=dg H
    refine fD tk k26.1 k26.2 ?_
    obtain⟨x27,h27,H⟩:=fE H
    have s27:=jy x26;rw[h27]at s27;refine aI Tryz.call57 (dQ.r) s27 ?_;refine ap tk rfl (af ?_);refine aT rfl H (fun H=>?_) (fun H=>?_)
    ·refine aQ (bs (eW 3 tk rfl (bU ?_)));obtain rfl:=aF H;refine eR (IntKind.i64.wrap (s2+(1:Int))) () hg2 Gh.d
    refine eI rfl ?_;obtain rfl:=aF H;refine bX s2 () hg2 Gh.d
   refine au 5 tk rfl (af (jS rfl (eI rfl ?_)));obtain rfl:=aF H;refine bX s2 () hg2 Gh.d
  have H:=thenP_next hn2 Hp2;refine aM 1 tk rfl (ah (ah (de tk mok ⟨false,false,[]⟩ [1,2,3,0,4] rfl (by decide+kernel) rfl (bA 2 rfl ?_))))
  obtain⟨x34,h34,H⟩:=ax H
  have k34:=fB h34;refine ln rfl rfl rfl rfl rfl rfl rfl rfl k34.1 k34.2 rfl ?_
  obtain⟨x31,h31,H⟩:=fE H
  have s31:=mY;rw[h31]at s31;refine eH Tryz.call59 (dQ.r) s31 ?_
  obtain⟨x35,h35,H⟩:=ax H
  have s35:=gZ x31 x34 _ h35;refine eH Tryz.call58 (dQ.r) s35 ?_;refine bP ?_;refine ni (γ:=Unit) (fun t3 g3=>⟨87,upd (upd (upd (upd (fun _=>.any) 7 (ac t3)) 6 (ac s2)) 2 (.box 2 b2 0)) 0 (.str sA),upd (fun _=>none) 2 (some ⟨b2,[(ac 0),(.str []),(ac 0),(ac 0)]⟩),fun _=>none⟩) H (fun _ H=>?_) (fun t3 g3 H=>?_)
  ·refine aT rfl H (fun H=>?_) (fun H=>?_)
   ·refine eW 1 tk rfl ?_;refine bX _ () H Gh.d
   refine aQ ?_;refine bX _ () H Gh.d
  refine ah (ae (au 3 tk rfl ?_))
  obtain⟨x39,h39,H⟩:=ax H
  have k39:=fB h39;refine mK tk rfl rfl rfl rfl rfl rfl rfl k39.1 k39.2 rfl (au 5 tk rfl ?_);refine cL rfl rfl rfl H (fun H=>?_) (fun H=>?_)
  ·refine au 3 tk rfl (ao tk ?_);refine au 2 tk rfl (af ?_);obtain rfl:=aF H;refine cD tk rfl (ps:=[(.agg [(ac t3),(.str x39),(ac 0),(ac 0)]),(ac s2),(bu true)]) ⟨_,_,rfl,⟨_,_,_,_,_,rfl,rfl,rfl,rfl⟩,_,_,rfl,rfl,_,_,rfl,rfl,rfl⟩ (PLe.q rfl)
  refine au 3 tk rfl (ao tk ?_);refine au 2 tk rfl (af ?_);obtain rfl:=aF H;refine cD tk rfl (ps:=[(.agg [(ac t3),(.str x39),(ac 0),(ac 0)]),(ac s2),(bu (decide (s2≤(12:Int))))]) ⟨_,_,rfl,⟨_,_,_,_,_,rfl,rfl,rfl,rfl⟩,_,_,rfl,rfl,_,_,rfl,rfl,rfl⟩ (PLe.q rfl)
 refine ah (ae (ap tk rfl ?_))
 obtain⟨x50,h50,H⟩:=fE H
 have s50:=jx x11;rw[h50]at s50;refine aI Tryz.call60 (dQ.r) s50 ?_;refine ap tk rfl (af ?_);refine aT rfl H (fun H=>?_) (fun H=>?_)
 ·refine ah (ae (ap tk rfl ?_))
  obtain⟨x52,h52,H⟩:=ax H
  have s52:=W_lexer_number sA 0 _ h52;refine aI Tryz.call61 (dQ.r) s52 ?_;refine au 3 tk rfl (ao tk ?_);refine au 2 tk rfl (af ?_);obtain rfl:=aF H;refine cD tk rfl (ps:=[(.agg (aO x52.1)),(ac x52.2.1),(bu x52.2.2)]) ⟨_,_,rfl,⟨_,_,_,_,_,rfl,rfl,rfl,rfl⟩,_,_,rfl,rfl,_,_,rfl,rfl,rfl⟩ (PLe.q rfl)
 refine aM 3 tk rfl ?_;refine aT rfl H (fun H=>?_) (fun H=>?_)
 ·refine ah (ae (ap tk rfl ?_))
  obtain⟨x60,h60,H⟩:=ax H
  have s60:=mZ sA _ h60;refine aI Tryz.call62 (dQ.r) s60 ?_;refine au 3 tk rfl (ao tk ?_);refine au 2 tk rfl (af ?_);obtain rfl:=aF H;refine cD tk rfl (ps:=[(.agg (aO x60.1)),(ac x60.2.1),(bu x60.2.2)]) ⟨_,_,rfl,⟨_,_,_,_,_,rfl,rfl,rfl,rfl⟩,_,_,rfl,rfl,_,_,rfl,rfl,rfl⟩ (PLe.q rfl)
 refine aM 3 tk rfl ?_;refine aT rfl H (fun H=>?_) (fun H=>?_)
 ·refine ah (ae (ap tk rfl ?_))
  obtain⟨x68,h68,H⟩:=ax H
  have s68:=W_lexer_quoted sA _ h68;refine aI Tryz.call63 (dQ.r) s68 ?_;refine au 3 tk rfl (ao tk ?_);refine au 2 tk rfl (af ?_);obtain rfl:=aF H;refine cD tk rfl (ps:=[(.agg (aO x68.1)),(ac x68.2.1),(bu x68.2.2)]) ⟨_,_,rfl,⟨_,_,_,_,_,rfl,rfl,rfl,rfl⟩,_,_,rfl,rfl,_,_,rfl,rfl,rfl⟩ (PLe.q rfl)
 refine aQ (bU (ah (ah (ae (nc (e:=9) (rows:=[[(.str [124,124])],[(.str [60,61])],[(.str [40])],[(.str [41])],[(.str [44])],[(.str [124])],[(.str [43])],[(.str [45])],[(.str [42])],[(.str [61])],[(.str [60])],[(.str [36])]]) tk rfl rfl rfl rfl (rows':=List.map aD ([[124,124],[60,61],[40],[41],[44],[124],[43],[45],[42],[61],[60],[36]]:List (List UInt8))) (by kernel_rfl) (dN.refl _) rfl rfl (bK tk (zl _) ?_))))));refine ap tk rfl (af ?_)
 obtain⟨n4,hs4,H⟩:=ax H
 have hz4:=kO hs4
 obtain⟨fl4,H4,Hp4⟩:=ax H
 refine fI (τ:=Unit) (γ:=Unit) (fun s4 g4=>⟨87,upd (fun _=>.any) 2 (.box 2 b2 0),upd (fun _=>none) 2 (some ⟨b2,[(ac 0),(.str []),(ac 0),(ac 0)]⟩),fun _=>none⟩) (fun t=>fl4= .next t) ?_ (fun s4 g4 hn4=>?_)
 ·refine bs ?_;refine lH (fun j4 s4 g4=>⟨87,upd (upd (upd (upd (upd (fun _=>.any) 74 (ac (j4:Int))) 73 (ac (([[124,124],[60,61],[40],[41],[44],[124],[43],[45],[42],[61],[60],[36]]:List (List UInt8)).length:Int))) 72 (.list 9 (([[124,124],[60,61],[40],[41],[44],[124],[43],[45],[42],[61],[60],[36]]:List (List UInt8)).map aD))) 2 (.box 2 b2 0)) 0 (.str sA),upd (fun _=>none) 2 (some ⟨b2,[(ac 0),(.str []),(ac 0),(ac 0)]⟩),fun _=>none⟩) () H4 Gh.d (fun j4 s4 g4 hj4 hr4=>?_);refine aM 1 tk rfl (ah ?_);refine kl rfl (fun h=>?_) (fun h=>?_)
  ·have hl4:=natLt hz4 h
   obtain⟨x4,fb4,hx4,H,hg4⟩:=rMc hl4 hr4
   obtain rfl:=natX hx4;refine aQ (ah (bs (ah (ae ?_))))
   obtain⟨x76,k76,H⟩:=dg H
   refine dI tk k76.1 (co (fun _=>rfl) k76.2) ?_;refine au 2 tk rfl (af (ah (ae (au 2 tk rfl ?_))))
   obtain⟨x80,h80,H⟩:=ax H
   have s80:=W_hasPrefix sA x76 _ h80;refine aI Tryz.call64 (dQ.r) s80 ?_;refine af ?_;refine aT rfl H (fun H=>?_) (fun H=>?_)
   ·refine ah (ae (au 4 tk rfl (ao tk ?_)));refine au 2 tk rfl (af ?_);obtain rfl:=aF H;have e4:fl4= .ret _:=hg4;subst e4;obtain rfl:=dW Hp4;refine cD tk rfl (ps:=[(.agg [(ac 5),(.str x76),(ac 0),(ac 0)]),(ac (x76.length:Int)),(bu true)]) ⟨_,_,rfl,⟨_,_,_,_,_,rfl,rfl,rfl,rfl⟩,_,_,rfl,rfl,_,_,rfl,rfl,rfl⟩ (PLe.q rfl)
   refine aQ (bU (eW 2 tk rfl ?_));exact gr () H hl4 hg4 (Gh.le (bF (bF (bF (bF (kt (PLe.q (lF hz4 hl4)) aV))))) (ab rfl (dQ.r) ar) aq)
  have hn4:=rMd (natGe hz4 h) hr4;refine eI rfl ?_;refine bX s4 g4 hn4 Gh.d
 have H:=eG hn4 Hp4;refine ah (ae (ap tk rfl (ao tk ?_)));refine au 2 tk rfl (af ?_);obtain rfl:=aF H;refine cD tk rfl (ps:=[(.agg [(ac 0),(.str []),(ac 0),(ac 0)]),(ac 0),(bu false)]) ⟨_,_,rfl,⟨_,_,_,_,_,rfl,rfl,rfl,rfl⟩,_,_,rfl,rfl,_,_,rfl,rfl,rfl⟩ (PLe.q rfl)
def dt(rA:LQueryparserParser):Option (Except Int (LVal×LQueryparserParser)):=
 ag (bJ rA) fun x6=>
 ag (al x6.2 ([110,117,108,108]:List UInt8)) fun x9=>
 cond x9.1
  (some (.ok ((LVal.mk 0 0 []),x9.2)))
  (ag (al x9.2 ([116,114,117,101]:List UInt8)) fun x13=>
  cond x13.1
   (dv (fF true) fun x14=>
   some (.ok (x14,x13.2)))
   (ag (al x13.2 ([102,97,108,115,101]:List UInt8)) fun x17=>
   cond x17.1
    (dv (fF false) fun x18=>
    some (.ok (x18,x17.2)))
    (ag (al x17.2 ([45]:List UInt8)) fun x21=>
    cond x21.1
     (bg (bG x21.2) fun x23=>
     cond (x23.1==(0:Int))
      (bg (aR (LQueryparserParser.mk x23.2.tokens (IntKind.i64.wrap (x23.2.next-(1:Int))) x23.2.size)) fun x34=>
      dv (cT (IntKind.i64.wrap (0-x23.1))) fun x37=>
      some (.ok (x37,x34)))
      (dv (cT (IntKind.i64.wrap (0-x23.1))) fun x37=>
      some (.ok (x37,x23.2))))
     (cond (x6.1.kind==(4:Int))
      (some (.ok ((LVal.mk 3 0 x6.1.text),(LQueryparserParser.mk x21.2.tokens (IntKind.i64.wrap (x21.2.next+(1:Int))) x21.2.size))))
      (bg (bG x21.2) fun x53=>
      dv (cT x53.1) fun x54=>
      some (.ok (x54,x53.2)))))))
theorem jq(b_rA:Nat)(rA:LQueryparserParser)(r:Except Int (LVal×LQueryparserParser))(H:dt rA=some r):
  ba Tryz.prog 133 [(.box 1500 b_rA 0)] ⟨upd (fun _=>none) 1500 (some ⟨b_rA,(aa rA)⟩),fun _=>none⟩ (RX r (fun rv u H=>u=(.agg (fe rv.1))∧H=⟨upd (fun _=>none) 1500 (some ⟨b_rA,(aa rv.2)⟩),fun _=>none⟩)) (PX 106 r):=by
 unfold dt at H;refine ba.intro Tryz.func133 rfl Tryz.ntmps133 rfl ?_;refine ah (ae ?_);refine aW tk fun b2=>?_
 refine af (ah (ae (ap tk rfl ?_)))
 obtain⟨x6,h6,H⟩:=ax H
 have s6:=cM b_rA rA _ h6;refine bE (g:=84) rfl rfl rfl Tryz.call84 [(1500,1500)] [] rfl rfl rfl rfl (dQ.of2 (eO.cons jn.boxT eO.nil)) (by rw[aU,be,bf];rfl) s6 ?_;rintro u6 H6h ⟨rfl,rfl⟩
 refine⟨_,rfl,?_⟩
 refine aH (st':=⟨_,_,upd (upd (fun _=>none) 1500 (some ⟨b_rA,(aa x6.2)⟩)) 2 (some ⟨b2,[(ac 0),(ac 0),(.str [])]⟩),fun _=>none⟩) (Gh.le (az _ _) (ab rfl (dQ.r) (ab rfl (dQ.r) ar)) aq) ?_;refine aW tk fun b3=>?_
 refine ao tk ?_;refine af (ah (bs (ah (ae (ap tk rfl ?_)))))
 obtain⟨x9,h9,H⟩:=ax H
 have s9:=aC b_rA x6.2 ([110,117,108,108]:List UInt8) _ h9;refine bE (g:=52) rfl rfl rfl Tryz.call52 [(1500,1500)] [] rfl rfl rfl rfl (dQ.of2 (eO.cons jn.boxT (eO.cons (jn.of_eq rfl) eO.nil))) (by rw[aU,be,bf];rfl) s9 ?_;rintro u9 H9h ⟨rfl,rfl⟩
 refine⟨_,rfl,?_⟩
 refine aH (st':=⟨_,_,upd (upd (upd (fun _=>none) 1500 (some ⟨b_rA,(aa x9.2)⟩)) 3 (some ⟨b3,(aO x6.1)⟩)) 2 (some ⟨b2,[(ac 0),(ac 0),(.str [])]⟩),fun _=>none⟩) (Gh.le (az _ _) (ab rfl (dQ.r) (ab rfl (dQ.r) (ab rfl (dQ.r) ar))) aq) ?_;refine ap tk rfl (af ?_);refine aT rfl H (fun H=>?_) (fun H=>?_)
 ·refine ah (ae (ap tk rfl (ao tk ?_)));refine af ?_;obtain rfl:=aF H;refine bD (st':=⟨55,upd (fun _=>.any) 2 (.box 2 b2 0),upd (upd (fun _=>none) 1500 (some ⟨b_rA,(aa x9.2)⟩)) 2 (some ⟨b2,[(ac 0),(ac 0),(.str [])]⟩),fun _=>none⟩) (Gh.le (bF aV) (ab rfl (dQ.r) (ab rfl (dQ.r) ar)) aq) ?_;refine cF tk rfl (ps:=[(.agg [(ac 0),(ac 0),(.str [])])]) ⟨_,_,rfl,⟨_,_,_,_,_,rfl,rfl,rfl,rfl⟩,rfl⟩ (PLe.q rfl) (HSub.updB rfl) ⟨rfl,rfl⟩
 refine ah (ae (ap tk rfl ?_))
 obtain⟨x13,h13,H⟩:=ax H
 have s13:=aC b_rA x9.2 ([116,114,117,101]:List UInt8) _ h13;refine bE (g:=52) rfl rfl rfl Tryz.call52 [(1500,1500)] [] rfl rfl rfl rfl (dQ.of2 (eO.cons jn.boxT (eO.cons (jn.of_eq rfl) eO.nil))) (by rw[aU,be,bf];rfl) s13 ?_;rintro u13 H13h ⟨rfl,rfl⟩
 refine⟨_,rfl,?_⟩
 refine aH (st':=⟨_,_,upd (upd (upd (fun _=>none) 1500 (some ⟨b_rA,(aa x13.2)⟩)) 3 (some ⟨b3,(aO x6.1)⟩)) 2 (some ⟨b2,[(ac 0),(ac 0),(.str [])]⟩),fun _=>none⟩) (Gh.le (az _ _) (ab rfl (dQ.r) (ab rfl (dQ.r) (ab rfl (dQ.r) ar))) aq) ?_;refine ap tk rfl (af ?_);refine aT rfl H (fun H=>?_) (fun H=>?_)
 ·refine ah (ae ?_)
  obtain⟨x14,h14,H⟩:=fE H
  have s14:=mV true;rw[h14]at s14;refine aI Tryz.call172 (dQ.r) s14 ?_;refine ao tk ?_;refine af ?_;obtain rfl:=aF H;refine bD (st':=⟨55,upd (fun _=>.any) 2 (.box 2 b2 0),upd (upd (fun _=>none) 1500 (some ⟨b_rA,(aa x13.2)⟩)) 2 (some ⟨b2,(fe x14)⟩),fun _=>none⟩) (Gh.le (bF aV) (ab rfl (dQ.r) (ab rfl (dQ.r) ar)) aq) ?_;refine cF tk rfl (ps:=[(.agg (fe x14))]) ⟨_,_,rfl,⟨_,_,_,_,_,rfl,rfl,rfl,rfl⟩,rfl⟩ (PLe.q rfl) (HSub.updB rfl) ⟨rfl,rfl⟩
 refine ah (ae (ap tk rfl ?_))
 obtain⟨x17,h17,H⟩:=ax H
 have s17:=aC b_rA x13.2 ([102,97,108,115,101]:List UInt8) _ h17;refine bE (g:=52) rfl rfl rfl Tryz.call52 [(1500,1500)] [] rfl rfl rfl rfl (dQ.of2 (eO.cons jn.boxT (eO.cons (jn.of_eq rfl) eO.nil))) (by rw[aU,be,bf];rfl) s17 ?_;rintro u17 H17h ⟨rfl,rfl⟩
 refine⟨_,rfl,?_⟩
 refine aH (st':=⟨_,_,upd (upd (upd (fun _=>none) 1500 (some ⟨b_rA,(aa x17.2)⟩)) 3 (some ⟨b3,(aO x6.1)⟩)) 2 (some ⟨b2,[(ac 0),(ac 0),(.str [])]⟩),fun _=>none⟩) (Gh.le (az _ _) (ab rfl (dQ.r) (ab rfl (dQ.r) (ab rfl (dQ.r) ar))) aq) ?_;refine ap tk rfl (af ?_);refine aT rfl H (fun H=>?_) (fun H=>?_)
 ·refine ah (ae ?_)
  obtain⟨x18,h18,H⟩:=fE H
  have s18:=mV false;rw[h18]at s18;refine aI Tryz.call172 (dQ.r) s18 ?_;refine ao tk ?_;refine af ?_;obtain rfl:=aF H;refine bD (st':=⟨55,upd (fun _=>.any) 2 (.box 2 b2 0),upd (upd (fun _=>none) 1500 (some ⟨b_rA,(aa x17.2)⟩)) 2 (some ⟨b2,(fe x18)⟩),fun _=>none⟩) (Gh.le (bF aV) (ab rfl (dQ.r) (ab rfl (dQ.r) ar)) aq) ?_;refine cF tk rfl (ps:=[(.agg (fe x18))]) ⟨_,_,rfl,⟨_,_,_,_,_,rfl,rfl,rfl,rfl⟩,rfl⟩ (PLe.q rfl) (HSub.updB rfl) ⟨rfl,rfl⟩
 refine ah (ae (ap tk rfl ?_))
 obtain⟨x21,h21,H⟩:=ax H
 have s21:=aC b_rA x17.2 ([45]:List UInt8) _ h21;refine bE (g:=52) rfl rfl rfl Tryz.call52 [(1500,1500)] [] rfl rfl rfl rfl (dQ.of2 (eO.cons jn.boxT (eO.cons (jn.of_eq rfl) eO.nil))) (by rw[aU,be,bf];rfl) s21 ?_;rintro u21 H21h ⟨rfl,rfl⟩
 refine⟨_,rfl,?_⟩
 refine aH (st':=⟨_,_,upd (upd (upd (fun _=>none) 1500 (some ⟨b_rA,(aa x21.2)⟩)) 3 (some ⟨b3,(aO x6.1)⟩)) 2 (some ⟨b2,[(ac 0),(ac 0),(.str [])]⟩),fun _=>none⟩) (Gh.le (az _ _) (ab rfl (dQ.r) (ab rfl (dQ.r) (ab rfl (dQ.r) ar))) aq) ?_;refine ap tk rfl (af ?_);refine aT rfl H (fun H=>?_) (fun H=>?_)
 ·refine ah (ae (ap tk rfl ?_))
  obtain⟨y23,h23,X23,H⟩:=bq H
  have s23:=dO b_rA x21.2 _ h23;refine aP Tryz.call93 [(1500,1500)] [] s23 (X23 _) ?_;rintro u23 H23h hR23
  obtain⟨x23,⟨rfl,rfl⟩,H⟩:=H _ _ _ hR23
  refine⟨_,rfl,?_⟩
  refine aH (st':=⟨_,_,upd (upd (upd (fun _=>none) 1500 (some ⟨b_rA,(aa x23.2)⟩)) 3 (some ⟨b3,(aO x6.1)⟩)) 2 (some ⟨b2,[(ac 0),(ac 0),(.str [])]⟩),fun _=>none⟩) (Gh.le (az _ _) (ab rfl (dQ.r) (ab rfl (dQ.r) (ab rfl (dQ.r) ar))) aq) ?_;refine ap tk rfl (af (ah (aM 2 tk rfl ?_)));refine aT rfl H (fun H=>?_) (fun H=>?_)
  ·refine ah (ae (au 3 tk rfl (av tk ?_)));refine au 3 tk rfl (ao tk ?_);refine af (ae (ap tk rfl ?_))
   obtain⟨y34,h34,X34,H⟩:=bq H
   have s34:=bO b_rA (LQueryparserParser.mk x23.2.tokens (IntKind.i64.wrap (x23.2.next-(1:Int))) x23.2.size) _ h34;refine aP Tryz.call56 [(1500,1500)] [] s34 (X34 _) ?_;rintro u34 H34h hR34
   obtain⟨x34,⟨rfl,rfl⟩,H⟩:=H _ _ _ hR34
   refine⟨_,rfl,?_⟩
   refine aH (st':=⟨_,_,upd (upd (upd (fun _=>none) 1500 (some ⟨b_rA,(aa x34)⟩)) 3 (some ⟨b3,(aO x6.1)⟩)) 2 (some ⟨b2,[(ac 0),(ac 0),(.str [])]⟩),fun _=>none⟩) (Gh.le (az _ _) (ab rfl (dQ.r) (ab rfl (dQ.r) (ab rfl (dQ.r) ar))) aq) ?_;refine af (ah (ae (au 2 tk rfl ?_)))
   obtain⟨x37,h37,H⟩:=fE H
   have s37:=lM (IntKind.i64.wrap (0-x23.1));rw[h37]at s37;refine aI Tryz.call173 (dQ.r) s37 ?_;refine ao tk ?_;refine af ?_;obtain rfl:=aF H;refine bD (st':=⟨55,upd (fun _=>.any) 2 (.box 2 b2 0),upd (upd (fun _=>none) 1500 (some ⟨b_rA,(aa x34)⟩)) 2 (some ⟨b2,(fe x37)⟩),fun _=>none⟩) (Gh.le (bF aV) (ab rfl (dQ.r) (ab rfl (dQ.r) ar)) aq) ?_;refine cF tk rfl (ps:=[(.agg (fe x37))]) ⟨_,_,rfl,⟨_,_,_,_,_,rfl,rfl,rfl,rfl⟩,rfl⟩ (PLe.q rfl) (HSub.updB rfl) ⟨rfl,rfl⟩
  refine aQ (ah (ae (au 2 tk rfl ?_)))
  obtain⟨x37,h37,H⟩:=fE H
  have s37:=lM (IntKind.i64.wrap (0-x23.1));rw[h37]at s37;refine aI Tryz.call173 (dQ.r) s37 ?_;refine ao tk ?_;refine af ?_;obtain rfl:=aF H;refine bD (st':=⟨55,upd (fun _=>.any) 2 (.box 2 b2 0),upd (upd (fun _=>none) 1500 (some ⟨b_rA,(aa x23.2)⟩)) 2 (some ⟨b2,(fe x37)⟩),fun _=>none⟩) (Gh.le (bF aV) (ab rfl (dQ.r) (ab rfl (dQ.r) ar)) aq) ?_;refine cF tk rfl (ps:=[(.agg (fe x37))]) ⟨_,_,rfl,⟨_,_,_,_,_,rfl,rfl,rfl,rfl⟩,rfl⟩ (PLe.q rfl) (HSub.updB rfl) ⟨rfl,rfl⟩
 refine ah (ae (ap tk rfl (av tk ?_)));refine au 2 tk rfl (af ?_);refine aT rfl H (fun H=>?_) (fun H=>?_)
 ·refine ah (ae (au 3 tk rfl (av tk ?_)));refine au 3 tk rfl (ao tk ?_);refine af (ah (ae (ap tk rfl (av tk ?_))));refine ap tk rfl (ao tk ?_);refine af ?_;obtain rfl:=aF H;refine bD (st':=⟨55,upd (fun _=>.any) 2 (.box 2 b2 0),upd (upd (fun _=>none) 1500 (some ⟨b_rA,(aa (LQueryparserParser.mk x21.2.tokens (IntKind.i64.wrap (x21.2.next+(1:Int))) x21.2.size))⟩)) 2 (some ⟨b2,[(ac 3),(ac 0),(.str x6.1.text)]⟩),fun _=>none⟩) (Gh.le (bF aV) (ab rfl (dQ.r) (ab rfl (dQ.r) ar)) aq) ?_;refine cF tk rfl (ps:=[(.agg [(ac 3),(ac 0),(.str x6.1.text)])]) ⟨_,_,rfl,⟨_,_,_,_,_,rfl,rfl,rfl,rfl⟩,rfl⟩ (PLe.q rfl) (HSub.updB rfl) ⟨rfl,rfl⟩
 refine aQ (bU (ah (ae (ap tk rfl ?_))))
 obtain⟨y53,h53,X53,H⟩:=bq H
 have s53:=dO b_rA x21.2 _ h53;refine aP Tryz.call93 [(1500,1500)] [] s53 (X53 _) ?_;rintro u53 H53h hR53
 obtain⟨x53,⟨rfl,rfl⟩,H⟩:=H _ _ _ hR53
 refine⟨_,rfl,?_⟩
 refine aH (st':=⟨_,_,upd (upd (upd (fun _=>none) 1500 (some ⟨b_rA,(aa x53.2)⟩)) 3 (some ⟨b3,(aO x6.1)⟩)) 2 (some ⟨b2,[(ac 0),(ac 0),(.str [])]⟩),fun _=>none⟩) (Gh.le (az _ _) (ab rfl (dQ.r) (ab rfl (dQ.r) (ab rfl (dQ.r) ar))) aq) ?_
 obtain⟨x54,h54,H⟩:=fE H
 have s54:=lM x53.1;rw[h54]at s54;refine aI Tryz.call173 (dQ.r) s54 ?_;refine ao tk ?_;refine af ?_;obtain rfl:=aF H;refine bD (st':=⟨55,upd (fun _=>.any) 2 (.box 2 b2 0),upd (upd (fun _=>none) 1500 (some ⟨b_rA,(aa x53.2)⟩)) 2 (some ⟨b2,(fe x54)⟩),fun _=>none⟩) (Gh.le (bF aV) (ab rfl (dQ.r) (ab rfl (dQ.r) ar)) aq) ?_;refine cF tk rfl (ps:=[(.agg (fe x54))]) ⟨_,_,rfl,⟨_,_,_,_,_,rfl,rfl,rfl,rfl⟩,rfl⟩ (PLe.q rfl) (HSub.updB rfl) ⟨rfl,rfl⟩
def cA(sA:List UInt8):Option ((List LLexerToken)×Int×Int):=
 cond (decide ((sA.length:Int)>(4000:Int)))
  (some ([],0,2))
  (ag (dJ (σ:=List LLexerToken×Int) (ρ:=((List LLexerToken)×Int×Int)) (fun(s1:List LLexerToken×Int)=>
   cond (decide (s1.2<(sA.length:Int)))
    (ag (
     ag (bl sA s1.2) fun(x19:UInt8)=>
     cond ((x19.toNat:Int)==(32:Int))
      (some true)
      (ag (bl sA s1.2) fun(x24:UInt8)=>
      some ((x24.toNat:Int)==(10:Int)))) fun(t4:Bool)=>
    cond t4
     (some (.next (s1.1,(IntKind.i64.wrap (s1.2+(1:Int))))))
     (ag (fj sA s1.2 (sA.length:Int)) fun(x32:List UInt8)=>
     ag (gm x32) fun x33=>
     cond (!x33.2.2)
      (some (.ret ([],s1.2,22)))
      (ag (dY 40 s1.1 ([(LLexerToken.mk x33.1.kind x33.1.text x33.1.number s1.2)]:List LLexerToken)) fun(x45:List LLexerToken)=>
      some (.next (x45,(IntKind.i64.wrap (s1.2+x33.2.1)))))))
    (some (.brk (s1.1,s1.2)))) ([],0)) fun fl1=>fl1.thenR fun(s1:List LLexerToken×Int)=>
  some (s1.1,0,0))
theorem kg(sA:List UInt8)(r:(List LLexerToken)×Int×Int)(H:cA sA=some r):
  bI Tryz.prog 8 [(.str sA)] (.tup [(.list 76 (r.1.map aO)),(ac r.2.1),(ac r.2.2)]):=by
 unfold cA at H;refine PH.br Tryz.func8 Tryz.ntmps8 ?_;refine aM 3 tk rfl (ah (aM 3 tk rfl ?_));refine aT rfl H (fun H=>?_) (fun H=>?_)
 ·refine aM 3 tk rfl ?_;obtain rfl:=aF H;refine cD tk rfl (ps:=[(.val (.slice none 0 0)),(ac 0),(ac 2)]) ⟨_,_,rfl,rfl,_,_,rfl,rfl,_,_,rfl,rfl,rfl⟩ (PLe.of2 (jn.tup (eO.cons (jn.nil tk rfl) (eO.cons (jn.of_eq rfl) (eO.cons (jn.of_eq rfl) eO.nil)))))
 refine aQ (aM 1 tk rfl (ah (aM 1 tk rfl ?_)))
 obtain⟨fl1,H1,Hp1⟩:=ax H
 refine fI (τ:=List LLexerToken×Int) (γ:=OwnRef) (fun s1 g1=>⟨50,upd (fun _=>.any) 5 (.own 45 g1 (s1.1.map aO).length),fun _=>none,upd (fun _=>none) 45 (some ⟨g1,76,(s1.1.map aO),true⟩)⟩) (fun t=>fl1= .next t) ?_ (fun s1 g1 hn1=>?_)
 ·refine bs (mj tk 5 45 (e:=76) rfl rfl ?_);refine fV (fun s1 g1=>⟨50,upd (upd (upd (fun _=>.any) 6 (ac s1.2)) 5 (.own 45 g1 (s1.1.map aO).length)) 0 (.str sA),fun _=>none,upd (fun _=>none) 45 (some ⟨g1,76,(s1.1.map aO),true⟩)⟩) (⟨none,0⟩) H1 Gh.d (fun m1 s1 g1 hr1=>?_)
  obtain⟨fb1,H,hg1⟩:=eY hr1
  refine ah (aM 4 tk rfl ?_);refine aT rfl H (fun H=>?_) (fun H=>?_)
  ·refine aQ (bs (ah (ah ?_)));refine jk (γ:=Unit) (fun t4 g4=>⟨50,upd (upd (upd (upd (fun _=>.any) 26 (bu t4)) 6 (ac s1.2)) 5 (.own 45 g1 (s1.1.map aO).length)) 0 (.str sA),fun _=>none,upd (fun _=>none) 45 (some ⟨g1,76,(s1.1.map aO),true⟩)⟩) H (fun _ H=>?_) (fun t4 g4 H=>?_)
   ·refine ae (au 2 tk rfl ?_)
    obtain⟨x19,k19,H⟩:=dg H
    refine fD tk k19.1 k19.2 ?_;refine au 2 tk rfl ?_;refine cL rfl rfl rfl H (fun H=>?_) (fun H=>?_)
    ·refine au 5 tk rfl (af ?_);refine bX _ () (aF H) Gh.d
    refine au 2 tk rfl ?_
    obtain⟨x24,k24,H⟩:=dg H
    refine fD tk k24.1 k24.2 ?_;refine au 2 tk rfl (af ?_);refine bX _ () (aF H) Gh.d
   refine aT rfl H (fun H=>?_) (fun H=>?_)
   ·refine aM 3 tk rfl (eI rfl ?_);obtain rfl:=aF H;refine eR (s1.1,(IntKind.i64.wrap (s1.2+(1:Int)))) g1 hg1 Gh.d
   refine aQ (ah (ae (au 2 tk rfl ?_)))
   obtain⟨x32,h32,H⟩:=ax H
   have k32:=fB h32;refine mK tk rfl rfl rfl rfl rfl rfl rfl k32.1 k32.2 rfl ?_
   obtain⟨x33,h33,H⟩:=ax H
   have s33:=W_lexer_one x32 _ h33;refine aI Tryz.call24 (dQ.r) s33 ?_;refine au 4 tk rfl ?_;refine aW tk fun b7=>?_
   refine ao tk ?_;refine au 2 tk rfl (af (ah (aM 2 tk rfl ?_)));refine aT rfl H (fun H=>?_) (fun H=>?_)
   ·refine aM 4 tk rfl ?_;obtain rfl:=aF H;have e1:fl1= .ret _:=hg1;subst e1;obtain rfl:=dW Hp1;refine cD tk rfl (ps:=[(.val (.slice none 0 0)),(ac s1.2),(ac 22)]) ⟨_,_,rfl,rfl,_,_,rfl,rfl,_,_,rfl,rfl,rfl⟩ (PLe.of2 (jn.tup (eO.cons (jn.nil tk rfl) (eO.cons (jn.of_eq rfl) (eO.cons (jn.of_eq rfl) eO.nil)))))
   refine aQ (ah (ae (au 2 tk rfl (ao tk ?_))));refine af (ah (ae (ap tk rfl (av tk ?_))));refine ic tk (rows':=List.map aO ([(LLexerToken.mk x33.1.kind x33.1.text x33.1.number s1.2)]:List LLexerToken)) rfl (dN.refl _) ?_
   obtain⟨x45,h45,H⟩:=ax H
   have k45:=dU h45;refine jD (rows2':=List.map aO ([(LLexerToken.mk x33.1.kind x33.1.text x33.1.number s1.2)]:List LLexerToken)) (rows':=List.map aO x45) tk rfl rfl rfl rfl rfl rfl rfl rfl rfl rfl rfl rfl rfl (dN.refl _) (fc k45.1) (fa k45.2.1) (eZ k45.2.2) fun g45=>?_
   refine ap tk rfl (af (eW 4 tk rfl (bU ?_)));obtain rfl:=aF H;refine eR (x45,(IntKind.i64.wrap (s1.2+x33.2.1))) g45 hg1 Gh.d
  refine eI rfl ?_;obtain rfl:=aF H;refine bX (s1.1,s1.2) g1 hg1 Gh.d
 have H:=eG hn1 Hp1;refine aM 4 tk rfl (fT 2 rfl rfl rfl ?_);exact bm tk H rfl
def dz(_rec85:LQueryparserParser→Option (Except Int (LExpr×LQueryparserParser)))(rec132:LQueryparserParser→Option (Except Int (LExpr×LQueryparserParser)))(rA:LQueryparserParser):Option (Except Int (LExpr×LQueryparserParser)):=
 ag (bJ rA) fun x5=>
 cond (x5.1.kind==(1:Int))
  (some (.ok ((LExpr.mk 2 x5.1.text 0 (LVal.mk 0 0 []) []),(LQueryparserParser.mk x5.2.tokens (IntKind.i64.wrap (x5.2.next+(1:Int))) x5.2.size))))
  (cond (x5.1.kind==(6:Int))
   (ag (idx1 ([63,105,98,116]:List UInt8) x5.1.text) fun x35=>
   some (.ok ((LExpr.mk 3 [] x5.1.number (LVal.mk x35 0 []) []),(LQueryparserParser.mk x5.2.tokens (IntKind.i64.wrap (x5.2.next+(1:Int))) x5.2.size))))
   (ag (al x5.2 ([36]:List UInt8)) fun x40=>
   cond x40.1
    (bg (bh x40.2) fun x42=>
    some (.ok ((LExpr.mk 4 x42.1 0 (LVal.mk 0 0 []) []),x42.2)))
    (ag (al x40.2 ([40]:List UInt8)) fun x46=>
    cond x46.1
     (bg (rec132 x46.2) fun x48=>
     some (.ok (x48.1,x48.2)))
     (bg (dt x46.2) fun x50=>
     some (.ok ((LExpr.mk 1 [] 0 x50.1 []),x50.2))))))
theorem jo(b_rA:Nat)(rec85:LQueryparserParser→Option (Except Int (LExpr×LQueryparserParser)))(rec132:LQueryparserParser→Option (Except Int (LExpr×LQueryparserParser)))(_hrec85:∀bb0 a0 r,rec85 a0=some r→ba Tryz.prog 85 [(.box 1500 bb0 0)] ⟨upd (fun _=>none) 1500 (some ⟨bb0,(aa a0)⟩),fun _=>none⟩ (RX r (fun rv u H=>u=(.agg (bN rv.1))∧H=⟨upd (fun _=>none) 1500 (some ⟨bb0,(aa rv.2)⟩),fun _=>none⟩)) (PX 106 r))(hrec132:∀bb0 a0 r,rec132 a0=some r→ba Tryz.prog 132 [(.box 1500 bb0 0)] ⟨upd (fun _=>none) 1500 (some ⟨bb0,(aa a0)⟩),fun _=>none⟩ (RX r (fun rv u H=>u=(.agg (bN rv.1))∧H=⟨upd (fun _=>none) 1500 (some ⟨bb0,(aa rv.2)⟩),fun _=>none⟩)) (PX 106 r))(rA:LQueryparserParser)(r:Except Int (LExpr×LQueryparserParser))(H:dz rec85 rec132 rA=some r):
  ba Tryz.prog 85 [(.box 1500 b_rA 0)] ⟨upd (fun _=>none) 1500 (some ⟨b_rA,(aa rA)⟩),fun _=>none⟩ (RX r (fun rv u H=>u=(.agg (bN rv.1))∧H=⟨upd (fun _=>none) 1500 (some ⟨b_rA,(aa rv.2)⟩),fun _=>none⟩)) (PX 106 r):=by
 unfold dz at H;refine ba.intro Tryz.func85 rfl Tryz.ntmps85 rfl ?_;refine ah (ae ?_);refine aW tk fun b2=>?_
 refine af (ah (ae (ap tk rfl ?_)))
 obtain⟨x5,h5,H⟩:=ax H
 have s5:=cM b_rA rA _ h5;refine bE (g:=84) rfl rfl rfl Tryz.call84 [(1500,1500)] [] rfl rfl rfl rfl (dQ.of2 (eO.cons jn.boxT eO.nil)) (by rw[aU,be,bf];rfl) s5 ?_;rintro u5 H5h ⟨rfl,rfl⟩
 refine⟨_,rfl,?_⟩
 refine aH (st':=⟨_,_,upd (upd (fun _=>none) 1500 (some ⟨b_rA,(aa x5.2)⟩)) 2 (some ⟨b2,[(ac 0),(.str []),(ac 0),(ac 0),(ac 0),(.str []),(.val (.slice none 0 0))]⟩),fun _=>none⟩) (Gh.le (az _ _) (ab rfl (dQ.r) (ab rfl (dQ.r) ar)) aq) ?_;refine aW tk fun b3=>?_
 refine ao tk ?_;refine af (ah (bs (ah (ae (ap tk rfl (av tk ?_))))));refine au 2 tk rfl (af ?_);refine aT rfl H (fun H=>?_) (fun H=>?_)
 ·refine ah (ae (au 3 tk rfl (av tk ?_)));refine au 3 tk rfl (ao tk ?_);refine af (ah (ae (ap tk rfl (av tk ?_))));refine ap tk rfl (ao tk ?_);refine af ?_;obtain rfl:=aF H;refine bD (st':=⟨52,upd (fun _=>.any) 2 (.box 2 b2 0),upd (upd (fun _=>none) 1500 (some ⟨b_rA,(aa (LQueryparserParser.mk x5.2.tokens (IntKind.i64.wrap (x5.2.next+(1:Int))) x5.2.size))⟩)) 2 (some ⟨b2,[(ac 2),(.str x5.1.text),(ac 0),(ac 0),(ac 0),(.str []),(.val (.slice none 0 0))]⟩),fun _=>none⟩) (Gh.le (bF aV) (ab rfl (dQ.r) (ab rfl (dQ.r) ar)) aq) ?_;refine cF tk rfl (ps:=[(.agg [(ac 2),(.str x5.1.text),(ac 0),(ac 0),(ac 0),(.str []),(.val (.slice none 0 0))])]) ⟨_,_,rfl,⟨_,_,_,_,_,rfl,rfl,rfl,rfl⟩,rfl⟩ (PLe.of2 (jn.agg (eO.cons (jn.of_eq rfl) (eO.cons (jn.of_eq rfl) (eO.cons (jn.of_eq rfl) (eO.cons (jn.of_eq rfl) (eO.cons (jn.of_eq rfl) (eO.cons (jn.of_eq rfl) (eO.cons (jn.nil tk rfl) eO.nil))))))))) (HSub.updB rfl) ⟨rfl,rfl⟩
 refine ah (ae (ap tk rfl (av tk ?_)));refine au 2 tk rfl (af ?_);refine aT rfl H (fun H=>?_) (fun H=>?_)
 ·refine ah (ae (au 3 tk rfl (av tk ?_)));refine au 3 tk rfl (ao tk ?_);refine af (ah (ky 3 rfl rfl rfl rfl (de tk mok ⟨false,false,[]⟩ [0,1,2,3,4,5,6,7] rfl (by decide+kernel) rfl (bA 4 rfl ?_))))
  obtain⟨x35,h35,H⟩:=ax H
  have s35:=W_idx1 ([63,105,98,116]:List UInt8) x5.1.text _ h35;refine eH Tryz.call131 (dQ.r) s35 ?_;refine bA 2 rfl (fW rfl rfl rfl rfl rfl rfl rfl rfl rfl rfl rfl rfl (bP ?_));obtain rfl:=aF H;refine bD (st':=⟨52,upd (fun _=>.any) 2 (.box 2 b2 0),upd (upd (fun _=>none) 1500 (some ⟨b_rA,(aa (LQueryparserParser.mk x5.2.tokens (IntKind.i64.wrap (x5.2.next+(1:Int))) x5.2.size))⟩)) 2 (some ⟨b2,[(ac 3),(.str []),(ac x5.1.number),(ac x35),(ac 0),(.str []),(.val (.slice none 0 0))]⟩),fun _=>none⟩) (Gh.le (bF aV) (ab rfl (dQ.r) (ab rfl (dQ.r) ar)) aq) ?_;refine cF tk rfl (ps:=[(.agg [(ac 3),(.str []),(ac x5.1.number),(ac x35),(ac 0),(.str []),(.val (.slice none 0 0))])]) ⟨_,_,rfl,⟨_,_,_,_,_,rfl,rfl,rfl,rfl⟩,rfl⟩ (PLe.of2 (jn.agg (eO.cons (jn.of_eq rfl) (eO.cons (jn.of_eq rfl) (eO.cons (jn.of_eq rfl) (eO.cons (jn.of_eq rfl) (eO.cons (jn.of_eq rfl) (eO.cons (jn.of_eq rfl) (eO.cons (jn.nil tk rfl) eO.nil))))))))) (HSub.updB rfl) ⟨rfl,rfl⟩
 refine ah (ae (ap tk rfl ?_))
 obtain⟨x40,h40,H⟩:=ax H
 have s40:=aC b_rA x5.2 ([36]:List UInt8) _ h40;refine bE (g:=52) rfl rfl rfl Tryz.call52 [(1500,1500)] [] rfl rfl rfl rfl (dQ.of2 (eO.cons jn.boxT (eO.cons (jn.of_eq rfl) eO.nil))) (by rw[aU,be,bf];rfl) s40 ?_;rintro u40 H40h ⟨rfl,rfl⟩
 refine⟨_,rfl,?_⟩
 refine aH (st':=⟨_,_,upd (upd (upd (fun _=>none) 1500 (some ⟨b_rA,(aa x40.2)⟩)) 3 (some ⟨b3,(aO x5.1)⟩)) 2 (some ⟨b2,[(ac 0),(.str []),(ac 0),(ac 0),(ac 0),(.str []),(.val (.slice none 0 0))]⟩),fun _=>none⟩) (Gh.le (az _ _) (ab rfl (dQ.r) (ab rfl (dQ.r) (ab rfl (dQ.r) ar))) aq) ?_;refine ap tk rfl (af ?_);refine aT rfl H (fun H=>?_) (fun H=>?_)
 ·refine ah (ae (ap tk rfl ?_))
  obtain⟨y42,h42,X42,H⟩:=bq H
  have s42:=cB b_rA x40.2 _ h42;refine aP Tryz.call54 [(1500,1500)] [] s42 (X42 _) ?_;rintro u42 H42h hR42
  obtain⟨x42,⟨rfl,rfl⟩,H⟩:=H _ _ _ hR42
  refine⟨_,rfl,?_⟩
  refine aH (st':=⟨_,_,upd (upd (upd (fun _=>none) 1500 (some ⟨b_rA,(aa x42.2)⟩)) 3 (some ⟨b3,(aO x5.1)⟩)) 2 (some ⟨b2,[(ac 0),(.str []),(ac 0),(ac 0),(ac 0),(.str []),(.val (.slice none 0 0))]⟩),fun _=>none⟩) (Gh.le (az _ _) (ab rfl (dQ.r) (ab rfl (dQ.r) (ab rfl (dQ.r) ar))) aq) ?_;refine ap tk rfl (ao tk ?_);refine af ?_;obtain rfl:=aF H;refine bD (st':=⟨52,upd (fun _=>.any) 2 (.box 2 b2 0),upd (upd (fun _=>none) 1500 (some ⟨b_rA,(aa x42.2)⟩)) 2 (some ⟨b2,[(ac 4),(.str x42.1),(ac 0),(ac 0),(ac 0),(.str []),(.val (.slice none 0 0))]⟩),fun _=>none⟩) (Gh.le (bF aV) (ab rfl (dQ.r) (ab rfl (dQ.r) ar)) aq) ?_;refine cF tk rfl (ps:=[(.agg [(ac 4),(.str x42.1),(ac 0),(ac 0),(ac 0),(.str []),(.val (.slice none 0 0))])]) ⟨_,_,rfl,⟨_,_,_,_,_,rfl,rfl,rfl,rfl⟩,rfl⟩ (PLe.of2 (jn.agg (eO.cons (jn.of_eq rfl) (eO.cons (jn.of_eq rfl) (eO.cons (jn.of_eq rfl) (eO.cons (jn.of_eq rfl) (eO.cons (jn.of_eq rfl) (eO.cons (jn.of_eq rfl) (eO.cons (jn.nil tk rfl) eO.nil))))))))) (HSub.updB rfl) ⟨rfl,rfl⟩
 refine ah (ae (ap tk rfl ?_))
 obtain⟨x46,h46,H⟩:=ax H
 have s46:=aC b_rA x40.2 ([40]:List UInt8) _ h46;refine bE (g:=52) rfl rfl rfl Tryz.call52 [(1500,1500)] [] rfl rfl rfl rfl (dQ.of2 (eO.cons jn.boxT (eO.cons (jn.of_eq rfl) eO.nil))) (by rw[aU,be,bf];rfl) s46 ?_;rintro u46 H46h ⟨rfl,rfl⟩
 refine⟨_,rfl,?_⟩
 refine aH (st':=⟨_,_,upd (upd (upd (fun _=>none) 1500 (some ⟨b_rA,(aa x46.2)⟩)) 3 (some ⟨b3,(aO x5.1)⟩)) 2 (some ⟨b2,[(ac 0),(.str []),(ac 0),(ac 0),(ac 0),(.str []),(.val (.slice none 0 0))]⟩),fun _=>none⟩) (Gh.le (az _ _) (ab rfl (dQ.r) (ab rfl (dQ.r) (ab rfl (dQ.r) ar))) aq) ?_;refine ap tk rfl (af ?_);refine aT rfl H (fun H=>?_) (fun H=>?_)
 ·refine ah (ae (ap tk rfl ?_))
  obtain⟨y48,h48,X48,H⟩:=bq H
  have s48:=hrec132 b_rA x46.2 _ h48;refine aP Tryz.call132 [(1500,1500)] [] s48 (X48 _) ?_;rintro u48 H48h hR48
  obtain⟨x48,⟨rfl,rfl⟩,H⟩:=H _ _ _ hR48
  refine⟨_,rfl,?_⟩
  refine aH (st':=⟨_,_,upd (upd (upd (fun _=>none) 1500 (some ⟨b_rA,(aa x48.2)⟩)) 3 (some ⟨b3,(aO x5.1)⟩)) 2 (some ⟨b2,[(ac 0),(.str []),(ac 0),(ac 0),(ac 0),(.str []),(.val (.slice none 0 0))]⟩),fun _=>none⟩) (Gh.le (az _ _) (ab rfl (dQ.r) (ab rfl (dQ.r) (ab rfl (dQ.r) ar))) aq) ?_;refine ao tk ?_;refine af ?_;obtain rfl:=aF H;refine bD (st':=⟨52,upd (fun _=>.any) 2 (.box 2 b2 0),upd (upd (fun _=>none) 1500 (some ⟨b_rA,(aa x48.2)⟩)) 2 (some ⟨b2,(bN x48.1)⟩),fun _=>none⟩) (Gh.le (bF aV) (ab rfl (dQ.r) (ab rfl (dQ.r) ar)) aq) ?_;refine cF tk rfl (ps:=[(.agg (bN x48.1))]) ⟨_,_,rfl,⟨_,_,_,_,_,rfl,rfl,rfl,rfl⟩,rfl⟩ (PLe.q rfl) (HSub.updB rfl) ⟨rfl,rfl⟩
 refine aQ (bU (ah (ae (ap tk rfl ?_))))
 obtain⟨y50,h50,X50,H⟩:=bq H
 have s50:=jq b_rA x46.2 _ h50;refine aP Tryz.call133 [(1500,1500)] [] s50 (X50 _) ?_;rintro u50 H50h hR50
 obtain⟨x50,⟨rfl,rfl⟩,H⟩:=H _ _ _ hR50
 refine⟨_,rfl,?_⟩
 refine aH (st':=⟨_,_,upd (upd (upd (fun _=>none) 1500 (some ⟨b_rA,(aa x50.2)⟩)) 3 (some ⟨b3,(aO x5.1)⟩)) 2 (some ⟨b2,[(ac 0),(.str []),(ac 0),(ac 0),(ac 0),(.str []),(.val (.slice none 0 0))]⟩),fun _=>none⟩) (Gh.le (az _ _) (ab rfl (dQ.r) (ab rfl (dQ.r) (ab rfl (dQ.r) ar))) aq) ?_;refine ap tk rfl (ao tk ?_);refine af ?_;obtain rfl:=aF H;refine bD (st':=⟨52,upd (fun _=>.any) 2 (.box 2 b2 0),upd (upd (fun _=>none) 1500 (some ⟨b_rA,(aa x50.2)⟩)) 2 (some ⟨b2,[(ac 1),(.str []),(ac 0),(ac x50.1.kind),(ac x50.1.int),(.str x50.1.text),(.val (.slice none 0 0))]⟩),fun _=>none⟩) (Gh.le (bF aV) (ab rfl (dQ.r) (ab rfl (dQ.r) ar)) aq) ?_;refine cF tk rfl (ps:=[(.agg [(ac 1),(.str []),(ac 0),(ac x50.1.kind),(ac x50.1.int),(.str x50.1.text),(.val (.slice none 0 0))])]) ⟨_,_,rfl,⟨_,_,_,_,_,rfl,rfl,rfl,rfl⟩,rfl⟩ (PLe.of2 (jn.agg (eO.cons (jn.of_eq rfl) (eO.cons (jn.of_eq rfl) (eO.cons (jn.of_eq rfl) (eO.cons (jn.of_eq rfl) (eO.cons (jn.of_eq rfl) (eO.cons (jn.of_eq rfl) (eO.cons (jn.nil tk rfl) eO.nil))))))))) (HSub.updB rfl) ⟨rfl,rfl⟩
def cX(rec85:LQueryparserParser→Option (Except Int (LExpr×LQueryparserParser)))(_rec132:LQueryparserParser→Option (Except Int (LExpr×LQueryparserParser)))(rA:LQueryparserParser):Option (Except Int (LExpr×LQueryparserParser)):=
 ag (iq (([[110,111,116],[108,101,110,103,116,104]]:List (List UInt8)).length:Int)) fun(n1:Nat)=>
 ag (aY (σ:=LQueryparserParser) (ρ:=(Except Int (LExpr×LQueryparserParser))) (fun(j1:Nat) (_:Nat) (s1:LQueryparserParser)=>
  ag (bl ([[110,111,116],[108,101,110,103,116,104]]:List (List UInt8)) (j1:Int)) fun(x18:List UInt8)=>
  ag (al s1 x18) fun x22=>
  cond x22.1
   (cZ (rec85 x22.2) fun x26=>
   dv (bR x18 ([x26.1]:List LExpr)) fun x28=>
   cZ (aG x26.2 ([41]:List UInt8)) fun x30=>
   some (.ret (.ok (x28,x30))))
   (some (.next x22.2))) 0 (List.range n1) rA) fun fl1=>fl1.thenR fun(s1:LQueryparserParser)=>
 ag (al s1 ([105,102]:List UInt8)) fun x34=>
 cond x34.1
  (bg (rec85 x34.2) fun x36=>
  bg (aG x36.2 ([116,104,101,110]:List UInt8)) fun x38=>
  bg (rec85 x38) fun x40=>
  bg (aG x40.2 ([101,108,115,101]:List UInt8)) fun x42=>
  bg (rec85 x42) fun x47=>
  dv (bR ([105,102]:List UInt8) ([x36.1,x40.1,x47.1]:List LExpr)) fun x49=>
  bg (aG x47.2 ([41]:List UInt8)) fun x51=>
  some (.ok (x49,x51)))
  (bg (rec85 x34.2) fun x54=>
  ag (al x54.2 ([105,115]:List UInt8)) fun x56=>
  cond x56.1
   (bg (aG x56.2 ([110,117,108,108]:List UInt8)) fun x58=>
   bg (aG x58 ([41]:List UInt8)) fun x60=>
   dv (bR ([105,115,32,110,117,108,108]:List UInt8) ([x54.1]:List LExpr)) fun x64=>
   some (.ok (x64,x60)))
   (ag (iq (([[43],[45],[42],[61],[60,61],[60],[97,110,100],[111,114],[124,124]]:List (List UInt8)).length:Int)) fun(n2:Nat)=>
   ag (aY (σ:=LQueryparserParser) (ρ:=(Except Int (LExpr×LQueryparserParser))) (fun(j2:Nat) (_:Nat) (s2:LQueryparserParser)=>
    ag (bl ([[43],[45],[42],[61],[60,61],[60],[97,110,100],[111,114],[124,124]]:List (List UInt8)) (j2:Int)) fun(x69:List UInt8)=>
    ag (al s2 x69) fun x73=>
    cond x73.1
     (cZ (rec85 x73.2) fun x78=>
     dv (bR x69 ([x54.1,x78.1]:List LExpr)) fun x80=>
     cZ (aG x78.2 ([41]:List UInt8)) fun x82=>
     some (.ret (.ok (x80,x82))))
     (some (.next x73.2))) 0 (List.range n2) x56.2) fun fl2=>fl2.thenR fun(s2:LQueryparserParser)=>
   bg (aR s2) fun x86=>
   some (.ok (x54.1,x86))))
theorem iF(b_rA:Nat)(rec85:LQueryparserParser→Option (Except Int (LExpr×LQueryparserParser)))(rec132:LQueryparserParser→Option (Except Int (LExpr×LQueryparserParser)))(hrec85:∀bb0 a0 r,rec85 a0=some r→ba Tryz.prog 85 [(.box 1500 bb0 0)] ⟨upd (fun _=>none) 1500 (some ⟨bb0,(aa a0)⟩),fun _=>none⟩ (RX r (fun rv u H=>u=(.agg (bN rv.1))∧H=⟨upd (fun _=>none) 1500 (some ⟨bb0,(aa rv.2)⟩),fun _=>none⟩)) (PX 106 r))(_hrec132:∀bb0 a0 r,rec132 a0=some r→ba Tryz.prog 132 [(.box 1500 bb0 0)] ⟨upd (fun _=>none) 1500 (some ⟨bb0,(aa a0)⟩),fun _=>none⟩ (RX r (fun rv u H=>u=(.agg (bN rv.1))∧H=⟨upd (fun _=>none) 1500 (some ⟨bb0,(aa rv.2)⟩),fun _=>none⟩)) (PX 106 r))(rA:LQueryparserParser)(r:Except Int (LExpr×LQueryparserParser))(H:cX rec85 rec132 rA=some r):
  ba Tryz.prog 132 [(.box 1500 b_rA 0)] ⟨upd (fun _=>none) 1500 (some ⟨b_rA,(aa rA)⟩),fun _=>none⟩ (RX r (fun rv u H=>u=(.agg (bN rv.1))∧H=⟨upd (fun _=>none) 1500 (some ⟨b_rA,(aa rv.2)⟩),fun _=>none⟩)) (PX 106 r):=by
 unfold cX at H;refine ba.intro Tryz.func132 rfl Tryz.ntmps132 rfl ?_;refine ah (ae ?_);refine aW tk fun b2=>?_
 refine af (aM 1 tk rfl (ah (ah (ae (ic tk (rows':=List.map aD ([[110,111,116],[108,101,110,103,116,104]]:List (List UInt8))) rfl (dN.refl _) ?_)))));refine bK tk (zl _) ?_;refine ap tk rfl (af ?_)
 obtain⟨n1,hs1,H⟩:=ax H
 have hz1:=kO hs1
 obtain⟨fl1,H1,Hp1⟩:=ax H
 refine fI (τ:=LQueryparserParser) (γ:=Unit) (fun s1 g1=>⟨88,upd (upd (upd (fun _=>.any) 3 (.fn 171 [])) 2 (.box 2 b2 0)) 0 (.box 1500 b_rA 0),upd (upd (fun _=>none) 1500 (some ⟨b_rA,(aa s1)⟩)) 2 (some ⟨b2,[(ac 0),(.str []),(ac 0),(ac 0),(ac 0),(.str []),(.val (.slice none 0 0))]⟩),fun _=>none⟩) (fun t=>fl1= .next t) ?_ (fun s1 g1 hn1=>?_)
 ·refine bs ?_;refine lH (fun j1 s1 g1=>⟨88,upd (upd (upd (upd (upd (upd (fun _=>.any) 16 (ac (j1:Int))) 15 (ac (([[110,111,116],[108,101,110,103,116,104]]:List (List UInt8)).length:Int))) 14 (.list 9 (([[110,111,116],[108,101,110,103,116,104]]:List (List UInt8)).map aD))) 3 (.fn 171 [])) 2 (.box 2 b2 0)) 0 (.box 1500 b_rA 0),upd (upd (fun _=>none) 1500 (some ⟨b_rA,(aa s1)⟩)) 2 (some ⟨b2,[(ac 0),(.str []),(ac 0),(ac 0),(ac 0),(.str []),(.val (.slice none 0 0))]⟩),fun _=>none⟩) () H1 Gh.d (fun j1 s1 g1 hj1 hr1=>?_);refine aM 1 tk rfl (ah ?_);refine kl rfl (fun h=>?_) (fun h=>?_)
  ·have hl1:=natLt hz1 h
   obtain⟨x1,fb1,hx1,H,hg1⟩:=rMc hl1 hr1
   obtain rfl:=natX hx1;refine aQ (ah (bs (ah (ae ?_))))
   obtain⟨x18,k18,H⟩:=dg H
   refine dI tk k18.1 (co (fun _=>rfl) k18.2) ?_;refine au 2 tk rfl (af (ah (ae (au 2 tk rfl ?_))))
   obtain⟨x22,h22,H⟩:=ax H
   have s22:=aC b_rA s1 x18 _ h22;refine bE (g:=52) rfl rfl rfl Tryz.call52 [(1500,1500)] [] rfl rfl rfl rfl (dQ.of2 (eO.cons jn.boxT (eO.cons (jn.of_eq rfl) eO.nil))) (by rw[aU,be,bf];rfl) s22 ?_;rintro u22 H22h ⟨rfl,rfl⟩
   refine⟨_,rfl,?_⟩
   refine aH (st':=⟨_,_,upd (upd (fun _=>none) 1500 (some ⟨b_rA,(aa x22.2)⟩)) 2 (some ⟨b2,[(ac 0),(.str []),(ac 0),(ac 0),(ac 0),(.str []),(.val (.slice none 0 0))]⟩),fun _=>none⟩) (Gh.le (az _ _) (ab rfl (dQ.r) (ab rfl (dQ.r) ar)) aq) ?_;refine af ?_;refine aT rfl H (fun H=>?_) (fun H=>?_)
   ·refine ah (ae (au 3 tk rfl ?_))
    obtain⟨y26,h26,X26,H⟩:=dP H
    have s26:=hrec85 b_rA x22.2 _ h26;refine aP Tryz.call85 [(1500,1500)] [] s26 (pxF (fun e he=>(lvR (X26 e he) hg1 Hp1)) _) ?_;rintro u26 H26h hR26
    obtain⟨x26,⟨rfl,rfl⟩,H⟩:=H _ _ _ hR26
    refine⟨_,rfl,?_⟩
    refine aH (st':=⟨_,_,upd (upd (fun _=>none) 1500 (some ⟨b_rA,(aa x26.2)⟩)) 2 (some ⟨b2,[(ac 0),(.str []),(ac 0),(ac 0),(ac 0),(.str []),(.val (.slice none 0 0))]⟩),fun _=>none⟩) (Gh.le (az _ _) (ab rfl (dQ.r) (ab rfl (dQ.r) ar)) aq) ?_;refine ic tk (rows':=List.map am ([x26.1]:List LExpr)) rfl (dN.trans (b:=List.map bN [x26.1]) (dN.refl _) (dN.of_eq (em ck [x26.1]))) ?_
    obtain⟨x28,h28,H⟩:=fE H
    have s28:=dw x18 ([x26.1]:List LExpr);rw[h28]at s28;refine aI Tryz.call171 (dQ.r) s28 ?_;refine aW tk fun b6=>?_
    refine ao tk ?_;refine af (ah (ae (ap tk rfl ?_)))
    obtain⟨y30,h30,X30,H⟩:=dP H
    have s30:=aS b_rA x26.2 ([41]:List UInt8) _ h30;refine aP Tryz.call53 [(1500,1500)] [] s30 (pxF (fun e he=>(lvR (X30 e he) hg1 Hp1)) _) ?_;rintro u30 H30h hR30
    obtain⟨x30,⟨rfl,rfl⟩,H⟩:=H _ _ _ hR30
    refine⟨_,rfl,?_⟩
    refine aH (st':=⟨_,_,upd (upd (upd (fun _=>none) 1500 (some ⟨b_rA,(aa x30)⟩)) 6 (some ⟨b6,(bN x28)⟩)) 2 (some ⟨b2,[(ac 0),(.str []),(ac 0),(ac 0),(ac 0),(.str []),(.val (.slice none 0 0))]⟩),fun _=>none⟩) (Gh.le (az _ _) (ab rfl (dQ.r) (ab rfl (dQ.r) (ab rfl (dQ.r) ar))) aq) ?_;refine af (ah (ae (av tk ?_)));refine ao tk ?_;refine af ?_;obtain rfl:=aF H;have e1:fl1= .ret _:=hg1;subst e1;obtain rfl:=dW Hp1;refine bD (st':=⟨88,upd (fun _=>.any) 2 (.box 2 b2 0),upd (upd (fun _=>none) 1500 (some ⟨b_rA,(aa x30)⟩)) 2 (some ⟨b2,(bN x28)⟩),fun _=>none⟩) (Gh.le (bF aV) (ab rfl (dQ.r) (ab rfl (dQ.r) ar)) aq) ?_;refine cF tk rfl (ps:=[(.agg (bN x28))]) ⟨_,_,rfl,⟨_,_,_,_,_,rfl,rfl,rfl,rfl⟩,rfl⟩ (PLe.q rfl) (HSub.updB rfl) ⟨rfl,rfl⟩
   refine aQ (bU (eW 2 tk rfl ?_));exact gr () H hl1 hg1 (Gh.le (bF (bF (bF (bF (bF (kt (PLe.q (lF hz1 hl1)) aV)))))) (ab rfl (dQ.r) (ab rfl (dQ.r) ar)) aq)
  have hn1:=rMd (natGe hz1 h) hr1;refine eI rfl ?_;refine bX s1 g1 hn1 Gh.d
 have H:=eG hn1 Hp1;refine ah (ah (ae (ap tk rfl ?_)))
 obtain⟨x34,h34,H⟩:=ax H
 have s34:=aC b_rA s1 ([105,102]:List UInt8) _ h34;refine bE (g:=52) rfl rfl rfl Tryz.call52 [(1500,1500)] [] rfl rfl rfl rfl (dQ.of2 (eO.cons jn.boxT (eO.cons (jn.of_eq rfl) eO.nil))) (by rw[aU,be,bf];rfl) s34 ?_;rintro u34 H34h ⟨rfl,rfl⟩
 refine⟨_,rfl,?_⟩
 refine aH (st':=⟨_,_,upd (upd (fun _=>none) 1500 (some ⟨b_rA,(aa x34.2)⟩)) 2 (some ⟨b2,[(ac 0),(.str []),(ac 0),(ac 0),(ac 0),(.str []),(.val (.slice none 0 0))]⟩),fun _=>none⟩) (Gh.le (az _ _) (ab rfl (dQ.r) (ab rfl (dQ.r) ar)) aq) ?_;refine af ?_;refine aT rfl H (fun H=>?_) (fun H=>?_)
 ·refine ah (ae (ap tk rfl ?_))
  obtain⟨y36,h36,X36,H⟩:=bq H
  have s36:=hrec85 b_rA x34.2 _ h36;refine aP Tryz.call85 [(1500,1500)] [] s36 (X36 _) ?_;rintro u36 H36h hR36
  obtain⟨x36,⟨rfl,rfl⟩,H⟩:=H _ _ _ hR36
  refine⟨_,rfl,?_⟩
  refine aH (st':=⟨_,_,upd (upd (fun _=>none) 1500 (some ⟨b_rA,(aa x36.2)⟩)) 2 (some ⟨b2,[(ac 0),(.str []),(ac 0),(ac 0),(ac 0),(.str []),(.val (.slice none 0 0))]⟩),fun _=>none⟩) (Gh.le (az _ _) (ab rfl (dQ.r) (ab rfl (dQ.r) ar)) aq) ?_;refine aW tk fun b7=>?_
  refine ao tk ?_;refine af (ah (ae (ap tk rfl ?_)))
  obtain⟨y38,h38,X38,H⟩:=bq H
  have s38:=aS b_rA x36.2 ([116,104,101,110]:List UInt8) _ h38;refine aP Tryz.call53 [(1500,1500)] [] s38 (X38 _) ?_;rintro u38 H38h hR38
  obtain⟨x38,⟨rfl,rfl⟩,H⟩:=H _ _ _ hR38
  refine⟨_,rfl,?_⟩
  refine aH (st':=⟨_,_,upd (upd (upd (fun _=>none) 1500 (some ⟨b_rA,(aa x38)⟩)) 7 (some ⟨b7,(bN x36.1)⟩)) 2 (some ⟨b2,[(ac 0),(.str []),(ac 0),(ac 0),(ac 0),(.str []),(.val (.slice none 0 0))]⟩),fun _=>none⟩) (Gh.le (az _ _) (ab rfl (dQ.r) (ab rfl (dQ.r) (ab rfl (dQ.r) ar))) aq) ?_;refine af (ah (ae (ap tk rfl ?_)))
  obtain⟨y40,h40,X40,H⟩:=bq H
  have s40:=hrec85 b_rA x38 _ h40;refine aP Tryz.call85 [(1500,1500)] [] s40 (X40 _) ?_;rintro u40 H40h hR40
  obtain⟨x40,⟨rfl,rfl⟩,H⟩:=H _ _ _ hR40
  refine⟨_,rfl,?_⟩
  refine aH (st':=⟨_,_,upd (upd (upd (fun _=>none) 1500 (some ⟨b_rA,(aa x40.2)⟩)) 7 (some ⟨b7,(bN x36.1)⟩)) 2 (some ⟨b2,[(ac 0),(.str []),(ac 0),(ac 0),(ac 0),(.str []),(.val (.slice none 0 0))]⟩),fun _=>none⟩) (Gh.le (az _ _) (ab rfl (dQ.r) (ab rfl (dQ.r) (ab rfl (dQ.r) ar))) aq) ?_;refine aW tk fun b8=>?_
  refine ao tk ?_;refine af (ah (ae (ap tk rfl ?_)))
  obtain⟨y42,h42,X42,H⟩:=bq H
  have s42:=aS b_rA x40.2 ([101,108,115,101]:List UInt8) _ h42;refine aP Tryz.call53 [(1500,1500)] [] s42 (X42 _) ?_;rintro u42 H42h hR42
  obtain⟨x42,⟨rfl,rfl⟩,H⟩:=H _ _ _ hR42
  refine⟨_,rfl,?_⟩
  refine aH (st':=⟨_,_,upd (upd (upd (upd (fun _=>none) 1500 (some ⟨b_rA,(aa x42)⟩)) 8 (some ⟨b8,(bN x40.1)⟩)) 7 (some ⟨b7,(bN x36.1)⟩)) 2 (some ⟨b2,[(ac 0),(.str []),(ac 0),(ac 0),(ac 0),(.str []),(.val (.slice none 0 0))]⟩),fun _=>none⟩) (Gh.le (az _ _) (ab rfl (dQ.r) (ab rfl (dQ.r) (ab rfl (dQ.r) (ab rfl (dQ.r) ar)))) aq) ?_;refine af (ah (ky 7 rfl rfl rfl rfl (ky 8 rfl rfl rfl rfl (de tk mok ⟨false,false,[999997,3000009]⟩ [0,1,2,3,4,5,6,7,8] rfl (by decide+kernel) rfl (bA 4 rfl ?_)))))
  obtain⟨y47,h47,X47,H⟩:=bq H
  have s47:=hrec85 b_rA x42 _ h47;refine fU Tryz.call85 [(1500,1500)] [] s47 (X47 _) ?_;rintro u47 H47h hR47
  obtain⟨x47,⟨rfl,rfl⟩,H⟩:=H _ _ _ hR47
  refine⟨_,rfl,?_⟩
  refine bQ rfl ?_
  obtain⟨x49,h49,H⟩:=fE H
  have s49:=dw ([105,102]:List UInt8) ([x36.1,x40.1,x47.1]:List LExpr);rw[h49]at s49;refine eH Tryz.call171 (dQ.of2 (eO.cons (jn.of_eq rfl) (eO.cons (jn.list (dN.trans (b:=List.map bN [x36.1,x40.1,x47.1]) (dN.refl _) (dN.of_eq (em ck [x36.1,x40.1,x47.1])))) eO.nil))) s49 ?_;refine nv rfl rfl rfl rfl rfl rfl rfl rfl fun b9=>?_
  refine fW rfl rfl rfl rfl rfl rfl rfl rfl rfl rfl rfl rfl (bP ?_);refine bD (st':=⟨_,_,upd (upd (upd (fun _=>none) 1500 (some ⟨b_rA,(aa x47.2)⟩)) 9 (some ⟨b9,(bN x49)⟩)) 2 (some ⟨b2,[(ac 0),(.str []),(ac 0),(ac 0),(ac 0),(.str []),(.val (.slice none 0 0))]⟩),fun _=>none⟩) (Gh.le (az _ _) (ab rfl (dQ.r) (ab rfl (dQ.r) (ab rfl (dQ.r) ar))) aq) ?_;refine ah (ae (ap tk rfl ?_))
  obtain⟨y51,h51,X51,H⟩:=bq H
  have s51:=aS b_rA x47.2 ([41]:List UInt8) _ h51;refine aP Tryz.call53 [(1500,1500)] [] s51 (X51 _) ?_;rintro u51 H51h hR51
  obtain⟨x51,⟨rfl,rfl⟩,H⟩:=H _ _ _ hR51
  refine⟨_,rfl,?_⟩
  refine aH (st':=⟨_,_,upd (upd (upd (fun _=>none) 1500 (some ⟨b_rA,(aa x51)⟩)) 9 (some ⟨b9,(bN x49)⟩)) 2 (some ⟨b2,[(ac 0),(.str []),(ac 0),(ac 0),(ac 0),(.str []),(.val (.slice none 0 0))]⟩),fun _=>none⟩) (Gh.le (az _ _) (ab rfl (dQ.r) (ab rfl (dQ.r) (ab rfl (dQ.r) ar))) aq) ?_;refine af (ah (ae (av tk ?_)));refine ao tk ?_;refine af ?_;obtain rfl:=aF H;refine bD (st':=⟨88,upd (fun _=>.any) 2 (.box 2 b2 0),upd (upd (fun _=>none) 1500 (some ⟨b_rA,(aa x51)⟩)) 2 (some ⟨b2,(bN x49)⟩),fun _=>none⟩) (Gh.le (bF aV) (ab rfl (dQ.r) (ab rfl (dQ.r) ar)) aq) ?_;refine cF tk rfl (ps:=[(.agg (bN x49))]) ⟨_,_,rfl,⟨_,_,_,_,_,rfl,rfl,rfl,rfl⟩,rfl⟩ (PLe.q rfl) (HSub.updB rfl) ⟨rfl,rfl⟩
 refine aQ (ah (ae (ap tk rfl ?_)))
 obtain⟨y54,h54,X54,H⟩:=bq H
 have s54:=hrec85 b_rA x34.2 _ h54;refine aP Tryz.call85 [(1500,1500)] [] s54 (X54 _) ?_;rintro u54 H54h hR54
 obtain⟨x54,⟨rfl,rfl⟩,H⟩:=H _ _ _ hR54
 refine⟨_,rfl,?_⟩
 refine aH (st':=⟨_,_,upd (upd (fun _=>none) 1500 (some ⟨b_rA,(aa x54.2)⟩)) 2 (some ⟨b2,[(ac 0),(.str []),(ac 0),(ac 0),(ac 0),(.str []),(.val (.slice none 0 0))]⟩),fun _=>none⟩) (Gh.le (az _ _) (ab rfl (dQ.r) (ab rfl (dQ.r) ar)) aq) ?_;refine aW tk fun b10=>?_
 refine ao tk ?_;refine af (ah (ah (ae (ap tk rfl ?_))))
 obtain⟨x56,h56,H⟩:=ax H
 have s56:=aC b_rA x54.2 ([105,115]:List UInt8) _ h56;refine bE (g:=52) rfl rfl rfl Tryz.call52 [(1500,1500)] [] rfl rfl rfl rfl (dQ.of2 (eO.cons jn.boxT (eO.cons (jn.of_eq rfl) eO.nil))) (by rw[aU,be,bf];rfl) s56 ?_;rintro u56 H56h ⟨rfl,rfl⟩
 refine⟨_,rfl,?_⟩
 refine aH (st':=⟨_,_,upd (upd (upd (fun _=>none) 1500 (some ⟨b_rA,(aa x56.2)⟩)) 10 (some ⟨b10,(bN x54.1)⟩)) 2 (some ⟨b2,[(ac 0),(.str []),(ac 0),(ac 0),(ac 0),(.str []),(.val (.slice none 0 0))]⟩),fun _=>none⟩) (Gh.le (az _ _) (ab rfl (dQ.r) (ab rfl (dQ.r) (ab rfl (dQ.r) ar))) aq) ?_;refine af ?_;refine aT rfl H (fun H=>?_) (fun H=>?_)
 ·refine ah (ae (ap tk rfl ?_))
  obtain⟨y58,h58,X58,H⟩:=bq H
  have s58:=aS b_rA x56.2 ([110,117,108,108]:List UInt8) _ h58;refine aP Tryz.call53 [(1500,1500)] [] s58 (X58 _) ?_;rintro u58 H58h hR58
  obtain⟨x58,⟨rfl,rfl⟩,H⟩:=H _ _ _ hR58
  refine⟨_,rfl,?_⟩
  refine aH (st':=⟨_,_,upd (upd (upd (fun _=>none) 1500 (some ⟨b_rA,(aa x58)⟩)) 10 (some ⟨b10,(bN x54.1)⟩)) 2 (some ⟨b2,[(ac 0),(.str []),(ac 0),(ac 0),(ac 0),(.str []),(.val (.slice none 0 0))]⟩),fun _=>none⟩) (Gh.le (az _ _) (ab rfl (dQ.r) (ab rfl (dQ.r) (ab rfl (dQ.r) ar))) aq) ?_;refine af (ah (ae (ap tk rfl ?_)))
  obtain⟨y60,h60,X60,H⟩:=bq H
  have s60:=aS b_rA x58 ([41]:List UInt8) _ h60;refine aP Tryz.call53 [(1500,1500)] [] s60 (X60 _) ?_;rintro u60 H60h hR60
  obtain⟨x60,⟨rfl,rfl⟩,H⟩:=H _ _ _ hR60
  refine⟨_,rfl,?_⟩
  refine aH (st':=⟨_,_,upd (upd (upd (fun _=>none) 1500 (some ⟨b_rA,(aa x60)⟩)) 10 (some ⟨b10,(bN x54.1)⟩)) 2 (some ⟨b2,[(ac 0),(.str []),(ac 0),(ac 0),(ac 0),(.str []),(.val (.slice none 0 0))]⟩),fun _=>none⟩) (Gh.le (az _ _) (ab rfl (dQ.r) (ab rfl (dQ.r) (ab rfl (dQ.r) ar))) aq) ?_;refine af (ah (ae (ap tk rfl (av tk ?_))));refine ic tk (rows':=List.map am ([x54.1]:List LExpr)) rfl (dN.trans (b:=List.map bN [x54.1]) (dN.refl _) (dN.of_eq (em ck [x54.1]))) ?_
  obtain⟨x64,h64,H⟩:=fE H
  have s64:=dw ([105,115,32,110,117,108,108]:List UInt8) ([x54.1]:List LExpr);rw[h64]at s64;refine aI Tryz.call171 (dQ.r) s64 ?_;refine ao tk ?_;refine af ?_;obtain rfl:=aF H;refine bD (st':=⟨88,upd (fun _=>.any) 2 (.box 2 b2 0),upd (upd (fun _=>none) 1500 (some ⟨b_rA,(aa x60)⟩)) 2 (some ⟨b2,(bN x64)⟩),fun _=>none⟩) (Gh.le (bF aV) (ab rfl (dQ.r) (ab rfl (dQ.r) ar)) aq) ?_;refine cF tk rfl (ps:=[(.agg (bN x64))]) ⟨_,_,rfl,⟨_,_,_,_,_,rfl,rfl,rfl,rfl⟩,rfl⟩ (PLe.q rfl) (HSub.updB rfl) ⟨rfl,rfl⟩
 refine aQ (ah (ah (ae (nc (e:=9) (rows:=[[(.str [43])],[(.str [45])],[(.str [42])],[(.str [61])],[(.str [60,61])],[(.str [60])],[(.str [97,110,100])],[(.str [111,114])],[(.str [124,124])]]) tk rfl rfl rfl rfl (rows':=List.map aD ([[43],[45],[42],[61],[60,61],[60],[97,110,100],[111,114],[124,124]]:List (List UInt8))) (by kernel_rfl) (dN.refl _) rfl rfl (bK tk (zl _) ?_)))));refine ap tk rfl (af (ky 10 rfl rfl rfl rfl ?_))
 obtain⟨n2,hs2,H⟩:=ax H
 have hz2:=kO hs2
 obtain⟨fl2,H2,Hp2⟩:=ax H
 refine fI (τ:=LQueryparserParser) (γ:=Unit) (fun s2 g2=>⟨88,upd (upd (upd (fun _=>.any) 10 (.ptr (bN x54.1))) 2 (.box 2 b2 0)) 0 (.box 1500 b_rA 0),upd (upd (fun _=>none) 1500 (some ⟨b_rA,(aa s2)⟩)) 2 (some ⟨b2,[(ac 0),(.str []),(ac 0),(ac 0),(ac 0),(.str []),(.val (.slice none 0 0))]⟩),fun _=>none⟩) (fun t=>fl2= .next t) ?_ (fun s2 g2 hn2=>?_)
 ·refine bs ?_;refine lH (fun j2 s2 g2=>⟨88,upd (upd (upd (upd (upd (upd (upd (fun _=>.any) 67 (ac (j2:Int))) 66 (ac (([[43],[45],[42],[61],[60,61],[60],[97,110,100],[111,114],[124,124]]:List (List UInt8)).length:Int))) 65 (.list 9 (([[43],[45],[42],[61],[60,61],[60],[97,110,100],[111,114],[124,124]]:List (List UInt8)).map aD))) 10 (.ptr (bN x54.1))) 3 (.fn 171 [])) 2 (.box 2 b2 0)) 0 (.box 1500 b_rA 0),upd (upd (fun _=>none) 1500 (some ⟨b_rA,(aa s2)⟩)) 2 (some ⟨b2,[(ac 0),(.str []),(ac 0),(ac 0),(ac 0),(.str []),(.val (.slice none 0 0))]⟩),fun _=>none⟩) () H2 Gh.d (fun j2 s2 g2 hj2 hr2=>?_);refine aM 1 tk rfl (ah ?_);refine kl rfl (fun h=>?_) (fun h=>?_)
  ·have hl2:=natLt hz2 h
   obtain⟨x2,fb2,hx2,H,hg2⟩:=rMc hl2 hr2
   obtain rfl:=natX hx2;refine aQ (ah (bs (ah (ae ?_))))
   obtain⟨x69,k69,H⟩:=dg H
   refine dI tk k69.1 (co (fun _=>rfl) k69.2) ?_;refine au 2 tk rfl (af (ah (ae (au 2 tk rfl ?_))))
   obtain⟨x73,h73,H⟩:=ax H
   have s73:=aC b_rA s2 x69 _ h73;refine bE (g:=52) rfl rfl rfl Tryz.call52 [(1500,1500)] [] rfl rfl rfl rfl (dQ.of2 (eO.cons jn.boxT (eO.cons (jn.of_eq rfl) eO.nil))) (by rw[aU,be,bf];rfl) s73 ?_;rintro u73 H73h ⟨rfl,rfl⟩
   refine⟨_,rfl,?_⟩
   refine aH (st':=⟨_,_,upd (upd (fun _=>none) 1500 (some ⟨b_rA,(aa x73.2)⟩)) 2 (some ⟨b2,[(ac 0),(.str []),(ac 0),(ac 0),(ac 0),(.str []),(.val (.slice none 0 0))]⟩),fun _=>none⟩) (Gh.le (az _ _) (ab rfl (dQ.r) (ab rfl (dQ.r) ar)) aq) ?_;refine af ?_;refine aT rfl H (fun H=>?_) (fun H=>?_)
   ·refine ah (de tk mok ⟨false,false,[999997,3000013]⟩ [0,1,2,3,4,5,6,7,8] rfl (by decide+kernel) rfl (bA 4 rfl ?_))
    obtain⟨y78,h78,X78,H⟩:=dP H
    have s78:=hrec85 b_rA x73.2 _ h78;refine fU Tryz.call85 [(1500,1500)] [] s78 (pxF (fun e he=>(lvR (X78 e he) hg2 Hp2)) _) ?_;rintro u78 H78h hR78
    obtain⟨x78,⟨rfl,rfl⟩,H⟩:=H _ _ _ hR78
    refine⟨_,rfl,?_⟩
    refine bQ rfl ?_
    obtain⟨x80,h80,H⟩:=fE H
    have s80:=dw x69 ([x54.1,x78.1]:List LExpr);rw[h80]at s80;refine eH Tryz.call171 (dQ.of2 (eO.cons (jn.of_eq rfl) (eO.cons (jn.list (dN.trans (b:=List.map bN [x54.1,x78.1]) (dN.refl _) (dN.of_eq (em ck [x54.1,x78.1])))) eO.nil))) s80 ?_;refine nv rfl rfl rfl rfl rfl rfl rfl rfl fun b13=>?_
    refine fW rfl rfl rfl rfl rfl rfl rfl rfl rfl rfl rfl rfl (bP ?_);refine bD (st':=⟨_,_,upd (upd (upd (fun _=>none) 1500 (some ⟨b_rA,(aa x78.2)⟩)) 13 (some ⟨b13,(bN x80)⟩)) 2 (some ⟨b2,[(ac 0),(.str []),(ac 0),(ac 0),(ac 0),(.str []),(.val (.slice none 0 0))]⟩),fun _=>none⟩) (Gh.le (az _ _) (ab rfl (dQ.r) (ab rfl (dQ.r) (ab rfl (dQ.r) ar))) aq) ?_;refine ah (ae (ap tk rfl ?_))
    obtain⟨y82,h82,X82,H⟩:=dP H
    have s82:=aS b_rA x78.2 ([41]:List UInt8) _ h82;refine aP Tryz.call53 [(1500,1500)] [] s82 (pxF (fun e he=>(lvR (X82 e he) hg2 Hp2)) _) ?_;rintro u82 H82h hR82
    obtain⟨x82,⟨rfl,rfl⟩,H⟩:=H _ _ _ hR82
    refine⟨_,rfl,?_⟩
    refine aH (st':=⟨_,_,upd (upd (upd (fun _=>none) 1500 (some ⟨b_rA,(aa x82)⟩)) 13 (some ⟨b13,(bN x80)⟩)) 2 (some ⟨b2,[(ac 0),(.str []),(ac 0),(ac 0),(ac 0),(.str []),(.val (.slice none 0 0))]⟩),fun _=>none⟩) (Gh.le (az _ _) (ab rfl (dQ.r) (ab rfl (dQ.r) (ab rfl (dQ.r) ar))) aq) ?_;refine af (ah (ae (av tk ?_)));refine ao tk ?_;refine af ?_;obtain rfl:=aF H;have e2:fl2= .ret _:=hg2;subst e2;obtain rfl:=dW Hp2;refine bD (st':=⟨88,upd (fun _=>.any) 2 (.box 2 b2 0),upd (upd (fun _=>none) 1500 (some ⟨b_rA,(aa x82)⟩)) 2 (some ⟨b2,(bN x80)⟩),fun _=>none⟩) (Gh.le (bF aV) (ab rfl (dQ.r) (ab rfl (dQ.r) ar)) aq) ?_;refine cF tk rfl (ps:=[(.agg (bN x80))]) ⟨_,_,rfl,⟨_,_,_,_,_,rfl,rfl,rfl,rfl⟩,rfl⟩ (PLe.q rfl) (HSub.updB rfl) ⟨rfl,rfl⟩
   refine aQ (bU (eW 2 tk rfl ?_));exact gr () H hl2 hg2 (Gh.le (bF (bF (bF (bF (bF (bF (kt (PLe.q (lF hz2 hl2)) aV))))))) (ab rfl (dQ.r) (ab rfl (dQ.r) ar)) aq)
  have hn2:=rMd (natGe hz2 h) hr2;refine eI rfl ?_;refine bX s2 g2 hn2 Gh.d
 have H:=eG hn2 Hp2;refine ah (ae (ap tk rfl ?_))
 obtain⟨y86,h86,X86,H⟩:=bq H
 have s86:=bO b_rA s2 _ h86;refine aP Tryz.call56 [(1500,1500)] [] s86 (X86 _) ?_;rintro u86 H86h hR86
 obtain⟨x86,⟨rfl,rfl⟩,H⟩:=H _ _ _ hR86
 refine⟨_,rfl,?_⟩
 refine aH (st':=⟨_,_,upd (upd (fun _=>none) 1500 (some ⟨b_rA,(aa x86)⟩)) 2 (some ⟨b2,[(ac 0),(.str []),(ac 0),(ac 0),(ac 0),(.str []),(.val (.slice none 0 0))]⟩),fun _=>none⟩) (Gh.le (az _ _) (ab rfl (dQ.r) (ab rfl (dQ.r) ar)) aq) ?_;refine af (ah (ae (ap tk rfl (ao tk ?_))));refine af ?_;obtain rfl:=aF H;refine bD (st':=⟨88,upd (fun _=>.any) 2 (.box 2 b2 0),upd (upd (fun _=>none) 1500 (some ⟨b_rA,(aa x86)⟩)) 2 (some ⟨b2,(bN x54.1)⟩),fun _=>none⟩) (Gh.le (bF aV) (ab rfl (dQ.r) (ab rfl (dQ.r) ar)) aq) ?_;refine cF tk rfl (ps:=[(.agg (bN x54.1))]) ⟨_,_,rfl,⟨_,_,_,_,_,rfl,rfl,rfl,rfl⟩,rfl⟩ (PLe.q rfl) (HSub.updB rfl) ⟨rfl,rfl⟩
mutual
def bZ:Nat→LQueryparserParser→Option (Except Int (LExpr×LQueryparserParser))
 |0,_=>none
 |n+1,v0=>dz (fun b0=>bZ n b0) (fun b0=>cd n b0) v0
def cd:Nat→LQueryparserParser→Option (Except Int (LExpr×LQueryparserParser))
 |0,_=>none
 |n+1,v0=>cX (fun b0=>bZ n b0) (fun b0=>cd n b0) v0
end
theorem jw  (n:Nat):(∀bb0 a0 r,bZ n a0=some r→ba Tryz.prog 85 [(.box 1500 bb0 0)] ⟨upd (fun _=>none) 1500 (some ⟨bb0,(aa a0)⟩),fun _=>none⟩ (RX r (fun rv u H=>u=(.agg (bN rv.1))∧H=⟨upd (fun _=>none) 1500 (some ⟨bb0,(aa rv.2)⟩),fun _=>none⟩)) (PX 106 r))∧(∀bb0 a0 r,cd n a0=some r→ba Tryz.prog 132 [(.box 1500 bb0 0)] ⟨upd (fun _=>none) 1500 (some ⟨bb0,(aa a0)⟩),fun _=>none⟩ (RX r (fun rv u H=>u=(.agg (bN rv.1))∧H=⟨upd (fun _=>none) 1500 (some ⟨bb0,(aa rv.2)⟩),fun _=>none⟩)) (PX 106 r)):=by
 induction n with
 |zero=>exact⟨(by intros;rename_i h;exact absurd (show(none:Option _)=some _ from h) (by simp)),(by intros;rename_i h;exact absurd (show(none:Option _)=some _ from h) (by simp))⟩
 |succ n ih=>
  exact⟨(fun bb0 v0 r h=>jo bb0 (fun b0=>bZ n b0) (fun b0=>cd n b0) ih.1 ih.2 v0  r h),(fun bb0 v0 r h=>iF bb0 (fun b0=>bZ n b0) (fun b0=>cd n b0) ih.1 ih.2 v0  r h)⟩
def cq(rA:LQueryparserParser):Option (Except Int (LExpr×LQueryparserParser)):=limN fun n=>bZ n rA
theorem dy(b_rA:Nat)(rA:LQueryparserParser)(r:Except Int (LExpr×LQueryparserParser))(H:cq rA=some r):
  ba Tryz.prog 85 [(.box 1500 b_rA 0)] ⟨upd (fun _=>none) 1500 (some ⟨b_rA,(aa rA)⟩),fun _=>none⟩ (RX r (fun rv u H=>u=(.agg (bN rv.1))∧H=⟨upd (fun _=>none) 1500 (some ⟨b_rA,(aa rv.2)⟩),fun _=>none⟩)) (PX 106 r):=by
 obtain⟨n,h⟩:=ie H
 exact(jw  n).1 b_rA rA r h
def cI(rA:LQueryparserParser)(q:LQuery):Option (Except Int (LQueryparserParser×LQuery)):=
 bg (cq rA) fun x9=>
 ag (dY 88 q.exprs ([(LExpr.mk 0 [] 0 (LVal.mk 0 0 []) [])]:List LExpr)) fun(x12:List LExpr)=>
 ag (bl x12 (q.exprs.length:Int)) fun(_:LExpr)=>
 dv (x12.set ((q.exprs.length:Int).toNat) x9.1) fun(y1:List LExpr)=>
 bg (aG x9.2 ([97,115]:List UInt8)) fun x17=>
 bg (bh x17) fun x24=>
 ag (dY 16 q.names ([x24.1]:List (List UInt8))) fun(x26:List (List UInt8))=>
 some (.ok (x24.2,(LQuery.mk q.kind q.table x26 y1 q.aggregates q.descending q.count q.offset q.inputs)))
theorem gf(b_rA:Nat)(b_q:Nat)(g_q_2:OwnRef)(g_q_3:OwnRef)(g_q_4:OwnRef)(g_q_5:OwnRef)(rA:LQueryparserParser)(q:LQuery)(r:Except Int (LQueryparserParser×LQuery))(H:cI rA q=some r):
  ba Tryz.prog 88 [(.box 1500 b_rA 0),(.box 1501 b_q 0)] ⟨upd (upd (fun _=>none) 1501 (some ⟨b_q,[(ac q.kind),(.str q.table),(.own 1622 g_q_2 (q.names.map aD).length),(.own 1623 g_q_3 (q.exprs.map am).length),(.own 1624 g_q_4 (q.aggregates.map aA).length),(.own 1625 g_q_5 (q.descending.map aB).length),(ac q.count),(ac q.offset),(.list 29 (q.inputs.map ak))]⟩)) 1500 (some ⟨b_rA,(aa rA)⟩),upd (upd (upd (upd (fun _=>none) 1625 (some ⟨g_q_5,4,(q.descending.map aB),true⟩)) 1624 (some ⟨g_q_4,85,(q.aggregates.map aA),true⟩)) 1623 (some ⟨g_q_3,82,(q.exprs.map am),true⟩)) 1622 (some ⟨g_q_2,9,(q.names.map aD),true⟩)⟩ (RX r (fun rv u H=>∃gz1_2,∃gz1_3,∃gz1_4,∃gz1_5,u=(.tup [])∧H=⟨upd (upd (fun _=>none) 1501 (some ⟨b_q,[(ac rv.2.kind),(.str rv.2.table),(.own 1622 gz1_2 (rv.2.names.map aD).length),(.own 1623 gz1_3 (rv.2.exprs.map am).length),(.own 1624 gz1_4 (rv.2.aggregates.map aA).length),(.own 1625 gz1_5 (rv.2.descending.map aB).length),(ac rv.2.count),(ac rv.2.offset),(.list 29 (rv.2.inputs.map ak))]⟩)) 1500 (some ⟨b_rA,(aa rv.1)⟩),upd (upd (upd (upd (fun _=>none) 1625 (some ⟨gz1_5,4,(rv.2.descending.map aB),true⟩)) 1624 (some ⟨gz1_4,85,(rv.2.aggregates.map aA),true⟩)) 1623 (some ⟨gz1_3,82,(rv.2.exprs.map am),true⟩)) 1622 (some ⟨gz1_2,9,(rv.2.names.map aD),true⟩)⟩)) (PX 106 r):=by
 unfold cI at H;refine ba.intro Tryz.func88 rfl Tryz.ntmps88 rfl ?_;refine ah ?_;refine iw (tag:=1622) rfl (fun ho1622=>?_);refine iw (tag:=1623) rfl (fun ho1623=>?_);refine iw (tag:=1624) rfl (fun ho1624=>?_);refine iw (tag:=1625) rfl (fun ho1625=>?_);refine de tk mok ⟨true,false,[999997,3001501,4000007,999996,5000013]⟩ [0,1,2,3,4,6,7,5,8,9,11,12,13,10] rfl (by decide+kernel) rfl (bA 3 rfl (dG tk ?_));refine bQ rfl (nn rfl rfl rfl rfl rfl rfl (zl _) rfl (bQ rfl ?_))
 obtain⟨y9,h9,X9,H⟩:=bq H
 have s9:=dy b_rA rA _ h9;refine fU Tryz.call85 [(1500,1500)] [] s9 (X9 _) ?_;rintro u9 H9h hR9
 obtain⟨x9,⟨rfl,rfl⟩,H⟩:=H _ _ _ hR9
 refine⟨_,rfl,?_⟩
 obtain⟨x12,h12,H⟩:=ax H
 have k12:=dU h12;refine lr (rows2':=List.map am ([(LExpr.mk 0 [] 0 (LVal.mk 0 0 []) [])]:List LExpr)) (rows':=List.map am x12) tk rfl rfl rfl rfl rfl rfl rfl rfl rfl rfl rfl rfl rfl rfl (dN.trans (b:=List.map bN [(LExpr.mk 0 [] 0 (LVal.mk 0 0 []) [])]) (dN.cons (mI.cons (jn.of_eq rfl) (mI.cons (jn.of_eq rfl) (mI.cons (jn.of_eq rfl) (mI.cons (jn.of_eq rfl) (mI.cons (jn.of_eq rfl) (mI.cons (jn.of_eq rfl) (mI.cons (jn.nil tk rfl) mI.nil))))))) dN.nil) (dN.of_eq (em ck [(LExpr.mk 0 [] 0 (LVal.mk 0 0 []) [])]))) (fc k12.1) (fa k12.2.1) (eZ k12.2.2) fun g12 ho1623=>?_
 obtain⟨x13,k13,H⟩:=dg H
 refine nl tk rfl rfl rfl rfl rfl rfl rfl rfl ⟨k13.1,(idxLen k13.2)⟩ (idxBlk ho1623 k13.2) rfl (bA 2 rfl (fW rfl rfl rfl rfl rfl rfl rfl rfl rfl rfl rfl rfl ?_))
 obtain⟨y1,hy1,H⟩:=fE H
 refine mf tk rfl rfl rfl rfl rfl rfl rfl rfl rfl (by rw[zl];exact(zg.1 k13.2).1) (PLe.refl _ _) rfl rfl rfl rfl (by decide) (lv ck k13.2 rfl hy1) ?_;refine bP ?_;refine bD (st':=⟨_,_,upd (upd (fun _=>none) 1501 (some ⟨b_q,[(ac q.kind),(.str q.table),(.own 1622 g_q_2 (q.names.map aD).length),(.own 1623 g12 (x12.map am).length),(.own 1624 g_q_4 (q.aggregates.map aA).length),(.own 1625 g_q_5 (q.descending.map aB).length),(ac q.count),(ac q.offset),(.list 29 (q.inputs.map ak))]⟩)) 1500 (some ⟨b_rA,(aa x9.2)⟩),upd (upd (upd (upd (fun _=>none) 1625 (some ⟨g_q_5,4,(q.descending.map aB),true⟩)) 1624 (some ⟨g_q_4,85,(q.aggregates.map aA),true⟩)) 1623 (some ⟨g12,82,(y1.map am),true⟩)) 1622 (some ⟨g_q_2,9,(q.names.map aD),true⟩)⟩) (Gh.le (az _ _) (ab rfl (dQ.r) (ab rfl (dQ.r) ar)) (aw (aw (aw (aw aq))))) ?_;refine ah (ae (ap tk rfl ?_))
 obtain⟨y17,h17,X17,H⟩:=bq H
 have s17:=aS b_rA x9.2 ([97,115]:List UInt8) _ h17;refine aP Tryz.call53 [(1500,1500)] [] s17 (X17 _) ?_;rintro u17 H17h hR17
 obtain⟨x17,⟨rfl,rfl⟩,H⟩:=H _ _ _ hR17
 refine⟨_,rfl,?_⟩
 refine aH (st':=⟨_,_,upd (upd (fun _=>none) 1501 (some ⟨b_q,[(ac q.kind),(.str q.table),(.own 1622 g_q_2 (q.names.map aD).length),(.own 1623 g12 (x12.map am).length),(.own 1624 g_q_4 (q.aggregates.map aA).length),(.own 1625 g_q_5 (q.descending.map aB).length),(ac q.count),(ac q.offset),(.list 29 (q.inputs.map ak))]⟩)) 1500 (some ⟨b_rA,(aa x17)⟩),upd (upd (upd (upd (fun _=>none) 1625 (some ⟨g_q_5,4,(q.descending.map aB),true⟩)) 1624 (some ⟨g_q_4,85,(q.aggregates.map aA),true⟩)) 1623 (some ⟨g12,82,(y1.map am),true⟩)) 1622 (some ⟨g_q_2,9,(q.names.map aD),true⟩)⟩) (Gh.le (az _ _) (ab rfl (dQ.r) (ab rfl (dQ.r) ar)) (aw (aw (aw (aw aq))))) ?_;refine af (de tk mok ⟨true,false,[999997,3001501,4000022]⟩ [0,1,2,3,4,5,6,7,8,9,10,11] rfl (by decide+kernel) rfl (bA 4 rfl (dG tk ?_)));refine bQ rfl ?_
 obtain⟨y24,h24,X24,H⟩:=bq H
 have s24:=cB b_rA x17 _ h24;refine fU Tryz.call54 [(1500,1500)] [] s24 (X24 _) ?_;rintro u24 H24h hR24
 obtain⟨x24,⟨rfl,rfl⟩,H⟩:=H _ _ _ hR24
 refine⟨_,rfl,?_⟩
 refine bQ rfl ?_
 obtain⟨x26,h26,H⟩:=ax H
 have k26:=dU h26;refine gG (rows2':=List.map aD ([x24.1]:List (List UInt8))) (rows':=List.map aD x26) tk rfl rfl rfl rfl rfl rfl rfl rfl rfl rfl rfl rfl rfl rfl (dN.refl _) (fc k26.1) (fa k26.2.1) (eZ k26.2.2) fun g26=>?_
 refine bA 2 rfl (fW rfl rfl rfl rfl rfl rfl rfl rfl rfl rfl rfl rfl (bP ?_));refine bD (st':=⟨_,_,upd (upd (fun _=>none) 1501 (some ⟨b_q,[(ac q.kind),(.str q.table),(.own 1622 g26 (x26.map aD).length),(.own 1623 g12 (x12.map am).length),(.own 1624 g_q_4 (q.aggregates.map aA).length),(.own 1625 g_q_5 (q.descending.map aB).length),(ac q.count),(ac q.offset),(.list 29 (q.inputs.map ak))]⟩)) 1500 (some ⟨b_rA,(aa x24.2)⟩),upd (upd (upd (upd (fun _=>none) 1625 (some ⟨g_q_5,4,(q.descending.map aB),true⟩)) 1624 (some ⟨g_q_4,85,(q.aggregates.map aA),true⟩)) 1623 (some ⟨g12,82,(y1.map am),true⟩)) 1622 (some ⟨g26,9,(x26.map aD),true⟩)⟩) (Gh.le (az _ _) (ab rfl (dQ.r) (ab rfl (dQ.r) ar)) (aw (aw (aw (aw aq))))) ?_;obtain rfl:=aF H;refine bD (st':=⟨29,fun _=>.any,upd (upd (fun _=>none) 1501 (some ⟨b_q,[(ac ((LQuery.mk q.kind q.table x26 y1 q.aggregates q.descending q.count q.offset q.inputs).kind)),(.str ((LQuery.mk q.kind q.table x26 y1 q.aggregates q.descending q.count q.offset q.inputs).table)),(.own 1622 g26 (x26.map aD).length),(.own 1623 g12 (y1.map am).length),(.own 1624 g_q_4 (q.aggregates.map aA).length),(.own 1625 g_q_5 (q.descending.map aB).length),(ac ((LQuery.mk q.kind q.table x26 y1 q.aggregates q.descending q.count q.offset q.inputs).count)),(ac ((LQuery.mk q.kind q.table x26 y1 q.aggregates q.descending q.count q.offset q.inputs).offset)),(.list 29 (((LQuery.mk q.kind q.table x26 y1 q.aggregates q.descending q.count q.offset q.inputs).inputs).map ak))]⟩)) 1500 (some ⟨b_rA,(aa x24.2)⟩),upd (upd (upd (upd (fun _=>none) 1625 (some ⟨g_q_5,4,(q.descending.map aB),true⟩)) 1624 (some ⟨g_q_4,85,(q.aggregates.map aA),true⟩)) 1623 (some ⟨g12,82,(y1.map am),true⟩)) 1622 (some ⟨g26,9,(x26.map aD),true⟩)⟩) (Gh.le aV (ab rfl (dQ.r) (ab rfl (dQ.of2 (eO.cons (jn.of_eq rfl) (eO.cons (jn.of_eq rfl) (eO.cons (jn.of_eq rfl) (eO.cons (jn.own (set_len (f:=am) hy1)) (eO.cons (jn.of_eq rfl) (eO.cons (jn.of_eq rfl) (eO.cons (jn.of_eq rfl) (eO.cons (jn.of_eq rfl) (eO.cons (jn.of_eq rfl) eO.nil)))))))))) ar)) (aw (aw (aw (aw aq))))) ?_;refine eU rfl (PLe.q rfl) ⟨_,_,_,_,rfl,rfl⟩
def cb(rA:LQueryparserParser)(qA:LQuery):Option (Except Int (LQueryparserParser×LQuery)):=
 bg (bh rA) fun x4=>
 bg (aG x4.2 ([40]:List UInt8)) fun x7=>
 ag (al x7 ([41]:List UInt8)) fun x9=>
 ag (
  cond (!x9.1)
   (cZ (cq x9.2) fun x12=>
   cZ (aG x12.2 ([41]:List UInt8)) fun x16=>
   some (.next ([x12.1],x16)))
   (some (.next ([],x9.2)))) fun(fl1:Flow (List LExpr×LQueryparserParser) (Except Int (LQueryparserParser×LQuery)))=>fl1.thenR fun t1=>
 bg (aG t1.2 ([97,115]:List UInt8)) fun x18=>
 bg (bh x18) fun x20=>
 ag (dY 56 qA.aggregates ([(LAggregateCall.mk x20.1 x4.1 t1.1)]:List LAggregateCall)) fun(x29:List LAggregateCall)=>
 some (.ok (x20.2,(LQuery.mk qA.kind qA.table qA.names qA.exprs x29 qA.descending qA.count qA.offset qA.inputs)))
theorem fN(b_rA:Nat)(b_qA:Nat)(g_qA_2:OwnRef)(g_qA_3:OwnRef)(g_qA_4:OwnRef)(g_qA_5:OwnRef)(b_c0:Nat)(b_c1:Nat)(rA:LQueryparserParser)(qA:LQuery)(r:Except Int (LQueryparserParser×LQuery))(H:cb rA qA=some r):
  ba Tryz.prog 135 [(.box 1700 b_c0 0),(.box 1701 b_c1 0)] ⟨upd (upd (upd (upd (fun _=>none) 1701 (some ⟨b_c1,[(.box 1501 b_qA 0)]⟩)) 1700 (some ⟨b_c0,[(.box 1500 b_rA 0)]⟩)) 1501 (some ⟨b_qA,[(ac qA.kind),(.str qA.table),(.own 1622 g_qA_2 (qA.names.map aD).length),(.own 1623 g_qA_3 (qA.exprs.map am).length),(.own 1624 g_qA_4 (qA.aggregates.map aA).length),(.own 1625 g_qA_5 (qA.descending.map aB).length),(ac qA.count),(ac qA.offset),(.list 29 (qA.inputs.map ak))]⟩)) 1500 (some ⟨b_rA,(aa rA)⟩),upd (upd (upd (upd (fun _=>none) 1625 (some ⟨g_qA_5,4,(qA.descending.map aB),true⟩)) 1624 (some ⟨g_qA_4,85,(qA.aggregates.map aA),true⟩)) 1623 (some ⟨g_qA_3,82,(qA.exprs.map am),true⟩)) 1622 (some ⟨g_qA_2,9,(qA.names.map aD),true⟩)⟩ (RX r (fun rv u H=>∃gz1_2,∃gz1_3,∃gz1_4,∃gz1_5,u=(.tup [])∧H=⟨upd (upd (upd (upd (fun _=>none) 1701 (some ⟨b_c1,[(.box 1501 b_qA 0)]⟩)) 1700 (some ⟨b_c0,[(.box 1500 b_rA 0)]⟩)) 1501 (some ⟨b_qA,[(ac rv.2.kind),(.str rv.2.table),(.own 1622 gz1_2 (rv.2.names.map aD).length),(.own 1623 gz1_3 (rv.2.exprs.map am).length),(.own 1624 gz1_4 (rv.2.aggregates.map aA).length),(.own 1625 gz1_5 (rv.2.descending.map aB).length),(ac rv.2.count),(ac rv.2.offset),(.list 29 (rv.2.inputs.map ak))]⟩)) 1500 (some ⟨b_rA,(aa rv.1)⟩),upd (upd (upd (upd (fun _=>none) 1625 (some ⟨gz1_5,4,(rv.2.descending.map aB),true⟩)) 1624 (some ⟨gz1_4,85,(rv.2.aggregates.map aA),true⟩)) 1623 (some ⟨gz1_3,82,(rv.2.exprs.map am),true⟩)) 1622 (some ⟨gz1_2,9,(rv.2.names.map aD),true⟩)⟩)) (PX 106 r):=by
 unfold cb at H;refine ba.intro Tryz.func135 rfl Tryz.ntmps135 rfl ?_;refine ah (ae (av tk ?_))
 obtain⟨y4,h4,X4,H⟩:=bq H
 have s4:=cB b_rA rA _ h4;refine aP Tryz.call54 [(1500,1500)] [] s4 (X4 _) ?_;rintro u4 H4h hR4
 obtain⟨x4,⟨rfl,rfl⟩,H⟩:=H _ _ _ hR4
 refine⟨_,rfl,?_⟩
 refine aH (st':=⟨_,_,upd (upd (upd (upd (fun _=>none) 1701 (some ⟨b_c1,[(.box 1501 b_qA 0)]⟩)) 1700 (some ⟨b_c0,[(.box 1500 b_rA 0)]⟩)) 1501 (some ⟨b_qA,[(ac qA.kind),(.str qA.table),(.own 1622 g_qA_2 (qA.names.map aD).length),(.own 1623 g_qA_3 (qA.exprs.map am).length),(.own 1624 g_qA_4 (qA.aggregates.map aA).length),(.own 1625 g_qA_5 (qA.descending.map aB).length),(ac qA.count),(ac qA.offset),(.list 29 (qA.inputs.map ak))]⟩)) 1500 (some ⟨b_rA,(aa x4.2)⟩),upd (upd (upd (upd (fun _=>none) 1625 (some ⟨g_qA_5,4,(qA.descending.map aB),true⟩)) 1624 (some ⟨g_qA_4,85,(qA.aggregates.map aA),true⟩)) 1623 (some ⟨g_qA_3,82,(qA.exprs.map am),true⟩)) 1622 (some ⟨g_qA_2,9,(qA.names.map aD),true⟩)⟩) (Gh.le (az _ _) (ab rfl (dQ.r) (ab rfl (dQ.r) (ab rfl (dQ.r) (ab rfl (dQ.r) ar)))) (aw (aw (aw (aw aq))))) ?_;refine ap tk rfl ?_;refine aW tk fun b2=>?_
 refine ao tk ?_;refine af (ah (ae (av tk ?_)))
 obtain⟨y7,h7,X7,H⟩:=bq H
 have s7:=aS b_rA x4.2 ([40]:List UInt8) _ h7;refine aP Tryz.call53 [(1500,1500)] [] s7 (X7 _) ?_;rintro u7 H7h hR7
 obtain⟨x7,⟨rfl,rfl⟩,H⟩:=H _ _ _ hR7
 refine⟨_,rfl,?_⟩
 refine aH (st':=⟨_,_,upd (upd (upd (upd (upd (fun _=>none) 1701 (some ⟨b_c1,[(.box 1501 b_qA 0)]⟩)) 1700 (some ⟨b_c0,[(.box 1500 b_rA 0)]⟩)) 1501 (some ⟨b_qA,[(ac qA.kind),(.str qA.table),(.own 1622 g_qA_2 (qA.names.map aD).length),(.own 1623 g_qA_3 (qA.exprs.map am).length),(.own 1624 g_qA_4 (qA.aggregates.map aA).length),(.own 1625 g_qA_5 (qA.descending.map aB).length),(ac qA.count),(ac qA.offset),(.list 29 (qA.inputs.map ak))]⟩)) 1500 (some ⟨b_rA,(aa x7)⟩)) 2 (some ⟨b2,[(.str []),(.str x4.1),(.val (.slice none 0 0))]⟩),upd (upd (upd (upd (fun _=>none) 1625 (some ⟨g_qA_5,4,(qA.descending.map aB),true⟩)) 1624 (some ⟨g_qA_4,85,(qA.aggregates.map aA),true⟩)) 1623 (some ⟨g_qA_3,82,(qA.exprs.map am),true⟩)) 1622 (some ⟨g_qA_2,9,(qA.names.map aD),true⟩)⟩) (Gh.le (az _ _) (ab rfl (dQ.r) (ab rfl (dQ.r) (ab rfl (dQ.r) (ab rfl (dQ.r) (ab rfl (dQ.r) ar))))) (aw (aw (aw (aw aq))))) ?_;refine af (ah (ah (ae (av tk ?_))))
 obtain⟨x9,h9,H⟩:=ax H
 have s9:=aC b_rA x7 ([41]:List UInt8) _ h9;refine bE (g:=52) rfl rfl rfl Tryz.call52 [(1500,1500)] [] rfl rfl rfl rfl (dQ.of2 (eO.cons jn.boxT (eO.cons (jn.of_eq rfl) eO.nil))) (by rw[aU,be,bf];rfl) s9 ?_;rintro u9 H9h ⟨rfl,rfl⟩
 refine⟨_,rfl,?_⟩
 refine aH (st':=⟨_,_,upd (upd (upd (upd (upd (fun _=>none) 1701 (some ⟨b_c1,[(.box 1501 b_qA 0)]⟩)) 1700 (some ⟨b_c0,[(.box 1500 b_rA 0)]⟩)) 1501 (some ⟨b_qA,[(ac qA.kind),(.str qA.table),(.own 1622 g_qA_2 (qA.names.map aD).length),(.own 1623 g_qA_3 (qA.exprs.map am).length),(.own 1624 g_qA_4 (qA.aggregates.map aA).length),(.own 1625 g_qA_5 (qA.descending.map aB).length),(ac qA.count),(ac qA.offset),(.list 29 (qA.inputs.map ak))]⟩)) 1500 (some ⟨b_rA,(aa x9.2)⟩)) 2 (some ⟨b2,[(.str []),(.str x4.1),(.val (.slice none 0 0))]⟩),upd (upd (upd (upd (fun _=>none) 1625 (some ⟨g_qA_5,4,(qA.descending.map aB),true⟩)) 1624 (some ⟨g_qA_4,85,(qA.aggregates.map aA),true⟩)) 1623 (some ⟨g_qA_3,82,(qA.exprs.map am),true⟩)) 1622 (some ⟨g_qA_2,9,(qA.names.map aD),true⟩)⟩) (Gh.le (az _ _) (ab rfl (dQ.r) (ab rfl (dQ.r) (ab rfl (dQ.r) (ab rfl (dQ.r) (ab rfl (dQ.r) ar))))) (aw (aw (aw (aw aq))))) ?_;refine ap tk rfl (af ?_);refine lW (γ:=Unit) (fun t1 g1=>⟨32,upd (upd (upd (fun _=>.any) 2 (.box 2 b2 0)) 1 (.box 1701 b_c1 0)) 0 (.box 1700 b_c0 0),upd (upd (upd (upd (upd (fun _=>none) 1701 (some ⟨b_c1,[(.box 1501 b_qA 0)]⟩)) 1700 (some ⟨b_c0,[(.box 1500 b_rA 0)]⟩)) 1501 (some ⟨b_qA,[(ac qA.kind),(.str qA.table),(.own 1622 g_qA_2 (qA.names.map aD).length),(.own 1623 g_qA_3 (qA.exprs.map am).length),(.own 1624 g_qA_4 (qA.aggregates.map aA).length),(.own 1625 g_qA_5 (qA.descending.map aB).length),(ac qA.count),(ac qA.offset),(.list 29 (qA.inputs.map ak))]⟩)) 1500 (some ⟨b_rA,(aa t1.2)⟩)) 2 (some ⟨b2,[(.str []),(.str x4.1),(.list 82 (t1.1.map am))]⟩),upd (upd (upd (upd (fun _=>none) 1625 (some ⟨g_qA_5,4,(qA.descending.map aB),true⟩)) 1624 (some ⟨g_qA_4,85,(qA.aggregates.map aA),true⟩)) 1623 (some ⟨g_qA_3,82,(qA.exprs.map am),true⟩)) 1622 (some ⟨g_qA_2,9,(qA.names.map aD),true⟩)⟩) H (fun _ H Hp1=>?_) (fun t1 g1 H=>?_)
 ·refine aT rfl H (fun H=>?_) (fun H=>?_)
  ·refine ah (ae (av tk ?_))
   obtain⟨y12,h12,X12,H⟩:=dP H
   have s12:=dy b_rA x9.2 _ h12;refine aP Tryz.call85 [(1500,1500)] [] s12 (pxF (fun e he=>(lvJ (X12 e he) Hp1)) _) ?_;rintro u12 H12h hR12
   obtain⟨x12,⟨rfl,rfl⟩,H⟩:=H _ _ _ hR12
   refine⟨_,rfl,?_⟩
   refine aH (st':=⟨_,_,upd (upd (upd (upd (upd (fun _=>none) 1701 (some ⟨b_c1,[(.box 1501 b_qA 0)]⟩)) 1700 (some ⟨b_c0,[(.box 1500 b_rA 0)]⟩)) 1501 (some ⟨b_qA,[(ac qA.kind),(.str qA.table),(.own 1622 g_qA_2 (qA.names.map aD).length),(.own 1623 g_qA_3 (qA.exprs.map am).length),(.own 1624 g_qA_4 (qA.aggregates.map aA).length),(.own 1625 g_qA_5 (qA.descending.map aB).length),(ac qA.count),(ac qA.offset),(.list 29 (qA.inputs.map ak))]⟩)) 1500 (some ⟨b_rA,(aa x12.2)⟩)) 2 (some ⟨b2,[(.str []),(.str x4.1),(.val (.slice none 0 0))]⟩),upd (upd (upd (upd (fun _=>none) 1625 (some ⟨g_qA_5,4,(qA.descending.map aB),true⟩)) 1624 (some ⟨g_qA_4,85,(qA.aggregates.map aA),true⟩)) 1623 (some ⟨g_qA_3,82,(qA.exprs.map am),true⟩)) 1622 (some ⟨g_qA_2,9,(qA.names.map aD),true⟩)⟩) (Gh.le (az _ _) (ab rfl (dQ.r) (ab rfl (dQ.r) (ab rfl (dQ.r) (ab rfl (dQ.r) (ab rfl (dQ.r) ar))))) (aw (aw (aw (aw aq))))) ?_;refine ic tk (rows':=List.map am ([x12.1]:List LExpr)) rfl (dN.trans (b:=List.map bN [x12.1]) (dN.refl _) (dN.of_eq (em ck [x12.1]))) ?_;refine ap tk rfl (ao tk ?_);refine af (ae (av tk ?_))
   obtain⟨y16,h16,X16,H⟩:=dP H
   have s16:=aS b_rA x12.2 ([41]:List UInt8) _ h16;refine aP Tryz.call53 [(1500,1500)] [] s16 (pxF (fun e he=>(lvJ (X16 e he) Hp1)) _) ?_;rintro u16 H16h hR16
   obtain⟨x16,⟨rfl,rfl⟩,H⟩:=H _ _ _ hR16
   refine⟨_,rfl,?_⟩
   refine aH (st':=⟨_,_,upd (upd (upd (upd (upd (fun _=>none) 1701 (some ⟨b_c1,[(.box 1501 b_qA 0)]⟩)) 1700 (some ⟨b_c0,[(.box 1500 b_rA 0)]⟩)) 1501 (some ⟨b_qA,[(ac qA.kind),(.str qA.table),(.own 1622 g_qA_2 (qA.names.map aD).length),(.own 1623 g_qA_3 (qA.exprs.map am).length),(.own 1624 g_qA_4 (qA.aggregates.map aA).length),(.own 1625 g_qA_5 (qA.descending.map aB).length),(ac qA.count),(ac qA.offset),(.list 29 (qA.inputs.map ak))]⟩)) 1500 (some ⟨b_rA,(aa x16)⟩)) 2 (some ⟨b2,[(.str []),(.str x4.1),(.list 82 (([x12.1]:List LExpr).map am))]⟩),upd (upd (upd (upd (fun _=>none) 1625 (some ⟨g_qA_5,4,(qA.descending.map aB),true⟩)) 1624 (some ⟨g_qA_4,85,(qA.aggregates.map aA),true⟩)) 1623 (some ⟨g_qA_3,82,(qA.exprs.map am),true⟩)) 1622 (some ⟨g_qA_2,9,(qA.names.map aD),true⟩)⟩) (Gh.le (az _ _) (ab rfl (dQ.r) (ab rfl (dQ.r) (ab rfl (dQ.r) (ab rfl (dQ.r) (ab rfl (dQ.r) ar))))) (aw (aw (aw (aw aq))))) ?_;refine af ?_;refine bX _ () (aF H).symm Gh.d
  refine aQ ?_;refine bX _ () (aF H).symm (Gh.le (bF (bF (bF aV))) (ab rfl (dQ.of2 (eO.cons (jn.of_eq rfl) (eO.cons (jn.of_eq rfl) (eO.cons (jn.nil tk rfl) eO.nil)))) (ab rfl (dQ.r) (ab rfl (dQ.r) (ab rfl (dQ.r) (ab rfl (dQ.r) ar))))) (aw (aw (aw (aw aq)))))
 refine ah (ae (av tk ?_))
 obtain⟨y18,h18,X18,H⟩:=bq H
 have s18:=aS b_rA t1.2 ([97,115]:List UInt8) _ h18;refine aP Tryz.call53 [(1500,1500)] [] s18 (X18 _) ?_;rintro u18 H18h hR18
 obtain⟨x18,⟨rfl,rfl⟩,H⟩:=H _ _ _ hR18
 refine⟨_,rfl,?_⟩
 refine aH (st':=⟨_,_,upd (upd (upd (upd (upd (fun _=>none) 1701 (some ⟨b_c1,[(.box 1501 b_qA 0)]⟩)) 1700 (some ⟨b_c0,[(.box 1500 b_rA 0)]⟩)) 1501 (some ⟨b_qA,[(ac qA.kind),(.str qA.table),(.own 1622 g_qA_2 (qA.names.map aD).length),(.own 1623 g_qA_3 (qA.exprs.map am).length),(.own 1624 g_qA_4 (qA.aggregates.map aA).length),(.own 1625 g_qA_5 (qA.descending.map aB).length),(ac qA.count),(ac qA.offset),(.list 29 (qA.inputs.map ak))]⟩)) 1500 (some ⟨b_rA,(aa x18)⟩)) 2 (some ⟨b2,[(.str []),(.str x4.1),(.list 82 (t1.1.map am))]⟩),upd (upd (upd (upd (fun _=>none) 1625 (some ⟨g_qA_5,4,(qA.descending.map aB),true⟩)) 1624 (some ⟨g_qA_4,85,(qA.aggregates.map aA),true⟩)) 1623 (some ⟨g_qA_3,82,(qA.exprs.map am),true⟩)) 1622 (some ⟨g_qA_2,9,(qA.names.map aD),true⟩)⟩) (Gh.le (az _ _) (ab rfl (dQ.r) (ab rfl (dQ.r) (ab rfl (dQ.r) (ab rfl (dQ.r) (ab rfl (dQ.r) ar))))) (aw (aw (aw (aw aq))))) ?_;refine af (ah (ae (av tk ?_)))
 obtain⟨y20,h20,X20,H⟩:=bq H
 have s20:=cB b_rA x18 _ h20;refine aP Tryz.call54 [(1500,1500)] [] s20 (X20 _) ?_;rintro u20 H20h hR20
 obtain⟨x20,⟨rfl,rfl⟩,H⟩:=H _ _ _ hR20
 refine⟨_,rfl,?_⟩
 refine aH (st':=⟨_,_,upd (upd (upd (upd (upd (fun _=>none) 1701 (some ⟨b_c1,[(.box 1501 b_qA 0)]⟩)) 1700 (some ⟨b_c0,[(.box 1500 b_rA 0)]⟩)) 1501 (some ⟨b_qA,[(ac qA.kind),(.str qA.table),(.own 1622 g_qA_2 (qA.names.map aD).length),(.own 1623 g_qA_3 (qA.exprs.map am).length),(.own 1624 g_qA_4 (qA.aggregates.map aA).length),(.own 1625 g_qA_5 (qA.descending.map aB).length),(ac qA.count),(ac qA.offset),(.list 29 (qA.inputs.map ak))]⟩)) 1500 (some ⟨b_rA,(aa x20.2)⟩)) 2 (some ⟨b2,[(.str []),(.str x4.1),(.list 82 (t1.1.map am))]⟩),upd (upd (upd (upd (fun _=>none) 1625 (some ⟨g_qA_5,4,(qA.descending.map aB),true⟩)) 1624 (some ⟨g_qA_4,85,(qA.aggregates.map aA),true⟩)) 1623 (some ⟨g_qA_3,82,(qA.exprs.map am),true⟩)) 1622 (some ⟨g_qA_2,9,(qA.names.map aD),true⟩)⟩) (Gh.le (az _ _) (ab rfl (dQ.r) (ab rfl (dQ.r) (ab rfl (dQ.r) (ab rfl (dQ.r) (ab rfl (dQ.r) ar))))) (aw (aw (aw (aw aq))))) ?_;refine ap tk rfl (ao tk ?_);refine af (de tk mok ⟨true,false,[]⟩ [0,1,2,3,4,5,6,7,8,9,10] rfl (by decide+kernel) rfl (dH ?_));refine dH ?_;refine bA 2 rfl (dH ?_);refine dH ?_;refine bQ rfl ?_
 obtain⟨x29,h29,H⟩:=ax H
 have k29:=dU h29;refine gG (rows2':=List.map aA ([(LAggregateCall.mk x20.1 x4.1 t1.1)]:List LAggregateCall)) (rows':=List.map aA x29) tk rfl rfl rfl rfl rfl rfl rfl rfl rfl rfl rfl rfl rfl rfl (dN.refl _) (fc k29.1) (fa k29.2.1) (eZ k29.2.2) fun g29=>?_
 refine bA 2 rfl (fW rfl rfl rfl rfl rfl rfl rfl rfl rfl rfl rfl rfl (bP ?_));obtain rfl:=aF H;refine bD (st':=⟨32,fun _=>.any,upd (upd (upd (upd (fun _=>none) 1701 (some ⟨b_c1,[(.box 1501 b_qA 0)]⟩)) 1700 (some ⟨b_c0,[(.box 1500 b_rA 0)]⟩)) 1501 (some ⟨b_qA,[(ac ((LQuery.mk qA.kind qA.table qA.names qA.exprs x29 qA.descending qA.count qA.offset qA.inputs).kind)),(.str ((LQuery.mk qA.kind qA.table qA.names qA.exprs x29 qA.descending qA.count qA.offset qA.inputs).table)),(.own 1622 g_qA_2 (qA.names.map aD).length),(.own 1623 g_qA_3 (qA.exprs.map am).length),(.own 1624 g29 (x29.map aA).length),(.own 1625 g_qA_5 (qA.descending.map aB).length),(ac ((LQuery.mk qA.kind qA.table qA.names qA.exprs x29 qA.descending qA.count qA.offset qA.inputs).count)),(ac ((LQuery.mk qA.kind qA.table qA.names qA.exprs x29 qA.descending qA.count qA.offset qA.inputs).offset)),(.list 29 (((LQuery.mk qA.kind qA.table qA.names qA.exprs x29 qA.descending qA.count qA.offset qA.inputs).inputs).map ak))]⟩)) 1500 (some ⟨b_rA,(aa x20.2)⟩),upd (upd (upd (upd (fun _=>none) 1625 (some ⟨g_qA_5,4,(qA.descending.map aB),true⟩)) 1624 (some ⟨g29,85,(x29.map aA),true⟩)) 1623 (some ⟨g_qA_3,82,(qA.exprs.map am),true⟩)) 1622 (some ⟨g_qA_2,9,(qA.names.map aD),true⟩)⟩) (Gh.le aV (ab rfl (dQ.r) (ab rfl (dQ.r) (ab rfl (dQ.r) (ab rfl (dQ.r) ar)))) (aw (aw (aw (aw aq))))) ?_;refine eU rfl (PLe.q rfl) ⟨_,_,_,_,rfl,rfl⟩
def cO(rA:LQueryparserParser)(qA:LQuery):Option (Except Int (LQueryparserParser×LQuery)):=
 bg (cb rA qA) fun x5=>
 ag (dJ (σ:=LQueryparserParser×LQuery) (ρ:=(Except Int (LQueryparserParser×LQuery))) (fun(s1:LQueryparserParser×LQuery)=>
  ag (al s1.1 ([44]:List UInt8)) fun x7=>
  cond x7.1
   (cZ (cb x7.2 s1.2) fun x9=>
   some (.next (x9.1,x9.2)))
   (some (.brk (x7.2,s1.2)))) (x5.1,x5.2)) fun fl1=>fl1.thenR fun(s1:LQueryparserParser×LQuery)=>
 some (.ok (s1.1,s1.2))
theorem iB(b_rA:Nat)(b_qA:Nat)(g_qA_2:OwnRef)(g_qA_3:OwnRef)(g_qA_4:OwnRef)(g_qA_5:OwnRef)(b_c0:Nat)(b_c1:Nat)(rA:LQueryparserParser)(qA:LQuery)(r:Except Int (LQueryparserParser×LQuery))(H:cO rA qA=some r):
  ba Tryz.prog 86 [(.box 1500 b_rA 0),(.fn 135 [(.box 1700 b_c0 0),(.box 1701 b_c1 0)])] ⟨upd (upd (upd (upd (fun _=>none) 1701 (some ⟨b_c1,[(.box 1501 b_qA 0)]⟩)) 1700 (some ⟨b_c0,[(.box 1500 b_rA 0)]⟩)) 1501 (some ⟨b_qA,[(ac qA.kind),(.str qA.table),(.own 1622 g_qA_2 (qA.names.map aD).length),(.own 1623 g_qA_3 (qA.exprs.map am).length),(.own 1624 g_qA_4 (qA.aggregates.map aA).length),(.own 1625 g_qA_5 (qA.descending.map aB).length),(ac qA.count),(ac qA.offset),(.list 29 (qA.inputs.map ak))]⟩)) 1500 (some ⟨b_rA,(aa rA)⟩),upd (upd (upd (upd (fun _=>none) 1625 (some ⟨g_qA_5,4,(qA.descending.map aB),true⟩)) 1624 (some ⟨g_qA_4,85,(qA.aggregates.map aA),true⟩)) 1623 (some ⟨g_qA_3,82,(qA.exprs.map am),true⟩)) 1622 (some ⟨g_qA_2,9,(qA.names.map aD),true⟩)⟩ (RX r (fun rv u H=>∃gz1_2,∃gz1_3,∃gz1_4,∃gz1_5,u=(.tup [])∧H=⟨upd (upd (upd (upd (fun _=>none) 1701 (some ⟨b_c1,[(.box 1501 b_qA 0)]⟩)) 1700 (some ⟨b_c0,[(.box 1500 b_rA 0)]⟩)) 1501 (some ⟨b_qA,[(ac rv.2.kind),(.str rv.2.table),(.own 1622 gz1_2 (rv.2.names.map aD).length),(.own 1623 gz1_3 (rv.2.exprs.map am).length),(.own 1624 gz1_4 (rv.2.aggregates.map aA).length),(.own 1625 gz1_5 (rv.2.descending.map aB).length),(ac rv.2.count),(ac rv.2.offset),(.list 29 (rv.2.inputs.map ak))]⟩)) 1500 (some ⟨b_rA,(aa rv.1)⟩),upd (upd (upd (upd (fun _=>none) 1625 (some ⟨gz1_5,4,(rv.2.descending.map aB),true⟩)) 1624 (some ⟨gz1_4,85,(rv.2.aggregates.map aA),true⟩)) 1623 (some ⟨gz1_3,82,(rv.2.exprs.map am),true⟩)) 1622 (some ⟨gz1_2,9,(rv.2.names.map aD),true⟩)⟩)) (PX 106 r):=by
 unfold cO at H;refine ba.intro Tryz.func86 rfl Tryz.ntmps86 rfl ?_;refine ah (ae (ap tk rfl ?_))
 obtain⟨y5,h5,X5,H⟩:=bq H
 have s5:=fN b_rA b_qA g_qA_2 g_qA_3 g_qA_4 g_qA_5 b_c0 b_c1 rA qA _ h5;refine aP Tryz.call135 [(1500,1500),(1501,1501),(1700,1700),(1701,1701)] [(1622,1622),(1623,1623),(1624,1624),(1625,1625)] s5 (X5 _) ?_;rintro u5 H5h hR5
 obtain⟨x5,⟨gz5_1622,gz5_1623,gz5_1624,gz5_1625,rfl,rfl⟩,H⟩:=H _ _ _ hR5
 refine⟨_,rfl,?_⟩
 refine aH (st':=⟨_,_,upd (upd (upd (upd (fun _=>none) 1701 (some ⟨b_c1,[(.box 1501 b_qA 0)]⟩)) 1700 (some ⟨b_c0,[(.box 1500 b_rA 0)]⟩)) 1501 (some ⟨b_qA,[(ac x5.2.kind),(.str x5.2.table),(.own 1622 gz5_1622 (x5.2.names.map aD).length),(.own 1623 gz5_1623 (x5.2.exprs.map am).length),(.own 1624 gz5_1624 (x5.2.aggregates.map aA).length),(.own 1625 gz5_1625 (x5.2.descending.map aB).length),(ac x5.2.count),(ac x5.2.offset),(.list 29 (x5.2.inputs.map ak))]⟩)) 1500 (some ⟨b_rA,(aa x5.1)⟩),upd (upd (upd (upd (fun _=>none) 1625 (some ⟨gz5_1625,4,(x5.2.descending.map aB),true⟩)) 1624 (some ⟨gz5_1624,85,(x5.2.aggregates.map aA),true⟩)) 1623 (some ⟨gz5_1623,82,(x5.2.exprs.map am),true⟩)) 1622 (some ⟨gz5_1622,9,(x5.2.names.map aD),true⟩)⟩) (Gh.le (az _ _) (ab rfl (dQ.r) (ab rfl (dQ.r) (ab rfl (dQ.r) (ab rfl (dQ.r) ar)))) (aw (aw (aw (aw aq))))) ?_;refine af ?_
 obtain⟨fl1,H1,Hp1⟩:=ax H
 refine fI (τ:=LQueryparserParser×LQuery) (γ:=OwnRef×OwnRef×OwnRef×OwnRef) (fun s1 g1=>⟨10,upd (upd (fun _=>.any) 1 (.fn 135 [(.box 1700 b_c0 0),(.box 1701 b_c1 0)])) 0 (.box 1500 b_rA 0),upd (upd (upd (upd (fun _=>none) 1701 (some ⟨b_c1,[(.box 1501 b_qA 0)]⟩)) 1700 (some ⟨b_c0,[(.box 1500 b_rA 0)]⟩)) 1501 (some ⟨b_qA,[(ac s1.2.kind),(.str s1.2.table),(.own 1622 g1.1 (s1.2.names.map aD).length),(.own 1623 g1.2.1 (s1.2.exprs.map am).length),(.own 1624 g1.2.2.1 (s1.2.aggregates.map aA).length),(.own 1625 g1.2.2.2 (s1.2.descending.map aB).length),(ac s1.2.count),(ac s1.2.offset),(.list 29 (s1.2.inputs.map ak))]⟩)) 1500 (some ⟨b_rA,(aa s1.1)⟩),upd (upd (upd (upd (fun _=>none) 1625 (some ⟨g1.2.2.2,4,(s1.2.descending.map aB),true⟩)) 1624 (some ⟨g1.2.2.1,85,(s1.2.aggregates.map aA),true⟩)) 1623 (some ⟨g1.2.1,82,(s1.2.exprs.map am),true⟩)) 1622 (some ⟨g1.1,9,(s1.2.names.map aD),true⟩)⟩) (fun t=>fl1= .next t) ?_ (fun s1 g1 hn1=>?_)
 ·refine bs ?_;refine fV (fun s1 g1=>⟨10,upd (upd (fun _=>.any) 1 (.fn 135 [(.box 1700 b_c0 0),(.box 1701 b_c1 0)])) 0 (.box 1500 b_rA 0),upd (upd (upd (upd (fun _=>none) 1701 (some ⟨b_c1,[(.box 1501 b_qA 0)]⟩)) 1700 (some ⟨b_c0,[(.box 1500 b_rA 0)]⟩)) 1501 (some ⟨b_qA,[(ac s1.2.kind),(.str s1.2.table),(.own 1622 g1.1 (s1.2.names.map aD).length),(.own 1623 g1.2.1 (s1.2.exprs.map am).length),(.own 1624 g1.2.2.1 (s1.2.aggregates.map aA).length),(.own 1625 g1.2.2.2 (s1.2.descending.map aB).length),(ac s1.2.count),(ac s1.2.offset),(.list 29 (s1.2.inputs.map ak))]⟩)) 1500 (some ⟨b_rA,(aa s1.1)⟩),upd (upd (upd (upd (fun _=>none) 1625 (some ⟨g1.2.2.2,4,(s1.2.descending.map aB),true⟩)) 1624 (some ⟨g1.2.2.1,85,(s1.2.aggregates.map aA),true⟩)) 1623 (some ⟨g1.2.1,82,(s1.2.exprs.map am),true⟩)) 1622 (some ⟨g1.1,9,(s1.2.names.map aD),true⟩)⟩) (gz5_1622,gz5_1623,gz5_1624,gz5_1625) H1 Gh.d (fun m1 s1 g1 hr1=>?_)
  obtain⟨fb1,H,hg1⟩:=eY hr1
  refine ah (ah (ae (ap tk rfl ?_)))
  obtain⟨x7,h7,H⟩:=ax H
  have s7:=aC b_rA s1.1 ([44]:List UInt8) _ h7;refine bE (g:=52) rfl rfl rfl Tryz.call52 [(1500,1500)] [] rfl rfl rfl rfl (dQ.of2 (eO.cons jn.boxT (eO.cons (jn.of_eq rfl) eO.nil))) (by rw[aU,be,bf];rfl) s7 ?_;rintro u7 H7h ⟨rfl,rfl⟩
  refine⟨_,rfl,?_⟩
  refine aH (st':=⟨_,_,upd (upd (upd (upd (fun _=>none) 1701 (some ⟨b_c1,[(.box 1501 b_qA 0)]⟩)) 1700 (some ⟨b_c0,[(.box 1500 b_rA 0)]⟩)) 1501 (some ⟨b_qA,[(ac s1.2.kind),(.str s1.2.table),(.own 1622 g1.1 (s1.2.names.map aD).length),(.own 1623 g1.2.1 (s1.2.exprs.map am).length),(.own 1624 g1.2.2.1 (s1.2.aggregates.map aA).length),(.own 1625 g1.2.2.2 (s1.2.descending.map aB).length),(ac s1.2.count),(ac s1.2.offset),(.list 29 (s1.2.inputs.map ak))]⟩)) 1500 (some ⟨b_rA,(aa x7.2)⟩),upd (upd (upd (upd (fun _=>none) 1625 (some ⟨g1.2.2.2,4,(s1.2.descending.map aB),true⟩)) 1624 (some ⟨g1.2.2.1,85,(s1.2.aggregates.map aA),true⟩)) 1623 (some ⟨g1.2.1,82,(s1.2.exprs.map am),true⟩)) 1622 (some ⟨g1.1,9,(s1.2.names.map aD),true⟩)⟩) (Gh.le (az _ _) (ab rfl (dQ.r) (ab rfl (dQ.r) (ab rfl (dQ.r) (ab rfl (dQ.r) ar)))) (aw (aw (aw (aw aq))))) ?_;refine af ?_;refine aT rfl H (fun H=>?_) (fun H=>?_)
  ·refine aQ (bs (ae (ap tk rfl ?_)))
   obtain⟨y9,h9,X9,H⟩:=dP H
   have s9:=fN b_rA b_qA g1.1 g1.2.1 g1.2.2.1 g1.2.2.2 b_c0 b_c1 x7.2 s1.2 _ h9;refine aP Tryz.call135 [(1500,1500),(1501,1501),(1700,1700),(1701,1701)] [(1622,1622),(1623,1623),(1624,1624),(1625,1625)] s9 (pxF (fun e he=>(lvR (X9 e he) hg1 Hp1)) _) ?_;rintro u9 H9h hR9
   obtain⟨x9,⟨gz9_1622,gz9_1623,gz9_1624,gz9_1625,rfl,rfl⟩,H⟩:=H _ _ _ hR9
   refine⟨_,rfl,?_⟩
   refine aH (st':=⟨_,_,upd (upd (upd (upd (fun _=>none) 1701 (some ⟨b_c1,[(.box 1501 b_qA 0)]⟩)) 1700 (some ⟨b_c0,[(.box 1500 b_rA 0)]⟩)) 1501 (some ⟨b_qA,[(ac x9.2.kind),(.str x9.2.table),(.own 1622 gz9_1622 (x9.2.names.map aD).length),(.own 1623 gz9_1623 (x9.2.exprs.map am).length),(.own 1624 gz9_1624 (x9.2.aggregates.map aA).length),(.own 1625 gz9_1625 (x9.2.descending.map aB).length),(ac x9.2.count),(ac x9.2.offset),(.list 29 (x9.2.inputs.map ak))]⟩)) 1500 (some ⟨b_rA,(aa x9.1)⟩),upd (upd (upd (upd (fun _=>none) 1625 (some ⟨gz9_1625,4,(x9.2.descending.map aB),true⟩)) 1624 (some ⟨gz9_1624,85,(x9.2.aggregates.map aA),true⟩)) 1623 (some ⟨gz9_1623,82,(x9.2.exprs.map am),true⟩)) 1622 (some ⟨gz9_1622,9,(x9.2.names.map aD),true⟩)⟩) (Gh.le (az _ _) (ab rfl (dQ.r) (ab rfl (dQ.r) (ab rfl (dQ.r) (ab rfl (dQ.r) ar)))) (aw (aw (aw (aw aq))))) ?_;refine af (bU ?_);obtain rfl:=aF H;refine eR (x9.1,x9.2) (gz9_1622,gz9_1623,gz9_1624,gz9_1625) hg1 Gh.d
  refine eI rfl ?_;obtain rfl:=aF H;refine bX (x7.2,s1.2) (g1.1,g1.2.1,g1.2.2.1,g1.2.2.2) hg1 Gh.d
 have H:=eG hn1 Hp1;obtain rfl:=aF H;refine bD (st':=⟨10,fun _=>.any,upd (upd (upd (upd (fun _=>none) 1701 (some ⟨b_c1,[(.box 1501 b_qA 0)]⟩)) 1700 (some ⟨b_c0,[(.box 1500 b_rA 0)]⟩)) 1501 (some ⟨b_qA,[(ac s1.2.kind),(.str s1.2.table),(.own 1622 g1.1 (s1.2.names.map aD).length),(.own 1623 g1.2.1 (s1.2.exprs.map am).length),(.own 1624 g1.2.2.1 (s1.2.aggregates.map aA).length),(.own 1625 g1.2.2.2 (s1.2.descending.map aB).length),(ac s1.2.count),(ac s1.2.offset),(.list 29 (s1.2.inputs.map ak))]⟩)) 1500 (some ⟨b_rA,(aa s1.1)⟩),upd (upd (upd (upd (fun _=>none) 1625 (some ⟨g1.2.2.2,4,(s1.2.descending.map aB),true⟩)) 1624 (some ⟨g1.2.2.1,85,(s1.2.aggregates.map aA),true⟩)) 1623 (some ⟨g1.2.1,82,(s1.2.exprs.map am),true⟩)) 1622 (some ⟨g1.1,9,(s1.2.names.map aD),true⟩)⟩) (Gh.le aV (ab rfl (dQ.r) (ab rfl (dQ.r) (ab rfl (dQ.r) (ab rfl (dQ.r) ar)))) (aw (aw (aw (aw aq))))) ?_;refine eU rfl (PLe.q rfl) ⟨_,_,_,_,rfl,rfl⟩
def ce(rA:LQueryparserParser)(qA:LQuery):Option (Except Int (LQueryparserParser×LQuery)):=
 bg (cq rA) fun x5=>
 ag (dY 88 qA.exprs ([(LExpr.mk 0 [] 0 (LVal.mk 0 0 []) [])]:List LExpr)) fun(x8:List LExpr)=>
 ag (bl x8 (qA.exprs.length:Int)) fun(_:LExpr)=>
 dv (x8.set ((qA.exprs.length:Int).toNat) x5.1) fun(y1:List LExpr)=>
 ag (al x5.2 ([100,101,115,99]:List UInt8)) fun x14=>
 ag (dY 1 qA.descending ([x14.1]:List Bool)) fun(x16:List Bool)=>
 some (.ok (x14.2,(LQuery.mk qA.kind qA.table qA.names y1 qA.aggregates x16 qA.count qA.offset qA.inputs)))
theorem fJ(b_rA:Nat)(b_qA:Nat)(g_qA_2:OwnRef)(g_qA_3:OwnRef)(g_qA_4:OwnRef)(g_qA_5:OwnRef)(b_c0:Nat)(rA:LQueryparserParser)(qA:LQuery)(r:Except Int (LQueryparserParser×LQuery))(H:ce rA qA=some r):
  ba Tryz.prog 92 [(.box 1501 b_qA 0),(.box 1700 b_c0 0)] ⟨upd (upd (upd (fun _=>none) 1700 (some ⟨b_c0,[(.box 1500 b_rA 0)]⟩)) 1501 (some ⟨b_qA,[(ac qA.kind),(.str qA.table),(.own 1622 g_qA_2 (qA.names.map aD).length),(.own 1623 g_qA_3 (qA.exprs.map am).length),(.own 1624 g_qA_4 (qA.aggregates.map aA).length),(.own 1625 g_qA_5 (qA.descending.map aB).length),(ac qA.count),(ac qA.offset),(.list 29 (qA.inputs.map ak))]⟩)) 1500 (some ⟨b_rA,(aa rA)⟩),upd (upd (upd (upd (fun _=>none) 1625 (some ⟨g_qA_5,4,(qA.descending.map aB),true⟩)) 1624 (some ⟨g_qA_4,85,(qA.aggregates.map aA),true⟩)) 1623 (some ⟨g_qA_3,82,(qA.exprs.map am),true⟩)) 1622 (some ⟨g_qA_2,9,(qA.names.map aD),true⟩)⟩ (RX r (fun rv u H=>∃gz1_2,∃gz1_3,∃gz1_4,∃gz1_5,u=(.tup [])∧H=⟨upd (upd (upd (fun _=>none) 1700 (some ⟨b_c0,[(.box 1500 b_rA 0)]⟩)) 1501 (some ⟨b_qA,[(ac rv.2.kind),(.str rv.2.table),(.own 1622 gz1_2 (rv.2.names.map aD).length),(.own 1623 gz1_3 (rv.2.exprs.map am).length),(.own 1624 gz1_4 (rv.2.aggregates.map aA).length),(.own 1625 gz1_5 (rv.2.descending.map aB).length),(ac rv.2.count),(ac rv.2.offset),(.list 29 (rv.2.inputs.map ak))]⟩)) 1500 (some ⟨b_rA,(aa rv.1)⟩),upd (upd (upd (upd (fun _=>none) 1625 (some ⟨gz1_5,4,(rv.2.descending.map aB),true⟩)) 1624 (some ⟨gz1_4,85,(rv.2.aggregates.map aA),true⟩)) 1623 (some ⟨gz1_3,82,(rv.2.exprs.map am),true⟩)) 1622 (some ⟨gz1_2,9,(rv.2.names.map aD),true⟩)⟩)) (PX 106 r):=by
 unfold ce at H;refine ba.intro Tryz.func92 rfl Tryz.ntmps92 rfl ?_;refine ah ?_;refine iw (tag:=1622) rfl (fun ho1622=>?_);refine iw (tag:=1623) rfl (fun ho1623=>?_);refine iw (tag:=1624) rfl (fun ho1624=>?_);refine iw (tag:=1625) rfl (fun ho1625=>?_);refine de tk mok ⟨true,false,[999997,3001501,3001700,4000003,4000004,999996,5000009]⟩ [0,1,2,4,5,3,6,7,9,10,8] rfl (by decide+kernel) rfl (bQ rfl (dG tk ?_));refine dG tk ?_;refine nn rfl rfl rfl rfl rfl rfl (zl _) rfl (bQ rfl ?_)
 obtain⟨y5,h5,X5,H⟩:=bq H
 have s5:=dy b_rA rA _ h5;refine fU Tryz.call85 [(1500,1500)] [] s5 (X5 _) ?_;rintro u5 H5h hR5
 obtain⟨x5,⟨rfl,rfl⟩,H⟩:=H _ _ _ hR5
 refine⟨_,rfl,?_⟩
 obtain⟨x8,h8,H⟩:=ax H
 have k8:=dU h8;refine lr (rows2':=List.map am ([(LExpr.mk 0 [] 0 (LVal.mk 0 0 []) [])]:List LExpr)) (rows':=List.map am x8) tk rfl rfl rfl rfl rfl rfl rfl rfl rfl rfl rfl rfl rfl rfl (dN.trans (b:=List.map bN [(LExpr.mk 0 [] 0 (LVal.mk 0 0 []) [])]) (dN.cons (mI.cons (jn.of_eq rfl) (mI.cons (jn.of_eq rfl) (mI.cons (jn.of_eq rfl) (mI.cons (jn.of_eq rfl) (mI.cons (jn.of_eq rfl) (mI.cons (jn.of_eq rfl) (mI.cons (jn.nil tk rfl) mI.nil))))))) dN.nil) (dN.of_eq (em ck [(LExpr.mk 0 [] 0 (LVal.mk 0 0 []) [])]))) (fc k8.1) (fa k8.2.1) (eZ k8.2.2) fun g8 ho1623=>?_
 obtain⟨x9,k9,H⟩:=dg H
 refine nl tk rfl rfl rfl rfl rfl rfl rfl rfl ⟨k9.1,(idxLen k9.2)⟩ (idxBlk ho1623 k9.2) rfl (bQ rfl (fW rfl rfl rfl rfl rfl rfl rfl rfl rfl rfl rfl rfl ?_))
 obtain⟨y1,hy1,H⟩:=fE H
 refine mf tk rfl rfl rfl rfl rfl rfl rfl rfl rfl (by rw[zl];exact(zg.1 k9.2).1) (PLe.refl _ _) rfl rfl rfl rfl (by decide) (lv ck k9.2 rfl hy1) ?_;refine bP ?_;refine bD (st':=⟨_,_,upd (upd (upd (fun _=>none) 1700 (some ⟨b_c0,[(.box 1500 b_rA 0)]⟩)) 1501 (some ⟨b_qA,[(ac qA.kind),(.str qA.table),(.own 1622 g_qA_2 (qA.names.map aD).length),(.own 1623 g8 (x8.map am).length),(.own 1624 g_qA_4 (qA.aggregates.map aA).length),(.own 1625 g_qA_5 (qA.descending.map aB).length),(ac qA.count),(ac qA.offset),(.list 29 (qA.inputs.map ak))]⟩)) 1500 (some ⟨b_rA,(aa x5.2)⟩),upd (upd (upd (upd (fun _=>none) 1625 (some ⟨g_qA_5,4,(qA.descending.map aB),true⟩)) 1624 (some ⟨g_qA_4,85,(qA.aggregates.map aA),true⟩)) 1623 (some ⟨g8,82,(y1.map am),true⟩)) 1622 (some ⟨g_qA_2,9,(qA.names.map aD),true⟩)⟩) (Gh.le (az _ _) (ab rfl (dQ.r) (ab rfl (dQ.r) (ab rfl (dQ.r) ar))) (aw (aw (aw (aw aq))))) ?_;refine de tk mok ⟨true,false,[999997,3001501,3001700,4000012,4000013]⟩ [0,1,2,3,4,5,6,7] rfl (by decide+kernel) rfl (bQ rfl (dG tk ?_));refine dG tk ?_
 obtain⟨x14,h14,H⟩:=ax H
 have s14:=aC b_rA x5.2 ([100,101,115,99]:List UInt8) _ h14;refine nE (g:=52) rfl rfl rfl rfl Tryz.call52 rfl rfl [(1500,1500)] [] rfl rfl rfl rfl (dQ.of2 (eO.cons jn.boxT (eO.cons (jn.of_eq rfl) eO.nil))) (by rw[aU,be,bf];rfl) s14 ?_;rintro u14 H14h ⟨rfl,rfl⟩
 refine⟨_,rfl,?_⟩
 refine bQ rfl ?_
 obtain⟨x16,h16,H⟩:=ax H
 have k16:=dU h16;refine gG (rows2':=List.map aB ([x14.1]:List Bool)) (rows':=List.map aB x16) tk rfl rfl rfl rfl rfl rfl rfl rfl rfl rfl rfl rfl rfl rfl (dN.refl _) (fc k16.1) (fa k16.2.1) (eZ k16.2.2) fun g16=>?_
 refine bQ rfl (fW rfl rfl rfl rfl rfl rfl rfl rfl rfl rfl rfl rfl (bP ?_));refine bD (st':=⟨_,_,upd (upd (upd (fun _=>none) 1700 (some ⟨b_c0,[(.box 1500 b_rA 0)]⟩)) 1501 (some ⟨b_qA,[(ac qA.kind),(.str qA.table),(.own 1622 g_qA_2 (qA.names.map aD).length),(.own 1623 g8 (x8.map am).length),(.own 1624 g_qA_4 (qA.aggregates.map aA).length),(.own 1625 g16 (x16.map aB).length),(ac qA.count),(ac qA.offset),(.list 29 (qA.inputs.map ak))]⟩)) 1500 (some ⟨b_rA,(aa x14.2)⟩),upd (upd (upd (upd (fun _=>none) 1625 (some ⟨g16,4,(x16.map aB),true⟩)) 1624 (some ⟨g_qA_4,85,(qA.aggregates.map aA),true⟩)) 1623 (some ⟨g8,82,(y1.map am),true⟩)) 1622 (some ⟨g_qA_2,9,(qA.names.map aD),true⟩)⟩) (Gh.le (az _ _) (ab rfl (dQ.r) (ab rfl (dQ.r) (ab rfl (dQ.r) ar))) (aw (aw (aw (aw aq))))) ?_;obtain rfl:=aF H;refine bD (st':=⟨18,fun _=>.any,upd (upd (upd (fun _=>none) 1700 (some ⟨b_c0,[(.box 1500 b_rA 0)]⟩)) 1501 (some ⟨b_qA,[(ac ((LQuery.mk qA.kind qA.table qA.names y1 qA.aggregates x16 qA.count qA.offset qA.inputs).kind)),(.str ((LQuery.mk qA.kind qA.table qA.names y1 qA.aggregates x16 qA.count qA.offset qA.inputs).table)),(.own 1622 g_qA_2 (qA.names.map aD).length),(.own 1623 g8 (y1.map am).length),(.own 1624 g_qA_4 (qA.aggregates.map aA).length),(.own 1625 g16 (x16.map aB).length),(ac ((LQuery.mk qA.kind qA.table qA.names y1 qA.aggregates x16 qA.count qA.offset qA.inputs).count)),(ac ((LQuery.mk qA.kind qA.table qA.names y1 qA.aggregates x16 qA.count qA.offset qA.inputs).offset)),(.list 29 (((LQuery.mk qA.kind qA.table qA.names y1 qA.aggregates x16 qA.count qA.offset qA.inputs).inputs).map ak))]⟩)) 1500 (some ⟨b_rA,(aa x14.2)⟩),upd (upd (upd (upd (fun _=>none) 1625 (some ⟨g16,4,(x16.map aB),true⟩)) 1624 (some ⟨g_qA_4,85,(qA.aggregates.map aA),true⟩)) 1623 (some ⟨g8,82,(y1.map am),true⟩)) 1622 (some ⟨g_qA_2,9,(qA.names.map aD),true⟩)⟩) (Gh.le aV (ab rfl (dQ.r) (ab rfl (dQ.of2 (eO.cons (jn.of_eq rfl) (eO.cons (jn.of_eq rfl) (eO.cons (jn.of_eq rfl) (eO.cons (jn.own (set_len (f:=am) hy1)) (eO.cons (jn.of_eq rfl) (eO.cons (jn.of_eq rfl) (eO.cons (jn.of_eq rfl) (eO.cons (jn.of_eq rfl) (eO.cons (jn.of_eq rfl) eO.nil)))))))))) (ab rfl (dQ.r) ar))) (aw (aw (aw (aw aq))))) ?_;refine eU rfl (PLe.q rfl) ⟨_,_,_,_,rfl,rfl⟩
def cW(rA:LQueryparserParser)(qA:LQuery):Option (Except Int (LQueryparserParser×LQuery)):=
 bg (ce rA qA) fun x5=>
 ag (dJ (σ:=LQueryparserParser×LQuery) (ρ:=(Except Int (LQueryparserParser×LQuery))) (fun(s1:LQueryparserParser×LQuery)=>
  ag (al s1.1 ([44]:List UInt8)) fun x7=>
  cond x7.1
   (cZ (ce x7.2 s1.2) fun x9=>
   some (.next (x9.1,x9.2)))
   (some (.brk (x7.2,s1.2)))) (x5.1,x5.2)) fun fl1=>fl1.thenR fun(s1:LQueryparserParser×LQuery)=>
 some (.ok (s1.1,s1.2))
theorem iK(b_rA:Nat)(b_qA:Nat)(g_qA_2:OwnRef)(g_qA_3:OwnRef)(g_qA_4:OwnRef)(g_qA_5:OwnRef)(b_c0:Nat)(rA:LQueryparserParser)(qA:LQuery)(r:Except Int (LQueryparserParser×LQuery))(H:cW rA qA=some r):
  ba Tryz.prog 86 [(.box 1500 b_rA 0),(.fn 92 [(.box 1501 b_qA 0),(.box 1700 b_c0 0)])] ⟨upd (upd (upd (fun _=>none) 1700 (some ⟨b_c0,[(.box 1500 b_rA 0)]⟩)) 1501 (some ⟨b_qA,[(ac qA.kind),(.str qA.table),(.own 1622 g_qA_2 (qA.names.map aD).length),(.own 1623 g_qA_3 (qA.exprs.map am).length),(.own 1624 g_qA_4 (qA.aggregates.map aA).length),(.own 1625 g_qA_5 (qA.descending.map aB).length),(ac qA.count),(ac qA.offset),(.list 29 (qA.inputs.map ak))]⟩)) 1500 (some ⟨b_rA,(aa rA)⟩),upd (upd (upd (upd (fun _=>none) 1625 (some ⟨g_qA_5,4,(qA.descending.map aB),true⟩)) 1624 (some ⟨g_qA_4,85,(qA.aggregates.map aA),true⟩)) 1623 (some ⟨g_qA_3,82,(qA.exprs.map am),true⟩)) 1622 (some ⟨g_qA_2,9,(qA.names.map aD),true⟩)⟩ (RX r (fun rv u H=>∃gz1_2,∃gz1_3,∃gz1_4,∃gz1_5,u=(.tup [])∧H=⟨upd (upd (upd (fun _=>none) 1700 (some ⟨b_c0,[(.box 1500 b_rA 0)]⟩)) 1501 (some ⟨b_qA,[(ac rv.2.kind),(.str rv.2.table),(.own 1622 gz1_2 (rv.2.names.map aD).length),(.own 1623 gz1_3 (rv.2.exprs.map am).length),(.own 1624 gz1_4 (rv.2.aggregates.map aA).length),(.own 1625 gz1_5 (rv.2.descending.map aB).length),(ac rv.2.count),(ac rv.2.offset),(.list 29 (rv.2.inputs.map ak))]⟩)) 1500 (some ⟨b_rA,(aa rv.1)⟩),upd (upd (upd (upd (fun _=>none) 1625 (some ⟨gz1_5,4,(rv.2.descending.map aB),true⟩)) 1624 (some ⟨gz1_4,85,(rv.2.aggregates.map aA),true⟩)) 1623 (some ⟨gz1_3,82,(rv.2.exprs.map am),true⟩)) 1622 (some ⟨gz1_2,9,(rv.2.names.map aD),true⟩)⟩)) (PX 106 r):=by
 unfold cW at H;refine ba.intro Tryz.func86 rfl Tryz.ntmps86 rfl ?_;refine ah (ae (ap tk rfl ?_))
 obtain⟨y5,h5,X5,H⟩:=bq H
 have s5:=fJ b_rA b_qA g_qA_2 g_qA_3 g_qA_4 g_qA_5 b_c0 rA qA _ h5;refine aP Tryz.call92 [(1500,1500),(1501,1501),(1700,1700)] [(1622,1622),(1623,1623),(1624,1624),(1625,1625)] s5 (X5 _) ?_;rintro u5 H5h hR5
 obtain⟨x5,⟨gz5_1622,gz5_1623,gz5_1624,gz5_1625,rfl,rfl⟩,H⟩:=H _ _ _ hR5
 refine⟨_,rfl,?_⟩
 refine aH (st':=⟨_,_,upd (upd (upd (fun _=>none) 1700 (some ⟨b_c0,[(.box 1500 b_rA 0)]⟩)) 1501 (some ⟨b_qA,[(ac x5.2.kind),(.str x5.2.table),(.own 1622 gz5_1622 (x5.2.names.map aD).length),(.own 1623 gz5_1623 (x5.2.exprs.map am).length),(.own 1624 gz5_1624 (x5.2.aggregates.map aA).length),(.own 1625 gz5_1625 (x5.2.descending.map aB).length),(ac x5.2.count),(ac x5.2.offset),(.list 29 (x5.2.inputs.map ak))]⟩)) 1500 (some ⟨b_rA,(aa x5.1)⟩),upd (upd (upd (upd (fun _=>none) 1625 (some ⟨gz5_1625,4,(x5.2.descending.map aB),true⟩)) 1624 (some ⟨gz5_1624,85,(x5.2.aggregates.map aA),true⟩)) 1623 (some ⟨gz5_1623,82,(x5.2.exprs.map am),true⟩)) 1622 (some ⟨gz5_1622,9,(x5.2.names.map aD),true⟩)⟩) (Gh.le (az _ _) (ab rfl (dQ.r) (ab rfl (dQ.r) (ab rfl (dQ.r) ar))) (aw (aw (aw (aw aq))))) ?_;refine af ?_
 obtain⟨fl1,H1,Hp1⟩:=ax H
 refine fI (τ:=LQueryparserParser×LQuery) (γ:=OwnRef×OwnRef×OwnRef×OwnRef) (fun s1 g1=>⟨10,upd (upd (fun _=>.any) 1 (.fn 92 [(.box 1501 b_qA 0),(.box 1700 b_c0 0)])) 0 (.box 1500 b_rA 0),upd (upd (upd (fun _=>none) 1700 (some ⟨b_c0,[(.box 1500 b_rA 0)]⟩)) 1501 (some ⟨b_qA,[(ac s1.2.kind),(.str s1.2.table),(.own 1622 g1.1 (s1.2.names.map aD).length),(.own 1623 g1.2.1 (s1.2.exprs.map am).length),(.own 1624 g1.2.2.1 (s1.2.aggregates.map aA).length),(.own 1625 g1.2.2.2 (s1.2.descending.map aB).length),(ac s1.2.count),(ac s1.2.offset),(.list 29 (s1.2.inputs.map ak))]⟩)) 1500 (some ⟨b_rA,(aa s1.1)⟩),upd (upd (upd (upd (fun _=>none) 1625 (some ⟨g1.2.2.2,4,(s1.2.descending.map aB),true⟩)) 1624 (some ⟨g1.2.2.1,85,(s1.2.aggregates.map aA),true⟩)) 1623 (some ⟨g1.2.1,82,(s1.2.exprs.map am),true⟩)) 1622 (some ⟨g1.1,9,(s1.2.names.map aD),true⟩)⟩) (fun t=>fl1= .next t) ?_ (fun s1 g1 hn1=>?_)
 ·refine bs ?_;refine fV (fun s1 g1=>⟨10,upd (upd (fun _=>.any) 1 (.fn 92 [(.box 1501 b_qA 0),(.box 1700 b_c0 0)])) 0 (.box 1500 b_rA 0),upd (upd (upd (fun _=>none) 1700 (some ⟨b_c0,[(.box 1500 b_rA 0)]⟩)) 1501 (some ⟨b_qA,[(ac s1.2.kind),(.str s1.2.table),(.own 1622 g1.1 (s1.2.names.map aD).length),(.own 1623 g1.2.1 (s1.2.exprs.map am).length),(.own 1624 g1.2.2.1 (s1.2.aggregates.map aA).length),(.own 1625 g1.2.2.2 (s1.2.descending.map aB).length),(ac s1.2.count),(ac s1.2.offset),(.list 29 (s1.2.inputs.map ak))]⟩)) 1500 (some ⟨b_rA,(aa s1.1)⟩),upd (upd (upd (upd (fun _=>none) 1625 (some ⟨g1.2.2.2,4,(s1.2.descending.map aB),true⟩)) 1624 (some ⟨g1.2.2.1,85,(s1.2.aggregates.map aA),true⟩)) 1623 (some ⟨g1.2.1,82,(s1.2.exprs.map am),true⟩)) 1622 (some ⟨g1.1,9,(s1.2.names.map aD),true⟩)⟩) (gz5_1622,gz5_1623,gz5_1624,gz5_1625) H1 Gh.d (fun m1 s1 g1 hr1=>?_)
  obtain⟨fb1,H,hg1⟩:=eY hr1
  refine ah (ah (ae (ap tk rfl ?_)))
  obtain⟨x7,h7,H⟩:=ax H
  have s7:=aC b_rA s1.1 ([44]:List UInt8) _ h7;refine bE (g:=52) rfl rfl rfl Tryz.call52 [(1500,1500)] [] rfl rfl rfl rfl (dQ.of2 (eO.cons jn.boxT (eO.cons (jn.of_eq rfl) eO.nil))) (by rw[aU,be,bf];rfl) s7 ?_;rintro u7 H7h ⟨rfl,rfl⟩
  refine⟨_,rfl,?_⟩
  refine aH (st':=⟨_,_,upd (upd (upd (fun _=>none) 1700 (some ⟨b_c0,[(.box 1500 b_rA 0)]⟩)) 1501 (some ⟨b_qA,[(ac s1.2.kind),(.str s1.2.table),(.own 1622 g1.1 (s1.2.names.map aD).length),(.own 1623 g1.2.1 (s1.2.exprs.map am).length),(.own 1624 g1.2.2.1 (s1.2.aggregates.map aA).length),(.own 1625 g1.2.2.2 (s1.2.descending.map aB).length),(ac s1.2.count),(ac s1.2.offset),(.list 29 (s1.2.inputs.map ak))]⟩)) 1500 (some ⟨b_rA,(aa x7.2)⟩),upd (upd (upd (upd (fun _=>none) 1625 (some ⟨g1.2.2.2,4,(s1.2.descending.map aB),true⟩)) 1624 (some ⟨g1.2.2.1,85,(s1.2.aggregates.map aA),true⟩)) 1623 (some ⟨g1.2.1,82,(s1.2.exprs.map am),true⟩)) 1622 (some ⟨g1.1,9,(s1.2.names.map aD),true⟩)⟩) (Gh.le (az _ _) (ab rfl (dQ.r) (ab rfl (dQ.r) (ab rfl (dQ.r) ar))) (aw (aw (aw (aw aq))))) ?_;refine af ?_;refine aT rfl H (fun H=>?_) (fun H=>?_)
  ·refine aQ (bs (ae (ap tk rfl ?_)))
   obtain⟨y9,h9,X9,H⟩:=dP H
   have s9:=fJ b_rA b_qA g1.1 g1.2.1 g1.2.2.1 g1.2.2.2 b_c0 x7.2 s1.2 _ h9;refine aP Tryz.call92 [(1500,1500),(1501,1501),(1700,1700)] [(1622,1622),(1623,1623),(1624,1624),(1625,1625)] s9 (pxF (fun e he=>(lvR (X9 e he) hg1 Hp1)) _) ?_;rintro u9 H9h hR9
   obtain⟨x9,⟨gz9_1622,gz9_1623,gz9_1624,gz9_1625,rfl,rfl⟩,H⟩:=H _ _ _ hR9
   refine⟨_,rfl,?_⟩
   refine aH (st':=⟨_,_,upd (upd (upd (fun _=>none) 1700 (some ⟨b_c0,[(.box 1500 b_rA 0)]⟩)) 1501 (some ⟨b_qA,[(ac x9.2.kind),(.str x9.2.table),(.own 1622 gz9_1622 (x9.2.names.map aD).length),(.own 1623 gz9_1623 (x9.2.exprs.map am).length),(.own 1624 gz9_1624 (x9.2.aggregates.map aA).length),(.own 1625 gz9_1625 (x9.2.descending.map aB).length),(ac x9.2.count),(ac x9.2.offset),(.list 29 (x9.2.inputs.map ak))]⟩)) 1500 (some ⟨b_rA,(aa x9.1)⟩),upd (upd (upd (upd (fun _=>none) 1625 (some ⟨gz9_1625,4,(x9.2.descending.map aB),true⟩)) 1624 (some ⟨gz9_1624,85,(x9.2.aggregates.map aA),true⟩)) 1623 (some ⟨gz9_1623,82,(x9.2.exprs.map am),true⟩)) 1622 (some ⟨gz9_1622,9,(x9.2.names.map aD),true⟩)⟩) (Gh.le (az _ _) (ab rfl (dQ.r) (ab rfl (dQ.r) (ab rfl (dQ.r) ar))) (aw (aw (aw (aw aq))))) ?_;refine af (bU ?_);obtain rfl:=aF H;refine eR (x9.1,x9.2) (gz9_1622,gz9_1623,gz9_1624,gz9_1625) hg1 Gh.d
  refine eI rfl ?_;obtain rfl:=aF H;refine bX (x7.2,s1.2) (g1.1,g1.2.1,g1.2.2.1,g1.2.2.2) hg1 Gh.d
 have H:=eG hn1 Hp1;obtain rfl:=aF H;refine bD (st':=⟨10,fun _=>.any,upd (upd (upd (fun _=>none) 1700 (some ⟨b_c0,[(.box 1500 b_rA 0)]⟩)) 1501 (some ⟨b_qA,[(ac s1.2.kind),(.str s1.2.table),(.own 1622 g1.1 (s1.2.names.map aD).length),(.own 1623 g1.2.1 (s1.2.exprs.map am).length),(.own 1624 g1.2.2.1 (s1.2.aggregates.map aA).length),(.own 1625 g1.2.2.2 (s1.2.descending.map aB).length),(ac s1.2.count),(ac s1.2.offset),(.list 29 (s1.2.inputs.map ak))]⟩)) 1500 (some ⟨b_rA,(aa s1.1)⟩),upd (upd (upd (upd (fun _=>none) 1625 (some ⟨g1.2.2.2,4,(s1.2.descending.map aB),true⟩)) 1624 (some ⟨g1.2.2.1,85,(s1.2.aggregates.map aA),true⟩)) 1623 (some ⟨g1.2.1,82,(s1.2.exprs.map am),true⟩)) 1622 (some ⟨g1.1,9,(s1.2.names.map aD),true⟩)⟩) (Gh.le aV (ab rfl (dQ.r) (ab rfl (dQ.r) (ab rfl (dQ.r) ar))) (aw (aw (aw (aw aq))))) ?_;refine eU rfl (PLe.q rfl) ⟨_,_,_,_,rfl,rfl⟩
def cu(rA:LQueryparserParser)(qA:LQuery):Option (Except Int (LQueryparserParser×LQuery)):=
 bg (cI rA qA) fun x3=>
 some (.ok (x3.1,x3.2))
theorem fL(b_rA:Nat)(b_qA:Nat)(g_qA_2:OwnRef)(g_qA_3:OwnRef)(g_qA_4:OwnRef)(g_qA_5:OwnRef)(b_c0:Nat)(rA:LQueryparserParser)(qA:LQuery)(r:Except Int (LQueryparserParser×LQuery))(H:cu rA qA=some r):
  ba Tryz.prog 87 [(.box 1700 b_c0 0),(.box 1501 b_qA 0)] ⟨upd (upd (upd (fun _=>none) 1700 (some ⟨b_c0,[(.box 1500 b_rA 0)]⟩)) 1501 (some ⟨b_qA,[(ac qA.kind),(.str qA.table),(.own 1622 g_qA_2 (qA.names.map aD).length),(.own 1623 g_qA_3 (qA.exprs.map am).length),(.own 1624 g_qA_4 (qA.aggregates.map aA).length),(.own 1625 g_qA_5 (qA.descending.map aB).length),(ac qA.count),(ac qA.offset),(.list 29 (qA.inputs.map ak))]⟩)) 1500 (some ⟨b_rA,(aa rA)⟩),upd (upd (upd (upd (fun _=>none) 1625 (some ⟨g_qA_5,4,(qA.descending.map aB),true⟩)) 1624 (some ⟨g_qA_4,85,(qA.aggregates.map aA),true⟩)) 1623 (some ⟨g_qA_3,82,(qA.exprs.map am),true⟩)) 1622 (some ⟨g_qA_2,9,(qA.names.map aD),true⟩)⟩ (RX r (fun rv u H=>∃gz1_2,∃gz1_3,∃gz1_4,∃gz1_5,u=(.tup [])∧H=⟨upd (upd (upd (fun _=>none) 1700 (some ⟨b_c0,[(.box 1500 b_rA 0)]⟩)) 1501 (some ⟨b_qA,[(ac rv.2.kind),(.str rv.2.table),(.own 1622 gz1_2 (rv.2.names.map aD).length),(.own 1623 gz1_3 (rv.2.exprs.map am).length),(.own 1624 gz1_4 (rv.2.aggregates.map aA).length),(.own 1625 gz1_5 (rv.2.descending.map aB).length),(ac rv.2.count),(ac rv.2.offset),(.list 29 (rv.2.inputs.map ak))]⟩)) 1500 (some ⟨b_rA,(aa rv.1)⟩),upd (upd (upd (upd (fun _=>none) 1625 (some ⟨gz1_5,4,(rv.2.descending.map aB),true⟩)) 1624 (some ⟨gz1_4,85,(rv.2.aggregates.map aA),true⟩)) 1623 (some ⟨gz1_3,82,(rv.2.exprs.map am),true⟩)) 1622 (some ⟨gz1_2,9,(rv.2.names.map aD),true⟩)⟩)) (PX 106 r):=by
 unfold cu at H;refine ba.intro Tryz.func87 rfl Tryz.ntmps87 rfl ?_;refine ae (av tk ?_)
 obtain⟨y3,h3,X3,H⟩:=bq H
 have s3:=gf b_rA b_qA g_qA_2 g_qA_3 g_qA_4 g_qA_5 rA qA _ h3;refine aP Tryz.call88 [(1500,1500),(1501,1501)] [(1622,1622),(1623,1623),(1624,1624),(1625,1625)] s3 (X3 _) ?_;rintro u3 H3h hR3
 obtain⟨x3,⟨gz3_1622,gz3_1623,gz3_1624,gz3_1625,rfl,rfl⟩,H⟩:=H _ _ _ hR3
 refine⟨_,rfl,?_⟩
 refine aH (st':=⟨_,_,upd (upd (upd (fun _=>none) 1700 (some ⟨b_c0,[(.box 1500 b_rA 0)]⟩)) 1501 (some ⟨b_qA,[(ac x3.2.kind),(.str x3.2.table),(.own 1622 gz3_1622 (x3.2.names.map aD).length),(.own 1623 gz3_1623 (x3.2.exprs.map am).length),(.own 1624 gz3_1624 (x3.2.aggregates.map aA).length),(.own 1625 gz3_1625 (x3.2.descending.map aB).length),(ac x3.2.count),(ac x3.2.offset),(.list 29 (x3.2.inputs.map ak))]⟩)) 1500 (some ⟨b_rA,(aa x3.1)⟩),upd (upd (upd (upd (fun _=>none) 1625 (some ⟨gz3_1625,4,(x3.2.descending.map aB),true⟩)) 1624 (some ⟨gz3_1624,85,(x3.2.aggregates.map aA),true⟩)) 1623 (some ⟨gz3_1623,82,(x3.2.exprs.map am),true⟩)) 1622 (some ⟨gz3_1622,9,(x3.2.names.map aD),true⟩)⟩) (Gh.le (az _ _) (ab rfl (dQ.r) (ab rfl (dQ.r) (ab rfl (dQ.r) ar))) (aw (aw (aw (aw aq))))) ?_;refine af ?_;obtain rfl:=aF H;refine bD (st':=⟨4,fun _=>.any,upd (upd (upd (fun _=>none) 1700 (some ⟨b_c0,[(.box 1500 b_rA 0)]⟩)) 1501 (some ⟨b_qA,[(ac x3.2.kind),(.str x3.2.table),(.own 1622 gz3_1622 (x3.2.names.map aD).length),(.own 1623 gz3_1623 (x3.2.exprs.map am).length),(.own 1624 gz3_1624 (x3.2.aggregates.map aA).length),(.own 1625 gz3_1625 (x3.2.descending.map aB).length),(ac x3.2.count),(ac x3.2.offset),(.list 29 (x3.2.inputs.map ak))]⟩)) 1500 (some ⟨b_rA,(aa x3.1)⟩),upd (upd (upd (upd (fun _=>none) 1625 (some ⟨gz3_1625,4,(x3.2.descending.map aB),true⟩)) 1624 (some ⟨gz3_1624,85,(x3.2.aggregates.map aA),true⟩)) 1623 (some ⟨gz3_1623,82,(x3.2.exprs.map am),true⟩)) 1622 (some ⟨gz3_1622,9,(x3.2.names.map aD),true⟩)⟩) (Gh.le aV (ab rfl (dQ.r) (ab rfl (dQ.r) (ab rfl (dQ.r) ar))) (aw (aw (aw (aw aq))))) ?_;refine eU rfl (PLe.q rfl) ⟨_,_,_,_,rfl,rfl⟩
def cV(rA:LQueryparserParser)(qA:LQuery):Option (Except Int (LQueryparserParser×LQuery)):=
 bg (cu rA qA) fun x5=>
 ag (dJ (σ:=LQueryparserParser×LQuery) (ρ:=(Except Int (LQueryparserParser×LQuery))) (fun(s1:LQueryparserParser×LQuery)=>
  ag (al s1.1 ([44]:List UInt8)) fun x7=>
  cond x7.1
   (cZ (cu x7.2 s1.2) fun x9=>
   some (.next (x9.1,x9.2)))
   (some (.brk (x7.2,s1.2)))) (x5.1,x5.2)) fun fl1=>fl1.thenR fun(s1:LQueryparserParser×LQuery)=>
 some (.ok (s1.1,s1.2))
theorem iL(b_rA:Nat)(b_qA:Nat)(g_qA_2:OwnRef)(g_qA_3:OwnRef)(g_qA_4:OwnRef)(g_qA_5:OwnRef)(b_c0:Nat)(rA:LQueryparserParser)(qA:LQuery)(r:Except Int (LQueryparserParser×LQuery))(H:cV rA qA=some r):
  ba Tryz.prog 86 [(.box 1500 b_rA 0),(.fn 87 [(.box 1700 b_c0 0),(.box 1501 b_qA 0)])] ⟨upd (upd (upd (fun _=>none) 1700 (some ⟨b_c0,[(.box 1500 b_rA 0)]⟩)) 1501 (some ⟨b_qA,[(ac qA.kind),(.str qA.table),(.own 1622 g_qA_2 (qA.names.map aD).length),(.own 1623 g_qA_3 (qA.exprs.map am).length),(.own 1624 g_qA_4 (qA.aggregates.map aA).length),(.own 1625 g_qA_5 (qA.descending.map aB).length),(ac qA.count),(ac qA.offset),(.list 29 (qA.inputs.map ak))]⟩)) 1500 (some ⟨b_rA,(aa rA)⟩),upd (upd (upd (upd (fun _=>none) 1625 (some ⟨g_qA_5,4,(qA.descending.map aB),true⟩)) 1624 (some ⟨g_qA_4,85,(qA.aggregates.map aA),true⟩)) 1623 (some ⟨g_qA_3,82,(qA.exprs.map am),true⟩)) 1622 (some ⟨g_qA_2,9,(qA.names.map aD),true⟩)⟩ (RX r (fun rv u H=>∃gz1_2,∃gz1_3,∃gz1_4,∃gz1_5,u=(.tup [])∧H=⟨upd (upd (upd (fun _=>none) 1700 (some ⟨b_c0,[(.box 1500 b_rA 0)]⟩)) 1501 (some ⟨b_qA,[(ac rv.2.kind),(.str rv.2.table),(.own 1622 gz1_2 (rv.2.names.map aD).length),(.own 1623 gz1_3 (rv.2.exprs.map am).length),(.own 1624 gz1_4 (rv.2.aggregates.map aA).length),(.own 1625 gz1_5 (rv.2.descending.map aB).length),(ac rv.2.count),(ac rv.2.offset),(.list 29 (rv.2.inputs.map ak))]⟩)) 1500 (some ⟨b_rA,(aa rv.1)⟩),upd (upd (upd (upd (fun _=>none) 1625 (some ⟨gz1_5,4,(rv.2.descending.map aB),true⟩)) 1624 (some ⟨gz1_4,85,(rv.2.aggregates.map aA),true⟩)) 1623 (some ⟨gz1_3,82,(rv.2.exprs.map am),true⟩)) 1622 (some ⟨gz1_2,9,(rv.2.names.map aD),true⟩)⟩)) (PX 106 r):=by
 unfold cV at H;refine ba.intro Tryz.func86 rfl Tryz.ntmps86 rfl ?_;refine ah (ae (ap tk rfl ?_))
 obtain⟨y5,h5,X5,H⟩:=bq H
 have s5:=fL b_rA b_qA g_qA_2 g_qA_3 g_qA_4 g_qA_5 b_c0 rA qA _ h5;refine aP Tryz.call87 [(1500,1500),(1501,1501),(1700,1700)] [(1622,1622),(1623,1623),(1624,1624),(1625,1625)] s5 (X5 _) ?_;rintro u5 H5h hR5
 obtain⟨x5,⟨gz5_1622,gz5_1623,gz5_1624,gz5_1625,rfl,rfl⟩,H⟩:=H _ _ _ hR5
 refine⟨_,rfl,?_⟩
 refine aH (st':=⟨_,_,upd (upd (upd (fun _=>none) 1700 (some ⟨b_c0,[(.box 1500 b_rA 0)]⟩)) 1501 (some ⟨b_qA,[(ac x5.2.kind),(.str x5.2.table),(.own 1622 gz5_1622 (x5.2.names.map aD).length),(.own 1623 gz5_1623 (x5.2.exprs.map am).length),(.own 1624 gz5_1624 (x5.2.aggregates.map aA).length),(.own 1625 gz5_1625 (x5.2.descending.map aB).length),(ac x5.2.count),(ac x5.2.offset),(.list 29 (x5.2.inputs.map ak))]⟩)) 1500 (some ⟨b_rA,(aa x5.1)⟩),upd (upd (upd (upd (fun _=>none) 1625 (some ⟨gz5_1625,4,(x5.2.descending.map aB),true⟩)) 1624 (some ⟨gz5_1624,85,(x5.2.aggregates.map aA),true⟩)) 1623 (some ⟨gz5_1623,82,(x5.2.exprs.map am),true⟩)) 1622 (some ⟨gz5_1622,9,(x5.2.names.map aD),true⟩)⟩) (Gh.le (az _ _) (ab rfl (dQ.r) (ab rfl (dQ.r) (ab rfl (dQ.r) ar))) (aw (aw (aw (aw aq))))) ?_;refine af ?_
 obtain⟨fl1,H1,Hp1⟩:=ax H
 refine fI (τ:=LQueryparserParser×LQuery) (γ:=OwnRef×OwnRef×OwnRef×OwnRef) (fun s1 g1=>⟨10,upd (upd (fun _=>.any) 1 (.fn 87 [(.box 1700 b_c0 0),(.box 1501 b_qA 0)])) 0 (.box 1500 b_rA 0),upd (upd (upd (fun _=>none) 1700 (some ⟨b_c0,[(.box 1500 b_rA 0)]⟩)) 1501 (some ⟨b_qA,[(ac s1.2.kind),(.str s1.2.table),(.own 1622 g1.1 (s1.2.names.map aD).length),(.own 1623 g1.2.1 (s1.2.exprs.map am).length),(.own 1624 g1.2.2.1 (s1.2.aggregates.map aA).length),(.own 1625 g1.2.2.2 (s1.2.descending.map aB).length),(ac s1.2.count),(ac s1.2.offset),(.list 29 (s1.2.inputs.map ak))]⟩)) 1500 (some ⟨b_rA,(aa s1.1)⟩),upd (upd (upd (upd (fun _=>none) 1625 (some ⟨g1.2.2.2,4,(s1.2.descending.map aB),true⟩)) 1624 (some ⟨g1.2.2.1,85,(s1.2.aggregates.map aA),true⟩)) 1623 (some ⟨g1.2.1,82,(s1.2.exprs.map am),true⟩)) 1622 (some ⟨g1.1,9,(s1.2.names.map aD),true⟩)⟩) (fun t=>fl1= .next t) ?_ (fun s1 g1 hn1=>?_)
 ·refine bs ?_;refine fV (fun s1 g1=>⟨10,upd (upd (fun _=>.any) 1 (.fn 87 [(.box 1700 b_c0 0),(.box 1501 b_qA 0)])) 0 (.box 1500 b_rA 0),upd (upd (upd (fun _=>none) 1700 (some ⟨b_c0,[(.box 1500 b_rA 0)]⟩)) 1501 (some ⟨b_qA,[(ac s1.2.kind),(.str s1.2.table),(.own 1622 g1.1 (s1.2.names.map aD).length),(.own 1623 g1.2.1 (s1.2.exprs.map am).length),(.own 1624 g1.2.2.1 (s1.2.aggregates.map aA).length),(.own 1625 g1.2.2.2 (s1.2.descending.map aB).length),(ac s1.2.count),(ac s1.2.offset),(.list 29 (s1.2.inputs.map ak))]⟩)) 1500 (some ⟨b_rA,(aa s1.1)⟩),upd (upd (upd (upd (fun _=>none) 1625 (some ⟨g1.2.2.2,4,(s1.2.descending.map aB),true⟩)) 1624 (some ⟨g1.2.2.1,85,(s1.2.aggregates.map aA),true⟩)) 1623 (some ⟨g1.2.1,82,(s1.2.exprs.map am),true⟩)) 1622 (some ⟨g1.1,9,(s1.2.names.map aD),true⟩)⟩) (gz5_1622,gz5_1623,gz5_1624,gz5_1625) H1 Gh.d (fun m1 s1 g1 hr1=>?_)
  obtain⟨fb1,H,hg1⟩:=eY hr1
  refine ah (ah (ae (ap tk rfl ?_)))
  obtain⟨x7,h7,H⟩:=ax H
  have s7:=aC b_rA s1.1 ([44]:List UInt8) _ h7;refine bE (g:=52) rfl rfl rfl Tryz.call52 [(1500,1500)] [] rfl rfl rfl rfl (dQ.of2 (eO.cons jn.boxT (eO.cons (jn.of_eq rfl) eO.nil))) (by rw[aU,be,bf];rfl) s7 ?_;rintro u7 H7h ⟨rfl,rfl⟩
  refine⟨_,rfl,?_⟩
  refine aH (st':=⟨_,_,upd (upd (upd (fun _=>none) 1700 (some ⟨b_c0,[(.box 1500 b_rA 0)]⟩)) 1501 (some ⟨b_qA,[(ac s1.2.kind),(.str s1.2.table),(.own 1622 g1.1 (s1.2.names.map aD).length),(.own 1623 g1.2.1 (s1.2.exprs.map am).length),(.own 1624 g1.2.2.1 (s1.2.aggregates.map aA).length),(.own 1625 g1.2.2.2 (s1.2.descending.map aB).length),(ac s1.2.count),(ac s1.2.offset),(.list 29 (s1.2.inputs.map ak))]⟩)) 1500 (some ⟨b_rA,(aa x7.2)⟩),upd (upd (upd (upd (fun _=>none) 1625 (some ⟨g1.2.2.2,4,(s1.2.descending.map aB),true⟩)) 1624 (some ⟨g1.2.2.1,85,(s1.2.aggregates.map aA),true⟩)) 1623 (some ⟨g1.2.1,82,(s1.2.exprs.map am),true⟩)) 1622 (some ⟨g1.1,9,(s1.2.names.map aD),true⟩)⟩) (Gh.le (az _ _) (ab rfl (dQ.r) (ab rfl (dQ.r) (ab rfl (dQ.r) ar))) (aw (aw (aw (aw aq))))) ?_;refine af ?_;refine aT rfl H (fun H=>?_) (fun H=>?_)
  ·refine aQ (bs (ae (ap tk rfl ?_)))
   obtain⟨y9,h9,X9,H⟩:=dP H
   have s9:=fL b_rA b_qA g1.1 g1.2.1 g1.2.2.1 g1.2.2.2 b_c0 x7.2 s1.2 _ h9;refine aP Tryz.call87 [(1500,1500),(1501,1501),(1700,1700)] [(1622,1622),(1623,1623),(1624,1624),(1625,1625)] s9 (pxF (fun e he=>(lvR (X9 e he) hg1 Hp1)) _) ?_;rintro u9 H9h hR9
   obtain⟨x9,⟨gz9_1622,gz9_1623,gz9_1624,gz9_1625,rfl,rfl⟩,H⟩:=H _ _ _ hR9
   refine⟨_,rfl,?_⟩
   refine aH (st':=⟨_,_,upd (upd (upd (fun _=>none) 1700 (some ⟨b_c0,[(.box 1500 b_rA 0)]⟩)) 1501 (some ⟨b_qA,[(ac x9.2.kind),(.str x9.2.table),(.own 1622 gz9_1622 (x9.2.names.map aD).length),(.own 1623 gz9_1623 (x9.2.exprs.map am).length),(.own 1624 gz9_1624 (x9.2.aggregates.map aA).length),(.own 1625 gz9_1625 (x9.2.descending.map aB).length),(ac x9.2.count),(ac x9.2.offset),(.list 29 (x9.2.inputs.map ak))]⟩)) 1500 (some ⟨b_rA,(aa x9.1)⟩),upd (upd (upd (upd (fun _=>none) 1625 (some ⟨gz9_1625,4,(x9.2.descending.map aB),true⟩)) 1624 (some ⟨gz9_1624,85,(x9.2.aggregates.map aA),true⟩)) 1623 (some ⟨gz9_1623,82,(x9.2.exprs.map am),true⟩)) 1622 (some ⟨gz9_1622,9,(x9.2.names.map aD),true⟩)⟩) (Gh.le (az _ _) (ab rfl (dQ.r) (ab rfl (dQ.r) (ab rfl (dQ.r) ar))) (aw (aw (aw (aw aq))))) ?_;refine af (bU ?_);obtain rfl:=aF H;refine eR (x9.1,x9.2) (gz9_1622,gz9_1623,gz9_1624,gz9_1625) hg1 Gh.d
  refine eI rfl ?_;obtain rfl:=aF H;refine bX (x7.2,s1.2) (g1.1,g1.2.1,g1.2.2.1,g1.2.2.2) hg1 Gh.d
 have H:=eG hn1 Hp1;obtain rfl:=aF H;refine bD (st':=⟨10,fun _=>.any,upd (upd (upd (fun _=>none) 1700 (some ⟨b_c0,[(.box 1500 b_rA 0)]⟩)) 1501 (some ⟨b_qA,[(ac s1.2.kind),(.str s1.2.table),(.own 1622 g1.1 (s1.2.names.map aD).length),(.own 1623 g1.2.1 (s1.2.exprs.map am).length),(.own 1624 g1.2.2.1 (s1.2.aggregates.map aA).length),(.own 1625 g1.2.2.2 (s1.2.descending.map aB).length),(ac s1.2.count),(ac s1.2.offset),(.list 29 (s1.2.inputs.map ak))]⟩)) 1500 (some ⟨b_rA,(aa s1.1)⟩),upd (upd (upd (upd (fun _=>none) 1625 (some ⟨g1.2.2.2,4,(s1.2.descending.map aB),true⟩)) 1624 (some ⟨g1.2.2.1,85,(s1.2.aggregates.map aA),true⟩)) 1623 (some ⟨g1.2.1,82,(s1.2.exprs.map am),true⟩)) 1622 (some ⟨g1.1,9,(s1.2.names.map aD),true⟩)⟩) (Gh.le aV (ab rfl (dQ.r) (ab rfl (dQ.r) (ab rfl (dQ.r) ar))) (aw (aw (aw (aw aq))))) ?_;refine eU rfl (PLe.q rfl) ⟨_,_,_,_,rfl,rfl⟩
def cx(rA:LQueryparserParser)(qA:LQuery):Option (Except Int (LQueryparserParser×LQuery)):=
 bg (cI rA qA) fun x4=>
 some (.ok (x4.1,x4.2))
theorem fK(b_rA:Nat)(b_qA:Nat)(g_qA_2:OwnRef)(g_qA_3:OwnRef)(g_qA_4:OwnRef)(g_qA_5:OwnRef)(b_c0:Nat)(b_c1:Nat)(rA:LQueryparserParser)(qA:LQuery)(r:Except Int (LQueryparserParser×LQuery))(H:cx rA qA=some r):
  ba Tryz.prog 134 [(.box 1700 b_c0 0),(.box 1701 b_c1 0)] ⟨upd (upd (upd (upd (fun _=>none) 1701 (some ⟨b_c1,[(.box 1501 b_qA 0)]⟩)) 1700 (some ⟨b_c0,[(.box 1500 b_rA 0)]⟩)) 1501 (some ⟨b_qA,[(ac qA.kind),(.str qA.table),(.own 1622 g_qA_2 (qA.names.map aD).length),(.own 1623 g_qA_3 (qA.exprs.map am).length),(.own 1624 g_qA_4 (qA.aggregates.map aA).length),(.own 1625 g_qA_5 (qA.descending.map aB).length),(ac qA.count),(ac qA.offset),(.list 29 (qA.inputs.map ak))]⟩)) 1500 (some ⟨b_rA,(aa rA)⟩),upd (upd (upd (upd (fun _=>none) 1625 (some ⟨g_qA_5,4,(qA.descending.map aB),true⟩)) 1624 (some ⟨g_qA_4,85,(qA.aggregates.map aA),true⟩)) 1623 (some ⟨g_qA_3,82,(qA.exprs.map am),true⟩)) 1622 (some ⟨g_qA_2,9,(qA.names.map aD),true⟩)⟩ (RX r (fun rv u H=>∃gz1_2,∃gz1_3,∃gz1_4,∃gz1_5,u=(.tup [])∧H=⟨upd (upd (upd (upd (fun _=>none) 1701 (some ⟨b_c1,[(.box 1501 b_qA 0)]⟩)) 1700 (some ⟨b_c0,[(.box 1500 b_rA 0)]⟩)) 1501 (some ⟨b_qA,[(ac rv.2.kind),(.str rv.2.table),(.own 1622 gz1_2 (rv.2.names.map aD).length),(.own 1623 gz1_3 (rv.2.exprs.map am).length),(.own 1624 gz1_4 (rv.2.aggregates.map aA).length),(.own 1625 gz1_5 (rv.2.descending.map aB).length),(ac rv.2.count),(ac rv.2.offset),(.list 29 (rv.2.inputs.map ak))]⟩)) 1500 (some ⟨b_rA,(aa rv.1)⟩),upd (upd (upd (upd (fun _=>none) 1625 (some ⟨gz1_5,4,(rv.2.descending.map aB),true⟩)) 1624 (some ⟨gz1_4,85,(rv.2.aggregates.map aA),true⟩)) 1623 (some ⟨gz1_3,82,(rv.2.exprs.map am),true⟩)) 1622 (some ⟨gz1_2,9,(rv.2.names.map aD),true⟩)⟩)) (PX 106 r):=by
 unfold cx at H;refine ba.intro Tryz.func134 rfl Tryz.ntmps134 rfl ?_;refine ae (av tk ?_);refine av tk ?_
 obtain⟨y4,h4,X4,H⟩:=bq H
 have s4:=gf b_rA b_qA g_qA_2 g_qA_3 g_qA_4 g_qA_5 rA qA _ h4;refine aP Tryz.call88 [(1500,1500),(1501,1501)] [(1622,1622),(1623,1623),(1624,1624),(1625,1625)] s4 (X4 _) ?_;rintro u4 H4h hR4
 obtain⟨x4,⟨gz4_1622,gz4_1623,gz4_1624,gz4_1625,rfl,rfl⟩,H⟩:=H _ _ _ hR4
 refine⟨_,rfl,?_⟩
 refine aH (st':=⟨_,_,upd (upd (upd (upd (fun _=>none) 1701 (some ⟨b_c1,[(.box 1501 b_qA 0)]⟩)) 1700 (some ⟨b_c0,[(.box 1500 b_rA 0)]⟩)) 1501 (some ⟨b_qA,[(ac x4.2.kind),(.str x4.2.table),(.own 1622 gz4_1622 (x4.2.names.map aD).length),(.own 1623 gz4_1623 (x4.2.exprs.map am).length),(.own 1624 gz4_1624 (x4.2.aggregates.map aA).length),(.own 1625 gz4_1625 (x4.2.descending.map aB).length),(ac x4.2.count),(ac x4.2.offset),(.list 29 (x4.2.inputs.map ak))]⟩)) 1500 (some ⟨b_rA,(aa x4.1)⟩),upd (upd (upd (upd (fun _=>none) 1625 (some ⟨gz4_1625,4,(x4.2.descending.map aB),true⟩)) 1624 (some ⟨gz4_1624,85,(x4.2.aggregates.map aA),true⟩)) 1623 (some ⟨gz4_1623,82,(x4.2.exprs.map am),true⟩)) 1622 (some ⟨gz4_1622,9,(x4.2.names.map aD),true⟩)⟩) (Gh.le (az _ _) (ab rfl (dQ.r) (ab rfl (dQ.r) (ab rfl (dQ.r) (ab rfl (dQ.r) ar)))) (aw (aw (aw (aw aq))))) ?_;refine af ?_;obtain rfl:=aF H;refine bD (st':=⟨5,fun _=>.any,upd (upd (upd (upd (fun _=>none) 1701 (some ⟨b_c1,[(.box 1501 b_qA 0)]⟩)) 1700 (some ⟨b_c0,[(.box 1500 b_rA 0)]⟩)) 1501 (some ⟨b_qA,[(ac x4.2.kind),(.str x4.2.table),(.own 1622 gz4_1622 (x4.2.names.map aD).length),(.own 1623 gz4_1623 (x4.2.exprs.map am).length),(.own 1624 gz4_1624 (x4.2.aggregates.map aA).length),(.own 1625 gz4_1625 (x4.2.descending.map aB).length),(ac x4.2.count),(ac x4.2.offset),(.list 29 (x4.2.inputs.map ak))]⟩)) 1500 (some ⟨b_rA,(aa x4.1)⟩),upd (upd (upd (upd (fun _=>none) 1625 (some ⟨gz4_1625,4,(x4.2.descending.map aB),true⟩)) 1624 (some ⟨gz4_1624,85,(x4.2.aggregates.map aA),true⟩)) 1623 (some ⟨gz4_1623,82,(x4.2.exprs.map am),true⟩)) 1622 (some ⟨gz4_1622,9,(x4.2.names.map aD),true⟩)⟩) (Gh.le aV (ab rfl (dQ.r) (ab rfl (dQ.r) (ab rfl (dQ.r) (ab rfl (dQ.r) ar)))) (aw (aw (aw (aw aq))))) ?_;refine eU rfl (PLe.q rfl) ⟨_,_,_,_,rfl,rfl⟩
def cP(rA:LQueryparserParser)(qA:LQuery):Option (Except Int (LQueryparserParser×LQuery)):=
 bg (cx rA qA) fun x5=>
 ag (dJ (σ:=LQueryparserParser×LQuery) (ρ:=(Except Int (LQueryparserParser×LQuery))) (fun(s1:LQueryparserParser×LQuery)=>
  ag (al s1.1 ([44]:List UInt8)) fun x7=>
  cond x7.1
   (cZ (cx x7.2 s1.2) fun x9=>
   some (.next (x9.1,x9.2)))
   (some (.brk (x7.2,s1.2)))) (x5.1,x5.2)) fun fl1=>fl1.thenR fun(s1:LQueryparserParser×LQuery)=>
 some (.ok (s1.1,s1.2))
theorem iC(b_rA:Nat)(b_qA:Nat)(g_qA_2:OwnRef)(g_qA_3:OwnRef)(g_qA_4:OwnRef)(g_qA_5:OwnRef)(b_c0:Nat)(b_c1:Nat)(rA:LQueryparserParser)(qA:LQuery)(r:Except Int (LQueryparserParser×LQuery))(H:cP rA qA=some r):
  ba Tryz.prog 86 [(.box 1500 b_rA 0),(.fn 134 [(.box 1700 b_c0 0),(.box 1701 b_c1 0)])] ⟨upd (upd (upd (upd (fun _=>none) 1701 (some ⟨b_c1,[(.box 1501 b_qA 0)]⟩)) 1700 (some ⟨b_c0,[(.box 1500 b_rA 0)]⟩)) 1501 (some ⟨b_qA,[(ac qA.kind),(.str qA.table),(.own 1622 g_qA_2 (qA.names.map aD).length),(.own 1623 g_qA_3 (qA.exprs.map am).length),(.own 1624 g_qA_4 (qA.aggregates.map aA).length),(.own 1625 g_qA_5 (qA.descending.map aB).length),(ac qA.count),(ac qA.offset),(.list 29 (qA.inputs.map ak))]⟩)) 1500 (some ⟨b_rA,(aa rA)⟩),upd (upd (upd (upd (fun _=>none) 1625 (some ⟨g_qA_5,4,(qA.descending.map aB),true⟩)) 1624 (some ⟨g_qA_4,85,(qA.aggregates.map aA),true⟩)) 1623 (some ⟨g_qA_3,82,(qA.exprs.map am),true⟩)) 1622 (some ⟨g_qA_2,9,(qA.names.map aD),true⟩)⟩ (RX r (fun rv u H=>∃gz1_2,∃gz1_3,∃gz1_4,∃gz1_5,u=(.tup [])∧H=⟨upd (upd (upd (upd (fun _=>none) 1701 (some ⟨b_c1,[(.box 1501 b_qA 0)]⟩)) 1700 (some ⟨b_c0,[(.box 1500 b_rA 0)]⟩)) 1501 (some ⟨b_qA,[(ac rv.2.kind),(.str rv.2.table),(.own 1622 gz1_2 (rv.2.names.map aD).length),(.own 1623 gz1_3 (rv.2.exprs.map am).length),(.own 1624 gz1_4 (rv.2.aggregates.map aA).length),(.own 1625 gz1_5 (rv.2.descending.map aB).length),(ac rv.2.count),(ac rv.2.offset),(.list 29 (rv.2.inputs.map ak))]⟩)) 1500 (some ⟨b_rA,(aa rv.1)⟩),upd (upd (upd (upd (fun _=>none) 1625 (some ⟨gz1_5,4,(rv.2.descending.map aB),true⟩)) 1624 (some ⟨gz1_4,85,(rv.2.aggregates.map aA),true⟩)) 1623 (some ⟨gz1_3,82,(rv.2.exprs.map am),true⟩)) 1622 (some ⟨gz1_2,9,(rv.2.names.map aD),true⟩)⟩)) (PX 106 r):=by
 unfold cP at H;refine ba.intro Tryz.func86 rfl Tryz.ntmps86 rfl ?_;refine ah (ae (ap tk rfl ?_))
 obtain⟨y5,h5,X5,H⟩:=bq H
 have s5:=fK b_rA b_qA g_qA_2 g_qA_3 g_qA_4 g_qA_5 b_c0 b_c1 rA qA _ h5;refine aP Tryz.call134 [(1500,1500),(1501,1501),(1700,1700),(1701,1701)] [(1622,1622),(1623,1623),(1624,1624),(1625,1625)] s5 (X5 _) ?_;rintro u5 H5h hR5
 obtain⟨x5,⟨gz5_1622,gz5_1623,gz5_1624,gz5_1625,rfl,rfl⟩,H⟩:=H _ _ _ hR5
 refine⟨_,rfl,?_⟩
 refine aH (st':=⟨_,_,upd (upd (upd (upd (fun _=>none) 1701 (some ⟨b_c1,[(.box 1501 b_qA 0)]⟩)) 1700 (some ⟨b_c0,[(.box 1500 b_rA 0)]⟩)) 1501 (some ⟨b_qA,[(ac x5.2.kind),(.str x5.2.table),(.own 1622 gz5_1622 (x5.2.names.map aD).length),(.own 1623 gz5_1623 (x5.2.exprs.map am).length),(.own 1624 gz5_1624 (x5.2.aggregates.map aA).length),(.own 1625 gz5_1625 (x5.2.descending.map aB).length),(ac x5.2.count),(ac x5.2.offset),(.list 29 (x5.2.inputs.map ak))]⟩)) 1500 (some ⟨b_rA,(aa x5.1)⟩),upd (upd (upd (upd (fun _=>none) 1625 (some ⟨gz5_1625,4,(x5.2.descending.map aB),true⟩)) 1624 (some ⟨gz5_1624,85,(x5.2.aggregates.map aA),true⟩)) 1623 (some ⟨gz5_1623,82,(x5.2.exprs.map am),true⟩)) 1622 (some ⟨gz5_1622,9,(x5.2.names.map aD),true⟩)⟩) (Gh.le (az _ _) (ab rfl (dQ.r) (ab rfl (dQ.r) (ab rfl (dQ.r) (ab rfl (dQ.r) ar)))) (aw (aw (aw (aw aq))))) ?_;refine af ?_
 obtain⟨fl1,H1,Hp1⟩:=ax H
 refine fI (τ:=LQueryparserParser×LQuery) (γ:=OwnRef×OwnRef×OwnRef×OwnRef) (fun s1 g1=>⟨10,upd (upd (fun _=>.any) 1 (.fn 134 [(.box 1700 b_c0 0),(.box 1701 b_c1 0)])) 0 (.box 1500 b_rA 0),upd (upd (upd (upd (fun _=>none) 1701 (some ⟨b_c1,[(.box 1501 b_qA 0)]⟩)) 1700 (some ⟨b_c0,[(.box 1500 b_rA 0)]⟩)) 1501 (some ⟨b_qA,[(ac s1.2.kind),(.str s1.2.table),(.own 1622 g1.1 (s1.2.names.map aD).length),(.own 1623 g1.2.1 (s1.2.exprs.map am).length),(.own 1624 g1.2.2.1 (s1.2.aggregates.map aA).length),(.own 1625 g1.2.2.2 (s1.2.descending.map aB).length),(ac s1.2.count),(ac s1.2.offset),(.list 29 (s1.2.inputs.map ak))]⟩)) 1500 (some ⟨b_rA,(aa s1.1)⟩),upd (upd (upd (upd (fun _=>none) 1625 (some ⟨g1.2.2.2,4,(s1.2.descending.map aB),true⟩)) 1624 (some ⟨g1.2.2.1,85,(s1.2.aggregates.map aA),true⟩)) 1623 (some ⟨g1.2.1,82,(s1.2.exprs.map am),true⟩)) 1622 (some ⟨g1.1,9,(s1.2.names.map aD),true⟩)⟩) (fun t=>fl1= .next t) ?_ (fun s1 g1 hn1=>?_)
 ·refine bs ?_;refine fV (fun s1 g1=>⟨10,upd (upd (fun _=>.any) 1 (.fn 134 [(.box 1700 b_c0 0),(.box 1701 b_c1 0)])) 0 (.box 1500 b_rA 0),upd (upd (upd (upd (fun _=>none) 1701 (some ⟨b_c1,[(.box 1501 b_qA 0)]⟩)) 1700 (some ⟨b_c0,[(.box 1500 b_rA 0)]⟩)) 1501 (some ⟨b_qA,[(ac s1.2.kind),(.str s1.2.table),(.own 1622 g1.1 (s1.2.names.map aD).length),(.own 1623 g1.2.1 (s1.2.exprs.map am).length),(.own 1624 g1.2.2.1 (s1.2.aggregates.map aA).length),(.own 1625 g1.2.2.2 (s1.2.descending.map aB).length),(ac s1.2.count),(ac s1.2.offset),(.list 29 (s1.2.inputs.map ak))]⟩)) 1500 (some ⟨b_rA,(aa s1.1)⟩),upd (upd (upd (upd (fun _=>none) 1625 (some ⟨g1.2.2.2,4,(s1.2.descending.map aB),true⟩)) 1624 (some ⟨g1.2.2.1,85,(s1.2.aggregates.map aA),true⟩)) 1623 (some ⟨g1.2.1,82,(s1.2.exprs.map am),true⟩)) 1622 (some ⟨g1.1,9,(s1.2.names.map aD),true⟩)⟩) (gz5_1622,gz5_1623,gz5_1624,gz5_1625) H1 Gh.d (fun m1 s1 g1 hr1=>?_)
  obtain⟨fb1,H,hg1⟩:=eY hr1
  refine ah (ah (ae (ap tk rfl ?_)))
  obtain⟨x7,h7,H⟩:=ax H
  have s7:=aC b_rA s1.1 ([44]:List UInt8) _ h7;refine bE (g:=52) rfl rfl rfl Tryz.call52 [(1500,1500)] [] rfl rfl rfl rfl (dQ.of2 (eO.cons jn.boxT (eO.cons (jn.of_eq rfl) eO.nil))) (by rw[aU,be,bf];rfl) s7 ?_;rintro u7 H7h ⟨rfl,rfl⟩
  refine⟨_,rfl,?_⟩
  refine aH (st':=⟨_,_,upd (upd (upd (upd (fun _=>none) 1701 (some ⟨b_c1,[(.box 1501 b_qA 0)]⟩)) 1700 (some ⟨b_c0,[(.box 1500 b_rA 0)]⟩)) 1501 (some ⟨b_qA,[(ac s1.2.kind),(.str s1.2.table),(.own 1622 g1.1 (s1.2.names.map aD).length),(.own 1623 g1.2.1 (s1.2.exprs.map am).length),(.own 1624 g1.2.2.1 (s1.2.aggregates.map aA).length),(.own 1625 g1.2.2.2 (s1.2.descending.map aB).length),(ac s1.2.count),(ac s1.2.offset),(.list 29 (s1.2.inputs.map ak))]⟩)) 1500 (some ⟨b_rA,(aa x7.2)⟩),upd (upd (upd (upd (fun _=>none) 1625 (some ⟨g1.2.2.2,4,(s1.2.descending.map aB),true⟩)) 1624 (some ⟨g1.2.2.1,85,(s1.2.aggregates.map aA),true⟩)) 1623 (some ⟨g1.2.1,82,(s1.2.exprs.map am),true⟩)) 1622 (some ⟨g1.1,9,(s1.2.names.map aD),true⟩)⟩) (Gh.le (az _ _) (ab rfl (dQ.r) (ab rfl (dQ.r) (ab rfl (dQ.r) (ab rfl (dQ.r) ar)))) (aw (aw (aw (aw aq))))) ?_;refine af ?_;refine aT rfl H (fun H=>?_) (fun H=>?_)
  ·refine aQ (bs (ae (ap tk rfl ?_)))
   obtain⟨y9,h9,X9,H⟩:=dP H
   have s9:=fK b_rA b_qA g1.1 g1.2.1 g1.2.2.1 g1.2.2.2 b_c0 b_c1 x7.2 s1.2 _ h9;refine aP Tryz.call134 [(1500,1500),(1501,1501),(1700,1700),(1701,1701)] [(1622,1622),(1623,1623),(1624,1624),(1625,1625)] s9 (pxF (fun e he=>(lvR (X9 e he) hg1 Hp1)) _) ?_;rintro u9 H9h hR9
   obtain⟨x9,⟨gz9_1622,gz9_1623,gz9_1624,gz9_1625,rfl,rfl⟩,H⟩:=H _ _ _ hR9
   refine⟨_,rfl,?_⟩
   refine aH (st':=⟨_,_,upd (upd (upd (upd (fun _=>none) 1701 (some ⟨b_c1,[(.box 1501 b_qA 0)]⟩)) 1700 (some ⟨b_c0,[(.box 1500 b_rA 0)]⟩)) 1501 (some ⟨b_qA,[(ac x9.2.kind),(.str x9.2.table),(.own 1622 gz9_1622 (x9.2.names.map aD).length),(.own 1623 gz9_1623 (x9.2.exprs.map am).length),(.own 1624 gz9_1624 (x9.2.aggregates.map aA).length),(.own 1625 gz9_1625 (x9.2.descending.map aB).length),(ac x9.2.count),(ac x9.2.offset),(.list 29 (x9.2.inputs.map ak))]⟩)) 1500 (some ⟨b_rA,(aa x9.1)⟩),upd (upd (upd (upd (fun _=>none) 1625 (some ⟨gz9_1625,4,(x9.2.descending.map aB),true⟩)) 1624 (some ⟨gz9_1624,85,(x9.2.aggregates.map aA),true⟩)) 1623 (some ⟨gz9_1623,82,(x9.2.exprs.map am),true⟩)) 1622 (some ⟨gz9_1622,9,(x9.2.names.map aD),true⟩)⟩) (Gh.le (az _ _) (ab rfl (dQ.r) (ab rfl (dQ.r) (ab rfl (dQ.r) (ab rfl (dQ.r) ar)))) (aw (aw (aw (aw aq))))) ?_;refine af (bU ?_);obtain rfl:=aF H;refine eR (x9.1,x9.2) (gz9_1622,gz9_1623,gz9_1624,gz9_1625) hg1 Gh.d
  refine eI rfl ?_;obtain rfl:=aF H;refine bX (x7.2,s1.2) (g1.1,g1.2.1,g1.2.2.1,g1.2.2.2) hg1 Gh.d
 have H:=eG hn1 Hp1;obtain rfl:=aF H;refine bD (st':=⟨10,fun _=>.any,upd (upd (upd (upd (fun _=>none) 1701 (some ⟨b_c1,[(.box 1501 b_qA 0)]⟩)) 1700 (some ⟨b_c0,[(.box 1500 b_rA 0)]⟩)) 1501 (some ⟨b_qA,[(ac s1.2.kind),(.str s1.2.table),(.own 1622 g1.1 (s1.2.names.map aD).length),(.own 1623 g1.2.1 (s1.2.exprs.map am).length),(.own 1624 g1.2.2.1 (s1.2.aggregates.map aA).length),(.own 1625 g1.2.2.2 (s1.2.descending.map aB).length),(ac s1.2.count),(ac s1.2.offset),(.list 29 (s1.2.inputs.map ak))]⟩)) 1500 (some ⟨b_rA,(aa s1.1)⟩),upd (upd (upd (upd (fun _=>none) 1625 (some ⟨g1.2.2.2,4,(s1.2.descending.map aB),true⟩)) 1624 (some ⟨g1.2.2.1,85,(s1.2.aggregates.map aA),true⟩)) 1623 (some ⟨g1.2.1,82,(s1.2.exprs.map am),true⟩)) 1622 (some ⟨g1.1,9,(s1.2.names.map aD),true⟩)⟩) (Gh.le aV (ab rfl (dQ.r) (ab rfl (dQ.r) (ab rfl (dQ.r) (ab rfl (dQ.r) ar)))) (aw (aw (aw (aw aq))))) ?_;refine eU rfl (PLe.q rfl) ⟨_,_,_,_,rfl,rfl⟩
def dh(rA:LQueryparserParser)(q:LQuery):Option (Except Int (LQueryparserParser×LQuery)):=
 ag (al rA ([98,121]:List UInt8)) fun x6=>
 ag (
  cond x6.1
   (cZ (cP x6.2 q) fun x10=>
   some (.next (x10.1,x10.2)))
   (some (.next (x6.2,q)))) fun(fl1:Flow (LQueryparserParser×LQuery) (Except Int (LQueryparserParser×LQuery)))=>fl1.thenR fun t1=>
 ag (al t1.1 ([97,103,103,114,101,103,97,116,101]:List UInt8)) fun x12=>
 cond (!x12.1)
  (cond (!x6.1)
   (bg (aR x12.2) fun x17=>
   some (.ok (x17,t1.2)))
   (some (.ok (x12.2,t1.2))))
  (bg (cO x12.2 t1.2) fun x20=>
  some (.ok (x20.1,x20.2)))
theorem jr(b_rA:Nat)(b_q:Nat)(g_q_2:OwnRef)(g_q_3:OwnRef)(g_q_4:OwnRef)(g_q_5:OwnRef)(rA:LQueryparserParser)(q:LQuery)(r:Except Int (LQueryparserParser×LQuery))(H:dh rA q=some r):
  ba Tryz.prog 91 [(.box 1500 b_rA 0),(.box 1501 b_q 0)] ⟨upd (upd (fun _=>none) 1501 (some ⟨b_q,[(ac q.kind),(.str q.table),(.own 1622 g_q_2 (q.names.map aD).length),(.own 1623 g_q_3 (q.exprs.map am).length),(.own 1624 g_q_4 (q.aggregates.map aA).length),(.own 1625 g_q_5 (q.descending.map aB).length),(ac q.count),(ac q.offset),(.list 29 (q.inputs.map ak))]⟩)) 1500 (some ⟨b_rA,(aa rA)⟩),upd (upd (upd (upd (fun _=>none) 1625 (some ⟨g_q_5,4,(q.descending.map aB),true⟩)) 1624 (some ⟨g_q_4,85,(q.aggregates.map aA),true⟩)) 1623 (some ⟨g_q_3,82,(q.exprs.map am),true⟩)) 1622 (some ⟨g_q_2,9,(q.names.map aD),true⟩)⟩ (RX r (fun rv u H=>∃gz1_2,∃gz1_3,∃gz1_4,∃gz1_5,u=(.tup [])∧H=⟨upd (upd (fun _=>none) 1501 (some ⟨b_q,[(ac rv.2.kind),(.str rv.2.table),(.own 1622 gz1_2 (rv.2.names.map aD).length),(.own 1623 gz1_3 (rv.2.exprs.map am).length),(.own 1624 gz1_4 (rv.2.aggregates.map aA).length),(.own 1625 gz1_5 (rv.2.descending.map aB).length),(ac rv.2.count),(ac rv.2.offset),(.list 29 (rv.2.inputs.map ak))]⟩)) 1500 (some ⟨b_rA,(aa rv.1)⟩),upd (upd (upd (upd (fun _=>none) 1625 (some ⟨gz1_5,4,(rv.2.descending.map aB),true⟩)) 1624 (some ⟨gz1_4,85,(rv.2.aggregates.map aA),true⟩)) 1623 (some ⟨gz1_3,82,(rv.2.exprs.map am),true⟩)) 1622 (some ⟨gz1_2,9,(rv.2.names.map aD),true⟩)⟩)) (PX 106 r):=by
 unfold dh at H;refine ba.intro Tryz.func91 rfl Tryz.ntmps91 rfl ?_;refine ah (ae ?_);refine nf (d:=2) rfl rfl rfl rfl rfl fun b2=>?_
 refine nf (d:=3) rfl rfl rfl rfl rfl fun b3=>?_
 refine af (ah (ae (av tk ?_)))
 obtain⟨x6,h6,H⟩:=ax H
 have s6:=aC b_rA rA ([98,121]:List UInt8) _ h6;refine bE (g:=52) rfl rfl rfl Tryz.call52 [(1500,1500)] [] rfl rfl rfl rfl (dQ.of2 (eO.cons jn.boxT (eO.cons (jn.of_eq rfl) eO.nil))) (by rw[aU,be,bf];rfl) s6 ?_;rintro u6 H6h ⟨rfl,rfl⟩
 refine⟨_,rfl,?_⟩
 refine aH (st':=⟨_,_,upd (upd (upd (upd (fun _=>none) 1501 (some ⟨b_q,[(ac q.kind),(.str q.table),(.own 1622 g_q_2 (q.names.map aD).length),(.own 1623 g_q_3 (q.exprs.map am).length),(.own 1624 g_q_4 (q.aggregates.map aA).length),(.own 1625 g_q_5 (q.descending.map aB).length),(ac q.count),(ac q.offset),(.list 29 (q.inputs.map ak))]⟩)) 1500 (some ⟨b_rA,(aa x6.2)⟩)) 3 (some ⟨b3,[(.box 1501 b_q 0)]⟩)) 2 (some ⟨b2,[(.box 1500 b_rA 0)]⟩),upd (upd (upd (upd (fun _=>none) 1625 (some ⟨g_q_5,4,(q.descending.map aB),true⟩)) 1624 (some ⟨g_q_4,85,(q.aggregates.map aA),true⟩)) 1623 (some ⟨g_q_3,82,(q.exprs.map am),true⟩)) 1622 (some ⟨g_q_2,9,(q.names.map aD),true⟩)⟩) (Gh.le (az _ _) (ab rfl (dQ.r) (ab rfl (dQ.r) (ab rfl (dQ.r) (ab rfl (dQ.r) ar)))) (aw (aw (aw (aw aq))))) ?_;refine ap tk rfl (af (ah (aM 1 tk rfl ?_)));refine lW (γ:=OwnRef×OwnRef×OwnRef×OwnRef) (fun t1 g1=>⟨21,upd (upd (upd (upd (upd (fun _=>.any) 4 (bu x6.1)) 3 (.box 3 b3 0)) 2 (.box 2 b2 0)) 1 (.box 1501 b_q 0)) 0 (.box 1500 b_rA 0),upd (upd (upd (upd (fun _=>none) 1501 (some ⟨b_q,[(ac t1.2.kind),(.str t1.2.table),(.own 1622 g1.1 (t1.2.names.map aD).length),(.own 1623 g1.2.1 (t1.2.exprs.map am).length),(.own 1624 g1.2.2.1 (t1.2.aggregates.map aA).length),(.own 1625 g1.2.2.2 (t1.2.descending.map aB).length),(ac t1.2.count),(ac t1.2.offset),(.list 29 (t1.2.inputs.map ak))]⟩)) 1500 (some ⟨b_rA,(aa t1.1)⟩)) 3 (some ⟨b3,[(.box 1501 b_q 0)]⟩)) 2 (some ⟨b2,[(.box 1500 b_rA 0)]⟩),upd (upd (upd (upd (fun _=>none) 1625 (some ⟨g1.2.2.2,4,(t1.2.descending.map aB),true⟩)) 1624 (some ⟨g1.2.2.1,85,(t1.2.aggregates.map aA),true⟩)) 1623 (some ⟨g1.2.1,82,(t1.2.exprs.map am),true⟩)) 1622 (some ⟨g1.1,9,(t1.2.names.map aD),true⟩)⟩) H (fun _ H Hp1=>?_) (fun t1 g1 H=>?_)
 ·refine aT rfl H (fun H=>?_) (fun H=>?_)
  ·refine ae (av tk ?_);refine ap tk rfl ?_
   obtain⟨y10,h10,X10,H⟩:=dP H
   have s10:=iC b_rA b_q g_q_2 g_q_3 g_q_4 g_q_5 b2 b3 x6.2 q _ h10;refine aP Tryz.call86 [(1500,1500),(1501,1501),(2,1700),(3,1701)] [(1622,1622),(1623,1623),(1624,1624),(1625,1625)] s10 (pxF (fun e he=>(lvJ (X10 e he) Hp1)) _) ?_;rintro u10 H10h hR10
   obtain⟨x10,⟨gz10_1622,gz10_1623,gz10_1624,gz10_1625,rfl,rfl⟩,H⟩:=H _ _ _ hR10
   refine⟨_,rfl,?_⟩
   refine aH (st':=⟨_,_,upd (upd (upd (upd (fun _=>none) 1501 (some ⟨b_q,[(ac x10.2.kind),(.str x10.2.table),(.own 1622 gz10_1622 (x10.2.names.map aD).length),(.own 1623 gz10_1623 (x10.2.exprs.map am).length),(.own 1624 gz10_1624 (x10.2.aggregates.map aA).length),(.own 1625 gz10_1625 (x10.2.descending.map aB).length),(ac x10.2.count),(ac x10.2.offset),(.list 29 (x10.2.inputs.map ak))]⟩)) 1500 (some ⟨b_rA,(aa x10.1)⟩)) 3 (some ⟨b3,[(.box 1501 b_q 0)]⟩)) 2 (some ⟨b2,[(.box 1500 b_rA 0)]⟩),upd (upd (upd (upd (fun _=>none) 1625 (some ⟨gz10_1625,4,(x10.2.descending.map aB),true⟩)) 1624 (some ⟨gz10_1624,85,(x10.2.aggregates.map aA),true⟩)) 1623 (some ⟨gz10_1623,82,(x10.2.exprs.map am),true⟩)) 1622 (some ⟨gz10_1622,9,(x10.2.names.map aD),true⟩)⟩) (Gh.le (az _ _) (ab rfl (dQ.r) (ab rfl (dQ.r) (ab rfl (dQ.r) (ab rfl (dQ.r) ar)))) (aw (aw (aw (aw aq))))) ?_;refine af ?_;refine bX _ (gz10_1622,gz10_1623,gz10_1624,gz10_1625) (aF H).symm Gh.d
  refine aQ ?_;refine bX _ (g_q_2,g_q_3,g_q_4,g_q_5) (aF H).symm Gh.d
 refine ah (ah (ae (av tk ?_)))
 obtain⟨x12,h12,H⟩:=ax H
 have s12:=aC b_rA t1.1 ([97,103,103,114,101,103,97,116,101]:List UInt8) _ h12;refine bE (g:=52) rfl rfl rfl Tryz.call52 [(1500,1500)] [] rfl rfl rfl rfl (dQ.of2 (eO.cons jn.boxT (eO.cons (jn.of_eq rfl) eO.nil))) (by rw[aU,be,bf];rfl) s12 ?_;rintro u12 H12h ⟨rfl,rfl⟩
 refine⟨_,rfl,?_⟩
 refine aH (st':=⟨_,_,upd (upd (upd (upd (fun _=>none) 1501 (some ⟨b_q,[(ac t1.2.kind),(.str t1.2.table),(.own 1622 g1.1 (t1.2.names.map aD).length),(.own 1623 g1.2.1 (t1.2.exprs.map am).length),(.own 1624 g1.2.2.1 (t1.2.aggregates.map aA).length),(.own 1625 g1.2.2.2 (t1.2.descending.map aB).length),(ac t1.2.count),(ac t1.2.offset),(.list 29 (t1.2.inputs.map ak))]⟩)) 1500 (some ⟨b_rA,(aa x12.2)⟩)) 3 (some ⟨b3,[(.box 1501 b_q 0)]⟩)) 2 (some ⟨b2,[(.box 1500 b_rA 0)]⟩),upd (upd (upd (upd (fun _=>none) 1625 (some ⟨g1.2.2.2,4,(t1.2.descending.map aB),true⟩)) 1624 (some ⟨g1.2.2.1,85,(t1.2.aggregates.map aA),true⟩)) 1623 (some ⟨g1.2.1,82,(t1.2.exprs.map am),true⟩)) 1622 (some ⟨g1.1,9,(t1.2.names.map aD),true⟩)⟩) (Gh.le (az _ _) (ab rfl (dQ.r) (ab rfl (dQ.r) (ab rfl (dQ.r) (ab rfl (dQ.r) ar)))) (aw (aw (aw (aw aq))))) ?_;refine ap tk rfl (af ?_);refine aT rfl H (fun H=>?_) (fun H=>?_)
 ·refine ah (aM 2 tk rfl ?_);refine aT rfl H (fun H=>?_) (fun H=>?_)
  ·refine ae (av tk ?_)
   obtain⟨y17,h17,X17,H⟩:=bq H
   have s17:=bO b_rA x12.2 _ h17;refine aP Tryz.call56 [(1500,1500)] [] s17 (X17 _) ?_;rintro u17 H17h hR17
   obtain⟨x17,⟨rfl,rfl⟩,H⟩:=H _ _ _ hR17
   refine⟨_,rfl,?_⟩
   refine aH (st':=⟨_,_,upd (upd (upd (upd (fun _=>none) 1501 (some ⟨b_q,[(ac t1.2.kind),(.str t1.2.table),(.own 1622 g1.1 (t1.2.names.map aD).length),(.own 1623 g1.2.1 (t1.2.exprs.map am).length),(.own 1624 g1.2.2.1 (t1.2.aggregates.map aA).length),(.own 1625 g1.2.2.2 (t1.2.descending.map aB).length),(ac t1.2.count),(ac t1.2.offset),(.list 29 (t1.2.inputs.map ak))]⟩)) 1500 (some ⟨b_rA,(aa x17)⟩)) 3 (some ⟨b3,[(.box 1501 b_q 0)]⟩)) 2 (some ⟨b2,[(.box 1500 b_rA 0)]⟩),upd (upd (upd (upd (fun _=>none) 1625 (some ⟨g1.2.2.2,4,(t1.2.descending.map aB),true⟩)) 1624 (some ⟨g1.2.2.1,85,(t1.2.aggregates.map aA),true⟩)) 1623 (some ⟨g1.2.1,82,(t1.2.exprs.map am),true⟩)) 1622 (some ⟨g1.1,9,(t1.2.names.map aD),true⟩)⟩) (Gh.le (az _ _) (ab rfl (dQ.r) (ab rfl (dQ.r) (ab rfl (dQ.r) (ab rfl (dQ.r) ar)))) (aw (aw (aw (aw aq))))) ?_;refine af ?_;obtain rfl:=aF H;refine bD (st':=⟨21,fun _=>.any,upd (upd (fun _=>none) 1501 (some ⟨b_q,[(ac t1.2.kind),(.str t1.2.table),(.own 1622 g1.1 (t1.2.names.map aD).length),(.own 1623 g1.2.1 (t1.2.exprs.map am).length),(.own 1624 g1.2.2.1 (t1.2.aggregates.map aA).length),(.own 1625 g1.2.2.2 (t1.2.descending.map aB).length),(ac t1.2.count),(ac t1.2.offset),(.list 29 (t1.2.inputs.map ak))]⟩)) 1500 (some ⟨b_rA,(aa x17)⟩),upd (upd (upd (upd (fun _=>none) 1625 (some ⟨g1.2.2.2,4,(t1.2.descending.map aB),true⟩)) 1624 (some ⟨g1.2.2.1,85,(t1.2.aggregates.map aA),true⟩)) 1623 (some ⟨g1.2.1,82,(t1.2.exprs.map am),true⟩)) 1622 (some ⟨g1.1,9,(t1.2.names.map aD),true⟩)⟩) (Gh.le aV (ab rfl (dQ.r) (ab rfl (dQ.r) ar)) (aw (aw (aw (aw aq))))) ?_;refine jZ tk rfl (ps:=[]) rfl (PLe.q rfl) ⟨_,_,_,_,rfl,rfl⟩
  refine aQ ?_;obtain rfl:=aF H;refine bD (st':=⟨21,fun _=>.any,upd (upd (fun _=>none) 1501 (some ⟨b_q,[(ac t1.2.kind),(.str t1.2.table),(.own 1622 g1.1 (t1.2.names.map aD).length),(.own 1623 g1.2.1 (t1.2.exprs.map am).length),(.own 1624 g1.2.2.1 (t1.2.aggregates.map aA).length),(.own 1625 g1.2.2.2 (t1.2.descending.map aB).length),(ac t1.2.count),(ac t1.2.offset),(.list 29 (t1.2.inputs.map ak))]⟩)) 1500 (some ⟨b_rA,(aa x12.2)⟩),upd (upd (upd (upd (fun _=>none) 1625 (some ⟨g1.2.2.2,4,(t1.2.descending.map aB),true⟩)) 1624 (some ⟨g1.2.2.1,85,(t1.2.aggregates.map aA),true⟩)) 1623 (some ⟨g1.2.1,82,(t1.2.exprs.map am),true⟩)) 1622 (some ⟨g1.1,9,(t1.2.names.map aD),true⟩)⟩) (Gh.le aV (ab rfl (dQ.r) (ab rfl (dQ.r) ar)) (aw (aw (aw (aw aq))))) ?_;refine jZ tk rfl (ps:=[]) rfl (PLe.q rfl) ⟨_,_,_,_,rfl,rfl⟩
 refine aQ (ae (av tk ?_));refine ap tk rfl ?_
 obtain⟨y20,h20,X20,H⟩:=bq H
 have s20:=iB b_rA b_q g1.1 g1.2.1 g1.2.2.1 g1.2.2.2 b2 b3 x12.2 t1.2 _ h20;refine aP Tryz.call86 [(1500,1500),(1501,1501),(2,1700),(3,1701)] [(1622,1622),(1623,1623),(1624,1624),(1625,1625)] s20 (X20 _) ?_;rintro u20 H20h hR20
 obtain⟨x20,⟨gz20_1622,gz20_1623,gz20_1624,gz20_1625,rfl,rfl⟩,H⟩:=H _ _ _ hR20
 refine⟨_,rfl,?_⟩
 refine aH (st':=⟨_,_,upd (upd (upd (upd (fun _=>none) 1501 (some ⟨b_q,[(ac x20.2.kind),(.str x20.2.table),(.own 1622 gz20_1622 (x20.2.names.map aD).length),(.own 1623 gz20_1623 (x20.2.exprs.map am).length),(.own 1624 gz20_1624 (x20.2.aggregates.map aA).length),(.own 1625 gz20_1625 (x20.2.descending.map aB).length),(ac x20.2.count),(ac x20.2.offset),(.list 29 (x20.2.inputs.map ak))]⟩)) 1500 (some ⟨b_rA,(aa x20.1)⟩)) 3 (some ⟨b3,[(.box 1501 b_q 0)]⟩)) 2 (some ⟨b2,[(.box 1500 b_rA 0)]⟩),upd (upd (upd (upd (fun _=>none) 1625 (some ⟨gz20_1625,4,(x20.2.descending.map aB),true⟩)) 1624 (some ⟨gz20_1624,85,(x20.2.aggregates.map aA),true⟩)) 1623 (some ⟨gz20_1623,82,(x20.2.exprs.map am),true⟩)) 1622 (some ⟨gz20_1622,9,(x20.2.names.map aD),true⟩)⟩) (Gh.le (az _ _) (ab rfl (dQ.r) (ab rfl (dQ.r) (ab rfl (dQ.r) (ab rfl (dQ.r) ar)))) (aw (aw (aw (aw aq))))) ?_;refine af ?_;obtain rfl:=aF H;refine bD (st':=⟨21,fun _=>.any,upd (upd (fun _=>none) 1501 (some ⟨b_q,[(ac x20.2.kind),(.str x20.2.table),(.own 1622 gz20_1622 (x20.2.names.map aD).length),(.own 1623 gz20_1623 (x20.2.exprs.map am).length),(.own 1624 gz20_1624 (x20.2.aggregates.map aA).length),(.own 1625 gz20_1625 (x20.2.descending.map aB).length),(ac x20.2.count),(ac x20.2.offset),(.list 29 (x20.2.inputs.map ak))]⟩)) 1500 (some ⟨b_rA,(aa x20.1)⟩),upd (upd (upd (upd (fun _=>none) 1625 (some ⟨gz20_1625,4,(x20.2.descending.map aB),true⟩)) 1624 (some ⟨gz20_1624,85,(x20.2.aggregates.map aA),true⟩)) 1623 (some ⟨gz20_1623,82,(x20.2.exprs.map am),true⟩)) 1622 (some ⟨gz20_1622,9,(x20.2.names.map aD),true⟩)⟩) (Gh.le aV (ab rfl (dQ.r) (ab rfl (dQ.r) ar)) (aw (aw (aw (aw aq))))) ?_;refine eU rfl (PLe.q rfl) ⟨_,_,_,_,rfl,rfl⟩
def dq(rec22:LQueryparserParser→Option (Except Int (LQuery×LQueryparserParser)))(rec55:LQueryparserParser→LQuery→Option (Except Int (LQuery×LQueryparserParser)))(_rec89:LQueryparserParser→LQuery→Option (Except Int (LQueryparserParser×LQuery)))(_rec90:LQueryparserParser→Option (Except Int (LQuery×LQueryparserParser)))(rA:LQueryparserParser):Option (Except Int (LQuery×LQueryparserParser)):=
 ag (al rA ([40]:List UInt8)) fun x5=>
 ag (
  cond x5.1
   (cZ (rec22 x5.2) fun x7=>
   cZ (aG x7.2 ([41]:List UInt8)) fun x9=>
   some (.next (x9,x7.1)))
   (cZ (aG x5.2 ([115,99,97,110]:List UInt8)) fun x11=>
   cZ (bh x11) fun x13=>
   some (.next (x13.2,(LQuery.mk 1 x13.1 [] [] [] [] 0 0 []))))) fun(fl1:Flow (LQueryparserParser×LQuery) (Except Int (LQuery×LQueryparserParser)))=>fl1.thenR fun t1=>
 ag (dJ (σ:=LQueryparserParser×LQuery) (ρ:=(Except Int (LQuery×LQueryparserParser))) (fun(s2:LQueryparserParser×LQuery)=>
  ag (al s2.1 ([124]:List UInt8)) fun x16=>
  cond x16.1
   (cZ (rec55 x16.2 s2.2) fun x19=>
   some (.next (x19.2,x19.1)))
   (some (.brk (x16.2,s2.2)))) (t1.1,t1.2)) fun fl2=>fl2.thenR fun(s2:LQueryparserParser×LQuery)=>
 some (.ok (s2.2,s2.1))
theorem ji(b_rA:Nat)(rec22:LQueryparserParser→Option (Except Int (LQuery×LQueryparserParser)))(rec55:LQueryparserParser→LQuery→Option (Except Int (LQuery×LQueryparserParser)))(rec89:LQueryparserParser→LQuery→Option (Except Int (LQueryparserParser×LQuery)))(rec90:LQueryparserParser→Option (Except Int (LQuery×LQueryparserParser)))(hrec22:∀bb0 a0 r,rec22 a0=some r→ba Tryz.prog 22 [(.box 1500 bb0 0)] ⟨upd (fun _=>none) 1500 (some ⟨bb0,(aa a0)⟩),fun _=>none⟩ (RX r (fun rv u H=>u=(.agg (aE rv.1))∧H=⟨upd (fun _=>none) 1500 (some ⟨bb0,(aa rv.2)⟩),fun _=>none⟩)) (PX 106 r))(hrec55:∀bb0 a0 a1 r,rec55 a0 a1=some r→ba Tryz.prog 55 [(.box 1500 bb0 0),(.agg (aE a1))] ⟨upd (fun _=>none) 1500 (some ⟨bb0,(aa a0)⟩),fun _=>none⟩ (RX r (fun rv u H=>u=(.agg (aE rv.1))∧H=⟨upd (fun _=>none) 1500 (some ⟨bb0,(aa rv.2)⟩),fun _=>none⟩)) (PX 106 r))(_hrec89:∀bb0 bb1 gg1_8 a0 a1 r,rec89 a0 a1=some r→ba Tryz.prog 89 [(.box 1500 bb0 0),(.box 1501 bb1 0)] ⟨upd (upd (fun _=>none) 1501 (some ⟨bb1,[(ac a1.kind),(.str a1.table),(.list 9 (a1.names.map aD)),(.list 82 (a1.exprs.map am)),(.list 85 (a1.aggregates.map aA)),(.list 4 (a1.descending.map aB)),(ac a1.count),(ac a1.offset),(.own 1628 gg1_8 (a1.inputs.map ak).length)]⟩)) 1500 (some ⟨bb0,(aa a0)⟩),upd (fun _=>none) 1628 (some ⟨gg1_8,29,(a1.inputs.map ak),true⟩)⟩ (RX r (fun rv u H=>∃gz1_8,u=(.tup [])∧H=⟨upd (upd (fun _=>none) 1501 (some ⟨bb1,[(ac rv.2.kind),(.str rv.2.table),(.list 9 (rv.2.names.map aD)),(.list 82 (rv.2.exprs.map am)),(.list 85 (rv.2.aggregates.map aA)),(.list 4 (rv.2.descending.map aB)),(ac rv.2.count),(ac rv.2.offset),(.own 1628 gz1_8 (rv.2.inputs.map ak).length)]⟩)) 1500 (some ⟨bb0,(aa rv.1)⟩),upd (fun _=>none) 1628 (some ⟨gz1_8,29,(rv.2.inputs.map ak),true⟩)⟩)) (PX 106 r))(_hrec90:∀bb0 a0 r,rec90 a0=some r→ba Tryz.prog 90 [(.box 1500 bb0 0)] ⟨upd (fun _=>none) 1500 (some ⟨bb0,(aa a0)⟩),fun _=>none⟩ (RX r (fun rv u H=>u=(.agg (aE rv.1))∧H=⟨upd (fun _=>none) 1500 (some ⟨bb0,(aa rv.2)⟩),fun _=>none⟩)) (PX 106 r))(rA:LQueryparserParser)(r:Except Int (LQuery×LQueryparserParser))(H:dq rec22 rec55 rec89 rec90 rA=some r):
  ba Tryz.prog 22 [(.box 1500 b_rA 0)] ⟨upd (fun _=>none) 1500 (some ⟨b_rA,(aa rA)⟩),fun _=>none⟩ (RX r (fun rv u H=>u=(.agg (aE rv.1))∧H=⟨upd (fun _=>none) 1500 (some ⟨b_rA,(aa rv.2)⟩),fun _=>none⟩)) (PX 106 r):=by
 unfold dq at H;refine ba.intro Tryz.func22 rfl Tryz.ntmps22 rfl ?_;refine ah (ae ?_);refine aW tk fun b2=>?_
 refine af (ah (ae ?_));refine aW tk fun b3=>?_
 refine af (ah (ah (ae (ap tk rfl ?_))))
 obtain⟨x5,h5,H⟩:=ax H
 have s5:=aC b_rA rA ([40]:List UInt8) _ h5;refine bE (g:=52) rfl rfl rfl Tryz.call52 [(1500,1500)] [] rfl rfl rfl rfl (dQ.of2 (eO.cons jn.boxT (eO.cons (jn.of_eq rfl) eO.nil))) (by rw[aU,be,bf];rfl) s5 ?_;rintro u5 H5h ⟨rfl,rfl⟩
 refine⟨_,rfl,?_⟩
 refine aH (st':=⟨_,_,upd (upd (upd (fun _=>none) 1500 (some ⟨b_rA,(aa x5.2)⟩)) 3 (some ⟨b3,[(ac 0),(.str []),(.val (.slice none 0 0)),(.val (.slice none 0 0)),(.val (.slice none 0 0)),(.val (.slice none 0 0)),(ac 0),(ac 0),(.val (.slice none 0 0))]⟩)) 2 (some ⟨b2,[(ac 0),(.str []),(.val (.slice none 0 0)),(.val (.slice none 0 0)),(.val (.slice none 0 0)),(.val (.slice none 0 0)),(ac 0),(ac 0),(.val (.slice none 0 0))]⟩),fun _=>none⟩) (Gh.le (az _ _) (ab rfl (dQ.r) (ab rfl (dQ.r) (ab rfl (dQ.r) ar))) aq) ?_;refine af ?_;refine lW (γ:=Unit) (fun t1 g1=>⟨21,upd (upd (upd (fun _=>.any) 3 (.box 3 b3 0)) 2 (.box 2 b2 0)) 0 (.box 1500 b_rA 0),upd (upd (upd (fun _=>none) 1500 (some ⟨b_rA,(aa t1.1)⟩)) 3 (some ⟨b3,(aE t1.2)⟩)) 2 (some ⟨b2,[(ac 0),(.str []),(.val (.slice none 0 0)),(.val (.slice none 0 0)),(.val (.slice none 0 0)),(.val (.slice none 0 0)),(ac 0),(ac 0),(.val (.slice none 0 0))]⟩),fun _=>none⟩) H (fun _ H Hp1=>?_) (fun t1 g1 H=>?_)
 ·refine aT rfl H (fun H=>?_) (fun H=>?_)
  ·refine ah (ae (ap tk rfl ?_))
   obtain⟨y7,h7,X7,H⟩:=dP H
   have s7:=hrec22 b_rA x5.2 _ h7;refine aP Tryz.call22 [(1500,1500)] [] s7 (pxF (fun e he=>(lvJ (X7 e he) Hp1)) _) ?_;rintro u7 H7h hR7
   obtain⟨x7,⟨rfl,rfl⟩,H⟩:=H _ _ _ hR7
   refine⟨_,rfl,?_⟩
   refine aH (st':=⟨_,_,upd (upd (upd (fun _=>none) 1500 (some ⟨b_rA,(aa x7.2)⟩)) 3 (some ⟨b3,[(ac 0),(.str []),(.val (.slice none 0 0)),(.val (.slice none 0 0)),(.val (.slice none 0 0)),(.val (.slice none 0 0)),(ac 0),(ac 0),(.val (.slice none 0 0))]⟩)) 2 (some ⟨b2,[(ac 0),(.str []),(.val (.slice none 0 0)),(.val (.slice none 0 0)),(.val (.slice none 0 0)),(.val (.slice none 0 0)),(ac 0),(ac 0),(.val (.slice none 0 0))]⟩),fun _=>none⟩) (Gh.le (az _ _) (ab rfl (dQ.r) (ab rfl (dQ.r) (ab rfl (dQ.r) ar))) aq) ?_;refine ao tk ?_;refine af (ae (ap tk rfl ?_))
   obtain⟨y9,h9,X9,H⟩:=dP H
   have s9:=aS b_rA x7.2 ([41]:List UInt8) _ h9;refine aP Tryz.call53 [(1500,1500)] [] s9 (pxF (fun e he=>(lvJ (X9 e he) Hp1)) _) ?_;rintro u9 H9h hR9
   obtain⟨x9,⟨rfl,rfl⟩,H⟩:=H _ _ _ hR9
   refine⟨_,rfl,?_⟩
   refine aH (st':=⟨_,_,upd (upd (upd (fun _=>none) 1500 (some ⟨b_rA,(aa x9)⟩)) 3 (some ⟨b3,(aE x7.1)⟩)) 2 (some ⟨b2,[(ac 0),(.str []),(.val (.slice none 0 0)),(.val (.slice none 0 0)),(.val (.slice none 0 0)),(.val (.slice none 0 0)),(ac 0),(ac 0),(.val (.slice none 0 0))]⟩),fun _=>none⟩) (Gh.le (az _ _) (ab rfl (dQ.r) (ab rfl (dQ.r) (ab rfl (dQ.r) ar))) aq) ?_;refine af ?_;refine bX _ () (aF H).symm Gh.d
  refine ah (ae (ap tk rfl ?_))
  obtain⟨y11,h11,X11,H⟩:=dP H
  have s11:=aS b_rA x5.2 ([115,99,97,110]:List UInt8) _ h11;refine aP Tryz.call53 [(1500,1500)] [] s11 (pxF (fun e he=>(lvJ (X11 e he) Hp1)) _) ?_;rintro u11 H11h hR11
  obtain⟨x11,⟨rfl,rfl⟩,H⟩:=H _ _ _ hR11
  refine⟨_,rfl,?_⟩
  refine aH (st':=⟨_,_,upd (upd (upd (fun _=>none) 1500 (some ⟨b_rA,(aa x11)⟩)) 3 (some ⟨b3,[(ac 0),(.str []),(.val (.slice none 0 0)),(.val (.slice none 0 0)),(.val (.slice none 0 0)),(.val (.slice none 0 0)),(ac 0),(ac 0),(.val (.slice none 0 0))]⟩)) 2 (some ⟨b2,[(ac 0),(.str []),(.val (.slice none 0 0)),(.val (.slice none 0 0)),(.val (.slice none 0 0)),(.val (.slice none 0 0)),(ac 0),(ac 0),(.val (.slice none 0 0))]⟩),fun _=>none⟩) (Gh.le (az _ _) (ab rfl (dQ.r) (ab rfl (dQ.r) (ab rfl (dQ.r) ar))) aq) ?_;refine af (ae (ap tk rfl ?_))
  obtain⟨y13,h13,X13,H⟩:=dP H
  have s13:=cB b_rA x11 _ h13;refine aP Tryz.call54 [(1500,1500)] [] s13 (pxF (fun e he=>(lvJ (X13 e he) Hp1)) _) ?_;rintro u13 H13h hR13
  obtain⟨x13,⟨rfl,rfl⟩,H⟩:=H _ _ _ hR13
  refine⟨_,rfl,?_⟩
  refine aH (st':=⟨_,_,upd (upd (upd (fun _=>none) 1500 (some ⟨b_rA,(aa x13.2)⟩)) 3 (some ⟨b3,[(ac 0),(.str []),(.val (.slice none 0 0)),(.val (.slice none 0 0)),(.val (.slice none 0 0)),(.val (.slice none 0 0)),(ac 0),(ac 0),(.val (.slice none 0 0))]⟩)) 2 (some ⟨b2,[(ac 0),(.str []),(.val (.slice none 0 0)),(.val (.slice none 0 0)),(.val (.slice none 0 0)),(.val (.slice none 0 0)),(ac 0),(ac 0),(.val (.slice none 0 0))]⟩),fun _=>none⟩) (Gh.le (az _ _) (ab rfl (dQ.r) (ab rfl (dQ.r) (ab rfl (dQ.r) ar))) aq) ?_;refine ap tk rfl (ao tk ?_);refine af ?_;refine bX _ () (aF H).symm (Gh.le (bF (bF (bF aV))) (ab rfl (dQ.r) (ab rfl (dQ.of2 (eO.cons (jn.of_eq rfl) (eO.cons (jn.of_eq rfl) (eO.cons (jn.nil tk rfl) (eO.cons (jn.nil tk rfl) (eO.cons (jn.nil tk rfl) (eO.cons (jn.nil tk rfl) (eO.cons (jn.of_eq rfl) (eO.cons (jn.of_eq rfl) (eO.cons (jn.nil tk rfl) eO.nil)))))))))) (ab rfl (dQ.r) ar))) aq)
 refine ah ?_
 obtain⟨fl2,H2,Hp2⟩:=ax H
 refine fI (τ:=LQueryparserParser×LQuery) (γ:=Unit) (fun s2 g2=>⟨21,upd (upd (upd (fun _=>.any) 3 (.box 3 b3 0)) 2 (.box 2 b2 0)) 0 (.box 1500 b_rA 0),upd (upd (upd (fun _=>none) 1500 (some ⟨b_rA,(aa s2.1)⟩)) 3 (some ⟨b3,(aE s2.2)⟩)) 2 (some ⟨b2,[(ac 0),(.str []),(.val (.slice none 0 0)),(.val (.slice none 0 0)),(.val (.slice none 0 0)),(.val (.slice none 0 0)),(ac 0),(ac 0),(.val (.slice none 0 0))]⟩),fun _=>none⟩) (fun t=>fl2= .next t) ?_ (fun s2 g2 hn2=>?_)
 ·refine bs ?_;refine fV (fun s2 g2=>⟨21,upd (upd (upd (fun _=>.any) 3 (.box 3 b3 0)) 2 (.box 2 b2 0)) 0 (.box 1500 b_rA 0),upd (upd (upd (fun _=>none) 1500 (some ⟨b_rA,(aa s2.1)⟩)) 3 (some ⟨b3,(aE s2.2)⟩)) 2 (some ⟨b2,[(ac 0),(.str []),(.val (.slice none 0 0)),(.val (.slice none 0 0)),(.val (.slice none 0 0)),(.val (.slice none 0 0)),(ac 0),(ac 0),(.val (.slice none 0 0))]⟩),fun _=>none⟩) () H2 Gh.d (fun m2 s2 g2 hr2=>?_)
  obtain⟨fb2,H,hg2⟩:=eY hr2
  refine ah (ah (ae (ap tk rfl ?_)))
  obtain⟨x16,h16,H⟩:=ax H
  have s16:=aC b_rA s2.1 ([124]:List UInt8) _ h16;refine bE (g:=52) rfl rfl rfl Tryz.call52 [(1500,1500)] [] rfl rfl rfl rfl (dQ.of2 (eO.cons jn.boxT (eO.cons (jn.of_eq rfl) eO.nil))) (by rw[aU,be,bf];rfl) s16 ?_;rintro u16 H16h ⟨rfl,rfl⟩
  refine⟨_,rfl,?_⟩
  refine aH (st':=⟨_,_,upd (upd (upd (fun _=>none) 1500 (some ⟨b_rA,(aa x16.2)⟩)) 3 (some ⟨b3,(aE s2.2)⟩)) 2 (some ⟨b2,[(ac 0),(.str []),(.val (.slice none 0 0)),(.val (.slice none 0 0)),(.val (.slice none 0 0)),(.val (.slice none 0 0)),(ac 0),(ac 0),(.val (.slice none 0 0))]⟩),fun _=>none⟩) (Gh.le (az _ _) (ab rfl (dQ.r) (ab rfl (dQ.r) (ab rfl (dQ.r) ar))) aq) ?_;refine af ?_;refine aT rfl H (fun H=>?_) (fun H=>?_)
  ·refine aQ (bs (ae (ap tk rfl (av tk ?_))))
   obtain⟨y19,h19,X19,H⟩:=dP H
   have s19:=hrec55 b_rA x16.2 s2.2 _ h19;refine aP Tryz.call55 [(1500,1500)] [] s19 (pxF (fun e he=>(lvR (X19 e he) hg2 Hp2)) _) ?_;rintro u19 H19h hR19
   obtain⟨x19,⟨rfl,rfl⟩,H⟩:=H _ _ _ hR19
   refine⟨_,rfl,?_⟩
   refine aH (st':=⟨_,_,upd (upd (upd (fun _=>none) 1500 (some ⟨b_rA,(aa x19.2)⟩)) 3 (some ⟨b3,(aE s2.2)⟩)) 2 (some ⟨b2,[(ac 0),(.str []),(.val (.slice none 0 0)),(.val (.slice none 0 0)),(.val (.slice none 0 0)),(.val (.slice none 0 0)),(ac 0),(ac 0),(.val (.slice none 0 0))]⟩),fun _=>none⟩) (Gh.le (az _ _) (ab rfl (dQ.r) (ab rfl (dQ.r) (ab rfl (dQ.r) ar))) aq) ?_;refine ao tk ?_;refine af (bU ?_);obtain rfl:=aF H;refine eR (x19.2,x19.1) () hg2 Gh.d
  refine eI rfl ?_;obtain rfl:=aF H;refine bX (x16.2,s2.2) () hg2 Gh.d
 have H:=eG hn2 Hp2;refine ah (ae (av tk ?_));refine ao tk ?_;refine af ?_;obtain rfl:=aF H;refine bD (st':=⟨21,upd (fun _=>.any) 2 (.box 2 b2 0),upd (upd (fun _=>none) 1500 (some ⟨b_rA,(aa s2.1)⟩)) 2 (some ⟨b2,(aE s2.2)⟩),fun _=>none⟩) (Gh.le (bF aV) (ab rfl (dQ.r) (ab rfl (dQ.r) ar)) aq) ?_;refine cF tk rfl (ps:=[(.agg (aE s2.2))]) ⟨_,_,rfl,⟨_,_,_,_,_,rfl,rfl,rfl,rfl⟩,rfl⟩ (PLe.q rfl) (HSub.updB rfl) ⟨rfl,rfl⟩
def dp(_rec22:LQueryparserParser→Option (Except Int (LQuery×LQueryparserParser)))(_rec55:LQueryparserParser→LQuery→Option (Except Int (LQuery×LQueryparserParser)))(rec89:LQueryparserParser→LQuery→Option (Except Int (LQueryparserParser×LQuery)))(rec90:LQueryparserParser→Option (Except Int (LQuery×LQueryparserParser)))(rA:LQueryparserParser)(inA:LQuery):Option (Except Int (LQuery×LQueryparserParser)):=
 ag (al rA ([119,104,101,114,101]:List UInt8)) fun x13=>
 cond x13.1
  (bg (cq x13.2) fun x15=>
  some (.ok ((LQuery.mk 2 [] [] [x15.1] [] [] 0 0 [inA]),x15.2)))
  (ag (al x13.2 ([112,114,111,106,101,99,116]:List UInt8)) fun x21=>
  cond x21.1
   (bg (cV x21.2 (LQuery.mk 3 [] [] [] [] [] 0 0 [inA])) fun x25=>
   some (.ok (x25.2,x25.1)))
   (ag (al x21.2 ([106,111,105,110]:List UInt8)) fun x28=>
   cond x28.1
    (bg (rec89 x28.2 (LQuery.mk 4 [] [] [] [] [] 0 0 [inA])) fun x31=>
    some (.ok (x31.2,x31.1)))
    (ag (al x28.2 ([108,101,102,116]:List UInt8)) fun x34=>
    cond x34.1
     (bg (aG x34.2 ([106,111,105,110]:List UInt8)) fun x36=>
     bg (rec89 x36 (LQuery.mk 5 [] [] [] [] [] 0 0 [inA])) fun x39=>
     some (.ok (x39.2,x39.1)))
     (ag (al x34.2 ([117,110,105,111,110]:List UInt8)) fun x42=>
     cond x42.1
      (bg (rec90 x42.2) fun x46=>
      ag (dY 160 ([inA]:List LQuery) ([x46.1]:List LQuery)) fun(x48:List LQuery)=>
      some (.ok ((LQuery.mk 6 [] [] [] [] [] 0 0 x48),x46.2)))
      (ag (al x42.2 ([101,120,99,101,112,116]:List UInt8)) fun x53=>
      cond x53.1
       (bg (rec90 x53.2) fun x57=>
       ag (dY 160 ([inA]:List LQuery) ([x57.1]:List LQuery)) fun(x59:List LQuery)=>
       some (.ok ((LQuery.mk 7 [] [] [] [] [] 0 0 x59),x57.2)))
       (ag (al x53.2 ([103,114,111,117,112]:List UInt8)) fun x64=>
       cond x64.1
        (bg (dh x64.2 (LQuery.mk 8 [] [] [] [] [] 0 0 [inA])) fun x67=>
        some (.ok (x67.2,x67.1)))
        (ag (al x64.2 ([115,111,114,116]:List UInt8)) fun x70=>
        cond x70.1
         (bg (cW x70.2 (LQuery.mk 9 [] [] [] [] [] 0 0 [inA])) fun x74=>
         some (.ok (x74.2,x74.1)))
         (ag (al x70.2 ([108,105,109,105,116]:List UInt8)) fun x77=>
         cond x77.1
          (bg (bG x77.2) fun x79=>
          ag (al x79.2 ([111,102,102,115,101,116]:List UInt8)) fun x83=>
          cond x83.1
           (bg (bG x83.2) fun x85=>
           cond (x85.1==(0:Int))
            (bg (aR (LQueryparserParser.mk x85.2.tokens (IntKind.i64.wrap (x85.2.next-(1:Int))) x85.2.size)) fun x98=>
            some (.ok ((LQuery.mk 10 [] [] [] [] [] x79.1 x85.1 [inA]),x98)))
            (some (.ok ((LQuery.mk 10 [] [] [] [] [] x79.1 x85.1 [inA]),x85.2))))
           (some (.ok ((LQuery.mk 10 [] [] [] [] [] x79.1 0 [inA]),x83.2))))
          (bg (aR x77.2) fun x10=>
          some (.ok ((LQuery.mk 0 [] [] [] [] [] 0 0 [inA]),x10)))))))))))
theorem jl(b_rA:Nat)(rec22:LQueryparserParser→Option (Except Int (LQuery×LQueryparserParser)))(rec55:LQueryparserParser→LQuery→Option (Except Int (LQuery×LQueryparserParser)))(rec89:LQueryparserParser→LQuery→Option (Except Int (LQueryparserParser×LQuery)))(rec90:LQueryparserParser→Option (Except Int (LQuery×LQueryparserParser)))(_hrec22:∀bb0 a0 r,rec22 a0=some r→ba Tryz.prog 22 [(.box 1500 bb0 0)] ⟨upd (fun _=>none) 1500 (some ⟨bb0,(aa a0)⟩),fun _=>none⟩ (RX r (fun rv u H=>u=(.agg (aE rv.1))∧H=⟨upd (fun _=>none) 1500 (some ⟨bb0,(aa rv.2)⟩),fun _=>none⟩)) (PX 106 r))(_hrec55:∀bb0 a0 a1 r,rec55 a0 a1=some r→ba Tryz.prog 55 [(.box 1500 bb0 0),(.agg (aE a1))] ⟨upd (fun _=>none) 1500 (some ⟨bb0,(aa a0)⟩),fun _=>none⟩ (RX r (fun rv u H=>u=(.agg (aE rv.1))∧H=⟨upd (fun _=>none) 1500 (some ⟨bb0,(aa rv.2)⟩),fun _=>none⟩)) (PX 106 r))(hrec89:∀bb0 bb1 gg1_8 a0 a1 r,rec89 a0 a1=some r→ba Tryz.prog 89 [(.box 1500 bb0 0),(.box 1501 bb1 0)] ⟨upd (upd (fun _=>none) 1501 (some ⟨bb1,[(ac a1.kind),(.str a1.table),(.list 9 (a1.names.map aD)),(.list 82 (a1.exprs.map am)),(.list 85 (a1.aggregates.map aA)),(.list 4 (a1.descending.map aB)),(ac a1.count),(ac a1.offset),(.own 1628 gg1_8 (a1.inputs.map ak).length)]⟩)) 1500 (some ⟨bb0,(aa a0)⟩),upd (fun _=>none) 1628 (some ⟨gg1_8,29,(a1.inputs.map ak),true⟩)⟩ (RX r (fun rv u H=>∃gz1_8,u=(.tup [])∧H=⟨upd (upd (fun _=>none) 1501 (some ⟨bb1,[(ac rv.2.kind),(.str rv.2.table),(.list 9 (rv.2.names.map aD)),(.list 82 (rv.2.exprs.map am)),(.list 85 (rv.2.aggregates.map aA)),(.list 4 (rv.2.descending.map aB)),(ac rv.2.count),(ac rv.2.offset),(.own 1628 gz1_8 (rv.2.inputs.map ak).length)]⟩)) 1500 (some ⟨bb0,(aa rv.1)⟩),upd (fun _=>none) 1628 (some ⟨gz1_8,29,(rv.2.inputs.map ak),true⟩)⟩)) (PX 106 r))(hrec90:∀bb0 a0 r,rec90 a0=some r→ba Tryz.prog 90 [(.box 1500 bb0 0)] ⟨upd (fun _=>none) 1500 (some ⟨bb0,(aa a0)⟩),fun _=>none⟩ (RX r (fun rv u H=>u=(.agg (aE rv.1))∧H=⟨upd (fun _=>none) 1500 (some ⟨bb0,(aa rv.2)⟩),fun _=>none⟩)) (PX 106 r))(rA:LQueryparserParser)(inA:LQuery)(r:Except Int (LQuery×LQueryparserParser))(H:dp rec22 rec55 rec89 rec90 rA inA=some r):
  ba Tryz.prog 55 [(.box 1500 b_rA 0),(.agg (aE inA))] ⟨upd (fun _=>none) 1500 (some ⟨b_rA,(aa rA)⟩),fun _=>none⟩ (RX r (fun rv u H=>u=(.agg (aE rv.1))∧H=⟨upd (fun _=>none) 1500 (some ⟨b_rA,(aa rv.2)⟩),fun _=>none⟩)) (PX 106 r):=by
 unfold dp at H;refine ba.intro Tryz.func55 rfl Tryz.ntmps55 rfl ?_;refine ah (ae ?_);refine nf (d:=2) rfl rfl rfl rfl rfl fun b2=>?_
 refine ed ?_;refine aW tk fun b4=>?_
 refine af (ah (ae (ap tk rfl ?_)));refine np (rows':=List.map ak ([inA]:List LQuery)) tk rfl rfl rfl rfl rfl rfl rfl (congrArg (List.map List.length) (em dZ ([inA]:List LQuery))).symm rfl (eO.trans (b:=(List.map aE ([inA]:List LQuery)).flatten) (eO.refl _) (eO.of_eq (congrArg List.flatten (em dZ ([inA]:List LQuery))))) fun g7=>?_
 refine ap tk rfl ?_;refine aW tk fun b5=>?_
 refine ao tk ?_;refine af (ah (bs (ah (ae (av tk ?_)))))
 obtain⟨x13,h13,H⟩:=ax H
 have s13:=aC b_rA rA ([119,104,101,114,101]:List UInt8) _ h13;refine bE (g:=52) rfl rfl rfl Tryz.call52 [(1500,1500)] [] rfl rfl rfl rfl (dQ.of2 (eO.cons jn.boxT (eO.cons (jn.of_eq rfl) eO.nil))) (by rw[aU,be,bf];rfl) s13 ?_;rintro u13 H13h ⟨rfl,rfl⟩
 refine⟨_,rfl,?_⟩
 refine aH (st':=⟨_,_,upd (upd (upd (upd (fun _=>none) 1500 (some ⟨b_rA,(aa x13.2)⟩)) 5 (some ⟨b5,[(ac 0),(.str []),(.val (.slice none 0 0)),(.val (.slice none 0 0)),(.val (.slice none 0 0)),(.val (.slice none 0 0)),(ac 0),(ac 0),(.own 7 g7 (([inA]:List LQuery).map ak).length)]⟩)) 4 (some ⟨b4,[(ac 0),(.str []),(.val (.slice none 0 0)),(.val (.slice none 0 0)),(.val (.slice none 0 0)),(.val (.slice none 0 0)),(ac 0),(ac 0),(.val (.slice none 0 0))]⟩)) 2 (some ⟨b2,[(.box 1500 b_rA 0)]⟩),upd (fun _=>none) 7 (some ⟨g7,29,(([inA]:List LQuery).map ak),true⟩)⟩) (Gh.le (az _ _) (ab rfl (dQ.r) (ab rfl (dQ.r) (ab rfl (dQ.r) (ab rfl (dQ.r) ar)))) (aw aq)) ?_;refine ap tk rfl (af ?_);refine aT rfl H (fun H=>?_) (fun H=>?_)
 ·refine ae (av tk ?_)
  obtain⟨y15,h15,X15,H⟩:=bq H
  have s15:=dy b_rA x13.2 _ h15;refine aP Tryz.call85 [(1500,1500)] [] s15 (X15 _) ?_;rintro u15 H15h hR15
  obtain⟨x15,⟨rfl,rfl⟩,H⟩:=H _ _ _ hR15
  refine⟨_,rfl,?_⟩
  refine aH (st':=⟨_,_,upd (upd (upd (upd (fun _=>none) 1500 (some ⟨b_rA,(aa x15.2)⟩)) 5 (some ⟨b5,[(ac 0),(.str []),(.val (.slice none 0 0)),(.val (.slice none 0 0)),(.val (.slice none 0 0)),(.val (.slice none 0 0)),(ac 0),(ac 0),(.own 7 g7 (([inA]:List LQuery).map ak).length)]⟩)) 4 (some ⟨b4,[(ac 0),(.str []),(.val (.slice none 0 0)),(.val (.slice none 0 0)),(.val (.slice none 0 0)),(.val (.slice none 0 0)),(ac 0),(ac 0),(.val (.slice none 0 0))]⟩)) 2 (some ⟨b2,[(.box 1500 b_rA 0)]⟩),upd (fun _=>none) 7 (some ⟨g7,29,(([inA]:List LQuery).map ak),true⟩)⟩) (Gh.le (az _ _) (ab rfl (dQ.r) (ab rfl (dQ.r) (ab rfl (dQ.r) (ab rfl (dQ.r) ar)))) (aw aq)) ?_;refine np (rows':=List.map am ([x15.1]:List LExpr)) tk rfl rfl rfl rfl rfl rfl rfl (congrArg (List.map List.length) (em ck ([x15.1]:List LExpr))).symm rfl (eO.trans (b:=(List.map bN ([x15.1]:List LExpr)).flatten) (eO.refl _) (eO.of_eq (congrArg List.flatten (em ck ([x15.1]:List LExpr))))) fun g16=>?_
  refine ap tk rfl (ao tk ?_);refine ap tk rfl (ao tk ?_);refine af (bU (ah (ae (av tk ?_))));refine ao tk ?_;refine af ?_;obtain rfl:=aF H;refine bS 4 3 rfl rfl rfl rfl rfl (bS 4 8 rfl rfl rfl rfl rfl ?_);refine bD (st':=⟨100,upd (fun _=>.any) 4 (.box 4 b4 0),upd (upd (fun _=>none) 1500 (some ⟨b_rA,(aa x15.2)⟩)) 4 (some ⟨b4,[(ac 2),(.str []),(.val (.slice none 0 0)),(.list 82 (([x15.1]:List LExpr).map am)),(.val (.slice none 0 0)),(.val (.slice none 0 0)),(ac 0),(ac 0),(.list 29 (([inA]:List LQuery).map ak))]⟩),fun _=>none⟩) (Gh.le (bF aV) (ab rfl (dQ.r) (ab rfl (dQ.r) ar)) aq) ?_;refine cF tk rfl (ps:=[(.agg [(ac 2),(.str []),(.val (.slice none 0 0)),(.list 82 (([x15.1]:List LExpr).map am)),(.val (.slice none 0 0)),(.val (.slice none 0 0)),(ac 0),(ac 0),(.list 29 (([inA]:List LQuery).map ak))])]) ⟨_,_,rfl,⟨_,_,_,_,_,rfl,rfl,rfl,rfl⟩,rfl⟩ (PLe.of2 (jn.agg (eO.cons (jn.of_eq rfl) (eO.cons (jn.of_eq rfl) (eO.cons (jn.nil tk rfl) (eO.cons (jn.of_eq rfl) (eO.cons (jn.nil tk rfl) (eO.cons (jn.nil tk rfl) (eO.cons (jn.of_eq rfl) (eO.cons (jn.of_eq rfl) (eO.cons (jn.of_eq rfl) eO.nil))))))))))) (HSub.updB rfl) ⟨rfl,rfl⟩
 refine ah (ae (av tk ?_))
 obtain⟨x21,h21,H⟩:=ax H
 have s21:=aC b_rA x13.2 ([112,114,111,106,101,99,116]:List UInt8) _ h21;refine bE (g:=52) rfl rfl rfl Tryz.call52 [(1500,1500)] [] rfl rfl rfl rfl (dQ.of2 (eO.cons jn.boxT (eO.cons (jn.of_eq rfl) eO.nil))) (by rw[aU,be,bf];rfl) s21 ?_;rintro u21 H21h ⟨rfl,rfl⟩
 refine⟨_,rfl,?_⟩
 refine aH (st':=⟨_,_,upd (upd (upd (upd (fun _=>none) 1500 (some ⟨b_rA,(aa x21.2)⟩)) 5 (some ⟨b5,[(ac 0),(.str []),(.val (.slice none 0 0)),(.val (.slice none 0 0)),(.val (.slice none 0 0)),(.val (.slice none 0 0)),(ac 0),(ac 0),(.own 7 g7 (([inA]:List LQuery).map ak).length)]⟩)) 4 (some ⟨b4,[(ac 0),(.str []),(.val (.slice none 0 0)),(.val (.slice none 0 0)),(.val (.slice none 0 0)),(.val (.slice none 0 0)),(ac 0),(ac 0),(.val (.slice none 0 0))]⟩)) 2 (some ⟨b2,[(.box 1500 b_rA 0)]⟩),upd (fun _=>none) 7 (some ⟨g7,29,(([inA]:List LQuery).map ak),true⟩)⟩) (Gh.le (az _ _) (ab rfl (dQ.r) (ab rfl (dQ.r) (ab rfl (dQ.r) (ab rfl (dQ.r) ar)))) (aw aq)) ?_;refine ap tk rfl (af ?_);refine aT rfl H (fun H=>?_) (fun H=>?_)
 ·refine ah (ae (ap tk rfl (ao tk ?_)));refine af (ae (av tk ?_));refine ap tk rfl (aH (Gh.eQ tk 5 2 1622 (e:=9) rfl rfl rfl rfl) (aH (Gh.eQ tk 5 3 1623 (e:=82) rfl rfl rfl rfl) (aH (Gh.eQ tk 5 4 1624 (e:=85) rfl rfl rfl rfl) (aH (Gh.eQ tk 5 5 1625 (e:=4) rfl rfl rfl rfl) (aH (Gh.freezeOB 5 8 rfl rfl rfl rfl rfl) ?_)))))
  obtain⟨y25,h25,X25,H⟩:=bq H
  have s25:=iL b_rA b5 (⟨none,0⟩) (⟨none,0⟩) (⟨none,0⟩) (⟨none,0⟩) b2 x21.2 (LQuery.mk 3 [] [] [] [] [] 0 0 [inA]) _ h25;refine aP Tryz.call86 [(1500,1500),(5,1501),(2,1700)] [(1622,1622),(1623,1623),(1624,1624),(1625,1625)] s25 (X25 _) ?_;rintro u25 H25h hR25
  obtain⟨x25,⟨gz25_1622,gz25_1623,gz25_1624,gz25_1625,rfl,rfl⟩,H⟩:=H _ _ _ hR25
  refine⟨_,rfl,?_⟩
  refine aH (st':=⟨_,_,upd (upd (upd (upd (fun _=>none) 1500 (some ⟨b_rA,(aa x25.1)⟩)) 5 (some ⟨b5,[(ac x25.2.kind),(.str x25.2.table),(.own 1622 gz25_1622 (x25.2.names.map aD).length),(.own 1623 gz25_1623 (x25.2.exprs.map am).length),(.own 1624 gz25_1624 (x25.2.aggregates.map aA).length),(.own 1625 gz25_1625 (x25.2.descending.map aB).length),(ac x25.2.count),(ac x25.2.offset),(.list 29 (x25.2.inputs.map ak))]⟩)) 4 (some ⟨b4,[(ac 0),(.str []),(.val (.slice none 0 0)),(.val (.slice none 0 0)),(.val (.slice none 0 0)),(.val (.slice none 0 0)),(ac 0),(ac 0),(.val (.slice none 0 0))]⟩)) 2 (some ⟨b2,[(.box 1500 b_rA 0)]⟩),upd (upd (upd (upd (upd (fun _=>none) 7 (some ⟨g7,29,(([inA]:List LQuery).map ak),false⟩)) 1625 (some ⟨gz25_1625,4,(x25.2.descending.map aB),true⟩)) 1624 (some ⟨gz25_1624,85,(x25.2.aggregates.map aA),true⟩)) 1623 (some ⟨gz25_1623,82,(x25.2.exprs.map am),true⟩)) 1622 (some ⟨gz25_1622,9,(x25.2.names.map aD),true⟩)⟩) (Gh.le (az _ _) (ab rfl (dQ.r) (ab rfl (dQ.r) (ab rfl (dQ.r) (ab rfl (dQ.r) ar)))) (aw (aw (aw (aw (aw aq)))))) ?_;refine af (bU (ah (ae (av tk ?_))));refine ao tk ?_;refine af ?_;obtain rfl:=aF H;refine bS 4 2 rfl rfl rfl rfl rfl (bS 4 3 rfl rfl rfl rfl rfl (bS 4 4 rfl rfl rfl rfl rfl (bS 4 5 rfl rfl rfl rfl rfl ?_)));refine bD (st':=⟨100,upd (fun _=>.any) 4 (.box 4 b4 0),upd (upd (fun _=>none) 1500 (some ⟨b_rA,(aa x25.1)⟩)) 4 (some ⟨b4,(aE x25.2)⟩),fun _=>none⟩) (Gh.le (bF aV) (ab rfl (dQ.r) (ab rfl (dQ.r) ar)) aq) ?_;refine cF tk rfl (ps:=[(.agg (aE x25.2))]) ⟨_,_,rfl,⟨_,_,_,_,_,rfl,rfl,rfl,rfl⟩,rfl⟩ (PLe.q rfl) (HSub.updB rfl) ⟨rfl,rfl⟩
 refine ah (ae (av tk ?_))
 obtain⟨x28,h28,H⟩:=ax H
 have s28:=aC b_rA x21.2 ([106,111,105,110]:List UInt8) _ h28;refine bE (g:=52) rfl rfl rfl Tryz.call52 [(1500,1500)] [] rfl rfl rfl rfl (dQ.of2 (eO.cons jn.boxT (eO.cons (jn.of_eq rfl) eO.nil))) (by rw[aU,be,bf];rfl) s28 ?_;rintro u28 H28h ⟨rfl,rfl⟩
 refine⟨_,rfl,?_⟩
 refine aH (st':=⟨_,_,upd (upd (upd (upd (fun _=>none) 1500 (some ⟨b_rA,(aa x28.2)⟩)) 5 (some ⟨b5,[(ac 0),(.str []),(.val (.slice none 0 0)),(.val (.slice none 0 0)),(.val (.slice none 0 0)),(.val (.slice none 0 0)),(ac 0),(ac 0),(.own 7 g7 (([inA]:List LQuery).map ak).length)]⟩)) 4 (some ⟨b4,[(ac 0),(.str []),(.val (.slice none 0 0)),(.val (.slice none 0 0)),(.val (.slice none 0 0)),(.val (.slice none 0 0)),(ac 0),(ac 0),(.val (.slice none 0 0))]⟩)) 2 (some ⟨b2,[(.box 1500 b_rA 0)]⟩),upd (fun _=>none) 7 (some ⟨g7,29,(([inA]:List LQuery).map ak),true⟩)⟩) (Gh.le (az _ _) (ab rfl (dQ.r) (ab rfl (dQ.r) (ab rfl (dQ.r) (ab rfl (dQ.r) ar)))) (aw aq)) ?_;refine ap tk rfl (af ?_);refine aT rfl H (fun H=>?_) (fun H=>?_)
 ·refine ah (ae (ap tk rfl (ao tk ?_)));refine af (ae (av tk ?_));refine aH (Gh.mvO 7 1628 rfl) ?_;refine aH (st':=⟨_,_,upd (upd (upd (upd (fun _=>none) 1500 (some ⟨b_rA,(aa x28.2)⟩)) 5 (some ⟨b5,[(ac 4),(.str []),(.val (.slice none 0 0)),(.val (.slice none 0 0)),(.val (.slice none 0 0)),(.val (.slice none 0 0)),(ac 0),(ac 0),(.own 1628 g7 (([inA]:List LQuery).map ak).length)]⟩)) 4 (some ⟨b4,[(ac 0),(.str []),(.val (.slice none 0 0)),(.val (.slice none 0 0)),(.val (.slice none 0 0)),(.val (.slice none 0 0)),(ac 0),(ac 0),(.val (.slice none 0 0))]⟩)) 2 (some ⟨b2,[(.box 1500 b_rA 0)]⟩),upd (fun _=>none) 1628 (some ⟨g7,29,(([inA]:List LQuery).map ak),true⟩)⟩) (Gh.le (az _ _) (ab rfl (dQ.r) (ab rfl (dQ.r) (ab rfl (dQ.of2 (eO.cons (jn.of_eq rfl) (eO.cons (jn.of_eq rfl) (eO.cons (jn.of_eq rfl) (eO.cons (jn.of_eq rfl) (eO.cons (jn.of_eq rfl) (eO.cons (jn.of_eq rfl) (eO.cons (jn.of_eq rfl) (eO.cons (jn.of_eq rfl) (eO.cons (jn.own rfl) eO.nil)))))))))) (ab rfl (dQ.r) ar)))) (aw aq)) ?_
  obtain⟨y31,h31,X31,H⟩:=bq H
  have s31:=hrec89 b_rA b5 g7 x28.2 (LQuery.mk 4 [] [] [] [] [] 0 0 [inA]) _ h31;refine aH (st':=⟨_,_,upd (upd (upd (upd (fun _=>none) 1500 (some ⟨b_rA,(aa x28.2)⟩)) 5 (some ⟨b5,[(ac ((LQuery.mk 4 [] [] [] [] [] 0 0 [inA]).kind)),(.str ((LQuery.mk 4 [] [] [] [] [] 0 0 [inA]).table)),(.list 9 (((LQuery.mk 4 [] [] [] [] [] 0 0 [inA]).names).map aD)),(.list 82 (((LQuery.mk 4 [] [] [] [] [] 0 0 [inA]).exprs).map am)),(.list 85 (((LQuery.mk 4 [] [] [] [] [] 0 0 [inA]).aggregates).map aA)),(.list 4 (((LQuery.mk 4 [] [] [] [] [] 0 0 [inA]).descending).map aB)),(ac ((LQuery.mk 4 [] [] [] [] [] 0 0 [inA]).count)),(ac ((LQuery.mk 4 [] [] [] [] [] 0 0 [inA]).offset)),(.own 1628 g7 (([inA]:List LQuery).map ak).length)]⟩)) 4 (some ⟨b4,[(ac 0),(.str []),(.val (.slice none 0 0)),(.val (.slice none 0 0)),(.val (.slice none 0 0)),(.val (.slice none 0 0)),(ac 0),(ac 0),(.val (.slice none 0 0))]⟩)) 2 (some ⟨b2,[(.box 1500 b_rA 0)]⟩),upd (fun _=>none) 1628 (some ⟨g7,29,(([inA]:List LQuery).map ak),true⟩)⟩) (Gh.le (az _ _) (ab rfl (dQ.r) (ab rfl (dQ.r) (ab rfl (dQ.of2 (eO.cons (jn.of_eq rfl) (eO.cons (jn.of_eq rfl) (eO.cons (jn.nil tk rfl) (eO.cons (jn.nil tk rfl) (eO.cons (jn.nil tk rfl) (eO.cons (jn.nil tk rfl) (eO.cons (jn.of_eq rfl) (eO.cons (jn.of_eq rfl) (eO.cons (jn.of_eq rfl) eO.nil)))))))))) (ab rfl (dQ.r) ar)))) (aw aq)) ?_;refine aP Tryz.call89 [(1500,1500),(5,1501)] [(1628,1628)] s31 (X31 _) ?_;rintro u31 H31h hR31
  obtain⟨x31,⟨gz31_1628,rfl,rfl⟩,H⟩:=H _ _ _ hR31
  refine⟨_,rfl,?_⟩
  refine aH (st':=⟨_,_,upd (upd (upd (upd (fun _=>none) 1500 (some ⟨b_rA,(aa x31.1)⟩)) 5 (some ⟨b5,[(ac x31.2.kind),(.str x31.2.table),(.list 9 (x31.2.names.map aD)),(.list 82 (x31.2.exprs.map am)),(.list 85 (x31.2.aggregates.map aA)),(.list 4 (x31.2.descending.map aB)),(ac x31.2.count),(ac x31.2.offset),(.own 1628 gz31_1628 (x31.2.inputs.map ak).length)]⟩)) 4 (some ⟨b4,[(ac 0),(.str []),(.val (.slice none 0 0)),(.val (.slice none 0 0)),(.val (.slice none 0 0)),(.val (.slice none 0 0)),(ac 0),(ac 0),(.val (.slice none 0 0))]⟩)) 2 (some ⟨b2,[(.box 1500 b_rA 0)]⟩),upd (fun _=>none) 1628 (some ⟨gz31_1628,29,(x31.2.inputs.map ak),true⟩)⟩) (Gh.le (az _ _) (ab rfl (dQ.r) (ab rfl (dQ.r) (ab rfl (dQ.r) (ab rfl (dQ.r) ar)))) (aw aq)) ?_;refine af (bU (ah (ae (av tk ?_))));refine ao tk ?_;refine af ?_;obtain rfl:=aF H;refine bS 4 8 rfl rfl rfl rfl rfl ?_;refine bD (st':=⟨100,upd (fun _=>.any) 4 (.box 4 b4 0),upd (upd (fun _=>none) 1500 (some ⟨b_rA,(aa x31.1)⟩)) 4 (some ⟨b4,(aE x31.2)⟩),fun _=>none⟩) (Gh.le (bF aV) (ab rfl (dQ.r) (ab rfl (dQ.r) ar)) aq) ?_;refine cF tk rfl (ps:=[(.agg (aE x31.2))]) ⟨_,_,rfl,⟨_,_,_,_,_,rfl,rfl,rfl,rfl⟩,rfl⟩ (PLe.q rfl) (HSub.updB rfl) ⟨rfl,rfl⟩
 refine ah (ae (av tk ?_))
 obtain⟨x34,h34,H⟩:=ax H
 have s34:=aC b_rA x28.2 ([108,101,102,116]:List UInt8) _ h34;refine bE (g:=52) rfl rfl rfl Tryz.call52 [(1500,1500)] [] rfl rfl rfl rfl (dQ.of2 (eO.cons jn.boxT (eO.cons (jn.of_eq rfl) eO.nil))) (by rw[aU,be,bf];rfl) s34 ?_;rintro u34 H34h ⟨rfl,rfl⟩
 refine⟨_,rfl,?_⟩
 refine aH (st':=⟨_,_,upd (upd (upd (upd (fun _=>none) 1500 (some ⟨b_rA,(aa x34.2)⟩)) 5 (some ⟨b5,[(ac 0),(.str []),(.val (.slice none 0 0)),(.val (.slice none 0 0)),(.val (.slice none 0 0)),(.val (.slice none 0 0)),(ac 0),(ac 0),(.own 7 g7 (([inA]:List LQuery).map ak).length)]⟩)) 4 (some ⟨b4,[(ac 0),(.str []),(.val (.slice none 0 0)),(.val (.slice none 0 0)),(.val (.slice none 0 0)),(.val (.slice none 0 0)),(ac 0),(ac 0),(.val (.slice none 0 0))]⟩)) 2 (some ⟨b2,[(.box 1500 b_rA 0)]⟩),upd (fun _=>none) 7 (some ⟨g7,29,(([inA]:List LQuery).map ak),true⟩)⟩) (Gh.le (az _ _) (ab rfl (dQ.r) (ab rfl (dQ.r) (ab rfl (dQ.r) (ab rfl (dQ.r) ar)))) (aw aq)) ?_;refine ap tk rfl (af ?_);refine aT rfl H (fun H=>?_) (fun H=>?_)
 ·refine ah (ae (av tk ?_))
  obtain⟨y36,h36,X36,H⟩:=bq H
  have s36:=aS b_rA x34.2 ([106,111,105,110]:List UInt8) _ h36;refine aP Tryz.call53 [(1500,1500)] [] s36 (X36 _) ?_;rintro u36 H36h hR36
  obtain⟨x36,⟨rfl,rfl⟩,H⟩:=H _ _ _ hR36
  refine⟨_,rfl,?_⟩
  refine aH (st':=⟨_,_,upd (upd (upd (upd (fun _=>none) 1500 (some ⟨b_rA,(aa x36)⟩)) 5 (some ⟨b5,[(ac 0),(.str []),(.val (.slice none 0 0)),(.val (.slice none 0 0)),(.val (.slice none 0 0)),(.val (.slice none 0 0)),(ac 0),(ac 0),(.own 7 g7 (([inA]:List LQuery).map ak).length)]⟩)) 4 (some ⟨b4,[(ac 0),(.str []),(.val (.slice none 0 0)),(.val (.slice none 0 0)),(.val (.slice none 0 0)),(.val (.slice none 0 0)),(ac 0),(ac 0),(.val (.slice none 0 0))]⟩)) 2 (some ⟨b2,[(.box 1500 b_rA 0)]⟩),upd (fun _=>none) 7 (some ⟨g7,29,(([inA]:List LQuery).map ak),true⟩)⟩) (Gh.le (az _ _) (ab rfl (dQ.r) (ab rfl (dQ.r) (ab rfl (dQ.r) (ab rfl (dQ.r) ar)))) (aw aq)) ?_;refine af (ah (ae (ap tk rfl (ao tk ?_))));refine af (ae (av tk ?_));refine aH (Gh.mvO 7 1628 rfl) ?_;refine aH (st':=⟨_,_,upd (upd (upd (upd (fun _=>none) 1500 (some ⟨b_rA,(aa x36)⟩)) 5 (some ⟨b5,[(ac 5),(.str []),(.val (.slice none 0 0)),(.val (.slice none 0 0)),(.val (.slice none 0 0)),(.val (.slice none 0 0)),(ac 0),(ac 0),(.own 1628 g7 (([inA]:List LQuery).map ak).length)]⟩)) 4 (some ⟨b4,[(ac 0),(.str []),(.val (.slice none 0 0)),(.val (.slice none 0 0)),(.val (.slice none 0 0)),(.val (.slice none 0 0)),(ac 0),(ac 0),(.val (.slice none 0 0))]⟩)) 2 (some ⟨b2,[(.box 1500 b_rA 0)]⟩),upd (fun _=>none) 1628 (some ⟨g7,29,(([inA]:List LQuery).map ak),true⟩)⟩) (Gh.le (az _ _) (ab rfl (dQ.r) (ab rfl (dQ.r) (ab rfl (dQ.of2 (eO.cons (jn.of_eq rfl) (eO.cons (jn.of_eq rfl) (eO.cons (jn.of_eq rfl) (eO.cons (jn.of_eq rfl) (eO.cons (jn.of_eq rfl) (eO.cons (jn.of_eq rfl) (eO.cons (jn.of_eq rfl) (eO.cons (jn.of_eq rfl) (eO.cons (jn.own rfl) eO.nil)))))))))) (ab rfl (dQ.r) ar)))) (aw aq)) ?_
  obtain⟨y39,h39,X39,H⟩:=bq H
  have s39:=hrec89 b_rA b5 g7 x36 (LQuery.mk 5 [] [] [] [] [] 0 0 [inA]) _ h39;refine aH (st':=⟨_,_,upd (upd (upd (upd (fun _=>none) 1500 (some ⟨b_rA,(aa x36)⟩)) 5 (some ⟨b5,[(ac ((LQuery.mk 5 [] [] [] [] [] 0 0 [inA]).kind)),(.str ((LQuery.mk 5 [] [] [] [] [] 0 0 [inA]).table)),(.list 9 (((LQuery.mk 5 [] [] [] [] [] 0 0 [inA]).names).map aD)),(.list 82 (((LQuery.mk 5 [] [] [] [] [] 0 0 [inA]).exprs).map am)),(.list 85 (((LQuery.mk 5 [] [] [] [] [] 0 0 [inA]).aggregates).map aA)),(.list 4 (((LQuery.mk 5 [] [] [] [] [] 0 0 [inA]).descending).map aB)),(ac ((LQuery.mk 5 [] [] [] [] [] 0 0 [inA]).count)),(ac ((LQuery.mk 5 [] [] [] [] [] 0 0 [inA]).offset)),(.own 1628 g7 (([inA]:List LQuery).map ak).length)]⟩)) 4 (some ⟨b4,[(ac 0),(.str []),(.val (.slice none 0 0)),(.val (.slice none 0 0)),(.val (.slice none 0 0)),(.val (.slice none 0 0)),(ac 0),(ac 0),(.val (.slice none 0 0))]⟩)) 2 (some ⟨b2,[(.box 1500 b_rA 0)]⟩),upd (fun _=>none) 1628 (some ⟨g7,29,(([inA]:List LQuery).map ak),true⟩)⟩) (Gh.le (az _ _) (ab rfl (dQ.r) (ab rfl (dQ.r) (ab rfl (dQ.of2 (eO.cons (jn.of_eq rfl) (eO.cons (jn.of_eq rfl) (eO.cons (jn.nil tk rfl) (eO.cons (jn.nil tk rfl) (eO.cons (jn.nil tk rfl) (eO.cons (jn.nil tk rfl) (eO.cons (jn.of_eq rfl) (eO.cons (jn.of_eq rfl) (eO.cons (jn.of_eq rfl) eO.nil)))))))))) (ab rfl (dQ.r) ar)))) (aw aq)) ?_;refine aP Tryz.call89 [(1500,1500),(5,1501)] [(1628,1628)] s39 (X39 _) ?_;rintro u39 H39h hR39
  obtain⟨x39,⟨gz39_1628,rfl,rfl⟩,H⟩:=H _ _ _ hR39
  refine⟨_,rfl,?_⟩
  refine aH (st':=⟨_,_,upd (upd (upd (upd (fun _=>none) 1500 (some ⟨b_rA,(aa x39.1)⟩)) 5 (some ⟨b5,[(ac x39.2.kind),(.str x39.2.table),(.list 9 (x39.2.names.map aD)),(.list 82 (x39.2.exprs.map am)),(.list 85 (x39.2.aggregates.map aA)),(.list 4 (x39.2.descending.map aB)),(ac x39.2.count),(ac x39.2.offset),(.own 1628 gz39_1628 (x39.2.inputs.map ak).length)]⟩)) 4 (some ⟨b4,[(ac 0),(.str []),(.val (.slice none 0 0)),(.val (.slice none 0 0)),(.val (.slice none 0 0)),(.val (.slice none 0 0)),(ac 0),(ac 0),(.val (.slice none 0 0))]⟩)) 2 (some ⟨b2,[(.box 1500 b_rA 0)]⟩),upd (fun _=>none) 1628 (some ⟨gz39_1628,29,(x39.2.inputs.map ak),true⟩)⟩) (Gh.le (az _ _) (ab rfl (dQ.r) (ab rfl (dQ.r) (ab rfl (dQ.r) (ab rfl (dQ.r) ar)))) (aw aq)) ?_;refine af (bU (ah (ae (av tk ?_))));refine ao tk ?_;refine af ?_;obtain rfl:=aF H;refine bS 4 8 rfl rfl rfl rfl rfl ?_;refine bD (st':=⟨100,upd (fun _=>.any) 4 (.box 4 b4 0),upd (upd (fun _=>none) 1500 (some ⟨b_rA,(aa x39.1)⟩)) 4 (some ⟨b4,(aE x39.2)⟩),fun _=>none⟩) (Gh.le (bF aV) (ab rfl (dQ.r) (ab rfl (dQ.r) ar)) aq) ?_;refine cF tk rfl (ps:=[(.agg (aE x39.2))]) ⟨_,_,rfl,⟨_,_,_,_,_,rfl,rfl,rfl,rfl⟩,rfl⟩ (PLe.q rfl) (HSub.updB rfl) ⟨rfl,rfl⟩
 refine ah (ae (av tk ?_))
 obtain⟨x42,h42,H⟩:=ax H
 have s42:=aC b_rA x34.2 ([117,110,105,111,110]:List UInt8) _ h42;refine bE (g:=52) rfl rfl rfl Tryz.call52 [(1500,1500)] [] rfl rfl rfl rfl (dQ.of2 (eO.cons jn.boxT (eO.cons (jn.of_eq rfl) eO.nil))) (by rw[aU,be,bf];rfl) s42 ?_;rintro u42 H42h ⟨rfl,rfl⟩
 refine⟨_,rfl,?_⟩
 refine aH (st':=⟨_,_,upd (upd (upd (upd (fun _=>none) 1500 (some ⟨b_rA,(aa x42.2)⟩)) 5 (some ⟨b5,[(ac 0),(.str []),(.val (.slice none 0 0)),(.val (.slice none 0 0)),(.val (.slice none 0 0)),(.val (.slice none 0 0)),(ac 0),(ac 0),(.own 7 g7 (([inA]:List LQuery).map ak).length)]⟩)) 4 (some ⟨b4,[(ac 0),(.str []),(.val (.slice none 0 0)),(.val (.slice none 0 0)),(.val (.slice none 0 0)),(.val (.slice none 0 0)),(ac 0),(ac 0),(.val (.slice none 0 0))]⟩)) 2 (some ⟨b2,[(.box 1500 b_rA 0)]⟩),upd (fun _=>none) 7 (some ⟨g7,29,(([inA]:List LQuery).map ak),true⟩)⟩) (Gh.le (az _ _) (ab rfl (dQ.r) (ab rfl (dQ.r) (ab rfl (dQ.r) (ab rfl (dQ.r) ar)))) (aw aq)) ?_;refine ap tk rfl (af ?_);refine aT rfl H (fun H=>?_) (fun H=>?_)
 ·refine de tk mok ⟨true,false,[999997,3000002,3000005,4000044,4000045]⟩ [0,1,2,3,4,5,6,7,8,9] rfl (by decide+kernel) rfl (bQ rfl (dG tk ?_));refine dG tk ?_
  obtain⟨y46,h46,X46,H⟩:=bq H
  have s46:=hrec90 b_rA x42.2 _ h46;refine fU Tryz.call90 [(1500,1500)] [] s46 (X46 _) ?_;rintro u46 H46h hR46
  obtain⟨x46,⟨rfl,rfl⟩,H⟩:=H _ _ _ hR46
  refine⟨_,rfl,?_⟩
  refine bQ rfl ?_
  obtain⟨x48,h48,H⟩:=ax H
  have k48:=dU h48;refine gG (rows2':=List.map ak ([x46.1]:List LQuery)) (rows':=List.map ak x48) tk rfl rfl rfl rfl rfl rfl rfl rfl rfl rfl rfl rfl rfl rfl (dN.trans (b:=List.map aE [x46.1]) (dN.refl _) (dN.of_eq (em dZ [x46.1]))) (fc k48.1) (fa k48.2.1) (eZ k48.2.2) fun g48=>?_
  refine bQ rfl (fW rfl rfl rfl rfl rfl rfl rfl rfl rfl rfl rfl rfl (bQ rfl (fW rfl rfl rfl rfl rfl rfl rfl rfl rfl rfl rfl rfl (bP ?_))));refine bD (st':=⟨_,_,upd (upd (upd (upd (fun _=>none) 1500 (some ⟨b_rA,(aa x46.2)⟩)) 5 (some ⟨b5,[(ac 6),(.str []),(.val (.slice none 0 0)),(.val (.slice none 0 0)),(.val (.slice none 0 0)),(.val (.slice none 0 0)),(ac 0),(ac 0),(.own 7 g48 (x48.map ak).length)]⟩)) 4 (some ⟨b4,[(ac 0),(.str []),(.val (.slice none 0 0)),(.val (.slice none 0 0)),(.val (.slice none 0 0)),(.val (.slice none 0 0)),(ac 0),(ac 0),(.val (.slice none 0 0))]⟩)) 2 (some ⟨b2,[(.box 1500 b_rA 0)]⟩),upd (fun _=>none) 7 (some ⟨g48,29,(x48.map ak),true⟩)⟩) (Gh.le (az _ _) (ab rfl (dQ.r) (ab rfl (dQ.r) (ab rfl (dQ.r) (ab rfl (dQ.r) ar)))) (aw aq)) ?_;refine bU (ah (ae (av tk ?_)));refine ao tk ?_;refine af ?_;obtain rfl:=aF H;refine bS 4 8 rfl rfl rfl rfl rfl ?_;refine bD (st':=⟨100,upd (fun _=>.any) 4 (.box 4 b4 0),upd (upd (fun _=>none) 1500 (some ⟨b_rA,(aa x46.2)⟩)) 4 (some ⟨b4,[(ac 6),(.str []),(.val (.slice none 0 0)),(.val (.slice none 0 0)),(.val (.slice none 0 0)),(.val (.slice none 0 0)),(ac 0),(ac 0),(.list 29 (x48.map ak))]⟩),fun _=>none⟩) (Gh.le (bF aV) (ab rfl (dQ.r) (ab rfl (dQ.r) ar)) aq) ?_;refine cF tk rfl (ps:=[(.agg [(ac 6),(.str []),(.val (.slice none 0 0)),(.val (.slice none 0 0)),(.val (.slice none 0 0)),(.val (.slice none 0 0)),(ac 0),(ac 0),(.list 29 (x48.map ak))])]) ⟨_,_,rfl,⟨_,_,_,_,_,rfl,rfl,rfl,rfl⟩,rfl⟩ (PLe.of2 (jn.agg (eO.cons (jn.of_eq rfl) (eO.cons (jn.of_eq rfl) (eO.cons (jn.nil tk rfl) (eO.cons (jn.nil tk rfl) (eO.cons (jn.nil tk rfl) (eO.cons (jn.nil tk rfl) (eO.cons (jn.of_eq rfl) (eO.cons (jn.of_eq rfl) (eO.cons (jn.of_eq rfl) eO.nil))))))))))) (HSub.updB rfl) ⟨rfl,rfl⟩
 refine ah (ae (av tk ?_))
 obtain⟨x53,h53,H⟩:=ax H
 have s53:=aC b_rA x42.2 ([101,120,99,101,112,116]:List UInt8) _ h53;refine bE (g:=52) rfl rfl rfl Tryz.call52 [(1500,1500)] [] rfl rfl rfl rfl (dQ.of2 (eO.cons jn.boxT (eO.cons (jn.of_eq rfl) eO.nil))) (by rw[aU,be,bf];rfl) s53 ?_;rintro u53 H53h ⟨rfl,rfl⟩
 refine⟨_,rfl,?_⟩
 refine aH (st':=⟨_,_,upd (upd (upd (upd (fun _=>none) 1500 (some ⟨b_rA,(aa x53.2)⟩)) 5 (some ⟨b5,[(ac 0),(.str []),(.val (.slice none 0 0)),(.val (.slice none 0 0)),(.val (.slice none 0 0)),(.val (.slice none 0 0)),(ac 0),(ac 0),(.own 7 g7 (([inA]:List LQuery).map ak).length)]⟩)) 4 (some ⟨b4,[(ac 0),(.str []),(.val (.slice none 0 0)),(.val (.slice none 0 0)),(.val (.slice none 0 0)),(.val (.slice none 0 0)),(ac 0),(ac 0),(.val (.slice none 0 0))]⟩)) 2 (some ⟨b2,[(.box 1500 b_rA 0)]⟩),upd (fun _=>none) 7 (some ⟨g7,29,(([inA]:List LQuery).map ak),true⟩)⟩) (Gh.le (az _ _) (ab rfl (dQ.r) (ab rfl (dQ.r) (ab rfl (dQ.r) (ab rfl (dQ.r) ar)))) (aw aq)) ?_;refine ap tk rfl (af ?_);refine aT rfl H (fun H=>?_) (fun H=>?_)
 ·refine de tk mok ⟨true,false,[999997,3000002,3000005,4000055,4000056]⟩ [0,1,2,3,4,5,6,7,8,9] rfl (by decide+kernel) rfl (bQ rfl (dG tk ?_));refine dG tk ?_
  obtain⟨y57,h57,X57,H⟩:=bq H
  have s57:=hrec90 b_rA x53.2 _ h57;refine fU Tryz.call90 [(1500,1500)] [] s57 (X57 _) ?_;rintro u57 H57h hR57
  obtain⟨x57,⟨rfl,rfl⟩,H⟩:=H _ _ _ hR57
  refine⟨_,rfl,?_⟩
  refine bQ rfl ?_
  obtain⟨x59,h59,H⟩:=ax H
  have k59:=dU h59;refine gG (rows2':=List.map ak ([x57.1]:List LQuery)) (rows':=List.map ak x59) tk rfl rfl rfl rfl rfl rfl rfl rfl rfl rfl rfl rfl rfl rfl (dN.trans (b:=List.map aE [x57.1]) (dN.refl _) (dN.of_eq (em dZ [x57.1]))) (fc k59.1) (fa k59.2.1) (eZ k59.2.2) fun g59=>?_
  refine bQ rfl (fW rfl rfl rfl rfl rfl rfl rfl rfl rfl rfl rfl rfl (bQ rfl (fW rfl rfl rfl rfl rfl rfl rfl rfl rfl rfl rfl rfl (bP ?_))));refine bD (st':=⟨_,_,upd (upd (upd (upd (fun _=>none) 1500 (some ⟨b_rA,(aa x57.2)⟩)) 5 (some ⟨b5,[(ac 7),(.str []),(.val (.slice none 0 0)),(.val (.slice none 0 0)),(.val (.slice none 0 0)),(.val (.slice none 0 0)),(ac 0),(ac 0),(.own 7 g59 (x59.map ak).length)]⟩)) 4 (some ⟨b4,[(ac 0),(.str []),(.val (.slice none 0 0)),(.val (.slice none 0 0)),(.val (.slice none 0 0)),(.val (.slice none 0 0)),(ac 0),(ac 0),(.val (.slice none 0 0))]⟩)) 2 (some ⟨b2,[(.box 1500 b_rA 0)]⟩),upd (fun _=>none) 7 (some ⟨g59,29,(x59.map ak),true⟩)⟩) (Gh.le (az _ _) (ab rfl (dQ.r) (ab rfl (dQ.r) (ab rfl (dQ.r) (ab rfl (dQ.r) ar)))) (aw aq)) ?_;refine bU (ah (ae (av tk ?_)));refine ao tk ?_;refine af ?_;obtain rfl:=aF H;refine bS 4 8 rfl rfl rfl rfl rfl ?_;refine bD (st':=⟨100,upd (fun _=>.any) 4 (.box 4 b4 0),upd (upd (fun _=>none) 1500 (some ⟨b_rA,(aa x57.2)⟩)) 4 (some ⟨b4,[(ac 7),(.str []),(.val (.slice none 0 0)),(.val (.slice none 0 0)),(.val (.slice none 0 0)),(.val (.slice none 0 0)),(ac 0),(ac 0),(.list 29 (x59.map ak))]⟩),fun _=>none⟩) (Gh.le (bF aV) (ab rfl (dQ.r) (ab rfl (dQ.r) ar)) aq) ?_;refine cF tk rfl (ps:=[(.agg [(ac 7),(.str []),(.val (.slice none 0 0)),(.val (.slice none 0 0)),(.val (.slice none 0 0)),(.val (.slice none 0 0)),(ac 0),(ac 0),(.list 29 (x59.map ak))])]) ⟨_,_,rfl,⟨_,_,_,_,_,rfl,rfl,rfl,rfl⟩,rfl⟩ (PLe.of2 (jn.agg (eO.cons (jn.of_eq rfl) (eO.cons (jn.of_eq rfl) (eO.cons (jn.nil tk rfl) (eO.cons (jn.nil tk rfl) (eO.cons (jn.nil tk rfl) (eO.cons (jn.nil tk rfl) (eO.cons (jn.of_eq rfl) (eO.cons (jn.of_eq rfl) (eO.cons (jn.of_eq rfl) eO.nil))))))))))) (HSub.updB rfl) ⟨rfl,rfl⟩
 refine ah (ae (av tk ?_))
 obtain⟨x64,h64,H⟩:=ax H
 have s64:=aC b_rA x53.2 ([103,114,111,117,112]:List UInt8) _ h64;refine bE (g:=52) rfl rfl rfl Tryz.call52 [(1500,1500)] [] rfl rfl rfl rfl (dQ.of2 (eO.cons jn.boxT (eO.cons (jn.of_eq rfl) eO.nil))) (by rw[aU,be,bf];rfl) s64 ?_;rintro u64 H64h ⟨rfl,rfl⟩
 refine⟨_,rfl,?_⟩
 refine aH (st':=⟨_,_,upd (upd (upd (upd (fun _=>none) 1500 (some ⟨b_rA,(aa x64.2)⟩)) 5 (some ⟨b5,[(ac 0),(.str []),(.val (.slice none 0 0)),(.val (.slice none 0 0)),(.val (.slice none 0 0)),(.val (.slice none 0 0)),(ac 0),(ac 0),(.own 7 g7 (([inA]:List LQuery).map ak).length)]⟩)) 4 (some ⟨b4,[(ac 0),(.str []),(.val (.slice none 0 0)),(.val (.slice none 0 0)),(.val (.slice none 0 0)),(.val (.slice none 0 0)),(ac 0),(ac 0),(.val (.slice none 0 0))]⟩)) 2 (some ⟨b2,[(.box 1500 b_rA 0)]⟩),upd (fun _=>none) 7 (some ⟨g7,29,(([inA]:List LQuery).map ak),true⟩)⟩) (Gh.le (az _ _) (ab rfl (dQ.r) (ab rfl (dQ.r) (ab rfl (dQ.r) (ab rfl (dQ.r) ar)))) (aw aq)) ?_;refine ap tk rfl (af ?_);refine aT rfl H (fun H=>?_) (fun H=>?_)
 ·refine ah (ae (ap tk rfl (ao tk ?_)));refine af (ae (av tk ?_));refine aH (Gh.eQ tk 5 2 1622 (e:=9) rfl rfl rfl rfl) (aH (Gh.eQ tk 5 3 1623 (e:=82) rfl rfl rfl rfl) (aH (Gh.eQ tk 5 4 1624 (e:=85) rfl rfl rfl rfl) (aH (Gh.eQ tk 5 5 1625 (e:=4) rfl rfl rfl rfl) (aH (Gh.freezeOB 5 8 rfl rfl rfl rfl rfl) ?_))))
  obtain⟨y67,h67,X67,H⟩:=bq H
  have s67:=jr b_rA b5 (⟨none,0⟩) (⟨none,0⟩) (⟨none,0⟩) (⟨none,0⟩) x64.2 (LQuery.mk 8 [] [] [] [] [] 0 0 [inA]) _ h67;refine aP Tryz.call91 [(1500,1500),(5,1501)] [(1622,1622),(1623,1623),(1624,1624),(1625,1625)] s67 (X67 _) ?_;rintro u67 H67h hR67
  obtain⟨x67,⟨gz67_1622,gz67_1623,gz67_1624,gz67_1625,rfl,rfl⟩,H⟩:=H _ _ _ hR67
  refine⟨_,rfl,?_⟩
  refine aH (st':=⟨_,_,upd (upd (upd (upd (fun _=>none) 1500 (some ⟨b_rA,(aa x67.1)⟩)) 5 (some ⟨b5,[(ac x67.2.kind),(.str x67.2.table),(.own 1622 gz67_1622 (x67.2.names.map aD).length),(.own 1623 gz67_1623 (x67.2.exprs.map am).length),(.own 1624 gz67_1624 (x67.2.aggregates.map aA).length),(.own 1625 gz67_1625 (x67.2.descending.map aB).length),(ac x67.2.count),(ac x67.2.offset),(.list 29 (x67.2.inputs.map ak))]⟩)) 4 (some ⟨b4,[(ac 0),(.str []),(.val (.slice none 0 0)),(.val (.slice none 0 0)),(.val (.slice none 0 0)),(.val (.slice none 0 0)),(ac 0),(ac 0),(.val (.slice none 0 0))]⟩)) 2 (some ⟨b2,[(.box 1500 b_rA 0)]⟩),upd (upd (upd (upd (upd (fun _=>none) 7 (some ⟨g7,29,(([inA]:List LQuery).map ak),false⟩)) 1625 (some ⟨gz67_1625,4,(x67.2.descending.map aB),true⟩)) 1624 (some ⟨gz67_1624,85,(x67.2.aggregates.map aA),true⟩)) 1623 (some ⟨gz67_1623,82,(x67.2.exprs.map am),true⟩)) 1622 (some ⟨gz67_1622,9,(x67.2.names.map aD),true⟩)⟩) (Gh.le (az _ _) (ab rfl (dQ.r) (ab rfl (dQ.r) (ab rfl (dQ.r) (ab rfl (dQ.r) ar)))) (aw (aw (aw (aw (aw aq)))))) ?_;refine af (bU (ah (ae (av tk ?_))));refine ao tk ?_;refine af ?_;obtain rfl:=aF H;refine bS 4 2 rfl rfl rfl rfl rfl (bS 4 3 rfl rfl rfl rfl rfl (bS 4 4 rfl rfl rfl rfl rfl (bS 4 5 rfl rfl rfl rfl rfl ?_)));refine bD (st':=⟨100,upd (fun _=>.any) 4 (.box 4 b4 0),upd (upd (fun _=>none) 1500 (some ⟨b_rA,(aa x67.1)⟩)) 4 (some ⟨b4,(aE x67.2)⟩),fun _=>none⟩) (Gh.le (bF aV) (ab rfl (dQ.r) (ab rfl (dQ.r) ar)) aq) ?_;refine cF tk rfl (ps:=[(.agg (aE x67.2))]) ⟨_,_,rfl,⟨_,_,_,_,_,rfl,rfl,rfl,rfl⟩,rfl⟩ (PLe.q rfl) (HSub.updB rfl) ⟨rfl,rfl⟩
 refine ah (ae (av tk ?_))
 obtain⟨x70,h70,H⟩:=ax H
 have s70:=aC b_rA x64.2 ([115,111,114,116]:List UInt8) _ h70;refine bE (g:=52) rfl rfl rfl Tryz.call52 [(1500,1500)] [] rfl rfl rfl rfl (dQ.of2 (eO.cons jn.boxT (eO.cons (jn.of_eq rfl) eO.nil))) (by rw[aU,be,bf];rfl) s70 ?_;rintro u70 H70h ⟨rfl,rfl⟩
 refine⟨_,rfl,?_⟩
 refine aH (st':=⟨_,_,upd (upd (upd (upd (fun _=>none) 1500 (some ⟨b_rA,(aa x70.2)⟩)) 5 (some ⟨b5,[(ac 0),(.str []),(.val (.slice none 0 0)),(.val (.slice none 0 0)),(.val (.slice none 0 0)),(.val (.slice none 0 0)),(ac 0),(ac 0),(.own 7 g7 (([inA]:List LQuery).map ak).length)]⟩)) 4 (some ⟨b4,[(ac 0),(.str []),(.val (.slice none 0 0)),(.val (.slice none 0 0)),(.val (.slice none 0 0)),(.val (.slice none 0 0)),(ac 0),(ac 0),(.val (.slice none 0 0))]⟩)) 2 (some ⟨b2,[(.box 1500 b_rA 0)]⟩),upd (fun _=>none) 7 (some ⟨g7,29,(([inA]:List LQuery).map ak),true⟩)⟩) (Gh.le (az _ _) (ab rfl (dQ.r) (ab rfl (dQ.r) (ab rfl (dQ.r) (ab rfl (dQ.r) ar)))) (aw aq)) ?_;refine ap tk rfl (af ?_);refine aT rfl H (fun H=>?_) (fun H=>?_)
 ·refine ah (ae (ap tk rfl (ao tk ?_)));refine af (ae (av tk ?_));refine ap tk rfl (aH (Gh.eQ tk 5 2 1622 (e:=9) rfl rfl rfl rfl) (aH (Gh.eQ tk 5 3 1623 (e:=82) rfl rfl rfl rfl) (aH (Gh.eQ tk 5 4 1624 (e:=85) rfl rfl rfl rfl) (aH (Gh.eQ tk 5 5 1625 (e:=4) rfl rfl rfl rfl) (aH (Gh.freezeOB 5 8 rfl rfl rfl rfl rfl) ?_)))))
  obtain⟨y74,h74,X74,H⟩:=bq H
  have s74:=iK b_rA b5 (⟨none,0⟩) (⟨none,0⟩) (⟨none,0⟩) (⟨none,0⟩) b2 x70.2 (LQuery.mk 9 [] [] [] [] [] 0 0 [inA]) _ h74;refine aP Tryz.call86 [(1500,1500),(5,1501),(2,1700)] [(1622,1622),(1623,1623),(1624,1624),(1625,1625)] s74 (X74 _) ?_;rintro u74 H74h hR74
  obtain⟨x74,⟨gz74_1622,gz74_1623,gz74_1624,gz74_1625,rfl,rfl⟩,H⟩:=H _ _ _ hR74
  refine⟨_,rfl,?_⟩
  refine aH (st':=⟨_,_,upd (upd (upd (upd (fun _=>none) 1500 (some ⟨b_rA,(aa x74.1)⟩)) 5 (some ⟨b5,[(ac x74.2.kind),(.str x74.2.table),(.own 1622 gz74_1622 (x74.2.names.map aD).length),(.own 1623 gz74_1623 (x74.2.exprs.map am).length),(.own 1624 gz74_1624 (x74.2.aggregates.map aA).length),(.own 1625 gz74_1625 (x74.2.descending.map aB).length),(ac x74.2.count),(ac x74.2.offset),(.list 29 (x74.2.inputs.map ak))]⟩)) 4 (some ⟨b4,[(ac 0),(.str []),(.val (.slice none 0 0)),(.val (.slice none 0 0)),(.val (.slice none 0 0)),(.val (.slice none 0 0)),(ac 0),(ac 0),(.val (.slice none 0 0))]⟩)) 2 (some ⟨b2,[(.box 1500 b_rA 0)]⟩),upd (upd (upd (upd (upd (fun _=>none) 7 (some ⟨g7,29,(([inA]:List LQuery).map ak),false⟩)) 1625 (some ⟨gz74_1625,4,(x74.2.descending.map aB),true⟩)) 1624 (some ⟨gz74_1624,85,(x74.2.aggregates.map aA),true⟩)) 1623 (some ⟨gz74_1623,82,(x74.2.exprs.map am),true⟩)) 1622 (some ⟨gz74_1622,9,(x74.2.names.map aD),true⟩)⟩) (Gh.le (az _ _) (ab rfl (dQ.r) (ab rfl (dQ.r) (ab rfl (dQ.r) (ab rfl (dQ.r) ar)))) (aw (aw (aw (aw (aw aq)))))) ?_;refine af (bU (ah (ae (av tk ?_))));refine ao tk ?_;refine af ?_;obtain rfl:=aF H;refine bS 4 2 rfl rfl rfl rfl rfl (bS 4 3 rfl rfl rfl rfl rfl (bS 4 4 rfl rfl rfl rfl rfl (bS 4 5 rfl rfl rfl rfl rfl ?_)));refine bD (st':=⟨100,upd (fun _=>.any) 4 (.box 4 b4 0),upd (upd (fun _=>none) 1500 (some ⟨b_rA,(aa x74.1)⟩)) 4 (some ⟨b4,(aE x74.2)⟩),fun _=>none⟩) (Gh.le (bF aV) (ab rfl (dQ.r) (ab rfl (dQ.r) ar)) aq) ?_;refine cF tk rfl (ps:=[(.agg (aE x74.2))]) ⟨_,_,rfl,⟨_,_,_,_,_,rfl,rfl,rfl,rfl⟩,rfl⟩ (PLe.q rfl) (HSub.updB rfl) ⟨rfl,rfl⟩
 refine ah (ae (av tk ?_))
 obtain⟨x77,h77,H⟩:=ax H
 have s77:=aC b_rA x70.2 ([108,105,109,105,116]:List UInt8) _ h77;refine bE (g:=52) rfl rfl rfl Tryz.call52 [(1500,1500)] [] rfl rfl rfl rfl (dQ.of2 (eO.cons jn.boxT (eO.cons (jn.of_eq rfl) eO.nil))) (by rw[aU,be,bf];rfl) s77 ?_;rintro u77 H77h ⟨rfl,rfl⟩
 refine⟨_,rfl,?_⟩
 refine aH (st':=⟨_,_,upd (upd (upd (upd (fun _=>none) 1500 (some ⟨b_rA,(aa x77.2)⟩)) 5 (some ⟨b5,[(ac 0),(.str []),(.val (.slice none 0 0)),(.val (.slice none 0 0)),(.val (.slice none 0 0)),(.val (.slice none 0 0)),(ac 0),(ac 0),(.own 7 g7 (([inA]:List LQuery).map ak).length)]⟩)) 4 (some ⟨b4,[(ac 0),(.str []),(.val (.slice none 0 0)),(.val (.slice none 0 0)),(.val (.slice none 0 0)),(.val (.slice none 0 0)),(ac 0),(ac 0),(.val (.slice none 0 0))]⟩)) 2 (some ⟨b2,[(.box 1500 b_rA 0)]⟩),upd (fun _=>none) 7 (some ⟨g7,29,(([inA]:List LQuery).map ak),true⟩)⟩) (Gh.le (az _ _) (ab rfl (dQ.r) (ab rfl (dQ.r) (ab rfl (dQ.r) (ab rfl (dQ.r) ar)))) (aw aq)) ?_;refine ap tk rfl (af ?_);refine aT rfl H (fun H=>?_) (fun H=>?_)
 ·refine ah (ae (av tk ?_))
  obtain⟨y79,h79,X79,H⟩:=bq H
  have s79:=dO b_rA x77.2 _ h79;refine aP Tryz.call93 [(1500,1500)] [] s79 (X79 _) ?_;rintro u79 H79h hR79
  obtain⟨x79,⟨rfl,rfl⟩,H⟩:=H _ _ _ hR79
  refine⟨_,rfl,?_⟩
  refine aH (st':=⟨_,_,upd (upd (upd (upd (fun _=>none) 1500 (some ⟨b_rA,(aa x79.2)⟩)) 5 (some ⟨b5,[(ac 0),(.str []),(.val (.slice none 0 0)),(.val (.slice none 0 0)),(.val (.slice none 0 0)),(.val (.slice none 0 0)),(ac 0),(ac 0),(.own 7 g7 (([inA]:List LQuery).map ak).length)]⟩)) 4 (some ⟨b4,[(ac 0),(.str []),(.val (.slice none 0 0)),(.val (.slice none 0 0)),(.val (.slice none 0 0)),(.val (.slice none 0 0)),(ac 0),(ac 0),(.val (.slice none 0 0))]⟩)) 2 (some ⟨b2,[(.box 1500 b_rA 0)]⟩),upd (fun _=>none) 7 (some ⟨g7,29,(([inA]:List LQuery).map ak),true⟩)⟩) (Gh.le (az _ _) (ab rfl (dQ.r) (ab rfl (dQ.r) (ab rfl (dQ.r) (ab rfl (dQ.r) ar)))) (aw aq)) ?_;refine ap tk rfl (ao tk ?_);refine ap tk rfl (ao tk ?_);refine af (ah (ae (av tk ?_)))
  obtain⟨x83,h83,H⟩:=ax H
  have s83:=aC b_rA x79.2 ([111,102,102,115,101,116]:List UInt8) _ h83;refine bE (g:=52) rfl rfl rfl Tryz.call52 [(1500,1500)] [] rfl rfl rfl rfl (dQ.of2 (eO.cons jn.boxT (eO.cons (jn.of_eq rfl) eO.nil))) (by rw[aU,be,bf];rfl) s83 ?_;rintro u83 H83h ⟨rfl,rfl⟩
  refine⟨_,rfl,?_⟩
  refine aH (st':=⟨_,_,upd (upd (upd (upd (fun _=>none) 1500 (some ⟨b_rA,(aa x83.2)⟩)) 5 (some ⟨b5,[(ac 10),(.str []),(.val (.slice none 0 0)),(.val (.slice none 0 0)),(.val (.slice none 0 0)),(.val (.slice none 0 0)),(ac x79.1),(ac 0),(.own 7 g7 (([inA]:List LQuery).map ak).length)]⟩)) 4 (some ⟨b4,[(ac 0),(.str []),(.val (.slice none 0 0)),(.val (.slice none 0 0)),(.val (.slice none 0 0)),(.val (.slice none 0 0)),(ac 0),(ac 0),(.val (.slice none 0 0))]⟩)) 2 (some ⟨b2,[(.box 1500 b_rA 0)]⟩),upd (fun _=>none) 7 (some ⟨g7,29,(([inA]:List LQuery).map ak),true⟩)⟩) (Gh.le (az _ _) (ab rfl (dQ.r) (ab rfl (dQ.r) (ab rfl (dQ.r) (ab rfl (dQ.r) ar)))) (aw aq)) ?_;refine af ?_;refine aT rfl H (fun H=>?_) (fun H=>?_)
  ·refine ah (ae (av tk ?_))
   obtain⟨y85,h85,X85,H⟩:=bq H
   have s85:=dO b_rA x83.2 _ h85;refine aP Tryz.call93 [(1500,1500)] [] s85 (X85 _) ?_;rintro u85 H85h hR85
   obtain⟨x85,⟨rfl,rfl⟩,H⟩:=H _ _ _ hR85
   refine⟨_,rfl,?_⟩
   refine aH (st':=⟨_,_,upd (upd (upd (upd (fun _=>none) 1500 (some ⟨b_rA,(aa x85.2)⟩)) 5 (some ⟨b5,[(ac 10),(.str []),(.val (.slice none 0 0)),(.val (.slice none 0 0)),(.val (.slice none 0 0)),(.val (.slice none 0 0)),(ac x79.1),(ac 0),(.own 7 g7 (([inA]:List LQuery).map ak).length)]⟩)) 4 (some ⟨b4,[(ac 0),(.str []),(.val (.slice none 0 0)),(.val (.slice none 0 0)),(.val (.slice none 0 0)),(.val (.slice none 0 0)),(ac 0),(ac 0),(.val (.slice none 0 0))]⟩)) 2 (some ⟨b2,[(.box 1500 b_rA 0)]⟩),upd (fun _=>none) 7 (some ⟨g7,29,(([inA]:List LQuery).map ak),true⟩)⟩) (Gh.le (az _ _) (ab rfl (dQ.r) (ab rfl (dQ.r) (ab rfl (dQ.r) (ab rfl (dQ.r) ar)))) (aw aq)) ?_;refine ap tk rfl (ao tk ?_);refine af (ah (ae (ap tk rfl (av tk ?_))));refine ap tk rfl (af ?_);refine aT rfl H (fun H=>?_) (fun H=>?_)
   ·refine ah (ae (av tk ?_));refine au 2 tk rfl (av tk ?_);refine au 3 tk rfl (ao tk ?_);refine af (ae (av tk ?_))
    obtain⟨y98,h98,X98,H⟩:=bq H
    have s98:=bO b_rA (LQueryparserParser.mk x85.2.tokens (IntKind.i64.wrap (x85.2.next-(1:Int))) x85.2.size) _ h98;refine aP Tryz.call56 [(1500,1500)] [] s98 (X98 _) ?_;rintro u98 H98h hR98
    obtain⟨x98,⟨rfl,rfl⟩,H⟩:=H _ _ _ hR98
    refine⟨_,rfl,?_⟩
    refine aH (st':=⟨_,_,upd (upd (upd (upd (fun _=>none) 1500 (some ⟨b_rA,(aa x98)⟩)) 5 (some ⟨b5,[(ac 10),(.str []),(.val (.slice none 0 0)),(.val (.slice none 0 0)),(.val (.slice none 0 0)),(.val (.slice none 0 0)),(ac x79.1),(ac x85.1),(.own 7 g7 (([inA]:List LQuery).map ak).length)]⟩)) 4 (some ⟨b4,[(ac 0),(.str []),(.val (.slice none 0 0)),(.val (.slice none 0 0)),(.val (.slice none 0 0)),(.val (.slice none 0 0)),(ac 0),(ac 0),(.val (.slice none 0 0))]⟩)) 2 (some ⟨b2,[(.box 1500 b_rA 0)]⟩),upd (fun _=>none) 7 (some ⟨g7,29,(([inA]:List LQuery).map ak),true⟩)⟩) (Gh.le (az _ _) (ab rfl (dQ.r) (ab rfl (dQ.r) (ab rfl (dQ.r) (ab rfl (dQ.r) ar)))) (aw aq)) ?_;refine af (bU (ah (ae (av tk ?_))));refine ao tk ?_;refine af ?_;obtain rfl:=aF H;refine bS 4 8 rfl rfl rfl rfl rfl ?_;refine bD (st':=⟨100,upd (fun _=>.any) 4 (.box 4 b4 0),upd (upd (fun _=>none) 1500 (some ⟨b_rA,(aa x98)⟩)) 4 (some ⟨b4,[(ac 10),(.str []),(.val (.slice none 0 0)),(.val (.slice none 0 0)),(.val (.slice none 0 0)),(.val (.slice none 0 0)),(ac x79.1),(ac x85.1),(.list 29 (([inA]:List LQuery).map ak))]⟩),fun _=>none⟩) (Gh.le (bF aV) (ab rfl (dQ.r) (ab rfl (dQ.r) ar)) aq) ?_;refine cF tk rfl (ps:=[(.agg [(ac 10),(.str []),(.val (.slice none 0 0)),(.val (.slice none 0 0)),(.val (.slice none 0 0)),(.val (.slice none 0 0)),(ac x79.1),(ac x85.1),(.list 29 (([inA]:List LQuery).map ak))])]) ⟨_,_,rfl,⟨_,_,_,_,_,rfl,rfl,rfl,rfl⟩,rfl⟩ (PLe.of2 (jn.agg (eO.cons (jn.of_eq rfl) (eO.cons (jn.of_eq rfl) (eO.cons (jn.nil tk rfl) (eO.cons (jn.nil tk rfl) (eO.cons (jn.nil tk rfl) (eO.cons (jn.nil tk rfl) (eO.cons (jn.of_eq rfl) (eO.cons (jn.of_eq rfl) (eO.cons (jn.of_eq rfl) eO.nil))))))))))) (HSub.updB rfl) ⟨rfl,rfl⟩
   refine aQ (bU (ah (ae (av tk ?_))));refine ao tk ?_;refine af ?_;obtain rfl:=aF H;refine bS 4 8 rfl rfl rfl rfl rfl ?_;refine bD (st':=⟨100,upd (fun _=>.any) 4 (.box 4 b4 0),upd (upd (fun _=>none) 1500 (some ⟨b_rA,(aa x85.2)⟩)) 4 (some ⟨b4,[(ac 10),(.str []),(.val (.slice none 0 0)),(.val (.slice none 0 0)),(.val (.slice none 0 0)),(.val (.slice none 0 0)),(ac x79.1),(ac x85.1),(.list 29 (([inA]:List LQuery).map ak))]⟩),fun _=>none⟩) (Gh.le (bF aV) (ab rfl (dQ.r) (ab rfl (dQ.r) ar)) aq) ?_;refine cF tk rfl (ps:=[(.agg [(ac 10),(.str []),(.val (.slice none 0 0)),(.val (.slice none 0 0)),(.val (.slice none 0 0)),(.val (.slice none 0 0)),(ac x79.1),(ac x85.1),(.list 29 (([inA]:List LQuery).map ak))])]) ⟨_,_,rfl,⟨_,_,_,_,_,rfl,rfl,rfl,rfl⟩,rfl⟩ (PLe.of2 (jn.agg (eO.cons (jn.of_eq rfl) (eO.cons (jn.of_eq rfl) (eO.cons (jn.nil tk rfl) (eO.cons (jn.nil tk rfl) (eO.cons (jn.nil tk rfl) (eO.cons (jn.nil tk rfl) (eO.cons (jn.of_eq rfl) (eO.cons (jn.of_eq rfl) (eO.cons (jn.of_eq rfl) eO.nil))))))))))) (HSub.updB rfl) ⟨rfl,rfl⟩
  refine aQ (bU (ah (ae (av tk ?_))));refine ao tk ?_;refine af ?_;obtain rfl:=aF H;refine bS 4 8 rfl rfl rfl rfl rfl ?_;refine bD (st':=⟨100,upd (fun _=>.any) 4 (.box 4 b4 0),upd (upd (fun _=>none) 1500 (some ⟨b_rA,(aa x83.2)⟩)) 4 (some ⟨b4,[(ac 10),(.str []),(.val (.slice none 0 0)),(.val (.slice none 0 0)),(.val (.slice none 0 0)),(.val (.slice none 0 0)),(ac x79.1),(ac 0),(.list 29 (([inA]:List LQuery).map ak))]⟩),fun _=>none⟩) (Gh.le (bF aV) (ab rfl (dQ.r) (ab rfl (dQ.r) ar)) aq) ?_;refine cF tk rfl (ps:=[(.agg [(ac 10),(.str []),(.val (.slice none 0 0)),(.val (.slice none 0 0)),(.val (.slice none 0 0)),(.val (.slice none 0 0)),(ac x79.1),(ac 0),(.list 29 (([inA]:List LQuery).map ak))])]) ⟨_,_,rfl,⟨_,_,_,_,_,rfl,rfl,rfl,rfl⟩,rfl⟩ (PLe.of2 (jn.agg (eO.cons (jn.of_eq rfl) (eO.cons (jn.of_eq rfl) (eO.cons (jn.nil tk rfl) (eO.cons (jn.nil tk rfl) (eO.cons (jn.nil tk rfl) (eO.cons (jn.nil tk rfl) (eO.cons (jn.of_eq rfl) (eO.cons (jn.of_eq rfl) (eO.cons (jn.of_eq rfl) eO.nil))))))))))) (HSub.updB rfl) ⟨rfl,rfl⟩
 refine ae (av tk ?_)
 obtain⟨y10,h10,X10,H⟩:=bq H
 have s10:=bO b_rA x77.2 _ h10;refine aP Tryz.call56 [(1500,1500)] [] s10 (X10 _) ?_;rintro u10 H10h hR10
 obtain⟨x10,⟨rfl,rfl⟩,H⟩:=H _ _ _ hR10
 refine⟨_,rfl,?_⟩
 refine aH (st':=⟨_,_,upd (upd (upd (upd (fun _=>none) 1500 (some ⟨b_rA,(aa x10)⟩)) 5 (some ⟨b5,[(ac 0),(.str []),(.val (.slice none 0 0)),(.val (.slice none 0 0)),(.val (.slice none 0 0)),(.val (.slice none 0 0)),(ac 0),(ac 0),(.own 7 g7 (([inA]:List LQuery).map ak).length)]⟩)) 4 (some ⟨b4,[(ac 0),(.str []),(.val (.slice none 0 0)),(.val (.slice none 0 0)),(.val (.slice none 0 0)),(.val (.slice none 0 0)),(ac 0),(ac 0),(.val (.slice none 0 0))]⟩)) 2 (some ⟨b2,[(.box 1500 b_rA 0)]⟩),upd (fun _=>none) 7 (some ⟨g7,29,(([inA]:List LQuery).map ak),true⟩)⟩) (Gh.le (az _ _) (ab rfl (dQ.r) (ab rfl (dQ.r) (ab rfl (dQ.r) (ab rfl (dQ.r) ar)))) (aw aq)) ?_;refine af (bU (ah (ae (av tk ?_))));refine ao tk ?_;refine af ?_;obtain rfl:=aF H;refine bS 4 8 rfl rfl rfl rfl rfl ?_;refine bD (st':=⟨100,upd (fun _=>.any) 4 (.box 4 b4 0),upd (upd (fun _=>none) 1500 (some ⟨b_rA,(aa x10)⟩)) 4 (some ⟨b4,[(ac 0),(.str []),(.val (.slice none 0 0)),(.val (.slice none 0 0)),(.val (.slice none 0 0)),(.val (.slice none 0 0)),(ac 0),(ac 0),(.list 29 (([inA]:List LQuery).map ak))]⟩),fun _=>none⟩) (Gh.le (bF aV) (ab rfl (dQ.r) (ab rfl (dQ.r) ar)) aq) ?_;refine cF tk rfl (ps:=[(.agg [(ac 0),(.str []),(.val (.slice none 0 0)),(.val (.slice none 0 0)),(.val (.slice none 0 0)),(.val (.slice none 0 0)),(ac 0),(ac 0),(.list 29 (([inA]:List LQuery).map ak))])]) ⟨_,_,rfl,⟨_,_,_,_,_,rfl,rfl,rfl,rfl⟩,rfl⟩ (PLe.of2 (jn.agg (eO.cons (jn.of_eq rfl) (eO.cons (jn.of_eq rfl) (eO.cons (jn.nil tk rfl) (eO.cons (jn.nil tk rfl) (eO.cons (jn.nil tk rfl) (eO.cons (jn.nil tk rfl) (eO.cons (jn.of_eq rfl) (eO.cons (jn.of_eq rfl) (eO.cons (jn.of_eq rfl) eO.nil))))))))))) (HSub.updB rfl) ⟨rfl,rfl⟩
def dc(_rec22:LQueryparserParser→Option (Except Int (LQuery×LQueryparserParser)))(_rec55:LQueryparserParser→LQuery→Option (Except Int (LQuery×LQueryparserParser)))(_rec89:LQueryparserParser→LQuery→Option (Except Int (LQueryparserParser×LQuery)))(rec90:LQueryparserParser→Option (Except Int (LQuery×LQueryparserParser)))(rA:LQueryparserParser)(q:LQuery):Option (Except Int (LQueryparserParser×LQuery)):=
 bg (rec90 rA) fun x9=>
 ag (dY 160 q.inputs ([(LQuery.mk 0 [] [] [] [] [] 0 0 [])]:List LQuery)) fun(x12:List LQuery)=>
 ag (bl x12 (q.inputs.length:Int)) fun(_:LQuery)=>
 dv (x12.set ((q.inputs.length:Int).toNat) x9.1) fun(y1:List LQuery)=>
 bg (aG x9.2 ([111,110]:List UInt8)) fun x17=>
 bg (cq x17) fun x20=>
 some (.ok (x20.2,(LQuery.mk q.kind q.table q.names [x20.1] q.aggregates q.descending q.count q.offset y1)))
theorem iR(b_rA:Nat)(b_q:Nat)(g_q_8:OwnRef)(rec22:LQueryparserParser→Option (Except Int (LQuery×LQueryparserParser)))(rec55:LQueryparserParser→LQuery→Option (Except Int (LQuery×LQueryparserParser)))(rec89:LQueryparserParser→LQuery→Option (Except Int (LQueryparserParser×LQuery)))(rec90:LQueryparserParser→Option (Except Int (LQuery×LQueryparserParser)))(_hrec22:∀bb0 a0 r,rec22 a0=some r→ba Tryz.prog 22 [(.box 1500 bb0 0)] ⟨upd (fun _=>none) 1500 (some ⟨bb0,(aa a0)⟩),fun _=>none⟩ (RX r (fun rv u H=>u=(.agg (aE rv.1))∧H=⟨upd (fun _=>none) 1500 (some ⟨bb0,(aa rv.2)⟩),fun _=>none⟩)) (PX 106 r))(_hrec55:∀bb0 a0 a1 r,rec55 a0 a1=some r→ba Tryz.prog 55 [(.box 1500 bb0 0),(.agg (aE a1))] ⟨upd (fun _=>none) 1500 (some ⟨bb0,(aa a0)⟩),fun _=>none⟩ (RX r (fun rv u H=>u=(.agg (aE rv.1))∧H=⟨upd (fun _=>none) 1500 (some ⟨bb0,(aa rv.2)⟩),fun _=>none⟩)) (PX 106 r))(_hrec89:∀bb0 bb1 gg1_8 a0 a1 r,rec89 a0 a1=some r→ba Tryz.prog 89 [(.box 1500 bb0 0),(.box 1501 bb1 0)] ⟨upd (upd (fun _=>none) 1501 (some ⟨bb1,[(ac a1.kind),(.str a1.table),(.list 9 (a1.names.map aD)),(.list 82 (a1.exprs.map am)),(.list 85 (a1.aggregates.map aA)),(.list 4 (a1.descending.map aB)),(ac a1.count),(ac a1.offset),(.own 1628 gg1_8 (a1.inputs.map ak).length)]⟩)) 1500 (some ⟨bb0,(aa a0)⟩),upd (fun _=>none) 1628 (some ⟨gg1_8,29,(a1.inputs.map ak),true⟩)⟩ (RX r (fun rv u H=>∃gz1_8,u=(.tup [])∧H=⟨upd (upd (fun _=>none) 1501 (some ⟨bb1,[(ac rv.2.kind),(.str rv.2.table),(.list 9 (rv.2.names.map aD)),(.list 82 (rv.2.exprs.map am)),(.list 85 (rv.2.aggregates.map aA)),(.list 4 (rv.2.descending.map aB)),(ac rv.2.count),(ac rv.2.offset),(.own 1628 gz1_8 (rv.2.inputs.map ak).length)]⟩)) 1500 (some ⟨bb0,(aa rv.1)⟩),upd (fun _=>none) 1628 (some ⟨gz1_8,29,(rv.2.inputs.map ak),true⟩)⟩)) (PX 106 r))(hrec90:∀bb0 a0 r,rec90 a0=some r→ba Tryz.prog 90 [(.box 1500 bb0 0)] ⟨upd (fun _=>none) 1500 (some ⟨bb0,(aa a0)⟩),fun _=>none⟩ (RX r (fun rv u H=>u=(.agg (aE rv.1))∧H=⟨upd (fun _=>none) 1500 (some ⟨bb0,(aa rv.2)⟩),fun _=>none⟩)) (PX 106 r))(rA:LQueryparserParser)(q:LQuery)(r:Except Int (LQueryparserParser×LQuery))(H:dc rec22 rec55 rec89 rec90 rA q=some r):
  ba Tryz.prog 89 [(.box 1500 b_rA 0),(.box 1501 b_q 0)] ⟨upd (upd (fun _=>none) 1501 (some ⟨b_q,[(ac q.kind),(.str q.table),(.list 9 (q.names.map aD)),(.list 82 (q.exprs.map am)),(.list 85 (q.aggregates.map aA)),(.list 4 (q.descending.map aB)),(ac q.count),(ac q.offset),(.own 1628 g_q_8 (q.inputs.map ak).length)]⟩)) 1500 (some ⟨b_rA,(aa rA)⟩),upd (fun _=>none) 1628 (some ⟨g_q_8,29,(q.inputs.map ak),true⟩)⟩ (RX r (fun rv u H=>∃gz1_8,u=(.tup [])∧H=⟨upd (upd (fun _=>none) 1501 (some ⟨b_q,[(ac rv.2.kind),(.str rv.2.table),(.list 9 (rv.2.names.map aD)),(.list 82 (rv.2.exprs.map am)),(.list 85 (rv.2.aggregates.map aA)),(.list 4 (rv.2.descending.map aB)),(ac rv.2.count),(ac rv.2.offset),(.own 1628 gz1_8 (rv.2.inputs.map ak).length)]⟩)) 1500 (some ⟨b_rA,(aa rv.1)⟩),upd (fun _=>none) 1628 (some ⟨gz1_8,29,(rv.2.inputs.map ak),true⟩)⟩)) (PX 106 r):=by
 unfold dc at H;refine ba.intro Tryz.func89 rfl Tryz.ntmps89 rfl ?_;refine ah ?_;refine iw (tag:=1628) rfl (fun ho1628=>?_);refine de tk mok ⟨true,false,[999997,3001501,4000007,999996,5000013]⟩ [0,1,2,3,4,6,7,5,8,9,11,12,13,10] rfl (by decide+kernel) rfl (bA 3 rfl (dG tk ?_));refine bQ rfl (nn rfl rfl rfl rfl rfl rfl (zl _) rfl (bQ rfl ?_))
 obtain⟨y9,h9,X9,H⟩:=bq H
 have s9:=hrec90 b_rA rA _ h9;refine fU Tryz.call90 [(1500,1500)] [] s9 (X9 _) ?_;rintro u9 H9h hR9
 obtain⟨x9,⟨rfl,rfl⟩,H⟩:=H _ _ _ hR9
 refine⟨_,rfl,?_⟩
 obtain⟨x12,h12,H⟩:=ax H
 have k12:=dU h12;refine lr (rows2':=List.map ak ([(LQuery.mk 0 [] [] [] [] [] 0 0 [])]:List LQuery)) (rows':=List.map ak x12) tk rfl rfl rfl rfl rfl rfl rfl rfl rfl rfl rfl rfl rfl rfl (dN.trans (b:=List.map aE [(LQuery.mk 0 [] [] [] [] [] 0 0 [])]) (dN.cons (mI.cons (jn.of_eq rfl) (mI.cons (jn.of_eq rfl) (mI.cons (jn.nil tk rfl) (mI.cons (jn.nil tk rfl) (mI.cons (jn.nil tk rfl) (mI.cons (jn.nil tk rfl) (mI.cons (jn.of_eq rfl) (mI.cons (jn.of_eq rfl) (mI.cons (jn.nil tk rfl) mI.nil))))))))) dN.nil) (dN.of_eq (em dZ [(LQuery.mk 0 [] [] [] [] [] 0 0 [])]))) (fc k12.1) (fa k12.2.1) (eZ k12.2.2) fun g12 ho1628=>?_
 obtain⟨x13,k13,H⟩:=dg H
 refine nl tk rfl rfl rfl rfl rfl rfl rfl rfl ⟨k13.1,(idxLen k13.2)⟩ (idxBlk ho1628 k13.2) rfl (bA 2 rfl (fW rfl rfl rfl rfl rfl rfl rfl rfl rfl rfl rfl rfl ?_))
 obtain⟨y1,hy1,H⟩:=fE H
 refine mf tk rfl rfl rfl rfl rfl rfl rfl rfl rfl (by rw[zl];exact(zg.1 k13.2).1) (PLe.refl _ _) rfl rfl rfl rfl (by decide) (lv dZ k13.2 rfl hy1) ?_;refine bP ?_;refine bD (st':=⟨_,_,upd (upd (fun _=>none) 1501 (some ⟨b_q,[(ac q.kind),(.str q.table),(.list 9 (q.names.map aD)),(.list 82 (q.exprs.map am)),(.list 85 (q.aggregates.map aA)),(.list 4 (q.descending.map aB)),(ac q.count),(ac q.offset),(.own 1628 g12 (x12.map ak).length)]⟩)) 1500 (some ⟨b_rA,(aa x9.2)⟩),upd (fun _=>none) 1628 (some ⟨g12,29,(y1.map ak),true⟩)⟩) (Gh.le (az _ _) (ab rfl (dQ.r) (ab rfl (dQ.r) ar)) (aw aq)) ?_;refine ah (ae (ap tk rfl ?_))
 obtain⟨y17,h17,X17,H⟩:=bq H
 have s17:=aS b_rA x9.2 ([111,110]:List UInt8) _ h17;refine aP Tryz.call53 [(1500,1500)] [] s17 (X17 _) ?_;rintro u17 H17h hR17
 obtain⟨x17,⟨rfl,rfl⟩,H⟩:=H _ _ _ hR17
 refine⟨_,rfl,?_⟩
 refine aH (st':=⟨_,_,upd (upd (fun _=>none) 1501 (some ⟨b_q,[(ac q.kind),(.str q.table),(.list 9 (q.names.map aD)),(.list 82 (q.exprs.map am)),(.list 85 (q.aggregates.map aA)),(.list 4 (q.descending.map aB)),(ac q.count),(ac q.offset),(.own 1628 g12 (x12.map ak).length)]⟩)) 1500 (some ⟨b_rA,(aa x17)⟩),upd (fun _=>none) 1628 (some ⟨g12,29,(y1.map ak),true⟩)⟩) (Gh.le (az _ _) (ab rfl (dQ.r) (ab rfl (dQ.r) ar)) (aw aq)) ?_;refine af (ae (au 2 tk rfl ?_))
 obtain⟨y20,h20,X20,H⟩:=bq H
 have s20:=dy b_rA x17 _ h20;refine aP Tryz.call85 [(1500,1500)] [] s20 (X20 _) ?_;rintro u20 H20h hR20
 obtain⟨x20,⟨rfl,rfl⟩,H⟩:=H _ _ _ hR20
 refine⟨_,rfl,?_⟩
 refine aH (st':=⟨_,_,upd (upd (fun _=>none) 1501 (some ⟨b_q,[(ac q.kind),(.str q.table),(.list 9 (q.names.map aD)),(.list 82 (q.exprs.map am)),(.list 85 (q.aggregates.map aA)),(.list 4 (q.descending.map aB)),(ac q.count),(ac q.offset),(.own 1628 g12 (x12.map ak).length)]⟩)) 1500 (some ⟨b_rA,(aa x20.2)⟩),upd (fun _=>none) 1628 (some ⟨g12,29,(y1.map ak),true⟩)⟩) (Gh.le (az _ _) (ab rfl (dQ.r) (ab rfl (dQ.r) ar)) (aw aq)) ?_;refine np (rows':=List.map am ([x20.1]:List LExpr)) tk rfl rfl rfl rfl rfl rfl rfl (congrArg (List.map List.length) (em ck ([x20.1]:List LExpr))).symm rfl (eO.trans (b:=(List.map bN ([x20.1]:List LExpr)).flatten) (eO.refl _) (eO.of_eq (congrArg List.flatten (em ck ([x20.1]:List LExpr))))) fun g21=>?_
 refine au 2 tk rfl (ao tk ?_);refine af ?_;obtain rfl:=aF H;refine bS 1501 3 rfl rfl rfl rfl rfl ?_;refine bD (st':=⟨24,fun _=>.any,upd (upd (fun _=>none) 1501 (some ⟨b_q,[(ac ((LQuery.mk q.kind q.table q.names [x20.1] q.aggregates q.descending q.count q.offset y1).kind)),(.str ((LQuery.mk q.kind q.table q.names [x20.1] q.aggregates q.descending q.count q.offset y1).table)),(.list 9 (((LQuery.mk q.kind q.table q.names [x20.1] q.aggregates q.descending q.count q.offset y1).names).map aD)),(.list 82 (((LQuery.mk q.kind q.table q.names [x20.1] q.aggregates q.descending q.count q.offset y1).exprs).map am)),(.list 85 (((LQuery.mk q.kind q.table q.names [x20.1] q.aggregates q.descending q.count q.offset y1).aggregates).map aA)),(.list 4 (((LQuery.mk q.kind q.table q.names [x20.1] q.aggregates q.descending q.count q.offset y1).descending).map aB)),(ac ((LQuery.mk q.kind q.table q.names [x20.1] q.aggregates q.descending q.count q.offset y1).count)),(ac ((LQuery.mk q.kind q.table q.names [x20.1] q.aggregates q.descending q.count q.offset y1).offset)),(.own 1628 g12 (y1.map ak).length)]⟩)) 1500 (some ⟨b_rA,(aa x20.2)⟩),upd (fun _=>none) 1628 (some ⟨g12,29,(y1.map ak),true⟩)⟩) (Gh.le aV (ab rfl (dQ.r) (ab rfl (dQ.of2 (eO.cons (jn.of_eq rfl) (eO.cons (jn.of_eq rfl) (eO.cons (jn.of_eq rfl) (eO.cons (jn.of_eq rfl) (eO.cons (jn.of_eq rfl) (eO.cons (jn.of_eq rfl) (eO.cons (jn.of_eq rfl) (eO.cons (jn.of_eq rfl) (eO.cons (jn.own (set_len (f:=ak) hy1)) eO.nil)))))))))) ar)) (aw aq)) ?_;refine eU rfl (PLe.q rfl) ⟨_,rfl,rfl⟩
def dr(rec22:LQueryparserParser→Option (Except Int (LQuery×LQueryparserParser)))(_rec55:LQueryparserParser→LQuery→Option (Except Int (LQuery×LQueryparserParser)))(_rec89:LQueryparserParser→LQuery→Option (Except Int (LQueryparserParser×LQuery)))(_rec90:LQueryparserParser→Option (Except Int (LQuery×LQueryparserParser)))(rA:LQueryparserParser):Option (Except Int (LQuery×LQueryparserParser)):=
 bg (aG rA ([40]:List UInt8)) fun x5=>
 bg (rec22 x5) fun x7=>
 bg (aG x7.2 ([41]:List UInt8)) fun x9=>
 some (.ok (x7.1,x9))
theorem jh(b_rA:Nat)(rec22:LQueryparserParser→Option (Except Int (LQuery×LQueryparserParser)))(rec55:LQueryparserParser→LQuery→Option (Except Int (LQuery×LQueryparserParser)))(rec89:LQueryparserParser→LQuery→Option (Except Int (LQueryparserParser×LQuery)))(rec90:LQueryparserParser→Option (Except Int (LQuery×LQueryparserParser)))(hrec22:∀bb0 a0 r,rec22 a0=some r→ba Tryz.prog 22 [(.box 1500 bb0 0)] ⟨upd (fun _=>none) 1500 (some ⟨bb0,(aa a0)⟩),fun _=>none⟩ (RX r (fun rv u H=>u=(.agg (aE rv.1))∧H=⟨upd (fun _=>none) 1500 (some ⟨bb0,(aa rv.2)⟩),fun _=>none⟩)) (PX 106 r))(_hrec55:∀bb0 a0 a1 r,rec55 a0 a1=some r→ba Tryz.prog 55 [(.box 1500 bb0 0),(.agg (aE a1))] ⟨upd (fun _=>none) 1500 (some ⟨bb0,(aa a0)⟩),fun _=>none⟩ (RX r (fun rv u H=>u=(.agg (aE rv.1))∧H=⟨upd (fun _=>none) 1500 (some ⟨bb0,(aa rv.2)⟩),fun _=>none⟩)) (PX 106 r))(_hrec89:∀bb0 bb1 gg1_8 a0 a1 r,rec89 a0 a1=some r→ba Tryz.prog 89 [(.box 1500 bb0 0),(.box 1501 bb1 0)] ⟨upd (upd (fun _=>none) 1501 (some ⟨bb1,[(ac a1.kind),(.str a1.table),(.list 9 (a1.names.map aD)),(.list 82 (a1.exprs.map am)),(.list 85 (a1.aggregates.map aA)),(.list 4 (a1.descending.map aB)),(ac a1.count),(ac a1.offset),(.own 1628 gg1_8 (a1.inputs.map ak).length)]⟩)) 1500 (some ⟨bb0,(aa a0)⟩),upd (fun _=>none) 1628 (some ⟨gg1_8,29,(a1.inputs.map ak),true⟩)⟩ (RX r (fun rv u H=>∃gz1_8,u=(.tup [])∧H=⟨upd (upd (fun _=>none) 1501 (some ⟨bb1,[(ac rv.2.kind),(.str rv.2.table),(.list 9 (rv.2.names.map aD)),(.list 82 (rv.2.exprs.map am)),(.list 85 (rv.2.aggregates.map aA)),(.list 4 (rv.2.descending.map aB)),(ac rv.2.count),(ac rv.2.offset),(.own 1628 gz1_8 (rv.2.inputs.map ak).length)]⟩)) 1500 (some ⟨bb0,(aa rv.1)⟩),upd (fun _=>none) 1628 (some ⟨gz1_8,29,(rv.2.inputs.map ak),true⟩)⟩)) (PX 106 r))(_hrec90:∀bb0 a0 r,rec90 a0=some r→ba Tryz.prog 90 [(.box 1500 bb0 0)] ⟨upd (fun _=>none) 1500 (some ⟨bb0,(aa a0)⟩),fun _=>none⟩ (RX r (fun rv u H=>u=(.agg (aE rv.1))∧H=⟨upd (fun _=>none) 1500 (some ⟨bb0,(aa rv.2)⟩),fun _=>none⟩)) (PX 106 r))(rA:LQueryparserParser)(r:Except Int (LQuery×LQueryparserParser))(H:dr rec22 rec55 rec89 rec90 rA=some r):
  ba Tryz.prog 90 [(.box 1500 b_rA 0)] ⟨upd (fun _=>none) 1500 (some ⟨b_rA,(aa rA)⟩),fun _=>none⟩ (RX r (fun rv u H=>u=(.agg (aE rv.1))∧H=⟨upd (fun _=>none) 1500 (some ⟨b_rA,(aa rv.2)⟩),fun _=>none⟩)) (PX 106 r):=by
 unfold dr at H;refine ba.intro Tryz.func90 rfl Tryz.ntmps90 rfl ?_;refine ah (ae ?_);refine aW tk fun b2=>?_
 refine af (ah (ae (ap tk rfl ?_)))
 obtain⟨y5,h5,X5,H⟩:=bq H
 have s5:=aS b_rA rA ([40]:List UInt8) _ h5;refine aP Tryz.call53 [(1500,1500)] [] s5 (X5 _) ?_;rintro u5 H5h hR5
 obtain⟨x5,⟨rfl,rfl⟩,H⟩:=H _ _ _ hR5
 refine⟨_,rfl,?_⟩
 refine aH (st':=⟨_,_,upd (upd (fun _=>none) 1500 (some ⟨b_rA,(aa x5)⟩)) 2 (some ⟨b2,[(ac 0),(.str []),(.val (.slice none 0 0)),(.val (.slice none 0 0)),(.val (.slice none 0 0)),(.val (.slice none 0 0)),(ac 0),(ac 0),(.val (.slice none 0 0))]⟩),fun _=>none⟩) (Gh.le (az _ _) (ab rfl (dQ.r) (ab rfl (dQ.r) ar)) aq) ?_;refine af (ah (ae (ap tk rfl ?_)))
 obtain⟨y7,h7,X7,H⟩:=bq H
 have s7:=hrec22 b_rA x5 _ h7;refine aP Tryz.call22 [(1500,1500)] [] s7 (X7 _) ?_;rintro u7 H7h hR7
 obtain⟨x7,⟨rfl,rfl⟩,H⟩:=H _ _ _ hR7
 refine⟨_,rfl,?_⟩
 refine aH (st':=⟨_,_,upd (upd (fun _=>none) 1500 (some ⟨b_rA,(aa x7.2)⟩)) 2 (some ⟨b2,[(ac 0),(.str []),(.val (.slice none 0 0)),(.val (.slice none 0 0)),(.val (.slice none 0 0)),(.val (.slice none 0 0)),(ac 0),(ac 0),(.val (.slice none 0 0))]⟩),fun _=>none⟩) (Gh.le (az _ _) (ab rfl (dQ.r) (ab rfl (dQ.r) ar)) aq) ?_;refine aW tk fun b3=>?_
 refine ao tk ?_;refine af (ah (ae (ap tk rfl ?_)))
 obtain⟨y9,h9,X9,H⟩:=bq H
 have s9:=aS b_rA x7.2 ([41]:List UInt8) _ h9;refine aP Tryz.call53 [(1500,1500)] [] s9 (X9 _) ?_;rintro u9 H9h hR9
 obtain⟨x9,⟨rfl,rfl⟩,H⟩:=H _ _ _ hR9
 refine⟨_,rfl,?_⟩
 refine aH (st':=⟨_,_,upd (upd (upd (fun _=>none) 1500 (some ⟨b_rA,(aa x9)⟩)) 3 (some ⟨b3,(aE x7.1)⟩)) 2 (some ⟨b2,[(ac 0),(.str []),(.val (.slice none 0 0)),(.val (.slice none 0 0)),(.val (.slice none 0 0)),(.val (.slice none 0 0)),(ac 0),(ac 0),(.val (.slice none 0 0))]⟩),fun _=>none⟩) (Gh.le (az _ _) (ab rfl (dQ.r) (ab rfl (dQ.r) (ab rfl (dQ.r) ar))) aq) ?_;refine af (ah (ae (av tk ?_)));refine ao tk ?_;refine af ?_;obtain rfl:=aF H;refine bD (st':=⟨11,upd (fun _=>.any) 2 (.box 2 b2 0),upd (upd (fun _=>none) 1500 (some ⟨b_rA,(aa x9)⟩)) 2 (some ⟨b2,(aE x7.1)⟩),fun _=>none⟩) (Gh.le (bF aV) (ab rfl (dQ.r) (ab rfl (dQ.r) ar)) aq) ?_;refine cF tk rfl (ps:=[(.agg (aE x7.1))]) ⟨_,_,rfl,⟨_,_,_,_,_,rfl,rfl,rfl,rfl⟩,rfl⟩ (PLe.q rfl) (HSub.updB rfl) ⟨rfl,rfl⟩
mutual
def bp:Nat→LQueryparserParser→Option (Except Int (LQuery×LQueryparserParser))
 |0,_=>none
 |n+1,v0=>dq (fun b0=>bp n b0) (fun b0 b1=>bC n b0 b1) (fun b0 b1=>bv n b0 b1) (fun b0=>bB n b0) v0
def bC:Nat→LQueryparserParser→LQuery→Option (Except Int (LQuery×LQueryparserParser))
 |0,_,_=>none
 |n+1,v0,v1=>dp (fun b0=>bp n b0) (fun b0 b1=>bC n b0 b1) (fun b0 b1=>bv n b0 b1) (fun b0=>bB n b0) v0 v1
def bv:Nat→LQueryparserParser→LQuery→Option (Except Int (LQueryparserParser×LQuery))
 |0,_,_=>none
 |n+1,v0,v1=>dc (fun b0=>bp n b0) (fun b0 b1=>bC n b0 b1) (fun b0 b1=>bv n b0 b1) (fun b0=>bB n b0) v0 v1
def bB:Nat→LQueryparserParser→Option (Except Int (LQuery×LQueryparserParser))
 |0,_=>none
 |n+1,v0=>dr (fun b0=>bp n b0) (fun b0 b1=>bC n b0 b1) (fun b0 b1=>bv n b0 b1) (fun b0=>bB n b0) v0
end
theorem jj  (n:Nat):(∀bb0 a0 r,bp n a0=some r→ba Tryz.prog 22 [(.box 1500 bb0 0)] ⟨upd (fun _=>none) 1500 (some ⟨bb0,(aa a0)⟩),fun _=>none⟩ (RX r (fun rv u H=>u=(.agg (aE rv.1))∧H=⟨upd (fun _=>none) 1500 (some ⟨bb0,(aa rv.2)⟩),fun _=>none⟩)) (PX 106 r))∧(∀bb0 a0 a1 r,bC n a0 a1=some r→ba Tryz.prog 55 [(.box 1500 bb0 0),(.agg (aE a1))] ⟨upd (fun _=>none) 1500 (some ⟨bb0,(aa a0)⟩),fun _=>none⟩ (RX r (fun rv u H=>u=(.agg (aE rv.1))∧H=⟨upd (fun _=>none) 1500 (some ⟨bb0,(aa rv.2)⟩),fun _=>none⟩)) (PX 106 r))∧(∀bb0 bb1 gg1_8 a0 a1 r,bv n a0 a1=some r→ba Tryz.prog 89 [(.box 1500 bb0 0),(.box 1501 bb1 0)] ⟨upd (upd (fun _=>none) 1501 (some ⟨bb1,[(ac a1.kind),(.str a1.table),(.list 9 (a1.names.map aD)),(.list 82 (a1.exprs.map am)),(.list 85 (a1.aggregates.map aA)),(.list 4 (a1.descending.map aB)),(ac a1.count),(ac a1.offset),(.own 1628 gg1_8 (a1.inputs.map ak).length)]⟩)) 1500 (some ⟨bb0,(aa a0)⟩),upd (fun _=>none) 1628 (some ⟨gg1_8,29,(a1.inputs.map ak),true⟩)⟩ (RX r (fun rv u H=>∃gz1_8,u=(.tup [])∧H=⟨upd (upd (fun _=>none) 1501 (some ⟨bb1,[(ac rv.2.kind),(.str rv.2.table),(.list 9 (rv.2.names.map aD)),(.list 82 (rv.2.exprs.map am)),(.list 85 (rv.2.aggregates.map aA)),(.list 4 (rv.2.descending.map aB)),(ac rv.2.count),(ac rv.2.offset),(.own 1628 gz1_8 (rv.2.inputs.map ak).length)]⟩)) 1500 (some ⟨bb0,(aa rv.1)⟩),upd (fun _=>none) 1628 (some ⟨gz1_8,29,(rv.2.inputs.map ak),true⟩)⟩)) (PX 106 r))∧(∀bb0 a0 r,bB n a0=some r→ba Tryz.prog 90 [(.box 1500 bb0 0)] ⟨upd (fun _=>none) 1500 (some ⟨bb0,(aa a0)⟩),fun _=>none⟩ (RX r (fun rv u H=>u=(.agg (aE rv.1))∧H=⟨upd (fun _=>none) 1500 (some ⟨bb0,(aa rv.2)⟩),fun _=>none⟩)) (PX 106 r)):=by
 induction n with
 |zero=>exact⟨(by intros;rename_i h;exact absurd (show(none:Option _)=some _ from h) (by simp)),(by intros;rename_i h;exact absurd (show(none:Option _)=some _ from h) (by simp)),(by intros;rename_i h;exact absurd (show(none:Option _)=some _ from h) (by simp)),(by intros;rename_i h;exact absurd (show(none:Option _)=some _ from h) (by simp))⟩
 |succ n ih=>
  exact⟨(fun bb0 v0 r h=>ji bb0 (fun b0=>bp n b0) (fun b0 b1=>bC n b0 b1) (fun b0 b1=>bv n b0 b1) (fun b0=>bB n b0) ih.1 ih.2.1 ih.2.2.1 ih.2.2.2 v0  r h),(fun bb0 v0 v1 r h=>jl bb0 (fun b0=>bp n b0) (fun b0 b1=>bC n b0 b1) (fun b0 b1=>bv n b0 b1) (fun b0=>bB n b0) ih.1 ih.2.1 ih.2.2.1 ih.2.2.2 v0 v1  r h),(fun bb0 bb1 gg1_8 v0 v1 r h=>iR bb0 bb1 gg1_8 (fun b0=>bp n b0) (fun b0 b1=>bC n b0 b1) (fun b0 b1=>bv n b0 b1) (fun b0=>bB n b0) ih.1 ih.2.1 ih.2.2.1 ih.2.2.2 v0 v1  r h),(fun bb0 v0 r h=>jh bb0 (fun b0=>bp n b0) (fun b0 b1=>bC n b0 b1) (fun b0 b1=>bv n b0 b1) (fun b0=>bB n b0) ih.1 ih.2.1 ih.2.2.1 ih.2.2.2 v0  r h)⟩
def eS(rA:LQueryparserParser):Option (Except Int (LQuery×LQueryparserParser)):=limN fun n=>bp n rA
theorem jp(b_rA:Nat)(rA:LQueryparserParser)(r:Except Int (LQuery×LQueryparserParser))(H:eS rA=some r):
  ba Tryz.prog 22 [(.box 1500 b_rA 0)] ⟨upd (fun _=>none) 1500 (some ⟨b_rA,(aa rA)⟩),fun _=>none⟩ (RX r (fun rv u H=>u=(.agg (aE rv.1))∧H=⟨upd (fun _=>none) 1500 (some ⟨b_rA,(aa rv.2)⟩),fun _=>none⟩)) (PX 106 r):=by
 obtain⟨n,h⟩:=ie H
 exact(jj  n).1 b_rA rA r h
end
end Go.Proofs.YtibojibdiibdgaaGreatDoor
