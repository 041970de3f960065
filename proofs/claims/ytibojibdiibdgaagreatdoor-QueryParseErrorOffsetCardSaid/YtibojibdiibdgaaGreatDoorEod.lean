/- queryParseErrorOffset_holds, part 4: the layer, the plain functions and what they compute; conditions as in the statement. -/
import Derived.Test.YtibojibdiibdgaaGreatDoorEoc
set_option maxHeartbeats 4000000
namespace Go.Proofs.YtibojibdiibdgaaGreatDoor
noncomputable section
open Go Go.Ab
attribute [local irreducible] V Ao Do Gh Eff PH IntKind.wrap
set_option maxRecDepth 4000
def cz(rec22:LQueryparserParser→Option (Except Int (LQuery×LQueryparserParser)))(rec55:LQueryparserParser→LQuery→Option (Except Int (LQuery×LQueryparserParser)))(_rec89:LQueryparserParser→LQuery→Option (Except Int (LQueryparserParser×LQuery)))(_rec90:LQueryparserParser→Option (Except Int (LQuery×LQueryparserParser)))(rA:LQueryparserParser):Option (Except Int (LQuery×LQueryparserParser)):=
 ar (ah rA ([40]:List UInt8)) fun x5=>
 ar (
  cond x5.1
   (ci (rec22 x5.2) fun x7=>
   ci (aD x7.2 ([41]:List UInt8)) fun x9=>
   some (.next (x9,x7.1)))
   (ci (aD x5.2 ([115,99,97,110]:List UInt8)) fun x11=>
   ci (aU x11) fun x13=>
   some (.next (x13.2,(LQuery.mk 1 x13.1 [] [] [] [] 0 0 []))))) fun(fl1:Flow (LQueryparserParser×LQuery) (Except Int (LQuery×LQueryparserParser)))=>fl1.thenR fun t1=>
 ar (cR (σ:=LQueryparserParser×LQuery) (ρ:=(Except Int (LQuery×LQueryparserParser))) (fun(s2:LQueryparserParser×LQuery)=>
  ar (ah s2.1 ([124]:List UInt8)) fun x16=>
  cond x16.1
   (ci (rec55 x16.2 s2.2) fun x19=>
   some (.next (x19.2,x19.1)))
   (some (.brk (x16.2,s2.2)))) (t1.1,t1.2)) fun fl2=>fl2.thenR fun(s2:LQueryparserParser×LQuery)=>
 some (.ok (s2.2,s2.1))
theorem gF(b_rA:Nat)(rec22:LQueryparserParser→Option (Except Int (LQuery×LQueryparserParser)))(rec55:LQueryparserParser→LQuery→Option (Except Int (LQuery×LQueryparserParser)))(rec89:LQueryparserParser→LQuery→Option (Except Int (LQueryparserParser×LQuery)))(rec90:LQueryparserParser→Option (Except Int (LQuery×LQueryparserParser)))(hrec22:∀bb0 a0 r,rec22 a0=some r→aP Tryz.prog 22 [(.box 1500 bb0 0)] ⟨upd (fun _=>none) 1500 (some ⟨bb0,(aa a0)⟩),fun _=>none⟩ (RX r (fun rv u H=>u=(.agg (aG rv.1))∧H=⟨upd (fun _=>none) 1500 (some ⟨bb0,(aa rv.2)⟩),fun _=>none⟩)) (PX 106 r))(hrec55:∀bb0 a0 a1 r,rec55 a0 a1=some r→aP Tryz.prog 55 [(.box 1500 bb0 0),(.agg (aG a1))] ⟨upd (fun _=>none) 1500 (some ⟨bb0,(aa a0)⟩),fun _=>none⟩ (RX r (fun rv u H=>u=(.agg (aG rv.1))∧H=⟨upd (fun _=>none) 1500 (some ⟨bb0,(aa rv.2)⟩),fun _=>none⟩)) (PX 106 r))(_hrec89:∀bb0 bb1 gg1_8 a0 a1 r,rec89 a0 a1=some r→aP Tryz.prog 89 [(.box 1500 bb0 0),(.box 1501 bb1 0)] ⟨upd (upd (fun _=>none) 1501 (some ⟨bb1,[(ac a1.kind),(.str a1.table),(.list 9 (a1.names.map aB)),(.list 82 (a1.exprs.map al)),(.list 85 (a1.aggregates.map ax)),(.list 4 (a1.descending.map ay)),(ac a1.count),(ac a1.offset),(.own 1628 gg1_8 (a1.inputs.map ag).length)]⟩)) 1500 (some ⟨bb0,(aa a0)⟩),upd (fun _=>none) 1628 (some ⟨gg1_8,29,(a1.inputs.map ag),true⟩)⟩ (RX r (fun rv u H=>∃gz1_8,u=(.tup [])∧H=⟨upd (upd (fun _=>none) 1501 (some ⟨bb1,[(ac rv.2.kind),(.str rv.2.table),(.list 9 (rv.2.names.map aB)),(.list 82 (rv.2.exprs.map al)),(.list 85 (rv.2.aggregates.map ax)),(.list 4 (rv.2.descending.map ay)),(ac rv.2.count),(ac rv.2.offset),(.own 1628 gz1_8 (rv.2.inputs.map ag).length)]⟩)) 1500 (some ⟨bb0,(aa rv.1)⟩),upd (fun _=>none) 1628 (some ⟨gz1_8,29,(rv.2.inputs.map ag),true⟩)⟩)) (PX 106 r))(_hrec90:∀bb0 a0 r,rec90 a0=some r→aP Tryz.prog 90 [(.box 1500 bb0 0)] ⟨upd (fun _=>none) 1500 (some ⟨bb0,(aa a0)⟩),fun _=>none⟩ (RX r (fun rv u H=>u=(.agg (aG rv.1))∧H=⟨upd (fun _=>none) 1500 (some ⟨bb0,(aa rv.2)⟩),fun _=>none⟩)) (PX 106 r))(rA:LQueryparserParser)(r:Except Int (LQuery×LQueryparserParser))(H:cz rec22 rec55 rec89 rec90 rA=some r):
  aP Tryz.prog 22 [(.box 1500 b_rA 0)] ⟨upd (fun _=>none) 1500 (some ⟨b_rA,(aa rA)⟩),fun _=>none⟩ (RX r (fun rv u H=>u=(.agg (aG rv.1))∧H=⟨upd (fun _=>none) 1500 (some ⟨b_rA,(aa rv.2)⟩),fun _=>none⟩)) (PX 106 r):=by
 unfold cz at H;refine aP.intro Tryz.func22 rfl Tryz.ntmps22 rfl ?_;refine ak (ae ?_);refine aV tk fun b2=>?_
 refine af (ak (ae ?_));refine aV tk fun b3=>?_
 refine af (ak (ak (ae (aC tk rfl ?_))))
 obtain⟨x5,h5,H⟩:=aM H
 have s5:=az b_rA rA ([40]:List UInt8) _ h5;refine bf (g:=52) rfl rfl rfl Tryz.call52 [(1500,1500)] [] rfl rfl rfl rfl (cX.of2 (dC.cons gN.boxT (dC.cons (gN.of_eq rfl) dC.nil))) (by rw[aN,aR,aS];rfl) s5 ?_;rintro u5 H5h ⟨rfl,rfl⟩
 refine⟨_,rfl,?_⟩
 refine aE (st':=⟨_,_,upd (upd (upd (fun _=>none) 1500 (some ⟨b_rA,(aa x5.2)⟩)) 3 (some ⟨b3,[(ac 0),(.str []),(.val (.slice none 0 0)),(.val (.slice none 0 0)),(.val (.slice none 0 0)),(.val (.slice none 0 0)),(ac 0),(ac 0),(.val (.slice none 0 0))]⟩)) 2 (some ⟨b2,[(ac 0),(.str []),(.val (.slice none 0 0)),(.val (.slice none 0 0)),(.val (.slice none 0 0)),(.val (.slice none 0 0)),(ac 0),(ac 0),(.val (.slice none 0 0))]⟩),fun _=>none⟩) (Gh.le (av _ _) (ab rfl (cX.r) (ab rfl (cX.r) (ab rfl (cX.r) ao))) am) ?_;refine af ?_;refine jO (γ:=Unit) (fun t1 g1=>⟨21,upd (upd (upd (fun _=>.any) 3 (.box 3 b3 0)) 2 (.box 2 b2 0)) 0 (.box 1500 b_rA 0),upd (upd (upd (fun _=>none) 1500 (some ⟨b_rA,(aa t1.1)⟩)) 3 (some ⟨b3,(aG t1.2)⟩)) 2 (some ⟨b2,[(ac 0),(.str []),(.val (.slice none 0 0)),(.val (.slice none 0 0)),(.val (.slice none 0 0)),(.val (.slice none 0 0)),(ac 0),(ac 0),(.val (.slice none 0 0))]⟩),fun _=>none⟩) H (fun _ H Hp1=>?_) (fun t1 g1 H=>?_)
 ·refine bj rfl H (fun H=>?_) (fun H=>?_)
  ·refine ak (ae (aC tk rfl ?_))
   obtain⟨y7,h7,X7,H⟩:=cV H
   have s7:=hrec22 b_rA x5.2 _ h7;refine aH Tryz.call22 [(1500,1500)] [] s7 (pxF (fun e he=>(lvJ (X7 e he) Hp1)) _) ?_;rintro u7 H7h hR7
   obtain⟨x7,⟨rfl,rfl⟩,H⟩:=H _ _ _ hR7
   refine⟨_,rfl,?_⟩
   refine aE (st':=⟨_,_,upd (upd (upd (fun _=>none) 1500 (some ⟨b_rA,(aa x7.2)⟩)) 3 (some ⟨b3,[(ac 0),(.str []),(.val (.slice none 0 0)),(.val (.slice none 0 0)),(.val (.slice none 0 0)),(.val (.slice none 0 0)),(ac 0),(ac 0),(.val (.slice none 0 0))]⟩)) 2 (some ⟨b2,[(ac 0),(.str []),(.val (.slice none 0 0)),(.val (.slice none 0 0)),(.val (.slice none 0 0)),(.val (.slice none 0 0)),(ac 0),(ac 0),(.val (.slice none 0 0))]⟩),fun _=>none⟩) (Gh.le (av _ _) (ab rfl (cX.r) (ab rfl (cX.r) (ab rfl (cX.r) ao))) am) ?_;refine ap tk ?_;refine af (ae (aC tk rfl ?_))
   obtain⟨y9,h9,X9,H⟩:=cV H
   have s9:=aK b_rA x7.2 ([41]:List UInt8) _ h9;refine aH Tryz.call53 [(1500,1500)] [] s9 (pxF (fun e he=>(lvJ (X9 e he) Hp1)) _) ?_;rintro u9 H9h hR9
   obtain⟨x9,⟨rfl,rfl⟩,H⟩:=H _ _ _ hR9
   refine⟨_,rfl,?_⟩
   refine aE (st':=⟨_,_,upd (upd (upd (fun _=>none) 1500 (some ⟨b_rA,(aa x9)⟩)) 3 (some ⟨b3,(aG x7.1)⟩)) 2 (some ⟨b2,[(ac 0),(.str []),(.val (.slice none 0 0)),(.val (.slice none 0 0)),(.val (.slice none 0 0)),(.val (.slice none 0 0)),(ac 0),(ac 0),(.val (.slice none 0 0))]⟩),fun _=>none⟩) (Gh.le (av _ _) (ab rfl (cX.r) (ab rfl (cX.r) (ab rfl (cX.r) ao))) am) ?_;refine af ?_;refine cb _ () (aF H).symm Gh.d
  refine ak (ae (aC tk rfl ?_))
  obtain⟨y11,h11,X11,H⟩:=cV H
  have s11:=aK b_rA x5.2 ([115,99,97,110]:List UInt8) _ h11;refine aH Tryz.call53 [(1500,1500)] [] s11 (pxF (fun e he=>(lvJ (X11 e he) Hp1)) _) ?_;rintro u11 H11h hR11
  obtain⟨x11,⟨rfl,rfl⟩,H⟩:=H _ _ _ hR11
  refine⟨_,rfl,?_⟩
  refine aE (st':=⟨_,_,upd (upd (upd (fun _=>none) 1500 (some ⟨b_rA,(aa x11)⟩)) 3 (some ⟨b3,[(ac 0),(.str []),(.val (.slice none 0 0)),(.val (.slice none 0 0)),(.val (.slice none 0 0)),(.val (.slice none 0 0)),(ac 0),(ac 0),(.val (.slice none 0 0))]⟩)) 2 (some ⟨b2,[(ac 0),(.str []),(.val (.slice none 0 0)),(.val (.slice none 0 0)),(.val (.slice none 0 0)),(.val (.slice none 0 0)),(ac 0),(ac 0),(.val (.slice none 0 0))]⟩),fun _=>none⟩) (Gh.le (av _ _) (ab rfl (cX.r) (ab rfl (cX.r) (ab rfl (cX.r) ao))) am) ?_;refine af (ae (aC tk rfl ?_))
  obtain⟨y13,h13,X13,H⟩:=cV H
  have s13:=bQ b_rA x11 _ h13;refine aH Tryz.call54 [(1500,1500)] [] s13 (pxF (fun e he=>(lvJ (X13 e he) Hp1)) _) ?_;rintro u13 H13h hR13
  obtain⟨x13,⟨rfl,rfl⟩,H⟩:=H _ _ _ hR13
  refine⟨_,rfl,?_⟩
  refine aE (st':=⟨_,_,upd (upd (upd (fun _=>none) 1500 (some ⟨b_rA,(aa x13.2)⟩)) 3 (some ⟨b3,[(ac 0),(.str []),(.val (.slice none 0 0)),(.val (.slice none 0 0)),(.val (.slice none 0 0)),(.val (.slice none 0 0)),(ac 0),(ac 0),(.val (.slice none 0 0))]⟩)) 2 (some ⟨b2,[(ac 0),(.str []),(.val (.slice none 0 0)),(.val (.slice none 0 0)),(.val (.slice none 0 0)),(.val (.slice none 0 0)),(ac 0),(ac 0),(.val (.slice none 0 0))]⟩),fun _=>none⟩) (Gh.le (av _ _) (ab rfl (cX.r) (ab rfl (cX.r) (ab rfl (cX.r) ao))) am) ?_;refine aC tk rfl (ap tk ?_);refine af ?_;refine cb _ () (aF H).symm (Gh.le (bg (bg (bg aO))) (ab rfl (cX.r) (ab rfl (cX.of2 (dC.cons (gN.of_eq rfl) (dC.cons (gN.of_eq rfl) (dC.cons (gN.nil tk rfl) (dC.cons (gN.nil tk rfl) (dC.cons (gN.nil tk rfl) (dC.cons (gN.nil tk rfl) (dC.cons (gN.of_eq rfl) (dC.cons (gN.of_eq rfl) (dC.cons (gN.nil tk rfl) dC.nil)))))))))) (ab rfl (cX.r) ao))) am)
 refine ak ?_
 obtain⟨fl2,H2,Hp2⟩:=aM H
 refine ef (τ:=LQueryparserParser×LQuery) (γ:=Unit) (fun s2 g2=>⟨21,upd (upd (upd (fun _=>.any) 3 (.box 3 b3 0)) 2 (.box 2 b2 0)) 0 (.box 1500 b_rA 0),upd (upd (upd (fun _=>none) 1500 (some ⟨b_rA,(aa s2.1)⟩)) 3 (some ⟨b3,(aG s2.2)⟩)) 2 (some ⟨b2,[(ac 0),(.str []),(.val (.slice none 0 0)),(.val (.slice none 0 0)),(.val (.slice none 0 0)),(.val (.slice none 0 0)),(ac 0),(ac 0),(.val (.slice none 0 0))]⟩),fun _=>none⟩) (fun t=>fl2= .next t) ?_ (fun s2 g2 hn2=>?_)
 ·refine bt ?_;refine eF (fun s2 g2=>⟨21,upd (upd (upd (fun _=>.any) 3 (.box 3 b3 0)) 2 (.box 2 b2 0)) 0 (.box 1500 b_rA 0),upd (upd (upd (fun _=>none) 1500 (some ⟨b_rA,(aa s2.1)⟩)) 3 (some ⟨b3,(aG s2.2)⟩)) 2 (some ⟨b2,[(ac 0),(.str []),(.val (.slice none 0 0)),(.val (.slice none 0 0)),(.val (.slice none 0 0)),(.val (.slice none 0 0)),(ac 0),(ac 0),(.val (.slice none 0 0))]⟩),fun _=>none⟩) () H2 Gh.d (fun m2 s2 g2 hr2=>?_)
  obtain⟨fb2,H,hg2⟩:=dI hr2
  refine ak (ak (ae (aC tk rfl ?_)))
  obtain⟨x16,h16,H⟩:=aM H
  have s16:=az b_rA s2.1 ([124]:List UInt8) _ h16;refine bf (g:=52) rfl rfl rfl Tryz.call52 [(1500,1500)] [] rfl rfl rfl rfl (cX.of2 (dC.cons gN.boxT (dC.cons (gN.of_eq rfl) dC.nil))) (by rw[aN,aR,aS];rfl) s16 ?_;rintro u16 H16h ⟨rfl,rfl⟩
  refine⟨_,rfl,?_⟩
  refine aE (st':=⟨_,_,upd (upd (upd (fun _=>none) 1500 (some ⟨b_rA,(aa x16.2)⟩)) 3 (some ⟨b3,(aG s2.2)⟩)) 2 (some ⟨b2,[(ac 0),(.str []),(.val (.slice none 0 0)),(.val (.slice none 0 0)),(.val (.slice none 0 0)),(.val (.slice none 0 0)),(ac 0),(ac 0),(.val (.slice none 0 0))]⟩),fun _=>none⟩) (Gh.le (av _ _) (ab rfl (cX.r) (ab rfl (cX.r) (ab rfl (cX.r) ao))) am) ?_;refine af ?_;refine bj rfl H (fun H=>?_) (fun H=>?_)
  ·refine bc (bt (ae (aC tk rfl (aw tk ?_))))
   obtain⟨y19,h19,X19,H⟩:=cV H
   have s19:=hrec55 b_rA x16.2 s2.2 _ h19;refine aH Tryz.call55 [(1500,1500)] [] s19 (pxF (fun e he=>(lvR (X19 e he) hg2 Hp2)) _) ?_;rintro u19 H19h hR19
   obtain⟨x19,⟨rfl,rfl⟩,H⟩:=H _ _ _ hR19
   refine⟨_,rfl,?_⟩
   refine aE (st':=⟨_,_,upd (upd (upd (fun _=>none) 1500 (some ⟨b_rA,(aa x19.2)⟩)) 3 (some ⟨b3,(aG s2.2)⟩)) 2 (some ⟨b2,[(ac 0),(.str []),(.val (.slice none 0 0)),(.val (.slice none 0 0)),(.val (.slice none 0 0)),(.val (.slice none 0 0)),(ac 0),(ac 0),(.val (.slice none 0 0))]⟩),fun _=>none⟩) (Gh.le (av _ _) (ab rfl (cX.r) (ab rfl (cX.r) (ab rfl (cX.r) ao))) am) ?_;refine ap tk ?_;refine af (cn ?_);obtain rfl:=aF H;refine dE (x19.2,x19.1) () hg2 Gh.d
  refine dB rfl ?_;obtain rfl:=aF H;refine cb (x16.2,s2.2) () hg2 Gh.d
 have H:=du hn2 Hp2;refine ak (ae (aw tk ?_));refine ap tk ?_;refine af ?_;obtain rfl:=aF H;refine be (st':=⟨21,upd (fun _=>.any) 2 (.box 2 b2 0),upd (upd (fun _=>none) 1500 (some ⟨b_rA,(aa s2.1)⟩)) 2 (some ⟨b2,(aG s2.2)⟩),fun _=>none⟩) (Gh.le (bg aO) (ab rfl (cX.r) (ab rfl (cX.r) ao)) am) ?_;refine bS tk rfl (ps:=[(.agg (aG s2.2))]) ⟨_,_,rfl,⟨_,_,_,_,_,rfl,rfl,rfl,rfl⟩,rfl⟩ (PLe.q rfl) (HSub.updB rfl) ⟨rfl,rfl⟩
def cu(_rec22:LQueryparserParser→Option (Except Int (LQuery×LQueryparserParser)))(_rec55:LQueryparserParser→LQuery→Option (Except Int (LQuery×LQueryparserParser)))(rec89:LQueryparserParser→LQuery→Option (Except Int (LQueryparserParser×LQuery)))(rec90:LQueryparserParser→Option (Except Int (LQuery×LQueryparserParser)))(rA:LQueryparserParser)(inA:LQuery):Option (Except Int (LQuery×LQueryparserParser)):=
 ar (ah rA ([119,104,101,114,101]:List UInt8)) fun x13=>
 cond x13.1
  (aT (bI x13.2) fun x15=>
  some (.ok ((LQuery.mk 2 [] [] [x15.1] [] [] 0 0 [inA]),x15.2)))
  (ar (ah x13.2 ([112,114,111,106,101,99,116]:List UInt8)) fun x21=>
  cond x21.1
   (aT (cg x21.2 (LQuery.mk 3 [] [] [] [] [] 0 0 [inA])) fun x25=>
   some (.ok (x25.2,x25.1)))
   (ar (ah x21.2 ([106,111,105,110]:List UInt8)) fun x28=>
   cond x28.1
    (aT (rec89 x28.2 (LQuery.mk 4 [] [] [] [] [] 0 0 [inA])) fun x31=>
    some (.ok (x31.2,x31.1)))
    (ar (ah x28.2 ([108,101,102,116]:List UInt8)) fun x34=>
    cond x34.1
     (aT (aD x34.2 ([106,111,105,110]:List UInt8)) fun x36=>
     aT (rec89 x36 (LQuery.mk 5 [] [] [] [] [] 0 0 [inA])) fun x39=>
     some (.ok (x39.2,x39.1)))
     (ar (ah x34.2 ([117,110,105,111,110]:List UInt8)) fun x42=>
     cond x42.1
      (aT (rec90 x42.2) fun x46=>
      ar (ec 160 ([inA]:List LQuery) ([x46.1]:List LQuery)) fun(x48:List LQuery)=>
      some (.ok ((LQuery.mk 6 [] [] [] [] [] 0 0 x48),x46.2)))
      (ar (ah x42.2 ([101,120,99,101,112,116]:List UInt8)) fun x53=>
      cond x53.1
       (aT (rec90 x53.2) fun x57=>
       ar (ec 160 ([inA]:List LQuery) ([x57.1]:List LQuery)) fun(x59:List LQuery)=>
       some (.ok ((LQuery.mk 7 [] [] [] [] [] 0 0 x59),x57.2)))
       (ar (ah x53.2 ([103,114,111,117,112]:List UInt8)) fun x64=>
       cond x64.1
        (aT (ct x64.2 (LQuery.mk 8 [] [] [] [] [] 0 0 [inA])) fun x67=>
        some (.ok (x67.2,x67.1)))
        (ar (ah x64.2 ([115,111,114,116]:List UInt8)) fun x70=>
        cond x70.1
         (aT (cf x70.2 (LQuery.mk 9 [] [] [] [] [] 0 0 [inA])) fun x74=>
         some (.ok (x74.2,x74.1)))
         (ar (ah x70.2 ([108,105,109,105,116]:List UInt8)) fun x77=>
         cond x77.1
          (aT (bh x77.2) fun x79=>
          ar (ah x79.2 ([111,102,102,115,101,116]:List UInt8)) fun x83=>
          cond x83.1
           (aT (bh x83.2) fun x85=>
           cond (x85.1==(0:Int))
            (aT (aI (LQueryparserParser.mk x85.2.tokens (IntKind.i64.wrap (x85.2.next-(1:Int))) x85.2.size)) fun x98=>
            some (.ok ((LQuery.mk 10 [] [] [] [] [] x79.1 x85.1 [inA]),x98)))
            (some (.ok ((LQuery.mk 10 [] [] [] [] [] x79.1 x85.1 [inA]),x85.2))))
           (some (.ok ((LQuery.mk 10 [] [] [] [] [] x79.1 0 [inA]),x83.2))))
          (aT (aI x77.2) fun x10=>
          some (.ok ((LQuery.mk 0 [] [] [] [] [] 0 0 [inA]),x10)))))))))))
theorem gI(b_rA:Nat)(rec22:LQueryparserParser→Option (Except Int (LQuery×LQueryparserParser)))(rec55:LQueryparserParser→LQuery→Option (Except Int (LQuery×LQueryparserParser)))(rec89:LQueryparserParser→LQuery→Option (Except Int (LQueryparserParser×LQuery)))(rec90:LQueryparserParser→Option (Except Int (LQuery×LQueryparserParser)))(_hrec22:∀bb0 a0 r,rec22 a0=some r→aP Tryz.prog 22 [(.box 1500 bb0 0)] ⟨upd (fun _=>none) 1500 (some ⟨bb0,(aa a0)⟩),fun _=>none⟩ (RX r (fun rv u H=>u=(.agg (aG rv.1))∧H=⟨upd (fun _=>none) 1500 (some ⟨bb0,(aa rv.2)⟩),fun _=>none⟩)) (PX 106 r))(_hrec55:∀bb0 a0 a1 r,rec55 a0 a1=some r→aP Tryz.prog 55 [(.box 1500 bb0 0),(.agg (aG a1))] ⟨upd (fun _=>none) 1500 (some ⟨bb0,(aa a0)⟩),fun _=>none⟩ (RX r (fun rv u H=>u=(.agg (aG rv.1))∧H=⟨upd (fun _=>none) 1500 (some ⟨bb0,(aa rv.2)⟩),fun _=>none⟩)) (PX 106 r))(hrec89:∀bb0 bb1 gg1_8 a0 a1 r,rec89 a0 a1=some r→aP Tryz.prog 89 [(.box 1500 bb0 0),(.box 1501 bb1 0)] ⟨upd (upd (fun _=>none) 1501 (some ⟨bb1,[(ac a1.kind),(.str a1.table),(.list 9 (a1.names.map aB)),(.list 82 (a1.exprs.map al)),(.list 85 (a1.aggregates.map ax)),(.list 4 (a1.descending.map ay)),(ac a1.count),(ac a1.offset),(.own 1628 gg1_8 (a1.inputs.map ag).length)]⟩)) 1500 (some ⟨bb0,(aa a0)⟩),upd (fun _=>none) 1628 (some ⟨gg1_8,29,(a1.inputs.map ag),true⟩)⟩ (RX r (fun rv u H=>∃gz1_8,u=(.tup [])∧H=⟨upd (upd (fun _=>none) 1501 (some ⟨bb1,[(ac rv.2.kind),(.str rv.2.table),(.list 9 (rv.2.names.map aB)),(.list 82 (rv.2.exprs.map al)),(.list 85 (rv.2.aggregates.map ax)),(.list 4 (rv.2.descending.map ay)),(ac rv.2.count),(ac rv.2.offset),(.own 1628 gz1_8 (rv.2.inputs.map ag).length)]⟩)) 1500 (some ⟨bb0,(aa rv.1)⟩),upd (fun _=>none) 1628 (some ⟨gz1_8,29,(rv.2.inputs.map ag),true⟩)⟩)) (PX 106 r))(hrec90:∀bb0 a0 r,rec90 a0=some r→aP Tryz.prog 90 [(.box 1500 bb0 0)] ⟨upd (fun _=>none) 1500 (some ⟨bb0,(aa a0)⟩),fun _=>none⟩ (RX r (fun rv u H=>u=(.agg (aG rv.1))∧H=⟨upd (fun _=>none) 1500 (some ⟨bb0,(aa rv.2)⟩),fun _=>none⟩)) (PX 106 r))(rA:LQueryparserParser)(inA:LQuery)(r:Except Int (LQuery×LQueryparserParser))(H:cu rec22 rec55 rec89 rec90 rA inA=some r):
  aP Tryz.prog 55 [(.box 1500 b_rA 0),(.agg (aG inA))] ⟨upd (fun _=>none) 1500 (some ⟨b_rA,(aa rA)⟩),fun _=>none⟩ (RX r (fun rv u H=>u=(.agg (aG rv.1))∧H=⟨upd (fun _=>none) 1500 (some ⟨b_rA,(aa rv.2)⟩),fun _=>none⟩)) (PX 106 r):=by
 unfold cu at H;refine aP.intro Tryz.func55 rfl Tryz.ntmps55 rfl ?_;refine ak (ae ?_);refine kR (d:=2) rfl rfl rfl rfl rfl fun b2=>?_
 refine Ao.boxF rfl rfl rfl rfl rfl rfl ?_;refine aV tk fun b4=>?_
 refine af (ak (ae (aC tk rfl ?_)));refine kY (rows':=List.map ag ([inA]:List LQuery)) tk rfl rfl rfl rfl rfl rfl rfl (congrArg (List.map List.length) (dl eP ([inA]:List LQuery))).symm rfl (dC.trans (b:=(List.map aG ([inA]:List LQuery)).flatten) (dC.refl _) (dC.of_eq (congrArg List.flatten (dl eP ([inA]:List LQuery))))) fun g7=>?_
 refine aC tk rfl ?_;refine aV tk fun b5=>?_
 refine ap tk ?_;refine af (ak (bt (ak (ae (aw tk ?_)))))
 obtain⟨x13,h13,H⟩:=aM H
 have s13:=az b_rA rA ([119,104,101,114,101]:List UInt8) _ h13;refine bf (g:=52) rfl rfl rfl Tryz.call52 [(1500,1500)] [] rfl rfl rfl rfl (cX.of2 (dC.cons gN.boxT (dC.cons (gN.of_eq rfl) dC.nil))) (by rw[aN,aR,aS];rfl) s13 ?_;rintro u13 H13h ⟨rfl,rfl⟩
 refine⟨_,rfl,?_⟩
 refine aE (st':=⟨_,_,upd (upd (upd (upd (fun _=>none) 1500 (some ⟨b_rA,(aa x13.2)⟩)) 5 (some ⟨b5,[(ac 0),(.str []),(.val (.slice none 0 0)),(.val (.slice none 0 0)),(.val (.slice none 0 0)),(.val (.slice none 0 0)),(ac 0),(ac 0),(.own 7 g7 (([inA]:List LQuery).map ag).length)]⟩)) 4 (some ⟨b4,[(ac 0),(.str []),(.val (.slice none 0 0)),(.val (.slice none 0 0)),(.val (.slice none 0 0)),(.val (.slice none 0 0)),(ac 0),(ac 0),(.val (.slice none 0 0))]⟩)) 2 (some ⟨b2,[(.box 1500 b_rA 0)]⟩),upd (fun _=>none) 7 (some ⟨g7,29,(([inA]:List LQuery).map ag),true⟩)⟩) (Gh.le (av _ _) (ab rfl (cX.r) (ab rfl (cX.r) (ab rfl (cX.r) (ab rfl (cX.r) ao)))) (aq am)) ?_;refine aC tk rfl (af ?_);refine bj rfl H (fun H=>?_) (fun H=>?_)
 ·refine ae (aw tk ?_)
  obtain⟨y15,h15,X15,H⟩:=aX H
  have s15:=cE b_rA x13.2 _ h15;refine aH Tryz.call85 [(1500,1500)] [] s15 (X15 _) ?_;rintro u15 H15h hR15
  obtain⟨x15,⟨rfl,rfl⟩,H⟩:=H _ _ _ hR15
  refine⟨_,rfl,?_⟩
  refine aE (st':=⟨_,_,upd (upd (upd (upd (fun _=>none) 1500 (some ⟨b_rA,(aa x15.2)⟩)) 5 (some ⟨b5,[(ac 0),(.str []),(.val (.slice none 0 0)),(.val (.slice none 0 0)),(.val (.slice none 0 0)),(.val (.slice none 0 0)),(ac 0),(ac 0),(.own 7 g7 (([inA]:List LQuery).map ag).length)]⟩)) 4 (some ⟨b4,[(ac 0),(.str []),(.val (.slice none 0 0)),(.val (.slice none 0 0)),(.val (.slice none 0 0)),(.val (.slice none 0 0)),(ac 0),(ac 0),(.val (.slice none 0 0))]⟩)) 2 (some ⟨b2,[(.box 1500 b_rA 0)]⟩),upd (fun _=>none) 7 (some ⟨g7,29,(([inA]:List LQuery).map ag),true⟩)⟩) (Gh.le (av _ _) (ab rfl (cX.r) (ab rfl (cX.r) (ab rfl (cX.r) (ab rfl (cX.r) ao)))) (aq am)) ?_;refine kY (rows':=List.map al ([x15.1]:List LExpr)) tk rfl rfl rfl rfl rfl rfl rfl (congrArg (List.map List.length) (dl cO ([x15.1]:List LExpr))).symm rfl (dC.trans (b:=(List.map bM ([x15.1]:List LExpr)).flatten) (dC.refl _) (dC.of_eq (congrArg List.flatten (dl cO ([x15.1]:List LExpr))))) fun g16=>?_
  refine aC tk rfl (ap tk ?_);refine aC tk rfl (ap tk ?_);refine af (cn (ak (ae (aw tk ?_))));refine ap tk ?_;refine af ?_;obtain rfl:=aF H;refine bq 4 3 rfl rfl rfl rfl rfl (bq 4 8 rfl rfl rfl rfl rfl ?_);refine be (st':=⟨100,upd (fun _=>.any) 4 (.box 4 b4 0),upd (upd (fun _=>none) 1500 (some ⟨b_rA,(aa x15.2)⟩)) 4 (some ⟨b4,[(ac 2),(.str []),(.val (.slice none 0 0)),(.list 82 (([x15.1]:List LExpr).map al)),(.val (.slice none 0 0)),(.val (.slice none 0 0)),(ac 0),(ac 0),(.list 29 (([inA]:List LQuery).map ag))]⟩),fun _=>none⟩) (Gh.le (bg aO) (ab rfl (cX.r) (ab rfl (cX.r) ao)) am) ?_;refine bS tk rfl (ps:=[(.agg [(ac 2),(.str []),(.val (.slice none 0 0)),(.list 82 (([x15.1]:List LExpr).map al)),(.val (.slice none 0 0)),(.val (.slice none 0 0)),(ac 0),(ac 0),(.list 29 (([inA]:List LQuery).map ag))])]) ⟨_,_,rfl,⟨_,_,_,_,_,rfl,rfl,rfl,rfl⟩,rfl⟩ (PLe.of2 (gN.agg (dC.cons (gN.of_eq rfl) (dC.cons (gN.of_eq rfl) (dC.cons (gN.nil tk rfl) (dC.cons (gN.of_eq rfl) (dC.cons (gN.nil tk rfl) (dC.cons (gN.nil tk rfl) (dC.cons (gN.of_eq rfl) (dC.cons (gN.of_eq rfl) (dC.cons (gN.of_eq rfl) dC.nil))))))))))) (HSub.updB rfl) ⟨rfl,rfl⟩
 refine ak (ae (aw tk ?_))
 obtain⟨x21,h21,H⟩:=aM H
 have s21:=az b_rA x13.2 ([112,114,111,106,101,99,116]:List UInt8) _ h21;refine bf (g:=52) rfl rfl rfl Tryz.call52 [(1500,1500)] [] rfl rfl rfl rfl (cX.of2 (dC.cons gN.boxT (dC.cons (gN.of_eq rfl) dC.nil))) (by rw[aN,aR,aS];rfl) s21 ?_;rintro u21 H21h ⟨rfl,rfl⟩
 refine⟨_,rfl,?_⟩
 refine aE (st':=⟨_,_,upd (upd (upd (upd (fun _=>none) 1500 (some ⟨b_rA,(aa x21.2)⟩)) 5 (some ⟨b5,[(ac 0),(.str []),(.val (.slice none 0 0)),(.val (.slice none 0 0)),(.val (.slice none 0 0)),(.val (.slice none 0 0)),(ac 0),(ac 0),(.own 7 g7 (([inA]:List LQuery).map ag).length)]⟩)) 4 (some ⟨b4,[(ac 0),(.str []),(.val (.slice none 0 0)),(.val (.slice none 0 0)),(.val (.slice none 0 0)),(.val (.slice none 0 0)),(ac 0),(ac 0),(.val (.slice none 0 0))]⟩)) 2 (some ⟨b2,[(.box 1500 b_rA 0)]⟩),upd (fun _=>none) 7 (some ⟨g7,29,(([inA]:List LQuery).map ag),true⟩)⟩) (Gh.le (av _ _) (ab rfl (cX.r) (ab rfl (cX.r) (ab rfl (cX.r) (ab rfl (cX.r) ao)))) (aq am)) ?_;refine aC tk rfl (af ?_);refine bj rfl H (fun H=>?_) (fun H=>?_)
 ·refine ak (ae (aC tk rfl (ap tk ?_)));refine af (ae (aw tk ?_));refine aC tk rfl (aE (Gh.dF tk 5 2 1622 (e:=9) rfl rfl rfl rfl) (aE (Gh.dF tk 5 3 1623 (e:=82) rfl rfl rfl rfl) (aE (Gh.dF tk 5 4 1624 (e:=85) rfl rfl rfl rfl) (aE (Gh.dF tk 5 5 1625 (e:=4) rfl rfl rfl rfl) (aE (Gh.freezeOB 5 8 rfl rfl rfl rfl rfl) ?_)))))
  obtain⟨y25,h25,X25,H⟩:=aX H
  have s25:=gm b_rA b5 (⟨none,0⟩) (⟨none,0⟩) (⟨none,0⟩) (⟨none,0⟩) b2 x21.2 (LQuery.mk 3 [] [] [] [] [] 0 0 [inA]) _ h25;refine aH Tryz.call86 [(1500,1500),(5,1501),(2,1700)] [(1622,1622),(1623,1623),(1624,1624),(1625,1625)] s25 (X25 _) ?_;rintro u25 H25h hR25
  obtain⟨x25,⟨gz25_1622,gz25_1623,gz25_1624,gz25_1625,rfl,rfl⟩,H⟩:=H _ _ _ hR25
  refine⟨_,rfl,?_⟩
  refine aE (st':=⟨_,_,upd (upd (upd (upd (fun _=>none) 1500 (some ⟨b_rA,(aa x25.1)⟩)) 5 (some ⟨b5,[(ac x25.2.kind),(.str x25.2.table),(.own 1622 gz25_1622 (x25.2.names.map aB).length),(.own 1623 gz25_1623 (x25.2.exprs.map al).length),(.own 1624 gz25_1624 (x25.2.aggregates.map ax).length),(.own 1625 gz25_1625 (x25.2.descending.map ay).length),(ac x25.2.count),(ac x25.2.offset),(.list 29 (x25.2.inputs.map ag))]⟩)) 4 (some ⟨b4,[(ac 0),(.str []),(.val (.slice none 0 0)),(.val (.slice none 0 0)),(.val (.slice none 0 0)),(.val (.slice none 0 0)),(ac 0),(ac 0),(.val (.slice none 0 0))]⟩)) 2 (some ⟨b2,[(.box 1500 b_rA 0)]⟩),upd (upd (upd (upd (upd (fun _=>none) 7 (some ⟨g7,29,(([inA]:List LQuery).map ag),false⟩)) 1625 (some ⟨gz25_1625,4,(x25.2.descending.map ay),true⟩)) 1624 (some ⟨gz25_1624,85,(x25.2.aggregates.map ax),true⟩)) 1623 (some ⟨gz25_1623,82,(x25.2.exprs.map al),true⟩)) 1622 (some ⟨gz25_1622,9,(x25.2.names.map aB),true⟩)⟩) (Gh.le (av _ _) (ab rfl (cX.r) (ab rfl (cX.r) (ab rfl (cX.r) (ab rfl (cX.r) ao)))) (aq (aq (aq (aq (aq am)))))) ?_;refine af (cn (ak (ae (aw tk ?_))));refine ap tk ?_;refine af ?_;obtain rfl:=aF H;refine bq 4 2 rfl rfl rfl rfl rfl (bq 4 3 rfl rfl rfl rfl rfl (bq 4 4 rfl rfl rfl rfl rfl (bq 4 5 rfl rfl rfl rfl rfl ?_)));refine be (st':=⟨100,upd (fun _=>.any) 4 (.box 4 b4 0),upd (upd (fun _=>none) 1500 (some ⟨b_rA,(aa x25.1)⟩)) 4 (some ⟨b4,(aG x25.2)⟩),fun _=>none⟩) (Gh.le (bg aO) (ab rfl (cX.r) (ab rfl (cX.r) ao)) am) ?_;refine bS tk rfl (ps:=[(.agg (aG x25.2))]) ⟨_,_,rfl,⟨_,_,_,_,_,rfl,rfl,rfl,rfl⟩,rfl⟩ (PLe.q rfl) (HSub.updB rfl) ⟨rfl,rfl⟩
 refine ak (ae (aw tk ?_))
 obtain⟨x28,h28,H⟩:=aM H
 have s28:=az b_rA x21.2 ([106,111,105,110]:List UInt8) _ h28;refine bf (g:=52) rfl rfl rfl Tryz.call52 [(1500,1500)] [] rfl rfl rfl rfl (cX.of2 (dC.cons gN.boxT (dC.cons (gN.of_eq rfl) dC.nil))) (by rw[aN,aR,aS];rfl) s28 ?_;rintro u28 H28h ⟨rfl,rfl⟩
 refine⟨_,rfl,?_⟩
 refine aE (st':=⟨_,_,upd (upd (upd (upd (fun _=>none) 1500 (some ⟨b_rA,(aa x28.2)⟩)) 5 (some ⟨b5,[(ac 0),(.str []),(.val (.slice none 0 0)),(.val (.slice none 0 0)),(.val (.slice none 0 0)),(.val (.slice none 0 0)),(ac 0),(ac 0),(.own 7 g7 (([inA]:List LQuery).map ag).length)]⟩)) 4 (some ⟨b4,[(ac 0),(.str []),(.val (.slice none 0 0)),(.val (.slice none 0 0)),(.val (.slice none 0 0)),(.val (.slice none 0 0)),(ac 0),(ac 0),(.val (.slice none 0 0))]⟩)) 2 (some ⟨b2,[(.box 1500 b_rA 0)]⟩),upd (fun _=>none) 7 (some ⟨g7,29,(([inA]:List LQuery).map ag),true⟩)⟩) (Gh.le (av _ _) (ab rfl (cX.r) (ab rfl (cX.r) (ab rfl (cX.r) (ab rfl (cX.r) ao)))) (aq am)) ?_;refine aC tk rfl (af ?_);refine bj rfl H (fun H=>?_) (fun H=>?_)
 ·refine ak (ae (aC tk rfl (ap tk ?_)));refine af (ae (aw tk ?_));refine aE (Gh.mvO 7 1628 rfl) ?_;refine aE (st':=⟨_,_,upd (upd (upd (upd (fun _=>none) 1500 (some ⟨b_rA,(aa x28.2)⟩)) 5 (some ⟨b5,[(ac 4),(.str []),(.val (.slice none 0 0)),(.val (.slice none 0 0)),(.val (.slice none 0 0)),(.val (.slice none 0 0)),(ac 0),(ac 0),(.own 1628 g7 (([inA]:List LQuery).map ag).length)]⟩)) 4 (some ⟨b4,[(ac 0),(.str []),(.val (.slice none 0 0)),(.val (.slice none 0 0)),(.val (.slice none 0 0)),(.val (.slice none 0 0)),(ac 0),(ac 0),(.val (.slice none 0 0))]⟩)) 2 (some ⟨b2,[(.box 1500 b_rA 0)]⟩),upd (fun _=>none) 1628 (some ⟨g7,29,(([inA]:List LQuery).map ag),true⟩)⟩) (Gh.le (av _ _) (ab rfl (cX.r) (ab rfl (cX.r) (ab rfl (cX.of2 (dC.cons (gN.of_eq rfl) (dC.cons (gN.of_eq rfl) (dC.cons (gN.of_eq rfl) (dC.cons (gN.of_eq rfl) (dC.cons (gN.of_eq rfl) (dC.cons (gN.of_eq rfl) (dC.cons (gN.of_eq rfl) (dC.cons (gN.of_eq rfl) (dC.cons (gN.own rfl) dC.nil)))))))))) (ab rfl (cX.r) ao)))) (aq am)) ?_
  obtain⟨y31,h31,X31,H⟩:=aX H
  have s31:=hrec89 b_rA b5 g7 x28.2 (LQuery.mk 4 [] [] [] [] [] 0 0 [inA]) _ h31;refine aE (st':=⟨_,_,upd (upd (upd (upd (fun _=>none) 1500 (some ⟨b_rA,(aa x28.2)⟩)) 5 (some ⟨b5,[(ac ((LQuery.mk 4 [] [] [] [] [] 0 0 [inA]).kind)),(.str ((LQuery.mk 4 [] [] [] [] [] 0 0 [inA]).table)),(.list 9 (((LQuery.mk 4 [] [] [] [] [] 0 0 [inA]).names).map aB)),(.list 82 (((LQuery.mk 4 [] [] [] [] [] 0 0 [inA]).exprs).map al)),(.list 85 (((LQuery.mk 4 [] [] [] [] [] 0 0 [inA]).aggregates).map ax)),(.list 4 (((LQuery.mk 4 [] [] [] [] [] 0 0 [inA]).descending).map ay)),(ac ((LQuery.mk 4 [] [] [] [] [] 0 0 [inA]).count)),(ac ((LQuery.mk 4 [] [] [] [] [] 0 0 [inA]).offset)),(.own 1628 g7 (([inA]:List LQuery).map ag).length)]⟩)) 4 (some ⟨b4,[(ac 0),(.str []),(.val (.slice none 0 0)),(.val (.slice none 0 0)),(.val (.slice none 0 0)),(.val (.slice none 0 0)),(ac 0),(ac 0),(.val (.slice none 0 0))]⟩)) 2 (some ⟨b2,[(.box 1500 b_rA 0)]⟩),upd (fun _=>none) 1628 (some ⟨g7,29,(([inA]:List LQuery).map ag),true⟩)⟩) (Gh.le (av _ _) (ab rfl (cX.r) (ab rfl (cX.r) (ab rfl (cX.of2 (dC.cons (gN.of_eq rfl) (dC.cons (gN.of_eq rfl) (dC.cons (gN.nil tk rfl) (dC.cons (gN.nil tk rfl) (dC.cons (gN.nil tk rfl) (dC.cons (gN.nil tk rfl) (dC.cons (gN.of_eq rfl) (dC.cons (gN.of_eq rfl) (dC.cons (gN.of_eq rfl) dC.nil)))))))))) (ab rfl (cX.r) ao)))) (aq am)) ?_;refine aH Tryz.call89 [(1500,1500),(5,1501)] [(1628,1628)] s31 (X31 _) ?_;rintro u31 H31h hR31
  obtain⟨x31,⟨gz31_1628,rfl,rfl⟩,H⟩:=H _ _ _ hR31
  refine⟨_,rfl,?_⟩
  refine aE (st':=⟨_,_,upd (upd (upd (upd (fun _=>none) 1500 (some ⟨b_rA,(aa x31.1)⟩)) 5 (some ⟨b5,[(ac x31.2.kind),(.str x31.2.table),(.list 9 (x31.2.names.map aB)),(.list 82 (x31.2.exprs.map al)),(.list 85 (x31.2.aggregates.map ax)),(.list 4 (x31.2.descending.map ay)),(ac x31.2.count),(ac x31.2.offset),(.own 1628 gz31_1628 (x31.2.inputs.map ag).length)]⟩)) 4 (some ⟨b4,[(ac 0),(.str []),(.val (.slice none 0 0)),(.val (.slice none 0 0)),(.val (.slice none 0 0)),(.val (.slice none 0 0)),(ac 0),(ac 0),(.val (.slice none 0 0))]⟩)) 2 (some ⟨b2,[(.box 1500 b_rA 0)]⟩),upd (fun _=>none) 1628 (some ⟨gz31_1628,29,(x31.2.inputs.map ag),true⟩)⟩) (Gh.le (av _ _) (ab rfl (cX.r) (ab rfl (cX.r) (ab rfl (cX.r) (ab rfl (cX.r) ao)))) (aq am)) ?_;refine af (cn (ak (ae (aw tk ?_))));refine ap tk ?_;refine af ?_;obtain rfl:=aF H;refine bq 4 8 rfl rfl rfl rfl rfl ?_;refine be (st':=⟨100,upd (fun _=>.any) 4 (.box 4 b4 0),upd (upd (fun _=>none) 1500 (some ⟨b_rA,(aa x31.1)⟩)) 4 (some ⟨b4,(aG x31.2)⟩),fun _=>none⟩) (Gh.le (bg aO) (ab rfl (cX.r) (ab rfl (cX.r) ao)) am) ?_;refine bS tk rfl (ps:=[(.agg (aG x31.2))]) ⟨_,_,rfl,⟨_,_,_,_,_,rfl,rfl,rfl,rfl⟩,rfl⟩ (PLe.q rfl) (HSub.updB rfl) ⟨rfl,rfl⟩
 refine ak (ae (aw tk ?_))
 obtain⟨x34,h34,H⟩:=aM H
 have s34:=az b_rA x28.2 ([108,101,102,116]:List UInt8) _ h34;refine bf (g:=52) rfl rfl rfl Tryz.call52 [(1500,1500)] [] rfl rfl rfl rfl (cX.of2 (dC.cons gN.boxT (dC.cons (gN.of_eq rfl) dC.nil))) (by rw[aN,aR,aS];rfl) s34 ?_;rintro u34 H34h ⟨rfl,rfl⟩
 refine⟨_,rfl,?_⟩
 refine aE (st':=⟨_,_,upd (upd (upd (upd (fun _=>none) 1500 (some ⟨b_rA,(aa x34.2)⟩)) 5 (some ⟨b5,[(ac 0),(.str []),(.val (.slice none 0 0)),(.val (.slice none 0 0)),(.val (.slice none 0 0)),(.val (.slice none 0 0)),(ac 0),(ac 0),(.own 7 g7 (([inA]:List LQuery).map ag).length)]⟩)) 4 (some ⟨b4,[(ac 0),(.str []),(.val (.slice none 0 0)),(.val (.slice none 0 0)),(.val (.slice none 0 0)),(.val (.slice none 0 0)),(ac 0),(ac 0),(.val (.slice none 0 0))]⟩)) 2 (some ⟨b2,[(.box 1500 b_rA 0)]⟩),upd (fun _=>none) 7 (some ⟨g7,29,(([inA]:List LQuery).map ag),true⟩)⟩) (Gh.le (av _ _) (ab rfl (cX.r) (ab rfl (cX.r) (ab rfl (cX.r) (ab rfl (cX.r) ao)))) (aq am)) ?_;refine aC tk rfl (af ?_);refine bj rfl H (fun H=>?_) (fun H=>?_)
 ·refine ak (ae (aw tk ?_))
  obtain⟨y36,h36,X36,H⟩:=aX H
  have s36:=aK b_rA x34.2 ([106,111,105,110]:List UInt8) _ h36;refine aH Tryz.call53 [(1500,1500)] [] s36 (X36 _) ?_;rintro u36 H36h hR36
  obtain⟨x36,⟨rfl,rfl⟩,H⟩:=H _ _ _ hR36
  refine⟨_,rfl,?_⟩
  refine aE (st':=⟨_,_,upd (upd (upd (upd (fun _=>none) 1500 (some ⟨b_rA,(aa x36)⟩)) 5 (some ⟨b5,[(ac 0),(.str []),(.val (.slice none 0 0)),(.val (.slice none 0 0)),(.val (.slice none 0 0)),(.val (.slice none 0 0)),(ac 0),(ac 0),(.own 7 g7 (([inA]:List LQuery).map ag).length)]⟩)) 4 (some ⟨b4,[(ac 0),(.str []),(.val (.slice none 0 0)),(.val (.slice none 0 0)),(.val (.slice none 0 0)),(.val (.slice none 0 0)),(ac 0),(ac 0),(.val (.slice none 0 0))]⟩)) 2 (some ⟨b2,[(.box 1500 b_rA 0)]⟩),upd (fun _=>none) 7 (some ⟨g7,29,(([inA]:List LQuery).map ag),true⟩)⟩) (Gh.le (av _ _) (ab rfl (cX.r) (ab rfl (cX.r) (ab rfl (cX.r) (ab rfl (cX.r) ao)))) (aq am)) ?_;refine af (ak (ae (aC tk rfl (ap tk ?_))));refine af (ae (aw tk ?_));refine aE (Gh.mvO 7 1628 rfl) ?_;refine aE (st':=⟨_,_,upd (upd (upd (upd (fun _=>none) 1500 (some ⟨b_rA,(aa x36)⟩)) 5 (some ⟨b5,[(ac 5),(.str []),(.val (.slice none 0 0)),(.val (.slice none 0 0)),(.val (.slice none 0 0)),(.val (.slice none 0 0)),(ac 0),(ac 0),(.own 1628 g7 (([inA]:List LQuery).map ag).length)]⟩)) 4 (some ⟨b4,[(ac 0),(.str []),(.val (.slice none 0 0)),(.val (.slice none 0 0)),(.val (.slice none 0 0)),(.val (.slice none 0 0)),(ac 0),(ac 0),(.val (.slice none 0 0))]⟩)) 2 (some ⟨b2,[(.box 1500 b_rA 0)]⟩),upd (fun _=>none) 1628 (some ⟨g7,29,(([inA]:List LQuery).map ag),true⟩)⟩) (Gh.le (av _ _) (ab rfl (cX.r) (ab rfl (cX.r) (ab rfl (cX.of2 (dC.cons (gN.of_eq rfl) (dC.cons (gN.of_eq rfl) (dC.cons (gN.of_eq rfl) (dC.cons (gN.of_eq rfl) (dC.cons (gN.of_eq rfl) (dC.cons (gN.of_eq rfl) (dC.cons (gN.of_eq rfl) (dC.cons (gN.of_eq rfl) (dC.cons (gN.own rfl) dC.nil)))))))))) (ab rfl (cX.r) ao)))) (aq am)) ?_
  obtain⟨y39,h39,X39,H⟩:=aX H
  have s39:=hrec89 b_rA b5 g7 x36 (LQuery.mk 5 [] [] [] [] [] 0 0 [inA]) _ h39;refine aE (st':=⟨_,_,upd (upd (upd (upd (fun _=>none) 1500 (some ⟨b_rA,(aa x36)⟩)) 5 (some ⟨b5,[(ac ((LQuery.mk 5 [] [] [] [] [] 0 0 [inA]).kind)),(.str ((LQuery.mk 5 [] [] [] [] [] 0 0 [inA]).table)),(.list 9 (((LQuery.mk 5 [] [] [] [] [] 0 0 [inA]).names).map aB)),(.list 82 (((LQuery.mk 5 [] [] [] [] [] 0 0 [inA]).exprs).map al)),(.list 85 (((LQuery.mk 5 [] [] [] [] [] 0 0 [inA]).aggregates).map ax)),(.list 4 (((LQuery.mk 5 [] [] [] [] [] 0 0 [inA]).descending).map ay)),(ac ((LQuery.mk 5 [] [] [] [] [] 0 0 [inA]).count)),(ac ((LQuery.mk 5 [] [] [] [] [] 0 0 [inA]).offset)),(.own 1628 g7 (([inA]:List LQuery).map ag).length)]⟩)) 4 (some ⟨b4,[(ac 0),(.str []),(.val (.slice none 0 0)),(.val (.slice none 0 0)),(.val (.slice none 0 0)),(.val (.slice none 0 0)),(ac 0),(ac 0),(.val (.slice none 0 0))]⟩)) 2 (some ⟨b2,[(.box 1500 b_rA 0)]⟩),upd (fun _=>none) 1628 (some ⟨g7,29,(([inA]:List LQuery).map ag),true⟩)⟩) (Gh.le (av _ _) (ab rfl (cX.r) (ab rfl (cX.r) (ab rfl (cX.of2 (dC.cons (gN.of_eq rfl) (dC.cons (gN.of_eq rfl) (dC.cons (gN.nil tk rfl) (dC.cons (gN.nil tk rfl) (dC.cons (gN.nil tk rfl) (dC.cons (gN.nil tk rfl) (dC.cons (gN.of_eq rfl) (dC.cons (gN.of_eq rfl) (dC.cons (gN.of_eq rfl) dC.nil)))))))))) (ab rfl (cX.r) ao)))) (aq am)) ?_;refine aH Tryz.call89 [(1500,1500),(5,1501)] [(1628,1628)] s39 (X39 _) ?_;rintro u39 H39h hR39
  obtain⟨x39,⟨gz39_1628,rfl,rfl⟩,H⟩:=H _ _ _ hR39
  refine⟨_,rfl,?_⟩
  refine aE (st':=⟨_,_,upd (upd (upd (upd (fun _=>none) 1500 (some ⟨b_rA,(aa x39.1)⟩)) 5 (some ⟨b5,[(ac x39.2.kind),(.str x39.2.table),(.list 9 (x39.2.names.map aB)),(.list 82 (x39.2.exprs.map al)),(.list 85 (x39.2.aggregates.map ax)),(.list 4 (x39.2.descending.map ay)),(ac x39.2.count),(ac x39.2.offset),(.own 1628 gz39_1628 (x39.2.inputs.map ag).length)]⟩)) 4 (some ⟨b4,[(ac 0),(.str []),(.val (.slice none 0 0)),(.val (.slice none 0 0)),(.val (.slice none 0 0)),(.val (.slice none 0 0)),(ac 0),(ac 0),(.val (.slice none 0 0))]⟩)) 2 (some ⟨b2,[(.box 1500 b_rA 0)]⟩),upd (fun _=>none) 1628 (some ⟨gz39_1628,29,(x39.2.inputs.map ag),true⟩)⟩) (Gh.le (av _ _) (ab rfl (cX.r) (ab rfl (cX.r) (ab rfl (cX.r) (ab rfl (cX.r) ao)))) (aq am)) ?_;refine af (cn (ak (ae (aw tk ?_))));refine ap tk ?_;refine af ?_;obtain rfl:=aF H;refine bq 4 8 rfl rfl rfl rfl rfl ?_;refine be (st':=⟨100,upd (fun _=>.any) 4 (.box 4 b4 0),upd (upd (fun _=>none) 1500 (some ⟨b_rA,(aa x39.1)⟩)) 4 (some ⟨b4,(aG x39.2)⟩),fun _=>none⟩) (Gh.le (bg aO) (ab rfl (cX.r) (ab rfl (cX.r) ao)) am) ?_;refine bS tk rfl (ps:=[(.agg (aG x39.2))]) ⟨_,_,rfl,⟨_,_,_,_,_,rfl,rfl,rfl,rfl⟩,rfl⟩ (PLe.q rfl) (HSub.updB rfl) ⟨rfl,rfl⟩
 refine ak (ae (aw tk ?_))
 obtain⟨x42,h42,H⟩:=aM H
 have s42:=az b_rA x34.2 ([117,110,105,111,110]:List UInt8) _ h42;refine bf (g:=52) rfl rfl rfl Tryz.call52 [(1500,1500)] [] rfl rfl rfl rfl (cX.of2 (dC.cons gN.boxT (dC.cons (gN.of_eq rfl) dC.nil))) (by rw[aN,aR,aS];rfl) s42 ?_;rintro u42 H42h ⟨rfl,rfl⟩
 refine⟨_,rfl,?_⟩
 refine aE (st':=⟨_,_,upd (upd (upd (upd (fun _=>none) 1500 (some ⟨b_rA,(aa x42.2)⟩)) 5 (some ⟨b5,[(ac 0),(.str []),(.val (.slice none 0 0)),(.val (.slice none 0 0)),(.val (.slice none 0 0)),(.val (.slice none 0 0)),(ac 0),(ac 0),(.own 7 g7 (([inA]:List LQuery).map ag).length)]⟩)) 4 (some ⟨b4,[(ac 0),(.str []),(.val (.slice none 0 0)),(.val (.slice none 0 0)),(.val (.slice none 0 0)),(.val (.slice none 0 0)),(ac 0),(ac 0),(.val (.slice none 0 0))]⟩)) 2 (some ⟨b2,[(.box 1500 b_rA 0)]⟩),upd (fun _=>none) 7 (some ⟨g7,29,(([inA]:List LQuery).map ag),true⟩)⟩) (Gh.le (av _ _) (ab rfl (cX.r) (ab rfl (cX.r) (ab rfl (cX.r) (ab rfl (cX.r) ao)))) (aq am)) ?_;refine aC tk rfl (af ?_);refine bj rfl H (fun H=>?_) (fun H=>?_)
 ·refine dz tk mok ⟨true,false,[999997,3000002,3000005,4000044,4000045]⟩ [0,1,2,3,4,5,6,7,8,9] rfl (by decide+kernel) rfl (cN rfl (cL tk ?_));refine cL tk ?_
  obtain⟨y46,h46,X46,H⟩:=aX H
  have s46:=hrec90 b_rA x42.2 _ h46;refine eA Tryz.call90 [(1500,1500)] [] s46 (X46 _) ?_;rintro u46 H46h hR46
  obtain⟨x46,⟨rfl,rfl⟩,H⟩:=H _ _ _ hR46
  refine⟨_,rfl,?_⟩
  refine cN rfl ?_
  obtain⟨x48,h48,H⟩:=aM H
  have k48:=dW h48;refine fH (rows2':=List.map ag ([x46.1]:List LQuery)) (rows':=List.map ag x48) tk rfl rfl rfl rfl rfl rfl rfl rfl rfl rfl rfl rfl rfl rfl (cS.trans (b:=List.map aG [x46.1]) (cS.refl _) (cS.of_eq (dl eP [x46.1]))) (fj k48.1) (fa k48.2.1) (fh k48.2.2) fun g48=>?_
  refine cN rfl (eD rfl rfl rfl rfl rfl rfl rfl rfl rfl rfl rfl rfl (cN rfl (eD rfl rfl rfl rfl rfl rfl rfl rfl rfl rfl rfl rfl (cQ ?_))));refine be (st':=⟨_,_,upd (upd (upd (upd (fun _=>none) 1500 (some ⟨b_rA,(aa x46.2)⟩)) 5 (some ⟨b5,[(ac 6),(.str []),(.val (.slice none 0 0)),(.val (.slice none 0 0)),(.val (.slice none 0 0)),(.val (.slice none 0 0)),(ac 0),(ac 0),(.own 7 g48 (x48.map ag).length)]⟩)) 4 (some ⟨b4,[(ac 0),(.str []),(.val (.slice none 0 0)),(.val (.slice none 0 0)),(.val (.slice none 0 0)),(.val (.slice none 0 0)),(ac 0),(ac 0),(.val (.slice none 0 0))]⟩)) 2 (some ⟨b2,[(.box 1500 b_rA 0)]⟩),upd (fun _=>none) 7 (some ⟨g48,29,(x48.map ag),true⟩)⟩) (Gh.le (av _ _) (ab rfl (cX.r) (ab rfl (cX.r) (ab rfl (cX.r) (ab rfl (cX.r) ao)))) (aq am)) ?_;refine cn (ak (ae (aw tk ?_)));refine ap tk ?_;refine af ?_;obtain rfl:=aF H;refine bq 4 8 rfl rfl rfl rfl rfl ?_;refine be (st':=⟨100,upd (fun _=>.any) 4 (.box 4 b4 0),upd (upd (fun _=>none) 1500 (some ⟨b_rA,(aa x46.2)⟩)) 4 (some ⟨b4,[(ac 6),(.str []),(.val (.slice none 0 0)),(.val (.slice none 0 0)),(.val (.slice none 0 0)),(.val (.slice none 0 0)),(ac 0),(ac 0),(.list 29 (x48.map ag))]⟩),fun _=>none⟩) (Gh.le (bg aO) (ab rfl (cX.r) (ab rfl (cX.r) ao)) am) ?_;refine bS tk rfl (ps:=[(.agg [(ac 6),(.str []),(.val (.slice none 0 0)),(.val (.slice none 0 0)),(.val (.slice none 0 0)),(.val (.slice none 0 0)),(ac 0),(ac 0),(.list 29 (x48.map ag))])]) ⟨_,_,rfl,⟨_,_,_,_,_,rfl,rfl,rfl,rfl⟩,rfl⟩ (PLe.of2 (gN.agg (dC.cons (gN.of_eq rfl) (dC.cons (gN.of_eq rfl) (dC.cons (gN.nil tk rfl) (dC.cons (gN.nil tk rfl) (dC.cons (gN.nil tk rfl) (dC.cons (gN.nil tk rfl) (dC.cons (gN.of_eq rfl) (dC.cons (gN.of_eq rfl) (dC.cons (gN.of_eq rfl) dC.nil))))))))))) (HSub.updB rfl) ⟨rfl,rfl⟩
 refine ak (ae (aw tk ?_))
 obtain⟨x53,h53,H⟩:=aM H
 have s53:=az b_rA x42.2 ([101,120,99,101,112,116]:List UInt8) _ h53;refine bf (g:=52) rfl rfl rfl Tryz.call52 [(1500,1500)] [] rfl rfl rfl rfl (cX.of2 (dC.cons gN.boxT (dC.cons (gN.of_eq rfl) dC.nil))) (by rw[aN,aR,aS];rfl) s53 ?_;rintro u53 H53h ⟨rfl,rfl⟩
 refine⟨_,rfl,?_⟩
 refine aE (st':=⟨_,_,upd (upd (upd (upd (fun _=>none) 1500 (some ⟨b_rA,(aa x53.2)⟩)) 5 (some ⟨b5,[(ac 0),(.str []),(.val (.slice none 0 0)),(.val (.slice none 0 0)),(.val (.slice none 0 0)),(.val (.slice none 0 0)),(ac 0),(ac 0),(.own 7 g7 (([inA]:List LQuery).map ag).length)]⟩)) 4 (some ⟨b4,[(ac 0),(.str []),(.val (.slice none 0 0)),(.val (.slice none 0 0)),(.val (.slice none 0 0)),(.val (.slice none 0 0)),(ac 0),(ac 0),(.val (.slice none 0 0))]⟩)) 2 (some ⟨b2,[(.box 1500 b_rA 0)]⟩),upd (fun _=>none) 7 (some ⟨g7,29,(([inA]:List LQuery).map ag),true⟩)⟩) (Gh.le (av _ _) (ab rfl (cX.r) (ab rfl (cX.r) (ab rfl (cX.r) (ab rfl (cX.r) ao)))) (aq am)) ?_;refine aC tk rfl (af ?_);refine bj rfl H (fun H=>?_) (fun H=>?_)
 ·refine dz tk mok ⟨true,false,[999997,3000002,3000005,4000055,4000056]⟩ [0,1,2,3,4,5,6,7,8,9] rfl (by decide+kernel) rfl (cN rfl (cL tk ?_));refine cL tk ?_
  obtain⟨y57,h57,X57,H⟩:=aX H
  have s57:=hrec90 b_rA x53.2 _ h57;refine eA Tryz.call90 [(1500,1500)] [] s57 (X57 _) ?_;rintro u57 H57h hR57
  obtain⟨x57,⟨rfl,rfl⟩,H⟩:=H _ _ _ hR57
  refine⟨_,rfl,?_⟩
  refine cN rfl ?_
  obtain⟨x59,h59,H⟩:=aM H
  have k59:=dW h59;refine fH (rows2':=List.map ag ([x57.1]:List LQuery)) (rows':=List.map ag x59) tk rfl rfl rfl rfl rfl rfl rfl rfl rfl rfl rfl rfl rfl rfl (cS.trans (b:=List.map aG [x57.1]) (cS.refl _) (cS.of_eq (dl eP [x57.1]))) (fj k59.1) (fa k59.2.1) (fh k59.2.2) fun g59=>?_
  refine cN rfl (eD rfl rfl rfl rfl rfl rfl rfl rfl rfl rfl rfl rfl (cN rfl (eD rfl rfl rfl rfl rfl rfl rfl rfl rfl rfl rfl rfl (cQ ?_))));refine be (st':=⟨_,_,upd (upd (upd (upd (fun _=>none) 1500 (some ⟨b_rA,(aa x57.2)⟩)) 5 (some ⟨b5,[(ac 7),(.str []),(.val (.slice none 0 0)),(.val (.slice none 0 0)),(.val (.slice none 0 0)),(.val (.slice none 0 0)),(ac 0),(ac 0),(.own 7 g59 (x59.map ag).length)]⟩)) 4 (some ⟨b4,[(ac 0),(.str []),(.val (.slice none 0 0)),(.val (.slice none 0 0)),(.val (.slice none 0 0)),(.val (.slice none 0 0)),(ac 0),(ac 0),(.val (.slice none 0 0))]⟩)) 2 (some ⟨b2,[(.box 1500 b_rA 0)]⟩),upd (fun _=>none) 7 (some ⟨g59,29,(x59.map ag),true⟩)⟩) (Gh.le (av _ _) (ab rfl (cX.r) (ab rfl (cX.r) (ab rfl (cX.r) (ab rfl (cX.r) ao)))) (aq am)) ?_;refine cn (ak (ae (aw tk ?_)));refine ap tk ?_;refine af ?_;obtain rfl:=aF H;refine bq 4 8 rfl rfl rfl rfl rfl ?_;refine be (st':=⟨100,upd (fun _=>.any) 4 (.box 4 b4 0),upd (upd (fun _=>none) 1500 (some ⟨b_rA,(aa x57.2)⟩)) 4 (some ⟨b4,[(ac 7),(.str []),(.val (.slice none 0 0)),(.val (.slice none 0 0)),(.val (.slice none 0 0)),(.val (.slice none 0 0)),(ac 0),(ac 0),(.list 29 (x59.map ag))]⟩),fun _=>none⟩) (Gh.le (bg aO) (ab rfl (cX.r) (ab rfl (cX.r) ao)) am) ?_;refine bS tk rfl (ps:=[(.agg [(ac 7),(.str []),(.val (.slice none 0 0)),(.val (.slice none 0 0)),(.val (.slice none 0 0)),(.val (.slice none 0 0)),(ac 0),(ac 0),(.list 29 (x59.map ag))])]) ⟨_,_,rfl,⟨_,_,_,_,_,rfl,rfl,rfl,rfl⟩,rfl⟩ (PLe.of2 (gN.agg (dC.cons (gN.of_eq rfl) (dC.cons (gN.of_eq rfl) (dC.cons (gN.nil tk rfl) (dC.cons (gN.nil tk rfl) (dC.cons (gN.nil tk rfl) (dC.cons (gN.nil tk rfl) (dC.cons (gN.of_eq rfl) (dC.cons (gN.of_eq rfl) (dC.cons (gN.of_eq rfl) dC.nil))))))))))) (HSub.updB rfl) ⟨rfl,rfl⟩
 refine ak (ae (aw tk ?_))
 obtain⟨x64,h64,H⟩:=aM H
 have s64:=az b_rA x53.2 ([103,114,111,117,112]:List UInt8) _ h64;refine bf (g:=52) rfl rfl rfl Tryz.call52 [(1500,1500)] [] rfl rfl rfl rfl (cX.of2 (dC.cons gN.boxT (dC.cons (gN.of_eq rfl) dC.nil))) (by rw[aN,aR,aS];rfl) s64 ?_;rintro u64 H64h ⟨rfl,rfl⟩
 refine⟨_,rfl,?_⟩
 refine aE (st':=⟨_,_,upd (upd (upd (upd (fun _=>none) 1500 (some ⟨b_rA,(aa x64.2)⟩)) 5 (some ⟨b5,[(ac 0),(.str []),(.val (.slice none 0 0)),(.val (.slice none 0 0)),(.val (.slice none 0 0)),(.val (.slice none 0 0)),(ac 0),(ac 0),(.own 7 g7 (([inA]:List LQuery).map ag).length)]⟩)) 4 (some ⟨b4,[(ac 0),(.str []),(.val (.slice none 0 0)),(.val (.slice none 0 0)),(.val (.slice none 0 0)),(.val (.slice none 0 0)),(ac 0),(ac 0),(.val (.slice none 0 0))]⟩)) 2 (some ⟨b2,[(.box 1500 b_rA 0)]⟩),upd (fun _=>none) 7 (some ⟨g7,29,(([inA]:List LQuery).map ag),true⟩)⟩) (Gh.le (av _ _) (ab rfl (cX.r) (ab rfl (cX.r) (ab rfl (cX.r) (ab rfl (cX.r) ao)))) (aq am)) ?_;refine aC tk rfl (af ?_);refine bj rfl H (fun H=>?_) (fun H=>?_)
 ·refine ak (ae (aC tk rfl (ap tk ?_)));refine af (ae (aw tk ?_));refine aE (Gh.dF tk 5 2 1622 (e:=9) rfl rfl rfl rfl) (aE (Gh.dF tk 5 3 1623 (e:=82) rfl rfl rfl rfl) (aE (Gh.dF tk 5 4 1624 (e:=85) rfl rfl rfl rfl) (aE (Gh.dF tk 5 5 1625 (e:=4) rfl rfl rfl rfl) (aE (Gh.freezeOB 5 8 rfl rfl rfl rfl rfl) ?_))))
  obtain⟨y67,h67,X67,H⟩:=aX H
  have s67:=gP b_rA b5 (⟨none,0⟩) (⟨none,0⟩) (⟨none,0⟩) (⟨none,0⟩) x64.2 (LQuery.mk 8 [] [] [] [] [] 0 0 [inA]) _ h67;refine aH Tryz.call91 [(1500,1500),(5,1501)] [(1622,1622),(1623,1623),(1624,1624),(1625,1625)] s67 (X67 _) ?_;rintro u67 H67h hR67
  obtain⟨x67,⟨gz67_1622,gz67_1623,gz67_1624,gz67_1625,rfl,rfl⟩,H⟩:=H _ _ _ hR67
  refine⟨_,rfl,?_⟩
  refine aE (st':=⟨_,_,upd (upd (upd (upd (fun _=>none) 1500 (some ⟨b_rA,(aa x67.1)⟩)) 5 (some ⟨b5,[(ac x67.2.kind),(.str x67.2.table),(.own 1622 gz67_1622 (x67.2.names.map aB).length),(.own 1623 gz67_1623 (x67.2.exprs.map al).length),(.own 1624 gz67_1624 (x67.2.aggregates.map ax).length),(.own 1625 gz67_1625 (x67.2.descending.map ay).length),(ac x67.2.count),(ac x67.2.offset),(.list 29 (x67.2.inputs.map ag))]⟩)) 4 (some ⟨b4,[(ac 0),(.str []),(.val (.slice none 0 0)),(.val (.slice none 0 0)),(.val (.slice none 0 0)),(.val (.slice none 0 0)),(ac 0),(ac 0),(.val (.slice none 0 0))]⟩)) 2 (some ⟨b2,[(.box 1500 b_rA 0)]⟩),upd (upd (upd (upd (upd (fun _=>none) 7 (some ⟨g7,29,(([inA]:List LQuery).map ag),false⟩)) 1625 (some ⟨gz67_1625,4,(x67.2.descending.map ay),true⟩)) 1624 (some ⟨gz67_1624,85,(x67.2.aggregates.map ax),true⟩)) 1623 (some ⟨gz67_1623,82,(x67.2.exprs.map al),true⟩)) 1622 (some ⟨gz67_1622,9,(x67.2.names.map aB),true⟩)⟩) (Gh.le (av _ _) (ab rfl (cX.r) (ab rfl (cX.r) (ab rfl (cX.r) (ab rfl (cX.r) ao)))) (aq (aq (aq (aq (aq am)))))) ?_;refine af (cn (ak (ae (aw tk ?_))));refine ap tk ?_;refine af ?_;obtain rfl:=aF H;refine bq 4 2 rfl rfl rfl rfl rfl (bq 4 3 rfl rfl rfl rfl rfl (bq 4 4 rfl rfl rfl rfl rfl (bq 4 5 rfl rfl rfl rfl rfl ?_)));refine be (st':=⟨100,upd (fun _=>.any) 4 (.box 4 b4 0),upd (upd (fun _=>none) 1500 (some ⟨b_rA,(aa x67.1)⟩)) 4 (some ⟨b4,(aG x67.2)⟩),fun _=>none⟩) (Gh.le (bg aO) (ab rfl (cX.r) (ab rfl (cX.r) ao)) am) ?_;refine bS tk rfl (ps:=[(.agg (aG x67.2))]) ⟨_,_,rfl,⟨_,_,_,_,_,rfl,rfl,rfl,rfl⟩,rfl⟩ (PLe.q rfl) (HSub.updB rfl) ⟨rfl,rfl⟩
 refine ak (ae (aw tk ?_))
 obtain⟨x70,h70,H⟩:=aM H
 have s70:=az b_rA x64.2 ([115,111,114,116]:List UInt8) _ h70;refine bf (g:=52) rfl rfl rfl Tryz.call52 [(1500,1500)] [] rfl rfl rfl rfl (cX.of2 (dC.cons gN.boxT (dC.cons (gN.of_eq rfl) dC.nil))) (by rw[aN,aR,aS];rfl) s70 ?_;rintro u70 H70h ⟨rfl,rfl⟩
 refine⟨_,rfl,?_⟩
 refine aE (st':=⟨_,_,upd (upd (upd (upd (fun _=>none) 1500 (some ⟨b_rA,(aa x70.2)⟩)) 5 (some ⟨b5,[(ac 0),(.str []),(.val (.slice none 0 0)),(.val (.slice none 0 0)),(.val (.slice none 0 0)),(.val (.slice none 0 0)),(ac 0),(ac 0),(.own 7 g7 (([inA]:List LQuery).map ag).length)]⟩)) 4 (some ⟨b4,[(ac 0),(.str []),(.val (.slice none 0 0)),(.val (.slice none 0 0)),(.val (.slice none 0 0)),(.val (.slice none 0 0)),(ac 0),(ac 0),(.val (.slice none 0 0))]⟩)) 2 (some ⟨b2,[(.box 1500 b_rA 0)]⟩),upd (fun _=>none) 7 (some ⟨g7,29,(([inA]:List LQuery).map ag),true⟩)⟩) (Gh.le (av _ _) (ab rfl (cX.r) (ab rfl (cX.r) (ab rfl (cX.r) (ab rfl (cX.r) ao)))) (aq am)) ?_;refine aC tk rfl (af ?_);refine bj rfl H (fun H=>?_) (fun H=>?_)
 ·refine ak (ae (aC tk rfl (ap tk ?_)));refine af (ae (aw tk ?_));refine aC tk rfl (aE (Gh.dF tk 5 2 1622 (e:=9) rfl rfl rfl rfl) (aE (Gh.dF tk 5 3 1623 (e:=82) rfl rfl rfl rfl) (aE (Gh.dF tk 5 4 1624 (e:=85) rfl rfl rfl rfl) (aE (Gh.dF tk 5 5 1625 (e:=4) rfl rfl rfl rfl) (aE (Gh.freezeOB 5 8 rfl rfl rfl rfl rfl) ?_)))))
  obtain⟨y74,h74,X74,H⟩:=aX H
  have s74:=gr b_rA b5 (⟨none,0⟩) (⟨none,0⟩) (⟨none,0⟩) (⟨none,0⟩) b2 x70.2 (LQuery.mk 9 [] [] [] [] [] 0 0 [inA]) _ h74;refine aH Tryz.call86 [(1500,1500),(5,1501),(2,1700)] [(1622,1622),(1623,1623),(1624,1624),(1625,1625)] s74 (X74 _) ?_;rintro u74 H74h hR74
  obtain⟨x74,⟨gz74_1622,gz74_1623,gz74_1624,gz74_1625,rfl,rfl⟩,H⟩:=H _ _ _ hR74
  refine⟨_,rfl,?_⟩
  refine aE (st':=⟨_,_,upd (upd (upd (upd (fun _=>none) 1500 (some ⟨b_rA,(aa x74.1)⟩)) 5 (some ⟨b5,[(ac x74.2.kind),(.str x74.2.table),(.own 1622 gz74_1622 (x74.2.names.map aB).length),(.own 1623 gz74_1623 (x74.2.exprs.map al).length),(.own 1624 gz74_1624 (x74.2.aggregates.map ax).length),(.own 1625 gz74_1625 (x74.2.descending.map ay).length),(ac x74.2.count),(ac x74.2.offset),(.list 29 (x74.2.inputs.map ag))]⟩)) 4 (some ⟨b4,[(ac 0),(.str []),(.val (.slice none 0 0)),(.val (.slice none 0 0)),(.val (.slice none 0 0)),(.val (.slice none 0 0)),(ac 0),(ac 0),(.val (.slice none 0 0))]⟩)) 2 (some ⟨b2,[(.box 1500 b_rA 0)]⟩),upd (upd (upd (upd (upd (fun _=>none) 7 (some ⟨g7,29,(([inA]:List LQuery).map ag),false⟩)) 1625 (some ⟨gz74_1625,4,(x74.2.descending.map ay),true⟩)) 1624 (some ⟨gz74_1624,85,(x74.2.aggregates.map ax),true⟩)) 1623 (some ⟨gz74_1623,82,(x74.2.exprs.map al),true⟩)) 1622 (some ⟨gz74_1622,9,(x74.2.names.map aB),true⟩)⟩) (Gh.le (av _ _) (ab rfl (cX.r) (ab rfl (cX.r) (ab rfl (cX.r) (ab rfl (cX.r) ao)))) (aq (aq (aq (aq (aq am)))))) ?_;refine af (cn (ak (ae (aw tk ?_))));refine ap tk ?_;refine af ?_;obtain rfl:=aF H;refine bq 4 2 rfl rfl rfl rfl rfl (bq 4 3 rfl rfl rfl rfl rfl (bq 4 4 rfl rfl rfl rfl rfl (bq 4 5 rfl rfl rfl rfl rfl ?_)));refine be (st':=⟨100,upd (fun _=>.any) 4 (.box 4 b4 0),upd (upd (fun _=>none) 1500 (some ⟨b_rA,(aa x74.1)⟩)) 4 (some ⟨b4,(aG x74.2)⟩),fun _=>none⟩) (Gh.le (bg aO) (ab rfl (cX.r) (ab rfl (cX.r) ao)) am) ?_;refine bS tk rfl (ps:=[(.agg (aG x74.2))]) ⟨_,_,rfl,⟨_,_,_,_,_,rfl,rfl,rfl,rfl⟩,rfl⟩ (PLe.q rfl) (HSub.updB rfl) ⟨rfl,rfl⟩
 refine ak (ae (aw tk ?_))
 obtain⟨x77,h77,H⟩:=aM H
 have s77:=az b_rA x70.2 ([108,105,109,105,116]:List UInt8) _ h77;refine bf (g:=52) rfl rfl rfl Tryz.call52 [(1500,1500)] [] rfl rfl rfl rfl (cX.of2 (dC.cons gN.boxT (dC.cons (gN.of_eq rfl) dC.nil))) (by rw[aN,aR,aS];rfl) s77 ?_;rintro u77 H77h ⟨rfl,rfl⟩
 refine⟨_,rfl,?_⟩
 refine aE (st':=⟨_,_,upd (upd (upd (upd (fun _=>none) 1500 (some ⟨b_rA,(aa x77.2)⟩)) 5 (some ⟨b5,[(ac 0),(.str []),(.val (.slice none 0 0)),(.val (.slice none 0 0)),(.val (.slice none 0 0)),(.val (.slice none 0 0)),(ac 0),(ac 0),(.own 7 g7 (([inA]:List LQuery).map ag).length)]⟩)) 4 (some ⟨b4,[(ac 0),(.str []),(.val (.slice none 0 0)),(.val (.slice none 0 0)),(.val (.slice none 0 0)),(.val (.slice none 0 0)),(ac 0),(ac 0),(.val (.slice none 0 0))]⟩)) 2 (some ⟨b2,[(.box 1500 b_rA 0)]⟩),upd (fun _=>none) 7 (some ⟨g7,29,(([inA]:List LQuery).map ag),true⟩)⟩) (Gh.le (av _ _) (ab rfl (cX.r) (ab rfl (cX.r) (ab rfl (cX.r) (ab rfl (cX.r) ao)))) (aq am)) ?_;refine aC tk rfl (af ?_);refine bj rfl H (fun H=>?_) (fun H=>?_)
 ·refine ak (ae (aw tk ?_))
  obtain⟨y79,h79,X79,H⟩:=aX H
  have s79:=cU b_rA x77.2 _ h79;refine aH Tryz.call93 [(1500,1500)] [] s79 (X79 _) ?_;rintro u79 H79h hR79
  obtain⟨x79,⟨rfl,rfl⟩,H⟩:=H _ _ _ hR79
  refine⟨_,rfl,?_⟩
  refine aE (st':=⟨_,_,upd (upd (upd (upd (fun _=>none) 1500 (some ⟨b_rA,(aa x79.2)⟩)) 5 (some ⟨b5,[(ac 0),(.str []),(.val (.slice none 0 0)),(.val (.slice none 0 0)),(.val (.slice none 0 0)),(.val (.slice none 0 0)),(ac 0),(ac 0),(.own 7 g7 (([inA]:List LQuery).map ag).length)]⟩)) 4 (some ⟨b4,[(ac 0),(.str []),(.val (.slice none 0 0)),(.val (.slice none 0 0)),(.val (.slice none 0 0)),(.val (.slice none 0 0)),(ac 0),(ac 0),(.val (.slice none 0 0))]⟩)) 2 (some ⟨b2,[(.box 1500 b_rA 0)]⟩),upd (fun _=>none) 7 (some ⟨g7,29,(([inA]:List LQuery).map ag),true⟩)⟩) (Gh.le (av _ _) (ab rfl (cX.r) (ab rfl (cX.r) (ab rfl (cX.r) (ab rfl (cX.r) ao)))) (aq am)) ?_;refine aC tk rfl (ap tk ?_);refine aC tk rfl (ap tk ?_);refine af (ak (ae (aw tk ?_)))
  obtain⟨x83,h83,H⟩:=aM H
  have s83:=az b_rA x79.2 ([111,102,102,115,101,116]:List UInt8) _ h83;refine bf (g:=52) rfl rfl rfl Tryz.call52 [(1500,1500)] [] rfl rfl rfl rfl (cX.of2 (dC.cons gN.boxT (dC.cons (gN.of_eq rfl) dC.nil))) (by rw[aN,aR,aS];rfl) s83 ?_;rintro u83 H83h ⟨rfl,rfl⟩
  refine⟨_,rfl,?_⟩
  refine aE (st':=⟨_,_,upd (upd (upd (upd (fun _=>none) 1500 (some ⟨b_rA,(aa x83.2)⟩)) 5 (some ⟨b5,[(ac 10),(.str []),(.val (.slice none 0 0)),(.val (.slice none 0 0)),(.val (.slice none 0 0)),(.val (.slice none 0 0)),(ac x79.1),(ac 0),(.own 7 g7 (([inA]:List LQuery).map ag).length)]⟩)) 4 (some ⟨b4,[(ac 0),(.str []),(.val (.slice none 0 0)),(.val (.slice none 0 0)),(.val (.slice none 0 0)),(.val (.slice none 0 0)),(ac 0),(ac 0),(.val (.slice none 0 0))]⟩)) 2 (some ⟨b2,[(.box 1500 b_rA 0)]⟩),upd (fun _=>none) 7 (some ⟨g7,29,(([inA]:List LQuery).map ag),true⟩)⟩) (Gh.le (av _ _) (ab rfl (cX.r) (ab rfl (cX.r) (ab rfl (cX.r) (ab rfl (cX.r) ao)))) (aq am)) ?_;refine af ?_;refine bj rfl H (fun H=>?_) (fun H=>?_)
  ·refine ak (ae (aw tk ?_))
   obtain⟨y85,h85,X85,H⟩:=aX H
   have s85:=cU b_rA x83.2 _ h85;refine aH Tryz.call93 [(1500,1500)] [] s85 (X85 _) ?_;rintro u85 H85h hR85
   obtain⟨x85,⟨rfl,rfl⟩,H⟩:=H _ _ _ hR85
   refine⟨_,rfl,?_⟩
   refine aE (st':=⟨_,_,upd (upd (upd (upd (fun _=>none) 1500 (some ⟨b_rA,(aa x85.2)⟩)) 5 (some ⟨b5,[(ac 10),(.str []),(.val (.slice none 0 0)),(.val (.slice none 0 0)),(.val (.slice none 0 0)),(.val (.slice none 0 0)),(ac x79.1),(ac 0),(.own 7 g7 (([inA]:List LQuery).map ag).length)]⟩)) 4 (some ⟨b4,[(ac 0),(.str []),(.val (.slice none 0 0)),(.val (.slice none 0 0)),(.val (.slice none 0 0)),(.val (.slice none 0 0)),(ac 0),(ac 0),(.val (.slice none 0 0))]⟩)) 2 (some ⟨b2,[(.box 1500 b_rA 0)]⟩),upd (fun _=>none) 7 (some ⟨g7,29,(([inA]:List LQuery).map ag),true⟩)⟩) (Gh.le (av _ _) (ab rfl (cX.r) (ab rfl (cX.r) (ab rfl (cX.r) (ab rfl (cX.r) ao)))) (aq am)) ?_;refine aC tk rfl (ap tk ?_);refine af (ak (ae (aC tk rfl (aw tk ?_))));refine aC tk rfl (af ?_);refine bj rfl H (fun H=>?_) (fun H=>?_)
   ·refine ak (ae (aw tk ?_));refine aA 2 tk rfl (aw tk ?_);refine aA 3 tk rfl (ap tk ?_);refine af (ae (aw tk ?_))
    obtain⟨y98,h98,X98,H⟩:=aX H
    have s98:=bn b_rA (LQueryparserParser.mk x85.2.tokens (IntKind.i64.wrap (x85.2.next-(1:Int))) x85.2.size) _ h98;refine aH Tryz.call56 [(1500,1500)] [] s98 (X98 _) ?_;rintro u98 H98h hR98
    obtain⟨x98,⟨rfl,rfl⟩,H⟩:=H _ _ _ hR98
    refine⟨_,rfl,?_⟩
    refine aE (st':=⟨_,_,upd (upd (upd (upd (fun _=>none) 1500 (some ⟨b_rA,(aa x98)⟩)) 5 (some ⟨b5,[(ac 10),(.str []),(.val (.slice none 0 0)),(.val (.slice none 0 0)),(.val (.slice none 0 0)),(.val (.slice none 0 0)),(ac x79.1),(ac x85.1),(.own 7 g7 (([inA]:List LQuery).map ag).length)]⟩)) 4 (some ⟨b4,[(ac 0),(.str []),(.val (.slice none 0 0)),(.val (.slice none 0 0)),(.val (.slice none 0 0)),(.val (.slice none 0 0)),(ac 0),(ac 0),(.val (.slice none 0 0))]⟩)) 2 (some ⟨b2,[(.box 1500 b_rA 0)]⟩),upd (fun _=>none) 7 (some ⟨g7,29,(([inA]:List LQuery).map ag),true⟩)⟩) (Gh.le (av _ _) (ab rfl (cX.r) (ab rfl (cX.r) (ab rfl (cX.r) (ab rfl (cX.r) ao)))) (aq am)) ?_;refine af (cn (ak (ae (aw tk ?_))));refine ap tk ?_;refine af ?_;obtain rfl:=aF H;refine bq 4 8 rfl rfl rfl rfl rfl ?_;refine be (st':=⟨100,upd (fun _=>.any) 4 (.box 4 b4 0),upd (upd (fun _=>none) 1500 (some ⟨b_rA,(aa x98)⟩)) 4 (some ⟨b4,[(ac 10),(.str []),(.val (.slice none 0 0)),(.val (.slice none 0 0)),(.val (.slice none 0 0)),(.val (.slice none 0 0)),(ac x79.1),(ac x85.1),(.list 29 (([inA]:List LQuery).map ag))]⟩),fun _=>none⟩) (Gh.le (bg aO) (ab rfl (cX.r) (ab rfl (cX.r) ao)) am) ?_;refine bS tk rfl (ps:=[(.agg [(ac 10),(.str []),(.val (.slice none 0 0)),(.val (.slice none 0 0)),(.val (.slice none 0 0)),(.val (.slice none 0 0)),(ac x79.1),(ac x85.1),(.list 29 (([inA]:List LQuery).map ag))])]) ⟨_,_,rfl,⟨_,_,_,_,_,rfl,rfl,rfl,rfl⟩,rfl⟩ (PLe.of2 (gN.agg (dC.cons (gN.of_eq rfl) (dC.cons (gN.of_eq rfl) (dC.cons (gN.nil tk rfl) (dC.cons (gN.nil tk rfl) (dC.cons (gN.nil tk rfl) (dC.cons (gN.nil tk rfl) (dC.cons (gN.of_eq rfl) (dC.cons (gN.of_eq rfl) (dC.cons (gN.of_eq rfl) dC.nil))))))))))) (HSub.updB rfl) ⟨rfl,rfl⟩
   refine bc (cn (ak (ae (aw tk ?_))));refine ap tk ?_;refine af ?_;obtain rfl:=aF H;refine bq 4 8 rfl rfl rfl rfl rfl ?_;refine be (st':=⟨100,upd (fun _=>.any) 4 (.box 4 b4 0),upd (upd (fun _=>none) 1500 (some ⟨b_rA,(aa x85.2)⟩)) 4 (some ⟨b4,[(ac 10),(.str []),(.val (.slice none 0 0)),(.val (.slice none 0 0)),(.val (.slice none 0 0)),(.val (.slice none 0 0)),(ac x79.1),(ac x85.1),(.list 29 (([inA]:List LQuery).map ag))]⟩),fun _=>none⟩) (Gh.le (bg aO) (ab rfl (cX.r) (ab rfl (cX.r) ao)) am) ?_;refine bS tk rfl (ps:=[(.agg [(ac 10),(.str []),(.val (.slice none 0 0)),(.val (.slice none 0 0)),(.val (.slice none 0 0)),(.val (.slice none 0 0)),(ac x79.1),(ac x85.1),(.list 29 (([inA]:List LQuery).map ag))])]) ⟨_,_,rfl,⟨_,_,_,_,_,rfl,rfl,rfl,rfl⟩,rfl⟩ (PLe.of2 (gN.agg (dC.cons (gN.of_eq rfl) (dC.cons (gN.of_eq rfl) (dC.cons (gN.nil tk rfl) (dC.cons (gN.nil tk rfl) (dC.cons (gN.nil tk rfl) (dC.cons (gN.nil tk rfl) (dC.cons (gN.of_eq rfl) (dC.cons (gN.of_eq rfl) (dC.cons (gN.of_eq rfl) dC.nil))))))))))) (HSub.updB rfl) ⟨rfl,rfl⟩
  refine bc (cn (ak (ae (aw tk ?_))));refine ap tk ?_;refine af ?_;obtain rfl:=aF H;refine bq 4 8 rfl rfl rfl rfl rfl ?_;refine be (st':=⟨100,upd (fun _=>.any) 4 (.box 4 b4 0),upd (upd (fun _=>none) 1500 (some ⟨b_rA,(aa x83.2)⟩)) 4 (some ⟨b4,[(ac 10),(.str []),(.val (.slice none 0 0)),(.val (.slice none 0 0)),(.val (.slice none 0 0)),(.val (.slice none 0 0)),(ac x79.1),(ac 0),(.list 29 (([inA]:List LQuery).map ag))]⟩),fun _=>none⟩) (Gh.le (bg aO) (ab rfl (cX.r) (ab rfl (cX.r) ao)) am) ?_;refine bS tk rfl (ps:=[(.agg [(ac 10),(.str []),(.val (.slice none 0 0)),(.val (.slice none 0 0)),(.val (.slice none 0 0)),(.val (.slice none 0 0)),(ac x79.1),(ac 0),(.list 29 (([inA]:List LQuery).map ag))])]) ⟨_,_,rfl,⟨_,_,_,_,_,rfl,rfl,rfl,rfl⟩,rfl⟩ (PLe.of2 (gN.agg (dC.cons (gN.of_eq rfl) (dC.cons (gN.of_eq rfl) (dC.cons (gN.nil tk rfl) (dC.cons (gN.nil tk rfl) (dC.cons (gN.nil tk rfl) (dC.cons (gN.nil tk rfl) (dC.cons (gN.of_eq rfl) (dC.cons (gN.of_eq rfl) (dC.cons (gN.of_eq rfl) dC.nil))))))))))) (HSub.updB rfl) ⟨rfl,rfl⟩
 refine ae (aw tk ?_)
 obtain⟨y10,h10,X10,H⟩:=aX H
 have s10:=bn b_rA x77.2 _ h10;refine aH Tryz.call56 [(1500,1500)] [] s10 (X10 _) ?_;rintro u10 H10h hR10
 obtain⟨x10,⟨rfl,rfl⟩,H⟩:=H _ _ _ hR10
 refine⟨_,rfl,?_⟩
 refine aE (st':=⟨_,_,upd (upd (upd (upd (fun _=>none) 1500 (some ⟨b_rA,(aa x10)⟩)) 5 (some ⟨b5,[(ac 0),(.str []),(.val (.slice none 0 0)),(.val (.slice none 0 0)),(.val (.slice none 0 0)),(.val (.slice none 0 0)),(ac 0),(ac 0),(.own 7 g7 (([inA]:List LQuery).map ag).length)]⟩)) 4 (some ⟨b4,[(ac 0),(.str []),(.val (.slice none 0 0)),(.val (.slice none 0 0)),(.val (.slice none 0 0)),(.val (.slice none 0 0)),(ac 0),(ac 0),(.val (.slice none 0 0))]⟩)) 2 (some ⟨b2,[(.box 1500 b_rA 0)]⟩),upd (fun _=>none) 7 (some ⟨g7,29,(([inA]:List LQuery).map ag),true⟩)⟩) (Gh.le (av _ _) (ab rfl (cX.r) (ab rfl (cX.r) (ab rfl (cX.r) (ab rfl (cX.r) ao)))) (aq am)) ?_;refine af (cn (ak (ae (aw tk ?_))));refine ap tk ?_;refine af ?_;obtain rfl:=aF H;refine bq 4 8 rfl rfl rfl rfl rfl ?_;refine be (st':=⟨100,upd (fun _=>.any) 4 (.box 4 b4 0),upd (upd (fun _=>none) 1500 (some ⟨b_rA,(aa x10)⟩)) 4 (some ⟨b4,[(ac 0),(.str []),(.val (.slice none 0 0)),(.val (.slice none 0 0)),(.val (.slice none 0 0)),(.val (.slice none 0 0)),(ac 0),(ac 0),(.list 29 (([inA]:List LQuery).map ag))]⟩),fun _=>none⟩) (Gh.le (bg aO) (ab rfl (cX.r) (ab rfl (cX.r) ao)) am) ?_;refine bS tk rfl (ps:=[(.agg [(ac 0),(.str []),(.val (.slice none 0 0)),(.val (.slice none 0 0)),(.val (.slice none 0 0)),(.val (.slice none 0 0)),(ac 0),(ac 0),(.list 29 (([inA]:List LQuery).map ag))])]) ⟨_,_,rfl,⟨_,_,_,_,_,rfl,rfl,rfl,rfl⟩,rfl⟩ (PLe.of2 (gN.agg (dC.cons (gN.of_eq rfl) (dC.cons (gN.of_eq rfl) (dC.cons (gN.nil tk rfl) (dC.cons (gN.nil tk rfl) (dC.cons (gN.nil tk rfl) (dC.cons (gN.nil tk rfl) (dC.cons (gN.of_eq rfl) (dC.cons (gN.of_eq rfl) (dC.cons (gN.of_eq rfl) dC.nil))))))))))) (HSub.updB rfl) ⟨rfl,rfl⟩
def cp(_rec22:LQueryparserParser→Option (Except Int (LQuery×LQueryparserParser)))(_rec55:LQueryparserParser→LQuery→Option (Except Int (LQuery×LQueryparserParser)))(_rec89:LQueryparserParser→LQuery→Option (Except Int (LQueryparserParser×LQuery)))(rec90:LQueryparserParser→Option (Except Int (LQuery×LQueryparserParser)))(rA:LQueryparserParser)(q:LQuery):Option (Except Int (LQueryparserParser×LQuery)):=
 aT (rec90 rA) fun x9=>
 ar (ec 160 q.inputs ([(LQuery.mk 0 [] [] [] [] [] 0 0 [])]:List LQuery)) fun(x12:List LQuery)=>
 ar (bO x12 (q.inputs.length:Int)) fun(_:LQuery)=>
 cx (x12.set ((q.inputs.length:Int).toNat) x9.1) fun(y1:List LQuery)=>
 aT (aD x9.2 ([111,110]:List UInt8)) fun x17=>
 aT (bI x17) fun x20=>
 some (.ok (x20.2,(LQuery.mk q.kind q.table q.names [x20.1] q.aggregates q.descending q.count q.offset y1)))
theorem fZ(b_rA:Nat)(b_q:Nat)(g_q_8:OwnRef)(rec22:LQueryparserParser→Option (Except Int (LQuery×LQueryparserParser)))(rec55:LQueryparserParser→LQuery→Option (Except Int (LQuery×LQueryparserParser)))(rec89:LQueryparserParser→LQuery→Option (Except Int (LQueryparserParser×LQuery)))(rec90:LQueryparserParser→Option (Except Int (LQuery×LQueryparserParser)))(_hrec22:∀bb0 a0 r,rec22 a0=some r→aP Tryz.prog 22 [(.box 1500 bb0 0)] ⟨upd (fun _=>none) 1500 (some ⟨bb0,(aa a0)⟩),fun _=>none⟩ (RX r (fun rv u H=>u=(.agg (aG rv.1))∧H=⟨upd (fun _=>none) 1500 (some ⟨bb0,(aa rv.2)⟩),fun _=>none⟩)) (PX 106 r))(_hrec55:∀bb0 a0 a1 r,rec55 a0 a1=some r→aP Tryz.prog 55 [(.box 1500 bb0 0),(.agg (aG a1))] ⟨upd (fun _=>none) 1500 (some ⟨bb0,(aa a0)⟩),fun _=>none⟩ (RX r (fun rv u H=>u=(.agg (aG rv.1))∧H=⟨upd (fun _=>none) 1500 (some ⟨bb0,(aa rv.2)⟩),fun _=>none⟩)) (PX 106 r))(_hrec89:∀bb0 bb1 gg1_8 a0 a1 r,rec89 a0 a1=some r→aP Tryz.prog 89 [(.box 1500 bb0 0),(.box 1501 bb1 0)] ⟨upd (upd (fun _=>none) 1501 (some ⟨bb1,[(ac a1.kind),(.str a1.table),(.list 9 (a1.names.map aB)),(.list 82 (a1.exprs.map al)),(.list 85 (a1.aggregates.map ax)),(.list 4 (a1.descending.map ay)),(ac a1.count),(ac a1.offset),(.own 1628 gg1_8 (a1.inputs.map ag).length)]⟩)) 1500 (some ⟨bb0,(aa a0)⟩),upd (fun _=>none) 1628 (some ⟨gg1_8,29,(a1.inputs.map ag),true⟩)⟩ (RX r (fun rv u H=>∃gz1_8,u=(.tup [])∧H=⟨upd (upd (fun _=>none) 1501 (some ⟨bb1,[(ac rv.2.kind),(.str rv.2.table),(.list 9 (rv.2.names.map aB)),(.list 82 (rv.2.exprs.map al)),(.list 85 (rv.2.aggregates.map ax)),(.list 4 (rv.2.descending.map ay)),(ac rv.2.count),(ac rv.2.offset),(.own 1628 gz1_8 (rv.2.inputs.map ag).length)]⟩)) 1500 (some ⟨bb0,(aa rv.1)⟩),upd (fun _=>none) 1628 (some ⟨gz1_8,29,(rv.2.inputs.map ag),true⟩)⟩)) (PX 106 r))(hrec90:∀bb0 a0 r,rec90 a0=some r→aP Tryz.prog 90 [(.box 1500 bb0 0)] ⟨upd (fun _=>none) 1500 (some ⟨bb0,(aa a0)⟩),fun _=>none⟩ (RX r (fun rv u H=>u=(.agg (aG rv.1))∧H=⟨upd (fun _=>none) 1500 (some ⟨bb0,(aa rv.2)⟩),fun _=>none⟩)) (PX 106 r))(rA:LQueryparserParser)(q:LQuery)(r:Except Int (LQueryparserParser×LQuery))(H:cp rec22 rec55 rec89 rec90 rA q=some r):
  aP Tryz.prog 89 [(.box 1500 b_rA 0),(.box 1501 b_q 0)] ⟨upd (upd (fun _=>none) 1501 (some ⟨b_q,[(ac q.kind),(.str q.table),(.list 9 (q.names.map aB)),(.list 82 (q.exprs.map al)),(.list 85 (q.aggregates.map ax)),(.list 4 (q.descending.map ay)),(ac q.count),(ac q.offset),(.own 1628 g_q_8 (q.inputs.map ag).length)]⟩)) 1500 (some ⟨b_rA,(aa rA)⟩),upd (fun _=>none) 1628 (some ⟨g_q_8,29,(q.inputs.map ag),true⟩)⟩ (RX r (fun rv u H=>∃gz1_8,u=(.tup [])∧H=⟨upd (upd (fun _=>none) 1501 (some ⟨b_q,[(ac rv.2.kind),(.str rv.2.table),(.list 9 (rv.2.names.map aB)),(.list 82 (rv.2.exprs.map al)),(.list 85 (rv.2.aggregates.map ax)),(.list 4 (rv.2.descending.map ay)),(ac rv.2.count),(ac rv.2.offset),(.own 1628 gz1_8 (rv.2.inputs.map ag).length)]⟩)) 1500 (some ⟨b_rA,(aa rv.1)⟩),upd (fun _=>none) 1628 (some ⟨gz1_8,29,(rv.2.inputs.map ag),true⟩)⟩)) (PX 106 r):=by
 unfold cp at H;refine aP.intro Tryz.func89 rfl Tryz.ntmps89 rfl ?_;refine ak ?_;refine fJ (tag:=1628) rfl (fun ho1628=>?_);refine dz tk mok ⟨true,false,[999997,3001501,4000007,999996,5000013]⟩ [0,1,2,3,4,6,7,5,8,9,11,12,13,10] rfl (by decide+kernel) rfl (cm 3 rfl (cL tk ?_));refine cN rfl (kX rfl rfl rfl rfl rfl rfl (zl _) rfl (cN rfl ?_))
 obtain⟨y9,h9,X9,H⟩:=aX H
 have s9:=hrec90 b_rA rA _ h9;refine eA Tryz.call90 [(1500,1500)] [] s9 (X9 _) ?_;rintro u9 H9h hR9
 obtain⟨x9,⟨rfl,rfl⟩,H⟩:=H _ _ _ hR9
 refine⟨_,rfl,?_⟩
 obtain⟨x12,h12,H⟩:=aM H
 have k12:=dW h12;refine jv (rows2':=List.map ag ([(LQuery.mk 0 [] [] [] [] [] 0 0 [])]:List LQuery)) (rows':=List.map ag x12) tk rfl rfl rfl rfl rfl rfl rfl rfl rfl rfl rfl rfl rfl rfl (cS.trans (b:=List.map aG [(LQuery.mk 0 [] [] [] [] [] 0 0 [])]) (cS.cons (kv.cons (gN.of_eq rfl) (kv.cons (gN.of_eq rfl) (kv.cons (gN.nil tk rfl) (kv.cons (gN.nil tk rfl) (kv.cons (gN.nil tk rfl) (kv.cons (gN.nil tk rfl) (kv.cons (gN.of_eq rfl) (kv.cons (gN.of_eq rfl) (kv.cons (gN.nil tk rfl) kv.nil))))))))) cS.nil) (cS.of_eq (dl eP [(LQuery.mk 0 [] [] [] [] [] 0 0 [])]))) (fj k12.1) (fa k12.2.1) (fh k12.2.2) fun g12 ho1628=>?_
 obtain⟨x13,k13,H⟩:=eH H
 refine kV tk rfl rfl rfl rfl rfl rfl rfl rfl ⟨k13.1,(idxLen k13.2)⟩ (idxBlk ho1628 k13.2) rfl (cm 2 rfl (eD rfl rfl rfl rfl rfl rfl rfl rfl rfl rfl rfl rfl ?_))
 obtain⟨y1,hy1,H⟩:=ed H
 refine jU tk rfl rfl rfl rfl rfl rfl rfl rfl rfl (by rw[zl];exact(zg.1 k13.2).1) (PLe.refl _ _) rfl rfl rfl rfl (by decide) (jA eP k13.2 rfl hy1) ?_;refine cQ ?_;refine be (st':=⟨_,_,upd (upd (fun _=>none) 1501 (some ⟨b_q,[(ac q.kind),(.str q.table),(.list 9 (q.names.map aB)),(.list 82 (q.exprs.map al)),(.list 85 (q.aggregates.map ax)),(.list 4 (q.descending.map ay)),(ac q.count),(ac q.offset),(.own 1628 g12 (x12.map ag).length)]⟩)) 1500 (some ⟨b_rA,(aa x9.2)⟩),upd (fun _=>none) 1628 (some ⟨g12,29,(y1.map ag),true⟩)⟩) (Gh.le (av _ _) (ab rfl (cX.r) (ab rfl (cX.r) ao)) (aq am)) ?_;refine ak (ae (aC tk rfl ?_))
 obtain⟨y17,h17,X17,H⟩:=aX H
 have s17:=aK b_rA x9.2 ([111,110]:List UInt8) _ h17;refine aH Tryz.call53 [(1500,1500)] [] s17 (X17 _) ?_;rintro u17 H17h hR17
 obtain⟨x17,⟨rfl,rfl⟩,H⟩:=H _ _ _ hR17
 refine⟨_,rfl,?_⟩
 refine aE (st':=⟨_,_,upd (upd (fun _=>none) 1501 (some ⟨b_q,[(ac q.kind),(.str q.table),(.list 9 (q.names.map aB)),(.list 82 (q.exprs.map al)),(.list 85 (q.aggregates.map ax)),(.list 4 (q.descending.map ay)),(ac q.count),(ac q.offset),(.own 1628 g12 (x12.map ag).length)]⟩)) 1500 (some ⟨b_rA,(aa x17)⟩),upd (fun _=>none) 1628 (some ⟨g12,29,(y1.map ag),true⟩)⟩) (Gh.le (av _ _) (ab rfl (cX.r) (ab rfl (cX.r) ao)) (aq am)) ?_;refine af (ae (aA 2 tk rfl ?_))
 obtain⟨y20,h20,X20,H⟩:=aX H
 have s20:=cE b_rA x17 _ h20;refine aH Tryz.call85 [(1500,1500)] [] s20 (X20 _) ?_;rintro u20 H20h hR20
 obtain⟨x20,⟨rfl,rfl⟩,H⟩:=H _ _ _ hR20
 refine⟨_,rfl,?_⟩
 refine aE (st':=⟨_,_,upd (upd (fun _=>none) 1501 (some ⟨b_q,[(ac q.kind),(.str q.table),(.list 9 (q.names.map aB)),(.list 82 (q.exprs.map al)),(.list 85 (q.aggregates.map ax)),(.list 4 (q.descending.map ay)),(ac q.count),(ac q.offset),(.own 1628 g12 (x12.map ag).length)]⟩)) 1500 (some ⟨b_rA,(aa x20.2)⟩),upd (fun _=>none) 1628 (some ⟨g12,29,(y1.map ag),true⟩)⟩) (Gh.le (av _ _) (ab rfl (cX.r) (ab rfl (cX.r) ao)) (aq am)) ?_;refine kY (rows':=List.map al ([x20.1]:List LExpr)) tk rfl rfl rfl rfl rfl rfl rfl (congrArg (List.map List.length) (dl cO ([x20.1]:List LExpr))).symm rfl (dC.trans (b:=(List.map bM ([x20.1]:List LExpr)).flatten) (dC.refl _) (dC.of_eq (congrArg List.flatten (dl cO ([x20.1]:List LExpr))))) fun g21=>?_
 refine aA 2 tk rfl (ap tk ?_);refine af ?_;obtain rfl:=aF H;refine bq 1501 3 rfl rfl rfl rfl rfl ?_;refine be (st':=⟨24,fun _=>.any,upd (upd (fun _=>none) 1501 (some ⟨b_q,[(ac ((LQuery.mk q.kind q.table q.names [x20.1] q.aggregates q.descending q.count q.offset y1).kind)),(.str ((LQuery.mk q.kind q.table q.names [x20.1] q.aggregates q.descending q.count q.offset y1).table)),(.list 9 (((LQuery.mk q.kind q.table q.names [x20.1] q.aggregates q.descending q.count q.offset y1).names).map aB)),(.list 82 (((LQuery.mk q.kind q.table q.names [x20.1] q.aggregates q.descending q.count q.offset y1).exprs).map al)),(.list 85 (((LQuery.mk q.kind q.table q.names [x20.1] q.aggregates q.descending q.count q.offset y1).aggregates).map ax)),(.list 4 (((LQuery.mk q.kind q.table q.names [x20.1] q.aggregates q.descending q.count q.offset y1).descending).map ay)),(ac ((LQuery.mk q.kind q.table q.names [x20.1] q.aggregates q.descending q.count q.offset y1).count)),(ac ((LQuery.mk q.kind q.table q.names [x20.1] q.aggregates q.descending q.count q.offset y1).offset)),(.own 1628 g12 (y1.map ag).length)]⟩)) 1500 (some ⟨b_rA,(aa x20.2)⟩),upd (fun _=>none) 1628 (some ⟨g12,29,(y1.map ag),true⟩)⟩) (Gh.le aO (ab rfl (cX.r) (ab rfl (cX.of2 (dC.cons (gN.of_eq rfl) (dC.cons (gN.of_eq rfl) (dC.cons (gN.of_eq rfl) (dC.cons (gN.of_eq rfl) (dC.cons (gN.of_eq rfl) (dC.cons (gN.of_eq rfl) (dC.cons (gN.of_eq rfl) (dC.cons (gN.of_eq rfl) (dC.cons (gN.own (set_len (f:=ag) hy1)) dC.nil)))))))))) ao)) (aq am)) ?_;refine dG rfl (PLe.q rfl) ⟨_,rfl,rfl⟩
def cw(rec22:LQueryparserParser→Option (Except Int (LQuery×LQueryparserParser)))(_rec55:LQueryparserParser→LQuery→Option (Except Int (LQuery×LQueryparserParser)))(_rec89:LQueryparserParser→LQuery→Option (Except Int (LQueryparserParser×LQuery)))(_rec90:LQueryparserParser→Option (Except Int (LQuery×LQueryparserParser)))(rA:LQueryparserParser):Option (Except Int (LQuery×LQueryparserParser)):=
 aT (aD rA ([40]:List UInt8)) fun x5=>
 aT (rec22 x5) fun x7=>
 aT (aD x7.2 ([41]:List UInt8)) fun x9=>
 some (.ok (x7.1,x9))
theorem gH(b_rA:Nat)(rec22:LQueryparserParser→Option (Except Int (LQuery×LQueryparserParser)))(rec55:LQueryparserParser→LQuery→Option (Except Int (LQuery×LQueryparserParser)))(rec89:LQueryparserParser→LQuery→Option (Except Int (LQueryparserParser×LQuery)))(rec90:LQueryparserParser→Option (Except Int (LQuery×LQueryparserParser)))(hrec22:∀bb0 a0 r,rec22 a0=some r→aP Tryz.prog 22 [(.box 1500 bb0 0)] ⟨upd (fun _=>none) 1500 (some ⟨bb0,(aa a0)⟩),fun _=>none⟩ (RX r (fun rv u H=>u=(.agg (aG rv.1))∧H=⟨upd (fun _=>none) 1500 (some ⟨bb0,(aa rv.2)⟩),fun _=>none⟩)) (PX 106 r))(_hrec55:∀bb0 a0 a1 r,rec55 a0 a1=some r→aP Tryz.prog 55 [(.box 1500 bb0 0),(.agg (aG a1))] ⟨upd (fun _=>none) 1500 (some ⟨bb0,(aa a0)⟩),fun _=>none⟩ (RX r (fun rv u H=>u=(.agg (aG rv.1))∧H=⟨upd (fun _=>none) 1500 (some ⟨bb0,(aa rv.2)⟩),fun _=>none⟩)) (PX 106 r))(_hrec89:∀bb0 bb1 gg1_8 a0 a1 r,rec89 a0 a1=some r→aP Tryz.prog 89 [(.box 1500 bb0 0),(.box 1501 bb1 0)] ⟨upd (upd (fun _=>none) 1501 (some ⟨bb1,[(ac a1.kind),(.str a1.table),(.list 9 (a1.names.map aB)),(.list 82 (a1.exprs.map al)),(.list 85 (a1.aggregates.map ax)),(.list 4 (a1.descending.map ay)),(ac a1.count),(ac a1.offset),(.own 1628 gg1_8 (a1.inputs.map ag).length)]⟩)) 1500 (some ⟨bb0,(aa a0)⟩),upd (fun _=>none) 1628 (some ⟨gg1_8,29,(a1.inputs.map ag),true⟩)⟩ (RX r (fun rv u H=>∃gz1_8,u=(.tup [])∧H=⟨upd (upd (fun _=>none) 1501 (some ⟨bb1,[(ac rv.2.kind),(.str rv.2.table),(.list 9 (rv.2.names.map aB)),(.list 82 (rv.2.exprs.map al)),(.list 85 (rv.2.aggregates.map ax)),(.list 4 (rv.2.descending.map ay)),(ac rv.2.count),(ac rv.2.offset),(.own 1628 gz1_8 (rv.2.inputs.map ag).length)]⟩)) 1500 (some ⟨bb0,(aa rv.1)⟩),upd (fun _=>none) 1628 (some ⟨gz1_8,29,(rv.2.inputs.map ag),true⟩)⟩)) (PX 106 r))(_hrec90:∀bb0 a0 r,rec90 a0=some r→aP Tryz.prog 90 [(.box 1500 bb0 0)] ⟨upd (fun _=>none) 1500 (some ⟨bb0,(aa a0)⟩),fun _=>none⟩ (RX r (fun rv u H=>u=(.agg (aG rv.1))∧H=⟨upd (fun _=>none) 1500 (some ⟨bb0,(aa rv.2)⟩),fun _=>none⟩)) (PX 106 r))(rA:LQueryparserParser)(r:Except Int (LQuery×LQueryparserParser))(H:cw rec22 rec55 rec89 rec90 rA=some r):
  aP Tryz.prog 90 [(.box 1500 b_rA 0)] ⟨upd (fun _=>none) 1500 (some ⟨b_rA,(aa rA)⟩),fun _=>none⟩ (RX r (fun rv u H=>u=(.agg (aG rv.1))∧H=⟨upd (fun _=>none) 1500 (some ⟨b_rA,(aa rv.2)⟩),fun _=>none⟩)) (PX 106 r):=by
 unfold cw at H;refine aP.intro Tryz.func90 rfl Tryz.ntmps90 rfl ?_;refine ak (ae ?_);refine aV tk fun b2=>?_
 refine af (ak (ae (aC tk rfl ?_)))
 obtain⟨y5,h5,X5,H⟩:=aX H
 have s5:=aK b_rA rA ([40]:List UInt8) _ h5;refine aH Tryz.call53 [(1500,1500)] [] s5 (X5 _) ?_;rintro u5 H5h hR5
 obtain⟨x5,⟨rfl,rfl⟩,H⟩:=H _ _ _ hR5
 refine⟨_,rfl,?_⟩
 refine aE (st':=⟨_,_,upd (upd (fun _=>none) 1500 (some ⟨b_rA,(aa x5)⟩)) 2 (some ⟨b2,[(ac 0),(.str []),(.val (.slice none 0 0)),(.val (.slice none 0 0)),(.val (.slice none 0 0)),(.val (.slice none 0 0)),(ac 0),(ac 0),(.val (.slice none 0 0))]⟩),fun _=>none⟩) (Gh.le (av _ _) (ab rfl (cX.r) (ab rfl (cX.r) ao)) am) ?_;refine af (ak (ae (aC tk rfl ?_)))
 obtain⟨y7,h7,X7,H⟩:=aX H
 have s7:=hrec22 b_rA x5 _ h7;refine aH Tryz.call22 [(1500,1500)] [] s7 (X7 _) ?_;rintro u7 H7h hR7
 obtain⟨x7,⟨rfl,rfl⟩,H⟩:=H _ _ _ hR7
 refine⟨_,rfl,?_⟩
 refine aE (st':=⟨_,_,upd (upd (fun _=>none) 1500 (some ⟨b_rA,(aa x7.2)⟩)) 2 (some ⟨b2,[(ac 0),(.str []),(.val (.slice none 0 0)),(.val (.slice none 0 0)),(.val (.slice none 0 0)),(.val (.slice none 0 0)),(ac 0),(ac 0),(.val (.slice none 0 0))]⟩),fun _=>none⟩) (Gh.le (av _ _) (ab rfl (cX.r) (ab rfl (cX.r) ao)) am) ?_;refine aV tk fun b3=>?_
 refine ap tk ?_;refine af (ak (ae (aC tk rfl ?_)))
 obtain⟨y9,h9,X9,H⟩:=aX H
 have s9:=aK b_rA x7.2 ([41]:List UInt8) _ h9;refine aH Tryz.call53 [(1500,1500)] [] s9 (X9 _) ?_;rintro u9 H9h hR9
 obtain⟨x9,⟨rfl,rfl⟩,H⟩:=H _ _ _ hR9
 refine⟨_,rfl,?_⟩
 refine aE (st':=⟨_,_,upd (upd (upd (fun _=>none) 1500 (some ⟨b_rA,(aa x9)⟩)) 3 (some ⟨b3,(aG x7.1)⟩)) 2 (some ⟨b2,[(ac 0),(.str []),(.val (.slice none 0 0)),(.val (.slice none 0 0)),(.val (.slice none 0 0)),(.val (.slice none 0 0)),(ac 0),(ac 0),(.val (.slice none 0 0))]⟩),fun _=>none⟩) (Gh.le (av _ _) (ab rfl (cX.r) (ab rfl (cX.r) (ab rfl (cX.r) ao))) am) ?_;refine af (ak (ae (aw tk ?_)));refine ap tk ?_;refine af ?_;obtain rfl:=aF H;refine be (st':=⟨11,upd (fun _=>.any) 2 (.box 2 b2 0),upd (upd (fun _=>none) 1500 (some ⟨b_rA,(aa x9)⟩)) 2 (some ⟨b2,(aG x7.1)⟩),fun _=>none⟩) (Gh.le (bg aO) (ab rfl (cX.r) (ab rfl (cX.r) ao)) am) ?_;refine bS tk rfl (ps:=[(.agg (aG x7.1))]) ⟨_,_,rfl,⟨_,_,_,_,_,rfl,rfl,rfl,rfl⟩,rfl⟩ (PLe.q rfl) (HSub.updB rfl) ⟨rfl,rfl⟩
mutual
def aW:Nat→LQueryparserParser→Option (Except Int (LQuery×LQueryparserParser))
 |0,_=>none
 |n+1,v0=>cz (fun b0=>aW n b0) (fun b0 b1=>ba n b0 b1) (fun b0 b1=>aY n b0 b1) (fun b0=>aZ n b0) v0
def ba:Nat→LQueryparserParser→LQuery→Option (Except Int (LQuery×LQueryparserParser))
 |0,_,_=>none
 |n+1,v0,v1=>cu (fun b0=>aW n b0) (fun b0 b1=>ba n b0 b1) (fun b0 b1=>aY n b0 b1) (fun b0=>aZ n b0) v0 v1
def aY:Nat→LQueryparserParser→LQuery→Option (Except Int (LQueryparserParser×LQuery))
 |0,_,_=>none
 |n+1,v0,v1=>cp (fun b0=>aW n b0) (fun b0 b1=>ba n b0 b1) (fun b0 b1=>aY n b0 b1) (fun b0=>aZ n b0) v0 v1
def aZ:Nat→LQueryparserParser→Option (Except Int (LQuery×LQueryparserParser))
 |0,_=>none
 |n+1,v0=>cw (fun b0=>aW n b0) (fun b0 b1=>ba n b0 b1) (fun b0 b1=>aY n b0 b1) (fun b0=>aZ n b0) v0
end
theorem gG  (n:Nat):(∀bb0 a0 r,aW n a0=some r→aP Tryz.prog 22 [(.box 1500 bb0 0)] ⟨upd (fun _=>none) 1500 (some ⟨bb0,(aa a0)⟩),fun _=>none⟩ (RX r (fun rv u H=>u=(.agg (aG rv.1))∧H=⟨upd (fun _=>none) 1500 (some ⟨bb0,(aa rv.2)⟩),fun _=>none⟩)) (PX 106 r))∧(∀bb0 a0 a1 r,ba n a0 a1=some r→aP Tryz.prog 55 [(.box 1500 bb0 0),(.agg (aG a1))] ⟨upd (fun _=>none) 1500 (some ⟨bb0,(aa a0)⟩),fun _=>none⟩ (RX r (fun rv u H=>u=(.agg (aG rv.1))∧H=⟨upd (fun _=>none) 1500 (some ⟨bb0,(aa rv.2)⟩),fun _=>none⟩)) (PX 106 r))∧(∀bb0 bb1 gg1_8 a0 a1 r,aY n a0 a1=some r→aP Tryz.prog 89 [(.box 1500 bb0 0),(.box 1501 bb1 0)] ⟨upd (upd (fun _=>none) 1501 (some ⟨bb1,[(ac a1.kind),(.str a1.table),(.list 9 (a1.names.map aB)),(.list 82 (a1.exprs.map al)),(.list 85 (a1.aggregates.map ax)),(.list 4 (a1.descending.map ay)),(ac a1.count),(ac a1.offset),(.own 1628 gg1_8 (a1.inputs.map ag).length)]⟩)) 1500 (some ⟨bb0,(aa a0)⟩),upd (fun _=>none) 1628 (some ⟨gg1_8,29,(a1.inputs.map ag),true⟩)⟩ (RX r (fun rv u H=>∃gz1_8,u=(.tup [])∧H=⟨upd (upd (fun _=>none) 1501 (some ⟨bb1,[(ac rv.2.kind),(.str rv.2.table),(.list 9 (rv.2.names.map aB)),(.list 82 (rv.2.exprs.map al)),(.list 85 (rv.2.aggregates.map ax)),(.list 4 (rv.2.descending.map ay)),(ac rv.2.count),(ac rv.2.offset),(.own 1628 gz1_8 (rv.2.inputs.map ag).length)]⟩)) 1500 (some ⟨bb0,(aa rv.1)⟩),upd (fun _=>none) 1628 (some ⟨gz1_8,29,(rv.2.inputs.map ag),true⟩)⟩)) (PX 106 r))∧(∀bb0 a0 r,aZ n a0=some r→aP Tryz.prog 90 [(.box 1500 bb0 0)] ⟨upd (fun _=>none) 1500 (some ⟨bb0,(aa a0)⟩),fun _=>none⟩ (RX r (fun rv u H=>u=(.agg (aG rv.1))∧H=⟨upd (fun _=>none) 1500 (some ⟨bb0,(aa rv.2)⟩),fun _=>none⟩)) (PX 106 r)):=by
 induction n with
 |zero=>exact⟨(by intros;rename_i h;exact absurd (show(none:Option _)=some _ from h) (by simp)),(by intros;rename_i h;exact absurd (show(none:Option _)=some _ from h) (by simp)),(by intros;rename_i h;exact absurd (show(none:Option _)=some _ from h) (by simp)),(by intros;rename_i h;exact absurd (show(none:Option _)=some _ from h) (by simp))⟩
 |succ n ih=>
  exact⟨(fun bb0 v0 r h=>gF bb0 (fun b0=>aW n b0) (fun b0 b1=>ba n b0 b1) (fun b0 b1=>aY n b0 b1) (fun b0=>aZ n b0) ih.1 ih.2.1 ih.2.2.1 ih.2.2.2 v0  r h),(fun bb0 v0 v1 r h=>gI bb0 (fun b0=>aW n b0) (fun b0 b1=>ba n b0 b1) (fun b0 b1=>aY n b0 b1) (fun b0=>aZ n b0) ih.1 ih.2.1 ih.2.2.1 ih.2.2.2 v0 v1  r h),(fun bb0 bb1 gg1_8 v0 v1 r h=>fZ bb0 bb1 gg1_8 (fun b0=>aW n b0) (fun b0 b1=>ba n b0 b1) (fun b0 b1=>aY n b0 b1) (fun b0=>aZ n b0) ih.1 ih.2.1 ih.2.2.1 ih.2.2.2 v0 v1  r h),(fun bb0 v0 r h=>gH bb0 (fun b0=>aW n b0) (fun b0 b1=>ba n b0 b1) (fun b0 b1=>aY n b0 b1) (fun b0=>aZ n b0) ih.1 ih.2.1 ih.2.2.1 ih.2.2.2 v0  r h)⟩
def dD(rA:LQueryparserParser):Option (Except Int (LQuery×LQueryparserParser)):=limN fun n=>aW n rA
theorem gM(b_rA:Nat)(rA:LQueryparserParser)(r:Except Int (LQuery×LQueryparserParser))(H:dD rA=some r):
  aP Tryz.prog 22 [(.box 1500 b_rA 0)] ⟨upd (fun _=>none) 1500 (some ⟨b_rA,(aa rA)⟩),fun _=>none⟩ (RX r (fun rv u H=>u=(.agg (aG rv.1))∧H=⟨upd (fun _=>none) 1500 (some ⟨b_rA,(aa rv.2)⟩),fun _=>none⟩)) (PX 106 r):=by
 obtain⟨n,h⟩:=limN_some H
 exact(gG  n).1 b_rA rA r h
def cJ(rA:LQueryparserParser)(_qA:LQuery):Option (Except Int (LQueryparserParser×LQuery)):=
 aT (dD rA) fun x3=>
 aT (cM x3.2) fun x5=>
 some (.ok (x5,x3.1))
theorem jh(b_rA:Nat)(b_qA:Nat)(b_c0:Nat)(rA:LQueryparserParser)(qA:LQuery)(r:Except Int (LQueryparserParser×LQuery))(H:cJ rA qA=some r):
  aP Tryz.prog 21 [(.box 1700 b_c0 0),(.box 1501 b_qA 0)] ⟨upd (upd (upd (fun _=>none) 1700 (some ⟨b_c0,[(.box 1500 b_rA 0)]⟩)) 1501 (some ⟨b_qA,(aG qA)⟩)) 1500 (some ⟨b_rA,(aa rA)⟩),fun _=>none⟩ (RX r (fun rv u H=>u=(.tup [])∧H=⟨upd (upd (upd (fun _=>none) 1700 (some ⟨b_c0,[(.box 1500 b_rA 0)]⟩)) 1501 (some ⟨b_qA,(aG rv.2)⟩)) 1500 (some ⟨b_rA,(aa rv.1)⟩),fun _=>none⟩)) (PX 106 r):=by
 unfold cJ at H;refine aP.intro Tryz.func21 rfl Tryz.ntmps21 rfl ?_;refine ak (ae (aw tk ?_))
 obtain⟨y3,h3,X3,H⟩:=aX H
 have s3:=gM b_rA rA _ h3;refine aH Tryz.call22 [(1500,1500)] [] s3 (X3 _) ?_;rintro u3 H3h hR3
 obtain⟨x3,⟨rfl,rfl⟩,H⟩:=H _ _ _ hR3
 refine⟨_,rfl,?_⟩
 refine aE (st':=⟨_,_,upd (upd (upd (fun _=>none) 1700 (some ⟨b_c0,[(.box 1500 b_rA 0)]⟩)) 1501 (some ⟨b_qA,(aG qA)⟩)) 1500 (some ⟨b_rA,(aa x3.2)⟩),fun _=>none⟩) (Gh.le (av _ _) (ab rfl (cX.r) (ab rfl (cX.r) (ab rfl (cX.r) ao))) am) ?_;refine ap tk ?_;refine af (ae (aw tk ?_))
 obtain⟨y5,h5,X5,H⟩:=aX H
 have s5:=ir b_rA x3.2 _ h5;refine aH Tryz.call23 [(1500,1500)] [] s5 (X5 _) ?_;rintro u5 H5h hR5
 obtain⟨x5,⟨rfl,rfl⟩,H⟩:=H _ _ _ hR5
 refine⟨_,rfl,?_⟩
 refine aE (st':=⟨_,_,upd (upd (upd (fun _=>none) 1700 (some ⟨b_c0,[(.box 1500 b_rA 0)]⟩)) 1501 (some ⟨b_qA,(aG x3.1)⟩)) 1500 (some ⟨b_rA,(aa x5)⟩),fun _=>none⟩) (Gh.le (av _ _) (ab rfl (cX.r) (ab rfl (cX.r) (ab rfl (cX.r) ao))) am) ?_;refine af ?_;obtain rfl:=aF H;refine be (st':=⟨6,fun _=>.any,upd (upd (upd (fun _=>none) 1700 (some ⟨b_c0,[(.box 1500 b_rA 0)]⟩)) 1501 (some ⟨b_qA,(aG x3.1)⟩)) 1500 (some ⟨b_rA,(aa x5)⟩),fun _=>none⟩) (Gh.le aO (ab rfl (cX.r) (ab rfl (cX.r) (ab rfl (cX.r) ao))) am) ?_;refine dG rfl (PLe.q rfl) ⟨rfl,rfl⟩
end
end Go.Proofs.YtibojibdiibdgaaGreatDoor

namespace Go.Proofs.YtibojibdiibdgaaGreatDoor
noncomputable section
open Go Go.Ab PT
section
variable(T:List Tok)(sz:Int)
def stt(t:List Tok):LQueryparserParser:=⟨T,((T.length-t.length:Nat):Int),sz⟩
def off:List Tok→Int
 |[]=>sz
 |x::_=>x.offset
def cv{α β:Type}(mk:α→LQueryparserParser→β):Res α→Except Int β
 | .ok (a,r)=>.ok (mk a (stt T sz r))
 | .error r=>.error (off sz r)
def Im{α β:Type}(mk:α→LQueryparserParser→β)(o:Option (Except Int β))(c:Option (Res α)):Prop:=∀s,c=some s→o=some (cv T sz mk s)
def hd(sz:Int):List Tok→Tok
 |[]=>⟨0,[],0,sz⟩
 |x::_=>x
end
def TkOk(x:Tok):Prop:=x.kind=6→∃c,x.text=[c]
section
variable{T:List Tok}{sz:Int}(hT:T.length≤4000)
section
include hT
theorem wrapT{t:List Tok}{x:Tok}(h:x::t<:+T):IntKind.i64.wrap ((stt T sz (x::t)).next+1)=(stt T sz t).next:=by
 have:=h.length_le
 simp only[List.length_cons,stt]at this⊢;rw[gf (by omega) (by omega)];omega
theorem adv{t:List Tok}{x:Tok}(h:x::t<:+T):LQueryparserParser.mk (stt T sz (x::t)).tokens (IntKind.i64.wrap ((stt T sz (x::t)).next+1)) (stt T sz (x::t)).size=stt T sz t:=by
 rw[wrapT hT h];rfl
theorem bck{t:List Tok}{x:Tok}(h:x::t<:+T):LQueryparserParser.mk (stt T sz t).tokens (IntKind.i64.wrap ((stt T sz t).next-1)) (stt T sz t).size=stt T sz (x::t):=by
 have:=h.length_le
 simp only[List.length_cons,stt]at this⊢;rw[gf (by omega) (by omega)];congr 1;omega
end
theorem ie{t:List Tok}(h:t<:+T):bi (stt T sz t)=some (hd sz t,stt T sz t):=by
 unfold bi;have hl:=h.length_le;cases t with
 |nil=>
  rw[show decide ((stt T sz []).next<((stt T sz []).tokens.length:Int))=false from by simp[stt]];rfl
 |cons x r=>
  simp only[List.length_cons]at hl;rw[show decide ((stt T sz (x::r)).next<((stt T sz (x::r)).tokens.length:Int))=true from zt (by simp only[stt,List.length_cons];omega)]
  have hg:bO (stt T sz (x::r)).tokens (stt T sz (x::r)).next=some x:=by
   have e:T.drop (T.length-(x::r).length)=x::r:=(List.suffix_iff_eq_drop.1 h).symm;simp only[stt];rw[eG (x:=x)]
   have:=congrArg (fun l=>l[0]?) e
   simpa only[List.getElem?_drop,Nat.add_zero,List.getElem?_cons_zero]using this
  rw[zc,hg];rfl
theorem fe{t:List Tok}(h:t<:+T):aI (stt T sz t)=some (.error (off sz t)):=by
 unfold aI;rw[ie h];cases t<;>rfl
include hT in
theorem eV{t:List Tok}(h:t<:+T)(s:List UInt8):ah (stt T sz t) s=some (match t with
  |[]=>(false,stt T sz [])
  |x::r=>bif hit s x then(true,stt T sz r)else(false,stt T sz (x::r))):=by
 unfold ah;rw[ie h];cases t with
 |nil=>rfl
 |cons x r=>
  show(bif hit s x then some (true,_)else some (false,_))=_
  rw[adv hT h];cases hs:hit s x<;>simp only[hs,zc,zd]
include hT in
theorem expect_eq{t:List Tok}(h:t<:+T)(s:List UInt8):aD (stt T sz t) s=some (match t with
  |[]=>.error sz
  |x::r=>bif hit s x then .ok (stt T sz r)else .error x.offset):=by
 unfold aD;rw[eV hT h];cases t with
 |nil=>show aT (aI (stt T sz [])) _=_;rw[fe h];rfl
 |cons x r=>
  cases hs:hit s x with
  |true=>simp only[hs,zc];rfl
  |false=>simp only[hs,zd];show aT (aI (stt T sz (x::r))) _=_;rw[fe h];rfl
include hT in
theorem ident_eq{t:List Tok}(h:t<:+T):aU (stt T sz t)=some (match t with
  |[]=>.error sz
  |x::r=>bif x.kind==1 then .ok (x.text,stt T sz r)else .error x.offset):=by
 unfold aU;rw[ie h];cases t with
 |nil=>
  show ar (ci (aI (stt T sz [])) _) _=_;rw[fe h];rfl
 |cons x r=>
  simp only[ar,hd];cases hs:x.kind==1 with
  |true=>rw[show(x.kind !=1)=false from by simp[bne,hs]];simp only[zc,zd];show some (Except.ok (x.text,_))=_;rw[adv hT h]
  |false=>rw[show(x.kind !=1)=true from by simp[bne,hs]];simp only[zc,zd];rw[fe h];rfl
include hT in
theorem number_eqP{t:List Tok}(h:t<:+T):bh (stt T sz t)=some (match t with
  |[]=>.error sz
  |x::r=>bif x.kind==3 then .ok (x.number,stt T sz r)else .error x.offset):=by
 unfold bh;rw[ie h];cases t with
 |nil=>
  show ar (ci (aI (stt T sz [])) _) _=_;rw[fe h];rfl
 |cons x r=>
  simp only[ar,hd];cases hs:x.kind==3 with
  |true=>rw[show(x.kind !=3)=false from by simp[bne,hs]];simp only[zc,zd];show some (Except.ok (x.number,_))=_;rw[adv hT h]
  |false=>rw[show(x.kind !=3)=true from by simp[bne,hs]];simp only[zc,zd];rw[fe h];rfl
section
variable{α β γ δ:Type}{mk:α→LQueryparserParser→β}{t:List Tok}{s:List UInt8}
theorem Im.rt{a:α}{b:β}(h:b=mk a (stt T sz t)):Im T sz mk (some (.ok b)) ((PT.rt a).run t):=fun s hs=>by
 simp only[run,zo]at hs;subst hs;rw[h];rfl
theorem Im.fl{k:LQueryparserParser→Option (Except Int β)}(h:t<:+T):Im T sz mk (aT (aI (stt T sz t)) k) ((.fl:PT α).run t):=fun s hs=>by
 simp only[run,zo]at hs;subst hs;rw[fe h];rfl
include hT in
theorem Im.kW{k:Bool×LQueryparserParser→Option (Except Int β)}{y n:PT α}(h:t<:+T)(hy:∀r,r<:+T→r.length<t.length→Im T sz mk (k (true,stt T sz r)) (y.run r))(hn:Im T sz mk (k (false,stt T sz t)) (n.run t)):
  Im T sz mk (ar (ah (stt T sz t) s) k) ((kw s y n).run t):=by
 rw[eV hT h];cases t with
 |nil=>exact hn
 |cons x r=>
  simp only[ar,kw,run];cases hs:hit s x with
  |true=>simp only[zc];exact hy r ((List.suffix_cons x r).trans h) (by simp)
  |false=>simp only[zd];exact hn
include hT in
theorem Im.kC{A B:Bool×LQueryparserParser→Option (Except Int β)}{y n:PT α}(h:t<:+T)(hy:∀r,r<:+T→r.length<t.length→Im T sz mk (A (true,stt T sz r)) (y.run r))(hn:Im T sz mk (B (false,stt T sz t)) (n.run t)):
  Im T sz mk (ar (ah (stt T sz t) s) fun x=>cond x.1 (A x) (B x)) ((kw s y n).run t):=Im.kW (k:=fun x=>cond x.1 (A x) (B x)) hT h hy hn
include hT in
theorem Im.kN{A B:Bool×LQueryparserParser→Option (Except Int β)}{y n:PT α}(h:t<:+T)(hy:∀r,r<:+T→r.length<t.length→Im T sz mk (A (true,stt T sz r)) (y.run r))(hn:Im T sz mk (B (false,stt T sz t)) (n.run t)):
  Im T sz mk (ar (ah (stt T sz t) s) fun x=>cond (!x.1) (B x) (A x)) ((kw s y n).run t):=Im.kW (k:=fun x=>cond (!x.1) (B x) (A x)) hT h hy hn
include hT in
theorem Im.eX{k:LQueryparserParser→Option (Except Int β)}{y:PT α}(h:t<:+T)(hy:∀r,r<:+T→Im T sz mk (k (stt T sz r)) (y.run r)):Im T sz mk (aT (aD (stt T sz t) s) k) ((ex s y).run t):=by
 intro v hv;rw[expect_eq hT h];cases t with
 |nil=>simp only[ex,kw,run,zo]at hv;subst hv;rfl
 |cons x r=>
  simp only[ex,kw,run]at hv⊢;cases hs:hit s x with
  |true=>rw[hs,zc]at hv;exact hy r ((List.suffix_cons x r).trans h) v hv
  |false=>rw[hs,zd]at hv;simp only[zo]at hv;subst hv;rfl
include hT in
theorem Im.iD{k:List UInt8×LQueryparserParser→Option (Except Int β)}{y:List UInt8→PT α}(h:t<:+T)(hy:∀a r,r<:+T→r.length<t.length→Im T sz mk (k (a,stt T sz r)) ((y a).run r)):Im T sz mk (aT (aU (stt T sz t)) k) ((idt y).run t):=by
 intro v hv;rw[ident_eq hT h];cases t with
 |nil=>simp only[idt,run,zo]at hv;subst hv;rfl
 |cons x r=>
  simp only[idt,run]at hv⊢;cases hs:x.kind==1 with
  |true=>rw[hs,zc]at hv;exact hy x.text r ((List.suffix_cons x r).trans h) (by simp) v hv
  |false=>rw[hs,zd]at hv;simp only[zo]at hv;subst hv;rfl
include hT in
theorem Im.nU{k:Int×LQueryparserParser→Option (Except Int β)}{y:Int→PT α}(h:t<:+T)(hy:∀a r,r<:+T→Im T sz mk (k (a,stt T sz r)) ((y a).run r)):Im T sz mk (aT (bh (stt T sz t)) k) ((num y).run t):=by
 intro v hv;rw[number_eqP hT h];cases t with
 |nil=>simp only[num,run,zo]at hv;subst hv;rfl
 |cons x r=>
  simp only[num,run]at hv⊢;cases hs:x.kind==3 with
  |true=>rw[hs,zc]at hv;exact hy x.number r ((List.suffix_cons x r).trans h) v hv
  |false=>rw[hs,zd]at hv;simp only[zo]at hv;subst hv;rfl
include hT in
theorem Im.n1{B:Int×LQueryparserParser→Option (Except Int β)}{C:Int×LQueryparserParser→LQueryparserParser→Option (Except Int β)}{y:Int→PT α}(h:t<:+T)(hy:∀a r,r<:+T→Im T sz mk (B (a,stt T sz r)) ((y a).run r)):
  Im T sz mk (aT (bh (stt T sz t)) fun x=>cond (x.1==0) (aT (aI (LQueryparserParser.mk x.2.tokens (IntKind.i64.wrap (x.2.next-(1:Int))) x.2.size)) (C x)) (B x)) ((num1 y).run t):=by
 intro v hv;rw[number_eqP hT h];cases t with
 |nil=>simp only[num1,run,zo]at hv;subst hv;rfl
 |cons x r=>
  simp only[num1,run]at hv⊢;cases hs:x.kind==3 with
  |true=>
   simp only[hs,Bool.true_and]at hv;simp only[zc,aT];cases h0:x.number==0 with
   |true=>
    simp only[h0,Bool.not_true,zd,zo]at hv;subst hv;simp only[zc];rw[bck hT h,fe h];rfl
   |false=>
    simp only[h0,Bool.not_false,zc]at hv;simp only[zd];exact hy x.number r ((List.suffix_cons x r).trans h) v hv
  |false=>simp only[hs,Bool.false_and,zd,zo]at hv;subst hv;rfl
theorem Im.bd{mk':γ→LQueryparserParser→δ}{o:Option (Except Int β)}{p:PT α}{k:β→Option (Except Int δ)}{g:α→PT γ}(h:Im T sz mk o (p.run t))(ht:t<:+T)(hg:∀a r,r<:+T→r.length≤t.length→p.run t=some (.ok (a,r))→Im T sz mk' (k (mk a (stt T sz r))) ((g a).run r)):Im T sz mk' (aT o k) ((p.bd g).run t):=by
 intro v hv;rw[run_bd]at hv;cases hp:p.run t with
 |none=>rw[hp]at hv;cases hv
 |some s=>
  rw[hp]at hv;rw[h s hp];have hs:=run_suf p t hp;cases s with
  |error r=>simp only[zo]at hv;subst hv;rfl
  |ok w=>exact hg w.1 w.2 (hs.trans ht) hs.length_le hp v hv
theorem Im.look(c:Int)(h0:((0:Int)==c)=false){A B:Option (Except Int β)}{y:Tok→PT α}{n:PT α}(hy:∀x r,t=x::r→(x.kind==c)=true→Im T sz mk A ((y x).run r))(hn:Im T sz mk B (n.run t)):Im T sz mk (cond ((hd sz t).kind==c) A B) ((PT.acc (fun x=>x.kind==c) y n).run t):=by
 cases t with
 |nil=>simp only[hd,h0,zd];exact hn
 |cons x r=>
  simp only[hd,run];cases hs:x.kind==c with
  |true=>exact hy x r rfl hs
  |false=>exact hn
def ImR{α β σ:Type}(T:List Tok)(sz:Int)(mk:α→LQueryparserParser→β)(o:Option (Flow σ (Except Int β)))(c:Option (Res α)):Prop:=∀s,c=some s→o=some (.ret (cv T sz mk s))
theorem ImR.rt{σ:Type}{a:α}{b:β}(h:b=mk a (stt T sz t)):ImR (σ:=σ) T sz mk (some (.ret (.ok b))) ((PT.rt a).run t):=fun s hs=>by
 simp only[run,zo]at hs;subst hs;rw[h];rfl
theorem ImR.bd{σ:Type}{mk':γ→LQueryparserParser→δ}{o:Option (Except Int β)}{p:PT α}{k:β→Option (Flow σ (Except Int δ))}{g:α→PT γ}(h:Im T sz mk o (p.run t))(ht:t<:+T)(hg:∀a r,r<:+T→ImR T sz mk' (k (mk a (stt T sz r))) ((g a).run r)):ImR T sz mk' (ci o k) ((p.bd g).run t):=by
 intro v hv;rw[run_bd]at hv;cases hp:p.run t with
 |none=>rw[hp]at hv;cases hv
 |some s=>
  rw[hp]at hv;rw[h s hp];have hs:=run_suf p t hp;cases s with
  |error r=>simp only[zo]at hv;subst hv;rfl
  |ok w=>exact hg w.1 w.2 (hs.trans ht) v hv
include hT in
theorem ImR.eX{σ:Type}{k:LQueryparserParser→Option (Flow σ (Except Int β))}{y:PT α}(h:t<:+T)(hy:∀r,r<:+T→ImR T sz mk (k (stt T sz r)) (y.run r)):ImR T sz mk (ci (aD (stt T sz t) s) k) ((ex s y).run t):=by
 intro v hv;rw[expect_eq hT h];cases t with
 |nil=>simp only[ex,kw,run,zo]at hv;subst hv;rfl
 |cons x r=>
  simp only[ex,kw,run]at hv⊢;cases hs:hit s x with
  |true=>rw[hs,zc]at hv;exact hy r ((List.suffix_cons x r).trans h) v hv
  |false=>rw[hs,zd]at hv;simp only[zo]at hv;subst hv;rfl
include hT in
theorem Im.words(L:List (List UInt8)){F:List UInt8→Bool×LQueryparserParser→Option (Flow LQueryparserParser (Except Int β))}{g:LQueryparserParser→Option (Except Int β)}{Y:List UInt8→PT α}{n:PT α}(h:t<:+T)(hL:L.length≤100)
  (hF:∀x r,r<:+T→ImR T sz mk (F x (true,stt T sz r)) ((Y x).run r)) (hn:Im T sz mk (g (stt T sz t)) (n.run t)):
  Im T sz mk (ar (fM (L.length:Int)) fun(m:Nat)=>ar (bJ (σ:=LQueryparserParser) (ρ:=(Except Int β)) (fun(j:Nat) (_:Nat) (s1:LQueryparserParser)=>ar (bO L (j:Int)) fun(x:List UInt8)=>ar (ah s1 x) fun y=>cond y.1 (F x y) (some (.next y.2))) 0 (List.range m) (stt T sz t)) fun fl=>fl.thenR g)
   ((L.foldr (fun s n=>kw s (Y s) n) n).run t):=by
 rw[show fM (L.length:Int)=some L.length from by unfold fM;rw[zp (by omega)];rfl];simp only[ar]
 have key:∀(l:List (List UInt8)) (xs:List Nat) (j:Nat),xs.length=l.length→(∀i x,l[i]? =some x→L[j+i]? =some x)→∀v,(l.foldr (fun s n=>kw s (Y s) n) n).run t=some v→
   ar (bJ (σ:=LQueryparserParser) (ρ:=(Except Int β)) (fun(j:Nat) (_:Nat) (s1:LQueryparserParser)=>ar (bO L (j:Int)) fun(x:List UInt8)=>ar (ah s1 x) fun y=>cond y.1 (F x y) (some (.next y.2))) j xs (stt T sz t)) (fun fl=>fl.thenR g)=some (cv T sz mk v):=by
  intro l;induction l with
  |nil=>
   intro xs j hx _ v hv;obtain rfl:xs=[]:=List.eq_nil_of_length_eq_zero hx;exact hn v hv
  |cons w l ih=>
   intro xs j hx hl v hv
   obtain⟨i,xs,rfl⟩:∃i ys,xs=i::ys:=by cases xs with|nil=>simp at hx|cons i ys=>exact⟨i,ys,rfl⟩
   have hg:bO L (j:Int)=some w:=eG (by simpa using hl 0 w rfl);rw[bJ];simp only[hg,ar];rw[eV hT h];simp only[List.foldr_cons,kw]at hv
   have next:(l.foldr (fun s n=>PT.acc (hit s) (fun _=>Y s) n) n).run t=some v→ar (bJ (σ:=LQueryparserParser) (ρ:=(Except Int β)) (fun(j:Nat) (_:Nat) (s1:LQueryparserParser)=>ar (bO L (j:Int)) fun(x:List UInt8)=>ar (ah s1 x) fun y=>cond y.1 (F x y) (some (.next y.2))) (j+1) xs (stt T sz t)) (fun fl=>fl.thenR g)=some (cv T sz mk v):=
    ih xs (j+1) (by simpa using hx) (fun i x hi=>by have:=hl (i+1) x (by simpa using hi);rwa [show j+1+i=j+(i+1)from by omega]) v
   cases t with
   |nil=>exact next (by simpa only[run]using hv)
   |cons x r=>
    simp only[run]at hv;cases hs:hit w x with
    |true=>
     rw[hs,zc]at hv;simp only[hs,zc];rw[hF w r ((List.suffix_cons x r).trans h) v hv];rfl
    |false=>
     rw[hs,zd]at hv;simp only[hs,zd];exact next hv
 exact key L (List.range L.length) 0 (by simp) (fun i x hi=>by simpa using hi)
end
end
section
variable{T:List Tok}{sz:Int}(hT:T.length≤4000)
theorem bindX_id{α:Type}(o:Option (Except Int α)):aT o (fun x=>some (Except.ok x))=o:=by
 rcases o with _|e|a<;>rfl
theorem joinX{α β:Type}{σ:Type}(o:Option (Except Int α))(k:α→Option (Flow σ (Except Int β)))(g:σ→Option (Except Int β)):(ar (ci o k) fun fl=>fl.thenR g)=aT o fun a=>ar (k a) fun fl=>fl.thenR g:=by
 rcases o with _|e|a<;>rfl
theorem joinN{β:Type}{σ:Type}(v:σ)(g:σ→Option (Except Int β)):(ar (some (Flow.next (ρ:=Except Int β) v)) fun fl=>fl.thenR g)=g v:=rfl
include hT in
theorem value_im{t:List Tok}(h:t<:+T):Im T sz (fun a p=>(a,p)) (cC (stt T sz t)) (litT.run t):=by
 unfold cC litT;rw[ie h,bPs];refine Im.kC hT h (fun r hr _=>Im.rt rfl) ?_;refine Im.kC hT h (fun r hr _=>Im.rt rfl) ?_;refine Im.kC hT h (fun r hr _=>Im.rt rfl) ?_;refine Im.kC hT h (fun r hr _=>?_) ?_
 ·exact Im.n1 hT hr fun a r' hr'=>Im.rt rfl
 ·refine Im.look 4 rfl (fun x r e h6=>?_) ?_
  ·subst e;exact Im.rt (congrArg (Prod.mk _) (adv hT h))
  ·exact Im.nU hT h fun a r hr=>Im.rt rfl
include hT in
theorem exprO_im(hk:∀x∈T,TkOk x){f g:LQueryparserParser→Option (Except Int (LExpr×LQueryparserParser))}{B:PT LExpr}{t:List Tok}(h:t<:+T)(hB:∀r,r<:+T→Im T sz (fun a p=>(a,p)) (g (stt T sz r)) (B.run r)):Im T sz (fun a p=>(a,p)) (cF f g (stt T sz t)) ((exprB B).run t):=by
 unfold cF exprB;rw[ie h,bPs];refine Im.look 1 rfl (fun x r e h6=>?_) ?_
 ·subst e;exact Im.rt (congrArg (Prod.mk _) (adv hT h))
 refine Im.look 6 rfl (fun x r e h6=>?_) ?_
 ·subst e
  obtain⟨c,hc⟩:=hk x (h.subset (by simp)) (by simpa using h6)
  rw[show idx1 ([63,105,98,116]:List UInt8) (hd sz (x::r)).text=some (pkind x.text)from by simp only[hd,pkind,hc,idx1]];exact Im.rt (congrArg (Prod.mk _) (adv hT h))
 refine Im.kC hT h (fun r hr _=>?_) ?_
 ·exact Im.iD hT hr fun a r' hr' _=>Im.rt rfl
 refine Im.kC hT h (fun r hr _=>?_) ?_
 ·intro v hv;rw[show(fun x48:LExpr×LQueryparserParser=>some (Except.ok (ε:=Int) (x48.1,x48.2)))=fun x=>some (Except.ok x)from rfl,bindX_id];exact hB r hr v hv
 ·exact Im.bd (value_im hT h) h fun a r hr _ _=>Im.rt rfl
include hT in
theorem bracketO_im{f g:LQueryparserParser→Option (Except Int (LExpr×LQueryparserParser))}{E:PT LExpr}(hE:∀r,r<:+T→Im T sz (fun a p=>(a,p)) (f (stt T sz r)) (E.run r)){t:List Tok}(h:t<:+T):Im T sz (fun a p=>(a,p)) (cj f g (stt T sz t)) ((gg E).run t):=by
 unfold cj gg;refine Im.words hT (Y:=fun s=>E.bd fun e=>ex [41] (.rt (opE s [e]))) [[110,111,116],[108,101,110,103,116,104]] h (by decide) (fun x r hr=>?_) ?_
 ·exact ImR.bd (hE r hr) hr fun a r' hr'=>ImR.eX hT hr' fun r2 hr2=>ImR.rt rfl
 refine Im.kC hT h (fun r hr _=>?_) ?_
 ·refine Im.bd (hE r hr) hr fun a r hr _ _=>Im.eX hT hr fun r hr=>Im.bd (hE r hr) hr fun b r hr _ _=>Im.eX hT hr fun r hr=>Im.bd (hE r hr) hr fun c r hr _ _=>Im.eX hT hr fun r hr=>Im.rt rfl
 refine Im.bd (hE t h) h fun a r hr _ _=>?_
 refine Im.kC hT hr (fun r hr _=>?_) ?_
 ·exact Im.eX hT hr fun r hr=>Im.eX hT hr fun r hr=>Im.rt rfl
 ·refine Im.words hT (Y:=fun s=>E.bd fun b=>ex [41] (.rt (opE s [a,b]))) _ hr (by decide) (fun x r hr=>?_) ?_
  ·exact ImR.bd (hE r hr) hr fun a r' hr'=>ImR.eX hT hr' fun r2 hr2=>ImR.rt rfl
  ·exact Im.fl hr
include hT in
theorem eb_im(hk:∀x∈T,TkOk x):∀m:Nat,(∀t,t<:+T→Im T sz (fun a p=>(a,p)) (bv m (stt T sz t)) ((eT m).run t))∧∀t,t<:+T→Im T sz (fun a p=>(a,p)) (bw m (stt T sz t)) ((bT m).run t)
 |0=>⟨fun t _ s h=>by simp[eT,run]at h,fun t _ s h=>by simp[bT,run]at h⟩
 |m+1=>by
  obtain⟨h1,h2⟩:=eb_im hk m
  refine⟨fun t ht=>?_,fun t ht=>?_⟩
  ·rw[bv,eT];exact exprO_im hT hk ht h2
  ·rw[bw,bT];exact bracketO_im hT h1 ht
include hT in
theorem iX(hk:∀x∈T,TkOk x){t:List Tok}(h:t<:+T):Im T sz (fun a p=>(a,p)) (bI (stt T sz t)) (eM.run t):=by
 intro s hs;refine limN_eq dQ fun m hm=>?_
 have hl:=h.length_le
 obtain⟨s',h1,h2⟩:=eM_st2 (N:=t.length) (by omega) hm t (Nat.le_refl _)
 rw[hs,zo]at h1;subst h1
 exact((eb_im hT hk m).1 t h) s h2
def qsz(q:LQuery):Nat:=q.names.length+q.exprs.length+q.aggregates.length+q.descending.length
def Qok(q:LQuery)(n:Nat):Prop:=qsz q+2*n≤10000
theorem app_set{α:Type}{b:Nat}{l:List α}{z:α}{β:Type}(k:List α→Option β)(hb:b≤1000)(h:l.length≤10000)(x:α):(ar (ec b l [z]) fun y=>ar (bO y (l.length:Int)) fun _=>cx (y.set ((l.length:Int).toNat) x) k)=k (l++[x]):=by
 have h1:ec b l [z]=some (l++[z]):=by
  unfold ec;rw[zp ⟨by have:(l.length+[z].length)*b≤10001*1000:=Nat.mul_le_mul (by simpa using h) hb;omega,by simp[maxLen];omega⟩]
 rw[h1,bPs,eG (x:=z) (by simp),bPs];simp[cx]
theorem ia{α:Type}{b:Nat}{l:List α}{β:Type}(k:List α→Option β)(hb:b≤1000)(h:l.length≤10000)(x:α):ar (ec b l [x]) k=k (l++[x]):=by
 have h1:ec b l [x]=some (l++[x]):=by
  unfold ec;rw[zp ⟨by have:(l.length+[x].length)*b≤10001*1000:=Nat.mul_le_mul (by simpa using h) hb;omega,by simp[maxLen];omega⟩]
 rw[h1,bPs]
include hT in
theorem named_im(hk:∀x∈T,TkOk x){q:LQuery}{t:List Tok}(h:t<:+T)(hq:Qok q t.length):Im T sz (fun a p=>(p,a)) (bU (stt T sz t) q) ((eS eM q).run t):=by
 unfold bU eS;unfold Qok qsz at hq;refine Im.bd (iX hT hk h) h fun e r hr _ _=>?_
 rw[app_set _ (by decide) (by omega)];refine Im.eX hT hr fun r hr=>Im.iD hT hr fun s r hr _=>?_
 rw[ia _ (by decide) (by omega)];exact Im.rt rfl
include hT in
theorem sort_im(hk:∀x∈T,TkOk x){q:LQuery}{t:List Tok}(h:t<:+T)(hq:Qok q t.length):Im T sz (fun a p=>(p,a)) (bA (stt T sz t) q) ((sortB eM q).run t):=by
 unfold bA sortB;unfold Qok qsz at hq;refine Im.bd (iX hT hk h) h fun e r hr _ _=>?_
 rw[app_set _ (by decide) (by omega)];refine Im.kW (n:= .rt _) (y:= .rt _) hT hr (fun r hr _=>?_) ?_
 ·rw[ia _ (by decide) (by omega)];exact Im.rt rfl
 ·rw[ia _ (by decide) (by omega)];exact Im.rt rfl
include hT in
theorem agg_im(hk:∀x∈T,TkOk x){q:LQuery}{t:List Tok}(h:t<:+T)(hq:Qok q t.length):Im T sz (fun a p=>(p,a)) (bC (stt T sz t) q) ((aggB eM q).run t):=by
 unfold bC aggB;unfold Qok qsz at hq;refine Im.iD hT h fun f r hr _=>Im.eX hT hr fun r hr=>?_
 have fin:∀l r,r<:+T→Im T sz (fun a p=>(p,a)) (aT (aD (stt T sz r) ([97,115]:List UInt8)) fun x18=>aT (aU x18) fun x20=>ar (ec 56 q.aggregates ([(LAggregateCall.mk x20.1 f l)]:List LAggregateCall)) fun(x29:List LAggregateCall)=>
   some (.ok (x20.2,(LQuery.mk q.kind q.table q.names q.exprs x29 q.descending q.count q.offset q.inputs))))
   ((ex [97,115] (idt fun s=>.rt (LQuery.mk q.kind q.table q.names q.exprs (q.aggregates++[LAggregateCall.mk s f l]) q.descending q.count q.offset q.inputs))).run r):=by
  intro l r hr;refine Im.eX hT hr fun r hr=>Im.iD hT hr fun s r hr _=>?_
  rw[ia _ (by decide) (by omega)];exact Im.rt rfl
 refine Im.kW hT (n:=PT.bd _ _) (y:=PT.bd _ _) hr (fun r hr _=>?_) ?_
 ·exact fin [] r hr
 ·simp only[Bool.not_false,zc];rw[joinX,bd_bd];refine Im.bd (iX hT hk hr) hr fun e r hr _ _=>?_
  rw[joinX];exact Im.eX hT hr fun r hr=>fin [e] r hr
theorem eT_con(m:Nat):(eT m).Con:=by
 cases m with
 |zero=>rw[eT];trivial
 |succ m=>rw[eT];exact trivial
theorem All.eX{α:Type}{φ:α→Prop}{s:List UInt8}{y:PT α}(h:All φ y):All φ (ex s y):=⟨fun _=>h,trivial⟩
theorem All.iD{α:Type}{φ:α→Prop}{y:List UInt8→PT α}(h:∀s,All φ (y s)):All φ (idt y):=⟨fun _=>h _,trivial⟩
theorem named_ok{q q':LQuery}{t r:List Tok}(h:(eS eM q).run t=some (.ok (q',r))):qsz q'≤qsz q+2∧r.length<t.length:=
 ⟨All.run (φ:=fun q'=>qsz q'≤qsz q+2) (All.bd (fun e=>All.eX (All.iD fun s=>by simp[All,qsz,LQuery.names,LQuery.exprs,LQuery.aggregates,LQuery.descending];omega)) eM) h,Con.lt (Con.bd (eT_con _)) h⟩
theorem sort_ok{q q':LQuery}{t r:List Tok}(h:(sortB eM q).run t=some (.ok (q',r))):qsz q'≤qsz q+2∧r.length<t.length:=
 ⟨All.run (φ:=fun q'=>qsz q'≤qsz q+2) (All.bd (fun e=>All.bd (fun d=>by simp[All,qsz,LQuery.names,LQuery.exprs,LQuery.aggregates,LQuery.descending];omega) _) eM) h,Con.lt (Con.bd (eT_con _)) h⟩
theorem agg_ok{q q':LQuery}{t r:List Tok}(h:(aggB eM q).run t=some (.ok (q',r))):qsz q'≤qsz q+2∧r.length<t.length:=
 ⟨All.run (φ:=fun q'=>qsz q'≤qsz q+2) (All.iD fun f=>All.eX (All.bd (fun l=>All.eX (All.iD fun s=>by simp[All,qsz,LQuery.names,LQuery.exprs,LQuery.aggregates,LQuery.descending];omega)) _)) h,Con.lt (show Con (idt _)from trivial) h⟩
noncomputable abbrev cstep(one:LQueryparserParser→LQuery→Option (Except Int (LQueryparserParser×LQuery))):LQueryparserParser×LQuery→Option (Flow (LQueryparserParser×LQuery) (Except Int (LQueryparserParser×LQuery))):=fun(s1:LQueryparserParser×LQuery)=>
  ar (ah s1.1 ([44]:List UInt8)) fun x7=>
  cond x7.1
   (ci (one x7.2 s1.2) fun x9=>
   some (.next (x9.1,x9.2)))
   (some (.brk (x7.2,s1.2)))
section
variable{one:LQueryparserParser→LQuery→Option (Except Int (LQueryparserParser×LQuery))}{oneT:LQuery→PT LQuery}(h1:∀t q,t<:+T→Qok q t.length→Im T sz (fun a p=>(p,a)) (one (stt T sz t) q) ((oneT q).run t))
 (h2:∀(q:LQuery) (t:List Tok) (q':LQuery) (r:List Tok),(oneT q).run t=some (.ok (q',r))→qsz q'≤qsz q+2∧r.length<t.length)
include hT h1 h2
theorem commas_im:∀(n:Nat) (q:LQuery) (t:List Tok),t<:+T→Qok q t.length→∀s,(dS oneT n q).run t=some s→cR (cstep one) (stt T sz t,q)=some (match s with| .ok (q',r)=>.next (stt T sz r,q')| .error r=>.ret (.error (off sz r)))
 |0,q,t,_,_,s,h=>by simp[dS,run]at h
 |n+1,q,[],ht,hq,s,h=>by
  simp only[dS,kw,run,zo]at h;subst h;refine bm (fl:= .brk (stt T sz [],q)) ?_ rfl;show ar (ah (stt T sz []) _) _=_;rw[eV hT ht];rfl
 |n+1,q,x::r,ht,hq,s,h=>by
  simp only[dS,kw,run]at h;have hr:=(List.suffix_cons x r).trans ht;cases hs:hit [44] x with
  |false=>
   simp only[hs,zd,zo]at h;subst h;refine bm (fl:= .brk (stt T sz (x::r),q)) ?_ rfl;show ar (ah (stt T sz (x::r)) _) _=_;rw[eV hT ht];simp only[hs,zd];rfl
  |true=>
   simp only[hs,zc]at h;rw[run_bd]at h;have hq1:Qok q r.length:=by unfold Qok at hq⊢;simp only[List.length_cons]at hq;omega
   cases ho:(oneT q).run r with
   |none=>rw[ho]at h;cases h
   |some w=>
    have hi:=h1 r q hr hq1 w ho;rw[ho]at h;cases w with
    |error e=>
     simp only[zo]at h;subst h;refine bm (fl:= .ret (.error (off sz e))) ?_ rfl;show ar (ah (stt T sz (x::r)) _) _=_;rw[eV hT ht];simp only[hs,zc,ar];rw[hi];rfl
    |ok w=>
     obtain⟨q',r'⟩:=w
     have h3:=h2 q r q' r' ho;have hr':r'<:+T:=(run_suf (oneT q) r ho).trans hr;refine bm (fl:= .next (stt T sz r',q')) ?_ (commas_im n q' r' hr' (by unfold Qok at hq1⊢;omega) s h);show ar (ah (stt T sz (x::r)) _) _=_;rw[eV hT ht];simp only[hs,zc,ar];rw[hi];rfl
theorem lst_im{n:Nat}{q:LQuery}{t:List Tok}(ht:t<:+T)(hq:Qok q t.length):Im T sz (fun a p=>(p,a)) (aT (one (stt T sz t) q) fun x5=>ar (cR (cstep one) (x5.1,x5.2)) fun fl1=>fl1.thenR fun(s1:LQueryparserParser×LQuery)=>some (.ok (s1.1,s1.2))) ((lst oneT n q).run t):=by
 refine Im.bd (h1 t q ht hq) ht fun q' r hr hl ho s hs=>?_
 have h3:=h2 q t q' r ho;rw[commas_im hT h1 h2 n q' r hr (by unfold Qok at hq⊢;omega) s hs,bPs];rcases s with e|⟨q2,r2⟩<;>rfl
end
end
end
end Go.Proofs.YtibojibdiibdgaaGreatDoor

namespace Go.Ab
noncomputable section
section
variable{P:Program}{Px:PV→Prop}{T:TT}{ops:Array Oper}{rest:List Oper}{o:Oper}{n:Nat}{s s':Nat→PV}{bx:Nat→Option Box}{ob:Nat→Option Obj}{K:PState→Prop}
theorem detS_neI{t t':TypeId}{x:Operand}(ho:o.op= .binOp .neq t x (.const .nilIface) t'){ms:Array (String×TypeId)}(hu:P.underlying t=some (.interface ms)){ev:Operand→PV}{H:Heap}{t1:TypeId}{p:PV}(hx:ev x= .ifc t1 p):DetS P o ev H (.val (.bool true)):=by
 intro C M a w _ he;have hxr:=he x (by rw[ho];simp[Op.operands]);rw[hx]at hxr;simp only[Rep]at hxr
 obtain⟨v,hv,_⟩:=hxr
 refine⟨.bool true,?_,by simp only[Rep]⟩
 have hn:a.eval (.const .nilIface)= .nilIface:=rfl;have hq:(eqGuard .neq t x (.const .nilIface) (a.eval x) .nilIface).run P w= .ok () w:=by rw[hv];simp[eqGuard]
 have h:=fA w 9999 hu true (.inr ⟨rfl,t1,v,hv⟩)
 have h2:(binOp .neq t (a.eval x) .nilIface).run P w= .ok (.bool true) w:=by
  rw[hv]at h⊢;simp only[binOp,Op.equal,Op.maxDepth];rw[Sem.run_bind,h];rfl
 simp only[execOp,ho,hn,Sem.run_bind,hq,Result.andThen_ok,h2];rfl
theorem Ao.neI{t t':TypeId}{x:Operand}{ms:Array (String×TypeId)}(hu:P.underlying t=some (.interface ms)){t1:TypeId}{p:PV}(ho:o.op= .binOp .neq t x (.const .nilIface) t')(hg:aL ops s o=some true)(hx:evS s x= .ifc t1 p)
  (hp:putD n s o.dst (.val (.bool true))=some s') (h:Ao P Px ops rest ⟨n,s',bx,ob⟩ K):Ao P Px ops (o::rest) ⟨n,s,bx,ob⟩ K:=kZ hg (detS_neI ho hu hx) hp h
theorem detS_asJ(hT:T.Ok P){t t':TypeId}{x:Operand}(ho:o.op= .typeAssert x t t' true){ti:TInfo}(hti:T.get t'=some ti)(hd:(match ti.desc with| .interface _=>true|_=>false)=false){p:PV}{ev:Operand→PV}{H:Heap}(hx:ev x= .ifc t' p):DetS P o ev H (.tup [p,.val (.bool true)]):=by
 intro C M a w _ he;have hxr:=he x (by rw[ho];simp[Op.operands]);rw[hx]at hxr;simp only[Rep]at hxr
 obtain⟨v,hv,hr⟩:=hxr
 refine⟨.tuple #[v,.bool true],?_,by simp only[Rep,au];exact⟨_,rfl,v,_,rfl,hr,_,_,rfl,rfl,rfl⟩⟩
 have hm:(Instr.typeAssert (a.eval x) t t' true).run P w= .ok (.tuple #[v,.bool true]) w:=by
  rw[hv];simp only[Instr.typeAssert,Sem.run_bind,(hT.get hti).rund w,Result.andThen_ok];cases hq:ti.desc<;>rw[hq]at hd<;>first|(simp;done)|cases hd
 simp only[execOp,ho,Sem.run_bind,hm,Result.andThen_ok];rfl
theorem Ao.asJ(hT:T.Ok P){t t':TypeId}{x:Operand}{ti:TInfo}{p:PV}(ho:o.op= .typeAssert x t t' true)(hg:aL ops s o=some true)(hti:T.get t'=some ti)(hd:(match ti.desc with| .interface _=>true|_=>false)=false)(hx:evS s x= .ifc t' p)
  (hp:putD n s o.dst (.tup [p,.val (.bool true)])=some s') (h:Ao P Px ops rest ⟨n,s',bx,ob⟩ K):Ao P Px ops (o::rest) ⟨n,s,bx,ob⟩ K:=kZ hg (detS_asJ hT ho hti hd hx) hp h
end
section
variable{P:Program}{ops:Array Oper}{rest:List Oper}{o:Oper}{C:Ctx}{M:Mem}{a:Act}{w w':World}{Q:Exit→Act→World→Prop}{n:Nat}{s:Nat→PV}{ds:List Deferred}
theorem ic{id:Nat}{st:PState}(hi:cT P C M st a w)(h:Ao P nPx ops ops.toList st fun st'=>∀M a w,cT P C M st' a w→Q .normal a w):(Code.region id ops false).wp P Q a w:=
 wp_region_list (h C M a w (PanQ.no Q) hi fun _ M' a' w' hk hi'=>hk M' a' w' hi')
theorem iC(hs:ff P ds M n s a)(hg:aL ops s o=some true)(h:o.wp P a w (wpList P ops Q rest) Q):wpList P ops Q (o::rest) a w:=by
 simp only[wpList,fO hs hg,if_true];exact .inl h
theorem cT.init{nt:Nat}{args:List PV}{H:Heap}{vs:Array Value}(hargs:Nat.ble args.length nt=true)(hi:InvH P C M H w)(hd:C.ds=[])(ha:au P M true args vs.toList):cT P C M ⟨nt,gB args,H.bx,H.ob⟩ {tmps:=vs++Array.replicate (nt-vs.size) undef,defers:=[]} w:=by
 have hl:=ha.length;have hle:=Nat.le_of_ble_eq_true hargs
 refine⟨⟨?_,hd.symm,fun t=>?_⟩,hi⟩
 ·simp at hl;simp;omega
 ·simp only[gB];cases hp:args[t]? with
  |none=>simp[Rep]
  |some p=>
   obtain⟨x,hx,hr⟩:=ha.get t p hp
   have hlt:t<vs.size:=by
    have:=(zg.1 hx).1
    simpa using this
   have:(vs++Array.replicate (nt-vs.size) undef)[t]? =some x:=by
    rw[Array.getElem?_append_left hlt,←Array.getElem?_toList];exact hx
   simpa[this]using hr
theorem call_pan{X:PV→Prop}{H:Heap}{ev:Operand→PV}{fx:Operand}{av0:Array Operand}{ts:Array TypeId}{next:Act→World→Prop}(ho:o.op= .call {callee:= .value fx,args:=av0,argTypes:=ts}){g:FuncId}{caps:List PV}
  (hf:ev fx= .fn g caps) (hcall:∀vs w,(callFunc g vs).run P w= .ok (.enter g vs) w) (mb mo:List (Nat×Nat)) (hb1:aQ (mb.map Prod.fst)=true) (hb2:aQ (mb.map Prod.snd)=true) (ho1:aQ (mo.map Prod.fst)=true) (ho2:aQ (mo.map Prod.snd)=true)
  {args:List PV} (hle:cX P (av0.toList.map ev++caps) args) {R:PV→Heap→Prop} (hc:aP P g args ⟨dP H.bx mb,eh H.ob mo⟩ R X) (hi:InvH P C M H w) (he:∀x∈o.op.operands,Rep P M true (ev x) (a.eval x))
  (hn:∀v u H' M' w',R u H'→M.le M'→InvH P C M' ⟨eg H.bx mb H'.bx,fv H.ob mo H'.ob⟩ w'→Rep P M' true u v→next (a.put o.dst v) w')
  (hp:∀v u M' w',X u→M.le M'→InvH P C M' ⟨eg H.bx mb fun _=>none,fv H.ob mo fun _=>none⟩ w'→Rep P M' true u v→Q (.panic [{v:=v,recovered:=false}]) a w'):o.wp P a w next Q:=by
 have hfr:=he fx (by rw[ho];simp[Op.operands,Call.operands]);rw[hf]at hfr;simp only[Rep]at hfr
 obtain⟨cs,hv,hcaps⟩:=hfr
 have hargs:au P M true (av0.toList.map ev) (av0.map a.eval).toList:=by
  simpa using fK av0.toList fun x hx=>he x (by rw[ho];simp_all[Op.operands,Call.operands])
 have hrep:=hle M _ (hargs.append hcaps)
 have hrun:(execOp a.eval o).run P w= .ok (.enter g (av0.map a.eval++cs)) w:=by
  simp[execOp,ho,resolve,hv,Deferred.ofValue,invoke,hcall]
 unfold Oper.wp;rw[hrun];simp only[Oper.upon]
 refine(hc w M (dv H mb mo) (hi.gl hi.ownMine) _ (hi.enterH hb1 ho1) (by simpa using hrep)).mono ?_
 rintro e w' (⟨v,u,H',M',rfl,hR,hi',hr⟩|⟨ch,rfl,v,u,M',rfl,hx,hi',hr⟩)
 ·exact hn v u H' M' w' hR hi'.ext (hi.afterH hb1 hb2 ho1 ho2 hi') hr
 ·exact hp v u M' w' hx hi'.ext (hi.afterH hb1 hb2 ho1 ho2 hi') hr
end
section
variable{P:Program}{ops:Array Oper}{Q:Exit→Act→List Frame→World→Prop}{i:Nat}{rest:List Nat}{o:Oper}{a:Act}{cs cs':List Frame}{w w':World}{v:Value}
theorem opsR_some(ho:ops[i]? =some o)(hg:o.guard=none)(hr:(execOp a.eval o).run P w= .ok .recover w')(hn:recoverD cs=some (v,cs'))(h:wpOpsS P ops Q rest (a.put o.dst v) cs' w'):wpOpsS P ops Q (i::rest) a cs w:=by
 simp only[wpOpsS,ho,Region.wanted,hg,if_true,hr,hn];exact h
theorem opsR_none(ho:ops[i]? =some o)(hg:o.guard=none)(hr:(execOp a.eval o).run P w= .ok .recover w')(hn:recoverD cs=none)(h:wpOpsS P ops Q rest (a.put o.dst .nilIface) cs w'):wpOpsS P ops Q (i::rest) a cs w:=by
 simp only[wpOpsS,ho,Region.wanted,hg,if_true,hr,hn];exact h
theorem hJ(ho:ops[i]? =some o)(hg:o.guard=none)(hr:(execOp a.eval o).run P w= .ok (.value v) w')(h:wpOpsS P ops Q rest (a.put o.dst v) cs w'):wpOpsS P ops Q (i::rest) a cs w:=by
 simp only[wpOpsS,ho,Region.wanted,hg,if_true,hr,Oper.upon];exact h
end
end
end Go.Ab

namespace Go.Proofs.YtibojibdiibdgaaGreatDoor
noncomputable section
open Go Go.Ab
attribute [local irreducible] V Ao Do Gh Eff PH IntKind.wrap
set_option maxRecDepth 4000
theorem catch_idle(cs:Array Value)(w:World):CallsD Tryz.prog 51 cs .returning w fun e u w'=>(∃v,e= .returned v)∧u= .returning∧w'=w:=by
 refine callsD_of_wpS Tryz.func51 rfl fun c₀ fs hu=>?_
 have h18:18≤(cs++Array.replicate (Tryz.f51.ntmps-cs.size) undef).size:=by
  have:Tryz.f51.ntmps=18:=rfl
  rw[this];simp;omega
 generalize(cs++Array.replicate (Tryz.f51.ntmps-cs.size) undef)=t0 at h18⊢
 have hrec:recoverD (c₀::fs)=none:=by simp[recoverD,hu]
 refine wpS_seq (wpS_region ?_);show wpOpsS _ _ _ [0,1] _ _ _;refine opsR_none rfl rfl rfl hrec (hJ rfl rfl rfl ?_);show Code.wpS _ _ _ _ _ _;refine wpS_seq (wpS_region ?_);show wpOpsS _ _ _ [0,1] _ _ _
 have hp:∀{a:Act} {t t':TypeId} {x:Operand} {o:Oper} (ho:o.op= .binOp .neq t x (.const .nilIface) t') {ms:Array (String×TypeId)} (hu:Tryz.prog.underlying t=some (.interface ms)) (he:a.eval x= .nilIface),(execOp a.eval o).run Tryz.prog w= .ok (.value (.bool false)) w:=by
  intro a t t' x o ho ms hu he;have h:=fA (P:=Tryz.prog) w 9999 hu false (v:= .nilIface) (.inl ⟨rfl,rfl⟩)
  have h2:(binOp .neq t .nilIface .nilIface).run Tryz.prog w= .ok (.bool false) w:=by
   simp only[binOp,Op.equal,Op.maxDepth];rw[Sem.run_bind,h];rfl
  have hq:(eqGuard .neq t x (.const .nilIface) .nilIface .nilIface).run Tryz.prog w= .ok () w:=by simp[eqGuard]
  have hn:a.eval (.const .nilIface)= .nilIface:=rfl;simp only[execOp,ho,he,hn,Sem.run_bind,hq,Result.andThen_ok,h2];rfl
 refine hJ rfl rfl rfl (hJ (v:= .bool false) (w':=w) rfl rfl (hp rfl Tryz.underlying20 ?_) ?_)
 ·simp[Act.eval,Act.put,show 5<t0.size by omega,show 2<t0.size by omega,show 6<t0.size by omega]
 show Code.wpS _ _ _ _ _ _;refine wpS_cond (t:=false) ?_ ?_
 ·simp[Act.eval,Act.put,show 5<t0.size by omega,show 2<t0.size by omega,show 7<t0.size by omega]
 ·refine wpS_of_wp (wp_skip ?_)
  refine⟨by simp[Act.put],.returning,?_,.tuple #[],?_,⟨_,rfl⟩,rfl,rfl⟩
  ·rw[←hu]
  ·simp[results]
theorem catch_pan{C:Ctx}{M:Mem}{H:Heap}{w:World}{b4 b5:Nat}{v:Value}{e:Int}(hi:InvH Tryz.prog C M H w)(h4:H.bx 4=some ⟨b4,[ac 0]⟩)(h5:H.bx 5=some ⟨b5,[ac 0]⟩)(hv:Rep Tryz.prog M true (iE 106 e) v){cs:Array Value}(hcs:au Tryz.prog M true [.box 4 b4 0,.box 5 b5 0] cs.toList):
  CallsD Tryz.prog 51 cs (.panicking [{v:=v,recovered:=false}]) w fun en u' w'=>(∃x,en= .returned x)∧u'= .panicking [{v:=v,recovered:=true}]∧∃M' H',InvH Tryz.prog C M' H' w'∧H'.ob=H.ob∧H'.bx 4=some ⟨b4,[ac e]⟩∧H'.bx 5=some ⟨b5,[ac 22]⟩:=by
 refine callsD_of_wpS Tryz.func51 rfl fun c₀ fs hu=>?_
 have hs:=cT.init (P:=Tryz.prog) (C:=⟨C.w0,C.own0,C.M0,C.gl,[]⟩) (nt:=18) (args:=[.box 4 b4 0,.box 5 b5 0]) (vs:=cs) rfl (hi.reds []) rfl hcs;rw[show Tryz.f51.ntmps=18 from rfl]
 generalize(cs++Array.replicate (18-cs.size) undef)=t0 at hs⊢
 refine wpS_seq (wpS_region ?_);show wpOpsS _ _ _ [0,1] _ _ _;have hrec:recoverD (c₀::fs)=some (v,{c₀ with mode:= .panicking [{v:=v,recovered:=true}]}::fs):=by simp[recoverD,hu]
 refine opsR_some rfl rfl rfl hrec (hJ (w':=w) rfl rfl rfl ?_);show Code.wpS _ _ _ _ _ _;have h1:=hs.1.putD (dst:=some 5) (s':=upd (gB [.box 4 b4 0,.box 5 b5 0]) 5 (iE 106 e)) rfl hv;have h2:=h1.putD (dst:=some 2) (s':=upd (upd (gB [.box 4 b4 0,.box 5 b5 0]) 5 (iE 106 e)) 2 (iE 106 e)) rfl (h1.2.2 5);have hi2:cT Tryz.prog ⟨C.w0,C.own0,C.M0,C.gl,[]⟩ M ⟨18,upd (upd (gB [.box 4 b4 0,.box 5 b5 0]) 5 (iE 106 e)) 2 (iE 106 e),H.bx,H.ob⟩ _ w:=⟨h2,hs.2⟩;clear h1 h2 hs;refine wpS_of_wp (wp_seq (ic hi2 ?_));refine aC tk rfl (Ao.neI Tryz.underlying20 rfl rfl rfl rfl ?_);refine af fun M1 a1 w1 hi3=>?_
 show Code.wp _ _ _ _ _;refine wp_cond (t:=true) (by have h7:Rep Tryz.prog M1 true (.val (.bool true)) (a1.eval (.tmp 7)):=hi3.1.ev (.tmp 7);simpa only[Rep]using h7) ?_;simp only[if_true];refine wp_seq (ic hi3 ?_);refine aC tk rfl (Ao.asJ tk rfl rfl rfl rfl rfl rfl (aA 3 tk rfl ?_));refine aV tk fun b3=>?_
 refine ap tk ?_;refine aC tk rfl ?_;refine af fun M2 a2 w2 hi4=>?_
 show Code.wp _ _ _ _ _;refine wp_seq (wp_seq (ic hi4 ?_));refine aA 2 tk rfl ?_;refine af fun M3 a3 w3 hi5=>?_
 show Code.wp _ _ _ _ _;refine wp_cond (t:=false) (by have h7:Rep Tryz.prog M3 true (.val (.bool false)) (a3.eval (.tmp 14)):=hi5.1.ev (.tmp 14);simpa only[Rep]using h7) ?_;simp only[Bool.false_eq_true,if_false];refine wp_skip ?_;show Code.wp _ _ _ _ _;refine ic hi5 (aC tk rfl (aw tk ?_));refine lp tk rfl rfl rfl rfl rfl h4 rfl rfl rfl rfl rfl (lp tk rfl rfl rfl rfl rfl h5 rfl rfl rfl rfl rfl ?_);refine af fun M4 a4 w4 hi6=>?_
 refine⟨hi6.1.2.1,_,rfl,.tuple #[],by simp[results],⟨_,rfl⟩,rfl,M4,_,hi6.2.reds C.ds,rfl,rfl,rfl⟩
def TryR(b_r b_q b_c:Nat)(r:Except Int (LQueryparserParser×LQuery))(u:PV)(H:Heap):Prop:=match r with
 | .ok v=>u= .tup [ac 0,ac 0]∧H=⟨upd (upd (upd (fun _=>none) 1700 (some ⟨b_c,[(.box 1500 b_r 0)]⟩)) 1501 (some ⟨b_q,(aG v.2)⟩)) 1500 (some ⟨b_r,(aa v.1)⟩),fun _=>none⟩
 | .error e=>u= .tup [ac e,ac 22]∧H=Heap.empty
theorem iA(b_r b_q b_c:Nat)(rA:LQueryparserParser)(qA:LQuery)(r:Except Int (LQueryparserParser×LQuery))(H:cJ rA qA=some r):
  PH Tryz.prog 20 [.box 1500 b_r 0,.fn 21 [.box 1700 b_c 0,.box 1501 b_q 0]] ⟨upd (upd (upd (fun _=>none) 1700 (some ⟨b_c,[(.box 1500 b_r 0)]⟩)) 1501 (some ⟨b_q,(aG qA)⟩)) 1500 (some ⟨b_r,(aa rA)⟩),fun _=>none⟩ (TryR b_r b_q b_c r):=by
 unfold PH;intro w M own hg vs hi ha;have hcl:=jh b_r b_q b_c rA qA r H
 obtain⟨S0,hS⟩:∃S,S=gB [.box 1500 b_r 0,.fn 21 [.box 1700 b_c 0,.box 1501 b_q 0]]:=⟨_,rfl⟩
 obtain⟨B0,hB⟩:∃B:Nat→Option Box,B=upd (upd (upd (fun _=>none) 1700 (some ⟨b_c,[(.box 1500 b_r 0)]⟩)) 1501 (some ⟨b_q,(aG qA)⟩)) 1500 (some ⟨b_r,(aa rA)⟩):=⟨_,rfl⟩
 refine calls_of_wp_defers Tryz.func20 rfl ?_;have hs:=cT.init (P:=Tryz.prog) (nt:=9) rfl hi rfl ha;rw[show Tryz.f20.ntmps=9 from rfl]
 generalize(vs++Array.replicate (9-vs.size) undef)=t0 at hs⊢
 replace hs:cT Tryz.prog ⟨w,own,M,hg,[]⟩ M ⟨9,S0,B0,fun _=>none⟩ {tmps:=t0,defers:=[]} w:=by rw[hS,hB];exact hs
 refine wp_seq (ic hs ?_);refine aV tk fun b4=>?_
 refine aV tk fun b5=>?_
 refine af fun M1 a1 w1 hi1=>?_
 replace hi1:cT Tryz.prog ⟨w,own,M,hg,[]⟩ M1 ⟨9,upd (upd S0 4 (.box 4 b4 0)) 5 (.box 5 b5 0),upd (upd B0 4 (some ⟨b4,[ac 0]⟩)) 5 (some ⟨b5,[ac 0]⟩),fun _=>none⟩ a1 w1:=hi1;show Code.wp _ _ _ _ _;refine wp_seq (wp_region_list ?_);show wpList _ _ _ [_,_] _ _;refine iC hi1.1 rfl ?_
 have e1:∀(o:Oper) (ho:o.op= .makeFunc (.func 51) #[] #[.tmp 4,.tmp 5]) (a:Act) (w:World),(execOp a.eval o).run Tryz.prog w= .ok (.value (.func (.func 51) #[] #[a.eval (.tmp 4),a.eval (.tmp 5)])) w:=by
  intro o ho a w;simp[execOp,ho,Instr.makeFunc]
 unfold Oper.wp;rw[e1 _ rfl];simp only[Oper.upon]
 have h6:ff Tryz.prog [] M1 9 (upd (upd (upd S0 4 (.box 4 b4 0)) 5 (.box 5 b5 0)) 6 (.fn 51 [.box 4 b4 0,.box 5 b5 0])) _:=hi1.1.putD (dst:=some 6) (p:= .fn 51 [.box 4 b4 0,.box 5 b5 0]) (v:= .func (.func 51) #[] #[a1.eval (.tmp 4),a1.eval (.tmp 5)]) rfl (by
  have k4:Rep Tryz.prog M1 true (.box 4 b4 0) (a1.eval (.tmp 4)):=hi1.1.ev (.tmp 4);have k5:Rep Tryz.prog M1 true (.box 5 b5 0) (a1.eval (.tmp 5)):=hi1.1.ev (.tmp 5);simp only[Rep,au]at k4 k5⊢
  exact⟨_,rfl,_,_,rfl,k4,_,_,rfl,k5,rfl⟩)
 refine iC h6 rfl ?_
 have e2:∀(o:Oper) (ho:o.op= .defer {callee:= .value (.tmp 6),args:=#[],argTypes:=#[]}) (cs:Array Value) (a:Act) (w:World) (hf:a.eval (.tmp 6)= .func (.func 51) #[] cs),(execOp a.eval o).run Tryz.prog w= .ok (.defer {target:= .fn (.func 51) cs,args:=#[]}) w:=by
  intro o ho cs a w hf;simp[execOp,ho,resolve,hf,Deferred.ofValue]
 have k6:Rep Tryz.prog M1 true (.fn 51 [.box 4 b4 0,.box 5 b5 0]) _:=h6.ev (.tmp 6);simp only[Rep]at k6
 obtain⟨cs,k7,k8⟩:=k6
 unfold Oper.wp;rw[e2 _ rfl cs _ _ k7];simp only[Oper.upon];have hi2:cT Tryz.prog ⟨w,own,M,hg,[{target:= .fn (.func 51) cs,args:=#[]}]⟩ M1 ⟨9,upd (upd (upd S0 4 (.box 4 b4 0)) 5 (.box 5 b5 0)) 6 (.fn 51 [.box 4 b4 0,.box 5 b5 0]),upd (upd B0 4 (some ⟨b4,[ac 0]⟩)) 5 (some ⟨b5,[ac 0]⟩),fun _=>none⟩ {tmps:=(a1.put (some 6) (.func (.func 51) #[] #[a1.eval (.tmp 4),a1.eval (.tmp 5)])).tmps,defers:=[{target:= .fn (.func 51) cs,args:=#[]}]} w1:=⟨⟨h6.1,rfl,h6.2.2⟩,hi1.2.reds _⟩;rw[show(a1.put (some 6) (.func (.func 51) #[] #[a1.eval (.tmp 4),a1.eval (.tmp 5)])).defers=[]from h6.2.1]
 refine(?_:∀M1 a2 w1,cT Tryz.prog ⟨w,own,M,hg,[{target:= .fn (.func 51) cs,args:=#[]}]⟩ M1 ⟨9,upd (upd (upd S0 4 (.box 4 b4 0)) 5 (.box 5 b5 0)) 6 (.fn 51 [.box 4 b4 0,.box 5 b5 0]),upd (upd B0 4 (some ⟨b4,[ac 0]⟩)) 5 (some ⟨b5,[ac 0]⟩),fun _=>none⟩ a2 w1→au Tryz.prog M1 true [.box 4 b4 0,.box 5 b5 0] cs.toList→Code.wp Tryz.prog _ _ a2 w1) _ _ _ hi2 k8
 clear hi2 h6 k7 k8 e1 e2 hi1 hs hi ha;intro M1 a2 w1 hi2 k8;refine wp_seq (wp_region_list ?_);show wpList _ _ _ [_,_] _ _;refine iC hi2.1 rfl ?_
 have e3:∀(o:Oper) (ho:o.op= .move (.tmp 1)) (a:Act) (w:World),(execOp a.eval o).run Tryz.prog w= .ok (.value (a.eval (.tmp 1))) w:=by
  intro o ho a w;simp[execOp,ho]
 unfold Oper.wp;rw[e3 _ rfl];simp only[Oper.upon]
 have h7:=hi2.1.putD (dst:=some 7) (s':=upd (upd (upd (upd S0 4 (.box 4 b4 0)) 5 (.box 5 b5 0)) 6 (.fn 51 [.box 4 b4 0,.box 5 b5 0])) 7 (.fn 21 [.box 1700 b_c 0,.box 1501 b_q 0])) rfl (by
  have k1:=hi2.1.ev (.tmp 1);rw[hS]at k1;exact k1)
 generalize ha3:Act.put _ (some 7) _=a3 at h7⊢;refine iC h7 rfl ?_
 have e:(⟨upd (upd (upd (fun _=>none) 1700 (some ⟨b_c,[(.box 1500 b_r 0)]⟩)) 1501 (some ⟨b_q,(aG qA)⟩)) 1500 (some ⟨b_r,(aa rA)⟩),fun _=>none⟩:Heap)=⟨dP (upd (upd B0 4 (some ⟨b4,[ac 0]⟩)) 5 (some ⟨b5,[ac 0]⟩)) [(1500,1500),(1501,1501),(1700,1700)],eh (fun _=>none) []⟩:=by
  rw[hB,aN,aN,aN,aR,aS];rfl
 rw[e]at hcl;refine call_pan (H:=⟨upd (upd B0 4 (some ⟨b4,[ac 0]⟩)) 5 (some ⟨b5,[ac 0]⟩),fun _=>none⟩) (ev:=evS _) (fx:= .tmp 7) rfl rfl Tryz.call21 [(1500,1500),(1501,1501),(1700,1700)] [] rfl rfl rfl rfl (cX.r) hcl hi2.2 (fun x _=>h7.ev x) ?_ ?_
 ·intro v u H' M' w' hR hle hi' hr;cases r with
  |error e=>exact hR.elim
  |ok rv=>
   obtain⟨rfl,rfl⟩:=hR
   have h8:=(h7.mono hle).putD (dst:=some 8) (s':=upd (upd (upd (upd (upd S0 4 (.box 4 b4 0)) 5 (.box 5 b5 0)) 6 (.fn 51 [.box 4 b4 0,.box 5 b5 0])) 7 (.fn 21 [.box 1700 b_c 0,.box 1501 b_q 0])) 8 (.tup [])) rfl hr;have hi3:cT Tryz.prog ⟨w,own,M,hg,[{target:= .fn (.func 51) cs,args:=#[]}]⟩ M' ⟨9,_,_,_⟩ _ w':=⟨h8,hi'⟩;show Code.wp _ _ _ _ _;refine wp_seq (ic hi3 ?_);refine ap tk ?_;refine ap tk ?_;refine af fun M4 a4 w4 hi4=>?_
   show Code.wp _ _ _ _ _;refine wp_ret ?_;show Leaves _ _ _ _ a4.defers .returning w4;rw[show a4.defers=_ from hi4.1.2.1];refine leaves_cons (f:=51) (args:=#[]++cs) (by simp) (Tryz.call51 _ _) ((catch_idle _ w4).mono ?_);rintro e u' w5 ⟨⟨x,rfl⟩,rfl,rfl⟩
   obtain⟨x,h1,h2⟩:=iP (P:=Tryz.prog) tk (fn:=Tryz.f20) (ps:=[ac 0,ac 0]) rfl ⟨ac 0,_,rfl,⟨_,4,b4,0,_,rfl,rfl,rfl,rfl⟩,ac 0,[],rfl,⟨_,5,b5,0,_,rfl,rfl,rfl,rfl⟩,rfl⟩ hi4
   refine⟨x,h1,x,_,_,M4,rfl,⟨rfl,rfl⟩,(hi4.2.reds []).less ?_ ?_,h2⟩
   ·intro t x hx;simp only[cK]at hx;split at hx
    ·rename_i h;subst h;exact hx
    ·split at hx
     ·rename_i h;subst h;exact hx
     ·split at hx
      ·rename_i h;subst h;exact hx
      ·cases hx
   ·exact fun _ _ h=>by cases h
 ·intro v u M' w' hX hle hi' hr;cases r with
  |ok rv=>exact hX.elim
  |error e=>
   replace hX:u=iE 106 e:=hX;subst hX;show Leaves _ _ _ _ a3.defers (.panicking _) w';rw[show a3.defers=_ from h7.2.1];refine leaves_cons (f:=51) (args:=#[]++cs) (by simp) (Tryz.call51 _ _) ((catch_pan hi' (b4:=b4) (b5:=b5) rfl rfl hr (by simpa using au.mono hle k8)).mono ?_);rintro en u' w5 ⟨⟨x,rfl⟩,rfl,M5,H5,hi5,_,h4,h5⟩
   have hi6:cT Tryz.prog ⟨w,own,M,hg,[{target:= .fn (.func 51) cs,args:=#[]}]⟩ M5 ⟨9,upd (upd (fun _=>.any) 4 (.box 4 b4 0)) 5 (.box 5 b5 0),H5.bx,H5.ob⟩ a3 w5:=by
    refine⟨⟨h7.1,h7.2.1,fun t=>?_⟩,hi5.reds _⟩
    have k4:Rep Tryz.prog M1 true (.box 4 b4 0) (a3.tmps.getD 4 undef):=h7.2.2 4;have k5:Rep Tryz.prog M1 true (.box 5 b5 0) (a3.tmps.getD 5 undef):=h7.2.2 5;show Rep _ _ _ (upd (upd (fun _=>PV.any) 4 (.box 4 b4 0)) 5 (.box 5 b5 0) t) _;rw[cK,cK];split
    ·rename_i h;subst h;simpa only[Rep]using k5
    ·split
     ·rename_i h;subst h;simpa only[Rep]using k4
     ·simp only[Rep]
   obtain⟨x,h1,h2⟩:=iP (P:=Tryz.prog) tk (fn:=Tryz.f20) (ps:=[ac e,ac 22]) rfl ⟨ac e,_,rfl,⟨_,4,b4,0,_,rfl,rfl,h4,rfl⟩,ac 22,[],rfl,⟨_,5,b5,0,_,rfl,rfl,h5,rfl⟩,rfl⟩ hi6
   exact⟨x,h1,x,_,_,M5,rfl,⟨rfl,rfl⟩,(hi5.reds []).less (fun _ _ h=>by cases h) (fun _ _ h=>by cases h),h2⟩
def NewR(s:List UInt8)(x:List LLexerToken×Int×Int)(u:PV)(H:Heap):Prop:=
 if x.2.2=0 then∃b,u= .tup [.box 1500 b 0,ac 0,ac 0]∧H=⟨upd (fun _=>none) 22 (some ⟨b,aa ⟨x.1,0,s.length⟩⟩),fun _=>none⟩
 else u= .tup [.val (.pointer none),ac x.2.1,ac x.2.2]∧H=Heap.empty
theorem iB(s:List UInt8)(x:List LLexerToken×Int×Int)(H:bW s=some x):PH Tryz.prog 19 [.str s] Heap.empty (NewR s x):=by
 refine PH.cd Tryz.func19 Tryz.ntmps19 ?_;refine bE 3 tk rfl (ak (ae (aC tk rfl (bs Tryz.call8 (cX.r) (ix s x H) ?_))));refine aA 7 tk rfl (af (ak (bE 2 tk rfl ?_)));refine ik rfl (fun h=>?_) (fun h=>?_)
 ·have h0:¬x.2.2=0:=by simpa using h
  refine bE 5 tk rfl (bS tk rfl (ps:=[.val (.pointer none),ac x.2.1,ac x.2.2]) ⟨_,_,rfl,rfl,_,_,rfl,rfl,_,_,rfl,rfl,rfl⟩ (PLe.q rfl) (HSub.empty _) ?_);unfold NewR;rw[zy h0]
  exact⟨rfl,rfl⟩
 ·have h0:x.2.2=0:=by simpa using h
  refine bc (ak (ae (aA 4 tk rfl ?_)));refine kR rfl rfl rfl rfl rfl fun b=>?_
  refine aA 3 tk rfl (af (ii tk rfl (ps:=[.box 22 b 0,ac 0,ac 0]) ⟨_,_,rfl,rfl,_,_,rfl,rfl,_,_,rfl,rfl,rfl⟩ (PLe.of2 (gN.tup (dC.cons (gN.boxT (t':=1500)) (dC.refl _)))) ?_));unfold NewR;rw[zp h0]
  exact⟨b,rfl,rfl⟩
def q0:LQuery:= .mk 0 [] [] [] [] [] 0 0 []
def bp(s:List UInt8):Option (LQuery×Int×Int):=
 ar (bW s) fun x=>
 cond (x.2.2==0)
  (ar (cJ ⟨x.1,0,s.length⟩ q0) fun y=>
  some (match y with| .ok v=>(v.2,0,0)| .error e=>(q0,e,22)))
  (some (q0,x.2.1,x.2.2))
theorem giveB_new{bx:Nat→Option Box}{a b:Nat}(h:bx a=none):(fun _=>none)=dP bx [(a,b)]:=by
 funext t;simp only[dP,List.find?_cons,List.find?_nil];split
 ·rename_i p hp;split at hp
  ·cases hp;exact h.symm
  ·cases hp
 ·rfl
theorem fY(s:List UInt8)(r:LQuery×Int×Int)(H:bp s=some r):da Tryz.prog 7 [.str s] (.tup [.agg (aG r.1),ac r.2.1,ac r.2.2]):=by
 unfold bp at H
 obtain⟨x,hx,H⟩:=aM H
 refine PH.cd Tryz.func7 Tryz.ntmps7 ?_;refine ak (ae ?_);refine aV tk fun b2=>?_
 refine aA 2 tk rfl (af (ak (ae (aC tk rfl ?_))));refine lg Tryz.call19 [(1500,22)] [] (iB s x hx) ?_ (hin:=by rw[←giveB_new rfl];rfl);intro u H1 hR;unfold NewR at hR;by_cases h0:x.2.2=0
 ·rw[zp h0]at hR
  obtain⟨b,rfl,rfl⟩:=hR
  refine⟨_,rfl,?_⟩
  refine aA 4 tk rfl ?_;refine aV tk fun b5=>?_
  refine ap tk ?_;refine aA 2 tk rfl (af ?_);refine be (st':=⟨_,_,upd (upd (upd (fun _=>none) 2 (some ⟨b2,aG q0⟩)) 1500 (some ⟨b,aa ⟨x.1,0,s.length⟩⟩)) 5 (some ⟨b5,[.box 1500 b 0]⟩),fun _=>none⟩) (Gh.le (av _ _) (ab rfl (cX.r) (ab rfl (cX.r) (ab rfl ple ao))) am) ?_;refine ak (bE 2 tk rfl (kh rfl (bc (ak (ae ?_)))));refine aV tk fun b8=>?_
  refine af ?_;refine be (st':=⟨_,_,upd (upd (upd (upd (fun _=>none) 2 (some ⟨b2,aG q0⟩)) 1500 (some ⟨b,aa ⟨x.1,0,s.length⟩⟩)) 5 (some ⟨b5,[.box 1500 b 0]⟩)) 8 (some ⟨b8,aG q0⟩),fun _=>none⟩) (Gh.le (av _ _) (ab rfl ple (ab rfl (cX.r) (ab rfl (cX.r) (ab rfl (cX.r) ao)))) am) ?_;rw[h0]at H
  obtain⟨y,hy,H⟩:=aM H
  have hw:=iA b b8 b5 _ _ _ hy;refine ak (ae (aw tk ?_));refine aC tk rfl ?_;refine lg Tryz.call20 [(1500,1500),(8,1501),(5,1700)] [] hw ?_ (hle:=cX.of2 (dC.cons (gN.of_eq rfl) (dC.cons (gN.fn (dC.cons gN.boxT (dC.cons gN.boxT dC.nil))) dC.nil)));intro u H2 hR2;cases y with
  |ok v=>
   obtain⟨rfl,rfl⟩:=hR2
   obtain rfl:=aF H
   refine⟨_,rfl,?_⟩
   refine aA 5 tk rfl (af ?_);refine be (st':=⟨_,_,upd (upd (fun _=>none) 2 (some ⟨b2,aG q0⟩)) 8 (some ⟨b8,aG v.2⟩),fun _=>none⟩) (Gh.le (av _ _) (ab rfl (cX.r) (ab rfl (cX.r) ao)) am) ?_;refine ak (bE 2 tk rfl (kh rfl (bc (ak (ae (aw tk ?_))))));refine ap tk ?_;refine aA 2 tk rfl (af ?_);refine cB tk rfl (ps:=[.agg (aG v.2),ac 0,ac 0]) ⟨_,_,rfl,⟨_,_,_,_,_,rfl,rfl,rfl,rfl⟩,_,_,rfl,rfl,_,_,rfl,rfl,rfl⟩ (PLe.q rfl)
  |error e=>
   obtain⟨rfl,rfl⟩:=hR2
   obtain rfl:=aF H
   refine⟨_,rfl,?_⟩
   refine aA 5 tk rfl (af ?_);refine be (st':=⟨_,_,upd (fun _=>none) 2 (some ⟨b2,aG q0⟩),fun _=>none⟩) (Gh.le (av _ _) (ab rfl (cX.r) ao) am) ?_;refine ak (bE 2 tk rfl (lm rfl (ak (ae (aA 3 tk rfl (ap tk ?_))))));refine aA 2 tk rfl (af ?_);refine cB tk rfl (ps:=[.agg [ac 0,.str [],.val (.slice none 0 0),.val (.slice none 0 0),.val (.slice none 0 0),.val (.slice none 0 0),ac 0,ac 0,.val (.slice none 0 0)],ac e,ac 22]) ⟨_,_,rfl,⟨_,_,_,_,_,rfl,rfl,rfl,rfl⟩,_,_,rfl,rfl,_,_,rfl,rfl,rfl⟩ ple1
 ·rw[zy h0]at hR
  obtain⟨rfl,rfl⟩:=hR
  refine⟨_,rfl,?_⟩
  refine aA 4 tk rfl ?_;refine aV tk fun b5=>?_
  refine ap tk ?_;refine aA 2 tk rfl (af ?_);refine be (st':=⟨_,_,upd (fun _=>none) 2 (some ⟨b2,aG q0⟩),fun _=>none⟩) (Gh.le (av _ _) (ab rfl ple ao) am) ?_;have h1:(x.2.2==0)=false:=by simpa using h0
  rw[h1]at H;obtain rfl:=aF H;refine ak (bE 2 tk rfl ?_);refine ik rfl (fun h=>?_) (fun h=>absurd (by simpa using h) h0);refine ak (ae (aA 3 tk rfl (ap tk ?_)));refine aA 2 tk rfl (af ?_);refine cB tk rfl (ps:=[.agg [ac 0,.str [],.val (.slice none 0 0),.val (.slice none 0 0),.val (.slice none 0 0),.val (.slice none 0 0),ac 0,ac 0,.val (.slice none 0 0)],ac x.2.1,ac x.2.2]) ⟨_,_,rfl,⟨_,_,_,_,_,rfl,rfl,rfl,rfl⟩,_,_,rfl,rfl,_,_,rfl,rfl,rfl⟩ ple1
end
end Go.Proofs.YtibojibdiibdgaaGreatDoor

namespace Go.Proofs.YtibojibdiibdgaaGreatDoor
noncomputable section
open Go Go.Ab PT
section
variable{T:List Tok}{sz:Int}(hT:T.length≤4000)(hk:∀x∈T,TkOk x)
theorem kp{α β:Type}(o:Option (Except Int (α×β))):(aT o fun x=>some (.ok (x.1,x.2)))=o:=bindX_id o
theorem Qok.mono{q:LQuery}{n m:Nat}(h:Qok q n)(hm:m≤n):Qok q m:=by unfold Qok at h⊢;omega
theorem qmk_ok(k:Int)(q:LQuery){n:Nat}(h:n≤4000):Qok (qmk k q) n:=by
 simp[Qok,qsz,LQuery.names,LQuery.exprs,LQuery.aggregates,LQuery.descending];omega
theorem Im.flip{α:Type}{o:Option (Except Int (LQueryparserParser×α))}{c:Option (Res α)}(h:Im T sz (fun a p=>(p,a)) o c):Im T sz (fun a p=>(a,p)) (aT o fun x=>some (.ok (x.2,x.1))) c:=fun s hs=>by
 rw[h s hs];rcases s with e|⟨a,r⟩<;>rfl
include hT hk
theorem list134_im{q:LQuery}{t:List Tok}(h:t<:+T)(hq:Qok q t.length):Im T sz (fun a p=>(p,a)) (bZ (stt T sz t) q) ((lst (eS eM) dQ q).run t):=by
 unfold bZ;refine lst_im (one:=bK) hT (fun t q ht hq=>?_) (fun q t q' r=>named_ok) h hq;unfold bK;rw[kp];exact named_im hT hk ht hq
theorem list87_im{q:LQuery}{t:List Tok}(h:t<:+T)(hq:Qok q t.length):Im T sz (fun a p=>(p,a)) (cg (stt T sz t) q) ((lst (eS eM) dQ q).run t):=by
 unfold cg;refine lst_im (one:=bL) hT (fun t q ht hq=>?_) (fun q t q' r=>named_ok) h hq;unfold bL;rw[kp];exact named_im hT hk ht hq
theorem list92_im{q:LQuery}{t:List Tok}(h:t<:+T)(hq:Qok q t.length):Im T sz (fun a p=>(p,a)) (cf (stt T sz t) q) ((lst (sortB eM) dQ q).run t):=by
 unfold cf;exact lst_im (one:=bA) hT (fun t q ht hq=>sort_im hT hk ht hq) (fun q t q' r=>sort_ok) h hq
theorem list135_im{q:LQuery}{t:List Tok}(h:t<:+T)(hq:Qok q t.length):Im T sz (fun a p=>(p,a)) (bY (stt T sz t) q) ((lst (aggB eM) dQ q).run t):=by
 unfold bY;exact lst_im (one:=bC) hT (fun t q ht hq=>agg_im hT hk ht hq) (fun q t q' r=>agg_ok) h hq
omit hT hk in
theorem lst_qok{oneT:LQuery→PT LQuery}(h2:∀(q:LQuery) (t:List Tok) (q':LQuery) (r:List Tok),(oneT q).run t=some (.ok (q',r))→qsz q'≤qsz q+2∧r.length<t.length):∀(n:Nat) (q:LQuery) (t:List Tok),Qok q t.length→∀q' r,(dS oneT n q).run t=some (.ok (q',r))→Qok q' r.length
 |0,q,t,_,q',r,h=>by simp[dS,run]at h
 |n+1,q,[],hq,q',r,h=>by
  simp only[dS,kw,run,zo,Except.ok.injEq,Prod.mk.injEq]at h;rw[←h.1,←h.2];exact hq
 |n+1,q,x::t,hq,q',r,h=>by
  simp only[dS,kw,run]at h;cases hs:hit [44] x with
  |false=>simp only[hs,zd,zo,Except.ok.injEq,Prod.mk.injEq]at h;rw[←h.1,←h.2];exact hq
  |true=>
   simp only[hs,zc]at h;rw[run_bd]at h;cases ho:(oneT q).run t with
   |none=>rw[ho]at h;cases h
   |some w=>
    rw[ho]at h;cases w with
    |error e=>simp at h
    |ok w=>
     have h3:=h2 q t w.1 w.2 ho;exact lst_qok h2 n w.1 w.2 (by unfold Qok at hq⊢;simp only[List.length_cons]at hq;omega) q' r h
omit hT hk in
theorem lst_qok1{oneT:LQuery→PT LQuery}(h2:∀(q:LQuery) (t:List Tok) (q':LQuery) (r:List Tok),(oneT q).run t=some (.ok (q',r))→qsz q'≤qsz q+2∧r.length<t.length){n:Nat}{q:LQuery}{t:List Tok}(hq:Qok q t.length){q' r}(h:(lst oneT n q).run t=some (.ok (q',r))):Qok q' r.length:=by
 unfold lst at h;rw[run_bd]at h;cases ho:(oneT q).run t with
 |none=>rw[ho]at h;cases h
 |some w=>
  rw[ho]at h;cases w with
  |error e=>simp at h
  |ok w=>
   have h3:=h2 q t w.1 w.2 ho;exact lst_qok h2 n w.1 w.2 (by unfold Qok at hq⊢;omega) q' r h
theorem group_im{q:LQuery}{t:List Tok}(h:t<:+T)(hq:Qok q t.length):Im T sz (fun a p=>(p,a)) (ct (stt T sz t) q) ((groupB eM dQ q).run t):=by
 unfold ct groupB;refine Im.kW hT h (fun r hr hl=>?_) ?_
 ·simp only[zc];rw[joinX];have hq':Qok q r.length:=by unfold Qok at hq⊢;omega
  refine Im.bd (list134_im hT hk hr hq') hr fun q' r' hr' hl' ho=>?_
  rw[joinN];have hq2:=lst_qok1 (fun q t q' r=>named_ok) hq' ho;refine Im.kN hT hr' (fun r2 hr2 hl2=>?_) ?_
  ·rw[kp];exact list135_im hT hk hr2 (hq2.mono (Nat.le_of_lt hl2))
  ·exact Im.rt rfl
 ·simp only[zd];rw[joinN];refine Im.kN hT h (fun r2 hr2 hl2=>?_) ?_
  ·rw[kp];exact list135_im hT hk hr2 (hq.mono (Nat.le_of_lt hl2))
  ·exact Im.fl h
theorem stageO_im{f1:LQueryparserParser→Option (Except Int (LQuery×LQueryparserParser))}{f2:LQueryparserParser→LQuery→Option (Except Int (LQuery×LQueryparserParser))}{f3:LQueryparserParser→LQuery→Option (Except Int (LQueryparserParser×LQuery))}{f4:LQueryparserParser→Option (Except Int (LQuery×LQueryparserParser))}
  {S2:LQuery→PT LQuery} {I:PT LQuery} (h3:∀t q,t<:+T→q.inputs.length≤10→Im T sz (fun a p=>(p,a)) (f3 (stt T sz t) q) ((S2 q).run t)) (h4:∀t,t<:+T→Im T sz (fun a p=>(a,p)) (f4 (stt T sz t)) (I.run t)) {q:LQuery} {t:List Tok} (h:t<:+T):
  Im T sz (fun a p=>(a,p)) (cu f1 f2 f3 f4 (stt T sz t) q) ((iU eM dQ S2 I q).run t):=by
 have hl:∀{r:List Tok},r<:+T→r.length≤4000:=fun hr=>Nat.le_trans hr.length_le hT
 unfold cu iU;refine Im.kC hT h (fun r hr _=>Im.bd (iX hT hk hr) hr fun e r hr _ _=>Im.rt rfl) ?_;refine Im.kC hT h (fun r hr _=>Im.flip (list87_im hT hk hr (qmk_ok 3 q (hl hr)))) ?_;refine Im.kC hT h (fun r hr _=>Im.flip (h3 r _ hr (by simp[LQuery.inputs]))) ?_;refine Im.kC hT h (fun r hr _=>Im.eX hT hr fun r hr=>Im.flip (h3 r _ hr (by simp[LQuery.inputs]))) ?_;refine Im.kC hT h (fun r hr _=>Im.bd (h4 r hr) hr fun e r hr _ _=>?_) ?_
 ·rw[ia _ (by decide) (by simp)];exact Im.rt rfl
 refine Im.kC hT h (fun r hr _=>Im.bd (h4 r hr) hr fun e r hr _ _=>?_) ?_
 ·rw[ia _ (by decide) (by simp)];exact Im.rt rfl
 refine Im.kC hT h (fun r hr _=>Im.flip (group_im hT hk hr (qmk_ok 8 q (hl hr)))) ?_;refine Im.kC hT h (fun r hr _=>Im.flip (list92_im hT hk hr (qmk_ok 9 q (hl hr)))) ?_;refine Im.kC hT h (fun r hr _=>Im.nU hT hr fun c r hr=>Im.kC hT hr (fun r hr _=>Im.n1 hT hr fun o r hr=>Im.rt rfl) (Im.rt rfl)) ?_;exact Im.fl h
theorem secondO_im{f1:LQueryparserParser→Option (Except Int (LQuery×LQueryparserParser))}{f2:LQueryparserParser→LQuery→Option (Except Int (LQuery×LQueryparserParser))}{f3:LQueryparserParser→LQuery→Option (Except Int (LQueryparserParser×LQuery))}{f4:LQueryparserParser→Option (Except Int (LQuery×LQueryparserParser))}
  {I:PT LQuery} (h4:∀t,t<:+T→Im T sz (fun a p=>(a,p)) (f4 (stt T sz t)) (I.run t)) {q:LQuery} (hq:q.inputs.length≤10) {t:List Tok} (h:t<:+T):
  Im T sz (fun a p=>(p,a)) (cp f1 f2 f3 f4 (stt T sz t) q) ((jc eM I q).run t):=by
 unfold cp jc;refine Im.bd (h4 t h) h fun e r hr _ _=>?_
 rw[app_set _ (by decide) (by omega)];exact Im.eX hT hr fun r hr=>Im.bd (iX hT hk hr) hr fun e r hr _ _=>Im.rt rfl
omit hk in
theorem innerO_im{f1:LQueryparserParser→Option (Except Int (LQuery×LQueryparserParser))}{f2:LQueryparserParser→LQuery→Option (Except Int (LQuery×LQueryparserParser))}{f3:LQueryparserParser→LQuery→Option (Except Int (LQueryparserParser×LQuery))}{f4:LQueryparserParser→Option (Except Int (LQuery×LQueryparserParser))}
  {Q:PT LQuery} (h1:∀t,t<:+T→Im T sz (fun a p=>(a,p)) (f1 (stt T sz t)) (Q.run t)) {t:List Tok} (h:t<:+T):
  Im T sz (fun a p=>(a,p)) (cw f1 f2 f3 f4 (stt T sz t)) ((innerB Q).run t):=by
 unfold cw innerB;exact Im.eX hT h fun r hr=>Im.bd (h1 r hr) hr fun e r hr _ _=>Im.eX hT hr fun r hr=>Im.rt rfl
omit hk in
theorem stages_im{f2:LQueryparserParser→LQuery→Option (Except Int (LQuery×LQueryparserParser))}{S:LQuery→PT LQuery}(h2:∀t q,t<:+T→Im T sz (fun a p=>(a,p)) (f2 (stt T sz t) q) ((S q).run t)):∀(n:Nat) (q:LQuery) (t:List Tok),t<:+T→∀s,(el S n q).run t=some s→
  cR (σ:=LQueryparserParser×LQuery) (ρ:=(Except Int (LQuery×LQueryparserParser))) (fun(s2:LQueryparserParser×LQuery)=>
   ar (ah s2.1 ([124]:List UInt8)) fun x16=>cond x16.1 (ci (f2 x16.2 s2.2) fun x19=>some (.next (x19.2,x19.1))) (some (.brk (x16.2,s2.2)))) (stt T sz t,q)=some (match s with| .ok (q',r)=>.next (stt T sz r,q')| .error r=>.ret (.error (off sz r)))
 |0,q,t,_,s,h=>by simp[el,run]at h
 |n+1,q,[],ht,s,h=>by
  simp only[el,kw,run,zo]at h;subst h;refine bm (fl:= .brk (stt T sz [],q)) ?_ rfl;show ar (ah (stt T sz []) _) _=_;rw[eV hT ht];rfl
 |n+1,q,x::r,ht,s,h=>by
  simp only[el,kw,run]at h;have hr:=(List.suffix_cons x r).trans ht;cases hs:hit [124] x with
  |false=>
   simp only[hs,zd,zo]at h;subst h;refine bm (fl:= .brk (stt T sz (x::r),q)) ?_ rfl;show ar (ah (stt T sz (x::r)) _) _=_;rw[eV hT ht];simp only[hs,zd];rfl
  |true=>
   simp only[hs,zc]at h;rw[run_bd]at h;cases ho:(S q).run r with
   |none=>rw[ho]at h;cases h
   |some w=>
    have hi:=h2 r q hr w ho;rw[ho]at h;cases w with
    |error e=>
     simp only[zo]at h;subst h;refine bm (fl:= .ret (.error (off sz e))) ?_ rfl;show ar (ah (stt T sz (x::r)) _) _=_;rw[eV hT ht];simp only[hs,zc,ar];rw[hi];rfl
    |ok w=>
     obtain⟨q',r'⟩:=w
     have hr':r'<:+T:=(run_suf (S q) r ho).trans hr;refine bm (fl:= .next (stt T sz r',q')) ?_ (stages_im h2 n q' r' hr' s h);show ar (ah (stt T sz (x::r)) _) _=_;rw[eV hT ht];simp only[hs,zc,ar];rw[hi];rfl
omit hk in
theorem queryO_im{f1:LQueryparserParser→Option (Except Int (LQuery×LQueryparserParser))}{f2:LQueryparserParser→LQuery→Option (Except Int (LQuery×LQueryparserParser))}{f3:LQueryparserParser→LQuery→Option (Except Int (LQueryparserParser×LQuery))}{f4:LQueryparserParser→Option (Except Int (LQuery×LQueryparserParser))}
  {Q:PT LQuery} {S:LQuery→PT LQuery} (h1:∀t,t<:+T→Im T sz (fun a p=>(a,p)) (f1 (stt T sz t)) (Q.run t)) (h2:∀t q,t<:+T→Im T sz (fun a p=>(a,p)) (f2 (stt T sz t) q) ((S q).run t)) {n:Nat} {t:List Tok} (h:t<:+T):
  Im T sz (fun a p=>(a,p)) (cz f1 f2 f3 f4 (stt T sz t)) ((queryB Q S n).run t):=by
 unfold cz queryB
 have fin:∀q r,r<:+T→Im T sz (fun a p=>(a,p)) (ar (cR (σ:=LQueryparserParser×LQuery) (ρ:=(Except Int (LQuery×LQueryparserParser))) (fun(s2:LQueryparserParser×LQuery)=>
   ar (ah s2.1 ([124]:List UInt8)) fun x16=>cond x16.1 (ci (f2 x16.2 s2.2) fun x19=>some (.next (x19.2,x19.1))) (some (.brk (x16.2,s2.2)))) (stt T sz r,q)) fun fl2=>fl2.thenR fun(s2:LQueryparserParser×LQuery)=>some (.ok (s2.2,s2.1))) ((el S n q).run r):=by
  intro q r hr s hs;rw[stages_im hT h2 n q r hr s hs,bPs];rcases s with e|⟨q',r'⟩<;>rfl
 refine Im.kW (y:=PT.bd (Q.bd fun q=>ex [41] (.rt q)) (el S n)) (n:=PT.bd _ (el S n)) hT h (fun r hr _=>?_) ?_
 ·simp only[zc];rw[joinX,bd_bd];refine Im.bd (h1 r hr) hr fun q r hr _ _=>?_
  rw[joinX];exact Im.eX hT hr fun r hr=>fin q r hr
 ·simp only[zd];rw[joinX];refine Im.eX (y:=PT.bd _ _) hT h fun r hr=>?_
  rw[joinX];exact Im.iD (y:=fun s=>PT.bd _ _) hT hr fun s r hr _=>fin _ r hr
theorem q_im:∀m:Nat,(∀t,t<:+T→Im T sz (fun a p=>(a,p)) (aW m (stt T sz t)) ((qT m).run t))∧(∀t q,t<:+T→Im T sz (fun a p=>(a,p)) (ba m (stt T sz t) q) ((sT m q).run t))∧
   (∀t q,t<:+T→q.inputs.length≤10→Im T sz (fun a p=>(p,a)) (aY m (stt T sz t) q) ((s2T m q).run t))∧∀t,t<:+T→Im T sz (fun a p=>(a,p)) (aZ m (stt T sz t)) ((iT m).run t)
 |0=>⟨fun t _ s h=>by simp[qT,run]at h,fun t q _ s h=>by simp[sT,run]at h,fun t q _ _ s h=>by simp[s2T,run]at h,fun t _ s h=>by simp[iT,run]at h⟩
 |m+1=>by
  obtain⟨h1,h2,h3,h4⟩:=q_im m
  refine⟨fun t ht=>?_,fun t q ht=>?_,fun t q ht hq=>?_,fun t ht=>?_⟩
  ·rw[aW,qT];exact queryO_im hT h1 h2 ht
  ·rw[ba,sT];exact stageO_im hT hk h3 h4 ht
  ·rw[aY,s2T];exact secondO_im hT hk h4 hq ht
  ·rw[aZ,iT];exact innerO_im hT h1 ht
theorem query_im{t:List Tok}(h:t<:+T):Im T sz (fun a p=>(a,p)) (dD (stt T sz t)) (qM.run t):=by
 intro s hs;refine limN_eq dQ fun m hm=>?_
 have hl:=h.length_le
 obtain⟨s',h1,h2⟩:=qM_st (N:=t.length) (by omega) hm t (Nat.le_refl _)
 rw[hs,zo]at h1;subst h1
 exact((q_im hT hk m).1 t h) s h2
end
theorem parse1_eq{T:List Tok}(sz:Int)(hT:T.length≤4000)(hk:∀x∈T,TkOk x):∃s,qM.run T=some s∧cJ ⟨T,0,sz⟩ q0=some (match s with
  | .ok (q,[])=>.ok (⟨T,(T.length:Int),sz⟩,q)
  | .ok (_,x::_)=>.error x.offset
  | .error r=>.error (off sz r)):=by
 obtain⟨s,h1,_⟩:=qM_st (N:=T.length) hT (Nat.le_refl _) T (Nat.le_refl _)
 refine⟨s,h1,?_⟩
 have hq:=query_im hT hk (sz:=sz) (List.suffix_refl T) s h1;have hs:=run_suf qM T h1;rw[show stt T sz T=⟨T,0,sz⟩from by simp[stt]]at hq;unfold cJ;rw[hq];cases s with
 |error r=>rfl
 |ok v=>
  obtain⟨q,r⟩:=v
  have hl:=hs.length_le;show aT (cM (stt T sz r)) _=_;unfold cM;cases r with
  |nil=>
   rw[show decide ((stt T sz []).next<((stt T sz []).tokens.length:Int))=false from by simp[stt]];rfl
  |cons x r=>
   simp only[List.length_cons]at hl;rw[show decide ((stt T sz (x::r)).next<((stt T sz (x::r)).tokens.length:Int))=true from zt (by simp only[stt,List.length_cons];omega),zc,fe hs];rfl
end
end Go.Proofs.YtibojibdiibdgaaGreatDoor

namespace Go.Proofs.YtibojibdiibdgaaGreatDoor
noncomputable section
open Go Go.Ab
noncomputable abbrev inn(c:UInt8):Bool:=dp c
noncomputable abbrev dig(c:UInt8):Bool:=cA c
def low(c:UInt8):Bool:=cond (decide ((c.toNat:Int)≥(97:Int))) (decide ((c.toNat:Int)≤(122:Int))) false
theorem wrapS{n:Nat}(h:n<1000000000):IntKind.i64.wrap ((n:Int)+1)=((n+1:Nat):Int):=by
 rw[gf (by omega) (by omega)];omega
theorem scan(p:UInt8→Bool)(s:List UInt8)(hs:s.length≤100000):∀(m k:Nat),k+m=s.length→
  cR (σ:=Int) (ρ:=Empty) (fun(s1:Int)=>cond (decide (s1<(s.length:Int))) (ar (bO s s1) fun(x:UInt8)=>cx (p x) fun y=>cond y (some (.next (IntKind.i64.wrap (s1+(1:Int))))) (some (.brk s1))) (some (.brk s1))) (k:Int)
   =some (.next ((k+((s.drop k).takeWhile p).length:Nat):Int))
 |0,k,h=>by
  refine bm (fl:= .brk (k:Int)) ?_ ?_
  ·simp only[show ¬((k:Int)<(s.length:Int))from by omega,decide_false,zd]
  ·simp only;rw[List.drop_eq_nil_of_le (by omega)];simp
 |m+1,k,h=>by
  have hk:k<s.length:=by omega
  have hg:bO s (k:Int)=some s[k]:=eG (ze hk);have hd:s.drop k=s[k]::s.drop (k+1):=List.drop_eq_getElem_cons hk;cases hp:p s[k]with
  |true=>
   refine bm (fl:= .next ((k+1:Nat):Int)) ?_ ?_
   ·simp only[show((k:Int)<(s.length:Int))from by omega,decide_true,zc,hg,ar,cx,hp,wrapS (show k<1000000000 by omega)]
   ·simp only;rw[scan p s hs m (k+1) (by omega),hd,List.takeWhile_cons,zp hp,List.length_cons];congr 2;omega
  |false=>
   refine bm (fl:= .brk (k:Int)) ?_ ?_
   ·simp only[show((k:Int)<(s.length:Int))from by omega,decide_true,zc,hg,ar,cx,hp,zd]
   ·simp only;rw[hd,List.takeWhile_cons,zy (by simp[hp])];simp
def bF:List UInt8→Option (List UInt8×Nat)
 |[]=>none
 |[c]=>if c=39 then some ([],1)else none
 |c::d::r=>if c=39 then(if d=39 then(bF r).map fun x=>(39::x.1,x.2+2)else some ([],1))else(bF (d::r)).map fun x=>(c::x.1,x.2+1)
theorem u8_ne{c:UInt8}:((c.toNat:Int) !=(39:Int))= !decide (c=39):=by
 by_cases h:c=39
 ·subst h;rfl
 ·have:c.toNat≠39:=fun e=>h (UInt8.toNat_inj.1 e)
  simp[h];omega
theorem u8_eq(c d:UInt8):((c.toNat:Int)==(d.toNat:Int))=decide (c=d):=by
 by_cases h:c=d
 ·subst h;simp
 ·have:c.toNat≠d.toNat:=fun e=>h (UInt8.toNat_inj.1 e)
  simp[h];omega
noncomputable abbrev dw(s:List UInt8):List UInt8×Int→Option (Flow (List UInt8×Int) (LLexerToken×Int×Bool)):=fun(s1:List UInt8×Int)=>
  cond (decide (s1.2<(s.length:Int)))
   (ar (bO s s1.2) fun(x23:UInt8)=>
   cond ((x23.toNat:Int) !=(39:Int))
    (ar (dJ s s1.2 (IntKind.i64.wrap (s1.2+(1:Int)))) fun(x30:List UInt8)=>
    ar (catS s1.1 x30) fun(x31:List UInt8)=>
    some (.next (x31,(IntKind.i64.wrap (s1.2+(1:Int))))))
    (ar (
     cond (decide ((IntKind.i64.wrap (s1.2+(1:Int)))<(s.length:Int)))
      (ar (bO s (IntKind.i64.wrap (s1.2+(1:Int)))) fun(x42:UInt8)=>
      some ((x42.toNat:Int)==(39:Int)))
      (some false)) fun(t4:Bool)=>
    cond t4
     (ar (catS s1.1 ([39]:List UInt8)) fun(x46:List UInt8)=>
     some (.next (x46,(IntKind.i64.wrap ((IntKind.i64.wrap (s1.2+(1:Int)))+(1:Int))))))
     (some (.ret ((LLexerToken.mk 4 s1.1 0 0),(IntKind.i64.wrap (s1.2+(1:Int))),(decide ((s1.1.length:Int)≤(24:Int))))))))
   (some (.brk (s1.1,s1.2)))
theorem sub1{s:List UInt8}{k:Nat}(hk:k<s.length):dJ s (k:Int) ((k+1:Nat):Int)=some [s[k]]:=by
 rw[jk ⟨by omega,by omega,by omega⟩];simp only[Int.toNat_natCast];rw[List.take_succ_eq_append_getElem hk,List.drop_append_of_le_length (by simp;omega)];simp
theorem qloop(s:List UInt8)(hs:s.length≤100000):∀(m k:Nat) (out:List UInt8),k+m=s.length→out.length≤k→
  (∀t n,bF (s.drop k)=some (t,n)→cR (dw s) (out,(k:Int))=some (.ret (LLexerToken.mk 4 (out++t) 0 0,((k+n:Nat):Int),decide (((out++t).length:Int)≤24))))∧
  (bF (s.drop k)=none→∃st,cR (dw s) (out,(k:Int))=some (.next st)):=by
 intro m;induction m using Nat.strongRecOn with
 |_ m ih=>
  intro k out h ho;rcases Nat.lt_or_ge k s.length with hk|hk
  ·have hg:bO s (k:Int)=some s[k]:=eG (ze hk);have hd:s.drop k=s[k]::s.drop (k+1):=List.drop_eq_getElem_cons hk;have hlt:decide ((k:Int)<(s.length:Int))=true:=zt (by omega);have hmx:out.length+2≤dY:=Nat.le_trans (show out.length+2≤200000 by omega) (by decide);by_cases hc:s[k]=39
   ·rcases Nat.lt_or_ge (k+1) s.length with hk1|hk1
    ·have hg1:bO s ((k+1:Nat):Int)=some s[k+1]:=eG (ze hk1);have hd1:s.drop (k+1)=s[k+1]::s.drop (k+2):=List.drop_eq_getElem_cons hk1;have hlt1:decide ((((k+1:Nat):Int))<(s.length:Int))=true:=zt (by omega);by_cases hc1:s[k+1]=39
     ·have hst:dw s (out,(k:Int))=some (.next (out++[39],((k+2:Nat):Int))):=by
       simp only[dw,hlt,zc,hg,ar,u8_ne,hc,decide_true,Bool.not_true,zd,wrapS (show k<1000000000 by omega),hlt1,hg1,hc1];rw[catS_ok (by simpa using by omega),wrapS (show k+1<1000000000 by omega)];rfl
      obtain⟨i1,i2⟩:=ih (m-2) (by omega) (k+2) (out++[39]) (by omega) (by simp;omega)
      have hq:bF (s.drop k)=(bF (s.drop (k+2))).map fun x=>(39::x.1,x.2+2):=by
       rw[hd,hd1,bF,zp hc,zp hc1]
      refine⟨fun t n hr=>?_,fun hr=>?_⟩
      ·rw[hq]at hr;cases hx:bF (s.drop (k+2))with
       |none=>rw[hx]at hr;cases hr
       |some x=>
        rw[hx]at hr;simp only[Option.map_some,zo,Prod.mk.injEq]at hr
        obtain⟨rfl,rfl⟩:=hr
        refine bm hst ?_;simp only;rw[i1 x.1 x.2 hx];simp only[List.append_assoc,List.cons_append,List.nil_append];congr 4;omega
      ·rw[hq]at hr;have hx:bF (s.drop (k+2))=none:=by simpa using hr
       obtain⟨st,hst'⟩:=i2 hx
       exact⟨st,bm hst hst'⟩
     ·have hst:dw s (out,(k:Int))=some (.ret (LLexerToken.mk 4 out 0 0,((k+1:Nat):Int),decide ((out.length:Int)≤24))):=by
       simp only[dw,hlt,zc,hg,ar,u8_ne,hc,decide_true,Bool.not_true,zd,wrapS (show k<1000000000 by omega),hlt1,hg1];rw[show((s[k+1].toNat:Int)==(39:Int))=false from by rw[show(39:Int)=((39:UInt8).toNat:Int)from rfl,u8_eq,zf hc1]];rfl
      have hq:bF (s.drop k)=some ([],1):=by
       rw[hd,hd1,bF,zp hc,zy hc1]
      refine⟨fun t n hr=>?_,fun hr=>?_⟩
      ·rw[hq]at hr;simp only[zo,Prod.mk.injEq]at hr
       obtain⟨rfl,rfl⟩:=hr
       refine bm hst ?_;simp
      ·rw[hq]at hr;cases hr
    ·have hst:dw s (out,(k:Int))=some (.ret (LLexerToken.mk 4 out 0 0,((k+1:Nat):Int),decide ((out.length:Int)≤24))):=by
      have hlt1:decide ((((k+1:Nat):Int))<(s.length:Int))=false:=zf (by omega);simp only[dw,hlt,zc,hg,ar,u8_ne,hc,decide_true,Bool.not_true,zd,wrapS (show k<1000000000 by omega),hlt1]
     have hq:bF (s.drop k)=some ([],1):=by
      rw[hd,List.drop_eq_nil_of_le hk1,bF,zp hc]
     refine⟨fun t n hr=>?_,fun hr=>?_⟩
     ·rw[hq]at hr;simp only[zo,Prod.mk.injEq]at hr
      obtain⟨rfl,rfl⟩:=hr
      refine bm hst ?_;simp
     ·rw[hq]at hr;cases hr
   ·have hst:dw s (out,(k:Int))=some (.next (out++[s[k]],((k+1:Nat):Int))):=by
     simp only[dw,hlt,zc,hg,ar,u8_ne,hc,decide_false,Bool.not_false,wrapS (show k<1000000000 by omega),sub1 hk];rw[catS_ok (by simpa using by omega)]
    obtain⟨i1,i2⟩:=ih (m-1) (by omega) (k+1) (out++[s[k]]) (by omega) (by simp;omega)
    have hq:bF (s.drop k)=(bF (s.drop (k+1))).map fun x=>(s[k]::x.1,x.2+1):=by
     rw[hd];cases hr:s.drop (k+1)with
     |nil=>simp[bF,hc]
     |cons d r=>rw[bF,zy hc]
    refine⟨fun t n hr=>?_,fun hr=>?_⟩
    ·rw[hq]at hr;cases hx:bF (s.drop (k+1))with
     |none=>rw[hx]at hr;cases hr
     |some x=>
      rw[hx]at hr;simp only[Option.map_some,zo,Prod.mk.injEq]at hr
      obtain⟨rfl,rfl⟩:=hr
      refine bm hst ?_;simp only;rw[i1 x.1 x.2 hx];simp only[List.append_assoc,List.cons_append,List.nil_append];congr 4;omega
    ·rw[hq]at hr;have hx:bF (s.drop (k+1))=none:=by simpa using hr
     obtain⟨st,hst'⟩:=i2 hx
     exact⟨st,bm hst hst'⟩
  ·rw[List.drop_eq_nil_of_le hk]
   refine⟨fun t n hr=>(by cases hr),fun _=>⟨(out,(k:Int)),bm (fl:= .brk (out,(k:Int))) ?_ rfl⟩⟩
   simp only[dw,show ¬((k:Int)<(s.length:Int))from by omega,decide_false,zd]
def numV(d:List UInt8):Int×Bool:=match Lib.atoiAll d with
 | .ok v=>(v,decide (v≤1000000000000)&&(Lib.itoa v==d))
 | .range=>(Lib.atoiSat d,false)
 |_=>(0,false)
def gu:List UInt8→Bool
 |[]=>true
 |x::_=>!inn x
def bad:LLexerToken×Nat×Bool:=(LLexerToken.mk 0 [] 0 0,0,false)
def fB:List UInt8→LLexerToken×Nat×Bool
 |_::d::k::r=>if dig d&&gu r&&decide (k=105∨k=98∨k=116)then(LLexerToken.mk 6 [k] ((d.toNat:Int)-48) 0,3,true)else bad
 |_=>bad
def iq:List (List UInt8):=[[124,124],[60,61],[40],[41],[44],[124],[43],[45],[42],[61],[60],[36]]
def bD:List UInt8→LLexerToken×Nat×Bool
 |[]=>bad
 |c::r=>
  if low c then
   (LLexerToken.mk (if eC.any ((c::r.takeWhile inn)==·)then 2 else 1) (c::r.takeWhile inn) 0 0,1+(r.takeWhile inn).length,eC.any ((c::r.takeWhile inn)==·)||decide (1+(r.takeWhile inn).length≤12))
  else if dig c then
   (LLexerToken.mk 3 [] (numV ((c::r).takeWhile dig)).1 0,((c::r).takeWhile dig).length,(numV ((c::r).takeWhile dig)).2&&gu ((c::r).drop ((c::r).takeWhile dig).length))
  else if c=63 then fB (c::r)
  else if c=39 then(match bF r with
   |some (t,n)=>(LLexerToken.mk 4 t 0 0,1+n,decide (t.length≤24))
   |none=>bad)
  else match iq.find? (·.isPrefixOf (c::r))with
   |some x=>(LLexerToken.mk 5 x 0 0,x.length,true)
   |none=>bad
theorem gc{α:Type}(p:α→Bool):∀l:List α,l.take (l.takeWhile p).length=l.takeWhile p
 |[]=>rfl
 |a::l=>by
  rw[List.takeWhile_cons];cases p a with
  |true=>simp[gc p l]
  |false=>simp
theorem ft{α:Type}(p:α→Bool)(l:List α):(l.takeWhile p).length≤l.length:=(List.takeWhile_sublist p).length_le
theorem atoi_ok{d:List UInt8}(h:d.length≤100000):atoiL d=some (match Lib.atoiAll d with| .ok v=>(v,false)| .range=>(Lib.atoiSat d,true)|_=>(0,true)):=by
 unfold atoiL;exact guardO_pos (by omega)
theorem number_eq(s:List UInt8)(hs:s.length≤100000):
  ep s 0=some (LLexerToken.mk 3 [] (numV (s.takeWhile dig)).1 0,((s.takeWhile dig).length:Int),(numV (s.takeWhile dig)).2&&gu (s.drop (s.takeWhile dig).length)):=by
 have hsc:=scan dig s hs s.length 0 (by omega);rw[Nat.zero_add,List.drop_zero,Int.natCast_zero]at hsc;have hn:=ft dig s
 have hsub:dJ s 0 ((s.takeWhile dig).length:Int)=some (s.takeWhile dig):=by
  rw[jk ⟨by omega,by omega,by omega⟩];simp[gc]
 unfold ep;rw[hsc];simp only[ar,Flow.thenP,hsub];rw[atoi_ok (by omega)];simp only[numV];cases ha:Lib.atoiAll (s.takeWhile dig)with
 |ok v=>
  have hb:=Lib.atoiAll_bounds ha;simp only[Bool.not_false,zc];by_cases hv:v≤1000000000000
  ·simp only[hv,decide_true,zc,Bool.true_and];rw[show itoaL v=some (Lib.itoa v)from guardO_pos (by omega)];simp only;cases he:(Lib.itoa v==s.takeWhile dig)with
   |false=>rfl
   |true=>
    simp only[zc,Bool.true_and];rcases Nat.lt_or_ge (s.takeWhile dig).length s.length with hl|hl
    ·have hg:bO s ((s.takeWhile dig).length:Int)=some s[(s.takeWhile dig).length]:=eG (ze hl);have hd:s.drop (s.takeWhile dig).length=s[(s.takeWhile dig).length]::s.drop ((s.takeWhile dig).length+1):=List.drop_eq_getElem_cons hl;rw[show(((s.takeWhile dig).length:Int)==(s.length:Int))=false from by simp;omega,hg,hd];rfl
    ·rw[show(((s.takeWhile dig).length:Int)==(s.length:Int))=true from by simp;omega,List.drop_eq_nil_of_le hl];rfl
  ·simp only[hv,decide_false,zd,Bool.false_and]
 |_=>rfl
theorem idx_ibt(k:UInt8):(decide (Lib.indexByte [105,98,116] k<0))= !decide (k=105∨k=98∨k=116):=by
 simp only[Lib.indexByte];by_cases h1:k=105
 ·subst h1;rfl
 ·by_cases h2:k=98
  ·subst h2;rfl
  ·by_cases h3:k=116
   ·subst h3;rfl
   ·have e1:((105:UInt8)==k)=false:=by simpa using fun e=>h1 e.symm
    have e2:((98:UInt8)==k)=false:=by simpa using fun e=>h2 e.symm
    have e3:((116:UInt8)==k)=false:=by simpa using fun e=>h3 e.symm
    simp[e1,e2,e3,h1,h2,h3]
theorem dig_range{c:UInt8}(h:dig c=true):48≤c.toNat∧c.toNat≤57:=by
 unfold dig cA at h;cases h1:decide ((c.toNat:Int)≥48)with
 |false=>rw[h1]at h;cases h
 |true=>
  rw[h1]at h;simp only[zc,decide_eq_true_eq]at h h1;omega
theorem digit_wrap{c:UInt8}(h:dig c=true):IntKind.i64.wrap (IntKind.u8.wrap ((c.toNat:Int)-48))=(c.toNat:Int)-48:=by
 obtain⟨h1,h2⟩:=dig_range h
 have e:IntKind.u8.wrap ((c.toNat:Int)-48)=(c.toNat:Int)-48:=by
  simp only[IntKind.wrap,IntKind.bits,IntKind.signed];simp;omega
 rw[e,gf (by omega) (by omega)]
theorem argument_eq(s:List UInt8)(hs:s.length≤100000):dL s=some ((fB s).1,((fB s).2.1:Int),(fB s).2.2):=by
 unfold dL
 match s,hs with
 |[],_=>rfl
 |[_],_=>rfl
 |[_,_],_=>rfl
 |a::d::k::r,hs=>
  have g1:bO (a::d::k::r) (1:Int)=some d:=rfl;have g2:bO (a::d::k::r) (2:Int)=some k:=rfl;have h3:decide (((a::d::k::r).length:Int)<3)=false:=zf (by simp only[List.length_cons];omega)
  have hsub:dJ (a::d::k::r) 2 3=some [k]:=by
   rw[jk ⟨by omega,by omega,by simp only[List.length_cons];omega⟩];rfl
  simp only[h3,zd,g1,g2,bPs,cx,hsub,js];cases hd:dig d with
  |false=>simp[fB,hd,bad]
  |true=>
   have hd':cA d=true:=hd
   have key:(cond (decide (((a::d::k::r).length:Int)>3)) (ar (bO (a::d::k::r) (3:Int)) fun x21=>some (dp x21)) (some false))=some (!gu r):=by
    cases r with
    |nil=>rfl
    |cons x r=>
     rw[show decide (((a::d::k::x::r).length:Int)>3)=true from zt (by simp only[List.length_cons];omega)];simp only[zc,gu,Bool.not_not];rfl
   simp only[hd',Bool.not_true,zd,key,idx_ibt,bPs];cases hi:gu r with
   |false=>simp[fB,hd,hi,bad]
   |true=>
    simp only[Bool.not_true,zd];by_cases hk:k=105∨k=98∨k=116
    ·simp only[hk,decide_true,Bool.not_true,zd,digit_wrap hd];simp[fB,hd,hi,hk]
    ·simp only[hk,decide_false,Bool.not_false,zc];simp[fB,hd,hi,hk,bad]
theorem quoted_eq(c:UInt8)(r:List UInt8)(hs:(c::r).length≤100000):
  eu (c::r)=some (match bF r with|some (t,n)=>(LLexerToken.mk 4 t 0 0,((1+n:Nat):Int),decide (t.length≤24))|none=>(LLexerToken.mk 0 [] 0 0,0,false)):=by
 unfold eu
 obtain⟨h1,h2⟩:=qloop (c::r) hs r.length 1 [] (by simp;omega) (by simp)
 cases hq:bF r with
 |none=>
  obtain⟨st,hst⟩:=h2 (by simpa using hq)
  simp only[Int.natCast_one]at hst;rw[hst];rfl
 |some x=>
  have:=h1 x.1 x.2 (by simpa using hq)
  simp only[Int.natCast_one]at this;rw[this];simp only[ar,Flow.thenR,List.nil_append];congr 4;exact propext (by omega)
theorem find_range{ρ:Type}(p:List UInt8→Bool)(out:List UInt8→ρ)(L:List (List UInt8))(s:List UInt8):∀(xs:List Nat) (j:Nat),(∀i,i<xs.length→j+i<L.length)→j+xs.length=L.length→
  bJ (σ:=Unit) (ρ:=ρ) (fun(j4:Nat) (_:Nat) (_:Unit)=>ar (bO L (j4:Int)) fun(x:List UInt8)=>ar (fL s x) fun y=>cond y (some (.ret (out x))) (some (.next ()))) j xs ()=
   some (match(L.drop j).find? (·.isPrefixOf s)with|some x=>.ret (out x)|none=>.next ())
 |[],j,_,h=>by
  rw[List.drop_eq_nil_of_le (by simp at h;omega)];rfl
 |x::xs,j,hi,h=>by
  have hj:j<L.length:=by have:=hi 0 (by simp);omega
  have hg:bO L (j:Int)=some L[j]:=eG (ze hj);rw[List.drop_eq_getElem_cons hj,List.find?_cons,bJ,hg];simp only[ar,fL];cases hp:List.isPrefixOf L[j] s with
  |true=>rfl
  |false=>
   simp only[zd];exact find_range p out L s xs (j+1) (fun i hi'=>by have:=hi (i+1) (by simp;omega);omega) (by simp at h;omega)
theorem one_eq(s:List UInt8)(hn:s≠[])(hs:s.length≤100000):eO s=some ((bD s).1,((bD s).2.1:Int),(bD s).2.2):=by
 match s,hn with
 |c::r,_=>
  have g0:bO (c::r) (0:Int)=some c:=rfl;unfold eO;rw[g0];simp only[ar,cx];cases hl:low c with
  |true=>
   have hl':(cond (decide ((c.toNat:Int)≥(97:Int))) (decide ((c.toNat:Int)≤(122:Int))) false)=true:=hl;have hsc:=scan inn (c::r) hs r.length 1 (by simp;omega);simp only[List.drop_succ_cons,List.drop_zero,Int.natCast_one,cx]at hsc;have hw:=ft inn r
   have hsub:dJ (c::r) 0 ((1+(r.takeWhile inn).length:Nat):Int)=some (c::r.takeWhile inn):=by
    rw[jk ⟨by omega,by omega,by simp only[List.length_cons];omega⟩];simp[Nat.add_comm 1,gc]
   simp only[hl',zc,ar]at hsc⊢;rw[hsc];simp only[Flow.thenP,hsub,fk];simp only[bD,hl,if_true];cases hk:eC.any ((c::r.takeWhile inn)==·)with
   |true=>rfl
   |false=>
    simp only[zd,Bool.false_or,Bool.false_eq_true,if_false];rw[show((1:Int)==2)=false from rfl];simp only[zd];congr 3;rw[decide_eq_decide];omega
  |false=>
   have hl':(cond (decide ((c.toNat:Int)≥(97:Int))) (decide ((c.toNat:Int)≤(122:Int))) false)=false:=hl;simp only[hl',zd];cases hd:dig c with
   |true=>
    have hd':cA c=true:=hd;simp only[hd',zc,number_eq (c::r) hs];simp only[bD,hl,hd,Bool.false_eq_true,if_false,if_true]
   |false=>
    have hd':cA c=false:=hd;simp only[hd',zd];by_cases h1:c=63
    ·rw[show((c.toNat:Int)==(63:Int))=true from by rw[show(63:Int)=((63:UInt8).toNat:Int)from rfl,u8_eq,zt h1]];simp only[zc,argument_eq (c::r) hs];simp only[bD,h1,if_true];subst h1;simp[hl,hd]
    ·rw[show((c.toNat:Int)==(63:Int))=false from by rw[show(63:Int)=((63:UInt8).toNat:Int)from rfl,u8_eq,zf h1]];simp only[zd];by_cases h2:c=39
     ·rw[show((c.toNat:Int)==(39:Int))=true from by rw[show(39:Int)=((39:UInt8).toNat:Int)from rfl,u8_eq,zt h2]];simp only[zc,quoted_eq c r hs]
      have:bD (c::r)=(match bF r with|some (t,n)=>(LLexerToken.mk 4 t 0 0,1+n,decide (t.length≤24))|none=>bad):=by
       simp only[bD,h2,if_true];subst h2;simp[hl,hd]
      rw[this];cases bF r with
      |none=>rfl
      |some x=>rfl
     ·rw[show((c.toNat:Int)==(39:Int))=false from by rw[show(39:Int)=((39:UInt8).toNat:Int)from rfl,u8_eq,zf h2]];simp only[zd];rw[show fM ((([[124,124],[60,61],[40],[41],[44],[124],[43],[45],[42],[61],[60],[36]]:List (List UInt8)).length:Nat):Int)=some 12 from rfl];simp only
      have:=find_range (fun _=>true) (fun x=>(LLexerToken.mk 5 x 0 0,(x.length:Int),true)) iq (c::r) (List.range 12) 0 (by simp[iq]) (by simp[iq])
      simp only[ar,iq,List.drop_zero]at this;rw[this]
      have ho:bD (c::r)=(match iq.find? (·.isPrefixOf (c::r))with|some x=>(LLexerToken.mk 5 x 0 0,x.length,true)|none=>bad):=by
       simp only[bD,hl,hd,h1,h2,Bool.false_eq_true,if_false]
      rw[ho];simp only[iq];cases List.find? (fun x=>x.isPrefixOf (c::r)) [[124,124],[60,61],[40],[41],[44],[124],[43],[45],[42],[61],[60],[36]]with
      |none=>rfl
      |some x=>rfl
def ws(c:UInt8):Bool:=decide (c=32∨c=10)
def cq:Nat→Nat→List UInt8→List LLexerToken×Option Nat
 |0,_,_=>([],none)
 |_+1,_,[]=>([],none)
 |f+1,off,c::r=>
  if ws c then cq f (off+1) r
  else if(bD (c::r)).2.2 then
   (LLexerToken.mk (bD (c::r)).1.kind (bD (c::r)).1.text (bD (c::r)).1.number (off:Int)::(cq f (off+(bD (c::r)).2.1) ((c::r).drop (bD (c::r)).2.1)).1,
    (cq f (off+(bD (c::r)).2.1) ((c::r).drop (bD (c::r)).2.1)).2)
  else([],some off)
theorem jB(s:List UInt8)(h:(fB s).2.2=true):∃a d k r,s=a::d::k::r∧dig d=true∧gu r=true∧(k=105∨k=98∨k=116)∧fB s=(LLexerToken.mk 6 [k] ((d.toNat:Int)-48) 0,3,true):=by
 match s with
 |[]=>simp[fB,bad]at h
 |[_]=>simp[fB,bad]at h
 |[_,_]=>simp[fB,bad]at h
 |a::d::k::r=>
  simp only[fB]at h⊢;split at h
  ·rename_i hc;simp only[Bool.and_eq_true,decide_eq_true_eq]at hc
   exact⟨a,d,k,r,rfl,hc.1.1,hc.1.2,hc.2,by rw[zp (by simp[hc.1.1,hc.1.2,hc.2])]⟩
  ·simp[bad]at h
theorem eY:∀(r:List UInt8) {t:List UInt8} {n:Nat},bF r=some (t,n)→1≤n∧n≤r.length
 |[],t,n,h=>by simp[bF]at h
 |[c],t,n,h=>by
  simp only[bF]at h;split at h
  ·simp only[zo,Prod.mk.injEq]at h;simp[←h.2]
  ·cases h
 |c::d::r,t,n,h=>by
  simp only[bF]at h;split at h
  ·split at h
   ·cases hq:bF r with
    |none=>rw[hq]at h;cases h
    |some x=>
     rw[hq]at h;simp only[Option.map_some,zo,Prod.mk.injEq]at h
     have:=eY r (t:=x.1) (n:=x.2) hq
     simp only[List.length_cons];omega
   ·simp only[zo,Prod.mk.injEq]at h;simp[←h.2]
  ·cases hq:bF (d::r)with
   |none=>rw[hq]at h;cases h
   |some x=>
    rw[hq]at h;simp only[Option.map_some,zo,Prod.mk.injEq]at h
    have:=eY (d::r) (t:=x.1) (n:=x.2) hq
    simp only[List.length_cons]at this⊢;omega
theorem punct_pos{x:List UInt8}{s:List UInt8}(h:iq.find? (·.isPrefixOf s)=some x):1≤x.length∧x.length≤s.length:=by
 have h1:=List.find?_some h;have h2:=List.mem_of_find?_eq_some h
 have h3:1≤x.length:=by
  simp only[iq,List.mem_cons,List.mem_nil_iff,or_false]at h2;rcases h2 with rfl|rfl|rfl|rfl|rfl|rfl|rfl|rfl|rfl|rfl|rfl|rfl<;>decide
 exact⟨h3,(List.isPrefixOf_iff_prefix.1 h1).length_le⟩
theorem ib(c:UInt8)(r:List UInt8)(h:(bD (c::r)).2.2=true):1≤(bD (c::r)).2.1∧(bD (c::r)).2.1≤(c::r).length:=by
 have hw:=ft inn r;have hw2:=ft dig (c::r);simp only[bD]at h⊢;split
 ·simp only[List.length_cons];omega
 ·rename_i hl;simp only[hl]at h;split
  ·rename_i hd
   refine⟨?_,hw2⟩
   rw[List.takeWhile_cons,zp hd];simp
  ·rename_i hd;simp only[hd]at h;split
   ·rename_i h1;simp only[h1,if_true]at h;subst h1
    obtain⟨a,d,k,r',e,_,_,_,e2⟩:=jB _ h
    rw[e2,e];simp only[List.length_cons];omega
   ·rename_i h1;simp only[h1,if_false]at h;split
    ·rename_i h2;simp only[h2,if_true]at h;cases hq:bF r with
     |none=>rw[hq]at h;cases h
     |some x=>
      have:=eY r (t:=x.1) (n:=x.2) hq
      simp only[List.length_cons];omega
    ·rename_i h2;simp only[h2,if_false]at h;cases hq:iq.find? (·.isPrefixOf (c::r))with
     |none=>rw[hq]at h;cases h
     |some x=>exact punct_pos hq
theorem ws_eq(c:UInt8):(cond ((c.toNat:Int)==(32:Int)) (some true) (some ((c.toNat:Int)==(10:Int))))=some (ws c):=by
 rw[show((c.toNat:Int)==(32:Int))=decide (c=32)from by rw[show(32:Int)=((32:UInt8).toNat:Int)from rfl,u8_eq],
  show((c.toNat:Int)==(10:Int))=decide (c=10)from by rw[show(10:Int)=((10:UInt8).toNat:Int)from rfl,u8_eq]]
 unfold ws;by_cases h1:c=32<;>by_cases h2:c=10<;>simp[h1,h2]
noncomputable abbrev tstep(s:List UInt8):List LLexerToken×Int→Option (Flow (List LLexerToken×Int) ((List LLexerToken)×Int×Int)):=fun(s1:List LLexerToken×Int)=>
   cond (decide (s1.2<(s.length:Int)))
    (ar (
     ar (bO s s1.2) fun(x19:UInt8)=>
     cond ((x19.toNat:Int)==(32:Int))
      (some true)
      (ar (bO s s1.2) fun(x24:UInt8)=>
      some ((x24.toNat:Int)==(10:Int)))) fun(t4:Bool)=>
    cond t4
     (some (.next (s1.1,(IntKind.i64.wrap (s1.2+(1:Int))))))
     (ar (dJ s s1.2 (s.length:Int)) fun(x32:List UInt8)=>
     ar (eO x32) fun x33=>
     cond (!x33.2.2)
      (some (.ret ([],s1.2,22)))
      (ar (ec 40 s1.1 ([(LLexerToken.mk x33.1.kind x33.1.text x33.1.number s1.2)]:List LLexerToken)) fun(x45:List LLexerToken)=>
      some (.next (x45,(IntKind.i64.wrap (s1.2+x33.2.1)))))))
    (some (.brk (s1.1,s1.2)))
theorem tloop(s:List UInt8)(hs:s.length≤4000):∀(m k f:Nat) (out:List LLexerToken),k+m=s.length→m<f→out.length≤k→
  cR (tstep s) (out,(k:Int))=some (match cq f k (s.drop k)with|(l,none)=>.next (out++l,(s.length:Int))|(_,some at_)=>.ret ([],(at_:Int),22)):=by
 intro m;induction m using Nat.strongRecOn with
 |_ m ih=>
  intro k f out h hf ho
  obtain⟨f,rfl⟩:∃g,f=g+1:=⟨f-1,by omega⟩
  rcases Nat.lt_or_ge k s.length with hk|hk
  ·have hg:bO s (k:Int)=some s[k]:=eG (ze hk);have hd:s.drop k=s[k]::s.drop (k+1):=List.drop_eq_getElem_cons hk;have hlt:decide ((k:Int)<(s.length:Int))=true:=zt (by omega)
   have hsub:dJ s (k:Int) (s.length:Int)=some (s[k]::s.drop (k+1)):=by
    rw[jk ⟨by omega,by omega,by omega⟩];simp only[Int.toNat_natCast,List.take_length,hd]
   cases hw:ws s[k]with
   |true=>
    have hst:tstep s (out,(k:Int))=some (.next (out,((k+1:Nat):Int))):=by
     simp only[tstep,hlt,zc,hg,bPs,ws_eq,hw,wrapS (show k<1000000000 by omega)]
    refine bm hst ?_;simp only;rw[ih (m-1) (by omega) (k+1) f out (by omega) (by omega) (by omega),hd,cq,zp hw]
   |false=>
    have h1:=one_eq (s[k]::s.drop (k+1)) (List.cons_ne_nil _ _) (by rw[←hd,List.length_drop];omega);rw[hd,cq,zy (by simp[hw])];cases ho2:(bD (s[k]::s.drop (k+1))).2.2 with
    |false=>
     have hst:tstep s (out,(k:Int))=some (.ret ([],(k:Int),22)):=by
      simp only[tstep,hlt,zc,hg,bPs,ws_eq,hw,zd,hsub,h1,ho2,Bool.not_false]
     refine bm hst ?_;simp
    |true=>
     obtain⟨n1,n2⟩:=ib _ _ ho2
     have hlen:(s[k]::s.drop (k+1)).length=m:=by rw[←hd,List.length_drop];omega
     rw[hlen]at n2
     have hst:tstep s (out,(k:Int))=some (.next (out++[LLexerToken.mk (bD (s[k]::s.drop (k+1))).1.kind (bD (s[k]::s.drop (k+1))).1.text (bD (s[k]::s.drop (k+1))).1.number (k:Int)],((k+(bD (s[k]::s.drop (k+1))).2.1:Nat):Int))):=by
      simp only[tstep,hlt,zc,hg,bPs,ws_eq,hw,zd,hsub,h1,ho2,Bool.not_true];rw[appI_ok (by simp;omega) (by simp[maxLen];omega)];simp only[bPs];rw[gf (by omega) (by omega)];rfl
     refine bm hst ?_;simp only;rw[ih (m-(bD (s[k]::s.drop (k+1))).2.1) (by omega) (k+(bD (s[k]::s.drop (k+1))).2.1) f _ (by omega) (by omega) (by rw[List.length_append,List.length_singleton];omega)]
     have hdd:s.drop (k+(bD (s[k]::s.drop (k+1))).2.1)=(s[k]::s.drop (k+1)).drop (bD (s[k]::s.drop (k+1))).2.1:=by
      rw[←hd,List.drop_drop]
     rw[hdd];simp only[if_true];generalize cq f (k+(bD (s[k]::s.drop (k+1))).2.1) ((s[k]::s.drop (k+1)).drop (bD (s[k]::s.drop (k+1))).2.1)=z
     obtain⟨l,e⟩:=z
     cases e with
     |none=>simp
     |some x=>simp
  ·have hk':k=s.length:=by omega
   refine bm (fl:= .brk (out,(k:Int))) ?_ ?_
   ·simp only[tstep,show ¬((k:Int)<(s.length:Int))from by omega,decide_false,zd]
   ·rw[List.drop_eq_nil_of_le hk];simp[cq,hk']
def lexT(s:List UInt8):List LLexerToken×Option Nat:=cq (s.length+1) 0 s
theorem gC(s:List UInt8)(hs:s.length≤4000):bW s=some (match lexT s with|(l,none)=>(l,0,0)|(_,some at_)=>([],(at_:Int),22)):=by
 unfold bW;rw[show decide ((s.length:Int)>4000)=false from zf (by omega)]
 have:=tloop s hs s.length 0 (s.length+1) [] (by omega) (by omega) (by simp)
 simp only[Int.natCast_zero,List.drop_zero]at this;simp only[zd];rw[this];unfold lexT;generalize cq (s.length+1) 0 s=z
 obtain⟨l,e⟩:=z
 cases e with
 |none=>rfl
 |some x=>rfl
theorem tokenize_long(s:List UInt8)(hs:4000<s.length):bW s=some ([],0,2):=by
 unfold bW;rw[show decide ((s.length:Int)>4000)=true from zt (by omega)];rfl
theorem gn{α:Type}(p:α→Bool):∀(l:List α) (k:Nat),(l.takeWhile p).length≤k→(l.take k).takeWhile p=l.takeWhile p
 |[],k,_=>by simp
 |a::l,0,h=>by
  rw[List.takeWhile_cons]at h⊢;cases hp:p a with
  |true=>rw[hp]at h;simp at h
  |false=>simp
 |a::l,k+1,h=>by
  rw[List.take_succ_cons,List.takeWhile_cons,List.takeWhile_cons];rw[List.takeWhile_cons]at h;cases hp:p a with
  |true=>
   rw[hp]at h;simp only[if_true,List.length_cons]at h⊢;rw[gn p l k (by omega)]
  |false=>rfl
theorem noInn_take{r:List UInt8}(h:gu r=true)(k:Nat):gu (r.take k)=true:=by
 cases r with
 |nil=>simp[gu]
 |cons x r=>cases k with
  |zero=>rfl
  |succ k=>exact h
theorem jt:∀(r:List UInt8) {t:List UInt8} {n:Nat} (k:Nat),bF r=some (t,n)→n≤k→bF (r.take k)=some (t,n)
 |[],t,n,k,h,_=>by simp[bF]at h
 |[c],t,n,0,h,hk=>by have:=eY _ h;omega
 |[c],t,n,k+1,h,hk=>by simpa using h
 |c::d::r,t,n,0,h,hk=>by have:=eY _ h;omega
 |c::d::r,t,n,1,h,hk=>by
  simp only[bF]at h;split at h
  ·rename_i hc;split at h
   ·cases hq:bF r with
    |none=>rw[hq]at h;cases h
    |some x=>
     rw[hq]at h;simp only[Option.map_some,zo,Prod.mk.injEq]at h
     have:=eY r (t:=x.1) (n:=x.2) hq
     omega
   ·simp only[List.take_succ_cons,List.take_zero,bF,hc,if_true];exact h
  ·cases hq:bF (d::r)with
   |none=>rw[hq]at h;cases h
   |some x=>
    rw[hq]at h;simp only[Option.map_some,zo,Prod.mk.injEq]at h
    have:=eY (d::r) (t:=x.1) (n:=x.2) hq
    omega
 |c::d::r,t,n,k+2,h,hk=>by
  simp only[List.take_succ_cons];simp only[bF]at h⊢;split at h
  ·rename_i hc;split at h
   ·rename_i hd;cases hq:bF r with
    |none=>rw[hq]at h;cases h
    |some x=>
     rw[hq]at h;simp only[Option.map_some,zo,Prod.mk.injEq]at h;rw[zp hc,zp hd,jt r (t:=x.1) (n:=x.2) k hq (by omega)];simp[h.1,h.2]
   ·rename_i hd;rw[zp hc,zy hd];exact h
  ·rename_i hc;cases hq:bF (d::r)with
   |none=>rw[hq]at h;cases h
   |some x=>
    rw[hq]at h;simp only[Option.map_some,zo,Prod.mk.injEq]at h
    have:=jt (d::r) (t:=x.1) (n:=x.2) (k+1) hq (by omega)
    rw[List.take_succ_cons]at this;rw[zy hc,this];simp[h.1,h.2]
theorem prefix_take{x s:List UInt8}{k:Nat}(h:x.isPrefixOf (s.take k)=true):x.isPrefixOf s=true:=by
 rw[List.isPrefixOf_iff_prefix]at h⊢;exact h.trans (List.take_prefix k s)
theorem prefix_take_of{x s:List UInt8}{k:Nat}(h:x.isPrefixOf s=true)(hk:x.length≤k):x.isPrefixOf (s.take k)=true:=by
 rw[List.isPrefixOf_iff_prefix]at h⊢
 obtain⟨t,rfl⟩:=h
 rw[List.take_append];rw[List.take_of_length_le hk];exact List.prefix_append _ _
theorem find_take{s x:List UInt8}{k:Nat}:∀(L:List (List UInt8)),L.find? (·.isPrefixOf s)=some x→x.length≤k→L.find? (·.isPrefixOf (s.take k))=some x
 |[],h,_=>by simp at h
 |y::L,h,hk=>by
  rw[List.find?_cons]at h⊢;cases hy:y.isPrefixOf s with
  |true=>
   rw[hy]at h;simp only[zo]at h;subst h;rw[prefix_take_of hy hk]
  |false=>
   rw[hy]at h
   have:y.isPrefixOf (s.take k)=false:=by
    cases hz:y.isPrefixOf (s.take k)with
    |false=>rfl
    |true=>rw[prefix_take hz]at hy;cases hy
   rw[this];exact find_take L h hk
theorem one_take(c:UInt8)(r:List UInt8)(h:(bD (c::r)).2.2=true)(k:Nat)(hk:(bD (c::r)).2.1≤k+1):bD (c::r.take k)=bD (c::r):=by
 have hlen:=ib c r h;have e:(c::r).take (k+1)=c::r.take k:=rfl;simp only[bD]at h hk⊢;cases hl:low c with
 |true=>
  simp only[hl,if_true]at h hk⊢;rw[gn inn r k (by omega)]
 |false=>
  simp only[hl,Bool.false_eq_true,if_false]at h hk⊢;cases hd:dig c with
  |true=>
   simp only[hd,if_true]at h hk⊢
   have:=gn dig (c::r) (k+1) hk
   rw[e]at this;rw[this];simp only[Bool.and_eq_true]at h;rw[show(c::r.take k).drop ((c::r).takeWhile dig).length=((c::r).drop ((c::r).takeWhile dig).length).take (k+1-((c::r).takeWhile dig).length)from by rw[←e,List.drop_take]];rw[noInn_take h.2,h.2]
  |false=>
   simp only[hd,Bool.false_eq_true,if_false]at h hk⊢;by_cases h1:c=63
   ·simp only[h1,if_true]at h hk⊢
    obtain⟨a,d,q,r',e1,e2,e3,e4,e5⟩:=jB _ h
    rw[e5]at hk⊢;simp only[List.cons.injEq]at e1
    obtain⟨_,rfl⟩:=e1
    obtain⟨k,rfl⟩:∃j,k=j+2:=⟨k-2,by simp only at hk;omega⟩
    simp only[List.take_succ_cons,fB];rw[zp (by simp[e2,noInn_take e3,e4])]
   ·simp only[h1,if_false]at h hk⊢;by_cases h2:c=39
    ·simp only[h2,if_true]at h hk⊢;cases hq:bF r with
     |none=>rw[hq]at h;cases h
     |some x=>
      rw[hq]at hk;simp only at hk;rw[jt r (t:=x.1) (n:=x.2) k hq (by omega)]
    ·simp only[h2,if_false]at h hk⊢;cases hq:iq.find? (·.isPrefixOf (c::r))with
     |none=>rw[hq]at h;cases h
     |some x=>
      rw[hq]at hk;simp only at hk;rw[←e,find_take iq hq hk]
def Asc:Nat→Nat→List LLexerToken→Prop
 |_,_,[]=>True
 |lo,hi,t::l=>(∃o:Nat,t.offset=(o:Int)∧lo≤o∧o<hi∧Asc (o+1) hi l)
theorem jn:∀(f off:Nat) (s:List UInt8),Asc off (off+s.length) (cq f off s).1
 |0,_,_=>by simp[cq,Asc]
 |f+1,off,[]=>by simp[cq,Asc]
 |f+1,off,c::r=>by
  rw[cq];split
  ·have:=jn f (off+1) r
   rw[show off+(c::r).length=off+1+r.length from by simp;omega];exact Asc.lower this (by omega)
  ·split
   ·rename_i h
    obtain⟨h1,h2⟩:=ib c r h
    have:=jn f (off+(bD (c::r)).2.1) ((c::r).drop (bD (c::r)).2.1)
    rw[List.length_drop,show off+(bD (c::r)).2.1+((c::r).length-(bD (c::r)).2.1)=off+(c::r).length from by omega]at this
    exact⟨off,rfl,Nat.le_refl _,by simp,Asc.lower this (by omega)⟩
   ·simp[Asc]
where
 Asc.lower:∀{lo lo' hi:Nat} {l:List LLexerToken},Asc lo hi l→lo'≤lo→Asc lo' hi l
  |_,_,_,[],_,_=>trivial
  |_,_,_,_::_,⟨o,h1,h2,h3,h4⟩,hle=>⟨o,h1,by omega,h3,h4⟩
theorem toks_err:∀(f off:Nat) (s:List UInt8) {at_:Nat},(cq f off s).2=some at_→off≤at_∧at_<off+s.length
 |0,_,_,_,h=>by simp[cq]at h
 |f+1,off,[],_,h=>by simp[cq]at h
 |f+1,off,c::r,at_,h=>by
  rw[cq]at h;split at h
  ·have:=toks_err f (off+1) r h
   simp only[List.length_cons];omega
  ·split at h
   ·rename_i h0
    obtain⟨h1,h2⟩:=ib c r h0
    have:=toks_err f (off+(bD (c::r)).2.1) ((c::r).drop (bD (c::r)).2.1) h
    rw[List.length_drop]at this;omega
   ·simp only[zo]at h;subst h;simp
theorem toks_len:∀(f off:Nat) (s:List UInt8),(cq f off s).1.length≤s.length
 |0,_,_=>by simp[cq]
 |f+1,off,[]=>by simp[cq]
 |f+1,off,c::r=>by
  rw[cq];split
  ·have:=toks_len f (off+1) r
   simp only[List.length_cons];omega
  ·split
   ·rename_i h
    obtain⟨h1,h2⟩:=ib c r h
    have:=toks_len f (off+(bD (c::r)).2.1) ((c::r).drop (bD (c::r)).2.1)
    rw[List.length_drop]at this;simp only[List.length_cons]at this h2⊢;omega
   ·simp
end
end Go.Proofs.YtibojibdiibdgaaGreatDoor

namespace Go.Cx
noncomputable section
open Go Go.Ab
inductive DV where
 |bad
 |v (x:Value)
 |s (l:List UInt8)
 |a (l:List DV)
 |t (l:List DV)
 |p (id off:Nat)
 |l (id off row len:Nat)
 |e (id off:Nat)
 |f (g:FuncId) (caps:List DV)
 |i (t:TypeId) (d:DV)
inductive Tr (α:Type) where
 |nil
 |node (l:Tr α) (v:Option α) (r:Tr α)
def Tr.get{α:Type}:Tr α→Nat→Option α
 | .nil,_=>none
 | .node l v r,k=>bif Nat.beq k 0 then v else bif Nat.beq (k%2) 1 then l.get (k/2)else r.get (k/2-1)
def Tr.set{α:Type}:Nat→Tr α→Nat→α→Tr α
 |0,_,_,_=>.nil
 |n+1,.nil,k,x=>bif Nat.beq k 0 then .node .nil (some x) .nil else bif Nat.beq (k%2) 1 then .node (Tr.set n .nil (k/2) x) none .nil else .node .nil none (Tr.set n .nil (k/2-1) x)
 |n+1,.node l v r,k,x=>bif Nat.beq k 0 then .node l (some x) r else bif Nat.beq (k%2) 1 then .node (Tr.set n l (k/2) x) v r else .node l v (Tr.set n r (k/2-1) x)
structure Blk where
 e:TypeId
 sz:Nat
 cap:Option Nat
 wr:Bool
 cells:List DV
structure Hp where
 h:Tr (Option Blk)
 nx:Nat
def bV(h:Tr (Option Blk))(id:Nat):Option Blk:=match h.get id with
 |some b=>b
 |none=>none
def const1:Value→DV
 | .string x=>.s x.data.toList
 |x=>.v x
def constD:Value→DV
 | .agg cs=>.a (cs.toList.map const1)
 |x=>const1 x
def evD(s:Tr DV):Operand→DV
 | .tmp t=>(s.get t).getD .bad
 | .const x=>constD x
 | .global _=>.bad
 | .func g=>.f g []
def DV.one:DV→Bool
 | .v x=>x.oneCell'
 | .bad| .a _| .t _=>false
 |_=>true
def iy:DV→Option (List DV)
 | .a l=>bif l.all DV.one then some l else none
 |d=>bif d.one then some [d]else none
def readD(ti:TInfo)(off:Nat)(cells:List DV):Option DV:=
 bif fP ti.desc then(bif Nat.ble (off+ti.size) cells.length then some (.a ((cells.drop off).take ti.size))else none)
 else cells[off]?
def eN(cells:List DV)(off:Nat)(new:List DV):List DV:=cells.take off++new++cells.drop (off+new.length)
def gv(place:Nat→Option (Nat×Nat))(cells:List DV):List (Nat×DV)→Option (List DV)
 |[]=>some cells
 |(i,p)::r=>match place i,iy p with
  |some (off,size),some cs=>bif Nat.beq cs.length size&&Nat.ble (off+size) cells.length then gv place (eN cells off cs) r else none
  |_,_=>none
def fc(ti:TInfo):List DV:=ti.zero.cells.toList.map const1
def partsD(ev:Operand→DV)(ps:Array (Nat×Operand)):List (Nat×DV):=ps.toList.map fun p=>(p.1,ev p.2)
def buildD(T:TT)(t:TypeId)(parts:List (Nat×DV)):Option DV:=
 match T.get t with
 |some ti=>match ti.desc with
  | .struct fs=>match fT T fs.toList with
   |some l=>(gv (fun(i:Nat)=>l[i]?) (fc ti) parts).map .a
   |none=>none
  |_=>none
 |none=>none
def jS:TypeDesc→DV→DV→Option Bool
 | .int _,.v (.int k a),.v (.int k' b)=>bif decide (k=k')then some (a==b)else none
 | .bool,.v (.bool a),.v (.bool b)=>some (a==b)
 | .string,.s a,.s b=>some (a==b)
 |_,_,_=>none
def eU(T:TT):List (Nat×Nat)→List DV→List DV→Option Bool
 |[],_,_=>some true
 |(t,off)::r,xs,ys=>match T.get t,xs[off]?,ys[off]? with
  |some ti,some p,some q=>match jS ti.desc p q,eU T r xs ys with
   |some b,some c=>some (b&&c)
   |_,_=>none
  |_,_,_=>none
def binD(T:TT)(op:BinOp)(t:TypeId)(p q:DV):Option DV:=
 match p,q with
 | .v (.int k a),.v (.int k' b)=>
  bif decide (k=k')then
   match op with
   | .add=>some (.v (.int k (k.wrap (a+b))))
   | .sub=>some (.v (.int k (k.wrap (a-b))))
   | .mul=>some (.v (.int k (k.wrap (a*b))))
   | .quo=>if b=0 then none else some (.v (.int k (k.wrap (a.tdiv b))))
   | .rem=>if b=0 then none else some (.v (.int k (a.tmod b)))
   |op=>(cmpInt op a b).map fun c=>.v (.bool c)
  else none
 | .s a,.s b=>match op with
  | .add=>if a.length+b.length≤dY then some (.s (a++b))else none
  |op=>(cmpStr op a b).map fun c=>.v (.bool c)
 | .v (.bool a),.v (.bool b)=>match T.get t,op with
  |some ⟨.bool,_,_,_,_⟩,.eql=>some (.v (.bool (a==b)))
  |some ⟨.bool,_,_,_,_⟩,.neq=>some (.v (.bool (!(a==b))))
  |_,_=>none
 | .a xs,.a ys=>match T.get t with
  |some ti=>bif ti.eqf.isEmpty then none else
   match op with
   | .eql=>(eU T ti.eqf xs ys).map fun c=>.v (.bool c)
   | .neq=>(eU T ti.eqf xs ys).map fun c=>.v (.bool (!c))
   |_=>none
  |none=>none
 |_,_=>none
def nilD(T:TT)(op:BinOp)(t:TypeId)(y:Operand)(p:DV):Option DV:=
 match y,p with
 | .const .nilIface,.v .nilIface=>match T.get t with
  |some ti=>match ti.desc,op with
   | .interface _,.eql=>some (.v (.bool true))
   | .interface _,.neq=>some (.v (.bool false))
   |_,_=>none
  |none=>none
 | .const (.slice none 0 0),p=>match T.get t with
  |some ti=>match ti.desc,op,p with
   | .slice _,.eql,.v (.slice none 0 0)=>some (.v (.bool true))
   | .slice _,.eql,.l _ _ _ _=>some (.v (.bool false))
   | .slice _,.eql,.e _ _=>some (.v (.bool false))
   |_,_,_=>none
  |none=>none
 |_,_=>none
def iv(p:Option DV)(dflt:Nat):Option Int:=
 match p with
 |none=>some dflt
 |some (.v (.int _ n))=>some n
 |_=>none
def sliceD(T:TT)(d:TypeDesc)(p:DV)(lo hi:Option DV):Option DV:=
 match d,p with
 | .string,.s l=>match iv lo 0,iv hi l.length with
  |some a,some b=>if 0≤a∧a≤b∧b≤l.length then some (.s ((l.take b.toNat).drop a.toNat))else none
  |_,_=>none
 | .slice e,.l id off row len=>match iv lo 0,iv hi len,T.get e with
   |some a,some b,some ei=>if 0≤a∧a≤b∧b≤len∧(a<len∨a=0)then some (.l id (off+a.toNat*ei.size) (row+a.toNat) (b.toNat-a.toNat))else none
   |_,_,_=>none
 |_,_=>none
def isZ:Option Operand→Bool
 |some (.const (.int .i64 n))=>n==0
 |_=>false
def emptyD(T:TT)(d:TypeDesc)(p:DV):Option DV:=
 match d with
 | .slice e=>match T.get e,p with
  |some _,.l id off _ _=>some (.e id off)
  |some _,.e id off=>some (.e id off)
  |some _,.v (.slice none 0 0)=>some p
  |_,_=>none
 |_=>none
def offD:DV→Nat→Option DV
 | .p id off,n=>some (.p id (off+n))
 |_,_=>none
def gO:DV→Option Nat
 | .l _ _ _ n=>some n
 | .e _ _=>some 0
 | .v (.slice none 0 0)=>some 0
 |_=>none
def loadD(h:Tr (Option Blk))(ti:TInfo):DV→Option DV
 | .p id off=>match bV h id with
  |some b=>readD ti off b.cells
  |none=>none
 |_=>none
def noNilD:DV→Bool
 | .p _ _| .f _ _=>true
 |_=>false
def callD(T:TT)(c:Call)(ev:Operand→DV):Option DV:=
 match c.callee,c.args.toList,c.argTypes.toList with
 | .builtin .len,[x],t::_=>match T.get t with
  |some ti=>match ti.desc,ev x with
   | .string,.s l=>some (.v (.int .i64 l.length))
   | .slice _,p=>(gO p).bind fun n=>some (.v (.int .i64 n))
   |_,_=>none
  |none=>none
 | .builtin .min,[x,y],_=>match ev x,ev y with
  | .v (.int k a),.v (.int _ b)=>some (.v (.int k (if b<a then b else a)))
  |_,_=>none
 | .builtin .max,[x,y],_=>match ev x,ev y with
  | .v (.int k a),.v (.int _ b)=>some (.v (.int k (if b>a then b else a)))
  |_,_=>none
 |_,_,_=>none
def db(T:TT)(h:Tr (Option Blk))(op:Op)(ev:Operand→DV):Option DV:=
 match op with
 | .move x| .assign x=>some (ev x)
 | .pick c a b=>match ev c with
  | .v (.bool true)=>some (ev a)
  | .v (.bool false)=>some (ev b)
  |_=>none
 | .load t x=>match T.get t with
  |some ti=>loadD h ti (ev x)
  |none=>none
 | .fieldAddr t x f=>match T.get t with
  |some ti=>match ti.desc with
   | .struct fs=>match fs[f]? with
    |some fd=>match T.get fd.type with
     |some fi=>bif Nat.beq fi.size 0 then none else offD (ev x) fd.offset
     |none=>none
    |none=>none
   |_=>none
  |none=>none
 | .field t x f=>match T.get t with
  |some ti=>match ti.desc with
   | .struct fs=>match fs[f]? with
    |some fd=>match T.get fd.type,ev x with
     |some fi,.a cells=>readD fi fd.offset cells
     |_,_=>none
    |none=>none
   |_=>none
  |none=>none
 | .indexAddr t x i=>match T.get t,ev x,ev i with
  |some ti,.l id off _ len,.v (.int _ n)=>match ti.desc with
   | .slice e=>match T.get e with
    |some ei=>if 0≤n∧n<len then some (.p id (off+n.toNat*ei.size))else none
    |none=>none
   |_=>none
  |some ti,.p id off,.v (.int _ n)=>match ti.desc with
   | .array len e=>match T.get e with
    |some ei=>if 0≤n∧n<len then some (.p id (off+n.toNat*ei.size))else none
    |none=>none
   |_=>none
  |_,_,_=>none
 | .index t x i=>match T.get t,ev x,ev i with
  |some ti,.s l,.v (.int _ n)=>match ti.desc with
   | .string=>if 0≤n then(l[n.toNat]?).map fun c=>.v (.int .u8 c.toNat)else none
   |_=>none
  |_,_,_=>none
 | .binOp op t x y _=>match nilD T op t y (ev x)with
  |some r=>some r
  |none=>binD T op t (ev x) (ev y)
 | .unOp op _ x=>match op,ev x with
  | .not,.v (.bool b)=>some (.v (.bool (!b)))
  | .neg,.v (.int k n)=>some (.v (.int k (k.wrap (0-n))))
  |_,_=>none
 | .convert src dst x=>match T.get src,T.get dst,ev x with
  |some _,some ti,.v (.int _ n)=>match ti.desc with
   | .int k=>some (.v (.int k (k.wrap n)))
   |_=>none
  |some _,some ti,.s l=>match ti.desc with
   | .string=>some (.s l)
   |_=>none
  |_,_,_=>none
 | .extract x i=>match ev x with
  | .t vs=>vs[i]?
  |_=>none
 | .build t ps=>buildD T t (partsD ev ps)
 | .slice t x lo hi mx=>match T.get t with
  |some ti=>match mx with
   |none=>sliceD T ti.desc (ev x) (lo.map ev) (hi.map ev)
   |some m=>bif isZ lo&&isZ hi&&isZ (some m)then emptyD T ti.desc (ev x)else none
  |none=>none
 | .makeFunc (.func f) first caps=>bif first.isEmpty then some (.f f (caps.toList.map ev))else none
 | .nilCheck x=>bif noNilD (ev x)then some (ev x)else none
 | .call c=>callD T c ev
 |_=>none
def gp(n:Nat)(l:List DV):List DV:=match n with
 |0=>[]
 |n+1=>l++gp n l
def newD(H:Hp)(b:Blk):Hp:=⟨H.h.set 24 H.nx (some b),H.nx+1⟩
def srcD(h:Tr (Option Blk))(size:Nat):DV→Option (List DV)
 | .l id off _ len=>match bV h id with
  |some b=>bif Nat.ble (off+len*size) b.cells.length then some ((b.cells.drop off).take (len*size))else none
  |none=>none
 | .v (.slice none 0 0)| .e _ _=>some []
 |_=>none
def appendD(H:Hp)(e:TypeId)(size bytes:Nat)(x:DV)(new:List DV)(n:Nat):Option (DV×Hp):=
 bif Nat.beq n 0 then(match gO x with|some _=>some (x,H)|none=>none)else
 match x with
 | .v (.slice none 0 0)| .e _ _=>bif Nat.ble (n*bytes) 1000000&&Nat.ble n 1000000 then some (.l H.nx 0 0 n,newD H ⟨e,size,none,true,new⟩)else none
 | .l id off row len=>match bV H.h id with
  |some b=>
   bif b.wr&&Nat.beq b.e e&&Nat.beq b.sz size&&Nat.beq off 0&&Nat.beq row 0&&Nat.beq b.cells.length (len*size)&&Nat.ble ((len+n)*bytes) 1000000&&Nat.ble (len+n) 1000000 then
    some (.l H.nx 0 0 (len+n),newD ⟨H.h.set 24 id none,H.nx⟩ ⟨e,size,none,true,b.cells++new⟩)
   else none
  |none=>none
 |_=>none
def fo(T:TT)(op:Op)(ev:Operand→DV)(id:Nat):Option (DV×Blk):=
 match op with
 | .alloc t=>match T.get t with
  |some ti=>some (.p id 0,⟨t,0,none,true,fc ti⟩)
  |none=>none
 | .box t x=>match iy (ev x)with
  |some cs=>some (.p id 0,⟨t,0,none,true,cs⟩)
  |none=>none
 | .buildSlice t n ps=>match T.get t with
  |some ti=>match ti.desc with
   | .slice e=>match T.get e with
    |some ei=>bif Nat.ble (n*ei.bytes) 1000000&&Nat.blt 0 ei.size&&Nat.ble (n*ei.size) 1000000&&Nat.beq ei.zero.cells.size ei.size then match gv (fun i=>some (i*ei.size,ei.size)) (gp n (fc ei)) (partsD ev ps)with
      |some cs=>some (.l id 0 0 n,⟨e,ei.size,some n,true,cs⟩)
      |none=>none
     else none
    |none=>none
   |_=>none
  |none=>none
 |_=>none
def eR(T:TT)(H:Hp)(op:Op)(ev:Operand→DV):Option (DV×Hp):=
 match op with
 | .store t x y=>match T.get t,ev x,iy (ev y)with
  |some ti,.p id off,some cs=>match bV H.h id with
   |some b=>bif b.wr&&Nat.beq cs.length ti.size&&Nat.ble (off+ti.size) b.cells.length then some (.bad,⟨H.h.set 24 id (some ⟨b.e,b.sz,b.cap,b.wr,eN b.cells off cs⟩),H.nx⟩)else none
   |none=>none
  |_,_,_=>none
 | .convert src dst x=>match T.get src,T.get dst,ev x with
  |some si,some ti,.s l=>match si.desc,ti.desc with
   | .string,.slice e=>match T.get e with
    |some ei=>match ei.desc with
     | .int .u8=>bif Nat.beq ei.size 1&&Nat.ble l.length 1000000 then some (.l H.nx 0 0 l.length,newD H ⟨e,1,none,false,l.map fun c=>.v (.int .u8 c.toNat)⟩)else none
     |_=>none
    |none=>none
   |_,_=>none
  |_,_,_=>none
 | .call ⟨.builtin .clear,av0,ts⟩=>match av0.toList,ts.toList with
  |[x],[t]=>match T.get t,ev x with
   |some ti,.l id off _ n=>match ti.desc,bV H.h id with
    | .slice e,some b=>match T.get e with
     |some ei=>bif Nat.beq n 0 then some (.t [],H)else bif b.wr&&(fc ei).all DV.one&&Nat.beq ei.zero.cells.size ei.size&&Nat.ble (off+n*ei.size) b.cells.length then
       some (.t [],⟨H.h.set 24 id (some ⟨b.e,b.sz,b.cap,b.wr,eN b.cells off (gp n (fc ei))⟩),H.nx⟩)else none
     |none=>none
    |_,_=>none
   |_,_=>none
  |_,_=>none
 | .call ⟨.builtin .append,av0,ts⟩=>match av0.toList,ts.toList with
  |[x,y],[t,t']=>bif Nat.beq t t' then match T.get t with
   |some ti=>match ti.desc with
    | .slice e=>match T.get e with
     |some ei=>match srcD H.h ei.size (ev y),gO (ev y)with
      |some new,some n=>bif Nat.blt 0 ei.size&&Nat.beq ei.zero.cells.size ei.size&&new.all DV.one then appendD H e ei.size ei.bytes (ev x) new n else none
      |_,_=>none
     |none=>none
    |_=>none
   |none=>none
   else none
  |_,_=>none
 |_=>none
def loudD(T:TT)(H:Hp)(op:Op)(ev:Operand→DV):Option (DV×Hp):=
 match fo T op ev H.nx with
 |some (d,b)=>some (d,newD H b)
 |none=>eR T H op ev
def isLoud:Op→Bool
 | .alloc _| .box _ _| .store _ _ _| .buildSlice _ _ _| .makeSlice _ _ _| .defer _=>true
 | .convert _ _ _=>true
 | .call ⟨.builtin .len,_,_⟩| .call ⟨.builtin .min,_,_⟩| .call ⟨.builtin .max,_,_⟩=>false
 | .call _=>true
 |_=>false
structure St where
 n:Nat
 s:Tr DV
 H:Hp
 df:List (FuncId×List DV)
abbrev dq:=FuncId→List DV→Hp→Option (DV×Hp)
def oneD(T:TT)(call:dq)(op:Op)(ev:Operand→DV)(H:Hp):Option (DV×Hp):=
 match db T H.h op ev with
 |some r=>some (r,H)
 |none=>match loudD T H op ev with
  |some x=>some x
  |none=>match op with
   | .call ⟨.value fx,av0,_⟩=>match ev fx with
    | .f g caps=>call g (av0.toList.map ev++caps) H
    |_=>none
   |_=>none
def bR(ops:Array Oper)(s:Tr DV)(o:Oper):Option Bool:=
 match o.guard with
 |none=>some true
 |some (j,want)=>match(ops[j]?).bind (·.dst)with
  |some d=>match s.get d with
   |some (.v (.bool b))=>some (b==want)
   |some (.t [])=>some false
   |_=>none
  |none=>none
def dt(n:Nat)(s:Tr DV)(dst:Option Tmp)(d:DV):Option (Tr DV):=match dst with
 |none=>some s
 |some k=>bif Nat.blt k n then some (s.set 16 k d)else none
def headD:DV→Bool
 | .v (.int _ n)=>match n with
  | .ofNat k=>Nat.beq k k
  | .negSucc k=>Nat.beq k k
 |_=>true
def stepD(T:TT)(call:dq)(ops:Array Oper)(o:Oper)(st:St):Option St:=
 match bR ops st.s o with
 |some true=>match o.op with
  | .defer ⟨.value fx,av0,_⟩=>bif av0.isEmpty then(match evD st.s fx with
    | .f g caps=>(dt st.n st.s o.dst (.t [])).map fun s=>⟨st.n,s,st.H,(g,caps)::st.df⟩
    |_=>none)else none
  |op=>match oneD T call op (evD st.s) st.H with
   |some (d,H)=>bif headD d then(dt st.n st.s o.dst d).map fun s=>⟨st.n,s,H,st.df⟩else none
   |none=>none
 |some false=>(dt st.n st.s o.dst (.t [])).map fun s=>⟨st.n,s,st.H,st.df⟩
 |none=>none
def opsD(T:TT)(call:dq)(ops:Array Oper):List Oper→St→Option St
 |[],st=>some st
 |o::r,st=>match stepD T call ops o st with
  |some st'=>opsD T call ops r st'
  |none=>none
inductive Ex where
 |nm|rt|ex (j:Nat)
def resD(T:TT)(st:St):ResultVar→Option DV
 | .tmp t=>match st.s.get t with
  |some .bad=>none
  |x=>x
 | .cell a t=>match T.get t,st.s.get a with
  |some ti,some d=>loadD st.H.h ti d
  |_,_=>none
def fC(T:TT)(st:St):List ResultVar→Option (List DV)
 |[]=>some []
 |r::rs=>match resD T st r,fC T st rs with
  |some d,some ds=>some (d::ds)
  |_,_=>none
def tupD:List DV→DV
 |[d]=>d
 |ds=>.t ds
def gX(l:List DV):Tr DV:=(l.foldl (fun(x:Tr DV×Nat) d=>(x.1.set 16 x.2 d,x.2+1)) (.nil,0)).1
def eqVal:Value→Value→Bool
 | .int k a,.int k' b=>decide (k=k')&&(a==b)
 | .bool a,.bool b=>a==b
 | .slice none n c,.slice none n' c'=>Nat.beq n n'&&Nat.beq c c'
 | .pointer none,.pointer none=>true
 | .nilIface,.nilIface=>true
 | .nilFunc,.nilFunc=>true
 |_,_=>false
mutual
def eqV:DV→DV→Bool
 | .v x,.v y=>eqVal x y
 | .s a,.s b=>a==b
 | .a l,.a l'=>eqVL l l'
 | .t l,.t l'=>eqVL l l'
 | .p i o,.p i' o'=>Nat.beq i i'&&Nat.beq o o'
 | .l i o r n,.l i' o' r' n'=>Nat.beq i i'&&Nat.beq o o'&&Nat.beq r r'&&Nat.beq n n'
 | .e i o,.e i' o'=>Nat.beq i i'&&Nat.beq o o'
 | .f g l,.f g' l'=>Nat.beq g g'&&eqVL l l'
 |_,_=>false
def eqVL:List DV→List DV→Bool
 |[],[]=>true
 |x::xs,y::ys=>eqV x y&&eqVL xs ys
 |_,_=>false
end
def ku:Op→Bool
 | .store _ _ _=>true
 |_=>false
def ek(o:Oper):Bool:=match o.op with| .alloc _| .box _ _| .buildSlice _ _ _=>true|_=>false
def cG(o:Oper):Bool:=isLoud o.op&& !ek o
structure DS where
 st:St
 pd:List (Nat×Blk)
def fp(nx0:Nat)(H:Hp)(l:List (Nat×Blk)):Hp:=l.foldl (fun H x=>⟨H.h.set 24 (nx0+x.1) (some x.2),H.nx⟩) H
def stepR(T:TT)(call:dq)(ops:Array Oper)(b:Array Nat)(nx0 i:Nat)(o:Oper)(ds:DS):Option DS:=
 bif ek o then match bR ops ds.st.s o with
  |some true=>match fo T o.op (evD ds.st.s) (nx0+i)with
   |some (d,k)=>(dt ds.st.n ds.st.s o.dst d).map fun s=>⟨⟨ds.st.n,s,ds.st.H,ds.st.df⟩,ds.pd++[(i,k)]⟩
   |none=>none
  |some false=>(dt ds.st.n ds.st.s o.dst (.t [])).map fun s=>⟨⟨ds.st.n,s,ds.st.H,ds.st.df⟩,ds.pd⟩
  |none=>none
 else bif cG o then match stepD T call ops o ⟨ds.st.n,ds.st.s,fp nx0 ds.st.H (ds.pd.filter fun x=>(b.getD i 0).testBit x.1),ds.st.df⟩with
  |some st'=>some ⟨st',ds.pd.filter fun x=>!(b.getD i 0).testBit x.1⟩
  |none=>none
 else match bR ops ds.st.s o with
  |some true=>match db T ds.st.H.h o.op (evD ds.st.s)with
   |some d=>bif headD d then(dt ds.st.n ds.st.s o.dst d).map fun s=>⟨⟨ds.st.n,s,ds.st.H,ds.st.df⟩,ds.pd⟩else none
   |none=>none
  |some false=>(dt ds.st.n ds.st.s o.dst (.t [])).map fun s=>⟨⟨ds.st.n,s,ds.st.H,ds.st.df⟩,ds.pd⟩
  |none=>none
def traceR(T:TT)(call:dq)(ops:Array Oper)(b:Array Nat)(nx0:Nat):Nat→List Oper→DS→Option (List DS)
 |_,[],ds=>some [ds]
 |i,o::r,ds=>match stepR T call ops b nx0 i o ds with
  |some ds'=>match traceR T call ops b nx0 (i+1) r ds' with
   |some l=>some (ds::l)
   |none=>none
  |none=>none
def pairsOk(ops:Array Oper)(b:Array Nat):Bool:=
 (List.range ops.size).all fun j=>(List.range j).all fun i=>(b.getD j 0).testBit i||match ops[i]?,ops[j]? with
  |some x,some y=>x.apart ops y
  |_,_=>false
def unord(ops:Array Oper)(b:Array Nat):List (Nat×Nat):=
 (List.range ops.size).flatMap fun j=>((List.range j).filter fun i=>!(b.getD j 0).testBit i&&(match ops[i]?,ops[j]? with
  |some x,some y=>cG x&&cG y
  |_,_=>false)).map fun i=>(i,j)
def edgesOk(ops:Array Oper):Bool:=(List.range ops.size).all fun j=>match ops[j]? with
 |some o=>o.after.all fun e=>!Region.binds .any e||Nat.blt e.on j
 |none=>true
def bl(ops:Array Oper)(j:Nat):Bool:=match ops[j]? with|some y=>cG y|none=>false
def kt(ops:Array Oper)(b:Array Nat):List (Nat×List Nat):=
 (List.range ops.size).filterMap fun i=>match ops[i]? with
  |some o=>bif cP o.op then some (i,(0::(((List.range ops.size).filter (bl ops)).map (·+1))).filter fun k=>
    (List.range ops.size).all fun j=>!bl ops j||(bif Nat.blt j k then !(b.getD j 0).testBit i else !(b.getD i 0).testBit j))else none
  |none=>none
def pairAt(ops:Array Oper)(b:Array Nat)(i j:Nat):Bool:=
 (List.range ops.size).all fun k=>match ops[k]? with
  |some o=>(!cG o||Nat.blt k i||Nat.beq k i||Nat.beq k j)&&(!(ek o||cP o.op)||((b.getD i 0).testBit k&&(b.getD j 0).testBit k))&&
    (!(Nat.beq k i||Nat.beq k j)||(o.guard.isNone&&ku o.op))
  |none=>true
def staticOk(ops:Array Oper):Bool:=gq ops (Region.before ops)&&edgesOk ops&&pairsOk ops (Region.before ops)&&ops.all (fun o=>match o.op with| .defer _=>false|_=>true)
def addrOf(o:Oper)(s:Tr DV):Option Nat:=match o.op with
 | .store _ x _=>match evD s x with
  | .p id _=>some id
  |_=>none
 |_=>none
def swapD(T:TT)(ops:Array Oper)(tr:List DS)(i j:Nat):Bool:=
 match ops[i]?,ops[j]?,tr[i]?,tr[j]? with
 |some x,some y,some di,some dj=>match addrOf x di.st.s,addrOf y dj.st.s,eR T di.st.H y.op (evD dj.st.s)with
  |some a,some c,some (_,H3)=>di.pd.isEmpty&& !(Nat.beq a c)&&Nat.blt a 1000000&&Nat.blt c 1000000&&(eR T H3 x.op (evD di.st.s)).isSome
  |_,_,_=>false
 |_,_,_,_=>false
def kx(T:TT)(ops:Array Oper)(tr:List DS):Bool:=
 match unord ops (Region.before ops)with
 |[]=>true
 |[(i,j)]=>pairAt ops (Region.before ops) i j&&swapD T ops tr i j
 |_=>false
def loadOk(T:TT)(ops:Array Oper)(tr:List DS)(i:Nat)(ks:List Nat):Bool:=
 match ops[i]?,tr[i]? with
 |some o,some ds=>match bR ops ds.st.s o with
  |some true=>match db T ds.st.H.h o.op (evD ds.st.s)with
   |some d=>ks.all fun k=>match tr[k]? with
    |some ds'=>match db T ds'.st.H.h o.op (evD ds.st.s)with
     |some d'=>eqV d d'
     |none=>false
    |none=>false
   |none=>false
  |some false=>true
  |none=>false
 |_,_=>false
def drawD(T:TT)(call:dq)(ops:Array Oper)(st:St):Option St:=
 bif staticOk ops then
  match traceR T call ops (Region.before ops) st.H.nx 0 ops.toList ⟨⟨st.n,st.s,⟨st.H.h,st.H.nx+ops.size⟩,st.df⟩,[]⟩with
  |some tr=>bif (kt ops (Region.before ops)).all (fun x=>loadOk T ops tr x.1 x.2)&&kx T ops tr then
    match tr[ops.size]? with
    |some ds=>some ⟨ds.st.n,ds.st.s,fp st.H.nx ds.st.H ds.pd,ds.st.df⟩
    |none=>none
   else none
  |none=>none
 else none
def fG(P:Program)(T:TT)(D:FuncId→Bool)(run:Code→St→Option (Ex×St)):dq:=fun g args H=>
 match P.funcs[g]? with
 |some fn=>match fn.body with
  |some c=>bif Nat.ble args.length fn.ntmps then
    match run c ⟨fn.ntmps,gX args,H,[]⟩with
    |some (.nm,st)|some (.rt,st)=>bif st.df.all fun x=>D x.1 then(fC T st fn.results.toList).map fun ds=>(tupD ds,st.H)else none
    |_=>none
   else none
  |none=>none
 |none=>none
def dg(P:Program)(T:TT)(D:FuncId→Bool):Nat→Code→St→Option (Ex×St)
 |0,_,_=>none
 |n+1,c,st=>match c with
  | .skip=>some (.nm,st)
  | .region _ ops false=>(opsD T (fG P T D (dg P T D n)) ops ops.toList st).map fun s=>(.nm,s)
  | .region _ ops true=>(drawD T (fG P T D (dg P T D n)) ops st).map fun s=>(.nm,s)
  | .seq x y=>match dg P T D n x st with
   |some (.nm,st')=>dg P T D n y st'
   |r=>r
  | .cond c x y=>match evD st.s c with
   | .v (.bool true)=>dg P T D n x st
   | .v (.bool false)=>dg P T D n y st
   |_=>none
  | .block id c=>match dg P T D n c st with
   |some (.ex j,st')=>bif Nat.beq j id then some (.nm,st')else some (.ex j,st')
   |r=>r
  | .loop x=>match dg P T D n x st with
   |some (.nm,st')=>dg P T D n (.loop x) st'
   |r=>r
  | .exit id=>some (.ex id,st)
  | .ret=>some (.rt,st)
  |_=>none
end
end Go.Cx

namespace Go.Cx
noncomputable section
open Go Go.Ab
open Go.RowKit (Below)
abbrev Be:=Nat→Option (Nat×Nat)
def Be.le(β β':Be):Prop:=∀k x,β k=some x→β' k=some x
theorem Be.rfl'{β:Be}:β.le β:=fun _ _ h=>h
theorem Be.trans{β β' β'':Be}(h:β.le β')(h':β'.le β''):β.le β'':=fun k x e=>h' k x (h k x e)
structure Ext(β β':Be)(nx nx':Nat):Prop where
 le:β.le β'
 old:∀id,id<nx→β' id=β id
 nx:nx≤nx'
theorem Ext.rfl'{β:Be}{n:Nat}:Ext β β n n:=⟨Be.rfl',fun _ _=>rfl,Nat.le_refl _⟩
theorem Ext.trans{β β' β'':Be}{n n' n'':Nat}(h:Ext β β' n n')(h':Ext β' β'' n' n''):Ext β β'' n n'':=
 ⟨Be.trans h.le h'.le,fun id hid=>(h'.old id (Nat.lt_of_lt_of_le hid h.nx)).trans (h.old id hid),Nat.le_trans h.nx h'.nx⟩
mutual
def R(β:Be):DV→Value→Prop
 | .bad,_=>True
 | .v x,y=>y=x
 | .s l,y=>y= .string ⟨l.toArray⟩
 | .a ds,y=>∃cs:Array Value,y= .agg cs∧RL β ds cs.toList
 | .t ds,y=>∃cs:Array Value,y= .tuple cs∧RL β ds cs.toList
 | .p id off,y=>∃b c,β id=some (b,c)∧y= .pointer (some ⟨b,off,none⟩)
 | .l id off row len,y=>∃b c,β id=some (b,c)∧row+len≤c∧y= .slice (some ⟨b,off,none⟩) len (c-row)
 | .e id off,y=>∃b c,β id=some (b,c)∧y= .slice (some ⟨b,off,none⟩) 0 0
 | .f g caps,y=>∃cs:Array Value,y= .func (.func g) #[] cs∧RL β caps cs.toList
 | .i _ _,_=>False
def RL(β:Be):List DV→List Value→Prop
 |[],vs=>vs=[]
 |d::ds,vs=>∃x xs,vs=x::xs∧R β d x∧RL β ds xs
end
section
variable{β β':Be}
mutual
theorem R.mono(h:β.le β'):∀{d:DV} {y:Value},R β d y→R β' d y
 | .bad,_,_=>by simp only[R]
 | .v _,_,e=>by simpa only[R]using e
 | .s _,_,e=>by simpa only[R]using e
 | .a ds,_,e=>by
  simp only[R]at e⊢
  obtain⟨cs,h1,h2⟩:=e
  exact⟨cs,h1,RL.mono h h2⟩
 | .t ds,_,e=>by
  simp only[R]at e⊢
  obtain⟨cs,h1,h2⟩:=e
  exact⟨cs,h1,RL.mono h h2⟩
 | .p id off,_,e=>by
  simp only[R]at e⊢
  obtain⟨b,c,h1,h2⟩:=e
  exact⟨b,c,h _ _ h1,h2⟩
 | .l id off row len,_,e=>by
  simp only[R]at e⊢
  obtain⟨b,c,h1,h2⟩:=e
  exact⟨b,c,h _ _ h1,h2⟩
 | .e id off,_,e=>by
  simp only[R]at e⊢
  obtain⟨b,c,h1,h2⟩:=e
  exact⟨b,c,h _ _ h1,h2⟩
 | .f g caps,_,e=>by
  simp only[R]at e⊢
  obtain⟨cs,h1,h2⟩:=e
  exact⟨cs,h1,RL.mono h h2⟩
 | .i _ _,_,e=>by simp only[R]at e
theorem RL.mono(h:β.le β'):∀{ds:List DV} {ys:List Value},RL β ds ys→RL β' ds ys
 |[],_,e=>by simpa only[RL]using e
 |d::ds,_,e=>by
  simp only[RL]at e⊢
  obtain⟨x,xs,h1,h2,h3⟩:=e
  exact⟨x,xs,h1,R.mono h h2,RL.mono h h3⟩
end
theorem RL.length:∀{ps:List DV} {xs:List Value},RL β ps xs→xs.length=ps.length
 |[],_,h=>by simp only[RL]at h;simp[h]
 |p::ps,_,h=>by
  simp only[RL]at h
  obtain⟨x,xs,rfl,_,h3⟩:=h
  simp[RL.length h3]
theorem RL.get:∀{ps:List DV} {xs:List Value},RL β ps xs→∀(j:Nat) (p:DV),ps[j]? =some p→∃x,xs[j]? =some x∧R β p x
 |[],_,_,j,p,hp=>by simp at hp
 |q::ps,_,h,j,p,hp=>by
  simp only[RL]at h
  obtain⟨x,xs,rfl,h2,h3⟩:=h
  cases j with
  |zero=>simp at hp;subst hp;exact⟨x,rfl,h2⟩
  |succ j=>simpa using RL.get h3 j p (by simpa using hp)
theorem RL.append:∀{ps qs:List DV} {xs ys:List Value},RL β ps xs→RL β qs ys→RL β (ps++qs) (xs++ys)
 |[],_,_,_,h,h'=>by simp only[RL]at h;subst h;simpa using h'
 |p::ps,_,_,_,h,h'=>by
  simp only[RL]at h
  obtain⟨x,xs,rfl,h2,h3⟩:=h
  simp only[List.cons_append,RL]
  exact⟨x,_,rfl,h2,RL.append h3 h'⟩
theorem RL.take:∀{ps:List DV} {xs:List Value} (n:Nat),RL β ps xs→RL β (ps.take n) (xs.take n)
 |[],_,n,h=>by simp only[RL]at h;subst h;simp[RL]
 |p::ps,_,0,h=>by simp[RL]
 |p::ps,_,n+1,h=>by
  simp only[RL]at h
  obtain⟨x,xs,rfl,h2,h3⟩:=h
  simp only[List.take_succ_cons,RL]
  exact⟨x,_,rfl,h2,RL.take n h3⟩
theorem RL.drop:∀{ps:List DV} {xs:List Value} (n:Nat),RL β ps xs→RL β (ps.drop n) (xs.drop n)
 |[],_,n,h=>by simp only[RL]at h;subst h;simp[RL]
 |p::ps,_,0,h=>by simpa using h
 |p::ps,_,n+1,h=>by
  simp only[RL]at h
  obtain⟨x,xs,rfl,h2,h3⟩:=h
  simp only[List.drop_succ_cons];exact RL.drop n h3
theorem R.const1(x:Value):R β (const1 x) x:=by
 cases x<;>simp[Cx.const1,R]
theorem fQ(l:List Value):RL β (l.map Cx.const1) l:=by
 induction l with
 |nil=>simp[RL]
 |cons v l ih=>simp only[List.map_cons,RL];exact⟨v,l,rfl,R.const1 v,ih⟩
theorem R.const(x:Value):R β (constD x) x:=by
 cases x
 case agg cs=>simp only[constD,R];exact⟨cs,rfl,fQ cs.toList⟩
 all_goals (simp only[constD];exact R.const1 _)
theorem R.oneCell{d:DV}{x:Value}(h1:d.one=true)(h:R β d x):x.oneCell'=true:=by
 cases d with
 |bad=>simp[DV.one]at h1
 |v y=>simp only[R]at h;subst h;simpa[DV.one]using h1
 |s l=>simp only[R]at h;rw[h];rfl
 |a l=>simp[DV.one]at h1
 |t l=>simp[DV.one]at h1
 |p i o=>simp only[R]at h;obtain⟨b,c,_,rfl⟩:=h;rfl
 |l i o r n=>simp only[R]at h;obtain⟨b,c,_,_,rfl⟩:=h;rfl
 |e i o=>simp only[R]at h;obtain⟨b,c,_,rfl⟩:=h;rfl
 |f g cs=>simp only[R]at h;obtain⟨c,rfl,_⟩:=h;rfl
 |i t d=>simp only[R]at h
theorem RL.oneCell:∀{ps:List DV} {xs:List Value},ps.all DV.one=true→RL β ps xs→∀x∈xs,x.oneCell'=true
 |[],_,_,h=>by simp only[RL]at h;subst h;simp
 |p::ps,_,h1,h=>by
  simp only[RL]at h
  obtain⟨x,xs,rfl,h2,h3⟩:=h
  simp only[List.all_cons,Bool.and_eq_true]at h1;intro y hy;rcases List.mem_cons.1 hy with rfl|hy
  ·exact R.oneCell h1.1 h2
  ·exact RL.oneCell h1.2 h3 y hy
theorem iu{d:DV}{x:Value}{cs:List DV}(h:iy d=some cs)(hr:R β d x):RL β cs x.cells.toList∧∀y∈x.cells.toList,y.oneCell'=true:=by
 have single:d.one=true→x.cells=#[x]∧x.oneCell'=true:=by
  intro h1
  have:=R.oneCell h1 hr
  refine⟨?_,this⟩
  cases x<;>simp_all[Value.oneCell',Value.cells]
 cases d with
 |a l=>
  simp only[iy]at h;cases ho:l.all DV.one with
  |false=>simp[ho]at h
  |true=>
   simp only[ho,zc,zo]at h;subst h;simp only[R]at hr
   obtain⟨c,rfl,hc⟩:=hr
   exact⟨hc,RL.oneCell ho hc⟩
 |_=>
  simp only[iy]at h;cases ho:DV.one _ with
  |false=>rw[ho]at h;simp at h
  |true=>
   rw[ho]at h;simp only[zc,zo]at h;subst h;rw[(single ho).1];simp only[RL]
   exact⟨⟨x,[],rfl,hr,rfl⟩,by simpa using(single ho).2⟩
theorem kI{cells new:List DV}{cs ns:List Value}(hc:RL β cells cs)(hn:RL β new ns)(off:Nat):
  RL β (eN cells off new) (cs.take off++ns++cs.drop (off+ns.length)):=by
 unfold eN;rw[hn.length]
 exact((hc.take off).append hn).append (hc.drop _)
theorem jl{cells new:List DV}{off:Nat}(h:off+new.length≤cells.length):(eN cells off new).length=cells.length:=by
 simp only[eN,List.length_append,List.length_take,List.length_drop];omega
theorem iO{place:Nat→Option (Nat×Nat)}:∀{parts:List (Nat×DV)} {vals:List (Nat×Value)} {cells out:List DV} {cs:Array Value},
  gv place cells parts=some out→RL β cells cs.toList→parts.map (·.1)=vals.map (·.1)→RL β (parts.map (·.2)) (vals.map (·.2))→
  ∃cs',Instr.fill place cs vals=some cs'∧RL β out cs'.toList∧((∀x∈cs.toList,x.oneCell'=true)→∀x∈cs'.toList,x.oneCell'=true)
 |[],vals,cells,out,cs,h,hc,hi,hv=>by
  simp only[gv,zo]at h;subst h
  have:vals=[]:=by cases vals<;>simp_all
  subst this
  exact⟨cs,rfl,hc,id⟩
 |(i,p)::r,[],cells,out,cs,h,hc,hi,hv=>by simp at hi
 |(i,p)::r,(j,v)::vs,cells,out,cs,h,hc,hi,hv=>by
  simp only[List.map_cons,List.cons.injEq]at hi
  obtain⟨rfl,hi⟩:=hi
  simp only[List.map_cons,RL]at hv
  obtain⟨x,xs,hxe,hpx,hrest⟩:=hv
  simp only[List.cons.injEq]at hxe
  obtain⟨rfl,rfl⟩:=hxe
  simp only[gv]at h;split at h
  ·rename_i off size pc hpl hpc;cases hb:(Nat.beq pc.length size&&Nat.ble (off+size) cells.length)with
   |false=>simp[hb]at h
   |true=>
    simp only[hb,zc]at h;simp only[Bool.and_eq_true]at hb;have h1:pc.length=size:=Nat.eq_of_beq_eq_true hb.1;have h2:off+size≤cells.length:=Nat.le_of_ble_eq_true hb.2
    obtain⟨hpcr,hpone⟩:=iu hpc hpx
    have hvl:v.cells.size=size:=by have:=hpcr.length;simp at this;omega
    have hcl:cs.size=cells.length:=by have:=hc.length;simpa using this
    have hfold:=ij off v.cells.toList 0 cs (by simp;omega)
    have hz:v.cells.zipIdx.foldl (fun cs (c,j)=>cs.setIfInBounds (off+j) c) cs=(v.cells.toList.zipIdx 0).foldl (fun cs (c,j)=>cs.setIfInBounds (off+j) c) cs:=by
     rw[←Array.foldl_toList];simp
    have hrep:RL β (eN cells off pc) (v.cells.zipIdx.foldl (fun cs (c,j)=>cs.setIfInBounds (off+j) c) cs).toList:=by
     rw[hz,hfold];simpa using kI hc hpcr off
    obtain⟨cs',hf,ho,hone⟩:=iO h hrep hi hrest
    refine⟨cs',?_,ho,fun hall=>hone ?_⟩
    ·simp only[Instr.fill,hpl];rw[zy (by simp[hvl];omega)];exact hf
    ·rw[hz,hfold];intro y hy;simp only[Nat.add_zero,List.mem_append]at hy;rcases hy with(hy|hy)|hy
     ·exact hall y (List.mem_of_mem_take hy)
     ·exact hpone y hy
     ·exact hall y (List.mem_of_mem_drop hy)
  ·cases h
theorem partsD_rep{ev:Operand→DV}{ρ:Operand→Value}(ps:List (Nat×Operand))(h:∀x∈ps.map (·.2),R β (ev x) (ρ x)):
  (ps.map fun p=>(p.1,ev p.2)).map (·.1)=(ps.map fun p=>(p.1,ρ p.2)).map (·.1)∧RL β ((ps.map fun p=>(p.1,ev p.2)).map (·.2)) ((ps.map fun p=>(p.1,ρ p.2)).map (·.2)):=by
 induction ps with
 |nil=>simp[RL]
 |cons p ps ih=>
  have ih':=ih fun x hx=>h x (by simp only[List.map_cons,List.mem_cons];exact .inr hx)
  refine⟨by simp,?_⟩
  simp only[List.map_cons,RL]
  exact⟨_,_,rfl,h p.2 (by simp),ih'.2⟩
theorem buildD_sound{P:Program}{T:TT}(hT:T.Ok P){ev:Operand→DV}{ρ:Operand→Value}(w:World){t:TypeId}{ps:Array (Nat×Operand)}{r:DV}
  (h:buildD T t (partsD ev ps)=some r) (he:∀x∈ps.toList.map (·.2),R β (ev x) (ρ x)):
  ∃v,(Instr.build t (ps.map fun p=>(p.1,ρ p.2))).run P w= .ok v w∧R β r v:=by
 unfold buildD at h;split at h
 ·rename_i ti hti;have hk:=hT.get hti;split at h
  ·rename_i fs hfs;split at h
   ·rename_i l hl;cases hf:gv (fun(i:Nat)=>l[i]?) (fc ti) (partsD ev ps)with
    |none=>simp[hf]at h
    |some out=>
     simp only[hf,Option.map_some,zo]at h;subst h
     obtain⟨h1,h2⟩:=partsD_rep (β:=β) ps.toList he
     have hu:=hk.rund w;rw[hfs]at hu
     obtain⟨cs',hfill,hrep,_⟩:=iO (cs:=ti.zero.cells) (vals:=ps.toList.map fun(p:Nat×Operand)=>(p.1,ρ p.2)) hf (fQ _) h1 h2
     refine⟨.agg cs',?_,by simp only[R];exact⟨cs',rfl,hrep⟩⟩
     have hpl:(fs.mapM fun f=>(do pure (f.offset,←sizeOf f.type):Sem (Nat×Nat))).run P w= .ok l.toArray w:=by
      rw[Array.mapM_eq_mapM_toList,Sem.run_map,jm hT w hl];rfl
     have hgl:(fun(i:Nat)=>l.toArray[i]?)=fun(i:Nat)=>l[i]?:=by funext i;simp
     simp only[Instr.build,Sem.run_bind,hk.rzero w,Result.andThen_ok,hu,hpl,Array.toList_map];have e3:Instr.fill (fun(i:Nat)=>l.toArray[i]?) ti.zero.cells (ps.toList.map fun p=>(p.1,ρ p.2))=some cs':=by rw[hgl];exact hfill
     rw[e3];rfl
   ·cases h
  ·cases h
 ·cases h
end
theorem Tr.get_set{α:Type}:∀(n:Nat) (t:Tr α) (k:Nat) (x:α) (j:Nat),(Tr.set n t k x).get j=none∨(j=k∧(Tr.set n t k x).get j=some x)∨(j≠k∧(Tr.set n t k x).get j=t.get j)
 |0,_,_,_,_=>.inl rfl
 |n+1,t,k,x,j=>by
  have key:∀(l:Tr α) (v:Option α) (r:Tr α),t.get j=(Tr.node l v r).get j→Tr.set (n+1) t k x=(bif Nat.beq k 0 then .node l (some x) r else bif Nat.beq (k%2) 1 then .node (Tr.set n l (k/2) x) v r else .node l v (Tr.set n r (k/2-1) x))→
    (Tr.set (n+1) t k x).get j=none∨(j=k∧(Tr.set (n+1) t k x).get j=some x)∨(j≠k∧(Tr.set (n+1) t k x).get j=t.get j):=by
   intro l v r ht hs;rw[hs,ht];cases h0:Nat.beq k 0 with
   |true=>
    have hk:=Nat.eq_of_beq_eq_true h0;simp only[zc,Tr.get];cases g0:Nat.beq j 0 with
    |true=>
     have hj:=Nat.eq_of_beq_eq_true g0;exact .inr (.inl ⟨by omega,rfl⟩)
    |false=>
     have hj:=Nat.ne_of_beq_eq_false g0;exact .inr (.inr ⟨by omega,rfl⟩)
   |false=>
    have hk:=Nat.ne_of_beq_eq_false h0;cases h1:Nat.beq (k%2) 1 with
    |true=>
     have hk1:=Nat.eq_of_beq_eq_true h1;simp only[zd,zc,Tr.get];cases g0:Nat.beq j 0 with
     |true=>
      have hj:=Nat.eq_of_beq_eq_true g0;exact .inr (.inr ⟨by omega,rfl⟩)
     |false=>
      have hj:=Nat.ne_of_beq_eq_false g0;cases g1:Nat.beq (j%2) 1 with
      |true=>
       have hj1:=Nat.eq_of_beq_eq_true g1;simp only[zd,zc];rcases Tr.get_set n l (k/2) x (j/2)with h|⟨h,e⟩|⟨h,e⟩
       ·exact .inl h
       ·exact .inr (.inl ⟨by omega,e⟩)
       ·exact .inr (.inr ⟨by omega,e⟩)
      |false=>
       have hj1:=Nat.ne_of_beq_eq_false g1;simp only[zd];exact .inr (.inr ⟨fun e=>hj1 (e▸hk1),trivial⟩)
    |false=>
     have hk1:=Nat.ne_of_beq_eq_false h1;simp only[zd,Tr.get];cases g0:Nat.beq j 0 with
     |true=>
      have hj:=Nat.eq_of_beq_eq_true g0;exact .inr (.inr ⟨by omega,rfl⟩)
     |false=>
      have hj:=Nat.ne_of_beq_eq_false g0;cases g1:Nat.beq (j%2) 1 with
      |true=>
       have hj1:=Nat.eq_of_beq_eq_true g1;simp only[zd,zc];exact .inr (.inr ⟨fun e=>hk1 (e▸hj1),trivial⟩)
      |false=>
       have hj1:=Nat.ne_of_beq_eq_false g1;simp only[zd];rcases Tr.get_set n r (k/2-1) x (j/2-1)with h|⟨h,e⟩|⟨h,e⟩
       ·exact .inl h
       ·exact .inr (.inl ⟨by omega,e⟩)
       ·exact .inr (.inr ⟨by omega,e⟩)
  cases t with
  |nil=>
   refine key .nil none .nil ?_ rfl;simp only[Tr.get];cases Nat.beq j 0<;>cases Nat.beq (j%2) 1<;>rfl
  |node l v r=>exact key l v r rfl rfl
theorem dc{h:Tr (Option Blk)}{id:Nat}{x:Option Blk}{j:Nat}{k:Blk}(e:bV (h.set 24 id x) j=some k):(j=id∧x=some k)∨(j≠id∧bV h j=some k):=by
 unfold bV at e⊢;rcases Tr.get_set 24 h id x j with hn|⟨rfl,hs⟩|⟨hne,hs⟩
 ·rw[hn]at e;cases e
 ·rw[hs]at e;exact .inl ⟨rfl,e⟩
 ·rw[hs]at e;exact .inr ⟨hne,e⟩
def Tr.fits{α:Type}:Nat→Tr α→Prop
 |_,.nil=>True
 |0,.node _ _ _=>False
 |n+1,.node l _ r=>l.fits n∧r.fits n
theorem Tr.set_fits{α:Type}:∀(n:Nat) (t:Tr α) (k:Nat) (x:α),t.fits n→(Tr.set n t k x).fits n
 |0,_,_,_,_=>by simp[Tr.set,Tr.fits]
 |n+1,.nil,k,x,_=>by
  simp only[Tr.set]
  cases Nat.beq k 0<;>cases Nat.beq (k%2) 1<;>simp only[zc,zd,Tr.fits]<;>
   first|exact⟨trivial,trivial⟩|exact⟨Tr.set_fits n .nil _ x (by simp[Tr.fits]),trivial⟩|exact⟨trivial,Tr.set_fits n .nil _ x (by simp[Tr.fits])⟩|(cases n<;>simp[Tr.fits])
 |n+1,.node l v r,k,x,h=>by
  simp only[Tr.fits]at h;simp only[Tr.set]
  cases Nat.beq k 0<;>cases Nat.beq (k%2) 1<;>simp only[zc,zd,Tr.fits]<;>
   first|exact h|exact⟨Tr.set_fits n l _ x h.1,h.2⟩|exact⟨h.1,Tr.set_fits n r _ x h.2⟩
theorem Tr.get_same{α:Type}:∀(n:Nat) (t:Tr α) (k:Nat) (x:α),k+1<2^n→(Tr.set n t k x).get k=some x
 |0,_,k,_,h=>by simp at h
 |n+1,t,k,x,h=>by
  have key:∀(l:Tr α) (v:Option α) (r:Tr α),((bif Nat.beq k 0 then Tr.node l (some x) r else bif Nat.beq (k%2) 1 then .node (Tr.set n l (k/2) x) v r else .node l v (Tr.set n r (k/2-1) x)):Tr α).get k=some x:=by
   intro l v r;have hp:2^(n+1)=2*2^n:=by rw[Nat.pow_succ];omega
   cases h0:Nat.beq k 0 with
   |true=>simp[Tr.get,h0]
   |false=>
    have hk:=Nat.ne_of_beq_eq_false h0;cases h1:Nat.beq (k%2) 1 with
    |true=>
     have hk1:=Nat.eq_of_beq_eq_true h1;simp only[zd,zc,Tr.get,h0,h1];exact Tr.get_same n l (k/2) x (by omega)
    |false=>
     have:=Nat.ne_of_beq_eq_false h1
     simp only[zd,Tr.get,h0,h1];exact Tr.get_same n r (k/2-1) x (by omega)
  cases t with
  |nil=>exact key .nil none .nil
  |node l v r=>exact key l v r
theorem Tr.get_other{α:Type}:∀(n:Nat) (t:Tr α) (k:Nat) (x:α) (j:Nat),t.fits n→j≠k→(k+1<2^n)→(Tr.set n t k x).get j=t.get j
 |0,_,k,_,_,_,_,h=>by simp at h
 |n+1,t,k,x,j,hf,hj,h=>by
  have hp:2^(n+1)=2*2^n:=by rw[Nat.pow_succ];omega
  have key:∀(l:Tr α) (v:Option α) (r:Tr α),l.fits n→r.fits n→((bif Nat.beq k 0 then Tr.node l (some x) r else bif Nat.beq (k%2) 1 then .node (Tr.set n l (k/2) x) v r else .node l v (Tr.set n r (k/2-1) x)):Tr α).get j=(Tr.node l v r).get j:=by
   intro l v r hl hr;cases h0:Nat.beq k 0 with
   |true=>
    have hk:=Nat.eq_of_beq_eq_true h0;have g0:Nat.beq j 0=false:=by cases g:Nat.beq j 0 with|false=>rfl|true=>exact absurd (Nat.eq_of_beq_eq_true g) (by omega)
    simp[Tr.get,g0]
   |false=>
    have hk:=Nat.ne_of_beq_eq_false h0;cases h1:Nat.beq (k%2) 1 with
    |true=>
     have hk1:=Nat.eq_of_beq_eq_true h1;simp only[zd,zc,Tr.get];cases g0:Nat.beq j 0 with
     |true=>rfl
     |false=>
      cases g1:Nat.beq (j%2) 1 with
      |true=>
       have hj1:=Nat.eq_of_beq_eq_true g1;simp only[zd,zc];exact Tr.get_other n l (k/2) x (j/2) hl (by omega) (by omega)
      |false=>rfl
    |false=>
     have hk1:=Nat.ne_of_beq_eq_false h1;simp only[zd,Tr.get];cases g0:Nat.beq j 0 with
     |true=>rfl
     |false=>
      have hj0:=Nat.ne_of_beq_eq_false g0;cases g1:Nat.beq (j%2) 1 with
      |true=>rfl
      |false=>
       have hj1:=Nat.ne_of_beq_eq_false g1;simp only[zd];exact Tr.get_other n r (k/2-1) x (j/2-1) hr (by omega) (by omega)
  cases t with
  |nil=>
   have e:=key .nil none .nil (by cases n<;>simp[Tr.fits]) (by cases n<;>simp[Tr.fits])
   have e2:(Tr.node .nil none .nil:Tr α).get j=(Tr.nil:Tr α).get j:=by
    simp only[Tr.get];cases Nat.beq j 0<;>cases Nat.beq (j%2) 1<;>rfl
   exact e.trans e2
  |node l v r=>
   simp only[Tr.fits]at hf;exact key l v r hf.1 hf.2
def BOk(β:Be)(w:World)(id:Nat)(k:Blk):Prop:=
 ∃b c arr fz,β id=some (b,c)∧w.heap[b]? =some (.cells arr k.e fz)∧(k.wr=true→fz=(0,0))∧k.cells.length≤arr.size∧RL β k.cells (arr.toList.take k.cells.length)∧
  (∀m,k.cap=some m→c=m)∧(k.sz≠0→arr.size=c*k.sz)
structure WR(W0:World)(B:Nat→Option Go.Obj)(β:Be)(H:Hp)(w:World):Prop where
 os:w.os=W0.os
 tape:w.tape=W0.tape
 output:w.output=W0.output
 size:W0.heap.size≤w.heap.size
 prot:∀b o,B b=some o→w.heap[b]? =some o
 dom:∀id b c,β id=some (b,c)→id<H.nx∧b<w.heap.size
 blk:∀id k,bV H.h id=some k→BOk β w id k
 own:∀id k b c,bV H.h id=some k→β id=some (b,c)→B b=none
 inj:∀id id' k k' b c c',bV H.h id=some k→bV H.h id'=some k'→β id=some (b,c)→β id'=some (b,c')→id=id'
 fit:H.h.fits 24
structure Fr(w w':World)(b:Nat):Prop where
 os:w'.os=w.os
 tape:w'.tape=w.tape
 output:w'.output=w.output
 size:w.heap.size≤w'.heap.size
 other:∀b',b'≠b→b'<w.heap.size→w'.heap[b']? =w.heap[b']?
theorem Fr.setRow(w:World)(b:Nat)(arr:Array Value):Fr w (w.setRow b arr) b:=
 ⟨rfl,rfl,rfl,by simp,fun b' h _=>setRow_other w b b' _ h⟩
theorem Fr.alloc(w:World)(hd:World)(hdw:hd=w∨hd=w.drew)(o:Go.Obj):Fr w (hd.alloc o) w.heap.size:=by
 have e1:hd.heap=w.heap:=by rcases hdw with rfl|rfl<;>rfl
 have hsz:hd.heap.size=w.heap.size:=by rw[e1]
 refine⟨by rcases hdw with rfl|rfl<;>rfl,by rcases hdw with rfl|rfl<;>rfl,by rcases hdw with rfl|rfl<;>rfl,?_,fun b' _ hb'=>?_⟩
 ·rw[gZ,hsz];omega
 ·rw[heap_alloc_old hd _ (by rw[hsz];exact hb'),e1]
def updB(β:Be)(k:Nat)(x:Nat×Nat):Be:=fun j=>if j=k then some x else β j
section
variable{W0:World}{B:Nat→Option Go.Obj}{β:Be}{H:Hp}{w:World}
theorem WR.drew(hw:WR W0 B β H w):WR W0 B β H w.drew:=
 ⟨hw.os,hw.tape,hw.output,hw.size,hw.prot,hw.dom,hw.blk,hw.own,hw.inj,hw.fit⟩
theorem WR.fresh(hw:WR W0 B β H w):B w.heap.size=none:=by
 cases h:B w.heap.size with
 |none=>rfl
 |some o=>
  have:=(Array.getElem?_eq_some_iff.1 (hw.prot _ _ h)).1
  exact absurd this (Nat.lt_irrefl _)
theorem le_upd{id:Nat}(hid:β id=none)(x:Nat×Nat):β.le (updB β id x):=by
 intro j y hj;simp only[updB];by_cases e:j=id
 ·subst e;rw[hid]at hj;cases hj
 ·rw[zy e];exact hj
theorem ext_upd{id:Nat}(hid:β id=none)(x:Nat×Nat):Ext β (updB β id x) id (id+1):=
 ⟨le_upd hid x,fun j hj=>by simp only[updB];rw[zy (by omega)],Nat.le_succ _⟩
theorem WR.nx_none(hw:WR W0 B β H w):β H.nx=none:=by
 cases h:β H.nx with
 |none=>rfl
 |some x=>exact absurd (hw.dom _ x.1 x.2 h).1 (Nat.lt_irrefl _)
theorem WR.put(hw:WR W0 B β H w){w':World}{b c id nx:Nat}{arr:Array Value}{fz:Nat×Nat}{k:Blk}(hid:β id=none)(hnx:H.nx≤nx)(hlt:id<nx)(hlook:∀k,bV H.h id≠some k)(hB:B b=none)(hfree:∀j k c,bV H.h j=some k→β j≠some (b,c))
  (hf:Fr w w' b) (hnew:w'.heap[b]? =some (.cells arr k.e fz))
  (hfz:k.wr=true→fz=(0,0)) (hlen:k.cells.length≤arr.size) (hr:RL β k.cells (arr.toList.take k.cells.length)) (hc:∀m,k.cap=some m→c=m) (hs:k.sz≠0→arr.size=c*k.sz):
  WR W0 B (updB β id (b,c)) ⟨H.h.set 24 id (some k),nx⟩ w':=by
 have hle:=le_upd hid (b,c);have hbl:b<w'.heap.size:=(Array.getElem?_eq_some_iff.1 hnew).1
 have same:∀j b' c',j≠id→updB β id (b,c) j=some (b',c')→β j=some (b',c'):=by
  intro j b' c' hj h;simpa only[updB,zy hj]using h
 have new:∀b' c',updB β id (b,c) id=some (b',c')→b'=b∧c'=c:=by
  intro b' c' h;simp only[updB,if_true,zo,Prod.mk.injEq]at h
  exact⟨h.1.symm,h.2.symm⟩
 refine⟨hf.os.trans hw.os,hf.tape.trans hw.tape,hf.output.trans hw.output,Nat.le_trans hw.size hf.size,?_,?_,?_,?_,?_,Tr.set_fits _ _ _ _ hw.fit⟩
 ·intro b' o hb';have h1:=hw.prot b' o hb';rw[hf.other b' (fun e=>by rw[e,hB]at hb';cases hb') (Array.getElem?_eq_some_iff.1 h1).1];exact h1
 ·intro j b' c' hj;show j<nx∧_;by_cases e:j=id
  ·subst e
   obtain⟨rfl,rfl⟩:=new _ _ hj
   exact⟨hlt,hbl⟩
  ·obtain⟨h1,h2⟩:=hw.dom j b' c' (same j b' c' e hj)
   exact⟨by omega,Nat.lt_of_lt_of_le h2 hf.size⟩
 ·intro j k' hj;rcases dc hj with⟨rfl,e⟩|⟨hne,e⟩
  ·cases e
   exact⟨b,c,arr,fz,by simp[updB],hnew,hfz,hlen,hr.mono hle,hc,hs⟩
  ·obtain⟨b',c',arr',fz',h1,h2,h3,h4,h5,h6,h7⟩:=hw.blk j k' e
   have hb':b'≠b:=fun eb=>hfree j k' c' e (by rw[h1,eb])
   exact⟨b',c',arr',fz',hle _ _ h1,(hf.other b' hb' (hw.dom j b' c' h1).2).trans h2,h3,h4,h5.mono hle,h6,h7⟩
 ·intro j k' b' c' hj h1;rcases dc hj with⟨e,_⟩|⟨e,hk⟩
  ·rw[e]at h1
   obtain⟨rfl,_⟩:=new _ _ h1
   exact hB
  ·exact hw.own j k' b' c' hk (same j _ _ e h1)
 ·intro j j' k1 k2 b1 c1 c2 hj hj' h1 h2;rcases dc hj with⟨e,_⟩|⟨e,hk⟩<;>rcases dc hj' with⟨e',_⟩|⟨e',hk'⟩
  ·rw[e,e']
  ·rw[e]at h1
   obtain⟨rfl,_⟩:=new _ _ h1
   exact absurd (same j' _ _ e' h2) (hfree j' k2 c2 hk')
  ·rw[e']at h2
   obtain⟨rfl,_⟩:=new _ _ h2
   exact absurd (same j _ _ e h1) (hfree j k1 c1 hk)
  ·exact hw.inj j j' k1 k2 b1 c1 c2 hk hk' (same j _ _ e h1) (same j' _ _ e' h2)
theorem WR.nlook(hw:WR W0 B β H w){id:Nat}(hid:β id=none):∀k,bV H.h id≠some k:=by
 intro k h
 obtain⟨b,c,_,_,h1,_⟩:=hw.blk id k h
 rw[hid]at h1;cases h1
theorem WR.new(hw:WR W0 B β H w)(hd:World)(hdw:hd=w∨hd=w.drew){c:Nat}{arr:Array Value}{fz:Nat×Nat}{k:Blk}(hfz:k.wr=true→fz=(0,0))(hlen:k.cells.length≤arr.size)
  (hr:RL β k.cells (arr.toList.take k.cells.length)) (hc:∀m,k.cap=some m→c=m) (hs:k.sz≠0→arr.size=c*k.sz):
  Ext β (updB β H.nx (w.heap.size,c)) H.nx (H.nx+1)∧WR W0 B (updB β H.nx (w.heap.size,c)) (newD H k) (hd.alloc (.cells arr k.e fz)):=by
 refine⟨ext_upd hw.nx_none _,hw.put hw.nx_none (Nat.le_succ _) (Nat.lt_succ_self _) (hw.nlook hw.nx_none) hw.fresh (fun j k c _ h=>absurd (hw.dom j _ _ h).2 (Nat.lt_irrefl _)) (Fr.alloc w hd hdw _) ?_ hfz hlen hr hc hs⟩
 have e1:hd.heap.size=w.heap.size:=by rcases hdw with rfl|rfl<;>rfl
 rw[←e1];exact heap_alloc_new hd _
theorem WR.write(hw:WR W0 B β H w){id b c:Nat}{k:Blk}(hid:bV H.h id=some k)(hβ:β id=some (b,c)){arr:Array Value}{cells:List DV}(hcur:∃cur,w.heap[b]? =some (.cells cur k.e (0,0))∧cur.size=arr.size)
  (hlen:cells.length≤arr.size) (hr:RL β cells (arr.toList.take cells.length)):WR W0 B β ⟨H.h.set 24 id (some ⟨k.e,k.sz,k.cap,k.wr,cells⟩),H.nx⟩ (w.setRow b arr):=by
 obtain⟨cur,hcur,hsz⟩:=hcur
 have old:∀j k',bV (H.h.set 24 id (some ⟨k.e,k.sz,k.cap,k.wr,cells⟩)) j=some k'→∃k'',bV H.h j=some k'':=by
  intro j k' hj;rcases dc hj with⟨rfl,e⟩|⟨_,e⟩
  ·exact⟨k,hid⟩
  ·exact⟨k',e⟩
 refine⟨hw.os,hw.tape,hw.output,by simpa using hw.size,fun b' o hb'=>?_,fun j b' c' hj=>?_,fun j k' hj=>?_,fun j k' b' c' hj h1=>?_,fun j j' k1 k2 b1 c1 c2 hj hj' h1 h2=>?_,Tr.set_fits _ _ _ _ hw.fit⟩
 ·have hne:b'≠b:=fun e=>by
   rw[e,hw.own id k b c hid hβ]at hb';cases hb'
  rw[setRow_other w b b' _ hne];exact hw.prot b' o hb'
 ·simpa using hw.dom j b' c' hj
 ·obtain⟨b0,c0,arr0,fz0,g1,g2,g3,g4,g5,g6,g7⟩:=hw.blk id k hid
  rw[hβ]at g1;cases g1;rw[hcur]at g2;cases g2;rcases dc hj with⟨rfl,e⟩|⟨hne,e⟩
  ·cases e
   exact⟨b,c,arr,(0,0),hβ,setRow_heap w b cur arr _ _ hcur,fun _=>rfl,hlen,hr,g6,fun h=>by rw[←hsz];exact g7 h⟩
  ·obtain⟨b',c',arr',fz',h1,h2,h3⟩:=hw.blk j k' e
   have hb':b'≠b:=fun eb=>hne (hw.inj j id k' k b c' c e hid (by rw[h1,eb]) hβ)
   exact⟨b',c',arr',fz',h1,(setRow_other w b b' _ hb').trans h2,h3⟩
 ·obtain⟨k'',hk''⟩:=old j k' hj
  exact hw.own j k'' b' c' hk'' h1
 ·obtain⟨k1',hk1⟩:=old j k1 hj
  obtain⟨k2',hk2⟩:=old j' k2 hj'
  exact hw.inj j j' k1' k2' b1 c1 c2 hk1 hk2 h1 h2
theorem WR.less(hw:WR W0 B β H w){H':Hp}(hl:∀id k,bV H'.h id=some k→bV H.h id=some k)(hnx:H.nx≤H'.nx)(hf:H'.h.fits 24):WR W0 B β H' w:=
 ⟨hw.os,hw.tape,hw.output,hw.size,hw.prot,fun id b c h=>⟨Nat.lt_of_lt_of_le (hw.dom id b c h).1 hnx,(hw.dom id b c h).2⟩,fun j k' hj=>hw.blk j k' (hl _ _ hj),fun j k b c hj=>hw.own j k b c (hl _ _ hj),
  fun j j' k1 k2 b1 c1 c2 hj hj'=>hw.inj j j' k1 k2 b1 c1 c2 (hl _ _ hj) (hl _ _ hj'),hf⟩
theorem look_drop{h:Tr (Option Blk)}{id j:Nat}{k:Blk}(e:bV (h.set 24 id none) j=some k):j≠id∧bV h j=some k:=by
 rcases dc e with⟨_,e1⟩|⟨hne,e1⟩
 ·cases e1
 ·exact⟨hne,e1⟩
theorem WR.drop(hw:WR W0 B β H w)(id:Nat):WR W0 B β ⟨H.h.set 24 id none,H.nx⟩ w:=
 hw.less (fun _ _ h=>(look_drop h).2) (Nat.le_refl _) (Tr.set_fits _ _ _ _ hw.fit)
theorem WR.cell(hw:WR W0 B β H w){id b c:Nat}{k:Blk}(hid:bV H.h id=some k)(hβ:β id=some (b,c)):
  ∃xs:List Value,RL β k.cells xs∧∀(j:Nat) (x:Value),xs[j]? =some x→w.cell? ⟨b,j,none⟩=some x:=by
 obtain⟨b0,c0,arr,fz,g1,g2,g3,g4,g5,_⟩:=hw.blk id k hid
 rw[hβ]at g1;cases g1
 refine⟨_,g5,fun j x hj=>?_⟩
 rw[cell_of_row w b j arr k.e fz g2];rw[List.getElem?_take]at hj;split at hj
 ·simpa using hj
 ·cases hj
end
end
end Go.Cx
