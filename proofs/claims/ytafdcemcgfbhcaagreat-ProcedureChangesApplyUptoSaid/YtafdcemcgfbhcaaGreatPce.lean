/- procedureChangesApplyUpto_holds, part 5: the layer, the plain functions and what they compute; conditions as in the statement. -/
import Derived.Test.YtafdcemcgfbhcaaGreatPcd
set_option maxHeartbeats 4000000
namespace Go.Proofs.YtafdcemcgfbhcaaGreat
noncomputable section
open Go Go.Ab Go.Proofs.Tryz
attribute [local irreducible] V Ao Do Gh Eff PH IntKind.wrap
set_option maxRecDepth 4000
def gG(data:Rs)(a:Int)(b:Int)(pivot:Int):Option (Int×Rs):=
 ae (aG data pivot) fun(x17:Rb)=>
 ae (aG data a) fun(x21:Rb)=>
 ae (aG data a) fun(_:Rb)=>
 letP (data.set a.toNat x17) fun(y1:Rs)=>
 ae (aG y1 pivot) fun(_:Rb)=>
 letP (y1.set pivot.toNat x21) fun(y2:Rs)=>
 ae (dg (σ:=Rs×Int×Int) (ρ:=Empty) (fun(s3:Rs×Int×Int)=>
  ae (dg (σ:=Rs×Int) (ρ:=Empty) (fun(s12:Rs×Int)=>
   cond (decide (s12.2<=s3.2.2))
    (ae (aG s12.1 a) fun(x35:Rb)=>
    ae (aG s12.1 s12.2) fun(x39:Rb)=>
    letP (cM x35 x39) fun x41=>
    cond (!x41)
     (some (.next (s12.1,(iw (s12.2+(1:Int))))))
     (some (.brk (s12.1,s12.2))))
    (some (.brk (s12.1,s12.2)))) (s3.1,s3.2.1)) fun fl12=>fl12.thenP fun(s12:Rs×Int)=>
  ae (dg (σ:=Rs×Int) (ρ:=Empty) (fun(s13:Rs×Int)=>
   cond (decide (s12.2<=s13.2))
    (ae (aG s13.1 a) fun(x52:Rb)=>
    ae (aG s13.1 s13.2) fun(x56:Rb)=>
    letP (cM x52 x56) fun x58=>
    cond x58
     (some (.next (s13.1,(iw (s13.2-(1:Int))))))
     (some (.brk (s13.1,s13.2))))
    (some (.brk (s13.1,s13.2)))) (s12.1,s3.2.2)) fun fl13=>fl13.thenP fun(s13:Rs×Int)=>
  cond (decide (s12.2>s13.2))
   (some (.brk (s13.1,s12.2,s13.2)))
   (ae (aG s13.1 s13.2) fun(x71:Rb)=>
   ae (aG s13.1 s12.2) fun(x75:Rb)=>
   ae (aG s13.1 s12.2) fun(_:Rb)=>
   letP (s13.1.set s12.2.toNat x71) fun(y14:Rs)=>
   ae (aG y14 s13.2) fun(_:Rb)=>
   letP (y14.set s13.2.toNat x75) fun(y15:Rs)=>
   some (.next (y15,(iw (s12.2+(1:Int))),(iw (s13.2-(1:Int))))))) (y2,(iw (a+(1:Int))),(iw (b-(1:Int))))) fun fl3=>fl3.thenP fun(s3:Rs×Int×Int)=>
 some (s3.2.1,s3.1)
theorem mn(g_data:OwnRef)(data:Rs)(a:Int)(b:Int)(pivot:Int)(r:Int×Rs)(H:gG data a b pivot=some r):
  PH prog 85 [(.own 0 g_data (data.map aA).length),(ah a),(ah b),(ah pivot)] ⟨fun _=>none,upd (fun _=>none) 0 (some ⟨g_data,9,(data.map aA),true⟩)⟩ (fun u H=>u=(ah r.1)/\H=⟨fun _=>none,upd (fun _=>none) 0 (some ⟨g_data,9,(r.2.map aA),true⟩)⟩):=by
 unfold gG at H;refine PH.au func85 ntmps85 ?_;refine ak 1 tk Z (aa ?_);refine cA (tag:=0) Z (fun ho0=>?_);refine aX tk mok ⟨false,true,[]⟩ [0,1,2,3,4,5,6,7,8,9,10,11,12,13,14,15] Z (by decide+kernel) Z (az 6 Z ?_)
 obtain⟨x17,k17,H⟩:=aV H
 refine aT tk ⟨k17.1,(bh k17.2)⟩ (bf ho0 k17.2) ?_;refine bo tk Z Z Z Z Z Z Z Z Z (aC (fun _=>Z) k17.2) Z Z ?_;refine az 2 Z ?_
 obtain⟨x21,k21,H⟩:=aV H
 refine aT tk ⟨k21.1,(bh k21.2)⟩ (bf ho0 k21.2) ?_;refine bo tk Z Z Z Z Z Z Z Z Z (aC (fun _=>Z) k21.2) Z Z ?_
 obtain⟨x23,k23,H⟩:=aV H
 refine aT tk ⟨k23.1,(bh k23.2)⟩ (bf ho0 k23.2) ?_
 obtain⟨y1,hy1,H⟩:=bF H
 refine cg tk Z Z Z Z Z Z Z Z Z (by rw[zl];exact(zg.1 k23.2).1) (PLe.refl _ _) Z Z Z Z (by decide) (bD (fun _=>Z) k23.2 Z hy1) ?_
 obtain⟨x24,k24,H⟩:=aV H
 refine aT tk ⟨k24.1,(gJ (bt (f:=aA) hy1) k24.2)⟩ (gX ho0 (bt (f:=aA) hy1) k24.2) ?_
 obtain⟨y2,hy2,H⟩:=bF H
 refine cg tk Z Z Z Z Z Z Z Z Z (by rw[zl];exact(zg.1 k24.2).1) (PLe.refl _ _) Z Z Z Z (by decide) (bD (fun _=>Z) k24.2 Z hy2) ?_;refine aQ (ak 6 tk Z (aa ?_))
 obtain⟨fl3,H3,Hp3⟩:=am H
 refine dj (τ:=Rs×Int×Int) (γ:=Unit) (fun s3 g3=>⟨84,upd (upd (fun _=>.any) 9 (ah s3.2.1)) 0 (.own 0 g_data (s3.1.map aA).length),fun _=>none,upd (fun _=>none) 0 (some ⟨g_data,9,(s3.1.map aA),true⟩)⟩) (fun t=>fl3= .next t) ?_ (fun s3 g3 hn3=>?_)
 ·refine av ?_;refine cO (fun s3 g3=>⟨84,upd (upd (upd (upd (fun _=>.any) 10 (ah s3.2.2)) 9 (ah s3.2.1)) 1 (ah a)) 0 (.own 0 g_data (s3.1.map aA).length),fun _=>none,upd (fun _=>none) 0 (some ⟨g_data,9,(s3.1.map aA),true⟩)⟩) () H3 (Gh.le (bp (PLe.of2 (pD.of_eq (congrArg (PV.own 0 g_data) ((bt (f:=aA) hy1).trans (bt (f:=aA) hy2))))) (ao (ao (ao aL)))) aw (aD ax)) (fun m3 s3 g3 hr3=>?_)
  obtain⟨fb3,H,hg3⟩:=cp hr3
  refine av (aa ?_)
  obtain⟨fl12,H12,Hp12⟩:=am H
  refine dj (τ:=Rs×Int) (γ:=Unit) (fun s12 g12=>⟨84,upd (upd (upd (upd (fun _=>.any) 10 (ah s3.2.2)) 9 (ah s12.2)) 1 (ah a)) 0 (.own 0 g_data (s12.1.map aA).length),fun _=>none,upd (fun _=>none) 0 (some ⟨g_data,9,(s12.1.map aA),true⟩)⟩) (fun t=>fl12= .next t) ?_ (fun s12 g12 hn12=>?_)
  ·refine av ?_;refine cO (fun s12 g12=>⟨84,upd (upd (upd (upd (fun _=>.any) 10 (ah s3.2.2)) 9 (ah s12.2)) 1 (ah a)) 0 (.own 0 g_data (s12.1.map aA).length),fun _=>none,upd (fun _=>none) 0 (some ⟨g_data,9,(s12.1.map aA),true⟩)⟩) () H12 Gh.d (fun m12 s12 g12 hr12=>?_)
   obtain⟨fb12,H,hg12⟩:=cp hr12
   refine aa (aa ?_);refine cA (tag:=0) Z (fun ho0=>?_);refine aX tk mok ⟨false,true,[]⟩ [0,1,2,3,4,5,6,7,8,9,10,11,12,13,14] Z (by decide+kernel) Z (az 4 Z ?_);refine gi H (fun H=>?_) (fun H=>?_)
   ·refine az 2 Z ?_
    obtain⟨x35,k35,H⟩:=aV H
    refine aT tk ⟨k35.1,(bh k35.2)⟩ (bf ho0 k35.2) ?_;refine bo tk Z Z Z Z Z Z Z Z Z (aC (fun _=>Z) k35.2) Z Z ?_;refine az 2 Z ?_
    obtain⟨x39,k39,H⟩:=aV H
    refine aT tk ⟨k39.1,(bh k39.2)⟩ (bf ho0 k39.2) ?_;refine bo tk Z Z Z Z Z Z Z Z Z (aC (fun _=>Z) k39.2) Z Z ?_
    obtain⟨x41,h41,H⟩:=bF H
    have s41:=dy x35 x39;rw[h41]at s41;refine aS call84 (jt.r) s41 ?_;refine az 2 Z (aQ ?_);refine aF Z H (fun H=>?_) (fun H=>?_)
    ·refine al (av (bc 3 tk Z (aM ?_)));obtain rfl:=aq H;refine ce (s12.1,(iw (s12.2+(1:Int)))) () hg12 Gh.d
    refine bj Z ?_;obtain rfl:=aq H;refine aP (s12.1,s12.2) () hg12 Gh.d
   refine az 11 Z (aQ (bH Z (bj Z ?_)));obtain rfl:=aq H;refine aP (s12.1,s12.2) () hg12 Gh.d
  have H:=ci hn12 Hp12;refine aa ?_
  obtain⟨fl13,H13,Hp13⟩:=am H
  refine dj (τ:=Rs×Int) (γ:=Unit) (fun s13 g13=>⟨84,upd (upd (upd (upd (fun _=>.any) 10 (ah s13.2)) 9 (ah s12.2)) 1 (ah a)) 0 (.own 0 g_data (s13.1.map aA).length),fun _=>none,upd (fun _=>none) 0 (some ⟨g_data,9,(s13.1.map aA),true⟩)⟩) (fun t=>fl13= .next t) ?_ (fun s13 g13 hn13=>?_)
  ·refine av ?_;refine cO (fun s13 g13=>⟨84,upd (upd (upd (upd (fun _=>.any) 10 (ah s13.2)) 9 (ah s12.2)) 1 (ah a)) 0 (.own 0 g_data (s13.1.map aA).length),fun _=>none,upd (fun _=>none) 0 (some ⟨g_data,9,(s13.1.map aA),true⟩)⟩) () H13 Gh.d (fun m13 s13 g13 hr13=>?_)
   obtain⟨fb13,H,hg13⟩:=cp hr13
   refine aa (aa ?_);refine cA (tag:=0) Z (fun ho0=>?_);refine aX tk mok ⟨false,true,[]⟩ [0,1,2,3,4,5,6,7,8,9,10,11,12,13] Z (by decide+kernel) Z (az 4 Z ?_);refine gi H (fun H=>?_) (fun H=>?_)
   ·refine az 2 Z ?_
    obtain⟨x52,k52,H⟩:=aV H
    refine aT tk ⟨k52.1,(bh k52.2)⟩ (bf ho0 k52.2) ?_;refine bo tk Z Z Z Z Z Z Z Z Z (aC (fun _=>Z) k52.2) Z Z ?_;refine az 2 Z ?_
    obtain⟨x56,k56,H⟩:=aV H
    refine aT tk ⟨k56.1,(bh k56.2)⟩ (bf ho0 k56.2) ?_;refine bo tk Z Z Z Z Z Z Z Z Z (aC (fun _=>Z) k56.2) Z Z ?_
    obtain⟨x58,h58,H⟩:=bF H
    have s58:=dy x52 x56;rw[h58]at s58;refine aS call84 (jt.r) s58 ?_;refine bw Z (aQ ?_);refine aF Z H (fun H=>?_) (fun H=>?_)
    ·refine al (av (bc 3 tk Z (aM ?_)));obtain rfl:=aq H;refine ce (s13.1,(iw (s13.2-(1:Int)))) () hg13 Gh.d
    refine bj Z ?_;obtain rfl:=aq H;refine aP (s13.1,s13.2) () hg13 Gh.d
   refine az 10 Z (aQ (bH Z (bj Z ?_)));obtain rfl:=aq H;refine aP (s13.1,s13.2) () hg13 Gh.d
  have H:=ci hn13 Hp13;refine aa (ak 3 tk Z ?_);refine aF Z H (fun H=>?_) (fun H=>?_)
  ·refine bj Z ?_;obtain rfl:=aq H;refine aP (s13.1,s12.2,s13.2) () hg3 Gh.d
  refine al (aa ?_);refine cA (tag:=0) Z (fun ho0=>?_);refine aX tk mok ⟨false,true,[]⟩ [0,1,2,3,4,5,6,7,8,9,10,11,12,13,14,15] Z (by decide+kernel) Z (az 6 Z ?_)
  obtain⟨x71,k71,H⟩:=aV H
  refine aT tk ⟨k71.1,(bh k71.2)⟩ (bf ho0 k71.2) ?_;refine bo tk Z Z Z Z Z Z Z Z Z (aC (fun _=>Z) k71.2) Z Z ?_;refine az 2 Z ?_
  obtain⟨x75,k75,H⟩:=aV H
  refine aT tk ⟨k75.1,(bh k75.2)⟩ (bf ho0 k75.2) ?_;refine bo tk Z Z Z Z Z Z Z Z Z (aC (fun _=>Z) k75.2) Z Z ?_
  obtain⟨x77,k77,H⟩:=aV H
  refine aT tk ⟨k77.1,(bh k77.2)⟩ (bf ho0 k77.2) ?_
  obtain⟨y14,hy14,H⟩:=bF H
  refine cg tk Z Z Z Z Z Z Z Z Z (by rw[zl];exact(zg.1 k77.2).1) (PLe.refl _ _) Z Z Z Z (by decide) (bD (fun _=>Z) k77.2 Z hy14) ?_
  obtain⟨x78,k78,H⟩:=aV H
  refine aT tk ⟨k78.1,(gJ (bt (f:=aA) hy14) k78.2)⟩ (gX ho0 (bt (f:=aA) hy14) k78.2) ?_
  obtain⟨y15,hy15,H⟩:=bF H
  refine cg tk Z Z Z Z Z Z Z Z Z (by rw[zl];exact(zg.1 k78.2).1) (PLe.refl _ _) Z Z Z Z (by decide) (bD (fun _=>Z) k78.2 Z hy15) ?_;refine aQ (ak 3 tk Z (bc 3 tk Z (aM ?_)));obtain rfl:=aq H;refine ce (y15,(iw (s12.2+(1:Int))),(iw (s13.2-(1:Int)))) () hg3 (Gh.le (bp (PLe.of2 (pD.of_eq (congrArg (PV.own 0 g_data) ((bt (f:=aA) hy14).trans (bt (f:=aA) hy15))))) (ao (ao (ao aL)))) aw (aD ax))
 have H:=ci hn3 Hp3;refine ak 2 tk Z ?_;obtain rfl:=aq H;refine bZ (st':=⟨84,upd (fun _=>.any) 8 (ah s3.2.1),fun _=>none,upd (fun _=>none) 0 (some ⟨g_data,9,(s3.1.map aA),true⟩)⟩) (Gh.le (ao aL) aw (aD ax)) ?_;refine cl tk Z (ps:=[(ah s3.2.1)]) ⟨_,_,rfl,rfl,rfl⟩ (PLe.q Z) ⟨rfl,rfl⟩
def iB(data:Rs)(a:Int)(b:Int)(pivot:Int):Option (Int×Bool×Rs):=
 ae (aG data pivot) fun(x18:Rb)=>
 ae (aG data a) fun(x22:Rb)=>
 ae (aG data a) fun(_:Rb)=>
 letP (data.set a.toNat x18) fun(y1:Rs)=>
 ae (aG y1 pivot) fun(_:Rb)=>
 letP (y1.set pivot.toNat x22) fun(y2:Rs)=>
 ae (dg (σ:=Rs×Int) (ρ:=Empty) (fun(s3:Rs×Int)=>
  cond (decide (s3.2<=(iw (b-(1:Int)))))
   (ae (aG s3.1 s3.2) fun(x36:Rb)=>
   ae (aG s3.1 a) fun(x40:Rb)=>
   letP (cM x36 x40) fun x42=>
   cond x42
    (some (.next (s3.1,(iw (s3.2+(1:Int))))))
    (some (.brk (s3.1,s3.2))))
   (some (.brk (s3.1,s3.2)))) (y2,(iw (a+(1:Int))))) fun fl3=>fl3.thenP fun(s3:Rs×Int)=>
 ae (dg (σ:=Rs×Int) (ρ:=Empty) (fun(s4:Rs×Int)=>
  cond (decide (s3.2<=s4.2))
   (ae (aG s4.1 s4.2) fun(x52:Rb)=>
   ae (aG s4.1 a) fun(x56:Rb)=>
   letP (cM x52 x56) fun x58=>
   cond (!x58)
    (some (.next (s4.1,(iw (s4.2-(1:Int))))))
    (some (.brk (s4.1,s4.2))))
   (some (.brk (s4.1,s4.2)))) (s3.1,(iw (b-(1:Int))))) fun fl4=>fl4.thenP fun(s4:Rs×Int)=>
 cond (decide (s3.2>s4.2))
  (ae (aG s4.1 a) fun(x72:Rb)=>
  ae (aG s4.1 s4.2) fun(x76:Rb)=>
  ae (aG s4.1 s4.2) fun(_:Rb)=>
  letP (s4.1.set s4.2.toNat x72) fun(y5:Rs)=>
  ae (aG y5 a) fun(_:Rb)=>
  letP (y5.set a.toNat x76) fun(y6:Rs)=>
  some (s4.2,true,y6))
  (ae (aG s4.1 s4.2) fun(x87:Rb)=>
  ae (aG s4.1 s3.2) fun(x91:Rb)=>
  ae (aG s4.1 s3.2) fun(_:Rb)=>
  letP (s4.1.set s3.2.toNat x87) fun(y7:Rs)=>
  ae (aG y7 s4.2) fun(_:Rb)=>
  letP (y7.set s4.2.toNat x91) fun(y8:Rs)=>
  ae (dg (σ:=Rs×Int×Int) (ρ:=Empty) (fun(s9:Rs×Int×Int)=>
   ae (dg (σ:=Rs×Int) (ρ:=Empty) (fun(s18:Rs×Int)=>
    cond (decide (s18.2<=s9.2.2))
     (ae (aG s18.1 s18.2) fun(x105:Rb)=>
     ae (aG s18.1 a) fun(x109:Rb)=>
     letP (cM x105 x109) fun x111=>
     cond x111
      (some (.next (s18.1,(iw (s18.2+(1:Int))))))
      (some (.brk (s18.1,s18.2))))
     (some (.brk (s18.1,s18.2)))) (s9.1,s9.2.1)) fun fl18=>fl18.thenP fun(s18:Rs×Int)=>
   ae (dg (σ:=Rs×Int) (ρ:=Empty) (fun(s19:Rs×Int)=>
    cond (decide (s18.2<=s19.2))
     (ae (aG s19.1 s19.2) fun(x121:Rb)=>
     ae (aG s19.1 a) fun(x125:Rb)=>
     letP (cM x121 x125) fun x127=>
     cond (!x127)
      (some (.next (s19.1,(iw (s19.2-(1:Int))))))
      (some (.brk (s19.1,s19.2))))
     (some (.brk (s19.1,s19.2)))) (s18.1,s9.2.2)) fun fl19=>fl19.thenP fun(s19:Rs×Int)=>
   cond (decide (s18.2>s19.2))
    (some (.brk (s19.1,s18.2,s19.2)))
    (ae (aG s19.1 s19.2) fun(x141:Rb)=>
    ae (aG s19.1 s18.2) fun(x145:Rb)=>
    ae (aG s19.1 s18.2) fun(_:Rb)=>
    letP (s19.1.set s18.2.toNat x141) fun(y20:Rs)=>
    ae (aG y20 s19.2) fun(_:Rb)=>
    letP (y20.set s19.2.toNat x145) fun(y21:Rs)=>
    some (.next (y21,(iw (s18.2+(1:Int))),(iw (s19.2-(1:Int))))))) (y8,(iw (s3.2+(1:Int))),(iw (s4.2-(1:Int))))) fun fl9=>fl9.thenP fun(s9:Rs×Int×Int)=>
  ae (aG s9.1 a) fun(x159:Rb)=>
  ae (aG s9.1 s9.2.2) fun(x163:Rb)=>
  ae (aG s9.1 s9.2.2) fun(_:Rb)=>
  letP (s9.1.set s9.2.2.toNat x159) fun(y22:Rs)=>
  ae (aG y22 a) fun(_:Rb)=>
  letP (y22.set a.toNat x163) fun(y23:Rs)=>
  some (s9.2.2,false,y23))
theorem nm(g_data:OwnRef)(data:Rs)(a:Int)(b:Int)(pivot:Int)(r:Int×Bool×Rs)(H:iB data a b pivot=some r):
  PH prog 86 [(.own 0 g_data (data.map aA).length),(ah a),(ah b),(ah pivot)] ⟨fun _=>none,upd (fun _=>none) 0 (some ⟨g_data,9,(data.map aA),true⟩)⟩ (fun u H=>u=(.tup [(ah r.1),(aK r.2.1)])/\H=⟨fun _=>none,upd (fun _=>none) 0 (some ⟨g_data,9,(r.2.2.map aA),true⟩)⟩):=by
 unfold iB at H;refine PH.au func86 ntmps86 ?_;refine ak 2 tk Z (aa ?_);refine cA (tag:=0) Z (fun ho0=>?_);refine aX tk mok ⟨false,true,[]⟩ [0,1,2,3,4,5,6,7,8,9,10,11,12,13,14,15] Z (by decide+kernel) Z (az 6 Z ?_)
 obtain⟨x18,k18,H⟩:=aV H
 refine aT tk ⟨k18.1,(bh k18.2)⟩ (bf ho0 k18.2) ?_;refine bo tk Z Z Z Z Z Z Z Z Z (aC (fun _=>Z) k18.2) Z Z ?_;refine az 2 Z ?_
 obtain⟨x22,k22,H⟩:=aV H
 refine aT tk ⟨k22.1,(bh k22.2)⟩ (bf ho0 k22.2) ?_;refine bo tk Z Z Z Z Z Z Z Z Z (aC (fun _=>Z) k22.2) Z Z ?_
 obtain⟨x24,k24,H⟩:=aV H
 refine aT tk ⟨k24.1,(bh k24.2)⟩ (bf ho0 k24.2) ?_
 obtain⟨y1,hy1,H⟩:=bF H
 refine cg tk Z Z Z Z Z Z Z Z Z (by rw[zl];exact(zg.1 k24.2).1) (PLe.refl _ _) Z Z Z Z (by decide) (bD (fun _=>Z) k24.2 Z hy1) ?_
 obtain⟨x25,k25,H⟩:=aV H
 refine aT tk ⟨k25.1,(gJ (bt (f:=aA) hy1) k25.2)⟩ (gX ho0 (bt (f:=aA) hy1) k25.2) ?_
 obtain⟨y2,hy2,H⟩:=bF H
 refine cg tk Z Z Z Z Z Z Z Z Z (by rw[zl];exact(zg.1 k25.2).1) (PLe.refl _ _) Z Z Z Z (by decide) (bD (fun _=>Z) k25.2 Z hy2) ?_;refine aQ (ak 6 tk Z (aa ?_))
 obtain⟨fl3,H3,Hp3⟩:=am H
 refine dj (τ:=Rs×Int) (γ:=Unit) (fun s3 g3=>⟨168,upd (upd (upd (upd (fun _=>.any) 11 (ah (iw (b-(1:Int))))) 10 (ah s3.2)) 1 (ah a)) 0 (.own 0 g_data (s3.1.map aA).length),fun _=>none,upd (fun _=>none) 0 (some ⟨g_data,9,(s3.1.map aA),true⟩)⟩) (fun t=>fl3= .next t) ?_ (fun s3 g3 hn3=>?_)
 ·refine av ?_;refine cO (fun s3 g3=>⟨168,upd (upd (upd (upd (fun _=>.any) 11 (ah (iw (b-(1:Int))))) 10 (ah s3.2)) 1 (ah a)) 0 (.own 0 g_data (s3.1.map aA).length),fun _=>none,upd (fun _=>none) 0 (some ⟨g_data,9,(s3.1.map aA),true⟩)⟩) () H3 (Gh.le (bp (PLe.of2 (pD.of_eq (congrArg (PV.own 0 g_data) ((bt (f:=aA) hy1).trans (bt (f:=aA) hy2))))) (ao (ao (ao aL)))) aw (aD ax)) (fun m3 s3 g3 hr3=>?_)
  obtain⟨fb3,H,hg3⟩:=cp hr3
  refine aa (aa ?_);refine cA (tag:=0) Z (fun ho0=>?_);refine aX tk mok ⟨false,true,[]⟩ [0,1,2,3,4,5,6,7,8,9,10,11,12,13] Z (by decide+kernel) Z (az 4 Z ?_);refine gi H (fun H=>?_) (fun H=>?_)
  ·refine az 2 Z ?_
   obtain⟨x36,k36,H⟩:=aV H
   refine aT tk ⟨k36.1,(bh k36.2)⟩ (bf ho0 k36.2) ?_;refine bo tk Z Z Z Z Z Z Z Z Z (aC (fun _=>Z) k36.2) Z Z ?_;refine az 2 Z ?_
   obtain⟨x40,k40,H⟩:=aV H
   refine aT tk ⟨k40.1,(bh k40.2)⟩ (bf ho0 k40.2) ?_;refine bo tk Z Z Z Z Z Z Z Z Z (aC (fun _=>Z) k40.2) Z Z ?_
   obtain⟨x42,h42,H⟩:=bF H
   have s42:=dy x36 x40;rw[h42]at s42;refine aS call84 (jt.r) s42 ?_;refine bw Z (aQ ?_);refine aF Z H (fun H=>?_) (fun H=>?_)
   ·refine al (av (bc 3 tk Z (aM ?_)));obtain rfl:=aq H;refine ce (s3.1,(iw (s3.2+(1:Int)))) () hg3 Gh.d
   refine bj Z ?_;obtain rfl:=aq H;refine aP (s3.1,s3.2) () hg3 Gh.d
  refine az 10 Z (aQ (bH Z (bj Z ?_)));obtain rfl:=aq H;refine aP (s3.1,s3.2) () hg3 Gh.d
 have H:=ci hn3 Hp3;refine aa ?_
 obtain⟨fl4,H4,Hp4⟩:=am H
 refine dj (τ:=Rs×Int) (γ:=Unit) (fun s4 g4=>⟨168,upd (upd (upd (upd (fun _=>.any) 11 (ah s4.2)) 10 (ah s3.2)) 1 (ah a)) 0 (.own 0 g_data (s4.1.map aA).length),fun _=>none,upd (fun _=>none) 0 (some ⟨g_data,9,(s4.1.map aA),true⟩)⟩) (fun t=>fl4= .next t) ?_ (fun s4 g4 hn4=>?_)
 ·refine av ?_;refine cO (fun s4 g4=>⟨168,upd (upd (upd (upd (fun _=>.any) 11 (ah s4.2)) 10 (ah s3.2)) 1 (ah a)) 0 (.own 0 g_data (s4.1.map aA).length),fun _=>none,upd (fun _=>none) 0 (some ⟨g_data,9,(s4.1.map aA),true⟩)⟩) () H4 Gh.d (fun m4 s4 g4 hr4=>?_)
  obtain⟨fb4,H,hg4⟩:=cp hr4
  refine aa (aa ?_);refine cA (tag:=0) Z (fun ho0=>?_);refine aX tk mok ⟨false,true,[]⟩ [0,1,2,3,4,5,6,7,8,9,10,11,12,13,14] Z (by decide+kernel) Z (az 4 Z ?_);refine gi H (fun H=>?_) (fun H=>?_)
  ·refine az 2 Z ?_
   obtain⟨x52,k52,H⟩:=aV H
   refine aT tk ⟨k52.1,(bh k52.2)⟩ (bf ho0 k52.2) ?_;refine bo tk Z Z Z Z Z Z Z Z Z (aC (fun _=>Z) k52.2) Z Z ?_;refine az 2 Z ?_
   obtain⟨x56,k56,H⟩:=aV H
   refine aT tk ⟨k56.1,(bh k56.2)⟩ (bf ho0 k56.2) ?_;refine bo tk Z Z Z Z Z Z Z Z Z (aC (fun _=>Z) k56.2) Z Z ?_
   obtain⟨x58,h58,H⟩:=bF H
   have s58:=dy x52 x56;rw[h58]at s58;refine aS call84 (jt.r) s58 ?_;refine az 2 Z (aQ ?_);refine aF Z H (fun H=>?_) (fun H=>?_)
   ·refine al (av (bc 3 tk Z (aM ?_)));obtain rfl:=aq H;refine ce (s4.1,(iw (s4.2-(1:Int)))) () hg4 Gh.d
   refine bj Z ?_;obtain rfl:=aq H;refine aP (s4.1,s4.2) () hg4 Gh.d
  refine az 11 Z (aQ (bH Z (bj Z ?_)));obtain rfl:=aq H;refine aP (s4.1,s4.2) () hg4 Gh.d
 have H:=ci hn4 Hp4;refine aa (ak 3 tk Z ?_);refine aF Z H (fun H=>?_) (fun H=>?_)
 ·refine aa ?_;refine cA (tag:=0) Z (fun ho0=>?_);refine aX tk mok ⟨false,true,[]⟩ [0,1,2,3,4,5,6,7,8,9,10,11,12,13,14,15] Z (by decide+kernel) Z (az 6 Z ?_)
  obtain⟨x72,k72,H⟩:=aV H
  refine aT tk ⟨k72.1,(bh k72.2)⟩ (bf ho0 k72.2) ?_;refine bo tk Z Z Z Z Z Z Z Z Z (aC (fun _=>Z) k72.2) Z Z ?_;refine az 2 Z ?_
  obtain⟨x76,k76,H⟩:=aV H
  refine aT tk ⟨k76.1,(bh k76.2)⟩ (bf ho0 k76.2) ?_;refine bo tk Z Z Z Z Z Z Z Z Z (aC (fun _=>Z) k76.2) Z Z ?_
  obtain⟨x78,k78,H⟩:=aV H
  refine aT tk ⟨k78.1,(bh k78.2)⟩ (bf ho0 k78.2) ?_
  obtain⟨y5,hy5,H⟩:=bF H
  refine cg tk Z Z Z Z Z Z Z Z Z (by rw[zl];exact(zg.1 k78.2).1) (PLe.refl _ _) Z Z Z Z (by decide) (bD (fun _=>Z) k78.2 Z hy5) ?_
  obtain⟨x79,k79,H⟩:=aV H
  refine aT tk ⟨k79.1,(gJ (bt (f:=aA) hy5) k79.2)⟩ (gX ho0 (bt (f:=aA) hy5) k79.2) ?_
  obtain⟨y6,hy6,H⟩:=bF H
  refine cg tk Z Z Z Z Z Z Z Z Z (by rw[zl];exact(zg.1 k79.2).1) (PLe.refl _ _) Z Z Z Z (by decide) (bD (fun _=>Z) k79.2 Z hy6) ?_;refine aQ (ak 3 tk Z ?_);obtain rfl:=aq H;refine bZ (st':=⟨168,upd (upd (fun _=>.any) 9 (aK true)) 8 (ah s4.2),fun _=>none,upd (fun _=>none) 0 (some ⟨g_data,9,(y6.map aA),true⟩)⟩) (Gh.le (ao (ao aL)) aw (aD ax)) ?_;refine cl tk Z (ps:=[(ah s4.2),(aK true)]) ⟨_,_,rfl,rfl,_,_,rfl,rfl,rfl⟩ (PLe.q Z) ⟨rfl,rfl⟩
 refine al (aa ?_);refine cA (tag:=0) Z (fun ho0=>?_);refine aX tk mok ⟨false,true,[]⟩ [0,1,2,3,4,5,6,7,8,9,10,11,12,13,14,15] Z (by decide+kernel) Z (az 6 Z ?_)
 obtain⟨x87,k87,H⟩:=aV H
 refine aT tk ⟨k87.1,(bh k87.2)⟩ (bf ho0 k87.2) ?_;refine bo tk Z Z Z Z Z Z Z Z Z (aC (fun _=>Z) k87.2) Z Z ?_;refine az 2 Z ?_
 obtain⟨x91,k91,H⟩:=aV H
 refine aT tk ⟨k91.1,(bh k91.2)⟩ (bf ho0 k91.2) ?_;refine bo tk Z Z Z Z Z Z Z Z Z (aC (fun _=>Z) k91.2) Z Z ?_
 obtain⟨x93,k93,H⟩:=aV H
 refine aT tk ⟨k93.1,(bh k93.2)⟩ (bf ho0 k93.2) ?_
 obtain⟨y7,hy7,H⟩:=bF H
 refine cg tk Z Z Z Z Z Z Z Z Z (by rw[zl];exact(zg.1 k93.2).1) (PLe.refl _ _) Z Z Z Z (by decide) (bD (fun _=>Z) k93.2 Z hy7) ?_
 obtain⟨x94,k94,H⟩:=aV H
 refine aT tk ⟨k94.1,(gJ (bt (f:=aA) hy7) k94.2)⟩ (gX ho0 (bt (f:=aA) hy7) k94.2) ?_
 obtain⟨y8,hy8,H⟩:=bF H
 refine cg tk Z Z Z Z Z Z Z Z Z (by rw[zl];exact(zg.1 k94.2).1) (PLe.refl _ _) Z Z Z Z (by decide) (bD (fun _=>Z) k94.2 Z hy8) ?_;refine aQ (ak 3 tk Z (ak 3 tk Z (aa ?_)))
 obtain⟨fl9,H9,Hp9⟩:=am H
 refine dj (τ:=Rs×Int×Int) (γ:=Unit) (fun s9 g9=>⟨168,upd (upd (upd (fun _=>.any) 11 (ah s9.2.2)) 1 (ah a)) 0 (.own 0 g_data (s9.1.map aA).length),fun _=>none,upd (fun _=>none) 0 (some ⟨g_data,9,(s9.1.map aA),true⟩)⟩) (fun t=>fl9= .next t) ?_ (fun s9 g9 hn9=>?_)
 ·refine av ?_;refine cO (fun s9 g9=>⟨168,upd (upd (upd (upd (fun _=>.any) 11 (ah s9.2.2)) 10 (ah s9.2.1)) 1 (ah a)) 0 (.own 0 g_data (s9.1.map aA).length),fun _=>none,upd (fun _=>none) 0 (some ⟨g_data,9,(s9.1.map aA),true⟩)⟩) () H9 (Gh.le (bp (PLe.of2 (pD.of_eq (congrArg (PV.own 0 g_data) ((bt (f:=aA) hy7).trans (bt (f:=aA) hy8))))) (ao (ao (ao aL)))) aw (aD ax)) (fun m9 s9 g9 hr9=>?_)
  obtain⟨fb9,H,hg9⟩:=cp hr9
  refine av (aa ?_)
  obtain⟨fl18,H18,Hp18⟩:=am H
  refine dj (τ:=Rs×Int) (γ:=Unit) (fun s18 g18=>⟨168,upd (upd (upd (upd (fun _=>.any) 11 (ah s9.2.2)) 10 (ah s18.2)) 1 (ah a)) 0 (.own 0 g_data (s18.1.map aA).length),fun _=>none,upd (fun _=>none) 0 (some ⟨g_data,9,(s18.1.map aA),true⟩)⟩) (fun t=>fl18= .next t) ?_ (fun s18 g18 hn18=>?_)
  ·refine av ?_;refine cO (fun s18 g18=>⟨168,upd (upd (upd (upd (fun _=>.any) 11 (ah s9.2.2)) 10 (ah s18.2)) 1 (ah a)) 0 (.own 0 g_data (s18.1.map aA).length),fun _=>none,upd (fun _=>none) 0 (some ⟨g_data,9,(s18.1.map aA),true⟩)⟩) () H18 Gh.d (fun m18 s18 g18 hr18=>?_)
   obtain⟨fb18,H,hg18⟩:=cp hr18
   refine aa (aa ?_);refine cA (tag:=0) Z (fun ho0=>?_);refine aX tk mok ⟨false,true,[]⟩ [0,1,2,3,4,5,6,7,8,9,10,11,12,13] Z (by decide+kernel) Z (az 4 Z ?_);refine gi H (fun H=>?_) (fun H=>?_)
   ·refine az 2 Z ?_
    obtain⟨x105,k105,H⟩:=aV H
    refine aT tk ⟨k105.1,(bh k105.2)⟩ (bf ho0 k105.2) ?_;refine bo tk Z Z Z Z Z Z Z Z Z (aC (fun _=>Z) k105.2) Z Z ?_;refine az 2 Z ?_
    obtain⟨x109,k109,H⟩:=aV H
    refine aT tk ⟨k109.1,(bh k109.2)⟩ (bf ho0 k109.2) ?_;refine bo tk Z Z Z Z Z Z Z Z Z (aC (fun _=>Z) k109.2) Z Z ?_
    obtain⟨x111,h111,H⟩:=bF H
    have s111:=dy x105 x109;rw[h111]at s111;refine aS call84 (jt.r) s111 ?_;refine bw Z (aQ ?_);refine aF Z H (fun H=>?_) (fun H=>?_)
    ·refine al (av (bc 3 tk Z (aM ?_)));obtain rfl:=aq H;refine ce (s18.1,(iw (s18.2+(1:Int)))) () hg18 Gh.d
    refine bj Z ?_;obtain rfl:=aq H;refine aP (s18.1,s18.2) () hg18 Gh.d
   refine az 10 Z (aQ (bH Z (bj Z ?_)));obtain rfl:=aq H;refine aP (s18.1,s18.2) () hg18 Gh.d
  have H:=ci hn18 Hp18;refine aa ?_
  obtain⟨fl19,H19,Hp19⟩:=am H
  refine dj (τ:=Rs×Int) (γ:=Unit) (fun s19 g19=>⟨168,upd (upd (upd (upd (fun _=>.any) 11 (ah s19.2)) 10 (ah s18.2)) 1 (ah a)) 0 (.own 0 g_data (s19.1.map aA).length),fun _=>none,upd (fun _=>none) 0 (some ⟨g_data,9,(s19.1.map aA),true⟩)⟩) (fun t=>fl19= .next t) ?_ (fun s19 g19 hn19=>?_)
  ·refine av ?_;refine cO (fun s19 g19=>⟨168,upd (upd (upd (upd (fun _=>.any) 11 (ah s19.2)) 10 (ah s18.2)) 1 (ah a)) 0 (.own 0 g_data (s19.1.map aA).length),fun _=>none,upd (fun _=>none) 0 (some ⟨g_data,9,(s19.1.map aA),true⟩)⟩) () H19 Gh.d (fun m19 s19 g19 hr19=>?_)
   obtain⟨fb19,H,hg19⟩:=cp hr19
   refine aa (aa ?_);refine cA (tag:=0) Z (fun ho0=>?_);refine aX tk mok ⟨false,true,[]⟩ [0,1,2,3,4,5,6,7,8,9,10,11,12,13,14] Z (by decide+kernel) Z (az 4 Z ?_);refine gi H (fun H=>?_) (fun H=>?_)
   ·refine az 2 Z ?_
    obtain⟨x121,k121,H⟩:=aV H
    refine aT tk ⟨k121.1,(bh k121.2)⟩ (bf ho0 k121.2) ?_;refine bo tk Z Z Z Z Z Z Z Z Z (aC (fun _=>Z) k121.2) Z Z ?_;refine az 2 Z ?_
    obtain⟨x125,k125,H⟩:=aV H
    refine aT tk ⟨k125.1,(bh k125.2)⟩ (bf ho0 k125.2) ?_;refine bo tk Z Z Z Z Z Z Z Z Z (aC (fun _=>Z) k125.2) Z Z ?_
    obtain⟨x127,h127,H⟩:=bF H
    have s127:=dy x121 x125;rw[h127]at s127;refine aS call84 (jt.r) s127 ?_;refine az 2 Z (aQ ?_);refine aF Z H (fun H=>?_) (fun H=>?_)
    ·refine al (av (bc 3 tk Z (aM ?_)));obtain rfl:=aq H;refine ce (s19.1,(iw (s19.2-(1:Int)))) () hg19 Gh.d
    refine bj Z ?_;obtain rfl:=aq H;refine aP (s19.1,s19.2) () hg19 Gh.d
   refine az 11 Z (aQ (bH Z (bj Z ?_)));obtain rfl:=aq H;refine aP (s19.1,s19.2) () hg19 Gh.d
  have H:=ci hn19 Hp19;refine aa (ak 3 tk Z ?_);refine aF Z H (fun H=>?_) (fun H=>?_)
  ·refine bj Z ?_;obtain rfl:=aq H;refine aP (s19.1,s18.2,s19.2) () hg9 Gh.d
  refine al (aa ?_);refine cA (tag:=0) Z (fun ho0=>?_);refine aX tk mok ⟨false,true,[]⟩ [0,1,2,3,4,5,6,7,8,9,10,11,12,13,14,15] Z (by decide+kernel) Z (az 6 Z ?_)
  obtain⟨x141,k141,H⟩:=aV H
  refine aT tk ⟨k141.1,(bh k141.2)⟩ (bf ho0 k141.2) ?_;refine bo tk Z Z Z Z Z Z Z Z Z (aC (fun _=>Z) k141.2) Z Z ?_;refine az 2 Z ?_
  obtain⟨x145,k145,H⟩:=aV H
  refine aT tk ⟨k145.1,(bh k145.2)⟩ (bf ho0 k145.2) ?_;refine bo tk Z Z Z Z Z Z Z Z Z (aC (fun _=>Z) k145.2) Z Z ?_
  obtain⟨x147,k147,H⟩:=aV H
  refine aT tk ⟨k147.1,(bh k147.2)⟩ (bf ho0 k147.2) ?_
  obtain⟨y20,hy20,H⟩:=bF H
  refine cg tk Z Z Z Z Z Z Z Z Z (by rw[zl];exact(zg.1 k147.2).1) (PLe.refl _ _) Z Z Z Z (by decide) (bD (fun _=>Z) k147.2 Z hy20) ?_
  obtain⟨x148,k148,H⟩:=aV H
  refine aT tk ⟨k148.1,(gJ (bt (f:=aA) hy20) k148.2)⟩ (gX ho0 (bt (f:=aA) hy20) k148.2) ?_
  obtain⟨y21,hy21,H⟩:=bF H
  refine cg tk Z Z Z Z Z Z Z Z Z (by rw[zl];exact(zg.1 k148.2).1) (PLe.refl _ _) Z Z Z Z (by decide) (bD (fun _=>Z) k148.2 Z hy21) ?_;refine aQ (ak 3 tk Z (bc 3 tk Z (aM ?_)));obtain rfl:=aq H;refine ce (y21,(iw (s18.2+(1:Int))),(iw (s19.2-(1:Int)))) () hg9 (Gh.le (bp (PLe.of2 (pD.of_eq (congrArg (PV.own 0 g_data) ((bt (f:=aA) hy20).trans (bt (f:=aA) hy21))))) (ao (ao (ao aL)))) aw (aD ax))
 have H:=ci hn9 Hp9;refine aa ?_;refine cA (tag:=0) Z (fun ho0=>?_);refine aX tk mok ⟨false,true,[]⟩ [0,1,2,3,4,5,6,7,8,9,10,11,12,13,14,15] Z (by decide+kernel) Z (az 6 Z ?_)
 obtain⟨x159,k159,H⟩:=aV H
 refine aT tk ⟨k159.1,(bh k159.2)⟩ (bf ho0 k159.2) ?_;refine bo tk Z Z Z Z Z Z Z Z Z (aC (fun _=>Z) k159.2) Z Z ?_;refine az 2 Z ?_
 obtain⟨x163,k163,H⟩:=aV H
 refine aT tk ⟨k163.1,(bh k163.2)⟩ (bf ho0 k163.2) ?_;refine bo tk Z Z Z Z Z Z Z Z Z (aC (fun _=>Z) k163.2) Z Z ?_
 obtain⟨x165,k165,H⟩:=aV H
 refine aT tk ⟨k165.1,(bh k165.2)⟩ (bf ho0 k165.2) ?_
 obtain⟨y22,hy22,H⟩:=bF H
 refine cg tk Z Z Z Z Z Z Z Z Z (by rw[zl];exact(zg.1 k165.2).1) (PLe.refl _ _) Z Z Z Z (by decide) (bD (fun _=>Z) k165.2 Z hy22) ?_
 obtain⟨x166,k166,H⟩:=aV H
 refine aT tk ⟨k166.1,(gJ (bt (f:=aA) hy22) k166.2)⟩ (gX ho0 (bt (f:=aA) hy22) k166.2) ?_
 obtain⟨y23,hy23,H⟩:=bF H
 refine cg tk Z Z Z Z Z Z Z Z Z (by rw[zl];exact(zg.1 k166.2).1) (PLe.refl _ _) Z Z Z Z (by decide) (bD (fun _=>Z) k166.2 Z hy23) ?_;refine aQ (ak 3 tk Z ?_);obtain rfl:=aq H;refine bZ (st':=⟨168,upd (upd (fun _=>.any) 9 (aK false)) 8 (ah s9.2.2),fun _=>none,upd (fun _=>none) 0 (some ⟨g_data,9,(y23.map aA),true⟩)⟩) (Gh.le (ao (ao aL)) aw (aD ax)) ?_;refine cl tk Z (ps:=[(ah s9.2.2),(aK false)]) ⟨_,_,rfl,rfl,_,_,rfl,rfl,rfl⟩ (PLe.q Z) ⟨rfl,rfl⟩
def fq(c:LChange)(c0:Rs):Option (Bool):=
 ae (cD c0 c.table) fun x7=>
 some (!x7)
theorem mJ(c:LChange)(c0:Rs)(r:Bool)(H:fq c c0=some r):
  aY prog 10 [(.agg (cu c)),(.ptr [(.list 9 (c0.map aA))])] (aK r):=by
 unfold fq at H;refine PH.au func10 ntmps10 ?_;refine aa (ab (aO ?_));refine ai tk Z (ac (aa (ab (ag 3 tk Z ?_))))
 obtain⟨x7,h7,H⟩:=am H
 have s7:=iC c0 c.table _ h7;refine aj call11 (jt.r) s7 ?_;refine ag 2 tk Z (ac ?_);exact bi tk H Z
def ig(sA:LProcedureStatement):Option (Bool):=
 letP (
  cond (decide (sA.kind<(1:Int)))
   (true)
   ((decide (sA.kind>(9:Int))))) fun(t1:Bool)=>
 ae (
  cond t1
   (some t1)
   (ae (cC ([1]:List Int) sA) fun x16=>
   cond (!(x16==(!(sA.name==([]:Rb)))))
    (some (!(x16==(!(sA.name==([]:Rb))))))
    (ae (cC ([4,5,6]:List Int) sA) fun x23=>
    cond (!(x23==(!(sA.table==([]:Rb)))))
     (some (!(x23==(!(sA.table==([]:Rb))))))
     (ae (
      ae (cC ([3,7]:List Int) sA) fun x30=>
      cond (!(x30==((sA.query.length:Int)==(1:Int))))
       (some true)
       (some (decide ((sA.query.length:Int)>(1:Int))))) fun(t8:Bool)=>
     cond t8
      (some t8)
      (ae (
       ae (cC ([5,6]:List Int) sA) fun x44=>
       cond (!(x44==((sA.whereF.length:Int)==(1:Int))))
        (some true)
        (some (decide ((sA.whereF.length:Int)>(1:Int))))) fun(t9:Bool)=>
      cond t9
       (some t9)
       (ae (
        ae (cC ([8]:List Int) sA) fun x58=>
        cond (!x58)
         (some (sA.code !=(0:Int)))
         (some false)) fun(t10:Bool)=>
       cond t10
        (some t10)
        (ae (
         ae (cC ([2,3]:List Int) sA) fun x67=>
         cond (!x67)
          (some (decide ((sA.body.length:Int)>(0:Int))))
          (some false)) fun(t11:Bool)=>
        cond t11
         (some t11)
         (ae (
          ae (cC ([2]:List Int) sA) fun x77=>
          cond (!x77)
           (some (decide ((sA.elseF.length:Int)>(0:Int))))
           (some false)) fun(t12:Bool)=>
         cond t12
          (some t12)
          (ae (cC ([5]:List Int) sA) fun x87=>
          cond (!x87)
           (some (decide ((sA.names.length:Int)>(0:Int))))
           (some false)))))))))) fun(t7:Bool)=>
 cond t7
  (some false)
  (ae (cC ([1,2]:List Int) sA) fun x98=>
  cond x98
   (some ((sA.exprs.length:Int)==(1:Int)))
   (ae (cC ([5]:List Int) sA) fun x106=>
   cond x106
    (cond ((sA.exprs.length:Int)==(sA.names.length:Int))
     (some (decide ((sA.names.length:Int)>(0:Int))))
     (some false))
    (ae (cC ([8]:List Int) sA) fun x123=>
    cond x123
     (cond (decide (sA.code>=(1:Int)))
      (some (decide (sA.code<=(100:Int))))
      (some false))
     (ae (cC ([4]:List Int) sA) fun x134=>
     cond x134
      (some true)
      (some ((sA.exprs.length:Int)==(0:Int)))))))
theorem uh(sA:LProcedureStatement)(r:Bool)(H:ig sA=some r):
  aY prog 65 [(.agg (aE sA))] (aK r):=by
 unfold ig at H;refine PH.au func65 ntmps65 ?_;refine aa (ab (aO ?_));refine ai tk Z (ac (ak 2 tk Z (aa (av (aa (aa ?_))))));refine ed (γ:=Unit) (fun t1 g1=>⟨141,upd (upd (upd (fun _=>.any) 5 (aK t1)) 3 (.fn 92 [(.ptr (aE sA))])) 1 (.ptr (aE sA)),fun _=>none,fun _=>none⟩) H (fun _ H=>?_) (fun t1 g1 H=>?_)
 ·refine ab (ag 4 tk Z ?_);refine bu Z Z Z H (fun H=>?_) (fun H=>?_)
  ·refine ag 5 tk Z (ac ?_);refine aP _ () H Gh.d
  refine ag 5 tk Z (ac ?_);refine aP _ () H Gh.d
 refine ee (γ:=Unit) (fun t7 g7=>⟨141,upd (upd (upd (fun _=>.any) 5 (aK t7)) 3 (.fn 92 [(.ptr (aE sA))])) 1 (.ptr (aE sA)),fun _=>none,fun _=>none⟩) H (fun _ H=>?_) (fun t7 g7 H=>?_)
 ·refine aF Z H (fun H=>?_) (fun H=>?_)
  ·refine al ?_;refine aP _ () (aq H) Gh.d
  refine aa (aX tk mok ⟨false,false,[]⟩ [0,1,3,4,5,2,6,7] Z (by decide+kernel) Z (az 5 Z ?_))
  obtain⟨x16,h16,H⟩:=am H
  have s16:=dE ([1]:List Int) sA _ h16;refine aS call92 (jt.r) s16 ?_;refine az 2 Z (aQ ?_);refine aF Z H (fun H=>?_) (fun H=>?_)
  ·refine al ?_;refine aP _ () (aq H) Gh.d
  refine aa (aX tk mok ⟨false,false,[]⟩ [0,1,3,4,5,2,6,7] Z (by decide+kernel) Z (az 5 Z ?_))
  obtain⟨x23,h23,H⟩:=am H
  have s23:=dE ([4,5,6]:List Int) sA _ h23;refine aS call92 (jt.r) s23 ?_;refine az 2 Z (aQ ?_);refine aF Z H (fun H=>?_) (fun H=>?_)
  ·refine al ?_;refine aP _ () (aq H) Gh.d
  refine aa ?_;refine ee (γ:=Unit) (fun t8 g8=>⟨141,upd (upd (upd (fun _=>.any) 5 (aK t8)) 3 (.fn 92 [(.ptr (aE sA))])) 1 (.ptr (aE sA)),fun _=>none,fun _=>none⟩) H (fun _ H=>?_) (fun t8 g8 H=>?_)
  ·refine aX tk mok ⟨false,false,[]⟩ [0,1,3,4,5,6,2,7,8,9,10,11,12,13,14] Z (by decide+kernel) Z (az 4 Z (mG (zl _) ?_));refine bw Z ?_
   obtain⟨x30,h30,H⟩:=am H
   have s30:=dE ([3,7]:List Int) sA _ h30;refine aS call92 (jt.r) s30 ?_;refine az 2 Z ?_;refine gi H (fun H=>?_) (fun H=>?_)
   ·refine az 6 Z (aQ ?_);refine aP _ () (aq H) Gh.d
   refine az 2 Z (mG (zl _) ?_);refine az 3 Z (aQ ?_);refine aP _ () (aq H) Gh.d
  refine aF Z H (fun H=>?_) (fun H=>?_)
  ·refine al ?_;refine aP _ () (aq H) Gh.d
  refine aa ?_;refine ee (γ:=Unit) (fun t9 g9=>⟨141,upd (upd (upd (fun _=>.any) 5 (aK t9)) 3 (.fn 92 [(.ptr (aE sA))])) 1 (.ptr (aE sA)),fun _=>none,fun _=>none⟩) H (fun _ H=>?_) (fun t9 g9 H=>?_)
  ·refine aX tk mok ⟨false,false,[]⟩ [0,1,3,4,5,6,2,7,8,9,10,11,12,13,14] Z (by decide+kernel) Z (az 4 Z (mG (zl _) ?_));refine bw Z ?_
   obtain⟨x44,h44,H⟩:=am H
   have s44:=dE ([5,6]:List Int) sA _ h44;refine aS call92 (jt.r) s44 ?_;refine az 2 Z ?_;refine gi H (fun H=>?_) (fun H=>?_)
   ·refine az 6 Z (aQ ?_);refine aP _ () (aq H) Gh.d
   refine az 2 Z (mG (zl _) ?_);refine az 3 Z (aQ ?_);refine aP _ () (aq H) Gh.d
  refine aF Z H (fun H=>?_) (fun H=>?_)
  ·refine al ?_;refine aP _ () (aq H) Gh.d
  refine aa ?_;refine ee (γ:=Unit) (fun t10 g10=>⟨141,upd (upd (upd (fun _=>.any) 5 (aK t10)) 3 (.fn 92 [(.ptr (aE sA))])) 1 (.ptr (aE sA)),fun _=>none,fun _=>none⟩) H (fun _ H=>?_) (fun t10 g10 H=>?_)
  ·refine ab (ai tk Z (cy tk (rows':=List.map cq ([8]:List Int)) (gP.refl _) ?_))
   obtain⟨x58,h58,H⟩:=am H
   have s58:=dE ([8]:List Int) sA _ h58;refine aj call92 (jt.r) s58 ?_;refine ag 2 tk Z ?_;refine bu Z Z Z H (fun H=>?_) (fun H=>?_)
   ·refine ag 5 tk Z (ac ?_);refine aP _ () (aq H) Gh.d
   refine ag 5 tk Z (ac ?_);refine aP _ () (aq H) Gh.d
  refine aF Z H (fun H=>?_) (fun H=>?_)
  ·refine al ?_;refine aP _ () (aq H) Gh.d
  refine aa ?_;refine ee (γ:=Unit) (fun t11 g11=>⟨141,upd (upd (upd (fun _=>.any) 5 (aK t11)) 3 (.fn 92 [(.ptr (aE sA))])) 1 (.ptr (aE sA)),fun _=>none,fun _=>none⟩) H (fun _ H=>?_) (fun t11 g11 H=>?_)
  ·refine ab (ai tk Z (cy tk (rows':=List.map cq ([2,3]:List Int)) (gP.refl _) ?_))
   obtain⟨x67,h67,H⟩:=am H
   have s67:=dE ([2,3]:List Int) sA _ h67;refine aj call92 (jt.r) s67 ?_;refine ag 2 tk Z ?_;refine bu Z Z Z H (fun H=>?_) (fun H=>?_)
   ·refine ag 2 tk Z (aI tk (zl _) ?_);refine ag 3 tk Z (ac ?_);refine aP _ () (aq H) Gh.d
   refine ag 6 tk Z (ac ?_);refine aP _ () (aq H) Gh.d
  refine aF Z H (fun H=>?_) (fun H=>?_)
  ·refine al ?_;refine aP _ () (aq H) Gh.d
  refine aa ?_;refine ee (γ:=Unit) (fun t12 g12=>⟨141,upd (upd (upd (fun _=>.any) 5 (aK t12)) 3 (.fn 92 [(.ptr (aE sA))])) 1 (.ptr (aE sA)),fun _=>none,fun _=>none⟩) H (fun _ H=>?_) (fun t12 g12 H=>?_)
  ·refine ab (ai tk Z (cy tk (rows':=List.map cq ([2]:List Int)) (gP.refl _) ?_))
   obtain⟨x77,h77,H⟩:=am H
   have s77:=dE ([2]:List Int) sA _ h77;refine aj call92 (jt.r) s77 ?_;refine ag 2 tk Z ?_;refine bu Z Z Z H (fun H=>?_) (fun H=>?_)
   ·refine ag 2 tk Z (aI tk (zl _) ?_);refine ag 3 tk Z (ac ?_);refine aP _ () (aq H) Gh.d
   refine ag 6 tk Z (ac ?_);refine aP _ () (aq H) Gh.d
  refine aF Z H (fun H=>?_) (fun H=>?_)
  ·refine al ?_;refine aP _ () (aq H) Gh.d
  refine ab (ai tk Z (cy tk (rows':=List.map cq ([5]:List Int)) (gP.refl _) ?_))
  obtain⟨x87,h87,H⟩:=am H
  have s87:=dE ([5]:List Int) sA _ h87;refine aj call92 (jt.r) s87 ?_;refine ag 2 tk Z ?_;refine bu Z Z Z H (fun H=>?_) (fun H=>?_)
  ·refine ag 2 tk Z (aI tk (zl _) ?_);refine ag 3 tk Z (ac ?_);refine aP _ () (aq H) Gh.d
  refine ag 6 tk Z (ac ?_);refine aP _ () (aq H) Gh.d
 refine aF Z H (fun H=>?_) (fun H=>?_)
 ·refine ak 1 tk Z ?_;exact bi tk H Z
 refine aa (ab (ai tk Z (cy tk (rows':=List.map cq ([1,2]:List Int)) (gP.refl _) ?_)))
 obtain⟨x98,h98,H⟩:=am H
 have s98:=dE ([1,2]:List Int) sA _ h98;refine aj call92 (jt.r) s98 ?_;refine ai tk Z (ac ?_);refine aF Z H (fun H=>?_) (fun H=>?_)
 ·refine aa (ab (ag 2 tk Z (aI tk (zl _) ?_)));refine ag 2 tk Z (ac ?_);exact bi tk H Z
 refine aa (ab (ai tk Z (cy tk (rows':=List.map cq ([5]:List Int)) (gP.refl _) ?_)))
 obtain⟨x106,h106,H⟩:=am H
 have s106:=dE ([5]:List Int) sA _ h106;refine aj call92 (jt.r) s106 ?_;refine ai tk Z (ac ?_);refine aF Z H (fun H=>?_) (fun H=>?_)
 ·refine aa (ab (ag 2 tk Z (aI tk (zl _) ?_)));refine ag 2 tk Z (aI tk (zl _) ?_);refine ag 2 tk Z ?_;refine bu Z Z Z H (fun H=>?_) (fun H=>?_)
  ·refine ag 2 tk Z (aI tk (zl _) ?_);refine ag 3 tk Z (ac ?_);exact bi tk H Z
  refine ag 6 tk Z (ac ?_);exact bi tk H Z
 refine aa (ab (ai tk Z (cy tk (rows':=List.map cq ([8]:List Int)) (gP.refl _) ?_)))
 obtain⟨x123,h123,H⟩:=am H
 have s123:=dE ([8]:List Int) sA _ h123;refine aj call92 (jt.r) s123 ?_;refine ai tk Z (ac ?_);refine aF Z H (fun H=>?_) (fun H=>?_)
 ·refine aa (ab (ag 4 tk Z ?_));refine bu Z Z Z H (fun H=>?_) (fun H=>?_)
  ·refine ag 5 tk Z (ac ?_);exact bi tk H Z
  refine ag 5 tk Z (ac ?_);exact bi tk H Z
 refine al (aM (aa (ab (ai tk Z (cy tk (rows':=List.map cq ([4]:List Int)) (gP.refl _) ?_)))))
 obtain⟨x134,h134,H⟩:=am H
 have s134:=dE ([4]:List Int) sA _ h134;refine aj call92 (jt.r) s134 ?_;refine ai tk Z ?_;refine bu Z Z Z H (fun H=>?_) (fun H=>?_)
 ·refine ag 6 tk Z (ac ?_);exact bi tk H Z
 refine ag 2 tk Z (aI tk (zl _) ?_);refine ag 3 tk Z (ac ?_);exact bi tk H Z
def eu(c:LProcedureChecker)(cols:List LCol)(vars:List LCol)(e:LExpr):Option (Int×Bool×Int):=
 letP (fD cols vars e) fun x19=>
 cond (x19.2.2 !=(0:Int))
  (some (0,false,x19.2.2))
  (ae (ft c (LQuery.mk 0 [] [] [e] [] [] 0 0 [])) fun x30=>
  cond (x30 !=(0:Int))
   (some (0,false,x30))
   (some (x19.1,x19.2.1,0)))
theorem jS(c:LProcedureChecker)(cols:List LCol)(vars:List LCol)(e:LExpr)(r:Int×Bool×Int)(H:eu c cols vars e=some r):
  aY prog 94 [(.agg (bL c)),(.list 53 (cols.map aB)),(.list 53 (vars.map aB)),(.agg (gZ e))] (.tup [(ah r.1),(aK r.2.1),(ah r.2.2)]):=by
 unfold eu at H;refine PH.au func94 ntmps94 ?_;refine aa (ab (aO ?_));refine aO ?_;refine ag 3 tk Z (ac (aa (ab (ag 3 tk Z ?_))))
 obtain⟨x19,h19,H⟩:=bF H
 have s19:=lZ cols vars e;rw[h19]at s19;refine aj call67 (jt.r) s19 ?_;refine ag 7 tk Z (ac (aa (ak 2 tk Z ?_)));refine aF Z H (fun H=>?_) (fun H=>?_)
 ·refine ak 4 tk Z ?_;exact bi tk H Z
 refine al (aa (aa (ab (ag 2 tk Z (cy tk (rows':=List.map fJ ([e]:List LExpr)) (gP.trans (b:=List.map gZ [e]) (gP.refl _) (gP.of_eq (ny dh [e]))) ?_)))));refine ai tk Z ?_
 obtain⟨x30,h30,H⟩:=am H
 have s30:=mf c (LQuery.mk 0 [] [] [e] [] [] 0 0 []) _ h30;refine aj call99 (jt.of2 (jN.cons (pD.of_eq Z) (jN.cons (pD.agg (jN.cons (pD.of_eq Z) (jN.cons (pD.of_eq Z) (jN.cons (pD.nil tk Z) (jN.cons (pD.of_eq Z) (jN.cons (pD.nil tk Z) (jN.cons (pD.nil tk Z) (jN.cons (pD.of_eq Z) (jN.cons (pD.of_eq Z) (jN.cons (pD.nil tk Z) jN.nil)))))))))) jN.nil))) s30 ?_;refine ai tk Z (ac (ak 2 tk Z ?_));refine aF Z H (fun H=>?_) (fun H=>?_)
 ·refine ak 4 tk Z ?_;exact bi tk H Z
 refine al (ak 5 tk Z ?_);exact bi tk H Z
def lS(q:LQuery):Option (Bool):=
 ae (
  cond (decide (q.kind<(1:Int)))
   (some true)
   (cond (decide (q.kind>(10:Int)))
    (some true)
    (ae (aG ([(-1),0,1,1,2,2,2,2,1,1,1]:List Int) q.kind) fun(x21:Int)=>
    some ((q.inputs.length:Int) !=x21)))) fun(t1:Bool)=>
 cond t1
  (some false)
  (ae (
   ae (ep ([1]:List Int) q) fun x29=>
   cond (!x29)
    (some (!(q.table==([]:Rb))))
    (some false)) fun(t2:Bool)=>
  ae (
   cond t2
    (some t2)
    (ae (
     ae (ep ([3,8]:List Int) q) fun x38=>
     cond (!x38)
      (some (decide ((q.names.length:Int)>(0:Int))))
      (some false)) fun(t7:Bool)=>
    cond t7
     (some t7)
     (ae (
      ae (ep ([8]:List Int) q) fun x48=>
      cond (!x48)
       (some (decide ((q.aggregates.length:Int)>(0:Int))))
       (some false)) fun(t8:Bool)=>
     cond t8
      (some t8)
      (ae (
       ae (ep ([9]:List Int) q) fun x58=>
       cond (!x58)
        (some (decide ((q.descending.length:Int)>(0:Int))))
        (some false)) fun(t9:Bool)=>
      cond t9
       (some t9)
       (ae (ep ([10]:List Int) q) fun x68=>
       cond (!x68)
        (cond (q.count !=(0:Int))
         (some true)
         (some (q.offset !=(0:Int))))
        (some false)))))) fun(t6:Bool)=>
  cond t6
   (some false)
   (ae (ep ([2,4,5]:List Int) q) fun x83=>
   cond x83
    (some ((q.exprs.length:Int)==(1:Int)))
    (ae (ep ([3,8]:List Int) q) fun x91=>
    cond x91
     (cond ((q.exprs.length:Int)==(q.names.length:Int))
      (some (decide ((iw ((q.exprs.length:Int)+(q.aggregates.length:Int)))>(0:Int))))
      (some false))
     (ae (ep ([9]:List Int) q) fun x112=>
     cond x112
      (cond ((q.exprs.length:Int)==(q.descending.length:Int))
       (some (decide ((q.exprs.length:Int)>(0:Int))))
       (some false))
      (ae (ep ([10]:List Int) q) fun x129=>
      cond x129
       (cond ((q.exprs.length:Int)==(0:Int))
        (cond (decide (q.count>=(0:Int)))
         (some (decide (q.offset>=(0:Int))))
         (some false))
        (some false))
       (some ((q.exprs.length:Int)==(0:Int))))))))
theorem W_query_shape(q:LQuery)(r:Bool)(H:lS q=some r):
  aY prog 140 [(.agg (bg q))] (aK r):=by
 unfold lS at H;refine PH.au func140 ntmps140 ?_;refine aa (ab (aO ?_));refine ai tk Z (ac (aa (ab (vz (e:=3) (rows:=[[(ah (-1))],[(ah 0)],[(ah 1)],[(ah 1)],[(ah 2)],[(ah 2)],[(ah 2)],[(ah 2)],[(ah 1)],[(ah 1)],[(ah 1)]]) tk Z Z Z Z (rows':=List.map cq ([(-1),0,1,1,2,2,2,2,1,1,1]:List Int)) (by kernel_rfl) (gP.refl _) Z Z (ai tk Z (ac (aa (aa ?_))))))));refine ee (γ:=Unit) (fun t1 g1=>⟨148,upd (upd (fun _=>.any) 24 (aK t1)) 1 (.ptr (bg q)),fun _=>none,fun _=>none⟩) H (fun _ H=>?_) (fun t1 g1 H=>?_)
 ·refine aX tk mok ⟨false,false,[]⟩ [0,1,2,3,4,5,6,7,8,9,10,11,12,13,14,15,16,17,18] Z (by decide+kernel) Z (az 4 Z ?_);refine gi H (fun H=>?_) (fun H=>?_)
  ·refine az 15 Z (aQ ?_);refine aP _ () (aq H) Gh.d
  refine az 5 Z ?_;refine gi H (fun H=>?_) (fun H=>?_)
  ·refine az 10 Z (aQ ?_);refine aP _ () (aq H) Gh.d
  refine az 2 Z (mG (zl _) ?_);refine az 3 Z ?_
  obtain⟨x21,k21,H⟩:=aV H
  refine bE k21.1 (aC (fun _=>Z) k21.2) ?_;refine az 3 Z (aQ ?_);refine aP _ () (aq H) Gh.d
 refine aF Z H (fun H=>?_) (fun H=>?_)
 ·refine ak 1 tk Z ?_;exact bi tk H Z
 refine al (ak 2 tk Z (aa (av (aa (aa ?_)))));refine ee (γ:=Unit) (fun t2 g2=>⟨148,upd (upd (upd (fun _=>.any) 26 (aK t2)) 4 (.fn 166 [(.ptr (bg q))])) 1 (.ptr (bg q)),fun _=>none,fun _=>none⟩) H (fun _ H=>?_) (fun t2 g2 H=>?_)
 ·refine ab (ai tk Z (cy tk (rows':=List.map cq ([1]:List Int)) (gP.refl _) ?_))
  obtain⟨x29,h29,H⟩:=am H
  have s29:=gA ([1]:List Int) q _ h29;refine aj call166 (jt.r) s29 ?_;refine ag 2 tk Z ?_;refine bu Z Z Z H (fun H=>?_) (fun H=>?_)
  ·refine ag 5 tk Z (ac ?_);refine aP _ () (aq H) Gh.d
  refine ag 5 tk Z (ac ?_);refine aP _ () (aq H) Gh.d
 refine ee (γ:=Unit) (fun t6 g6=>⟨148,upd (upd (upd (fun _=>.any) 26 (aK t6)) 4 (.fn 166 [(.ptr (bg q))])) 1 (.ptr (bg q)),fun _=>none,fun _=>none⟩) H (fun _ H=>?_) (fun t6 g6 H=>?_)
 ·refine aF Z H (fun H=>?_) (fun H=>?_)
  ·refine al ?_;refine aP _ () (aq H) Gh.d
  refine aa ?_;refine ee (γ:=Unit) (fun t7 g7=>⟨148,upd (upd (upd (fun _=>.any) 26 (aK t7)) 4 (.fn 166 [(.ptr (bg q))])) 1 (.ptr (bg q)),fun _=>none,fun _=>none⟩) H (fun _ H=>?_) (fun t7 g7 H=>?_)
  ·refine ab (ai tk Z (cy tk (rows':=List.map cq ([3,8]:List Int)) (gP.refl _) ?_))
   obtain⟨x38,h38,H⟩:=am H
   have s38:=gA ([3,8]:List Int) q _ h38;refine aj call166 (jt.r) s38 ?_;refine ag 2 tk Z ?_;refine bu Z Z Z H (fun H=>?_) (fun H=>?_)
   ·refine ag 2 tk Z (aI tk (zl _) ?_);refine ag 3 tk Z (ac ?_);refine aP _ () (aq H) Gh.d
   refine ag 6 tk Z (ac ?_);refine aP _ () (aq H) Gh.d
  refine aF Z H (fun H=>?_) (fun H=>?_)
  ·refine al ?_;refine aP _ () (aq H) Gh.d
  refine aa ?_;refine ee (γ:=Unit) (fun t8 g8=>⟨148,upd (upd (upd (fun _=>.any) 26 (aK t8)) 4 (.fn 166 [(.ptr (bg q))])) 1 (.ptr (bg q)),fun _=>none,fun _=>none⟩) H (fun _ H=>?_) (fun t8 g8 H=>?_)
  ·refine ab (ai tk Z (cy tk (rows':=List.map cq ([8]:List Int)) (gP.refl _) ?_))
   obtain⟨x48,h48,H⟩:=am H
   have s48:=gA ([8]:List Int) q _ h48;refine aj call166 (jt.r) s48 ?_;refine ag 2 tk Z ?_;refine bu Z Z Z H (fun H=>?_) (fun H=>?_)
   ·refine ag 2 tk Z (aI tk (zl _) ?_);refine ag 3 tk Z (ac ?_);refine aP _ () (aq H) Gh.d
   refine ag 6 tk Z (ac ?_);refine aP _ () (aq H) Gh.d
  refine aF Z H (fun H=>?_) (fun H=>?_)
  ·refine al ?_;refine aP _ () (aq H) Gh.d
  refine aa ?_;refine ee (γ:=Unit) (fun t9 g9=>⟨148,upd (upd (upd (fun _=>.any) 26 (aK t9)) 4 (.fn 166 [(.ptr (bg q))])) 1 (.ptr (bg q)),fun _=>none,fun _=>none⟩) H (fun _ H=>?_) (fun t9 g9 H=>?_)
  ·refine ab (ai tk Z (cy tk (rows':=List.map cq ([9]:List Int)) (gP.refl _) ?_))
   obtain⟨x58,h58,H⟩:=am H
   have s58:=gA ([9]:List Int) q _ h58;refine aj call166 (jt.r) s58 ?_;refine ag 2 tk Z ?_;refine bu Z Z Z H (fun H=>?_) (fun H=>?_)
   ·refine ag 2 tk Z (aI tk (zl _) ?_);refine ag 3 tk Z (ac ?_);refine aP _ () (aq H) Gh.d
   refine ag 6 tk Z (ac ?_);refine aP _ () (aq H) Gh.d
  refine aF Z H (fun H=>?_) (fun H=>?_)
  ·refine al ?_;refine aP _ () (aq H) Gh.d
  refine ab (ai tk Z (cy tk (rows':=List.map cq ([10]:List Int)) (gP.refl _) ?_))
  obtain⟨x68,h68,H⟩:=am H
  have s68:=gA ([10]:List Int) q _ h68;refine aj call166 (jt.r) s68 ?_;refine ag 2 tk Z ?_;refine bu Z Z Z H (fun H=>?_) (fun H=>?_)
  ·refine ag 4 tk Z ?_;refine bu Z Z Z H (fun H=>?_) (fun H=>?_)
   ·refine ag 6 tk Z (ac ?_);refine aP _ () (aq H) Gh.d
   refine ag 6 tk Z (ac ?_);refine aP _ () (aq H) Gh.d
  refine ag 10 tk Z (ac ?_);refine aP _ () (aq H) Gh.d
 refine aF Z H (fun H=>?_) (fun H=>?_)
 ·refine ak 1 tk Z ?_;exact bi tk H Z
 refine aa (ab (ai tk Z (cy tk (rows':=List.map cq ([2,4,5]:List Int)) (gP.refl _) ?_)))
 obtain⟨x83,h83,H⟩:=am H
 have s83:=gA ([2,4,5]:List Int) q _ h83;refine aj call166 (jt.r) s83 ?_;refine ai tk Z (ac ?_);refine aF Z H (fun H=>?_) (fun H=>?_)
 ·refine aa (ab (ag 2 tk Z (aI tk (zl _) ?_)));refine ag 2 tk Z (ac ?_);exact bi tk H Z
 refine aa (ab (ai tk Z (cy tk (rows':=List.map cq ([3,8]:List Int)) (gP.refl _) ?_)))
 obtain⟨x91,h91,H⟩:=am H
 have s91:=gA ([3,8]:List Int) q _ h91;refine aj call166 (jt.r) s91 ?_;refine ai tk Z (ac ?_);refine aF Z H (fun H=>?_) (fun H=>?_)
 ·refine aa (ab (ag 2 tk Z (aI tk (zl _) ?_)));refine ag 2 tk Z (aI tk (zl _) ?_);refine ag 2 tk Z ?_;refine bu Z Z Z H (fun H=>?_) (fun H=>?_)
  ·refine ag 2 tk Z (aI tk (zl _) ?_);refine ag 2 tk Z (aI tk (zl _) ?_);refine ag 4 tk Z (ac ?_);exact bi tk H Z
  refine ag 10 tk Z (ac ?_);exact bi tk H Z
 refine aa (ab (ai tk Z (cy tk (rows':=List.map cq ([9]:List Int)) (gP.refl _) ?_)))
 obtain⟨x112,h112,H⟩:=am H
 have s112:=gA ([9]:List Int) q _ h112;refine aj call166 (jt.r) s112 ?_;refine ai tk Z (ac ?_);refine aF Z H (fun H=>?_) (fun H=>?_)
 ·refine aa (ab (ag 2 tk Z (aI tk (zl _) ?_)));refine ag 2 tk Z (aI tk (zl _) ?_);refine ag 2 tk Z ?_;refine bu Z Z Z H (fun H=>?_) (fun H=>?_)
  ·refine ag 2 tk Z (aI tk (zl _) ?_);refine ag 3 tk Z (ac ?_);exact bi tk H Z
  refine ag 6 tk Z (ac ?_);exact bi tk H Z
 refine aa (ab (ai tk Z (cy tk (rows':=List.map cq ([10]:List Int)) (gP.refl _) ?_)))
 obtain⟨x129,h129,H⟩:=am H
 have s129:=gA ([10]:List Int) q _ h129;refine aj call166 (jt.r) s129 ?_;refine ai tk Z (ac ?_);refine aF Z H (fun H=>?_) (fun H=>?_)
 ·refine aa (ab (ag 2 tk Z (aI tk (zl _) ?_)));refine ag 2 tk Z ?_;refine bu Z Z Z H (fun H=>?_) (fun H=>?_)
  ·refine ag 5 tk Z ?_;refine bu Z Z Z H (fun H=>?_) (fun H=>?_)
   ·refine ag 5 tk Z (ac ?_);exact bi tk H Z
   refine ag 5 tk Z (ac ?_);exact bi tk H Z
  refine ag 10 tk Z (ac ?_);exact bi tk H Z
 refine al (aM (aa (ab (ag 2 tk Z (aI tk (zl _) ?_)))));refine ag 2 tk Z (ac ?_);exact bi tk H Z
def eF(c:LChecker)(l:List LCol)(e:LExpr):Int:=
 letP (fD l c.vars e) fun x15=>
 cond (x15.2.2==(0:Int))
  (cond (x15.1 !=(2:Int))
   (cond (x15.1 !=(0:Int))
    (7)
    (x15.2.2))
   (x15.2.2))
  (x15.2.2)
theorem mj(c:LChecker)(l:List LCol)(e:LExpr):
  aY prog 168 [(.agg (fe c)),(.list 53 (l.map aB)),(.agg (gZ e))] (ah (eF c l e)):=by
 obtain⟨r,H⟩:∃r,eF c l e=r:=⟨_,rfl⟩
 rw[H];unfold eF at H;refine PH.au func168 ntmps168 ?_;refine aa (ab (aO ?_));refine aO ?_;refine ai tk Z (ac (aa (ab (ag 4 tk Z ?_))))
 obtain⟨x15,h15,H⟩:=bF H
 have s15:=lZ l c.vars e;rw[h15]at s15;refine aj call67 (jt.r) s15 ?_;refine ag 7 tk Z (ac (aa (aa (ab (ag 3 tk Z ?_)))));refine bu Z Z Z H (fun H=>?_) (fun H=>?_)
 ·refine ag 4 tk Z ?_;refine bu Z Z Z H (fun H=>?_) (fun H=>?_)
  ·refine ag 3 tk Z (ac ?_);refine aF Z H (fun H=>?_) (fun H=>?_)
   ·refine ak 1 tk Z ?_;exact eA tk H Z
   refine al (ak 2 tk Z ?_);exact eA tk H Z
  refine ag 3 tk Z (ac (bH Z (al (ak 2 tk Z ?_))));exact eA tk H Z
 refine ag 7 tk Z (ac (bH Z (al (ak 2 tk Z ?_))));exact eA tk H Z
def it(c:LChecker)(inA:List LCol)(a:LAggregateCall):Option (Int×Int):=
 ae (
  letP (eE a.name) fun x13=>
  cond (!x13)
   (some true)
   (ae (cD ([[99,111,117,110,116],[115,117,109],[109,105,110],[109,97,120]]:Rs) a.function) fun x19=>
   cond (!x19)
    (some true)
    (cond (decide ((a.args.length:Int)>(1:Int)))
     (some true)
     (cond (decide ((a.args.length:Int)<(1:Int)))
      (some (!(a.function==([99,111,117,110,116]:Rb))))
      (some false))))) fun(t1:Bool)=>
 cond t1
  (some (0,3))
  (cond ((a.args.length:Int)==(0:Int))
   (some (1,0))
   (ae (aG a.args 0) fun(x49:LExpr)=>
   letP (fD inA c.vars x49) fun x51=>
   cond (x51.2.2 !=(0:Int))
    (some (0,x51.2.2))
    (letP (
     cond (x51.1==(0:Int))
      (true)
      (cond (a.function==([115,117,109]:Rb))
       ((x51.1 !=(1:Int)))
       (false))) fun(t2:Bool)=>
    cond t2
     (some (0,7))
     (cond (a.function==([99,111,117,110,116]:Rb))
      (some (1,0))
      (some (x51.1,0))))))
theorem sR(c:LChecker)(inA:List LCol)(a:LAggregateCall)(r:Int×Int)(H:it c inA a=some r):
  aY prog 187 [(.agg (fe c)),(.list 53 (inA.map aB)),(.agg (oW a))] (.tup [(ah r.1),(ah r.2)]):=by
 unfold it at H;refine PH.au func187 ntmps187 ?_;refine aa (ab (aO ?_));refine aO ?_;refine ag 2 tk Z (ac (aa (aa ?_)));refine ee (γ:=Unit) (fun t1 g1=>⟨76,upd (upd (upd (upd (fun _=>.any) 38 (aK t1)) 5 (.ptr (oW a))) 3 (.ptr (fe c))) 1 (.list 53 (inA.map aB)),fun _=>none,fun _=>none⟩) H (fun _ H=>?_) (fun t1 g1 H=>?_)
 ·refine ab (ag 2 tk Z ?_)
  obtain⟨x13,h13,H⟩:=bF H
  have s13:=mg a.name;rw[h13]at s13;refine aj call95 (jt.r) s13 ?_;refine ag 2 tk Z ?_;refine bu Z Z Z H (fun H=>?_) (fun H=>?_)
  ·refine ag 23 tk Z (ac ?_);refine aP _ () (aq H) Gh.d
  refine cy tk (rows':=List.map aA ([[99,111,117,110,116],[115,117,109],[109,105,110],[109,97,120]]:Rs)) (gP.refl _) ?_;refine ag 2 tk Z ?_
  obtain⟨x19,h19,H⟩:=am H
  have s19:=iC ([[99,111,117,110,116],[115,117,109],[109,105,110],[109,97,120]]:Rs) a.function _ h19;refine aj call11 (jt.r) s19 ?_;refine ag 3 tk Z ?_;refine bu Z Z Z H (fun H=>?_) (fun H=>?_)
  ·refine ag 16 tk Z (ac ?_);refine aP _ () (aq H) Gh.d
  refine ag 2 tk Z (aI tk (zl _) ?_);refine ag 3 tk Z ?_;refine bu Z Z Z H (fun H=>?_) (fun H=>?_)
  ·refine ag 10 tk Z (ac ?_);refine aP _ () (aq H) Gh.d
  refine ag 2 tk Z (aI tk (zl _) ?_);refine ag 2 tk Z ?_;refine bu Z Z Z H (fun H=>?_) (fun H=>?_)
  ·refine ag 5 tk Z (ac ?_);refine aP _ () (aq H) Gh.d
  refine ag 5 tk Z (ac ?_);refine aP _ () (aq H) Gh.d
 refine aF Z H (fun H=>?_) (fun H=>?_)
 ·refine ak 2 tk Z ?_;exact bi tk H Z
 refine al (aa (aa (ab (ag 2 tk Z (aI tk (zl _) ?_)))));refine ai tk Z (ac ?_);refine aF Z H (fun H=>?_) (fun H=>?_)
 ·refine ak 2 tk Z ?_;exact bi tk H Z
 refine al (aa (aX tk mok ⟨false,false,[]⟩ [0,1,2,3,4,5,6,7,8,9,10,11,12,13,14] Z (by decide+kernel) Z (az 5 Z ?_)))
 obtain⟨x49,k49,H⟩:=aV H
 refine bE k49.1 (aC dh k49.2) ?_;refine bw Z ?_
 obtain⟨x51,h51,H⟩:=bF H
 have s51:=lZ inA c.vars x49;rw[h51]at s51;refine aS call67 (jt.r) s51 ?_;refine az 7 Z (aQ (aa (av (ak 3 tk Z ?_))));refine aF Z H (fun H=>?_) (fun H=>?_)
 ·refine ak 3 tk Z ?_;exact bi tk H Z
 refine aa ?_;refine ed (γ:=Unit) (fun t2 g2=>⟨76,upd (upd (upd (fun _=>.any) 59 (aK t2)) 8 (ah x51.1)) 5 (.ptr (oW a)),fun _=>none,fun _=>none⟩) H (fun _ H=>?_) (fun t2 g2 H=>?_)
 ·refine ab (ag 3 tk Z ?_);refine bu Z Z Z H (fun H=>?_) (fun H=>?_)
  ·refine ag 9 tk Z (ac ?_);refine aP _ () H Gh.d
  refine ag 4 tk Z ?_;refine bu Z Z Z H (fun H=>?_) (fun H=>?_)
  ·refine ag 5 tk Z (ac ?_);refine aP _ () H Gh.d
  refine ag 5 tk Z (ac ?_);refine aP _ () H Gh.d
 refine aF Z H (fun H=>?_) (fun H=>?_)
 ·refine ak 2 tk Z ?_;exact bi tk H Z
 refine ak 4 tk Z ?_;refine aF Z H (fun H=>?_) (fun H=>?_)
 ·refine ak 2 tk Z ?_;exact bi tk H Z
 refine al (aM (ak 3 tk Z ?_));exact bi tk H Z
def dO(a:Rq)(b:Rq):Option (Int):=
 ae (nQ (if(b.length:Int)<(a.length:Int)then(b.length:Int)else(a.length:Int))) fun(n1:Nat)=>
 ae (aU (σ:=Unit) (ρ:=(Int)) (fun(j1:Nat) (_:Nat) (_:Unit)=>
  ae (aG a (j1:Int)) fun(x17:LVal)=>
  ae (aG b (j1:Int)) fun(x21:LVal)=>
  letP (kO x17 x21) fun x23=>
  cond (x23 !=(0:Int))
   (some (.ret x23))
   (some (.next ()))) 0 (List.range n1) ()) fun fl1=>fl1.thenR fun(_:Unit)=>
 letP (iu (a.length:Int) (b.length:Int)) fun x32=>
 some x32
theorem ox(a:Rq)(b:Rq)(r:Int)(H:dO a b=some r):
  aY prog 40 [(.list 58 (a.map af)),(.list 58 (b.map af))] (ah r):=by
 unfold dO at H;refine PH.au func40 ntmps40 ?_;refine ak 1 tk Z (aa (aa (ab (ai tk Z (aI tk (zl _) ?_)))));refine ai tk Z (aI tk (zl _) ?_);refine ag 2 tk Z (ac ?_)
 obtain⟨n1,hs1,H⟩:=am H
 have hz1:=mY hs1
 obtain⟨fl1,H1,Hp1⟩:=am H
 refine dj (τ:=Unit) (γ:=Unit) (fun s1 g1=>⟨33,upd (upd (fun _=>.any) 1 (.list 58 (b.map af))) 0 (.list 58 (a.map af)),fun _=>none,fun _=>none⟩) (fun t=>fl1= .next t) ?_ (fun s1 g1 hn1=>?_)
 ·refine av ?_;refine iU (fun j1 s1 g1=>⟨33,upd (upd (upd (upd (fun _=>.any) 12 (ah (j1:Int))) 11 (ah (if(b.length:Int)<(a.length:Int)then(b.length:Int)else(a.length:Int)))) 1 (.list 58 (b.map af))) 0 (.list 58 (a.map af)),fun _=>none,fun _=>none⟩) () H1 Gh.d (fun j1 s1 g1 hj1 hr1=>?_);refine ak 1 tk Z (aa ?_);refine bJ Z (fun h=>?_) (fun h=>?_)
  ·have hl1:=natLt hz1 h
   obtain⟨x1,fb1,hx1,H,hg1⟩:=rMc hl1 hr1
   obtain rfl:=natX hx1;refine al (aa (av (ak 2 tk Z (aa (aX tk mok ⟨false,false,[]⟩ [0,1,2,3,4,5,6,7,8,9] Z (by decide+kernel) Z (az 2 Z ?_))))))
   obtain⟨x17,k17,H⟩:=aV H
   refine bE k17.1 (aC (fun _=>Z) k17.2) ?_;refine az 3 Z ?_
   obtain⟨x21,k21,H⟩:=aV H
   refine bE k21.1 (aC (fun _=>Z) k21.2) ?_;refine bw Z ?_
   obtain⟨x23,h23,H⟩:=bF H
   have s23:=qF x17 x21;rw[h23]at s23;refine aS call63 (jt.r) s23 ?_;refine bw Z (aQ (ak 2 tk Z ?_));refine aF Z H (fun H=>?_) (fun H=>?_)
   ·refine ak 2 tk Z ?_;obtain rfl:=aq H;have e1:fl1= .ret _:=hg1;subst e1;obtain rfl:=aZ Hp1;refine bl tk Z (ps:=[(ah x23)]) ⟨_,_,rfl,rfl,rfl⟩ (PLe.q Z)
   refine al (aM (bc 2 tk Z ?_));exact bv () H hl1 hg1 (Gh.le (ao (ao (ao (bp (PLe.q (nT hz1 hl1)) aL)))) aw ax)
  have hn1:=rMd (natGe hz1 h) hr1;refine bj Z ?_;refine aP s1 g1 hn1 Gh.d
 have H:=iW hn1 Hp1;refine aa (ab (ai tk Z (aI tk (zl _) ?_)));refine ai tk Z (aI tk (zl _) ?_)
 obtain⟨x32,h32,H⟩:=bF H
 have s32:=me (a.length:Int) (b.length:Int);rw[h32]at s32;refine aj call64 (jt.r) s32 ?_;refine ai tk Z (ac ?_);exact bi tk H Z
def fg(data:Rz)(n:Int)(cmp:Rq->Rq->Option (Int)):Option (Rz):=
 ae (dg (σ:=Rz×Int×Int) (ρ:=Empty) (fun(s1:Rz×Int×Int)=>
  cond (decide (s1.2.2<=n))
   (ae (du s1.1 s1.2.1 s1.2.2 cmp) fun x18=>
   ae (cF (x18.length=s1.1.length) ()) fun(_:Unit)=>
   some (.next (x18,s1.2.2,(iw (s1.2.2+(20:Int))))))
   (some (.brk (s1.1,s1.2.1,s1.2.2)))) (data,0,20)) fun fl1=>fl1.thenP fun(s1:Rz×Int×Int)=>
 ae (du s1.1 s1.2.1 n cmp) fun x27=>
 ae (cF (x27.length=s1.1.length) ()) fun(_:Unit)=>
 ae (dg (σ:=Rz×Int) (ρ:=Empty) (fun(s2:Rz×Int)=>
  cond (decide (s2.2<n))
   (ae (dg (σ:=Rz×Int×Int) (ρ:=Empty) (fun(s5:Rz×Int×Int)=>
    cond (decide (s5.2.2<=n))
     (ae (fY s5.1 s5.2.1 (iw (s5.2.1+s2.2)) s5.2.2 cmp) fun x43=>
     ae (cF (x43.length=s5.1.length) ()) fun(_:Unit)=>
     some (.next (x43,s5.2.2,(iw (s5.2.2+(iw ((2:Int)*s2.2)))))))
     (some (.brk (s5.1,s5.2.1,s5.2.2)))) (s2.1,0,(iw ((2:Int)*s2.2)))) fun fl5=>fl5.thenP fun(s5:Rz×Int×Int)=>
   cond (decide ((iw (s5.2.1+s2.2))<n))
    (ae (fY s5.1 s5.2.1 (iw (s5.2.1+s2.2)) n cmp) fun x60=>
    ae (cF (x60.length=s5.1.length) ()) fun(_:Unit)=>
    some (.next (x60,(iw (s2.2*(2:Int))))))
    (some (.next (s5.1,(iw (s2.2*(2:Int)))))))
   (some (.brk (s2.1,s2.2)))) (x27,20)) fun fl2=>fl2.thenP fun(s2:Rz×Int)=>
 some s2.1
theorem oa(g_data:OwnRef){g_cmp:FuncId}{caps_cmp:List PV}(data:Rz)(n:Int)(cmp:Rq->Rq->Option (Int))(hg_cmp:∀(vs:Array Value) (w:World),(callFunc g_cmp vs).run prog w= .ok (.enter g_cmp vs) w)(hp_cmp:∀a0 a1 r,cmp a0 a1=some r->aY prog g_cmp ((.list 58 (a0.map af))::(.list 58 (a1.map af))::caps_cmp) (ah r))(r:Rz)(H:fg data n cmp=some r):
  PH prog 190 [(.own 0 g_data (data.map (ap 58 af)).length),(ah n),(.fn g_cmp caps_cmp)] ⟨fun _=>none,upd (fun _=>none) 0 (some ⟨g_data,46,(data.map (ap 58 af)),true⟩)⟩ (fun u H=>u=(.tup [])/\H=⟨fun _=>none,upd (fun _=>none) 0 (some ⟨g_data,46,(r.map (ap 58 af)),true⟩)⟩):=by
 unfold fg at H;refine PH.au func190 ntmps190 ?_;refine ak 1 tk Z (ak 3 tk Z (aa ?_))
 obtain⟨fl1,H1,Hp1⟩:=am H
 refine dj (τ:=Rz×Int×Int) (γ:=Unit) (fun s1 g1=>⟨63,upd (upd (upd (upd (upd (fun _=>.any) 7 (ah s1.2.1)) 6 (ah 20)) 2 (.fn g_cmp caps_cmp)) 1 (ah n)) 0 (.own 0 g_data (s1.1.map (ap 58 af)).length),fun _=>none,upd (fun _=>none) 0 (some ⟨g_data,46,(s1.1.map (ap 58 af)),true⟩)⟩) (fun t=>fl1= .next t) ?_ (fun s1 g1 hn1=>?_)
 ·refine av ?_;refine cO (fun s1 g1=>⟨63,upd (upd (upd (upd (upd (upd (fun _=>.any) 8 (ah s1.2.2)) 7 (ah s1.2.1)) 6 (ah 20)) 2 (.fn g_cmp caps_cmp)) 1 (ah n)) 0 (.own 0 g_data (s1.1.map (ap 58 af)).length),fun _=>none,upd (fun _=>none) 0 (some ⟨g_data,46,(s1.1.map (ap 58 af)),true⟩)⟩) () H1 Gh.d (fun m1 s1 g1 hr1=>?_)
  obtain⟨fb1,H,hg1⟩:=cp hr1
  refine aa (ak 3 tk Z ?_);refine aF Z H (fun H=>?_) (fun H=>?_)
  ·refine al (av (aa (ab (ag 4 tk Z ?_))))
   obtain⟨x18,h18,H⟩:=am H
   have s18:=jz g_data s1.1 s1.2.1 s1.2.2 cmp hg_cmp hp_cmp _ h18
   obtain⟨_,q18_0,H⟩:=am H
   have l18_0:=(bG q18_0).1;have z18_0:(List.map (ap 58 af) s1.1).length=(List.map (ap 58 af) x18).length:=by simpa using(l18_0).symm
   refine bB (g:=191) Z Z Z call191 [] [(0,0)] Z Z Z Z (jt.of2 (jN.cons (pD.own Z) (jN.cons (pD.of_eq Z) (jN.cons (pD.of_eq Z) (jN.cons (pD.of_eq Z) jN.nil))))) (by rw[bq,aW,bn];rfl) s18 ?_;rintro u18 H18h ⟨rfl,rfl⟩
   refine⟨_,rfl,?_⟩
   refine bS (st':=⟨_,_,fun _=>none,upd (fun _=>none) 0 (some ⟨g_data,46,(x18.map (ap 58 af)),true⟩)⟩) (Gh.le (bs _ _) aw (aD ax)) ?_;refine ac (ak 2 tk Z (bc 4 tk Z (aM ?_)));obtain rfl:=aq H;refine ce (x18,s1.2.2,(iw (s1.2.2+(20:Int)))) () hg1 (Gh.le (bp (PLe.of2 (pD.of_eq (congrArg (PV.own 0 g_data) z18_0))) (ao (ao (ao (ao (ao aL)))))) aw (aD ax))
  refine bj Z ?_;obtain rfl:=aq H;refine aP (s1.1,s1.2.1,s1.2.2) () hg1 Gh.d
 have H:=ci hn1 Hp1;refine aa (ab (ag 4 tk Z ?_))
 obtain⟨x27,h27,H⟩:=am H
 have s27:=jz g_data s1.1 s1.2.1 n cmp hg_cmp hp_cmp _ h27
 obtain⟨_,q27_0,H⟩:=am H
 have l27_0:=(bG q27_0).1;have z27_0:(List.map (ap 58 af) s1.1).length=(List.map (ap 58 af) x27).length:=by simpa using(l27_0).symm
 refine bB (g:=191) Z Z Z call191 [] [(0,0)] Z Z Z Z (jt.of2 (jN.cons (pD.own Z) (jN.cons (pD.of_eq Z) (jN.cons (pD.of_eq Z) (jN.cons (pD.of_eq Z) jN.nil))))) (by rw[bq,aW,bn];rfl) s27 ?_;rintro u27 H27h ⟨rfl,rfl⟩
 refine⟨_,rfl,?_⟩
 refine bS (st':=⟨_,_,fun _=>none,upd (fun _=>none) 0 (some ⟨g_data,46,(x27.map (ap 58 af)),true⟩)⟩) (Gh.le (bs _ _) aw (aD ax)) ?_;refine ac ?_
 obtain⟨fl2,H2,Hp2⟩:=am H
 refine dj (τ:=Rz×Int) (γ:=Unit) (fun s2 g2=>⟨63,upd (fun _=>.any) 0 (.own 0 g_data (s2.1.map (ap 58 af)).length),fun _=>none,upd (fun _=>none) 0 (some ⟨g_data,46,(s2.1.map (ap 58 af)),true⟩)⟩) (fun t=>fl2= .next t) ?_ (fun s2 g2 hn2=>?_)
 ·refine av ?_;refine cO (fun s2 g2=>⟨63,upd (upd (upd (upd (fun _=>.any) 6 (ah s2.2)) 2 (.fn g_cmp caps_cmp)) 1 (ah n)) 0 (.own 0 g_data (s2.1.map (ap 58 af)).length),fun _=>none,upd (fun _=>none) 0 (some ⟨g_data,46,(s2.1.map (ap 58 af)),true⟩)⟩) () H2 (Gh.le (bp (PLe.of2 (pD.of_eq (congrArg (PV.own 0 g_data) z27_0))) (ao (ao (ao aL)))) aw (aD ax)) (fun m2 s2 g2 hr2=>?_)
  obtain⟨fb2,H,hg2⟩:=cp hr2
  refine aa (ak 3 tk Z ?_);refine aF Z H (fun H=>?_) (fun H=>?_)
  ·refine al (av (ak 4 tk Z (aa ?_)))
   obtain⟨fl5,H5,Hp5⟩:=am H
   refine dj (τ:=Rz×Int×Int) (γ:=Unit) (fun s5 g5=>⟨63,upd (upd (upd (upd (upd (fun _=>.any) 7 (ah s5.2.1)) 6 (ah s2.2)) 2 (.fn g_cmp caps_cmp)) 1 (ah n)) 0 (.own 0 g_data (s5.1.map (ap 58 af)).length),fun _=>none,upd (fun _=>none) 0 (some ⟨g_data,46,(s5.1.map (ap 58 af)),true⟩)⟩) (fun t=>fl5= .next t) ?_ (fun s5 g5 hn5=>?_)
   ·refine av ?_;refine cO (fun s5 g5=>⟨63,upd (upd (upd (upd (upd (upd (fun _=>.any) 8 (ah s5.2.2)) 7 (ah s5.2.1)) 6 (ah s2.2)) 2 (.fn g_cmp caps_cmp)) 1 (ah n)) 0 (.own 0 g_data (s5.1.map (ap 58 af)).length),fun _=>none,upd (fun _=>none) 0 (some ⟨g_data,46,(s5.1.map (ap 58 af)),true⟩)⟩) () H5 Gh.d (fun m5 s5 g5 hr5=>?_)
    obtain⟨fb5,H,hg5⟩:=cp hr5
    refine aa (ak 3 tk Z ?_);refine aF Z H (fun H=>?_) (fun H=>?_)
    ·refine al (av (aa (ab (ag 7 tk Z ?_))))
     obtain⟨x43,h43,H⟩:=am H
     have s43:=kt g_data s5.1 s5.2.1 (iw (s5.2.1+s2.2)) s5.2.2 cmp hg_cmp hp_cmp _ h43
     obtain⟨_,q43_0,H⟩:=am H
     have l43_0:=(bG q43_0).1;have z43_0:(List.map (ap 58 af) s5.1).length=(List.map (ap 58 af) x43).length:=by simpa using(l43_0).symm
     refine bB (g:=192) Z Z Z call192 [] [(0,0)] Z Z Z Z (jt.of2 (jN.cons (pD.own Z) (jN.cons (pD.of_eq Z) (jN.cons (pD.of_eq Z) (jN.cons (pD.of_eq Z) (jN.cons (pD.of_eq Z) jN.nil)))))) (by rw[bq,aW,bn];rfl) s43 ?_;rintro u43 H43h ⟨rfl,rfl⟩
     refine⟨_,rfl,?_⟩
     refine bS (st':=⟨_,_,fun _=>none,upd (fun _=>none) 0 (some ⟨g_data,46,(x43.map (ap 58 af)),true⟩)⟩) (Gh.le (bs _ _) aw (aD ax)) ?_;refine ac (ak 2 tk Z (bc 5 tk Z (aM ?_)));obtain rfl:=aq H;refine ce (x43,s5.2.2,(iw (s5.2.2+(iw ((2:Int)*s2.2))))) () hg5 (Gh.le (bp (PLe.of2 (pD.of_eq (congrArg (PV.own 0 g_data) z43_0))) (ao (ao (ao (ao (ao aL)))))) aw (aD ax))
    refine bj Z ?_;obtain rfl:=aq H;refine aP (s5.1,s5.2.1,s5.2.2) () hg5 Gh.d
   have H:=ci hn5 Hp5;refine aa (ak 4 tk Z (ak 3 tk Z ?_));refine aF Z H (fun H=>?_) (fun H=>?_)
   ·refine ab (ag 5 tk Z ?_)
    obtain⟨x60,h60,H⟩:=am H
    have s60:=kt g_data s5.1 s5.2.1 (iw (s5.2.1+s2.2)) n cmp hg_cmp hp_cmp _ h60
    obtain⟨_,q60_0,H⟩:=am H
    have l60_0:=(bG q60_0).1;have z60_0:(List.map (ap 58 af) s5.1).length=(List.map (ap 58 af) x60).length:=by simpa using(l60_0).symm
    refine bB (g:=192) Z Z Z call192 [] [(0,0)] Z Z Z Z (jt.of2 (jN.cons (pD.own Z) (jN.cons (pD.of_eq Z) (jN.cons (pD.of_eq Z) (jN.cons (pD.of_eq Z) (jN.cons (pD.of_eq Z) jN.nil)))))) (by rw[bq,aW,bn];rfl) s60 ?_;rintro u60 H60h ⟨rfl,rfl⟩
    refine⟨_,rfl,?_⟩
    refine bS (st':=⟨_,_,fun _=>none,upd (fun _=>none) 0 (some ⟨g_data,46,(x60.map (ap 58 af)),true⟩)⟩) (Gh.le (bs _ _) aw (aD ax)) ?_;refine ac (bc 3 tk Z (aM ?_));obtain rfl:=aq H;refine ce (x60,(iw (s2.2*(2:Int)))) () hg2 (Gh.le (bp (PLe.of2 (pD.of_eq (congrArg (PV.own 0 g_data) z60_0))) (ao (ao (ao aL)))) aw (aD ax))
   refine al (bc 3 tk Z (aM ?_));obtain rfl:=aq H;refine ce (s5.1,(iw (s2.2*(2:Int)))) () hg2 Gh.d
  refine bj Z ?_;obtain rfl:=aq H;refine aP (s2.1,s2.2) () hg2 Gh.d
 have H:=ci hn2 Hp2;obtain rfl:=aq H;refine bZ (st':=⟨63,fun _=>.any,fun _=>none,upd (fun _=>none) 0 (some ⟨g_data,46,(s2.1.map (ap 58 af)),true⟩)⟩) (Gh.le aL aw (aD ax)) ?_;refine iO Z (PLe.q Z) ⟨rfl,rfl⟩
def jf(a:LVal)(op:Rb)(b:LVal):Bool×Int:=
 letP (
  cond (!(op==([61]:Rb)))
   (cond (!(op==([60]:Rb)))
    ((!(op==([60,61]:Rb))))
    (false))
   (false)) fun(t1:Bool)=>
 cond t1
  ((false,3))
  (letP (
   cond (a.kind==(0:Int))
    (true)
    ((b.kind==(0:Int)))) fun(t2:Bool)=>
  cond t2
   ((true,0))
   (letP (kO a b) fun x29=>
   cond (x29==(0:Int))
    (cond (!(op==([60]:Rb)))
     ((true,0))
     (cond (decide (x29<(0:Int)))
      (((!(op==([61]:Rb))),0))
      ((false,0))))
    (cond (decide (x29<(0:Int)))
     (((!(op==([61]:Rb))),0))
     ((false,0)))))
theorem uf(a:LVal)(op:Rb)(b:LVal):
  aY prog 60 [(.agg (af a)),(.str op),(.agg (af b))] (.tup [(aK ((jf a op b).1)),(ah ((jf a op b).2))]):=by
 obtain⟨r,H⟩:∃r,jf a op b=r:=⟨_,rfl⟩
 rw[H];unfold jf at H;refine PH.au func60 ntmps60 ?_;refine aa (ab (aO ?_));refine aO ?_;refine ag 2 tk Z (ac (aa (aa ?_)));refine ed (γ:=Unit) (fun t1 g1=>⟨44,upd (upd (upd (upd (fun _=>.any) 18 (aK t1)) 5 (.ptr (af b))) 3 (.ptr (af a))) 1 (.str op),fun _=>none,fun _=>none⟩) H (fun _ H=>?_) (fun t1 g1 H=>?_)
 ·refine ab (ag 3 tk Z ?_);refine bu Z Z Z H (fun H=>?_) (fun H=>?_)
  ·refine ag 4 tk Z ?_;refine bu Z Z Z H (fun H=>?_) (fun H=>?_)
   ·refine ag 3 tk Z (ac ?_);refine aP _ () H Gh.d
   refine ag 3 tk Z (ac ?_);refine aP _ () H Gh.d
  refine ag 7 tk Z (ac ?_);refine aP _ () H Gh.d
 refine aF Z H (fun H=>?_) (fun H=>?_)
 ·refine ak 2 tk Z ?_;exact eA tk H Z
 refine al (aa (aa ?_));refine ed (γ:=Unit) (fun t2 g2=>⟨44,upd (upd (upd (upd (fun _=>.any) 26 (aK t2)) 5 (.ptr (af b))) 3 (.ptr (af a))) 1 (.str op),fun _=>none,fun _=>none⟩) H (fun _ H=>?_) (fun t2 g2 H=>?_)
 ·refine ab (ag 4 tk Z ?_);refine bu Z Z Z H (fun H=>?_) (fun H=>?_)
  ·refine ag 4 tk Z (ac ?_);refine aP _ () H Gh.d
  refine ag 4 tk Z (ac ?_);refine aP _ () H Gh.d
 refine aF Z H (fun H=>?_) (fun H=>?_)
 ·refine ak 2 tk Z ?_;exact eA tk H Z
 refine al (aa (ab (ag 2 tk Z ?_)))
 obtain⟨x29,h29,H⟩:=bF H
 have s29:=qF a b;rw[h29]at s29;refine aj call63 (jt.r) s29 ?_;refine ai tk Z (ac (aa (ab (ag 3 tk Z ?_))));refine bu Z Z Z H (fun H=>?_) (fun H=>?_)
 ·refine ag 4 tk Z ?_;refine bu Z Z Z H (fun H=>?_) (fun H=>?_)
  ·refine ag 9 tk Z (ac ?_);exact eA tk H Z
  refine ag 3 tk Z ?_;refine bu Z Z Z H (fun H=>?_) (fun H=>?_)
  ·refine ag 6 tk Z (ac ?_);exact eA tk H Z
  refine ag 6 tk Z (ac ?_);exact eA tk H Z
 refine ag 7 tk Z ?_;refine bu Z Z Z H (fun H=>?_) (fun H=>?_)
 ·refine ag 6 tk Z (ac ?_);exact eA tk H Z
 refine ag 6 tk Z (ac ?_);exact eA tk H Z
def iN(data:Rs)(a:Int)(b:Int):Option (Rs):=
 ae (dg (σ:=Rs×Int) (ρ:=Empty) (fun(s1:Rs×Int)=>
  cond (decide (s1.2>=(0:Int)))
   (ae (gn s1.1 s1.2 (iw (b-a)) a) fun x26=>
   ae (cF (x26.length=s1.1.length) ()) fun(_:Unit)=>
   some (.next (x26,(iw (s1.2-(1:Int))))))
   (some (.brk (s1.1,s1.2)))) (data,(iw (Int.tdiv (iw ((iw (b-a))-(1:Int))) (2:Int))))) fun fl1=>fl1.thenP fun(s1:Rs×Int)=>
 ae (dg (σ:=Rs×Int) (ρ:=Empty) (fun(s2:Rs×Int)=>
  cond (decide (s2.2>=(0:Int)))
   (ae (aG s2.1 (iw (a+s2.2))) fun(x43:Rb)=>
   ae (aG s2.1 a) fun(x47:Rb)=>
   ae (aG s2.1 a) fun(_:Rb)=>
   letP (s2.1.set a.toNat x43) fun(y7:Rs)=>
   ae (aG y7 (iw (a+s2.2))) fun(_:Rb)=>
   letP (y7.set ((iw (a+s2.2)).toNat) x47) fun(y8:Rs)=>
   ae (gn y8 0 s2.2 a) fun x55=>
   ae (cF (x55.length=y8.length) ()) fun(_:Unit)=>
   some (.next (x55,(iw (s2.2-(1:Int))))))
   (some (.brk (s2.1,s2.2)))) (s1.1,(iw ((iw (b-a))-(1:Int))))) fun fl2=>fl2.thenP fun(s2:Rs×Int)=>
 some s2.1
theorem nJ(g_data:OwnRef)(data:Rs)(a:Int)(b:Int)(r:Rs)(H:iN data a b=some r):
  PH prog 79 [(.own 0 g_data (data.map aA).length),(ah a),(ah b)] ⟨fun _=>none,upd (fun _=>none) 0 (some ⟨g_data,9,(data.map aA),true⟩)⟩ (fun u H=>u=(.tup [])/\H=⟨fun _=>none,upd (fun _=>none) 0 (some ⟨g_data,9,(r.map aA),true⟩)⟩):=by
 unfold iN at H;refine PH.au func79 ntmps79 ?_;refine ak 2 tk Z (ak 1 tk Z (ak 4 tk Z (aa (ak 4 tk Z ?_))))
 obtain⟨fl1,H1,Hp1⟩:=am H
 refine dj (τ:=Rs×Int) (γ:=Unit) (fun s1 g1=>⟨56,upd (upd (upd (upd (fun _=>.any) 8 (ah (iw (b-a)))) 7 (ah 0)) 6 (ah a)) 0 (.own 0 g_data (s1.1.map aA).length),fun _=>none,upd (fun _=>none) 0 (some ⟨g_data,9,(s1.1.map aA),true⟩)⟩) (fun t=>fl1= .next t) ?_ (fun s1 g1 hn1=>?_)
 ·refine av ?_;refine cO (fun s1 g1=>⟨56,upd (upd (upd (upd (upd (fun _=>.any) 9 (ah s1.2)) 8 (ah (iw (b-a)))) 7 (ah 0)) 6 (ah a)) 0 (.own 0 g_data (s1.1.map aA).length),fun _=>none,upd (fun _=>none) 0 (some ⟨g_data,9,(s1.1.map aA),true⟩)⟩) () H1 Gh.d (fun m1 s1 g1 hr1=>?_)
  obtain⟨fb1,H,hg1⟩:=cp hr1
  refine aa (ak 2 tk Z ?_);refine aF Z H (fun H=>?_) (fun H=>?_)
  ·refine al (aa (av (ab (ag 4 tk Z ?_))))
   obtain⟨x26,h26,H⟩:=am H
   have s26:=kE g_data s1.1 s1.2 (iw (b-a)) a _ h26
   obtain⟨_,q26_0,H⟩:=am H
   have l26_0:=(bG q26_0).1;have z26_0:(List.map aA s1.1).length=(List.map aA x26).length:=by simpa using(l26_0).symm
   refine bB (g:=112) Z Z Z call112 [] [(0,0)] Z Z Z Z (jt.of2 (jN.cons (pD.own Z) (jN.cons (pD.of_eq Z) (jN.cons (pD.of_eq Z) (jN.cons (pD.of_eq Z) jN.nil))))) (by rw[bq,aW,bn];rfl) s26 ?_;rintro u26 H26h ⟨rfl,rfl⟩
   refine⟨_,rfl,?_⟩
   refine bS (st':=⟨_,_,fun _=>none,upd (fun _=>none) 0 (some ⟨g_data,9,(x26.map aA),true⟩)⟩) (Gh.le (bs _ _) aw (aD ax)) ?_;refine ac (aM (bc 3 tk Z ?_));obtain rfl:=aq H;refine ce (x26,(iw (s1.2-(1:Int)))) () hg1 (Gh.le (bp (PLe.of2 (pD.of_eq (congrArg (PV.own 0 g_data) z26_0))) (ao (ao (ao (ao aL))))) aw (aD ax))
  refine bj Z ?_;obtain rfl:=aq H;refine aP (s1.1,s1.2) () hg1 Gh.d
 have H:=ci hn1 Hp1;refine ak 3 tk Z ?_
 obtain⟨fl2,H2,Hp2⟩:=am H
 refine dj (τ:=Rs×Int) (γ:=Unit) (fun s2 g2=>⟨56,upd (fun _=>.any) 0 (.own 0 g_data (s2.1.map aA).length),fun _=>none,upd (fun _=>none) 0 (some ⟨g_data,9,(s2.1.map aA),true⟩)⟩) (fun t=>fl2= .next t) ?_ (fun s2 g2 hn2=>?_)
 ·refine av ?_;refine cO (fun s2 g2=>⟨56,upd (upd (upd (upd (fun _=>.any) 10 (ah s2.2)) 7 (ah 0)) 6 (ah a)) 0 (.own 0 g_data (s2.1.map aA).length),fun _=>none,upd (fun _=>none) 0 (some ⟨g_data,9,(s2.1.map aA),true⟩)⟩) () H2 Gh.d (fun m2 s2 g2 hr2=>?_)
  obtain⟨fb2,H,hg2⟩:=cp hr2
  refine aa (ak 2 tk Z ?_);refine aF Z H (fun H=>?_) (fun H=>?_)
  ·refine al (aa (av (aa ?_)));refine cA (tag:=0) Z (fun ho0=>?_);refine aX tk mok ⟨false,true,[]⟩ [0,1,2,3,4,5,6,7,8,9,10,11,12,13,14,15,16,17,18,19] Z (by decide+kernel) Z (az 10 Z ?_)
   obtain⟨x43,k43,H⟩:=aV H
   refine aT tk ⟨k43.1,(bh k43.2)⟩ (bf ho0 k43.2) ?_;refine bo tk Z Z Z Z Z Z Z Z Z (aC (fun _=>Z) k43.2) Z Z ?_;refine az 2 Z ?_
   obtain⟨x47,k47,H⟩:=aV H
   refine aT tk ⟨k47.1,(bh k47.2)⟩ (bf ho0 k47.2) ?_;refine bo tk Z Z Z Z Z Z Z Z Z (aC (fun _=>Z) k47.2) Z Z ?_
   obtain⟨x49,k49,H⟩:=aV H
   refine aT tk ⟨k49.1,(bh k49.2)⟩ (bf ho0 k49.2) ?_
   obtain⟨y7,hy7,H⟩:=bF H
   refine cg tk Z Z Z Z Z Z Z Z Z (by rw[zl];exact(zg.1 k49.2).1) (PLe.refl _ _) Z Z Z Z (by decide) (bD (fun _=>Z) k49.2 Z hy7) ?_
   obtain⟨x50,k50,H⟩:=aV H
   refine aT tk ⟨k50.1,(gJ (bt (f:=aA) hy7) k50.2)⟩ (gX ho0 (bt (f:=aA) hy7) k50.2) ?_
   obtain⟨y8,hy8,H⟩:=bF H
   refine cg tk Z Z Z Z Z Z Z Z Z (by rw[zl];exact(zg.1 k50.2).1) (PLe.refl _ _) Z Z Z Z (by decide) (bD (fun _=>Z) k50.2 Z hy8) ?_;refine aQ (ab (ag 4 tk Z ?_))
   obtain⟨x55,h55,H⟩:=am H
   have s55:=kE g_data y8 0 s2.2 a _ h55
   obtain⟨_,q55_0,H⟩:=am H
   have l55_0:=(bG q55_0).1;have z55_0:(List.map aA y8).length=(List.map aA x55).length:=by simpa using(l55_0).symm
   refine bB (g:=112) Z Z Z call112 [] [(0,0)] Z Z Z Z (jt.of2 (jN.cons (pD.own ((bt (f:=aA) hy7).trans (bt (f:=aA) hy8))) (jN.cons (pD.of_eq Z) (jN.cons (pD.of_eq Z) (jN.cons (pD.of_eq Z) jN.nil))))) (by rw[bq,aW,bn];rfl) s55 ?_;rintro u55 H55h ⟨rfl,rfl⟩
   refine⟨_,rfl,?_⟩
   refine bS (st':=⟨_,_,fun _=>none,upd (fun _=>none) 0 (some ⟨g_data,9,(x55.map aA),true⟩)⟩) (Gh.le (bs _ _) aw (aD ax)) ?_;refine ac (aM (bc 3 tk Z ?_));obtain rfl:=aq H;refine ce (x55,(iw (s2.2-(1:Int)))) () hg2 (Gh.le (bp (PLe.of2 (pD.of_eq (congrArg (PV.own 0 g_data) (((bt (f:=aA) hy7).trans (bt (f:=aA) hy8)).trans z55_0)))) (ao (ao (ao aL)))) aw (aD ax))
  refine bj Z ?_;obtain rfl:=aq H;refine aP (s2.1,s2.2) () hg2 Gh.d
 have H:=ci hn2 Hp2;obtain rfl:=aq H;refine bZ (st':=⟨56,fun _=>.any,fun _=>none,upd (fun _=>none) 0 (some ⟨g_data,9,(s2.1.map aA),true⟩)⟩) (Gh.le aL aw (aD ax)) ?_;refine iO Z (PLe.q Z) ⟨rfl,rfl⟩
def gO(data:Rs)(a:Int)(b:Int):Option (Rs):=
 cond (decide ((iw (b-a))>=(8:Int)))
  (ae (kG (iw (b-a))) fun x19=>
  ae (dg (σ:=Rs×Int×Int) (ρ:=Empty) (fun(s1:Rs×Int×Int)=>
   cond (decide (s1.2.1<=(iw ((iw (a+(iw ((iw (Int.tdiv (iw (b-a)) (4:Int)))*(2:Int)))))+(1:Int)))))
    (ae (lc s1.2.2) fun x36=>
    letP (
     cond (decide ((iw (andI .u64 x36.1 (IntKind.u64.wrap (x19-(1:Int)))))>=(iw (b-a))))
      ((s1.1,(iw ((iw (andI .u64 x36.1 (IntKind.u64.wrap (x19-(1:Int)))))-(iw (b-a))))))
      ((s1.1,(iw (andI .u64 x36.1 (IntKind.u64.wrap (x19-(1:Int)))))))) fun(t8:Rs×Int)=>
    ae (aG t8.1 (iw (a+t8.2))) fun(x57:Rb)=>
    ae (aG t8.1 s1.2.1) fun(x61:Rb)=>
    ae (aG t8.1 s1.2.1) fun(_:Rb)=>
    letP (t8.1.set s1.2.1.toNat x57) fun(y9:Rs)=>
    ae (aG y9 (iw (a+t8.2))) fun(_:Rb)=>
    letP (y9.set ((iw (a+t8.2)).toNat) x61) fun(y10:Rs)=>
    some (.next (y10,(iw (s1.2.1+(1:Int))),x36.2)))
    (some (.brk (s1.1,s1.2.1,s1.2.2)))) (data,(iw ((iw (a+(iw ((iw (Int.tdiv (iw (b-a)) (4:Int)))*(2:Int)))))-(1:Int))),(IntKind.u64.wrap (iw (b-a))))) fun fl1=>fl1.thenP fun(s1:Rs×Int×Int)=>
  some s1.1)
  (some data)
theorem mu(g_data:OwnRef)(data:Rs)(a:Int)(b:Int)(r:Rs)(H:gO data a b=some r):
  PH prog 80 [(.own 0 g_data (data.map aA).length),(ah a),(ah b)] ⟨fun _=>none,upd (fun _=>none) 0 (some ⟨g_data,9,(data.map aA),true⟩)⟩ (fun u H=>u=(.tup [])/\H=⟨fun _=>none,upd (fun _=>none) 0 (some ⟨g_data,9,(r.map aA),true⟩)⟩):=by
 unfold gO at H;refine PH.au func80 ntmps80 ?_;refine ak 4 tk Z (ak 2 tk Z ?_);refine aF Z H (fun H=>?_) (fun H=>?_)
 ·refine aa (ab (ag 2 tk Z ?_));refine bm tk fun b7=>?_
  refine ay tk ?_;refine ac (aa (ab (ai tk Z ?_)))
  obtain⟨x19,h19,H⟩:=am H
  have s19:=qA (iw (b-a)) _ h19;refine aj call113 (jt.r) s19 ?_;refine ai tk Z (ac (ak 7 tk Z ?_))
  obtain⟨fl1,H1,Hp1⟩:=am H
  refine dj (τ:=Rs×Int×Int) (γ:=Unit) (fun s1 g1=>⟨65,upd (fun _=>.any) 0 (.own 0 g_data (s1.1.map aA).length),fun _=>none,upd (fun _=>none) 0 (some ⟨g_data,9,(s1.1.map aA),true⟩)⟩) (fun t=>fl1= .next t) ?_ (fun s1 g1 hn1=>?_)
  ·refine av ?_;refine cO (fun s1 g1=>⟨65,upd (upd (upd (upd (upd (upd (fun _=>.any) 9 (ah s1.2.1)) 8 (.val (.int .u64 x19))) 7 (.box 7 b7 0)) 6 (ah (iw (b-a)))) 1 (ah a)) 0 (.own 0 g_data (s1.1.map aA).length),upd (fun _=>none) 7 (some ⟨b7,[(.val (.int .u64 s1.2.2))]⟩),upd (fun _=>none) 0 (some ⟨g_data,9,(s1.1.map aA),true⟩)⟩) () H1 Gh.d (fun m1 s1 g1 hr1=>?_)
   obtain⟨fb1,H,hg1⟩:=cp hr1
   refine aa (ak 8 tk Z ?_);refine aF Z H (fun H=>?_) (fun H=>?_)
   ·refine al (aa (av (aa (ab ?_))))
    obtain⟨x36,h36,H⟩:=am H
    have s36:=rk b7 s1.2.2 _ h36;refine bB (g:=114) Z Z Z call114 [(7,1500)] [] Z Z Z Z (jt.of2 (jN.cons pD.boxT jN.nil)) (by rw[cf,bq,bn];rfl) s36 ?_;rintro u36 H36h ⟨rfl,rfl⟩
    refine⟨_,rfl,?_⟩
    refine bS (st':=⟨_,_,upd (fun _=>none) 7 (some ⟨b7,[(.val (.int .u64 x36.2))]⟩),upd (fun _=>none) 0 (some ⟨g_data,9,(s1.1.map aA),true⟩)⟩) (Gh.le (bs _ _) (aR Z (jt.r) aw) (aD ax)) ?_;refine ag 2 tk Z (Ao.and Z Z Z Z Z (ag 2 tk Z (ac (aa (ak 3 tk Z ?_)))));refine ed (γ:=Unit) (fun t8 g8=>⟨65,upd (upd (upd (upd (upd (upd (upd (fun _=>.any) 10 (ah t8.2)) 9 (ah s1.2.1)) 8 (.val (.int .u64 x19))) 7 (.box 7 b7 0)) 6 (ah (iw (b-a)))) 1 (ah a)) 0 (.own 0 g_data (t8.1.map aA).length),upd (fun _=>none) 7 (some ⟨b7,[(.val (.int .u64 x36.2))]⟩),upd (fun _=>none) 0 (some ⟨g_data,9,(t8.1.map aA),true⟩)⟩) H (fun _ H=>?_) (fun t8 g8 H=>?_)
    ·refine aF Z H (fun H=>?_) (fun H=>?_)
     ·refine bc 4 tk Z ?_;refine aP _ () H Gh.d
     refine al ?_;refine aP _ () H Gh.d
    refine cA (tag:=0) Z (fun ho0=>?_);refine aX tk mok ⟨false,true,[]⟩ [0,1,2,3,4,5,6,7,8,9,10,11,12,13,14,15,16,17,18,19] Z (by decide+kernel) Z (az 10 Z ?_)
    obtain⟨x57,k57,H⟩:=aV H
    refine aT tk ⟨k57.1,(bh k57.2)⟩ (bf ho0 k57.2) ?_;refine bo tk Z Z Z Z Z Z Z Z Z (aC (fun _=>Z) k57.2) Z Z ?_;refine az 2 Z ?_
    obtain⟨x61,k61,H⟩:=aV H
    refine aT tk ⟨k61.1,(bh k61.2)⟩ (bf ho0 k61.2) ?_;refine bo tk Z Z Z Z Z Z Z Z Z (aC (fun _=>Z) k61.2) Z Z ?_
    obtain⟨x63,k63,H⟩:=aV H
    refine aT tk ⟨k63.1,(bh k63.2)⟩ (bf ho0 k63.2) ?_
    obtain⟨y9,hy9,H⟩:=bF H
    refine cg tk Z Z Z Z Z Z Z Z Z (by rw[zl];exact(zg.1 k63.2).1) (PLe.refl _ _) Z Z Z Z (by decide) (bD (fun _=>Z) k63.2 Z hy9) ?_
    obtain⟨x64,k64,H⟩:=aV H
    refine aT tk ⟨k64.1,(gJ (bt (f:=aA) hy9) k64.2)⟩ (gX ho0 (bt (f:=aA) hy9) k64.2) ?_
    obtain⟨y10,hy10,H⟩:=bF H
    refine cg tk Z Z Z Z Z Z Z Z Z (by rw[zl];exact(zg.1 k64.2).1) (PLe.refl _ _) Z Z Z Z (by decide) (bD (fun _=>Z) k64.2 Z hy10) ?_;refine aQ (aM (bc 3 tk Z ?_));obtain rfl:=aq H;refine ce (y10,(iw (s1.2.1+(1:Int))),x36.2) () hg1 (Gh.le (bp (PLe.of2 (pD.of_eq (congrArg (PV.own 0 g_data) ((bt (f:=aA) hy9).trans (bt (f:=aA) hy10))))) (ao (ao (ao (ao (ao aL)))))) (aR Z (jt.r) aw) (aD ax))
   refine bj Z ?_;obtain rfl:=aq H;refine aP (s1.1,s1.2.1,s1.2.2) () hg1 Gh.d
  have H:=ci hn1 Hp1;obtain rfl:=aq H;refine bZ (st':=⟨65,fun _=>.any,fun _=>none,upd (fun _=>none) 0 (some ⟨g_data,9,(s1.1.map aA),true⟩)⟩) (Gh.le aL aw (aD ax)) ?_;refine iO Z (PLe.q Z) ⟨rfl,rfl⟩
 refine al ?_;obtain rfl:=aq H;refine bZ (st':=⟨65,fun _=>.any,fun _=>none,upd (fun _=>none) 0 (some ⟨g_data,9,(data.map aA),true⟩)⟩) (Gh.le aL aw (aD ax)) ?_;refine iO Z (PLe.q Z) ⟨rfl,rfl⟩
def fu(data:Rs)(a:Int)(b:Int)(c:Int)(swaps:Int):Option (Int×Rs×Int):=
 ae (fy data a b swaps) fun x16=>
 ae (cF (x16.2.2.1.length=data.length) ()) fun(_:Unit)=>
 ae (fy x16.2.2.1 x16.2.1 c x16.2.2.2) fun x24=>
 ae (cF (x24.2.2.1.length=x16.2.2.1.length) ()) fun(_:Unit)=>
 ae (fy x24.2.2.1 x16.1 x24.1 x24.2.2.2) fun x32=>
 ae (cF (x32.2.2.1.length=x24.2.2.1.length) ()) fun(_:Unit)=>
 some (x32.2.1,x32.2.2.1,x32.2.2.2)
theorem jm(g_data:OwnRef)(b_swaps:Nat)(data:Rs)(a:Int)(b:Int)(c:Int)(swaps:Int)(r:Int×Rs×Int)(H:fu data a b c swaps=some r):
  PH prog 116 [(.own 0 g_data (data.map aA).length),(ah a),(ah b),(ah c),(.box 1504 b_swaps 0)] ⟨upd (fun _=>none) 1504 (some ⟨b_swaps,[(ah swaps)]⟩),upd (fun _=>none) 0 (some ⟨g_data,9,(data.map aA),true⟩)⟩ (fun u H=>u=(ah r.1)/\H=⟨upd (fun _=>none) 1504 (some ⟨b_swaps,[(ah r.2.2)]⟩),upd (fun _=>none) 0 (some ⟨g_data,9,(r.2.1.map aA),true⟩)⟩):=by
 unfold fu at H;refine PH.au func116 ntmps116 ?_;refine ak 1 tk Z (aa (ab (ag 4 tk Z ?_)))
 obtain⟨x16,h16,H⟩:=am H
 have s16:=jn g_data b_swaps data a b swaps _ h16
 obtain⟨_,q16_0,H⟩:=am H
 have l16_0:=(bG q16_0).1;have z16_0:(List.map aA data).length=(List.map aA x16.2.2.1).length:=by simpa using(l16_0).symm
 refine bB (g:=136) Z Z Z call136 [(1504,1503)] [(0,0)] Z Z Z Z (jt.of2 (jN.cons (pD.own Z) (jN.cons (pD.of_eq Z) (jN.cons (pD.of_eq Z) (jN.cons pD.boxT jN.nil))))) (by rw[cf,bq,aW,bn];rfl) s16 ?_;rintro u16 H16h ⟨rfl,rfl⟩
 refine⟨_,rfl,?_⟩
 refine bS (st':=⟨_,_,upd (fun _=>none) 1504 (some ⟨b_swaps,[(ah x16.2.2.2)]⟩),upd (fun _=>none) 0 (some ⟨g_data,9,(x16.2.2.1.map aA),true⟩)⟩) (Gh.le (bs _ _) (aR Z (jt.r) aw) (aD ax)) ?_;refine ag 5 tk Z (ac (aa (ab (ag 4 tk Z ?_))))
 obtain⟨x24,h24,H⟩:=am H
 have s24:=jn g_data b_swaps x16.2.2.1 x16.2.1 c x16.2.2.2 _ h24
 obtain⟨_,q24_0,H⟩:=am H
 have l24_0:=(bG q24_0).1;have z24_0:(List.map aA x16.2.2.1).length=(List.map aA x24.2.2.1).length:=by simpa using(l24_0).symm
 refine bB (g:=136) Z Z Z call136 [(1504,1503)] [(0,0)] Z Z Z Z (jt.of2 (jN.cons (pD.own z16_0) (jN.cons (pD.of_eq Z) (jN.cons (pD.of_eq Z) (jN.cons pD.boxT jN.nil))))) (by rw[cf,bq,aW,bn];rfl) s24 ?_;rintro u24 H24h ⟨rfl,rfl⟩
 refine⟨_,rfl,?_⟩
 refine bS (st':=⟨_,_,upd (fun _=>none) 1504 (some ⟨b_swaps,[(ah x24.2.2.2)]⟩),upd (fun _=>none) 0 (some ⟨g_data,9,(x24.2.2.1.map aA),true⟩)⟩) (Gh.le (bs _ _) (aR Z (jt.r) aw) (aD ax)) ?_;refine ag 5 tk Z (ac (aa (ab (ag 4 tk Z ?_))))
 obtain⟨x32,h32,H⟩:=am H
 have s32:=jn g_data b_swaps x24.2.2.1 x16.1 x24.1 x24.2.2.2 _ h32
 obtain⟨_,q32_0,H⟩:=am H
 have l32_0:=(bG q32_0).1;have z32_0:(List.map aA x24.2.2.1).length=(List.map aA x32.2.2.1).length:=by simpa using(l32_0).symm
 refine bB (g:=136) Z Z Z call136 [(1504,1503)] [(0,0)] Z Z Z Z (jt.of2 (jN.cons (pD.own (z16_0.trans z24_0)) (jN.cons (pD.of_eq Z) (jN.cons (pD.of_eq Z) (jN.cons pD.boxT jN.nil))))) (by rw[cf,bq,aW,bn];rfl) s32 ?_;rintro u32 H32h ⟨rfl,rfl⟩
 refine⟨_,rfl,?_⟩
 refine bS (st':=⟨_,_,upd (fun _=>none) 1504 (some ⟨b_swaps,[(ah x32.2.2.2)]⟩),upd (fun _=>none) 0 (some ⟨g_data,9,(x32.2.2.1.map aA),true⟩)⟩) (Gh.le (bs _ _) (aR Z (jt.r) aw) (aD ax)) ?_;refine ag 5 tk Z (ac (ak 2 tk Z ?_));obtain rfl:=aq H;refine bZ (st':=⟨36,upd (fun _=>.any) 10 (ah x32.2.1),upd (fun _=>none) 1504 (some ⟨b_swaps,[(ah x32.2.2.2)]⟩),upd (fun _=>none) 0 (some ⟨g_data,9,(x32.2.2.1.map aA),true⟩)⟩) (Gh.le (ao aL) (aR Z (jt.r) aw) (aD ax)) ?_;refine cl tk Z (ps:=[(ah x32.2.1)]) ⟨_,_,rfl,rfl,rfl⟩ (PLe.q Z) ⟨rfl,rfl⟩
def eD(c:LProcedureChecker)(cols:List LCol)(vars:List LCol)(e:LExpr):Option (Int):=
 ae (eu c cols vars e) fun x17=>
 cond (x17.2.2==(0:Int))
  (cond (x17.1 !=(2:Int))
   (cond (x17.1 !=(0:Int))
    (some 7)
    (some x17.2.2))
   (some x17.2.2))
  (some x17.2.2)
theorem lf(c:LProcedureChecker)(cols:List LCol)(vars:List LCol)(e:LExpr)(r:Int)(H:eD c cols vars e=some r):
  aY prog 97 [(.agg (bL c)),(.list 53 (cols.map aB)),(.list 53 (vars.map aB)),(.agg (gZ e))] (ah r):=by
 unfold eD at H;refine PH.au func97 ntmps97 ?_;refine aa (ab (aO ?_));refine aO ?_;refine ai tk Z (ac (aa (ab (ag 4 tk Z ?_))))
 obtain⟨x17,h17,H⟩:=am H
 have s17:=jS c cols vars e _ h17;refine aj call94 (jt.r) s17 ?_;refine ag 7 tk Z (ac (aa (aa (ab (ag 3 tk Z ?_)))));refine bu Z Z Z H (fun H=>?_) (fun H=>?_)
 ·refine ag 4 tk Z ?_;refine bu Z Z Z H (fun H=>?_) (fun H=>?_)
  ·refine ag 3 tk Z (ac ?_);refine aF Z H (fun H=>?_) (fun H=>?_)
   ·refine ak 1 tk Z ?_;exact bi tk H Z
   refine al (ak 2 tk Z ?_);exact bi tk H Z
  refine ag 3 tk Z (ac (bH Z (al (ak 2 tk Z ?_))));exact bi tk H Z
 refine ag 7 tk Z (ac (bH Z (al (ak 2 tk Z ?_))));exact bi tk H Z
def fH(c:LChecker)(q:LQuery)(inA:List LCol):Option ((List LCol)×Int):=
 ae (aU (σ:=List LCol) (ρ:=((List LCol)×Int)) (fun(j1:Nat) (x1:LExpr) (s1:List LCol)=>
  letP (fD inA c.vars x1) fun x31=>
  ae (aG q.names (j1:Int)) fun(x39:Rb)=>
  letP (eE x39) fun x41=>
  cond (!x41)
   (some (.ret ([],3)))
   (cond (x31.2.2 !=(0:Int))
    (some (.ret ([],x31.2.2)))
    (cond (x31.1==(0:Int))
     (some (.ret ([],7)))
     (ae (aG q.names (j1:Int)) fun(x54:Rb)=>
     ae (dq 32 s1 ([(LCol.mk x54 x31.1 x31.2.1)]:List LCol)) fun(x60:List LCol)=>
     some (.next x60))))) 0 q.exprs []) fun fl1=>fl1.thenR fun(s1:List LCol)=>
 ae (aU (σ:=List LCol) (ρ:=((List LCol)×Int)) (fun(_:Nat) (x2:LAggregateCall) (s2:List LCol)=>
  ae (it c inA x2) fun x73=>
  cond (x73.2 !=(0:Int))
   (some (.ret ([],x73.2)))
   (ae (dq 32 s2 ([(LCol.mk x2.name x73.1 (!(x2.function==([99,111,117,110,116]:Rb))))]:List LCol)) fun(x88:List LCol)=>
   some (.next x88))) 0 q.aggregates s1) fun fl2=>fl2.thenR fun(s2:List LCol)=>
 some (s2,0)
theorem oC(c:LChecker)(q:LQuery)(inA:List LCol)(r:(List LCol)×Int)(H:fH c q inA=some r):
  aY prog 170 [(.agg (fe c)),(.agg (bg q)),(.list 53 (inA.map aB))] (.tup [(.list 53 (r.1.map aB)),(ah r.2)]):=by
 unfold fH at H;refine PH.au func170 ntmps170 ?_;refine aa (ab (aO ?_));refine aO ?_;refine ag 2 tk Z (ac (ak 1 tk Z (aa (aa (ab (ag 2 tk Z (aI tk (zl _) ?_)))))));refine ai tk Z (ac (hZ tk 8 60 (e:=53) Z Z ?_));refine ff (γ:=OwnRef) tk 21 20 19 (fun s1 g1=>upd (upd (upd (upd (fun _=>.any) 8 (.own 60 g1 (s1.map aB).length)) 4 (.ptr (bg q))) 3 (.ptr (fe c))) 2 (.list 53 (inA.map aB))) nB (fun s1 g1=>upd (fun _=>none) 60 (some ⟨g1,53,(s1.map aB),true⟩)) (⟨none,0⟩) H (fun fl1 Hp1 j1 s1 g1 hz1 hl1 x1 fb1 hx1 H hg1=>?_) (fun s1 g1 H=>?_)
 ·refine aa (av (aa (ab (ai tk Z (be tk (zn j1) (bA dh hx1) ?_)))));refine ai tk Z ?_;refine bm tk fun b10=>?_
  refine ai tk Z (ay tk ?_);refine ac (aa (ab (ag 3 tk Z (aJ tk ?_))))
  obtain⟨x31,h31,H⟩:=bF H
  have s31:=lZ inA c.vars x1;rw[h31]at s31;refine aj call67 (jt.r) s31 ?_;refine ag 7 tk Z (ac (aa (av (aa (ab (ag 3 tk Z ?_))))))
  obtain⟨x39,k39,H⟩:=aV H
  refine be tk k39.1 (aC (fun _=>Z) k39.2) ?_;refine ai tk Z ?_
  obtain⟨x41,h41,H⟩:=bF H
  have s41:=mg x39;rw[h41]at s41;refine aj call95 (jt.r) s41 ?_;refine ag 2 tk Z (ac ?_);refine aF Z H (fun H=>?_) (fun H=>?_)
  ·refine ak 2 tk Z ?_;obtain rfl:=aq H;have e1:fl1= .ret _:=hg1;subst e1;obtain rfl:=aZ Hp1;refine bl tk Z (ps:=[(.val (.slice none 0 0)),(ah 3)]) ⟨_,_,rfl,rfl,_,_,rfl,rfl,rfl⟩ (PLe.of2 (pD.tup (jN.cons (pD.nil tk Z) (jN.cons (pD.of_eq Z) jN.nil))))
  refine ak 3 tk Z ?_;refine aF Z H (fun H=>?_) (fun H=>?_)
  ·refine ak 3 tk Z ?_;obtain rfl:=aq H;have e1:fl1= .ret _:=hg1;subst e1;obtain rfl:=aZ Hp1;refine bl tk Z (ps:=[(.val (.slice none 0 0)),(ah x31.2.2)]) ⟨_,_,rfl,rfl,_,_,rfl,rfl,rfl⟩ (PLe.of2 (pD.tup (jN.cons (pD.nil tk Z) (jN.cons (pD.of_eq Z) jN.nil))))
  refine ak 3 tk Z ?_;refine aF Z H (fun H=>?_) (fun H=>?_)
  ·refine ak 2 tk Z ?_;obtain rfl:=aq H;have e1:fl1= .ret _:=hg1;subst e1;obtain rfl:=aZ Hp1;refine bl tk Z (ps:=[(.val (.slice none 0 0)),(ah 7)]) ⟨_,_,rfl,rfl,_,_,rfl,rfl,rfl⟩ (PLe.of2 (pD.tup (jN.cons (pD.nil tk Z) (jN.cons (pD.of_eq Z) jN.nil))))
  refine al (aM (ab (ag 4 tk Z ?_)))
  obtain⟨x54,k54,H⟩:=aV H
  refine be tk k54.1 (aC (fun _=>Z) k54.2) ?_;refine ag 4 tk Z (cy tk (rows':=List.map aB ([(LCol.mk x54 x31.1 x31.2.1)]:List LCol)) (gP.refl _) ?_)
  obtain⟨x60,h60,H⟩:=am H
  have k60:=cj h60;refine cv (rows2':=List.map aB ([(LCol.mk x54 x31.1 x31.2.1)]:List LCol)) (rows':=List.map aB x60) tk Z Z Z Z Z Z Z Z Z Z Z Z Z (gP.refl _) (cU k60.1) (cW k60.2.1) (cV k60.2.2) fun g60=>?_
  refine ai tk Z (ac (aM (bc 2 tk Z ?_)));exact bv g60 H hl1 hg1
 refine aa (aa (ab (ag 2 tk Z (aI tk (zl _) ?_))));refine ai tk Z (ac ?_);refine ff (γ:=OwnRef) tk 65 64 63 (fun s2 g2=>upd (upd (upd (fun _=>.any) 8 (.own 60 g2 (s2.map aB).length)) 3 (.ptr (fe c))) 2 (.list 53 (inA.map aB))) nB (fun s2 g2=>upd (fun _=>none) 60 (some ⟨g2,53,(s2.map aB),true⟩)) g1 H (fun fl2 Hp2 j2 s2 g2 hz2 hl2 x2 fb2 hx2 H hg2=>?_) (fun s2 g2 H=>?_)
 ·refine aa (av (aa (ab ?_)));refine be tk (zn j2) (bA (fun _=>Z) hx2) ?_;refine ai tk Z ?_;refine bm tk fun b15=>?_
  refine ay tk ?_;refine ac (aa (ab (ag 2 tk Z (aJ tk ?_))))
  obtain⟨x73,h73,H⟩:=am H
  have s73:=sR c inA x2 _ h73;refine aj call187 (jt.r) s73 ?_;refine ag 5 tk Z (ac (aa (ak 2 tk Z ?_)));refine aF Z H (fun H=>?_) (fun H=>?_)
  ·refine ak 3 tk Z ?_;obtain rfl:=aq H;have e2:fl2= .ret _:=hg2;subst e2;obtain rfl:=aZ Hp2;refine bl tk Z (ps:=[(.val (.slice none 0 0)),(ah x73.2)]) ⟨_,_,rfl,rfl,_,_,rfl,rfl,rfl⟩ (PLe.of2 (pD.tup (jN.cons (pD.nil tk Z) (jN.cons (pD.of_eq Z) jN.nil))))
  refine al (ab (ag 2 tk Z (aJ tk ?_)));refine ag 2 tk Z (aJ tk ?_);refine ag 2 tk Z ?_;refine cy tk (rows':=List.map aB ([(LCol.mk x2.name x73.1 (!(x2.function==([99,111,117,110,116]:Rb))))]:List LCol)) (gP.refl _) ?_
  obtain⟨x88,h88,H⟩:=am H
  have k88:=cj h88;refine cv (rows2':=List.map aB ([(LCol.mk x2.name x73.1 (!(x2.function==([99,111,117,110,116]:Rb))))]:List LCol)) (rows':=List.map aB x88) tk Z Z Z Z Z Z Z Z Z Z Z Z Z (gP.refl _) (cU k88.1) (cW k88.2.1) (cV k88.2.2) fun g88=>?_
  refine ai tk Z (ac (aM (bc 2 tk Z ?_)));exact bv g88 H hl2 hg2
 refine ak 3 tk Z (cT 6 Z Z Z ?_);exact bi tk H Z
def eR(sA:LSchema)(inst:List LRelation):Option (Int):=
 cond ((inst.length:Int) !=(sA.tables.length:Int))
  (some 3)
  (ae (aU (σ:=Unit) (ρ:=(Int)) (fun(j1:Nat) (x1:LRelation) (_:Unit)=>
   ae (aG sA.tables (j1:Int)) fun(x28:LTable)=>
   cond (!(x1.table==x28.name))
    (some (.ret 3))
    (cond (decide ((x1.rows.length:Int)>(24:Int)))
     (some (.ret 2))
     (ae (aU (σ:=Unit) (ρ:=(Int)) (fun(j3:Nat) (x3:Rq) (_:Unit)=>
      ae (eJ x28 x3) fun x49=>
      cond (x49 !=(0:Int))
       (some (.ret x49))
       (cond ((j3:Int)==(0:Int))
        (some (.next ()))
        (ae (aG x1.rows (iw ((j3:Int)-(1:Int)))) fun(x60:Rq)=>
        ae (dA x28 x60) fun x62=>
        ae (dA x28 x3) fun x65=>
        ae (dO x62 x65) fun x66=>
        cond (x66==(0:Int))
         (some (.ret 9))
         (cond (decide (x66>(0:Int)))
          (some (.ret 6))
          (some (.next ())))))) 0 x1.rows ()) fun fl3=>fl3.thenF fun(_:Unit)=>
     some (.next ())))) 0 inst ()) fun fl1=>fl1.thenR fun(_:Unit)=>
  some 0)
theorem kB(sA:LSchema)(inst:List LRelation)(r:Int)(H:eR sA inst=some r):
  aY prog 17 [(.agg (da sA)),(.list 69 (inst.map bW))] (ah r):=by
 unfold eR at H;refine PH.au func17 ntmps17 ?_;refine aa (ab (aO ?_));refine ai tk Z (ac (aa (aa (ab (ai tk Z (aI tk (zl _) ?_))))));refine ag 2 tk Z (aI tk (zl _) ?_);refine ai tk Z (ac ?_);refine aF Z H (fun H=>?_) (fun H=>?_)
 ·refine ak 1 tk Z ?_;exact bi tk H Z
 refine al (aa (aa (ab (ai tk Z (aI tk (zl _) ?_)))));refine ai tk Z (ac ?_);refine ff tk 20 19 18 (fun s1 g1=>upd (fun _=>.any) 2 (.ptr (da sA))) nB nO () H (fun fl1 Hp1 j1 s1 g1 hz1 hl1 x1 fb1 hx1 H hg1=>?_) (fun s1 g1 H=>?_)
 ·refine aa (av (aa (ab (ai tk Z ?_))));refine be tk (zn j1) (bA (fun _=>Z) hx1) ?_;refine ai tk Z ?_;refine bm tk fun b6=>?_
  refine ai tk Z (ay tk ?_);refine ac (aa (ab (ag 3 tk Z ?_)))
  obtain⟨x28,k28,H⟩:=aV H
  refine be tk k28.1 (aC (fun _=>Z) k28.2) ?_;refine ai tk Z ?_;refine bm tk fun b7=>?_
  refine ay tk ?_;refine ac (aa (aa (ab (ai tk Z (aJ tk ?_)))));refine ai tk Z (aJ tk ?_);refine ai tk Z (ac ?_);refine aF Z H (fun H=>?_) (fun H=>?_)
  ·refine ak 1 tk Z ?_;obtain rfl:=aq H;have e1:fl1= .ret _:=hg1;subst e1;obtain rfl:=aZ Hp1;refine bl tk Z (ps:=[(ah 3)]) ⟨_,_,rfl,rfl,rfl⟩ (PLe.q Z)
  refine al (aa (aa (ab (ai tk Z (aJ tk ?_)))));refine aI tk (zl _) ?_;refine ai tk Z (ac ?_);refine aF Z H (fun H=>?_) (fun H=>?_)
  ·refine ak 1 tk Z ?_;obtain rfl:=aq H;have e1:fl1= .ret _:=hg1;subst e1;obtain rfl:=aZ Hp1;refine bl tk Z (ps:=[(ah 2)]) ⟨_,_,rfl,rfl,rfl⟩ (PLe.q Z)
  refine al (aa (ab (ai tk Z (aJ tk ?_))));refine aI tk (zl _) ?_;refine ai tk Z (ac ?_)
  obtain⟨fl3,H3,Hp3⟩:=am H
  refine iI tk 40 Z Z (fun hz3 _=>?_);rw[zl]at hz3;refine dj (τ:=Unit) (γ:=Unit) (fun s3 g3=>⟨75,upd (upd (upd (upd (fun _=>.any) 20 (ah (j1:Int))) 19 (ah (inst.length:Int))) 18 (.list 69 (inst.map bW))) 2 (.ptr (da sA)),fun _=>none,fun _=>none⟩) (fun t=>fl3= .next t) ?_ (fun s3 g3 hn3=>?_)
  ·refine av ?_;refine iU (fun j3 s3 g3=>⟨75,upd (upd (upd (upd (upd (upd (upd (upd (upd (fun _=>.any) 42 (ah (j3:Int))) 41 (ah (x1.rows.length:Int))) 40 (.list 46 (x1.rows.map (ap 58 af)))) 20 (ah (j1:Int))) 19 (ah (inst.length:Int))) 18 (.list 69 (inst.map bW))) 7 (.box 7 b7 0)) 6 (.box 6 b6 0)) 2 (.ptr (da sA)),upd (upd (fun _=>none) 7 (some ⟨b7,(bM x28)⟩)) 6 (some ⟨b6,(bW x1)⟩),fun _=>none⟩) () H3 Gh.d (fun j3 s3 g3 hj3 hr3=>?_);refine ak 1 tk Z (aa ?_);refine bJ Z (fun h=>?_) (fun h=>?_)
   ·have hl3:=pe h
    obtain⟨x3,fb3,hx3,H,hg3⟩:=rMc hl3 hr3
    refine al (aa (av (aa (ab (ai tk Z ?_)))));refine be tk (zn j3) (bA (fun _=>Z) hx3) ?_;refine ag 3 tk Z (ac (aa (aa (ab (aJ tk ?_)))));refine ai tk Z ?_
    obtain⟨x49,h49,H⟩:=am H
    have s49:=mV x28 x3 _ h49;refine aj call39 (jt.r) s49 ?_;refine ai tk Z (ac (ak 2 tk Z ?_));refine aF Z H (fun H=>?_) (fun H=>?_)
    ·refine ak 2 tk Z ?_;obtain rfl:=aq H;have e3:fl3= .ret _:=hg3;subst e3;have q3:=mC Hp3;subst q3;have e1:fl1= .ret _:=hg1;subst e1;obtain rfl:=aZ Hp1;refine bl tk Z (ps:=[(ah x49)]) ⟨_,_,rfl,rfl,rfl⟩ (PLe.q Z)
    refine al (aa (ak 2 tk Z ?_));refine aF Z H (fun H=>?_) (fun H=>?_)
    ·refine bj Z (bc 2 tk Z ?_);exact bv () H hl3 hg3
    refine al (aa (aX tk mok ⟨true,false,[61]⟩ [0,1,2,3,4,5,6,8,9,7,10,11,12] Z (by decide+kernel) Z (bd ?_)));refine bw Z (bd ?_);refine az 2 Z ?_
    obtain⟨x60,k60,H⟩:=aV H
    refine bE k60.1 (aC (fun _=>Z) k60.2) ?_;refine bw Z (bd ?_);refine bw Z ?_
    obtain⟨x62,h62,H⟩:=am H
    have s62:=mP x28 x60 _ h62;refine aS call41 (jt.r) s62 ?_
    obtain⟨x65,h65,H⟩:=am H
    have s65:=mP x28 x3 _ h65;refine aS call41 (jt.r) s65 ?_
    obtain⟨x66,h66,H⟩:=am H
    have s66:=ox x62 x65 _ h66;refine aS call40 (jt.r) s66 ?_;refine bw Z (aQ (av (ak 3 tk Z ?_)));refine aF Z H (fun H=>?_) (fun H=>?_)
    ·refine ak 1 tk Z ?_;obtain rfl:=aq H;have e3:fl3= .ret _:=hg3;subst e3;have q3:=mC Hp3;subst q3;have e1:fl1= .ret _:=hg1;subst e1;obtain rfl:=aZ Hp1;refine bl tk Z (ps:=[(ah 9)]) ⟨_,_,rfl,rfl,rfl⟩ (PLe.q Z)
    refine ak 3 tk Z ?_;refine aF Z H (fun H=>?_) (fun H=>?_)
    ·refine ak 1 tk Z ?_;obtain rfl:=aq H;have e3:fl3= .ret _:=hg3;subst e3;have q3:=mC Hp3;subst q3;have e1:fl1= .ret _:=hg1;subst e1;obtain rfl:=aZ Hp1;refine bl tk Z (ps:=[(ah 6)]) ⟨_,_,rfl,rfl,rfl⟩ (PLe.q Z)
    refine al (aM (aM (bc 2 tk Z ?_)));exact bv () H hl3 hg3
   have hn3:=rMd (pf h) hr3;refine bj Z ?_;refine aP s3 g3 hn3 Gh.d
  have H:=thenF_next hn3 Hp3;refine aM (bc 2 tk Z ?_);exact bv () H hl1 hg1
 refine ak 1 tk Z ?_;exact bi tk H Z
def eG(rA:LProcedureRun)(cols:List LCol)(row:Rq)(e:LExpr):Option (LVal×LProcedureRun):=
 ae (aU (σ:=Rs) (ρ:=Empty) (fun(_:Nat) (x1:LCol) (s1:Rs)=>
  ae (dq 16 s1 ([x1.name]:Rs)) fun(x37:Rs)=>
  some (.next x37)) 0 rA.vars []) fun fl1=>fl1.thenP fun(s1:Rs)=>
 letP (et (LEnv.mk cols row rA.args s1 rA.vals) e) fun x42=>
 some (x42,rA)
theorem iY(b_rA:Nat)(g_rA_7:OwnRef)(g_rA_8:OwnRef)(rA:LProcedureRun)(cols:List LCol)(row:Rq)(e:LExpr)(r:LVal×LProcedureRun)(H:eG rA cols row e=some r):
  PH prog 69 [(.box 1500 b_rA 0),(.list 53 (cols.map aB)),(.list 58 (row.map af)),(.agg (gZ e))] ⟨(bR b_rA rA g_rA_7 g_rA_8),(oR rA g_rA_7 g_rA_8)⟩ (fun u H=>∃gz0_7,∃gz0_8,u=(.agg (af r.1))/\H=⟨(bR b_rA r.2 gz0_7 gz0_8),(oR r.2 gz0_7 gz0_8)⟩):=by
 unfold eG at H;refine PH.au func69 ntmps69 ?_;refine aa (ab (aO ?_));refine bm tk fun b8=>?_
 refine ac (aa (aX tk mok ⟨true,false,[]⟩ [0,1,2,3,4,5,6,7,8,9,10,11,12] Z (by decide+kernel) Z (az 5 Z (bd ?_))));refine az 3 Z (bd ?_);refine bw Z ?_;refine nj Z Z Z Z Z Z Z Z fun b9=>?_
 refine fM Z Z Z Z Z Z Z Z Z Z Z Z (aQ (aa (aa (ab (ag 3 tk Z (aJ tk ?_))))));refine aI tk (zl _) ?_;refine ai tk Z (ac (nH tk 9 3 37 (e:=9) Z Z Z Z ?_));refine gc (γ:=OwnRef) tk 28 27 26 (fun s1 g1=>upd (upd (upd (upd (fun _=>.any) 9 (.box 9 b9 0)) 8 (.box 8 b8 0)) 7 (.ptr (gZ e))) 0 (.box 1500 b_rA 0)) (fun s1 g1=>upd (upd (bR b_rA rA g_rA_7 g_rA_8) 9 (some ⟨b9,[(.list 53 (cols.map aB)),(.list 58 (row.map af)),(.list 58 (rA.args.map af)),(.own 37 g1 (s1.map aA).length),(.list 58 (rA.vals.map af))]⟩)) 8 (some ⟨b8,[(ah 0),(ah 0),(.str [])]⟩)) (fun s1 g1=>upd (upd (upd (fun _=>none) 37 (some ⟨g1,9,(s1.map aA),true⟩)) 1608 (some ⟨g_rA_8,180,(rA.results.map cN),true⟩)) 1607 (some ⟨g_rA_7,48,(rA.changes.map cu),true⟩)) (⟨none,0⟩) H (fun fl1 Hp1 j1 s1 g1 hz1 hl1 x1 fb1 hx1 H hg1=>?_) (fun s1 g1 H=>?_)
 ·refine aa (av (aa (ab ?_)));refine be tk (zn j1) (bA (fun _=>Z) hx1) ?_;refine ai tk Z ?_;refine bm tk fun b11=>?_
  refine ay tk ?_;refine ac (ab (ai tk Z (aJ tk ?_)));refine ai tk Z (aJ tk ?_);refine cy tk (rows':=List.map aA ([x1.name]:Rs)) (gP.refl _) ?_
  obtain⟨x37,h37,H⟩:=am H
  have k37:=cj h37;refine cv (rows2':=List.map aA ([x1.name]:Rs)) (rows':=List.map aA x37) tk Z Z Z Z Z Z Z Z Z Z Z Z Z (gP.refl _) (cU k37.1) (cW k37.2.1) (cV k37.2.2) fun g37=>?_
  refine ai tk Z (ay tk ?_);refine ac (aM (bc 2 tk Z ?_));exact bv g37 H hl1 hg1
 refine aa (jA 9 3 Z Z Z Z Z (ab (aJ tk ?_)));refine ai tk Z ?_
 obtain⟨x42,h42,H⟩:=bF H
 have s42:=nG (LEnv.mk cols row rA.args s1 rA.vals) e;rw[h42]at s42;refine aj call107 (jt.r) s42 ?_;refine ay tk ?_;refine ac ?_;obtain rfl:=aq H;refine bZ (st':=⟨43,upd (fun _=>.any) 8 (.box 8 b8 0),upd (bR b_rA rA g_rA_7 g_rA_8) 8 (some ⟨b8,(af x42)⟩),(oR rA g_rA_7 g_rA_8)⟩) (Gh.le (ao aL) (aR Z (jt.r) (aR Z (jt.r) aw)) (aD (aD ax))) ?_;refine vp tk Z (ps:=[(.agg (af x42))]) ⟨_,_,rfl,⟨_,_,_,_,_,rfl,rfl,rfl,rfl⟩,rfl⟩ (PLe.q Z) (HSub.updB Z) ⟨_,_,rfl,rfl⟩
def jD(x:Rq)(c0:LRun)(c1:List LCol)(c2:LQuery):Option (Bool):=
 ae (aG c2.exprs 0) fun(x12:LExpr)=>
 letP (bY c0 c1 x) fun x9=>
 letP (et x9 x12) fun x14=>
 letP (lu x14) fun x15=>
 some (!x15)
theorem sV(x:Rq)(c0:LRun)(c1:List LCol)(c2:LQuery)(r:Bool)(H:jD x c0 c1 c2=some r):
  aY prog 161 [(.list 58 (x.map af)),(.ptr (eP c0)),(.ptr [(.list 53 (c1.map aB))]),(.ptr (bg c2))] (aK r):=by
 unfold jD at H;refine PH.au func161 ntmps161 ?_;refine ak 1 tk Z (aa (aX tk mok ⟨false,false,[]⟩ [0,1,2,4,5,6,7,3,8,9,10,11] Z (by decide+kernel) Z (az 5 Z ?_)))
 obtain⟨x12,k12,H⟩:=aV H
 refine bE k12.1 (aC dh k12.2) ?_;refine bw Z ?_
 obtain⟨x9,h9,H⟩:=bF H
 have s9:=mm c0 c1 x;rw[h9]at s9;refine aS call162 (jt.r) s9 ?_
 obtain⟨x14,h14,H⟩:=bF H
 have s14:=nG x9 x12;rw[h14]at s14;refine aS call107 (jt.r) s14 ?_
 obtain⟨x15,h15,H⟩:=bF H
 have s15:=isTS x14;rw[h15]at s15;refine aS call70 (jt.r) s15 ?_;refine az 2 Z (aQ ?_);exact bi tk H Z
def eB(rA:LRun)(cols:List LCol)(x:Rq)(l:List LExpr):Option (Rq):=
 ae (aU (σ:=Rq) (ρ:=Empty) (fun(_:Nat) (x1:LExpr) (s1:Rq)=>
  letP (bY rA cols x) fun x22=>
  letP (et x22 x1) fun x24=>
  ae (dq 32 s1 ([x24]:Rq)) fun(x26:Rq)=>
  some (.next x26)) 0 l []) fun fl1=>fl1.thenP fun(s1:Rq)=>
 some s1
theorem lk(rA:LRun)(cols:List LCol)(x:Rq)(l:List LExpr)(r:Rq)(H:eB rA cols x l=some r):
  aY prog 163 [(.agg (eP rA)),(.list 53 (cols.map aB)),(.list 58 (x.map af)),(.list 62 (l.map fJ))] (.list 58 (r.map af)):=by
 unfold eB at H;refine PH.au func163 ntmps163 ?_;refine aa (ab (aO ?_));refine ai tk Z (ac (ak 1 tk Z (aa (aa (ab (ai tk Z (aI tk (zl _) ?_)))))));refine ai tk Z (ac (hZ tk 9 26 (e:=58) Z Z ?_));refine gc (γ:=OwnRef) tk 14 13 12 (fun s1 g1=>upd (upd (upd (upd (fun _=>.any) 9 (.own 26 g1 (s1.map af).length)) 4 (.ptr (eP rA))) 2 (.list 58 (x.map af))) 1 (.list 53 (cols.map aB))) nB (fun s1 g1=>upd (fun _=>none) 26 (some ⟨g1,58,(s1.map af),true⟩)) (⟨none,0⟩) H (fun fl1 Hp1 j1 s1 g1 hz1 hl1 x1 fb1 hx1 H hg1=>?_) (fun s1 g1 H=>?_)
 ·refine aa (av (aa (ab (be tk (zn j1) (bA dh hx1) ?_))));refine ai tk Z ?_;refine bm tk fun b11=>?_
  refine ay tk ?_;refine ac (aX tk mok ⟨true,false,[19]⟩ [0,1,2,3,5,4,6,7,8,9] Z (by decide+kernel) Z (az 4 Z (bd ?_)))
  obtain⟨x22,h22,H⟩:=bF H
  have s22:=mm rA cols x;rw[h22]at s22;refine aS call162 (jt.r) s22 ?_
  obtain⟨x24,h24,H⟩:=bF H
  have s24:=nG x22 x1;rw[h24]at s24;refine aS call107 (jt.r) s24 ?_;refine bw Z ?_
  obtain⟨x26,h26,H⟩:=am H
  have k26:=cj h26;refine gz (rows2':=List.map af ([x24]:Rq)) (rows':=List.map af x26) tk Z Z Z Z Z Z Z Z Z Z Z Z Z Z (gP.refl _) (cU k26.1) (cW k26.2.1) (cV k26.2.2) fun g26=>?_
  refine bw Z (aQ (aM (bc 2 tk Z ?_)));exact bv g26 H hl1 hg1
 refine ak 2 tk Z (cT 8 Z Z Z ?_);exact bi tk H Z
def kU(rA:LRun)(a:LAggregateCall)(cols:List LCol)(l:Rz):Option (LVal):=
 cond ((a.args.length:Int)==(0:Int))
  (letP (kd (l.length:Int)) fun x19=>
  some x19)
  (ae (aU (σ:=Rq) (ρ:=Empty) (fun(_:Nat) (x1:Rq) (s1:Rq)=>
   ae (aG a.args 0) fun(x32:LExpr)=>
   letP (bY rA cols x1) fun x29=>
   letP (et x29 x32) fun x34=>
   cond (x34.kind !=(0:Int))
    (ae (dq 32 s1 ([x34]:Rq)) fun(x41:Rq)=>
    some (.next x41))
    (some (.next s1))) 0 l []) fun fl1=>fl1.thenP fun(s1:Rq)=>
  ae (gM a.function s1) fun x46=>
  some x46)
theorem uL(rA:LRun)(a:LAggregateCall)(cols:List LCol)(l:Rz)(r:LVal)(H:kU rA a cols l=some r):
  aY prog 183 [(.agg (eP rA)),(.agg (oW a)),(.list 53 (cols.map aB)),(.list 46 (l.map (ap 58 af)))] (.agg (af r)):=by
 unfold kU at H;refine PH.au func183 ntmps183 ?_;refine aa (ab (aO ?_));refine aO ?_;refine bm tk fun b8=>?_
 refine ac (aa (aa (ab (ag 2 tk Z (aI tk (zl _) ?_)))));refine ai tk Z (ac ?_);refine aF Z H (fun H=>?_) (fun H=>?_)
 ·refine aa (ab (ai tk Z (aI tk (zl _) ?_)))
  obtain⟨x19,h19,H⟩:=bF H
  have s19:=sf (l.length:Int);rw[h19]at s19;refine aj call177 (jt.r) s19 ?_;refine ay tk ?_;refine ac ?_;exact uV tk H Z Z Z Z Z
 refine al (ak 1 tk Z (aa (aa (ab (ai tk Z (aI tk (zl _) ?_))))));refine ai tk Z (ac (hZ tk 9 41 (e:=58) Z Z ?_));refine gc (γ:=OwnRef) tk 22 21 20 (fun s1 g1=>upd (upd (upd (upd (upd (fun _=>.any) 9 (.own 41 g1 (s1.map af).length)) 8 (.box 8 b8 0)) 5 (.ptr (oW a))) 4 (.ptr (eP rA))) 2 (.list 53 (cols.map aB))) (fun s1 g1=>upd (fun _=>none) 8 (some ⟨b8,[(ah 0),(ah 0),(.str [])]⟩)) (fun s1 g1=>upd (fun _=>none) 41 (some ⟨g1,58,(s1.map af),true⟩)) (⟨none,0⟩) H (fun fl1 Hp1 j1 s1 g1 hz1 hl1 x1 fb1 hx1 H hg1=>?_) (fun s1 g1 H=>?_)
 ·refine aa (av (aa (ab ?_)));refine be tk (zn j1) (bA (fun _=>Z) hx1) ?_;refine ag 2 tk Z (ac (aa (aX tk mok ⟨false,false,[]⟩ [0,1,2,4,5,6,7,3,8,9,10] Z (by decide+kernel) Z (az 5 Z ?_))))
  obtain⟨x32,k32,H⟩:=aV H
  refine bE k32.1 (aC dh k32.2) ?_;refine bw Z ?_
  obtain⟨x29,h29,H⟩:=bF H
  have s29:=mm rA cols x1;rw[h29]at s29;refine aS call162 (jt.r) s29 ?_
  obtain⟨x34,h34,H⟩:=bF H
  have s34:=nG x29 x32;rw[h34]at s34;refine aS call107 (jt.r) s34 ?_;refine nj Z Z Z Z Z Z Z Z fun b12=>?_
  refine fM Z Z Z Z Z Z Z Z Z Z Z Z (aQ (aa (ab (ai tk Z (aJ tk ?_)))));refine ai tk Z (ac ?_);refine aF Z H (fun H=>?_) (fun H=>?_)
  ·refine ab (ai tk Z (aJ tk ?_));refine cy tk (rows':=List.map af ([x34]:Rq)) (gP.refl _) ?_
   obtain⟨x41,h41,H⟩:=am H
   have k41:=cj h41;refine cv (rows2':=List.map af ([x34]:Rq)) (rows':=List.map af x41) tk Z Z Z Z Z Z Z Z Z Z Z Z Z (gP.refl _) (cU k41.1) (cW k41.2.1) (cV k41.2.2) fun g41=>?_
   refine ai tk Z (ac (aM (bc 2 tk Z ?_)));exact bv g41 H hl1 hg1
  refine al (aM (bc 2 tk Z ?_));exact bv g1 H hl1 hg1
 refine aa (cT 9 Z Z Z (ab (ag 3 tk Z ?_)))
 obtain⟨x46,h46,H⟩:=am H
 have s46:=qt a.function s1 _ h46;refine aj call189 (jt.r) s46 ?_;refine ay tk ?_;refine ac ?_;exact uV tk H Z Z Z Z Z
def dK(x:Rz)(cmp:Rq->Rq->Option (Int)):Option (Rz):=
 ae (fg x (x.length:Int) cmp) fun x8=>
 ae (cF (x8.length=x.length) ()) fun(_:Unit)=>
 some x8
theorem lL(g_x:OwnRef){g_cmp:FuncId}{caps_cmp:List PV}(x:Rz)(cmp:Rq->Rq->Option (Int))(hg_cmp:∀(vs:Array Value) (w:World),(callFunc g_cmp vs).run prog w= .ok (.enter g_cmp vs) w)(hp_cmp:∀a0 a1 r,cmp a0 a1=some r->aY prog g_cmp ((.list 58 (a0.map af))::(.list 58 (a1.map af))::caps_cmp) (ah r))(r:Rz)(H:dK x cmp=some r):
  PH prog 184 [(.own 0 g_x (x.map (ap 58 af)).length),(.fn g_cmp caps_cmp)] ⟨fun _=>none,upd (fun _=>none) 0 (some ⟨g_x,46,(x.map (ap 58 af)),true⟩)⟩ (fun u H=>u=(.tup [])/\H=⟨fun _=>none,upd (fun _=>none) 0 (some ⟨g_x,46,(r.map (ap 58 af)),true⟩)⟩):=by
 unfold dK at H;refine PH.au func184 ntmps184 ?_;refine ab (ag 2 tk Z (eg tk (zl _) ?_));refine ai tk Z ?_
 obtain⟨x8,h8,H⟩:=am H
 have s8:=oa g_x x (x.length:Int) cmp hg_cmp hp_cmp _ h8
 obtain⟨_,q8_0,H⟩:=am H
 have l8_0:=(bG q8_0).1;have z8_0:(List.map (ap 58 af) x).length=(List.map (ap 58 af) x8).length:=by simpa using(l8_0).symm
 refine bB (g:=190) Z Z Z call190 [] [(0,0)] Z Z Z Z (jt.of2 (jN.cons (pD.own Z) (jN.cons (pD.of_eq Z) (jN.cons (pD.of_eq Z) jN.nil)))) (by rw[bq,aW,bn];rfl) s8 ?_;rintro u8 H8h ⟨rfl,rfl⟩
 refine⟨_,rfl,?_⟩
 refine bS (st':=⟨_,_,fun _=>none,upd (fun _=>none) 0 (some ⟨g_x,46,(x8.map (ap 58 af)),true⟩)⟩) (Gh.le (bs _ _) aw (aD ax)) ?_;refine ac ?_;obtain rfl:=aq H;refine bZ (st':=⟨9,fun _=>.any,fun _=>none,upd (fun _=>none) 0 (some ⟨g_x,46,(x8.map (ap 58 af)),true⟩)⟩) (Gh.le aL aw (aD ax)) ?_;refine iO Z (PLe.q Z) ⟨rfl,rfl⟩
def fQ(sA:LSchema)(c:LConstraint):Option (Int):=
 ae (dZ sA c.table) fun x14=>
 cond (!x14.2)
  (some 4)
  (ae (aG sA.tables x14.1) fun(x22:LTable)=>
  letP (jf (LVal.mk 0 0 []) c.op (LVal.mk 0 0 [])) fun x30=>
  letP (
   cond (decide (c.left<(0:Int)))
    (true)
    (cond (decide (c.left>=(x22.columns.length:Int)))
     (true)
     (cond (x30.2 !=(0:Int))
      (true)
      (cond (decide (c.right<(-1)))
       (true)
       (cond (decide (c.right>=(x22.columns.length:Int)))
        (true)
        (cond (decide (c.right>=(0:Int)))
         ((!(c.value.kind==(0:Int)&&(c.value.int==(0:Int)&&(c.value.text==([]:Rb)&&true)))))
         (false))))))) fun(t1:Bool)=>
  cond t1
   (some 3)
   (cond (decide (c.right>=(0:Int)))
    (ae (aG x22.columns c.left) fun(x76:LCol)=>
    ae (aG x22.columns c.right) fun(x82:LCol)=>
    cond (x76.kind !=x82.kind)
     (some 7)
     (some 0))
    (ae (aG x22.columns c.left) fun(x92:LCol)=>
    cond (c.value.kind !=x92.kind)
     (some 7)
     (letP (dS c.value) fun x98=>
     some x98))))
theorem pz(sA:LSchema)(c:LConstraint)(r:Int)(H:fQ sA c=some r):
  aY prog 37 [(.agg (da sA)),(.agg (iK c))] (ah r):=by
 unfold fQ at H;refine PH.au func37 ntmps37 ?_;refine aa (ab (aO ?_));refine aO ?_;refine ai tk Z (ac (aa (ab (ag 3 tk Z ?_))))
 obtain⟨x14,h14,H⟩:=am H
 have s14:=jE sA c.table _ h14;refine aj call24 (jt.r) s14 ?_;refine ag 5 tk Z (ac (aa (ak 2 tk Z ?_)));refine aF Z H (fun H=>?_) (fun H=>?_)
 ·refine ak 1 tk Z ?_;exact bi tk H Z
 refine al (aa (ab (ag 3 tk Z ?_)))
 obtain⟨x22,k22,H⟩:=aV H
 refine be tk k22.1 (aC (fun _=>Z) k22.2) ?_;refine ag 3 tk Z (ac (aa (ab (ag 4 tk Z ?_))))
 obtain⟨x30,h30,H⟩:=bF H
 have s30:=uf (LVal.mk 0 0 []) c.op (LVal.mk 0 0 []);rw[h30]at s30;refine aj call60 (jt.r) s30 ?_;refine ag 5 tk Z (ac (aa (aa ?_)));refine ed (γ:=Unit) (fun t1 g1=>⟨99,upd (upd (upd (fun _=>.any) 69 (aK t1)) 7 (.list 53 (x22.columns.map aB))) 3 (.ptr (iK c)),fun _=>none,fun _=>none⟩) H (fun _ H=>?_) (fun t1 g1 H=>?_)
 ·refine ab (ag 4 tk Z ?_);refine bu Z Z Z H (fun H=>?_) (fun H=>?_)
  ·refine ag 33 tk Z (ac ?_);refine aP _ () H Gh.d
  refine ag 3 tk Z (aI tk (zl _) ?_);refine ag 3 tk Z ?_;refine bu Z Z Z H (fun H=>?_) (fun H=>?_)
  ·refine ag 26 tk Z (ac ?_);refine aP _ () H Gh.d
  refine ag 4 tk Z ?_;refine bu Z Z Z H (fun H=>?_) (fun H=>?_)
  ·refine ag 22 tk Z (ac ?_);refine aP _ () H Gh.d
  refine ag 5 tk Z ?_;refine bu Z Z Z H (fun H=>?_) (fun H=>?_)
  ·refine ag 17 tk Z (ac ?_);refine aP _ () H Gh.d
  refine ag 3 tk Z (aI tk (zl _) ?_);refine ag 3 tk Z ?_;refine bu Z Z Z H (fun H=>?_) (fun H=>?_)
  ·refine ag 10 tk Z (ac ?_);refine aP _ () H Gh.d
  refine ag 4 tk Z ?_;refine bu Z Z Z H (fun H=>?_) (fun H=>?_)
  ·refine ag 6 tk Z (ac ?_);refine aP _ () H Gh.d
  refine ag 6 tk Z (ac ?_);refine aP _ () H Gh.d
 refine aF Z H (fun H=>?_) (fun H=>?_)
 ·refine ak 1 tk Z ?_;exact bi tk H Z
 refine al (aa (ak 3 tk Z ?_));refine aF Z H (fun H=>?_) (fun H=>?_)
 ·refine aa (aa (aX tk mok ⟨false,false,[]⟩ [0,1,2,3,4,5,6,7,8,9,10,11,12] Z (by decide+kernel) Z (az 3 Z ?_)))
  obtain⟨x76,k76,H⟩:=aV H
  refine bE k76.1 (aC (fun _=>Z) k76.2) ?_;refine az 5 Z ?_
  obtain⟨x82,k82,H⟩:=aV H
  refine bE k82.1 (aC (fun _=>Z) k82.2) ?_;refine az 3 Z (aQ ?_);refine aF Z H (fun H=>?_) (fun H=>?_)
  ·refine ak 1 tk Z ?_;exact bi tk H Z
  refine al (ak 1 tk Z ?_);exact bi tk H Z
 refine al (aa (aa (aX tk mok ⟨false,false,[]⟩ [0,1,2,3,4,5,6,7,8,9] Z (by decide+kernel) Z (az 6 Z ?_))))
 obtain⟨x92,k92,H⟩:=aV H
 refine bE k92.1 (aC (fun _=>Z) k92.2) ?_;refine az 3 Z (aQ ?_);refine aF Z H (fun H=>?_) (fun H=>?_)
 ·refine ak 1 tk Z ?_;exact bi tk H Z
 refine al (aa (ab (ag 2 tk Z ?_)))
 obtain⟨x98,h98,H⟩:=bF H
 have s98:=nw c.value;rw[h98]at s98;refine aj call61 (jt.r) s98 ?_;refine ai tk Z (ac ?_);exact bi tk H Z
def jd(t:LTable)(rows:Rz)(key:Rq):Option (Int×Bool×Rz):=
 ae (nQ (rows.length:Int)) fun(n1:Nat)=>
 ae (aU (σ:=Rz) (ρ:=(Int×Bool×Rz)) (fun(j1:Nat) (_:Nat) (s1:Rz)=>
  ae (aG s1 (j1:Int)) fun(x16:Rq)=>
  ae (dA t x16) fun x20=>
  ae (dO x20 key) fun x22=>
  cond (decide (x22>=(0:Int)))
   (some (.ret ((j1:Int),(x22==(0:Int)),s1)))
   (some (.next s1))) 0 (List.range n1) rows) fun fl1=>fl1.thenR fun(s1:Rz)=>
 some ((s1.length:Int),false,s1)
theorem pG(g_rows:OwnRef)(t:LTable)(rows:Rz)(key:Rq)(r:Int×Bool×Rz)(H:jd t rows key=some r):
  PH prog 50 [(.agg (bM t)),(.own 1 g_rows (rows.map (ap 58 af)).length),(.list 58 (key.map af))] ⟨fun _=>none,upd (fun _=>none) 1 (some ⟨g_rows,46,(rows.map (ap 58 af)),true⟩)⟩ (fun u H=>u=(.tup [(ah r.1),(aK r.2.1)])/\H=⟨fun _=>none,upd (fun _=>none) 1 (some ⟨g_rows,46,(r.2.2.map (ap 58 af)),true⟩)⟩):=by
 unfold jd at H;refine PH.au func50 ntmps50 ?_;refine aa (ab (aO ?_));refine ag 2 tk Z (ac (aa (aa (ab (ai tk Z (eg tk (zl _) ?_))))));refine ai tk Z (ac ?_)
 obtain⟨n1,hs1,H⟩:=am H
 have hz1:=mY hs1
 obtain⟨fl1,H1,Hp1⟩:=am H
 refine dj (τ:=Rz) (γ:=Unit) (fun s1 g1=>⟨31,upd (fun _=>.any) 1 (.own 1 g_rows (s1.map (ap 58 af)).length),fun _=>none,upd (fun _=>none) 1 (some ⟨g_rows,46,(s1.map (ap 58 af)),true⟩)⟩) (fun t=>fl1= .next t) ?_ (fun s1 g1 hn1=>?_)
 ·refine av ?_;refine iU (fun j1 s1 g1=>⟨31,upd (upd (upd (upd (upd (upd (fun _=>.any) 13 (ah (j1:Int))) 12 (ah (rows.length:Int))) 11 (.own 1 g_rows (s1.map (ap 58 af)).length)) 3 (.ptr (bM t))) 2 (.list 58 (key.map af))) 1 (.own 1 g_rows (s1.map (ap 58 af)).length),fun _=>none,upd (fun _=>none) 1 (some ⟨g_rows,46,(s1.map (ap 58 af)),true⟩)⟩) () H1 Gh.d (fun j1 s1 g1 hj1 hr1=>?_);refine ak 1 tk Z (aa ?_);refine bJ Z (fun h=>?_) (fun h=>?_)
  ·have hl1:=natLt hz1 h
   obtain⟨x1,fb1,hx1,H,hg1⟩:=rMc hl1 hr1
   obtain rfl:=natX hx1;refine al (aa (av (aa (ab (ai tk Z ?_)))))
   obtain⟨x16,k16,H⟩:=aV H
   refine jJ (tag:=1) Z (fun ho1=>?_);refine iV tk ⟨k16.1,(bh k16.2)⟩ (bf ho1 k16.2) ?_;refine lJ tk (aC (fun _=>Z) k16.2) ?_;refine ag 2 tk Z (ac (aa (ab (ag 2 tk Z ?_))))
   obtain⟨x20,h20,H⟩:=am H
   have s20:=mP t x16 _ h20;refine aj call41 (jt.r) s20 ?_;refine ai tk Z ?_
   obtain⟨x22,h22,H⟩:=am H
   have s22:=ox x20 key _ h22;refine aj call40 (jt.r) s22 ?_;refine ai tk Z (ac (ak 2 tk Z ?_));refine aF Z H (fun H=>?_) (fun H=>?_)
   ·refine ak 5 tk Z ?_;obtain rfl:=aq H;have e1:fl1= .ret _:=hg1;subst e1;obtain rfl:=aZ Hp1;refine bZ (st':=⟨31,upd (upd (fun _=>.any) 7 (aK (x22==(0:Int)))) 6 (ah (j1:Int)),fun _=>none,upd (fun _=>none) 1 (some ⟨g_rows,46,(s1.map (ap 58 af)),true⟩)⟩) (Gh.le (ao (ao aL)) aw (aD ax)) ?_;refine cl tk Z (ps:=[(ah (j1:Int)),(aK (x22==(0:Int)))]) ⟨_,_,rfl,rfl,_,_,rfl,rfl,rfl⟩ (PLe.q Z) ⟨rfl,rfl⟩
   refine al (aM (bc 2 tk Z ?_));exact bv () H hl1 hg1 (Gh.le (ao (ao (ao (ao (ao (bp (PLe.q (nT hz1 hl1)) aL)))))) aw (aD ax))
  have hn1:=rMd (natGe hz1 h) hr1;refine bj Z ?_;refine aP s1 g1 hn1 Gh.d
 have H:=iW hn1 Hp1;refine aa (ab (ai tk Z (eg tk (zl _) ?_)));refine ag 2 tk Z (ac ?_);obtain rfl:=aq H;refine bZ (st':=⟨31,upd (upd (fun _=>.any) 7 (aK false)) 6 (ah (s1.length:Int)),fun _=>none,upd (fun _=>none) 1 (some ⟨g_rows,46,(s1.map (ap 58 af)),true⟩)⟩) (Gh.le (ao (ao aL)) aw (aD ax)) ?_;refine cl tk Z (ps:=[(ah (s1.length:Int)),(aK false)]) ⟨_,_,rfl,rfl,_,_,rfl,rfl,rfl⟩ (PLe.q Z) ⟨rfl,rfl⟩
def dT(data:Rs)(a:Int)(swaps:Int):Option (Int×Rs×Int):=
 ae (fu data (iw (a-(1:Int))) a (iw (a+(1:Int))) swaps) fun x14=>
 ae (cF (x14.2.1.length=data.length) ()) fun(_:Unit)=>
 some (x14.1,x14.2.1,x14.2.2)
theorem gD(g_data:OwnRef)(b_swaps:Nat)(data:Rs)(a:Int)(swaps:Int)(r:Int×Rs×Int)(H:dT data a swaps=some r):
  PH prog 115 [(.own 0 g_data (data.map aA).length),(ah a),(.box 1502 b_swaps 0)] ⟨upd (fun _=>none) 1502 (some ⟨b_swaps,[(ah swaps)]⟩),upd (fun _=>none) 0 (some ⟨g_data,9,(data.map aA),true⟩)⟩ (fun u H=>u=(ah r.1)/\H=⟨upd (fun _=>none) 1502 (some ⟨b_swaps,[(ah r.2.2)]⟩),upd (fun _=>none) 0 (some ⟨g_data,9,(r.2.1.map aA),true⟩)⟩):=by
 unfold dT at H;refine PH.au func115 ntmps115 ?_;refine ak 1 tk Z (aa (ab (ag 7 tk Z ?_)))
 obtain⟨x14,h14,H⟩:=am H
 have s14:=jm g_data b_swaps data (iw (a-(1:Int))) a (iw (a+(1:Int))) swaps _ h14
 obtain⟨_,q14_0,H⟩:=am H
 have l14_0:=(bG q14_0).1;have z14_0:(List.map aA data).length=(List.map aA x14.2.1).length:=by simpa using(l14_0).symm
 refine bB (g:=116) Z Z Z call116 [(1502,1504)] [(0,0)] Z Z Z Z (jt.of2 (jN.cons (pD.own Z) (jN.cons (pD.of_eq Z) (jN.cons (pD.of_eq Z) (jN.cons (pD.of_eq Z) (jN.cons pD.boxT jN.nil)))))) (by rw[cf,bq,aW,bn];rfl) s14 ?_;rintro u14 H14h ⟨rfl,rfl⟩
 refine⟨_,rfl,?_⟩
 refine bS (st':=⟨_,_,upd (fun _=>none) 1502 (some ⟨b_swaps,[(ah x14.2.2)]⟩),upd (fun _=>none) 0 (some ⟨g_data,9,(x14.2.1.map aA),true⟩)⟩) (Gh.le (bs _ _) (aR Z (jt.r) aw) (aD ax)) ?_;refine ai tk Z (ac ?_);obtain rfl:=aq H;refine bZ (st':=⟨15,upd (fun _=>.any) 6 (ah x14.1),upd (fun _=>none) 1502 (some ⟨b_swaps,[(ah x14.2.2)]⟩),upd (fun _=>none) 0 (some ⟨g_data,9,(x14.2.1.map aA),true⟩)⟩) (Gh.le (ao aL) (aR Z (jt.r) aw) (aD ax)) ?_;refine cl tk Z (ps:=[(ah x14.1)]) ⟨_,_,rfl,rfl,rfl⟩ (PLe.q Z) ⟨rfl,rfl⟩
def jq(c:LChecker)(q:LQuery)(inA:List (List LCol)):Option ((List LCol)×Int):=
 cond (q.kind==(1:Int))
  (ae (cI c.s.tables (fun a0=>some (fF a0 q))) fun x25=>
  cond (decide (x25<(0:Int)))
   (some ([],4))
   (ae (aG c.s.tables x25) fun(x32:LTable)=>
   some (x32.columns,0)))
  (cond (q.kind==(2:Int))
   (ae (aG inA 0) fun(x39:List LCol)=>
   ae (aG inA 0) fun(x43:List LCol)=>
   ae (aG q.exprs 0) fun(x47:LExpr)=>
   letP (eF c x43 x47) fun x49=>
   some (x39,x49))
   (letP (
    cond (q.kind==(4:Int))
     ((q.kind==(4:Int)))
     ((q.kind==(5:Int)))) fun(t1:Bool)=>
   cond t1
    (ae (aG inA 0) fun(x54:List LCol)=>
    ae (aG inA 1) fun(x58:List LCol)=>
    ae (aU (σ:=List LCol) (ρ:=Empty) (fun(_:Nat) (x2:LCol) (s2:List LCol)=>
     cond x2.nullable
      (ae (dq 32 s2 ([(LCol.mk x2.name x2.kind true)]:List LCol)) fun(x76:List LCol)=>
      some (.next x76))
      (ae (dq 32 s2 ([(LCol.mk x2.name x2.kind (q.kind==(5:Int)))]:List LCol)) fun(x76:List LCol)=>
      some (.next x76))) 0 x58 x54) fun fl2=>fl2.thenP fun(s2:List LCol)=>
    ae (aG q.exprs 0) fun(x83:LExpr)=>
    letP (eF c s2 x83) fun x85=>
    some (s2,x85))
    (letP (
     cond (q.kind==(6:Int))
      ((q.kind==(6:Int)))
      ((q.kind==(7:Int)))) fun(t3:Bool)=>
    cond t3
     (ae (aG inA 0) fun(x92:List LCol)=>
     ae (aG inA 1) fun(x95:List LCol)=>
     ae (jF q.kind x92 x95) fun x97=>
     some (x97.1,x97.2))
     (letP (
      cond (q.kind==(3:Int))
       ((q.kind==(3:Int)))
       ((q.kind==(8:Int)))) fun(t4:Bool)=>
     cond t4
      (ae (aG inA 0) fun(x106:List LCol)=>
      ae (fH c q x106) fun x108=>
      some (x108.1,x108.2))
      (cond (q.kind==(9:Int))
       (ae (aU (σ:=Unit) (ρ:=((List LCol)×Int)) (fun(_:Nat) (x5:LExpr) (_:Unit)=>
        ae (aG inA 0) fun(x122:List LCol)=>
        letP (fD x122 c.vars x5) fun x127=>
        cond (x127.2.2 !=(0:Int))
         (some (.ret ([],x127.2.2)))
         (some (.next ()))) 0 q.exprs ()) fun fl5=>fl5.thenR fun(_:Unit)=>
       ae (aG inA 0) fun(x136:List LCol)=>
       some (x136,0))
       (ae (aG inA 0) fun(x136:List LCol)=>
       some (x136,0)))))))
theorem sT(c:LChecker)(q:LQuery)(inA:List (List LCol))(r:(List LCol)×Int)(H:jq c q inA=some r):
  aY prog 141 [(.agg (fe c)),(.agg (bg q)),(.list 54 (inA.map (ap 53 aB)))] (.tup [(.list 53 (r.1.map aB)),(ah r.2)]):=by
 unfold jq at H;refine PH.au func141 ntmps141 ?_;refine aa (ab (aO ?_));refine aO ?_;refine ag 2 tk Z (ac (aa (ak 2 tk Z (av (ak 2 tk Z ?_)))));refine aF Z H (fun H=>?_) (fun H=>?_)
 ·refine aa (ab (ag 4 tk Z ?_))
  obtain⟨x25,h25,H⟩:=am H
  have s25:=eM c.s.tables (fun a0=>some (fF a0 q)) call167 (fun a0 r h=>(aq h)▸ru a0 q) _ h25;refine aj call47 (jt.r) s25 ?_;refine ai tk Z (ac (aa (ak 2 tk Z ?_)));refine aF Z H (fun H=>?_) (fun H=>?_)
  ·refine ak 2 tk Z ?_;obtain rfl:=aq H;refine bl tk Z (ps:=[(.val (.slice none 0 0)),(ah 4)]) ⟨_,_,rfl,rfl,_,_,rfl,rfl,rfl⟩ (PLe.of2 (pD.tup (jN.cons (pD.nil tk Z) (jN.cons (pD.of_eq Z) jN.nil))))
  refine al (aa (ab (ag 4 tk Z ?_)))
  obtain⟨x32,k32,H⟩:=aV H
  refine be tk k32.1 (aC (fun _=>Z) k32.2) ?_;refine ag 2 tk Z ?_;have s35:=nD (m:=35) x32.columns;refine aj call104 (jt.r) (PFun.iw s35) ?_;refine ag 2 tk Z (ac ?_);exact bi tk H Z
 refine ak 2 tk Z ?_;refine aF Z H (fun H=>?_) (fun H=>?_)
 ·refine aa (aX tk mok ⟨false,false,[]⟩ [0,1,2,3,4,5,6,7,8,9,10,11,12,13] Z (by decide+kernel) Z (bw Z ?_))
  obtain⟨x39,k39,H⟩:=aV H
  refine bE k39.1 (aC (fun _=>Z) k39.2) ?_;refine az 3 Z ?_
  obtain⟨x43,k43,H⟩:=aV H
  refine bE k43.1 (aC (fun _=>Z) k43.2) ?_;refine az 3 Z ?_
  obtain⟨x47,k47,H⟩:=aV H
  refine bE k47.1 (aC dh k47.2) ?_;refine bw Z ?_
  obtain⟨x49,h49,H⟩:=bF H
  have s49:=mj c x43 x47;rw[h49]at s49;refine aS call168 (jt.r) s49 ?_;refine az 2 Z (aQ ?_);exact bi tk H Z
 refine aa (ak 2 tk Z ?_);refine ed (γ:=Unit) (fun t1 g1=>⟨138,upd (upd (upd (upd (upd (fun _=>.any) 50 (aK t1)) 18 (ah q.kind)) 4 (.ptr (bg q))) 3 (.ptr (fe c))) 2 (.list 54 (inA.map (ap 53 aB))),fun _=>none,fun _=>none⟩) H (fun _ H=>?_) (fun t1 g1 H=>?_)
 ·refine aF Z H (fun H=>?_) (fun H=>?_)
  ·refine al ?_;refine aP _ () H Gh.d
  refine bc 2 tk Z ?_;refine aP _ () H Gh.d
 refine aF Z H (fun H=>?_) (fun H=>?_)
 ·refine aa (ab (ai tk Z ?_))
  obtain⟨x54,k54,H⟩:=aV H
  refine be tk k54.1 (aC (fun _=>Z) k54.2) ?_;refine ai tk Z ?_;have s56:=nD (m:=56) x54;refine jj call104 (jt.r) s56 (fun g56=>?_);refine ai tk Z (ac (aa (aa (ab (ai tk Z ?_)))))
  obtain⟨x58,k58,H⟩:=aV H
  refine be tk k58.1 (aC (fun _=>Z) k58.2) ?_;refine ai tk Z (aI tk (zl _) ?_);refine ai tk Z (ac ?_);refine gc (γ:=OwnRef) tk 61 60 59 (fun s2 g2=>upd (upd (upd (fun _=>.any) 9 (.own 56 g2 (s2.map aB).length)) 4 (.ptr (bg q))) 3 (.ptr (fe c))) nB (fun s2 g2=>upd (fun _=>none) 56 (some ⟨g2,53,(s2.map aB),true⟩)) g56 H (fun fl2 Hp2 j2 s2 g2 hz2 hl2 x2 fb2 hx2 H hg2=>?_) (fun s2 g2 H=>?_)
  ·refine aa (av (aa (ab ?_)));refine be tk (zn j2) (bA (fun _=>Z) hx2) ?_;refine ai tk Z ?_;refine bm tk fun b11=>?_
   refine ay tk ?_;refine ac (aa (ab (ai tk Z (aJ tk ?_))));refine ai tk Z ?_;refine bu Z Z Z H (fun H=>?_) (fun H=>?_)
   ·refine ag 5 tk Z (ay tk ?_);refine ac (ab (ai tk Z (aJ tk ?_)));refine cy tk (rows':=List.map aB ([(LCol.mk x2.name x2.kind true)]:List LCol)) (gP.refl _) ?_
    obtain⟨x76,h76,H⟩:=am H
    have k76:=cj h76;refine cv (rows2':=List.map aB ([(LCol.mk x2.name x2.kind true)]:List LCol)) (rows':=List.map aB x76) tk Z Z Z Z Z Z Z Z Z Z Z Z Z (gP.refl _) (cU k76.1) (cW k76.2.1) (cV k76.2.2) fun g76=>?_
    refine ai tk Z (ac (aM (bc 2 tk Z ?_)));exact bv g76 H hl2 hg2
   refine ag 5 tk Z (ay tk ?_);refine ac (ab (ai tk Z (aJ tk ?_)));refine cy tk (rows':=List.map aB ([(LCol.mk x2.name x2.kind (q.kind==(5:Int)))]:List LCol)) (gP.refl _) ?_
   obtain⟨x76,h76,H⟩:=am H
   have k76:=cj h76;refine cv (rows2':=List.map aB ([(LCol.mk x2.name x2.kind (q.kind==(5:Int)))]:List LCol)) (rows':=List.map aB x76) tk Z Z Z Z Z Z Z Z Z Z Z Z Z (gP.refl _) (cU k76.1) (cW k76.2.1) (cV k76.2.2) fun g76=>?_
   refine ai tk Z (ac (aM (bc 2 tk Z ?_)));exact bv g76 H hl2 hg2
  refine aa (cT 9 Z Z Z (aX tk mok ⟨false,false,[]⟩ [0,1,2,3,4,5,6,7,8,9] Z (by decide+kernel) Z (az 5 Z ?_)))
  obtain⟨x83,k83,H⟩:=aV H
  refine bE k83.1 (aC dh k83.2) ?_;refine bw Z ?_
  obtain⟨x85,h85,H⟩:=bF H
  have s85:=mj c s2 x83;rw[h85]at s85;refine aS call168 (jt.r) s85 ?_;refine az 2 Z (aQ ?_);exact bi tk H Z
 refine aa (ak 2 tk Z ?_);refine ed (γ:=Unit) (fun t3 g3=>⟨138,upd (upd (upd (upd (upd (fun _=>.any) 86 (aK t3)) 18 (ah q.kind)) 4 (.ptr (bg q))) 3 (.ptr (fe c))) 2 (.list 54 (inA.map (ap 53 aB))),fun _=>none,fun _=>none⟩) H (fun _ H=>?_) (fun t3 g3 H=>?_)
 ·refine aF Z H (fun H=>?_) (fun H=>?_)
  ·refine al ?_;refine aP _ () H Gh.d
  refine bc 2 tk Z ?_;refine aP _ () H Gh.d
 refine aF Z H (fun H=>?_) (fun H=>?_)
 ·refine aa (aX tk mok ⟨false,false,[]⟩ [0,1,2,3,4,5,6,7,8,9,10,11,12] Z (by decide+kernel) Z (az 3 Z ?_))
  obtain⟨x92,k92,H⟩:=aV H
  refine bE k92.1 (aC (fun _=>Z) k92.2) ?_;refine az 2 Z ?_
  obtain⟨x95,k95,H⟩:=aV H
  refine bE k95.1 (aC (fun _=>Z) k95.2) ?_;refine bw Z ?_
  obtain⟨x97,h97,H⟩:=am H
  have s97:=tA q.kind x92 x95 _ h97;refine aS call169 (jt.r) s97 ?_;refine az 4 Z (aQ ?_);exact bi tk H Z
 refine aa (ak 2 tk Z ?_);refine ed (γ:=Unit) (fun t4 g4=>⟨138,upd (upd (upd (upd (upd (fun _=>.any) 100 (aK t4)) 18 (ah q.kind)) 4 (.ptr (bg q))) 3 (.ptr (fe c))) 2 (.list 54 (inA.map (ap 53 aB))),fun _=>none,fun _=>none⟩) H (fun _ H=>?_) (fun t4 g4 H=>?_)
 ·refine aF Z H (fun H=>?_) (fun H=>?_)
  ·refine al ?_;refine aP _ () H Gh.d
  refine bc 2 tk Z ?_;refine aP _ () H Gh.d
 refine aF Z H (fun H=>?_) (fun H=>?_)
 ·refine aa (aX tk mok ⟨false,false,[]⟩ [0,1,2,3,4,5,6,7,8,9] Z (by decide+kernel) Z (az 3 Z ?_))
  obtain⟨x106,k106,H⟩:=aV H
  refine bE k106.1 (aC (fun _=>Z) k106.2) ?_;refine bw Z ?_
  obtain⟨x108,h108,H⟩:=am H
  have s108:=oC c q x106 _ h108;refine aS call170 (jt.r) s108 ?_;refine az 4 Z (aQ ?_);exact bi tk H Z
 refine ak 2 tk Z ?_;refine aF Z H (fun H=>?_) (fun H=>?_)
 ·refine aa (ab (ag 2 tk Z (aI tk (zl _) ?_)));refine ai tk Z (ac ?_);refine ff tk 116 115 114 (fun s5 g5=>upd (upd (fun _=>.any) 3 (.ptr (fe c))) 2 (.list 54 (inA.map (ap 53 aB)))) nB nO () H (fun fl5 Hp5 j5 s5 g5 hz5 hl5 x5 fb5 hx5 H hg5=>?_) (fun s5 g5 H=>?_)
  ·refine aa (av (aa (ab (be tk (zn j5) (bA dh hx5) ?_))));refine ai tk Z ?_;refine bm tk fun b13=>?_
   refine ay tk ?_;refine ac (aa (aX tk mok ⟨true,false,[123,125]⟩ [0,1,2,3,4,5,6,7,8,9,10,11,12,13] Z (by decide+kernel) Z (bw Z ?_)))
   obtain⟨x122,k122,H⟩:=aV H
   refine bE k122.1 (aC (fun _=>Z) k122.2) ?_;refine az 3 Z (bd ?_)
   obtain⟨x127,h127,H⟩:=bF H
   have s127:=lZ x122 c.vars x5;rw[h127]at s127;refine aS call67 (jt.r) s127 ?_;refine az 7 Z (aQ (ak 2 tk Z ?_));refine aF Z H (fun H=>?_) (fun H=>?_)
   ·refine ak 3 tk Z ?_;obtain rfl:=aq H;have e5:fl5= .ret _:=hg5;subst e5;obtain rfl:=aZ Hp5;refine bl tk Z (ps:=[(.val (.slice none 0 0)),(ah x127.2.2)]) ⟨_,_,rfl,rfl,_,_,rfl,rfl,rfl⟩ (PLe.of2 (pD.tup (jN.cons (pD.nil tk Z) (jN.cons (pD.of_eq Z) jN.nil))))
   refine al (aM (bc 2 tk Z ?_));exact bv () H hl5 hg5
  refine aM (aa (ab (ai tk Z ?_)))
  obtain⟨x136,k136,H⟩:=aV H
  refine be tk k136.1 (aC (fun _=>Z) k136.2) ?_;refine ag 3 tk Z (ac ?_);exact bi tk H Z
 refine al (aM (aa (ab (ai tk Z ?_))))
 obtain⟨x136,k136,H⟩:=aV H
 refine be tk k136.1 (aC (fun _=>Z) k136.2) ?_;refine ag 3 tk Z (ac ?_);exact bi tk H Z
def gC(c:LProcedureChecker)(vars:List LCol)(sA:LProcedureStatement):Option (Int):=
 ae (iM c sA.table) fun x21=>
 cond (!x21.2)
  (some 4)
  (ae (
   cond (sA.kind !=(4:Int))
    (ae (aG sA.whereF 0) fun(x35:LExpr)=>
    ae (eD c x21.1.columns vars x35) fun x37=>
    cond (x37 !=(0:Int))
     (some (.ret x37))
     (some (.next ())))
    (some (.next ()))) fun(fl1:Flow (Unit) (Int))=>fl1.thenR fun _=>
  letP (
   cond (sA.kind==(4:Int))
    (((sA.exprs.length:Int) !=(x21.1.columns.length:Int)))
    (false)) fun(t2:Bool)=>
  cond t2
   (some 3)
   (ae (aU (σ:=Unit) (ρ:=(Int)) (fun(j3:Nat) (x3:LExpr) (_:Unit)=>
    ae (
     cond (sA.kind==(5:Int))
      (ae (bO x21.1.columns (fun a0=>eX a0 sA (j3:Int))) fun x68=>
      cond (decide (x68<(0:Int)))
       (some (.ret 23))
       (ae (nZ sA.names 0 (j3:Int)) fun(x76:Rs)=>
       ae (aG sA.names (j3:Int)) fun(x80:Rb)=>
       ae (cD x76 x80) fun x82=>
       cond x82
        (some (.ret 9))
        (ae (ez x21.1.primaryKey x68) fun x87=>
        cond x87
         (some (.ret 9))
         (some (.next (x68,x21.1.columns))))))
      (some (.next ((j3:Int),[])))) fun(fl5:Flow (Int×List LCol) (Int))=>fl5.thenF fun t5=>
    ae (eu c t5.2 vars x3) fun x94=>
    cond (x94.2.2 !=(0:Int))
     (some (.ret x94.2.2))
     (cond (x94.1 !=(0:Int))
      (ae (aG x21.1.columns t5.1) fun(x108:LCol)=>
      cond (x94.1 !=x108.kind)
       (some (.ret 7))
       (some (.next ())))
      (some (.next ())))) 0 sA.exprs ()) fun fl3=>fl3.thenR fun(_:Unit)=>
   some 0))
theorem pO(c:LProcedureChecker)(vars:List LCol)(sA:LProcedureStatement)(r:Int)(H:gC c vars sA=some r):
  aY prog 100 [(.agg (bL c)),(.list 53 (vars.map aB)),(.agg (aE sA))] (ah r):=by
 unfold gC at H;refine PH.au func100 ntmps100 ?_;refine aa (ab (aO ?_));refine aO ?_;refine ai tk Z (ac (aa (ab (ag 3 tk Z ?_))))
 obtain⟨x21,h21,H⟩:=am H
 have s21:=pT c sA.table _ h21;refine aj call127 (jt.r) s21 ?_;refine ag 3 tk Z ?_;refine bm tk fun b7=>?_
 refine ay tk ?_;refine ai tk Z (ac (aa (ak 2 tk Z ?_)));refine aF Z H (fun H=>?_) (fun H=>?_)
 ·refine ak 1 tk Z ?_;exact bi tk H Z
 refine al (aa (ak 3 tk Z ?_));refine V.cutR (γ:=Unit) (fun t1 g1=>⟨114,upd (upd (upd (upd (fun _=>.any) 7 (.box 7 b7 0)) 5 (.ptr (aE sA))) 3 (.ptr (bL c))) 1 (.list 53 (vars.map aB)),upd (fun _=>none) 7 (some ⟨b7,(bM x21.1)⟩),fun _=>none⟩) H (fun _ H Hp1=>?_) (fun t1 g1 H=>?_)
 ·refine aF Z H (fun H=>?_) (fun H=>?_)
  ·refine aa (aX tk mok ⟨true,false,[29,34,36]⟩ [0,1,2,3,4,5,6,7,8,9] Z (by decide+kernel) Z (az 2 Z (bd ?_)));refine az 3 Z ?_
   obtain⟨x35,k35,H⟩:=aV H
   refine bE k35.1 (aC dh k35.2) ?_;refine bw Z ?_
   obtain⟨x37,h37,H⟩:=am H
   have s37:=lf c x21.1.columns vars x35 _ h37;refine aS call97 (jt.r) s37 ?_;refine bw Z (aQ (ak 2 tk Z ?_));refine aF Z H (fun H=>?_) (fun H=>?_)
   ·refine ak 2 tk Z ?_;obtain rfl:=aq H;obtain rfl:=aZ Hp1;refine bl tk Z (ps:=[(ah x37)]) ⟨_,_,rfl,rfl,rfl⟩ (PLe.q Z)
   refine al ?_;refine aP _ () (aq H).symm Gh.d
  refine al ?_;refine aP _ () (aq H).symm Gh.d
 refine aa (aa ?_);refine ed (γ:=Unit) (fun t2 g2=>⟨114,upd (upd (upd (upd (upd (fun _=>.any) 52 (aK t2)) 7 (.box 7 b7 0)) 5 (.ptr (aE sA))) 3 (.ptr (bL c))) 1 (.list 53 (vars.map aB)),upd (fun _=>none) 7 (some ⟨b7,(bM x21.1)⟩),fun _=>none⟩) H (fun _ H=>?_) (fun t2 g2 H=>?_)
 ·refine ab (ag 4 tk Z ?_);refine bu Z Z Z H (fun H=>?_) (fun H=>?_)
  ·refine ag 2 tk Z (aI tk (zl _) ?_);refine ai tk Z (aJ tk ?_);refine aI tk (zl _) ?_;refine ag 2 tk Z (ac ?_);refine aP _ () H Gh.d
  refine ag 8 tk Z (ac ?_);refine aP _ () H Gh.d
 refine aF Z H (fun H=>?_) (fun H=>?_)
 ·refine ak 1 tk Z ?_;exact bi tk H Z
 refine al (aa (aa (ab (ag 2 tk Z (aI tk (zl _) ?_)))));refine ai tk Z (ac ?_)
 obtain⟨fl3,H3,Hp3⟩:=am H
 refine iI tk 54 Z Z (fun hz3 _=>?_);rw[zl]at hz3;refine dj (τ:=Unit) (γ:=Unit) (fun s3 g3=>⟨114,upd (upd (upd (fun _=>.any) 5 (.ptr (aE sA))) 3 (.ptr (bL c))) 1 (.list 53 (vars.map aB)),fun _=>none,fun _=>none⟩) (fun t=>fl3= .next t) ?_ (fun s3 g3 hn3=>?_)
 ·refine av ?_;refine iU (fun j3 s3 g3=>⟨114,upd (upd (upd (upd (upd (upd (upd (fun _=>.any) 56 (ah (j3:Int))) 55 (ah (sA.exprs.length:Int))) 54 (.list 62 (sA.exprs.map fJ))) 7 (.box 7 b7 0)) 5 (.ptr (aE sA))) 3 (.ptr (bL c))) 1 (.list 53 (vars.map aB)),upd (fun _=>none) 7 (some ⟨b7,(bM x21.1)⟩),fun _=>none⟩) () H3 Gh.d (fun j3 s3 g3 hj3 hr3=>?_);refine ak 1 tk Z (aa ?_);refine bJ Z (fun h=>?_) (fun h=>?_)
  ·have hl3:=pe h
   obtain⟨x3,fb3,hx3,H,hg3⟩:=rMc hl3 hr3
   refine al (aa (av (aa (ab (ai tk Z (be tk (zn j3) (bA dh hx3) ?_))))));refine ai tk Z ?_;refine bm tk fun b10=>?_
   refine bm tk fun b11=>?_
   refine ay tk ?_;refine ay tk ?_;refine ac (aa (ab (aJ tk ?_)));refine ag 2 tk Z (ac (aa (ak 3 tk Z ?_)));refine vr (γ:=Unit) (fun t5 g5=>⟨114,upd (upd (upd (upd (upd (upd (upd (upd (upd (upd (fun _=>.any) 56 (ah (j3:Int))) 55 (ah (sA.exprs.length:Int))) 54 (.list 62 (sA.exprs.map fJ))) 13 (.list 53 (t5.2.map aB))) 12 (ah t5.1)) 11 (.box 11 b11 0)) 7 (.box 7 b7 0)) 5 (.ptr (aE sA))) 3 (.ptr (bL c))) 1 (.list 53 (vars.map aB)),upd (upd (fun _=>none) 11 (some ⟨b11,(gZ x3)⟩)) 7 (some ⟨b7,(bM x21.1)⟩),fun _=>none⟩) H (fun _ H Hp5=>?_) (fun t5 g5 H=>?_)
   ·refine aF Z H (fun H=>?_) (fun H=>?_)
    ·refine aa (qQ 10 Z Z Z Z (aX tk mok ⟨true,false,[]⟩ [0,1,2,4,5,3,6,7] Z (by decide+kernel) Z (bw Z (bd ?_))));refine az 2 Z (bd ?_)
     obtain⟨x68,h68,H⟩:=am H
     have s68:=dF x21.1.columns (fun a0=>eX a0 sA (j3:Int)) call128 (fun a0 r h=>pq a0 sA (j3:Int) r h) _ h68;refine aS call89 (jt.r) s68 ?_;refine az 2 Z (aQ (aa (ak 2 tk Z ?_)));refine aF Z H (fun H=>?_) (fun H=>?_)
     ·refine ak 1 tk Z ?_;obtain rfl:=aq H;have q5:=mC Hp5;subst q5;have e3:fl3= .ret _:=hg3;subst e3;obtain rfl:=aZ Hp3;refine bl tk Z (ps:=[(ah 23)]) ⟨_,_,rfl,rfl,rfl⟩ (PLe.q Z)
     refine al (aa (aX tk mok ⟨true,false,[74,75,78,79,81]⟩ [0,1,2,3,4,5,6,7,8,9,10,11,12,13,14,15] Z (by decide+kernel) Z (az 3 Z ?_)))
     obtain⟨x76,h76,H⟩:=am H
     have k76:=nz h76;refine uR Z Z Z Z Z Z (zl _) Z Z k76.1 (oz k76.2) Z (az 3 Z ?_)
     obtain⟨x80,k80,H⟩:=aV H
     refine bE k80.1 (aC (fun _=>Z) k80.2) ?_;refine bw Z ?_
     obtain⟨x82,h82,H⟩:=am H
     have s82:=iC x76 x80 _ h82;refine aS call11 (jt.r) s82 ?_;refine bw Z ?_;refine gi H (fun H=>?_) (fun H=>?_)
     ·refine az 5 Z (aQ (ct Z (ak 1 tk Z ?_)));obtain rfl:=aq H;have q5:=mC Hp5;subst q5;have e3:fl3= .ret _:=hg3;subst e3;obtain rfl:=aZ Hp3;refine bl tk Z (ps:=[(ah 9)]) ⟨_,_,rfl,rfl,rfl⟩ (PLe.q Z)
     refine bw Z (bd ?_);refine bw Z ?_
     obtain⟨x87,h87,H⟩:=am H
     have s87:=jO x21.1.primaryKey x68 _ h87;refine aS call93 (jt.r) s87 ?_;refine bw Z (aQ ?_);refine aF Z H (fun H=>?_) (fun H=>?_)
     ·refine ak 1 tk Z ?_;obtain rfl:=aq H;have q5:=mC Hp5;subst q5;have e3:fl3= .ret _:=hg3;subst e3;obtain rfl:=aZ Hp3;refine bl tk Z (ps:=[(ah 9)]) ⟨_,_,rfl,rfl,rfl⟩ (PLe.q Z)
     refine al ?_;refine aP _ () (aq H).symm Gh.d
    refine al ?_;refine aP _ () (aq H).symm (Gh.le (ao (ao (ao (ao (ao (ao (bp (PLe.of2 (pD.nil tk Z)) (ao (ao (ao aL)))))))))) (aR Z (jt.r) (aR Z (jt.r) aw)) ax)
   refine aa (ab (ag 3 tk Z (aJ tk ?_)))
   obtain⟨x94,h94,H⟩:=am H
   have s94:=jS c t5.2 vars x3 _ h94;refine aj call94 (jt.r) s94 ?_;refine ag 7 tk Z (ac (aa (ak 2 tk Z ?_)));refine aF Z H (fun H=>?_) (fun H=>?_)
   ·refine ak 2 tk Z ?_;obtain rfl:=aq H;have e3:fl3= .ret _:=hg3;subst e3;obtain rfl:=aZ Hp3;refine bl tk Z (ps:=[(ah x94.2.2)]) ⟨_,_,rfl,rfl,rfl⟩ (PLe.q Z)
   refine al (aa (ab (ag 3 tk Z ?_)));refine bu Z Z Z H (fun H=>?_) (fun H=>?_)
   ·refine ag 2 tk Z (aJ tk ?_);refine ai tk Z ?_
    obtain⟨x108,k108,H⟩:=aV H
    refine be tk k108.1 (aC (fun _=>Z) k108.2) ?_;refine ag 4 tk Z (ac ?_);refine aF Z H (fun H=>?_) (fun H=>?_)
    ·refine ak 1 tk Z ?_;obtain rfl:=aq H;have e3:fl3= .ret _:=hg3;subst e3;obtain rfl:=aZ Hp3;refine bl tk Z (ps:=[(ah 7)]) ⟨_,_,rfl,rfl,rfl⟩ (PLe.q Z)
    refine al (aM (bc 2 tk Z ?_));exact bv () H hl3 hg3
   refine ag 9 tk Z (ac (bH Z (al (aM (bc 2 tk Z ?_)))));exact bv () H hl3 hg3
  have hn3:=rMd (pf h) hr3;refine bj Z ?_;refine aP s3 g3 hn3 Gh.d
 have H:=iW hn3 Hp3;refine ak 1 tk Z ?_;exact bi tk H Z
def jX(rA:LRun)(q:LQuery)(cols:List LCol)(inA:Rz):Option (Rz):=
 letP (
  cond ((q.exprs.length:Int)==(0:Int))
   (([[]],[[]]))
   (([],[]))) fun(t1:Rz×List Rz)=>
 ae (aU (σ:=Rz×List Rz) (ρ:=Empty) (fun(_:Nat) (x2:Rq) (s2:Rz×List Rz)=>
  ae (eB rA cols x2 q.exprs) fun x38=>
  ae (cr s2.1 (fun a0=>ip a0 x38)) fun x41=>
  ae (cF (x41.2.length=s2.1.length) ()) fun(_:Unit)=>
  ae (
   cond (decide (x41.1<(0:Int)))
    (ae (dq 24 x41.2 ([x38]:Rz)) fun(x49:Rz)=>
    ae (dq 24 s2.2 ([[]]:List Rz)) fun(x52:List Rz)=>
    some (x49,x52,(x41.2.length:Int)))
    (some (x41.2,s2.2,x41.1))) fun(t7:Rz×List Rz×Int)=>
  ae (aG t7.2.1 t7.2.2) fun(x57:Rz)=>
  ae (dq 24 x57 ([x2]:Rz)) fun(x61:Rz)=>
  ae (aG t7.2.1 t7.2.2) fun(_:Rz)=>
  letP (t7.2.1.set t7.2.2.toNat x61) fun(y8:List Rz)=>
  some (.next (t7.1,y8))) 0 inA (t1.1,t1.2)) fun fl2=>fl2.thenP fun(s2:Rz×List Rz)=>
 ae (cF (s2.2.length*24<=2^47) ()) fun(_:Unit)=>
 ae (nQ (s2.1.length:Int)) fun(n10:Nat)=>
 ae (aU (σ:=Rz) (ρ:=Empty) (fun(j10:Nat) (_:Nat) (s10:Rz)=>
  ae (aG s2.1 (j10:Int)) fun(x69:Rq)=>
  ae (aU (σ:=Rq) (ρ:=Empty) (fun(_:Nat) (x13:LAggregateCall) (s13:Rq)=>
   ae (aG s2.2 (j10:Int)) fun(x86:Rz)=>
   ae (kU rA x13 cols x86) fun x88=>
   ae (dq 32 s13 ([x88]:Rq)) fun(x90:Rq)=>
   some (.next x90)) 0 q.aggregates x69) fun fl13=>fl13.thenP fun(s13:Rq)=>
  ae (dq 24 s10 ([s13]:Rz)) fun(x95:Rz)=>
  some (.next x95)) 0 (List.range n10) []) fun fl10=>fl10.thenP fun(s10:Rz)=>
 some s10
theorem ug(rA:LRun)(q:LQuery)(cols:List LCol)(inA:Rz)(r:Rz)(H:jX rA q cols inA=some r):
  aY prog 164 [(.agg (eP rA)),(.agg (bg q)),(.list 53 (cols.map aB)),(.list 46 (inA.map (ap 58 af)))] (.list 46 (r.map (ap 58 af))):=by
 unfold jX at H;refine PH.au func164 ntmps164 ?_;refine aa (ab (aO ?_));refine aO ?_;refine ai tk Z (ac (ak 1 tk Z (ak 1 tk Z (aa (aa (ab (ag 2 tk Z (aI tk (zl _) ?_))))))));refine ai tk Z (ac ?_);refine ed (γ:=OwnRef×(Nat×Nat×(Nat->OwnRef))) (fun t1 g1=>⟨98,upd (upd (upd (upd (upd (upd (fun _=>.any) 10 (.val (ke g1.2.1 t1.2.length g1.2.2.1))) 9 (.own 25 g1.1 (t1.1.map (ap 58 af)).length)) 5 (.ptr (bg q))) 4 (.ptr (eP rA))) 3 (.list 46 (inA.map (ap 58 af)))) 2 (.list 53 (cols.map aB)),upd (fun _=>none) 990 (jV g1.2.1 g1.2.2.2 (List.map (List.map (ap 58 af)) t1.2) g1.2.2.1),fK 46 g1.2.2.2 (List.map (List.map (ap 58 af)) t1.2) (upd (fun _=>none) 25 (some ⟨g1.1,46,(t1.1.map (ap 58 af)),true⟩))⟩) H (fun _ H=>?_) (fun t1 g1 H=>?_)
 ·refine aF Z H (fun H=>?_) (fun H=>?_)
  ·refine ab ?_;refine oA (rows':=List.map (ap 58 af) ([[]]:Rz)) tk Z Z Z Z Z Z Z Z Z (jN.cons (pD.nil tk Z) jN.nil) fun g25=>?_
   refine vq 990 46 tk Z Z Z Z Z Z Z Z fun bf26 cf26=>?_
   refine ag 2 tk Z (ac ?_);refine aP _ (g25,(bf26,cf26,(fun _=>⟨none,0⟩))) H (Gh.le (ao (ao (ao (ao (ao (ao aL)))))) (lY Z aw) (lx (fun i rs h=>by first|exact fp h|(simp only[nF,iH,jl,Nat.reduceLT];exact fp h)) (aD ax)))
  refine al (hZ tk 9 25 (e:=46) Z Z ?_);refine aP _ (⟨none,0⟩,(0,0,fun _=>⟨none,0⟩)) H (Gh.le (ao (ao (ao (ao (ao (ao aL)))))) (vm aw) (vn (aD ax)))
 refine aa (aa (ab (ai tk Z (aI tk (zl _) ?_))));refine ai tk Z (ac ?_)
 obtain⟨fl2,H2,Hp2⟩:=am H
 refine iI tk 27 Z Z (fun hz2 _=>?_);rw[zl]at hz2;refine dj (τ:=Rz×List Rz) (γ:=OwnRef×(Nat×Nat×(Nat->OwnRef))) (fun s2 g2=>⟨98,upd (upd (upd (upd (upd (fun _=>.any) 10 (.val (ke g2.2.1 s2.2.length g2.2.2.1))) 9 (.own 25 g2.1 (s2.1.map (ap 58 af)).length)) 5 (.ptr (bg q))) 4 (.ptr (eP rA))) 2 (.list 53 (cols.map aB)),upd (fun _=>none) 990 (jV g2.2.1 g2.2.2.2 (List.map (List.map (ap 58 af)) s2.2) g2.2.2.1),fK 46 g2.2.2.2 (List.map (List.map (ap 58 af)) s2.2) (upd (fun _=>none) 25 (some ⟨g2.1,46,(s2.1.map (ap 58 af)),true⟩))⟩) (fun t=>fl2= .next t) ?_ (fun s2 g2 hn2=>?_)
 ·refine av ?_;refine iU (fun j2 s2 g2=>⟨98,upd (upd (upd (upd (upd (upd (upd (upd (fun _=>.any) 29 (ah (j2:Int))) 28 (ah (inA.length:Int))) 27 (.list 46 (inA.map (ap 58 af)))) 10 (.val (ke g2.2.1 s2.2.length g2.2.2.1))) 9 (.own 25 g2.1 (s2.1.map (ap 58 af)).length)) 5 (.ptr (bg q))) 4 (.ptr (eP rA))) 2 (.list 53 (cols.map aB)),upd (fun _=>none) 990 (jV g2.2.1 g2.2.2.2 (List.map (List.map (ap 58 af)) s2.2) g2.2.2.1),fK 46 g2.2.2.2 (List.map (List.map (ap 58 af)) s2.2) (upd (fun _=>none) 25 (some ⟨g2.1,46,(s2.1.map (ap 58 af)),true⟩))⟩) (g1.1,(g1.2.1,g1.2.2.1,g1.2.2.2)) H2 (Gh.le (ao (ao (ao (ao (ao (ao (ao (ao aL)))))))) (lY Z aw) (lx (fun i rs h=>by first|exact fp h|(simp only[nF,iH,jl,Nat.reduceLT];exact fp h)) (aD ax))) (fun j2 s2 g2 hj2 hr2=>?_);refine ak 1 tk Z (aa ?_);refine bJ Z (fun h=>?_) (fun h=>?_)
  ·have hl2:=pe h
   obtain⟨x2,fb2,hx2,H,hg2⟩:=rMc hl2 hr2
   refine al (aa (av (aa (ab ?_))));refine be tk (zn j2) (bA (fun _=>Z) hx2) ?_;refine ag 2 tk Z (ac (aa (ab (ag 5 tk Z ?_))))
   obtain⟨x38,h38,H⟩:=am H
   have s38:=lk rA cols x2 q.exprs _ h38;refine aj call163 (jt.r) s38 ?_;refine bm tk fun b13=>?_
   refine ay tk ?_;refine ac (aa (ab (ai tk Z (bS (Gh.freezeB 13 Z Z Z Z) (ai tk Z ?_)))))
   obtain⟨x41,h41,H⟩:=am H
   have s41:=gF g2.1 s2.1 (fun a0=>ip a0 x38) call182 (fun a0 r h=>sQ a0 x38 r h) _ h41
   obtain⟨_,q41_0,H⟩:=am H
   have l41_0:=(bG q41_0).1;have z41_0:(List.map (ap 58 af) s2.1).length=(List.map (ap 58 af) x41.2).length:=by simpa using(l41_0).symm
   refine bB (g:=180) Z Z Z call180 [] [(25,0)] Z Z Z Z (jt.of2 (jN.cons (pD.own Z) (jN.cons (pD.of_eq Z) jN.nil))) (by rw[bq,aW,bn];rfl) s41 ?_;rintro u41 H41h ⟨rfl,rfl⟩
   refine⟨_,rfl,?_⟩
   refine bS (st':=⟨_,_,upd (fun _=>none) 990 (jV g2.2.1 g2.2.2.2 (List.map (List.map (ap 58 af)) s2.2) g2.2.2.1),fK 46 g2.2.2.2 (List.map (List.map (ap 58 af)) s2.2) (upd (fun _=>none) 25 (some ⟨g2.1,46,(x41.2.map (ap 58 af)),true⟩))⟩) (Gh.le (bs _ _) (lY Z aw) (lx (fun i rs h=>by first|exact fp h|(simp only[nF,iH,jl,Nat.reduceLT];exact fp h)) (aD ax))) ?_;refine ai tk Z (ac (aa (ak 2 tk Z ?_)));refine ee (γ:=OwnRef×(Nat×Nat×(Nat->OwnRef))) (fun t7 g7=>⟨98,upd (upd (upd (upd (upd (upd (upd (upd (upd (upd (fun _=>.any) 29 (ah (j2:Int))) 28 (ah (inA.length:Int))) 27 (.list 46 (inA.map (ap 58 af)))) 14 (ah t7.2.2)) 12 (.list 58 (x2.map af))) 10 (.val (ke g7.2.1 t7.2.1.length g7.2.2.1))) 9 (.own 25 g7.1 (t7.1.map (ap 58 af)).length)) 5 (.ptr (bg q))) 4 (.ptr (eP rA))) 2 (.list 53 (cols.map aB)),upd (fun _=>none) 990 (jV g7.2.1 g7.2.2.2 (List.map (List.map (ap 58 af)) t7.2.1) g7.2.2.1),fK 46 g7.2.2.2 (List.map (List.map (ap 58 af)) t7.2.1) (upd (fun _=>none) 25 (some ⟨g7.1,46,(t7.1.map (ap 58 af)),true⟩))⟩) H (fun _ H=>?_) (fun t7 g7 H=>?_)
   ·refine aF Z H (fun H=>?_) (fun H=>?_)
    ·refine aa (ab (ai tk Z (eg tk (z41_0.trans (zl _)) ?_)));refine ai tk Z (ac (ab (ag 2 tk Z (cy tk (rows':=List.map (ap 58 af) ([x38]:Rz)) (gP.refl _) ?_))))
     obtain⟨x49,h49,H⟩:=am H
     have k49:=cj h49;refine cv (rows2':=List.map (ap 58 af) ([x38]:Rz)) (rows':=List.map (ap 58 af) x49) tk Z Z Z Z Z Z Z Z Z Z Z z41_0 Z (gP.refl _) (cU k49.1) (cW k49.2.1) (cV k49.2.2) fun g49=>?_
     refine ai tk Z (sW tk Z Z Z Z Z Z ?_)
     obtain⟨x52,h52,H⟩:=am H
     have k52:=cj h52;refine bS (st':=⟨_,_,upd (fun _=>none) 990 (jV g2.2.1 g2.2.2.2 (List.map (List.map (ap 58 af)) s2.2) g2.2.2.1),fK 46 g2.2.2.2 (List.map (List.map (ap 58 af)) s2.2) (upd (fun _=>none) 25 (some ⟨g49,46,(x49.map (ap 58 af)),true⟩))⟩) (Gh.le (bs _ _) (lY Z aw) (lx (fun i rs h=>by first|exact fp h|(simp only[nF,iH,jl,Nat.reduceLT];exact fp h)) (aD ax))) ?_;refine vv 990 46 tk Z Z Z Z Z Z Z Z Z Z Z (zl _).symm Z Z (by rw[zl];exact k52.1) (by rw[zl];exact k52.2.1) fun bf52 cf52=>?_
     have hz52:List.map (List.map (ap 58 af)) x52=List.map (List.map (ap 58 af)) s2.2++[[]]:=by rw[k52.2.2,List.map_append];rfl
     refine bS (st':=⟨_,_,upd (fun _=>none) 990 (jV bf52 (upd g2.2.2.2 s2.2.length ⟨none,0⟩) (List.map (List.map (ap 58 af)) x52) cf52),fK 46 (upd g2.2.2.2 s2.2.length ⟨none,0⟩) (List.map (List.map (ap 58 af)) x52) (upd (fun _=>none) 25 (some ⟨g49,46,(x49.map (ap 58 af)),true⟩))⟩) (Gh.le (bs _ _) (lY (by rw[hz52];rfl) aw) (lx (fun i rs h=>by rw[hz52]at h;exact fp h) (aD ax))) ?_;refine je 52 (q:=(.val (ke bf52 x52.length cf52))) Z (PLe.q (by rw[k52.2.2,List.length_append];rfl)) ?_;refine ag 2 tk Z (ac ?_);refine aP _ (g49,(bf52,cf52,(upd g2.2.2.2 s2.2.length ⟨none,0⟩))) (aq H) (Gh.le (ao (ao (ao (ao (ao (ao (ao (ao (ao (ao aL)))))))))) (lY Z aw) (lx (fun i rs h=>by first|exact fp h|(simp only[nF,iH,jl,Nat.reduceLT];exact fp h)) (aD ax)))
    refine al ?_;refine aP _ (g2.1,(g2.2.1,g2.2.2.1,g2.2.2.2)) (aq H) (Gh.le (ao (ao (ao (bp (PLe.of2 (pD.of_eq (congrArg (PV.own 25 g2.1) z41_0))) (ao (ao (ao (ao (ao (ao aL)))))))))) (lY Z aw) (lx (fun i rs h=>by first|exact fp h|(simp only[nF,iH,jl,Nat.reduceLT];exact fp h)) (aD ax)))
   refine ab (ag 4 tk Z ?_)
   obtain⟨x57,k57,H⟩:=aV H
   have wk57:(List.map (List.map (ap 58 af)) t7.2.1)[t7.2.2.toNat]? =some (List.map (ap 58 af) x57):=by rw[List.getElem?_map,k57.2];rfl
   refine uW 990 tk Z Z Z Z Z Z Z Z ⟨k57.1,(zg.1 k57.2).1⟩ Z ?_;refine vG (hok:=rz _ _ _) tk Z Z Z Z Z (tl wk57) (famCells_get wk57) Z (ai tk Z (cy tk (rows':=List.map (ap 58 af) ([x2]:Rz)) (gP.refl _) ?_))
   obtain⟨x61,h61,H⟩:=am H
   have k61:=cj h61;refine cv (rows2':=List.map (ap 58 af) ([x2]:Rz)) (rows':=List.map (ap 58 af) x61) tk Z Z Z Z Z Z Z Z Z Z (fp wk57) Z Z (gP.refl _) (cU k61.1) (cW k61.2.1) (cV k61.2.2) fun g61=>?_
   obtain⟨x62,k62,H⟩:=aV H
   have wk62:(List.map (List.map (ap 58 af)) t7.2.1)[t7.2.2.toNat]? =some (List.map (ap 58 af) x62):=by rw[List.getElem?_map,k62.2];rfl
   refine uW 990 tk Z Z Z Z Z Z Z Z ⟨k62.1,(zg.1 k62.2).1⟩ Z ?_
   obtain⟨y8,hy8,H⟩:=bF H
   have hzy8:List.map (List.map (ap 58 af)) y8=(List.map (List.map (ap 58 af)) t7.2.1).set t7.2.2.toNat (List.map (ap 58 af) x61):=by rw[<-hy8,List.map_set]
   have hly8:y8.length=t7.2.1.length:=by rw[<-hy8,List.length_set]
   refine vw (hok:=rz _ _ _) tk Z Z Z Z Z Z (tl wk62) Z Z (by rw[qe];exact Nat.lt_of_lt_of_le (zg.1 wk62).1 (kQ _ _)) (famCells_set wk62 _) ?_;refine bS (st':=⟨_,_,upd (fun _=>none) 990 (jV g7.2.1 (upd g7.2.2.2 t7.2.2.toNat g61) (List.map (List.map (ap 58 af)) y8) g7.2.2.1),fK 46 (upd g7.2.2.2 t7.2.2.toNat g61) (List.map (List.map (ap 58 af)) y8) (upd (fun _=>none) 25 (some ⟨g7.1,46,(t7.1.map (ap 58 af)),true⟩))⟩) (Gh.le (bs _ _) (lY (famB_put wk62 hzy8) aw) (lx (famO_put wk62 hzy8) (vD (by rw[gk _ _ (by unfold bX;omega)];rfl) ax))) ?_;refine je 10 (q:=(.val (ke g7.2.1 y8.length g7.2.2.1))) Z (PLe.q (by rw[hly8];rfl)) ?_;refine je 53 (q:=(.val (ke g7.2.1 y8.length g7.2.2.1))) Z (PLe.q (by rw[hly8];rfl)) ?_;refine je 55 (q:=(.val (ke g7.2.1 y8.length g7.2.2.1))) Z (PLe.q (by rw[hly8];rfl)) ?_;refine ac (aM (bc 2 tk Z ?_));exact bv (g7.1,(g7.2.1,g7.2.2.1,(upd g7.2.2.2 t7.2.2.toNat g61))) H hl2 hg2 (Gh.le (ao (ao (ao (ao (ao (ao (ao (bp (PLe.q (fB (by omega))) aL)))))))) (lY Z aw) (lx (fun i rs h=>by first|exact fp h|(simp only[nF,iH,jl,Nat.reduceLT];exact fp h)) (aD ax)))
  have hn2:=rMd (pf h) hr2;refine bj Z ?_;refine aP s2 g2 hn2 (Gh.le (ao (ao (ao (ao (ao aL))))) (lY Z aw) (lx (fun i rs h=>by first|exact fp h|(simp only[nF,iH,jl,Nat.reduceLT];exact fp h)) (aD ax)))
 have H:=ci hn2 Hp2;refine ak 1 tk Z (aa (aa (ab (ai tk Z (eg tk (zl _) ?_)))));refine ai tk Z (ac ?_)
 obtain⟨_,hf9,H⟩:=am H
 have kf9:=(bG hf9).1;refine vh 10 990 tk (e:=46) (e':=67) (rows:=List.map (ap 46 (ap 58 af)) s2.2) Z Z Z (zl _).symm Z (by rw[zl];exact kf9) (by rw[zl];unfold maxLen;omega) (by rw[List.map_map];rfl) ?_
 obtain⟨n10,hs10,H⟩:=am H
 have hz10:=mY hs10
 obtain⟨fl10,H10,Hp10⟩:=am H
 refine dj (τ:=Rz) (γ:=OwnRef) (fun s10 g10=>⟨98,upd (fun _=>.any) 15 (.own 95 g10 (s10.map (ap 58 af)).length),fun _=>none,upd (fun _=>none) 95 (some ⟨g10,46,(s10.map (ap 58 af)),true⟩)⟩) (fun t=>fl10= .next t) ?_ (fun s10 g10 hn10=>?_)
 ·refine av (hZ tk 15 95 (e:=46) Z Z ?_);refine iU (fun j10 s10 g10=>⟨98,upd (upd (upd (upd (upd (upd (upd (upd (fun _=>.any) 66 (ah (j10:Int))) 65 (ah (s2.1.length:Int))) 64 (.own 25 g2.1 (s2.1.map (ap 58 af)).length)) 15 (.own 95 g10 (s10.map (ap 58 af)).length)) 10 (.list 67 (s2.2.map (ap 46 (ap 58 af))))) 5 (.ptr (bg q))) 4 (.ptr (eP rA))) 2 (.list 53 (cols.map aB)),fun _=>none,upd (upd (fun _=>none) 95 (some ⟨g10,46,(s10.map (ap 58 af)),true⟩)) 25 (some ⟨g2.1,46,(s2.1.map (ap 58 af)),true⟩)⟩) (⟨none,0⟩) H10 Gh.d (fun j10 s10 g10 hj10 hr10=>?_);refine ak 1 tk Z (aa ?_);refine bJ Z (fun h=>?_) (fun h=>?_)
  ·have hl10:=natLt hz10 h
   obtain⟨x10,fb10,hx10,H,hg10⟩:=rMc hl10 hr10
   obtain rfl:=natX hx10;refine al (aa (av (aa (ab (ai tk Z ?_)))))
   obtain⟨x69,k69,H⟩:=aV H
   refine jJ (tag:=25) Z (fun ho25=>?_);refine iV tk ⟨k69.1,(bh k69.2)⟩ (bf ho25 k69.2) ?_;refine lJ tk (aC (fun _=>Z) k69.2) ?_;refine ag 2 tk Z (ac (aa (ab (ai tk Z ?_))));have s72:=qp (m:=72) x69;refine jj call49 (jt.r) s72 (fun g72=>?_);refine ai tk Z (ac (aa (aa (ab (ag 2 tk Z (aI tk (zl _) ?_))))));refine ai tk Z (ac ?_);refine gc (γ:=OwnRef) tk 76 75 74 (fun s13 g13=>upd (upd (upd (upd (upd (upd (upd (upd (upd (upd (fun _=>.any) 66 (ah (j10:Int))) 65 (ah (s2.1.length:Int))) 64 (.own 25 g2.1 (s2.1.map (ap 58 af)).length)) 18 (.own 72 g13 (s13.map af).length)) 16 (ah (j10:Int))) 15 (.own 95 g10 (s10.map (ap 58 af)).length)) 10 (.list 67 (s2.2.map (ap 46 (ap 58 af))))) 5 (.ptr (bg q))) 4 (.ptr (eP rA))) 2 (.list 53 (cols.map aB))) nB (fun s13 g13=>upd (upd (upd (fun _=>none) 95 (some ⟨g10,46,(s10.map (ap 58 af)),true⟩)) 72 (some ⟨g13,58,(s13.map af),true⟩)) 25 (some ⟨g2.1,46,(s2.1.map (ap 58 af)),true⟩)) g72 H (fun fl13 Hp13 j13 s13 g13 hz13 hl13 x13 fb13 hx13 H hg13=>?_) (fun s13 g13 H=>?_)
   ·refine aa (av (aa (ab ?_)));refine be tk (zn j13) (bA (fun _=>Z) hx13) ?_;refine ai tk Z ?_;refine bm tk fun b20=>?_
    refine ay tk ?_;refine ac ?_;refine cA (tag:=25) Z (fun ho25=>?_);refine cA (tag:=72) Z (fun ho72=>?_);refine cA (tag:=95) Z (fun ho95=>?_);refine aX tk mok ⟨true,false,[81,87]⟩ [0,1,2,3,4,5,6,7,8,9,10,11] Z (by decide+kernel) Z (az 2 Z (bd ?_));refine az 3 Z ?_
    obtain⟨x86,k86,H⟩:=aV H
    refine bE k86.1 (aC (fun _=>Z) k86.2) ?_;refine bw Z ?_
    obtain⟨x88,h88,H⟩:=am H
    have s88:=uL rA x13 cols x86 _ h88;refine aS call183 (jt.r) s88 ?_;refine bw Z ?_
    obtain⟨x90,h90,H⟩:=am H
    have k90:=cj h90;refine gz (rows2':=List.map af ([x88]:Rq)) (rows':=List.map af x90) tk Z Z Z Z Z Z Z Z Z Z Z Z Z Z (gP.refl _) (cU k90.1) (cW k90.2.1) (cV k90.2.2) fun g90=>?_
    refine bw Z (aQ (aM (bc 2 tk Z ?_)));exact bv g90 H hl13 hg13
   refine cT 18 Z Z Z (ab (ag 2 tk Z (cy tk (rows':=List.map (ap 58 af) ([s13]:Rz)) (gP.refl _) ?_)))
   obtain⟨x95,h95,H⟩:=am H
   have k95:=cj h95;refine cv (rows2':=List.map (ap 58 af) ([s13]:Rz)) (rows':=List.map (ap 58 af) x95) tk Z Z Z Z Z Z Z Z Z Z Z Z Z (gP.refl _) (cU k95.1) (cW k95.2.1) (cV k95.2.2) fun g95=>?_
   refine ai tk Z (ac (aM (bc 2 tk Z ?_)));exact bv g95 H hl10 hg10 (Gh.le (ao (ao (ao (ao (ao (ao (ao (bp (PLe.q (nT hz10 hl10)) aL)))))))) aw (aD (aD ax)))
  have hn10:=rMd (natGe hz10 h) hr10;refine bj Z ?_;refine aP s10 g10 hn10 Gh.d
 have H:=ci hn10 Hp10;refine ak 2 tk Z (cT 8 Z Z Z ?_);exact bi tk H Z
def gR(a:Rq)(b:Rq)(c0:LRun)(c1:List LCol)(c2:LQuery):Option (Int):=
 ae (eB c0 c1 a c2.exprs) fun x13=>
 ae (eB c0 c1 b c2.exprs) fun x19=>
 ae (js x13 x19 c2.descending) fun x22=>
 some x22
theorem tw(a:Rq)(b:Rq)(c0:LRun)(c1:List LCol)(c2:LQuery)(r:Int)(H:gR a b c0 c1 c2=some r):
  aY prog 185 [(.list 58 (a.map af)),(.list 58 (b.map af)),(.ptr (eP c0)),(.ptr [(.list 53 (c1.map aB))]),(.ptr (bg c2))] (ah r):=by
 unfold gR at H;refine PH.au func185 ntmps185 ?_;refine ak 1 tk Z (aa (aX tk mok ⟨false,false,[]⟩ [0,1,2,3,4,6,7,8,9,10,12,13,5,11,14,15] Z (by decide+kernel) Z (az 12 Z ?_)))
 obtain⟨x13,h13,H⟩:=am H
 have s13:=lk c0 c1 a c2.exprs _ h13;refine aS call163 (jt.r) s13 ?_
 obtain⟨x19,h19,H⟩:=am H
 have s19:=lk c0 c1 b c2.exprs _ h19;refine aS call163 (jt.r) s19 ?_
 obtain⟨x22,h22,H⟩:=am H
 have s22:=sU x13 x19 c2.descending _ h22;refine aS call186 (jt.r) s22 ?_;refine bw Z (aQ ?_);exact bi tk H Z
def gw(sA:LSchema):Option (Int):=
 letP (
  cond (decide ((sA.tables.length:Int)>(6:Int)))
   (true)
   (cond (decide ((sA.foreignKeys.length:Int)>(8:Int)))
    (true)
    ((decide ((sA.constraints.length:Int)>(8:Int)))))) fun(t1:Bool)=>
 cond t1
  (some 2)
  (ae (aU (σ:=Unit) (ρ:=(Int)) (fun(j2:Nat) (x2:LTable) (_:Unit)=>
   ae (gp x2) fun x37=>
   cond (x37 !=(0:Int))
    (some (.ret x37))
    (cond (decide ((j2:Int)>(0:Int)))
     (ae (aG sA.tables (iw ((j2:Int)-(1:Int)))) fun(x50:LTable)=>
     cond (Op.bytesLess x2.name x50.name||x2.name==x50.name)
      (some (.ret 6))
      (some (.next ())))
     (some (.next ())))) 0 sA.tables ()) fun fl2=>fl2.thenR fun(_:Unit)=>
  ae (aU (σ:=Unit) (ρ:=(Int)) (fun(j3:Nat) (x3:LForeignKey) (_:Unit)=>
   ae (fP sA x3) fun x66=>
   cond (x66 !=(0:Int))
    (some (.ret x66))
    (ae (nZ sA.foreignKeys 0 (j3:Int)) fun(x73:List LForeignKey)=>
    ae (cJ x73 (fun a0=>iq a0 x3)) fun x75=>
    cond x75
     (some (.ret 5))
     (some (.next ())))) 0 sA.foreignKeys ()) fun fl3=>fl3.thenR fun(_:Unit)=>
  ae (aU (σ:=Unit) (ρ:=(Int)) (fun(j4:Nat) (x4:LConstraint) (_:Unit)=>
   ae (fQ sA x4) fun x87=>
   cond (x87 !=(0:Int))
    (some (.ret x87))
    (ae (nZ sA.constraints 0 (j4:Int)) fun(x94:List LConstraint)=>
    ae (cY x94 x4) fun x96=>
    cond x96
     (some (.ret 5))
     (some (.next ())))) 0 sA.constraints ()) fun fl4=>fl4.thenR fun(_:Unit)=>
  some 0)
theorem pF(sA:LSchema)(r:Int)(H:gw sA=some r):
  aY prog 16 [(.agg (da sA))] (ah r):=by
 unfold gw at H;refine PH.au func16 ntmps16 ?_;refine aa (ab (aO ?_));refine ai tk Z (ac (aa (aa ?_)));refine ed (γ:=Unit) (fun t1 g1=>⟨98,upd (upd (fun _=>.any) 27 (aK t1)) 1 (.ptr (da sA)),fun _=>none,fun _=>none⟩) H (fun _ H=>?_) (fun t1 g1 H=>?_)
 ·refine ab (ag 2 tk Z (aI tk (zl _) ?_));refine ag 2 tk Z ?_;refine bu Z Z Z H (fun H=>?_) (fun H=>?_)
  ·refine ag 11 tk Z (ac ?_);refine aP _ () H Gh.d
  refine ag 2 tk Z (aI tk (zl _) ?_);refine ag 3 tk Z ?_;refine bu Z Z Z H (fun H=>?_) (fun H=>?_)
  ·refine ag 5 tk Z (ac ?_);refine aP _ () H Gh.d
  refine ag 2 tk Z (aI tk (zl _) ?_);refine ag 2 tk Z (ac ?_);refine aP _ () H Gh.d
 refine aF Z H (fun H=>?_) (fun H=>?_)
 ·refine ak 1 tk Z ?_;exact bi tk H Z
 refine al (aa (aa (ab (ag 2 tk Z (aI tk (zl _) ?_)))));refine ai tk Z (ac ?_);refine ff tk 31 30 29 (fun s2 g2=>upd (fun _=>.any) 1 (.ptr (da sA))) nB nO () H (fun fl2 Hp2 j2 s2 g2 hz2 hl2 x2 fb2 hx2 H hg2=>?_) (fun s2 g2 H=>?_)
 ·refine aa (av (aa (ab (ai tk Z ?_))));refine be tk (zn j2) (bA (fun _=>Z) hx2) ?_;refine ai tk Z ?_;refine bm tk fun b4=>?_
  refine ai tk Z (ay tk ?_);refine ac (aa (aa (ab (aJ tk ?_))))
  obtain⟨x37,h37,H⟩:=am H
  have s37:=qY x2 _ h37;refine aj call32 (jt.r) s37 ?_;refine ai tk Z (ac (ak 2 tk Z ?_));refine aF Z H (fun H=>?_) (fun H=>?_)
  ·refine ak 2 tk Z ?_;obtain rfl:=aq H;have e2:fl2= .ret _:=hg2;subst e2;obtain rfl:=aZ Hp2;refine bl tk Z (ps:=[(ah x37)]) ⟨_,_,rfl,rfl,rfl⟩ (PLe.q Z)
  refine al (aa (aX tk mok ⟨true,false,[47,52]⟩ [0,1,2,3,4,5,6,7,8,9,10,11,12,13] Z (by decide+kernel) Z (az 3 Z ?_)));refine gi H (fun H=>?_) (fun H=>?_)
  ·refine bw Z (bd ?_);refine az 4 Z ?_
   obtain⟨x50,k50,H⟩:=aV H
   refine bE k50.1 (aC (fun _=>Z) k50.2) ?_;refine az 4 Z (aQ ?_);refine aF Z H (fun H=>?_) (fun H=>?_)
   ·refine ak 1 tk Z ?_;obtain rfl:=aq H;have e2:fl2= .ret _:=hg2;subst e2;obtain rfl:=aZ Hp2;refine bl tk Z (ps:=[(ah 6)]) ⟨_,_,rfl,rfl,rfl⟩ (PLe.q Z)
   refine al (aM (bc 2 tk Z ?_));exact bv () H hl2 hg2
  refine az 11 Z (aQ (bH Z (al (aM (bc 2 tk Z ?_)))));exact bv () H hl2 hg2
 refine aa (aa (ab (ag 2 tk Z (aI tk (zl _) ?_))));refine ai tk Z (ac ?_);refine ff tk 59 58 57 (fun s3 g3=>upd (fun _=>.any) 1 (.ptr (da sA))) nB nO () H (fun fl3 Hp3 j3 s3 g3 hz3 hl3 x3 fb3 hx3 H hg3=>?_) (fun s3 g3 H=>?_)
 ·refine aa (av (aa (ab (ai tk Z ?_))));refine be tk (zn j3) (bA (fun _=>Z) hx3) ?_;refine ai tk Z ?_;refine bm tk fun b7=>?_
  refine ai tk Z (ay tk ?_);refine ac (aa (aa (ab (ai tk Z (aJ tk ?_)))))
  obtain⟨x66,h66,H⟩:=am H
  have s66:=pi sA x3 _ h66;refine aj call33 (jt.r) s66 ?_;refine ai tk Z (ac (ak 2 tk Z ?_));refine aF Z H (fun H=>?_) (fun H=>?_)
  ·refine ak 2 tk Z ?_;obtain rfl:=aq H;have e3:fl3= .ret _:=hg3;subst e3;obtain rfl:=aZ Hp3;refine bl tk Z (ps:=[(ah x66)]) ⟨_,_,rfl,rfl,rfl⟩ (PLe.q Z)
  refine al (aa (ab (ag 3 tk Z ?_)))
  obtain⟨x73,h73,H⟩:=am H
  have k73:=nz h73;refine uU tk Z Z Z Z Z (zl _) Z Z k73.1 (oz k73.2) Z (bS (Gh.freezeB 7 Z Z Z Z) (ai tk Z ?_))
  obtain⟨x75,h75,H⟩:=am H
  have s75:=jP x73 (fun a0=>iq a0 x3) call35 (fun a0 r h=>sP a0 x3 r h) _ h75;refine aj call34 (jt.r) s75 ?_;refine ac ?_;refine aF Z H (fun H=>?_) (fun H=>?_)
  ·refine ak 1 tk Z ?_;obtain rfl:=aq H;have e3:fl3= .ret _:=hg3;subst e3;obtain rfl:=aZ Hp3;refine bl tk Z (ps:=[(ah 5)]) ⟨_,_,rfl,rfl,rfl⟩ (PLe.q Z)
  refine al (aM (bc 2 tk Z ?_));exact bv () H hl3 hg3
 refine aa (aa (ab (ag 2 tk Z (aI tk (zl _) ?_))));refine ai tk Z (ac ?_);refine ff tk 80 79 78 (fun s4 g4=>upd (fun _=>.any) 1 (.ptr (da sA))) nB nO () H (fun fl4 Hp4 j4 s4 g4 hz4 hl4 x4 fb4 hx4 H hg4=>?_) (fun s4 g4 H=>?_)
 ·refine aa (av (aa (ab (ai tk Z ?_))));refine be tk (zn j4) (bA (fun _=>Z) hx4) ?_;refine ai tk Z ?_;refine bm tk fun b10=>?_
  refine ai tk Z (ay tk ?_);refine ac (aa (aa (ab (ai tk Z (aJ tk ?_)))))
  obtain⟨x87,h87,H⟩:=am H
  have s87:=pz sA x4 _ h87;refine aj call37 (jt.r) s87 ?_;refine ai tk Z (ac (ak 2 tk Z ?_));refine aF Z H (fun H=>?_) (fun H=>?_)
  ·refine ak 2 tk Z ?_;obtain rfl:=aq H;have e4:fl4= .ret _:=hg4;subst e4;obtain rfl:=aZ Hp4;refine bl tk Z (ps:=[(ah x87)]) ⟨_,_,rfl,rfl,rfl⟩ (PLe.q Z)
  refine al (aa (aX tk mok ⟨true,false,[92]⟩ [0,1,2,3,4,5] Z (by decide+kernel) Z (az 3 Z ?_)))
  obtain⟨x94,h94,H⟩:=am H
  have k94:=nz h94;refine uR Z Z Z Z Z Z (zl _) Z Z k94.1 (oz k94.2) Z (bd ?_)
  obtain⟨x96,h96,H⟩:=am H
  have s96:=ky x94 x4 _ h96;refine aS call38 (jt.r) s96 ?_;refine aQ ?_;refine aF Z H (fun H=>?_) (fun H=>?_)
  ·refine ak 1 tk Z ?_;obtain rfl:=aq H;have e4:fl4= .ret _:=hg4;subst e4;obtain rfl:=aZ Hp4;refine bl tk Z (ps:=[(ah 5)]) ⟨_,_,rfl,rfl,rfl⟩ (PLe.q Z)
  refine al (aM (bc 2 tk Z ?_));exact bv () H hl4 hg4
 refine ak 1 tk Z ?_;exact bi tk H Z
def jg(t:LTable)(rows:Rz)(row:Rq):Option Rz:=
 ae (iE rows) fun x11=>
 ae (dA t row) fun x19=>
 ae (jd t x11 x19) fun x20=>
 ae (cF (x20.2.2.length=x11.length) ()) fun(_:Unit)=>
 cond x20.2.1
  (ae (aG x20.2.2 x20.1) fun(_:Rq)=>
  letP (x20.2.2.set x20.1.toNat row) fun(y:Rz)=>
  some y)
  (insI x20.2.2 x20.1 row)
theorem ub(t:LTable)(rows:Rz)(row:Rq)(r:Rz)(H:jg t rows row=some r):
  aY prog 25 [(.agg (bM t)),(.list 46 (rows.map (ap 58 af))),(.list 58 (row.map af))] (.list 46 (r.map (ap 58 af))):=by
 unfold jg at H;refine PH.au func25 ntmps25 ?_;refine aa (ab (aO ?_));refine ai tk Z (ac (aa (ab (ai tk Z ?_))))
 obtain⟨x11,h11,H⟩:=am H
 have s11:=np (m:=11) rows _ h11;refine jj call45 (jt.r) s11 (fun g11=>?_);refine ai tk Z (ac (aa (ab (ai tk Z ?_))));have s13:=qp (m:=13) row;refine jj call49 (jt.r) s13 (fun g13=>?_);refine ai tk Z (ac (cT 2 Z Z Z (aa (aX tk mok ⟨false,false,[]⟩ [0,1,2,3,4,5,6,7,8,9,10] Z (by decide+kernel) Z (az 4 Z ?_)))))
 obtain⟨x19,h19,H⟩:=am H
 have s19:=mP t row _ h19;refine aS call41 (jt.r) s19 ?_
 obtain⟨x20,h20,H⟩:=am H
 have s20:=pG g11 t x11 x19 _ h20
 obtain⟨_,q20,H⟩:=am H
 have l20:=(bG q20).1;have z20:(List.map (ap 58 af) x11).length=(List.map (ap 58 af) x20.2.2).length:=by simpa using l20.symm
 refine uG (g:=50) Z Z Z Z call50 Z [(11,1)] Z Z (jt.of2 (jN.cons (pD.of_eq Z) (jN.cons (pD.own Z) (jN.cons (pD.of_eq Z) jN.nil)))) (by rw[aW,bn];rfl) s20 ?_;rintro u20 H20h ⟨rfl,rfl⟩
 refine⟨(.tup [(ah x20.1),(aK x20.2.1)]),_,PLe.refl _ _,rfl,?_⟩
 refine az 5 Z (aQ ?_);refine bZ (st':=⟨34,upd (upd (upd (upd (upd (fun _=>.any) 9 (aK x20.2.1)) 8 (ah x20.1)) 7 (.own 11 g11 (x20.2.2.map (ap 58 af)).length)) 2 (.list 58 (row.map af))) 3 (.ptr (bM t)),fun _=>none,upd (fun _=>none) 11 (some ⟨g11,46,(x20.2.2.map (ap 58 af)),true⟩)⟩) (Gh.le (ao (ao (bp (PLe.of2 (pD.own z20)) (ao (ao aL))))) aw (aD ax)) ?_;refine aa (ak 1 tk Z ?_);refine aF Z H (fun H=>?_) (fun H=>?_)
 ·refine cA (tag:=11) Z (fun ho=>?_);refine aa (ab (ag 3 tk Z ?_))
  obtain⟨x27,k27,H⟩:=aV H
  refine iV tk ⟨k27.1,(bh k27.2)⟩ (bf ho k27.2) ?_
  obtain⟨y,hy,H⟩:=bF H
  refine mA tk Z Z Z Z Z Z Z Z (by rw[zl];exact(zg.1 k27.2).1) (PLe.refl _ _) Z Z Z Z (by decide) (bD (fun _=>Z) k27.2 Z hy) ?_;refine ac (ak 2 tk Z ?_);have hly:(List.map (ap 58 af) x20.2.2).length=(List.map (ap 58 af) y).length:=by rw[<-hy];simp
  refine cT 6 Z Z hly ?_;exact bi tk H Z
 refine al ?_
 obtain⟨⟨hi0,hi1,hi2⟩,rfl⟩:=insI_some H
 have ei:x20.1=(x20.1.toNat:Int):=by omega
 refine aa (ab (ag 3 tk Z ?_));refine oA (rows':=[ap 58 af row]) tk Z Z Z Z Z Z Z Z Z (jN.refl _) fun g32=>?_
 have s33:=insert_row (m:=1) (rows:=x20.2.2.map (ap 58 af)) (g1:=g11) (g2:=g32) (r:=ap 58 af row) (i:=x20.1.toNat) (by rw[zl];omega) (by rw[zl];omega) (by rw[zl];unfold maxLen;omega) Z;rw[<-ei]at s33;refine bB (g:=51) Z Z Z call51 [] [(32,2),(11,1)] Z Z Z Z (jt.of2 (jN.cons (pD.own Z) (jN.cons (pD.of_eq Z) (jN.cons (pD.own Z) jN.nil)))) (by rw[bq,aW,aW,bn];rfl) s33 ?_;rintro u33 H33h ⟨g33,rfl,rfl⟩
 refine⟨_,rfl,?_⟩
 refine bS (st':=⟨_,_,fun _=>none,upd (fun _=>none) 11 (some ⟨g33,46,(x20.2.2.map (ap 58 af)).take x20.1.toNat++ap 58 af row::(x20.2.2.map (ap 58 af)).drop x20.1.toNat,true⟩)⟩) (Gh.le (bs _ _) aw (aD ax)) ?_;refine je 33 (q:=(.own 11 g33 ((x20.2.2.map (ap 58 af)).take x20.1.toNat++ap 58 af row::(x20.2.2.map (ap 58 af)).drop x20.1.toNat).length)) Z (PLe.of2 (pD.own Z)) (ai tk Z (ac (cT 6 Z Z Z ?_)));refine dY tk (PLe.q ?_);rw[List.map_append,List.map_cons,List.map_take,List.map_drop]
def jb(t:LTable)(rows:Rz)(key:Rq):Option (Rz×Bool):=
 ae (iE rows) fun x12=>
 ae (jd t x12 key) fun x17=>
 ae (cF (x17.2.2.length=x12.length) ()) fun(_:Unit)=>
 cond (!x17.2.1)
  (some (x17.2.2,false))
  (ae (nN x17.2.2 x17.1 (iw (x17.1+(1:Int)))) fun x27=>
  some (x27,true))
theorem um(t:LTable)(rows:Rz)(key:Rq)(r:Rz×Bool)(H:jb t rows key=some r):
  aY prog 26 [(.agg (bM t)),(.list 46 (rows.map (ap 58 af))),(.list 58 (key.map af))] (.tup [(.list 46 (r.1.map (ap 58 af))),(aK r.2)]):=by
 unfold jb at H;refine PH.au func26 ntmps26 ?_;refine aa (ab (aO ?_));refine ag 2 tk Z (ac (aa (ab (ai tk Z ?_))))
 obtain⟨x12,h12,H⟩:=am H
 have s12:=np (m:=12) rows _ h12;refine jj call45 (jt.r) s12 (fun g12=>?_);refine ai tk Z (ac (aa (ab (ag 3 tk Z ?_))))
 obtain⟨x17,h17,H⟩:=am H
 have s17:=pG g12 t x12 key _ h17
 obtain⟨_,q17_0,H⟩:=am H
 have l17_0:=(bG q17_0).1;have z17_0:(List.map (ap 58 af) x12).length=(List.map (ap 58 af) x17.2.2).length:=by simpa using(l17_0).symm
 refine bB (g:=50) Z Z Z call50 [] [(12,1)] Z Z Z Z (jt.of2 (jN.cons (pD.of_eq Z) (jN.cons (pD.own Z) (jN.cons (pD.of_eq Z) jN.nil)))) (by rw[bq,aW,bn];rfl) s17 ?_;rintro u17 H17h ⟨rfl,rfl⟩
 refine⟨_,rfl,?_⟩
 refine bS (st':=⟨_,_,fun _=>none,upd (fun _=>none) 12 (some ⟨g12,46,(x17.2.2.map (ap 58 af)),true⟩)⟩) (Gh.le (bs _ _) aw (aD ax)) ?_;refine ag 5 tk Z (ac (aa (ak 2 tk Z ?_)));refine aF Z H (fun H=>?_) (fun H=>?_)
 ·refine ak 3 tk Z (cT 6 Z Z z17_0 ?_);exact bi tk H Z
 refine al (aa (ab (ag 4 tk Z ?_)))
 obtain⟨x27,h27,H⟩:=am H
 have s27:=uC g12 x17.2.2 x17.1 (iw (x17.1+(1:Int))) _ h27;refine bB (g:=52) Z Z Z call52 [] [(12,0)] Z Z Z Z (jt.of2 (jN.cons (pD.own z17_0) (jN.cons (pD.of_eq Z) (jN.cons (pD.of_eq Z) jN.nil)))) (by rw[bq,aW,bn];rfl) s27 ?_;rintro u27 H27h ⟨rfl,rfl⟩
 refine⟨_,rfl,?_⟩
 refine bS (st':=⟨_,_,fun _=>none,upd (fun _=>none) 12 (some ⟨g12,46,(x27.map (ap 58 af)),true⟩)⟩) (Gh.le (bs _ _) aw (aD ax)) ?_;refine je 27 (q:=(.own 12 g12 (x27.map (ap 58 af)).length)) Z (PLe.of2 (pD.own Z)) (ag 2 tk Z (ac (cT 6 Z Z Z ?_)));exact bi tk H Z
def ie(data:Rs)(a:Int)(b:Int):Option (Int×Int×Rs):=
 ae (
  cond (decide ((iw (b-a))>=(8:Int)))
   (cond (decide ((iw (b-a))>=(50:Int)))
    (ae (dT data (iw (a+(iw ((iw (Int.tdiv (iw (b-a)) (4:Int)))*(1:Int))))) 0) fun x37=>
    ae (cF (x37.2.1.length=data.length) ()) fun(_:Unit)=>
    ae (dT x37.2.1 (iw (a+(iw ((iw (Int.tdiv (iw (b-a)) (4:Int)))*(2:Int))))) x37.2.2) fun x40=>
    ae (cF (x40.2.1.length=x37.2.1.length) ()) fun(_:Unit)=>
    ae (dT x40.2.1 (iw (a+(iw ((iw (Int.tdiv (iw (b-a)) (4:Int)))*(3:Int))))) x40.2.2) fun x43=>
    ae (cF (x43.2.1.length=x40.2.1.length) ()) fun(_:Unit)=>
    ae (fu x43.2.1 x37.1 x40.1 x43.1 x43.2.2) fun x48=>
    ae (cF (x48.2.1.length=x43.2.1.length) ()) fun(_:Unit)=>
    some (x48.2.1,x48.1,x48.2.2))
    (ae (fu data (iw (a+(iw ((iw (Int.tdiv (iw (b-a)) (4:Int)))*(1:Int))))) (iw (a+(iw ((iw (Int.tdiv (iw (b-a)) (4:Int)))*(2:Int))))) (iw (a+(iw ((iw (Int.tdiv (iw (b-a)) (4:Int)))*(3:Int))))) 0) fun x48=>
    ae (cF (x48.2.1.length=data.length) ()) fun(_:Unit)=>
    some (x48.2.1,x48.1,x48.2.2)))
   (some (data,(iw (a+(iw ((iw (Int.tdiv (iw (b-a)) (4:Int)))*(2:Int))))),0))) fun(t1:Rs×Int×Int)=>
 cond (t1.2.2==(0:Int))
  (some (t1.2.1,1,t1.1))
  (cond (t1.2.2==(12:Int))
   (some (t1.2.1,2,t1.1))
   (some (t1.2.1,0,t1.1)))
theorem mU(g_data:OwnRef)(data:Rs)(a:Int)(b:Int)(r:Int×Int×Rs)(H:ie data a b=some r):
  PH prog 81 [(.own 0 g_data (data.map aA).length),(ah a),(ah b)] ⟨fun _=>none,upd (fun _=>none) 0 (some ⟨g_data,9,(data.map aA),true⟩)⟩ (fun u H=>u=(.tup [(ah r.1),(ah r.2.1)])/\H=⟨fun _=>none,upd (fun _=>none) 0 (some ⟨g_data,9,(r.2.2.map aA),true⟩)⟩):=by
 unfold ie at H;refine PH.au func81 ntmps81 ?_;refine ak 2 tk Z (ak 4 tk Z (aa (ab ?_)));refine bm tk fun b9=>?_
 refine ac (ak 6 tk Z (ak 6 tk Z (ak 6 tk Z (aa (ak 2 tk Z ?_)))));refine ee (γ:=Unit) (fun t1 g1=>⟨57,upd (upd (upd (fun _=>.any) 11 (ah t1.2.1)) 9 (.box 9 b9 0)) 0 (.own 0 g_data (t1.1.map aA).length),upd (fun _=>none) 9 (some ⟨b9,[(ah t1.2.2)]⟩),upd (fun _=>none) 0 (some ⟨g_data,9,(t1.1.map aA),true⟩)⟩) H (fun _ H=>?_) (fun t1 g1 H=>?_)
 ·refine aF Z H (fun H=>?_) (fun H=>?_)
  ·refine aa (ak 2 tk Z ?_);refine aF Z H (fun H=>?_) (fun H=>?_)
   ·refine aa (ab (ag 2 tk Z ?_))
    obtain⟨x37,h37,H⟩:=am H
    have s37:=gD g_data b9 data (iw (a+(iw ((iw (Int.tdiv (iw (b-a)) (4:Int)))*(1:Int))))) 0 _ h37
    obtain⟨_,q37_0,H⟩:=am H
    have l37_0:=(bG q37_0).1;have z37_0:(List.map aA data).length=(List.map aA x37.2.1).length:=by simpa using(l37_0).symm
    refine bB (g:=115) Z Z Z call115 [(9,1502)] [(0,0)] Z Z Z Z (jt.of2 (jN.cons (pD.own Z) (jN.cons (pD.of_eq Z) (jN.cons pD.boxT jN.nil)))) (by rw[cf,bq,aW,bn];rfl) s37 ?_;rintro u37 H37h ⟨rfl,rfl⟩
    refine⟨_,rfl,?_⟩
    refine bS (st':=⟨_,_,upd (fun _=>none) 9 (some ⟨b9,[(ah x37.2.2)]⟩),upd (fun _=>none) 0 (some ⟨g_data,9,(x37.2.1.map aA),true⟩)⟩) (Gh.le (bs _ _) (aR Z (jt.r) aw) (aD ax)) ?_;refine ai tk Z (ac (aa (ab (ag 2 tk Z ?_))))
    obtain⟨x40,h40,H⟩:=am H
    have s40:=gD g_data b9 x37.2.1 (iw (a+(iw ((iw (Int.tdiv (iw (b-a)) (4:Int)))*(2:Int))))) x37.2.2 _ h40
    obtain⟨_,q40_0,H⟩:=am H
    have l40_0:=(bG q40_0).1;have z40_0:(List.map aA x37.2.1).length=(List.map aA x40.2.1).length:=by simpa using(l40_0).symm
    refine bB (g:=115) Z Z Z call115 [(9,1502)] [(0,0)] Z Z Z Z (jt.of2 (jN.cons (pD.own z37_0) (jN.cons (pD.of_eq Z) (jN.cons pD.boxT jN.nil)))) (by rw[cf,bq,aW,bn];rfl) s40 ?_;rintro u40 H40h ⟨rfl,rfl⟩
    refine⟨_,rfl,?_⟩
    refine bS (st':=⟨_,_,upd (fun _=>none) 9 (some ⟨b9,[(ah x40.2.2)]⟩),upd (fun _=>none) 0 (some ⟨g_data,9,(x40.2.1.map aA),true⟩)⟩) (Gh.le (bs _ _) (aR Z (jt.r) aw) (aD ax)) ?_;refine ai tk Z (ac (ab (ag 2 tk Z ?_)))
    obtain⟨x43,h43,H⟩:=am H
    have s43:=gD g_data b9 x40.2.1 (iw (a+(iw ((iw (Int.tdiv (iw (b-a)) (4:Int)))*(3:Int))))) x40.2.2 _ h43
    obtain⟨_,q43_0,H⟩:=am H
    have l43_0:=(bG q43_0).1;have z43_0:(List.map aA x40.2.1).length=(List.map aA x43.2.1).length:=by simpa using(l43_0).symm
    refine bB (g:=115) Z Z Z call115 [(9,1502)] [(0,0)] Z Z Z Z (jt.of2 (jN.cons (pD.own (z37_0.trans z40_0)) (jN.cons (pD.of_eq Z) (jN.cons pD.boxT jN.nil)))) (by rw[cf,bq,aW,bn];rfl) s43 ?_;rintro u43 H43h ⟨rfl,rfl⟩
    refine⟨_,rfl,?_⟩
    refine bS (st':=⟨_,_,upd (fun _=>none) 9 (some ⟨b9,[(ah x43.2.2)]⟩),upd (fun _=>none) 0 (some ⟨g_data,9,(x43.2.1.map aA),true⟩)⟩) (Gh.le (bs _ _) (aR Z (jt.r) aw) (aD ax)) ?_;refine ai tk Z (ac (ab (ag 4 tk Z ?_)))
    obtain⟨x48,h48,H⟩:=am H
    have s48:=jm g_data b9 x43.2.1 x37.1 x40.1 x43.1 x43.2.2 _ h48
    obtain⟨_,q48_0,H⟩:=am H
    have l48_0:=(bG q48_0).1;have z48_0:(List.map aA x43.2.1).length=(List.map aA x48.2.1).length:=by simpa using(l48_0).symm
    refine bB (g:=116) Z Z Z call116 [(9,1504)] [(0,0)] Z Z Z Z (jt.of2 (jN.cons (pD.own ((z37_0.trans z40_0).trans z43_0)) (jN.cons (pD.of_eq Z) (jN.cons (pD.of_eq Z) (jN.cons (pD.of_eq Z) (jN.cons pD.boxT jN.nil)))))) (by rw[cf,bq,aW,bn];rfl) s48 ?_;rintro u48 H48h ⟨rfl,rfl⟩
    refine⟨_,rfl,?_⟩
    refine bS (st':=⟨_,_,upd (fun _=>none) 9 (some ⟨b9,[(ah x48.2.2)]⟩),upd (fun _=>none) 0 (some ⟨g_data,9,(x48.2.1.map aA),true⟩)⟩) (Gh.le (bs _ _) (aR Z (jt.r) aw) (aD ax)) ?_;refine ai tk Z (ac ?_);refine aP _ () (aq H) (Gh.le (bp (PLe.of2 (pD.of_eq (congrArg (PV.own 0 g_data) (((z37_0.trans z40_0).trans z43_0).trans z48_0)))) (ao (ao aL))) (aR Z (jt.r) aw) (aD ax))
   refine al (ab (ag 4 tk Z ?_))
   obtain⟨x48,h48,H⟩:=am H
   have s48:=jm g_data b9 data (iw (a+(iw ((iw (Int.tdiv (iw (b-a)) (4:Int)))*(1:Int))))) (iw (a+(iw ((iw (Int.tdiv (iw (b-a)) (4:Int)))*(2:Int))))) (iw (a+(iw ((iw (Int.tdiv (iw (b-a)) (4:Int)))*(3:Int))))) 0 _ h48
   obtain⟨_,q48_0,H⟩:=am H
   have l48_0:=(bG q48_0).1;have z48_0:(List.map aA data).length=(List.map aA x48.2.1).length:=by simpa using(l48_0).symm
   refine bB (g:=116) Z Z Z call116 [(9,1504)] [(0,0)] Z Z Z Z (jt.of2 (jN.cons (pD.own Z) (jN.cons (pD.of_eq Z) (jN.cons (pD.of_eq Z) (jN.cons (pD.of_eq Z) (jN.cons pD.boxT jN.nil)))))) (by rw[cf,bq,aW,bn];rfl) s48 ?_;rintro u48 H48h ⟨rfl,rfl⟩
   refine⟨_,rfl,?_⟩
   refine bS (st':=⟨_,_,upd (fun _=>none) 9 (some ⟨b9,[(ah x48.2.2)]⟩),upd (fun _=>none) 0 (some ⟨g_data,9,(x48.2.1.map aA),true⟩)⟩) (Gh.le (bs _ _) (aR Z (jt.r) aw) (aD ax)) ?_;refine ai tk Z (ac ?_);refine aP _ () (aq H) (Gh.le (bp (PLe.of2 (pD.of_eq (congrArg (PV.own 0 g_data) z48_0))) (ao (ao aL))) (aR Z (jt.r) aw) (aD ax))
  refine al ?_;refine aP _ () (aq H) Gh.d
 refine aa (ab (aJ tk ?_));refine ac (av (ak 2 tk Z ?_));refine aF Z H (fun H=>?_) (fun H=>?_)
 ·refine ak 3 tk Z ?_;obtain rfl:=aq H;refine bZ (st':=⟨57,upd (upd (fun _=>.any) 7 (ah 1)) 6 (ah t1.2.1),fun _=>none,upd (fun _=>none) 0 (some ⟨g_data,9,(t1.1.map aA),true⟩)⟩) (Gh.le (ao (ao aL)) aw (aD ax)) ?_;refine cl tk Z (ps:=[(ah t1.2.1),(ah 1)]) ⟨_,_,rfl,rfl,_,_,rfl,rfl,rfl⟩ (PLe.q Z) ⟨rfl,rfl⟩
 refine ak 2 tk Z ?_;refine aF Z H (fun H=>?_) (fun H=>?_)
 ·refine ak 3 tk Z ?_;obtain rfl:=aq H;refine bZ (st':=⟨57,upd (upd (fun _=>.any) 7 (ah 2)) 6 (ah t1.2.1),fun _=>none,upd (fun _=>none) 0 (some ⟨g_data,9,(t1.1.map aA),true⟩)⟩) (Gh.le (ao (ao aL)) aw (aD ax)) ?_;refine cl tk Z (ps:=[(ah t1.2.1),(ah 2)]) ⟨_,_,rfl,rfl,_,_,rfl,rfl,rfl⟩ (PLe.q Z) ⟨rfl,rfl⟩
 refine ak 3 tk Z ?_;obtain rfl:=aq H;refine bZ (st':=⟨57,upd (upd (fun _=>.any) 7 (ah 0)) 6 (ah t1.2.1),fun _=>none,upd (fun _=>none) 0 (some ⟨g_data,9,(t1.1.map aA),true⟩)⟩) (Gh.le (ao (ao aL)) aw (aD ax)) ?_;refine cl tk Z (ps:=[(ah t1.2.1),(ah 0)]) ⟨_,_,rfl,rfl,_,_,rfl,rfl,rfl⟩ (PLe.q Z) ⟨rfl,rfl⟩
def fS(rec126:LChecker->LQuery->Option ((List LCol)×Int))(c:LChecker)(q:LQuery):Option ((List LCol)×Int):=
 ae (lS q) fun x16=>
 cond (!x16)
  (some ([],3))
  (ae (aU (σ:=List (List LCol)) (ρ:=((List LCol)×Int)) (fun(_:Nat) (x1:LQuery) (s1:List (List LCol))=>
   ae (rec126 c x1) fun x28=>
   cond (x28.2 !=(0:Int))
    (some (.ret ([],x28.2)))
    (ae (dq 24 s1 ([x28.1]:List (List LCol))) fun(x37:List (List LCol))=>
    some (.next x37))) 0 q.inputs []) fun fl1=>fl1.thenR fun(s1:List (List LCol))=>
  ae (jq c q s1) fun x43=>
  cond (x43.2 !=(0:Int))
   (some ([],x43.2))
   (cond (decide ((x43.1.length:Int)>(20:Int)))
    (some ([],2))
    (ae (aU (σ:=Unit) (ρ:=((List LCol)×Int)) (fun(j2:Nat) (x2:LCol) (_:Unit)=>
     ae (nZ x43.1 0 (j2:Int)) fun(x61:List LCol)=>
     ae (cL x61 (fun a0=>some (dk a0 x2))) fun x63=>
     cond x63
      (some (.ret ([],23)))
      (some (.next ()))) 0 x43.1 ()) fun fl2=>fl2.thenR fun(_:Unit)=>
    some (x43.1,0))))
theorem qw(rec126:LChecker->LQuery->Option ((List LCol)×Int))(hrec126:∀a0 a1 r,rec126 a0 a1=some r->aY prog 126 [(.agg (fe a0)),(.agg (bg a1))] (.tup [(.list 53 (r.1.map aB)),(ah r.2)]))(c:LChecker)(q:LQuery)(r:(List LCol)×Int)(H:fS rec126 c q=some r):
  aY prog 126 [(.agg (fe c)),(.agg (bg q))] (.tup [(.list 53 (r.1.map aB)),(ah r.2)]):=by
 unfold fS at H;refine PH.au func126 ntmps126 ?_;refine aa (ab (aO ?_));refine aO ?_;refine ag 2 tk Z (ac (aa (aa (ab (ai tk Z ?_)))))
 obtain⟨x16,h16,H⟩:=am H
 have s16:=W_query_shape q _ h16;refine aj call140 (jt.r) s16 ?_;refine ai tk Z (ac ?_);refine aF Z H (fun H=>?_) (fun H=>?_)
 ·refine ak 2 tk Z ?_;obtain rfl:=aq H;refine bl tk Z (ps:=[(.val (.slice none 0 0)),(ah 3)]) ⟨_,_,rfl,rfl,_,_,rfl,rfl,rfl⟩ (PLe.of2 (pD.tup (jN.cons (pD.nil tk Z) (jN.cons (pD.of_eq Z) jN.nil))))
 refine al (ak 1 tk Z (aa (aa (ab (ag 2 tk Z (aI tk (zl _) ?_))))));refine ai tk Z (ac (hZ tk 6 37 (e:=54) Z Z ?_));refine ff (γ:=OwnRef) tk 21 20 19 (fun s1 g1=>upd (upd (upd (fun _=>.any) 6 (.own 37 g1 (s1.map (ap 53 aB)).length)) 3 (.ptr (bg q))) 2 (.ptr (fe c))) nB (fun s1 g1=>upd (fun _=>none) 37 (some ⟨g1,54,(s1.map (ap 53 aB)),true⟩)) (⟨none,0⟩) H (fun fl1 Hp1 j1 s1 g1 hz1 hl1 x1 fb1 hx1 H hg1=>?_) (fun s1 g1 H=>?_)
 ·refine aa (av (aa (ab (be tk (zn j1) (bA dd hx1) ?_))));refine ai tk Z ?_;refine bm tk fun b8=>?_
  refine ay tk ?_;refine ac (aa (ab (ai tk Z (aJ tk ?_))))
  obtain⟨x28,h28,H⟩:=am H
  have s28:=hrec126 c x1 _ h28;refine aj call126 (jt.r) s28 ?_;refine ag 5 tk Z (ac (aa (ak 2 tk Z ?_)));refine aF Z H (fun H=>?_) (fun H=>?_)
  ·refine ak 3 tk Z ?_;obtain rfl:=aq H;have e1:fl1= .ret _:=hg1;subst e1;obtain rfl:=aZ Hp1;refine bl tk Z (ps:=[(.val (.slice none 0 0)),(ah x28.2)]) ⟨_,_,rfl,rfl,_,_,rfl,rfl,rfl⟩ (PLe.of2 (pD.tup (jN.cons (pD.nil tk Z) (jN.cons (pD.of_eq Z) jN.nil))))
  refine al (ab (ag 2 tk Z (cy tk (rows':=List.map (ap 53 aB) ([x28.1]:List (List LCol))) (gP.refl _) ?_)))
  obtain⟨x37,h37,H⟩:=am H
  have k37:=cj h37;refine cv (rows2':=List.map (ap 53 aB) ([x28.1]:List (List LCol))) (rows':=List.map (ap 53 aB) x37) tk Z Z Z Z Z Z Z Z Z Z Z Z Z (gP.refl _) (cU k37.1) (cW k37.2.1) (cV k37.2.2) fun g37=>?_
  refine ai tk Z (ac (aM (bc 2 tk Z ?_)));exact bv g37 H hl1 hg1
 refine aa (cT 6 Z Z Z (ab (ag 3 tk Z ?_)))
 obtain⟨x43,h43,H⟩:=am H
 have s43:=sT c q s1 _ h43;refine aj call141 (jt.r) s43 ?_;refine ag 5 tk Z (ac (aa (ak 2 tk Z ?_)));refine aF Z H (fun H=>?_) (fun H=>?_)
 ·refine ak 3 tk Z ?_;obtain rfl:=aq H;refine bl tk Z (ps:=[(.val (.slice none 0 0)),(ah x43.2)]) ⟨_,_,rfl,rfl,_,_,rfl,rfl,rfl⟩ (PLe.of2 (pD.tup (jN.cons (pD.nil tk Z) (jN.cons (pD.of_eq Z) jN.nil))))
 refine al (aa (aa (ab (ai tk Z (aI tk (zl _) ?_)))));refine ai tk Z (ac ?_);refine aF Z H (fun H=>?_) (fun H=>?_)
 ·refine ak 2 tk Z ?_;obtain rfl:=aq H;refine bl tk Z (ps:=[(.val (.slice none 0 0)),(ah 2)]) ⟨_,_,rfl,rfl,_,_,rfl,rfl,rfl⟩ (PLe.of2 (pD.tup (jN.cons (pD.nil tk Z) (jN.cons (pD.of_eq Z) jN.nil))))
 refine al (aa (aa (ab (ai tk Z (aI tk (zl _) ?_)))));refine ai tk Z (ac ?_);refine ff tk 54 53 52 (fun s2 g2=>upd (fun _=>.any) 11 (.list 53 (x43.1.map aB))) nB nO () H (fun fl2 Hp2 j2 s2 g2 hz2 hl2 x2 fb2 hx2 H hg2=>?_) (fun s2 g2 H=>?_)
 ·refine aa (av (aa (ab (ai tk Z ?_))));refine be tk (zn j2) (bA (fun _=>Z) hx2) ?_;refine ai tk Z ?_;refine bm tk fun b14=>?_
  refine ai tk Z (ay tk ?_);refine ac (aa (ab (ag 2 tk Z ?_)))
  obtain⟨x61,h61,H⟩:=am H
  have k61:=nz h61;refine uU tk Z Z Z Z Z (zl _) Z Z k61.1 (oz k61.2) Z (bS (Gh.freezeB 14 Z Z Z Z) (ai tk Z ?_))
  obtain⟨x63,h63,H⟩:=am H
  have s63:=lb x61 (fun a0=>some (dk a0 x2)) call143 (fun a0 r h=>(aq h)▸pN a0 x2) _ h63;refine aj call142 (jt.r) s63 ?_;refine ac ?_;refine aF Z H (fun H=>?_) (fun H=>?_)
  ·refine ak 2 tk Z ?_;obtain rfl:=aq H;have e2:fl2= .ret _:=hg2;subst e2;obtain rfl:=aZ Hp2;refine bl tk Z (ps:=[(.val (.slice none 0 0)),(ah 23)]) ⟨_,_,rfl,rfl,_,_,rfl,rfl,rfl⟩ (PLe.of2 (pD.tup (jN.cons (pD.nil tk Z) (jN.cons (pD.of_eq Z) jN.nil))))
  refine al (aM (bc 2 tk Z ?_));exact bv () H hl2 hg2
 refine ak 3 tk Z ?_;exact bi tk H Z
def fR:Nat->LChecker->LQuery->Option ((List LCol)×Int)
 |0,_,_=>none
 |n+1,v0,v1=>fS (fun b0 b1=>fR n b0 b1) v0 v1
theorem qn  (n:Nat):(∀a0 a1 r,fR n a0 a1=some r->aY prog 126 [(.agg (fe a0)),(.agg (bg a1))] (.tup [(.list 53 (r.1.map aB)),(ah r.2)])):=by
 induction n with
 |zero=>exact(by intros;rename_i h;exact absurd (show(none:Option _)=some _ from h) (by simp))
 |succ n ih=>
  exact(fun v0 v1 r h=>qw (fun b0 b1=>fR n b0 b1) ih v0 v1  r h)
def fU(c:LChecker)(q:LQuery):Option ((List LCol)×Int):=ia fun n=>fR n c q
theorem mS(c:LChecker)(q:LQuery)(r:(List LCol)×Int)(H:fU c q=some r):
  aY prog 126 [(.agg (fe c)),(.agg (bg q))] (.tup [(.list 53 (r.1.map aB)),(ah r.2)]):=by
 obtain⟨n,h⟩:=jh H
 exact(qn  n) c q r h
def gU(rA:LRun)(q:LQuery)(cols:List LCol)(inA:Rz):Option (Rz):=
 ae (dK inA (fun a0 a1=>gR a0 a1 rA cols q)) fun x14=>
 ae (cF (x14.length=inA.length) ()) fun(_:Unit)=>
 some x14
theorem uJ(rA:LRun)(q:LQuery)(cols:List LCol)(inA:Rz)(r:Rz)(H:gU rA q cols inA=some r):
  aY prog 165 [(.agg (eP rA)),(.agg (bg q)),(.list 53 (cols.map aB)),(.list 46 (inA.map (ap 58 af)))] (.list 46 (r.map (ap 58 af))):=by
 unfold gU at H;refine PH.au func165 ntmps165 ?_;refine aa (ab (aO ?_));refine aO ?_;refine aO ?_;refine ai tk Z (ac (aa (ab (ai tk Z ?_))));have s11:=qO (m:=11) inA;refine jj call157 (jt.r) s11 (fun g11=>?_);refine ai tk Z (ac (aa (ab (ag 2 tk Z ?_))))
 obtain⟨x14,h14,H⟩:=am H
 have s14:=lL g11 inA (fun a0 a1=>gR a0 a1 rA cols q) call185 (fun a0 a1 r h=>tw a0 a1 rA cols q r h) _ h14
 obtain⟨_,q14_0,H⟩:=am H
 have l14_0:=(bG q14_0).1;have z14_0:(List.map (ap 58 af) inA).length=(List.map (ap 58 af) x14).length:=by simpa using(l14_0).symm
 refine bB (g:=184) Z Z Z call184 [] [(11,0)] Z Z Z Z (jt.of2 (jN.cons (pD.own Z) (jN.cons (pD.of_eq Z) jN.nil))) (by rw[bq,aW,bn];rfl) s14 ?_;rintro u14 H14h ⟨rfl,rfl⟩
 refine⟨_,rfl,?_⟩
 refine bS (st':=⟨_,_,fun _=>none,upd (fun _=>none) 11 (some ⟨g11,46,(x14.map (ap 58 af)),true⟩)⟩) (Gh.le (bs _ _) aw (aD ax)) ?_;refine ac (ak 2 tk Z (cT 8 Z Z z14_0 ?_));exact bi tk H Z
def kl(sA:LSchema)(inst:List LRelation)(changes:List LChange):Option ((List LRelation)×Int):=
 ae (gw sA) fun x19=>
 cond (x19 !=(0:Int))
  (some ([],x19))
  (ae (eR sA inst) fun x25=>
  cond (x25 !=(0:Int))
   (some ([],x25))
   (cond (decide ((changes.length:Int)>(24:Int)))
    (some ([],2))
    (ae (jy inst) fun x33=>
    ae (aU (σ:=List LRelation) (ρ:=((List LRelation)×Int)) (fun(_:Nat) (x1:LChange) (s1:List LRelation)=>
     ae (jc sA x1) fun x42=>
     cond (x42 !=(0:Int))
      (some (.ret ([],x42)))
      (ae (dZ sA x1.table) fun x50=>
      ae (aG sA.tables x50.1) fun(x56:LTable)=>
      cond (x1.kind==(1:Int))
       (ae (aG s1 x50.1) fun(x66:LRelation)=>
       ae (jg x56 x66.rows x1.row) fun x71=>
       ae (aG s1 x50.1) fun(x72:LRelation)=>
       letP (s1.set x50.1.toNat (LRelation.mk x72.table x71)) fun(y6:List LRelation)=>
       ae (aG y6 x50.1) fun(x76:LRelation)=>
       cond (decide ((x76.rows.length:Int)>(24:Int)))
        (some (.ret ([],2)))
        (some (.next y6)))
       (ae (aG s1 x50.1) fun(x87:LRelation)=>
       ae (jb x56 x87.rows x1.key) fun x92=>
       ae (aG s1 x50.1) fun(x95:LRelation)=>
       letP (s1.set x50.1.toNat (LRelation.mk x95.table x92.1)) fun(y7:List LRelation)=>
       cond (!x92.2)
        (some (.ret ([],9)))
        (some (.next y7))))) 0 changes x33) fun fl1=>fl1.thenR fun(s1:List LRelation)=>
    some (s1,0))))
theorem rK(sA:LSchema)(inst:List LRelation)(changes:List LChange)(r:(List LRelation)×Int)(H:kl sA inst changes=some r):
  aY prog 7 [(.agg (da sA)),(.list 69 (inst.map bW)),(.list 48 (changes.map cu))] (.tup [(.list 69 (r.1.map bW)),(ah r.2)]):=by
 unfold kl at H;refine PH.au func7 ntmps7 ?_;refine aa (ab (aO ?_));refine ag 2 tk Z (ac (aa (aa (ab (ai tk Z ?_)))))
 obtain⟨x19,h19,H⟩:=am H
 have s19:=pF sA _ h19;refine aj call16 (jt.r) s19 ?_;refine ai tk Z (ac (ak 2 tk Z ?_));refine aF Z H (fun H=>?_) (fun H=>?_)
 ·refine ak 3 tk Z ?_;obtain rfl:=aq H;refine bl tk Z (ps:=[(.val (.slice none 0 0)),(ah x19)]) ⟨_,_,rfl,rfl,_,_,rfl,rfl,rfl⟩ (PLe.of2 (pD.tup (jN.cons (pD.nil tk Z) (jN.cons (pD.of_eq Z) jN.nil))))
 refine al (aa (aa (ab (ag 2 tk Z ?_))))
 obtain⟨x25,h25,H⟩:=am H
 have s25:=kB sA inst _ h25;refine aj call17 (jt.r) s25 ?_;refine ai tk Z (ac (ak 2 tk Z ?_));refine aF Z H (fun H=>?_) (fun H=>?_)
 ·refine ak 3 tk Z ?_;obtain rfl:=aq H;refine bl tk Z (ps:=[(.val (.slice none 0 0)),(ah x25)]) ⟨_,_,rfl,rfl,_,_,rfl,rfl,rfl⟩ (PLe.of2 (pD.tup (jN.cons (pD.nil tk Z) (jN.cons (pD.of_eq Z) jN.nil))))
 refine al (aa (aa (ab (ai tk Z (aI tk (zl _) ?_)))));refine ai tk Z (ac ?_);refine aF Z H (fun H=>?_) (fun H=>?_)
 ·refine ak 2 tk Z ?_;obtain rfl:=aq H;refine bl tk Z (ps:=[(.val (.slice none 0 0)),(ah 2)]) ⟨_,_,rfl,rfl,_,_,rfl,rfl,rfl⟩ (PLe.of2 (pD.tup (jN.cons (pD.nil tk Z) (jN.cons (pD.of_eq Z) jN.nil))))
 refine al (aa (ab (ai tk Z ?_)))
 obtain⟨x33,h33,H⟩:=am H
 have s33:=uI (m:=33) inst _ h33;refine jj call22 (jt.r) s33 (fun g33=>?_);refine ai tk Z (ac (aa (aa (ab (ai tk Z (aI tk (zl _) ?_))))));refine ai tk Z (ac ?_);refine ff (γ:=OwnRef) tk 36 35 34 (fun s1 g1=>upd (upd (fun _=>.any) 10 (.own 33 g1 (s1.map bW).length)) 3 (.ptr (da sA))) nB (fun s1 g1=>upd (fun _=>none) 33 (some ⟨g1,69,(s1.map bW),true⟩)) g33 H (fun fl1 Hp1 j1 s1 g1 hz1 hl1 x1 fb1 hx1 H hg1=>?_) (fun s1 g1 H=>?_)
 ·refine aa (av (aa (ab ?_)));refine be tk (zn j1) (bA (fun _=>Z) hx1) ?_;refine ai tk Z ?_;refine bm tk fun b12=>?_
  refine ay tk ?_;refine ac (aa (aa (ab (ai tk Z (aJ tk ?_)))))
  obtain⟨x42,h42,H⟩:=am H
  have s42:=ud sA x1 _ h42;refine aj call23 (jt.r) s42 ?_;refine ai tk Z (ac (ak 2 tk Z ?_));refine aF Z H (fun H=>?_) (fun H=>?_)
  ·refine ak 3 tk Z ?_;obtain rfl:=aq H;have e1:fl1= .ret _:=hg1;subst e1;obtain rfl:=aZ Hp1;refine bl tk Z (ps:=[(.val (.slice none 0 0)),(ah x42)]) ⟨_,_,rfl,rfl,_,_,rfl,rfl,rfl⟩ (PLe.of2 (pD.tup (jN.cons (pD.nil tk Z) (jN.cons (pD.of_eq Z) jN.nil))))
  refine al (aa (ab (ag 2 tk Z (aJ tk ?_))))
  obtain⟨x50,h50,H⟩:=am H
  have s50:=jE sA x1.table _ h50;refine aj call24 (jt.r) s50 ?_;refine ag 5 tk Z (ac (aa (ab (ag 3 tk Z ?_))))
  obtain⟨x56,k56,H⟩:=aV H
  refine be tk k56.1 (aC (fun _=>Z) k56.2) ?_;refine ai tk Z ?_;refine bm tk fun b16=>?_
  refine ay tk ?_;refine ac (aa (aa (ab (ai tk Z (aJ tk ?_)))));refine ai tk Z (ac ?_);refine aF Z H (fun H=>?_) (fun H=>?_)
  ·refine aa ?_;refine cA (tag:=33) Z (fun ho33=>?_);refine aX tk mok ⟨true,true,[]⟩ [0,1,2,3,4,5,6,7,8,9,10,11,12,13] Z (by decide+kernel) Z (az 2 Z (bd ?_));refine az 2 Z ?_
   obtain⟨x66,k66,H⟩:=aV H
   refine aT tk ⟨k66.1,(bh k66.2)⟩ (bf ho33 k66.2) ?_;refine bw Z ?_;refine bo tk Z Z Z Z Z Z Z Z Z (aC (fun _=>Z) k66.2) Z Z ?_;refine bw Z (bd ?_)
   obtain⟨x71,h71,H⟩:=am H
   have s71:=ub x56 x66.rows x1.row _ h71;refine aS call25 (jt.r) s71 ?_
   obtain⟨x72,k72,H⟩:=aV H
   refine aT tk ⟨k72.1,(bh k72.2)⟩ (bf ho33 k72.2) ?_;refine bw Z ?_
   obtain⟨y6,hy6,H⟩:=bF H
   refine cg tk Z Z Z Z Z Z Z Z Z (by rw[zl];exact(zg.1 k72.2).1) (PLe.refl _ _) Z Z Z Z (by decide) (bD (fun _=>Z) k72.2 Z hy6) ?_;refine aQ (aa (aa (ab (ag 2 tk Z ?_))))
   obtain⟨x76,k76,H⟩:=aV H
   refine jJ (tag:=33) Z (fun ho33=>?_);refine iV tk ⟨k76.1,(gJ (bt (f:=bW) hy6) k76.2)⟩ (bf ho33 k76.2) ?_;refine ai tk Z ?_;refine lJ tk (aC (fun _=>Z) k76.2) ?_;refine aI tk (zl _) ?_;refine ai tk Z (ac ?_);refine aF Z H (fun H=>?_) (fun H=>?_)
   ·refine ak 2 tk Z ?_;obtain rfl:=aq H;have e1:fl1= .ret _:=hg1;subst e1;obtain rfl:=aZ Hp1;refine bl tk Z (ps:=[(.val (.slice none 0 0)),(ah 2)]) ⟨_,_,rfl,rfl,_,_,rfl,rfl,rfl⟩ (PLe.of2 (pD.tup (jN.cons (pD.nil tk Z) (jN.cons (pD.of_eq Z) jN.nil))))
   refine al (bj Z (bc 2 tk Z ?_));exact bv g1 H hl1 hg1 (Gh.le (ao (ao (bp (PLe.q (fB (by omega))) (ao (bp (PLe.of2 (pD.of_eq (congrArg (PV.own 33 g1) (bt (f:=bW) hy6)))) aL))))) aw (aD ax))
  refine al (ak 1 tk Z (aa ?_));refine cA (tag:=33) Z (fun ho33=>?_);refine aX tk mok ⟨true,true,[]⟩ [0,1,2,3,4,5,6,7,8,9,10,11,12,13,14,15,16,17] Z (by decide+kernel) Z (az 2 Z (bd ?_));refine az 2 Z ?_
  obtain⟨x87,k87,H⟩:=aV H
  refine aT tk ⟨k87.1,(bh k87.2)⟩ (bf ho33 k87.2) ?_;refine bw Z ?_;refine bo tk Z Z Z Z Z Z Z Z Z (aC (fun _=>Z) k87.2) Z Z ?_;refine bw Z (bd ?_)
  obtain⟨x92,h92,H⟩:=am H
  have s92:=um x56 x87.rows x1.key _ h92;refine aS call26 (jt.r) s92 ?_;refine az 3 Z ?_
  obtain⟨x95,k95,H⟩:=aV H
  refine aT tk ⟨k95.1,(bh k95.2)⟩ (bf ho33 k95.2) ?_;refine bw Z ?_
  obtain⟨y7,hy7,H⟩:=bF H
  refine cg tk Z Z Z Z Z Z Z Z Z (by rw[zl];exact(zg.1 k95.2).1) (PLe.refl _ _) Z Z Z Z (by decide) (bD (fun _=>Z) k95.2 Z hy7) ?_;refine bw Z (aQ (ak 2 tk Z ?_));refine aF Z H (fun H=>?_) (fun H=>?_)
  ·refine ak 2 tk Z ?_;obtain rfl:=aq H;have e1:fl1= .ret _:=hg1;subst e1;obtain rfl:=aZ Hp1;refine bl tk Z (ps:=[(.val (.slice none 0 0)),(ah 9)]) ⟨_,_,rfl,rfl,_,_,rfl,rfl,rfl⟩ (PLe.of2 (pD.tup (jN.cons (pD.nil tk Z) (jN.cons (pD.of_eq Z) jN.nil))))
  refine al (aM (bc 2 tk Z ?_));exact bv g1 H hl1 hg1 (Gh.le (ao (ao (bp (PLe.q (fB (by omega))) (ao (bp (PLe.of2 (pD.of_eq (congrArg (PV.own 33 g1) (bt (f:=bW) hy7)))) aL))))) aw (aD ax))
 refine ak 3 tk Z (cT 6 Z Z Z ?_);exact bi tk H Z
def iQ(rec54:Rs->Int->Int->Int->Option (Rs))(data:Rs)(a:Int)(b:Int)(limit:Int):Option (Rs):=
 ae (dg (σ:=Rs×Int×Int×Int×Bool×Bool) (ρ:=(Rs)) (fun(s1:Rs×Int×Int×Int×Bool×Bool)=>
  cond (decide ((iw (s1.2.2.1-s1.2.1))<=(12:Int)))
   (ae (gN s1.1 s1.2.1 s1.2.2.1) fun x27=>
   ae (cF (x27.length=s1.1.length) ()) fun(_:Unit)=>
   some (.ret x27))
   (cond (s1.2.2.2.1==(0:Int))
    (ae (iN s1.1 s1.2.1 s1.2.2.1) fun x33=>
    ae (cF (x33.length=s1.1.length) ()) fun(_:Unit)=>
    some (.ret x33))
    (ae (
     cond (!s1.2.2.2.2.1)
      (ae (gO s1.1 s1.2.1 s1.2.2.1) fun x39=>
      ae (cF (x39.length=s1.1.length) ()) fun(_:Unit)=>
      some (x39,(iw (s1.2.2.2.1-(1:Int)))))
      (some (s1.1,s1.2.2.2.1))) fun(t15:Rs×Int)=>
    ae (ie t15.1 s1.2.1 s1.2.2.1) fun x46=>
    ae (cF (x46.2.2.length=t15.1.length) ()) fun(_:Unit)=>
    ae (
     cond (x46.2.1==(2:Int))
      (ae (hC x46.2.2 s1.2.1 s1.2.2.1) fun x54=>
      ae (cF (x54.length=x46.2.2.length) ()) fun(_:Unit)=>
      some (x54,(iw ((iw (s1.2.2.1-(1:Int)))-(iw (x46.1-s1.2.1)))),1))
      (some (x46.2.2,x46.1,x46.2.1))) fun(t16:Rs×Int×Int)=>
    letP (
     cond s1.2.2.2.2.1
      (cond s1.2.2.2.2.2
       ((t16.1,(t16.2.2==(1:Int))))
       ((t16.1,false)))
      ((t16.1,false))) fun(t17:Rs×Bool)=>
    ae (
     cond t17.2
      (ae (fA t17.1 s1.2.1 s1.2.2.1) fun x72=>
      ae (cF (x72.2.length=t17.1.length) ()) fun(_:Unit)=>
      cond x72.1
       (some (.ret x72.2))
       (some (.next x72.2)))
      (some (.next t17.1))) fun(fl18:Flow Rs (Rs))=>fl18.thenF fun t18=>
    ae (
     cond (decide (s1.2.1>(0:Int)))
      (ae (aG t18 (iw (s1.2.1-(1:Int)))) fun(x79:Rb)=>
      ae (aG t18 t16.2.1) fun(x83:Rb)=>
      letP (cM x79 x83) fun x85=>
      some (t18,(!x85)))
      (some (t18,false))) fun(t19:Rs×Bool)=>
    cond t19.2
     (ae (gG t19.1 s1.2.1 s1.2.2.1 t16.2.1) fun x92=>
     ae (cF (x92.2.length=t19.1.length) ()) fun(_:Unit)=>
     some (.next (x92.2,x92.1,s1.2.2.1,t15.2,s1.2.2.2.2.1,s1.2.2.2.2.2)))
     (ae (iB t19.1 s1.2.1 s1.2.2.1 t16.2.1) fun x99=>
     ae (cF (x99.2.2.length=t19.1.length) ()) fun(_:Unit)=>
     cond (decide ((iw (x99.1-s1.2.1))<(iw (s1.2.2.1-x99.1))))
      (ae (rec54 x99.2.2 s1.2.1 x99.1 t15.2) fun x121=>
      ae (cF (x121.length=x99.2.2.length) ()) fun(_:Unit)=>
      some (.next (x121,(iw (x99.1+(1:Int))),s1.2.2.1,t15.2,(decide ((iw (x99.1-s1.2.1))>=(iw (Int.tdiv (iw (s1.2.2.1-s1.2.1)) (8:Int))))),x99.2.1)))
      (ae (rec54 x99.2.2 (iw (x99.1+(1:Int))) s1.2.2.1 t15.2) fun x132=>
      ae (cF (x132.length=x99.2.2.length) ()) fun(_:Unit)=>
      some (.next (x132,s1.2.1,x99.1,t15.2,(decide ((iw (s1.2.2.1-x99.1))>=(iw (Int.tdiv (iw (s1.2.2.1-s1.2.1)) (8:Int))))),x99.2.1))))))) (data,a,b,limit,true,true)) fun fl1=>fl1.thenR fun(s1:Rs×Int×Int×Int×Bool×Bool)=>
 some s1.1
theorem nL(g_data:OwnRef)(rec54:Rs->Int->Int->Int->Option (Rs))(hrec54:∀g0 a0 a1 a2 a3 r,rec54 a0 a1 a2 a3=some r->PH prog 54 [(.own 0 g0 (a0.map aA).length),(ah a1),(ah a2),(ah a3)] ⟨fun _=>none,upd (fun _=>none) 0 (some ⟨g0,9,(a0.map aA),true⟩)⟩ (fun u H=>u=(.tup [])/\H=⟨fun _=>none,upd (fun _=>none) 0 (some ⟨g0,9,(r.map aA),true⟩)⟩))(data:Rs)(a:Int)(b:Int)(limit:Int)(r:Rs)(H:iQ rec54 data a b limit=some r):
  PH prog 54 [(.own 0 g_data (data.map aA).length),(ah a),(ah b),(ah limit)] ⟨fun _=>none,upd (fun _=>none) 0 (some ⟨g_data,9,(data.map aA),true⟩)⟩ (fun u H=>u=(.tup [])/\H=⟨fun _=>none,upd (fun _=>none) 0 (some ⟨g_data,9,(r.map aA),true⟩)⟩):=by
 unfold iQ at H;refine PH.au func54 ntmps54 ?_;refine ak 1 tk Z (ak 1 tk Z ?_)
 obtain⟨fl1,H1,Hp1⟩:=am H
 refine dj (τ:=Rs×Int×Int×Int×Bool×Bool) (γ:=Unit) (fun s1 g1=>⟨134,upd (fun _=>.any) 0 (.own 0 g_data (s1.1.map aA).length),fun _=>none,upd (fun _=>none) 0 (some ⟨g_data,9,(s1.1.map aA),true⟩)⟩) (fun t=>fl1= .next t) ?_ (fun s1 g1 hn1=>?_)
 ·refine av ?_;refine cO (fun s1 g1=>⟨134,upd (upd (upd (upd (upd (upd (fun _=>.any) 9 (aK s1.2.2.2.2.2)) 8 (aK s1.2.2.2.2.1)) 3 (ah s1.2.2.2.1)) 2 (ah s1.2.2.1)) 1 (ah s1.2.1)) 0 (.own 0 g_data (s1.1.map aA).length),fun _=>none,upd (fun _=>none) 0 (some ⟨g_data,9,(s1.1.map aA),true⟩)⟩) () H1 Gh.d (fun m1 s1 g1 hr1=>?_)
  obtain⟨fb1,H,hg1⟩:=cp hr1
  refine av (ak 4 tk Z (aa (ak 2 tk Z ?_)));refine aF Z H (fun H=>?_) (fun H=>?_)
  ·refine aa (ab (ag 3 tk Z ?_))
   obtain⟨x27,h27,H⟩:=am H
   have s27:=mD g_data s1.1 s1.2.1 s1.2.2.1 _ h27
   obtain⟨_,q27_0,H⟩:=am H
   have l27_0:=(bG q27_0).1;have z27_0:(List.map aA s1.1).length=(List.map aA x27).length:=by simpa using(l27_0).symm
   refine bB (g:=78) Z Z Z call78 [] [(0,0)] Z Z Z Z (jt.of2 (jN.cons (pD.own Z) (jN.cons (pD.of_eq Z) (jN.cons (pD.of_eq Z) jN.nil)))) (by rw[bq,aW,bn];rfl) s27 ?_;rintro u27 H27h ⟨rfl,rfl⟩
   refine⟨_,rfl,?_⟩
   refine bS (st':=⟨_,_,fun _=>none,upd (fun _=>none) 0 (some ⟨g_data,9,(x27.map aA),true⟩)⟩) (Gh.le (bs _ _) aw (aD ax)) ?_;refine ac ?_;obtain rfl:=aq H;have e1:fl1= .ret _:=hg1;subst e1;obtain rfl:=aZ Hp1;refine bZ (st':=⟨134,fun _=>.any,fun _=>none,upd (fun _=>none) 0 (some ⟨g_data,9,(x27.map aA),true⟩)⟩) (Gh.le aL aw (aD ax)) ?_;refine cl tk Z (ps:=[]) Z (PLe.q Z) ⟨rfl,rfl⟩
  refine al (aa (ak 2 tk Z ?_));refine aF Z H (fun H=>?_) (fun H=>?_)
  ·refine aa (ab (ag 3 tk Z ?_))
   obtain⟨x33,h33,H⟩:=am H
   have s33:=nJ g_data s1.1 s1.2.1 s1.2.2.1 _ h33
   obtain⟨_,q33_0,H⟩:=am H
   have l33_0:=(bG q33_0).1;have z33_0:(List.map aA s1.1).length=(List.map aA x33).length:=by simpa using(l33_0).symm
   refine bB (g:=79) Z Z Z call79 [] [(0,0)] Z Z Z Z (jt.of2 (jN.cons (pD.own Z) (jN.cons (pD.of_eq Z) (jN.cons (pD.of_eq Z) jN.nil)))) (by rw[bq,aW,bn];rfl) s33 ?_;rintro u33 H33h ⟨rfl,rfl⟩
   refine⟨_,rfl,?_⟩
   refine bS (st':=⟨_,_,fun _=>none,upd (fun _=>none) 0 (some ⟨g_data,9,(x33.map aA),true⟩)⟩) (Gh.le (bs _ _) aw (aD ax)) ?_;refine ac ?_;obtain rfl:=aq H;have e1:fl1= .ret _:=hg1;subst e1;obtain rfl:=aZ Hp1;refine bZ (st':=⟨134,fun _=>.any,fun _=>none,upd (fun _=>none) 0 (some ⟨g_data,9,(x33.map aA),true⟩)⟩) (Gh.le aL aw (aD ax)) ?_;refine cl tk Z (ps:=[]) Z (PLe.q Z) ⟨rfl,rfl⟩
  refine al (aa (ak 2 tk Z ?_));refine ee (γ:=Unit) (fun t15 g15=>⟨134,upd (upd (upd (upd (upd (upd (upd (fun _=>.any) 10 (ah (iw (s1.2.2.1-s1.2.1)))) 9 (aK s1.2.2.2.2.2)) 8 (aK s1.2.2.2.2.1)) 3 (ah t15.2)) 2 (ah s1.2.2.1)) 1 (ah s1.2.1)) 0 (.own 0 g_data (t15.1.map aA).length),fun _=>none,upd (fun _=>none) 0 (some ⟨g_data,9,(t15.1.map aA),true⟩)⟩) H (fun _ H=>?_) (fun t15 g15 H=>?_)
  ·refine aF Z H (fun H=>?_) (fun H=>?_)
   ·refine aa (ab (ag 3 tk Z ?_))
    obtain⟨x39,h39,H⟩:=am H
    have s39:=mu g_data s1.1 s1.2.1 s1.2.2.1 _ h39
    obtain⟨_,q39_0,H⟩:=am H
    have l39_0:=(bG q39_0).1;have z39_0:(List.map aA s1.1).length=(List.map aA x39).length:=by simpa using(l39_0).symm
    refine bB (g:=80) Z Z Z call80 [] [(0,0)] Z Z Z Z (jt.of2 (jN.cons (pD.own Z) (jN.cons (pD.of_eq Z) (jN.cons (pD.of_eq Z) jN.nil)))) (by rw[bq,aW,bn];rfl) s39 ?_;rintro u39 H39h ⟨rfl,rfl⟩
    refine⟨_,rfl,?_⟩
    refine bS (st':=⟨_,_,fun _=>none,upd (fun _=>none) 0 (some ⟨g_data,9,(x39.map aA),true⟩)⟩) (Gh.le (bs _ _) aw (aD ax)) ?_;refine ac (bc 3 tk Z ?_);refine aP _ () (aq H) (Gh.le (bp (PLe.of2 (pD.of_eq (congrArg (PV.own 0 g_data) z39_0))) (ao (ao (ao (ao (ao (ao aL))))))) aw (aD ax))
   refine al ?_;refine aP _ () (aq H) Gh.d
  refine aa (ab (ag 3 tk Z ?_))
  obtain⟨x46,h46,H⟩:=am H
  have s46:=mU g_data t15.1 s1.2.1 s1.2.2.1 _ h46
  obtain⟨_,q46_0,H⟩:=am H
  have l46_0:=(bG q46_0).1;have z46_0:(List.map aA t15.1).length=(List.map aA x46.2.2).length:=by simpa using(l46_0).symm
  refine bB (g:=81) Z Z Z call81 [] [(0,0)] Z Z Z Z (jt.of2 (jN.cons (pD.own Z) (jN.cons (pD.of_eq Z) (jN.cons (pD.of_eq Z) jN.nil)))) (by rw[bq,aW,bn];rfl) s46 ?_;rintro u46 H46h ⟨rfl,rfl⟩
  refine⟨_,rfl,?_⟩
  refine bS (st':=⟨_,_,fun _=>none,upd (fun _=>none) 0 (some ⟨g_data,9,(x46.2.2.map aA),true⟩)⟩) (Gh.le (bs _ _) aw (aD ax)) ?_;refine ag 5 tk Z (ac (aa (ak 2 tk Z ?_)));refine ee (γ:=Unit) (fun t16 g16=>⟨134,upd (upd (upd (upd (upd (upd (upd (upd (upd (fun _=>.any) 12 (ah t16.2.2)) 11 (ah t16.2.1)) 10 (ah (iw (s1.2.2.1-s1.2.1)))) 9 (aK s1.2.2.2.2.2)) 8 (aK s1.2.2.2.2.1)) 3 (ah t15.2)) 2 (ah s1.2.2.1)) 1 (ah s1.2.1)) 0 (.own 0 g_data (t16.1.map aA).length),fun _=>none,upd (fun _=>none) 0 (some ⟨g_data,9,(t16.1.map aA),true⟩)⟩) H (fun _ H=>?_) (fun t16 g16 H=>?_)
  ·refine aF Z H (fun H=>?_) (fun H=>?_)
   ·refine aa (ab (ag 3 tk Z ?_))
    obtain⟨x54,h54,H⟩:=am H
    have s54:=mN g_data x46.2.2 s1.2.1 s1.2.2.1 _ h54
    obtain⟨_,q54_0,H⟩:=am H
    have l54_0:=(bG q54_0).1;have z54_0:(List.map aA x46.2.2).length=(List.map aA x54).length:=by simpa using(l54_0).symm
    refine bB (g:=82) Z Z Z call82 [] [(0,0)] Z Z Z Z (jt.of2 (jN.cons (pD.own z46_0) (jN.cons (pD.of_eq Z) (jN.cons (pD.of_eq Z) jN.nil)))) (by rw[bq,aW,bn];rfl) s54 ?_;rintro u54 H54h ⟨rfl,rfl⟩
    refine⟨_,rfl,?_⟩
    refine bS (st':=⟨_,_,fun _=>none,upd (fun _=>none) 0 (some ⟨g_data,9,(x54.map aA),true⟩)⟩) (Gh.le (bs _ _) aw (aD ax)) ?_;refine ac (ak 7 tk Z (bc 1 tk Z ?_));refine aP _ () (aq H) (Gh.le (bp (PLe.of2 (pD.of_eq (congrArg (PV.own 0 g_data) (z46_0.trans z54_0)))) (ao (ao (ao (ao (ao (ao (ao (ao aL))))))))) aw (aD ax))
   refine al ?_;refine aP _ () (aq H) (Gh.le (bp (PLe.of2 (pD.of_eq (congrArg (PV.own 0 g_data) z46_0))) (ao (ao (ao (ao (ao (ao (ao (ao aL))))))))) aw (aD ax))
  refine aa (aa ?_);refine ed (γ:=Unit) (fun t17 g17=>⟨134,upd (upd (upd (upd (upd (upd (upd (upd (upd (fun _=>.any) 68 (aK t17.2)) 11 (ah t16.2.1)) 10 (ah (iw (s1.2.2.1-s1.2.1)))) 9 (aK s1.2.2.2.2.2)) 8 (aK s1.2.2.2.2.1)) 3 (ah t15.2)) 2 (ah s1.2.2.1)) 1 (ah s1.2.1)) 0 (.own 0 g_data (t17.1.map aA).length),fun _=>none,upd (fun _=>none) 0 (some ⟨g_data,9,(t17.1.map aA),true⟩)⟩) H (fun _ H=>?_) (fun t17 g17 H=>?_)
  ·refine ab (ag 2 tk Z ?_);refine bu Z Z Z H (fun H=>?_) (fun H=>?_)
   ·refine ag 3 tk Z ?_;refine bu Z Z Z H (fun H=>?_) (fun H=>?_)
    ·refine ag 3 tk Z (ac ?_);refine aP _ () H Gh.d
    refine ag 3 tk Z (ac ?_);refine aP _ () H Gh.d
   refine ag 6 tk Z (ac ?_);refine aP _ () H Gh.d
  refine vr (γ:=Unit) (fun t18 g18=>⟨134,upd (upd (upd (upd (upd (upd (upd (upd (fun _=>.any) 11 (ah t16.2.1)) 10 (ah (iw (s1.2.2.1-s1.2.1)))) 9 (aK s1.2.2.2.2.2)) 8 (aK s1.2.2.2.2.1)) 3 (ah t15.2)) 2 (ah s1.2.2.1)) 1 (ah s1.2.1)) 0 (.own 0 g_data (t18.map aA).length),fun _=>none,upd (fun _=>none) 0 (some ⟨g_data,9,(t18.map aA),true⟩)⟩) H (fun _ H Hp18=>?_) (fun t18 g18 H=>?_)
  ·refine aF Z H (fun H=>?_) (fun H=>?_)
   ·refine aa (ab (ag 3 tk Z ?_))
    obtain⟨x72,h72,H⟩:=am H
    have s72:=lg g_data t17.1 s1.2.1 s1.2.2.1 _ h72
    obtain⟨_,q72_0,H⟩:=am H
    have l72_0:=(bG q72_0).1;have z72_0:(List.map aA t17.1).length=(List.map aA x72.2).length:=by simpa using(l72_0).symm
    refine bB (g:=83) Z Z Z call83 [] [(0,0)] Z Z Z Z (jt.of2 (jN.cons (pD.own Z) (jN.cons (pD.of_eq Z) (jN.cons (pD.of_eq Z) jN.nil)))) (by rw[bq,aW,bn];rfl) s72 ?_;rintro u72 H72h ⟨rfl,rfl⟩
    refine⟨_,rfl,?_⟩
    refine bS (st':=⟨_,_,fun _=>none,upd (fun _=>none) 0 (some ⟨g_data,9,(x72.2.map aA),true⟩)⟩) (Gh.le (bs _ _) aw (aD ax)) ?_;refine ac ?_;refine aF Z H (fun H=>?_) (fun H=>?_)
    ·obtain rfl:=aq H;have q18:=mC Hp18;subst q18;have e1:fl1= .ret _:=hg1;subst e1;obtain rfl:=aZ Hp1;refine bZ (st':=⟨134,fun _=>.any,fun _=>none,upd (fun _=>none) 0 (some ⟨g_data,9,(x72.2.map aA),true⟩)⟩) (Gh.le aL aw (aD ax)) ?_;refine cl tk Z (ps:=[]) Z (PLe.q Z) ⟨rfl,rfl⟩
    refine al ?_;refine aP _ () (aq H).symm (Gh.le (bp (PLe.of2 (pD.of_eq (congrArg (PV.own 0 g_data) z72_0))) (ao (ao (ao (ao (ao (ao (ao aL)))))))) aw (aD ax))
   refine al ?_;refine aP _ () (aq H).symm Gh.d
  refine aa (aa ?_);refine ee (γ:=Unit) (fun t19 g19=>⟨134,upd (upd (upd (upd (upd (upd (upd (upd (upd (fun _=>.any) 87 (aK t19.2)) 11 (ah t16.2.1)) 10 (ah (iw (s1.2.2.1-s1.2.1)))) 9 (aK s1.2.2.2.2.2)) 8 (aK s1.2.2.2.2.1)) 3 (ah t15.2)) 2 (ah s1.2.2.1)) 1 (ah s1.2.1)) 0 (.own 0 g_data (t19.1.map aA).length),fun _=>none,upd (fun _=>none) 0 (some ⟨g_data,9,(t19.1.map aA),true⟩)⟩) H (fun _ H=>?_) (fun t19 g19 H=>?_)
  ·refine cA (tag:=0) Z (fun ho0=>?_);refine aX tk mok ⟨false,true,[]⟩ [0,1,2,3,4,5,6,7,8,9,10,11,12,13,14] Z (by decide+kernel) Z (az 3 Z ?_);refine gi H (fun H=>?_) (fun H=>?_)
   ·refine az 3 Z ?_
    obtain⟨x79,k79,H⟩:=aV H
    refine aT tk ⟨k79.1,(bh k79.2)⟩ (bf ho0 k79.2) ?_;refine bo tk Z Z Z Z Z Z Z Z Z (aC (fun _=>Z) k79.2) Z Z ?_;refine az 2 Z ?_
    obtain⟨x83,k83,H⟩:=aV H
    refine aT tk ⟨k83.1,(bh k83.2)⟩ (bf ho0 k83.2) ?_;refine bo tk Z Z Z Z Z Z Z Z Z (aC (fun _=>Z) k83.2) Z Z ?_
    obtain⟨x85,h85,H⟩:=bF H
    have s85:=dy x79 x83;rw[h85]at s85;refine aS call84 (jt.r) s85 ?_;refine az 2 Z (aQ ?_);refine aP _ () (aq H) Gh.d
   refine az 12 Z (aQ ?_);refine aP _ () (aq H) Gh.d
  refine aF Z H (fun H=>?_) (fun H=>?_)
  ·refine aa (ab (ag 4 tk Z ?_))
   obtain⟨x92,h92,H⟩:=am H
   have s92:=mn g_data t19.1 s1.2.1 s1.2.2.1 t16.2.1 _ h92
   obtain⟨_,q92_0,H⟩:=am H
   have l92_0:=(bG q92_0).1;have z92_0:(List.map aA t19.1).length=(List.map aA x92.2).length:=by simpa using(l92_0).symm
   refine bB (g:=85) Z Z Z call85 [] [(0,0)] Z Z Z Z (jt.of2 (jN.cons (pD.own Z) (jN.cons (pD.of_eq Z) (jN.cons (pD.of_eq Z) (jN.cons (pD.of_eq Z) jN.nil))))) (by rw[bq,aW,bn];rfl) s92 ?_;rintro u92 H92h ⟨rfl,rfl⟩
   refine⟨_,rfl,?_⟩
   refine bS (st':=⟨_,_,fun _=>none,upd (fun _=>none) 0 (some ⟨g_data,9,(x92.2.map aA),true⟩)⟩) (Gh.le (bs _ _) aw (aD ax)) ?_;refine ai tk Z (ac (ak 2 tk Z (bj Z ?_)));obtain rfl:=aq H;refine ce (x92.2,x92.1,s1.2.2.1,t15.2,s1.2.2.2.2.1,s1.2.2.2.2.2) () hg1 (Gh.le (bp (PLe.of2 (pD.of_eq (congrArg (PV.own 0 g_data) z92_0))) (ao (ao (ao (ao (ao aL)))))) aw (aD ax))
  refine al (aa (ab (ag 4 tk Z ?_)))
  obtain⟨x99,h99,H⟩:=am H
  have s99:=nm g_data t19.1 s1.2.1 s1.2.2.1 t16.2.1 _ h99
  obtain⟨_,q99_0,H⟩:=am H
  have l99_0:=(bG q99_0).1;have z99_0:(List.map aA t19.1).length=(List.map aA x99.2.2).length:=by simpa using(l99_0).symm
  refine bB (g:=86) Z Z Z call86 [] [(0,0)] Z Z Z Z (jt.of2 (jN.cons (pD.own Z) (jN.cons (pD.of_eq Z) (jN.cons (pD.of_eq Z) (jN.cons (pD.of_eq Z) jN.nil))))) (by rw[bq,aW,bn];rfl) s99 ?_;rintro u99 H99h ⟨rfl,rfl⟩
  refine⟨_,rfl,?_⟩
  refine bS (st':=⟨_,_,fun _=>none,upd (fun _=>none) 0 (some ⟨g_data,9,(x99.2.2.map aA),true⟩)⟩) (Gh.le (bs _ _) aw (aD ax)) ?_;refine ag 5 tk Z (ac (ak 2 tk Z (ak 8 tk Z (ak 3 tk Z (ak 3 tk Z ?_)))));refine aF Z H (fun H=>?_) (fun H=>?_)
  ·refine ak 4 tk Z (aa (ab (ag 4 tk Z ?_)))
   obtain⟨x121,h121,H⟩:=am H
   have s121:=hrec54 g_data x99.2.2 s1.2.1 x99.1 t15.2 _ h121
   obtain⟨_,q121_0,H⟩:=am H
   have l121_0:=(bG q121_0).1;have z121_0:(List.map aA x99.2.2).length=(List.map aA x121).length:=by simpa using(l121_0).symm
   refine bB (g:=54) Z Z Z call54 [] [(0,0)] Z Z Z Z (jt.of2 (jN.cons (pD.own z99_0) (jN.cons (pD.of_eq Z) (jN.cons (pD.of_eq Z) (jN.cons (pD.of_eq Z) jN.nil))))) (by rw[bq,aW,bn];rfl) s121 ?_;rintro u121 H121h ⟨rfl,rfl⟩
   refine⟨_,rfl,?_⟩
   refine bS (st':=⟨_,_,fun _=>none,upd (fun _=>none) 0 (some ⟨g_data,9,(x121.map aA),true⟩)⟩) (Gh.le (bs _ _) aw (aD ax)) ?_;refine ac (bc 3 tk Z (aM ?_));obtain rfl:=aq H;refine ce (x121,(iw (x99.1+(1:Int))),s1.2.2.1,t15.2,(decide ((iw (x99.1-s1.2.1))>=(iw (Int.tdiv (iw (s1.2.2.1-s1.2.1)) (8:Int))))),x99.2.1) () hg1 (Gh.le (bp (PLe.of2 (pD.of_eq (congrArg (PV.own 0 g_data) (z99_0.trans z121_0)))) (ao (ao (ao (ao (ao aL)))))) aw (aD ax))
  refine ak 4 tk Z (aa (ab (ag 5 tk Z ?_)))
  obtain⟨x132,h132,H⟩:=am H
  have s132:=hrec54 g_data x99.2.2 (iw (x99.1+(1:Int))) s1.2.2.1 t15.2 _ h132
  obtain⟨_,q132_0,H⟩:=am H
  have l132_0:=(bG q132_0).1;have z132_0:(List.map aA x99.2.2).length=(List.map aA x132).length:=by simpa using(l132_0).symm
  refine bB (g:=54) Z Z Z call54 [] [(0,0)] Z Z Z Z (jt.of2 (jN.cons (pD.own z99_0) (jN.cons (pD.of_eq Z) (jN.cons (pD.of_eq Z) (jN.cons (pD.of_eq Z) jN.nil))))) (by rw[bq,aW,bn];rfl) s132 ?_;rintro u132 H132h ⟨rfl,rfl⟩
  refine⟨_,rfl,?_⟩
  refine bS (st':=⟨_,_,fun _=>none,upd (fun _=>none) 0 (some ⟨g_data,9,(x132.map aA),true⟩)⟩) (Gh.le (bs _ _) aw (aD ax)) ?_;refine ac (bc 2 tk Z (aM ?_));obtain rfl:=aq H;refine ce (x132,s1.2.1,x99.1,t15.2,(decide ((iw (s1.2.2.1-x99.1))>=(iw (Int.tdiv (iw (s1.2.2.1-s1.2.1)) (8:Int))))),x99.2.1) () hg1 (Gh.le (bp (PLe.of2 (pD.of_eq (congrArg (PV.own 0 g_data) (z99_0.trans z132_0)))) (ao (ao (ao (ao (ao aL)))))) aw (aD ax))
 have H:=iW hn1 Hp1;obtain rfl:=aq H;refine bZ (st':=⟨134,fun _=>.any,fun _=>none,upd (fun _=>none) 0 (some ⟨g_data,9,(s1.1.map aA),true⟩)⟩) (Gh.le aL aw (aD ax)) ?_;refine iO Z (PLe.q Z) ⟨rfl,rfl⟩
def gB:Nat->Rs->Int->Int->Int->Option (Rs)
 |0,_,_,_,_=>none
 |n+1,v0,v1,v2,v3=>iQ (fun b0 b1 b2 b3=>gB n b0 b1 b2 b3) v0 v1 v2 v3
theorem nK  (n:Nat):(∀g0 a0 a1 a2 a3 r,gB n a0 a1 a2 a3=some r->PH prog 54 [(.own 0 g0 (a0.map aA).length),(ah a1),(ah a2),(ah a3)] ⟨fun _=>none,upd (fun _=>none) 0 (some ⟨g0,9,(a0.map aA),true⟩)⟩ (fun u H=>u=(.tup [])/\H=⟨fun _=>none,upd (fun _=>none) 0 (some ⟨g0,9,(r.map aA),true⟩)⟩)):=by
 induction n with
 |zero=>exact(by intros;rename_i h;exact absurd (show(none:Option _)=some _ from h) (by simp))
 |succ n ih=>
  exact(fun g0 v0 v1 v2 v3 r h=>nL g0 (fun b0 b1 b2 b3=>gB n b0 b1 b2 b3) ih v0 v1 v2 v3  r h)
def kN(data:Rs)(a:Int)(b:Int)(limit:Int):Option (Rs):=ia fun n=>gB n data a b limit
theorem oe(g_data:OwnRef)(data:Rs)(a:Int)(b:Int)(limit:Int)(r:Rs)(H:kN data a b limit=some r):
  PH prog 54 [(.own 0 g_data (data.map aA).length),(ah a),(ah b),(ah limit)] ⟨fun _=>none,upd (fun _=>none) 0 (some ⟨g_data,9,(data.map aA),true⟩)⟩ (fun u H=>u=(.tup [])/\H=⟨fun _=>none,upd (fun _=>none) 0 (some ⟨g_data,9,(r.map aA),true⟩)⟩):=by
 obtain⟨n,h⟩:=jh H
 exact(nK  n) g_data data a b limit r h
def ir(sA:LSchema)(vars:List LCol)(q:LQuery):Option ((List LCol)×Int):=
 ae (
  ae (jR q) fun x12=>
  cond (decide ((x12.length:Int)>(24:Int)))
   (some true)
   (ae (lV q) fun x17=>
   cond (decide (x17>(12:Int)))
    (some true)
    (ae (ik q) fun x22=>
    some (decide (x22>(20000:Int)))))) fun(t1:Bool)=>
 cond t1
  (some ([],2))
  (ae (fm q) fun x27=>
  cond (x27.2 !=(0:Int))
   (some ([],x27.2))
   (ae (fU (LChecker.mk sA vars) q) fun x38=>
   some (x38.1,x38.2)))
theorem ow(sA:LSchema)(vars:List LCol)(q:LQuery)(r:(List LCol)×Int)(H:ir sA vars q=some r):
  aY prog 98 [(.agg (da sA)),(.list 53 (vars.map aB)),(.agg (bg q))] (.tup [(.list 53 (r.1.map aB)),(ah r.2)]):=by
 unfold ir at H;refine PH.au func98 ntmps98 ?_;refine aa (ab (aO ?_));refine aO ?_;refine ag 2 tk Z (ac (aa (aa ?_)));refine ee (γ:=Unit) (fun t1 g1=>⟨41,upd (upd (upd (upd (fun _=>.any) 24 (aK t1)) 5 (.ptr (bg q))) 3 (.ptr (da sA))) 1 (.list 53 (vars.map aB)),fun _=>none,fun _=>none⟩) H (fun _ H=>?_) (fun t1 g1 H=>?_)
 ·refine ab (ai tk Z ?_)
  obtain⟨x12,h12,H⟩:=am H
  have s12:=pC (m:=12) q _ h12;refine aj call53 (jt.r) (PFun.iw s12) ?_;refine aI tk (zl _) ?_;refine ag 2 tk Z ?_;refine bu Z Z Z H (fun H=>?_) (fun H=>?_)
  ·refine ag 9 tk Z (ac ?_);refine aP _ () (aq H) Gh.d
  refine ai tk Z ?_
  obtain⟨x17,h17,H⟩:=am H
  have s17:=W_query_depth q _ h17;refine aj call123 (jt.r) s17 ?_;refine ag 3 tk Z ?_;refine bu Z Z Z H (fun H=>?_) (fun H=>?_)
  ·refine ag 4 tk Z (ac ?_);refine aP _ () (aq H) Gh.d
  refine ai tk Z ?_
  obtain⟨x22,h22,H⟩:=am H
  have s22:=pp q _ h22;refine aj call124 (jt.r) s22 ?_;refine ag 2 tk Z (ac ?_);refine aP _ () (aq H) Gh.d
 refine aF Z H (fun H=>?_) (fun H=>?_)
 ·refine ak 2 tk Z ?_;obtain rfl:=aq H;refine bl tk Z (ps:=[(.val (.slice none 0 0)),(ah 2)]) ⟨_,_,rfl,rfl,_,_,rfl,rfl,rfl⟩ (PLe.of2 (pD.tup (jN.cons (pD.nil tk Z) (jN.cons (pD.of_eq Z) jN.nil))))
 refine al (aa (aa (ab (ai tk Z ?_))))
 obtain⟨x27,h27,H⟩:=am H
 have s27:=kX q _ h27;refine aj call125 (jt.r) s27 ?_;refine ag 5 tk Z (ac (ak 2 tk Z ?_));refine aF Z H (fun H=>?_) (fun H=>?_)
 ·refine ak 3 tk Z ?_;obtain rfl:=aq H;refine bl tk Z (ps:=[(.val (.slice none 0 0)),(ah x27.2)]) ⟨_,_,rfl,rfl,_,_,rfl,rfl,rfl⟩ (PLe.of2 (pD.tup (jN.cons (pD.nil tk Z) (jN.cons (pD.of_eq Z) jN.nil))))
 refine al (aa (ab (ag 3 tk Z ?_)));refine bm tk fun b10=>?_
 refine ay tk ?_;refine ac (aa (ab (aJ tk ?_)));refine ai tk Z ?_
 obtain⟨x38,h38,H⟩:=am H
 have s38:=mS (LChecker.mk sA vars) q _ h38;refine aj call126 (jt.r) s38 ?_;refine ag 4 tk Z (ac ?_);exact bi tk H Z
def iD(rA:LRun)(q:LQuery):Option ((List LCol)):=
 ae (fU (LChecker.mk rA.s rA.vars) q) fun x14=>
 some x14.1
theorem nv(rA:LRun)(q:LQuery)(r:(List LCol))(H:iD rA q=some r):
  aY prog 159 [(.agg (eP rA)),(.agg (bg q))] (.list 53 (r.map aB)):=by
 unfold iD at H;refine PH.au func159 ntmps159 ?_;refine aa (ab (aO ?_));refine aO ?_;refine ai tk Z (ac (aa (ab (ag 6 tk Z ?_))))
 obtain⟨x14,h14,H⟩:=am H
 have s14:=mS (LChecker.mk rA.s rA.vars) q _ h14;refine aj call126 (jt.r) s14 ?_;refine ag 5 tk Z (ac (ak 2 tk Z ?_));exact bi tk H Z
def gI(rA:LProcedureRun)(c:LChange):Option (Int×LProcedureRun):=
 cond ((rA.changes.length:Int)==(24:Int))
  (some (2,rA))
  (ae (kl rA.s rA.st ([c]:List LChange)) fun x24=>
  cond (x24.2 !=(0:Int))
   (some (x24.2,rA))
   (ae (dq 72 rA.changes ([c]:List LChange)) fun(x39:List LChange)=>
   some (0,(LProcedureRun.mk rA.s x24.1 rA.args rA.vars rA.vals x39 rA.results rA.left rA.stopped))))
theorem nC(b_rA:Nat)(g_rA_7:OwnRef)(g_rA_8:OwnRef)(rA:LProcedureRun)(c:LChange)(r:Int×LProcedureRun)(H:gI rA c=some r):
  PH prog 73 [(.box 1500 b_rA 0),(.agg (cu c))] ⟨(bR b_rA rA g_rA_7 g_rA_8),(oR rA g_rA_7 g_rA_8)⟩ (fun u H=>∃gz0_7,∃gz0_8,u=(ah r.1)/\H=⟨(bR b_rA r.2 gz0_7 gz0_8),(oR r.2 gz0_7 gz0_8)⟩):=by
 unfold gI at H;refine PH.au func73 ntmps73 ?_;refine aa (ab (aO ?_));refine ai tk Z (ac (aa (aa (ab (ag 3 tk Z (aJ tk ?_))))));refine eg tk (zl _) ?_;refine ai tk Z (ac ?_);refine aF Z H (fun H=>?_) (fun H=>?_)
 ·refine ak 1 tk Z ?_;obtain rfl:=aq H;refine bZ (st':=⟨44,upd (fun _=>.any) 4 (ah 2),(bR b_rA rA g_rA_7 g_rA_8),(oR rA g_rA_7 g_rA_8)⟩) (Gh.le (ao aL) (aR Z (jt.r) aw) (aD (aD ax))) ?_;refine cl tk Z (ps:=[(ah 2)]) ⟨_,_,rfl,rfl,rfl⟩ (PLe.q Z) ⟨_,_,rfl,rfl⟩
 refine al (aa (aX tk mok ⟨true,false,[22]⟩ [0,1,2,3,4,5,6,7,8,9,10,11,12,13,14,15] Z (by decide+kernel) Z (az 3 Z (bd ?_))));refine az 3 Z (bd ?_);refine az 2 Z ?_
 obtain⟨x24,h24,H⟩:=am H
 have s24:=rK rA.s rA.st ([c]:List LChange) _ h24;refine aS call7 (jt.r) s24 ?_;refine az 5 Z (aQ (aa (ak 2 tk Z ?_)));refine aF Z H (fun H=>?_) (fun H=>?_)
 ·refine ak 2 tk Z ?_;obtain rfl:=aq H;refine bZ (st':=⟨44,upd (fun _=>.any) 4 (ah x24.2),(bR b_rA rA g_rA_7 g_rA_8),(oR rA g_rA_7 g_rA_8)⟩) (Gh.le (ao aL) (aR Z (jt.r) aw) (aD (aD ax))) ?_;refine cl tk Z (ps:=[(ah x24.2)]) ⟨_,_,rfl,rfl,rfl⟩ (PLe.q Z) ⟨_,_,rfl,rfl⟩
 refine al (aa (aX tk mok ⟨true,false,[37]⟩ [0,1,2,3,4,5,6,7,8,9,10,11,12,13,14,15] Z (by decide+kernel) Z (az 6 Z (bd ?_))));refine az 2 Z ?_
 obtain⟨x39,h39,H⟩:=am H
 have k39:=cj h39;refine gz (rows2':=List.map cu ([c]:List LChange)) (rows':=List.map cu x39) tk Z Z Z Z Z Z Z Z Z Z Z Z Z Z (gP.refl _) (cU k39.1) (cW k39.2.1) (cV k39.2.2) fun g39=>?_
 refine az 2 Z (fM Z Z Z Z Z Z Z Z Z Z Z Z (az 2 Z (fM Z Z Z Z Z Z Z Z Z Z Z Z (aQ (ak 1 tk Z ?_)))));obtain rfl:=aq H;refine bZ (st':=⟨44,upd (fun _=>.any) 4 (ah 0),upd (fun _=>none) 1500 (some ⟨b_rA,[(.list 56 ((((LProcedureRun.mk rA.s x24.1 rA.args rA.vars rA.vals x39 rA.results rA.left rA.stopped).s).tables).map bM)),(.list 99 ((((LProcedureRun.mk rA.s x24.1 rA.args rA.vars rA.vals x39 rA.results rA.left rA.stopped).s).foreignKeys).map gW)),(.list 105 ((((LProcedureRun.mk rA.s x24.1 rA.args rA.vars rA.vals x39 rA.results rA.left rA.stopped).s).constraints).map iK)),(.list 69 (((LProcedureRun.mk rA.s x24.1 rA.args rA.vars rA.vals x39 rA.results rA.left rA.stopped).st).map bW)),(.list 58 (((LProcedureRun.mk rA.s x24.1 rA.args rA.vars rA.vals x39 rA.results rA.left rA.stopped).args).map af)),(.list 53 (((LProcedureRun.mk rA.s x24.1 rA.args rA.vars rA.vals x39 rA.results rA.left rA.stopped).vars).map aB)),(.list 58 (((LProcedureRun.mk rA.s x24.1 rA.args rA.vars rA.vals x39 rA.results rA.left rA.stopped).vals).map af)),(.own 1607 g39 (x39.map cu).length),(.own 1608 g_rA_8 (rA.results.map cN).length),(ah ((LProcedureRun.mk rA.s x24.1 rA.args rA.vars rA.vals x39 rA.results rA.left rA.stopped).left)),(aK ((LProcedureRun.mk rA.s x24.1 rA.args rA.vars rA.vals x39 rA.results rA.left rA.stopped).stopped))]⟩),upd (upd (fun _=>none) 1608 (some ⟨g_rA_8,180,(rA.results.map cN),true⟩)) 1607 (some ⟨g39,48,(x39.map cu),true⟩)⟩) (Gh.le (ao aL) (aR Z (jt.r) aw) (aD (aD ax))) ?_;refine cl tk Z (ps:=[(ah 0)]) ⟨_,_,rfl,rfl,rfl⟩ (PLe.q Z) ⟨_,_,rfl,rfl⟩
def gY(x:Rs):Option (Rs):=
 ae (ml (IntKind.u64.wrap (x.length:Int))) fun x9=>
 ae (kN x 0 (x.length:Int) x9) fun x10=>
 ae (cF (x10.length=x.length) ()) fun(_:Unit)=>
 some x10
theorem lC(g_x:OwnRef)(x:Rs)(r:Rs)(H:gY x=some r):
  PH prog 28 [(.own 0 g_x (x.map aA).length)] ⟨fun _=>none,upd (fun _=>none) 0 (some ⟨g_x,9,(x.map aA),true⟩)⟩ (fun u H=>u=(.tup [])/\H=⟨fun _=>none,upd (fun _=>none) 0 (some ⟨g_x,9,(r.map aA),true⟩)⟩):=by
 unfold gY at H;refine PH.au func28 ntmps28 ?_;refine aa (ab (ai tk Z (eg tk (zl _) ?_)));refine ai tk Z (ac (ab (ag 4 tk Z ?_)))
 obtain⟨x9,h9,H⟩:=am H
 have s9:=qW (IntKind.u64.wrap (x.length:Int)) _ h9;refine aj call55 (jt.r) s9 ?_
 obtain⟨x10,h10,H⟩:=am H
 have s10:=oe g_x x 0 (x.length:Int) x9 _ h10
 obtain⟨_,q10_0,H⟩:=am H
 have l10_0:=(bG q10_0).1;have z10_0:(List.map aA x).length=(List.map aA x10).length:=by simpa using(l10_0).symm
 refine bB (g:=54) Z Z Z call54 [] [(0,0)] Z Z Z Z (jt.of2 (jN.cons (pD.own Z) (jN.cons (pD.of_eq Z) (jN.cons (pD.of_eq Z) (jN.cons (pD.of_eq Z) jN.nil))))) (by rw[bq,aW,bn];rfl) s10 ?_;rintro u10 H10h ⟨rfl,rfl⟩
 refine⟨_,rfl,?_⟩
 refine bS (st':=⟨_,_,fun _=>none,upd (fun _=>none) 0 (some ⟨g_x,9,(x10.map aA),true⟩)⟩) (Gh.le (bs _ _) aw (aD ax)) ?_;refine ac ?_;obtain rfl:=aq H;refine bZ (st':=⟨11,fun _=>.any,fun _=>none,upd (fun _=>none) 0 (some ⟨g_x,9,(x10.map aA),true⟩)⟩) (Gh.le aL aw (aD ax)) ?_;refine iO Z (PLe.q Z) ⟨rfl,rfl⟩
end
end Go.Proofs.YtafdcemcgfbhcaaGreat
