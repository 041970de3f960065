/- procedureSequenceUpto_holds, part 5: the layer, the plain functions and what they compute; conditions as in the statement. -/
import Derived.Test.YtafdcemcgfbhcaaGreatDoorSed
set_option maxHeartbeats 4000000
namespace Go.Proofs.YtafdcemcgfbhcaaGreatDoor
noncomputable section
open Go Go.Ab Go.Proofs.Tryz
attribute [local irreducible] V Ao Do Gh Eff PH IntKind.wrap
set_option maxRecDepth 4000
def jM(a:Rq)(b:Rq)(downs:List Bool):Option (Int):=
 aa (au (σ:=Unit) (ρ:=(Int)) (fun(j1:Nat) (x1:LVal) (_:Unit)=>
  aa (
   cond (decide ((j1:Int)>=(b.length:Int)))
    (some true)
    (aa (ax b (j1:Int)) fun(x25:LVal)=>
    some (x1.kind==x25.kind&&(x1.int==x25.int&&(x1.text==x25.text&&true))))) fun(t3:Bool)=>
  cond t3
   (some (.next ()))
   (aa (ax b (j1:Int)) fun(x35:LVal)=>
   letP (nW x1 x35) fun x37=>
   cond (decide ((j1:Int)<(downs.length:Int)))
    (aa (ax downs (j1:Int)) fun(x45:Bool)=>
    cond x45
     (cond (!x37)
      (some (.ret (-1)))
      (some (.ret 1)))
     (cond x37
      (some (.ret (-1)))
      (some (.ret 1))))
    (cond x37
     (some (.ret (-1)))
     (some (.ret 1))))) 0 a ()) fun fl1=>fl1.thenR fun(_:Unit)=>
 some 0
theorem uL(a:Rq)(b:Rq)(downs:List Bool)(r:Int)(H:jM a b downs=some r):
  aC prog 219 [(.list 69 (a.map ab)),(.list 69 (b.map ab)),(.list 4 (downs.map rBool))] (ac r):=by
 unfold jM at H;refine PH.ak func219 ntmps219 ?_;refine go ?_;refine fg U 11 10 0 (fun s1 g1=>upd (upd (fun _=>.any) 2 (.list 4 (downs.map rBool))) 1 (.list 69 (b.map ab))) nB nO () H (fun fl1 Hp1 j1 s1 g1 hz1 hl1 x1 fb1 hx1 H hg1=>?_) (fun s1 g1 H=>?_)
 ·refine al (aG (dp 2 U Z (al (al ?_))));refine fQ (γ:=Unit) (fun t3 g3=>⟨52,upd (upd (upd (upd (upd (upd (upd (fun _=>.any) 28 (az t3)) 11 (ac (j1:Int))) 10 (ac (a.length:Int))) 7 (ac (j1:Int))) 2 (.list 4 (downs.map rBool))) 1 (.list 69 (b.map ab))) 0 (.list 69 (a.map ab)),fun _=>none,fun _=>none⟩) H (fun _ H=>?_) (fun t3 g3 H=>?_)
  ·refine bK ⟨false,false,[]⟩ [0,1,2,3,4,5,6,7,8,9,10,11,12,13,14] ?_;refine go ?_;refine nh H (fun H=>?_) (fun H=>?_)
   ·exact fA
   refine go ?_;refine pL (zn j1) (aQ (fun _=>Z) hx1) ?_;refine go ?_;refine bl (fun _=>Z) H (fun x25 H=>?_);exact fA
  refine wA Z H (fun H=>?_);refine go ?_;refine bK ⟨false,false,[]⟩ [0,1,2,3,4,5,6,7,8,9] ?_;refine go ?_;refine pL (zn j1) (aQ (fun _=>Z) hx1) ?_;refine go ?_;refine bl (fun _=>Z) H (fun x35 H=>?_);refine go ?_
  obtain⟨x37,h37,H⟩:=cI H
  have s37:=pe x1 x35;rw[h37]at s37;refine bI call246 (ip.r) s37 ?_;refine go ?_;refine aN Z Z Z H (fun H=>?_) (fun H=>?_)
  ·refine go ?_;refine ec U (fun _=>Z) H (fun x45 H=>?_);refine go ?_;refine aI Z H (fun H=>?_) (fun H=>?_)
   ·refine go ?_;exact na Z H (fun H=>lvR H hg1 Hp1) (fun H=>lvR H hg1 Hp1)
   refine go ?_;exact na Z H (fun H=>lvR H hg1 Hp1) (fun H=>lvR H hg1 Hp1)
  refine go ?_;refine bj Z (go ?_);exact na Z H (fun H=>lvR H hg1 Hp1) (fun H=>lvR H hg1 Hp1)
 exact fS
def cU(data:Rz)(a:Int)(b:Int)(cmp:Rq->Rq->Option (Int)):Option (Rz):=
 aa (gX (σ:=Rz×Int) (ρ:=Empty) (fun(s1:Rz×Int)=>
  cond (decide (s1.2<b))
   (aa (gX (σ:=Rz×Int) (ρ:=Empty) (fun(s22:Rz×Int)=>
    aa (
     cond (decide (s22.2>a))
      (aa (ax s22.1 s22.2) fun(x25:Rq)=>
      aa (ax s22.1 (Iw (s22.2-(1:Int)))) fun(x30:Rq)=>
      aa (cmp x25 x30) fun x32=>
      some (s22.1,(decide (x32<(0:Int)))))
      (some (s22.1,false))) fun(t29:Rz×Bool)=>
    cond t29.2
     (aa (ax t29.1 (Iw (s22.2-(1:Int)))) fun(x45:Rq)=>
     aa (ax t29.1 s22.2) fun(x49:Rq)=>
     aa (ax t29.1 s22.2) fun(_:Rq)=>
     letP (t29.1.set s22.2.toNat x45) fun(y30:Rz)=>
     aa (ax y30 (Iw (s22.2-(1:Int)))) fun(_:Rq)=>
     letP (y30.set ((Iw (s22.2-(1:Int))).toNat) x49) fun(y31:Rz)=>
     some (.next (y31,(Iw (s22.2-(1:Int))))))
     (some (.brk (t29.1,s22.2)))) (s1.1,s1.2)) fun fl22=>fl22.thenP fun(s22:Rz×Int)=>
   some (.next (s22.1,(Iw (s1.2+(1:Int))))))
   (some (.brk (s1.1,s1.2)))) (data,(Iw (a+(1:Int))))) fun fl1=>fl1.thenP fun(s1:Rz×Int)=>
 some s1.1
theorem jW(g_data:OwnRef){g_cmp:FuncId}{caps_cmp:List PV}(data:Rz)(a:Int)(b:Int)(cmp:Rq->Rq->Option (Int))(hg_cmp:∀(vs:Array Value) (w:World),(callFunc g_cmp vs).run prog w= .ok (.enter g_cmp vs) w)(hp_cmp:∀a0 a1 r,cmp a0 a1=some r->aC prog g_cmp ((.list 69 (a0.map ab))::(.list 69 (a1.map ab))::caps_cmp) (ac r))(r:Rz)(H:cU data a b cmp=some r):
  PH prog 267 [(.own 0 g_data (data.map rRr).length),(ac a),(ac b),(.fn g_cmp caps_cmp)] ⟨fun _=>none,upd (fun _=>none) 0 (some ⟨g_data,54,(data.map rRr),true⟩)⟩ (fun u H=>u=(.tup [])/\H=⟨fun _=>none,upd (fun _=>none) 0 (some ⟨g_data,54,(r.map rRr),true⟩)⟩):=by
 unfold cU at H;refine PH.ak func267 ntmps267 ?_;refine go ?_
 obtain⟨fl1,H1,Hp1⟩:=aA H
 refine fK (τ:=Rz×Int) (γ:=Unit) (fun s1 g1=>⟨53,upd (fun _=>.any) 0 (.own 0 g_data (s1.1.map rRr).length),fun _=>none,upd (fun _=>none) 0 (some ⟨g_data,54,(s1.1.map rRr),true⟩)⟩) (fun t=>fl1= .next t) ?_ (fun s1 g1 hn1=>?_)
 ·refine aG ?_;refine iZ (fun s1 g1=>⟨53,upd (upd (upd (upd (upd (fun _=>.any) 8 (ac s1.2)) 3 (.fn g_cmp caps_cmp)) 2 (ac b)) 1 (ac a)) 0 (.own 0 g_data (s1.1.map rRr).length),fun _=>none,upd (fun _=>none) 0 (some ⟨g_data,54,(s1.1.map rRr),true⟩)⟩) () H1 Gh.d (fun m1 s1 g1 hr1=>?_)
  obtain⟨fb1,H,hg1⟩:=gv hr1
  refine go ?_;refine aI Z H (fun H=>?_) (fun H=>?_)
  ·refine go ?_
   obtain⟨fl22,H22,Hp22⟩:=aA H
   refine fK (τ:=Rz×Int) (γ:=Unit) (fun s22 g22=>⟨53,upd (upd (upd (upd (upd (fun _=>.any) 8 (ac s1.2)) 3 (.fn g_cmp caps_cmp)) 2 (ac b)) 1 (ac a)) 0 (.own 0 g_data (s22.1.map rRr).length),fun _=>none,upd (fun _=>none) 0 (some ⟨g_data,54,(s22.1.map rRr),true⟩)⟩) (fun t=>fl22= .next t) ?_ (fun s22 g22 hn22=>?_)
   ·refine aG ?_;refine iZ (fun s22 g22=>⟨53,upd (upd (upd (upd (upd (upd (fun _=>.any) 9 (ac s22.2)) 8 (ac s1.2)) 3 (.fn g_cmp caps_cmp)) 2 (ac b)) 1 (ac a)) 0 (.own 0 g_data (s22.1.map rRr).length),fun _=>none,upd (fun _=>none) 0 (some ⟨g_data,54,(s22.1.map rRr),true⟩)⟩) () H22 Gh.d (fun m22 s22 g22 hr22=>?_)
    obtain⟨fb22,H,hg22⟩:=gv hr22
    refine al (al ?_);refine fQ (γ:=Unit) (fun t29 g29=>⟨53,upd (upd (upd (upd (upd (upd (upd (fun _=>.any) 34 (az t29.2)) 9 (ac s22.2)) 8 (ac s1.2)) 3 (.fn g_cmp caps_cmp)) 2 (ac b)) 1 (ac a)) 0 (.own 0 g_data (t29.1.map rRr).length),fun _=>none,upd (fun _=>none) 0 (some ⟨g_data,54,(t29.1.map rRr),true⟩)⟩) H (fun _ H=>?_) (fun t29 g29 H=>?_)
    ·refine ii (tag:=0) Z (fun ho0=>?_);refine bK ⟨false,true,[]⟩ [0,1,2,3,4,5,6,7,8,9,10,11,12,13,14,15,16] ?_;refine go ?_;refine nh H (fun H=>?_) (fun H=>?_)
     ·refine go ?_
      obtain⟨x25,k25,H⟩:=eC H
      refine cZ U ⟨k25.1,(dz k25.2)⟩ (dv ho0 k25.2) ?_;refine gC U Z Z Z Z Z Z Z Z Z (dJ (fun _=>Z) k25.2) Z Z ?_;refine go ?_
      obtain⟨x30,k30,H⟩:=eC H
      refine cZ U ⟨k30.1,(dz k30.2)⟩ (dv ho0 k30.2) ?_;refine gC U Z Z Z Z Z Z Z Z Z (dJ (fun _=>Z) k30.2) Z Z ?_
      obtain⟨x32,h32,H⟩:=aA H
      refine bI hg_cmp (ip.r) (hp_cmp _ _ _ h32) ?_;exact fA
     exact fA
    refine aI Z H (fun H=>?_) (fun H=>?_)
    ·refine aE (al (aG ?_));refine ii (tag:=0) Z (fun ho0=>?_);refine bK ⟨false,true,[]⟩ [0,1,2,3,4,5,6,7,8,9,10,11,12,13,14,15,16,17] ?_;refine go ?_
     obtain⟨x45,k45,H⟩:=eC H
     refine cZ U ⟨k45.1,(dz k45.2)⟩ (dv ho0 k45.2) ?_;refine gC U Z Z Z Z Z Z Z Z Z (dJ (fun _=>Z) k45.2) Z Z ?_;refine go ?_
     obtain⟨x49,k49,H⟩:=eC H
     refine cZ U ⟨k49.1,(dz k49.2)⟩ (dv ho0 k49.2) ?_;refine gC U Z Z Z Z Z Z Z Z Z (dJ (fun _=>Z) k49.2) Z Z ?_
     obtain⟨x51,k51,H⟩:=eC H
     refine cZ U ⟨k51.1,(dz k51.2)⟩ (dv ho0 k51.2) ?_
     obtain⟨y30,hy30,H⟩:=cI H
     refine je U Z Z Z Z Z Z Z Z Z (by rw[zl];exact(zg.1 k51.2).1) (PLe.refl _ _) Z Z Z Z (by decide) (eT (fun _=>Z) k51.2 Z hy30) ?_
     obtain⟨x52,k52,H⟩:=eC H
     refine cZ U ⟨k52.1,(tl (eZ (f:=rRr) hy30) k52.2)⟩ (vy ho0 (eZ (f:=rRr) hy30) k52.2) ?_
     obtain⟨y31,hy31,H⟩:=cI H
     refine je U Z Z Z Z Z Z Z Z Z (by rw[zl];exact(zg.1 k52.2).1) (PLe.refl _ _) Z Z Z Z (by decide) (eT (fun _=>Z) k52.2 Z hy31) ?_;refine go ?_;obtain rfl:=ay H;refine eR (y31,(Iw (s22.2-(1:Int)))) () hg22 (Gh.le (bh (PLe.of2 (PLe2.of_eq (congrArg (PV.own 0 g_data) ((eZ (f:=rRr) hy30).trans (eZ (f:=rRr) hy31))))) (aq (aq (aq (aq (aq bm)))))) aV (bJ aU))
    refine bd Z ?_;obtain rfl:=ay H;refine fc (t29.1,s22.2) () hg22 Gh.d
   have H:=ep hn22 Hp22;refine go ?_;obtain rfl:=ay H;refine eR (s22.1,(Iw (s1.2+(1:Int)))) () hg1 Gh.d
  refine bd Z ?_;obtain rfl:=ay H;refine fc (s1.1,s1.2) () hg1 Gh.d
 have H:=ep hn1 Hp1;obtain rfl:=ay H;refine cv (st':=⟨53,fun _=>.any,fun _=>none,upd (fun _=>none) 0 (some ⟨g_data,54,(s1.1.map rRr),true⟩)⟩) Gh.d ?_;refine mW Z (PLe.q Z) ⟨rfl,rfl⟩
def cM(data:Rz)(a:Int)(b:Int)(n:Int)(cmp:Rq->Rq->Option (Int)):Option (Rz):=
 aa (gX (σ:=Rz×Int) (ρ:=Empty) (fun(s1:Rz×Int)=>
  cond (decide (s1.2<n))
   (aa (ax s1.1 (Iw (b+s1.2))) fun(x28:Rq)=>
   aa (ax s1.1 (Iw (a+s1.2))) fun(x34:Rq)=>
   aa (ax s1.1 (Iw (a+s1.2))) fun(_:Rq)=>
   letP (s1.1.set ((Iw (a+s1.2)).toNat) x28) fun(y6:Rz)=>
   aa (ax y6 (Iw (b+s1.2))) fun(_:Rq)=>
   letP (y6.set ((Iw (b+s1.2)).toNat) x34) fun(y7:Rz)=>
   some (.next (y7,(Iw (s1.2+(1:Int))))))
   (some (.brk (s1.1,s1.2)))) (data,0)) fun fl1=>fl1.thenP fun(s1:Rz×Int)=>
 some s1.1
theorem iS(g_data:OwnRef){g_cmp:FuncId}{caps_cmp:List PV}(data:Rz)(a:Int)(b:Int)(n:Int)(cmp:Rq->Rq->Option (Int))(hg_cmp:∀(vs:Array Value) (w:World),(callFunc g_cmp vs).run prog w= .ok (.enter g_cmp vs) w)(hp_cmp:∀a0 a1 r,cmp a0 a1=some r->aC prog g_cmp ((.list 69 (a0.map ab))::(.list 69 (a1.map ab))::caps_cmp) (ac r))(r:Rz)(H:cM data a b n cmp=some r):
  PH prog 286 [(.own 0 g_data (data.map rRr).length),(ac a),(ac b),(ac n),(.fn g_cmp caps_cmp)] ⟨fun _=>none,upd (fun _=>none) 0 (some ⟨g_data,54,(data.map rRr),true⟩)⟩ (fun u H=>u=(.tup [])/\H=⟨fun _=>none,upd (fun _=>none) 0 (some ⟨g_data,54,(r.map rRr),true⟩)⟩):=by
 unfold cM at H;refine PH.ak func286 ntmps286 ?_;refine go ?_
 obtain⟨fl1,H1,Hp1⟩:=aA H
 refine fK (τ:=Rz×Int) (γ:=Unit) (fun s1 g1=>⟨38,upd (fun _=>.any) 0 (.own 0 g_data (s1.1.map rRr).length),fun _=>none,upd (fun _=>none) 0 (some ⟨g_data,54,(s1.1.map rRr),true⟩)⟩) (fun t=>fl1= .next t) ?_ (fun s1 g1 hn1=>?_)
 ·refine aG ?_;refine iZ (fun s1 g1=>⟨38,upd (upd (upd (upd (upd (fun _=>.any) 10 (ac s1.2)) 3 (ac n)) 2 (ac b)) 1 (ac a)) 0 (.own 0 g_data (s1.1.map rRr).length),fun _=>none,upd (fun _=>none) 0 (some ⟨g_data,54,(s1.1.map rRr),true⟩)⟩) () H1 Gh.d (fun m1 s1 g1 hr1=>?_)
  obtain⟨fb1,H,hg1⟩:=gv hr1
  refine go ?_;refine aI Z H (fun H=>?_) (fun H=>?_)
  ·refine aE (al (aG ?_));refine ii (tag:=0) Z (fun ho0=>?_);refine bK ⟨false,true,[]⟩ [0,1,2,3,4,5,6,7,8,9,10,11,12,13,14,15,16,17,18,19,20,21,22,23] ?_;refine go ?_
   obtain⟨x28,k28,H⟩:=eC H
   refine cZ U ⟨k28.1,(dz k28.2)⟩ (dv ho0 k28.2) ?_;refine gC U Z Z Z Z Z Z Z Z Z (dJ (fun _=>Z) k28.2) Z Z ?_;refine go ?_
   obtain⟨x34,k34,H⟩:=eC H
   refine cZ U ⟨k34.1,(dz k34.2)⟩ (dv ho0 k34.2) ?_;refine gC U Z Z Z Z Z Z Z Z Z (dJ (fun _=>Z) k34.2) Z Z ?_
   obtain⟨x36,k36,H⟩:=eC H
   refine cZ U ⟨k36.1,(dz k36.2)⟩ (dv ho0 k36.2) ?_
   obtain⟨y6,hy6,H⟩:=cI H
   refine je U Z Z Z Z Z Z Z Z Z (by rw[zl];exact(zg.1 k36.2).1) (PLe.refl _ _) Z Z Z Z (by decide) (eT (fun _=>Z) k36.2 Z hy6) ?_
   obtain⟨x37,k37,H⟩:=eC H
   refine cZ U ⟨k37.1,(tl (eZ (f:=rRr) hy6) k37.2)⟩ (vy ho0 (eZ (f:=rRr) hy6) k37.2) ?_
   obtain⟨y7,hy7,H⟩:=cI H
   refine je U Z Z Z Z Z Z Z Z Z (by rw[zl];exact(zg.1 k37.2).1) (PLe.refl _ _) Z Z Z Z (by decide) (eT (fun _=>Z) k37.2 Z hy7) ?_;refine go ?_;obtain rfl:=ay H;refine eR (y7,(Iw (s1.2+(1:Int)))) () hg1 (Gh.le (bh (PLe.of2 (PLe2.of_eq (congrArg (PV.own 0 g_data) ((eZ (f:=rRr) hy6).trans (eZ (f:=rRr) hy7))))) (aq (aq (aq (aq bm))))) aV (bJ aU))
  refine bd Z ?_;obtain rfl:=ay H;refine fc (s1.1,s1.2) () hg1 Gh.d
 have H:=ep hn1 Hp1;obtain rfl:=ay H;refine cv (st':=⟨38,fun _=>.any,fun _=>none,upd (fun _=>none) 0 (some ⟨g_data,54,(s1.1.map rRr),true⟩)⟩) Gh.d ?_;refine mW Z (PLe.q Z) ⟨rfl,rfl⟩
def gK(t:LTable)(c0:LS):Bool:=
 (t.name==c0.table)
theorem sG(t:LTable)(c0:LS):
  aC prog 185 [(.agg (bq t)),(.ptr (am c0))] (az (gK t c0)):=by
 obtain⟨r,H⟩:∃r,gK t c0=r:=⟨_,rfl⟩
 rw[H];unfold gK at H;refine PH.ak func185 ntmps185 ?_;refine gB ?_;exact pW U H Z
def gM(x:LCol)(c0:LS)(c1:Int):Option (Bool):=
 aa (ax c0.names c1) fun(x10:Rb)=>
 some (x.name==x10)
theorem sJ(x:LCol)(c0:LS)(c1:Int)(r:Bool)(H:gM x c0 c1=some r):
  aC prog 186 [(.agg (ap x)),(.ptr (am c0)),(.ptr [(ac c1)])] (az r):=by
 unfold gM at H;refine PH.ak func186 ntmps186 ?_;refine gB ?_;refine bK ⟨false,false,[]⟩ [0,1,2,3,4,5,6,7,8] ?_;refine go ?_;refine bl (fun _=>Z) H (fun x10 H=>?_);exact fS
def gm(n:Int):Int:=
 (Iw ((100:Int)+n))
theorem rX(n:Int):
  aC prog 130 [(ac n)] (ac (gm n)):=by
 obtain⟨r,H⟩:∃r,gm n=r:=⟨_,rfl⟩
 rw[H];unfold gm at H;refine PH.ak func130 ntmps130 ?_;exact fE H
theorem grow_49{m:Nat}{u:Unit}(n:Int)(h:nT 72 n=some u):iv prog 49 [.val (.slice none 0 0),ac n] (lf m 56 []):=by
 have hn:=qP h
 have hw:Iw (n-Iw ((0:Int)-0))=n:=by
  have e0:Iw ((0:Int)-0)=0:=Ww (by omega) (by omega);rw[e0,Int.sub_zero,Ww (by omega) (by unfold maxLen at hn;omega)]
 refine PH.ak func49 ntmps49 ?_;refine go ?_;refine aY Z (fun h=>?_) (fun h=>?_)
 ·exfalso;have:=of_decide_eq_true h;omega
 refine go ?_;refine rk U Z Z Z Z Z Z (cC 4 U Z (jA 14 (q:=ac n) Z (PLe.q (congrArg ac hw)) (go ?_)));refine aY Z (fun h=>?_) (fun h=>?_)
 ·refine go ?_;refine rk U Z Z Z Z Z Z (wR U Z Z Z Z Z Z Z Z (go ?_));refine pZ U Z Z Z Z Z Z Z Z Z Z Z Z Z Z Z (of_decide_eq_true h) hn.2.1 hn.2.2 fun g=>?_
  refine go ?_;refine wQ U Z Z Z Z Z Z Z Z Z ⟨Int.le_refl 0,Nat.zero_le _⟩ Z Z Z (aD U Z (ao (dp 2 U Z ?_)));refine hP U Z
 ·refine aE (dp 2 U Z (iy U 4 904 (e:=56) Z Z ?_));refine hP U Z
def bA(s1A:List LChange)(s2A:List LChange)(eq:LChange->LChange->Option (Bool)):Option (Bool):=
 cond ((s1A.length:Int) !=(s2A.length:Int))
  (some false)
  (aa (au (σ:=Unit) (ρ:=(Bool)) (fun(j1:Nat) (x1:LChange) (_:Unit)=>
   aa (ax s2A (j1:Int)) fun(x24:LChange)=>
   aa (eq x1 x24) fun x29=>
   cond (!x29)
    (some (.ret false))
    (some (.next ()))) 0 s1A ()) fun fl1=>fl1.thenR fun(_:Unit)=>
  some true)
theorem ja{g_eq:FuncId}{caps_eq:List PV}(s1A:List LChange)(s2A:List LChange)(eq:LChange->LChange->Option (Bool))(hg_eq:∀(vs:Array Value) (w:World),(callFunc g_eq vs).run prog w= .ok (.enter g_eq vs) w)(hp_eq:∀a0 a1 r,eq a0 a1=some r->aC prog g_eq ((.agg (bW a0))::(.agg (bW a1))::caps_eq) (az r))(r:Bool)(H:bA s1A s2A eq=some r):
  aC prog 17 [(.list 56 (s1A.map bW)),(.list 56 (s2A.map bW)),(.fn g_eq caps_eq)] (az r):=by
 unfold bA at H;refine PH.ak func17 ntmps17 ?_;refine go ?_;refine bG Z H ay (fun H=>?_);refine go ?_;refine fg U 17 16 15 (fun s1 g1=>upd (upd (fun _=>.any) 2 (.fn g_eq caps_eq)) 1 (.list 56 (s2A.map bW))) nB nO () H (fun fl1 Hp1 j1 s1 g1 hz1 hl1 x1 fb1 hx1 H hg1=>?_) (fun s1 g1 H=>?_)
 ·refine go ?_;refine aW U (zn j1) (aQ (fun _=>Z) hx1) ?_;refine go ?_;refine aM U fun b8=>?_
  refine go ?_;refine ec U (fun _=>Z) H (fun x24 H=>?_);refine go ?_;refine aM U fun b9=>?_
  refine go ?_
  obtain⟨x29,h29,H⟩:=aA H
  refine ag hg_eq (ip.r) (hp_eq _ _ _ h29) ?_;refine go ?_;refine bG Z H (fun H=>lvR H hg1 Hp1) (fun H=>?_);exact fN
 exact fS
def iK(t:LTable)(name:Rb):Option (Int×Bool):=
 aa (bf t.columns (fun a0=>some (eY a0 name))) fun x10=>
 some ((if(0:Int)>x10 then(0:Int)else x10),(decide (x10>=(0:Int))))
theorem uI(t:LTable)(name:Rb)(r:Int×Bool)(H:iK t name=some r):
  aC prog 106 [(.agg (bq t)),(.str name)] (.tup [(ac r.1),(az r.2)]):=by
 unfold iK at H;refine PH.ak func106 ntmps106 ?_;refine gB ?_;refine aB call170 (ip.r) (dy t.columns (fun a0=>some (eY a0 name)) call171 (fun a0 r h=>(ay h)▸tH a0 name)) H (fun x10 H=>?_);exact fS
def dH(sA:LSchema)(name:Rb):Option (Int×Bool):=
 aa (ck sA.tables (fun a0=>some (cd a0 name))) fun x10=>
 some ((if(0:Int)>x10 then(0:Int)else x10),(decide (x10>=(0:Int))))
theorem kr(sA:LSchema)(name:Rb)(r:Int×Bool)(H:dH sA name=some r):
  aC prog 28 [(.agg (cf sA)),(.str name)] (.tup [(ac r.1),(az r.2)]):=by
 unfold dH at H;refine PH.ak func28 ntmps28 ?_;refine gB ?_;refine aB call55 (ip.r) (eM sA.tables (fun a0=>some (cd a0 name)) call56 (fun a0 r h=>(ay h)▸tT a0 name)) H (fun x10 H=>?_);exact fS
def ji(a:LF)(b:LF):Option (Bool):=
 cond (a.table==b.table)
  (aa (iw a.columns b.columns) fun x15=>
  cond x15
   (some (a.refTable==b.refTable))
   (some false))
  (some false)
theorem qY(a:LF)(b:LF)(r:Bool)(H:ji a b=some r):
  aC prog 75 [(.agg (jX a)),(.agg (jX b))] (az r):=by
 unfold ji at H;refine PH.ak func75 ntmps75 ?_;refine gB ?_;refine aN Z Z Z H (fun H=>?_) (fun H=>?_)
 ·refine go ?_;refine aB call108 (ip.r) (rW a.columns b.columns) H (fun x15 H=>?_);refine go ?_;refine aN Z Z Z H (fun H=>?_) (fun H=>?_)
  ·exact fS
  exact fS
 exact fS
def cj(sA:List LF)(f:LF->Option (Bool)):Option (Bool):=
 aa (dA sA f) fun x7=>
 some (decide (x7>=(0:Int)))
theorem kE{g_f:FuncId}{caps_f:List PV}(sA:List LF)(f:LF->Option (Bool))(hg_f:∀(vs:Array Value) (w:World),(callFunc g_f vs).run prog w= .ok (.enter g_f vs) w)(hp_f:∀a0 r,f a0=some r->aC prog g_f ((.agg (jX a0))::caps_f) (az r))(r:Bool)(H:cj sA f=some r):
  aC prog 73 [(.list 145 (sA.map jX)),(.fn g_f caps_f)] (az r):=by
 unfold cj at H;refine PH.ak func73 ntmps73 ?_;refine go ?_;refine aB call107 (ip.r) (kS sA f hg_f hp_f) H (fun x7 H=>?_);exact fS
def kI(a:Rb)(b:Rb):Int:=
 letP (eP a b) fun x7=>
 x7
theorem vU(a:Rb)(b:Rb):
  aC prog 172 [(.str a),(.str b)] (ac (kI a b)):=by
 obtain⟨r,H⟩:∃r,kI a b=r:=⟨_,rfl⟩
 rw[H];unfold kI at H;refine PH.ak func172 ntmps172 ?_;refine go ?_
 obtain⟨x7,h7,H⟩:=cI H
 have s7:=ol a b;rw[h7]at s7;refine ag call220 (ip.r) s7 ?_;exact fE H
def cw(sA:List LK)(v:LK):Option (Bool):=
 aa (dQ sA v) fun x7=>
 some (decide (x7>=(0:Int)))
theorem kW(sA:List LK)(v:LK)(r:Bool)(H:cw sA v=some r):
  aC prog 77 [(.list 151 (sA.map ln)),(.agg (ln v))] (az r):=by
 unfold cw at H;refine PH.ak func77 ntmps77 ?_;refine gB ?_;refine aB call111 (ip.r) (lL sA v) H (fun x7 H=>?_);exact fS
def dC(t:LTable)(row:Rq):Option (Int):=
 cond ((row.length:Int) !=(t.columns.length:Int))
  (some 3)
  (aa (au (σ:=Unit) (ρ:=(Int)) (fun(j1:Nat) (x1:LVal) (_:Unit)=>
   letP (da x1) fun x22=>
   cond (x22 !=(0:Int))
    (some (.ret x22))
    (aa (
     cond (x1.kind==(0:Int))
      (aa (ax t.columns (j1:Int)) fun(x33:LCol)=>
      some (!x33.nullable))
      (some false)) fun(t3:Bool)=>
    cond t3
     (some (.ret 8))
     (cond (x1.kind !=(0:Int))
      (aa (ax t.columns (j1:Int)) fun(x47:LCol)=>
      cond (x1.kind !=x47.kind)
       (some (.ret 7))
       (some (.next ())))
      (some (.next ()))))) 0 row ()) fun fl1=>fl1.thenR fun(_:Unit)=>
  some 0)
theorem nL(t:LTable)(row:Rq)(r:Int)(H:dC t row=some r):
  aC prog 78 [(.agg (bq t)),(.list 69 (row.map ab))] (ac r):=by
 unfold dC at H;refine PH.ak func78 ntmps78 ?_;refine gB ?_;refine bG Z H ay (fun H=>?_);refine go ?_;refine fg U 16 15 14 (fun s1 g1=>upd (fun _=>.any) 2 (.ptr (bq t))) nB nO () H (fun fl1 Hp1 j1 s1 g1 hz1 hl1 x1 fb1 hx1 H hg1=>?_) (fun s1 g1 H=>?_)
 ·refine go ?_;refine aW U (zn j1) (aQ (fun _=>Z) hx1) ?_;refine go ?_;refine aM U fun b6=>?_
  refine go ?_
  obtain⟨x22,h22,H⟩:=cI H
  have s22:=od x1;rw[h22]at s22;refine ag call110 (ip.r) s22 ?_;refine go ?_;refine bG Z H (fun H=>lvR H hg1 Hp1) (fun H=>?_);refine aE (al (al ?_));refine fQ (γ:=Unit) (fun t3 g3=>⟨53,upd (upd (upd (upd (upd (upd (upd (fun _=>.any) 37 (az t3)) 16 (ac (j1:Int))) 15 (ac (row.length:Int))) 14 (.list 69 (row.map ab))) 6 (.box 6 b6 0)) 5 (ac (j1:Int))) 2 (.ptr (bq t)),upd (fun _=>none) 6 (some ⟨b6,(ab x1)⟩),fun _=>none⟩) H (fun _ H=>?_) (fun t3 g3 H=>?_)
  ·refine go ?_;refine aN Z Z Z H (fun H=>?_) (fun H=>?_)
   ·refine go ?_;refine ec U (fun _=>Z) H (fun x33 H=>?_);exact fA
   exact fA
  refine bG Z H (fun H=>lvR H hg1 Hp1) (fun H=>?_);refine go ?_;refine bK ⟨true,false,[45,49]⟩ [0,1,2,3,4,5,6,7,8,9,10,11,12,13] ?_;refine go ?_;refine nh H (fun H=>?_) (fun H=>?_)
  ·refine go ?_;refine bl (fun _=>Z) H (fun x47 H=>?_);refine go ?_;refine bG Z H (fun H=>lvR H hg1 Hp1) (fun H=>?_);exact fN
  refine go ?_;refine bj Z ?_;exact fN
 exact fS
def ew(sA:List Int)(v:Int):Option (Bool):=
 aa (jL sA v) fun x7=>
 some (decide (x7>=(0:Int)))
theorem kA(sA:List Int)(v:Int)(r:Bool)(H:ew sA v=some r):
  aC prog 115 [(.list 3 (sA.map bv)),(ac v)] (az r):=by
 unfold ew at H;refine PH.ak func115 ntmps115 ?_;refine go ?_;refine aB call173 (ip.r) (rZ sA v) H (fun x7 H=>?_);exact fS
def fw(q:LQuery):Option ((List Int)×Int):=
 aa (lA q) fun x18=>
 aa (au (σ:=List Int×Bool×List Bool) (ρ:=Empty) (fun(_:Nat) (x1:LQuery) (s1:List Int×Bool×List Bool)=>
  aa (au (σ:=List Int×Bool×List Bool) (ρ:=Empty) (fun(_:Nat) (x12:LExpr) (s12:List Int×Bool×List Bool)=>
   aa (im x12 s12.1 s12.2.1 s12.2.2) fun x33=>
   some (.next (x33.1,x33.2.1,x33.2.2))) 0 x1.exprs (s1.1,s1.2.1,s1.2.2)) fun fl12=>fl12.thenP fun(s12:List Int×Bool×List Bool)=>
  aa (au (σ:=List Int×Bool×List Bool) (ρ:=Empty) (fun(_:Nat) (x13:LA) (s13:List Int×Bool×List Bool)=>
   aa (au (σ:=List Int×Bool×List Bool) (ρ:=Empty) (fun(_:Nat) (x16:LExpr) (s16:List Int×Bool×List Bool)=>
    aa (im x16 s16.1 s16.2.1 s16.2.2) fun x51=>
    some (.next (x51.1,x51.2.1,x51.2.2))) 0 x13.args (s13.1,s13.2.1,s13.2.2)) fun fl16=>fl16.thenP fun(s16:List Int×Bool×List Bool)=>
   some (.next (s16.1,s16.2.1,s16.2.2))) 0 x1.aggregates (s12.1,s12.2.1,s12.2.2)) fun fl13=>fl13.thenP fun(s13:List Int×Bool×List Bool)=>
  some (.next (s13.1,s13.2.1,s13.2.2))) 0 x18 ([],false,(List.replicate 8 false))) fun fl1=>fl1.thenP fun(s1:List Int×Bool×List Bool)=>
 cond s1.2.1
  (some ([],13))
  (some (s1.1,0))
theorem lP(q:LQuery)(r:(List Int)×Int)(H:fw q=some r):
  aC prog 91 [(.agg (aH q))] (.tup [(.list 3 (r.1.map bv)),(ac r.2)]):=by
 unfold fw at H;refine PH.ak func91 ntmps91 ?_;refine gB ?_;refine aM U fun b4=>?_
 refine go ?_;refine aM U fun b5=>?_
 refine go ?_;refine aM U fun b6=>?_
 refine go ?_;refine aM U fun b7=>?_
 refine go ?_
 obtain⟨x18,h18,H⟩:=aA H
 have s18:=uD (m:=18) q _ h18;refine ag call93 (ip.r) (PFun.gN s18) ?_;refine go ?_
 obtain⟨fl1,H1,Hp1⟩:=aA H
 refine jc U 18 Z Z (fun hz1 _=>?_);rw[zl]at hz1;refine fK (τ:=List Int×Bool×List Bool) (γ:=OwnRef) (fun s1 g1=>⟨57,upd (upd (fun _=>.any) 6 (.box 6 b6 0)) 4 (.box 4 b4 0),upd (upd (fun _=>none) 6 (some ⟨b6,[(az s1.2.1)]⟩)) 4 (some ⟨b4,[(.own 1204 g1 (s1.1.map bv).length)]⟩),upd (fun _=>none) 1204 (some ⟨g1,3,(s1.1.map bv),true⟩)⟩) (fun t=>fl1= .next t) ?_ (fun s1 g1 hn1=>?_)
 ·refine aG (oA U 4 0 1204 (e:=3) Z Z Z Z ?_);refine jw (fun j1 s1 g1=>⟨57,upd (upd (upd (upd (upd (upd (fun _=>.any) 20 (ac (j1:Int))) 19 (ac (x18.length:Int))) 18 (.list 76 (x18.map db))) 7 (.box 7 b7 0)) 6 (.box 6 b6 0)) 4 (.box 4 b4 0),upd (upd (upd (upd (fun _=>none) 7 (some ⟨b7,[(.fn 133 [(.box 4 b4 0),(.box 6 b6 0),(.box 5 b5 0),(.box 7 b7 0)])]⟩)) 6 (some ⟨b6,[(az s1.2.1)]⟩)) 5 (some ⟨b5,(List.map az s1.2.2)⟩)) 4 (some ⟨b4,[(.own 1204 g1 (s1.1.map bv).length)]⟩),upd (fun _=>none) 1204 (some ⟨g1,3,(s1.1.map bv),true⟩)⟩) (⟨none,0⟩) H1 Gh.d (fun j1 s1 g1 hj1 hr1=>?_);refine go ?_;refine aY Z (fun h=>?_) (fun h=>?_)
  ·have hl1:=qk h
   obtain⟨x1,fb1,hx1,H,hg1⟩:=rMc hl1 hr1
   refine go ?_;refine aW U (zn j1) (aQ cF hx1) ?_;refine go ?_;refine aM U fun b9=>?_
   refine go ?_;refine fW (γ:=OwnRef) U 27 26 25 (fun s12 g12=>upd (upd (upd (upd (upd (upd (upd (fun _=>.any) 20 (ac (j1:Int))) 19 (ac (x18.length:Int))) 18 (.list 76 (x18.map db))) 9 (.box 9 b9 0)) 7 (.box 7 b7 0)) 6 (.box 6 b6 0)) 4 (.box 4 b4 0)) (fun s12 g12=>upd (upd (upd (upd (upd (fun _=>none) 9 (some ⟨b9,(aH x1)⟩)) 7 (some ⟨b7,[(.fn 133 [(.box 4 b4 0),(.box 6 b6 0),(.box 5 b5 0),(.box 7 b7 0)])]⟩)) 6 (some ⟨b6,[(az s12.2.1)]⟩)) 5 (some ⟨b5,(List.map az s12.2.2)⟩)) 4 (some ⟨b4,[(.own 1204 g12 (s12.1.map bv).length)]⟩)) (fun s12 g12=>upd (fun _=>none) 1204 (some ⟨g12,3,(s12.1.map bv),true⟩)) g1 H (fun fl12 Hp12 j12 s12 g12 hz12 hl12 x12 fb12 hx12 H hg12=>?_) (fun s12 g12 H=>?_)
   ·refine go ?_;refine aW U (zn j12) (aQ cQ hx12) ?_;refine go ?_;refine aM U fun b11=>?_
    refine go ?_
    obtain⟨x33,h33,H⟩:=aA H
    have s33:=ng b4 g12 b6 b5 b7 x12 s12.1 s12.2.1 s12.2.2 _ h33;refine iT (st':=⟨_,_,upd (upd (upd (upd (upd (upd (fun _=>none) 11 (some ⟨b11,(jl x12)⟩)) 9 (some ⟨b9,(aH x1)⟩)) 7 (some ⟨b7,[(.fn 133 [(.box 1000 b4 0),(.box 1001 b6 0),(.box 1002 b5 0),(.box 1003 b7 0)])]⟩)) 6 (some ⟨b6,[(az s12.2.1)]⟩)) 5 (some ⟨b5,(List.map az s12.2.2)⟩)) 4 (some ⟨b4,[(.own 1100 g12 (s12.1.map bv).length)]⟩),upd (fun _=>none) 1204 (some ⟨g12,3,(s12.1.map bv),true⟩)⟩) (Gh.le (il _ _) (aZ Z (ip.of2 (ku.cons (PLe2.own Z) ku.nil)) (aZ Z (ip.r) (aZ Z (ip.r) (aZ Z (ip.of2 (ku.cons (PLe2.fn (ku.cons PLe2.boxT (ku.cons PLe2.boxT (ku.cons PLe2.boxT (ku.cons PLe2.boxT ku.nil))))) ku.nil)) (aZ Z (ip.r) (aZ Z (ip.r) aV)))))) (bJ aU)) ?_;refine fL (g:=133) Z Z Z call133 [(4,1000),(6,1001),(5,1002),(7,1003)] [(1204,1100)] Z Z Z Z (ip.of2 (ku.cons (PLe2.of_eq Z) (ku.cons PLe2.boxT (ku.cons PLe2.boxT (ku.cons PLe2.boxT (ku.cons PLe2.boxT ku.nil)))))) (by rw[dU,dU,dU,dU,dI,bB,cP];rfl) s33 ?_;rintro u33 H33h ⟨gz33_0,rfl,rfl⟩
    refine⟨_,rfl,?_⟩
    refine iT (st':=⟨_,_,upd (upd (upd (upd (upd (upd (fun _=>none) 11 (some ⟨b11,(jl x12)⟩)) 9 (some ⟨b9,(aH x1)⟩)) 7 (some ⟨b7,[(.fn 133 [(.box 4 b4 0),(.box 6 b6 0),(.box 5 b5 0),(.box 7 b7 0)])]⟩)) 6 (some ⟨b6,[(az x33.2.1)]⟩)) 5 (some ⟨b5,(List.map az x33.2.2)⟩)) 4 (some ⟨b4,[(.own 1204 gz33_0 (x33.1.map bv).length)]⟩),upd (fun _=>none) 1204 (some ⟨gz33_0,3,(x33.1.map bv),true⟩)⟩) (Gh.le (il _ _) (aZ Z (ip.of2 (ku.cons (PLe2.own Z) ku.nil)) (aZ Z (ip.r) (aZ Z (ip.r) (aZ Z (ip.of2 (ku.cons (PLe2.fn (ku.cons PLe2.boxT (ku.cons PLe2.boxT (ku.cons PLe2.boxT (ku.cons PLe2.boxT ku.nil))))) ku.nil)) (aZ Z (ip.r) (aZ Z (ip.r) aV)))))) (bJ aU)) ?_;refine go ?_;exact cJ gz33_0 H hl12 hg12
   refine go ?_;refine fW (γ:=OwnRef) U 38 37 36 (fun s13 g13=>upd (upd (upd (upd (upd (upd (fun _=>.any) 20 (ac (j1:Int))) 19 (ac (x18.length:Int))) 18 (.list 76 (x18.map db))) 7 (.box 7 b7 0)) 6 (.box 6 b6 0)) 4 (.box 4 b4 0)) (fun s13 g13=>upd (upd (upd (upd (fun _=>none) 7 (some ⟨b7,[(.fn 133 [(.box 4 b4 0),(.box 6 b6 0),(.box 5 b5 0),(.box 7 b7 0)])]⟩)) 6 (some ⟨b6,[(az s13.2.1)]⟩)) 5 (some ⟨b5,(List.map az s13.2.2)⟩)) 4 (some ⟨b4,[(.own 1204 g13 (s13.1.map bv).length)]⟩)) (fun s13 g13=>upd (fun _=>none) 1204 (some ⟨g13,3,(s13.1.map bv),true⟩)) g12 H (fun fl13 Hp13 j13 s13 g13 hz13 hl13 x13 fb13 hx13 H hg13=>?_) (fun s13 g13 H=>?_)
   ·refine go ?_;refine aW U (zn j13) (aQ (fun _=>Z) hx13) ?_;refine go ?_;refine aM U fun b13=>?_
    refine go ?_;refine fW (γ:=OwnRef) U 45 44 43 (fun s16 g16=>upd (upd (upd (upd (upd (upd (upd (upd (upd (fun _=>.any) 38 (ac (j13:Int))) 37 (ac (x1.aggregates.length:Int))) 36 (.list 210 (x1.aggregates.map nz))) 20 (ac (j1:Int))) 19 (ac (x18.length:Int))) 18 (.list 76 (x18.map db))) 7 (.box 7 b7 0)) 6 (.box 6 b6 0)) 4 (.box 4 b4 0)) (fun s16 g16=>upd (upd (upd (upd (fun _=>none) 7 (some ⟨b7,[(.fn 133 [(.box 4 b4 0),(.box 6 b6 0),(.box 5 b5 0),(.box 7 b7 0)])]⟩)) 6 (some ⟨b6,[(az s16.2.1)]⟩)) 5 (some ⟨b5,(List.map az s16.2.2)⟩)) 4 (some ⟨b4,[(.own 1204 g16 (s16.1.map bv).length)]⟩)) (fun s16 g16=>upd (fun _=>none) 1204 (some ⟨g16,3,(s16.1.map bv),true⟩)) g13 H (fun fl16 Hp16 j16 s16 g16 hz16 hl16 x16 fb16 hx16 H hg16=>?_) (fun s16 g16 H=>?_)
    ·refine go ?_;refine aW U (zn j16) (aQ cQ hx16) ?_;refine go ?_;refine aM U fun b15=>?_
     refine go ?_
     obtain⟨x51,h51,H⟩:=aA H
     have s51:=ng b4 g16 b6 b5 b7 x16 s16.1 s16.2.1 s16.2.2 _ h51;refine iT (st':=⟨_,_,upd (upd (upd (upd (upd (fun _=>none) 15 (some ⟨b15,(jl x16)⟩)) 7 (some ⟨b7,[(.fn 133 [(.box 1000 b4 0),(.box 1001 b6 0),(.box 1002 b5 0),(.box 1003 b7 0)])]⟩)) 6 (some ⟨b6,[(az s16.2.1)]⟩)) 5 (some ⟨b5,(List.map az s16.2.2)⟩)) 4 (some ⟨b4,[(.own 1100 g16 (s16.1.map bv).length)]⟩),upd (fun _=>none) 1204 (some ⟨g16,3,(s16.1.map bv),true⟩)⟩) (Gh.le (il _ _) (aZ Z (ip.of2 (ku.cons (PLe2.own Z) ku.nil)) (aZ Z (ip.r) (aZ Z (ip.r) (aZ Z (ip.of2 (ku.cons (PLe2.fn (ku.cons PLe2.boxT (ku.cons PLe2.boxT (ku.cons PLe2.boxT (ku.cons PLe2.boxT ku.nil))))) ku.nil)) (aZ Z (ip.r) aV))))) (bJ aU)) ?_;refine fL (g:=133) Z Z Z call133 [(4,1000),(6,1001),(5,1002),(7,1003)] [(1204,1100)] Z Z Z Z (ip.of2 (ku.cons (PLe2.of_eq Z) (ku.cons PLe2.boxT (ku.cons PLe2.boxT (ku.cons PLe2.boxT (ku.cons PLe2.boxT ku.nil)))))) (by rw[dU,dU,dU,dU,dI,bB,cP];rfl) s51 ?_;rintro u51 H51h ⟨gz51_0,rfl,rfl⟩
     refine⟨_,rfl,?_⟩
     refine iT (st':=⟨_,_,upd (upd (upd (upd (upd (fun _=>none) 15 (some ⟨b15,(jl x16)⟩)) 7 (some ⟨b7,[(.fn 133 [(.box 4 b4 0),(.box 6 b6 0),(.box 5 b5 0),(.box 7 b7 0)])]⟩)) 6 (some ⟨b6,[(az x51.2.1)]⟩)) 5 (some ⟨b5,(List.map az x51.2.2)⟩)) 4 (some ⟨b4,[(.own 1204 gz51_0 (x51.1.map bv).length)]⟩),upd (fun _=>none) 1204 (some ⟨gz51_0,3,(x51.1.map bv),true⟩)⟩) (Gh.le (il _ _) (aZ Z (ip.of2 (ku.cons (PLe2.own Z) ku.nil)) (aZ Z (ip.r) (aZ Z (ip.r) (aZ Z (ip.of2 (ku.cons (PLe2.fn (ku.cons PLe2.boxT (ku.cons PLe2.boxT (ku.cons PLe2.boxT (ku.cons PLe2.boxT ku.nil))))) ku.nil)) (aZ Z (ip.r) aV))))) (bJ aU)) ?_;refine go ?_;exact cJ gz51_0 H hl16 hg16
    refine go ?_;exact cJ g16 H hl13 hg13
   refine go ?_;exact cJ g13 H hl1 hg1
  have hn1:=rMd (qp h) hr1;refine bd Z ?_;refine fc s1 g1 hn1 Gh.d
 have H:=ep hn1 Hp1;refine go ?_;refine aI Z H (fun H=>?_) (fun H=>?_)
 ·refine go ?_;obtain rfl:=ay H;exact gH U Z gr
 refine aE (al (ah (iQ U ?_)));refine cC 2 U Z (ao (cD 2 Z Z Z ?_));exact fS
def dg(sA:List LCol)(del:LCol->Option (Bool)):Option (List LCol):=
 aa (cW sA del) fun x10=>
 aa (fF (x10.2.length=sA.length) ()) fun(_:Unit)=>
 cond (x10.1==(-1))
  (some x10.2)
  (aa (gX (σ:=List LCol×Int×Int) (ρ:=Empty) (fun(s1:List LCol×Int×Int)=>
   cond (decide (s1.2.2<(s1.1.length:Int)))
    (aa (ax s1.1 s1.2.2) fun(x24:LCol)=>
    aa (del x24) fun x28=>
    cond (!x28)
     (aa (ax s1.1 s1.2.1) fun(_:LCol)=>
     letP (s1.1.set s1.2.1.toNat x24) fun(y4:List LCol)=>
     some (.next (y4,(Iw (s1.2.1+(1:Int))),(Iw (s1.2.2+(1:Int))))))
     (some (.next (s1.1,s1.2.1,(Iw (s1.2.2+(1:Int)))))))
    (some (.brk (s1.1,s1.2.1,s1.2.2)))) (x10.2,x10.1,(Iw (x10.1+(1:Int))))) fun fl1=>fl1.thenP fun(s1:List LCol×Int×Int)=>
  aa (qG s1.1 s1.2.1) fun(y5:List LCol)=>
  aa (qG y5 s1.2.1) fun(y6:List LCol)=>
  some y6)
theorem lZ(g_sA:OwnRef){g_del:FuncId}{caps_del:List PV}(sA:List LCol)(del:LCol->Option (Bool))(hg_del:∀(vs:Array Value) (w:World),(callFunc g_del vs).run prog w= .ok (.enter g_del vs) w)(hp_del:∀a0 r,del a0=some r->aC prog g_del ((.agg (ap a0))::caps_del) (az r))(r:List LCol)(H:dg sA del=some r):
  PH prog 175 [(.own 0 g_sA (sA.map ap).length),(.fn g_del caps_del)] ⟨fun _=>none,upd (fun _=>none) 0 (some ⟨g_sA,93,(sA.map ap),true⟩)⟩ (fun u H=>u= .own 0 g_sA (r.map ap).length/\H=⟨fun _=>none,upd (fun _=>none) 0 (some ⟨g_sA,93,(r.map ap),true⟩)⟩):=by
 unfold dg at H;refine PH.ak func175 ntmps175 ?_;refine go ?_
 obtain⟨x10,h10,H⟩:=aA H
 have s10:=lS g_sA sA del hg_del hp_del _ h10
 obtain⟨_,q10_0,H⟩:=aA H
 have l10_0:=(dK q10_0).1;have z10_0:(List.map ap sA).length=(List.map ap x10.2).length:=by simpa using(l10_0).symm
 refine gU call170 [] [(0,0)] s10 ?_;rintro u10 H10h ⟨rfl,rfl⟩
 refine⟨_,rfl,?_⟩
 refine eA (fun _=>none) (upd (fun _=>none) 0 (some ⟨g_sA,93,(x10.2.map ap),true⟩)) ?_;refine go ?_;refine aI Z H (fun H=>?_) (fun H=>?_)
 ·refine go ?_;obtain rfl:=ay H;refine cv (st':=⟨42,upd (fun _=>.any) 4 (.own 0 g_sA (sA.map ap).length),fun _=>none,upd (fun _=>none) 0 (some ⟨g_sA,93,(x10.2.map ap),true⟩)⟩) Gh.d ?_;refine rr U Z (ps:=[(.own 0 g_sA (sA.map ap).length)]) ⟨_,_,rfl,rfl,rfl⟩ (PLe.of2 (PLe2.own z10_0)) ⟨rfl,rfl⟩
 refine go ?_
 obtain⟨fl1,H1,Hp1⟩:=aA H
 refine fK (τ:=List LCol×Int×Int) (γ:=Unit) (fun s1 g1=>⟨42,upd (upd (fun _=>.any) 5 (ac s1.2.1)) 0 (.own 0 g_sA (s1.1.map ap).length),fun _=>none,upd (fun _=>none) 0 (some ⟨g_sA,93,(s1.1.map ap),true⟩)⟩) (fun t=>fl1= .next t) ?_ (fun s1 g1 hn1=>?_)
 ·refine aG ?_;refine iZ (fun s1 g1=>⟨42,upd (upd (upd (upd (fun _=>.any) 6 (ac s1.2.2)) 5 (ac s1.2.1)) 1 (.fn g_del caps_del)) 0 (.own 0 g_sA (s1.1.map ap).length),fun _=>none,upd (fun _=>none) 0 (some ⟨g_sA,93,(s1.1.map ap),true⟩)⟩) () H1 (Gh.le (bh (PLe.of2 (PLe2.of_eq (congrArg (PV.own 0 g_sA) z10_0))) (aq (aq (aq bm)))) aV (bJ aU)) (fun m1 s1 g1 hr1=>?_)
  obtain⟨fb1,H,hg1⟩:=gv hr1
  refine al (al (ah (cC 2 U Z (eO U (zl _) ?_))));refine go ?_;refine aI Z H (fun H=>?_) (fun H=>?_)
  ·refine go ?_
   obtain⟨x24,k24,H⟩:=eC H
   refine lz (tag:=0) Z (fun ho0=>?_);refine jT U ⟨k24.1,(dz k24.2)⟩ (dv ho0 k24.2) ?_;refine oj U Z Z Z Z Z Z Z (dJ (fun _=>Z) k24.2) Z Z ?_;refine aM U fun b7=>?_
   refine go ?_
   obtain⟨x28,h28,H⟩:=aA H
   refine ag hg_del (ip.r) (hp_del _ _ h28) ?_;refine go ?_;refine aI Z H (fun H=>?_) (fun H=>?_)
   ·refine go ?_
    obtain⟨x33,k33,H⟩:=eC H
    refine lz (tag:=0) Z (fun ho0=>?_);refine jT U ⟨k33.1,(dz k33.2)⟩ (dv ho0 k33.2) ?_
    obtain⟨y4,hy4,H⟩:=cI H
    refine ou U Z Z Z Z Z Z Z Z (by rw[zl];exact(zg.1 k33.2).1) (PLe.refl _ _) Z Z Z Z (by decide) (eT (fun _=>Z) k33.2 Z hy4) ?_;refine go ?_;obtain rfl:=ay H;refine eR (y4,(Iw (s1.2.1+(1:Int))),(Iw (s1.2.2+(1:Int)))) () hg1 (Gh.le (bh (PLe.of2 (PLe2.of_eq (congrArg (PV.own 0 g_sA) (eZ (f:=ap) hy4)))) (aq (aq (aq bm)))) aV (bJ aU))
   refine go ?_;obtain rfl:=ay H;refine eR (s1.1,s1.2.1,(Iw (s1.2.2+(1:Int)))) () hg1 Gh.d
  refine bd Z ?_;obtain rfl:=ay H;refine fc (s1.1,s1.2.1,s1.2.2) () hg1 Gh.d
 have H:=ep hn1 Hp1;refine al (ah (cC 2 U Z ?_))
 obtain⟨y5,hy5,H⟩:=aA H
 have ky5:=sj hy5;refine xk (tag:=0) Z (fun hcy5=>?_);have hny5:(s1.1.map ap).length=(List.map ap s1.1).length:=rfl;have hmy5:=ky5.2.1;rw[<-zl (f:=ap),<-hny5]at hmy5;rw[<-hny5]at hcy5;refine jU (l:=s1.2.1.toNat) (h:=(s1.1.map ap).length) (m:=g_sA.cap) U Z Z Z Z Z Z ⟨_,_,rfl,(Int.toNat_of_nonneg ky5.1).symm⟩ Z Z (by decide) hmy5 hcy5 (Nat.le_refl _) Z (iT (Gh.cutO (tag:=0) (rows':=List.map ap y5) Z s1.2.1.toNat (by rw[<-List.map_take,ky5.2.2])) ?_);refine qv (tag:=0) (rows:=List.map ap y5) U Z Z Z Z Z Z Z Z Z (p:=s1.2.1.toNat) (q:=(s1.1.map ap).length) (m:=g_sA.cap) (by rw[zl,ky5.2.2,List.length_take];exact Nat.min_le_left _ _) hmy5 hcy5 (Nat.le_refl _) Z ?_;refine ao (al (ah (cC 2 U Z ?_)))
 obtain⟨y6,hy6,H⟩:=aA H
 have ky6:=sj hy6;refine xm (rows':=List.map ap y6) U Z Z Z Z Z Z Z Z ⟨ky6.1,by rw[zl];exact ky6.2.1⟩ (by rw[<-List.map_take,ky6.2.2]) Z Z ?_;refine go ?_;obtain rfl:=ay H;refine cv (st':=⟨42,upd (fun _=>.any) 4 (.own 0 g_sA (y6.map ap).length),fun _=>none,upd (fun _=>none) 0 (some ⟨g_sA,93,(y6.map ap),true⟩)⟩) Gh.d ?_;refine rr U Z (ps:=[(.own 0 g_sA (y6.map ap).length)]) ⟨_,_,rfl,rfl,rfl⟩ (PLe.of2 (PLe2.own Z)) ⟨rfl,rfl⟩
def iF(q:LQuery):Option (Int):=
 aa (px q) fun x7=>
 some x7.2
theorem qA(q:LQuery)(r:Int)(H:iF q=some r):
  aC prog 157 [(.agg (aH q))] (ac r):=by
 unfold iF at H;refine PH.ak func157 ntmps157 ?_;refine gB ?_;refine aB call205 (ip.r) (W_query_most q) H (fun x7 H=>?_);exact fS
def km(kind:Int)(a:List LCol)(b:List LCol):Option ((List LCol)×Int):=
 cond ((a.length:Int) !=(b.length:Int))
  (some ([],7))
  (aa (au (σ:=List LCol) (ρ:=((List LCol)×Int)) (fun(j1:Nat) (x1:LCol) (s1:List LCol)=>
   aa (ax b (j1:Int)) fun(x29:LCol)=>
   cond (x1.kind !=x29.kind)
    (some (.ret ([],7)))
    (cond x1.nullable
     (aa (ax s1 (j1:Int)) fun(x51:LCol)=>
     letP (s1.set ((j1:Int).toNat) (LCol.mk x51.name x51.kind true)) fun(y8:List LCol)=>
     some (.next y8))
     (cond (kind==(6:Int))
      (aa (ax b (j1:Int)) fun(x46:LCol)=>
      aa (ax s1 (j1:Int)) fun(x51:LCol)=>
      letP (s1.set ((j1:Int).toNat) (LCol.mk x51.name x51.kind x46.nullable)) fun(y9:List LCol)=>
      some (.next y9))
      (aa (ax s1 (j1:Int)) fun(x51:LCol)=>
      letP (s1.set ((j1:Int).toNat) (LCol.mk x51.name x51.kind false)) fun(y10:List LCol)=>
      some (.next y10))))) 0 a a) fun fl1=>fl1.thenR fun(s1:List LCol)=>
  some (s1,0))
theorem uM(kind:Int)(a:List LCol)(b:List LCol)(r:(List LCol)×Int)(H:km kind a b=some r):
  aC prog 236 [(ac kind),(.list 93 (a.map ap)),(.list 93 (b.map ap))] (.tup [(.list 93 (r.1.map ap)),(ac r.2)]):=by
 unfold km at H;refine PH.ak func236 ntmps236 ?_;refine go ?_;refine aI Z H (fun H=>?_) (fun H=>?_)
 ·refine go ?_;obtain rfl:=ay H;exact gH U Z gr
 refine aE (al (ah (aD U Z ?_)));have s16:=oE (m:=16) a;refine iH call176 (ip.r) s16 (fun g16=>?_);refine go ?_;refine fg (γ:=OwnRef) U 19 18 1 (fun s1 g1=>upd (upd (upd (fun _=>.any) 8 (.own 16 g1 (s1.map ap).length)) 2 (.list 93 (b.map ap))) 0 (ac kind)) nB (fun s1 g1=>upd (fun _=>none) 16 (some ⟨g1,93,(s1.map ap),true⟩)) g16 H (fun fl1 Hp1 j1 s1 g1 hz1 hl1 x1 fb1 hx1 H hg1=>?_) (fun s1 g1 H=>?_)
 ·refine al (aG (dp 2 U Z (al (al ?_))));refine ii (tag:=16) Z (fun ho16=>?_);refine bK ⟨false,false,[]⟩ [0,1,2,3,4,5,6,7,8,9,10] ?_;refine go ?_;refine pL (zn j1) (aQ (fun _=>Z) hx1) ?_;refine go ?_;refine bl (fun _=>Z) H (fun x29 H=>?_);refine go ?_;refine aI Z H (fun H=>?_) (fun H=>?_)
  ·refine go ?_;obtain rfl:=lvR H hg1 Hp1;exact gH U Z gr
  refine go ?_;refine aW U (zn j1) (aQ (fun _=>Z) hx1) ?_;refine go ?_;refine aN Z Z Z H (fun H=>?_) (fun H=>?_)
  ·refine go ?_
   obtain⟨x51,k51,H⟩:=eC H
   refine lz (tag:=16) Z (fun ho16=>?_);refine jT U ⟨k51.1,(dz k51.2)⟩ (dv ho16 k51.2) ?_;refine aD U Z ?_
   obtain⟨y8,hy8,H⟩:=cI H
   refine ou U Z Z Z Z Z Z Z Z (by rw[zl];exact(zg.1 k51.2).1) (PLe.refl _ _) Z Z Z Z (by decide) (eT (fun _=>Z) k51.2 Z hy8) ?_;refine go ?_;exact cJ g1 H hl1 hg1 (Gh.le (aq (aq (bh (PLe.q (fG (by omega))) (aq (aq (bh (PLe.of2 (PLe2.of_eq (congrArg (PV.own 16 g1) (eZ (f:=ap) hy8)))) bm)))))) aV (bJ aU))
  refine go ?_;refine aN Z Z Z H (fun H=>?_) (fun H=>?_)
  ·refine go ?_;refine ec U (fun _=>Z) H (fun x46 H=>?_);refine go ?_
   obtain⟨x51,k51,H⟩:=eC H
   refine lz (tag:=16) Z (fun ho16=>?_);refine jT U ⟨k51.1,(dz k51.2)⟩ (dv ho16 k51.2) ?_;refine aD U Z ?_
   obtain⟨y9,hy9,H⟩:=cI H
   refine ou U Z Z Z Z Z Z Z Z (by rw[zl];exact(zg.1 k51.2).1) (PLe.refl _ _) Z Z Z Z (by decide) (eT (fun _=>Z) k51.2 Z hy9) ?_;refine go ?_;exact cJ g1 H hl1 hg1 (Gh.le (aq (aq (bh (PLe.q (fG (by omega))) (aq (aq (bh (PLe.of2 (PLe2.of_eq (congrArg (PV.own 16 g1) (eZ (f:=ap) hy9)))) bm)))))) aV (bJ aU))
  refine go ?_
  obtain⟨x51,k51,H⟩:=eC H
  refine lz (tag:=16) Z (fun ho16=>?_);refine jT U ⟨k51.1,(dz k51.2)⟩ (dv ho16 k51.2) ?_;refine aD U Z ?_
  obtain⟨y10,hy10,H⟩:=cI H
  refine ou U Z Z Z Z Z Z Z Z (by rw[zl];exact(zg.1 k51.2).1) (PLe.refl _ _) Z Z Z Z (by decide) (eT (fun _=>Z) k51.2 Z hy10) ?_;refine go ?_;exact cJ g1 H hl1 hg1 (Gh.le (aq (aq (bh (PLe.q (fG (by omega))) (aq (aq (bh (PLe.of2 (PLe2.of_eq (congrArg (PV.own 16 g1) (eZ (f:=ap) hy10)))) bm)))))) aV (bJ aU))
 refine dp 3 U Z (cD 6 Z Z Z ?_);exact fS
def cy(sA:Rs)(v:Rb):Option (Bool):=
 aa (fD sA v) fun x7=>
 some (decide (x7>=(0:Int)))
theorem lj(sA:Rs)(v:Rb)(r:Bool)(H:cy sA v=some r):
  aC prog 31 [(.list 9 (sA.map nE)),(.str v)] (az r):=by
 unfold cy at H;refine PH.ak func31 ntmps31 ?_;refine go ?_;refine aB call61 (ip.r) (pA sA v) H (fun x7 H=>?_);exact fS
def co(sA:List LCol)(f:LCol->Option (Bool)):Option (Bool):=
 aa (bf sA f) fun x7=>
 some (decide (x7>=(0:Int)))
theorem lN{g_f:FuncId}{caps_f:List PV}(sA:List LCol)(f:LCol->Option (Bool))(hg_f:∀(vs:Array Value) (w:World),(callFunc g_f vs).run prog w= .ok (.enter g_f vs) w)(hp_f:∀a0 r,f a0=some r->aC prog g_f ((.agg (ap a0))::caps_f) (az r))(r:Bool)(H:co sA f=some r):
  aC prog 208 [(.list 93 (sA.map ap)),(.fn g_f caps_f)] (az r):=by
 unfold co at H;refine PH.ak func208 ntmps208 ?_;refine go ?_;refine aB call170 (ip.r) (dy sA f hg_f hp_f) H (fun x7 H=>?_);exact fS
def jh(c:LC)(name:Rb):Option (LTable×Bool):=
 aa (ck c.s.tables (fun a0=>some (fa a0 name))) fun x11=>
 cond (decide (x11<(0:Int)))
  (some ((LTable.mk [] [] []),false))
  (aa (ax c.s.tables x11) fun(x19:LTable)=>
  some (x19,true))
theorem qM(c:LC)(name:Rb)(r:LTable×Bool)(H:jh c name=some r):
  aC prog 178 [(.agg (ba c)),(.str name)] (.tup [(.agg (bq r.1)),(az r.2)]):=by
 unfold jh at H;refine PH.ak func178 ntmps178 ?_;refine gB ?_;refine aM U fun b4=>?_
 refine go ?_;refine aB call55 (ip.r) (eM c.s.tables (fun a0=>some (fa a0 name)) call221 (fun a0 r h=>(ay h)▸qD a0 name)) H (fun x11 H=>?_);refine go ?_;refine aI Z H (fun H=>?_) (fun H=>?_)
 ·refine go ?_;obtain rfl:=ay H;refine lH U Z (ps:=[(.agg [(.str []),(.val (.slice none 0 0)),(.val (.slice none 0 0))]),(az false)]) ⟨_,_,rfl,⟨_,_,_,_,_,rfl,rfl,rfl,rfl⟩,_,_,rfl,rfl,rfl⟩ (PLe.of2 (PLe2.tup (ku.cons (PLe2.agg (ku.cons (PLe2.of_eq Z) (ku.cons (PLe2.nil U Z) (ku.cons (PLe2.nil U Z) ku.nil)))) (ku.cons (PLe2.of_eq Z) ku.nil))))
 refine go ?_;refine ec U (fun _=>Z) H (fun x19 H=>?_);refine go ?_;obtain rfl:=ay H;refine lH U Z (ps:=[(.agg (bq x19)),(az true)]) ⟨_,_,rfl,⟨_,_,_,_,_,rfl,rfl,rfl,rfl⟩,_,_,rfl,rfl,rfl⟩ (PLe.q Z)
def bu(slices:List (List LS)):Option ((List LS)):=
 aa (au (σ:=Int) (ρ:=Empty) (fun(_:Nat) (x1:List LS) (s1:Int)=>
  cond (decide ((Iw (s1+(x1.length:Int)))<(0:Int)))
   (none)
   (some (.next (Iw (s1+(x1.length:Int)))))) 0 slices 0) fun fl1=>fl1.thenP fun(s1:Int)=>
 aa (nT 192 s1) fun(_:Unit)=>
 aa (au (σ:=List LS) (ρ:=Empty) (fun(_:Nat) (x2:List LS) (s2:List LS)=>
  aa (cE 192 s2 x2) fun(x33:List LS)=>
  some (.next x33)) 0 slices []) fun fl2=>fl2.thenP fun(s2:List LS)=>
 some s2
theorem fR{m:Nat}(slices:List (List LS))(r:(List LS))(H:bu slices=some r):
  iv prog 11 [(.list 30 (slices.map (ae 40 af)))] (lf m 40 (r.map af)):=by
 unfold bu at H;refine PH.ak func11 ntmps11 ?_;refine go ?_;refine fW U 11 10 9 (fun s1 g1=>upd (upd (fun _=>.any) 3 (ac s1)) 0 (.list 30 (slices.map (ae 40 af)))) nB nO () H (fun fl1 Hp1 j1 s1 g1 hz1 hl1 x1 fb1 hx1 H hg1=>?_) (fun s1 g1 H=>?_)
 ·refine go ?_;refine aW U (zn j1) (aQ (fun _=>Z) hx1) ?_;refine go ?_;refine aI Z H (fun H=>?_) (fun H=>?_)
  ·cases H
  exact fN
 refine go ?_
 obtain⟨_,h24,H⟩:=aA H
 have s24:=grow_40 (m:=24) s1 h24;refine iH call40 (ip.r) s24 (fun g24=>?_);refine go ?_;refine fW (γ:=OwnRef) U 27 26 25 (fun s2 g2=>upd (fun _=>.any) 6 (.own 24 g2 (s2.map af).length)) nB (fun s2 g2=>upd (fun _=>none) 24 (some ⟨g2,40,(s2.map af),true⟩)) g24 H (fun fl2 Hp2 j2 s2 g2 hz2 hl2 x2 fb2 hx2 H hg2=>?_) (fun s2 g2 H=>?_)
 ·refine go ?_;refine aW U (zn j2) (aQ (fun _=>Z) hx2) ?_;refine go ?_;refine fm U H (fun x33 g33 H=>?_);refine go ?_;exact cJ g33 H hl2 hg2
 refine go ?_;obtain rfl:=ay H;refine hP U Z
def bF(sA:List LS)(f:LS->Option (Bool)):Option (Bool):=
 aa (ct sA f) fun x7=>
 some (decide (x7>=(0:Int)))
theorem jj{g_f:FuncId}{caps_f:List PV}(sA:List LS)(f:LS->Option (Bool))(hg_f:∀(vs:Array Value) (w:World),(callFunc g_f vs).run prog w= .ok (.enter g_f vs) w)(hp_f:∀a0 r,f a0=some r->aC prog g_f ((.agg (am a0))::caps_f) (az r))(r:Bool)(H:bF sA f=some r):
  aC prog 9 [(.list 40 (sA.map af)),(.fn g_f caps_f)] (az r):=by
 unfold bF at H;refine PH.ak func9 ntmps9 ?_;refine go ?_;refine aB call39 (ip.r) (jE sA f hg_f hp_f) H (fun x7 H=>?_);exact fS
def dO(rA:LR)(c:LCol)(v:LVal):Option (LR):=
 aa (bf rA.vars (fun a0=>some (fO a0 c))) fun x12=>
 cond (decide (x12>=(0:Int)))
  (aa (oM rA.vars x12 (Iw (x12+(1:Int)))) fun x40=>
  aa (oM rA.vals x12 (Iw (x12+(1:Int)))) fun x48=>
  aa (cE 32 x40 ([c]:List LCol)) fun(x61:List LCol)=>
  aa (cE 32 x48 ([v]:Rq)) fun(x68:Rq)=>
  some {rA with vars:=x61,vals:=x68})
  (aa (cE 32 rA.vars ([c]:List LCol)) fun(x61:List LCol)=>
  aa (cE 32 rA.vals ([v]:Rq)) fun(x68:Rq)=>
  some {rA with vars:=x61,vals:=x68})
theorem pD(b_rA:Nat)(g_rA_7:OwnRef)(g_rA_8:OwnRef)(rA:LR)(c:LCol)(v:LVal)(r:LR)(H:dO rA c v=some r):
  PH prog 123 [(.box 1500 b_rA 0),(.agg (ap c)),(.agg (ab v))] ⟨(bR b_rA rA g_rA_7 g_rA_8),(oR rA g_rA_7 g_rA_8)⟩ (fun u H=>∃gz0_7,∃gz0_8,u=(.tup [])/\H=⟨(bR b_rA r gz0_7 gz0_8),(oR r gz0_7 gz0_8)⟩):=by
 unfold dO at H;refine PH.ak func123 ntmps123 ?_;refine gB ?_;refine aB call170 (ip.r) (dy rA.vars (fun a0=>some (fO a0 c)) call182 (fun a0 r h=>(ay h)▸tG a0 c)) H (fun x12 H=>?_);refine go ?_;refine bK ⟨true,false,[]⟩ [0,1,2,3,4,5,7,8,9,10,6,11,12,13,14,15,16,17] ?_;refine oa 5 Z (kP ?_);refine oa 3 Z (kP ?_);have s19:=oE (m:=19) rA.vars;refine rQ (g:=176) Z Z Z Z call176 (ip.r) Z Z s19 (fun g19=>?_);have s24:=clone_44 (m:=24) rA.vals;refine rQ (g:=44) Z Z Z Z call44 (ip.r) Z Z s24 (fun g24=>?_);refine go ?_;refine ib Z Z Z Z Z Z Z Z Z Z Z Z (go ?_);refine ib Z Z Z Z Z Z Z Z Z Z Z Z (go ?_);refine aI Z H (fun H=>?_) (fun H=>?_)
 ·refine bK ⟨true,false,[]⟩ [0,1,2,3,4,5,6,7,8,10,11,12,13,14,15,16,9,17,18,19,20,21,22,23] ?_;refine go ?_
  obtain⟨x40,h40,H⟩:=aA H
  have s40:=W_delete_183 g19 rA.vars x12 (Iw (x12+(1:Int))) _ h40;refine wy (g:=183) Z Z Z Z call183 Z [(19,0)] Z Z (ip.of2 (ku.cons (PLe2.own Z) (ku.cons (PLe2.of_eq Z) (ku.cons (PLe2.of_eq Z) ku.nil)))) (by rw[bB,cP];rfl) s40 ?_;rintro u40 H40h ⟨rfl,rfl⟩
  refine⟨(.own 19 g19 (x40.map ap).length),_,PLe.of2 (PLe2.own Z),rfl,?_⟩
  obtain⟨x48,h48,H⟩:=aA H
  have s48:=W_delete_184 g24 rA.vals x12 (Iw (x12+(1:Int))) _ h48;refine wy (g:=184) Z Z Z Z call184 Z [(24,0)] Z Z (ip.of2 (ku.cons (PLe2.own Z) (ku.cons (PLe2.of_eq Z) (ku.cons (PLe2.of_eq Z) ku.nil)))) (by rw[bB,cP];rfl) s48 ?_;rintro u48 H48h ⟨rfl,rfl⟩
  refine⟨(.own 24 g24 (x48.map ab).length),_,PLe.of2 (PLe2.own Z),rfl,?_⟩
  refine go ?_;refine ib Z Z Z Z Z Z Z Z Z Z Z Z (go ?_);refine ib Z Z Z Z Z Z Z Z Z Z Z Z (dE ?_);refine cv (st':=⟨_,_,upd (fun _=>none) 1500 (some ⟨b_rA,[(.list 95 (rA.s.tables.map bq)),(.list 145 (rA.s.foreignKeys.map jX)),(.list 151 (rA.s.constraints.map ln)),(.list 86 (rA.st.map bE)),(.list 69 (rA.args.map ab)),(.own 19 g19 (x40.map ap).length),(.own 24 g24 (x48.map ab).length),(.own 1607 g_rA_7 (rA.changes.map bW).length),(.own 1608 g_rA_8 (rA.results.map dR).length),(ac rA.left),(az rA.stopped)]⟩),upd (upd (upd (upd (fun _=>none) 24 (some ⟨g24,69,(x48.map ab),true⟩)) 19 (some ⟨g19,93,(x40.map ap),true⟩)) 1608 (some ⟨g_rA_8,64,(rA.results.map dR),true⟩)) 1607 (some ⟨g_rA_7,56,(rA.changes.map bW),true⟩)⟩) (Gh.le (il _ _) (aZ Z (ip.r) aV) (bJ (bJ (bJ (bJ aU))))) ?_;refine bK ⟨true,false,[59,66]⟩ [0,1,2,3,4,5,6,7,9,10,11,12,13,14,8,15,16,17,18,19,20,21] ?_;refine go ?_
  obtain⟨x61,h61,H⟩:=aA H
  have k61:=fZ h61;refine hC (rows2':=List.map ap ([c]:List LCol)) (rows':=List.map ap x61) U Z Z Z Z Z Z Z Z Z Z Z Z Z Z (iW.refl _) (jD k61.1) (jC k61.2.1) (jz k61.2.2) fun g61=>?_
  obtain⟨x68,h68,H⟩:=aA H
  have k68:=fZ h68;refine hC (rows2':=List.map ab ([v]:Rq)) (rows':=List.map ab x68) U Z Z Z Z Z Z Z Z Z Z Z Z Z Z (iW.refl _) (jD k68.1) (jC k68.2.1) (jz k68.2.2) fun g68=>?_
  refine go ?_;refine ib Z Z Z Z Z Z Z Z Z Z Z Z (go ?_);refine ib Z Z Z Z Z Z Z Z Z Z Z Z (dE ?_);obtain rfl:=ay H;refine jZ 1500 5 Z Z Z Z Z (jZ 1500 6 Z Z Z Z Z ?_);refine cv (st':=⟨73,fun _=>.any,(bR b_rA {rA with vars:=x61,vals:=x68} g_rA_7 g_rA_8),(oR rA g_rA_7 g_rA_8)⟩) Gh.d ?_;refine mW Z (PLe.q Z) ⟨_,_,rfl,rfl⟩
 refine aE (bK ⟨true,false,[59,66]⟩ [0,1,2,3,4,5,6,7,9,10,11,12,13,14,8,15,16,17,18,19,20,21] ?_);refine go ?_
 obtain⟨x61,h61,H⟩:=aA H
 have k61:=fZ h61;refine hC (rows2':=List.map ap ([c]:List LCol)) (rows':=List.map ap x61) U Z Z Z Z Z Z Z Z Z Z Z Z Z Z (iW.refl _) (jD k61.1) (jC k61.2.1) (jz k61.2.2) fun g61=>?_
 obtain⟨x68,h68,H⟩:=aA H
 have k68:=fZ h68;refine hC (rows2':=List.map ab ([v]:Rq)) (rows':=List.map ab x68) U Z Z Z Z Z Z Z Z Z Z Z Z Z Z (iW.refl _) (jD k68.1) (jC k68.2.1) (jz k68.2.2) fun g68=>?_
 refine go ?_;refine ib Z Z Z Z Z Z Z Z Z Z Z Z (go ?_);refine ib Z Z Z Z Z Z Z Z Z Z Z Z (dE ?_);obtain rfl:=ay H;refine jZ 1500 5 Z Z Z Z Z (jZ 1500 6 Z Z Z Z Z ?_);refine cv (st':=⟨73,fun _=>.any,(bR b_rA {rA with vars:=x61,vals:=x68} g_rA_7 g_rA_8),(oR rA g_rA_7 g_rA_8)⟩) Gh.d ?_;refine mW Z (PLe.q Z) ⟨_,_,rfl,rfl⟩
def bX(slices:Rz):Option (Rq):=
 aa (au (σ:=Int) (ρ:=Empty) (fun(_:Nat) (x1:Rq) (s1:Int)=>
  cond (decide ((Iw (s1+(x1.length:Int)))<(0:Int)))
   (none)
   (some (.next (Iw (s1+(x1.length:Int)))))) 0 slices 0) fun fl1=>fl1.thenP fun(s1:Int)=>
 aa (nT 32 s1) fun(_:Unit)=>
 aa (au (σ:=Rq) (ρ:=Empty) (fun(_:Nat) (x2:Rq) (s2:Rq)=>
  aa (cE 32 s2 x2) fun(x33:Rq)=>
  some (.next x33)) 0 slices []) fun fl2=>fl2.thenP fun(s2:Rq)=>
 some s2
theorem kQ{m:Nat}(slices:Rz)(r:Rq)(H:bX slices=some r):
  iv prog 210 [(.list 54 (slices.map rRr))] (lf m 69 (r.map ab)):=by
 unfold bX at H;refine PH.ak func210 ntmps210 ?_;refine go ?_;refine fW U 11 10 9 (fun s1 g1=>upd (upd (fun _=>.any) 3 (ac s1)) 0 (.list 54 (slices.map rRr))) nB nO () H (fun fl1 Hp1 j1 s1 g1 hz1 hl1 x1 fb1 hx1 H hg1=>?_) (fun s1 g1 H=>?_)
 ·refine go ?_;refine aW U (zn j1) (aQ (fun _=>Z) hx1) ?_;refine go ?_;refine aI Z H (fun H=>?_) (fun H=>?_)
  ·cases H
  exact fN
 refine go ?_
 obtain⟨_,h24,H⟩:=aA H
 have s24:=grow_238 (m:=24) s1 h24;refine iH call238 (ip.r) s24 (fun g24=>?_);refine go ?_;refine fW (γ:=OwnRef) U 27 26 25 (fun s2 g2=>upd (fun _=>.any) 6 (.own 24 g2 (s2.map ab).length)) nB (fun s2 g2=>upd (fun _=>none) 24 (some ⟨g2,69,(s2.map ab),true⟩)) g24 H (fun fl2 Hp2 j2 s2 g2 hz2 hl2 x2 fb2 hx2 H hg2=>?_) (fun s2 g2 H=>?_)
 ·refine go ?_;refine aW U (zn j2) (aQ (fun _=>Z) hx2) ?_;refine go ?_;refine fm U H (fun x33 g33 H=>?_);refine go ?_;exact cJ g33 H hl2 hg2
 refine go ?_;obtain rfl:=ay H;refine hP U Z
def kT(y:Rq)(c0:Rq):Option (Bool):=
 aa (bN c0 y) fun x6=>
 some x6
theorem W_query_less_1(y:Rq)(c0:Rq)(r:Bool)(H:kT y c0=some r):
  aC prog 212 [(.list 69 (y.map ab)),(.ptr [(.list 69 (c0.map ab))])] (az r):=by
 unfold kT at H;refine PH.ak func212 ntmps212 ?_;refine go ?_;refine aB call50 (ip.r) (gu c0 y) H (fun x6 H=>?_);exact fS
def ee(sA:Rz)(del:Rq->Option (Bool)):Option Rz:=
 aa (bH sA del) fun x10=>
 aa (fF (x10.2.length=sA.length) ()) fun(_:Unit)=>
 cond (x10.1==(-1))
  (some x10.2)
  (aa (gX (σ:=Rz×Int×Int) (ρ:=Empty) (fun(s1:Rz×Int×Int)=>
   cond (decide (s1.2.2<(s1.1.length:Int)))
    (aa (ax s1.1 s1.2.2) fun(x24:Rq)=>
    aa (del x24) fun x28=>
    cond (!x28)
     (aa (ax s1.1 s1.2.1) fun(_:Rq)=>
     letP (s1.1.set s1.2.1.toNat x24) fun(y4:Rz)=>
     some (.next (y4,(Iw (s1.2.1+(1:Int))),(Iw (s1.2.2+(1:Int))))))
     (some (.next (s1.1,s1.2.1,(Iw (s1.2.2+(1:Int)))))))
    (some (.brk (s1.1,s1.2.1,s1.2.2)))) (x10.2,x10.1,(Iw (x10.1+(1:Int))))) fun fl1=>fl1.thenP fun(s1:Rz×Int×Int)=>
  aa (qG s1.1 s1.2.1) fun(y5:Rz)=>
  aa (qG y5 s1.2.1) fun(y6:Rz)=>
  some y6)
theorem nf(g_sA:OwnRef){g_del:FuncId}{caps_del:List PV}(sA:Rz)(del:Rq->Option (Bool))(hg_del:∀(vs:Array Value) (w:World),(callFunc g_del vs).run prog w= .ok (.enter g_del vs) w)(hp_del:∀a0 r,del a0=some r->aC prog g_del ((.list 69 (a0.map ab))::caps_del) (az r))(r:Rz)(H:ee sA del=some r):
  PH prog 163 [(.own 0 g_sA (sA.map rRr).length),(.fn g_del caps_del)] ⟨fun _=>none,upd (fun _=>none) 0 (some ⟨g_sA,54,(sA.map rRr),true⟩)⟩ (fun u H=>u= .own 0 g_sA (r.map rRr).length/\H=⟨fun _=>none,upd (fun _=>none) 0 (some ⟨g_sA,54,(r.map rRr),true⟩)⟩):=by
 unfold ee at H;refine PH.ak func163 ntmps163 ?_;refine go ?_
 obtain⟨x10,h10,H⟩:=aA H
 have s10:=hJ g_sA sA del hg_del hp_del _ h10
 obtain⟨_,q10_0,H⟩:=aA H
 have l10_0:=(dK q10_0).1;have z10_0:(List.map rRr sA).length=(List.map rRr x10.2).length:=by simpa using(l10_0).symm
 refine gU call211 [] [(0,0)] s10 ?_;rintro u10 H10h ⟨rfl,rfl⟩
 refine⟨_,rfl,?_⟩
 refine eA (fun _=>none) (upd (fun _=>none) 0 (some ⟨g_sA,54,(x10.2.map rRr),true⟩)) ?_;refine go ?_;refine aI Z H (fun H=>?_) (fun H=>?_)
 ·refine go ?_;obtain rfl:=ay H;refine cv (st':=⟨42,upd (fun _=>.any) 4 (.own 0 g_sA (sA.map rRr).length),fun _=>none,upd (fun _=>none) 0 (some ⟨g_sA,54,(x10.2.map rRr),true⟩)⟩) Gh.d ?_;refine rr U Z (ps:=[(.own 0 g_sA (sA.map rRr).length)]) ⟨_,_,rfl,rfl,rfl⟩ (PLe.of2 (PLe2.own z10_0)) ⟨rfl,rfl⟩
 refine go ?_
 obtain⟨fl1,H1,Hp1⟩:=aA H
 refine fK (τ:=Rz×Int×Int) (γ:=Unit) (fun s1 g1=>⟨42,upd (upd (fun _=>.any) 5 (ac s1.2.1)) 0 (.own 0 g_sA (s1.1.map rRr).length),fun _=>none,upd (fun _=>none) 0 (some ⟨g_sA,54,(s1.1.map rRr),true⟩)⟩) (fun t=>fl1= .next t) ?_ (fun s1 g1 hn1=>?_)
 ·refine aG ?_;refine iZ (fun s1 g1=>⟨42,upd (upd (upd (upd (fun _=>.any) 6 (ac s1.2.2)) 5 (ac s1.2.1)) 1 (.fn g_del caps_del)) 0 (.own 0 g_sA (s1.1.map rRr).length),fun _=>none,upd (fun _=>none) 0 (some ⟨g_sA,54,(s1.1.map rRr),true⟩)⟩) () H1 (Gh.le (bh (PLe.of2 (PLe2.of_eq (congrArg (PV.own 0 g_sA) z10_0))) (aq (aq (aq bm)))) aV (bJ aU)) (fun m1 s1 g1 hr1=>?_)
  obtain⟨fb1,H,hg1⟩:=gv hr1
  refine al (al (ah (cC 2 U Z (eO U (zl _) ?_))));refine go ?_;refine aI Z H (fun H=>?_) (fun H=>?_)
  ·refine go ?_
   obtain⟨x24,k24,H⟩:=eC H
   refine lz (tag:=0) Z (fun ho0=>?_);refine jT U ⟨k24.1,(dz k24.2)⟩ (dv ho0 k24.2) ?_;refine oj U Z Z Z Z Z Z Z (dJ (fun _=>Z) k24.2) Z Z ?_;refine go ?_
   obtain⟨x28,h28,H⟩:=aA H
   refine ag hg_del (ip.r) (hp_del _ _ h28) ?_;refine go ?_;refine aI Z H (fun H=>?_) (fun H=>?_)
   ·refine go ?_
    obtain⟨x33,k33,H⟩:=eC H
    refine lz (tag:=0) Z (fun ho0=>?_);refine jT U ⟨k33.1,(dz k33.2)⟩ (dv ho0 k33.2) ?_
    obtain⟨y4,hy4,H⟩:=cI H
    refine ou U Z Z Z Z Z Z Z Z (by rw[zl];exact(zg.1 k33.2).1) (PLe.refl _ _) Z Z Z Z (by decide) (eT (fun _=>Z) k33.2 Z hy4) ?_;refine go ?_;obtain rfl:=ay H;refine eR (y4,(Iw (s1.2.1+(1:Int))),(Iw (s1.2.2+(1:Int)))) () hg1 (Gh.le (bh (PLe.of2 (PLe2.of_eq (congrArg (PV.own 0 g_sA) (eZ (f:=rRr) hy4)))) (aq (aq (aq bm)))) aV (bJ aU))
   refine go ?_;obtain rfl:=ay H;refine eR (s1.1,s1.2.1,(Iw (s1.2.2+(1:Int)))) () hg1 Gh.d
  refine bd Z ?_;obtain rfl:=ay H;refine fc (s1.1,s1.2.1,s1.2.2) () hg1 Gh.d
 have H:=ep hn1 Hp1;refine al (ah (cC 2 U Z ?_))
 obtain⟨y5,hy5,H⟩:=aA H
 have ky5:=sj hy5;refine xk (tag:=0) Z (fun hcy5=>?_);have hny5:(s1.1.map rRr).length=(List.map rRr s1.1).length:=rfl;have hmy5:=ky5.2.1;rw[<-zl (f:=rRr),<-hny5]at hmy5;rw[<-hny5]at hcy5;refine jU (l:=s1.2.1.toNat) (h:=(s1.1.map rRr).length) (m:=g_sA.cap) U Z Z Z Z Z Z ⟨_,_,rfl,(Int.toNat_of_nonneg ky5.1).symm⟩ Z Z (by decide) hmy5 hcy5 (Nat.le_refl _) Z (iT (Gh.cutO (tag:=0) (rows':=List.map rRr y5) Z s1.2.1.toNat (by rw[<-List.map_take,ky5.2.2])) ?_);refine qv (tag:=0) (rows:=List.map rRr y5) U Z Z Z Z Z Z Z Z Z (p:=s1.2.1.toNat) (q:=(s1.1.map rRr).length) (m:=g_sA.cap) (by rw[zl,ky5.2.2,List.length_take];exact Nat.min_le_left _ _) hmy5 hcy5 (Nat.le_refl _) Z ?_;refine ao (al (ah (cC 2 U Z ?_)))
 obtain⟨y6,hy6,H⟩:=aA H
 have ky6:=sj hy6;refine xm (rows':=List.map rRr y6) U Z Z Z Z Z Z Z Z ⟨ky6.1,by rw[zl];exact ky6.2.1⟩ (by rw[<-List.map_take,ky6.2.2]) Z Z ?_;refine go ?_;obtain rfl:=ay H;refine cv (st':=⟨42,upd (fun _=>.any) 4 (.own 0 g_sA (y6.map rRr).length),fun _=>none,upd (fun _=>none) 0 (some ⟨g_sA,54,(y6.map rRr),true⟩)⟩) Gh.d ?_;refine rr U Z (ps:=[(.own 0 g_sA (y6.map rRr).length)]) ⟨_,_,rfl,rfl,rfl⟩ (PLe.of2 (PLe2.own Z)) ⟨rfl,rfl⟩
def iL(y:Rq)(c0:Rq):Option (Bool):=
 aa (bN c0 y) fun x6=>
 some x6
theorem uH(y:Rq)(c0:Rq)(r:Bool)(H:iL y c0=some r):
  aC prog 215 [(.list 69 (y.map ab)),(.ptr [(.list 69 (c0.map ab))])] (az r):=by
 unfold iL at H;refine PH.ak func215 ntmps215 ?_;refine go ?_;refine aB call50 (ip.r) (gu c0 y) H (fun x6 H=>?_);exact fS
def ig(op:Rb)(l:Rq):Option (LVal):=
 cond (op==([99,111,117,110,116]:Rb))
  (letP (kL (l.length:Int)) fun x13=>
  some x13)
  (cond ((l.length:Int)==(0:Int))
   (some (LVal.mk 0 0 []))
   (aa (ax l 0) fun(x19:LVal)=>
   aa (au (σ:=Int×LVal) (ρ:=Empty) (fun(_:Nat) (x1:LVal) (s1:Int×LVal)=>
    cond (op==([109,105,110]:Rb))
     (letP (nW x1 s1.2) fun x36=>
     cond x36
      (some (.next ((Iw (s1.1+x1.int)),x1)))
      (cond (op==([109,97,120]:Rb))
       (letP (nW s1.2 x1) fun x44=>
       cond x44
        (some (.next ((Iw (s1.1+x1.int)),x1)))
        (some (.next ((Iw (s1.1+x1.int)),s1.2))))
       (some (.next ((Iw (s1.1+x1.int)),s1.2)))))
     (cond (op==([109,97,120]:Rb))
      (letP (nW s1.2 x1) fun x44=>
      cond x44
       (some (.next ((Iw (s1.1+x1.int)),x1)))
       (some (.next ((Iw (s1.1+x1.int)),s1.2))))
      (some (.next ((Iw (s1.1+x1.int)),s1.2))))) 0 l (0,x19)) fun fl1=>fl1.thenP fun(s1:Int×LVal)=>
   cond (op==([115,117,109]:Rb))
    (letP (kL s1.1) fun x52=>
    some x52)
    (some s1.2)))
theorem rp(op:Rb)(l:Rq)(r:LVal)(H:ig op l=some r):
  aC prog 244 [(.str op),(.list 69 (l.map ab))] (.agg (ab r)):=by
 unfold ig at H;refine PH.ak func244 ntmps244 ?_;refine go ?_;refine aM U fun b4=>?_
 refine go ?_;refine aI Z H (fun H=>?_) (fun H=>?_)
 ·refine go ?_
  obtain⟨x13,h13,H⟩:=cI H
  have s13:=uj (l.length:Int);rw[h13]at s13;refine ag call232 (ip.r) s13 ?_;refine go ?_;exact wV U H Z Z Z Z Z
 refine go ?_;refine bG Z H ay (fun H=>?_);refine go ?_;refine ec U (fun _=>Z) H (fun x19 H=>?_);refine go ?_;refine aM U fun b5=>?_
 refine go ?_;refine fW U 23 22 21 (fun s1 g1=>upd (upd (upd (upd (fun _=>.any) 6 (ac s1.1)) 5 (.box 5 b5 0)) 4 (.box 4 b4 0)) 0 (.str op)) (fun s1 g1=>upd (upd (fun _=>none) 5 (some ⟨b5,(ab s1.2)⟩)) 4 (some ⟨b4,[(ac 0),(ac 0),(.str [])]⟩)) nO () H (fun fl1 Hp1 j1 s1 g1 hz1 hl1 x1 fb1 hx1 H hg1=>?_) (fun s1 g1 H=>?_)
 ·refine go ?_;refine aW U (zn j1) (aQ (fun _=>Z) hx1) ?_;refine go ?_;refine aM U fun b8=>?_
  refine go ?_;refine aN Z Z Z H (fun H=>?_) (fun H=>?_)
  ·refine go ?_
   obtain⟨x36,h36,H⟩:=cI H
   have s36:=pe x1 s1.2;rw[h36]at s36;refine ag call246 (ip.r) s36 ?_;refine go ?_;refine aN Z Z Z H (fun H=>?_) (fun H=>?_)
   ·refine go ?_;refine bO Z ?_;exact fN
   refine go ?_;refine aN Z Z Z H (fun H=>?_) (fun H=>?_)
   ·refine go ?_
    obtain⟨x44,h44,H⟩:=cI H
    have s44:=pe s1.2 x1;rw[h44]at s44;refine ag call246 (ip.r) s44 ?_;refine go ?_;refine wA Z H (fun H=>?_);exact fN
   refine go ?_;refine bj Z ?_;exact fN
  refine go ?_;refine aN Z Z Z H (fun H=>?_) (fun H=>?_)
  ·refine go ?_
   obtain⟨x44,h44,H⟩:=cI H
   have s44:=pe s1.2 x1;rw[h44]at s44;refine ag call246 (ip.r) s44 ?_;refine go ?_;refine wA Z H (fun H=>?_);exact fN
  refine go ?_;refine bj Z ?_;exact fN
 refine go ?_;refine aI Z H (fun H=>?_) (fun H=>?_)
 ·refine go ?_
  obtain⟨x52,h52,H⟩:=cI H
  have s52:=uj s1.1;rw[h52]at s52;refine ag call232 (ip.r) s52 ?_;refine go ?_;exact wV U H Z Z Z Z Z
 refine go ?_;exact wV U H Z Z Z Z Z
def eh(data:Rz)(a:Int)(m:Int)(b:Int)(cmp:Rq->Rq->Option (Int)):Option (Rz):=
 aa (gX (σ:=Rz×Int×Int) (ρ:=Empty) (fun(s1:Rz×Int×Int)=>
  cond (s1.2.1 !=s1.2.2)
   (cond (decide (s1.2.1>s1.2.2))
    (aa (cM s1.1 (Iw (m-s1.2.1)) m s1.2.2 cmp) fun x31=>
    aa (fF (x31.length=s1.1.length) ()) fun(_:Unit)=>
    some (.next (x31,(Iw (s1.2.1-s1.2.2)),s1.2.2)))
    (aa (cM s1.1 (Iw (m-s1.2.1)) (Iw ((Iw (m+s1.2.2))-s1.2.1)) s1.2.1 cmp) fun x46=>
    aa (fF (x46.length=s1.1.length) ()) fun(_:Unit)=>
    some (.next (x46,s1.2.1,(Iw (s1.2.2-s1.2.1))))))
   (some (.brk (s1.1,s1.2.1,s1.2.2)))) (data,(Iw (m-a)),(Iw (b-m)))) fun fl1=>fl1.thenP fun(s1:Rz×Int×Int)=>
 aa (cM s1.1 (Iw (m-s1.2.1)) m s1.2.1 cmp) fun x57=>
 aa (fF (x57.length=s1.1.length) ()) fun(_:Unit)=>
 some x57
theorem pn(g_data:OwnRef){g_cmp:FuncId}{caps_cmp:List PV}(data:Rz)(a:Int)(m:Int)(b:Int)(cmp:Rq->Rq->Option (Int))(hg_cmp:∀(vs:Array Value) (w:World),(callFunc g_cmp vs).run prog w= .ok (.enter g_cmp vs) w)(hp_cmp:∀a0 a1 r,cmp a0 a1=some r->aC prog g_cmp ((.list 69 (a0.map ab))::(.list 69 (a1.map ab))::caps_cmp) (ac r))(r:Rz)(H:eh data a m b cmp=some r):
  PH prog 278 [(.own 0 g_data (data.map rRr).length),(ac a),(ac m),(ac b),(.fn g_cmp caps_cmp)] ⟨fun _=>none,upd (fun _=>none) 0 (some ⟨g_data,54,(data.map rRr),true⟩)⟩ (fun u H=>u=(.tup [])/\H=⟨fun _=>none,upd (fun _=>none) 0 (some ⟨g_data,54,(r.map rRr),true⟩)⟩):=by
 unfold eh at H;refine PH.ak func278 ntmps278 ?_;refine go ?_
 obtain⟨fl1,H1,Hp1⟩:=aA H
 refine fK (τ:=Rz×Int×Int) (γ:=Unit) (fun s1 g1=>⟨58,upd (upd (upd (upd (fun _=>.any) 10 (ac s1.2.1)) 4 (.fn g_cmp caps_cmp)) 2 (ac m)) 0 (.own 0 g_data (s1.1.map rRr).length),fun _=>none,upd (fun _=>none) 0 (some ⟨g_data,54,(s1.1.map rRr),true⟩)⟩) (fun t=>fl1= .next t) ?_ (fun s1 g1 hn1=>?_)
 ·refine aG ?_;refine iZ (fun s1 g1=>⟨58,upd (upd (upd (upd (upd (fun _=>.any) 11 (ac s1.2.2)) 10 (ac s1.2.1)) 4 (.fn g_cmp caps_cmp)) 2 (ac m)) 0 (.own 0 g_data (s1.1.map rRr).length),fun _=>none,upd (fun _=>none) 0 (some ⟨g_data,54,(s1.1.map rRr),true⟩)⟩) () H1 Gh.d (fun m1 s1 g1 hr1=>?_)
  obtain⟨fb1,H,hg1⟩:=gv hr1
  refine go ?_;refine aI Z H (fun H=>?_) (fun H=>?_)
  ·refine go ?_;refine aI Z H (fun H=>?_) (fun H=>?_)
   ·refine go ?_
    obtain⟨x31,h31,H⟩:=aA H
    have s31:=iS g_data s1.1 (Iw (m-s1.2.1)) m s1.2.2 cmp hg_cmp hp_cmp _ h31
    obtain⟨_,q31_0,H⟩:=aA H
    have l31_0:=(dK q31_0).1;have z31_0:(List.map rRr s1.1).length=(List.map rRr x31).length:=by simpa using(l31_0).symm
    refine fL (g:=286) Z Z Z call286 [] [(0,0)] Z Z Z Z (ip.of2 (ku.cons (PLe2.own Z) (ku.cons (PLe2.of_eq Z) (ku.cons (PLe2.of_eq Z) (ku.cons (PLe2.of_eq Z) (ku.cons (PLe2.of_eq Z) ku.nil)))))) (by rw[dI,bB,cP];rfl) s31 ?_;rintro u31 H31h ⟨rfl,rfl⟩
    refine⟨_,rfl,?_⟩
    refine eA (fun _=>none) (upd (fun _=>none) 0 (some ⟨g_data,54,(x31.map rRr),true⟩)) ?_;refine go ?_;obtain rfl:=ay H;refine eR (x31,(Iw (s1.2.1-s1.2.2)),s1.2.2) () hg1 (Gh.le (bh (PLe.of2 (PLe2.of_eq (congrArg (PV.own 0 g_data) z31_0))) (aq (aq (aq (aq bm))))) aV (bJ aU))
   refine go ?_
   obtain⟨x46,h46,H⟩:=aA H
   have s46:=iS g_data s1.1 (Iw (m-s1.2.1)) (Iw ((Iw (m+s1.2.2))-s1.2.1)) s1.2.1 cmp hg_cmp hp_cmp _ h46
   obtain⟨_,q46_0,H⟩:=aA H
   have l46_0:=(dK q46_0).1;have z46_0:(List.map rRr s1.1).length=(List.map rRr x46).length:=by simpa using(l46_0).symm
   refine fL (g:=286) Z Z Z call286 [] [(0,0)] Z Z Z Z (ip.of2 (ku.cons (PLe2.own Z) (ku.cons (PLe2.of_eq Z) (ku.cons (PLe2.of_eq Z) (ku.cons (PLe2.of_eq Z) (ku.cons (PLe2.of_eq Z) ku.nil)))))) (by rw[dI,bB,cP];rfl) s46 ?_;rintro u46 H46h ⟨rfl,rfl⟩
   refine⟨_,rfl,?_⟩
   refine eA (fun _=>none) (upd (fun _=>none) 0 (some ⟨g_data,54,(x46.map rRr),true⟩)) ?_;refine go ?_;obtain rfl:=ay H;refine eR (x46,s1.2.1,(Iw (s1.2.2-s1.2.1))) () hg1 (Gh.le (bh (PLe.of2 (PLe2.of_eq (congrArg (PV.own 0 g_data) z46_0))) (aq (aq (aq (aq bm))))) aV (bJ aU))
  refine bd Z ?_;obtain rfl:=ay H;refine fc (s1.1,s1.2.1,s1.2.2) () hg1 Gh.d
 have H:=ep hn1 Hp1;refine go ?_
 obtain⟨x57,h57,H⟩:=aA H
 have s57:=iS g_data s1.1 (Iw (m-s1.2.1)) m s1.2.1 cmp hg_cmp hp_cmp _ h57
 obtain⟨_,q57_0,H⟩:=aA H
 have l57_0:=(dK q57_0).1;have z57_0:(List.map rRr s1.1).length=(List.map rRr x57).length:=by simpa using(l57_0).symm
 refine fL (g:=286) Z Z Z call286 [] [(0,0)] Z Z Z Z (ip.of2 (ku.cons (PLe2.own Z) (ku.cons (PLe2.of_eq Z) (ku.cons (PLe2.of_eq Z) (ku.cons (PLe2.of_eq Z) (ku.cons (PLe2.of_eq Z) ku.nil)))))) (by rw[dI,bB,cP];rfl) s57 ?_;rintro u57 H57h ⟨rfl,rfl⟩
 refine⟨_,rfl,?_⟩
 refine eA (fun _=>none) (upd (fun _=>none) 0 (some ⟨g_data,54,(x57.map rRr),true⟩)) ?_;refine ao ?_;obtain rfl:=ay H;refine cv (st':=⟨58,fun _=>.any,fun _=>none,upd (fun _=>none) 0 (some ⟨g_data,54,(x57.map rRr),true⟩)⟩) Gh.d ?_;refine mW Z (PLe.q Z) ⟨rfl,rfl⟩
def iU(rows:Rz):Option (Rz):=
 aa (au (σ:=Rz) (ρ:=Empty) (fun(_:Nat) (x1:Rq) (s1:Rz)=>
  aa (cE 24 s1 ([x1]:Rz)) fun(x16:Rz)=>
  some (.next x16)) 0 rows []) fun fl1=>fl1.thenP fun(s1:Rz)=>
 some s1
theorem oc{m:Nat}(rows:Rz)(r:Rz)(H:iU rows=some r):
  iv prog 57 [(.list 54 (rows.map rRr))] (lf m 54 (r.map rRr)):=by
 unfold iU at H;refine PH.ak func57 ntmps57 ?_;refine dp 1 U Z (dp 1 U Z (al (al (ah (aD U Z (ic U (zl _) ?_))))));refine aD U Z (ao (iy U 3 16 (e:=54) Z Z ?_));refine fW (γ:=OwnRef) U 8 7 6 (fun s1 g1=>upd (fun _=>.any) 3 (.own 16 g1 (s1.map rRr).length)) nB (fun s1 g1=>upd (fun _=>none) 16 (some ⟨g1,54,(s1.map rRr),true⟩)) (⟨none,0⟩) H (fun fl1 Hp1 j1 s1 g1 hz1 hl1 x1 fb1 hx1 H hg1=>?_) (fun s1 g1 H=>?_)
 ·refine go ?_;refine aW U (zn j1) (aQ (fun _=>Z) hx1) ?_;refine cC 2 U Z (ao (ah (cC 2 U Z ?_)));have s14:=rR (m:=14) x1;refine ag call85 (ip.r) (PFun.gN s14) ?_;refine bZ U (rows':=List.map rRr ([x1]:Rz)) (iW.refl _) ?_;refine fm U H (fun x16 g16 H=>?_);refine go ?_;exact cJ g16 H hl1 hg1
 refine go ?_;obtain rfl:=ay H;refine hP U Z
def jo(t:LTable)(key:Rq):Option (Int):=
 cond ((key.length:Int) !=(t.primaryKey.length:Int))
  (some 3)
  (aa (au (σ:=Unit) (ρ:=(Int)) (fun(j1:Nat) (x1:LVal) (_:Unit)=>
   letP (da x1) fun x22=>
   cond (x22 !=(0:Int))
    (some (.ret x22))
    (aa (ax t.primaryKey (j1:Int)) fun(x33:Int)=>
    aa (ax t.columns x33) fun(x35:LCol)=>
    cond (x1.kind !=x35.kind)
     (some (.ret 7))
     (some (.next ())))) 0 key ()) fun fl1=>fl1.thenR fun(_:Unit)=>
  some 0)
theorem un(t:LTable)(key:Rq)(r:Int)(H:jo t key=some r):
  aC prog 84 [(.agg (bq t)),(.list 69 (key.map ab))] (ac r):=by
 unfold jo at H;refine PH.ak func84 ntmps84 ?_;refine gB ?_;refine bG Z H ay (fun H=>?_);refine go ?_;refine fg U 16 15 14 (fun s1 g1=>upd (fun _=>.any) 2 (.ptr (bq t))) nB nO () H (fun fl1 Hp1 j1 s1 g1 hz1 hl1 x1 fb1 hx1 H hg1=>?_) (fun s1 g1 H=>?_)
 ·refine go ?_;refine aW U (zn j1) (aQ (fun _=>Z) hx1) ?_;refine go ?_;refine aM U fun b6=>?_
  refine go ?_
  obtain⟨x22,h22,H⟩:=cI H
  have s22:=od x1;rw[h22]at s22;refine ag call110 (ip.r) s22 ?_;refine go ?_;refine bG Z H (fun H=>lvR H hg1 Hp1) (fun H=>?_);refine go ?_;refine bK ⟨true,false,[29,31,34,37]⟩ [0,1,2,3,4,5,6,7,8,9,10,11,12] ?_;refine go ?_;refine bl (fun _=>Z) H (fun x33 H=>?_);refine go ?_;refine bl (fun _=>Z) H (fun x35 H=>?_);refine go ?_;refine bG Z H (fun H=>lvR H hg1 Hp1) (fun H=>?_);exact fN
 exact fS
def dP(slices:List (List LChange)):Option ((List LChange)):=
 aa (au (σ:=Int) (ρ:=Empty) (fun(_:Nat) (x1:List LChange) (s1:Int)=>
  cond (decide ((Iw (s1+(x1.length:Int)))<(0:Int)))
   (none)
   (some (.next (Iw (s1+(x1.length:Int)))))) 0 slices 0) fun fl1=>fl1.thenP fun(s1:Int)=>
 aa (nT 72 s1) fun(_:Unit)=>
 aa (au (σ:=List LChange) (ρ:=Empty) (fun(_:Nat) (x2:List LChange) (s2:List LChange)=>
  aa (cE 72 s2 x2) fun(x33:List LChange)=>
  some (.next x33)) 0 slices []) fun fl2=>fl2.thenP fun(s2:List LChange)=>
 some s2
theorem mP{m:Nat}(slices:List (List LChange))(r:(List LChange))(H:dP slices=some r):
  iv prog 16 [(.list 46 (slices.map (ae 56 bW)))] (lf m 56 (r.map bW)):=by
 unfold dP at H;refine PH.ak func16 ntmps16 ?_;refine go ?_;refine fW U 11 10 9 (fun s1 g1=>upd (upd (fun _=>.any) 3 (ac s1)) 0 (.list 46 (slices.map (ae 56 bW)))) nB nO () H (fun fl1 Hp1 j1 s1 g1 hz1 hl1 x1 fb1 hx1 H hg1=>?_) (fun s1 g1 H=>?_)
 ·refine go ?_;refine aW U (zn j1) (aQ (fun _=>Z) hx1) ?_;refine go ?_;refine aI Z H (fun H=>?_) (fun H=>?_)
  ·cases H
  exact fN
 refine go ?_
 obtain⟨_,h24,H⟩:=aA H
 have s24:=grow_49 (m:=24) s1 h24;refine iH call49 (ip.r) s24 (fun g24=>?_);refine go ?_;refine fW (γ:=OwnRef) U 27 26 25 (fun s2 g2=>upd (fun _=>.any) 6 (.own 24 g2 (s2.map bW).length)) nB (fun s2 g2=>upd (fun _=>none) 24 (some ⟨g2,56,(s2.map bW),true⟩)) g24 H (fun fl2 Hp2 j2 s2 g2 hz2 hl2 x2 fb2 hx2 H hg2=>?_) (fun s2 g2 H=>?_)
 ·refine go ?_;refine aW U (zn j2) (aQ (fun _=>Z) hx2) ?_;refine go ?_;refine fm U H (fun x33 g33 H=>?_);refine go ?_;exact cJ g33 H hl2 hg2
 refine go ?_;obtain rfl:=ay H;refine hP U Z
def fv(a:LChange)(b:LChange):Option (Bool):=
 cond (a.kind==b.kind)
  (cond (a.table==b.table)
   (aa (bN a.key b.key) fun x22=>
   cond x22
    (aa (bN a.row b.row) fun x29=>
    some x29)
    (some false))
   (some false))
  (some false)
theorem sQ(a:LChange)(b:LChange)(r:Bool)(H:fv a b=some r):
  aC prog 18 [(.agg (bW a)),(.agg (bW b))] (az r):=by
 unfold fv at H;refine PH.ak func18 ntmps18 ?_;refine gB ?_;refine aN Z Z Z H (fun H=>?_) (fun H=>?_)
 ·refine go ?_;refine aN Z Z Z H (fun H=>?_) (fun H=>?_)
  ·refine go ?_;refine aB call50 (ip.r) (gu a.key b.key) H (fun x22 H=>?_);refine go ?_;refine aN Z Z Z H (fun H=>?_) (fun H=>?_)
   ·refine go ?_;refine aB call50 (ip.r) (gu a.row b.row) H (fun x29 H=>?_);exact fS
   exact fS
  exact fS
 exact fS
def gL(t:LTable):Option (Int):=
 aa (io t.name) fun x11=>
 cond (!x11)
  (some 23)
  (cond ((t.columns.length:Int)==(0:Int))
   (some 3)
   (cond (decide ((t.columns.length:Int)>(6:Int)))
    (some 2)
    (aa (au (σ:=Unit) (ρ:=(Int)) (fun(j1:Nat) (x1:LCol) (_:Unit)=>
     aa (io x1.name) fun x31=>
     cond (!x31)
      (some (.ret 23))
      (aa (iK t x1.name) fun x37=>
      cond (decide (x37.1<(j1:Int)))
       (some (.ret 5))
       (cond (decide (x1.kind<(1:Int)))
        (some (.ret 7))
        (cond (decide (x1.kind>(3:Int)))
         (some (.ret 7))
         (some (.next ())))))) 0 t.columns ()) fun fl1=>fl1.thenR fun(_:Unit)=>
    aa (au (σ:=Unit) (ρ:=(Int)) (fun(j2:Nat) (x2:Int) (_:Unit)=>
     cond (decide (x2<(0:Int)))
      (some (.ret 9))
      (cond (decide (x2>=(t.columns.length:Int)))
       (some (.ret 9))
       (aa (ax t.columns x2) fun(x73:LCol)=>
       cond x73.nullable
        (some (.ret 9))
        (cond (decide ((j2:Int)>(0:Int)))
         (aa (ax t.primaryKey (Iw ((j2:Int)-(1:Int)))) fun(x86:Int)=>
         cond (decide (x2<=x86))
          (some (.ret 9))
          (some (.next ())))
         (some (.next ())))))) 0 t.primaryKey ()) fun fl2=>fl2.thenR fun(_:Unit)=>
    cond ((t.primaryKey.length:Int)==(0:Int))
     (some 9)
     (some 0))))
theorem sN(t:LTable)(r:Int)(H:gL t=some r):
  aC prog 71 [(.agg (bq t))] (ac r):=by
 unfold gL at H;refine PH.ak func71 ntmps71 ?_;refine gB ?_;refine aB call105 (ip.r) (qw t.name) H (fun x11 H=>?_);refine go ?_;refine bG Z H ay (fun H=>?_);refine go ?_;refine bG Z H ay (fun H=>?_);refine go ?_;refine bG Z H ay (fun H=>?_);refine go ?_;refine fg U 24 23 22 (fun s1 g1=>upd (fun _=>.any) 1 (.ptr (bq t))) nB nO () H (fun fl1 Hp1 j1 s1 g1 hz1 hl1 x1 fb1 hx1 H hg1=>?_) (fun s1 g1 H=>?_)
 ·refine go ?_;refine aW U (zn j1) (aQ (fun _=>Z) hx1) ?_;refine go ?_;refine aM U fun b4=>?_
  refine go ?_;refine aB call105 (ip.r) (qw x1.name) H (fun x31 H=>?_);refine go ?_;refine bG Z H (fun H=>lvR H hg1 Hp1) (fun H=>?_);refine go ?_;refine aB call106 (ip.r) (uI t x1.name) H (fun x37 H=>?_);refine go ?_;refine bG Z H (fun H=>lvR H hg1 Hp1) (fun H=>?_);refine go ?_;refine aN Z Z Z H (fun H=>?_) (fun H=>?_)
  ·refine go ?_;refine bO Z ?_;exact fE (lvR H hg1 Hp1)
  refine go ?_;refine bG Z H (fun H=>lvR H hg1 Hp1) (fun H=>?_);exact fN
 refine go ?_;refine fg U 55 54 53 (fun s2 g2=>upd (fun _=>.any) 1 (.ptr (bq t))) nB nO () H (fun fl2 Hp2 j2 s2 g2 hz2 hl2 x2 fb2 hx2 H hg2=>?_) (fun s2 g2 H=>?_)
 ·refine go ?_;refine aW U (zn j2) (aQ (fun _=>Z) hx2) ?_;refine go ?_;refine aN Z Z Z H (fun H=>?_) (fun H=>?_)
  ·refine go ?_;refine bO Z ?_;exact fE (lvR H hg2 Hp2)
  refine go ?_;refine aN Z Z Z H (fun H=>?_) (fun H=>?_)
  ·refine go ?_;refine bO Z ?_;exact fE (lvR H hg2 Hp2)
  refine go ?_;refine ec U (fun _=>Z) H (fun x73 H=>?_);refine go ?_;refine aN Z Z Z H (fun H=>?_) (fun H=>?_)
  ·refine go ?_;refine bO Z ?_;exact fE (lvR H hg2 Hp2)
  refine go ?_;refine aN Z Z Z H (fun H=>?_) (fun H=>?_)
  ·refine go ?_;refine ec U (fun _=>Z) H (fun x86 H=>?_);refine go ?_;refine bG Z H (fun H=>lvR H hg2 Hp2) (fun H=>?_);exact fN
  refine go ?_;refine bj Z ?_;exact fN
 refine go ?_;exact na Z H ay ay
def gc(sA:LSchema)(fk:LF):Option (Int):=
 aa (dH sA fk.table) fun x17=>
 aa (dH sA fk.refTable) fun x24=>
 letP (
  cond (!x17.2)
   (true)
   ((!x24.2))) fun(t1:Bool)=>
 cond t1
  (some 4)
  (aa (ax sA.tables x17.1) fun(x36:LTable)=>
  aa (ax sA.tables x24.1) fun(x41:LTable)=>
  cond ((fk.columns.length:Int) !=(x41.primaryKey.length:Int))
   (some 3)
   (aa (au (σ:=Unit) (ρ:=(Int)) (fun(j2:Nat) (x2:Int) (_:Unit)=>
    letP (
     cond (decide (x2<(0:Int)))
      (true)
      ((decide (x2>=(x36.columns.length:Int))))) fun(t4:Bool)=>
    cond t4
     (some (.ret 3))
     (aa (ax x36.columns x2) fun(x70:LCol)=>
     aa (ax x41.primaryKey (j2:Int)) fun(x78:Int)=>
     aa (ax x41.columns x78) fun(x80:LCol)=>
     cond (x70.kind !=x80.kind)
      (some (.ret 7))
      (some (.next ())))) 0 fk.columns ()) fun fl2=>fl2.thenR fun(_:Unit)=>
   some 0))
theorem qj(sA:LSchema)(fk:LF)(r:Int)(H:gc sA fk=some r):
  aC prog 72 [(.agg (cf sA)),(.agg (jX fk))] (ac r):=by
 unfold gc at H;refine PH.ak func72 ntmps72 ?_;refine gB ?_;refine aB call28 (ip.r) (kr sA fk.table) H (fun x17 H=>?_);refine go ?_;refine aB call28 (ip.r) (kr sA fk.refTable) H (fun x24 H=>?_);refine cC 5 U Z (ao (al (al ?_)));refine fP (γ:=Unit) (fun t1 g1=>⟨85,upd (upd (upd (upd (upd (fun _=>.any) 32 (az t1)) 7 (ac x24.1)) 5 (ac x17.1)) 3 (.ptr (jX fk))) 2 (.ptr (cf sA)),fun _=>none,fun _=>none⟩) H (fun _ H=>?_) (fun t1 g1 H=>?_)
 ·refine go ?_;refine aN Z Z Z H (fun H=>?_) (fun H=>?_)
  ·exact fA
  exact fA
 refine bG Z H ay (fun H=>?_);refine go ?_;refine bK ⟨false,false,[]⟩ [0,1,2,3,4,5,6,7,8,9,10,11,12,13] ?_;refine go ?_;refine bl (fun _=>Z) H (fun x36 H=>?_);refine go ?_;refine bl (fun _=>Z) H (fun x41 H=>?_);refine go ?_;refine pY Z Z Z Z Z Z Z Z fun b9=>?_
 refine pY Z Z Z Z Z Z Z Z fun b10=>?_
 refine ib Z Z Z Z Z Z Z Z Z Z Z Z (ib Z Z Z Z Z Z Z Z Z Z Z Z (go ?_));refine bG Z H ay (fun H=>?_);refine go ?_
 obtain⟨fl2,H2,Hp2⟩:=aA H
 refine jc U 51 Z Z (fun hz2 _=>?_);rw[zl]at hz2;refine fK (τ:=Unit) (γ:=Unit) (fun s2 g2=>⟨85,fun _=>.any,fun _=>none,fun _=>none⟩) (fun t=>fl2= .next t) ?_ (fun s2 g2 hn2=>?_)
 ·refine aG ?_;refine jw (fun j2 s2 g2=>⟨85,upd (upd (upd (upd (upd (fun _=>.any) 53 (ac (j2:Int))) 52 (ac (fk.columns.length:Int))) 51 (.list 3 (fk.columns.map bv))) 10 (.box 10 b10 0)) 9 (.box 9 b9 0),upd (upd (fun _=>none) 10 (some ⟨b10,(bq x41)⟩)) 9 (some ⟨b9,(bq x36)⟩),fun _=>none⟩) () H2 Gh.d (fun j2 s2 g2 hj2 hr2=>?_);refine go ?_;refine aY Z (fun h=>?_) (fun h=>?_)
  ·have hl2:=qk h
   obtain⟨x2,fb2,hx2,H,hg2⟩:=rMc hl2 hr2
   refine go ?_;refine aW U (zn j2) (aQ (fun _=>Z) hx2) ?_;refine cC 3 U Z (ao (al (al ?_)));refine fP (γ:=Unit) (fun t4 g4=>⟨85,upd (upd (upd (upd (upd (upd (upd (upd (fun _=>.any) 66 (az t4)) 53 (ac (j2:Int))) 52 (ac (fk.columns.length:Int))) 51 (.list 3 (fk.columns.map bv))) 12 (ac x2)) 11 (ac (j2:Int))) 10 (.box 10 b10 0)) 9 (.box 9 b9 0),upd (upd (fun _=>none) 10 (some ⟨b10,(bq x41)⟩)) 9 (some ⟨b9,(bq x36)⟩),fun _=>none⟩) H (fun _ H=>?_) (fun t4 g4 H=>?_)
   ·refine go ?_;refine aN Z Z Z H (fun H=>?_) (fun H=>?_)
    ·exact fA
    exact fA
   refine bG Z H (fun H=>lvR H hg2 Hp2) (fun H=>?_);refine go ?_;refine bK ⟨true,false,[72,79,82]⟩ [0,1,2,3,4,5,6,7,8,9,10,11,12,13,14,15,16] ?_;refine go ?_;refine bl (fun _=>Z) H (fun x70 H=>?_);refine go ?_;refine bl (fun _=>Z) H (fun x78 H=>?_);refine go ?_;refine bl (fun _=>Z) H (fun x80 H=>?_);refine go ?_;refine bG Z H (fun H=>lvR H hg2 Hp2) (fun H=>?_);exact fN
  have hn2:=rMd (qp h) hr2;refine bd Z ?_;refine fc s2 g2 hn2 Gh.d
 have H:=mn hn2 Hp2;exact fS
def iI(other:LF)(c0:LF):Option (Bool):=
 aa (ji other c0) fun x6=>
 some x6
theorem uG(other:LF)(c0:LF)(r:Bool)(H:iI other c0=some r):
  aC prog 74 [(.agg (jX other)),(.ptr (jX c0))] (az r):=by
 unfold iI at H;refine PH.ak func74 ntmps74 ?_;refine gB ?_;refine aB call75 (ip.r) (qY other c0) H (fun x6 H=>?_);exact fS
def bP(a:LVal)(b:LVal):Int:=
 letP (bp a.kind b.kind) fun x11=>
 cond (x11 !=(0:Int))
  (x11)
  (letP (bp a.int b.int) fun x19=>
  cond (x19 !=(0:Int))
   (x19)
   (letP (kI a.text b.text) fun x27=>
   x27))
theorem sh(a:LVal)(b:LVal):
  aC prog 112 [(.agg (ab a)),(.agg (ab b))] (ac (bP a b)):=by
 obtain⟨r,H⟩:∃r,bP a b=r:=⟨_,rfl⟩
 rw[H];unfold bP at H;refine PH.ak func112 ntmps112 ?_;refine gB ?_
 obtain⟨x11,h11,H⟩:=cI H
 have s11:=mO a.kind b.kind;rw[h11]at s11;refine ag call113 (ip.r) s11 ?_;refine go ?_;refine bG Z H id (fun H=>?_);refine go ?_
 obtain⟨x19,h19,H⟩:=cI H
 have s19:=mO a.int b.int;rw[h19]at s19;refine ag call113 (ip.r) s19 ?_;refine go ?_;refine bG Z H id (fun H=>?_);refine go ?_
 obtain⟨x27,h27,H⟩:=cI H
 have s27:=vU a.text b.text;rw[h27]at s27;refine ag call172 (ip.r) s27 ?_;exact fE H
def bY(kinds:List Int)(c0:LS):Option (Bool):=
 aa (ew kinds c0.kind) fun x7=>
 some x7
theorem dt(kinds:List Int)(c0:LS)(r:Bool)(H:bY kinds c0=some r):
  aC prog 114 [(.list 3 (kinds.map bv)),(.ptr (am c0))] (az r):=by
 unfold bY at H;refine PH.ak func114 ntmps114 ?_;refine go ?_;refine aB call115 (ip.r) (kA kinds c0.kind) H (fun x7 H=>?_);exact fS
def fy(c:LC)(q:LQuery):Option (Int):=
 aa (fw q) fun x11=>
 aa (au (σ:=Unit) (ρ:=(Int)) (fun(j1:Nat) (x1:Int) (_:Unit)=>
  cond (x1 !=(0:Int))
   (cond (decide ((j1:Int)>=(c.args.length:Int)))
    (some (.ret 7))
    (aa (ax c.args (j1:Int)) fun(x33:Int)=>
    cond (x33 !=x1)
     (some (.ret 7))
     (some (.next ()))))
   (some (.next ()))) 0 x11.1 ()) fun fl1=>fl1.thenR fun(_:Unit)=>
 some 0
theorem mV(c:LC)(q:LQuery)(r:Int)(H:fy c q=some r):
  aC prog 120 [(.agg (ba c)),(.agg (aH q))] (ac r):=by
 unfold fy at H;refine PH.ak func120 ntmps120 ?_;refine gB ?_;refine aB call91 (ip.r) (lP q) H (fun x11 H=>?_);refine go ?_;refine fg U 16 15 14 (fun s1 g1=>upd (fun _=>.any) 2 (.ptr (ba c))) nB nO () H (fun fl1 Hp1 j1 s1 g1 hz1 hl1 x1 fb1 hx1 H hg1=>?_) (fun s1 g1 H=>?_)
 ·refine go ?_;refine aW U (zn j1) (aQ (fun _=>Z) hx1) ?_;refine go ?_;refine aN Z Z Z H (fun H=>?_) (fun H=>?_)
  ·refine go ?_;refine aN Z Z Z H (fun H=>?_) (fun H=>?_)
   ·refine go ?_;refine bO Z ?_;exact fE (lvR H hg1 Hp1)
   refine go ?_;refine ec U (fun _=>Z) H (fun x33 H=>?_);refine go ?_;refine bG Z H (fun H=>lvR H hg1 Hp1) (fun H=>?_);exact fN
  refine go ?_;refine bj Z ?_;exact fN
 exact fS
def kv(vars:List LCol)(x:LCol):Option ((List LCol)):=
 aa (dg vars (fun a0=>some (iC a0 x))) fun x9=>
 aa (cE 32 x9 ([x]:List LCol)) fun(x13:List LCol)=>
 some x13
theorem sy(vars:List LCol)(x:LCol)(r:(List LCol))(H:kv vars x=some r):
  aC prog 118 [(.list 93 (vars.map ap)),(.agg (ap x))] (.list 93 (r.map ap)):=by
 unfold kv at H;refine PH.ak func118 ntmps118 ?_;refine al (ah (bC ?_));refine aD U Z (ao (al (ah (aD U Z ?_))));have s7:=oE (m:=7) vars;refine iH call176 (ip.r) s7 (fun g7=>?_);refine go ?_
 obtain⟨x9,h9,H⟩:=aA H
 have s9:=lZ g7 vars (fun a0=>some (iC a0 x)) call177 (fun a0 r h=>(ay h)▸vT a0 x) _ h9;refine gU call175 [] [(7,0)] s9 ?_;rintro u9 H9h ⟨rfl,rfl⟩
 refine⟨_,rfl,?_⟩
 refine eA (fun _=>none) (upd (fun _=>none) 7 (some ⟨g7,93,(x9.map ap),true⟩)) ?_;refine jA 9 (q:=(.own 7 g7 (x9.map ap).length)) Z (PLe.of2 (PLe2.own Z)) (go ?_);refine bZ U (rows':=List.map ap ([x]:List LCol)) (iW.refl _) ?_;refine fm U H (fun x13 g13 H=>?_);refine aD U Z (ao (cD 4 Z Z Z ?_));exact fS
def ek(kinds:List Int)(c0:LQuery):Option (Bool):=
 aa (ew kinds c0.kind) fun x7=>
 some x7
theorem gY(kinds:List Int)(c0:LQuery)(r:Bool)(H:ek kinds c0=some r):
  aC prog 233 [(.list 3 (kinds.map bv)),(.ptr (aH c0))] (az r):=by
 unfold ek at H;refine PH.ak func233 ntmps233 ?_;refine go ?_;refine aB call115 (ip.r) (kA kinds c0.kind) H (fun x7 H=>?_);exact fS
def iR(q:LQuery)(args:Rq):Option (Int):=
 aa (fw q) fun x11=>
 cond (x11.2 !=(0:Int))
  (some x11.2)
  (cond (decide ((args.length:Int)<(x11.1.length:Int)))
   (some 1)
   (aa (au (σ:=Unit) (ρ:=(Int)) (fun(j1:Nat) (x1:Int) (_:Unit)=>
    aa (ax args (j1:Int)) fun(x31:LVal)=>
    letP (kY x31) fun x33=>
    cond (!x33)
     (some (.ret 7))
     (cond (x1 !=(0:Int))
      (aa (ax args (j1:Int)) fun(x41:LVal)=>
      cond (x41.kind !=x1)
       (aa (ax args (j1:Int)) fun(x50:LVal)=>
       cond (x50.kind !=(0:Int))
        (some (.ret 7))
        (some (.next ())))
       (some (.next ())))
      (some (.next ())))) 0 x11.1 ()) fun fl1=>fl1.thenR fun(_:Unit)=>
   some 0))
theorem sM(q:LQuery)(args:Rq)(r:Int)(H:iR q args=some r):
  aC prog 54 [(.agg (aH q)),(.list 69 (args.map ab))] (ac r):=by
 unfold iR at H;refine PH.ak func54 ntmps54 ?_;refine gB ?_;refine aB call91 (ip.r) (lP q) H (fun x11 H=>?_);refine go ?_;refine bG Z H ay (fun H=>?_);refine go ?_;refine bG Z H ay (fun H=>?_);refine go ?_;refine fg U 24 23 22 (fun s1 g1=>upd (fun _=>.any) 1 (.list 69 (args.map ab))) nB nO () H (fun fl1 Hp1 j1 s1 g1 hz1 hl1 x1 fb1 hx1 H hg1=>?_) (fun s1 g1 H=>?_)
 ·refine go ?_;refine aW U (zn j1) (aQ (fun _=>Z) hx1) ?_;refine go ?_;refine ec U (fun _=>Z) H (fun x31 H=>?_);refine go ?_
  obtain⟨x33,h33,H⟩:=cI H
  have s33:=sI x31;rw[h33]at s33;refine ag call43 (ip.r) s33 ?_;refine go ?_;refine aN Z Z Z H (fun H=>?_) (fun H=>?_)
  ·refine go ?_;refine bO Z ?_;exact fE (lvR H hg1 Hp1)
  refine go ?_;refine aN Z Z Z H (fun H=>?_) (fun H=>?_)
  ·refine go ?_;refine ec U (fun _=>Z) H (fun x41 H=>?_);refine go ?_;refine aN Z Z Z H (fun H=>?_) (fun H=>?_)
   ·refine go ?_;refine ec U (fun _=>Z) H (fun x50 H=>?_);refine go ?_;refine bG Z H (fun H=>lvR H hg1 Hp1) (fun H=>?_);exact fN
   refine go ?_;refine bj Z ?_;exact fN
  refine go ?_;refine bj Z ?_;exact fN
 exact fS
def mZ(a:Rz)(b:Rz):Option (Rz):=
 aa (au (σ:=Rz×Rz) (ρ:=Empty) (fun(_:Nat) (x1:Rq) (s1:Rz×Rz)=>
  aa (bH s1.1 (fun a0=>kT a0 x1)) fun x20=>
  aa (fF (x20.2.length=s1.1.length) ()) fun(_:Unit)=>
  cond (decide (x20.1>=(0:Int)))
   (aa (oM x20.2 x20.1 (Iw (x20.1+(1:Int)))) fun x27=>
   some (.next (x27,s1.2)))
   (aa (cE 24 s1.2 ([x1]:Rz)) fun(x31:Rz)=>
   some (.next (x20.2,x31)))) 0 a (b,[])) fun fl1=>fl1.thenP fun(s1:Rz×Rz)=>
 some s1.2
theorem W_query_less(a:Rz)(b:Rz)(r:Rz)(H:mZ a b=some r):
  aC prog 161 [(.list 54 (a.map rRr)),(.list 54 (b.map rRr))] (.list 54 (r.map rRr)):=by
 unfold mZ at H;refine PH.ak func161 ntmps161 ?_;refine dp 1 U Z (al (ah (aD U Z ?_)));have s11:=ss (m:=11) b;refine iH call160 (ip.r) s11 (fun g11=>?_);refine go ?_
 obtain⟨fl1,H1,Hp1⟩:=aA H
 refine jc U 12 Z Z (fun hz1 _=>?_);rw[zl]at hz1;refine fK (τ:=Rz×Rz) (γ:=OwnRef×OwnRef) (fun s1 g1=>⟨34,upd (fun _=>.any) 6 (.own 31 g1.2 (s1.2.map rRr).length),fun _=>none,upd (fun _=>none) 31 (some ⟨g1.2,54,(s1.2.map rRr),true⟩)⟩) (fun t=>fl1= .next t) ?_ (fun s1 g1 hn1=>?_)
 ·refine aG (iy U 6 31 (e:=54) Z Z ?_);refine jw (fun j1 s1 g1=>⟨34,upd (upd (upd (upd (upd (fun _=>.any) 14 (ac (j1:Int))) 13 (ac (a.length:Int))) 12 (.list 54 (a.map rRr))) 6 (.own 31 g1.2 (s1.2.map rRr).length)) 5 (.own 11 g1.1 (s1.1.map rRr).length),fun _=>none,upd (upd (fun _=>none) 31 (some ⟨g1.2,54,(s1.2.map rRr),true⟩)) 11 (some ⟨g1.1,54,(s1.1.map rRr),true⟩)⟩) (g11,⟨none,0⟩) H1 Gh.d (fun j1 s1 g1 hj1 hr1=>?_);refine go ?_;refine aY Z (fun h=>?_) (fun h=>?_)
  ·have hl1:=qk h
   obtain⟨x1,fb1,hx1,H,hg1⟩:=rMc hl1 hr1
   refine go ?_;refine aW U (zn j1) (aQ (fun _=>Z) hx1) ?_;refine go ?_;refine aM U fun b8=>?_
   refine aK U ?_;refine ao (al (al (ah (aD U Z (iT (Gh.freezeB 8 Z Z Z Z) (go ?_))))))
   obtain⟨x20,h20,H⟩:=aA H
   have s20:=hJ g1.1 s1.1 (fun a0=>kT a0 x1) call212 (fun a0 r h=>W_query_less_1 a0 x1 r h) _ h20
   obtain⟨_,q20_0,H⟩:=aA H
   have l20_0:=(dK q20_0).1;have z20_0:(List.map rRr s1.1).length=(List.map rRr x20.2).length:=by simpa using(l20_0).symm
   refine gU call211 [] [(11,0)] s20 ?_;rintro u20 H20h ⟨rfl,rfl⟩
   refine⟨_,rfl,?_⟩
   refine eA (fun _=>none) (upd (upd (fun _=>none) 31 (some ⟨g1.2,54,(s1.2.map rRr),true⟩)) 11 (some ⟨g1.1,54,(x20.2.map rRr),true⟩)) ?_;refine go ?_;refine aI Z H (fun H=>?_) (fun H=>?_)
   ·refine go ?_
    obtain⟨x27,h27,H⟩:=aA H
    have s27:=wv g1.1 x20.2 x20.1 (Iw (x20.1+(1:Int))) _ h27;refine fL (g:=88) Z Z Z call88 [] [(11,0)] Z Z Z Z (ip.of2 (ku.cons (PLe2.own z20_0) (ku.cons (PLe2.of_eq Z) (ku.cons (PLe2.of_eq Z) ku.nil)))) (by rw[dI,bB,cP];rfl) s27 ?_;rintro u27 H27h ⟨rfl,rfl⟩
    refine⟨_,rfl,?_⟩
    refine eA (fun _=>none) (upd (upd (fun _=>none) 31 (some ⟨g1.2,54,(s1.2.map rRr),true⟩)) 11 (some ⟨g1.1,54,(x27.map rRr),true⟩)) ?_;refine jA 27 (q:=(.own 11 g1.1 (x27.map rRr).length)) Z (PLe.of2 (PLe2.own Z)) (go ?_);exact cJ (g1.1,g1.2) H hl1 hg1
   refine go ?_;refine bZ U (rows':=List.map rRr ([x1]:Rz)) (iW.refl _) ?_;refine fm U H (fun x31 g31 H=>?_);refine go ?_;exact cJ (g1.1,g31) H hl1 hg1 (Gh.le (bh (PLe.of2 (PLe2.of_eq (congrArg (PV.own 11 g1.1) z20_0))) (aq (aq (aq (bh (PLe.q (fG (by omega))) bm))))) aV (bJ (bJ aU)))
  have hn1:=rMd (qp h) hr1;refine bd Z ?_;refine fc s1 g1 hn1 Gh.d
 have H:=ep hn1 Hp1;refine dp 2 U Z (cD 4 Z Z Z ?_);exact fS
def dc(rec268:Rz->Int->Int->Int->Option (Rz))(data:Rz)(a:Int)(m:Int)(b:Int)(cmp:Rq->Rq->Option (Int)):Option (Rz):=
 cond ((Iw (m-a))==(1:Int))
  (aa (gX (σ:=Rz×Int×Int) (ρ:=Empty) (fun(s1:Rz×Int×Int)=>
   cond (decide (s1.2.1<s1.2.2))
    (aa (ax s1.1 (Iw (Int.fdiv (IntKind.u64.wrap (Iw (s1.2.1+s1.2.2))) (2^1)))) fun(x43:Rq)=>
    aa (ax s1.1 a) fun(x47:Rq)=>
    aa (cmp x43 x47) fun x49=>
    cond (decide (x49<(0:Int)))
     (some (.next (s1.1,(Iw ((Iw (Int.fdiv (IntKind.u64.wrap (Iw (s1.2.1+s1.2.2))) (2^1)))+(1:Int))),s1.2.2)))
     (some (.next (s1.1,s1.2.1,(Iw (Int.fdiv (IntKind.u64.wrap (Iw (s1.2.1+s1.2.2))) (2^1)))))))
    (some (.brk (s1.1,s1.2.1,s1.2.2)))) (data,m,b)) fun fl1=>fl1.thenP fun(s1:Rz×Int×Int)=>
  aa (gX (σ:=Rz×Int) (ρ:=Empty) (fun(s2:Rz×Int)=>
   cond (decide (s2.2<(Iw (s1.2.1-(1:Int)))))
    (aa (ax s2.1 (Iw (s2.2+(1:Int)))) fun(x69:Rq)=>
    aa (ax s2.1 s2.2) fun(x73:Rq)=>
    aa (ax s2.1 s2.2) fun(_:Rq)=>
    letP (s2.1.set s2.2.toNat x69) fun(y7:Rz)=>
    aa (ax y7 (Iw (s2.2+(1:Int)))) fun(_:Rq)=>
    letP (y7.set ((Iw (s2.2+(1:Int))).toNat) x73) fun(y8:Rz)=>
    some (.next (y8,(Iw (s2.2+(1:Int))))))
    (some (.brk (s2.1,s2.2)))) (s1.1,a)) fun fl2=>fl2.thenP fun(s2:Rz×Int)=>
  some s2.1)
  (cond ((Iw (b-m))==(1:Int))
   (aa (gX (σ:=Rz×Int×Int) (ρ:=Empty) (fun(s9:Rz×Int×Int)=>
    cond (decide (s9.2.1<s9.2.2))
     (aa (ax s9.1 m) fun(x95:Rq)=>
     aa (ax s9.1 (Iw (Int.fdiv (IntKind.u64.wrap (Iw (s9.2.1+s9.2.2))) (2^1)))) fun(x99:Rq)=>
     aa (cmp x95 x99) fun x101=>
     cond (!(decide (x101<(0:Int))))
      (some (.next (s9.1,(Iw ((Iw (Int.fdiv (IntKind.u64.wrap (Iw (s9.2.1+s9.2.2))) (2^1)))+(1:Int))),s9.2.2)))
      (some (.next (s9.1,s9.2.1,(Iw (Int.fdiv (IntKind.u64.wrap (Iw (s9.2.1+s9.2.2))) (2^1)))))))
     (some (.brk (s9.1,s9.2.1,s9.2.2)))) (data,a,m)) fun fl9=>fl9.thenP fun(s9:Rz×Int×Int)=>
   aa (gX (σ:=Rz×Int) (ρ:=Empty) (fun(s10:Rz×Int)=>
    cond (decide (s10.2>s9.2.1))
     (aa (ax s10.1 (Iw (s10.2-(1:Int)))) fun(x121:Rq)=>
     aa (ax s10.1 s10.2) fun(x125:Rq)=>
     aa (ax s10.1 s10.2) fun(_:Rq)=>
     letP (s10.1.set s10.2.toNat x121) fun(y15:Rz)=>
     aa (ax y15 (Iw (s10.2-(1:Int)))) fun(_:Rq)=>
     letP (y15.set ((Iw (s10.2-(1:Int))).toNat) x125) fun(y16:Rz)=>
     some (.next (y16,(Iw (s10.2-(1:Int))))))
     (some (.brk (s10.1,s10.2)))) (s9.1,m)) fun fl10=>fl10.thenP fun(s10:Rz×Int)=>
   some s10.1)
   (letP (
    cond (decide (m>(Iw (Int.fdiv (IntKind.u64.wrap (Iw (a+b))) (2^1)))))
     ((data,(Iw ((Iw ((Iw (Int.fdiv (IntKind.u64.wrap (Iw (a+b))) (2^1)))+m))-b)),(Iw (Int.fdiv (IntKind.u64.wrap (Iw (a+b))) (2^1)))))
     ((data,a,m))) fun(t17:Rz×Int×Int)=>
   aa (gX (σ:=Rz×Int×Int) (ρ:=Empty) (fun(s18:Rz×Int×Int)=>
    cond (decide (s18.2.1<s18.2.2))
     (aa (ax s18.1 (Iw ((Iw ((Iw ((Iw (Int.fdiv (IntKind.u64.wrap (Iw (a+b))) (2^1)))+m))-(1:Int)))-(Iw (Int.fdiv (IntKind.u64.wrap (Iw (s18.2.1+s18.2.2))) (2^1)))))) fun(x163:Rq)=>
     aa (ax s18.1 (Iw (Int.fdiv (IntKind.u64.wrap (Iw (s18.2.1+s18.2.2))) (2^1)))) fun(x167:Rq)=>
     aa (cmp x163 x167) fun x169=>
     cond (!(decide (x169<(0:Int))))
      (some (.next (s18.1,(Iw ((Iw (Int.fdiv (IntKind.u64.wrap (Iw (s18.2.1+s18.2.2))) (2^1)))+(1:Int))),s18.2.2)))
      (some (.next (s18.1,s18.2.1,(Iw (Int.fdiv (IntKind.u64.wrap (Iw (s18.2.1+s18.2.2))) (2^1)))))))
     (some (.brk (s18.1,s18.2.1,s18.2.2)))) (t17.1,t17.2.1,t17.2.2)) fun fl18=>fl18.thenP fun(s18:Rz×Int×Int)=>
   letP (
    cond (decide (s18.2.1<m))
     ((s18.1,(decide (m<(Iw ((Iw ((Iw (Int.fdiv (IntKind.u64.wrap (Iw (a+b))) (2^1)))+m))-s18.2.1))))))
     ((s18.1,false))) fun(t19:Rz×Bool)=>
   aa (
    cond t19.2
     (aa (eh t19.1 s18.2.1 m (Iw ((Iw ((Iw (Int.fdiv (IntKind.u64.wrap (Iw (a+b))) (2^1)))+m))-s18.2.1)) cmp) fun x191=>
     aa (fF (x191.length=t19.1.length) ()) fun(_:Unit)=>
     some x191)
     (some t19.1)) fun(t20:Rz)=>
   letP (
    cond (decide (a<s18.2.1))
     ((t20,(decide (s18.2.1<(Iw (Int.fdiv (IntKind.u64.wrap (Iw (a+b))) (2^1)))))))
     ((t20,false))) fun(t21:Rz×Bool)=>
   aa (
    cond t21.2
     (aa (rec268 t21.1 a s18.2.1 (Iw (Int.fdiv (IntKind.u64.wrap (Iw (a+b))) (2^1)))) fun x205=>
     aa (fF (x205.length=t21.1.length) ()) fun(_:Unit)=>
     some x205)
     (some t21.1)) fun(t22:Rz)=>
   cond (decide ((Iw (Int.fdiv (IntKind.u64.wrap (Iw (a+b))) (2^1)))<(Iw ((Iw ((Iw (Int.fdiv (IntKind.u64.wrap (Iw (a+b))) (2^1)))+m))-s18.2.1))))
    (cond (decide ((Iw ((Iw ((Iw (Int.fdiv (IntKind.u64.wrap (Iw (a+b))) (2^1)))+m))-s18.2.1))<b))
     (aa (rec268 t22 (Iw (Int.fdiv (IntKind.u64.wrap (Iw (a+b))) (2^1))) (Iw ((Iw ((Iw (Int.fdiv (IntKind.u64.wrap (Iw (a+b))) (2^1)))+m))-s18.2.1)) b) fun x219=>
     aa (fF (x219.length=t22.length) ()) fun(_:Unit)=>
     some x219)
     (some t22))
    (some t22)))
theorem nJ(g_data:OwnRef){g_cmp:FuncId}{caps_cmp:List PV}(rec268:Rz->Int->Int->Int->Option (Rz))(hrec268:∀g0 a0 a1 a2 a3 r,rec268 a0 a1 a2 a3=some r->PH prog 268 [(.own 0 g0 (a0.map rRr).length),(ac a1),(ac a2),(ac a3),(.fn g_cmp caps_cmp)] ⟨fun _=>none,upd (fun _=>none) 0 (some ⟨g0,54,(a0.map rRr),true⟩)⟩ (fun u H=>u=(.tup [])/\H=⟨fun _=>none,upd (fun _=>none) 0 (some ⟨g0,54,(r.map rRr),true⟩)⟩))(data:Rz)(a:Int)(m:Int)(b:Int)(cmp:Rq->Rq->Option (Int))(hg_cmp:∀(vs:Array Value) (w:World),(callFunc g_cmp vs).run prog w= .ok (.enter g_cmp vs) w)(hp_cmp:∀a0 a1 r,cmp a0 a1=some r->aC prog g_cmp ((.list 69 (a0.map ab))::(.list 69 (a1.map ab))::caps_cmp) (ac r))(r:Rz)(H:dc rec268 data a m b cmp=some r):
  PH prog 268 [(.own 0 g_data (data.map rRr).length),(ac a),(ac m),(ac b),(.fn g_cmp caps_cmp)] ⟨fun _=>none,upd (fun _=>none) 0 (some ⟨g_data,54,(data.map rRr),true⟩)⟩ (fun u H=>u=(.tup [])/\H=⟨fun _=>none,upd (fun _=>none) 0 (some ⟨g_data,54,(r.map rRr),true⟩)⟩):=by
 unfold dc at H;refine PH.ak func268 ntmps268 ?_;refine go ?_;refine aI Z H (fun H=>?_) (fun H=>?_)
 ·refine go ?_
  obtain⟨fl1,H1,Hp1⟩:=aA H
  refine fK (τ:=Rz×Int×Int) (γ:=Unit) (fun s1 g1=>⟨220,upd (upd (upd (fun _=>.any) 10 (ac s1.2.1)) 1 (ac a)) 0 (.own 0 g_data (s1.1.map rRr).length),fun _=>none,upd (fun _=>none) 0 (some ⟨g_data,54,(s1.1.map rRr),true⟩)⟩) (fun t=>fl1= .next t) ?_ (fun s1 g1 hn1=>?_)
  ·refine aG ?_;refine iZ (fun s1 g1=>⟨220,upd (upd (upd (upd (upd (fun _=>.any) 11 (ac s1.2.2)) 10 (ac s1.2.1)) 4 (.fn g_cmp caps_cmp)) 1 (ac a)) 0 (.own 0 g_data (s1.1.map rRr).length),fun _=>none,upd (fun _=>none) 0 (some ⟨g_data,54,(s1.1.map rRr),true⟩)⟩) () H1 Gh.d (fun m1 s1 g1 hr1=>?_)
   obtain⟨fb1,H,hg1⟩:=gv hr1
   refine go ?_;refine aI Z H (fun H=>?_) (fun H=>?_)
   ·refine go ?_;refine wI (m:=1) Z Z Z Z (by decide) Z Z (cC 2 U Z (ao (al ?_)));refine ii (tag:=0) Z (fun ho0=>?_);refine bK ⟨false,true,[]⟩ [0,1,2,3,4,5,6,7,8,9,10] ?_;refine go ?_
    obtain⟨x43,k43,H⟩:=eC H
    refine cZ U ⟨k43.1,(dz k43.2)⟩ (dv ho0 k43.2) ?_;refine gC U Z Z Z Z Z Z Z Z Z (dJ (fun _=>Z) k43.2) Z Z ?_;refine go ?_
    obtain⟨x47,k47,H⟩:=eC H
    refine cZ U ⟨k47.1,(dz k47.2)⟩ (dv ho0 k47.2) ?_;refine gC U Z Z Z Z Z Z Z Z Z (dJ (fun _=>Z) k47.2) Z Z ?_
    obtain⟨x49,h49,H⟩:=aA H
    refine bI hg_cmp (ip.r) (hp_cmp _ _ _ h49) ?_;refine go ?_;refine aI Z H (fun H=>?_) (fun H=>?_)
    ·refine go ?_;obtain rfl:=ay H;refine eR (s1.1,(Iw ((Iw (Int.fdiv (IntKind.u64.wrap (Iw (s1.2.1+s1.2.2))) (2^1)))+(1:Int))),s1.2.2) () hg1 Gh.d
    refine go ?_;obtain rfl:=ay H;refine eR (s1.1,s1.2.1,(Iw (Int.fdiv (IntKind.u64.wrap (Iw (s1.2.1+s1.2.2))) (2^1)))) () hg1 Gh.d
   refine bd Z ?_;obtain rfl:=ay H;refine fc (s1.1,s1.2.1,s1.2.2) () hg1 Gh.d
  have H:=ep hn1 Hp1;refine go ?_
  obtain⟨fl2,H2,Hp2⟩:=aA H
  refine fK (τ:=Rz×Int) (γ:=Unit) (fun s2 g2=>⟨220,upd (fun _=>.any) 0 (.own 0 g_data (s2.1.map rRr).length),fun _=>none,upd (fun _=>none) 0 (some ⟨g_data,54,(s2.1.map rRr),true⟩)⟩) (fun t=>fl2= .next t) ?_ (fun s2 g2 hn2=>?_)
  ·refine aG ?_;refine iZ (fun s2 g2=>⟨220,upd (upd (upd (fun _=>.any) 13 (ac s2.2)) 10 (ac s1.2.1)) 0 (.own 0 g_data (s2.1.map rRr).length),fun _=>none,upd (fun _=>none) 0 (some ⟨g_data,54,(s2.1.map rRr),true⟩)⟩) () H2 Gh.d (fun m2 s2 g2 hr2=>?_)
   obtain⟨fb2,H,hg2⟩:=gv hr2
   refine go ?_;refine aI Z H (fun H=>?_) (fun H=>?_)
   ·refine aE (al (aG ?_));refine ii (tag:=0) Z (fun ho0=>?_);refine bK ⟨false,true,[]⟩ [0,1,2,3,4,5,6,7,8,9,10,11,12,13,14,15,16,17] ?_;refine go ?_
    obtain⟨x69,k69,H⟩:=eC H
    refine cZ U ⟨k69.1,(dz k69.2)⟩ (dv ho0 k69.2) ?_;refine gC U Z Z Z Z Z Z Z Z Z (dJ (fun _=>Z) k69.2) Z Z ?_;refine go ?_
    obtain⟨x73,k73,H⟩:=eC H
    refine cZ U ⟨k73.1,(dz k73.2)⟩ (dv ho0 k73.2) ?_;refine gC U Z Z Z Z Z Z Z Z Z (dJ (fun _=>Z) k73.2) Z Z ?_
    obtain⟨x75,k75,H⟩:=eC H
    refine cZ U ⟨k75.1,(dz k75.2)⟩ (dv ho0 k75.2) ?_
    obtain⟨y7,hy7,H⟩:=cI H
    refine je U Z Z Z Z Z Z Z Z Z (by rw[zl];exact(zg.1 k75.2).1) (PLe.refl _ _) Z Z Z Z (by decide) (eT (fun _=>Z) k75.2 Z hy7) ?_
    obtain⟨x76,k76,H⟩:=eC H
    refine cZ U ⟨k76.1,(tl (eZ (f:=rRr) hy7) k76.2)⟩ (vy ho0 (eZ (f:=rRr) hy7) k76.2) ?_
    obtain⟨y8,hy8,H⟩:=cI H
    refine je U Z Z Z Z Z Z Z Z Z (by rw[zl];exact(zg.1 k76.2).1) (PLe.refl _ _) Z Z Z Z (by decide) (eT (fun _=>Z) k76.2 Z hy8) ?_;refine go ?_;obtain rfl:=ay H;refine eR (y8,(Iw (s2.2+(1:Int)))) () hg2 (Gh.le (bh (PLe.of2 (PLe2.of_eq (congrArg (PV.own 0 g_data) ((eZ (f:=rRr) hy7).trans (eZ (f:=rRr) hy8))))) (aq (aq bm))) aV (bJ aU))
   refine bd Z ?_;obtain rfl:=ay H;refine fc (s2.1,s2.2) () hg2 Gh.d
  have H:=ep hn2 Hp2;obtain rfl:=ay H;refine cv (st':=⟨220,fun _=>.any,fun _=>none,upd (fun _=>none) 0 (some ⟨g_data,54,(s2.1.map rRr),true⟩)⟩) Gh.d ?_;refine rr U Z (ps:=[]) Z (PLe.q Z) ⟨rfl,rfl⟩
 refine go ?_;refine aI Z H (fun H=>?_) (fun H=>?_)
 ·refine go ?_
  obtain⟨fl9,H9,Hp9⟩:=aA H
  refine fK (τ:=Rz×Int×Int) (γ:=Unit) (fun s9 g9=>⟨220,upd (upd (upd (fun _=>.any) 14 (ac s9.2.1)) 2 (ac m)) 0 (.own 0 g_data (s9.1.map rRr).length),fun _=>none,upd (fun _=>none) 0 (some ⟨g_data,54,(s9.1.map rRr),true⟩)⟩) (fun t=>fl9= .next t) ?_ (fun s9 g9 hn9=>?_)
  ·refine aG ?_;refine iZ (fun s9 g9=>⟨220,upd (upd (upd (upd (upd (fun _=>.any) 15 (ac s9.2.2)) 14 (ac s9.2.1)) 4 (.fn g_cmp caps_cmp)) 2 (ac m)) 0 (.own 0 g_data (s9.1.map rRr).length),fun _=>none,upd (fun _=>none) 0 (some ⟨g_data,54,(s9.1.map rRr),true⟩)⟩) () H9 Gh.d (fun m9 s9 g9 hr9=>?_)
   obtain⟨fb9,H,hg9⟩:=gv hr9
   refine go ?_;refine aI Z H (fun H=>?_) (fun H=>?_)
   ·refine go ?_;refine wI (m:=1) Z Z Z Z (by decide) Z Z (cC 2 U Z (ao (al ?_)));refine ii (tag:=0) Z (fun ho0=>?_);refine bK ⟨false,true,[]⟩ [0,1,2,3,4,5,6,7,8,9,10,11] ?_;refine go ?_
    obtain⟨x95,k95,H⟩:=eC H
    refine cZ U ⟨k95.1,(dz k95.2)⟩ (dv ho0 k95.2) ?_;refine gC U Z Z Z Z Z Z Z Z Z (dJ (fun _=>Z) k95.2) Z Z ?_;refine go ?_
    obtain⟨x99,k99,H⟩:=eC H
    refine cZ U ⟨k99.1,(dz k99.2)⟩ (dv ho0 k99.2) ?_;refine gC U Z Z Z Z Z Z Z Z Z (dJ (fun _=>Z) k99.2) Z Z ?_
    obtain⟨x101,h101,H⟩:=aA H
    refine bI hg_cmp (ip.r) (hp_cmp _ _ _ h101) ?_;refine go ?_;refine aI Z H (fun H=>?_) (fun H=>?_)
    ·refine go ?_;obtain rfl:=ay H;refine eR (s9.1,(Iw ((Iw (Int.fdiv (IntKind.u64.wrap (Iw (s9.2.1+s9.2.2))) (2^1)))+(1:Int))),s9.2.2) () hg9 Gh.d
    refine go ?_;obtain rfl:=ay H;refine eR (s9.1,s9.2.1,(Iw (Int.fdiv (IntKind.u64.wrap (Iw (s9.2.1+s9.2.2))) (2^1)))) () hg9 Gh.d
   refine bd Z ?_;obtain rfl:=ay H;refine fc (s9.1,s9.2.1,s9.2.2) () hg9 Gh.d
  have H:=ep hn9 Hp9;refine go ?_
  obtain⟨fl10,H10,Hp10⟩:=aA H
  refine fK (τ:=Rz×Int) (γ:=Unit) (fun s10 g10=>⟨220,upd (fun _=>.any) 0 (.own 0 g_data (s10.1.map rRr).length),fun _=>none,upd (fun _=>none) 0 (some ⟨g_data,54,(s10.1.map rRr),true⟩)⟩) (fun t=>fl10= .next t) ?_ (fun s10 g10 hn10=>?_)
  ·refine aG ?_;refine iZ (fun s10 g10=>⟨220,upd (upd (upd (fun _=>.any) 17 (ac s10.2)) 14 (ac s9.2.1)) 0 (.own 0 g_data (s10.1.map rRr).length),fun _=>none,upd (fun _=>none) 0 (some ⟨g_data,54,(s10.1.map rRr),true⟩)⟩) () H10 Gh.d (fun m10 s10 g10 hr10=>?_)
   obtain⟨fb10,H,hg10⟩:=gv hr10
   refine go ?_;refine aI Z H (fun H=>?_) (fun H=>?_)
   ·refine aE (al (aG ?_));refine ii (tag:=0) Z (fun ho0=>?_);refine bK ⟨false,true,[]⟩ [0,1,2,3,4,5,6,7,8,9,10,11,12,13,14,15,16,17] ?_;refine go ?_
    obtain⟨x121,k121,H⟩:=eC H
    refine cZ U ⟨k121.1,(dz k121.2)⟩ (dv ho0 k121.2) ?_;refine gC U Z Z Z Z Z Z Z Z Z (dJ (fun _=>Z) k121.2) Z Z ?_;refine go ?_
    obtain⟨x125,k125,H⟩:=eC H
    refine cZ U ⟨k125.1,(dz k125.2)⟩ (dv ho0 k125.2) ?_;refine gC U Z Z Z Z Z Z Z Z Z (dJ (fun _=>Z) k125.2) Z Z ?_
    obtain⟨x127,k127,H⟩:=eC H
    refine cZ U ⟨k127.1,(dz k127.2)⟩ (dv ho0 k127.2) ?_
    obtain⟨y15,hy15,H⟩:=cI H
    refine je U Z Z Z Z Z Z Z Z Z (by rw[zl];exact(zg.1 k127.2).1) (PLe.refl _ _) Z Z Z Z (by decide) (eT (fun _=>Z) k127.2 Z hy15) ?_
    obtain⟨x128,k128,H⟩:=eC H
    refine cZ U ⟨k128.1,(tl (eZ (f:=rRr) hy15) k128.2)⟩ (vy ho0 (eZ (f:=rRr) hy15) k128.2) ?_
    obtain⟨y16,hy16,H⟩:=cI H
    refine je U Z Z Z Z Z Z Z Z Z (by rw[zl];exact(zg.1 k128.2).1) (PLe.refl _ _) Z Z Z Z (by decide) (eT (fun _=>Z) k128.2 Z hy16) ?_;refine go ?_;obtain rfl:=ay H;refine eR (y16,(Iw (s10.2-(1:Int)))) () hg10 (Gh.le (bh (PLe.of2 (PLe2.of_eq (congrArg (PV.own 0 g_data) ((eZ (f:=rRr) hy15).trans (eZ (f:=rRr) hy16))))) (aq (aq bm))) aV (bJ aU))
   refine bd Z ?_;obtain rfl:=ay H;refine fc (s10.1,s10.2) () hg10 Gh.d
  have H:=ep hn10 Hp10;obtain rfl:=ay H;refine cv (st':=⟨220,fun _=>.any,fun _=>none,upd (fun _=>none) 0 (some ⟨g_data,54,(s10.1.map rRr),true⟩)⟩) Gh.d ?_;refine rr U Z (ps:=[]) Z (PLe.q Z) ⟨rfl,rfl⟩
 refine go ?_;refine wI (m:=1) Z Z Z Z (by decide) Z Z (go ?_);refine fP (γ:=Unit) (fun t17 g17=>⟨220,upd (upd (upd (upd (upd (upd (upd (upd (upd (fun _=>.any) 21 (ac t17.2.2)) 20 (ac t17.2.1)) 19 (ac (Iw ((Iw (Int.fdiv (IntKind.u64.wrap (Iw (a+b))) (2^1)))+m)))) 18 (ac (Iw (Int.fdiv (IntKind.u64.wrap (Iw (a+b))) (2^1))))) 4 (.fn g_cmp caps_cmp)) 3 (ac b)) 2 (ac m)) 1 (ac a)) 0 (.own 0 g_data (t17.1.map rRr).length),fun _=>none,upd (fun _=>none) 0 (some ⟨g_data,54,(t17.1.map rRr),true⟩)⟩) H (fun _ H=>?_) (fun t17 g17 H=>?_)
 ·refine aI Z H (fun H=>?_) (fun H=>?_)
  ·exact fA
  exact fA
 refine go ?_
 obtain⟨fl18,H18,Hp18⟩:=aA H
 refine fK (τ:=Rz×Int×Int) (γ:=Unit) (fun s18 g18=>⟨220,upd (upd (upd (upd (upd (upd (upd (upd (fun _=>.any) 20 (ac s18.2.1)) 19 (ac (Iw ((Iw (Int.fdiv (IntKind.u64.wrap (Iw (a+b))) (2^1)))+m)))) 18 (ac (Iw (Int.fdiv (IntKind.u64.wrap (Iw (a+b))) (2^1))))) 4 (.fn g_cmp caps_cmp)) 3 (ac b)) 2 (ac m)) 1 (ac a)) 0 (.own 0 g_data (s18.1.map rRr).length),fun _=>none,upd (fun _=>none) 0 (some ⟨g_data,54,(s18.1.map rRr),true⟩)⟩) (fun t=>fl18= .next t) ?_ (fun s18 g18 hn18=>?_)
 ·refine aG ?_;refine iZ (fun s18 g18=>⟨220,upd (upd (upd (upd (upd (upd (upd (upd (upd (upd (fun _=>.any) 22 (ac (Iw ((Iw ((Iw (Int.fdiv (IntKind.u64.wrap (Iw (a+b))) (2^1)))+m))-(1:Int))))) 21 (ac s18.2.2)) 20 (ac s18.2.1)) 19 (ac (Iw ((Iw (Int.fdiv (IntKind.u64.wrap (Iw (a+b))) (2^1)))+m)))) 18 (ac (Iw (Int.fdiv (IntKind.u64.wrap (Iw (a+b))) (2^1))))) 4 (.fn g_cmp caps_cmp)) 3 (ac b)) 2 (ac m)) 1 (ac a)) 0 (.own 0 g_data (s18.1.map rRr).length),fun _=>none,upd (fun _=>none) 0 (some ⟨g_data,54,(s18.1.map rRr),true⟩)⟩) () H18 Gh.d (fun m18 s18 g18 hr18=>?_)
  obtain⟨fb18,H,hg18⟩:=gv hr18
  refine go ?_;refine aI Z H (fun H=>?_) (fun H=>?_)
  ·refine go ?_;refine wI (m:=1) Z Z Z Z (by decide) Z Z (cC 2 U Z (ao (al ?_)));refine ii (tag:=0) Z (fun ho0=>?_);refine bK ⟨false,true,[]⟩ [0,1,2,3,4,5,6,7,8,9,10,11,12,13] ?_;refine go ?_
   obtain⟨x163,k163,H⟩:=eC H
   refine cZ U ⟨k163.1,(dz k163.2)⟩ (dv ho0 k163.2) ?_;refine gC U Z Z Z Z Z Z Z Z Z (dJ (fun _=>Z) k163.2) Z Z ?_;refine go ?_
   obtain⟨x167,k167,H⟩:=eC H
   refine cZ U ⟨k167.1,(dz k167.2)⟩ (dv ho0 k167.2) ?_;refine gC U Z Z Z Z Z Z Z Z Z (dJ (fun _=>Z) k167.2) Z Z ?_
   obtain⟨x169,h169,H⟩:=aA H
   refine bI hg_cmp (ip.r) (hp_cmp _ _ _ h169) ?_;refine go ?_;refine aI Z H (fun H=>?_) (fun H=>?_)
   ·refine go ?_;obtain rfl:=ay H;refine eR (s18.1,(Iw ((Iw (Int.fdiv (IntKind.u64.wrap (Iw (s18.2.1+s18.2.2))) (2^1)))+(1:Int))),s18.2.2) () hg18 Gh.d
   refine go ?_;obtain rfl:=ay H;refine eR (s18.1,s18.2.1,(Iw (Int.fdiv (IntKind.u64.wrap (Iw (s18.2.1+s18.2.2))) (2^1)))) () hg18 Gh.d
  refine bd Z ?_;obtain rfl:=ay H;refine fc (s18.1,s18.2.1,s18.2.2) () hg18 Gh.d
 have H:=ep hn18 Hp18;refine dp 4 U Z (al (al ?_));refine fP (γ:=Unit) (fun t19 g19=>⟨220,upd (upd (upd (upd (upd (upd (upd (upd (upd (fun _=>.any) 185 (az t19.2)) 24 (ac (Iw ((Iw ((Iw (Int.fdiv (IntKind.u64.wrap (Iw (a+b))) (2^1)))+m))-s18.2.1)))) 20 (ac s18.2.1)) 18 (ac (Iw (Int.fdiv (IntKind.u64.wrap (Iw (a+b))) (2^1))))) 4 (.fn g_cmp caps_cmp)) 3 (ac b)) 2 (ac m)) 1 (ac a)) 0 (.own 0 g_data (t19.1.map rRr).length),fun _=>none,upd (fun _=>none) 0 (some ⟨g_data,54,(t19.1.map rRr),true⟩)⟩) H (fun _ H=>?_) (fun t19 g19 H=>?_)
 ·refine go ?_;refine aN Z Z Z H (fun H=>?_) (fun H=>?_)
  ·exact fA
  exact fA
 refine fQ (γ:=Unit) (fun t20 g20=>⟨220,upd (upd (upd (upd (upd (upd (upd (fun _=>.any) 24 (ac (Iw ((Iw ((Iw (Int.fdiv (IntKind.u64.wrap (Iw (a+b))) (2^1)))+m))-s18.2.1)))) 20 (ac s18.2.1)) 18 (ac (Iw (Int.fdiv (IntKind.u64.wrap (Iw (a+b))) (2^1))))) 4 (.fn g_cmp caps_cmp)) 3 (ac b)) 1 (ac a)) 0 (.own 0 g_data (t20.map rRr).length),fun _=>none,upd (fun _=>none) 0 (some ⟨g_data,54,(t20.map rRr),true⟩)⟩) H (fun _ H=>?_) (fun t20 g20 H=>?_)
 ·refine aI Z H (fun H=>?_) (fun H=>?_)
  ·refine go ?_
   obtain⟨x191,h191,H⟩:=aA H
   have s191:=pn g_data t19.1 s18.2.1 m (Iw ((Iw ((Iw (Int.fdiv (IntKind.u64.wrap (Iw (a+b))) (2^1)))+m))-s18.2.1)) cmp hg_cmp hp_cmp _ h191
   obtain⟨_,q191_0,H⟩:=aA H
   have l191_0:=(dK q191_0).1;have z191_0:(List.map rRr t19.1).length=(List.map rRr x191).length:=by simpa using(l191_0).symm
   refine fL (g:=278) Z Z Z call278 [] [(0,0)] Z Z Z Z (ip.of2 (ku.cons (PLe2.own Z) (ku.cons (PLe2.of_eq Z) (ku.cons (PLe2.of_eq Z) (ku.cons (PLe2.of_eq Z) (ku.cons (PLe2.of_eq Z) ku.nil)))))) (by rw[dI,bB,cP];rfl) s191 ?_;rintro u191 H191h ⟨rfl,rfl⟩
   refine⟨_,rfl,?_⟩
   refine eA (fun _=>none) (upd (fun _=>none) 0 (some ⟨g_data,54,(x191.map rRr),true⟩)) ?_;refine ao ?_;refine fc _ () (ay H) (Gh.le (bh (PLe.of2 (PLe2.of_eq (congrArg (PV.own 0 g_data) z191_0))) (aq (aq (aq (aq (aq (aq bm))))))) aV (bJ aU))
  refine aE ?_;exact fA
 refine al (al ?_);refine fP (γ:=Unit) (fun t21 g21=>⟨220,upd (upd (upd (upd (upd (upd (upd (upd (fun _=>.any) 199 (az t21.2)) 24 (ac (Iw ((Iw ((Iw (Int.fdiv (IntKind.u64.wrap (Iw (a+b))) (2^1)))+m))-s18.2.1)))) 20 (ac s18.2.1)) 18 (ac (Iw (Int.fdiv (IntKind.u64.wrap (Iw (a+b))) (2^1))))) 4 (.fn g_cmp caps_cmp)) 3 (ac b)) 1 (ac a)) 0 (.own 0 g_data (t21.1.map rRr).length),fun _=>none,upd (fun _=>none) 0 (some ⟨g_data,54,(t21.1.map rRr),true⟩)⟩) H (fun _ H=>?_) (fun t21 g21 H=>?_)
 ·refine go ?_;refine aN Z Z Z H (fun H=>?_) (fun H=>?_)
  ·exact fA
  exact fA
 refine fQ (γ:=Unit) (fun t22 g22=>⟨220,upd (upd (upd (upd (upd (fun _=>.any) 24 (ac (Iw ((Iw ((Iw (Int.fdiv (IntKind.u64.wrap (Iw (a+b))) (2^1)))+m))-s18.2.1)))) 18 (ac (Iw (Int.fdiv (IntKind.u64.wrap (Iw (a+b))) (2^1))))) 4 (.fn g_cmp caps_cmp)) 3 (ac b)) 0 (.own 0 g_data (t22.map rRr).length),fun _=>none,upd (fun _=>none) 0 (some ⟨g_data,54,(t22.map rRr),true⟩)⟩) H (fun _ H=>?_) (fun t22 g22 H=>?_)
 ·refine aI Z H (fun H=>?_) (fun H=>?_)
  ·refine go ?_
   obtain⟨x205,h205,H⟩:=aA H
   have s205:=hrec268 g_data t21.1 a s18.2.1 (Iw (Int.fdiv (IntKind.u64.wrap (Iw (a+b))) (2^1))) _ h205
   obtain⟨_,q205_0,H⟩:=aA H
   have l205_0:=(dK q205_0).1;have z205_0:(List.map rRr t21.1).length=(List.map rRr x205).length:=by simpa using(l205_0).symm
   refine fL (g:=268) Z Z Z call268 [] [(0,0)] Z Z Z Z (ip.of2 (ku.cons (PLe2.own Z) (ku.cons (PLe2.of_eq Z) (ku.cons (PLe2.of_eq Z) (ku.cons (PLe2.of_eq Z) (ku.cons (PLe2.of_eq Z) ku.nil)))))) (by rw[dI,bB,cP];rfl) s205 ?_;rintro u205 H205h ⟨rfl,rfl⟩
   refine⟨_,rfl,?_⟩
   refine eA (fun _=>none) (upd (fun _=>none) 0 (some ⟨g_data,54,(x205.map rRr),true⟩)) ?_;refine ao ?_;refine fc _ () (ay H) (Gh.le (bh (PLe.of2 (PLe2.of_eq (congrArg (PV.own 0 g_data) z205_0))) (aq (aq (aq (aq bm))))) aV (bJ aU))
  refine aE ?_;exact fA
 refine go ?_;refine aN Z Z Z H (fun H=>?_) (fun H=>?_)
 ·refine go ?_;refine aI Z H (fun H=>?_) (fun H=>?_)
  ·refine go ?_
   obtain⟨x219,h219,H⟩:=aA H
   have s219:=hrec268 g_data t22 (Iw (Int.fdiv (IntKind.u64.wrap (Iw (a+b))) (2^1))) (Iw ((Iw ((Iw (Int.fdiv (IntKind.u64.wrap (Iw (a+b))) (2^1)))+m))-s18.2.1)) b _ h219
   obtain⟨_,q219_0,H⟩:=aA H
   have l219_0:=(dK q219_0).1;have z219_0:(List.map rRr t22).length=(List.map rRr x219).length:=by simpa using(l219_0).symm
   refine fL (g:=268) Z Z Z call268 [] [(0,0)] Z Z Z Z (ip.of2 (ku.cons (PLe2.own Z) (ku.cons (PLe2.of_eq Z) (ku.cons (PLe2.of_eq Z) (ku.cons (PLe2.of_eq Z) (ku.cons (PLe2.of_eq Z) ku.nil)))))) (by rw[dI,bB,cP];rfl) s219 ?_;rintro u219 H219h ⟨rfl,rfl⟩
   refine⟨_,rfl,?_⟩
   refine eA (fun _=>none) (upd (fun _=>none) 0 (some ⟨g_data,54,(x219.map rRr),true⟩)) ?_;refine ao ?_;obtain rfl:=ay H;refine cv (st':=⟨220,fun _=>.any,fun _=>none,upd (fun _=>none) 0 (some ⟨g_data,54,(x219.map rRr),true⟩)⟩) Gh.d ?_;refine mW Z (PLe.q Z) ⟨rfl,rfl⟩
  refine aE ?_;obtain rfl:=ay H;refine cv (st':=⟨220,fun _=>.any,fun _=>none,upd (fun _=>none) 0 (some ⟨g_data,54,(t22.map rRr),true⟩)⟩) Gh.d ?_;refine mW Z (PLe.q Z) ⟨rfl,rfl⟩
 refine go ?_;refine bj Z (aE ?_);obtain rfl:=ay H;refine cv (st':=⟨220,fun _=>.any,fun _=>none,upd (fun _=>none) 0 (some ⟨g_data,54,(t22.map rRr),true⟩)⟩) Gh.d ?_;refine mW Z (PLe.q Z) ⟨rfl,rfl⟩
def bg:Nat->Rz->Int->Int->Int->(Rq->Rq->Option (Int))->Option (Rz)
 |0,_,_,_,_,_=>none
 |n+1,v0,v1,v2,v3,v4=>dc (fun b0 b1 b2 b3=>bg n b0 b1 b2 b3 v4) v0 v1 v2 v3 v4
theorem nP{g_cmp:FuncId}{caps_cmp:List PV}(cmp:Rq->Rq->Option (Int))(hg_cmp:∀(vs:Array Value) (w:World),(callFunc g_cmp vs).run prog w= .ok (.enter g_cmp vs) w)(hp_cmp:∀a0 a1 r,cmp a0 a1=some r->aC prog g_cmp ((.list 69 (a0.map ab))::(.list 69 (a1.map ab))::caps_cmp) (ac r))(n:Nat):(∀g0 a0 a1 a2 a3 r,bg n a0 a1 a2 a3 cmp=some r->PH prog 268 [(.own 0 g0 (a0.map rRr).length),(ac a1),(ac a2),(ac a3),(.fn g_cmp caps_cmp)] ⟨fun _=>none,upd (fun _=>none) 0 (some ⟨g0,54,(a0.map rRr),true⟩)⟩ (fun u H=>u=(.tup [])/\H=⟨fun _=>none,upd (fun _=>none) 0 (some ⟨g0,54,(r.map rRr),true⟩)⟩)):=by
 induction n with
 |zero=>exact(by intros;rename_i h;exact absurd (show(none:Option _)=some _ from h) (by simp))
 |succ n ih=>
  exact(fun g0 v0 v1 v2 v3 r h=>nJ g0 (fun b0 b1 b2 b3=>bg n b0 b1 b2 b3 cmp) ih v0 v1 v2 v3 cmp hg_cmp hp_cmp r h)
def gq(data:Rz)(a:Int)(m:Int)(b:Int)(cmp:Rq->Rq->Option (Int)):Option (Rz):=iO fun n=>bg n data a m b cmp
theorem lg(g_data:OwnRef){g_cmp:FuncId}{caps_cmp:List PV}(data:Rz)(a:Int)(m:Int)(b:Int)(cmp:Rq->Rq->Option (Int))(hg_cmp:∀(vs:Array Value) (w:World),(callFunc g_cmp vs).run prog w= .ok (.enter g_cmp vs) w)(hp_cmp:∀a0 a1 r,cmp a0 a1=some r->aC prog g_cmp ((.list 69 (a0.map ab))::(.list 69 (a1.map ab))::caps_cmp) (ac r))(r:Rz)(H:gq data a m b cmp=some r):
  PH prog 268 [(.own 0 g_data (data.map rRr).length),(ac a),(ac m),(ac b),(.fn g_cmp caps_cmp)] ⟨fun _=>none,upd (fun _=>none) 0 (some ⟨g_data,54,(data.map rRr),true⟩)⟩ (fun u H=>u=(.tup [])/\H=⟨fun _=>none,upd (fun _=>none) 0 (some ⟨g_data,54,(r.map rRr),true⟩)⟩):=by
 obtain⟨n,h⟩:=kd H
 exact(nP cmp hg_cmp hp_cmp n) g_data data a m b r h
def jV(inst:List LW):Option ((List LW)):=
 aa (au (σ:=List LW) (ρ:=Empty) (fun(_:Nat) (x1:LW) (s1:List LW)=>
  aa (iU x1.rows) fun x17=>
  aa (cE 40 s1 ([(LW.mk x1.table x17)]:List LW)) fun(x20:List LW)=>
  some (.next x20)) 0 inst []) fun fl1=>fl1.thenP fun(s1:List LW)=>
 some s1
theorem wD{m:Nat}(inst:List LW)(r:(List LW))(H:jV inst=some r):
  iv prog 29 [(.list 86 (inst.map bE))] (lf m 86 (r.map bE)):=by
 unfold jV at H;refine PH.ak func29 ntmps29 ?_;refine dp 1 U Z (dp 1 U Z (al (al (ah (aD U Z (ic U (zl _) ?_))))));refine aD U Z (ao (iy U 3 20 (e:=86) Z Z ?_));refine fW (γ:=OwnRef) U 8 7 6 (fun s1 g1=>upd (fun _=>.any) 3 (.own 20 g1 (s1.map bE).length)) nB (fun s1 g1=>upd (fun _=>none) 20 (some ⟨g1,86,(s1.map bE),true⟩)) (⟨none,0⟩) H (fun fl1 Hp1 j1 s1 g1 hz1 hl1 x1 fb1 hx1 H hg1=>?_) (fun s1 g1 H=>?_)
 ·refine go ?_;refine aW U (zn j1) (aQ (fun _=>Z) hx1) ?_;refine go ?_;refine aM U fun b5=>?_
  refine go ?_;refine bK ⟨true,false,[]⟩ [0,1,2,3,4,5,6,7,8,9] ?_;refine go ?_
  obtain⟨x17,h17,H⟩:=aA H
  have s17:=oc (m:=17) x1.rows _ h17;refine bI call57 (ip.r) (PFun.gN s17) ?_;refine go ?_
  obtain⟨x20,h20,H⟩:=aA H
  have k20:=fZ h20;refine hC (rows2':=List.map bE ([(LW.mk x1.table x17)]:List LW)) (rows':=List.map bE x20) U Z Z Z Z Z Z Z Z Z Z Z Z Z Z (iW.refl _) (jD k20.1) (jC k20.2.1) (jz k20.2.2) fun g20=>?_
  refine go ?_;exact cJ g20 H hl1 hg1
 refine go ?_;obtain rfl:=ay H;refine hP U Z
def gP(sA:LSchema)(c:LChange):Option (Int):=
 letP (
  cond (c.kind==(1:Int))
   (cond (decide ((c.key.length:Int)>(0:Int)))
    (true)
    (cond (c.kind==(2:Int))
     (cond (decide ((c.row.length:Int)>(0:Int)))
      (true)
      (cond (c.kind !=(1:Int))
       ((c.kind !=(2:Int)))
       (false)))
     (cond (c.kind !=(1:Int))
      ((c.kind !=(2:Int)))
      (false))))
   (cond (c.kind==(2:Int))
    (cond (decide ((c.row.length:Int)>(0:Int)))
     (true)
     (cond (c.kind !=(1:Int))
      ((c.kind !=(2:Int)))
      (false)))
    (cond (c.kind !=(1:Int))
     ((c.kind !=(2:Int)))
     (false)))) fun(t1:Bool)=>
 cond t1
  (some 3)
  (aa (dH sA c.table) fun x41=>
  cond (!x41.2)
   (some 4)
   (cond (c.kind==(1:Int))
    (aa (ax sA.tables x41.1) fun(x52:LTable)=>
    aa (dC x52 c.row) fun x56=>
    some x56)
    (aa (ax sA.tables x41.1) fun(x60:LTable)=>
    aa (jo x60 c.key) fun x64=>
    some x64)))
theorem vZ(sA:LSchema)(c:LChange)(r:Int)(H:gP sA c=some r):
  aC prog 46 [(.agg (cf sA)),(.agg (bW c))] (ac r):=by
 unfold gP at H;refine PH.ak func46 ntmps46 ?_;refine al (ah (bC ?_));refine bC ?_;refine aD U Z (ao (al (al ?_)));refine fP (γ:=Unit) (fun t1 g1=>⟨65,upd (upd (upd (fun _=>.any) 36 (az t1)) 3 (.ptr (bW c))) 2 (.ptr (cf sA)),fun _=>none,fun _=>none⟩) H (fun _ H=>?_) (fun t1 g1 H=>?_)
 ·refine go ?_;refine aN Z Z Z H (fun H=>?_) (fun H=>?_)
  ·refine go ?_;refine aN Z Z Z H (fun H=>?_) (fun H=>?_)
   ·exact fA
   refine go ?_;refine aN Z Z Z H (fun H=>?_) (fun H=>?_)
   ·refine go ?_;refine aN Z Z Z H (fun H=>?_) (fun H=>?_)
    ·exact fA
    refine go ?_;refine aN Z Z Z H (fun H=>?_) (fun H=>?_)
    ·exact fA
    exact fA
   refine go ?_;refine aN Z Z Z H (fun H=>?_) (fun H=>?_)
   ·exact fA
   exact fA
  refine go ?_;refine aN Z Z Z H (fun H=>?_) (fun H=>?_)
  ·refine go ?_;refine aN Z Z Z H (fun H=>?_) (fun H=>?_)
   ·exact fA
   refine go ?_;refine aN Z Z Z H (fun H=>?_) (fun H=>?_)
   ·exact fA
   exact fA
  refine go ?_;refine aN Z Z Z H (fun H=>?_) (fun H=>?_)
  ·exact fA
  exact fA
 refine bG Z H ay (fun H=>?_);refine go ?_;refine aB call28 (ip.r) (kr sA c.table) H (fun x41 H=>?_);refine go ?_;refine bG Z H ay (fun H=>?_);refine go ?_;refine aI Z H (fun H=>?_) (fun H=>?_)
 ·refine al (bK ⟨false,false,[]⟩ [0,1,2,3,4,5,6,7,8] ?_);refine go ?_;refine bl (fun _=>Z) H (fun x52 H=>?_);refine go ?_;refine bU call78 (ip.r) (nL x52 c.row) H (fun x56 H=>?_);exact fS
 refine go ?_;refine bK ⟨false,false,[]⟩ [0,1,2,3,4,5,6,7,8] ?_;refine go ?_;refine bl (fun _=>Z) H (fun x60 H=>?_);refine go ?_;refine bU call84 (ip.r) (un x60 c.key) H (fun x64 H=>?_);exact fS
def jB(a:LVal)(op:Rb)(b:LVal):Bool×Int:=
 letP (
  cond (!(op==([61]:Rb)))
   (cond (!(op==([60]:Rb)))
    ((!(op==([60,61]:Rb))))
    (false))
   (false)) fun(t1:Bool)=>
 cond t1
  ((false,3))
  (letP (
   cond (a.kind==(0:Int))
    (true)
    ((b.kind==(0:Int)))) fun(t2:Bool)=>
  cond t2
   ((true,0))
   (letP (bP a b) fun x29=>
   cond (x29==(0:Int))
    (cond (!(op==([60]:Rb)))
     ((true,0))
     (cond (decide (x29<(0:Int)))
      (((!(op==([61]:Rb))),0))
      ((false,0))))
    (cond (decide (x29<(0:Int)))
     (((!(op==([61]:Rb))),0))
     ((false,0)))))
theorem vV(a:LVal)(op:Rb)(b:LVal):
  aC prog 109 [(.agg (ab a)),(.str op),(.agg (ab b))] (.tup [(az ((jB a op b).1)),(ac ((jB a op b).2))]):=by
 obtain⟨r,H⟩:∃r,jB a op b=r:=⟨_,rfl⟩
 rw[H];unfold jB at H;refine PH.ak func109 ntmps109 ?_;refine al (ah (bC ?_));refine bC ?_;refine cC 2 U Z (ao (al (al ?_)));refine fP (γ:=Unit) (fun t1 g1=>⟨44,upd (upd (upd (upd (fun _=>.any) 18 (az t1)) 5 (.ptr (ab b))) 3 (.ptr (ab a))) 1 (.str op),fun _=>none,fun _=>none⟩) H (fun _ H=>?_) (fun t1 g1 H=>?_)
 ·refine go ?_;refine aN Z Z Z H (fun H=>?_) (fun H=>?_)
  ·refine go ?_;refine aN Z Z Z H (fun H=>?_) (fun H=>?_)
   ·exact fA
   exact fA
  exact fA
 refine bG Z H id (fun H=>?_);refine aE (al (al ?_));refine fP (γ:=Unit) (fun t2 g2=>⟨44,upd (upd (upd (upd (fun _=>.any) 26 (az t2)) 5 (.ptr (ab b))) 3 (.ptr (ab a))) 1 (.str op),fun _=>none,fun _=>none⟩) H (fun _ H=>?_) (fun t2 g2 H=>?_)
 ·refine go ?_;refine aN Z Z Z H (fun H=>?_) (fun H=>?_)
  ·exact fA
  exact fA
 refine bG Z H id (fun H=>?_);refine go ?_
 obtain⟨x29,h29,H⟩:=cI H
 have s29:=sh a b;rw[h29]at s29;refine ag call112 (ip.r) s29 ?_;refine go ?_;refine aN Z Z Z H (fun H=>?_) (fun H=>?_)
 ·refine go ?_;refine aN Z Z Z H (fun H=>?_) (fun H=>?_)
  ·exact fE H
  refine go ?_;refine aN Z Z Z H (fun H=>?_) (fun H=>?_)
  ·exact fE H
  exact fE H
 refine go ?_;refine aN Z Z Z H (fun H=>?_) (fun H=>?_)
 ·exact fE H
 exact fE H
def bM(a:Rq)(b:Rq):Option (Int):=
 aa (oO (if(b.length:Int)<(a.length:Int)then(b.length:Int)else(a.length:Int))) fun(n1:Nat)=>
 aa (au (σ:=Unit) (ρ:=(Int)) (fun(j1:Nat) (_:Nat) (_:Unit)=>
  aa (ax a (j1:Int)) fun(x17:LVal)=>
  aa (ax b (j1:Int)) fun(x21:LVal)=>
  letP (bP x17 x21) fun x23=>
  cond (x23 !=(0:Int))
   (some (.ret x23))
   (some (.next ()))) 0 (List.range n1) ()) fun fl1=>fl1.thenR fun(_:Unit)=>
 letP (bp (a.length:Int) (b.length:Int)) fun x32=>
 some x32
theorem pC(a:Rq)(b:Rq)(r:Int)(H:bM a b=some r):
  aC prog 79 [(.list 69 (a.map ab)),(.list 69 (b.map ab))] (ac r):=by
 unfold bM at H;refine PH.ak func79 ntmps79 ?_;refine go ?_
 obtain⟨n1,hs1,H⟩:=aA H
 have hz1:=nR hs1
 obtain⟨fl1,H1,Hp1⟩:=aA H
 refine fK (τ:=Unit) (γ:=Unit) (fun s1 g1=>⟨33,upd (upd (fun _=>.any) 1 (.list 69 (b.map ab))) 0 (.list 69 (a.map ab)),fun _=>none,fun _=>none⟩) (fun t=>fl1= .next t) ?_ (fun s1 g1 hn1=>?_)
 ·refine aG ?_;refine jw (fun j1 s1 g1=>⟨33,upd (upd (upd (upd (fun _=>.any) 12 (ac (j1:Int))) 11 (ac (if(b.length:Int)<(a.length:Int)then(b.length:Int)else(a.length:Int)))) 1 (.list 69 (b.map ab))) 0 (.list 69 (a.map ab)),fun _=>none,fun _=>none⟩) () H1 Gh.d (fun j1 s1 g1 hj1 hr1=>?_);refine go ?_;refine aY Z (fun h=>?_) (fun h=>?_)
  ·have hl1:=natLt hz1 h
   obtain⟨x1,fb1,hx1,H,hg1⟩:=rMc hl1 hr1
   obtain rfl:=natX hx1;refine go ?_;refine bK ⟨false,false,[]⟩ [0,1,2,3,4,5,6,7,8,9] ?_;refine go ?_;refine bl (fun _=>Z) H (fun x17 H=>?_);refine go ?_;refine bl (fun _=>Z) H (fun x21 H=>?_);refine go ?_
   obtain⟨x23,h23,H⟩:=cI H
   have s23:=sh x17 x21;rw[h23]at s23;refine bI call112 (ip.r) s23 ?_;refine go ?_;refine bG Z H (fun H=>lvR H hg1 Hp1) (fun H=>?_);refine go ?_;exact cJ () H hl1 hg1 (Gh.le (aq (aq (aq (bh (PLe.q (pu hz1 hl1)) bm)))) aV aU)
  have hn1:=rMd (natGe hz1 h) hr1;refine bd Z ?_;refine fc s1 g1 hn1 Gh.d
 have H:=mn hn1 Hp1;refine go ?_
 obtain⟨x32,h32,H⟩:=cI H
 have s32:=mO (a.length:Int) (b.length:Int);rw[h32]at s32;refine ag call113 (ip.r) s32 ?_;exact fS
def iE(sA:LS):Option (Bool):=
 letP (
  cond (decide (sA.kind<(1:Int)))
   (true)
   ((decide (sA.kind>(9:Int))))) fun(t1:Bool)=>
 aa (
  cond t1
   (some t1)
   (aa (bY ([1]:List Int) sA) fun x16=>
   cond (!(x16==(!(sA.name==([]:Rb)))))
    (some (!(x16==(!(sA.name==([]:Rb))))))
    (aa (bY ([4,5,6]:List Int) sA) fun x23=>
    cond (!(x23==(!(sA.table==([]:Rb)))))
     (some (!(x23==(!(sA.table==([]:Rb))))))
     (aa (
      aa (bY ([3,7]:List Int) sA) fun x30=>
      cond (!(x30==((sA.query.length:Int)==(1:Int))))
       (some true)
       (some (decide ((sA.query.length:Int)>(1:Int))))) fun(t8:Bool)=>
     cond t8
      (some t8)
      (aa (
       aa (bY ([5,6]:List Int) sA) fun x44=>
       cond (!(x44==((sA.whereF.length:Int)==(1:Int))))
        (some true)
        (some (decide ((sA.whereF.length:Int)>(1:Int))))) fun(t9:Bool)=>
      cond t9
       (some t9)
       (aa (
        aa (bY ([8]:List Int) sA) fun x58=>
        cond (!x58)
         (some (sA.code !=(0:Int)))
         (some false)) fun(t10:Bool)=>
       cond t10
        (some t10)
        (aa (
         aa (bY ([2,3]:List Int) sA) fun x67=>
         cond (!x67)
          (some (decide ((sA.body.length:Int)>(0:Int))))
          (some false)) fun(t11:Bool)=>
        cond t11
         (some t11)
         (aa (
          aa (bY ([2]:List Int) sA) fun x77=>
          cond (!x77)
           (some (decide ((sA.elseF.length:Int)>(0:Int))))
           (some false)) fun(t12:Bool)=>
         cond t12
          (some t12)
          (aa (bY ([5]:List Int) sA) fun x87=>
          cond (!x87)
           (some (decide ((sA.names.length:Int)>(0:Int))))
           (some false)))))))))) fun(t7:Bool)=>
 cond t7
  (some false)
  (aa (bY ([1,2]:List Int) sA) fun x98=>
  cond x98
   (some ((sA.exprs.length:Int)==(1:Int)))
   (aa (bY ([5]:List Int) sA) fun x106=>
   cond x106
    (cond ((sA.exprs.length:Int)==(sA.names.length:Int))
     (some (decide ((sA.names.length:Int)>(0:Int))))
     (some false))
    (aa (bY ([8]:List Int) sA) fun x123=>
    cond x123
     (cond (decide (sA.code>=(1:Int)))
      (some (decide (sA.code<=(100:Int))))
      (some false))
     (aa (bY ([4]:List Int) sA) fun x134=>
     cond x134
      (some true)
      (some ((sA.exprs.length:Int)==(0:Int)))))))
theorem wa(sA:LS)(r:Bool)(H:iE sA=some r):
  aC prog 81 [(.agg (am sA))] (az r):=by
 unfold iE at H;refine PH.ak func81 ntmps81 ?_;refine al (ah (bC ?_));refine aD U Z (ao (dp 2 U Z (al (aG (al (al ?_))))));refine fP (γ:=Unit) (fun t1 g1=>⟨141,upd (upd (upd (fun _=>.any) 5 (az t1)) 3 (.fn 114 [(.ptr (am sA))])) 1 (.ptr (am sA)),fun _=>none,fun _=>none⟩) H (fun _ H=>?_) (fun t1 g1 H=>?_)
 ·refine go ?_;refine aN Z Z Z H (fun H=>?_) (fun H=>?_)
  ·exact fA
  exact fA
 refine fQ (γ:=Unit) (fun t7 g7=>⟨141,upd (upd (upd (fun _=>.any) 5 (az t7)) 3 (.fn 114 [(.ptr (am sA))])) 1 (.ptr (am sA)),fun _=>none,fun _=>none⟩) H (fun _ H=>?_) (fun t7 g7 H=>?_)
 ·refine aI Z H (fun H=>?_) (fun H=>?_)
  ·refine aE ?_;exact fA
  refine al (bK ⟨false,false,[]⟩ [0,1,3,4,5,2,6,7] ?_);refine go ?_;refine bU call114 (ip.r) (dt ([1]:List Int) sA) H (fun x16 H=>?_);refine go ?_;refine aI Z H (fun H=>?_) (fun H=>?_)
  ·refine aE ?_;exact fA
  refine al (bK ⟨false,false,[]⟩ [0,1,3,4,5,2,6,7] ?_);refine go ?_;refine bU call114 (ip.r) (dt ([4,5,6]:List Int) sA) H (fun x23 H=>?_);refine go ?_;refine aI Z H (fun H=>?_) (fun H=>?_)
  ·refine aE ?_;exact fA
  refine al ?_;refine fQ (γ:=Unit) (fun t8 g8=>⟨141,upd (upd (upd (fun _=>.any) 5 (az t8)) 3 (.fn 114 [(.ptr (am sA))])) 1 (.ptr (am sA)),fun _=>none,fun _=>none⟩) H (fun _ H=>?_) (fun t8 g8 H=>?_)
  ·refine bK ⟨false,false,[]⟩ [0,1,3,4,5,6,2,7,8,9,10,11,12,13,14] ?_;refine go ?_;refine bU call114 (ip.r) (dt ([3,7]:List Int) sA) H (fun x30 H=>?_);refine go ?_;refine nh H (fun H=>?_) (fun H=>?_)
   ·exact fA
   exact fA
  refine aI Z H (fun H=>?_) (fun H=>?_)
  ·refine aE ?_;exact fA
  refine al ?_;refine fQ (γ:=Unit) (fun t9 g9=>⟨141,upd (upd (upd (fun _=>.any) 5 (az t9)) 3 (.fn 114 [(.ptr (am sA))])) 1 (.ptr (am sA)),fun _=>none,fun _=>none⟩) H (fun _ H=>?_) (fun t9 g9 H=>?_)
  ·refine bK ⟨false,false,[]⟩ [0,1,3,4,5,6,2,7,8,9,10,11,12,13,14] ?_;refine go ?_;refine bU call114 (ip.r) (dt ([5,6]:List Int) sA) H (fun x44 H=>?_);refine go ?_;refine nh H (fun H=>?_) (fun H=>?_)
   ·exact fA
   exact fA
  refine aI Z H (fun H=>?_) (fun H=>?_)
  ·refine aE ?_;exact fA
  refine al ?_;refine fQ (γ:=Unit) (fun t10 g10=>⟨141,upd (upd (upd (fun _=>.any) 5 (az t10)) 3 (.fn 114 [(.ptr (am sA))])) 1 (.ptr (am sA)),fun _=>none,fun _=>none⟩) H (fun _ H=>?_) (fun t10 g10 H=>?_)
  ·refine go ?_;refine bZ U (rows':=List.map bv ([8]:List Int)) (iW.refl _) ?_;refine aB call114 (ip.r) (dt ([8]:List Int) sA) H (fun x58 H=>?_);refine go ?_;refine aN Z Z Z H (fun H=>?_) (fun H=>?_)
   ·exact fA
   exact fA
  refine aI Z H (fun H=>?_) (fun H=>?_)
  ·refine aE ?_;exact fA
  refine al ?_;refine fQ (γ:=Unit) (fun t11 g11=>⟨141,upd (upd (upd (fun _=>.any) 5 (az t11)) 3 (.fn 114 [(.ptr (am sA))])) 1 (.ptr (am sA)),fun _=>none,fun _=>none⟩) H (fun _ H=>?_) (fun t11 g11 H=>?_)
  ·refine go ?_;refine bZ U (rows':=List.map bv ([2,3]:List Int)) (iW.refl _) ?_;refine aB call114 (ip.r) (dt ([2,3]:List Int) sA) H (fun x67 H=>?_);refine go ?_;refine aN Z Z Z H (fun H=>?_) (fun H=>?_)
   ·exact fA
   exact fA
  refine aI Z H (fun H=>?_) (fun H=>?_)
  ·refine aE ?_;exact fA
  refine al ?_;refine fQ (γ:=Unit) (fun t12 g12=>⟨141,upd (upd (upd (fun _=>.any) 5 (az t12)) 3 (.fn 114 [(.ptr (am sA))])) 1 (.ptr (am sA)),fun _=>none,fun _=>none⟩) H (fun _ H=>?_) (fun t12 g12 H=>?_)
  ·refine go ?_;refine bZ U (rows':=List.map bv ([2]:List Int)) (iW.refl _) ?_;refine aB call114 (ip.r) (dt ([2]:List Int) sA) H (fun x77 H=>?_);refine go ?_;refine aN Z Z Z H (fun H=>?_) (fun H=>?_)
   ·exact fA
   exact fA
  refine aI Z H (fun H=>?_) (fun H=>?_)
  ·refine aE ?_;exact fA
  refine go ?_;refine bZ U (rows':=List.map bv ([5]:List Int)) (iW.refl _) ?_;refine aB call114 (ip.r) (dt ([5]:List Int) sA) H (fun x87 H=>?_);refine go ?_;refine aN Z Z Z H (fun H=>?_) (fun H=>?_)
  ·exact fA
  exact fA
 refine bG Z H ay (fun H=>?_);refine go ?_;refine bZ U (rows':=List.map bv ([1,2]:List Int)) (iW.refl _) ?_;refine aB call114 (ip.r) (dt ([1,2]:List Int) sA) H (fun x98 H=>?_);refine go ?_;refine bG Z H ay (fun H=>?_);refine go ?_;refine bZ U (rows':=List.map bv ([5]:List Int)) (iW.refl _) ?_;refine aB call114 (ip.r) (dt ([5]:List Int) sA) H (fun x106 H=>?_);refine go ?_;refine aI Z H (fun H=>?_) (fun H=>?_)
 ·refine go ?_;refine aN Z Z Z H (fun H=>?_) (fun H=>?_)
  ·exact fS
  exact fS
 refine go ?_;refine bZ U (rows':=List.map bv ([8]:List Int)) (iW.refl _) ?_;refine aB call114 (ip.r) (dt ([8]:List Int) sA) H (fun x123 H=>?_);refine go ?_;refine aI Z H (fun H=>?_) (fun H=>?_)
 ·refine go ?_;refine aN Z Z Z H (fun H=>?_) (fun H=>?_)
  ·exact fS
  exact fS
 refine go ?_;refine bZ U (rows':=List.map bv ([4]:List Int)) (iW.refl _) ?_;refine aB call114 (ip.r) (dt ([4]:List Int) sA) H (fun x134 H=>?_);refine go ?_;refine aN Z Z Z H (fun H=>?_) (fun H=>?_)
 ·exact fS
 exact fS
def et(c:LC)(cols:List LCol)(vars:List LCol)(e:LExpr):Option (Int×Bool×Int):=
 letP (fI cols vars e) fun x19=>
 cond (x19.2.2 !=(0:Int))
  (some (0,false,x19.2.2))
  (aa (fy c (LQuery.mk 0 [] [] [e] [] [] 0 0 [])) fun x30=>
  cond (x30 !=(0:Int))
   (some (0,false,x30))
   (some (x19.1,x19.2.1,0)))
theorem kB(c:LC)(cols:List LCol)(vars:List LCol)(e:LExpr)(r:Int×Bool×Int)(H:et c cols vars e=some r):
  aC prog 116 [(.agg (ba c)),(.list 93 (cols.map ap)),(.list 93 (vars.map ap)),(.agg (jl e))] (.tup [(ac r.1),(az r.2.1),(ac r.2.2)]):=by
 unfold et at H;refine PH.ak func116 ntmps116 ?_;refine gB ?_
 obtain⟨x19,h19,H⟩:=cI H
 have s19:=mL cols vars e;rw[h19]at s19;refine ag call122 (ip.r) s19 ?_;refine go ?_;refine bG Z H ay (fun H=>?_);refine go ?_;refine bZ U (rows':=List.map eJ ([e]:List LExpr)) (iW.trans (b:=List.map jl [e]) (iW.refl _) (iW.of_eq (vP cQ [e]))) ?_;refine go ?_;refine aB call120 (ip.of2 (ku.cons (PLe2.of_eq Z) (ku.cons (PLe2.agg (ku.cons (PLe2.of_eq Z) (ku.cons (PLe2.of_eq Z) (ku.cons (PLe2.nil U Z) (ku.cons (PLe2.of_eq Z) (ku.cons (PLe2.nil U Z) (ku.cons (PLe2.nil U Z) (ku.cons (PLe2.of_eq Z) (ku.cons (PLe2.of_eq Z) (ku.cons (PLe2.nil U Z) ku.nil)))))))))) ku.nil))) (mV c (LQuery.mk 0 [] [] [e] [] [] 0 0 [])) H (fun x30 H=>?_);refine go ?_;exact na Z H ay ay
def mB(q:LQuery):Option (Bool):=
 aa (
  cond (decide (q.kind<(1:Int)))
   (some true)
   (cond (decide (q.kind>(10:Int)))
    (some true)
    (aa (ax ([(-1),0,1,1,2,2,2,2,1,1,1]:List Int) q.kind) fun(x21:Int)=>
    some ((q.inputs.length:Int) !=x21)))) fun(t1:Bool)=>
 cond t1
  (some false)
  (aa (
   aa (ek ([1]:List Int) q) fun x29=>
   cond (!x29)
    (some (!(q.table==([]:Rb))))
    (some false)) fun(t2:Bool)=>
  aa (
   cond t2
    (some t2)
    (aa (
     aa (ek ([3,8]:List Int) q) fun x38=>
     cond (!x38)
      (some (decide ((q.names.length:Int)>(0:Int))))
      (some false)) fun(t7:Bool)=>
    cond t7
     (some t7)
     (aa (
      aa (ek ([8]:List Int) q) fun x48=>
      cond (!x48)
       (some (decide ((q.aggregates.length:Int)>(0:Int))))
       (some false)) fun(t8:Bool)=>
     cond t8
      (some t8)
      (aa (
       aa (ek ([9]:List Int) q) fun x58=>
       cond (!x58)
        (some (decide ((q.descending.length:Int)>(0:Int))))
        (some false)) fun(t9:Bool)=>
      cond t9
       (some t9)
       (aa (ek ([10]:List Int) q) fun x68=>
       cond (!x68)
        (cond (q.count !=(0:Int))
         (some true)
         (some (q.offset !=(0:Int))))
        (some false)))))) fun(t6:Bool)=>
  cond t6
   (some false)
   (aa (ek ([2,4,5]:List Int) q) fun x83=>
   cond x83
    (some ((q.exprs.length:Int)==(1:Int)))
    (aa (ek ([3,8]:List Int) q) fun x91=>
    cond x91
     (cond ((q.exprs.length:Int)==(q.names.length:Int))
      (some (decide ((Iw ((q.exprs.length:Int)+(q.aggregates.length:Int)))>(0:Int))))
      (some false))
     (aa (ek ([9]:List Int) q) fun x112=>
     cond x112
      (cond ((q.exprs.length:Int)==(q.descending.length:Int))
       (some (decide ((q.exprs.length:Int)>(0:Int))))
       (some false))
      (aa (ek ([10]:List Int) q) fun x129=>
      cond x129
       (cond ((q.exprs.length:Int)==(0:Int))
        (cond (decide (q.count>=(0:Int)))
         (some (decide (q.offset>=(0:Int))))
         (some false))
        (some false))
       (some ((q.exprs.length:Int)==(0:Int))))))))
theorem W_query_shape(q:LQuery)(r:Bool)(H:mB q=some r):
  aC prog 206 [(.agg (aH q))] (az r):=by
 unfold mB at H;refine PH.ak func206 ntmps206 ?_;refine gB ?_;refine xt (e:=3) (rows:=[[(ac (-1))],[(ac 0)],[(ac 1)],[(ac 1)],[(ac 2)],[(ac 2)],[(ac 2)],[(ac 2)],[(ac 1)],[(ac 1)],[(ac 1)]]) U Z Z Z Z (rows':=List.map bv ([(-1),0,1,1,2,2,2,2,1,1,1]:List Int)) (by kernel_rfl) (iW.refl _) Z Z (aD U Z (ao (al (al ?_))));refine fQ (γ:=Unit) (fun t1 g1=>⟨148,upd (upd (fun _=>.any) 24 (az t1)) 1 (.ptr (aH q)),fun _=>none,fun _=>none⟩) H (fun _ H=>?_) (fun t1 g1 H=>?_)
 ·refine bK ⟨false,false,[]⟩ [0,1,2,3,4,5,6,7,8,9,10,11,12,13,14,15,16,17,18] ?_;refine go ?_;refine nh H (fun H=>?_) (fun H=>?_)
  ·exact fA
  refine go ?_;refine nh H (fun H=>?_) (fun H=>?_)
  ·exact fA
  refine go ?_;refine bl (fun _=>Z) H (fun x21 H=>?_);exact fA
 refine bG Z H ay (fun H=>?_);refine aE (dp 2 U Z (al (aG (al (al ?_)))));refine fQ (γ:=Unit) (fun t2 g2=>⟨148,upd (upd (upd (fun _=>.any) 26 (az t2)) 4 (.fn 233 [(.ptr (aH q))])) 1 (.ptr (aH q)),fun _=>none,fun _=>none⟩) H (fun _ H=>?_) (fun t2 g2 H=>?_)
 ·refine go ?_;refine bZ U (rows':=List.map bv ([1]:List Int)) (iW.refl _) ?_;refine aB call233 (ip.r) (gY ([1]:List Int) q) H (fun x29 H=>?_);refine go ?_;refine aN Z Z Z H (fun H=>?_) (fun H=>?_)
  ·exact fA
  exact fA
 refine fQ (γ:=Unit) (fun t6 g6=>⟨148,upd (upd (upd (fun _=>.any) 26 (az t6)) 4 (.fn 233 [(.ptr (aH q))])) 1 (.ptr (aH q)),fun _=>none,fun _=>none⟩) H (fun _ H=>?_) (fun t6 g6 H=>?_)
 ·refine aI Z H (fun H=>?_) (fun H=>?_)
  ·refine aE ?_;exact fA
  refine al ?_;refine fQ (γ:=Unit) (fun t7 g7=>⟨148,upd (upd (upd (fun _=>.any) 26 (az t7)) 4 (.fn 233 [(.ptr (aH q))])) 1 (.ptr (aH q)),fun _=>none,fun _=>none⟩) H (fun _ H=>?_) (fun t7 g7 H=>?_)
  ·refine go ?_;refine bZ U (rows':=List.map bv ([3,8]:List Int)) (iW.refl _) ?_;refine aB call233 (ip.r) (gY ([3,8]:List Int) q) H (fun x38 H=>?_);refine go ?_;refine aN Z Z Z H (fun H=>?_) (fun H=>?_)
   ·exact fA
   exact fA
  refine aI Z H (fun H=>?_) (fun H=>?_)
  ·refine aE ?_;exact fA
  refine al ?_;refine fQ (γ:=Unit) (fun t8 g8=>⟨148,upd (upd (upd (fun _=>.any) 26 (az t8)) 4 (.fn 233 [(.ptr (aH q))])) 1 (.ptr (aH q)),fun _=>none,fun _=>none⟩) H (fun _ H=>?_) (fun t8 g8 H=>?_)
  ·refine go ?_;refine bZ U (rows':=List.map bv ([8]:List Int)) (iW.refl _) ?_;refine aB call233 (ip.r) (gY ([8]:List Int) q) H (fun x48 H=>?_);refine go ?_;refine aN Z Z Z H (fun H=>?_) (fun H=>?_)
   ·exact fA
   exact fA
  refine aI Z H (fun H=>?_) (fun H=>?_)
  ·refine aE ?_;exact fA
  refine al ?_;refine fQ (γ:=Unit) (fun t9 g9=>⟨148,upd (upd (upd (fun _=>.any) 26 (az t9)) 4 (.fn 233 [(.ptr (aH q))])) 1 (.ptr (aH q)),fun _=>none,fun _=>none⟩) H (fun _ H=>?_) (fun t9 g9 H=>?_)
  ·refine go ?_;refine bZ U (rows':=List.map bv ([9]:List Int)) (iW.refl _) ?_;refine aB call233 (ip.r) (gY ([9]:List Int) q) H (fun x58 H=>?_);refine go ?_;refine aN Z Z Z H (fun H=>?_) (fun H=>?_)
   ·exact fA
   exact fA
  refine aI Z H (fun H=>?_) (fun H=>?_)
  ·refine aE ?_;exact fA
  refine go ?_;refine bZ U (rows':=List.map bv ([10]:List Int)) (iW.refl _) ?_;refine aB call233 (ip.r) (gY ([10]:List Int) q) H (fun x68 H=>?_);refine go ?_;refine aN Z Z Z H (fun H=>?_) (fun H=>?_)
  ·refine go ?_;refine aN Z Z Z H (fun H=>?_) (fun H=>?_)
   ·exact fA
   exact fA
  exact fA
 refine bG Z H ay (fun H=>?_);refine go ?_;refine bZ U (rows':=List.map bv ([2,4,5]:List Int)) (iW.refl _) ?_;refine aB call233 (ip.r) (gY ([2,4,5]:List Int) q) H (fun x83 H=>?_);refine go ?_;refine bG Z H ay (fun H=>?_);refine go ?_;refine bZ U (rows':=List.map bv ([3,8]:List Int)) (iW.refl _) ?_;refine aB call233 (ip.r) (gY ([3,8]:List Int) q) H (fun x91 H=>?_);refine go ?_;refine aI Z H (fun H=>?_) (fun H=>?_)
 ·refine go ?_;refine aN Z Z Z H (fun H=>?_) (fun H=>?_)
  ·exact fS
  exact fS
 refine go ?_;refine bZ U (rows':=List.map bv ([9]:List Int)) (iW.refl _) ?_;refine aB call233 (ip.r) (gY ([9]:List Int) q) H (fun x112 H=>?_);refine go ?_;refine aI Z H (fun H=>?_) (fun H=>?_)
 ·refine go ?_;refine aN Z Z Z H (fun H=>?_) (fun H=>?_)
  ·exact fS
  exact fS
 refine go ?_;refine bZ U (rows':=List.map bv ([10]:List Int)) (iW.refl _) ?_;refine aB call233 (ip.r) (gY ([10]:List Int) q) H (fun x129 H=>?_);refine go ?_;refine aI Z H (fun H=>?_) (fun H=>?_)
 ·refine go ?_;refine aN Z Z Z H (fun H=>?_) (fun H=>?_)
  ·refine go ?_;refine aN Z Z Z H (fun H=>?_) (fun H=>?_)
   ·exact fS
   exact fS
  exact fS
 exact fS
def eG(c:LChecker)(l:List LCol)(e:LExpr):Int:=
 letP (fI l c.vars e) fun x15=>
 cond (x15.2.2==(0:Int))
  (cond (x15.1 !=(2:Int))
   (cond (x15.1 !=(0:Int))
    (7)
    (x15.2.2))
   (x15.2.2))
  (x15.2.2)
theorem mU(c:LChecker)(l:List LCol)(e:LExpr):
  aC prog 235 [(.agg (fq c)),(.list 93 (l.map ap)),(.agg (jl e))] (ac (eG c l e)):=by
 obtain⟨r,H⟩:∃r,eG c l e=r:=⟨_,rfl⟩
 rw[H];unfold eG at H;refine PH.ak func235 ntmps235 ?_;refine gB ?_
 obtain⟨x15,h15,H⟩:=cI H
 have s15:=mL l c.vars e;rw[h15]at s15;refine ag call122 (ip.r) s15 ?_;refine go ?_;refine aN Z Z Z H (fun H=>?_) (fun H=>?_)
 ·refine go ?_;refine aN Z Z Z H (fun H=>?_) (fun H=>?_)
  ·refine go ?_;exact na Z H id id
  refine go ?_;refine bj Z ?_;exact fE H
 refine go ?_;refine bj Z ?_;exact fE H
def iM(c:LChecker)(inA:List LCol)(a:LA):Option (Int×Int):=
 aa (
  letP (eE a.name) fun x13=>
  cond (!x13)
   (some true)
   (aa (cy ([[99,111,117,110,116],[115,117,109],[109,105,110],[109,97,120]]:Rs) a.function) fun x19=>
   cond (!x19)
    (some true)
    (cond (decide ((a.args.length:Int)>(1:Int)))
     (some true)
     (cond (decide ((a.args.length:Int)<(1:Int)))
      (some (!(a.function==([99,111,117,110,116]:Rb))))
      (some false))))) fun(t1:Bool)=>
 cond t1
  (some (0,3))
  (cond ((a.args.length:Int)==(0:Int))
   (some (1,0))
   (aa (ax a.args 0) fun(x49:LExpr)=>
   letP (fI inA c.vars x49) fun x51=>
   cond (x51.2.2 !=(0:Int))
    (some (0,x51.2.2))
    (letP (
     cond (x51.1==(0:Int))
      (true)
      (cond (a.function==([115,117,109]:Rb))
       ((x51.1 !=(1:Int)))
       (false))) fun(t2:Bool)=>
    cond t2
     (some (0,7))
     (cond (a.function==([99,111,117,110,116]:Rb))
      (some (1,0))
      (some (x51.1,0))))))
theorem uJ(c:LChecker)(inA:List LCol)(a:LA)(r:Int×Int)(H:iM c inA a=some r):
  aC prog 261 [(.agg (fq c)),(.list 93 (inA.map ap)),(.agg (nz a))] (.tup [(ac r.1),(ac r.2)]):=by
 unfold iM at H;refine PH.ak func261 ntmps261 ?_;refine al (ah (bC ?_));refine bC ?_;refine cC 2 U Z (ao (al (al ?_)));refine fQ (γ:=Unit) (fun t1 g1=>⟨76,upd (upd (upd (upd (fun _=>.any) 38 (az t1)) 5 (.ptr (nz a))) 3 (.ptr (fq c))) 1 (.list 93 (inA.map ap)),fun _=>none,fun _=>none⟩) H (fun _ H=>?_) (fun t1 g1 H=>?_)
 ·refine go ?_
  obtain⟨x13,h13,H⟩:=cI H
  have s13:=mR a.name;rw[h13]at s13;refine ag call117 (ip.r) s13 ?_;refine go ?_;refine aN Z Z Z H (fun H=>?_) (fun H=>?_)
  ·exact fA
  refine bZ U (rows':=List.map nE ([[99,111,117,110,116],[115,117,109],[109,105,110],[109,97,120]]:Rs)) (iW.refl _) ?_;refine go ?_;refine aB call31 (ip.r) (lj ([[99,111,117,110,116],[115,117,109],[109,105,110],[109,97,120]]:Rs) a.function) H (fun x19 H=>?_);refine go ?_;refine aN Z Z Z H (fun H=>?_) (fun H=>?_)
  ·exact fA
  refine go ?_;refine aN Z Z Z H (fun H=>?_) (fun H=>?_)
  ·exact fA
  refine go ?_;refine aN Z Z Z H (fun H=>?_) (fun H=>?_)
  ·exact fA
  exact fA
 refine bG Z H ay (fun H=>?_);refine go ?_;refine bG Z H ay (fun H=>?_);refine go ?_;refine bK ⟨false,false,[]⟩ [0,1,2,3,4,5,6,7,8,9,10,11,12,13,14] ?_;refine go ?_;refine bl cQ H (fun x49 H=>?_);refine go ?_
 obtain⟨x51,h51,H⟩:=cI H
 have s51:=mL inA c.vars x49;rw[h51]at s51;refine bI call122 (ip.r) s51 ?_;refine go ?_;refine bG Z H ay (fun H=>?_);refine al ?_;refine fP (γ:=Unit) (fun t2 g2=>⟨76,upd (upd (upd (fun _=>.any) 59 (az t2)) 8 (ac x51.1)) 5 (.ptr (nz a)),fun _=>none,fun _=>none⟩) H (fun _ H=>?_) (fun t2 g2 H=>?_)
 ·refine go ?_;refine aN Z Z Z H (fun H=>?_) (fun H=>?_)
  ·exact fA
  refine go ?_;refine aN Z Z Z H (fun H=>?_) (fun H=>?_)
  ·exact fA
  exact fA
 refine bG Z H ay (fun H=>?_);refine go ?_;exact na Z H ay ay
def fo(data:Rz)(n:Int)(cmp:Rq->Rq->Option (Int)):Option (Rz):=
 aa (gX (σ:=Rz×Int×Int) (ρ:=Empty) (fun(s1:Rz×Int×Int)=>
  cond (decide (s1.2.2<=n))
   (aa (cU s1.1 s1.2.1 s1.2.2 cmp) fun x18=>
   aa (fF (x18.length=s1.1.length) ()) fun(_:Unit)=>
   some (.next (x18,s1.2.2,(Iw (s1.2.2+(20:Int))))))
   (some (.brk (s1.1,s1.2.1,s1.2.2)))) (data,0,20)) fun fl1=>fl1.thenP fun(s1:Rz×Int×Int)=>
 aa (cU s1.1 s1.2.1 n cmp) fun x27=>
 aa (fF (x27.length=s1.1.length) ()) fun(_:Unit)=>
 aa (gX (σ:=Rz×Int) (ρ:=Empty) (fun(s2:Rz×Int)=>
  cond (decide (s2.2<n))
   (aa (gX (σ:=Rz×Int×Int) (ρ:=Empty) (fun(s5:Rz×Int×Int)=>
    cond (decide (s5.2.2<=n))
     (aa (gq s5.1 s5.2.1 (Iw (s5.2.1+s2.2)) s5.2.2 cmp) fun x43=>
     aa (fF (x43.length=s5.1.length) ()) fun(_:Unit)=>
     some (.next (x43,s5.2.2,(Iw (s5.2.2+(Iw ((2:Int)*s2.2)))))))
     (some (.brk (s5.1,s5.2.1,s5.2.2)))) (s2.1,0,(Iw ((2:Int)*s2.2)))) fun fl5=>fl5.thenP fun(s5:Rz×Int×Int)=>
   cond (decide ((Iw (s5.2.1+s2.2))<n))
    (aa (gq s5.1 s5.2.1 (Iw (s5.2.1+s2.2)) n cmp) fun x60=>
    aa (fF (x60.length=s5.1.length) ()) fun(_:Unit)=>
    some (.next (x60,(Iw (s2.2*(2:Int))))))
    (some (.next (s5.1,(Iw (s2.2*(2:Int)))))))
   (some (.brk (s2.1,s2.2)))) (x27,20)) fun fl2=>fl2.thenP fun(s2:Rz×Int)=>
 some s2.1
theorem oP(g_data:OwnRef){g_cmp:FuncId}{caps_cmp:List PV}(data:Rz)(n:Int)(cmp:Rq->Rq->Option (Int))(hg_cmp:∀(vs:Array Value) (w:World),(callFunc g_cmp vs).run prog w= .ok (.enter g_cmp vs) w)(hp_cmp:∀a0 a1 r,cmp a0 a1=some r->aC prog g_cmp ((.list 69 (a0.map ab))::(.list 69 (a1.map ab))::caps_cmp) (ac r))(r:Rz)(H:fo data n cmp=some r):
  PH prog 245 [(.own 0 g_data (data.map rRr).length),(ac n),(.fn g_cmp caps_cmp)] ⟨fun _=>none,upd (fun _=>none) 0 (some ⟨g_data,54,(data.map rRr),true⟩)⟩ (fun u H=>u=(.tup [])/\H=⟨fun _=>none,upd (fun _=>none) 0 (some ⟨g_data,54,(r.map rRr),true⟩)⟩):=by
 unfold fo at H;refine PH.ak func245 ntmps245 ?_;refine go ?_
 obtain⟨fl1,H1,Hp1⟩:=aA H
 refine fK (τ:=Rz×Int×Int) (γ:=Unit) (fun s1 g1=>⟨63,upd (upd (upd (upd (upd (fun _=>.any) 7 (ac s1.2.1)) 6 (ac 20)) 2 (.fn g_cmp caps_cmp)) 1 (ac n)) 0 (.own 0 g_data (s1.1.map rRr).length),fun _=>none,upd (fun _=>none) 0 (some ⟨g_data,54,(s1.1.map rRr),true⟩)⟩) (fun t=>fl1= .next t) ?_ (fun s1 g1 hn1=>?_)
 ·refine aG ?_;refine iZ (fun s1 g1=>⟨63,upd (upd (upd (upd (upd (upd (fun _=>.any) 8 (ac s1.2.2)) 7 (ac s1.2.1)) 6 (ac 20)) 2 (.fn g_cmp caps_cmp)) 1 (ac n)) 0 (.own 0 g_data (s1.1.map rRr).length),fun _=>none,upd (fun _=>none) 0 (some ⟨g_data,54,(s1.1.map rRr),true⟩)⟩) () H1 Gh.d (fun m1 s1 g1 hr1=>?_)
  obtain⟨fb1,H,hg1⟩:=gv hr1
  refine go ?_;refine aI Z H (fun H=>?_) (fun H=>?_)
  ·refine go ?_
   obtain⟨x18,h18,H⟩:=aA H
   have s18:=jW g_data s1.1 s1.2.1 s1.2.2 cmp hg_cmp hp_cmp _ h18
   obtain⟨_,q18_0,H⟩:=aA H
   have l18_0:=(dK q18_0).1;have z18_0:(List.map rRr s1.1).length=(List.map rRr x18).length:=by simpa using(l18_0).symm
   refine fL (g:=267) Z Z Z call267 [] [(0,0)] Z Z Z Z (ip.of2 (ku.cons (PLe2.own Z) (ku.cons (PLe2.of_eq Z) (ku.cons (PLe2.of_eq Z) (ku.cons (PLe2.of_eq Z) ku.nil))))) (by rw[dI,bB,cP];rfl) s18 ?_;rintro u18 H18h ⟨rfl,rfl⟩
   refine⟨_,rfl,?_⟩
   refine eA (fun _=>none) (upd (fun _=>none) 0 (some ⟨g_data,54,(x18.map rRr),true⟩)) ?_;refine go ?_;obtain rfl:=ay H;refine eR (x18,s1.2.2,(Iw (s1.2.2+(20:Int)))) () hg1 (Gh.le (bh (PLe.of2 (PLe2.of_eq (congrArg (PV.own 0 g_data) z18_0))) (aq (aq (aq (aq (aq bm)))))) aV (bJ aU))
  refine bd Z ?_;obtain rfl:=ay H;refine fc (s1.1,s1.2.1,s1.2.2) () hg1 Gh.d
 have H:=ep hn1 Hp1;refine go ?_
 obtain⟨x27,h27,H⟩:=aA H
 have s27:=jW g_data s1.1 s1.2.1 n cmp hg_cmp hp_cmp _ h27
 obtain⟨_,q27_0,H⟩:=aA H
 have l27_0:=(dK q27_0).1;have z27_0:(List.map rRr s1.1).length=(List.map rRr x27).length:=by simpa using(l27_0).symm
 refine fL (g:=267) Z Z Z call267 [] [(0,0)] Z Z Z Z (ip.of2 (ku.cons (PLe2.own Z) (ku.cons (PLe2.of_eq Z) (ku.cons (PLe2.of_eq Z) (ku.cons (PLe2.of_eq Z) ku.nil))))) (by rw[dI,bB,cP];rfl) s27 ?_;rintro u27 H27h ⟨rfl,rfl⟩
 refine⟨_,rfl,?_⟩
 refine eA (fun _=>none) (upd (fun _=>none) 0 (some ⟨g_data,54,(x27.map rRr),true⟩)) ?_;refine ao ?_
 obtain⟨fl2,H2,Hp2⟩:=aA H
 refine fK (τ:=Rz×Int) (γ:=Unit) (fun s2 g2=>⟨63,upd (fun _=>.any) 0 (.own 0 g_data (s2.1.map rRr).length),fun _=>none,upd (fun _=>none) 0 (some ⟨g_data,54,(s2.1.map rRr),true⟩)⟩) (fun t=>fl2= .next t) ?_ (fun s2 g2 hn2=>?_)
 ·refine aG ?_;refine iZ (fun s2 g2=>⟨63,upd (upd (upd (upd (fun _=>.any) 6 (ac s2.2)) 2 (.fn g_cmp caps_cmp)) 1 (ac n)) 0 (.own 0 g_data (s2.1.map rRr).length),fun _=>none,upd (fun _=>none) 0 (some ⟨g_data,54,(s2.1.map rRr),true⟩)⟩) () H2 (Gh.le (bh (PLe.of2 (PLe2.of_eq (congrArg (PV.own 0 g_data) z27_0))) (aq (aq (aq bm)))) aV (bJ aU)) (fun m2 s2 g2 hr2=>?_)
  obtain⟨fb2,H,hg2⟩:=gv hr2
  refine go ?_;refine aI Z H (fun H=>?_) (fun H=>?_)
  ·refine go ?_
   obtain⟨fl5,H5,Hp5⟩:=aA H
   refine fK (τ:=Rz×Int×Int) (γ:=Unit) (fun s5 g5=>⟨63,upd (upd (upd (upd (upd (fun _=>.any) 7 (ac s5.2.1)) 6 (ac s2.2)) 2 (.fn g_cmp caps_cmp)) 1 (ac n)) 0 (.own 0 g_data (s5.1.map rRr).length),fun _=>none,upd (fun _=>none) 0 (some ⟨g_data,54,(s5.1.map rRr),true⟩)⟩) (fun t=>fl5= .next t) ?_ (fun s5 g5 hn5=>?_)
   ·refine aG ?_;refine iZ (fun s5 g5=>⟨63,upd (upd (upd (upd (upd (upd (fun _=>.any) 8 (ac s5.2.2)) 7 (ac s5.2.1)) 6 (ac s2.2)) 2 (.fn g_cmp caps_cmp)) 1 (ac n)) 0 (.own 0 g_data (s5.1.map rRr).length),fun _=>none,upd (fun _=>none) 0 (some ⟨g_data,54,(s5.1.map rRr),true⟩)⟩) () H5 Gh.d (fun m5 s5 g5 hr5=>?_)
    obtain⟨fb5,H,hg5⟩:=gv hr5
    refine go ?_;refine aI Z H (fun H=>?_) (fun H=>?_)
    ·refine go ?_
     obtain⟨x43,h43,H⟩:=aA H
     have s43:=lg g_data s5.1 s5.2.1 (Iw (s5.2.1+s2.2)) s5.2.2 cmp hg_cmp hp_cmp _ h43
     obtain⟨_,q43_0,H⟩:=aA H
     have l43_0:=(dK q43_0).1;have z43_0:(List.map rRr s5.1).length=(List.map rRr x43).length:=by simpa using(l43_0).symm
     refine fL (g:=268) Z Z Z call268 [] [(0,0)] Z Z Z Z (ip.of2 (ku.cons (PLe2.own Z) (ku.cons (PLe2.of_eq Z) (ku.cons (PLe2.of_eq Z) (ku.cons (PLe2.of_eq Z) (ku.cons (PLe2.of_eq Z) ku.nil)))))) (by rw[dI,bB,cP];rfl) s43 ?_;rintro u43 H43h ⟨rfl,rfl⟩
     refine⟨_,rfl,?_⟩
     refine eA (fun _=>none) (upd (fun _=>none) 0 (some ⟨g_data,54,(x43.map rRr),true⟩)) ?_;refine go ?_;obtain rfl:=ay H;refine eR (x43,s5.2.2,(Iw (s5.2.2+(Iw ((2:Int)*s2.2))))) () hg5 (Gh.le (bh (PLe.of2 (PLe2.of_eq (congrArg (PV.own 0 g_data) z43_0))) (aq (aq (aq (aq (aq bm)))))) aV (bJ aU))
    refine bd Z ?_;obtain rfl:=ay H;refine fc (s5.1,s5.2.1,s5.2.2) () hg5 Gh.d
   have H:=ep hn5 Hp5;refine go ?_;refine aI Z H (fun H=>?_) (fun H=>?_)
   ·refine go ?_
    obtain⟨x60,h60,H⟩:=aA H
    have s60:=lg g_data s5.1 s5.2.1 (Iw (s5.2.1+s2.2)) n cmp hg_cmp hp_cmp _ h60
    obtain⟨_,q60_0,H⟩:=aA H
    have l60_0:=(dK q60_0).1;have z60_0:(List.map rRr s5.1).length=(List.map rRr x60).length:=by simpa using(l60_0).symm
    refine fL (g:=268) Z Z Z call268 [] [(0,0)] Z Z Z Z (ip.of2 (ku.cons (PLe2.own Z) (ku.cons (PLe2.of_eq Z) (ku.cons (PLe2.of_eq Z) (ku.cons (PLe2.of_eq Z) (ku.cons (PLe2.of_eq Z) ku.nil)))))) (by rw[dI,bB,cP];rfl) s60 ?_;rintro u60 H60h ⟨rfl,rfl⟩
    refine⟨_,rfl,?_⟩
    refine eA (fun _=>none) (upd (fun _=>none) 0 (some ⟨g_data,54,(x60.map rRr),true⟩)) ?_;refine go ?_;obtain rfl:=ay H;refine eR (x60,(Iw (s2.2*(2:Int)))) () hg2 (Gh.le (bh (PLe.of2 (PLe2.of_eq (congrArg (PV.own 0 g_data) z60_0))) (aq (aq (aq bm)))) aV (bJ aU))
   refine go ?_;obtain rfl:=ay H;refine eR (s5.1,(Iw (s2.2*(2:Int)))) () hg2 Gh.d
  refine bd Z ?_;obtain rfl:=ay H;refine fc (s2.1,s2.2) () hg2 Gh.d
 have H:=ep hn2 Hp2;obtain rfl:=ay H;refine cv (st':=⟨63,fun _=>.any,fun _=>none,upd (fun _=>none) 0 (some ⟨g_data,54,(s2.1.map rRr),true⟩)⟩) Gh.d ?_;refine mW Z (PLe.q Z) ⟨rfl,rfl⟩
def gd(sA:LSchema)(c:LK):Option (Int):=
 aa (dH sA c.table) fun x14=>
 cond (!x14.2)
  (some 4)
  (aa (ax sA.tables x14.1) fun(x22:LTable)=>
  letP (jB (LVal.mk 0 0 []) c.op (LVal.mk 0 0 [])) fun x30=>
  letP (
   cond (decide (c.left<(0:Int)))
    (true)
    (cond (decide (c.left>=(x22.columns.length:Int)))
     (true)
     (cond (x30.2 !=(0:Int))
      (true)
      (cond (decide (c.right<(-1)))
       (true)
       (cond (decide (c.right>=(x22.columns.length:Int)))
        (true)
        (cond (decide (c.right>=(0:Int)))
         ((!(c.value.kind==(0:Int)&&(c.value.int==(0:Int)&&(c.value.text==([]:Rb)&&true)))))
         (false))))))) fun(t1:Bool)=>
  cond t1
   (some 3)
   (cond (decide (c.right>=(0:Int)))
    (aa (ax x22.columns c.left) fun(x76:LCol)=>
    aa (ax x22.columns c.right) fun(x82:LCol)=>
    cond (x76.kind !=x82.kind)
     (some 7)
     (some 0))
    (aa (ax x22.columns c.left) fun(x92:LCol)=>
    cond (c.value.kind !=x92.kind)
     (some 7)
     (letP (da c.value) fun x98=>
     some x98))))
theorem qi(sA:LSchema)(c:LK)(r:Int)(H:gd sA c=some r):
  aC prog 76 [(.agg (cf sA)),(.agg (ln c))] (ac r):=by
 unfold gd at H;refine PH.ak func76 ntmps76 ?_;refine gB ?_;refine aB call28 (ip.r) (kr sA c.table) H (fun x14 H=>?_);refine go ?_;refine bG Z H ay (fun H=>?_);refine go ?_;refine ec U (fun _=>Z) H (fun x22 H=>?_);refine go ?_
 obtain⟨x30,h30,H⟩:=cI H
 have s30:=vV (LVal.mk 0 0 []) c.op (LVal.mk 0 0 []);rw[h30]at s30;refine ag call109 (ip.r) s30 ?_;refine cC 5 U Z (ao (al (al ?_)));refine fP (γ:=Unit) (fun t1 g1=>⟨99,upd (upd (upd (fun _=>.any) 69 (az t1)) 7 (.list 93 (x22.columns.map ap))) 3 (.ptr (ln c)),fun _=>none,fun _=>none⟩) H (fun _ H=>?_) (fun t1 g1 H=>?_)
 ·refine go ?_;refine aN Z Z Z H (fun H=>?_) (fun H=>?_)
  ·exact fA
  refine go ?_;refine aN Z Z Z H (fun H=>?_) (fun H=>?_)
  ·exact fA
  refine go ?_;refine aN Z Z Z H (fun H=>?_) (fun H=>?_)
  ·exact fA
  refine go ?_;refine aN Z Z Z H (fun H=>?_) (fun H=>?_)
  ·exact fA
  refine go ?_;refine aN Z Z Z H (fun H=>?_) (fun H=>?_)
  ·exact fA
  refine go ?_;refine aN Z Z Z H (fun H=>?_) (fun H=>?_)
  ·exact fA
  exact fA
 refine bG Z H ay (fun H=>?_);refine go ?_;refine aI Z H (fun H=>?_) (fun H=>?_)
 ·refine go ?_;refine bK ⟨false,false,[]⟩ [0,1,2,3,4,5,6,7,8,9,10,11,12] ?_;refine go ?_;refine bl (fun _=>Z) H (fun x76 H=>?_);refine go ?_;refine bl (fun _=>Z) H (fun x82 H=>?_);refine go ?_;exact na Z H ay ay
 refine go ?_;refine bK ⟨false,false,[]⟩ [0,1,2,3,4,5,6,7,8,9] ?_;refine go ?_;refine bl (fun _=>Z) H (fun x92 H=>?_);refine go ?_;refine bG Z H ay (fun H=>?_);refine go ?_
 obtain⟨x98,h98,H⟩:=cI H
 have s98:=od c.value;rw[h98]at s98;refine ag call110 (ip.r) s98 ?_;exact fS
def du(sA:LSchema)(inst:List LW):Option (Int):=
 cond ((inst.length:Int) !=(sA.tables.length:Int))
  (some 3)
  (aa (au (σ:=Unit) (ρ:=(Int)) (fun(j1:Nat) (x1:LW) (_:Unit)=>
   aa (ax sA.tables (j1:Int)) fun(x28:LTable)=>
   cond (!(x1.table==x28.name))
    (some (.ret 3))
    (cond (decide ((x1.rows.length:Int)>(24:Int)))
     (some (.ret 2))
     (aa (au (σ:=Unit) (ρ:=(Int)) (fun(j3:Nat) (x3:Rq) (_:Unit)=>
      aa (dC x28 x3) fun x49=>
      cond (x49 !=(0:Int))
       (some (.ret x49))
       (cond ((j3:Int)==(0:Int))
        (some (.next ()))
        (aa (ax x1.rows (Iw ((j3:Int)-(1:Int)))) fun(x60:Rq)=>
        aa (cu x28 x60) fun x62=>
        aa (cu x28 x3) fun x65=>
        aa (bM x62 x65) fun x66=>
        cond (x66==(0:Int))
         (some (.ret 9))
         (cond (decide (x66>(0:Int)))
          (some (.ret 6))
          (some (.next ())))))) 0 x1.rows ()) fun fl3=>fl3.thenF fun(_:Unit)=>
     some (.next ())))) 0 inst ()) fun fl1=>fl1.thenR fun(_:Unit)=>
  some 0)
theorem lq(sA:LSchema)(inst:List LW)(r:Int)(H:du sA inst=some r):
  aC prog 38 [(.agg (cf sA)),(.list 86 (inst.map bE))] (ac r):=by
 unfold du at H;refine PH.ak func38 ntmps38 ?_;refine gB ?_;refine bG Z H ay (fun H=>?_);refine go ?_;refine fg U 20 19 18 (fun s1 g1=>upd (fun _=>.any) 2 (.ptr (cf sA))) nB nO () H (fun fl1 Hp1 j1 s1 g1 hz1 hl1 x1 fb1 hx1 H hg1=>?_) (fun s1 g1 H=>?_)
 ·refine go ?_;refine aW U (zn j1) (aQ (fun _=>Z) hx1) ?_;refine go ?_;refine aM U fun b6=>?_
  refine go ?_;refine ec U (fun _=>Z) H (fun x28 H=>?_);refine go ?_;refine aM U fun b7=>?_
  refine go ?_;refine bG Z H (fun H=>lvR H hg1 Hp1) (fun H=>?_);refine go ?_;refine bG Z H (fun H=>lvR H hg1 Hp1) (fun H=>?_);refine go ?_
  obtain⟨fl3,H3,Hp3⟩:=aA H
  refine jc U 40 Z Z (fun hz3 _=>?_);rw[zl]at hz3;refine fK (τ:=Unit) (γ:=Unit) (fun s3 g3=>⟨75,upd (upd (upd (upd (fun _=>.any) 20 (ac (j1:Int))) 19 (ac (inst.length:Int))) 18 (.list 86 (inst.map bE))) 2 (.ptr (cf sA)),fun _=>none,fun _=>none⟩) (fun t=>fl3= .next t) ?_ (fun s3 g3 hn3=>?_)
  ·refine aG ?_;refine jw (fun j3 s3 g3=>⟨75,upd (upd (upd (upd (upd (upd (upd (upd (upd (fun _=>.any) 42 (ac (j3:Int))) 41 (ac (x1.rows.length:Int))) 40 (.list 54 (x1.rows.map rRr))) 20 (ac (j1:Int))) 19 (ac (inst.length:Int))) 18 (.list 86 (inst.map bE))) 7 (.box 7 b7 0)) 6 (.box 6 b6 0)) 2 (.ptr (cf sA)),upd (upd (fun _=>none) 7 (some ⟨b7,(bq x28)⟩)) 6 (some ⟨b6,(bE x1)⟩),fun _=>none⟩) () H3 Gh.d (fun j3 s3 g3 hj3 hr3=>?_);refine go ?_;refine aY Z (fun h=>?_) (fun h=>?_)
   ·have hl3:=qk h
    obtain⟨x3,fb3,hx3,H,hg3⟩:=rMc hl3 hr3
    refine go ?_;refine aW U (zn j3) (aQ (fun _=>Z) hx3) ?_;refine go ?_;refine aB call78 (ip.r) (nL x28 x3) H (fun x49 H=>?_);refine go ?_;refine bG Z H (fun H=>lvR (lvF H hg3 Hp3) hg1 Hp1) (fun H=>?_);refine go ?_;refine wA Z H (fun H=>?_);refine go ?_;refine bK ⟨true,false,[61]⟩ [0,1,2,3,4,5,6,8,9,7,10,11,12] ?_;refine go ?_;refine bl (fun _=>Z) H (fun x60 H=>?_);refine go ?_;refine bU call80 (ip.r) (nu x28 x60) H (fun x62 H=>?_);refine bU call80 (ip.r) (nu x28 x3) H (fun x65 H=>?_);refine bU call79 (ip.r) (pC x62 x65) H (fun x66 H=>?_);refine go ?_;refine bG Z H (fun H=>lvR (lvF H hg3 Hp3) hg1 Hp1) (fun H=>?_);refine go ?_;refine bG Z H (fun H=>lvR (lvF H hg3 Hp3) hg1 Hp1) (fun H=>?_);exact fN
   have hn3:=rMd (qp h) hr3;refine bd Z ?_;refine fc s3 g3 hn3 Gh.d
  have H:=thenF_next hn3 Hp3;exact fN
 exact fS
def eD(c:LC)(cols:List LCol)(vars:List LCol)(e:LExpr):Option (Int):=
 aa (et c cols vars e) fun x17=>
 cond (x17.2.2==(0:Int))
  (cond (x17.1 !=(2:Int))
   (cond (x17.1 !=(0:Int))
    (some 7)
    (some x17.2.2))
   (some x17.2.2))
  (some x17.2.2)
theorem lR(c:LC)(cols:List LCol)(vars:List LCol)(e:LExpr)(r:Int)(H:eD c cols vars e=some r):
  aC prog 119 [(.agg (ba c)),(.list 93 (cols.map ap)),(.list 93 (vars.map ap)),(.agg (jl e))] (ac r):=by
 unfold eD at H;refine PH.ak func119 ntmps119 ?_;refine gB ?_;refine aB call116 (ip.r) (kB c cols vars e) H (fun x17 H=>?_);refine go ?_;refine aN Z Z Z H (fun H=>?_) (fun H=>?_)
 ·refine go ?_;refine aN Z Z Z H (fun H=>?_) (fun H=>?_)
  ·refine go ?_;exact na Z H ay ay
  refine go ?_;refine bj Z ?_;exact fS
 refine go ?_;refine bj Z ?_;exact fS
def fT(c:LChecker)(q:LQuery)(inA:List LCol):Option ((List LCol)×Int):=
 aa (au (σ:=List LCol) (ρ:=((List LCol)×Int)) (fun(j1:Nat) (x1:LExpr) (s1:List LCol)=>
  letP (fI inA c.vars x1) fun x31=>
  aa (ax q.names (j1:Int)) fun(x39:Rb)=>
  letP (eE x39) fun x41=>
  cond (!x41)
   (some (.ret ([],3)))
   (cond (x31.2.2 !=(0:Int))
    (some (.ret ([],x31.2.2)))
    (cond (x31.1==(0:Int))
     (some (.ret ([],7)))
     (aa (ax q.names (j1:Int)) fun(x54:Rb)=>
     aa (cE 32 s1 ([(LCol.mk x54 x31.1 x31.2.1)]:List LCol)) fun(x60:List LCol)=>
     some (.next x60))))) 0 q.exprs []) fun fl1=>fl1.thenR fun(s1:List LCol)=>
 aa (au (σ:=List LCol) (ρ:=((List LCol)×Int)) (fun(_:Nat) (x2:LA) (s2:List LCol)=>
  aa (iM c inA x2) fun x73=>
  cond (x73.2 !=(0:Int))
   (some (.ret ([],x73.2)))
   (aa (cE 32 s2 ([(LCol.mk x2.name x73.1 (!(x2.function==([99,111,117,110,116]:Rb))))]:List LCol)) fun(x88:List LCol)=>
   some (.next x88))) 0 q.aggregates s1) fun fl2=>fl2.thenR fun(s2:List LCol)=>
 some (s2,0)
theorem pN(c:LChecker)(q:LQuery)(inA:List LCol)(r:(List LCol)×Int)(H:fT c q inA=some r):
  aC prog 237 [(.agg (fq c)),(.agg (aH q)),(.list 93 (inA.map ap))] (.tup [(.list 93 (r.1.map ap)),(ac r.2)]):=by
 unfold fT at H;refine PH.ak func237 ntmps237 ?_;refine al (ah (bC ?_));refine bC ?_;refine cC 2 U Z (ao (dp 1 U Z (al (al (ah (cC 2 U Z (ic U (zl _) ?_)))))));refine aD U Z (ao (iy U 8 60 (e:=93) Z Z ?_));refine fg (γ:=OwnRef) U 21 20 19 (fun s1 g1=>upd (upd (upd (upd (fun _=>.any) 8 (.own 60 g1 (s1.map ap).length)) 4 (.ptr (aH q))) 3 (.ptr (fq c))) 2 (.list 93 (inA.map ap))) nB (fun s1 g1=>upd (fun _=>none) 60 (some ⟨g1,93,(s1.map ap),true⟩)) (⟨none,0⟩) H (fun fl1 Hp1 j1 s1 g1 hz1 hl1 x1 fb1 hx1 H hg1=>?_) (fun s1 g1 H=>?_)
 ·refine go ?_;refine aW U (zn j1) (aQ cQ hx1) ?_;refine go ?_;refine aM U fun b10=>?_
  refine go ?_
  obtain⟨x31,h31,H⟩:=cI H
  have s31:=mL inA c.vars x1;rw[h31]at s31;refine ag call122 (ip.r) s31 ?_;refine go ?_;refine ec U (fun _=>Z) H (fun x39 H=>?_);refine go ?_
  obtain⟨x41,h41,H⟩:=cI H
  have s41:=mR x39;rw[h41]at s41;refine ag call117 (ip.r) s41 ?_;refine go ?_;refine aI Z H (fun H=>?_) (fun H=>?_)
  ·refine go ?_;obtain rfl:=lvR H hg1 Hp1;exact gH U Z gr
  refine go ?_;refine aI Z H (fun H=>?_) (fun H=>?_)
  ·refine go ?_;obtain rfl:=lvR H hg1 Hp1;exact gH U Z gr
  refine go ?_;refine aI Z H (fun H=>?_) (fun H=>?_)
  ·refine go ?_;obtain rfl:=lvR H hg1 Hp1;exact gH U Z gr
  refine go ?_;refine ec U (fun _=>Z) H (fun x54 H=>?_);refine go ?_;refine bZ U (rows':=List.map ap ([(LCol.mk x54 x31.1 x31.2.1)]:List LCol)) (iW.refl _) ?_;refine fm U H (fun x60 g60 H=>?_);refine go ?_;exact cJ g60 H hl1 hg1
 refine go ?_;refine fg (γ:=OwnRef) U 65 64 63 (fun s2 g2=>upd (upd (upd (fun _=>.any) 8 (.own 60 g2 (s2.map ap).length)) 3 (.ptr (fq c))) 2 (.list 93 (inA.map ap))) nB (fun s2 g2=>upd (fun _=>none) 60 (some ⟨g2,93,(s2.map ap),true⟩)) g1 H (fun fl2 Hp2 j2 s2 g2 hz2 hl2 x2 fb2 hx2 H hg2=>?_) (fun s2 g2 H=>?_)
 ·refine go ?_;refine aW U (zn j2) (aQ (fun _=>Z) hx2) ?_;refine go ?_;refine aM U fun b15=>?_
  refine go ?_;refine aB call261 (ip.r) (uJ c inA x2) H (fun x73 H=>?_);refine go ?_;refine aI Z H (fun H=>?_) (fun H=>?_)
  ·refine go ?_;obtain rfl:=lvR H hg2 Hp2;exact gH U Z gr
  refine go ?_;refine bZ U (rows':=List.map ap ([(LCol.mk x2.name x73.1 (!(x2.function==([99,111,117,110,116]:Rb))))]:List LCol)) (iW.refl _) ?_;refine fm U H (fun x88 g88 H=>?_);refine go ?_;exact cJ g88 H hl2 hg2
 refine dp 3 U Z (cD 6 Z Z Z ?_);exact fS
def cp(rA:LR)(cols:List LCol)(row:Rq)(e:LExpr):Option (LVal×LR):=
 aa (au (σ:=Rs) (ρ:=Empty) (fun(_:Nat) (x1:LCol) (s1:Rs)=>
  aa (cE 16 s1 ([x1.name]:Rs)) fun(x37:Rs)=>
  some (.next x37)) 0 rA.vars []) fun fl1=>fl1.thenP fun(s1:Rs)=>
 letP (er (LEnv.mk cols row rA.args s1 rA.vals) e) fun x42=>
 some (x42,rA)
theorem jn(b_rA:Nat)(g_rA_7:OwnRef)(g_rA_8:OwnRef)(rA:LR)(cols:List LCol)(row:Rq)(e:LExpr)(r:LVal×LR)(H:cp rA cols row e=some r):
  PH prog 124 [(.box 1500 b_rA 0),(.list 93 (cols.map ap)),(.list 69 (row.map ab)),(.agg (jl e))] ⟨(bR b_rA rA g_rA_7 g_rA_8),(oR rA g_rA_7 g_rA_8)⟩ (fun u H=>∃gz0_7,∃gz0_8,u=(.agg (ab r.1))/\H=⟨(bR b_rA r.2 gz0_7 gz0_8),(oR r.2 gz0_7 gz0_8)⟩):=by
 unfold cp at H;refine PH.ak func124 ntmps124 ?_;refine gB ?_;refine aM U fun b8=>?_
 refine go ?_;refine bK ⟨true,false,[]⟩ [0,1,2,3,4,5,6,7,8,9,10,11,12] ?_;refine go ?_;refine pY Z Z Z Z Z Z Z Z fun b9=>?_
 refine ib Z Z Z Z Z Z Z Z Z Z Z Z (dE (al (al (ah (cC 3 U Z (iQ U ?_))))));refine ic U (zl _) ?_;refine aD U Z (ao (oA U 9 3 37 (e:=9) Z Z Z Z ?_));refine fW (γ:=OwnRef) U 28 27 26 (fun s1 g1=>upd (upd (upd (upd (fun _=>.any) 9 (.box 9 b9 0)) 8 (.box 8 b8 0)) 7 (.ptr (jl e))) 0 (.box 1500 b_rA 0)) (fun s1 g1=>upd (upd (bR b_rA rA g_rA_7 g_rA_8) 9 (some ⟨b9,[(.list 93 (cols.map ap)),(.list 69 (row.map ab)),(.list 69 (rA.args.map ab)),(.own 37 g1 (s1.map nE).length),(.list 69 (rA.vals.map ab))]⟩)) 8 (some ⟨b8,[(ac 0),(ac 0),(.str [])]⟩)) (fun s1 g1=>upd (upd (upd (fun _=>none) 37 (some ⟨g1,9,(s1.map nE),true⟩)) 1608 (some ⟨g_rA_8,64,(rA.results.map dR),true⟩)) 1607 (some ⟨g_rA_7,56,(rA.changes.map bW),true⟩)) (⟨none,0⟩) H (fun fl1 Hp1 j1 s1 g1 hz1 hl1 x1 fb1 hx1 H hg1=>?_) (fun s1 g1 H=>?_)
 ·refine go ?_;refine aW U (zn j1) (aQ (fun _=>Z) hx1) ?_;refine go ?_;refine aM U fun b11=>?_
  refine go ?_;refine bZ U (rows':=List.map nE ([x1.name]:Rs)) (iW.refl _) ?_;refine fm U H (fun x37 g37 H=>?_);refine go ?_;exact cJ g37 H hl1 hg1
 refine al (jZ 9 3 Z Z Z Z Z (go ?_))
 obtain⟨x42,h42,H⟩:=cI H
 have s42:=oB (LEnv.mk cols row rA.args s1 rA.vals) e;rw[h42]at s42;refine ag call165 (ip.r) s42 ?_;refine go ?_;obtain rfl:=ay H;refine cv (st':=⟨43,upd (fun _=>.any) 8 (.box 8 b8 0),upd (bR b_rA rA g_rA_7 g_rA_8) 8 (some ⟨b8,(ab x42)⟩),(oR rA g_rA_7 g_rA_8)⟩) Gh.d ?_;refine xp U Z (ps:=[(.agg (ab x42))]) ⟨_,_,rfl,⟨_,_,_,_,_,rfl,rfl,rfl,rfl⟩,rfl⟩ (PLe.q Z) (HSub.updB Z) ⟨_,_,rfl,rfl⟩
def kt(x:Rq)(c0:LRun)(c1:List LCol)(c2:LQuery):Option (Bool):=
 aa (ax c2.exprs 0) fun(x12:LExpr)=>
 letP (bs c0 c1 x) fun x9=>
 letP (er x9 x12) fun x14=>
 letP (ma x14) fun x15=>
 some (!x15)
theorem vw(x:Rq)(c0:LRun)(c1:List LCol)(c2:LQuery)(r:Bool)(H:kt x c0 c1 c2=some r):
  aC prog 164 [(.list 69 (x.map ab)),(.ptr (eQ c0)),(.ptr [(.list 93 (c1.map ap))]),(.ptr (aH c2))] (az r):=by
 unfold kt at H;refine PH.ak func164 ntmps164 ?_;refine go ?_;refine bK ⟨false,false,[]⟩ [0,1,2,4,5,6,7,3,8,9,10,11] ?_;refine go ?_;refine bl cQ H (fun x12 H=>?_);refine go ?_
 obtain⟨x9,h9,H⟩:=cI H
 have s9:=mS c0 c1 x;rw[h9]at s9;refine bI call166 (ip.r) s9 ?_
 obtain⟨x14,h14,H⟩:=cI H
 have s14:=oB x9 x12;rw[h14]at s14;refine bI call165 (ip.r) s14 ?_
 obtain⟨x15,h15,H⟩:=cI H
 have s15:=isTS x14;rw[h15]at s15;refine bI call125 (ip.r) s15 ?_;exact fS
def eB(rA:LRun)(cols:List LCol)(x:Rq)(l:List LExpr):Option (Rq):=
 aa (au (σ:=Rq) (ρ:=Empty) (fun(_:Nat) (x1:LExpr) (s1:Rq)=>
  letP (bs rA cols x) fun x22=>
  letP (er x22 x1) fun x24=>
  aa (cE 32 s1 ([x24]:Rq)) fun(x26:Rq)=>
  some (.next x26)) 0 l []) fun fl1=>fl1.thenP fun(s1:Rq)=>
 some s1
theorem lU(rA:LRun)(cols:List LCol)(x:Rq)(l:List LExpr)(r:Rq)(H:eB rA cols x l=some r):
  aC prog 167 [(.agg (eQ rA)),(.list 93 (cols.map ap)),(.list 69 (x.map ab)),(.list 71 (l.map eJ))] (.list 69 (r.map ab)):=by
 unfold eB at H;refine PH.ak func167 ntmps167 ?_;refine al (ah (bC ?_));refine aD U Z (ao (dp 1 U Z (al (al (ah (aD U Z (ic U (zl _) ?_)))))));refine aD U Z (ao (iy U 9 26 (e:=69) Z Z ?_));refine fW (γ:=OwnRef) U 14 13 12 (fun s1 g1=>upd (upd (upd (upd (fun _=>.any) 9 (.own 26 g1 (s1.map ab).length)) 4 (.ptr (eQ rA))) 2 (.list 69 (x.map ab))) 1 (.list 93 (cols.map ap))) nB (fun s1 g1=>upd (fun _=>none) 26 (some ⟨g1,69,(s1.map ab),true⟩)) (⟨none,0⟩) H (fun fl1 Hp1 j1 s1 g1 hz1 hl1 x1 fb1 hx1 H hg1=>?_) (fun s1 g1 H=>?_)
 ·refine go ?_;refine aW U (zn j1) (aQ cQ hx1) ?_;refine go ?_;refine aM U fun b11=>?_
  refine go ?_;refine bK ⟨true,false,[19]⟩ [0,1,2,3,5,4,6,7,8,9] ?_;refine go ?_
  obtain⟨x22,h22,H⟩:=cI H
  have s22:=mS rA cols x;rw[h22]at s22;refine bI call166 (ip.r) s22 ?_
  obtain⟨x24,h24,H⟩:=cI H
  have s24:=oB x22 x1;rw[h24]at s24;refine bI call165 (ip.r) s24 ?_;refine go ?_
  obtain⟨x26,h26,H⟩:=aA H
  have k26:=fZ h26;refine hC (rows2':=List.map ab ([x24]:Rq)) (rows':=List.map ab x26) U Z Z Z Z Z Z Z Z Z Z Z Z Z Z (iW.refl _) (jD k26.1) (jC k26.2.1) (jz k26.2.2) fun g26=>?_
  refine go ?_;exact cJ g26 H hl1 hg1
 refine dp 2 U Z (cD 8 Z Z Z ?_);exact fS
def lG(rA:LRun)(a:LA)(cols:List LCol)(l:Rz):Option (LVal):=
 cond ((a.args.length:Int)==(0:Int))
  (letP (kL (l.length:Int)) fun x19=>
  some x19)
  (aa (au (σ:=Rq) (ρ:=Empty) (fun(_:Nat) (x1:Rq) (s1:Rq)=>
   aa (ax a.args 0) fun(x32:LExpr)=>
   letP (bs rA cols x1) fun x29=>
   letP (er x29 x32) fun x34=>
   cond (x34.kind !=(0:Int))
    (aa (cE 32 s1 ([x34]:Rq)) fun(x41:Rq)=>
    some (.next x41))
    (some (.next s1))) 0 l []) fun fl1=>fl1.thenP fun(s1:Rq)=>
  aa (ig a.function s1) fun x46=>
  some x46)
theorem wK(rA:LRun)(a:LA)(cols:List LCol)(l:Rz)(r:LVal)(H:lG rA a cols l=some r):
  aC prog 216 [(.agg (eQ rA)),(.agg (nz a)),(.list 93 (cols.map ap)),(.list 54 (l.map rRr))] (.agg (ab r)):=by
 unfold lG at H;refine PH.ak func216 ntmps216 ?_;refine gB ?_;refine aM U fun b8=>?_
 refine go ?_;refine aI Z H (fun H=>?_) (fun H=>?_)
 ·refine go ?_
  obtain⟨x19,h19,H⟩:=cI H
  have s19:=uj (l.length:Int);rw[h19]at s19;refine ag call232 (ip.r) s19 ?_;refine go ?_;exact wV U H Z Z Z Z Z
 refine aE (dp 1 U Z (al (al (ah (aD U Z (ic U (zl _) ?_))))));refine aD U Z (ao (iy U 9 41 (e:=69) Z Z ?_));refine fW (γ:=OwnRef) U 22 21 20 (fun s1 g1=>upd (upd (upd (upd (upd (fun _=>.any) 9 (.own 41 g1 (s1.map ab).length)) 8 (.box 8 b8 0)) 5 (.ptr (nz a))) 4 (.ptr (eQ rA))) 2 (.list 93 (cols.map ap))) (fun s1 g1=>upd (fun _=>none) 8 (some ⟨b8,[(ac 0),(ac 0),(.str [])]⟩)) (fun s1 g1=>upd (fun _=>none) 41 (some ⟨g1,69,(s1.map ab),true⟩)) (⟨none,0⟩) H (fun fl1 Hp1 j1 s1 g1 hz1 hl1 x1 fb1 hx1 H hg1=>?_) (fun s1 g1 H=>?_)
 ·refine go ?_;refine aW U (zn j1) (aQ (fun _=>Z) hx1) ?_;refine go ?_;refine bK ⟨false,false,[]⟩ [0,1,2,4,5,6,7,3,8,9,10] ?_;refine go ?_;refine bl cQ H (fun x32 H=>?_);refine go ?_
  obtain⟨x29,h29,H⟩:=cI H
  have s29:=mS rA cols x1;rw[h29]at s29;refine bI call166 (ip.r) s29 ?_
  obtain⟨x34,h34,H⟩:=cI H
  have s34:=oB x29 x32;rw[h34]at s34;refine bI call165 (ip.r) s34 ?_;refine pY Z Z Z Z Z Z Z Z fun b12=>?_
  refine ib Z Z Z Z Z Z Z Z Z Z Z Z (go ?_);refine aI Z H (fun H=>?_) (fun H=>?_)
  ·refine go ?_;refine bZ U (rows':=List.map ab ([x34]:Rq)) (iW.refl _) ?_;refine fm U H (fun x41 g41 H=>?_);refine go ?_;exact cJ g41 H hl1 hg1
  refine go ?_;exact cJ g1 H hl1 hg1
 refine al (cD 9 Z Z Z (go ?_));refine aB call244 (ip.r) (rp a.function s1) H (fun x46 H=>?_);refine go ?_;exact wV U H Z Z Z Z Z
def dF(x:Rz)(cmp:Rq->Rq->Option (Int)):Option (Rz):=
 aa (fo x (x.length:Int) cmp) fun x8=>
 aa (fF (x8.length=x.length) ()) fun(_:Unit)=>
 some x8
theorem mp(g_x:OwnRef){g_cmp:FuncId}{caps_cmp:List PV}(x:Rz)(cmp:Rq->Rq->Option (Int))(hg_cmp:∀(vs:Array Value) (w:World),(callFunc g_cmp vs).run prog w= .ok (.enter g_cmp vs) w)(hp_cmp:∀a0 a1 r,cmp a0 a1=some r->aC prog g_cmp ((.list 69 (a0.map ab))::(.list 69 (a1.map ab))::caps_cmp) (ac r))(r:Rz)(H:dF x cmp=some r):
  PH prog 217 [(.own 0 g_x (x.map rRr).length),(.fn g_cmp caps_cmp)] ⟨fun _=>none,upd (fun _=>none) 0 (some ⟨g_x,54,(x.map rRr),true⟩)⟩ (fun u H=>u=(.tup [])/\H=⟨fun _=>none,upd (fun _=>none) 0 (some ⟨g_x,54,(r.map rRr),true⟩)⟩):=by
 unfold dF at H;refine PH.ak func217 ntmps217 ?_;refine ah (cC 2 U Z (eO U (zl _) ?_));refine go ?_
 obtain⟨x8,h8,H⟩:=aA H
 have s8:=oP g_x x (x.length:Int) cmp hg_cmp hp_cmp _ h8
 obtain⟨_,q8_0,H⟩:=aA H
 have l8_0:=(dK q8_0).1;have z8_0:(List.map rRr x).length=(List.map rRr x8).length:=by simpa using(l8_0).symm
 refine gU call245 [] [(0,0)] s8 ?_;rintro u8 H8h ⟨rfl,rfl⟩
 refine⟨_,rfl,?_⟩
 refine eA (fun _=>none) (upd (fun _=>none) 0 (some ⟨g_x,54,(x8.map rRr),true⟩)) ?_;refine ao ?_;obtain rfl:=ay H;refine cv (st':=⟨9,fun _=>.any,fun _=>none,upd (fun _=>none) 0 (some ⟨g_x,54,(x8.map rRr),true⟩)⟩) Gh.d ?_;refine mW Z (PLe.q Z) ⟨rfl,rfl⟩
def gQ(t:LTable)(rows:Rz)(key:Rq):Option (Int×Bool×Rz):=
 aa (oO (rows.length:Int)) fun(n1:Nat)=>
 aa (au (σ:=Rz) (ρ:=(Int×Bool×Rz)) (fun(j1:Nat) (_:Nat) (s1:Rz)=>
  aa (ax s1 (j1:Int)) fun(x16:Rq)=>
  aa (cu t x16) fun x20=>
  aa (bM x20 key) fun x22=>
  cond (decide (x22>=(0:Int)))
   (some (.ret ((j1:Int),(x22==(0:Int)),s1)))
   (some (.next s1))) 0 (List.range n1) rows) fun fl1=>fl1.thenR fun(s1:Rz)=>
 some ((s1.length:Int),false,s1)
theorem qJ(g_rows:OwnRef)(t:LTable)(rows:Rz)(key:Rq)(r:Int×Bool×Rz)(H:gQ t rows key=some r):
  PH prog 86 [(.agg (bq t)),(.own 1 g_rows (rows.map rRr).length),(.list 69 (key.map ab))] ⟨fun _=>none,upd (fun _=>none) 1 (some ⟨g_rows,54,(rows.map rRr),true⟩)⟩ (fun u H=>u=(.tup [(ac r.1),(az r.2.1)])/\H=⟨fun _=>none,upd (fun _=>none) 1 (some ⟨g_rows,54,(r.2.2.map rRr),true⟩)⟩):=by
 unfold gQ at H;refine PH.ak func86 ntmps86 ?_;refine al (ah (bC ?_));refine cC 2 U Z (ao (al (al (ah (aD U Z (eO U (zl _) ?_))))));refine go ?_
 obtain⟨n1,hs1,H⟩:=aA H
 have hz1:=nR hs1
 obtain⟨fl1,H1,Hp1⟩:=aA H
 refine fK (τ:=Rz) (γ:=Unit) (fun s1 g1=>⟨31,upd (fun _=>.any) 1 (.own 1 g_rows (s1.map rRr).length),fun _=>none,upd (fun _=>none) 1 (some ⟨g_rows,54,(s1.map rRr),true⟩)⟩) (fun t=>fl1= .next t) ?_ (fun s1 g1 hn1=>?_)
 ·refine aG ?_;refine jw (fun j1 s1 g1=>⟨31,upd (upd (upd (upd (upd (upd (fun _=>.any) 13 (ac (j1:Int))) 12 (ac (rows.length:Int))) 11 (.own 1 g_rows (s1.map rRr).length)) 3 (.ptr (bq t))) 2 (.list 69 (key.map ab))) 1 (.own 1 g_rows (s1.map rRr).length),fun _=>none,upd (fun _=>none) 1 (some ⟨g_rows,54,(s1.map rRr),true⟩)⟩) () H1 Gh.d (fun j1 s1 g1 hj1 hr1=>?_);refine go ?_;refine aY Z (fun h=>?_) (fun h=>?_)
  ·have hl1:=natLt hz1 h
   obtain⟨x1,fb1,hx1,H,hg1⟩:=rMc hl1 hr1
   obtain rfl:=natX hx1;refine go ?_
   obtain⟨x16,k16,H⟩:=eC H
   refine lz (tag:=1) Z (fun ho1=>?_);refine jT U ⟨k16.1,(dz k16.2)⟩ (dv ho1 k16.2) ?_;refine oj U Z Z Z Z Z Z Z (dJ (fun _=>Z) k16.2) Z Z ?_;refine go ?_;refine aB call80 (ip.r) (nu t x16) H (fun x20 H=>?_);refine go ?_;refine aB call79 (ip.r) (pC x20 key) H (fun x22 H=>?_);refine go ?_;refine aI Z H (fun H=>?_) (fun H=>?_)
   ·refine go ?_;obtain rfl:=lvR H hg1 Hp1;refine cv (st':=⟨31,upd (upd (fun _=>.any) 7 (az (x22==(0:Int)))) 6 (ac (j1:Int)),fun _=>none,upd (fun _=>none) 1 (some ⟨g_rows,54,(s1.map rRr),true⟩)⟩) Gh.d ?_;exact hO U Z ⟨rfl,rfl⟩
   refine go ?_;exact cJ () H hl1 hg1 (Gh.le (aq (aq (aq (aq (aq (bh (PLe.q (pu hz1 hl1)) bm)))))) aV (bJ aU))
  have hn1:=rMd (natGe hz1 h) hr1;refine bd Z ?_;refine fc s1 g1 hn1 Gh.d
 have H:=mn hn1 Hp1;refine al (ah (aD U Z (eO U (zl _) ?_)));refine go ?_;obtain rfl:=ay H;refine cv (st':=⟨31,upd (upd (fun _=>.any) 7 (az false)) 6 (ac (s1.length:Int)),fun _=>none,upd (fun _=>none) 1 (some ⟨g_rows,54,(s1.map rRr),true⟩)⟩) Gh.d ?_;exact hO U Z ⟨rfl,rfl⟩
def gS(sA:LSchema):Option (Int):=
 letP (
  cond (decide ((sA.tables.length:Int)>(6:Int)))
   (true)
   (cond (decide ((sA.foreignKeys.length:Int)>(8:Int)))
    (true)
    ((decide ((sA.constraints.length:Int)>(8:Int)))))) fun(t1:Bool)=>
 cond t1
  (some 2)
  (aa (au (σ:=Unit) (ρ:=(Int)) (fun(j2:Nat) (x2:LTable) (_:Unit)=>
   aa (gL x2) fun x37=>
   cond (x37 !=(0:Int))
    (some (.ret x37))
    (cond (decide ((j2:Int)>(0:Int)))
     (aa (ax sA.tables (Iw ((j2:Int)-(1:Int)))) fun(x50:LTable)=>
     cond (Op.bytesLess x2.name x50.name||x2.name==x50.name)
      (some (.ret 6))
      (some (.next ())))
     (some (.next ())))) 0 sA.tables ()) fun fl2=>fl2.thenR fun(_:Unit)=>
  aa (au (σ:=Unit) (ρ:=(Int)) (fun(j3:Nat) (x3:LF) (_:Unit)=>
   aa (gc sA x3) fun x66=>
   cond (x66 !=(0:Int))
    (some (.ret x66))
    (aa (oq sA.foreignKeys 0 (j3:Int)) fun(x73:List LF)=>
    aa (cj x73 (fun a0=>iI a0 x3)) fun x75=>
    cond x75
     (some (.ret 5))
     (some (.next ())))) 0 sA.foreignKeys ()) fun fl3=>fl3.thenR fun(_:Unit)=>
  aa (au (σ:=Unit) (ρ:=(Int)) (fun(j4:Nat) (x4:LK) (_:Unit)=>
   aa (gd sA x4) fun x87=>
   cond (x87 !=(0:Int))
    (some (.ret x87))
    (aa (oq sA.constraints 0 (j4:Int)) fun(x94:List LK)=>
    aa (cw x94 x4) fun x96=>
    cond x96
     (some (.ret 5))
     (some (.next ())))) 0 sA.constraints ()) fun fl4=>fl4.thenR fun(_:Unit)=>
  some 0)
theorem qK(sA:LSchema)(r:Int)(H:gS sA=some r):
  aC prog 37 [(.agg (cf sA))] (ac r):=by
 unfold gS at H;refine PH.ak func37 ntmps37 ?_;refine al (ah (bC ?_));refine aD U Z (ao (al (al ?_)));refine fP (γ:=Unit) (fun t1 g1=>⟨98,upd (upd (fun _=>.any) 27 (az t1)) 1 (.ptr (cf sA)),fun _=>none,fun _=>none⟩) H (fun _ H=>?_) (fun t1 g1 H=>?_)
 ·refine go ?_;refine aN Z Z Z H (fun H=>?_) (fun H=>?_)
  ·exact fA
  refine go ?_;refine aN Z Z Z H (fun H=>?_) (fun H=>?_)
  ·exact fA
  exact fA
 refine bG Z H ay (fun H=>?_);refine go ?_;refine fg U 31 30 29 (fun s2 g2=>upd (fun _=>.any) 1 (.ptr (cf sA))) nB nO () H (fun fl2 Hp2 j2 s2 g2 hz2 hl2 x2 fb2 hx2 H hg2=>?_) (fun s2 g2 H=>?_)
 ·refine go ?_;refine aW U (zn j2) (aQ (fun _=>Z) hx2) ?_;refine go ?_;refine aM U fun b4=>?_
  refine go ?_;refine aB call71 (ip.r) (sN x2) H (fun x37 H=>?_);refine go ?_;refine bG Z H (fun H=>lvR H hg2 Hp2) (fun H=>?_);refine go ?_;refine bK ⟨true,false,[47,52]⟩ [0,1,2,3,4,5,6,7,8,9,10,11,12,13] ?_;refine go ?_;refine nh H (fun H=>?_) (fun H=>?_)
  ·refine go ?_;refine bl (fun _=>Z) H (fun x50 H=>?_);refine go ?_;refine bG Z H (fun H=>lvR H hg2 Hp2) (fun H=>?_);exact fN
  refine go ?_;refine bj Z ?_;exact fN
 refine go ?_;refine fg U 59 58 57 (fun s3 g3=>upd (fun _=>.any) 1 (.ptr (cf sA))) nB nO () H (fun fl3 Hp3 j3 s3 g3 hz3 hl3 x3 fb3 hx3 H hg3=>?_) (fun s3 g3 H=>?_)
 ·refine go ?_;refine aW U (zn j3) (aQ (fun _=>Z) hx3) ?_;refine go ?_;refine aM U fun b7=>?_
  refine go ?_;refine aB call72 (ip.r) (qj sA x3) H (fun x66 H=>?_);refine go ?_;refine bG Z H (fun H=>lvR H hg3 Hp3) (fun H=>?_);refine go ?_
  obtain⟨x73,h73,H⟩:=aA H
  have k73:=oH h73;refine wP U Z Z Z Z Z (zl _) Z Z k73.1 (pT k73.2) Z (iT (Gh.freezeB 7 Z Z Z Z) (go ?_));refine aB call73 (ip.r) (kE x73 (fun a0=>iI a0 x3) call74 (fun a0 r h=>uG a0 x3 r h)) H (fun x75 H=>?_);refine ao ?_;refine bG Z H (fun H=>lvR H hg3 Hp3) (fun H=>?_);exact fN
 refine go ?_;refine fg U 80 79 78 (fun s4 g4=>upd (fun _=>.any) 1 (.ptr (cf sA))) nB nO () H (fun fl4 Hp4 j4 s4 g4 hz4 hl4 x4 fb4 hx4 H hg4=>?_) (fun s4 g4 H=>?_)
 ·refine go ?_;refine aW U (zn j4) (aQ (fun _=>Z) hx4) ?_;refine go ?_;refine aM U fun b10=>?_
  refine go ?_;refine aB call76 (ip.r) (qi sA x4) H (fun x87 H=>?_);refine go ?_;refine bG Z H (fun H=>lvR H hg4 Hp4) (fun H=>?_);refine go ?_;refine bK ⟨true,false,[92]⟩ [0,1,2,3,4,5] ?_;refine go ?_
  obtain⟨x94,h94,H⟩:=aA H
  have k94:=oH h94;refine wS Z Z Z Z Z Z (zl _) Z Z k94.1 (pT k94.2) Z (go ?_);refine bU call77 (ip.r) (kW x94 x4) H (fun x96 H=>?_);refine dE ?_;refine bG Z H (fun H=>lvR H hg4 Hp4) (fun H=>?_);exact fN
 exact fS
def jP(c:LChecker)(q:LQuery)(inA:List (List LCol)):Option ((List LCol)×Int):=
 cond (q.kind==(1:Int))
  (aa (ck c.s.tables (fun a0=>some (fV a0 q))) fun x25=>
  cond (decide (x25<(0:Int)))
   (some ([],4))
   (aa (ax c.s.tables x25) fun(x32:LTable)=>
   some (x32.columns,0)))
  (cond (q.kind==(2:Int))
   (aa (ax inA 0) fun(x39:List LCol)=>
   aa (ax inA 0) fun(x43:List LCol)=>
   aa (ax q.exprs 0) fun(x47:LExpr)=>
   letP (eG c x43 x47) fun x49=>
   some (x39,x49))
   (letP (
    cond (q.kind==(4:Int))
     ((q.kind==(4:Int)))
     ((q.kind==(5:Int)))) fun(t1:Bool)=>
   cond t1
    (aa (ax inA 0) fun(x54:List LCol)=>
    aa (ax inA 1) fun(x58:List LCol)=>
    aa (au (σ:=List LCol) (ρ:=Empty) (fun(_:Nat) (x2:LCol) (s2:List LCol)=>
     cond x2.nullable
      (aa (cE 32 s2 ([(LCol.mk x2.name x2.kind true)]:List LCol)) fun(x76:List LCol)=>
      some (.next x76))
      (aa (cE 32 s2 ([(LCol.mk x2.name x2.kind (q.kind==(5:Int)))]:List LCol)) fun(x76:List LCol)=>
      some (.next x76))) 0 x58 x54) fun fl2=>fl2.thenP fun(s2:List LCol)=>
    aa (ax q.exprs 0) fun(x83:LExpr)=>
    letP (eG c s2 x83) fun x85=>
    some (s2,x85))
    (letP (
     cond (q.kind==(6:Int))
      ((q.kind==(6:Int)))
      ((q.kind==(7:Int)))) fun(t3:Bool)=>
    cond t3
     (aa (ax inA 0) fun(x92:List LCol)=>
     aa (ax inA 1) fun(x95:List LCol)=>
     aa (km q.kind x92 x95) fun x97=>
     some (x97.1,x97.2))
     (letP (
      cond (q.kind==(3:Int))
       ((q.kind==(3:Int)))
       ((q.kind==(8:Int)))) fun(t4:Bool)=>
     cond t4
      (aa (ax inA 0) fun(x106:List LCol)=>
      aa (fT c q x106) fun x108=>
      some (x108.1,x108.2))
      (cond (q.kind==(9:Int))
       (aa (au (σ:=Unit) (ρ:=((List LCol)×Int)) (fun(_:Nat) (x5:LExpr) (_:Unit)=>
        aa (ax inA 0) fun(x122:List LCol)=>
        letP (fI x122 c.vars x5) fun x127=>
        cond (x127.2.2 !=(0:Int))
         (some (.ret ([],x127.2.2)))
         (some (.next ()))) 0 q.exprs ()) fun fl5=>fl5.thenR fun(_:Unit)=>
       aa (ax inA 0) fun(x136:List LCol)=>
       some (x136,0))
       (aa (ax inA 0) fun(x136:List LCol)=>
       some (x136,0)))))))
theorem uK(c:LChecker)(q:LQuery)(inA:List (List LCol))(r:(List LCol)×Int)(H:jP c q inA=some r):
  aC prog 207 [(.agg (fq c)),(.agg (aH q)),(.list 61 (inA.map (ae 93 ap)))] (.tup [(.list 93 (r.1.map ap)),(ac r.2)]):=by
 unfold jP at H;refine PH.ak func207 ntmps207 ?_;refine gB ?_;refine aI Z H (fun H=>?_) (fun H=>?_)
 ·refine go ?_;refine aB call55 (ip.r) (eM c.s.tables (fun a0=>some (fV a0 q)) call234 (fun a0 r h=>(ay h)▸tq a0 q)) H (fun x25 H=>?_);refine go ?_;refine aI Z H (fun H=>?_) (fun H=>?_)
  ·refine go ?_;obtain rfl:=ay H;exact gH U Z gr
  refine go ?_;refine ec U (fun _=>Z) H (fun x32 H=>?_);refine cC 2 U Z ?_;have s35:=oE (m:=35) x32.columns;refine ag call176 (ip.r) (PFun.gN s35) ?_;exact fS
 refine go ?_;refine aI Z H (fun H=>?_) (fun H=>?_)
 ·refine al (bK ⟨false,false,[]⟩ [0,1,2,3,4,5,6,7,8,9,10,11,12,13] ?_);refine go ?_;refine bl (fun _=>Z) H (fun x39 H=>?_);refine go ?_;refine bl (fun _=>Z) H (fun x43 H=>?_);refine go ?_;refine bl cQ H (fun x47 H=>?_);refine go ?_
  obtain⟨x49,h49,H⟩:=cI H
  have s49:=mU c x43 x47;rw[h49]at s49;refine bI call235 (ip.r) s49 ?_;exact fS
 refine go ?_;refine fP (γ:=Unit) (fun t1 g1=>⟨138,upd (upd (upd (upd (upd (fun _=>.any) 50 (az t1)) 18 (ac q.kind)) 4 (.ptr (aH q))) 3 (.ptr (fq c))) 2 (.list 61 (inA.map (ae 93 ap))),fun _=>none,fun _=>none⟩) H (fun _ H=>?_) (fun t1 g1 H=>?_)
 ·refine aI Z H (fun H=>?_) (fun H=>?_)
  ·refine aE ?_;exact fA
  exact fA
 refine aI Z H (fun H=>?_) (fun H=>?_)
 ·refine go ?_;refine ec U (fun _=>Z) H (fun x54 H=>?_);refine aD U Z ?_;have s56:=oE (m:=56) x54;refine iH call176 (ip.r) s56 (fun g56=>?_);refine go ?_;refine ec U (fun _=>Z) H (fun x58 H=>?_);refine go ?_;refine fW (γ:=OwnRef) U 61 60 59 (fun s2 g2=>upd (upd (upd (fun _=>.any) 9 (.own 56 g2 (s2.map ap).length)) 4 (.ptr (aH q))) 3 (.ptr (fq c))) nB (fun s2 g2=>upd (fun _=>none) 56 (some ⟨g2,93,(s2.map ap),true⟩)) g56 H (fun fl2 Hp2 j2 s2 g2 hz2 hl2 x2 fb2 hx2 H hg2=>?_) (fun s2 g2 H=>?_)
  ·refine go ?_;refine aW U (zn j2) (aQ (fun _=>Z) hx2) ?_;refine go ?_;refine aM U fun b11=>?_
   refine go ?_;refine aN Z Z Z H (fun H=>?_) (fun H=>?_)
   ·refine go ?_;refine bZ U (rows':=List.map ap ([(LCol.mk x2.name x2.kind true)]:List LCol)) (iW.refl _) ?_;refine fm U H (fun x76 g76 H=>?_);refine go ?_;exact cJ g76 H hl2 hg2
   refine go ?_;refine bZ U (rows':=List.map ap ([(LCol.mk x2.name x2.kind (q.kind==(5:Int)))]:List LCol)) (iW.refl _) ?_;refine fm U H (fun x76 g76 H=>?_);refine go ?_;exact cJ g76 H hl2 hg2
  refine al (cD 9 Z Z Z (bK ⟨false,false,[]⟩ [0,1,2,3,4,5,6,7,8,9] ?_));refine go ?_;refine bl cQ H (fun x83 H=>?_);refine go ?_
  obtain⟨x85,h85,H⟩:=cI H
  have s85:=mU c s2 x83;rw[h85]at s85;refine bI call235 (ip.r) s85 ?_;exact fS
 refine go ?_;refine fP (γ:=Unit) (fun t3 g3=>⟨138,upd (upd (upd (upd (upd (fun _=>.any) 86 (az t3)) 18 (ac q.kind)) 4 (.ptr (aH q))) 3 (.ptr (fq c))) 2 (.list 61 (inA.map (ae 93 ap))),fun _=>none,fun _=>none⟩) H (fun _ H=>?_) (fun t3 g3 H=>?_)
 ·refine aI Z H (fun H=>?_) (fun H=>?_)
  ·refine aE ?_;exact fA
  exact fA
 refine aI Z H (fun H=>?_) (fun H=>?_)
 ·refine al (bK ⟨false,false,[]⟩ [0,1,2,3,4,5,6,7,8,9,10,11,12] ?_);refine go ?_;refine bl (fun _=>Z) H (fun x92 H=>?_);refine go ?_;refine bl (fun _=>Z) H (fun x95 H=>?_);refine go ?_;refine bU call236 (ip.r) (uM q.kind x92 x95) H (fun x97 H=>?_);exact fS
 refine go ?_;refine fP (γ:=Unit) (fun t4 g4=>⟨138,upd (upd (upd (upd (upd (fun _=>.any) 100 (az t4)) 18 (ac q.kind)) 4 (.ptr (aH q))) 3 (.ptr (fq c))) 2 (.list 61 (inA.map (ae 93 ap))),fun _=>none,fun _=>none⟩) H (fun _ H=>?_) (fun t4 g4 H=>?_)
 ·refine aI Z H (fun H=>?_) (fun H=>?_)
  ·refine aE ?_;exact fA
  exact fA
 refine aI Z H (fun H=>?_) (fun H=>?_)
 ·refine al (bK ⟨false,false,[]⟩ [0,1,2,3,4,5,6,7,8,9] ?_);refine go ?_;refine bl (fun _=>Z) H (fun x106 H=>?_);refine go ?_;refine bU call237 (ip.r) (pN c q x106) H (fun x108 H=>?_);exact fS
 refine go ?_;refine aI Z H (fun H=>?_) (fun H=>?_)
 ·refine go ?_;refine fg U 116 115 114 (fun s5 g5=>upd (upd (fun _=>.any) 3 (.ptr (fq c))) 2 (.list 61 (inA.map (ae 93 ap)))) nB nO () H (fun fl5 Hp5 j5 s5 g5 hz5 hl5 x5 fb5 hx5 H hg5=>?_) (fun s5 g5 H=>?_)
  ·refine go ?_;refine aW U (zn j5) (aQ cQ hx5) ?_;refine go ?_;refine aM U fun b13=>?_
   refine go ?_;refine bK ⟨true,false,[123,125]⟩ [0,1,2,3,4,5,6,7,8,9,10,11,12,13] ?_;refine go ?_;refine bl (fun _=>Z) H (fun x122 H=>?_);refine go ?_
   obtain⟨x127,h127,H⟩:=cI H
   have s127:=mL x122 c.vars x5;rw[h127]at s127;refine bI call122 (ip.r) s127 ?_;refine go ?_;refine aI Z H (fun H=>?_) (fun H=>?_)
   ·refine go ?_;obtain rfl:=lvR H hg5 Hp5;exact gH U Z gr
   exact fN
  refine go ?_;refine ec U (fun _=>Z) H (fun x136 H=>?_);exact fS
 refine go ?_;refine ec U (fun _=>Z) H (fun x136 H=>?_);exact fS
def gZ(c:LC)(vars:List LCol)(sA:LS):Option (Int):=
 aa (jh c sA.table) fun x21=>
 cond (!x21.2)
  (some 4)
  (aa (
   cond (sA.kind !=(4:Int))
    (aa (ax sA.whereF 0) fun(x35:LExpr)=>
    aa (eD c x21.1.columns vars x35) fun x37=>
    cond (x37 !=(0:Int))
     (some (.ret x37))
     (some (.next ())))
    (some (.next ()))) fun(fl1:Flow (Unit) (Int))=>fl1.thenR fun _=>
  letP (
   cond (sA.kind==(4:Int))
    (((sA.exprs.length:Int) !=(x21.1.columns.length:Int)))
    (false)) fun(t2:Bool)=>
  cond t2
   (some 3)
   (aa (au (σ:=Unit) (ρ:=(Int)) (fun(j3:Nat) (x3:LExpr) (_:Unit)=>
    aa (
     cond (sA.kind==(5:Int))
      (aa (bf x21.1.columns (fun a0=>eV a0 sA (j3:Int))) fun x68=>
      cond (decide (x68<(0:Int)))
       (some (.ret 23))
       (aa (oq sA.names 0 (j3:Int)) fun(x76:Rs)=>
       aa (ax sA.names (j3:Int)) fun(x80:Rb)=>
       aa (cy x76 x80) fun x82=>
       cond x82
        (some (.ret 9))
        (aa (ew x21.1.primaryKey x68) fun x87=>
        cond x87
         (some (.ret 9))
         (some (.next (x68,x21.1.columns))))))
      (some (.next ((j3:Int),[])))) fun(fl5:Flow (Int×List LCol) (Int))=>fl5.thenF fun t5=>
    aa (et c t5.2 vars x3) fun x94=>
    cond (x94.2.2 !=(0:Int))
     (some (.ret x94.2.2))
     (cond (x94.1 !=(0:Int))
      (aa (ax x21.1.columns t5.1) fun(x108:LCol)=>
      cond (x94.1 !=x108.kind)
       (some (.ret 7))
       (some (.next ())))
      (some (.next ())))) 0 sA.exprs ()) fun fl3=>fl3.thenR fun(_:Unit)=>
   some 0))
theorem qQ(c:LC)(vars:List LCol)(sA:LS)(r:Int)(H:gZ c vars sA=some r):
  aC prog 121 [(.agg (ba c)),(.list 93 (vars.map ap)),(.agg (am sA))] (ac r):=by
 unfold gZ at H;refine PH.ak func121 ntmps121 ?_;refine gB ?_;refine aB call178 (ip.r) (qM c sA.table) H (fun x21 H=>?_);refine go ?_;refine aM U fun b7=>?_
 refine go ?_;refine bG Z H ay (fun H=>?_);refine go ?_;refine V.cutR (γ:=Unit) (fun t1 g1=>⟨114,upd (upd (upd (upd (fun _=>.any) 7 (.box 7 b7 0)) 5 (.ptr (am sA))) 3 (.ptr (ba c))) 1 (.list 93 (vars.map ap)),upd (fun _=>none) 7 (some ⟨b7,(bq x21.1)⟩),fun _=>none⟩) H (fun _ H Hp1=>?_) (fun t1 g1 H=>?_)
 ·refine aI Z H (fun H=>?_) (fun H=>?_)
  ·refine al (bK ⟨true,false,[29,34,36]⟩ [0,1,2,3,4,5,6,7,8,9] ?_);refine go ?_;refine bl cQ H (fun x35 H=>?_);refine go ?_;refine bU call119 (ip.r) (lR c x21.1.columns vars x35) H (fun x37 H=>?_);refine go ?_;refine bG Z H (fun H=>lvJ H Hp1) (fun H=>?_);refine aE ?_;refine fc _ () (ay H).symm Gh.d
  refine aE ?_;refine fc _ () (ay H).symm Gh.d
 refine al (al ?_);refine fP (γ:=Unit) (fun t2 g2=>⟨114,upd (upd (upd (upd (upd (fun _=>.any) 52 (az t2)) 7 (.box 7 b7 0)) 5 (.ptr (am sA))) 3 (.ptr (ba c))) 1 (.list 93 (vars.map ap)),upd (fun _=>none) 7 (some ⟨b7,(bq x21.1)⟩),fun _=>none⟩) H (fun _ H=>?_) (fun t2 g2 H=>?_)
 ·refine go ?_;refine aN Z Z Z H (fun H=>?_) (fun H=>?_)
  ·exact fA
  exact fA
 refine bG Z H ay (fun H=>?_);refine go ?_
 obtain⟨fl3,H3,Hp3⟩:=aA H
 refine jc U 54 Z Z (fun hz3 _=>?_);rw[zl]at hz3;refine fK (τ:=Unit) (γ:=Unit) (fun s3 g3=>⟨114,upd (upd (upd (fun _=>.any) 5 (.ptr (am sA))) 3 (.ptr (ba c))) 1 (.list 93 (vars.map ap)),fun _=>none,fun _=>none⟩) (fun t=>fl3= .next t) ?_ (fun s3 g3 hn3=>?_)
 ·refine aG ?_;refine jw (fun j3 s3 g3=>⟨114,upd (upd (upd (upd (upd (upd (upd (fun _=>.any) 56 (ac (j3:Int))) 55 (ac (sA.exprs.length:Int))) 54 (.list 71 (sA.exprs.map eJ))) 7 (.box 7 b7 0)) 5 (.ptr (am sA))) 3 (.ptr (ba c))) 1 (.list 93 (vars.map ap)),upd (fun _=>none) 7 (some ⟨b7,(bq x21.1)⟩),fun _=>none⟩) () H3 Gh.d (fun j3 s3 g3 hj3 hr3=>?_);refine go ?_;refine aY Z (fun h=>?_) (fun h=>?_)
  ·have hl3:=qk h
   obtain⟨x3,fb3,hx3,H,hg3⟩:=rMc hl3 hr3
   refine go ?_;refine aW U (zn j3) (aQ cQ hx3) ?_;refine go ?_;refine aM U fun b10=>?_
   refine aM U fun b11=>?_
   refine go ?_;refine V.cutF (γ:=Unit) (fun t5 g5=>⟨114,upd (upd (upd (upd (upd (upd (upd (upd (upd (upd (fun _=>.any) 56 (ac (j3:Int))) 55 (ac (sA.exprs.length:Int))) 54 (.list 71 (sA.exprs.map eJ))) 13 (.list 93 (t5.2.map ap))) 12 (ac t5.1)) 11 (.box 11 b11 0)) 7 (.box 7 b7 0)) 5 (.ptr (am sA))) 3 (.ptr (ba c))) 1 (.list 93 (vars.map ap)),upd (upd (fun _=>none) 11 (some ⟨b11,(jl x3)⟩)) 7 (some ⟨b7,(bq x21.1)⟩),fun _=>none⟩) H (fun _ H Hp5=>?_) (fun t5 g5 H=>?_)
   ·refine aI Z H (fun H=>?_) (fun H=>?_)
    ·refine al (kJ 10 ?_);refine bK ⟨true,false,[]⟩ [0,1,2,4,5,3,6,7] ?_;refine go ?_;refine bU call170 (ip.r) (dy x21.1.columns (fun a0=>eV a0 sA (j3:Int)) call179 (fun a0 r h=>qn a0 sA (j3:Int) r h)) H (fun x68 H=>?_);refine go ?_;refine bG Z H (fun H=>lvR (lvK H Hp5) hg3 Hp3) (fun H=>?_);refine go ?_;refine bK ⟨true,false,[74,75,78,79,81]⟩ [0,1,2,3,4,5,6,7,8,9,10,11,12,13,14,15] ?_;refine go ?_
     obtain⟨x76,h76,H⟩:=aA H
     have k76:=oH h76;refine wS Z Z Z Z Z Z (zl _) Z Z k76.1 (pT k76.2) Z (go ?_);refine bl (fun _=>Z) H (fun x80 H=>?_);refine go ?_;refine bU call31 (ip.r) (lj x76 x80) H (fun x82 H=>?_);refine go ?_;refine nh H (fun H=>?_) (fun H=>?_)
     ·refine go ?_;refine bO Z ?_;exact fE (lvR (lvK H Hp5) hg3 Hp3)
     refine go ?_;refine bU call115 (ip.r) (kA x21.1.primaryKey x68) H (fun x87 H=>?_);refine go ?_;refine bG Z H (fun H=>lvR (lvK H Hp5) hg3 Hp3) (fun H=>?_);refine aE ?_;refine fc _ () (ay H).symm Gh.d
    refine aE ?_;refine fc _ () (ay H).symm (Gh.le (aq (aq (aq (aq (aq (aq (bh (PLe.of2 (PLe2.nil U Z)) (aq (aq (aq bm)))))))))) (aZ Z (ip.r) (aZ Z (ip.r) aV)) aU)
   refine go ?_;refine aB call116 (ip.r) (kB c t5.2 vars x3) H (fun x94 H=>?_);refine go ?_;refine bG Z H (fun H=>lvR H hg3 Hp3) (fun H=>?_);refine go ?_;refine aN Z Z Z H (fun H=>?_) (fun H=>?_)
   ·refine go ?_;refine ec U (fun _=>Z) H (fun x108 H=>?_);refine go ?_;refine bG Z H (fun H=>lvR H hg3 Hp3) (fun H=>?_);exact fN
   refine go ?_;refine bj Z ?_;exact fN
  have hn3:=rMd (qp h) hr3;refine bd Z ?_;refine fc s3 g3 hn3 Gh.d
 have H:=mn hn3 Hp3;exact fS
def kH(rA:LRun)(q:LQuery)(cols:List LCol)(inA:Rz):Option (Rz):=
 letP (
  cond ((q.exprs.length:Int)==(0:Int))
   (([[]],[[]]))
   (([],[]))) fun(t1:Rz×List Rz)=>
 aa (au (σ:=Rz×List Rz) (ρ:=Empty) (fun(_:Nat) (x2:Rq) (s2:Rz×List Rz)=>
  aa (eB rA cols x2 q.exprs) fun x38=>
  aa (bH s2.1 (fun a0=>iL a0 x38)) fun x41=>
  aa (fF (x41.2.length=s2.1.length) ()) fun(_:Unit)=>
  aa (
   cond (decide (x41.1<(0:Int)))
    (aa (cE 24 x41.2 ([x38]:Rz)) fun(x49:Rz)=>
    aa (cE 24 s2.2 ([[]]:List Rz)) fun(x52:List Rz)=>
    some (x49,x52,(x41.2.length:Int)))
    (some (x41.2,s2.2,x41.1))) fun(t7:Rz×List Rz×Int)=>
  aa (ax t7.2.1 t7.2.2) fun(x57:Rz)=>
  aa (cE 24 x57 ([x2]:Rz)) fun(x61:Rz)=>
  aa (ax t7.2.1 t7.2.2) fun(_:Rz)=>
  letP (t7.2.1.set t7.2.2.toNat x61) fun(y8:List Rz)=>
  some (.next (t7.1,y8))) 0 inA (t1.1,t1.2)) fun fl2=>fl2.thenP fun(s2:Rz×List Rz)=>
 aa (fF (s2.2.length*24<=2^47) ()) fun(_:Unit)=>
 aa (oO (s2.1.length:Int)) fun(n10:Nat)=>
 aa (au (σ:=Rz) (ρ:=Empty) (fun(j10:Nat) (_:Nat) (s10:Rz)=>
  aa (ax s2.1 (j10:Int)) fun(x69:Rq)=>
  aa (au (σ:=Rq) (ρ:=Empty) (fun(_:Nat) (x13:LA) (s13:Rq)=>
   aa (ax s2.2 (j10:Int)) fun(x86:Rz)=>
   aa (lG rA x13 cols x86) fun x88=>
   aa (cE 32 s13 ([x88]:Rq)) fun(x90:Rq)=>
   some (.next x90)) 0 q.aggregates x69) fun fl13=>fl13.thenP fun(s13:Rq)=>
  aa (cE 24 s10 ([s13]:Rz)) fun(x95:Rz)=>
  some (.next x95)) 0 (List.range n10) []) fun fl10=>fl10.thenP fun(s10:Rz)=>
 some s10
theorem vR(rA:LRun)(q:LQuery)(cols:List LCol)(inA:Rz)(r:Rz)(H:kH rA q cols inA=some r):
  aC prog 168 [(.agg (eQ rA)),(.agg (aH q)),(.list 93 (cols.map ap)),(.list 54 (inA.map rRr))] (.list 54 (r.map rRr)):=by
 unfold kH at H;refine PH.ak func168 ntmps168 ?_;refine gB ?_;refine fP (γ:=OwnRef×(Nat×Nat×(Nat->OwnRef))) (fun t1 g1=>⟨98,upd (upd (upd (upd (upd (upd (fun _=>.any) 10 (.val (kN g1.2.1 t1.2.length g1.2.2.1))) 9 (.own 25 g1.1 (t1.1.map rRr).length)) 5 (.ptr (aH q))) 4 (.ptr (eQ rA))) 3 (.list 54 (inA.map rRr))) 2 (.list 93 (cols.map ap)),upd (fun _=>none) 990 (ky g1.2.1 g1.2.2.2 (List.map (List.map rRr) t1.2) g1.2.2.1),fU 54 g1.2.2.2 (List.map (List.map rRr) t1.2) (upd (fun _=>none) 25 (some ⟨g1.1,54,(t1.1.map rRr),true⟩))⟩) H (fun _ H=>?_) (fun t1 g1 H=>?_)
 ·refine aI Z H (fun H=>?_) (fun H=>?_)
  ·refine ah ?_;refine pX (rows':=List.map rRr ([[]]:Rz)) U Z Z Z Z Z Z Z Z Z (ku.cons (PLe2.nil U Z) ku.nil) fun g25=>?_
   refine xw 990 54 U Z Z Z Z Z Z Z Z fun bf26 cf26=>?_
   refine go ?_;refine fc _ (g25,(bf26,cf26,(fun _=>⟨none,0⟩))) H (Gh.le (aq (aq (aq (aq (aq (aq bm)))))) (mI Z aV) (md (fun i rs h=>by first|exact ft h|(simp only[oF,jg,jF,Nat.reduceLT];exact ft h)) (bJ aU)))
  refine aE (iy U 9 25 (e:=54) Z Z ?_);refine fc _ (⟨none,0⟩,(0,0,fun _=>⟨none,0⟩)) H (Gh.le (aq (aq (aq (aq (aq (aq bm)))))) (xr aV) (xq (bJ aU)))
 refine go ?_
 obtain⟨fl2,H2,Hp2⟩:=aA H
 refine jc U 27 Z Z (fun hz2 _=>?_);rw[zl]at hz2;refine fK (τ:=Rz×List Rz) (γ:=OwnRef×(Nat×Nat×(Nat->OwnRef))) (fun s2 g2=>⟨98,upd (upd (upd (upd (upd (fun _=>.any) 10 (.val (kN g2.2.1 s2.2.length g2.2.2.1))) 9 (.own 25 g2.1 (s2.1.map rRr).length)) 5 (.ptr (aH q))) 4 (.ptr (eQ rA))) 2 (.list 93 (cols.map ap)),upd (fun _=>none) 990 (ky g2.2.1 g2.2.2.2 (List.map (List.map rRr) s2.2) g2.2.2.1),fU 54 g2.2.2.2 (List.map (List.map rRr) s2.2) (upd (fun _=>none) 25 (some ⟨g2.1,54,(s2.1.map rRr),true⟩))⟩) (fun t=>fl2= .next t) ?_ (fun s2 g2 hn2=>?_)
 ·refine aG ?_;refine jw (fun j2 s2 g2=>⟨98,upd (upd (upd (upd (upd (upd (upd (upd (fun _=>.any) 29 (ac (j2:Int))) 28 (ac (inA.length:Int))) 27 (.list 54 (inA.map rRr))) 10 (.val (kN g2.2.1 s2.2.length g2.2.2.1))) 9 (.own 25 g2.1 (s2.1.map rRr).length)) 5 (.ptr (aH q))) 4 (.ptr (eQ rA))) 2 (.list 93 (cols.map ap)),upd (fun _=>none) 990 (ky g2.2.1 g2.2.2.2 (List.map (List.map rRr) s2.2) g2.2.2.1),fU 54 g2.2.2.2 (List.map (List.map rRr) s2.2) (upd (fun _=>none) 25 (some ⟨g2.1,54,(s2.1.map rRr),true⟩))⟩) (g1.1,(g1.2.1,g1.2.2.1,g1.2.2.2)) H2 (Gh.le (aq (aq (aq (aq (aq (aq (aq (aq bm)))))))) (mI Z aV) (md (fun i rs h=>by first|exact ft h|(simp only[oF,jg,jF,Nat.reduceLT];exact ft h)) (bJ aU))) (fun j2 s2 g2 hj2 hr2=>?_);refine go ?_;refine aY Z (fun h=>?_) (fun h=>?_)
  ·have hl2:=qk h
   obtain⟨x2,fb2,hx2,H,hg2⟩:=rMc hl2 hr2
   refine go ?_;refine aW U (zn j2) (aQ (fun _=>Z) hx2) ?_;refine go ?_;refine aB call167 (ip.r) (lU rA cols x2 q.exprs) H (fun x38 H=>?_);refine aM U fun b13=>?_
   refine aK U ?_;refine ao (al (ah (aD U Z (iT (Gh.freezeB 13 Z Z Z Z) (go ?_)))))
   obtain⟨x41,h41,H⟩:=aA H
   have s41:=hJ g2.1 s2.1 (fun a0=>iL a0 x38) call215 (fun a0 r h=>uH a0 x38 r h) _ h41
   obtain⟨_,q41_0,H⟩:=aA H
   have l41_0:=(dK q41_0).1;have z41_0:(List.map rRr s2.1).length=(List.map rRr x41.2).length:=by simpa using(l41_0).symm
   refine gU call211 [] [(25,0)] s41 ?_;rintro u41 H41h ⟨rfl,rfl⟩
   refine⟨_,rfl,?_⟩
   refine iT (st':=⟨_,_,upd (fun _=>none) 990 (ky g2.2.1 g2.2.2.2 (List.map (List.map rRr) s2.2) g2.2.2.1),fU 54 g2.2.2.2 (List.map (List.map rRr) s2.2) (upd (fun _=>none) 25 (some ⟨g2.1,54,(x41.2.map rRr),true⟩))⟩) (Gh.le (il _ _) (mI Z aV) (md (fun i rs h=>by first|exact ft h|(simp only[oF,jg,jF,Nat.reduceLT];exact ft h)) (bJ aU))) ?_;refine go ?_;refine fQ (γ:=OwnRef×(Nat×Nat×(Nat->OwnRef))) (fun t7 g7=>⟨98,upd (upd (upd (upd (upd (upd (upd (upd (upd (upd (fun _=>.any) 29 (ac (j2:Int))) 28 (ac (inA.length:Int))) 27 (.list 54 (inA.map rRr))) 14 (ac t7.2.2)) 12 (.list 69 (x2.map ab))) 10 (.val (kN g7.2.1 t7.2.1.length g7.2.2.1))) 9 (.own 25 g7.1 (t7.1.map rRr).length)) 5 (.ptr (aH q))) 4 (.ptr (eQ rA))) 2 (.list 93 (cols.map ap)),upd (fun _=>none) 990 (ky g7.2.1 g7.2.2.2 (List.map (List.map rRr) t7.2.1) g7.2.2.1),fU 54 g7.2.2.2 (List.map (List.map rRr) t7.2.1) (upd (fun _=>none) 25 (some ⟨g7.1,54,(t7.1.map rRr),true⟩))⟩) H (fun _ H=>?_) (fun t7 g7 H=>?_)
   ·refine aI Z H (fun H=>?_) (fun H=>?_)
    ·refine al (ah (aD U Z (eO U (z41_0.trans (zl _)) ?_)));refine go ?_;refine bZ U (rows':=List.map rRr ([x38]:Rz)) (iW.refl _) ?_
     obtain⟨x49,h49,H⟩:=aA H
     have k49:=fZ h49;refine lE (rows2':=List.map rRr ([x38]:Rz)) (rows':=List.map rRr x49) U Z Z Z Z Z Z Z Z Z Z Z z41_0 Z (iW.refl _) (jD k49.1) (jC k49.2.1) (jz k49.2.2) fun g49=>?_
     refine go ?_;refine vu U Z Z Z Z Z Z ?_
     obtain⟨x52,h52,H⟩:=aA H
     have k52:=fZ h52;refine iT (st':=⟨_,_,upd (fun _=>none) 990 (ky g2.2.1 g2.2.2.2 (List.map (List.map rRr) s2.2) g2.2.2.1),fU 54 g2.2.2.2 (List.map (List.map rRr) s2.2) (upd (fun _=>none) 25 (some ⟨g49,54,(x49.map rRr),true⟩))⟩) (Gh.le (il _ _) (mI Z aV) (md (fun i rs h=>by first|exact ft h|(simp only[oF,jg,jF,Nat.reduceLT];exact ft h)) (bJ aU))) ?_;refine xu 990 54 U Z Z Z Z Z Z Z Z Z Z Z (zl _).symm Z Z (by rw[zl];exact k52.1) (by rw[zl];exact k52.2.1) fun bf52 cf52=>?_
     have hz52:List.map (List.map rRr) x52=List.map (List.map rRr) s2.2++[[]]:=by rw[k52.2.2,List.map_append];rfl
     refine iT (st':=⟨_,_,upd (fun _=>none) 990 (ky bf52 (upd g2.2.2.2 s2.2.length ⟨none,0⟩) (List.map (List.map rRr) x52) cf52),fU 54 (upd g2.2.2.2 s2.2.length ⟨none,0⟩) (List.map (List.map rRr) x52) (upd (fun _=>none) 25 (some ⟨g49,54,(x49.map rRr),true⟩))⟩) (Gh.le (il _ _) (mI (by rw[hz52];rfl) aV) (md (fun i rs h=>by rw[hz52]at h;exact ft h) (bJ aU))) ?_;refine jA 52 (q:=(.val (kN bf52 x52.length cf52))) Z (PLe.q (by rw[k52.2.2,List.length_append];rfl)) ?_;refine go ?_;refine fc _ (g49,(bf52,cf52,(upd g2.2.2.2 s2.2.length ⟨none,0⟩))) (ay H) (Gh.le (aq (aq (aq (aq (aq (aq (aq (aq (aq (aq bm)))))))))) (mI Z aV) (md (fun i rs h=>by first|exact ft h|(simp only[oF,jg,jF,Nat.reduceLT];exact ft h)) (bJ aU)))
    refine aE ?_;refine fc _ (g2.1,(g2.2.1,g2.2.2.1,g2.2.2.2)) (ay H) (Gh.le (aq (aq (aq (bh (PLe.of2 (PLe2.of_eq (congrArg (PV.own 25 g2.1) z41_0))) (aq (aq (aq (aq (aq (aq bm)))))))))) (mI Z aV) (md (fun i rs h=>by first|exact ft h|(simp only[oF,jg,jF,Nat.reduceLT];exact ft h)) (bJ aU)))
   refine go ?_
   obtain⟨x57,k57,H⟩:=eC H
   have wk57:(List.map (List.map rRr) t7.2.1)[t7.2.2.toNat]? =some (List.map rRr x57):=by rw[List.getElem?_map,k57.2];rfl
   refine wU 990 U Z Z Z Z Z Z Z Z ⟨k57.1,(zg.1 k57.2).1⟩ Z ?_;refine xE (hok:=tE _ _ _) U Z Z Z Z Z (vv wk57) (famCells_get wk57) Z (go ?_);refine bZ U (rows':=List.map rRr ([x2]:Rz)) (iW.refl _) ?_
   obtain⟨x61,h61,H⟩:=aA H
   have k61:=fZ h61;refine lE (rows2':=List.map rRr ([x2]:Rz)) (rows':=List.map rRr x61) U Z Z Z Z Z Z Z Z Z Z (ft wk57) Z Z (iW.refl _) (jD k61.1) (jC k61.2.1) (jz k61.2.2) fun g61=>?_
   obtain⟨x62,k62,H⟩:=eC H
   have wk62:(List.map (List.map rRr) t7.2.1)[t7.2.2.toNat]? =some (List.map rRr x62):=by rw[List.getElem?_map,k62.2];rfl
   refine wU 990 U Z Z Z Z Z Z Z Z ⟨k62.1,(zg.1 k62.2).1⟩ Z ?_
   obtain⟨y8,hy8,H⟩:=cI H
   have hzy8:List.map (List.map rRr) y8=(List.map (List.map rRr) t7.2.1).set t7.2.2.toNat (List.map rRr x61):=by rw[<-hy8,List.map_set]
   have hly8:y8.length=t7.2.1.length:=by rw[<-hy8,List.length_set]
   refine xC (hok:=tE _ _ _) U Z Z Z Z Z Z (vv wk62) Z Z (by rw[rl];exact Nat.lt_of_lt_of_le (zg.1 wk62).1 (lF _ _)) (famCells_set wk62 _) ?_;refine iT (st':=⟨_,_,upd (fun _=>none) 990 (ky g7.2.1 (upd g7.2.2.2 t7.2.2.toNat g61) (List.map (List.map rRr) y8) g7.2.2.1),fU 54 (upd g7.2.2.2 t7.2.2.toNat g61) (List.map (List.map rRr) y8) (upd (fun _=>none) 25 (some ⟨g7.1,54,(t7.1.map rRr),true⟩))⟩) (Gh.le (il _ _) (mI (famB_put wk62 hzy8) aV) (md (famO_put wk62 hzy8) (xJ (by rw[gE _ _ (by unfold br;omega)];rfl) aU))) ?_;refine jA 10 (q:=(.val (kN g7.2.1 y8.length g7.2.2.1))) Z (PLe.q (by rw[hly8];rfl)) ?_;refine jA 53 (q:=(.val (kN g7.2.1 y8.length g7.2.2.1))) Z (PLe.q (by rw[hly8];rfl)) ?_;refine jA 55 (q:=(.val (kN g7.2.1 y8.length g7.2.2.1))) Z (PLe.q (by rw[hly8];rfl)) ?_;refine go ?_;exact cJ (g7.1,(g7.2.1,g7.2.2.1,(upd g7.2.2.2 t7.2.2.toNat g61))) H hl2 hg2 (Gh.le (aq (aq (aq (aq (aq (aq (aq (bh (PLe.q (fG (by omega))) bm)))))))) (mI Z aV) (md (fun i rs h=>by first|exact ft h|(simp only[oF,jg,jF,Nat.reduceLT];exact ft h)) (bJ aU)))
  have hn2:=rMd (qp h) hr2;refine bd Z ?_;refine fc s2 g2 hn2 (Gh.le (aq (aq (aq (aq (aq bm))))) (mI Z aV) (md (fun i rs h=>by first|exact ft h|(simp only[oF,jg,jF,Nat.reduceLT];exact ft h)) (bJ aU)))
 have H:=ep hn2 Hp2;refine dp 1 U Z (al (al (ah (aD U Z (eO U (zl _) ?_)))));refine go ?_
 obtain⟨_,hf9,H⟩:=aA H
 have kf9:=(dK hf9).1;refine xf 10 990 U (e:=54) (e':=62) (rows:=List.map (ae 54 rRr) s2.2) Z Z Z (zl _).symm Z (by rw[zl];exact kf9) (by rw[zl];unfold maxLen;omega) (by rw[List.map_map];rfl) ?_
 obtain⟨n10,hs10,H⟩:=aA H
 have hz10:=nR hs10
 obtain⟨fl10,H10,Hp10⟩:=aA H
 refine fK (τ:=Rz) (γ:=OwnRef) (fun s10 g10=>⟨98,upd (fun _=>.any) 15 (.own 95 g10 (s10.map rRr).length),fun _=>none,upd (fun _=>none) 95 (some ⟨g10,54,(s10.map rRr),true⟩)⟩) (fun t=>fl10= .next t) ?_ (fun s10 g10 hn10=>?_)
 ·refine aG (iy U 15 95 (e:=54) Z Z ?_);refine jw (fun j10 s10 g10=>⟨98,upd (upd (upd (upd (upd (upd (upd (upd (fun _=>.any) 66 (ac (j10:Int))) 65 (ac (s2.1.length:Int))) 64 (.own 25 g2.1 (s2.1.map rRr).length)) 15 (.own 95 g10 (s10.map rRr).length)) 10 (.list 62 (s2.2.map (ae 54 rRr)))) 5 (.ptr (aH q))) 4 (.ptr (eQ rA))) 2 (.list 93 (cols.map ap)),fun _=>none,upd (upd (fun _=>none) 95 (some ⟨g10,54,(s10.map rRr),true⟩)) 25 (some ⟨g2.1,54,(s2.1.map rRr),true⟩)⟩) (⟨none,0⟩) H10 Gh.d (fun j10 s10 g10 hj10 hr10=>?_);refine go ?_;refine aY Z (fun h=>?_) (fun h=>?_)
  ·have hl10:=natLt hz10 h
   obtain⟨x10,fb10,hx10,H,hg10⟩:=rMc hl10 hr10
   obtain rfl:=natX hx10;refine go ?_
   obtain⟨x69,k69,H⟩:=eC H
   refine lz (tag:=25) Z (fun ho25=>?_);refine jT U ⟨k69.1,(dz k69.2)⟩ (dv ho25 k69.2) ?_;refine oj U Z Z Z Z Z Z Z (dJ (fun _=>Z) k69.2) Z Z ?_;refine cC 2 U Z (ao (al (ah (aD U Z ?_))));have s72:=rR (m:=72) x69;refine iH call85 (ip.r) s72 (fun g72=>?_);refine go ?_;refine fW (γ:=OwnRef) U 76 75 74 (fun s13 g13=>upd (upd (upd (upd (upd (upd (upd (upd (upd (upd (fun _=>.any) 66 (ac (j10:Int))) 65 (ac (s2.1.length:Int))) 64 (.own 25 g2.1 (s2.1.map rRr).length)) 18 (.own 72 g13 (s13.map ab).length)) 16 (ac (j10:Int))) 15 (.own 95 g10 (s10.map rRr).length)) 10 (.list 62 (s2.2.map (ae 54 rRr)))) 5 (.ptr (aH q))) 4 (.ptr (eQ rA))) 2 (.list 93 (cols.map ap))) nB (fun s13 g13=>upd (upd (upd (fun _=>none) 95 (some ⟨g10,54,(s10.map rRr),true⟩)) 72 (some ⟨g13,69,(s13.map ab),true⟩)) 25 (some ⟨g2.1,54,(s2.1.map rRr),true⟩)) g72 H (fun fl13 Hp13 j13 s13 g13 hz13 hl13 x13 fb13 hx13 H hg13=>?_) (fun s13 g13 H=>?_)
   ·refine go ?_;refine aW U (zn j13) (aQ (fun _=>Z) hx13) ?_;refine go ?_;refine aM U fun b20=>?_
    refine aK U ?_;refine ao ?_;refine ii (tag:=25) Z (fun ho25=>?_);refine ii (tag:=72) Z (fun ho72=>?_);refine ii (tag:=95) Z (fun ho95=>?_);refine bK ⟨true,false,[81,87]⟩ [0,1,2,3,4,5,6,7,8,9,10,11] ?_;refine go ?_;refine bl (fun _=>Z) H (fun x86 H=>?_);refine go ?_;refine bU call216 (ip.r) (wK rA x13 cols x86) H (fun x88 H=>?_);refine go ?_
    obtain⟨x90,h90,H⟩:=aA H
    have k90:=fZ h90;refine hC (rows2':=List.map ab ([x88]:Rq)) (rows':=List.map ab x90) U Z Z Z Z Z Z Z Z Z Z Z Z Z Z (iW.refl _) (jD k90.1) (jC k90.2.1) (jz k90.2.2) fun g90=>?_
    refine go ?_;exact cJ g90 H hl13 hg13
   refine cD 18 Z Z Z (go ?_);refine bZ U (rows':=List.map rRr ([s13]:Rz)) (iW.refl _) ?_;refine fm U H (fun x95 g95 H=>?_);refine go ?_;exact cJ g95 H hl10 hg10 (Gh.le (aq (aq (aq (aq (aq (aq (aq (bh (PLe.q (pu hz10 hl10)) bm)))))))) aV (bJ (bJ aU)))
  have hn10:=rMd (natGe hz10 h) hr10;refine bd Z ?_;refine fc s10 g10 hn10 Gh.d
 have H:=ep hn10 Hp10;refine dp 2 U Z (cD 8 Z Z Z ?_);exact fS
def ik(a:Rq)(b:Rq)(c0:LRun)(c1:List LCol)(c2:LQuery):Option (Int):=
 aa (eB c0 c1 a c2.exprs) fun x13=>
 aa (eB c0 c1 b c2.exprs) fun x19=>
 aa (jM x13 x19 c2.descending) fun x22=>
 some x22
theorem uZ(a:Rq)(b:Rq)(c0:LRun)(c1:List LCol)(c2:LQuery)(r:Int)(H:ik a b c0 c1 c2=some r):
  aC prog 218 [(.list 69 (a.map ab)),(.list 69 (b.map ab)),(.ptr (eQ c0)),(.ptr [(.list 93 (c1.map ap))]),(.ptr (aH c2))] (ac r):=by
 unfold ik at H;refine PH.ak func218 ntmps218 ?_;refine go ?_;refine bK ⟨false,false,[]⟩ [0,1,2,3,4,6,7,8,9,10,12,13,5,11,14,15] ?_;refine go ?_;refine bU call167 (ip.r) (lU c0 c1 a c2.exprs) H (fun x13 H=>?_);refine bU call167 (ip.r) (lU c0 c1 b c2.exprs) H (fun x19 H=>?_);refine bU call219 (ip.r) (uL x13 x19 c2.descending) H (fun x22 H=>?_);exact fS
def gT(t:LTable)(rows:Rz)(row:Rq):Option Rz:=
 aa (iU rows) fun x11=>
 aa (cu t row) fun x19=>
 aa (gQ t x11 x19) fun x20=>
 aa (fF (x20.2.2.length=x11.length) ()) fun(_:Unit)=>
 cond x20.2.1
  (aa (ax x20.2.2 x20.1) fun(_:Rq)=>
  letP (x20.2.2.set x20.1.toNat row) fun(y:Rz)=>
  some y)
  (insI x20.2.2 x20.1 row)
theorem vX(t:LTable)(rows:Rz)(row:Rq)(r:Rz)(H:gT t rows row=some r):
  aC prog 47 [(.agg (bq t)),(.list 54 (rows.map rRr)),(.list 69 (row.map ab))] (.list 54 (r.map rRr)):=by
 unfold gT at H;refine PH.ak func47 ntmps47 ?_;refine gB ?_
 obtain⟨x11,h11,H⟩:=aA H
 have s11:=oc (m:=11) rows _ h11;refine iH call57 (ip.r) s11 (fun g11=>?_);refine aD U Z (ao (al (ah (aD U Z ?_))));have s13:=rR (m:=13) row;refine iH call85 (ip.r) s13 (fun g13=>?_);refine aD U Z (ao (cD 2 Z Z Z (al (bK ⟨false,false,[]⟩ [0,1,2,3,4,5,6,7,8,9,10] ?_))));refine go ?_
 obtain⟨x19,h19,H⟩:=aA H
 have s19:=nu t row _ h19;refine bI call80 (ip.r) s19 ?_
 obtain⟨x20,h20,H⟩:=aA H
 have s20:=qJ g11 t x11 x19 _ h20
 obtain⟨_,q20,H⟩:=aA H
 have l20:=(dK q20).1;have z20:(List.map rRr x11).length=(List.map rRr x20.2.2).length:=by simpa using l20.symm
 refine wy (g:=86) Z Z Z Z call86 Z [(11,1)] Z Z (ip.of2 (ku.cons (PLe2.of_eq Z) (ku.cons (PLe2.own Z) (ku.cons (PLe2.of_eq Z) ku.nil)))) (by rw[bB,cP];rfl) s20 ?_;rintro u20 H20h ⟨rfl,rfl⟩
 refine⟨(.tup [(ac x20.1),(az x20.2.1)]),_,PLe.refl _ _,rfl,?_⟩
 refine oa 5 Z (dE ?_);refine cv (st':=⟨34,upd (upd (upd (upd (upd (fun _=>.any) 9 (az x20.2.1)) 8 (ac x20.1)) 7 (.own 11 g11 (x20.2.2.map rRr).length)) 2 (.list 69 (row.map ab))) 3 (.ptr (bq t)),fun _=>none,upd (fun _=>none) 11 (some ⟨g11,54,(x20.2.2.map rRr),true⟩)⟩) (Gh.le (aq (aq (bh (PLe.of2 (PLe2.own z20)) (aq (aq bm))))) aV (bJ aU)) ?_;refine go ?_;refine aI Z H (fun H=>?_) (fun H=>?_)
 ·refine ii (tag:=11) Z (fun ho=>?_);refine go ?_
  obtain⟨x27,k27,H⟩:=eC H
  refine jT U ⟨k27.1,(dz k27.2)⟩ (dv ho k27.2) ?_
  obtain⟨y,hy,H⟩:=cI H
  refine ou U Z Z Z Z Z Z Z Z (by rw[zl];exact(zg.1 k27.2).1) (PLe.refl _ _) Z Z Z Z (by decide) (eT (fun _=>Z) k27.2 Z hy) ?_;refine ao (dp 2 U Z ?_);have hly:(List.map rRr x20.2.2).length=(List.map rRr y).length:=by rw[<-hy];simp
  refine cD 6 Z Z hly ?_;exact fS
 refine aE ?_
 obtain⟨⟨hi0,hi1,hi2⟩,rfl⟩:=insI_some H
 have ei:x20.1=(x20.1.toNat:Int):=by omega
 refine go ?_;refine pX (rows':=[ae 69 ab row]) U Z Z Z Z Z Z Z Z Z (ku.refl _) fun g32=>?_
 have s33:=insert_row (m:=1) (rows:=x20.2.2.map rRr) (g1:=g11) (g2:=g32) (r:=ae 69 ab row) (i:=x20.1.toNat) (by rw[zl];omega) (by rw[zl];omega) (by rw[zl];unfold maxLen;omega) Z;rw[<-ei]at s33;refine fL (g:=87) Z Z Z call87 [] [(32,2),(11,1)] Z Z Z Z (ip.of2 (ku.cons (PLe2.own Z) (ku.cons (PLe2.of_eq Z) (ku.cons (PLe2.own Z) ku.nil)))) (by rw[dI,bB,bB,cP];rfl) s33 ?_;rintro u33 H33h ⟨g33,rfl,rfl⟩
 refine⟨_,rfl,?_⟩
 refine eA (fun _=>none) (upd (fun _=>none) 11 (some ⟨g33,54,(x20.2.2.map rRr).take x20.1.toNat++ae 69 ab row::(x20.2.2.map rRr).drop x20.1.toNat,true⟩)) ?_;refine jA 33 (q:=(.own 11 g33 ((x20.2.2.map rRr).take x20.1.toNat++ae 69 ab row::(x20.2.2.map rRr).drop x20.1.toNat).length)) Z (PLe.of2 (PLe2.own Z)) (aD U Z (ao (cD 6 Z Z Z ?_)));refine ed U (PLe.q ?_);rw[List.map_append,List.map_cons,List.map_take,List.map_drop]
def gO(t:LTable)(rows:Rz)(key:Rq):Option (Rz×Bool):=
 aa (iU rows) fun x12=>
 aa (gQ t x12 key) fun x17=>
 aa (fF (x17.2.2.length=x12.length) ()) fun(_:Unit)=>
 cond (!x17.2.1)
  (some (x17.2.2,false))
  (aa (oM x17.2.2 x17.1 (Iw (x17.1+(1:Int)))) fun x27=>
  some (x27,true))
theorem wb(t:LTable)(rows:Rz)(key:Rq)(r:Rz×Bool)(H:gO t rows key=some r):
  aC prog 48 [(.agg (bq t)),(.list 54 (rows.map rRr)),(.list 69 (key.map ab))] (.tup [(.list 54 (r.1.map rRr)),(az r.2)]):=by
 unfold gO at H;refine PH.ak func48 ntmps48 ?_;refine gB ?_
 obtain⟨x12,h12,H⟩:=aA H
 have s12:=oc (m:=12) rows _ h12;refine iH call57 (ip.r) s12 (fun g12=>?_);refine go ?_
 obtain⟨x17,h17,H⟩:=aA H
 have s17:=qJ g12 t x12 key _ h17
 obtain⟨_,q17_0,H⟩:=aA H
 have l17_0:=(dK q17_0).1;have z17_0:(List.map rRr x12).length=(List.map rRr x17.2.2).length:=by simpa using(l17_0).symm
 refine gU call86 [] [(12,1)] s17 ?_;rintro u17 H17h ⟨rfl,rfl⟩
 refine⟨_,rfl,?_⟩
 refine eA (fun _=>none) (upd (fun _=>none) 12 (some ⟨g12,54,(x17.2.2.map rRr),true⟩)) ?_;refine go ?_;refine aI Z H (fun H=>?_) (fun H=>?_)
 ·refine dp 3 U Z (cD 6 Z Z z17_0 ?_);exact fS
 refine go ?_
 obtain⟨x27,h27,H⟩:=aA H
 have s27:=wv g12 x17.2.2 x17.1 (Iw (x17.1+(1:Int))) _ h27;refine fL (g:=88) Z Z Z call88 [] [(12,0)] Z Z Z Z (ip.of2 (ku.cons (PLe2.own z17_0) (ku.cons (PLe2.of_eq Z) (ku.cons (PLe2.of_eq Z) ku.nil)))) (by rw[dI,bB,cP];rfl) s27 ?_;rintro u27 H27h ⟨rfl,rfl⟩
 refine⟨_,rfl,?_⟩
 refine eA (fun _=>none) (upd (fun _=>none) 12 (some ⟨g12,54,(x27.map rRr),true⟩)) ?_;refine jA 27 (q:=(.own 12 g12 (x27.map rRr).length)) Z (PLe.of2 (PLe2.own Z)) (cC 2 U Z (ao (cD 6 Z Z Z ?_)));exact fS
end
end Go.Proofs.YtafdcemcgfbhcaaGreatDoor
