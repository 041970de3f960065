/- procedureChangesApplyUpto_holds, part 4: the layer, the plain functions and what they compute; conditions as in the statement. -/
import Derived.Test.YtafdcemcgfbhcaaGreatPcc
set_option maxHeartbeats 4000000
namespace Go.Proofs.YtafdcemcgfbhcaaGreat
noncomputable section
open Go Go.Ab Go.Proofs.Tryz
attribute [local irreducible] V Ao Do Gh Eff PH IntKind.wrap
set_option maxRecDepth 4000
def cr(sA:Rz)(f:Rq->Option (Bool)):Option (Int×Rz):=
 ae (nQ (sA.length:Int)) fun(n1:Nat)=>
 ae (aU (σ:=Rz) (ρ:=(Int×Rz)) (fun(j1:Nat) (_:Nat) (s1:Rz)=>
  ae (aG s1 (j1:Int)) fun(x14:Rq)=>
  ae (f x14) fun x16=>
  cond x16
   (some (.ret ((j1:Int),s1)))
   (some (.next s1))) 0 (List.range n1) sA) fun fl1=>fl1.thenR fun(s1:Rz)=>
 some ((-1),s1)
theorem gF(g_sA:OwnRef){g_f:FuncId}{caps_f:List PV}(sA:Rz)(f:Rq->Option (Bool))(hg_f:∀(vs:Array Value) (w:World),(callFunc g_f vs).run prog w= .ok (.enter g_f vs) w)(hp_f:∀a0 r,f a0=some r->aY prog g_f ((.list 58 (a0.map af))::caps_f) (aK r))(r:Int×Rz)(H:cr sA f=some r):
  PH prog 180 [(.own 0 g_sA (sA.map (ap 58 af)).length),(.fn g_f caps_f)] ⟨fun _=>none,upd (fun _=>none) 0 (some ⟨g_sA,46,(sA.map (ap 58 af)),true⟩)⟩ (fun u H=>u=(ah r.1)/\H=⟨fun _=>none,upd (fun _=>none) 0 (some ⟨g_sA,46,(r.2.map (ap 58 af)),true⟩)⟩):=by
 unfold cr at H;refine PH.au func180 ntmps180 ?_;refine ak 1 tk Z (aa (aa (ab (ai tk Z (eg tk (zl _) ?_)))));refine ai tk Z (ac ?_)
 obtain⟨n1,hs1,H⟩:=am H
 have hz1:=mY hs1
 obtain⟨fl1,H1,Hp1⟩:=am H
 refine dj (τ:=Rz) (γ:=Unit) (fun s1 g1=>⟨19,upd (fun _=>.any) 0 (.own 0 g_sA (s1.map (ap 58 af)).length),fun _=>none,upd (fun _=>none) 0 (some ⟨g_sA,46,(s1.map (ap 58 af)),true⟩)⟩) (fun t=>fl1= .next t) ?_ (fun s1 g1 hn1=>?_)
 ·refine av ?_;refine iU (fun j1 s1 g1=>⟨19,upd (upd (upd (upd (fun _=>.any) 8 (ah (j1:Int))) 7 (ah (sA.length:Int))) 1 (.fn g_f caps_f)) 0 (.own 0 g_sA (s1.map (ap 58 af)).length),fun _=>none,upd (fun _=>none) 0 (some ⟨g_sA,46,(s1.map (ap 58 af)),true⟩)⟩) () H1 Gh.d (fun j1 s1 g1 hj1 hr1=>?_);refine ak 1 tk Z (aa ?_);refine bJ Z (fun h=>?_) (fun h=>?_)
  ·have hl1:=natLt hz1 h
   obtain⟨x1,fb1,hx1,H,hg1⟩:=rMc hl1 hr1
   obtain rfl:=natX hx1;refine al (aa (av (ak 2 tk Z (aa (ab (ag 3 tk Z ?_))))))
   obtain⟨x14,k14,H⟩:=aV H
   refine jJ (tag:=0) Z (fun ho0=>?_);refine iV tk ⟨k14.1,(bh k14.2)⟩ (bf ho0 k14.2) ?_;refine lJ tk (aC (fun _=>Z) k14.2) ?_
   obtain⟨x16,h16,H⟩:=am H
   refine aj hg_f (jt.r) (hp_f _ _ h16) ?_;refine ac ?_;refine aF Z H (fun H=>?_) (fun H=>?_)
   ·refine ak 2 tk Z ?_;obtain rfl:=aq H;have e1:fl1= .ret _:=hg1;subst e1;obtain rfl:=aZ Hp1;refine bZ (st':=⟨19,upd (fun _=>.any) 4 (ah (j1:Int)),fun _=>none,upd (fun _=>none) 0 (some ⟨g_sA,46,(s1.map (ap 58 af)),true⟩)⟩) (Gh.le (ao aL) aw (aD ax)) ?_;refine cl tk Z (ps:=[(ah (j1:Int))]) ⟨_,_,rfl,rfl,rfl⟩ (PLe.q Z) ⟨rfl,rfl⟩
   refine al (aM (bc 2 tk Z ?_));exact bv () H hl1 hg1 (Gh.le (ao (ao (ao (bp (PLe.q (nT hz1 hl1)) aL)))) aw (aD ax))
  have hn1:=rMd (natGe hz1 h) hr1;refine bj Z ?_;refine aP s1 g1 hn1 Gh.d
 have H:=iW hn1 Hp1;refine ak 1 tk Z ?_;obtain rfl:=aq H;refine bZ (st':=⟨19,upd (fun _=>.any) 4 (ah (-1)),fun _=>none,upd (fun _=>none) 0 (some ⟨g_sA,46,(s1.map (ap 58 af)),true⟩)⟩) (Gh.le (ao aL) aw (aD ax)) ?_;refine cl tk Z (ps:=[(ah (-1))]) ⟨_,_,rfl,rfl,rfl⟩ (PLe.q Z) ⟨rfl,rfl⟩
theorem uC(g_s:OwnRef)(xs:Rz)(i j:Int)(r:Rz)(h:nN xs i j=some r):PH prog 52 [(.own 0 g_s (xs.map (ap 58 af)).length),(ah i),(ah j)] ⟨fun _=>none,upd (fun _=>none) 0 (some ⟨g_s,46,(xs.map (ap 58 af)),true⟩)⟩ (fun u H=>u= .own 0 g_s (r.map (ap 58 af)).length/\H=⟨fun _=>none,upd (fun _=>none) 0 (some ⟨g_s,46,(r.map (ap 58 af)),true⟩)⟩):=by
 obtain⟨hi,hij,hj,hr⟩:=tu h
 have hjl:j.toNat<=(xs.map (ap 58 af)).length:=by rw[zl];exact hj
 have hij':i.toNat<=j.toNat:=by omega
 have ei:i=(i.toNat:Int):=by omega
 have ej:j=(j.toNat:Int):=by omega
 refine PH.au func52 ntmps52 ?_;refine qd (tag:=0) Z (fun hc=>?_);refine ak 1 tk Z (aa (ab (ag 4 tk Z (eg tk (m:=(xs.map (ap 58 af)).length) Z ?_))));refine iJ (l:=i.toNat) (h:=j.toNat) (m:=(xs.map (ap 58 af)).length) tk Z Z Z Z Z Z ⟨_,_,rfl,ei⟩ ⟨_,_,rfl,ej⟩ ⟨_,_,rfl,rfl⟩ (by decide) hij' hjl hc Z (ac (aa (ak 3 tk Z ?_)));refine bJ Z (fun h=>?_) (fun h=>?_)
 ·have he:i=j:=by simpa using h
  have hx:r=xs:=by rw[hr,he,List.take_append_drop]
  subst hx;refine ak 2 tk Z ?_;refine bZ (st':=⟨33,upd (fun _=>.any) 6 (.own 0 g_s (r.map (ap 58 af)).length),fun _=>none,upd (fun _=>none) 0 (some ⟨g_s,46,r.map (ap 58 af),true⟩)⟩) (Gh.le (ao aL) aw (aD ax)) ?_;refine cl tk Z (ps:=[.own 0 g_s (r.map (ap 58 af)).length]) ⟨_,_,rfl,rfl,rfl⟩ (PLe.q Z) ⟨rfl,rfl⟩
 ·refine al (aa (ab (ai tk Z (eg tk (m:=(xs.map (ap 58 af)).length) Z ?_))));refine ai tk Z (ac (aa (aX tk mok ⟨false,false,[]⟩ [0,1,2,3,4,5,6,7] Z (by decide+kernel) Z (az 2 Z (lp (l:=0) (h:=i.toNat) (m:=g_s.cap) tk Z Z Z Z Z Z Z Z ⟨_,_,rfl,ei⟩ Z (by decide) (Nat.zero_le _) (by omega) (Nat.le_refl _) Z (az 2 Z (lp (l:=j.toNat) (h:=(xs.map (ap 58 af)).length) (m:=g_s.cap) tk Z Z Z Z Z Z Z ⟨_,_,rfl,ej⟩ Z Z (by decide) hjl hc (Nat.le_refl _) Z (rd (rows':=r.map (ap 58 af)) (tag:=0) (p:=i.toNat) (q:=j.toNat) tk Z Z Z Z Z Z Z hij' hjl Z Z (by rw[hr,List.map_append,List.map_take,List.map_drop]) Z (bw Z (aQ ?_))))))))));have hrl:(r.map (ap 58 af)).length<=(xs.map (ap 58 af)).length:=by rw[hr];simp;omega
  refine aa (ab (ag 2 tk Z (eg tk (m:=(r.map (ap 58 af)).length) Z ?_)));refine ai tk Z (iJ (l:=(r.map (ap 58 af)).length) (h:=(xs.map (ap 58 af)).length) (m:=g_s.cap) tk Z Z Z Z Z Z ⟨_,_,rfl,rfl⟩ ⟨_,_,rfl,rfl⟩ Z (by decide) hrl hc (Nat.le_refl _) Z (nE (tag:=0) (rows:=List.map (ap 58 af) r) tk Z Z Z Z Z Z Z Z Z (p:=(r.map (ap 58 af)).length) (q:=(xs.map (ap 58 af)).length) (m:=g_s.cap) (Nat.le_refl _) hrl hc (Nat.le_refl _) Z (ac (ak 2 tk Z ?_))));refine bZ (st':=⟨33,upd (fun _=>.any) 6 (.own 0 g_s (r.map (ap 58 af)).length),fun _=>none,upd (fun _=>none) 0 (some ⟨g_s,46,r.map (ap 58 af),true⟩)⟩) (Gh.le (ao aL) aw (aD ax)) ?_;refine cl tk Z (ps:=[.own 0 g_s (r.map (ap 58 af)).length]) ⟨_,_,rfl,rfl,rfl⟩ (PLe.q Z) ⟨rfl,rfl⟩
theorem qp{m:Nat}(xs:Rq):jr prog 49 [.list 58 (xs.map af)] (lN m 58 (xs.map af)):=by
 refine PH.au func49 ntmps49 ?_;refine iI tk 0 Z Z (fun hz hb=>?_);refine ak 1 tk Z (aa (aa (ab (ai tk Z ?_))));refine sd tk Z Z Z Z Z Z Z (fun b hn=>?_);refine ac ?_;refine bJ Z (fun h=>?_) (fun h=>?_)
 ·refine ak 1 tk Z (hZ tk 2 902 (e:=58) Z Z ?_);refine jI tk (hn h).symm
 ·refine al (aa (ab ?_));refine oA (rows':=[]) tk Z Z Z Z Z Z Z Z Z (jN.refl _) fun g=>?_
  refine ai tk Z ?_;refine cv (rows2':=xs.map af) (rows':=xs.map af) tk Z Z Z Z Z Z Z Z Z Z Z Z Z (gP.refl _) (by simpa using hb) (by simpa using hz) Z fun g'=>?_
  refine ai tk Z (ac ?_);refine jI tk Z
def js(a:Rq)(b:Rq)(downs:List Bool):Option (Int):=
 ae (aU (σ:=Unit) (ρ:=(Int)) (fun(j1:Nat) (x1:LVal) (_:Unit)=>
  ae (
   cond (decide ((j1:Int)>=(b.length:Int)))
    (some true)
    (ae (aG b (j1:Int)) fun(x25:LVal)=>
    some (x1.kind==x25.kind&&(x1.int==x25.int&&(x1.text==x25.text&&true))))) fun(t3:Bool)=>
  cond t3
   (some (.next ()))
   (ae (aG b (j1:Int)) fun(x35:LVal)=>
   letP (ng x1 x35) fun x37=>
   cond (decide ((j1:Int)<(downs.length:Int)))
    (ae (aG downs (j1:Int)) fun(x45:Bool)=>
    cond x45
     (cond (!x37)
      (some (.ret (-1)))
      (some (.ret 1)))
     (cond x37
      (some (.ret (-1)))
      (some (.ret 1))))
    (cond x37
     (some (.ret (-1)))
     (some (.ret 1))))) 0 a ()) fun fl1=>fl1.thenR fun(_:Unit)=>
 some 0
theorem sU(a:Rq)(b:Rq)(downs:List Bool)(r:Int)(H:js a b downs=some r):
  aY prog 186 [(.list 58 (a.map af)),(.list 58 (b.map af)),(.list 4 (downs.map rBool))] (ah r):=by
 unfold js at H;refine PH.au func186 ntmps186 ?_;refine ak 1 tk Z (aa (aa (ab (ai tk Z (aI tk (zl _) ?_)))));refine ai tk Z (ac ?_);refine ff tk 11 10 0 (fun s1 g1=>upd (upd (fun _=>.any) 2 (.list 4 (downs.map rBool))) 1 (.list 58 (b.map af))) nB nO () H (fun fl1 Hp1 j1 s1 g1 hz1 hl1 x1 fb1 hx1 H hg1=>?_) (fun s1 g1 H=>?_)
 ·refine aa (av (ak 2 tk Z (aa (aa ?_))));refine ee (γ:=Unit) (fun t3 g3=>⟨52,upd (upd (upd (upd (upd (upd (upd (fun _=>.any) 28 (aK t3)) 11 (ah (j1:Int))) 10 (ah (a.length:Int))) 7 (ah (j1:Int))) 2 (.list 4 (downs.map rBool))) 1 (.list 58 (b.map af))) 0 (.list 58 (a.map af)),fun _=>none,fun _=>none⟩) H (fun _ H=>?_) (fun t3 g3 H=>?_)
  ·refine aX tk mok ⟨false,false,[]⟩ [0,1,2,3,4,5,6,7,8,9,10,11,12,13,14] Z (by decide+kernel) Z (az 2 Z (mG (zl _) ?_));refine az 2 Z ?_;refine gi H (fun H=>?_) (fun H=>?_)
   ·refine az 10 Z (aQ ?_);refine aP _ () (aq H) Gh.d
   refine az 2 Z ?_;refine bE (zn j1) (bA (fun _=>Z) hx1) ?_;refine az 3 Z ?_
   obtain⟨x25,k25,H⟩:=aV H
   refine bE k25.1 (aC (fun _=>Z) k25.2) ?_;refine az 3 Z (aQ ?_);refine aP _ () (aq H) Gh.d
  refine aF Z H (fun H=>?_) (fun H=>?_)
  ·refine bj Z (bc 2 tk Z ?_);exact bv () H hl1 hg1
  refine al (aa (aX tk mok ⟨false,false,[]⟩ [0,1,2,3,4,5,6,7,8,9] Z (by decide+kernel) Z (az 2 Z ?_)));refine bE (zn j1) (bA (fun _=>Z) hx1) ?_;refine az 3 Z ?_
  obtain⟨x35,k35,H⟩:=aV H
  refine bE k35.1 (aC (fun _=>Z) k35.2) ?_;refine bw Z ?_
  obtain⟨x37,h37,H⟩:=bF H
  have s37:=nM x1 x35;rw[h37]at s37;refine aS call176 (jt.r) s37 ?_;refine bw Z (aQ (aa (aa (ab (ag 2 tk Z (aI tk (zl _) ?_))))));refine ag 2 tk Z ?_;refine bu Z Z Z H (fun H=>?_) (fun H=>?_)
  ·refine ag 2 tk Z ?_
   obtain⟨x45,k45,H⟩:=aV H
   refine be tk k45.1 (aC (fun _=>Z) k45.2) ?_;refine ag 2 tk Z (ac ?_);refine aF Z H (fun H=>?_) (fun H=>?_)
   ·refine bc 3 tk Z (aa (ak 1 tk Z ?_));refine aF Z H (fun H=>?_) (fun H=>?_)
    ·refine ak 1 tk Z ?_;obtain rfl:=aq H;have e1:fl1= .ret _:=hg1;subst e1;obtain rfl:=aZ Hp1;refine bl tk Z (ps:=[(ah (-1))]) ⟨_,_,rfl,rfl,rfl⟩ (PLe.q Z)
    refine al (ak 1 tk Z ?_);obtain rfl:=aq H;have e1:fl1= .ret _:=hg1;subst e1;obtain rfl:=aZ Hp1;refine bl tk Z (ps:=[(ah 1)]) ⟨_,_,rfl,rfl,rfl⟩ (PLe.q Z)
   refine al (aa (ak 1 tk Z ?_));refine aF Z H (fun H=>?_) (fun H=>?_)
   ·refine ak 1 tk Z ?_;obtain rfl:=aq H;have e1:fl1= .ret _:=hg1;subst e1;obtain rfl:=aZ Hp1;refine bl tk Z (ps:=[(ah (-1))]) ⟨_,_,rfl,rfl,rfl⟩ (PLe.q Z)
   refine al (ak 1 tk Z ?_);obtain rfl:=aq H;have e1:fl1= .ret _:=hg1;subst e1;obtain rfl:=aZ Hp1;refine bl tk Z (ps:=[(ah 1)]) ⟨_,_,rfl,rfl,rfl⟩ (PLe.q Z)
  refine ag 5 tk Z (ac (bH Z (al (aa (ak 1 tk Z ?_)))));refine aF Z H (fun H=>?_) (fun H=>?_)
  ·refine ak 1 tk Z ?_;obtain rfl:=aq H;have e1:fl1= .ret _:=hg1;subst e1;obtain rfl:=aZ Hp1;refine bl tk Z (ps:=[(ah (-1))]) ⟨_,_,rfl,rfl,rfl⟩ (PLe.q Z)
  refine al (ak 1 tk Z ?_);obtain rfl:=aq H;have e1:fl1= .ret _:=hg1;subst e1;obtain rfl:=aZ Hp1;refine bl tk Z (ps:=[(ah 1)]) ⟨_,_,rfl,rfl,rfl⟩ (PLe.q Z)
 refine ak 1 tk Z ?_;exact bi tk H Z
def du(data:Rz)(a:Int)(b:Int)(cmp:Rq->Rq->Option (Int)):Option (Rz):=
 ae (dg (σ:=Rz×Int) (ρ:=Empty) (fun(s1:Rz×Int)=>
  cond (decide (s1.2<b))
   (ae (dg (σ:=Rz×Int) (ρ:=Empty) (fun(s22:Rz×Int)=>
    ae (
     cond (decide (s22.2>a))
      (ae (aG s22.1 s22.2) fun(x25:Rq)=>
      ae (aG s22.1 (iw (s22.2-(1:Int)))) fun(x30:Rq)=>
      ae (cmp x25 x30) fun x32=>
      some (s22.1,(decide (x32<(0:Int)))))
      (some (s22.1,false))) fun(t29:Rz×Bool)=>
    cond t29.2
     (ae (aG t29.1 (iw (s22.2-(1:Int)))) fun(x45:Rq)=>
     ae (aG t29.1 s22.2) fun(x49:Rq)=>
     ae (aG t29.1 s22.2) fun(_:Rq)=>
     letP (t29.1.set s22.2.toNat x45) fun(y30:Rz)=>
     ae (aG y30 (iw (s22.2-(1:Int)))) fun(_:Rq)=>
     letP (y30.set ((iw (s22.2-(1:Int))).toNat) x49) fun(y31:Rz)=>
     some (.next (y31,(iw (s22.2-(1:Int))))))
     (some (.brk (t29.1,s22.2)))) (s1.1,s1.2)) fun fl22=>fl22.thenP fun(s22:Rz×Int)=>
   some (.next (s22.1,(iw (s1.2+(1:Int))))))
   (some (.brk (s1.1,s1.2)))) (data,(iw (a+(1:Int))))) fun fl1=>fl1.thenP fun(s1:Rz×Int)=>
 some s1.1
theorem jz(g_data:OwnRef){g_cmp:FuncId}{caps_cmp:List PV}(data:Rz)(a:Int)(b:Int)(cmp:Rq->Rq->Option (Int))(hg_cmp:∀(vs:Array Value) (w:World),(callFunc g_cmp vs).run prog w= .ok (.enter g_cmp vs) w)(hp_cmp:∀a0 a1 r,cmp a0 a1=some r->aY prog g_cmp ((.list 58 (a0.map af))::(.list 58 (a1.map af))::caps_cmp) (ah r))(r:Rz)(H:du data a b cmp=some r):
  PH prog 191 [(.own 0 g_data (data.map (ap 58 af)).length),(ah a),(ah b),(.fn g_cmp caps_cmp)] ⟨fun _=>none,upd (fun _=>none) 0 (some ⟨g_data,46,(data.map (ap 58 af)),true⟩)⟩ (fun u H=>u=(.tup [])/\H=⟨fun _=>none,upd (fun _=>none) 0 (some ⟨g_data,46,(r.map (ap 58 af)),true⟩)⟩):=by
 unfold du at H;refine PH.au func191 ntmps191 ?_;refine ak 3 tk Z ?_
 obtain⟨fl1,H1,Hp1⟩:=am H
 refine dj (τ:=Rz×Int) (γ:=Unit) (fun s1 g1=>⟨53,upd (fun _=>.any) 0 (.own 0 g_data (s1.1.map (ap 58 af)).length),fun _=>none,upd (fun _=>none) 0 (some ⟨g_data,46,(s1.1.map (ap 58 af)),true⟩)⟩) (fun t=>fl1= .next t) ?_ (fun s1 g1 hn1=>?_)
 ·refine av ?_;refine cO (fun s1 g1=>⟨53,upd (upd (upd (upd (upd (fun _=>.any) 8 (ah s1.2)) 3 (.fn g_cmp caps_cmp)) 2 (ah b)) 1 (ah a)) 0 (.own 0 g_data (s1.1.map (ap 58 af)).length),fun _=>none,upd (fun _=>none) 0 (some ⟨g_data,46,(s1.1.map (ap 58 af)),true⟩)⟩) () H1 Gh.d (fun m1 s1 g1 hr1=>?_)
  obtain⟨fb1,H,hg1⟩:=cp hr1
  refine aa (ak 3 tk Z ?_);refine aF Z H (fun H=>?_) (fun H=>?_)
  ·refine al (aa (av (ak 2 tk Z ?_)))
   obtain⟨fl22,H22,Hp22⟩:=am H
   refine dj (τ:=Rz×Int) (γ:=Unit) (fun s22 g22=>⟨53,upd (upd (upd (upd (upd (fun _=>.any) 8 (ah s1.2)) 3 (.fn g_cmp caps_cmp)) 2 (ah b)) 1 (ah a)) 0 (.own 0 g_data (s22.1.map (ap 58 af)).length),fun _=>none,upd (fun _=>none) 0 (some ⟨g_data,46,(s22.1.map (ap 58 af)),true⟩)⟩) (fun t=>fl22= .next t) ?_ (fun s22 g22 hn22=>?_)
   ·refine av ?_;refine cO (fun s22 g22=>⟨53,upd (upd (upd (upd (upd (upd (fun _=>.any) 9 (ah s22.2)) 8 (ah s1.2)) 3 (.fn g_cmp caps_cmp)) 2 (ah b)) 1 (ah a)) 0 (.own 0 g_data (s22.1.map (ap 58 af)).length),fun _=>none,upd (fun _=>none) 0 (some ⟨g_data,46,(s22.1.map (ap 58 af)),true⟩)⟩) () H22 Gh.d (fun m22 s22 g22 hr22=>?_)
    obtain⟨fb22,H,hg22⟩:=cp hr22
    refine aa (aa ?_);refine ee (γ:=Unit) (fun t29 g29=>⟨53,upd (upd (upd (upd (upd (upd (upd (fun _=>.any) 34 (aK t29.2)) 9 (ah s22.2)) 8 (ah s1.2)) 3 (.fn g_cmp caps_cmp)) 2 (ah b)) 1 (ah a)) 0 (.own 0 g_data (t29.1.map (ap 58 af)).length),fun _=>none,upd (fun _=>none) 0 (some ⟨g_data,46,(t29.1.map (ap 58 af)),true⟩)⟩) H (fun _ H=>?_) (fun t29 g29 H=>?_)
    ·refine cA (tag:=0) Z (fun ho0=>?_);refine aX tk mok ⟨false,true,[]⟩ [0,1,2,3,4,5,6,7,8,9,10,11,12,13,14,15,16] Z (by decide+kernel) Z (az 4 Z ?_);refine gi H (fun H=>?_) (fun H=>?_)
     ·refine az 3 Z ?_
      obtain⟨x25,k25,H⟩:=aV H
      refine aT tk ⟨k25.1,(bh k25.2)⟩ (bf ho0 k25.2) ?_;refine bo tk Z Z Z Z Z Z Z Z Z (aC (fun _=>Z) k25.2) Z Z ?_;refine az 3 Z ?_
      obtain⟨x30,k30,H⟩:=aV H
      refine aT tk ⟨k30.1,(bh k30.2)⟩ (bf ho0 k30.2) ?_;refine bo tk Z Z Z Z Z Z Z Z Z (aC (fun _=>Z) k30.2) Z Z ?_
      obtain⟨x32,h32,H⟩:=am H
      refine aS hg_cmp (jt.r) (hp_cmp _ _ _ h32) ?_;refine az 2 Z (aQ ?_);refine aP _ () (aq H) Gh.d
     refine az 13 Z (aQ ?_);refine aP _ () (aq H) Gh.d
    refine aF Z H (fun H=>?_) (fun H=>?_)
    ·refine al (aa (av ?_));refine cA (tag:=0) Z (fun ho0=>?_);refine aX tk mok ⟨false,true,[]⟩ [0,1,2,3,4,5,6,7,8,9,10,11,12,13,14,15,16,17] Z (by decide+kernel) Z (az 8 Z ?_)
     obtain⟨x45,k45,H⟩:=aV H
     refine aT tk ⟨k45.1,(bh k45.2)⟩ (bf ho0 k45.2) ?_;refine bo tk Z Z Z Z Z Z Z Z Z (aC (fun _=>Z) k45.2) Z Z ?_;refine az 2 Z ?_
     obtain⟨x49,k49,H⟩:=aV H
     refine aT tk ⟨k49.1,(bh k49.2)⟩ (bf ho0 k49.2) ?_;refine bo tk Z Z Z Z Z Z Z Z Z (aC (fun _=>Z) k49.2) Z Z ?_
     obtain⟨x51,k51,H⟩:=aV H
     refine aT tk ⟨k51.1,(bh k51.2)⟩ (bf ho0 k51.2) ?_
     obtain⟨y30,hy30,H⟩:=bF H
     refine cg tk Z Z Z Z Z Z Z Z Z (by rw[zl];exact(zg.1 k51.2).1) (PLe.refl _ _) Z Z Z Z (by decide) (bD (fun _=>Z) k51.2 Z hy30) ?_
     obtain⟨x52,k52,H⟩:=aV H
     refine aT tk ⟨k52.1,(gJ (bt (f:=(ap 58 af)) hy30) k52.2)⟩ (gX ho0 (bt (f:=(ap 58 af)) hy30) k52.2) ?_
     obtain⟨y31,hy31,H⟩:=bF H
     refine cg tk Z Z Z Z Z Z Z Z Z (by rw[zl];exact(zg.1 k52.2).1) (PLe.refl _ _) Z Z Z Z (by decide) (bD (fun _=>Z) k52.2 Z hy31) ?_;refine aQ (aM (bc 3 tk Z ?_));obtain rfl:=aq H;refine ce (y31,(iw (s22.2-(1:Int)))) () hg22 (Gh.le (bp (PLe.of2 (pD.of_eq (congrArg (PV.own 0 g_data) ((bt (f:=(ap 58 af)) hy30).trans (bt (f:=(ap 58 af)) hy31))))) (ao (ao (ao (ao (ao aL)))))) aw (aD ax))
    refine bj Z ?_;obtain rfl:=aq H;refine aP (t29.1,s22.2) () hg22 Gh.d
   have H:=ci hn22 Hp22;refine aM (bc 3 tk Z ?_);obtain rfl:=aq H;refine ce (s22.1,(iw (s1.2+(1:Int)))) () hg1 Gh.d
  refine bj Z ?_;obtain rfl:=aq H;refine aP (s1.1,s1.2) () hg1 Gh.d
 have H:=ci hn1 Hp1;obtain rfl:=aq H;refine bZ (st':=⟨53,fun _=>.any,fun _=>none,upd (fun _=>none) 0 (some ⟨g_data,46,(s1.1.map (ap 58 af)),true⟩)⟩) (Gh.le aL aw (aD ax)) ?_;refine iO Z (PLe.q Z) ⟨rfl,rfl⟩
def dp(data:Rz)(a:Int)(b:Int)(n:Int)(cmp:Rq->Rq->Option (Int)):Option (Rz):=
 ae (dg (σ:=Rz×Int) (ρ:=Empty) (fun(s1:Rz×Int)=>
  cond (decide (s1.2<n))
   (ae (aG s1.1 (iw (b+s1.2))) fun(x28:Rq)=>
   ae (aG s1.1 (iw (a+s1.2))) fun(x34:Rq)=>
   ae (aG s1.1 (iw (a+s1.2))) fun(_:Rq)=>
   letP (s1.1.set ((iw (a+s1.2)).toNat) x28) fun(y6:Rz)=>
   ae (aG y6 (iw (b+s1.2))) fun(_:Rq)=>
   letP (y6.set ((iw (b+s1.2)).toNat) x34) fun(y7:Rz)=>
   some (.next (y7,(iw (s1.2+(1:Int))))))
   (some (.brk (s1.1,s1.2)))) (data,0)) fun fl1=>fl1.thenP fun(s1:Rz×Int)=>
 some s1.1
theorem ix(g_data:OwnRef){g_cmp:FuncId}{caps_cmp:List PV}(data:Rz)(a:Int)(b:Int)(n:Int)(cmp:Rq->Rq->Option (Int))(hg_cmp:∀(vs:Array Value) (w:World),(callFunc g_cmp vs).run prog w= .ok (.enter g_cmp vs) w)(hp_cmp:∀a0 a1 r,cmp a0 a1=some r->aY prog g_cmp ((.list 58 (a0.map af))::(.list 58 (a1.map af))::caps_cmp) (ah r))(r:Rz)(H:dp data a b n cmp=some r):
  PH prog 194 [(.own 0 g_data (data.map (ap 58 af)).length),(ah a),(ah b),(ah n),(.fn g_cmp caps_cmp)] ⟨fun _=>none,upd (fun _=>none) 0 (some ⟨g_data,46,(data.map (ap 58 af)),true⟩)⟩ (fun u H=>u=(.tup [])/\H=⟨fun _=>none,upd (fun _=>none) 0 (some ⟨g_data,46,(r.map (ap 58 af)),true⟩)⟩):=by
 unfold dp at H;refine PH.au func194 ntmps194 ?_;refine ak 1 tk Z ?_
 obtain⟨fl1,H1,Hp1⟩:=am H
 refine dj (τ:=Rz×Int) (γ:=Unit) (fun s1 g1=>⟨38,upd (fun _=>.any) 0 (.own 0 g_data (s1.1.map (ap 58 af)).length),fun _=>none,upd (fun _=>none) 0 (some ⟨g_data,46,(s1.1.map (ap 58 af)),true⟩)⟩) (fun t=>fl1= .next t) ?_ (fun s1 g1 hn1=>?_)
 ·refine av ?_;refine cO (fun s1 g1=>⟨38,upd (upd (upd (upd (upd (fun _=>.any) 10 (ah s1.2)) 3 (ah n)) 2 (ah b)) 1 (ah a)) 0 (.own 0 g_data (s1.1.map (ap 58 af)).length),fun _=>none,upd (fun _=>none) 0 (some ⟨g_data,46,(s1.1.map (ap 58 af)),true⟩)⟩) () H1 Gh.d (fun m1 s1 g1 hr1=>?_)
  obtain⟨fb1,H,hg1⟩:=cp hr1
  refine aa (ak 3 tk Z ?_);refine aF Z H (fun H=>?_) (fun H=>?_)
  ·refine al (aa (av ?_));refine cA (tag:=0) Z (fun ho0=>?_);refine aX tk mok ⟨false,true,[]⟩ [0,1,2,3,4,5,6,7,8,9,10,11,12,13,14,15,16,17,18,19,20,21,22,23] Z (by decide+kernel) Z (az 12 Z ?_)
   obtain⟨x28,k28,H⟩:=aV H
   refine aT tk ⟨k28.1,(bh k28.2)⟩ (bf ho0 k28.2) ?_;refine bo tk Z Z Z Z Z Z Z Z Z (aC (fun _=>Z) k28.2) Z Z ?_;refine az 4 Z ?_
   obtain⟨x34,k34,H⟩:=aV H
   refine aT tk ⟨k34.1,(bh k34.2)⟩ (bf ho0 k34.2) ?_;refine bo tk Z Z Z Z Z Z Z Z Z (aC (fun _=>Z) k34.2) Z Z ?_
   obtain⟨x36,k36,H⟩:=aV H
   refine aT tk ⟨k36.1,(bh k36.2)⟩ (bf ho0 k36.2) ?_
   obtain⟨y6,hy6,H⟩:=bF H
   refine cg tk Z Z Z Z Z Z Z Z Z (by rw[zl];exact(zg.1 k36.2).1) (PLe.refl _ _) Z Z Z Z (by decide) (bD (fun _=>Z) k36.2 Z hy6) ?_
   obtain⟨x37,k37,H⟩:=aV H
   refine aT tk ⟨k37.1,(gJ (bt (f:=(ap 58 af)) hy6) k37.2)⟩ (gX ho0 (bt (f:=(ap 58 af)) hy6) k37.2) ?_
   obtain⟨y7,hy7,H⟩:=bF H
   refine cg tk Z Z Z Z Z Z Z Z Z (by rw[zl];exact(zg.1 k37.2).1) (PLe.refl _ _) Z Z Z Z (by decide) (bD (fun _=>Z) k37.2 Z hy7) ?_;refine aQ (aM (bc 3 tk Z ?_));obtain rfl:=aq H;refine ce (y7,(iw (s1.2+(1:Int)))) () hg1 (Gh.le (bp (PLe.of2 (pD.of_eq (congrArg (PV.own 0 g_data) ((bt (f:=(ap 58 af)) hy6).trans (bt (f:=(ap 58 af)) hy7))))) (ao (ao (ao (ao aL))))) aw (aD ax))
  refine bj Z ?_;obtain rfl:=aq H;refine aP (s1.1,s1.2) () hg1 Gh.d
 have H:=ci hn1 Hp1;obtain rfl:=aq H;refine bZ (st':=⟨38,fun _=>.any,fun _=>none,upd (fun _=>none) 0 (some ⟨g_data,46,(s1.1.map (ap 58 af)),true⟩)⟩) (Gh.le aL aw (aD ax)) ?_;refine iO Z (PLe.q Z) ⟨rfl,rfl⟩
def gL(sA:Rb):Option (Bool):=
 ae (
  cond (decide ((sA.length:Int)<(1:Int)))
   (some true)
   (cond (decide ((sA.length:Int)>(12:Int)))
    (some true)
    (ae (aG sA 0) fun(x15:UInt8)=>
    cond (decide ((x15.toNat:Int)>=(48:Int)))
     (ae (aG sA 0) fun(x19:UInt8)=>
     some (decide ((x19.toNat:Int)<=(57:Int))))
     (some false)))) fun(t1:Bool)=>
 cond t1
  (some false)
  (ae (cF (sA.length<=2^47) ()) fun(_:Unit)=>
  ae (aU (σ:=Unit) (ρ:=(Bool)) (fun(_:Nat) (x2:UInt8) (_:Unit)=>
   cond (decide ((x2.toNat:Int)<(97:Int)))
    (cond (decide ((x2.toNat:Int)<(48:Int)))
     (some (.ret false))
     (cond (decide ((x2.toNat:Int)>(57:Int)))
      (some (.ret false))
      (some (.next ()))))
    (cond (decide ((x2.toNat:Int)>(122:Int)))
     (cond (decide ((x2.toNat:Int)<(48:Int)))
      (some (.ret false))
      (cond (decide ((x2.toNat:Int)>(57:Int)))
       (some (.ret false))
       (some (.next ()))))
     (some (.next ())))) 0 sA ()) fun fl2=>fl2.thenR fun(_:Unit)=>
  some true)
theorem pt(sA:Rb)(r:Bool)(H:gL sA=some r):
  aY prog 56 [(.str sA)] (aK r):=by
 unfold gL at H;refine PH.au func56 ntmps56 ?_;refine ak 1 tk Z (aa (aa ?_));refine ee (γ:=Unit) (fun t1 g1=>⟨45,upd (upd (fun _=>.any) 22 (aK t1)) 0 (.str sA),fun _=>none,fun _=>none⟩) H (fun _ H=>?_) (fun t1 g1 H=>?_)
 ·refine ab (ag 4 tk Z ?_);refine bu Z Z Z H (fun H=>?_) (fun H=>?_)
  ·refine ag 14 tk Z (ac ?_);refine aP _ () (aq H) Gh.d
  refine ag 5 tk Z ?_;refine bu Z Z Z H (fun H=>?_) (fun H=>?_)
  ·refine ag 9 tk Z (ac ?_);refine aP _ () (aq H) Gh.d
  refine ai tk Z ?_
  obtain⟨x15,k15,H⟩:=aV H
  refine tQ tk Z Z Z Z Z Z k15.1 k15.2 Z (ag 2 tk Z ?_);refine bu Z Z Z H (fun H=>?_) (fun H=>?_)
  ·refine ai tk Z ?_
   obtain⟨x19,k19,H⟩:=aV H
   refine tQ tk Z Z Z Z Z Z k19.1 k19.2 Z (ag 3 tk Z (ac ?_));refine aP _ () (aq H) Gh.d
  refine ag 5 tk Z (ac ?_);refine aP _ () (aq H) Gh.d
 refine aF Z H (fun H=>?_) (fun H=>?_)
 ·refine ak 1 tk Z ?_;exact bi tk H Z
 refine al (aa (aa (ab (ai tk Z ?_))))
 obtain⟨_,h24,H⟩:=am H
 refine Ao.s2b (xs:=sA) tk Z Z Z Z Z Z Z Z Z Z Z (bG h24).1 Z (aI tk (zl _) ?_);refine ai tk Z (ac ?_);refine ff tk 26 25 24 (fun s2 g2=>fun _=>.any) nB nO () H (fun fl2 Hp2 j2 s2 g2 hz2 hl2 x2 fb2 hx2 H hg2=>?_) (fun s2 g2 H=>?_)
 ·refine aa (av (aa (ab ?_)));refine be tk (zn j2) (bA (fun _=>Z) hx2) ?_;refine ag 2 tk Z (ac (aa (ab (ag 3 tk Z ?_))));refine bu Z Z Z H (fun H=>?_) (fun H=>?_)
  ·refine ag 7 tk Z ?_;refine bu Z Z Z H (fun H=>?_) (fun H=>?_)
   ·refine ag 4 tk Z (ac (ct Z (ak 1 tk Z ?_)));obtain rfl:=aq H;have e2:fl2= .ret _:=hg2;subst e2;obtain rfl:=aZ Hp2;refine bl tk Z (ps:=[(aK false)]) ⟨_,_,rfl,rfl,rfl⟩ (PLe.q Z)
   refine ag 4 tk Z (ac ?_);refine aF Z H (fun H=>?_) (fun H=>?_)
   ·refine ak 1 tk Z ?_;obtain rfl:=aq H;have e2:fl2= .ret _:=hg2;subst e2;obtain rfl:=aZ Hp2;refine bl tk Z (ps:=[(aK false)]) ⟨_,_,rfl,rfl,rfl⟩ (PLe.q Z)
   refine al (aM (bc 2 tk Z ?_));exact bv () H hl2 hg2
  refine ag 4 tk Z ?_;refine bu Z Z Z H (fun H=>?_) (fun H=>?_)
  ·refine ag 3 tk Z ?_;refine bu Z Z Z H (fun H=>?_) (fun H=>?_)
   ·refine ag 4 tk Z (ac (ct Z (ak 1 tk Z ?_)));obtain rfl:=aq H;have e2:fl2= .ret _:=hg2;subst e2;obtain rfl:=aZ Hp2;refine bl tk Z (ps:=[(aK false)]) ⟨_,_,rfl,rfl,rfl⟩ (PLe.q Z)
   refine ag 4 tk Z (ac ?_);refine aF Z H (fun H=>?_) (fun H=>?_)
   ·refine ak 1 tk Z ?_;obtain rfl:=aq H;have e2:fl2= .ret _:=hg2;subst e2;obtain rfl:=aZ Hp2;refine bl tk Z (ps:=[(aK false)]) ⟨_,_,rfl,rfl,rfl⟩ (PLe.q Z)
   refine al (aM (bc 2 tk Z ?_));exact bv () H hl2 hg2
  refine ag 7 tk Z (ac (bH Z (al (aM (bc 2 tk Z ?_)))));exact bv () H hl2 hg2
 refine ak 1 tk Z ?_;exact bi tk H Z
def eY(c:LCol)(c0:Rb):Bool:=
 (c.name==c0)
theorem rD(c:LCol)(c0:Rb):
  aY prog 90 [(.agg (aB c)),(.ptr [(.str c0)])] (aK (eY c c0)):=by
 obtain⟨r,H⟩:∃r,eY c c0=r:=⟨_,rfl⟩
 rw[H];unfold eY at H;refine PH.au func90 ntmps90 ?_;refine aa (ab (aO ?_));refine ai tk Z (ac (ak 5 tk Z ?_));exact eA tk H Z
def cE(t:LTable)(c0:Rb):Bool:=
 (t.name==c0)
theorem sz(t:LTable)(c0:Rb):
  aY prog 48 [(.agg (bM t)),(.ptr [(.str c0)])] (aK (cE t c0)):=by
 obtain⟨r,H⟩:∃r,cE t c0=r:=⟨_,rfl⟩
 rw[H];unfold cE at H;refine PH.au func48 ntmps48 ?_;refine aa (ab (aO ?_));refine ai tk Z (ac (ak 5 tk Z ?_));exact eA tk H Z
def hO(s1A:List Int)(s2A:List Int):Option (Bool):=
 cond ((s1A.length:Int) !=(s2A.length:Int))
  (some false)
  (ae (aU (σ:=Unit) (ρ:=(Bool)) (fun(j1:Nat) (x1:Int) (_:Unit)=>
   ae (aG s2A (j1:Int)) fun(x22:Int)=>
   cond (x1 !=x22)
    (some (.ret false))
    (some (.next ()))) 0 s1A ()) fun fl1=>fl1.thenR fun(_:Unit)=>
  some true)
theorem qD(s1A:List Int)(s2A:List Int)(r:Bool)(H:hO s1A s2A=some r):
  aY prog 59 [(.list 3 (s1A.map cq)),(.list 3 (s2A.map cq))] (aK r):=by
 unfold hO at H;refine PH.au func59 ntmps59 ?_;refine ak 1 tk Z (aa (aa (ab (ai tk Z (aI tk (zl _) ?_)))));refine ai tk Z (aI tk (zl _) ?_);refine ai tk Z (ac ?_);refine aF Z H (fun H=>?_) (fun H=>?_)
 ·refine ak 1 tk Z ?_;exact bi tk H Z
 refine al (aa (aa (ab (ai tk Z (aI tk (zl _) ?_)))));refine ai tk Z (ac ?_);refine ff tk 13 12 0 (fun s1 g1=>upd (fun _=>.any) 1 (.list 3 (s2A.map cq))) nB nO () H (fun fl1 Hp1 j1 s1 g1 hz1 hl1 x1 fb1 hx1 H hg1=>?_) (fun s1 g1 H=>?_)
 ·refine aa (av (ak 2 tk Z (aa (aX tk mok ⟨false,false,[]⟩ [0,1,2,3,4,5,6,7,8] Z (by decide+kernel) Z (az 2 Z ?_)))));refine bE (zn j1) (bA (fun _=>Z) hx1) ?_;refine az 3 Z ?_
  obtain⟨x22,k22,H⟩:=aV H
  refine bE k22.1 (aC (fun _=>Z) k22.2) ?_;refine az 2 Z (aQ ?_);refine aF Z H (fun H=>?_) (fun H=>?_)
  ·refine ak 1 tk Z ?_;obtain rfl:=aq H;have e1:fl1= .ret _:=hg1;subst e1;obtain rfl:=aZ Hp1;refine bl tk Z (ps:=[(aK false)]) ⟨_,_,rfl,rfl,rfl⟩ (PLe.q Z)
  refine al (aM (bc 2 tk Z ?_));exact bv () H hl1 hg1
 refine ak 1 tk Z ?_;exact bi tk H Z
def dH(sA:List LForeignKey)(f:LForeignKey->Option (Bool)):Option (Int):=
 ae (aU (σ:=Unit) (ρ:=(Int)) (fun(j1:Nat) (x1:LForeignKey) (_:Unit)=>
  ae (f x1) fun x16=>
  cond x16
   (some (.ret (j1:Int)))
   (some (.next ()))) 0 sA ()) fun fl1=>fl1.thenR fun(_:Unit)=>
 some (-1)
theorem kp{g_f:FuncId}{caps_f:List PV}(sA:List LForeignKey)(f:LForeignKey->Option (Bool))(hg_f:∀(vs:Array Value) (w:World),(callFunc g_f vs).run prog w= .ok (.enter g_f vs) w)(hp_f:∀a0 r,f a0=some r->aY prog g_f ((.agg (gW a0))::caps_f) (aK r))(r:Int)(H:dH sA f=some r):
  aY prog 58 [(.list 99 (sA.map gW)),(.fn g_f caps_f)] (ah r):=by
 unfold dH at H;refine PH.au func58 ntmps58 ?_;refine ak 1 tk Z (aa (aa (ab (ai tk Z (aI tk (zl _) ?_)))));refine ai tk Z (ac ?_);refine ff tk 8 7 0 (fun s1 g1=>upd (fun _=>.any) 1 (.fn g_f caps_f)) nB nO () H (fun fl1 Hp1 j1 s1 g1 hz1 hl1 x1 fb1 hx1 H hg1=>?_) (fun s1 g1 H=>?_)
 ·refine aa (av (ak 2 tk Z (aa (ab (ag 3 tk Z ?_)))));refine be tk (zn j1) (bA (fun _=>Z) hx1) ?_;refine ai tk Z ?_
  obtain⟨x16,h16,H⟩:=am H
  refine aj hg_f (jt.r) (hp_f _ _ h16) ?_;refine ac ?_;refine aF Z H (fun H=>?_) (fun H=>?_)
  ·refine ak 2 tk Z ?_;obtain rfl:=aq H;have e1:fl1= .ret _:=hg1;subst e1;obtain rfl:=aZ Hp1;refine bl tk Z (ps:=[(ah (j1:Int))]) ⟨_,_,rfl,rfl,rfl⟩ (PLe.q Z)
  refine al (aM (bc 2 tk Z ?_));exact bv () H hl1 hg1
 refine ak 1 tk Z ?_;exact bi tk H Z
def dQ(sA:List LConstraint)(v:LConstraint):Option (Int):=
 ae (aU (σ:=Unit) (ρ:=(Int)) (fun(j1:Nat) (x1:LConstraint) (_:Unit)=>
  cond (v.table==x1.table&&(v.left==x1.left&&(v.op==x1.op&&(v.right==x1.right&&((v.value.kind==x1.value.kind&&(v.value.int==x1.value.int&&(v.value.text==x1.value.text&&true)))&&true)))))
   (some (.ret (j1:Int)))
   (some (.next ()))) 0 sA ()) fun fl1=>fl1.thenR fun(_:Unit)=>
 some (-1)
theorem kR(sA:List LConstraint)(v:LConstraint)(r:Int)(H:dQ sA v=some r):
  aY prog 62 [(.list 105 (sA.map iK)),(.agg (iK v))] (ah r):=by
 unfold dQ at H;refine PH.au func62 ntmps62 ?_;refine aa (ab (aO ?_));refine ai tk Z (ac (aa (aa (ab (ai tk Z (aI tk (zl _) ?_))))));refine ai tk Z (ac ?_);refine ff tk 8 7 0 (fun s1 g1=>upd (fun _=>.any) 3 (.ptr (iK v))) nB nO () H (fun fl1 Hp1 j1 s1 g1 hz1 hl1 x1 fb1 hx1 H hg1=>?_) (fun s1 g1 H=>?_)
 ·refine aa (av (ak 2 tk Z (aa (aX tk mok ⟨false,false,[]⟩ [0,1,2,3,4,5] Z (by decide+kernel) Z (az 3 Z ?_)))));refine bE (zn j1) (bA (fun _=>Z) hx1) ?_;refine bw Z (vA (b:=(v.table==x1.table&&(v.left==x1.left&&(v.op==x1.op&&(v.right==x1.right&&((v.value.kind==x1.value.kind&&(v.value.int==x1.value.int&&(v.value.text==x1.value.text&&true)))&&true)))))) tk Z Z Z Z Z stoodInHeld105 eqGuardType105 (eqf:=[(9,0),(3,1),(9,2),(3,3),(58,4)]) (by simp[gd,Program.fieldsOf,underlying105]) (by kernel_rfl) Z Z (aQ ?_));refine aF Z H (fun H=>?_) (fun H=>?_)
  ·refine ak 2 tk Z ?_;obtain rfl:=aq H;have e1:fl1= .ret _:=hg1;subst e1;obtain rfl:=aZ Hp1;refine bl tk Z (ps:=[(ah (j1:Int))]) ⟨_,_,rfl,rfl,rfl⟩ (PLe.q Z)
  refine al (aM (bc 2 tk Z ?_));exact bv () H hl1 hg1
 refine ak 1 tk Z ?_;exact bi tk H Z
def gu(t:LTable)(c0:LProcedureStatement):Bool:=
 (t.name==c0.table)
theorem re(t:LTable)(c0:LProcedureStatement):
  aY prog 109 [(.agg (bM t)),(.ptr (aE c0))] (aK (gu t c0)):=by
 obtain⟨r,H⟩:∃r,gu t c0=r:=⟨_,rfl⟩
 rw[H];unfold gu at H;refine PH.au func109 ntmps109 ?_;refine aa (ab (aO ?_));refine ai tk Z (ac (ak 6 tk Z ?_));exact eA tk H Z
def gq(x:LCol)(c0:LProcedureStatement)(c1:Int):Option (Bool):=
 ae (aG c0.names c1) fun(x10:Rb)=>
 some (x.name==x10)
theorem rh(x:LCol)(c0:LProcedureStatement)(c1:Int)(r:Bool)(H:gq x c0 c1=some r):
  aY prog 110 [(.agg (aB x)),(.ptr (aE c0)),(.ptr [(ah c1)])] (aK r):=by
 unfold gq at H;refine PH.au func110 ntmps110 ?_;refine aa (ab (aO ?_));refine ai tk Z (ac (aa (aX tk mok ⟨false,false,[]⟩ [0,1,2,3,4,5,6,7,8] Z (by decide+kernel) Z (az 5 Z ?_))))
 obtain⟨x10,k10,H⟩:=aV H
 refine bE k10.1 (aC (fun _=>Z) k10.2) ?_;refine az 3 Z (aQ ?_);exact bi tk H Z
def fT(n:Int):Int:=
 (iw ((100:Int)+n))
theorem qB(n:Int):
  aY prog 75 [(ah n)] (ah (fT n)):=by
 obtain⟨r,H⟩:∃r,fT n=r:=⟨_,rfl⟩
 rw[H];unfold fT at H;refine PH.au func75 ntmps75 ?_;refine ak 1 tk Z (ak 3 tk Z ?_);exact eA tk H Z
def mT(x:Int):Option (Int):=
 letP (
  cond (decide (x>=(4294967296:Int)))
   (((Int.fdiv x (2^32)),32))
   ((x,0))) fun(t1:Int×Int)=>
 letP (
  cond (decide (t1.1>=(65536:Int)))
   (((Int.fdiv t1.1 (2^16)),(iw (t1.2+(16:Int)))))
   ((t1.1,t1.2))) fun(t2:Int×Int)=>
 letP (
  cond (decide (t2.1>=(256:Int)))
   (((Int.fdiv t2.1 (2^8)),(iw (t2.2+(8:Int)))))
   ((t2.1,t2.2))) fun(t3:Int×Int)=>
 ae (aG ([0,1,2,2,3,3,3,3,4,4,4,4,4,4,4,4,5,5,5,5,5,5,5,5,5,5,5,5,5,5,5,5,6,6,6,6,6,6,6,6,6,6,6,6,6,6,6,6,6,6,6,6,6,6,6,6,6,6,6,6,6,6,6,6,7,7,7,7,7,7,7,7,7,7,7,7,7,7,7,7,7,7,7,7,7,7,7,7,7,7,7,7,7,7,7,7,7,7,7,7,7,7,7,7,7,7,7,7,7,7,7,7,7,7,7,7,7,7,7,7,7,7,7,7,7,7,7,7,8,8,8,8,8,8,8,8,8,8,8,8,8,8,8,8,8,8,8,8,8,8,8,8,8,8,8,8,8,8,8,8,8,8,8,8,8,8,8,8,8,8,8,8,8,8,8,8,8,8,8,8,8,8,8,8,8,8,8,8,8,8,8,8,8,8,8,8,8,8,8,8,8,8,8,8,8,8,8,8,8,8,8,8,8,8,8,8,8,8,8,8,8,8,8,8,8,8,8,8,8,8,8,8,8,8,8,8,8,8,8,8,8,8,8,8,8,8,8,8,8,8,8,8,8,8,8,8]:Rb) ((u8of t3.1).toNat:Int)) fun(x22:UInt8)=>
 some (iw (t3.2+(iw (x22.toNat:Int))))
theorem uc(x:Int)(r:Int)(H:mT x=some r):
  aY prog 88 [(.val (.int .u64 x))] (ah r):=by
 unfold mT at H;refine PH.au func88 ntmps88 ?_;refine ak 1 tk Z (aa (ak 2 tk Z ?_));refine ed (γ:=Unit) (fun t1 g1=>⟨25,upd (upd (fun _=>.any) 2 (ah t1.2)) 0 (.val (.int .u64 t1.1)),fun _=>none,fun _=>none⟩) H (fun _ H=>?_) (fun t1 g1 H=>?_)
 ·refine aF Z H (fun H=>?_) (fun H=>?_)
  ·refine aa (ab (ai tk Z (qq (m:=32) Z Z Z Z (by decide) Z Z (ai tk Z (ac (bc 1 tk Z ?_))))));refine aP _ () H Gh.d
  refine al ?_;refine aP _ () H Gh.d
 refine aa (ak 2 tk Z ?_);refine ed (γ:=Unit) (fun t2 g2=>⟨25,upd (upd (fun _=>.any) 2 (ah t2.2)) 0 (.val (.int .u64 t2.1)),fun _=>none,fun _=>none⟩) H (fun _ H=>?_) (fun t2 g2 H=>?_)
 ·refine aF Z H (fun H=>?_) (fun H=>?_)
  ·refine aa (ab (ai tk Z (qq (m:=16) Z Z Z Z (by decide) Z Z (ai tk Z (ac (bc 3 tk Z ?_))))));refine aP _ () H Gh.d
  refine al ?_;refine aP _ () H Gh.d
 refine aa (ak 2 tk Z ?_);refine ed (γ:=Unit) (fun t3 g3=>⟨25,upd (upd (fun _=>.any) 2 (ah t3.2)) 0 (.val (.int .u64 t3.1)),fun _=>none,fun _=>none⟩) H (fun _ H=>?_) (fun t3 g3 H=>?_)
 ·refine aF Z H (fun H=>?_) (fun H=>?_)
  ·refine aa (ab (ai tk Z (qq (m:=8) Z Z Z Z (by decide) Z Z (ai tk Z (ac (bc 3 tk Z ?_))))));refine aP _ () H Gh.d
  refine al ?_;refine aP _ () H Gh.d
 refine aa (ab (ag 2 tk Z (Ao.toU8 tk Z Z Z Z Z Z Z ?_)))
 obtain⟨x22,k22,H⟩:=aV H
 refine tQ tk Z Z Z Z Z Z k22.1 k22.2 Z (ag 3 tk Z (ac ?_));exact bi tk H Z
def jH(x:Rb):Bool:=
 (!(x==x))
theorem po(x:Rb):
  aY prog 117 [(.str x)] (aK (jH x)):=by
 obtain⟨r,H⟩:∃r,jH x=r:=⟨_,rfl⟩
 rw[H];unfold jH at H;refine PH.au func117 ntmps117 ?_;refine ak 1 tk Z (ak 4 tk Z ?_);exact eA tk H Z
def lc(rA:Int):Option (Int×Int):=
 ae (shlI .u64 rA (13:Int)) fun(x9:Int)=>
 ae (shlI .u64 (jQ .u64 (jQ .u64 rA x9) (Int.fdiv (jQ .u64 rA x9) (2^7))) (17:Int)) fun(x27:Int)=>
 some ((jQ .u64 (jQ .u64 (jQ .u64 rA x9) (Int.fdiv (jQ .u64 rA x9) (2^7))) x27),(jQ .u64 (jQ .u64 (jQ .u64 rA x9) (Int.fdiv (jQ .u64 rA x9) (2^7))) x27))
theorem rk(b_rA:Nat)(rA:Int)(r:Int×Int)(H:lc rA=some r):
  PH prog 114 [(.box 1500 b_rA 0)] ⟨upd (fun _=>none) 1500 (some ⟨b_rA,[(.val (.int .u64 rA))]⟩),fun _=>none⟩ (fun u H=>u=(.val (.int .u64 r.1))/\H=⟨upd (fun _=>none) 1500 (some ⟨b_rA,[(.val (.int .u64 r.2))]⟩),fun _=>none⟩):=by
 unfold lc at H;refine PH.au func114 ntmps114 ?_;refine ak 1 tk Z (aa (aX tk mok ⟨true,false,[]⟩ [0,1,2,3,4,5,6,7,8,9] Z (by decide+kernel) Z (az 2 Z (bd ?_))));refine az 2 Z (bd ?_)
 obtain⟨x9,h9,H⟩:=am H
 refine vt Z Z Z Z Z h9 Z (vd Z Z Z Z Z Z (bw Z (fM Z Z Z Z Z Z Z Z Z Z Z Z (aQ (aa (aX tk mok ⟨true,false,[]⟩ [0,1,2,3,4,5,6,7,8,9] Z (by decide+kernel) Z (az 2 Z (bd ?_))))))));refine az 2 Z (bd ?_);refine Do.shr (m:=7) Z Z Z Z Z (by decide) Z Z (vd Z Z Z Z Z Z (bw Z (fM Z Z Z Z Z Z Z Z Z Z Z Z (aQ (aa (aX tk mok ⟨true,false,[]⟩ [0,1,2,3,4,5,6,7,8,9] Z (by decide+kernel) Z (az 2 Z (bd ?_))))))));refine az 2 Z (bd ?_)
 obtain⟨x27,h27,H⟩:=am H
 refine vt Z Z Z Z Z h27 Z (vd Z Z Z Z Z Z (bw Z (fM Z Z Z Z Z Z Z Z Z Z Z Z (aQ (aa (ab (ag 2 tk Z (aJ tk ?_))))))));refine ai tk Z (ac ?_);obtain rfl:=aq H;refine bZ (st':=⟨33,upd (fun _=>.any) 2 (.val (.int .u64 (jQ .u64 (jQ .u64 (jQ .u64 rA x9) (Int.fdiv (jQ .u64 rA x9) (2^7))) x27))),upd (fun _=>none) 1500 (some ⟨b_rA,[(.val (.int .u64 (jQ .u64 (jQ .u64 (jQ .u64 rA x9) (Int.fdiv (jQ .u64 rA x9) (2^7))) x27)))]⟩),fun _=>none⟩) (Gh.le (ao aL) (aR Z (jt.r) aw) ax) ?_;refine cl tk Z (ps:=[(.val (.int .u64 (jQ .u64 (jQ .u64 (jQ .u64 rA x9) (Int.fdiv (jQ .u64 rA x9) (2^7))) x27)))]) ⟨_,_,rfl,rfl,rfl⟩ (PLe.q Z) ⟨rfl,rfl⟩
def hC(data:Rs)(a:Int)(b:Int):Option (Rs):=
 ae (dg (σ:=Rs×Int×Int) (ρ:=Empty) (fun(s1:Rs×Int×Int)=>
  cond (decide (s1.2.1<s1.2.2))
   (ae (aG s1.1 s1.2.2) fun(x20:Rb)=>
   ae (aG s1.1 s1.2.1) fun(x24:Rb)=>
   ae (aG s1.1 s1.2.1) fun(_:Rb)=>
   letP (s1.1.set s1.2.1.toNat x20) fun(y6:Rs)=>
   ae (aG y6 s1.2.2) fun(_:Rb)=>
   letP (y6.set s1.2.2.toNat x24) fun(y7:Rs)=>
   some (.next (y7,(iw (s1.2.1+(1:Int))),(iw (s1.2.2-(1:Int))))))
   (some (.brk (s1.1,s1.2.1,s1.2.2)))) (data,a,(iw (b-(1:Int))))) fun fl1=>fl1.thenP fun(s1:Rs×Int×Int)=>
 some s1.1
theorem mN(g_data:OwnRef)(data:Rs)(a:Int)(b:Int)(r:Rs)(H:hC data a b=some r):
  PH prog 82 [(.own 0 g_data (data.map aA).length),(ah a),(ah b)] ⟨fun _=>none,upd (fun _=>none) 0 (some ⟨g_data,9,(data.map aA),true⟩)⟩ (fun u H=>u=(.tup [])/\H=⟨fun _=>none,upd (fun _=>none) 0 (some ⟨g_data,9,(r.map aA),true⟩)⟩):=by
 unfold hC at H;refine PH.au func82 ntmps82 ?_;refine ak 2 tk Z (ak 3 tk Z ?_)
 obtain⟨fl1,H1,Hp1⟩:=am H
 refine dj (τ:=Rs×Int×Int) (γ:=Unit) (fun s1 g1=>⟨32,upd (fun _=>.any) 0 (.own 0 g_data (s1.1.map aA).length),fun _=>none,upd (fun _=>none) 0 (some ⟨g_data,9,(s1.1.map aA),true⟩)⟩) (fun t=>fl1= .next t) ?_ (fun s1 g1 hn1=>?_)
 ·refine av ?_;refine cO (fun s1 g1=>⟨32,upd (upd (upd (fun _=>.any) 7 (ah s1.2.2)) 6 (ah s1.2.1)) 0 (.own 0 g_data (s1.1.map aA).length),fun _=>none,upd (fun _=>none) 0 (some ⟨g_data,9,(s1.1.map aA),true⟩)⟩) () H1 Gh.d (fun m1 s1 g1 hr1=>?_)
  obtain⟨fb1,H,hg1⟩:=cp hr1
  refine aa (ak 3 tk Z ?_);refine aF Z H (fun H=>?_) (fun H=>?_)
  ·refine al (av (aa ?_));refine cA (tag:=0) Z (fun ho0=>?_);refine aX tk mok ⟨false,true,[]⟩ [0,1,2,3,4,5,6,7,8,9,10,11,12,13,14,15] Z (by decide+kernel) Z (az 6 Z ?_)
   obtain⟨x20,k20,H⟩:=aV H
   refine aT tk ⟨k20.1,(bh k20.2)⟩ (bf ho0 k20.2) ?_;refine bo tk Z Z Z Z Z Z Z Z Z (aC (fun _=>Z) k20.2) Z Z ?_;refine az 2 Z ?_
   obtain⟨x24,k24,H⟩:=aV H
   refine aT tk ⟨k24.1,(bh k24.2)⟩ (bf ho0 k24.2) ?_;refine bo tk Z Z Z Z Z Z Z Z Z (aC (fun _=>Z) k24.2) Z Z ?_
   obtain⟨x26,k26,H⟩:=aV H
   refine aT tk ⟨k26.1,(bh k26.2)⟩ (bf ho0 k26.2) ?_
   obtain⟨y6,hy6,H⟩:=bF H
   refine cg tk Z Z Z Z Z Z Z Z Z (by rw[zl];exact(zg.1 k26.2).1) (PLe.refl _ _) Z Z Z Z (by decide) (bD (fun _=>Z) k26.2 Z hy6) ?_
   obtain⟨x27,k27,H⟩:=aV H
   refine aT tk ⟨k27.1,(gJ (bt (f:=aA) hy6) k27.2)⟩ (gX ho0 (bt (f:=aA) hy6) k27.2) ?_
   obtain⟨y7,hy7,H⟩:=bF H
   refine cg tk Z Z Z Z Z Z Z Z Z (by rw[zl];exact(zg.1 k27.2).1) (PLe.refl _ _) Z Z Z Z (by decide) (bD (fun _=>Z) k27.2 Z hy7) ?_;refine aQ (ak 3 tk Z (bc 3 tk Z (aM ?_)));obtain rfl:=aq H;refine ce (y7,(iw (s1.2.1+(1:Int))),(iw (s1.2.2-(1:Int)))) () hg1 (Gh.le (bp (PLe.of2 (pD.of_eq (congrArg (PV.own 0 g_data) ((bt (f:=aA) hy6).trans (bt (f:=aA) hy7))))) (ao (ao aL))) aw (aD ax))
  refine bj Z ?_;obtain rfl:=aq H;refine aP (s1.1,s1.2.1,s1.2.2) () hg1 Gh.d
 have H:=ci hn1 Hp1;obtain rfl:=aq H;refine bZ (st':=⟨32,fun _=>.any,fun _=>none,upd (fun _=>none) 0 (some ⟨g_data,9,(s1.1.map aA),true⟩)⟩) (Gh.le aL aw (aD ax)) ?_;refine iO Z (PLe.q Z) ⟨rfl,rfl⟩
def go(sA:Rs):Option Rs:=
 cond (decide ((sA.length:Int)<(2:Int)))
  (some sA)
  (ae (dg (σ:=Rs×Int) (ρ:=Rs) (fun(s1:Rs×Int)=>
   cond (decide (s1.2<(s1.1.length:Int)))
    (ae (aG s1.1 s1.2) fun(x18:Rb)=>
    ae (aG s1.1 (iw (s1.2-(1:Int)))) fun(x23:Rb)=>
    cond (x18==x23)
     (ae (nk s1.1 s1.2) fun(y16:Rs)=>
     ae (dg (σ:=Rs×Int×Int) (ρ:=Empty) (fun(s17:Rs×Int×Int)=>
      cond (decide (s17.2.2<(((s1.1.map aA).length-s1.2.toNat:Nat):Int)))
       (ae (getS s17.1 s1.2.toNat ((s1.1.map aA).length) s17.2.2) fun(x37:Rb)=>
       ae (getS s17.1 s1.2.toNat ((s1.1.map aA).length) (iw (s17.2.2-(1:Int)))) fun(x42:Rb)=>
       cond (!(x37==x42))
        (ae (getS s17.1 s1.2.toNat ((s1.1.map aA).length) s17.2.2) fun(x49:Rb)=>
        ae (aG s17.1 s17.2.1) fun(_:Rb)=>
        letP (s17.1.set s17.2.1.toNat x49) fun(y20:Rs)=>
        some (.next (y20,(iw (s17.2.1+(1:Int))),(iw (s17.2.2+(1:Int))))))
        (some (.next (s17.1,s17.2.1,(iw (s17.2.2+(1:Int)))))))
       (some (.brk (s17.1,s17.2.1,s17.2.2)))) (s1.1,s1.2,1)) fun fl17=>fl17.thenP fun(s17:Rs×Int×Int)=>
     ae (nk s17.1 s17.2.1) fun(y21:Rs)=>
     ae (nk y21 s17.2.1) fun(y22:Rs)=>
     some (.ret y22))
     (some (.next (s1.1,(iw (s1.2+(1:Int)))))))
    (some (.brk (s1.1,s1.2)))) (sA,1)) fun fl1=>fl1.thenR fun(s1:Rs×Int)=>
  some s1.1)
theorem kF(g_sA:OwnRef)(sA:Rs)(r:Rs)(H:go sA=some r):
  PH prog 29 [(.own 0 g_sA (sA.map aA).length)] ⟨fun _=>none,upd (fun _=>none) 0 (some ⟨g_sA,9,(sA.map aA),true⟩)⟩ (fun u H=>u= .own 0 g_sA (r.map aA).length/\H=⟨fun _=>none,upd (fun _=>none) 0 (some ⟨g_sA,9,(r.map aA),true⟩)⟩):=by
 unfold go at H;refine PH.au func29 ntmps29 ?_;refine ak 1 tk Z (aa (aa (ab (ai tk Z (eg tk (zl _) ?_)))));refine ai tk Z (ac ?_);refine aF Z H (fun H=>?_) (fun H=>?_)
 ·refine ak 2 tk Z ?_;obtain rfl:=aq H;refine bZ (st':=⟨61,upd (fun _=>.any) 2 (.own 0 g_sA (sA.map aA).length),fun _=>none,upd (fun _=>none) 0 (some ⟨g_sA,9,(sA.map aA),true⟩)⟩) (Gh.le (ao aL) aw (aD ax)) ?_;refine cl tk Z (ps:=[(.own 0 g_sA (sA.map aA).length)]) ⟨_,_,rfl,rfl,rfl⟩ (PLe.of2 (pD.own Z)) ⟨rfl,rfl⟩
 refine al (aa (ak 1 tk Z ?_))
 obtain⟨fl1,H1,Hp1⟩:=am H
 refine dj (τ:=Rs×Int) (γ:=Unit) (fun s1 g1=>⟨61,upd (fun _=>.any) 0 (.own 0 g_sA (s1.1.map aA).length),fun _=>none,upd (fun _=>none) 0 (some ⟨g_sA,9,(s1.1.map aA),true⟩)⟩) (fun t=>fl1= .next t) ?_ (fun s1 g1 hn1=>?_)
 ·refine av ?_;refine cO (fun s1 g1=>⟨61,upd (upd (fun _=>.any) 3 (ah s1.2)) 0 (.own 0 g_sA (s1.1.map aA).length),fun _=>none,upd (fun _=>none) 0 (some ⟨g_sA,9,(s1.1.map aA),true⟩)⟩) () H1 Gh.d (fun m1 s1 g1 hr1=>?_)
  obtain⟨fb1,H,hg1⟩:=cp hr1
  refine aa (aa (ab (ag 2 tk Z (eg tk (zl _) ?_))));refine ai tk Z (ac ?_);refine aF Z H (fun H=>?_) (fun H=>?_)
  ·refine al (aa (av (aa ?_)));refine cA (tag:=0) Z (fun ho0=>?_);refine aX tk mok ⟨false,true,[]⟩ [0,1,2,3,4,5,6,7,8,9] Z (by decide+kernel) Z (az 2 Z ?_)
   obtain⟨x18,k18,H⟩:=aV H
   refine aT tk ⟨k18.1,(bh k18.2)⟩ (bf ho0 k18.2) ?_;refine bo tk Z Z Z Z Z Z Z Z Z (aC (fun _=>Z) k18.2) Z Z ?_;refine az 3 Z ?_
   obtain⟨x23,k23,H⟩:=aV H
   refine aT tk ⟨k23.1,(bh k23.2)⟩ (bf ho0 k23.2) ?_;refine bo tk Z Z Z Z Z Z Z Z Z (aC (fun _=>Z) k23.2) Z Z ?_;refine bw Z (aQ ?_);refine aF Z H (fun H=>?_) (fun H=>?_)
   ·refine aa (ab (ag 2 tk Z ?_))
    obtain⟨y16,hy16,H⟩:=am H
    have ky16:=mz hy16;refine tV (tag:=0) Z (fun hcy16=>?_);have hny16:(s1.1.map aA).length=(List.map aA s1.1).length:=rfl;have hmy16:=ky16.2.1;rw[<-zl (f:=aA),<-hny16]at hmy16;rw[<-hny16]at hcy16;refine iJ (l:=s1.2.toNat) (h:=(s1.1.map aA).length) (m:=g_sA.cap) tk Z Z Z Z Z Z ⟨_,_,rfl,(Int.toNat_of_nonneg ky16.1).symm⟩ Z Z (by decide) hmy16 hcy16 (Nat.le_refl _) Z (ai tk Z (ac (aa (ak 1 tk Z ?_))))
    obtain⟨fl17,H17,Hp17⟩:=am H
    refine dj (τ:=Rs×Int×Int) (γ:=Unit) (fun s17 g17=>⟨61,upd (upd (fun _=>.any) 3 (ah s17.2.1)) 0 (.own 0 g_sA (s17.1.map aA).length),fun _=>none,upd (fun _=>none) 0 (some ⟨g_sA,9,(s17.1.map aA),true⟩)⟩) (fun t=>fl17= .next t) ?_ (fun s17 g17 hn17=>?_)
    ·refine av ?_;refine cO (fun s17 g17=>⟨61,upd (upd (upd (upd (fun _=>.any) 5 (ah s17.2.2)) 4 (.val (OwnRef.sub g_sA 1 s1.2.toNat ((s1.1.map aA).length) g_sA.cap))) 3 (ah s17.2.1)) 0 (.own 0 g_sA (s17.1.map aA).length),fun _=>none,upd (fun _=>none) 0 (some ⟨g_sA,9,(s17.1.map aA),true⟩)⟩) () H17 Gh.d (fun m17 s17 g17 hr17=>?_)
     obtain⟨fb17,H,hg17⟩:=cp hr17
     refine aa (aa (ab (ag 2 tk Z (Ao.lenV tk Z Z Z Z Z Z (ai tk Z (ac ?_))))));refine aF Z H (fun H=>?_) (fun H=>?_)
     ·refine al (aa (av (aa ?_)));refine cA (tag:=0) Z (fun ho0=>?_);refine aX tk mok ⟨false,true,[]⟩ [0,1,2,3,4,5,6,7,8,9] Z (by decide+kernel) Z (az 2 Z ?_)
      obtain⟨x37,k37,H⟩:=getSE H
      refine vj tk Z Z Z Z Z Z 0 Z Z Z k37.1 hcy16 (bf ho0 k37.2) Z ?_;refine bo tk Z Z Z Z Z Z Z Z Z (rowsGetN (fun _=>Z) k37.2) Z Z ?_;refine az 3 Z ?_
      obtain⟨x42,k42,H⟩:=getSE H
      refine vj tk Z Z Z Z Z Z 0 Z Z Z k42.1 hcy16 (bf ho0 k42.2) Z ?_;refine bo tk Z Z Z Z Z Z Z Z Z (rowsGetN (fun _=>Z) k42.2) Z Z ?_;refine bw Z (aQ ?_);refine aF Z H (fun H=>?_) (fun H=>?_)
      ·refine aa (ab (ag 4 tk Z ?_))
       obtain⟨x49,k49,H⟩:=getSE H
       refine jJ (tag:=0) Z (fun ho0=>?_);refine Ao.idxV tk Z Z Z Z Z 0 Z Z Z k49.1 hcy16 (bf ho0 k49.2) Z ?_;refine lJ tk (rowsGetN (fun _=>Z) k49.2) ?_
       obtain⟨x51,k51,H⟩:=aV H
       refine jJ (tag:=0) Z (fun ho0=>?_);refine iV tk ⟨k51.1,(bh k51.2)⟩ (bf ho0 k51.2) ?_
       obtain⟨y20,hy20,H⟩:=bF H
       refine mA tk Z Z Z Z Z Z Z Z (by rw[zl];exact(zg.1 k51.2).1) (PLe.refl _ _) Z Z Z Z (by decide) (bD (fun _=>Z) k51.2 Z hy20) ?_;refine ac (bc 3 tk Z (aM (bc 3 tk Z ?_)));obtain rfl:=aq H;refine ce (y20,(iw (s17.2.1+(1:Int))),(iw (s17.2.2+(1:Int)))) () hg17 (Gh.le (bp (PLe.of2 (pD.of_eq (congrArg (PV.own 0 g_sA) (bt (f:=aA) hy20)))) (ao (ao (ao aL)))) aw (aD ax))
      refine al (aM (bc 3 tk Z ?_));obtain rfl:=aq H;refine ce (s17.1,s17.2.1,(iw (s17.2.2+(1:Int)))) () hg17 Gh.d
     refine bj Z ?_;obtain rfl:=aq H;refine aP (s17.1,s17.2.1,s17.2.2) () hg17 Gh.d
    have H:=ci hn17 Hp17;refine aa (ab (ag 2 tk Z ?_))
    obtain⟨y21,hy21,H⟩:=am H
    have ky21:=mz hy21;refine tV (tag:=0) Z (fun hcy21=>?_);have hny21:(s17.1.map aA).length=(List.map aA s17.1).length:=rfl;have hmy21:=ky21.2.1;rw[<-zl (f:=aA),<-hny21]at hmy21;rw[<-hny21]at hcy21;refine iJ (l:=s17.2.1.toNat) (h:=(s17.1.map aA).length) (m:=g_sA.cap) tk Z Z Z Z Z Z ⟨_,_,rfl,(Int.toNat_of_nonneg ky21.1).symm⟩ Z Z (by decide) hmy21 hcy21 (Nat.le_refl _) Z (bS (Gh.cutO (tag:=0) (rows':=List.map aA y21) Z s17.2.1.toNat (by rw[<-List.map_take,ky21.2.2])) ?_);refine nE (tag:=0) (rows:=List.map aA y21) tk Z Z Z Z Z Z Z Z Z (p:=s17.2.1.toNat) (q:=(s17.1.map aA).length) (m:=g_sA.cap) (by rw[zl,ky21.2.2,List.length_take];exact Nat.min_le_left _ _) hmy21 hcy21 (Nat.le_refl _) Z ?_;refine ac (aa (ab (ag 2 tk Z ?_)))
    obtain⟨y22,hy22,H⟩:=am H
    have ky22:=mz hy22;refine uS (rows':=List.map aA y22) tk Z Z Z Z Z Z Z Z ⟨ky22.1,by rw[zl];exact ky22.2.1⟩ (by rw[<-List.map_take,ky22.2.2]) Z Z ?_;refine ai tk Z (ac ?_);obtain rfl:=aq H;have e1:fl1= .ret _:=hg1;subst e1;obtain rfl:=aZ Hp1;refine bZ (st':=⟨61,upd (fun _=>.any) 2 (.own 0 g_sA (y22.map aA).length),fun _=>none,upd (fun _=>none) 0 (some ⟨g_sA,9,(y22.map aA),true⟩)⟩) (Gh.le (ao aL) aw (aD ax)) ?_;refine cl tk Z (ps:=[(.own 0 g_sA (y22.map aA).length)]) ⟨_,_,rfl,rfl,rfl⟩ (PLe.of2 (pD.own Z)) ⟨rfl,rfl⟩
   refine al (aM (bc 3 tk Z ?_));obtain rfl:=aq H;refine ce (s1.1,(iw (s1.2+(1:Int)))) () hg1 Gh.d
  refine bj Z ?_;obtain rfl:=aq H;refine aP (s1.1,s1.2) () hg1 Gh.d
 have H:=iW hn1 Hp1;refine ak 2 tk Z ?_;obtain rfl:=aq H;refine bZ (st':=⟨61,upd (fun _=>.any) 2 (.own 0 g_sA (s1.1.map aA).length),fun _=>none,upd (fun _=>none) 0 (some ⟨g_sA,9,(s1.1.map aA),true⟩)⟩) (Gh.le (ao aL) aw (aD ax)) ?_;refine cl tk Z (ps:=[(.own 0 g_sA (s1.1.map aA).length)]) ⟨_,_,rfl,rfl,rfl⟩ (PLe.of2 (pD.own Z)) ⟨rfl,rfl⟩
def fO(sA:List LChange)(f:LChange->Option (Bool)):Option (Int):=
 ae (aU (σ:=Unit) (ρ:=(Int)) (fun(j1:Nat) (x1:LChange) (_:Unit)=>
  ae (f x1) fun x16=>
  cond x16
   (some (.ret (j1:Int)))
   (some (.next ()))) 0 sA ()) fun fl1=>fl1.thenR fun(_:Unit)=>
 some (-1)
theorem lG{g_f:FuncId}{caps_f:List PV}(sA:List LChange)(f:LChange->Option (Bool))(hg_f:∀(vs:Array Value) (w:World),(callFunc g_f vs).run prog w= .ok (.enter g_f vs) w)(hp_f:∀a0 r,f a0=some r->aY prog g_f ((.agg (cu a0))::caps_f) (aK r))(r:Int)(H:fO sA f=some r):
  aY prog 30 [(.list 48 (sA.map cu)),(.fn g_f caps_f)] (ah r):=by
 unfold fO at H;refine PH.au func30 ntmps30 ?_;refine ak 1 tk Z (aa (aa (ab (ai tk Z (aI tk (zl _) ?_)))));refine ai tk Z (ac ?_);refine ff tk 8 7 0 (fun s1 g1=>upd (fun _=>.any) 1 (.fn g_f caps_f)) nB nO () H (fun fl1 Hp1 j1 s1 g1 hz1 hl1 x1 fb1 hx1 H hg1=>?_) (fun s1 g1 H=>?_)
 ·refine aa (av (ak 2 tk Z (aa (ab (ag 3 tk Z ?_)))));refine be tk (zn j1) (bA (fun _=>Z) hx1) ?_;refine ai tk Z ?_
  obtain⟨x16,h16,H⟩:=am H
  refine aj hg_f (jt.r) (hp_f _ _ h16) ?_;refine ac ?_;refine aF Z H (fun H=>?_) (fun H=>?_)
  ·refine ak 2 tk Z ?_;obtain rfl:=aq H;have e1:fl1= .ret _:=hg1;subst e1;obtain rfl:=aZ Hp1;refine bl tk Z (ps:=[(ah (j1:Int))]) ⟨_,_,rfl,rfl,rfl⟩ (PLe.q Z)
  refine al (aM (bc 2 tk Z ?_));exact bv () H hl1 hg1
 refine ak 1 tk Z ?_;exact bi tk H Z
def ez(sA:List Int)(v:Int):Option (Bool):=
 ae (jp sA v) fun x7=>
 some (decide (x7>=(0:Int)))
theorem jO(sA:List Int)(v:Int)(r:Bool)(H:ez sA v=some r):
  aY prog 93 [(.list 3 (sA.map cq)),(ah v)] (aK r):=by
 unfold ez at H;refine PH.au func93 ntmps93 ?_;refine ak 1 tk Z (aa (ab (ag 2 tk Z ?_)))
 obtain⟨x7,h7,H⟩:=am H
 have s7:=qz sA v _ h7;refine aj call119 (jt.r) s7 ?_;refine ag 2 tk Z (ac ?_);exact bi tk H Z
def fm(q:LQuery):Option ((List Int)×Int):=
 ae (jR q) fun x18=>
 ae (aU (σ:=List Int×Bool×List Bool) (ρ:=Empty) (fun(_:Nat) (x1:LQuery) (s1:List Int×Bool×List Bool)=>
  ae (aU (σ:=List Int×Bool×List Bool) (ρ:=Empty) (fun(_:Nat) (x12:LExpr) (s12:List Int×Bool×List Bool)=>
   ae (gS x12 s12.1 s12.2.1 s12.2.2) fun x33=>
   some (.next (x33.1,x33.2.1,x33.2.2))) 0 x1.exprs (s1.1,s1.2.1,s1.2.2)) fun fl12=>fl12.thenP fun(s12:List Int×Bool×List Bool)=>
  ae (aU (σ:=List Int×Bool×List Bool) (ρ:=Empty) (fun(_:Nat) (x13:LAggregateCall) (s13:List Int×Bool×List Bool)=>
   ae (aU (σ:=List Int×Bool×List Bool) (ρ:=Empty) (fun(_:Nat) (x16:LExpr) (s16:List Int×Bool×List Bool)=>
    ae (gS x16 s16.1 s16.2.1 s16.2.2) fun x51=>
    some (.next (x51.1,x51.2.1,x51.2.2))) 0 x13.args (s13.1,s13.2.1,s13.2.2)) fun fl16=>fl16.thenP fun(s16:List Int×Bool×List Bool)=>
   some (.next (s16.1,s16.2.1,s16.2.2))) 0 x1.aggregates (s12.1,s12.2.1,s12.2.2)) fun fl13=>fl13.thenP fun(s13:List Int×Bool×List Bool)=>
  some (.next (s13.1,s13.2.1,s13.2.2))) 0 x18 ([],false,(List.replicate 8 false))) fun fl1=>fl1.thenP fun(s1:List Int×Bool×List Bool)=>
 cond s1.2.1
  (some ([],13))
  (some (s1.1,0))
theorem kX(q:LQuery)(r:(List Int)×Int)(H:fm q=some r):
  aY prog 125 [(.agg (bg q))] (.tup [(.list 3 (r.1.map cq)),(ah r.2)]):=by
 unfold fm at H;refine PH.au func125 ntmps125 ?_;refine aa (ab (aO ?_));refine ag 2 tk Z (ac (aa (ab ?_)));refine bm tk fun b4=>?_
 refine ac (aa (ab ?_));refine bm tk fun b5=>?_
 refine ac (aa (ab ?_));refine bm tk fun b6=>?_
 refine ay tk ?_;refine ac (aa (ab ?_));refine bm tk fun b7=>?_
 refine ac (aa (ab (ai tk Z (ay tk ?_))));refine ac (aa (aa (ab (ai tk Z ?_))))
 obtain⟨x18,h18,H⟩:=am H
 have s18:=pC (m:=18) q _ h18;refine aj call53 (jt.r) (PFun.iw s18) ?_;refine aI tk (zl _) ?_;refine ai tk Z (ac ?_)
 obtain⟨fl1,H1,Hp1⟩:=am H
 refine iI tk 18 Z Z (fun hz1 _=>?_);rw[zl]at hz1;refine dj (τ:=List Int×Bool×List Bool) (γ:=OwnRef) (fun s1 g1=>⟨57,upd (upd (fun _=>.any) 6 (.box 6 b6 0)) 4 (.box 4 b4 0),upd (upd (fun _=>none) 6 (some ⟨b6,[(aK s1.2.1)]⟩)) 4 (some ⟨b4,[(.own 1204 g1 (s1.1.map cq).length)]⟩),upd (fun _=>none) 1204 (some ⟨g1,3,(s1.1.map cq),true⟩)⟩) (fun t=>fl1= .next t) ?_ (fun s1 g1 hn1=>?_)
 ·refine av (nH tk 4 0 1204 (e:=3) Z Z Z Z ?_);refine iU (fun j1 s1 g1=>⟨57,upd (upd (upd (upd (upd (upd (fun _=>.any) 20 (ah (j1:Int))) 19 (ah (x18.length:Int))) 18 (.list 91 (x18.map dI))) 7 (.box 7 b7 0)) 6 (.box 6 b6 0)) 4 (.box 4 b4 0),upd (upd (upd (upd (fun _=>none) 7 (some ⟨b7,[(.fn 139 [(.box 4 b4 0),(.box 6 b6 0),(.box 5 b5 0),(.box 7 b7 0)])]⟩)) 6 (some ⟨b6,[(aK s1.2.1)]⟩)) 5 (some ⟨b5,(List.map aK s1.2.2)⟩)) 4 (some ⟨b4,[(.own 1204 g1 (s1.1.map cq).length)]⟩),upd (fun _=>none) 1204 (some ⟨g1,3,(s1.1.map cq),true⟩)⟩) (⟨none,0⟩) H1 Gh.d (fun j1 s1 g1 hj1 hr1=>?_);refine ak 1 tk Z (aa ?_);refine bJ Z (fun h=>?_) (fun h=>?_)
  ·have hl1:=pe h
   obtain⟨x1,fb1,hx1,H,hg1⟩:=rMc hl1 hr1
   refine al (aa (av (aa (ab (be tk (zn j1) (bA dd hx1) ?_)))));refine ai tk Z ?_;refine bm tk fun b9=>?_
   refine ay tk ?_;refine ac (aa (aa (ab (ai tk Z (aJ tk ?_)))));refine aI tk (zl _) ?_;refine ai tk Z (ac ?_);refine gc (γ:=OwnRef) tk 27 26 25 (fun s12 g12=>upd (upd (upd (upd (upd (upd (upd (fun _=>.any) 20 (ah (j1:Int))) 19 (ah (x18.length:Int))) 18 (.list 91 (x18.map dI))) 9 (.box 9 b9 0)) 7 (.box 7 b7 0)) 6 (.box 6 b6 0)) 4 (.box 4 b4 0)) (fun s12 g12=>upd (upd (upd (upd (upd (fun _=>none) 9 (some ⟨b9,(bg x1)⟩)) 7 (some ⟨b7,[(.fn 139 [(.box 4 b4 0),(.box 6 b6 0),(.box 5 b5 0),(.box 7 b7 0)])]⟩)) 6 (some ⟨b6,[(aK s12.2.1)]⟩)) 5 (some ⟨b5,(List.map aK s12.2.2)⟩)) 4 (some ⟨b4,[(.own 1204 g12 (s12.1.map cq).length)]⟩)) (fun s12 g12=>upd (fun _=>none) 1204 (some ⟨g12,3,(s12.1.map cq),true⟩)) g1 H (fun fl12 Hp12 j12 s12 g12 hz12 hl12 x12 fb12 hx12 H hg12=>?_) (fun s12 g12 H=>?_)
   ·refine aa (av (aa (ab (be tk (zn j12) (bA dh hx12) ?_))));refine ai tk Z ?_;refine bm tk fun b11=>?_
    refine ay tk ?_;refine ac (ab (aJ tk ?_));refine aJ tk ?_
    obtain⟨x33,h33,H⟩:=am H
    have s33:=mw b4 g12 b6 b5 b7 x12 s12.1 s12.2.1 s12.2.2 _ h33;refine bS (st':=⟨_,_,upd (upd (upd (upd (upd (upd (fun _=>none) 11 (some ⟨b11,(gZ x12)⟩)) 9 (some ⟨b9,(bg x1)⟩)) 7 (some ⟨b7,[(.fn 139 [(.box 1000 b4 0),(.box 1001 b6 0),(.box 1002 b5 0),(.box 1003 b7 0)])]⟩)) 6 (some ⟨b6,[(aK s12.2.1)]⟩)) 5 (some ⟨b5,(List.map aK s12.2.2)⟩)) 4 (some ⟨b4,[(.own 1100 g12 (s12.1.map cq).length)]⟩),upd (fun _=>none) 1204 (some ⟨g12,3,(s12.1.map cq),true⟩)⟩) (Gh.le (bs _ _) (aR Z (jt.of2 (jN.cons (pD.own Z) jN.nil)) (aR Z (jt.r) (aR Z (jt.r) (aR Z (jt.of2 (jN.cons (pD.fn (jN.cons pD.boxT (jN.cons pD.boxT (jN.cons pD.boxT (jN.cons pD.boxT jN.nil))))) jN.nil)) (aR Z (jt.r) (aR Z (jt.r) aw)))))) (aD ax)) ?_;refine bB (g:=139) Z Z Z call139 [(4,1000),(6,1001),(5,1002),(7,1003)] [(1204,1100)] Z Z Z Z (jt.of2 (jN.cons (pD.of_eq Z) (jN.cons pD.boxT (jN.cons pD.boxT (jN.cons pD.boxT (jN.cons pD.boxT jN.nil)))))) (by rw[cf,cf,cf,cf,bq,aW,bn];rfl) s33 ?_;rintro u33 H33h ⟨gz33_0,rfl,rfl⟩
    refine⟨_,rfl,?_⟩
    refine bS (st':=⟨_,_,upd (upd (upd (upd (upd (upd (fun _=>none) 11 (some ⟨b11,(gZ x12)⟩)) 9 (some ⟨b9,(bg x1)⟩)) 7 (some ⟨b7,[(.fn 139 [(.box 4 b4 0),(.box 6 b6 0),(.box 5 b5 0),(.box 7 b7 0)])]⟩)) 6 (some ⟨b6,[(aK x33.2.1)]⟩)) 5 (some ⟨b5,(List.map aK x33.2.2)⟩)) 4 (some ⟨b4,[(.own 1204 gz33_0 (x33.1.map cq).length)]⟩),upd (fun _=>none) 1204 (some ⟨gz33_0,3,(x33.1.map cq),true⟩)⟩) (Gh.le (bs _ _) (aR Z (jt.of2 (jN.cons (pD.own Z) jN.nil)) (aR Z (jt.r) (aR Z (jt.r) (aR Z (jt.of2 (jN.cons (pD.fn (jN.cons pD.boxT (jN.cons pD.boxT (jN.cons pD.boxT (jN.cons pD.boxT jN.nil))))) jN.nil)) (aR Z (jt.r) (aR Z (jt.r) aw)))))) (aD ax)) ?_;refine ac (aM (bc 2 tk Z ?_));exact bv gz33_0 H hl12 hg12
   refine aa (ab (ai tk Z (aJ tk ?_)));refine aI tk (zl _) ?_;refine ai tk Z (ac ?_);refine gc (γ:=OwnRef) tk 38 37 36 (fun s13 g13=>upd (upd (upd (upd (upd (upd (fun _=>.any) 20 (ah (j1:Int))) 19 (ah (x18.length:Int))) 18 (.list 91 (x18.map dI))) 7 (.box 7 b7 0)) 6 (.box 6 b6 0)) 4 (.box 4 b4 0)) (fun s13 g13=>upd (upd (upd (upd (fun _=>none) 7 (some ⟨b7,[(.fn 139 [(.box 4 b4 0),(.box 6 b6 0),(.box 5 b5 0),(.box 7 b7 0)])]⟩)) 6 (some ⟨b6,[(aK s13.2.1)]⟩)) 5 (some ⟨b5,(List.map aK s13.2.2)⟩)) 4 (some ⟨b4,[(.own 1204 g13 (s13.1.map cq).length)]⟩)) (fun s13 g13=>upd (fun _=>none) 1204 (some ⟨g13,3,(s13.1.map cq),true⟩)) g12 H (fun fl13 Hp13 j13 s13 g13 hz13 hl13 x13 fb13 hx13 H hg13=>?_) (fun s13 g13 H=>?_)
   ·refine aa (av (aa (ab ?_)));refine be tk (zn j13) (bA (fun _=>Z) hx13) ?_;refine ai tk Z ?_;refine bm tk fun b13=>?_
    refine ay tk ?_;refine ac (aa (ab (ai tk Z (aJ tk ?_))));refine aI tk (zl _) ?_;refine ai tk Z (ac ?_);refine gc (γ:=OwnRef) tk 45 44 43 (fun s16 g16=>upd (upd (upd (upd (upd (upd (upd (upd (upd (fun _=>.any) 38 (ah (j13:Int))) 37 (ah (x1.aggregates.length:Int))) 36 (.list 213 (x1.aggregates.map oW))) 20 (ah (j1:Int))) 19 (ah (x18.length:Int))) 18 (.list 91 (x18.map dI))) 7 (.box 7 b7 0)) 6 (.box 6 b6 0)) 4 (.box 4 b4 0)) (fun s16 g16=>upd (upd (upd (upd (fun _=>none) 7 (some ⟨b7,[(.fn 139 [(.box 4 b4 0),(.box 6 b6 0),(.box 5 b5 0),(.box 7 b7 0)])]⟩)) 6 (some ⟨b6,[(aK s16.2.1)]⟩)) 5 (some ⟨b5,(List.map aK s16.2.2)⟩)) 4 (some ⟨b4,[(.own 1204 g16 (s16.1.map cq).length)]⟩)) (fun s16 g16=>upd (fun _=>none) 1204 (some ⟨g16,3,(s16.1.map cq),true⟩)) g13 H (fun fl16 Hp16 j16 s16 g16 hz16 hl16 x16 fb16 hx16 H hg16=>?_) (fun s16 g16 H=>?_)
    ·refine aa (av (aa (ab (be tk (zn j16) (bA dh hx16) ?_))));refine ai tk Z ?_;refine bm tk fun b15=>?_
     refine ay tk ?_;refine ac (ab (aJ tk ?_));refine aJ tk ?_
     obtain⟨x51,h51,H⟩:=am H
     have s51:=mw b4 g16 b6 b5 b7 x16 s16.1 s16.2.1 s16.2.2 _ h51;refine bS (st':=⟨_,_,upd (upd (upd (upd (upd (fun _=>none) 15 (some ⟨b15,(gZ x16)⟩)) 7 (some ⟨b7,[(.fn 139 [(.box 1000 b4 0),(.box 1001 b6 0),(.box 1002 b5 0),(.box 1003 b7 0)])]⟩)) 6 (some ⟨b6,[(aK s16.2.1)]⟩)) 5 (some ⟨b5,(List.map aK s16.2.2)⟩)) 4 (some ⟨b4,[(.own 1100 g16 (s16.1.map cq).length)]⟩),upd (fun _=>none) 1204 (some ⟨g16,3,(s16.1.map cq),true⟩)⟩) (Gh.le (bs _ _) (aR Z (jt.of2 (jN.cons (pD.own Z) jN.nil)) (aR Z (jt.r) (aR Z (jt.r) (aR Z (jt.of2 (jN.cons (pD.fn (jN.cons pD.boxT (jN.cons pD.boxT (jN.cons pD.boxT (jN.cons pD.boxT jN.nil))))) jN.nil)) (aR Z (jt.r) aw))))) (aD ax)) ?_;refine bB (g:=139) Z Z Z call139 [(4,1000),(6,1001),(5,1002),(7,1003)] [(1204,1100)] Z Z Z Z (jt.of2 (jN.cons (pD.of_eq Z) (jN.cons pD.boxT (jN.cons pD.boxT (jN.cons pD.boxT (jN.cons pD.boxT jN.nil)))))) (by rw[cf,cf,cf,cf,bq,aW,bn];rfl) s51 ?_;rintro u51 H51h ⟨gz51_0,rfl,rfl⟩
     refine⟨_,rfl,?_⟩
     refine bS (st':=⟨_,_,upd (upd (upd (upd (upd (fun _=>none) 15 (some ⟨b15,(gZ x16)⟩)) 7 (some ⟨b7,[(.fn 139 [(.box 4 b4 0),(.box 6 b6 0),(.box 5 b5 0),(.box 7 b7 0)])]⟩)) 6 (some ⟨b6,[(aK x51.2.1)]⟩)) 5 (some ⟨b5,(List.map aK x51.2.2)⟩)) 4 (some ⟨b4,[(.own 1204 gz51_0 (x51.1.map cq).length)]⟩),upd (fun _=>none) 1204 (some ⟨gz51_0,3,(x51.1.map cq),true⟩)⟩) (Gh.le (bs _ _) (aR Z (jt.of2 (jN.cons (pD.own Z) jN.nil)) (aR Z (jt.r) (aR Z (jt.r) (aR Z (jt.of2 (jN.cons (pD.fn (jN.cons pD.boxT (jN.cons pD.boxT (jN.cons pD.boxT (jN.cons pD.boxT jN.nil))))) jN.nil)) (aR Z (jt.r) aw))))) (aD ax)) ?_;refine ac (aM (bc 2 tk Z ?_));exact bv gz51_0 H hl16 hg16
    refine aM (bc 2 tk Z ?_);exact bv g16 H hl13 hg13
   refine aM (bc 2 tk Z ?_);exact bv g13 H hl1 hg1
  have hn1:=rMd (pf h) hr1;refine bj Z ?_;refine aP s1 g1 hn1 Gh.d
 have H:=ci hn1 Hp1;refine aa (aa (ab (aJ tk ?_)));refine ac ?_;refine aF Z H (fun H=>?_) (fun H=>?_)
 ·refine ak 2 tk Z ?_;obtain rfl:=aq H;refine bl tk Z (ps:=[(.val (.slice none 0 0)),(ah 13)]) ⟨_,_,rfl,rfl,_,_,rfl,rfl,rfl⟩ (PLe.of2 (pD.tup (jN.cons (pD.nil tk Z) (jN.cons (pD.of_eq Z) jN.nil))))
 refine al (aa (ab (aJ tk ?_)));refine ag 2 tk Z (ac (cT 2 Z Z Z ?_));exact bi tk H Z
def dB(sA:List LCol)(del:LCol->Option (Bool)):Option (List LCol):=
 ae (dv sA del) fun x10=>
 ae (cF (x10.2.length=sA.length) ()) fun(_:Unit)=>
 cond (x10.1==(-1))
  (some x10.2)
  (ae (dg (σ:=List LCol×Int×Int) (ρ:=Empty) (fun(s1:List LCol×Int×Int)=>
   cond (decide (s1.2.2<(s1.1.length:Int)))
    (ae (aG s1.1 s1.2.2) fun(x24:LCol)=>
    ae (del x24) fun x28=>
    cond (!x28)
     (ae (aG s1.1 s1.2.1) fun(_:LCol)=>
     letP (s1.1.set s1.2.1.toNat x24) fun(y4:List LCol)=>
     some (.next (y4,(iw (s1.2.1+(1:Int))),(iw (s1.2.2+(1:Int))))))
     (some (.next (s1.1,s1.2.1,(iw (s1.2.2+(1:Int)))))))
    (some (.brk (s1.1,s1.2.1,s1.2.2)))) (x10.2,x10.1,(iw (x10.1+(1:Int))))) fun fl1=>fl1.thenP fun(s1:List LCol×Int×Int)=>
  ae (nk s1.1 s1.2.1) fun(y5:List LCol)=>
  ae (nk y5 s1.2.1) fun(y6:List LCol)=>
  some y6)
theorem lA(g_sA:OwnRef){g_del:FuncId}{caps_del:List PV}(sA:List LCol)(del:LCol->Option (Bool))(hg_del:∀(vs:Array Value) (w:World),(callFunc g_del vs).run prog w= .ok (.enter g_del vs) w)(hp_del:∀a0 r,del a0=some r->aY prog g_del ((.agg (aB a0))::caps_del) (aK r))(r:List LCol)(H:dB sA del=some r):
  PH prog 121 [(.own 0 g_sA (sA.map aB).length),(.fn g_del caps_del)] ⟨fun _=>none,upd (fun _=>none) 0 (some ⟨g_sA,53,(sA.map aB),true⟩)⟩ (fun u H=>u= .own 0 g_sA (r.map aB).length/\H=⟨fun _=>none,upd (fun _=>none) 0 (some ⟨g_sA,53,(r.map aB),true⟩)⟩):=by
 unfold dB at H;refine PH.au func121 ntmps121 ?_;refine ak 1 tk Z (aa (ab (ag 2 tk Z ?_)))
 obtain⟨x10,h10,H⟩:=am H
 have s10:=lh g_sA sA del hg_del hp_del _ h10
 obtain⟨_,q10_0,H⟩:=am H
 have l10_0:=(bG q10_0).1;have z10_0:(List.map aB sA).length=(List.map aB x10.2).length:=by simpa using(l10_0).symm
 refine bB (g:=89) Z Z Z call89 [] [(0,0)] Z Z Z Z (jt.of2 (jN.cons (pD.own Z) (jN.cons (pD.of_eq Z) jN.nil))) (by rw[bq,aW,bn];rfl) s10 ?_;rintro u10 H10h ⟨rfl,rfl⟩
 refine⟨_,rfl,?_⟩
 refine bS (st':=⟨_,_,fun _=>none,upd (fun _=>none) 0 (some ⟨g_sA,53,(x10.2.map aB),true⟩)⟩) (Gh.le (bs _ _) aw (aD ax)) ?_;refine ai tk Z (ac (aa (ak 2 tk Z ?_)));refine aF Z H (fun H=>?_) (fun H=>?_)
 ·refine ak 2 tk Z ?_;obtain rfl:=aq H;refine bZ (st':=⟨42,upd (fun _=>.any) 4 (.own 0 g_sA (sA.map aB).length),fun _=>none,upd (fun _=>none) 0 (some ⟨g_sA,53,(x10.2.map aB),true⟩)⟩) (Gh.le (ao aL) aw (aD ax)) ?_;refine cl tk Z (ps:=[(.own 0 g_sA (sA.map aB).length)]) ⟨_,_,rfl,rfl,rfl⟩ (PLe.of2 (pD.own z10_0)) ⟨rfl,rfl⟩
 refine al (aa (ak 3 tk Z ?_))
 obtain⟨fl1,H1,Hp1⟩:=am H
 refine dj (τ:=List LCol×Int×Int) (γ:=Unit) (fun s1 g1=>⟨42,upd (upd (fun _=>.any) 5 (ah s1.2.1)) 0 (.own 0 g_sA (s1.1.map aB).length),fun _=>none,upd (fun _=>none) 0 (some ⟨g_sA,53,(s1.1.map aB),true⟩)⟩) (fun t=>fl1= .next t) ?_ (fun s1 g1 hn1=>?_)
 ·refine av ?_;refine cO (fun s1 g1=>⟨42,upd (upd (upd (upd (fun _=>.any) 6 (ah s1.2.2)) 5 (ah s1.2.1)) 1 (.fn g_del caps_del)) 0 (.own 0 g_sA (s1.1.map aB).length),fun _=>none,upd (fun _=>none) 0 (some ⟨g_sA,53,(s1.1.map aB),true⟩)⟩) () H1 (Gh.le (bp (PLe.of2 (pD.of_eq (congrArg (PV.own 0 g_sA) z10_0))) (ao (ao (ao aL)))) aw (aD ax)) (fun m1 s1 g1 hr1=>?_)
  obtain⟨fb1,H,hg1⟩:=cp hr1
  refine aa (aa (ab (ag 2 tk Z (eg tk (zl _) ?_))));refine ai tk Z (ac ?_);refine aF Z H (fun H=>?_) (fun H=>?_)
  ·refine al (aa (av (aa (ab (ag 2 tk Z ?_)))))
   obtain⟨x24,k24,H⟩:=aV H
   refine jJ (tag:=0) Z (fun ho0=>?_);refine iV tk ⟨k24.1,(bh k24.2)⟩ (bf ho0 k24.2) ?_;refine lJ tk (aC (fun _=>Z) k24.2) ?_;refine bm tk fun b7=>?_
   refine ay tk ?_;refine ac (aa (ab (ai tk Z (aJ tk ?_))))
   obtain⟨x28,h28,H⟩:=am H
   refine aj hg_del (jt.r) (hp_del _ _ h28) ?_;refine ai tk Z (ac ?_);refine aF Z H (fun H=>?_) (fun H=>?_)
   ·refine aa (ab (ag 2 tk Z (aJ tk ?_)))
    obtain⟨x33,k33,H⟩:=aV H
    refine jJ (tag:=0) Z (fun ho0=>?_);refine iV tk ⟨k33.1,(bh k33.2)⟩ (bf ho0 k33.2) ?_
    obtain⟨y4,hy4,H⟩:=bF H
    refine mA tk Z Z Z Z Z Z Z Z (by rw[zl];exact(zg.1 k33.2).1) (PLe.refl _ _) Z Z Z Z (by decide) (bD (fun _=>Z) k33.2 Z hy4) ?_;refine ac (bc 3 tk Z (aM (bc 3 tk Z ?_)));obtain rfl:=aq H;refine ce (y4,(iw (s1.2.1+(1:Int))),(iw (s1.2.2+(1:Int)))) () hg1 (Gh.le (bp (PLe.of2 (pD.of_eq (congrArg (PV.own 0 g_sA) (bt (f:=aB) hy4)))) (ao (ao (ao aL)))) aw (aD ax))
   refine al (aM (bc 3 tk Z ?_));obtain rfl:=aq H;refine ce (s1.1,s1.2.1,(iw (s1.2.2+(1:Int)))) () hg1 Gh.d
  refine bj Z ?_;obtain rfl:=aq H;refine aP (s1.1,s1.2.1,s1.2.2) () hg1 Gh.d
 have H:=ci hn1 Hp1;refine aa (ab (ag 2 tk Z ?_))
 obtain⟨y5,hy5,H⟩:=am H
 have ky5:=mz hy5;refine tV (tag:=0) Z (fun hcy5=>?_);have hny5:(s1.1.map aB).length=(List.map aB s1.1).length:=rfl;have hmy5:=ky5.2.1;rw[<-zl (f:=aB),<-hny5]at hmy5;rw[<-hny5]at hcy5;refine iJ (l:=s1.2.1.toNat) (h:=(s1.1.map aB).length) (m:=g_sA.cap) tk Z Z Z Z Z Z ⟨_,_,rfl,(Int.toNat_of_nonneg ky5.1).symm⟩ Z Z (by decide) hmy5 hcy5 (Nat.le_refl _) Z (bS (Gh.cutO (tag:=0) (rows':=List.map aB y5) Z s1.2.1.toNat (by rw[<-List.map_take,ky5.2.2])) ?_);refine nE (tag:=0) (rows:=List.map aB y5) tk Z Z Z Z Z Z Z Z Z (p:=s1.2.1.toNat) (q:=(s1.1.map aB).length) (m:=g_sA.cap) (by rw[zl,ky5.2.2,List.length_take];exact Nat.min_le_left _ _) hmy5 hcy5 (Nat.le_refl _) Z ?_;refine ac (aa (ab (ag 2 tk Z ?_)))
 obtain⟨y6,hy6,H⟩:=am H
 have ky6:=mz hy6;refine uS (rows':=List.map aB y6) tk Z Z Z Z Z Z Z Z ⟨ky6.1,by rw[zl];exact ky6.2.1⟩ (by rw[<-List.map_take,ky6.2.2]) Z Z ?_;refine ai tk Z (ac ?_);obtain rfl:=aq H;refine bZ (st':=⟨42,upd (fun _=>.any) 4 (.own 0 g_sA (y6.map aB).length),fun _=>none,upd (fun _=>none) 0 (some ⟨g_sA,53,(y6.map aB),true⟩)⟩) (Gh.le (ao aL) aw (aD ax)) ?_;refine cl tk Z (ps:=[(.own 0 g_sA (y6.map aB).length)]) ⟨_,_,rfl,rfl,rfl⟩ (PLe.of2 (pD.own Z)) ⟨rfl,rfl⟩
def ik(q:LQuery):Option (Int):=
 ae (nX q) fun x7=>
 some x7.2
theorem pp(q:LQuery)(r:Int)(H:ik q=some r):
  aY prog 124 [(.agg (bg q))] (ah r):=by
 unfold ik at H;refine PH.au func124 ntmps124 ?_;refine aa (ab (aO ?_));refine ai tk Z (ac (aa (ab (ai tk Z ?_))))
 obtain⟨x7,h7,H⟩:=am H
 have s7:=W_query_most q _ h7;refine aj call138 (jt.r) s7 ?_;refine ag 5 tk Z (ac (ak 2 tk Z ?_));exact bi tk H Z
def jF(kind:Int)(a:List LCol)(b:List LCol):Option ((List LCol)×Int):=
 cond ((a.length:Int) !=(b.length:Int))
  (some ([],7))
  (ae (aU (σ:=List LCol) (ρ:=((List LCol)×Int)) (fun(j1:Nat) (x1:LCol) (s1:List LCol)=>
   ae (aG b (j1:Int)) fun(x29:LCol)=>
   cond (x1.kind !=x29.kind)
    (some (.ret ([],7)))
    (cond x1.nullable
     (ae (aG s1 (j1:Int)) fun(x51:LCol)=>
     letP (s1.set ((j1:Int).toNat) (LCol.mk x51.name x51.kind true)) fun(y8:List LCol)=>
     some (.next y8))
     (cond (kind==(6:Int))
      (ae (aG b (j1:Int)) fun(x46:LCol)=>
      ae (aG s1 (j1:Int)) fun(x51:LCol)=>
      letP (s1.set ((j1:Int).toNat) (LCol.mk x51.name x51.kind x46.nullable)) fun(y9:List LCol)=>
      some (.next y9))
      (ae (aG s1 (j1:Int)) fun(x51:LCol)=>
      letP (s1.set ((j1:Int).toNat) (LCol.mk x51.name x51.kind false)) fun(y10:List LCol)=>
      some (.next y10))))) 0 a a) fun fl1=>fl1.thenR fun(s1:List LCol)=>
  some (s1,0))
theorem tA(kind:Int)(a:List LCol)(b:List LCol)(r:(List LCol)×Int)(H:jF kind a b=some r):
  aY prog 169 [(ah kind),(.list 53 (a.map aB)),(.list 53 (b.map aB))] (.tup [(.list 53 (r.1.map aB)),(ah r.2)]):=by
 unfold jF at H;refine PH.au func169 ntmps169 ?_;refine ak 2 tk Z (aa (aa (ab (ai tk Z (aI tk (zl _) ?_)))));refine ai tk Z (aI tk (zl _) ?_);refine ai tk Z (ac ?_);refine aF Z H (fun H=>?_) (fun H=>?_)
 ·refine ak 2 tk Z ?_;obtain rfl:=aq H;refine bl tk Z (ps:=[(.val (.slice none 0 0)),(ah 7)]) ⟨_,_,rfl,rfl,_,_,rfl,rfl,rfl⟩ (PLe.of2 (pD.tup (jN.cons (pD.nil tk Z) (jN.cons (pD.of_eq Z) jN.nil))))
 refine al (aa (ab (ai tk Z ?_)));have s16:=nD (m:=16) a;refine jj call104 (jt.r) s16 (fun g16=>?_);refine ai tk Z (ac (aa (aa (ab (ai tk Z (aI tk (zl _) ?_))))));refine ai tk Z (ac ?_);refine ff (γ:=OwnRef) tk 19 18 1 (fun s1 g1=>upd (upd (upd (fun _=>.any) 8 (.own 16 g1 (s1.map aB).length)) 2 (.list 53 (b.map aB))) 0 (ah kind)) nB (fun s1 g1=>upd (fun _=>none) 16 (some ⟨g1,53,(s1.map aB),true⟩)) g16 H (fun fl1 Hp1 j1 s1 g1 hz1 hl1 x1 fb1 hx1 H hg1=>?_) (fun s1 g1 H=>?_)
 ·refine aa (av (ak 2 tk Z (aa (aa ?_))));refine cA (tag:=16) Z (fun ho16=>?_);refine aX tk mok ⟨false,false,[]⟩ [0,1,2,3,4,5,6,7,8,9,10] Z (by decide+kernel) Z (az 2 Z ?_);refine bE (zn j1) (bA (fun _=>Z) hx1) ?_;refine az 4 Z ?_
  obtain⟨x29,k29,H⟩:=aV H
  refine bE k29.1 (aC (fun _=>Z) k29.2) ?_;refine az 3 Z (aQ ?_);refine aF Z H (fun H=>?_) (fun H=>?_)
  ·refine ak 2 tk Z ?_;obtain rfl:=aq H;have e1:fl1= .ret _:=hg1;subst e1;obtain rfl:=aZ Hp1;refine bl tk Z (ps:=[(.val (.slice none 0 0)),(ah 7)]) ⟨_,_,rfl,rfl,_,_,rfl,rfl,rfl⟩ (PLe.of2 (pD.tup (jN.cons (pD.nil tk Z) (jN.cons (pD.of_eq Z) jN.nil))))
  refine al (ab (ag 4 tk Z ?_));refine be tk (zn j1) (bA (fun _=>Z) hx1) ?_;refine ag 3 tk Z ?_;refine bu Z Z Z H (fun H=>?_) (fun H=>?_)
  ·refine ag 10 tk Z ?_
   obtain⟨x51,k51,H⟩:=aV H
   refine jJ (tag:=16) Z (fun ho16=>?_);refine iV tk ⟨k51.1,(bh k51.2)⟩ (bf ho16 k51.2) ?_;refine ai tk Z ?_
   obtain⟨y8,hy8,H⟩:=bF H
   refine mA tk Z Z Z Z Z Z Z Z (by rw[zl];exact(zg.1 k51.2).1) (PLe.refl _ _) Z Z Z Z (by decide) (bD (fun _=>Z) k51.2 Z hy8) ?_;refine ac (aM (bc 2 tk Z ?_));exact bv g1 H hl1 hg1 (Gh.le (ao (ao (bp (PLe.q (fB (by omega))) (ao (ao (bp (PLe.of2 (pD.of_eq (congrArg (PV.own 16 g1) (bt (f:=aB) hy8)))) aL)))))) aw (aD ax))
  refine ag 3 tk Z ?_;refine bu Z Z Z H (fun H=>?_) (fun H=>?_)
  ·refine ag 2 tk Z ?_
   obtain⟨x46,k46,H⟩:=aV H
   refine be tk k46.1 (aC (fun _=>Z) k46.2) ?_;refine ag 4 tk Z ?_
   obtain⟨x51,k51,H⟩:=aV H
   refine jJ (tag:=16) Z (fun ho16=>?_);refine iV tk ⟨k51.1,(bh k51.2)⟩ (bf ho16 k51.2) ?_;refine ai tk Z ?_
   obtain⟨y9,hy9,H⟩:=bF H
   refine mA tk Z Z Z Z Z Z Z Z (by rw[zl];exact(zg.1 k51.2).1) (PLe.refl _ _) Z Z Z Z (by decide) (bD (fun _=>Z) k51.2 Z hy9) ?_;refine ac (aM (bc 2 tk Z ?_));exact bv g1 H hl1 hg1 (Gh.le (ao (ao (bp (PLe.q (fB (by omega))) (ao (ao (bp (PLe.of2 (pD.of_eq (congrArg (PV.own 16 g1) (bt (f:=aB) hy9)))) aL)))))) aw (aD ax))
  refine ag 7 tk Z ?_
  obtain⟨x51,k51,H⟩:=aV H
  refine jJ (tag:=16) Z (fun ho16=>?_);refine iV tk ⟨k51.1,(bh k51.2)⟩ (bf ho16 k51.2) ?_;refine ai tk Z ?_
  obtain⟨y10,hy10,H⟩:=bF H
  refine mA tk Z Z Z Z Z Z Z Z (by rw[zl];exact(zg.1 k51.2).1) (PLe.refl _ _) Z Z Z Z (by decide) (bD (fun _=>Z) k51.2 Z hy10) ?_;refine ac (aM (bc 2 tk Z ?_));exact bv g1 H hl1 hg1 (Gh.le (ao (ao (bp (PLe.q (fB (by omega))) (ao (ao (bp (PLe.of2 (pD.of_eq (congrArg (PV.own 16 g1) (bt (f:=aB) hy10)))) aL)))))) aw (aD ax))
 refine ak 3 tk Z (cT 6 Z Z Z ?_);exact bi tk H Z
def cD(sA:Rs)(v:Rb):Option (Bool):=
 ae (fw sA v) fun x7=>
 some (decide (x7>=(0:Int)))
theorem iC(sA:Rs)(v:Rb)(r:Bool)(H:cD sA v=some r):
  aY prog 11 [(.list 9 (sA.map aA)),(.str v)] (aK r):=by
 unfold cD at H;refine PH.au func11 ntmps11 ?_;refine ak 1 tk Z (aa (ab (ag 2 tk Z ?_)))
 obtain⟨x7,h7,H⟩:=am H
 have s7:=ou sA v _ h7;refine aj call31 (jt.r) s7 ?_;refine ag 2 tk Z (ac ?_);exact bi tk H Z
def cL(sA:List LCol)(f:LCol->Option (Bool)):Option (Bool):=
 ae (bO sA f) fun x7=>
 some (decide (x7>=(0:Int)))
theorem lb{g_f:FuncId}{caps_f:List PV}(sA:List LCol)(f:LCol->Option (Bool))(hg_f:∀(vs:Array Value) (w:World),(callFunc g_f vs).run prog w= .ok (.enter g_f vs) w)(hp_f:∀a0 r,f a0=some r->aY prog g_f ((.agg (aB a0))::caps_f) (aK r))(r:Bool)(H:cL sA f=some r):
  aY prog 142 [(.list 53 (sA.map aB)),(.fn g_f caps_f)] (aK r):=by
 unfold cL at H;refine PH.au func142 ntmps142 ?_;refine ak 1 tk Z (aa (ab (ag 2 tk Z ?_)))
 obtain⟨x7,h7,H⟩:=am H
 have s7:=dF sA f hg_f hp_f _ h7;refine aj call89 (jt.r) s7 ?_;refine ag 2 tk Z (ac ?_);exact bi tk H Z
def iM(c:LProcedureChecker)(name:Rb):Option (LTable×Bool):=
 ae (cI c.s.tables (fun a0=>some (eW a0 name))) fun x11=>
 cond (decide (x11<(0:Int)))
  (some ((LTable.mk [] [] []),false))
  (ae (aG c.s.tables x11) fun(x19:LTable)=>
  some (x19,true))
theorem pT(c:LProcedureChecker)(name:Rb)(r:LTable×Bool)(H:iM c name=some r):
  aY prog 127 [(.agg (bL c)),(.str name)] (.tup [(.agg (bM r.1)),(aK r.2)]):=by
 unfold iM at H;refine PH.au func127 ntmps127 ?_;refine aa (ab (aO ?_));refine aO ?_;refine bm tk fun b4=>?_
 refine ai tk Z (ac (aa (ab (ag 4 tk Z ?_))))
 obtain⟨x11,h11,H⟩:=am H
 have s11:=eM c.s.tables (fun a0=>some (eW a0 name)) call144 (fun a0 r h=>(aq h)▸ph a0 name) _ h11;refine aj call47 (jt.r) s11 ?_;refine ai tk Z (ac (aa (ak 2 tk Z ?_)));refine aF Z H (fun H=>?_) (fun H=>?_)
 ·refine aa (ab (ai tk Z (ay tk ?_)));refine ai tk Z (ac ?_);obtain rfl:=aq H;refine bl tk Z (ps:=[(.agg [(.str []),(.val (.slice none 0 0)),(.val (.slice none 0 0))]),(aK false)]) ⟨_,_,rfl,⟨_,_,_,_,_,rfl,rfl,rfl,rfl⟩,_,_,rfl,rfl,rfl⟩ (PLe.of2 (pD.tup (jN.cons (pD.agg (jN.cons (pD.of_eq Z) (jN.cons (pD.nil tk Z) (jN.cons (pD.nil tk Z) jN.nil)))) (jN.cons (pD.of_eq Z) jN.nil))))
 refine al (aa (ab (ag 4 tk Z ?_)))
 obtain⟨x19,k19,H⟩:=aV H
 refine be tk k19.1 (aC (fun _=>Z) k19.2) ?_;refine ai tk Z (ay tk ?_);refine ai tk Z (ac ?_);obtain rfl:=aq H;refine bl tk Z (ps:=[(.agg (bM x19)),(aK true)]) ⟨_,_,rfl,⟨_,_,_,_,_,rfl,rfl,rfl,rfl⟩,_,_,rfl,rfl,rfl⟩ (PLe.q Z)
def eJ(t:LTable)(row:Rq):Option (Int):=
 cond ((row.length:Int) !=(t.columns.length:Int))
  (some 3)
  (ae (aU (σ:=Unit) (ρ:=(Int)) (fun(j1:Nat) (x1:LVal) (_:Unit)=>
   letP (dS x1) fun x22=>
   cond (x22 !=(0:Int))
    (some (.ret x22))
    (ae (
     cond (x1.kind==(0:Int))
      (ae (aG t.columns (j1:Int)) fun(x33:LCol)=>
      some (!x33.nullable))
      (some false)) fun(t3:Bool)=>
    cond t3
     (some (.ret 8))
     (cond (x1.kind !=(0:Int))
      (ae (aG t.columns (j1:Int)) fun(x47:LCol)=>
      cond (x1.kind !=x47.kind)
       (some (.ret 7))
       (some (.next ())))
      (some (.next ()))))) 0 row ()) fun fl1=>fl1.thenR fun(_:Unit)=>
  some 0)
theorem mV(t:LTable)(row:Rq)(r:Int)(H:eJ t row=some r):
  aY prog 39 [(.agg (bM t)),(.list 58 (row.map af))] (ah r):=by
 unfold eJ at H;refine PH.au func39 ntmps39 ?_;refine aa (ab (aO ?_));refine ai tk Z (ac (aa (aa (ab (ai tk Z (aI tk (zl _) ?_))))));refine ag 2 tk Z (aI tk (zl _) ?_);refine ai tk Z (ac ?_);refine aF Z H (fun H=>?_) (fun H=>?_)
 ·refine ak 1 tk Z ?_;exact bi tk H Z
 refine al (aa (aa (ab (ai tk Z (aI tk (zl _) ?_)))));refine ai tk Z (ac ?_);refine ff tk 16 15 14 (fun s1 g1=>upd (fun _=>.any) 2 (.ptr (bM t))) nB nO () H (fun fl1 Hp1 j1 s1 g1 hz1 hl1 x1 fb1 hx1 H hg1=>?_) (fun s1 g1 H=>?_)
 ·refine aa (av (aa (ab (ai tk Z ?_))));refine be tk (zn j1) (bA (fun _=>Z) hx1) ?_;refine ai tk Z ?_;refine bm tk fun b6=>?_
  refine ai tk Z (ay tk ?_);refine ac (aa (aa (ab (aJ tk ?_))))
  obtain⟨x22,h22,H⟩:=bF H
  have s22:=nw x1;rw[h22]at s22;refine aj call61 (jt.r) s22 ?_;refine ai tk Z (ac (ak 2 tk Z ?_));refine aF Z H (fun H=>?_) (fun H=>?_)
  ·refine ak 2 tk Z ?_;obtain rfl:=aq H;have e1:fl1= .ret _:=hg1;subst e1;obtain rfl:=aZ Hp1;refine bl tk Z (ps:=[(ah x22)]) ⟨_,_,rfl,rfl,rfl⟩ (PLe.q Z)
  refine al (aa (aa ?_));refine ee (γ:=Unit) (fun t3 g3=>⟨53,upd (upd (upd (upd (upd (upd (upd (fun _=>.any) 37 (aK t3)) 16 (ah (j1:Int))) 15 (ah (row.length:Int))) 14 (.list 58 (row.map af))) 6 (.box 6 b6 0)) 5 (ah (j1:Int))) 2 (.ptr (bM t)),upd (fun _=>none) 6 (some ⟨b6,(af x1)⟩),fun _=>none⟩) H (fun _ H=>?_) (fun t3 g3 H=>?_)
  ·refine ab (ai tk Z (aJ tk ?_));refine ag 2 tk Z ?_;refine bu Z Z Z H (fun H=>?_) (fun H=>?_)
   ·refine ag 3 tk Z ?_
    obtain⟨x33,k33,H⟩:=aV H
    refine be tk k33.1 (aC (fun _=>Z) k33.2) ?_;refine ag 4 tk Z (ac ?_);refine aP _ () (aq H) Gh.d
   refine ag 8 tk Z (ac ?_);refine aP _ () (aq H) Gh.d
  refine aF Z H (fun H=>?_) (fun H=>?_)
  ·refine ak 1 tk Z ?_;obtain rfl:=aq H;have e1:fl1= .ret _:=hg1;subst e1;obtain rfl:=aZ Hp1;refine bl tk Z (ps:=[(ah 8)]) ⟨_,_,rfl,rfl,rfl⟩ (PLe.q Z)
  refine al (aa (aX tk mok ⟨true,false,[45,49]⟩ [0,1,2,3,4,5,6,7,8,9,10,11,12,13] Z (by decide+kernel) Z (bw Z (bd ?_))));refine az 2 Z ?_;refine gi H (fun H=>?_) (fun H=>?_)
  ·refine bw Z (bd ?_);refine az 3 Z ?_
   obtain⟨x47,k47,H⟩:=aV H
   refine bE k47.1 (aC (fun _=>Z) k47.2) ?_;refine az 4 Z (aQ ?_);refine aF Z H (fun H=>?_) (fun H=>?_)
   ·refine ak 1 tk Z ?_;obtain rfl:=aq H;have e1:fl1= .ret _:=hg1;subst e1;obtain rfl:=aZ Hp1;refine bl tk Z (ps:=[(ah 7)]) ⟨_,_,rfl,rfl,rfl⟩ (PLe.q Z)
   refine al (aM (bc 2 tk Z ?_));exact bv () H hl1 hg1
  refine az 10 Z (aQ (bH Z (al (aM (bc 2 tk Z ?_)))));exact bv () H hl1 hg1
 refine ak 1 tk Z ?_;exact bi tk H Z
def ll(a:Rb)(b:Rb):Int:=
 letP (fV a b) fun x7=>
 x7
theorem ua(a:Rb)(b:Rb):
  aY prog 91 [(.str a),(.str b)] (ah (ll a b)):=by
 obtain⟨r,H⟩:∃r,ll a b=r:=⟨_,rfl⟩
 rw[H];unfold ll at H;refine PH.au func91 ntmps91 ?_;refine ak 1 tk Z (aa (ab (ag 2 tk Z ?_)))
 obtain⟨x7,h7,H⟩:=bF H
 have s7:=nu a b;rw[h7]at s7;refine aj call118 (jt.r) s7 ?_;refine ai tk Z (ac ?_);exact eA tk H Z
def im(rA:LProcedureRun)(c:LCol)(v:LVal):Option (LProcedureRun):=
 ae (bO rA.vars (fun a0=>some (fG a0 c))) fun x12=>
 cond (decide (x12>=(0:Int)))
  (ae (nN rA.vars x12 (iw (x12+(1:Int)))) fun x40=>
  ae (nN rA.vals x12 (iw (x12+(1:Int)))) fun x48=>
  ae (dq 32 x40 ([c]:List LCol)) fun(x61:List LCol)=>
  ae (dq 32 x48 ([v]:Rq)) fun(x68:Rq)=>
  some (LProcedureRun.mk rA.s rA.st rA.args x61 x68 rA.changes rA.results rA.left rA.stopped))
  (ae (dq 32 rA.vars ([c]:List LCol)) fun(x61:List LCol)=>
  ae (dq 32 rA.vals ([v]:Rq)) fun(x68:Rq)=>
  some (LProcedureRun.mk rA.s rA.st rA.args x61 x68 rA.changes rA.results rA.left rA.stopped))
theorem oy(b_rA:Nat)(g_rA_7:OwnRef)(g_rA_8:OwnRef)(rA:LProcedureRun)(c:LCol)(v:LVal)(r:LProcedureRun)(H:im rA c v=some r):
  PH prog 68 [(.box 1500 b_rA 0),(.agg (aB c)),(.agg (af v))] ⟨(bR b_rA rA g_rA_7 g_rA_8),(oR rA g_rA_7 g_rA_8)⟩ (fun u H=>∃gz0_7,∃gz0_8,u=(.tup [])/\H=⟨(bR b_rA r gz0_7 gz0_8),(oR r gz0_7 gz0_8)⟩):=by
 unfold im at H;refine PH.au func68 ntmps68 ?_;refine aa (ab (aO ?_));refine aO ?_;refine ac (aa (ab (ag 3 tk Z (aJ tk ?_))));refine ai tk Z ?_
 obtain⟨x12,h12,H⟩:=am H
 have s12:=dF rA.vars (fun a0=>some (fG a0 c)) call103 (fun a0 r h=>(aq h)▸rx a0 c) _ h12;refine aj call89 (jt.r) s12 ?_;refine ai tk Z (ac (aa (aX tk mok ⟨true,false,[]⟩ [0,1,2,3,4,5,7,8,9,10,6,11,12,13,14,15,16,17] Z (by decide+kernel) Z (az 5 Z (bd ?_)))));refine az 3 Z (bd ?_);have s19:=nD (m:=19) rA.vars;refine qm (g:=104) Z Z Z Z call104 (jt.r) Z Z s19 (fun g19=>?_);have s24:=clone_20 (m:=24) rA.vals;refine qm (g:=20) Z Z Z Z call20 (jt.r) Z Z s24 (fun g24=>?_);refine az 2 Z (fM Z Z Z Z Z Z Z Z Z Z Z Z (az 2 Z (fM Z Z Z Z Z Z Z Z Z Z Z Z (aQ (aa (ak 2 tk Z ?_))))));refine aF Z H (fun H=>?_) (fun H=>?_)
 ·refine aX tk mok ⟨true,false,[]⟩ [0,1,2,3,4,5,6,7,8,10,11,12,13,14,15,16,9,17,18,19,20,21,22,23] Z (by decide+kernel) Z (az 5 Z (bd ?_));refine az 6 Z (bd ?_);refine az 3 Z ?_
  obtain⟨x40,h40,H⟩:=am H
  have s40:=W_delete_105 g19 rA.vars x12 (iw (x12+(1:Int))) _ h40;refine uG (g:=105) Z Z Z Z call105 Z [(19,0)] Z Z (jt.of2 (jN.cons (pD.own Z) (jN.cons (pD.of_eq Z) (jN.cons (pD.of_eq Z) jN.nil)))) (by rw[aW,bn];rfl) s40 ?_;rintro u40 H40h ⟨rfl,rfl⟩
  refine⟨(.own 19 g19 (x40.map aB).length),_,PLe.of2 (pD.own Z),rfl,?_⟩
  obtain⟨x48,h48,H⟩:=am H
  have s48:=W_delete_106 g24 rA.vals x12 (iw (x12+(1:Int))) _ h48;refine uG (g:=106) Z Z Z Z call106 Z [(24,0)] Z Z (jt.of2 (jN.cons (pD.own Z) (jN.cons (pD.of_eq Z) (jN.cons (pD.of_eq Z) jN.nil)))) (by rw[aW,bn];rfl) s48 ?_;rintro u48 H48h ⟨rfl,rfl⟩
  refine⟨(.own 24 g24 (x48.map af).length),_,PLe.of2 (pD.own Z),rfl,?_⟩
  refine az 2 Z (fM Z Z Z Z Z Z Z Z Z Z Z Z (az 2 Z (fM Z Z Z Z Z Z Z Z Z Z Z Z (aQ ?_))));refine bZ (st':=⟨_,_,upd (fun _=>none) 1500 (some ⟨b_rA,[(.list 56 (rA.s.tables.map bM)),(.list 99 (rA.s.foreignKeys.map gW)),(.list 105 (rA.s.constraints.map iK)),(.list 69 (rA.st.map bW)),(.list 58 (rA.args.map af)),(.own 19 g19 (x40.map aB).length),(.own 24 g24 (x48.map af).length),(.own 1607 g_rA_7 (rA.changes.map cu).length),(.own 1608 g_rA_8 (rA.results.map cN).length),(ah rA.left),(aK rA.stopped)]⟩),upd (upd (upd (upd (fun _=>none) 24 (some ⟨g24,58,(x48.map af),true⟩)) 19 (some ⟨g19,53,(x40.map aB),true⟩)) 1608 (some ⟨g_rA_8,180,(rA.results.map cN),true⟩)) 1607 (some ⟨g_rA_7,48,(rA.changes.map cu),true⟩)⟩) (Gh.le (bs _ _) (aR Z (jt.r) aw) (aD (aD (aD (aD ax))))) ?_;refine aX tk mok ⟨true,false,[59,66]⟩ [0,1,2,3,4,5,6,7,9,10,11,12,13,14,8,15,16,17,18,19,20,21] Z (by decide+kernel) Z (az 5 Z (bd ?_));refine az 5 Z (bd ?_);refine az 2 Z ?_
  obtain⟨x61,h61,H⟩:=am H
  have k61:=cj h61;refine gz (rows2':=List.map aB ([c]:List LCol)) (rows':=List.map aB x61) tk Z Z Z Z Z Z Z Z Z Z Z Z Z Z (gP.refl _) (cU k61.1) (cW k61.2.1) (cV k61.2.2) fun g61=>?_
  obtain⟨x68,h68,H⟩:=am H
  have k68:=cj h68;refine gz (rows2':=List.map af ([v]:Rq)) (rows':=List.map af x68) tk Z Z Z Z Z Z Z Z Z Z Z Z Z Z (gP.refl _) (cU k68.1) (cW k68.2.1) (cV k68.2.2) fun g68=>?_
  refine az 2 Z (fM Z Z Z Z Z Z Z Z Z Z Z Z (az 2 Z (fM Z Z Z Z Z Z Z Z Z Z Z Z (aQ ?_))));obtain rfl:=aq H;refine jA 1500 5 Z Z Z Z Z (jA 1500 6 Z Z Z Z Z ?_);refine bZ (st':=⟨73,fun _=>.any,upd (fun _=>none) 1500 (some ⟨b_rA,[(.list 56 ((((LProcedureRun.mk rA.s rA.st rA.args x61 x68 rA.changes rA.results rA.left rA.stopped).s).tables).map bM)),(.list 99 ((((LProcedureRun.mk rA.s rA.st rA.args x61 x68 rA.changes rA.results rA.left rA.stopped).s).foreignKeys).map gW)),(.list 105 ((((LProcedureRun.mk rA.s rA.st rA.args x61 x68 rA.changes rA.results rA.left rA.stopped).s).constraints).map iK)),(.list 69 (((LProcedureRun.mk rA.s rA.st rA.args x61 x68 rA.changes rA.results rA.left rA.stopped).st).map bW)),(.list 58 (((LProcedureRun.mk rA.s rA.st rA.args x61 x68 rA.changes rA.results rA.left rA.stopped).args).map af)),(.list 53 (((LProcedureRun.mk rA.s rA.st rA.args x61 x68 rA.changes rA.results rA.left rA.stopped).vars).map aB)),(.list 58 (((LProcedureRun.mk rA.s rA.st rA.args x61 x68 rA.changes rA.results rA.left rA.stopped).vals).map af)),(.own 1607 g_rA_7 (rA.changes.map cu).length),(.own 1608 g_rA_8 (rA.results.map cN).length),(ah ((LProcedureRun.mk rA.s rA.st rA.args x61 x68 rA.changes rA.results rA.left rA.stopped).left)),(aK ((LProcedureRun.mk rA.s rA.st rA.args x61 x68 rA.changes rA.results rA.left rA.stopped).stopped))]⟩),(oR rA g_rA_7 g_rA_8)⟩) (Gh.le aL (aR Z (jt.r) aw) (aD (aD ax))) ?_;refine iO Z (PLe.q Z) ⟨_,_,rfl,rfl⟩
 refine al (aX tk mok ⟨true,false,[59,66]⟩ [0,1,2,3,4,5,6,7,9,10,11,12,13,14,8,15,16,17,18,19,20,21] Z (by decide+kernel) Z (az 5 Z (bd ?_)));refine az 5 Z (bd ?_);refine az 2 Z ?_
 obtain⟨x61,h61,H⟩:=am H
 have k61:=cj h61;refine gz (rows2':=List.map aB ([c]:List LCol)) (rows':=List.map aB x61) tk Z Z Z Z Z Z Z Z Z Z Z Z Z Z (gP.refl _) (cU k61.1) (cW k61.2.1) (cV k61.2.2) fun g61=>?_
 obtain⟨x68,h68,H⟩:=am H
 have k68:=cj h68;refine gz (rows2':=List.map af ([v]:Rq)) (rows':=List.map af x68) tk Z Z Z Z Z Z Z Z Z Z Z Z Z Z (gP.refl _) (cU k68.1) (cW k68.2.1) (cV k68.2.2) fun g68=>?_
 refine az 2 Z (fM Z Z Z Z Z Z Z Z Z Z Z Z (az 2 Z (fM Z Z Z Z Z Z Z Z Z Z Z Z (aQ ?_))));obtain rfl:=aq H;refine jA 1500 5 Z Z Z Z Z (jA 1500 6 Z Z Z Z Z ?_);refine bZ (st':=⟨73,fun _=>.any,upd (fun _=>none) 1500 (some ⟨b_rA,[(.list 56 ((((LProcedureRun.mk rA.s rA.st rA.args x61 x68 rA.changes rA.results rA.left rA.stopped).s).tables).map bM)),(.list 99 ((((LProcedureRun.mk rA.s rA.st rA.args x61 x68 rA.changes rA.results rA.left rA.stopped).s).foreignKeys).map gW)),(.list 105 ((((LProcedureRun.mk rA.s rA.st rA.args x61 x68 rA.changes rA.results rA.left rA.stopped).s).constraints).map iK)),(.list 69 (((LProcedureRun.mk rA.s rA.st rA.args x61 x68 rA.changes rA.results rA.left rA.stopped).st).map bW)),(.list 58 (((LProcedureRun.mk rA.s rA.st rA.args x61 x68 rA.changes rA.results rA.left rA.stopped).args).map af)),(.list 53 (((LProcedureRun.mk rA.s rA.st rA.args x61 x68 rA.changes rA.results rA.left rA.stopped).vars).map aB)),(.list 58 (((LProcedureRun.mk rA.s rA.st rA.args x61 x68 rA.changes rA.results rA.left rA.stopped).vals).map af)),(.own 1607 g_rA_7 (rA.changes.map cu).length),(.own 1608 g_rA_8 (rA.results.map cN).length),(ah ((LProcedureRun.mk rA.s rA.st rA.args x61 x68 rA.changes rA.results rA.left rA.stopped).left)),(aK ((LProcedureRun.mk rA.s rA.st rA.args x61 x68 rA.changes rA.results rA.left rA.stopped).stopped))]⟩),(oR rA g_rA_7 g_rA_8)⟩) (Gh.le aL (aR Z (jt.r) aw) (aD (aD ax))) ?_;refine iO Z (PLe.q Z) ⟨_,_,rfl,rfl⟩
def cB(slices:Rz):Option (Rq):=
 ae (aU (σ:=Int) (ρ:=Empty) (fun(_:Nat) (x1:Rq) (s1:Int)=>
  cond (decide ((iw (s1+(x1.length:Int)))<(0:Int)))
   (none)
   (some (.next (iw (s1+(x1.length:Int)))))) 0 slices 0) fun fl1=>fl1.thenP fun(s1:Int)=>
 ae (qE 32 s1) fun(_:Unit)=>
 ae (aU (σ:=Rq) (ρ:=Empty) (fun(_:Nat) (x2:Rq) (s2:Rq)=>
  ae (dq 32 s2 x2) fun(x33:Rq)=>
  some (.next x33)) 0 slices []) fun fl2=>fl2.thenP fun(s2:Rq)=>
 some s2
theorem kh{m:Nat}(slices:Rz)(r:Rq)(H:cB slices=some r):
  jr prog 179 [(.list 46 (slices.map (ap 58 af)))] (lN m 58 (r.map af)):=by
 unfold cB at H;refine PH.au func179 ntmps179 ?_;refine ak 1 tk Z (ak 1 tk Z (aa (aa (ab (ai tk Z (aI tk (zl _) ?_))))));refine ai tk Z (ac ?_);refine gc tk 11 10 9 (fun s1 g1=>upd (upd (fun _=>.any) 3 (ah s1)) 0 (.list 46 (slices.map (ap 58 af)))) nB nO () H (fun fl1 Hp1 j1 s1 g1 hz1 hl1 x1 fb1 hx1 H hg1=>?_) (fun s1 g1 H=>?_)
 ·refine aa (av (aa (ab ?_)));refine be tk (zn j1) (bA (fun _=>Z) hx1) ?_;refine ag 2 tk Z (ac (aa (ab (ag 2 tk Z (aI tk (zl _) ?_)))));refine ag 2 tk Z (ac (ak 2 tk Z ?_));refine aF Z H (fun H=>?_) (fun H=>?_)
  ·cases H
  refine al (aM (bc 2 tk Z ?_));exact bv () H hl1 hg1
 refine aa (ab (ai tk Z ?_))
 obtain⟨_,h24,H⟩:=am H
 have s24:=grow_188 (m:=24) s1 h24;refine jj call188 (jt.r) s24 (fun g24=>?_);refine ai tk Z (ac (aa (aa (ab (ai tk Z (aI tk (zl _) ?_))))));refine ai tk Z (ac ?_);refine gc (γ:=OwnRef) tk 27 26 25 (fun s2 g2=>upd (fun _=>.any) 6 (.own 24 g2 (s2.map af).length)) nB (fun s2 g2=>upd (fun _=>none) 24 (some ⟨g2,58,(s2.map af),true⟩)) g24 H (fun fl2 Hp2 j2 s2 g2 hz2 hl2 x2 fb2 hx2 H hg2=>?_) (fun s2 g2 H=>?_)
 ·refine aa (av (aa (ab ?_)));refine be tk (zn j2) (bA (fun _=>Z) hx2) ?_;refine ag 2 tk Z (ac (ab (ag 2 tk Z ?_)))
  obtain⟨x33,h33,H⟩:=am H
  have k33:=cj h33;refine cv (rows2':=List.map af x2) (rows':=List.map af x33) tk Z Z Z Z Z Z Z Z Z Z Z Z Z (gP.refl _) (cU k33.1) (cW k33.2.1) (cV k33.2.2) fun g33=>?_
  refine ai tk Z (ac (aM (bc 2 tk Z ?_)));exact bv g33 H hl2 hg2
 refine ak 2 tk Z ?_;obtain rfl:=aq H;refine jI tk Z
def km(y:Rq)(c0:Rq):Option (Bool):=
 ae (cZ c0 y) fun x6=>
 some x6
theorem W_query_less_1(y:Rq)(c0:Rq)(r:Bool)(H:km y c0=some r):
  aY prog 181 [(.list 58 (y.map af)),(.ptr [(.list 58 (c0.map af))])] (aK r):=by
 unfold km at H;refine PH.au func181 ntmps181 ?_;refine ak 1 tk Z (aa (ab (ag 2 tk Z ?_)))
 obtain⟨x6,h6,H⟩:=am H
 have s6:=fX c0 y _ h6;refine aj call14 (jt.r) s6 ?_;refine ai tk Z (ac ?_);exact bi tk H Z
def ef(sA:Rz)(del:Rq->Option (Bool)):Option Rz:=
 ae (cr sA del) fun x10=>
 ae (cF (x10.2.length=sA.length) ()) fun(_:Unit)=>
 cond (x10.1==(-1))
  (some x10.2)
  (ae (dg (σ:=Rz×Int×Int) (ρ:=Empty) (fun(s1:Rz×Int×Int)=>
   cond (decide (s1.2.2<(s1.1.length:Int)))
    (ae (aG s1.1 s1.2.2) fun(x24:Rq)=>
    ae (del x24) fun x28=>
    cond (!x28)
     (ae (aG s1.1 s1.2.1) fun(_:Rq)=>
     letP (s1.1.set s1.2.1.toNat x24) fun(y4:Rz)=>
     some (.next (y4,(iw (s1.2.1+(1:Int))),(iw (s1.2.2+(1:Int))))))
     (some (.next (s1.1,s1.2.1,(iw (s1.2.2+(1:Int)))))))
    (some (.brk (s1.1,s1.2.1,s1.2.2)))) (x10.2,x10.1,(iw (x10.1+(1:Int))))) fun fl1=>fl1.thenP fun(s1:Rz×Int×Int)=>
  ae (nk s1.1 s1.2.1) fun(y5:Rz)=>
  ae (nk y5 s1.2.1) fun(y6:Rz)=>
  some y6)
theorem my(g_sA:OwnRef){g_del:FuncId}{caps_del:List PV}(sA:Rz)(del:Rq->Option (Bool))(hg_del:∀(vs:Array Value) (w:World),(callFunc g_del vs).run prog w= .ok (.enter g_del vs) w)(hp_del:∀a0 r,del a0=some r->aY prog g_del ((.list 58 (a0.map af))::caps_del) (aK r))(r:Rz)(H:ef sA del=some r):
  PH prog 160 [(.own 0 g_sA (sA.map (ap 58 af)).length),(.fn g_del caps_del)] ⟨fun _=>none,upd (fun _=>none) 0 (some ⟨g_sA,46,(sA.map (ap 58 af)),true⟩)⟩ (fun u H=>u= .own 0 g_sA (r.map (ap 58 af)).length/\H=⟨fun _=>none,upd (fun _=>none) 0 (some ⟨g_sA,46,(r.map (ap 58 af)),true⟩)⟩):=by
 unfold ef at H;refine PH.au func160 ntmps160 ?_;refine ak 1 tk Z (aa (ab (ag 2 tk Z ?_)))
 obtain⟨x10,h10,H⟩:=am H
 have s10:=gF g_sA sA del hg_del hp_del _ h10
 obtain⟨_,q10_0,H⟩:=am H
 have l10_0:=(bG q10_0).1;have z10_0:(List.map (ap 58 af) sA).length=(List.map (ap 58 af) x10.2).length:=by simpa using(l10_0).symm
 refine bB (g:=180) Z Z Z call180 [] [(0,0)] Z Z Z Z (jt.of2 (jN.cons (pD.own Z) (jN.cons (pD.of_eq Z) jN.nil))) (by rw[bq,aW,bn];rfl) s10 ?_;rintro u10 H10h ⟨rfl,rfl⟩
 refine⟨_,rfl,?_⟩
 refine bS (st':=⟨_,_,fun _=>none,upd (fun _=>none) 0 (some ⟨g_sA,46,(x10.2.map (ap 58 af)),true⟩)⟩) (Gh.le (bs _ _) aw (aD ax)) ?_;refine ai tk Z (ac (aa (ak 2 tk Z ?_)));refine aF Z H (fun H=>?_) (fun H=>?_)
 ·refine ak 2 tk Z ?_;obtain rfl:=aq H;refine bZ (st':=⟨42,upd (fun _=>.any) 4 (.own 0 g_sA (sA.map (ap 58 af)).length),fun _=>none,upd (fun _=>none) 0 (some ⟨g_sA,46,(x10.2.map (ap 58 af)),true⟩)⟩) (Gh.le (ao aL) aw (aD ax)) ?_;refine cl tk Z (ps:=[(.own 0 g_sA (sA.map (ap 58 af)).length)]) ⟨_,_,rfl,rfl,rfl⟩ (PLe.of2 (pD.own z10_0)) ⟨rfl,rfl⟩
 refine al (aa (ak 3 tk Z ?_))
 obtain⟨fl1,H1,Hp1⟩:=am H
 refine dj (τ:=Rz×Int×Int) (γ:=Unit) (fun s1 g1=>⟨42,upd (upd (fun _=>.any) 5 (ah s1.2.1)) 0 (.own 0 g_sA (s1.1.map (ap 58 af)).length),fun _=>none,upd (fun _=>none) 0 (some ⟨g_sA,46,(s1.1.map (ap 58 af)),true⟩)⟩) (fun t=>fl1= .next t) ?_ (fun s1 g1 hn1=>?_)
 ·refine av ?_;refine cO (fun s1 g1=>⟨42,upd (upd (upd (upd (fun _=>.any) 6 (ah s1.2.2)) 5 (ah s1.2.1)) 1 (.fn g_del caps_del)) 0 (.own 0 g_sA (s1.1.map (ap 58 af)).length),fun _=>none,upd (fun _=>none) 0 (some ⟨g_sA,46,(s1.1.map (ap 58 af)),true⟩)⟩) () H1 (Gh.le (bp (PLe.of2 (pD.of_eq (congrArg (PV.own 0 g_sA) z10_0))) (ao (ao (ao aL)))) aw (aD ax)) (fun m1 s1 g1 hr1=>?_)
  obtain⟨fb1,H,hg1⟩:=cp hr1
  refine aa (aa (ab (ag 2 tk Z (eg tk (zl _) ?_))));refine ai tk Z (ac ?_);refine aF Z H (fun H=>?_) (fun H=>?_)
  ·refine al (aa (av (aa (ab (ag 2 tk Z ?_)))))
   obtain⟨x24,k24,H⟩:=aV H
   refine jJ (tag:=0) Z (fun ho0=>?_);refine iV tk ⟨k24.1,(bh k24.2)⟩ (bf ho0 k24.2) ?_;refine lJ tk (aC (fun _=>Z) k24.2) ?_;refine ai tk Z (ac (aa (ab (ag 2 tk Z ?_))))
   obtain⟨x28,h28,H⟩:=am H
   refine aj hg_del (jt.r) (hp_del _ _ h28) ?_;refine ai tk Z (ac ?_);refine aF Z H (fun H=>?_) (fun H=>?_)
   ·refine aa (ab (ag 3 tk Z ?_))
    obtain⟨x33,k33,H⟩:=aV H
    refine jJ (tag:=0) Z (fun ho0=>?_);refine iV tk ⟨k33.1,(bh k33.2)⟩ (bf ho0 k33.2) ?_
    obtain⟨y4,hy4,H⟩:=bF H
    refine mA tk Z Z Z Z Z Z Z Z (by rw[zl];exact(zg.1 k33.2).1) (PLe.refl _ _) Z Z Z Z (by decide) (bD (fun _=>Z) k33.2 Z hy4) ?_;refine ac (bc 3 tk Z (aM (bc 3 tk Z ?_)));obtain rfl:=aq H;refine ce (y4,(iw (s1.2.1+(1:Int))),(iw (s1.2.2+(1:Int)))) () hg1 (Gh.le (bp (PLe.of2 (pD.of_eq (congrArg (PV.own 0 g_sA) (bt (f:=(ap 58 af)) hy4)))) (ao (ao (ao aL)))) aw (aD ax))
   refine al (aM (bc 3 tk Z ?_));obtain rfl:=aq H;refine ce (s1.1,s1.2.1,(iw (s1.2.2+(1:Int)))) () hg1 Gh.d
  refine bj Z ?_;obtain rfl:=aq H;refine aP (s1.1,s1.2.1,s1.2.2) () hg1 Gh.d
 have H:=ci hn1 Hp1;refine aa (ab (ag 2 tk Z ?_))
 obtain⟨y5,hy5,H⟩:=am H
 have ky5:=mz hy5;refine tV (tag:=0) Z (fun hcy5=>?_);have hny5:(s1.1.map (ap 58 af)).length=(List.map (ap 58 af) s1.1).length:=rfl;have hmy5:=ky5.2.1;rw[<-zl (f:=(ap 58 af)),<-hny5]at hmy5;rw[<-hny5]at hcy5;refine iJ (l:=s1.2.1.toNat) (h:=(s1.1.map (ap 58 af)).length) (m:=g_sA.cap) tk Z Z Z Z Z Z ⟨_,_,rfl,(Int.toNat_of_nonneg ky5.1).symm⟩ Z Z (by decide) hmy5 hcy5 (Nat.le_refl _) Z (bS (Gh.cutO (tag:=0) (rows':=List.map (ap 58 af) y5) Z s1.2.1.toNat (by rw[<-List.map_take,ky5.2.2])) ?_);refine nE (tag:=0) (rows:=List.map (ap 58 af) y5) tk Z Z Z Z Z Z Z Z Z (p:=s1.2.1.toNat) (q:=(s1.1.map (ap 58 af)).length) (m:=g_sA.cap) (by rw[zl,ky5.2.2,List.length_take];exact Nat.min_le_left _ _) hmy5 hcy5 (Nat.le_refl _) Z ?_;refine ac (aa (ab (ag 2 tk Z ?_)))
 obtain⟨y6,hy6,H⟩:=am H
 have ky6:=mz hy6;refine uS (rows':=List.map (ap 58 af) y6) tk Z Z Z Z Z Z Z Z ⟨ky6.1,by rw[zl];exact ky6.2.1⟩ (by rw[<-List.map_take,ky6.2.2]) Z Z ?_;refine ai tk Z (ac ?_);obtain rfl:=aq H;refine bZ (st':=⟨42,upd (fun _=>.any) 4 (.own 0 g_sA (y6.map (ap 58 af)).length),fun _=>none,upd (fun _=>none) 0 (some ⟨g_sA,46,(y6.map (ap 58 af)),true⟩)⟩) (Gh.le (ao aL) aw (aD ax)) ?_;refine cl tk Z (ps:=[(.own 0 g_sA (y6.map (ap 58 af)).length)]) ⟨_,_,rfl,rfl,rfl⟩ (PLe.of2 (pD.own Z)) ⟨rfl,rfl⟩
def ip(y:Rq)(c0:Rq):Option (Bool):=
 ae (cZ c0 y) fun x6=>
 some x6
theorem sQ(y:Rq)(c0:Rq)(r:Bool)(H:ip y c0=some r):
  aY prog 182 [(.list 58 (y.map af)),(.ptr [(.list 58 (c0.map af))])] (aK r):=by
 unfold ip at H;refine PH.au func182 ntmps182 ?_;refine ak 1 tk Z (aa (ab (ag 2 tk Z ?_)))
 obtain⟨x6,h6,H⟩:=am H
 have s6:=fX c0 y _ h6;refine aj call14 (jt.r) s6 ?_;refine ai tk Z (ac ?_);exact bi tk H Z
def gM(op:Rb)(l:Rq):Option (LVal):=
 cond (op==([99,111,117,110,116]:Rb))
  (letP (kd (l.length:Int)) fun x13=>
  some x13)
  (cond ((l.length:Int)==(0:Int))
   (some (LVal.mk 0 0 []))
   (ae (aG l 0) fun(x19:LVal)=>
   ae (aU (σ:=Int×LVal) (ρ:=Empty) (fun(_:Nat) (x1:LVal) (s1:Int×LVal)=>
    cond (op==([109,105,110]:Rb))
     (letP (ng x1 s1.2) fun x36=>
     cond x36
      (some (.next ((iw (s1.1+x1.int)),x1)))
      (cond (op==([109,97,120]:Rb))
       (letP (ng s1.2 x1) fun x44=>
       cond x44
        (some (.next ((iw (s1.1+x1.int)),x1)))
        (some (.next ((iw (s1.1+x1.int)),s1.2))))
       (some (.next ((iw (s1.1+x1.int)),s1.2)))))
     (cond (op==([109,97,120]:Rb))
      (letP (ng s1.2 x1) fun x44=>
      cond x44
       (some (.next ((iw (s1.1+x1.int)),x1)))
       (some (.next ((iw (s1.1+x1.int)),s1.2))))
      (some (.next ((iw (s1.1+x1.int)),s1.2))))) 0 l (0,x19)) fun fl1=>fl1.thenP fun(s1:Int×LVal)=>
   cond (op==([115,117,109]:Rb))
    (letP (kd s1.1) fun x52=>
    some x52)
    (some s1.2)))
theorem qt(op:Rb)(l:Rq)(r:LVal)(H:gM op l=some r):
  aY prog 189 [(.str op),(.list 58 (l.map af))] (.agg (af r)):=by
 unfold gM at H;refine PH.au func189 ntmps189 ?_;refine aa (ab ?_);refine bm tk fun b4=>?_
 refine ac (aa (ak 2 tk Z ?_));refine aF Z H (fun H=>?_) (fun H=>?_)
 ·refine aa (ab (ai tk Z (aI tk (zl _) ?_)))
  obtain⟨x13,h13,H⟩:=bF H
  have s13:=sf (l.length:Int);rw[h13]at s13;refine aj call177 (jt.r) s13 ?_;refine ay tk ?_;refine ac ?_;exact uV tk H Z Z Z Z Z
 refine al (aa (aa (ab (ai tk Z (aI tk (zl _) ?_)))));refine ai tk Z (ac ?_);refine aF Z H (fun H=>?_) (fun H=>?_)
 ·refine aa (ab (ai tk Z (ay tk ?_)));refine ac ?_;exact uV tk H Z Z Z Z Z
 refine al (aa (ab (ai tk Z ?_)))
 obtain⟨x19,k19,H⟩:=aV H
 refine be tk k19.1 (aC (fun _=>Z) k19.2) ?_;refine ai tk Z ?_;refine bm tk fun b5=>?_
 refine ay tk ?_;refine ac (ak 1 tk Z (aa (aa (ab (ai tk Z (aI tk (zl _) ?_))))));refine ai tk Z (ac ?_);refine gc tk 23 22 21 (fun s1 g1=>upd (upd (upd (upd (fun _=>.any) 6 (ah s1.1)) 5 (.box 5 b5 0)) 4 (.box 4 b4 0)) 0 (.str op)) (fun s1 g1=>upd (upd (fun _=>none) 5 (some ⟨b5,(af s1.2)⟩)) 4 (some ⟨b4,[(ah 0),(ah 0),(.str [])]⟩)) nO () H (fun fl1 Hp1 j1 s1 g1 hz1 hl1 x1 fb1 hx1 H hg1=>?_) (fun s1 g1 H=>?_)
 ·refine aa (av (aa (ab ?_)));refine be tk (zn j1) (bA (fun _=>Z) hx1) ?_;refine ai tk Z ?_;refine bm tk fun b8=>?_
  refine ay tk ?_;refine ac (aa (ab (ag 2 tk Z (aJ tk ?_))));refine ag 2 tk Z (ac (aa (ab (ag 3 tk Z ?_))));refine bu Z Z Z H (fun H=>?_) (fun H=>?_)
  ·refine aJ tk ?_;refine aJ tk ?_
   obtain⟨x36,h36,H⟩:=bF H
   have s36:=nM x1 s1.2;rw[h36]at s36;refine aj call176 (jt.r) s36 ?_;refine ag 2 tk Z ?_;refine bu Z Z Z H (fun H=>?_) (fun H=>?_)
   ·refine ag 8 tk Z (ac (ct Z (ab (aJ tk ?_))));refine ay tk ?_;refine ac (aM (bc 2 tk Z ?_));exact bv () H hl1 hg1
   refine ag 3 tk Z ?_;refine bu Z Z Z H (fun H=>?_) (fun H=>?_)
   ·refine aJ tk ?_;refine aJ tk ?_
    obtain⟨x44,h44,H⟩:=bF H
    have s44:=nM s1.2 x1;rw[h44]at s44;refine aj call176 (jt.r) s44 ?_;refine ag 2 tk Z (ac ?_);refine aF Z H (fun H=>?_) (fun H=>?_)
    ·refine ab (aJ tk ?_);refine ay tk ?_;refine ac (aM (bc 2 tk Z ?_));exact bv () H hl1 hg1
    refine al (aM (bc 2 tk Z ?_));exact bv () H hl1 hg1
   refine ag 5 tk Z (ac (bH Z (al (aM (bc 2 tk Z ?_)))));exact bv () H hl1 hg1
  refine ag 8 tk Z ?_;refine bu Z Z Z H (fun H=>?_) (fun H=>?_)
  ·refine aJ tk ?_;refine aJ tk ?_
   obtain⟨x44,h44,H⟩:=bF H
   have s44:=nM s1.2 x1;rw[h44]at s44;refine aj call176 (jt.r) s44 ?_;refine ag 2 tk Z (ac ?_);refine aF Z H (fun H=>?_) (fun H=>?_)
   ·refine ab (aJ tk ?_);refine ay tk ?_;refine ac (aM (bc 2 tk Z ?_));exact bv () H hl1 hg1
   refine al (aM (bc 2 tk Z ?_));exact bv () H hl1 hg1
  refine ag 5 tk Z (ac (bH Z (al (aM (bc 2 tk Z ?_)))));exact bv () H hl1 hg1
 refine aa (ak 2 tk Z ?_);refine aF Z H (fun H=>?_) (fun H=>?_)
 ·refine aa (ab (ai tk Z ?_))
  obtain⟨x52,h52,H⟩:=bF H
  have s52:=sf s1.1;rw[h52]at s52;refine aj call177 (jt.r) s52 ?_;refine ay tk ?_;refine ac ?_;exact uV tk H Z Z Z Z Z
 refine al (aa (ab (aJ tk ?_)));refine ay tk ?_;refine ac ?_;exact uV tk H Z Z Z Z Z
def er(data:Rz)(a:Int)(m:Int)(b:Int)(cmp:Rq->Rq->Option (Int)):Option (Rz):=
 ae (dg (σ:=Rz×Int×Int) (ρ:=Empty) (fun(s1:Rz×Int×Int)=>
  cond (s1.2.1 !=s1.2.2)
   (cond (decide (s1.2.1>s1.2.2))
    (ae (dp s1.1 (iw (m-s1.2.1)) m s1.2.2 cmp) fun x31=>
    ae (cF (x31.length=s1.1.length) ()) fun(_:Unit)=>
    some (.next (x31,(iw (s1.2.1-s1.2.2)),s1.2.2)))
    (ae (dp s1.1 (iw (m-s1.2.1)) (iw ((iw (m+s1.2.2))-s1.2.1)) s1.2.1 cmp) fun x46=>
    ae (cF (x46.length=s1.1.length) ()) fun(_:Unit)=>
    some (.next (x46,s1.2.1,(iw (s1.2.2-s1.2.1))))))
   (some (.brk (s1.1,s1.2.1,s1.2.2)))) (data,(iw (m-a)),(iw (b-m)))) fun fl1=>fl1.thenP fun(s1:Rz×Int×Int)=>
 ae (dp s1.1 (iw (m-s1.2.1)) m s1.2.1 cmp) fun x57=>
 ae (cF (x57.length=s1.1.length) ()) fun(_:Unit)=>
 some x57
theorem oi(g_data:OwnRef){g_cmp:FuncId}{caps_cmp:List PV}(data:Rz)(a:Int)(m:Int)(b:Int)(cmp:Rq->Rq->Option (Int))(hg_cmp:∀(vs:Array Value) (w:World),(callFunc g_cmp vs).run prog w= .ok (.enter g_cmp vs) w)(hp_cmp:∀a0 a1 r,cmp a0 a1=some r->aY prog g_cmp ((.list 58 (a0.map af))::(.list 58 (a1.map af))::caps_cmp) (ah r))(r:Rz)(H:er data a m b cmp=some r):
  PH prog 193 [(.own 0 g_data (data.map (ap 58 af)).length),(ah a),(ah m),(ah b),(.fn g_cmp caps_cmp)] ⟨fun _=>none,upd (fun _=>none) 0 (some ⟨g_data,46,(data.map (ap 58 af)),true⟩)⟩ (fun u H=>u=(.tup [])/\H=⟨fun _=>none,upd (fun _=>none) 0 (some ⟨g_data,46,(r.map (ap 58 af)),true⟩)⟩):=by
 unfold er at H;refine PH.au func193 ntmps193 ?_;refine ak 4 tk Z (ak 4 tk Z (aa ?_))
 obtain⟨fl1,H1,Hp1⟩:=am H
 refine dj (τ:=Rz×Int×Int) (γ:=Unit) (fun s1 g1=>⟨58,upd (upd (upd (upd (fun _=>.any) 10 (ah s1.2.1)) 4 (.fn g_cmp caps_cmp)) 2 (ah m)) 0 (.own 0 g_data (s1.1.map (ap 58 af)).length),fun _=>none,upd (fun _=>none) 0 (some ⟨g_data,46,(s1.1.map (ap 58 af)),true⟩)⟩) (fun t=>fl1= .next t) ?_ (fun s1 g1 hn1=>?_)
 ·refine av ?_;refine cO (fun s1 g1=>⟨58,upd (upd (upd (upd (upd (fun _=>.any) 11 (ah s1.2.2)) 10 (ah s1.2.1)) 4 (.fn g_cmp caps_cmp)) 2 (ah m)) 0 (.own 0 g_data (s1.1.map (ap 58 af)).length),fun _=>none,upd (fun _=>none) 0 (some ⟨g_data,46,(s1.1.map (ap 58 af)),true⟩)⟩) () H1 Gh.d (fun m1 s1 g1 hr1=>?_)
  obtain⟨fb1,H,hg1⟩:=cp hr1
  refine aa (ak 3 tk Z ?_);refine aF Z H (fun H=>?_) (fun H=>?_)
  ·refine al (av (ak 3 tk Z ?_));refine aF Z H (fun H=>?_) (fun H=>?_)
   ·refine aa (ab (ag 7 tk Z ?_))
    obtain⟨x31,h31,H⟩:=am H
    have s31:=ix g_data s1.1 (iw (m-s1.2.1)) m s1.2.2 cmp hg_cmp hp_cmp _ h31
    obtain⟨_,q31_0,H⟩:=am H
    have l31_0:=(bG q31_0).1;have z31_0:(List.map (ap 58 af) s1.1).length=(List.map (ap 58 af) x31).length:=by simpa using(l31_0).symm
    refine bB (g:=194) Z Z Z call194 [] [(0,0)] Z Z Z Z (jt.of2 (jN.cons (pD.own Z) (jN.cons (pD.of_eq Z) (jN.cons (pD.of_eq Z) (jN.cons (pD.of_eq Z) (jN.cons (pD.of_eq Z) jN.nil)))))) (by rw[bq,aW,bn];rfl) s31 ?_;rintro u31 H31h ⟨rfl,rfl⟩
    refine⟨_,rfl,?_⟩
    refine bS (st':=⟨_,_,fun _=>none,upd (fun _=>none) 0 (some ⟨g_data,46,(x31.map (ap 58 af)),true⟩)⟩) (Gh.le (bs _ _) aw (aD ax)) ?_;refine ac (bc 4 tk Z (aM ?_));obtain rfl:=aq H;refine ce (x31,(iw (s1.2.1-s1.2.2)),s1.2.2) () hg1 (Gh.le (bp (PLe.of2 (pD.of_eq (congrArg (PV.own 0 g_data) z31_0))) (ao (ao (ao (ao aL))))) aw (aD ax))
   refine aa (ab (ag 11 tk Z ?_))
   obtain⟨x46,h46,H⟩:=am H
   have s46:=ix g_data s1.1 (iw (m-s1.2.1)) (iw ((iw (m+s1.2.2))-s1.2.1)) s1.2.1 cmp hg_cmp hp_cmp _ h46
   obtain⟨_,q46_0,H⟩:=am H
   have l46_0:=(bG q46_0).1;have z46_0:(List.map (ap 58 af) s1.1).length=(List.map (ap 58 af) x46).length:=by simpa using(l46_0).symm
   refine bB (g:=194) Z Z Z call194 [] [(0,0)] Z Z Z Z (jt.of2 (jN.cons (pD.own Z) (jN.cons (pD.of_eq Z) (jN.cons (pD.of_eq Z) (jN.cons (pD.of_eq Z) (jN.cons (pD.of_eq Z) jN.nil)))))) (by rw[bq,aW,bn];rfl) s46 ?_;rintro u46 H46h ⟨rfl,rfl⟩
   refine⟨_,rfl,?_⟩
   refine bS (st':=⟨_,_,fun _=>none,upd (fun _=>none) 0 (some ⟨g_data,46,(x46.map (ap 58 af)),true⟩)⟩) (Gh.le (bs _ _) aw (aD ax)) ?_;refine ac (bc 4 tk Z (aM ?_));obtain rfl:=aq H;refine ce (x46,s1.2.1,(iw (s1.2.2-s1.2.1))) () hg1 (Gh.le (bp (PLe.of2 (pD.of_eq (congrArg (PV.own 0 g_data) z46_0))) (ao (ao (ao (ao aL))))) aw (aD ax))
  refine bj Z ?_;obtain rfl:=aq H;refine aP (s1.1,s1.2.1,s1.2.2) () hg1 Gh.d
 have H:=ci hn1 Hp1;refine ab (ag 7 tk Z ?_)
 obtain⟨x57,h57,H⟩:=am H
 have s57:=ix g_data s1.1 (iw (m-s1.2.1)) m s1.2.1 cmp hg_cmp hp_cmp _ h57
 obtain⟨_,q57_0,H⟩:=am H
 have l57_0:=(bG q57_0).1;have z57_0:(List.map (ap 58 af) s1.1).length=(List.map (ap 58 af) x57).length:=by simpa using(l57_0).symm
 refine bB (g:=194) Z Z Z call194 [] [(0,0)] Z Z Z Z (jt.of2 (jN.cons (pD.own Z) (jN.cons (pD.of_eq Z) (jN.cons (pD.of_eq Z) (jN.cons (pD.of_eq Z) (jN.cons (pD.of_eq Z) jN.nil)))))) (by rw[bq,aW,bn];rfl) s57 ?_;rintro u57 H57h ⟨rfl,rfl⟩
 refine⟨_,rfl,?_⟩
 refine bS (st':=⟨_,_,fun _=>none,upd (fun _=>none) 0 (some ⟨g_data,46,(x57.map (ap 58 af)),true⟩)⟩) (Gh.le (bs _ _) aw (aD ax)) ?_;refine ac ?_;obtain rfl:=aq H;refine bZ (st':=⟨58,fun _=>.any,fun _=>none,upd (fun _=>none) 0 (some ⟨g_data,46,(x57.map (ap 58 af)),true⟩)⟩) (Gh.le aL aw (aD ax)) ?_;refine iO Z (PLe.q Z) ⟨rfl,rfl⟩
def io(t:LTable)(name:Rb):Option (Int×Bool):=
 ae (bO t.columns (fun a0=>some (eY a0 name))) fun x10=>
 some ((if(0:Int)>x10 then(0:Int)else x10),(decide (x10>=(0:Int))))
theorem sS(t:LTable)(name:Rb)(r:Int×Bool)(H:io t name=some r):
  aY prog 57 [(.agg (bM t)),(.str name)] (.tup [(ah r.1),(aK r.2)]):=by
 unfold io at H;refine PH.au func57 ntmps57 ?_;refine aa (ab (aO ?_));refine aO ?_;refine ag 2 tk Z (ac (aa (ab (ag 3 tk Z ?_))))
 obtain⟨x10,h10,H⟩:=am H
 have s10:=dF t.columns (fun a0=>some (eY a0 name)) call90 (fun a0 r h=>(aq h)▸rD a0 name) _ h10;refine aj call89 (jt.r) s10 ?_;refine ai tk Z (ac (ak 6 tk Z ?_));exact bi tk H Z
def dZ(sA:LSchema)(name:Rb):Option (Int×Bool):=
 ae (cI sA.tables (fun a0=>some (cE a0 name))) fun x10=>
 some ((if(0:Int)>x10 then(0:Int)else x10),(decide (x10>=(0:Int))))
theorem jE(sA:LSchema)(name:Rb)(r:Int×Bool)(H:dZ sA name=some r):
  aY prog 24 [(.agg (da sA)),(.str name)] (.tup [(ah r.1),(aK r.2)]):=by
 unfold dZ at H;refine PH.au func24 ntmps24 ?_;refine aa (ab (aO ?_));refine aO ?_;refine ag 2 tk Z (ac (aa (ab (ag 3 tk Z ?_))))
 obtain⟨x10,h10,H⟩:=am H
 have s10:=eM sA.tables (fun a0=>some (cE a0 name)) call48 (fun a0 r h=>(aq h)▸sz a0 name) _ h10;refine aj call47 (jt.r) s10 ?_;refine ai tk Z (ac (ak 6 tk Z ?_));exact bi tk H Z
def iL(a:LForeignKey)(b:LForeignKey):Option (Bool):=
 cond (a.table==b.table)
  (ae (hO a.columns b.columns) fun x15=>
  cond x15
   (some (a.refTable==b.refTable))
   (some false))
  (some false)
theorem qa(a:LForeignKey)(b:LForeignKey)(r:Bool)(H:iL a b=some r):
  aY prog 36 [(.agg (gW a)),(.agg (gW b))] (aK r):=by
 unfold iL at H;refine PH.au func36 ntmps36 ?_;refine aa (ab (aO ?_));refine aO ?_;refine ai tk Z (ac (aa (ab (ag 6 tk Z ?_))));refine bu Z Z Z H (fun H=>?_) (fun H=>?_)
 ·refine ag 4 tk Z ?_
  obtain⟨x15,h15,H⟩:=am H
  have s15:=qD a.columns b.columns _ h15;refine aj call59 (jt.r) s15 ?_;refine ag 2 tk Z ?_;refine bu Z Z Z H (fun H=>?_) (fun H=>?_)
  ·refine ag 7 tk Z (ac ?_);exact bi tk H Z
  refine ag 7 tk Z (ac ?_);exact bi tk H Z
 refine ag 14 tk Z (ac ?_);exact bi tk H Z
def cJ(sA:List LForeignKey)(f:LForeignKey->Option (Bool)):Option (Bool):=
 ae (dH sA f) fun x7=>
 some (decide (x7>=(0:Int)))
theorem jP{g_f:FuncId}{caps_f:List PV}(sA:List LForeignKey)(f:LForeignKey->Option (Bool))(hg_f:∀(vs:Array Value) (w:World),(callFunc g_f vs).run prog w= .ok (.enter g_f vs) w)(hp_f:∀a0 r,f a0=some r->aY prog g_f ((.agg (gW a0))::caps_f) (aK r))(r:Bool)(H:cJ sA f=some r):
  aY prog 34 [(.list 99 (sA.map gW)),(.fn g_f caps_f)] (aK r):=by
 unfold cJ at H;refine PH.au func34 ntmps34 ?_;refine ak 1 tk Z (aa (ab (ag 2 tk Z ?_)))
 obtain⟨x7,h7,H⟩:=am H
 have s7:=kp sA f hg_f hp_f _ h7;refine aj call58 (jt.r) s7 ?_;refine ag 2 tk Z (ac ?_);exact bi tk H Z
def cY(sA:List LConstraint)(v:LConstraint):Option (Bool):=
 ae (dQ sA v) fun x7=>
 some (decide (x7>=(0:Int)))
theorem ky(sA:List LConstraint)(v:LConstraint)(r:Bool)(H:cY sA v=some r):
  aY prog 38 [(.list 105 (sA.map iK)),(.agg (iK v))] (aK r):=by
 unfold cY at H;refine PH.au func38 ntmps38 ?_;refine aa (ab (aO ?_));refine ai tk Z (ac (aa (ab (ag 2 tk Z ?_))))
 obtain⟨x7,h7,H⟩:=am H
 have s7:=kR sA v _ h7;refine aj call62 (jt.r) s7 ?_;refine ag 2 tk Z (ac ?_);exact bi tk H Z
def iE(rows:Rz):Option (Rz):=
 ae (aU (σ:=Rz) (ρ:=Empty) (fun(_:Nat) (x1:Rq) (s1:Rz)=>
  ae (dq 24 s1 ([x1]:Rz)) fun(x16:Rz)=>
  some (.next x16)) 0 rows []) fun fl1=>fl1.thenP fun(s1:Rz)=>
 some s1
theorem np{m:Nat}(rows:Rz)(r:Rz)(H:iE rows=some r):
  jr prog 45 [(.list 46 (rows.map (ap 58 af)))] (lN m 46 (r.map (ap 58 af))):=by
 unfold iE at H;refine PH.au func45 ntmps45 ?_;refine ak 1 tk Z (ak 1 tk Z (aa (aa (ab (ai tk Z (aI tk (zl _) ?_))))));refine ai tk Z (ac (hZ tk 3 16 (e:=46) Z Z ?_));refine gc (γ:=OwnRef) tk 8 7 6 (fun s1 g1=>upd (fun _=>.any) 3 (.own 16 g1 (s1.map (ap 58 af)).length)) nB (fun s1 g1=>upd (fun _=>none) 16 (some ⟨g1,46,(s1.map (ap 58 af)),true⟩)) (⟨none,0⟩) H (fun fl1 Hp1 j1 s1 g1 hz1 hl1 x1 fb1 hx1 H hg1=>?_) (fun s1 g1 H=>?_)
 ·refine aa (av (aa (ab ?_)));refine be tk (zn j1) (bA (fun _=>Z) hx1) ?_;refine ag 2 tk Z (ac (ab (ag 2 tk Z ?_)));have s14:=qp (m:=14) x1;refine aj call49 (jt.r) (PFun.iw s14) ?_;refine cy tk (rows':=List.map (ap 58 af) ([x1]:Rz)) (gP.refl _) ?_
  obtain⟨x16,h16,H⟩:=am H
  have k16:=cj h16;refine cv (rows2':=List.map (ap 58 af) ([x1]:Rz)) (rows':=List.map (ap 58 af) x16) tk Z Z Z Z Z Z Z Z Z Z Z Z Z (gP.refl _) (cU k16.1) (cW k16.2.1) (cV k16.2.2) fun g16=>?_
  refine ai tk Z (ac (aM (bc 2 tk Z ?_)));exact bv g16 H hl1 hg1
 refine ak 2 tk Z ?_;obtain rfl:=aq H;refine jI tk Z
def iT(t:LTable)(key:Rq):Option (Int):=
 cond ((key.length:Int) !=(t.primaryKey.length:Int))
  (some 3)
  (ae (aU (σ:=Unit) (ρ:=(Int)) (fun(j1:Nat) (x1:LVal) (_:Unit)=>
   letP (dS x1) fun x22=>
   cond (x22 !=(0:Int))
    (some (.ret x22))
    (ae (aG t.primaryKey (j1:Int)) fun(x33:Int)=>
    ae (aG t.columns x33) fun(x35:LCol)=>
    cond (x1.kind !=x35.kind)
     (some (.ret 7))
     (some (.next ())))) 0 key ()) fun fl1=>fl1.thenR fun(_:Unit)=>
  some 0)
theorem rZ(t:LTable)(key:Rq)(r:Int)(H:iT t key=some r):
  aY prog 46 [(.agg (bM t)),(.list 58 (key.map af))] (ah r):=by
 unfold iT at H;refine PH.au func46 ntmps46 ?_;refine aa (ab (aO ?_));refine ai tk Z (ac (aa (aa (ab (ai tk Z (aI tk (zl _) ?_))))));refine ag 2 tk Z (aI tk (zl _) ?_);refine ai tk Z (ac ?_);refine aF Z H (fun H=>?_) (fun H=>?_)
 ·refine ak 1 tk Z ?_;exact bi tk H Z
 refine al (aa (aa (ab (ai tk Z (aI tk (zl _) ?_)))));refine ai tk Z (ac ?_);refine ff tk 16 15 14 (fun s1 g1=>upd (fun _=>.any) 2 (.ptr (bM t))) nB nO () H (fun fl1 Hp1 j1 s1 g1 hz1 hl1 x1 fb1 hx1 H hg1=>?_) (fun s1 g1 H=>?_)
 ·refine aa (av (aa (ab (ai tk Z ?_))));refine be tk (zn j1) (bA (fun _=>Z) hx1) ?_;refine ai tk Z ?_;refine bm tk fun b6=>?_
  refine ai tk Z (ay tk ?_);refine ac (aa (aa (ab (aJ tk ?_))))
  obtain⟨x22,h22,H⟩:=bF H
  have s22:=nw x1;rw[h22]at s22;refine aj call61 (jt.r) s22 ?_;refine ai tk Z (ac (ak 2 tk Z ?_));refine aF Z H (fun H=>?_) (fun H=>?_)
  ·refine ak 2 tk Z ?_;obtain rfl:=aq H;have e1:fl1= .ret _:=hg1;subst e1;obtain rfl:=aZ Hp1;refine bl tk Z (ps:=[(ah x22)]) ⟨_,_,rfl,rfl,rfl⟩ (PLe.q Z)
  refine al (aa (aX tk mok ⟨true,false,[29,31,34,37]⟩ [0,1,2,3,4,5,6,7,8,9,10,11,12] Z (by decide+kernel) Z (bw Z (bd ?_))));refine az 5 Z ?_
  obtain⟨x33,k33,H⟩:=aV H
  refine bE k33.1 (aC (fun _=>Z) k33.2) ?_;refine bw Z ?_
  obtain⟨x35,k35,H⟩:=aV H
  refine bE k35.1 (aC (fun _=>Z) k35.2) ?_;refine az 3 Z (aQ ?_);refine aF Z H (fun H=>?_) (fun H=>?_)
  ·refine ak 1 tk Z ?_;obtain rfl:=aq H;have e1:fl1= .ret _:=hg1;subst e1;obtain rfl:=aZ Hp1;refine bl tk Z (ps:=[(ah 7)]) ⟨_,_,rfl,rfl,rfl⟩ (PLe.q Z)
  refine al (aM (bc 2 tk Z ?_));exact bv () H hl1 hg1
 refine ak 1 tk Z ?_;exact bi tk H Z
def ml(x:Int):Option (Int):=
 ae (mT x) fun x7=>
 some x7
theorem qW(x:Int)(r:Int)(H:ml x=some r):
  aY prog 55 [(.val (.int .u64 x))] (ah r):=by
 unfold ml at H;refine PH.au func55 ntmps55 ?_;refine ak 1 tk Z (aa (bH Z (al (aa (ab (ai tk Z ?_))))))
 obtain⟨x7,h7,H⟩:=am H
 have s7:=uc x _ h7;refine aj call88 (jt.r) s7 ?_;refine ai tk Z (ac ?_);exact bi tk H Z
def cM(x:Rb)(y:Rb):Bool:=
 letP (jH x) fun x6=>
 cond x6
  (letP (jH y) fun x9=>
  cond (!x9)
   (true)
   ((Op.bytesLess x y)))
  ((Op.bytesLess x y))
theorem dy(x:Rb)(y:Rb):
  aY prog 84 [(.str x),(.str y)] (aK (cM x y)):=by
 obtain⟨r,H⟩:∃r,cM x y=r:=⟨_,rfl⟩
 rw[H];unfold cM at H;refine PH.au func84 ntmps84 ?_;refine ak 1 tk Z (aa (ab (ai tk Z ?_)))
 obtain⟨x6,h6,H⟩:=bF H
 have s6:=po x;rw[h6]at s6;refine aj call117 (jt.r) s6 ?_;refine ai tk Z ?_;refine bu Z Z Z H (fun H=>?_) (fun H=>?_)
 ·refine ai tk Z ?_
  obtain⟨x9,h9,H⟩:=bF H
  have s9:=po y;rw[h9]at s9;refine aj call117 (jt.r) s9 ?_;refine ag 3 tk Z ?_;refine bu Z Z Z H (fun H=>?_) (fun H=>?_)
  ·refine ag 5 tk Z (ac ?_);exact eA tk H Z
  refine ag 5 tk Z (ac ?_);exact eA tk H Z
 refine ag 10 tk Z (ac ?_);exact eA tk H Z
def fj(sA:List LChange)(f:LChange->Option (Bool)):Option (Bool):=
 ae (fO sA f) fun x7=>
 some (decide (x7>=(0:Int)))
theorem kY{g_f:FuncId}{caps_f:List PV}(sA:List LChange)(f:LChange->Option (Bool))(hg_f:∀(vs:Array Value) (w:World),(callFunc g_f vs).run prog w= .ok (.enter g_f vs) w)(hp_f:∀a0 r,f a0=some r->aY prog g_f ((.agg (cu a0))::caps_f) (aK r))(r:Bool)(H:fj sA f=some r):
  aY prog 9 [(.list 48 (sA.map cu)),(.fn g_f caps_f)] (aK r):=by
 unfold fj at H;refine PH.au func9 ntmps9 ?_;refine ak 1 tk Z (aa (ab (ag 2 tk Z ?_)))
 obtain⟨x7,h7,H⟩:=am H
 have s7:=lG sA f hg_f hp_f _ h7;refine aj call30 (jt.r) s7 ?_;refine ag 2 tk Z (ac ?_);exact bi tk H Z
def cC(kinds:List Int)(c0:LProcedureStatement):Option (Bool):=
 ae (ez kinds c0.kind) fun x7=>
 some x7
theorem dE(kinds:List Int)(c0:LProcedureStatement)(r:Bool)(H:cC kinds c0=some r):
  aY prog 92 [(.list 3 (kinds.map cq)),(.ptr (aE c0))] (aK r):=by
 unfold cC at H;refine PH.au func92 ntmps92 ?_;refine ak 1 tk Z (aa (ab (ag 3 tk Z ?_)))
 obtain⟨x7,h7,H⟩:=am H
 have s7:=jO kinds c0.kind _ h7;refine aj call93 (jt.r) s7 ?_;refine ai tk Z (ac ?_);exact bi tk H Z
def ft(c:LProcedureChecker)(q:LQuery):Option (Int):=
 ae (fm q) fun x11=>
 ae (aU (σ:=Unit) (ρ:=(Int)) (fun(j1:Nat) (x1:Int) (_:Unit)=>
  cond (x1 !=(0:Int))
   (cond (decide ((j1:Int)>=(c.args.length:Int)))
    (some (.ret 7))
    (ae (aG c.args (j1:Int)) fun(x33:Int)=>
    cond (x33 !=x1)
     (some (.ret 7))
     (some (.next ()))))
   (some (.next ()))) 0 x11.1 ()) fun fl1=>fl1.thenR fun(_:Unit)=>
 some 0
theorem mf(c:LProcedureChecker)(q:LQuery)(r:Int)(H:ft c q=some r):
  aY prog 99 [(.agg (bL c)),(.agg (bg q))] (ah r):=by
 unfold ft at H;refine PH.au func99 ntmps99 ?_;refine aa (ab (aO ?_));refine aO ?_;refine ai tk Z (ac (aa (ab (ai tk Z ?_))))
 obtain⟨x11,h11,H⟩:=am H
 have s11:=kX q _ h11;refine aj call125 (jt.r) s11 ?_;refine ag 5 tk Z (ac (aa (aa (ab (ai tk Z (aI tk (zl _) ?_))))));refine ai tk Z (ac ?_);refine ff tk 16 15 14 (fun s1 g1=>upd (fun _=>.any) 2 (.ptr (bL c))) nB nO () H (fun fl1 Hp1 j1 s1 g1 hz1 hl1 x1 fb1 hx1 H hg1=>?_) (fun s1 g1 H=>?_)
 ·refine aa (av (aa (ab (ai tk Z ?_))));refine be tk (zn j1) (bA (fun _=>Z) hx1) ?_;refine ag 3 tk Z (ac (aa (ab (ag 3 tk Z ?_))));refine bu Z Z Z H (fun H=>?_) (fun H=>?_)
  ·refine ag 3 tk Z (aI tk (zl _) ?_);refine ag 2 tk Z ?_;refine bu Z Z Z H (fun H=>?_) (fun H=>?_)
   ·refine ag 9 tk Z (ac (ct Z (ak 1 tk Z ?_)));obtain rfl:=aq H;have e1:fl1= .ret _:=hg1;subst e1;obtain rfl:=aZ Hp1;refine bl tk Z (ps:=[(ah 7)]) ⟨_,_,rfl,rfl,rfl⟩ (PLe.q Z)
   refine ag 3 tk Z ?_
   obtain⟨x33,k33,H⟩:=aV H
   refine be tk k33.1 (aC (fun _=>Z) k33.2) ?_;refine ag 5 tk Z (ac ?_);refine aF Z H (fun H=>?_) (fun H=>?_)
   ·refine ak 1 tk Z ?_;obtain rfl:=aq H;have e1:fl1= .ret _:=hg1;subst e1;obtain rfl:=aZ Hp1;refine bl tk Z (ps:=[(ah 7)]) ⟨_,_,rfl,rfl,rfl⟩ (PLe.q Z)
   refine al (aM (bc 2 tk Z ?_));exact bv () H hl1 hg1
  refine ag 15 tk Z (ac (bH Z (al (aM (bc 2 tk Z ?_)))));exact bv () H hl1 hg1
 refine ak 1 tk Z ?_;exact bi tk H Z
def jM(vars:List LCol)(x:LCol):Option ((List LCol)):=
 ae (dB vars (fun a0=>some (ib a0 x))) fun x9=>
 ae (dq 32 x9 ([x]:List LCol)) fun(x13:List LCol)=>
 some x13
theorem qV(vars:List LCol)(x:LCol)(r:(List LCol))(H:jM vars x=some r):
  aY prog 96 [(.list 53 (vars.map aB)),(.agg (aB x))] (.list 53 (r.map aB)):=by
 unfold jM at H;refine PH.au func96 ntmps96 ?_;refine aa (ab (aO ?_));refine ai tk Z (ac (aa (ab (ai tk Z ?_))));have s7:=nD (m:=7) vars;refine jj call104 (jt.r) s7 (fun g7=>?_);refine ai tk Z ?_
 obtain⟨x9,h9,H⟩:=am H
 have s9:=lA g7 vars (fun a0=>some (ib a0 x)) call122 (fun a0 r h=>(aq h)▸uk a0 x) _ h9;refine bB (g:=121) Z Z Z call121 [] [(7,0)] Z Z Z Z (jt.of2 (jN.cons (pD.own Z) (jN.cons (pD.of_eq Z) jN.nil))) (by rw[bq,aW,bn];rfl) s9 ?_;rintro u9 H9h ⟨rfl,rfl⟩
 refine⟨_,rfl,?_⟩
 refine bS (st':=⟨_,_,fun _=>none,upd (fun _=>none) 7 (some ⟨g7,53,(x9.map aB),true⟩)⟩) (Gh.le (bs _ _) aw (aD ax)) ?_;refine je 9 (q:=(.own 7 g7 (x9.map aB).length)) Z (PLe.of2 (pD.own Z)) (ai tk Z (ac (aa (ab (ag 2 tk Z (cy tk (rows':=List.map aB ([x]:List LCol)) (gP.refl _) ?_))))))
 obtain⟨x13,h13,H⟩:=am H
 have k13:=cj h13;refine cv (rows2':=List.map aB ([x]:List LCol)) (rows':=List.map aB x13) tk Z Z Z Z Z Z Z Z Z Z Z Z Z (gP.refl _) (cU k13.1) (cW k13.2.1) (cV k13.2.2) fun g13=>?_
 refine ai tk Z (ac (cT 4 Z Z Z ?_));exact bi tk H Z
def ep(kinds:List Int)(c0:LQuery):Option (Bool):=
 ae (ez kinds c0.kind) fun x7=>
 some x7
theorem gA(kinds:List Int)(c0:LQuery)(r:Bool)(H:ep kinds c0=some r):
  aY prog 166 [(.list 3 (kinds.map cq)),(.ptr (bg c0))] (aK r):=by
 unfold ep at H;refine PH.au func166 ntmps166 ?_;refine ak 1 tk Z (aa (ab (ag 3 tk Z ?_)))
 obtain⟨x7,h7,H⟩:=am H
 have s7:=jO kinds c0.kind _ h7;refine aj call93 (jt.r) s7 ?_;refine ai tk Z (ac ?_);exact bi tk H Z
def kO(a:LVal)(b:LVal):Int:=
 letP (iu a.kind b.kind) fun x11=>
 cond (x11 !=(0:Int))
  (x11)
  (letP (iu a.int b.int) fun x19=>
  cond (x19 !=(0:Int))
   (x19)
   (letP (ll a.text b.text) fun x27=>
   x27))
theorem qF(a:LVal)(b:LVal):
  aY prog 63 [(.agg (af a)),(.agg (af b))] (ah (kO a b)):=by
 obtain⟨r,H⟩:∃r,kO a b=r:=⟨_,rfl⟩
 rw[H];unfold kO at H;refine PH.au func63 ntmps63 ?_;refine aa (ab (aO ?_));refine aO ?_;refine ai tk Z (ac (aa (aa (ab (ag 4 tk Z ?_)))))
 obtain⟨x11,h11,H⟩:=bF H
 have s11:=me a.kind b.kind;rw[h11]at s11;refine aj call64 (jt.r) s11 ?_;refine ai tk Z (ac (ak 2 tk Z ?_));refine aF Z H (fun H=>?_) (fun H=>?_)
 ·refine ak 2 tk Z ?_;exact eA tk H Z
 refine al (aa (aa (ab (ag 4 tk Z ?_))))
 obtain⟨x19,h19,H⟩:=bF H
 have s19:=me a.int b.int;rw[h19]at s19;refine aj call64 (jt.r) s19 ?_;refine ai tk Z (ac (ak 2 tk Z ?_));refine aF Z H (fun H=>?_) (fun H=>?_)
 ·refine ak 2 tk Z ?_;exact eA tk H Z
 refine al (aa (ab (ag 4 tk Z ?_)))
 obtain⟨x27,h27,H⟩:=bF H
 have s27:=ua a.text b.text;rw[h27]at s27;refine aj call91 (jt.r) s27 ?_;refine ai tk Z (ac ?_);exact eA tk H Z
def iz(q:LQuery)(args:Rq):Option (Int):=
 ae (fm q) fun x11=>
 cond (x11.2 !=(0:Int))
  (some x11.2)
  (cond (decide ((args.length:Int)<(x11.1.length:Int)))
   (some 1)
   (ae (aU (σ:=Unit) (ρ:=(Int)) (fun(j1:Nat) (x1:Int) (_:Unit)=>
    ae (aG args (j1:Int)) fun(x31:LVal)=>
    letP (lz x31) fun x33=>
    cond (!x33)
     (some (.ret 7))
     (cond (x1 !=(0:Int))
      (ae (aG args (j1:Int)) fun(x41:LVal)=>
      cond (x41.kind !=x1)
       (ae (aG args (j1:Int)) fun(x50:LVal)=>
       cond (x50.kind !=(0:Int))
        (some (.ret 7))
        (some (.next ())))
       (some (.next ())))
      (some (.next ())))) 0 x11.1 ()) fun fl1=>fl1.thenR fun(_:Unit)=>
   some 0))
theorem ri(q:LQuery)(args:Rq)(r:Int)(H:iz q args=some r):
  aY prog 133 [(.agg (bg q)),(.list 58 (args.map af))] (ah r):=by
 unfold iz at H;refine PH.au func133 ntmps133 ?_;refine aa (ab (aO ?_));refine ai tk Z (ac (aa (ab (ai tk Z ?_))))
 obtain⟨x11,h11,H⟩:=am H
 have s11:=kX q _ h11;refine aj call125 (jt.r) s11 ?_;refine ag 5 tk Z (ac (aa (ak 2 tk Z ?_)));refine aF Z H (fun H=>?_) (fun H=>?_)
 ·refine ak 2 tk Z ?_;exact bi tk H Z
 refine al (aa (aa (ab (ai tk Z (aI tk (zl _) ?_)))));refine ai tk Z (aI tk (zl _) ?_);refine ai tk Z (ac ?_);refine aF Z H (fun H=>?_) (fun H=>?_)
 ·refine ak 1 tk Z ?_;exact bi tk H Z
 refine al (aa (aa (ab (ai tk Z (aI tk (zl _) ?_)))));refine ai tk Z (ac ?_);refine ff tk 24 23 22 (fun s1 g1=>upd (fun _=>.any) 1 (.list 58 (args.map af))) nB nO () H (fun fl1 Hp1 j1 s1 g1 hz1 hl1 x1 fb1 hx1 H hg1=>?_) (fun s1 g1 H=>?_)
 ·refine aa (av (aa (ab (ai tk Z ?_))));refine be tk (zn j1) (bA (fun _=>Z) hx1) ?_;refine ag 3 tk Z (ac (aa (ab (ag 2 tk Z ?_))))
  obtain⟨x31,k31,H⟩:=aV H
  refine be tk k31.1 (aC (fun _=>Z) k31.2) ?_;refine ai tk Z ?_
  obtain⟨x33,h33,H⟩:=bF H
  have s33:=qZ x31;rw[h33]at s33;refine aj call19 (jt.r) s33 ?_;refine ag 2 tk Z ?_;refine bu Z Z Z H (fun H=>?_) (fun H=>?_)
  ·refine ag 20 tk Z (ac (ct Z (ak 1 tk Z ?_)));obtain rfl:=aq H;have e1:fl1= .ret _:=hg1;subst e1;obtain rfl:=aZ Hp1;refine bl tk Z (ps:=[(ah 7)]) ⟨_,_,rfl,rfl,rfl⟩ (PLe.q Z)
  refine ag 3 tk Z ?_;refine bu Z Z Z H (fun H=>?_) (fun H=>?_)
  ·refine ag 2 tk Z ?_
   obtain⟨x41,k41,H⟩:=aV H
   refine be tk k41.1 (aC (fun _=>Z) k41.2) ?_;refine ag 6 tk Z ?_;refine bu Z Z Z H (fun H=>?_) (fun H=>?_)
   ·refine ag 2 tk Z ?_
    obtain⟨x50,k50,H⟩:=aV H
    refine be tk k50.1 (aC (fun _=>Z) k50.2) ?_;refine ag 5 tk Z (ac ?_);refine aF Z H (fun H=>?_) (fun H=>?_)
    ·refine ak 1 tk Z ?_;obtain rfl:=aq H;have e1:fl1= .ret _:=hg1;subst e1;obtain rfl:=aZ Hp1;refine bl tk Z (ps:=[(ah 7)]) ⟨_,_,rfl,rfl,rfl⟩ (PLe.q Z)
    refine al (aM (bc 2 tk Z ?_));exact bv () H hl1 hg1
   refine ag 8 tk Z (ac (bH Z (al (aM (bc 2 tk Z ?_)))));exact bv () H hl1 hg1
  refine ag 17 tk Z (ac (bH Z (al (aM (bc 2 tk Z ?_)))));exact bv () H hl1 hg1
 refine ak 1 tk Z ?_;exact bi tk H Z
def mB(a:Rz)(b:Rz):Option (Rz):=
 ae (aU (σ:=Rz×Rz) (ρ:=Empty) (fun(_:Nat) (x1:Rq) (s1:Rz×Rz)=>
  ae (cr s1.1 (fun a0=>km a0 x1)) fun x20=>
  ae (cF (x20.2.length=s1.1.length) ()) fun(_:Unit)=>
  cond (decide (x20.1>=(0:Int)))
   (ae (nN x20.2 x20.1 (iw (x20.1+(1:Int)))) fun x27=>
   some (.next (x27,s1.2)))
   (ae (dq 24 s1.2 ([x1]:Rz)) fun(x31:Rz)=>
   some (.next (x20.2,x31)))) 0 a (b,[])) fun fl1=>fl1.thenP fun(s1:Rz×Rz)=>
 some s1.2
theorem W_query_less(a:Rz)(b:Rz)(r:Rz)(H:mB a b=some r):
  aY prog 158 [(.list 46 (a.map (ap 58 af))),(.list 46 (b.map (ap 58 af)))] (.list 46 (r.map (ap 58 af))):=by
 unfold mB at H;refine PH.au func158 ntmps158 ?_;refine ak 1 tk Z (aa (ab (ai tk Z ?_)));have s11:=qO (m:=11) b;refine jj call157 (jt.r) s11 (fun g11=>?_);refine ai tk Z (ac (ak 1 tk Z (aa (aa (ab (ai tk Z (aI tk (zl _) ?_)))))));refine ai tk Z (ac ?_)
 obtain⟨fl1,H1,Hp1⟩:=am H
 refine iI tk 12 Z Z (fun hz1 _=>?_);rw[zl]at hz1;refine dj (τ:=Rz×Rz) (γ:=OwnRef×OwnRef) (fun s1 g1=>⟨34,upd (fun _=>.any) 6 (.own 31 g1.2 (s1.2.map (ap 58 af)).length),fun _=>none,upd (fun _=>none) 31 (some ⟨g1.2,46,(s1.2.map (ap 58 af)),true⟩)⟩) (fun t=>fl1= .next t) ?_ (fun s1 g1 hn1=>?_)
 ·refine av (hZ tk 6 31 (e:=46) Z Z ?_);refine iU (fun j1 s1 g1=>⟨34,upd (upd (upd (upd (upd (fun _=>.any) 14 (ah (j1:Int))) 13 (ah (a.length:Int))) 12 (.list 46 (a.map (ap 58 af)))) 6 (.own 31 g1.2 (s1.2.map (ap 58 af)).length)) 5 (.own 11 g1.1 (s1.1.map (ap 58 af)).length),fun _=>none,upd (upd (fun _=>none) 31 (some ⟨g1.2,46,(s1.2.map (ap 58 af)),true⟩)) 11 (some ⟨g1.1,46,(s1.1.map (ap 58 af)),true⟩)⟩) (g11,⟨none,0⟩) H1 Gh.d (fun j1 s1 g1 hj1 hr1=>?_);refine ak 1 tk Z (aa ?_);refine bJ Z (fun h=>?_) (fun h=>?_)
  ·have hl1:=pe h
   obtain⟨x1,fb1,hx1,H,hg1⟩:=rMc hl1 hr1
   refine al (aa (av (aa (ab ?_))));refine be tk (zn j1) (bA (fun _=>Z) hx1) ?_;refine ai tk Z ?_;refine bm tk fun b8=>?_
   refine ay tk ?_;refine ac (aa (aa (ab (ai tk Z (bS (Gh.freezeB 8 Z Z Z Z) (ai tk Z ?_))))))
   obtain⟨x20,h20,H⟩:=am H
   have s20:=gF g1.1 s1.1 (fun a0=>km a0 x1) call181 (fun a0 r h=>W_query_less_1 a0 x1 r h) _ h20
   obtain⟨_,q20_0,H⟩:=am H
   have l20_0:=(bG q20_0).1;have z20_0:(List.map (ap 58 af) s1.1).length=(List.map (ap 58 af) x20.2).length:=by simpa using(l20_0).symm
   refine bB (g:=180) Z Z Z call180 [] [(11,0)] Z Z Z Z (jt.of2 (jN.cons (pD.own Z) (jN.cons (pD.of_eq Z) jN.nil))) (by rw[bq,aW,bn];rfl) s20 ?_;rintro u20 H20h ⟨rfl,rfl⟩
   refine⟨_,rfl,?_⟩
   refine bS (st':=⟨_,_,fun _=>none,upd (upd (fun _=>none) 31 (some ⟨g1.2,46,(s1.2.map (ap 58 af)),true⟩)) 11 (some ⟨g1.1,46,(x20.2.map (ap 58 af)),true⟩)⟩) (Gh.le (bs _ _) aw (aD (aD ax))) ?_;refine ai tk Z (ac (ak 2 tk Z ?_));refine aF Z H (fun H=>?_) (fun H=>?_)
   ·refine aa (ab (ag 4 tk Z ?_))
    obtain⟨x27,h27,H⟩:=am H
    have s27:=uC g1.1 x20.2 x20.1 (iw (x20.1+(1:Int))) _ h27;refine bB (g:=52) Z Z Z call52 [] [(11,0)] Z Z Z Z (jt.of2 (jN.cons (pD.own z20_0) (jN.cons (pD.of_eq Z) (jN.cons (pD.of_eq Z) jN.nil)))) (by rw[bq,aW,bn];rfl) s27 ?_;rintro u27 H27h ⟨rfl,rfl⟩
    refine⟨_,rfl,?_⟩
    refine bS (st':=⟨_,_,fun _=>none,upd (upd (fun _=>none) 31 (some ⟨g1.2,46,(s1.2.map (ap 58 af)),true⟩)) 11 (some ⟨g1.1,46,(x27.map (ap 58 af)),true⟩)⟩) (Gh.le (bs _ _) aw (aD (aD ax))) ?_;refine je 27 (q:=(.own 11 g1.1 (x27.map (ap 58 af)).length)) Z (PLe.of2 (pD.own Z)) (ai tk Z (ac (bj Z (bc 2 tk Z ?_))));exact bv (g1.1,g1.2) H hl1 hg1
   refine al (ab (ag 2 tk Z (cy tk (rows':=List.map (ap 58 af) ([x1]:Rz)) (gP.refl _) ?_)))
   obtain⟨x31,h31,H⟩:=am H
   have k31:=cj h31;refine cv (rows2':=List.map (ap 58 af) ([x1]:Rz)) (rows':=List.map (ap 58 af) x31) tk Z Z Z Z Z Z Z Z Z Z Z Z Z (gP.refl _) (cU k31.1) (cW k31.2.1) (cV k31.2.2) fun g31=>?_
   refine ai tk Z (ac (aM (bc 2 tk Z ?_)));exact bv (g1.1,g31) H hl1 hg1 (Gh.le (bp (PLe.of2 (pD.of_eq (congrArg (PV.own 11 g1.1) z20_0))) (ao (ao (ao (bp (PLe.q (fB (by omega))) aL))))) aw (aD (aD ax)))
  have hn1:=rMd (pf h) hr1;refine bj Z ?_;refine aP s1 g1 hn1 Gh.d
 have H:=ci hn1 Hp1;refine ak 2 tk Z (cT 4 Z Z Z ?_);exact bi tk H Z
def dw(rec192:Rz->Int->Int->Int->Option (Rz))(data:Rz)(a:Int)(m:Int)(b:Int)(cmp:Rq->Rq->Option (Int)):Option (Rz):=
 cond ((iw (m-a))==(1:Int))
  (ae (dg (σ:=Rz×Int×Int) (ρ:=Empty) (fun(s1:Rz×Int×Int)=>
   cond (decide (s1.2.1<s1.2.2))
    (ae (aG s1.1 (iw (Int.fdiv (IntKind.u64.wrap (iw (s1.2.1+s1.2.2))) (2^1)))) fun(x43:Rq)=>
    ae (aG s1.1 a) fun(x47:Rq)=>
    ae (cmp x43 x47) fun x49=>
    cond (decide (x49<(0:Int)))
     (some (.next (s1.1,(iw ((iw (Int.fdiv (IntKind.u64.wrap (iw (s1.2.1+s1.2.2))) (2^1)))+(1:Int))),s1.2.2)))
     (some (.next (s1.1,s1.2.1,(iw (Int.fdiv (IntKind.u64.wrap (iw (s1.2.1+s1.2.2))) (2^1)))))))
    (some (.brk (s1.1,s1.2.1,s1.2.2)))) (data,m,b)) fun fl1=>fl1.thenP fun(s1:Rz×Int×Int)=>
  ae (dg (σ:=Rz×Int) (ρ:=Empty) (fun(s2:Rz×Int)=>
   cond (decide (s2.2<(iw (s1.2.1-(1:Int)))))
    (ae (aG s2.1 (iw (s2.2+(1:Int)))) fun(x69:Rq)=>
    ae (aG s2.1 s2.2) fun(x73:Rq)=>
    ae (aG s2.1 s2.2) fun(_:Rq)=>
    letP (s2.1.set s2.2.toNat x69) fun(y7:Rz)=>
    ae (aG y7 (iw (s2.2+(1:Int)))) fun(_:Rq)=>
    letP (y7.set ((iw (s2.2+(1:Int))).toNat) x73) fun(y8:Rz)=>
    some (.next (y8,(iw (s2.2+(1:Int))))))
    (some (.brk (s2.1,s2.2)))) (s1.1,a)) fun fl2=>fl2.thenP fun(s2:Rz×Int)=>
  some s2.1)
  (cond ((iw (b-m))==(1:Int))
   (ae (dg (σ:=Rz×Int×Int) (ρ:=Empty) (fun(s9:Rz×Int×Int)=>
    cond (decide (s9.2.1<s9.2.2))
     (ae (aG s9.1 m) fun(x95:Rq)=>
     ae (aG s9.1 (iw (Int.fdiv (IntKind.u64.wrap (iw (s9.2.1+s9.2.2))) (2^1)))) fun(x99:Rq)=>
     ae (cmp x95 x99) fun x101=>
     cond (!(decide (x101<(0:Int))))
      (some (.next (s9.1,(iw ((iw (Int.fdiv (IntKind.u64.wrap (iw (s9.2.1+s9.2.2))) (2^1)))+(1:Int))),s9.2.2)))
      (some (.next (s9.1,s9.2.1,(iw (Int.fdiv (IntKind.u64.wrap (iw (s9.2.1+s9.2.2))) (2^1)))))))
     (some (.brk (s9.1,s9.2.1,s9.2.2)))) (data,a,m)) fun fl9=>fl9.thenP fun(s9:Rz×Int×Int)=>
   ae (dg (σ:=Rz×Int) (ρ:=Empty) (fun(s10:Rz×Int)=>
    cond (decide (s10.2>s9.2.1))
     (ae (aG s10.1 (iw (s10.2-(1:Int)))) fun(x121:Rq)=>
     ae (aG s10.1 s10.2) fun(x125:Rq)=>
     ae (aG s10.1 s10.2) fun(_:Rq)=>
     letP (s10.1.set s10.2.toNat x121) fun(y15:Rz)=>
     ae (aG y15 (iw (s10.2-(1:Int)))) fun(_:Rq)=>
     letP (y15.set ((iw (s10.2-(1:Int))).toNat) x125) fun(y16:Rz)=>
     some (.next (y16,(iw (s10.2-(1:Int))))))
     (some (.brk (s10.1,s10.2)))) (s9.1,m)) fun fl10=>fl10.thenP fun(s10:Rz×Int)=>
   some s10.1)
   (letP (
    cond (decide (m>(iw (Int.fdiv (IntKind.u64.wrap (iw (a+b))) (2^1)))))
     ((data,(iw ((iw ((iw (Int.fdiv (IntKind.u64.wrap (iw (a+b))) (2^1)))+m))-b)),(iw (Int.fdiv (IntKind.u64.wrap (iw (a+b))) (2^1)))))
     ((data,a,m))) fun(t17:Rz×Int×Int)=>
   ae (dg (σ:=Rz×Int×Int) (ρ:=Empty) (fun(s18:Rz×Int×Int)=>
    cond (decide (s18.2.1<s18.2.2))
     (ae (aG s18.1 (iw ((iw ((iw ((iw (Int.fdiv (IntKind.u64.wrap (iw (a+b))) (2^1)))+m))-(1:Int)))-(iw (Int.fdiv (IntKind.u64.wrap (iw (s18.2.1+s18.2.2))) (2^1)))))) fun(x163:Rq)=>
     ae (aG s18.1 (iw (Int.fdiv (IntKind.u64.wrap (iw (s18.2.1+s18.2.2))) (2^1)))) fun(x167:Rq)=>
     ae (cmp x163 x167) fun x169=>
     cond (!(decide (x169<(0:Int))))
      (some (.next (s18.1,(iw ((iw (Int.fdiv (IntKind.u64.wrap (iw (s18.2.1+s18.2.2))) (2^1)))+(1:Int))),s18.2.2)))
      (some (.next (s18.1,s18.2.1,(iw (Int.fdiv (IntKind.u64.wrap (iw (s18.2.1+s18.2.2))) (2^1)))))))
     (some (.brk (s18.1,s18.2.1,s18.2.2)))) (t17.1,t17.2.1,t17.2.2)) fun fl18=>fl18.thenP fun(s18:Rz×Int×Int)=>
   letP (
    cond (decide (s18.2.1<m))
     ((s18.1,(decide (m<(iw ((iw ((iw (Int.fdiv (IntKind.u64.wrap (iw (a+b))) (2^1)))+m))-s18.2.1))))))
     ((s18.1,false))) fun(t19:Rz×Bool)=>
   ae (
    cond t19.2
     (ae (er t19.1 s18.2.1 m (iw ((iw ((iw (Int.fdiv (IntKind.u64.wrap (iw (a+b))) (2^1)))+m))-s18.2.1)) cmp) fun x191=>
     ae (cF (x191.length=t19.1.length) ()) fun(_:Unit)=>
     some x191)
     (some t19.1)) fun(t20:Rz)=>
   letP (
    cond (decide (a<s18.2.1))
     ((t20,(decide (s18.2.1<(iw (Int.fdiv (IntKind.u64.wrap (iw (a+b))) (2^1)))))))
     ((t20,false))) fun(t21:Rz×Bool)=>
   ae (
    cond t21.2
     (ae (rec192 t21.1 a s18.2.1 (iw (Int.fdiv (IntKind.u64.wrap (iw (a+b))) (2^1)))) fun x205=>
     ae (cF (x205.length=t21.1.length) ()) fun(_:Unit)=>
     some x205)
     (some t21.1)) fun(t22:Rz)=>
   cond (decide ((iw (Int.fdiv (IntKind.u64.wrap (iw (a+b))) (2^1)))<(iw ((iw ((iw (Int.fdiv (IntKind.u64.wrap (iw (a+b))) (2^1)))+m))-s18.2.1))))
    (cond (decide ((iw ((iw ((iw (Int.fdiv (IntKind.u64.wrap (iw (a+b))) (2^1)))+m))-s18.2.1))<b))
     (ae (rec192 t22 (iw (Int.fdiv (IntKind.u64.wrap (iw (a+b))) (2^1))) (iw ((iw ((iw (Int.fdiv (IntKind.u64.wrap (iw (a+b))) (2^1)))+m))-s18.2.1)) b) fun x219=>
     ae (cF (x219.length=t22.length) ()) fun(_:Unit)=>
     some x219)
     (some t22))
    (some t22)))
theorem nd(g_data:OwnRef){g_cmp:FuncId}{caps_cmp:List PV}(rec192:Rz->Int->Int->Int->Option (Rz))(hrec192:∀g0 a0 a1 a2 a3 r,rec192 a0 a1 a2 a3=some r->PH prog 192 [(.own 0 g0 (a0.map (ap 58 af)).length),(ah a1),(ah a2),(ah a3),(.fn g_cmp caps_cmp)] ⟨fun _=>none,upd (fun _=>none) 0 (some ⟨g0,46,(a0.map (ap 58 af)),true⟩)⟩ (fun u H=>u=(.tup [])/\H=⟨fun _=>none,upd (fun _=>none) 0 (some ⟨g0,46,(r.map (ap 58 af)),true⟩)⟩))(data:Rz)(a:Int)(m:Int)(b:Int)(cmp:Rq->Rq->Option (Int))(hg_cmp:∀(vs:Array Value) (w:World),(callFunc g_cmp vs).run prog w= .ok (.enter g_cmp vs) w)(hp_cmp:∀a0 a1 r,cmp a0 a1=some r->aY prog g_cmp ((.list 58 (a0.map af))::(.list 58 (a1.map af))::caps_cmp) (ah r))(r:Rz)(H:dw rec192 data a m b cmp=some r):
  PH prog 192 [(.own 0 g_data (data.map (ap 58 af)).length),(ah a),(ah m),(ah b),(.fn g_cmp caps_cmp)] ⟨fun _=>none,upd (fun _=>none) 0 (some ⟨g_data,46,(data.map (ap 58 af)),true⟩)⟩ (fun u H=>u=(.tup [])/\H=⟨fun _=>none,upd (fun _=>none) 0 (some ⟨g_data,46,(r.map (ap 58 af)),true⟩)⟩):=by
 unfold dw at H;refine PH.au func192 ntmps192 ?_;refine aa (ak 4 tk Z ?_);refine aF Z H (fun H=>?_) (fun H=>?_)
 ·refine ak 2 tk Z (ak 2 tk Z (aa ?_))
  obtain⟨fl1,H1,Hp1⟩:=am H
  refine dj (τ:=Rz×Int×Int) (γ:=Unit) (fun s1 g1=>⟨220,upd (upd (upd (fun _=>.any) 10 (ah s1.2.1)) 1 (ah a)) 0 (.own 0 g_data (s1.1.map (ap 58 af)).length),fun _=>none,upd (fun _=>none) 0 (some ⟨g_data,46,(s1.1.map (ap 58 af)),true⟩)⟩) (fun t=>fl1= .next t) ?_ (fun s1 g1 hn1=>?_)
  ·refine av ?_;refine cO (fun s1 g1=>⟨220,upd (upd (upd (upd (upd (fun _=>.any) 11 (ah s1.2.2)) 10 (ah s1.2.1)) 4 (.fn g_cmp caps_cmp)) 1 (ah a)) 0 (.own 0 g_data (s1.1.map (ap 58 af)).length),fun _=>none,upd (fun _=>none) 0 (some ⟨g_data,46,(s1.1.map (ap 58 af)),true⟩)⟩) () H1 Gh.d (fun m1 s1 g1 hr1=>?_)
   obtain⟨fb1,H,hg1⟩:=cp hr1
   refine aa (ak 3 tk Z ?_);refine aF Z H (fun H=>?_) (fun H=>?_)
   ·refine al (av (aa (ab (ag 4 tk Z (qq (m:=1) Z Z Z Z (by decide) Z Z (ag 2 tk Z (ac (aa ?_))))))));refine cA (tag:=0) Z (fun ho0=>?_);refine aX tk mok ⟨false,true,[]⟩ [0,1,2,3,4,5,6,7,8,9,10] Z (by decide+kernel) Z (az 3 Z ?_)
    obtain⟨x43,k43,H⟩:=aV H
    refine aT tk ⟨k43.1,(bh k43.2)⟩ (bf ho0 k43.2) ?_;refine bo tk Z Z Z Z Z Z Z Z Z (aC (fun _=>Z) k43.2) Z Z ?_;refine az 2 Z ?_
    obtain⟨x47,k47,H⟩:=aV H
    refine aT tk ⟨k47.1,(bh k47.2)⟩ (bf ho0 k47.2) ?_;refine bo tk Z Z Z Z Z Z Z Z Z (aC (fun _=>Z) k47.2) Z Z ?_
    obtain⟨x49,h49,H⟩:=am H
    refine aS hg_cmp (jt.r) (hp_cmp _ _ _ h49) ?_;refine bw Z (aQ ?_);refine aF Z H (fun H=>?_) (fun H=>?_)
    ·refine bc 3 tk Z (aM ?_);obtain rfl:=aq H;refine ce (s1.1,(iw ((iw (Int.fdiv (IntKind.u64.wrap (iw (s1.2.1+s1.2.2))) (2^1)))+(1:Int))),s1.2.2) () hg1 Gh.d
    refine bc 2 tk Z (aM ?_);obtain rfl:=aq H;refine ce (s1.1,s1.2.1,(iw (Int.fdiv (IntKind.u64.wrap (iw (s1.2.1+s1.2.2))) (2^1)))) () hg1 Gh.d
   refine bj Z ?_;obtain rfl:=aq H;refine aP (s1.1,s1.2.1,s1.2.2) () hg1 Gh.d
  have H:=ci hn1 Hp1;refine aa (ak 2 tk Z ?_)
  obtain⟨fl2,H2,Hp2⟩:=am H
  refine dj (τ:=Rz×Int) (γ:=Unit) (fun s2 g2=>⟨220,upd (fun _=>.any) 0 (.own 0 g_data (s2.1.map (ap 58 af)).length),fun _=>none,upd (fun _=>none) 0 (some ⟨g_data,46,(s2.1.map (ap 58 af)),true⟩)⟩) (fun t=>fl2= .next t) ?_ (fun s2 g2 hn2=>?_)
  ·refine av ?_;refine cO (fun s2 g2=>⟨220,upd (upd (upd (fun _=>.any) 13 (ah s2.2)) 10 (ah s1.2.1)) 0 (.own 0 g_data (s2.1.map (ap 58 af)).length),fun _=>none,upd (fun _=>none) 0 (some ⟨g_data,46,(s2.1.map (ap 58 af)),true⟩)⟩) () H2 Gh.d (fun m2 s2 g2 hr2=>?_)
   obtain⟨fb2,H,hg2⟩:=cp hr2
   refine aa (ak 4 tk Z ?_);refine aF Z H (fun H=>?_) (fun H=>?_)
   ·refine al (aa (av ?_));refine cA (tag:=0) Z (fun ho0=>?_);refine aX tk mok ⟨false,true,[]⟩ [0,1,2,3,4,5,6,7,8,9,10,11,12,13,14,15,16,17] Z (by decide+kernel) Z (az 8 Z ?_)
    obtain⟨x69,k69,H⟩:=aV H
    refine aT tk ⟨k69.1,(bh k69.2)⟩ (bf ho0 k69.2) ?_;refine bo tk Z Z Z Z Z Z Z Z Z (aC (fun _=>Z) k69.2) Z Z ?_;refine az 2 Z ?_
    obtain⟨x73,k73,H⟩:=aV H
    refine aT tk ⟨k73.1,(bh k73.2)⟩ (bf ho0 k73.2) ?_;refine bo tk Z Z Z Z Z Z Z Z Z (aC (fun _=>Z) k73.2) Z Z ?_
    obtain⟨x75,k75,H⟩:=aV H
    refine aT tk ⟨k75.1,(bh k75.2)⟩ (bf ho0 k75.2) ?_
    obtain⟨y7,hy7,H⟩:=bF H
    refine cg tk Z Z Z Z Z Z Z Z Z (by rw[zl];exact(zg.1 k75.2).1) (PLe.refl _ _) Z Z Z Z (by decide) (bD (fun _=>Z) k75.2 Z hy7) ?_
    obtain⟨x76,k76,H⟩:=aV H
    refine aT tk ⟨k76.1,(gJ (bt (f:=(ap 58 af)) hy7) k76.2)⟩ (gX ho0 (bt (f:=(ap 58 af)) hy7) k76.2) ?_
    obtain⟨y8,hy8,H⟩:=bF H
    refine cg tk Z Z Z Z Z Z Z Z Z (by rw[zl];exact(zg.1 k76.2).1) (PLe.refl _ _) Z Z Z Z (by decide) (bD (fun _=>Z) k76.2 Z hy8) ?_;refine aQ (aM (bc 3 tk Z ?_));obtain rfl:=aq H;refine ce (y8,(iw (s2.2+(1:Int)))) () hg2 (Gh.le (bp (PLe.of2 (pD.of_eq (congrArg (PV.own 0 g_data) ((bt (f:=(ap 58 af)) hy7).trans (bt (f:=(ap 58 af)) hy8))))) (ao (ao aL))) aw (aD ax))
   refine bj Z ?_;obtain rfl:=aq H;refine aP (s2.1,s2.2) () hg2 Gh.d
  have H:=ci hn2 Hp2;obtain rfl:=aq H;refine bZ (st':=⟨220,fun _=>.any,fun _=>none,upd (fun _=>none) 0 (some ⟨g_data,46,(s2.1.map (ap 58 af)),true⟩)⟩) (Gh.le aL aw (aD ax)) ?_;refine cl tk Z (ps:=[]) Z (PLe.q Z) ⟨rfl,rfl⟩
 refine al (aa (ak 4 tk Z ?_));refine aF Z H (fun H=>?_) (fun H=>?_)
 ·refine ak 2 tk Z (ak 2 tk Z (aa ?_))
  obtain⟨fl9,H9,Hp9⟩:=am H
  refine dj (τ:=Rz×Int×Int) (γ:=Unit) (fun s9 g9=>⟨220,upd (upd (upd (fun _=>.any) 14 (ah s9.2.1)) 2 (ah m)) 0 (.own 0 g_data (s9.1.map (ap 58 af)).length),fun _=>none,upd (fun _=>none) 0 (some ⟨g_data,46,(s9.1.map (ap 58 af)),true⟩)⟩) (fun t=>fl9= .next t) ?_ (fun s9 g9 hn9=>?_)
  ·refine av ?_;refine cO (fun s9 g9=>⟨220,upd (upd (upd (upd (upd (fun _=>.any) 15 (ah s9.2.2)) 14 (ah s9.2.1)) 4 (.fn g_cmp caps_cmp)) 2 (ah m)) 0 (.own 0 g_data (s9.1.map (ap 58 af)).length),fun _=>none,upd (fun _=>none) 0 (some ⟨g_data,46,(s9.1.map (ap 58 af)),true⟩)⟩) () H9 Gh.d (fun m9 s9 g9 hr9=>?_)
   obtain⟨fb9,H,hg9⟩:=cp hr9
   refine aa (ak 3 tk Z ?_);refine aF Z H (fun H=>?_) (fun H=>?_)
   ·refine al (av (aa (ab (ag 4 tk Z (qq (m:=1) Z Z Z Z (by decide) Z Z (ag 2 tk Z (ac (aa ?_))))))));refine cA (tag:=0) Z (fun ho0=>?_);refine aX tk mok ⟨false,true,[]⟩ [0,1,2,3,4,5,6,7,8,9,10,11] Z (by decide+kernel) Z (az 3 Z ?_)
    obtain⟨x95,k95,H⟩:=aV H
    refine aT tk ⟨k95.1,(bh k95.2)⟩ (bf ho0 k95.2) ?_;refine bo tk Z Z Z Z Z Z Z Z Z (aC (fun _=>Z) k95.2) Z Z ?_;refine az 2 Z ?_
    obtain⟨x99,k99,H⟩:=aV H
    refine aT tk ⟨k99.1,(bh k99.2)⟩ (bf ho0 k99.2) ?_;refine bo tk Z Z Z Z Z Z Z Z Z (aC (fun _=>Z) k99.2) Z Z ?_
    obtain⟨x101,h101,H⟩:=am H
    refine aS hg_cmp (jt.r) (hp_cmp _ _ _ h101) ?_;refine az 2 Z (aQ ?_);refine aF Z H (fun H=>?_) (fun H=>?_)
    ·refine bc 3 tk Z (aM ?_);obtain rfl:=aq H;refine ce (s9.1,(iw ((iw (Int.fdiv (IntKind.u64.wrap (iw (s9.2.1+s9.2.2))) (2^1)))+(1:Int))),s9.2.2) () hg9 Gh.d
    refine bc 2 tk Z (aM ?_);obtain rfl:=aq H;refine ce (s9.1,s9.2.1,(iw (Int.fdiv (IntKind.u64.wrap (iw (s9.2.1+s9.2.2))) (2^1)))) () hg9 Gh.d
   refine bj Z ?_;obtain rfl:=aq H;refine aP (s9.1,s9.2.1,s9.2.2) () hg9 Gh.d
  have H:=ci hn9 Hp9;refine aa (ak 2 tk Z ?_)
  obtain⟨fl10,H10,Hp10⟩:=am H
  refine dj (τ:=Rz×Int) (γ:=Unit) (fun s10 g10=>⟨220,upd (fun _=>.any) 0 (.own 0 g_data (s10.1.map (ap 58 af)).length),fun _=>none,upd (fun _=>none) 0 (some ⟨g_data,46,(s10.1.map (ap 58 af)),true⟩)⟩) (fun t=>fl10= .next t) ?_ (fun s10 g10 hn10=>?_)
  ·refine av ?_;refine cO (fun s10 g10=>⟨220,upd (upd (upd (fun _=>.any) 17 (ah s10.2)) 14 (ah s9.2.1)) 0 (.own 0 g_data (s10.1.map (ap 58 af)).length),fun _=>none,upd (fun _=>none) 0 (some ⟨g_data,46,(s10.1.map (ap 58 af)),true⟩)⟩) () H10 Gh.d (fun m10 s10 g10 hr10=>?_)
   obtain⟨fb10,H,hg10⟩:=cp hr10
   refine aa (ak 3 tk Z ?_);refine aF Z H (fun H=>?_) (fun H=>?_)
   ·refine al (aa (av ?_));refine cA (tag:=0) Z (fun ho0=>?_);refine aX tk mok ⟨false,true,[]⟩ [0,1,2,3,4,5,6,7,8,9,10,11,12,13,14,15,16,17] Z (by decide+kernel) Z (az 8 Z ?_)
    obtain⟨x121,k121,H⟩:=aV H
    refine aT tk ⟨k121.1,(bh k121.2)⟩ (bf ho0 k121.2) ?_;refine bo tk Z Z Z Z Z Z Z Z Z (aC (fun _=>Z) k121.2) Z Z ?_;refine az 2 Z ?_
    obtain⟨x125,k125,H⟩:=aV H
    refine aT tk ⟨k125.1,(bh k125.2)⟩ (bf ho0 k125.2) ?_;refine bo tk Z Z Z Z Z Z Z Z Z (aC (fun _=>Z) k125.2) Z Z ?_
    obtain⟨x127,k127,H⟩:=aV H
    refine aT tk ⟨k127.1,(bh k127.2)⟩ (bf ho0 k127.2) ?_
    obtain⟨y15,hy15,H⟩:=bF H
    refine cg tk Z Z Z Z Z Z Z Z Z (by rw[zl];exact(zg.1 k127.2).1) (PLe.refl _ _) Z Z Z Z (by decide) (bD (fun _=>Z) k127.2 Z hy15) ?_
    obtain⟨x128,k128,H⟩:=aV H
    refine aT tk ⟨k128.1,(gJ (bt (f:=(ap 58 af)) hy15) k128.2)⟩ (gX ho0 (bt (f:=(ap 58 af)) hy15) k128.2) ?_
    obtain⟨y16,hy16,H⟩:=bF H
    refine cg tk Z Z Z Z Z Z Z Z Z (by rw[zl];exact(zg.1 k128.2).1) (PLe.refl _ _) Z Z Z Z (by decide) (bD (fun _=>Z) k128.2 Z hy16) ?_;refine aQ (aM (bc 3 tk Z ?_));obtain rfl:=aq H;refine ce (y16,(iw (s10.2-(1:Int)))) () hg10 (Gh.le (bp (PLe.of2 (pD.of_eq (congrArg (PV.own 0 g_data) ((bt (f:=(ap 58 af)) hy15).trans (bt (f:=(ap 58 af)) hy16))))) (ao (ao aL))) aw (aD ax))
   refine bj Z ?_;obtain rfl:=aq H;refine aP (s10.1,s10.2) () hg10 Gh.d
  have H:=ci hn10 Hp10;obtain rfl:=aq H;refine bZ (st':=⟨220,fun _=>.any,fun _=>none,upd (fun _=>none) 0 (some ⟨g_data,46,(s10.1.map (ap 58 af)),true⟩)⟩) (Gh.le aL aw (aD ax)) ?_;refine cl tk Z (ps:=[]) Z (PLe.q Z) ⟨rfl,rfl⟩
 refine al (aa (ab (ag 4 tk Z (qq (m:=1) Z Z Z Z (by decide) Z Z (ag 2 tk Z (ac (ak 4 tk Z (ak 2 tk Z (aa (ak 3 tk Z ?_))))))))));refine ed (γ:=Unit) (fun t17 g17=>⟨220,upd (upd (upd (upd (upd (upd (upd (upd (upd (fun _=>.any) 21 (ah t17.2.2)) 20 (ah t17.2.1)) 19 (ah (iw ((iw (Int.fdiv (IntKind.u64.wrap (iw (a+b))) (2^1)))+m)))) 18 (ah (iw (Int.fdiv (IntKind.u64.wrap (iw (a+b))) (2^1))))) 4 (.fn g_cmp caps_cmp)) 3 (ah b)) 2 (ah m)) 1 (ah a)) 0 (.own 0 g_data (t17.1.map (ap 58 af)).length),fun _=>none,upd (fun _=>none) 0 (some ⟨g_data,46,(t17.1.map (ap 58 af)),true⟩)⟩) H (fun _ H=>?_) (fun t17 g17 H=>?_)
 ·refine aF Z H (fun H=>?_) (fun H=>?_)
  ·refine ak 4 tk Z (bc 2 tk Z ?_);refine aP _ () H Gh.d
  refine ak 2 tk Z (bc 2 tk Z ?_);refine aP _ () H Gh.d
 refine ak 3 tk Z (aa ?_)
 obtain⟨fl18,H18,Hp18⟩:=am H
 refine dj (τ:=Rz×Int×Int) (γ:=Unit) (fun s18 g18=>⟨220,upd (upd (upd (upd (upd (upd (upd (upd (fun _=>.any) 20 (ah s18.2.1)) 19 (ah (iw ((iw (Int.fdiv (IntKind.u64.wrap (iw (a+b))) (2^1)))+m)))) 18 (ah (iw (Int.fdiv (IntKind.u64.wrap (iw (a+b))) (2^1))))) 4 (.fn g_cmp caps_cmp)) 3 (ah b)) 2 (ah m)) 1 (ah a)) 0 (.own 0 g_data (s18.1.map (ap 58 af)).length),fun _=>none,upd (fun _=>none) 0 (some ⟨g_data,46,(s18.1.map (ap 58 af)),true⟩)⟩) (fun t=>fl18= .next t) ?_ (fun s18 g18 hn18=>?_)
 ·refine av ?_;refine cO (fun s18 g18=>⟨220,upd (upd (upd (upd (upd (upd (upd (upd (upd (upd (fun _=>.any) 22 (ah (iw ((iw ((iw (Int.fdiv (IntKind.u64.wrap (iw (a+b))) (2^1)))+m))-(1:Int))))) 21 (ah s18.2.2)) 20 (ah s18.2.1)) 19 (ah (iw ((iw (Int.fdiv (IntKind.u64.wrap (iw (a+b))) (2^1)))+m)))) 18 (ah (iw (Int.fdiv (IntKind.u64.wrap (iw (a+b))) (2^1))))) 4 (.fn g_cmp caps_cmp)) 3 (ah b)) 2 (ah m)) 1 (ah a)) 0 (.own 0 g_data (s18.1.map (ap 58 af)).length),fun _=>none,upd (fun _=>none) 0 (some ⟨g_data,46,(s18.1.map (ap 58 af)),true⟩)⟩) () H18 Gh.d (fun m18 s18 g18 hr18=>?_)
  obtain⟨fb18,H,hg18⟩:=cp hr18
  refine aa (ak 3 tk Z ?_);refine aF Z H (fun H=>?_) (fun H=>?_)
  ·refine al (av (aa (ab (ag 4 tk Z (qq (m:=1) Z Z Z Z (by decide) Z Z (ag 2 tk Z (ac (aa ?_))))))));refine cA (tag:=0) Z (fun ho0=>?_);refine aX tk mok ⟨false,true,[]⟩ [0,1,2,3,4,5,6,7,8,9,10,11,12,13] Z (by decide+kernel) Z (az 5 Z ?_)
   obtain⟨x163,k163,H⟩:=aV H
   refine aT tk ⟨k163.1,(bh k163.2)⟩ (bf ho0 k163.2) ?_;refine bo tk Z Z Z Z Z Z Z Z Z (aC (fun _=>Z) k163.2) Z Z ?_;refine az 2 Z ?_
   obtain⟨x167,k167,H⟩:=aV H
   refine aT tk ⟨k167.1,(bh k167.2)⟩ (bf ho0 k167.2) ?_;refine bo tk Z Z Z Z Z Z Z Z Z (aC (fun _=>Z) k167.2) Z Z ?_
   obtain⟨x169,h169,H⟩:=am H
   refine aS hg_cmp (jt.r) (hp_cmp _ _ _ h169) ?_;refine az 2 Z (aQ ?_);refine aF Z H (fun H=>?_) (fun H=>?_)
   ·refine bc 3 tk Z (aM ?_);obtain rfl:=aq H;refine ce (s18.1,(iw ((iw (Int.fdiv (IntKind.u64.wrap (iw (s18.2.1+s18.2.2))) (2^1)))+(1:Int))),s18.2.2) () hg18 Gh.d
   refine bc 2 tk Z (aM ?_);obtain rfl:=aq H;refine ce (s18.1,s18.2.1,(iw (Int.fdiv (IntKind.u64.wrap (iw (s18.2.1+s18.2.2))) (2^1)))) () hg18 Gh.d
  refine bj Z ?_;obtain rfl:=aq H;refine aP (s18.1,s18.2.1,s18.2.2) () hg18 Gh.d
 have H:=ci hn18 Hp18;refine ak 4 tk Z (aa (aa ?_));refine ed (γ:=Unit) (fun t19 g19=>⟨220,upd (upd (upd (upd (upd (upd (upd (upd (upd (fun _=>.any) 185 (aK t19.2)) 24 (ah (iw ((iw ((iw (Int.fdiv (IntKind.u64.wrap (iw (a+b))) (2^1)))+m))-s18.2.1)))) 20 (ah s18.2.1)) 18 (ah (iw (Int.fdiv (IntKind.u64.wrap (iw (a+b))) (2^1))))) 4 (.fn g_cmp caps_cmp)) 3 (ah b)) 2 (ah m)) 1 (ah a)) 0 (.own 0 g_data (t19.1.map (ap 58 af)).length),fun _=>none,upd (fun _=>none) 0 (some ⟨g_data,46,(t19.1.map (ap 58 af)),true⟩)⟩) H (fun _ H=>?_) (fun t19 g19 H=>?_)
 ·refine ab (ag 4 tk Z ?_);refine bu Z Z Z H (fun H=>?_) (fun H=>?_)
  ·refine ag 4 tk Z (ac ?_);refine aP _ () H Gh.d
  refine ag 4 tk Z (ac ?_);refine aP _ () H Gh.d
 refine ee (γ:=Unit) (fun t20 g20=>⟨220,upd (upd (upd (upd (upd (upd (upd (fun _=>.any) 24 (ah (iw ((iw ((iw (Int.fdiv (IntKind.u64.wrap (iw (a+b))) (2^1)))+m))-s18.2.1)))) 20 (ah s18.2.1)) 18 (ah (iw (Int.fdiv (IntKind.u64.wrap (iw (a+b))) (2^1))))) 4 (.fn g_cmp caps_cmp)) 3 (ah b)) 1 (ah a)) 0 (.own 0 g_data (t20.map (ap 58 af)).length),fun _=>none,upd (fun _=>none) 0 (some ⟨g_data,46,(t20.map (ap 58 af)),true⟩)⟩) H (fun _ H=>?_) (fun t20 g20 H=>?_)
 ·refine aF Z H (fun H=>?_) (fun H=>?_)
  ·refine ab (ag 5 tk Z ?_)
   obtain⟨x191,h191,H⟩:=am H
   have s191:=oi g_data t19.1 s18.2.1 m (iw ((iw ((iw (Int.fdiv (IntKind.u64.wrap (iw (a+b))) (2^1)))+m))-s18.2.1)) cmp hg_cmp hp_cmp _ h191
   obtain⟨_,q191_0,H⟩:=am H
   have l191_0:=(bG q191_0).1;have z191_0:(List.map (ap 58 af) t19.1).length=(List.map (ap 58 af) x191).length:=by simpa using(l191_0).symm
   refine bB (g:=193) Z Z Z call193 [] [(0,0)] Z Z Z Z (jt.of2 (jN.cons (pD.own Z) (jN.cons (pD.of_eq Z) (jN.cons (pD.of_eq Z) (jN.cons (pD.of_eq Z) (jN.cons (pD.of_eq Z) jN.nil)))))) (by rw[bq,aW,bn];rfl) s191 ?_;rintro u191 H191h ⟨rfl,rfl⟩
   refine⟨_,rfl,?_⟩
   refine bS (st':=⟨_,_,fun _=>none,upd (fun _=>none) 0 (some ⟨g_data,46,(x191.map (ap 58 af)),true⟩)⟩) (Gh.le (bs _ _) aw (aD ax)) ?_;refine ac ?_;refine aP _ () (aq H) (Gh.le (bp (PLe.of2 (pD.of_eq (congrArg (PV.own 0 g_data) z191_0))) (ao (ao (ao (ao (ao (ao aL))))))) aw (aD ax))
  refine al ?_;refine aP _ () (aq H) Gh.d
 refine aa (aa ?_);refine ed (γ:=Unit) (fun t21 g21=>⟨220,upd (upd (upd (upd (upd (upd (upd (upd (fun _=>.any) 199 (aK t21.2)) 24 (ah (iw ((iw ((iw (Int.fdiv (IntKind.u64.wrap (iw (a+b))) (2^1)))+m))-s18.2.1)))) 20 (ah s18.2.1)) 18 (ah (iw (Int.fdiv (IntKind.u64.wrap (iw (a+b))) (2^1))))) 4 (.fn g_cmp caps_cmp)) 3 (ah b)) 1 (ah a)) 0 (.own 0 g_data (t21.1.map (ap 58 af)).length),fun _=>none,upd (fun _=>none) 0 (some ⟨g_data,46,(t21.1.map (ap 58 af)),true⟩)⟩) H (fun _ H=>?_) (fun t21 g21 H=>?_)
 ·refine ab (ag 4 tk Z ?_);refine bu Z Z Z H (fun H=>?_) (fun H=>?_)
  ·refine ag 4 tk Z (ac ?_);refine aP _ () H Gh.d
  refine ag 4 tk Z (ac ?_);refine aP _ () H Gh.d
 refine ee (γ:=Unit) (fun t22 g22=>⟨220,upd (upd (upd (upd (upd (fun _=>.any) 24 (ah (iw ((iw ((iw (Int.fdiv (IntKind.u64.wrap (iw (a+b))) (2^1)))+m))-s18.2.1)))) 18 (ah (iw (Int.fdiv (IntKind.u64.wrap (iw (a+b))) (2^1))))) 4 (.fn g_cmp caps_cmp)) 3 (ah b)) 0 (.own 0 g_data (t22.map (ap 58 af)).length),fun _=>none,upd (fun _=>none) 0 (some ⟨g_data,46,(t22.map (ap 58 af)),true⟩)⟩) H (fun _ H=>?_) (fun t22 g22 H=>?_)
 ·refine aF Z H (fun H=>?_) (fun H=>?_)
  ·refine ab (ag 5 tk Z ?_)
   obtain⟨x205,h205,H⟩:=am H
   have s205:=hrec192 g_data t21.1 a s18.2.1 (iw (Int.fdiv (IntKind.u64.wrap (iw (a+b))) (2^1))) _ h205
   obtain⟨_,q205_0,H⟩:=am H
   have l205_0:=(bG q205_0).1;have z205_0:(List.map (ap 58 af) t21.1).length=(List.map (ap 58 af) x205).length:=by simpa using(l205_0).symm
   refine bB (g:=192) Z Z Z call192 [] [(0,0)] Z Z Z Z (jt.of2 (jN.cons (pD.own Z) (jN.cons (pD.of_eq Z) (jN.cons (pD.of_eq Z) (jN.cons (pD.of_eq Z) (jN.cons (pD.of_eq Z) jN.nil)))))) (by rw[bq,aW,bn];rfl) s205 ?_;rintro u205 H205h ⟨rfl,rfl⟩
   refine⟨_,rfl,?_⟩
   refine bS (st':=⟨_,_,fun _=>none,upd (fun _=>none) 0 (some ⟨g_data,46,(x205.map (ap 58 af)),true⟩)⟩) (Gh.le (bs _ _) aw (aD ax)) ?_;refine ac ?_;refine aP _ () (aq H) (Gh.le (bp (PLe.of2 (pD.of_eq (congrArg (PV.own 0 g_data) z205_0))) (ao (ao (ao (ao aL))))) aw (aD ax))
  refine al ?_;refine aP _ () (aq H) Gh.d
 refine aa (ab (ag 4 tk Z ?_));refine bu Z Z Z H (fun H=>?_) (fun H=>?_)
 ·refine ag 4 tk Z (ac ?_);refine aF Z H (fun H=>?_) (fun H=>?_)
  ·refine ab (ag 5 tk Z ?_)
   obtain⟨x219,h219,H⟩:=am H
   have s219:=hrec192 g_data t22 (iw (Int.fdiv (IntKind.u64.wrap (iw (a+b))) (2^1))) (iw ((iw ((iw (Int.fdiv (IntKind.u64.wrap (iw (a+b))) (2^1)))+m))-s18.2.1)) b _ h219
   obtain⟨_,q219_0,H⟩:=am H
   have l219_0:=(bG q219_0).1;have z219_0:(List.map (ap 58 af) t22).length=(List.map (ap 58 af) x219).length:=by simpa using(l219_0).symm
   refine bB (g:=192) Z Z Z call192 [] [(0,0)] Z Z Z Z (jt.of2 (jN.cons (pD.own Z) (jN.cons (pD.of_eq Z) (jN.cons (pD.of_eq Z) (jN.cons (pD.of_eq Z) (jN.cons (pD.of_eq Z) jN.nil)))))) (by rw[bq,aW,bn];rfl) s219 ?_;rintro u219 H219h ⟨rfl,rfl⟩
   refine⟨_,rfl,?_⟩
   refine bS (st':=⟨_,_,fun _=>none,upd (fun _=>none) 0 (some ⟨g_data,46,(x219.map (ap 58 af)),true⟩)⟩) (Gh.le (bs _ _) aw (aD ax)) ?_;refine ac ?_;obtain rfl:=aq H;refine bZ (st':=⟨220,fun _=>.any,fun _=>none,upd (fun _=>none) 0 (some ⟨g_data,46,(x219.map (ap 58 af)),true⟩)⟩) (Gh.le aL aw (aD ax)) ?_;refine iO Z (PLe.q Z) ⟨rfl,rfl⟩
  refine al ?_;obtain rfl:=aq H;refine bZ (st':=⟨220,fun _=>.any,fun _=>none,upd (fun _=>none) 0 (some ⟨g_data,46,(t22.map (ap 58 af)),true⟩)⟩) (Gh.le aL aw (aD ax)) ?_;refine iO Z (PLe.q Z) ⟨rfl,rfl⟩
 refine ag 4 tk Z (ac (bH Z (al ?_)));obtain rfl:=aq H;refine bZ (st':=⟨220,fun _=>.any,fun _=>none,upd (fun _=>none) 0 (some ⟨g_data,46,(t22.map (ap 58 af)),true⟩)⟩) (Gh.le aL aw (aD ax)) ?_;refine iO Z (PLe.q Z) ⟨rfl,rfl⟩
def bP:Nat->Rz->Int->Int->Int->(Rq->Rq->Option (Int))->Option (Rz)
 |0,_,_,_,_,_=>none
 |n+1,v0,v1,v2,v3,v4=>dw (fun b0 b1 b2 b3=>bP n b0 b1 b2 b3 v4) v0 v1 v2 v3 v4
theorem mZ{g_cmp:FuncId}{caps_cmp:List PV}(cmp:Rq->Rq->Option (Int))(hg_cmp:∀(vs:Array Value) (w:World),(callFunc g_cmp vs).run prog w= .ok (.enter g_cmp vs) w)(hp_cmp:∀a0 a1 r,cmp a0 a1=some r->aY prog g_cmp ((.list 58 (a0.map af))::(.list 58 (a1.map af))::caps_cmp) (ah r))(n:Nat):(∀g0 a0 a1 a2 a3 r,bP n a0 a1 a2 a3 cmp=some r->PH prog 192 [(.own 0 g0 (a0.map (ap 58 af)).length),(ah a1),(ah a2),(ah a3),(.fn g_cmp caps_cmp)] ⟨fun _=>none,upd (fun _=>none) 0 (some ⟨g0,46,(a0.map (ap 58 af)),true⟩)⟩ (fun u H=>u=(.tup [])/\H=⟨fun _=>none,upd (fun _=>none) 0 (some ⟨g0,46,(r.map (ap 58 af)),true⟩)⟩)):=by
 induction n with
 |zero=>exact(by intros;rename_i h;exact absurd (show(none:Option _)=some _ from h) (by simp))
 |succ n ih=>
  exact(fun g0 v0 v1 v2 v3 r h=>nd g0 (fun b0 b1 b2 b3=>bP n b0 b1 b2 b3 cmp) ih v0 v1 v2 v3 cmp hg_cmp hp_cmp r h)
def fY(data:Rz)(a:Int)(m:Int)(b:Int)(cmp:Rq->Rq->Option (Int)):Option (Rz):=ia fun n=>bP n data a m b cmp
theorem kt(g_data:OwnRef){g_cmp:FuncId}{caps_cmp:List PV}(data:Rz)(a:Int)(m:Int)(b:Int)(cmp:Rq->Rq->Option (Int))(hg_cmp:∀(vs:Array Value) (w:World),(callFunc g_cmp vs).run prog w= .ok (.enter g_cmp vs) w)(hp_cmp:∀a0 a1 r,cmp a0 a1=some r->aY prog g_cmp ((.list 58 (a0.map af))::(.list 58 (a1.map af))::caps_cmp) (ah r))(r:Rz)(H:fY data a m b cmp=some r):
  PH prog 192 [(.own 0 g_data (data.map (ap 58 af)).length),(ah a),(ah m),(ah b),(.fn g_cmp caps_cmp)] ⟨fun _=>none,upd (fun _=>none) 0 (some ⟨g_data,46,(data.map (ap 58 af)),true⟩)⟩ (fun u H=>u=(.tup [])/\H=⟨fun _=>none,upd (fun _=>none) 0 (some ⟨g_data,46,(r.map (ap 58 af)),true⟩)⟩):=by
 obtain⟨n,h⟩:=jh H
 exact(mZ cmp hg_cmp hp_cmp n) g_data data a m b r h
def gp(t:LTable):Option (Int):=
 ae (gL t.name) fun x11=>
 cond (!x11)
  (some 23)
  (cond ((t.columns.length:Int)==(0:Int))
   (some 3)
   (cond (decide ((t.columns.length:Int)>(6:Int)))
    (some 2)
    (ae (aU (σ:=Unit) (ρ:=(Int)) (fun(j1:Nat) (x1:LCol) (_:Unit)=>
     ae (gL x1.name) fun x31=>
     cond (!x31)
      (some (.ret 23))
      (ae (io t x1.name) fun x37=>
      cond (decide (x37.1<(j1:Int)))
       (some (.ret 5))
       (cond (decide (x1.kind<(1:Int)))
        (some (.ret 7))
        (cond (decide (x1.kind>(3:Int)))
         (some (.ret 7))
         (some (.next ())))))) 0 t.columns ()) fun fl1=>fl1.thenR fun(_:Unit)=>
    ae (aU (σ:=Unit) (ρ:=(Int)) (fun(j2:Nat) (x2:Int) (_:Unit)=>
     cond (decide (x2<(0:Int)))
      (some (.ret 9))
      (cond (decide (x2>=(t.columns.length:Int)))
       (some (.ret 9))
       (ae (aG t.columns x2) fun(x73:LCol)=>
       cond x73.nullable
        (some (.ret 9))
        (cond (decide ((j2:Int)>(0:Int)))
         (ae (aG t.primaryKey (iw ((j2:Int)-(1:Int)))) fun(x86:Int)=>
         cond (decide (x2<=x86))
          (some (.ret 9))
          (some (.next ())))
         (some (.next ())))))) 0 t.primaryKey ()) fun fl2=>fl2.thenR fun(_:Unit)=>
    cond ((t.primaryKey.length:Int)==(0:Int))
     (some 9)
     (some 0))))
theorem qY(t:LTable)(r:Int)(H:gp t=some r):
  aY prog 32 [(.agg (bM t))] (ah r):=by
 unfold gp at H;refine PH.au func32 ntmps32 ?_;refine aa (ab (aO ?_));refine ai tk Z (ac (aa (aa (ab (ag 2 tk Z ?_)))))
 obtain⟨x11,h11,H⟩:=am H
 have s11:=pt t.name _ h11;refine aj call56 (jt.r) s11 ?_;refine ai tk Z (ac ?_);refine aF Z H (fun H=>?_) (fun H=>?_)
 ·refine ak 1 tk Z ?_;exact bi tk H Z
 refine al (aa (aa (ab (ag 2 tk Z (aI tk (zl _) ?_)))));refine ai tk Z (ac ?_);refine aF Z H (fun H=>?_) (fun H=>?_)
 ·refine ak 1 tk Z ?_;exact bi tk H Z
 refine al (aa (aa (ab (ag 2 tk Z (aI tk (zl _) ?_)))));refine ai tk Z (ac ?_);refine aF Z H (fun H=>?_) (fun H=>?_)
 ·refine ak 1 tk Z ?_;exact bi tk H Z
 refine al (aa (aa (ab (ag 2 tk Z (aI tk (zl _) ?_)))));refine ai tk Z (ac ?_);refine ff tk 24 23 22 (fun s1 g1=>upd (fun _=>.any) 1 (.ptr (bM t))) nB nO () H (fun fl1 Hp1 j1 s1 g1 hz1 hl1 x1 fb1 hx1 H hg1=>?_) (fun s1 g1 H=>?_)
 ·refine aa (av (aa (ab (ai tk Z ?_))));refine be tk (zn j1) (bA (fun _=>Z) hx1) ?_;refine ai tk Z ?_;refine bm tk fun b4=>?_
  refine ai tk Z (ay tk ?_);refine ac (aa (aa (ab (ai tk Z (aJ tk ?_)))))
  obtain⟨x31,h31,H⟩:=am H
  have s31:=pt x1.name _ h31;refine aj call56 (jt.r) s31 ?_;refine ai tk Z (ac ?_);refine aF Z H (fun H=>?_) (fun H=>?_)
  ·refine ak 1 tk Z ?_;obtain rfl:=aq H;have e1:fl1= .ret _:=hg1;subst e1;obtain rfl:=aZ Hp1;refine bl tk Z (ps:=[(ah 23)]) ⟨_,_,rfl,rfl,rfl⟩ (PLe.q Z)
  refine al (aa (aa (ab (ag 2 tk Z (aJ tk ?_)))))
  obtain⟨x37,h37,H⟩:=am H
  have s37:=sS t x1.name _ h37;refine aj call57 (jt.r) s37 ?_;refine ag 5 tk Z (ac (ak 3 tk Z ?_));refine aF Z H (fun H=>?_) (fun H=>?_)
  ·refine ak 1 tk Z ?_;obtain rfl:=aq H;have e1:fl1= .ret _:=hg1;subst e1;obtain rfl:=aZ Hp1;refine bl tk Z (ps:=[(ah 5)]) ⟨_,_,rfl,rfl,rfl⟩ (PLe.q Z)
  refine al (aa (ab (ai tk Z (aJ tk ?_))));refine ag 2 tk Z ?_;refine bu Z Z Z H (fun H=>?_) (fun H=>?_)
  ·refine ag 4 tk Z (ac (ct Z (ak 1 tk Z ?_)));obtain rfl:=aq H;have e1:fl1= .ret _:=hg1;subst e1;obtain rfl:=aZ Hp1;refine bl tk Z (ps:=[(ah 7)]) ⟨_,_,rfl,rfl,rfl⟩ (PLe.q Z)
  refine ai tk Z (aJ tk ?_);refine ag 2 tk Z (ac ?_);refine aF Z H (fun H=>?_) (fun H=>?_)
  ·refine ak 1 tk Z ?_;obtain rfl:=aq H;have e1:fl1= .ret _:=hg1;subst e1;obtain rfl:=aZ Hp1;refine bl tk Z (ps:=[(ah 7)]) ⟨_,_,rfl,rfl,rfl⟩ (PLe.q Z)
  refine al (aM (bc 2 tk Z ?_));exact bv () H hl1 hg1
 refine aa (aa (ab (ag 2 tk Z (aI tk (zl _) ?_))));refine ai tk Z (ac ?_);refine ff tk 55 54 53 (fun s2 g2=>upd (fun _=>.any) 1 (.ptr (bM t))) nB nO () H (fun fl2 Hp2 j2 s2 g2 hz2 hl2 x2 fb2 hx2 H hg2=>?_) (fun s2 g2 H=>?_)
 ·refine aa (av (aa (ab (ai tk Z ?_))));refine be tk (zn j2) (bA (fun _=>Z) hx2) ?_;refine ag 3 tk Z (ac (aa (ab (ag 3 tk Z ?_))));refine bu Z Z Z H (fun H=>?_) (fun H=>?_)
  ·refine ag 28 tk Z (ac (ct Z (ak 1 tk Z ?_)));obtain rfl:=aq H;have e2:fl2= .ret _:=hg2;subst e2;obtain rfl:=aZ Hp2;refine bl tk Z (ps:=[(ah 9)]) ⟨_,_,rfl,rfl,rfl⟩ (PLe.q Z)
  refine ag 3 tk Z (aI tk (zl _) ?_);refine ag 3 tk Z ?_;refine bu Z Z Z H (fun H=>?_) (fun H=>?_)
  ·refine ag 21 tk Z (ac (ct Z (ak 1 tk Z ?_)));obtain rfl:=aq H;have e2:fl2= .ret _:=hg2;subst e2;obtain rfl:=aZ Hp2;refine bl tk Z (ps:=[(ah 9)]) ⟨_,_,rfl,rfl,rfl⟩ (PLe.q Z)
  refine ag 3 tk Z ?_
  obtain⟨x73,k73,H⟩:=aV H
  refine be tk k73.1 (aC (fun _=>Z) k73.2) ?_;refine ag 4 tk Z ?_;refine bu Z Z Z H (fun H=>?_) (fun H=>?_)
  ·refine ag 13 tk Z (ac (ct Z (ak 1 tk Z ?_)));obtain rfl:=aq H;have e2:fl2= .ret _:=hg2;subst e2;obtain rfl:=aZ Hp2;refine bl tk Z (ps:=[(ah 9)]) ⟨_,_,rfl,rfl,rfl⟩ (PLe.q Z)
  refine ag 3 tk Z ?_;refine bu Z Z Z H (fun H=>?_) (fun H=>?_)
  ·refine ag 5 tk Z ?_
   obtain⟨x86,k86,H⟩:=aV H
   refine be tk k86.1 (aC (fun _=>Z) k86.2) ?_;refine ag 4 tk Z (ac ?_);refine aF Z H (fun H=>?_) (fun H=>?_)
   ·refine ak 1 tk Z ?_;obtain rfl:=aq H;have e2:fl2= .ret _:=hg2;subst e2;obtain rfl:=aZ Hp2;refine bl tk Z (ps:=[(ah 9)]) ⟨_,_,rfl,rfl,rfl⟩ (PLe.q Z)
   refine al (aM (bc 2 tk Z ?_));exact bv () H hl2 hg2
  refine ag 10 tk Z (ac (bH Z (al (aM (bc 2 tk Z ?_)))));exact bv () H hl2 hg2
 refine aa (aa (ab (ag 2 tk Z (aI tk (zl _) ?_))));refine ai tk Z (ac ?_);refine aF Z H (fun H=>?_) (fun H=>?_)
 ·refine ak 1 tk Z ?_;exact bi tk H Z
 refine al (ak 1 tk Z ?_);exact bi tk H Z
def fP(sA:LSchema)(fk:LForeignKey):Option (Int):=
 ae (dZ sA fk.table) fun x17=>
 ae (dZ sA fk.refTable) fun x24=>
 letP (
  cond (!x17.2)
   (true)
   ((!x24.2))) fun(t1:Bool)=>
 cond t1
  (some 4)
  (ae (aG sA.tables x17.1) fun(x36:LTable)=>
  ae (aG sA.tables x24.1) fun(x41:LTable)=>
  cond ((fk.columns.length:Int) !=(x41.primaryKey.length:Int))
   (some 3)
   (ae (aU (σ:=Unit) (ρ:=(Int)) (fun(j2:Nat) (x2:Int) (_:Unit)=>
    letP (
     cond (decide (x2<(0:Int)))
      (true)
      ((decide (x2>=(x36.columns.length:Int))))) fun(t4:Bool)=>
    cond t4
     (some (.ret 3))
     (ae (aG x36.columns x2) fun(x70:LCol)=>
     ae (aG x41.primaryKey (j2:Int)) fun(x78:Int)=>
     ae (aG x41.columns x78) fun(x80:LCol)=>
     cond (x70.kind !=x80.kind)
      (some (.ret 7))
      (some (.next ())))) 0 fk.columns ()) fun fl2=>fl2.thenR fun(_:Unit)=>
   some 0))
theorem pi(sA:LSchema)(fk:LForeignKey)(r:Int)(H:fP sA fk=some r):
  aY prog 33 [(.agg (da sA)),(.agg (gW fk))] (ah r):=by
 unfold fP at H;refine PH.au func33 ntmps33 ?_;refine aa (ab (aO ?_));refine aO ?_;refine ai tk Z (ac (aa (ab (ag 3 tk Z ?_))))
 obtain⟨x17,h17,H⟩:=am H
 have s17:=jE sA fk.table _ h17;refine aj call24 (jt.r) s17 ?_;refine ag 5 tk Z (ac (aa (ab (ag 3 tk Z ?_))))
 obtain⟨x24,h24,H⟩:=am H
 have s24:=jE sA fk.refTable _ h24;refine aj call24 (jt.r) s24 ?_;refine ag 5 tk Z (ac (aa (aa ?_)));refine ed (γ:=Unit) (fun t1 g1=>⟨85,upd (upd (upd (upd (upd (fun _=>.any) 32 (aK t1)) 7 (ah x24.1)) 5 (ah x17.1)) 3 (.ptr (gW fk))) 2 (.ptr (da sA)),fun _=>none,fun _=>none⟩) H (fun _ H=>?_) (fun t1 g1 H=>?_)
 ·refine ab (ag 3 tk Z ?_);refine bu Z Z Z H (fun H=>?_) (fun H=>?_)
  ·refine ag 3 tk Z (ac ?_);refine aP _ () H Gh.d
  refine ag 3 tk Z (ac ?_);refine aP _ () H Gh.d
 refine aF Z H (fun H=>?_) (fun H=>?_)
 ·refine ak 1 tk Z ?_;exact bi tk H Z
 refine al (aa (aX tk mok ⟨false,false,[]⟩ [0,1,2,3,4,5,6,7,8,9,10,11,12,13] Z (by decide+kernel) Z (az 3 Z ?_)))
 obtain⟨x36,k36,H⟩:=aV H
 refine bE k36.1 (aC (fun _=>Z) k36.2) ?_;refine az 4 Z ?_
 obtain⟨x41,k41,H⟩:=aV H
 refine bE k41.1 (aC (fun _=>Z) k41.2) ?_;refine bw Z ?_;refine nj Z Z Z Z Z Z Z Z fun b9=>?_
 refine nj Z Z Z Z Z Z Z Z fun b10=>?_
 refine fM Z Z Z Z Z Z Z Z Z Z Z Z (fM Z Z Z Z Z Z Z Z Z Z Z Z (aQ (aa (aa (ab (ag 2 tk Z (aI tk (zl _) ?_)))))));refine ai tk Z (aJ tk ?_);refine aI tk (zl _) ?_;refine ai tk Z (ac ?_);refine aF Z H (fun H=>?_) (fun H=>?_)
 ·refine ak 1 tk Z ?_;exact bi tk H Z
 refine al (aa (aa (ab (ag 2 tk Z (aI tk (zl _) ?_)))));refine ai tk Z (ac ?_)
 obtain⟨fl2,H2,Hp2⟩:=am H
 refine iI tk 51 Z Z (fun hz2 _=>?_);rw[zl]at hz2;refine dj (τ:=Unit) (γ:=Unit) (fun s2 g2=>⟨85,fun _=>.any,fun _=>none,fun _=>none⟩) (fun t=>fl2= .next t) ?_ (fun s2 g2 hn2=>?_)
 ·refine av ?_;refine iU (fun j2 s2 g2=>⟨85,upd (upd (upd (upd (upd (fun _=>.any) 53 (ah (j2:Int))) 52 (ah (fk.columns.length:Int))) 51 (.list 3 (fk.columns.map cq))) 10 (.box 10 b10 0)) 9 (.box 9 b9 0),upd (upd (fun _=>none) 10 (some ⟨b10,(bM x41)⟩)) 9 (some ⟨b9,(bM x36)⟩),fun _=>none⟩) () H2 Gh.d (fun j2 s2 g2 hj2 hr2=>?_);refine ak 1 tk Z (aa ?_);refine bJ Z (fun h=>?_) (fun h=>?_)
  ·have hl2:=pe h
   obtain⟨x2,fb2,hx2,H,hg2⟩:=rMc hl2 hr2
   refine al (aa (av (aa (ab (ai tk Z ?_)))));refine be tk (zn j2) (bA (fun _=>Z) hx2) ?_;refine ag 3 tk Z (ac (aa (aa ?_)));refine ed (γ:=Unit) (fun t4 g4=>⟨85,upd (upd (upd (upd (upd (upd (upd (upd (fun _=>.any) 66 (aK t4)) 53 (ah (j2:Int))) 52 (ah (fk.columns.length:Int))) 51 (.list 3 (fk.columns.map cq))) 12 (ah x2)) 11 (ah (j2:Int))) 10 (.box 10 b10 0)) 9 (.box 9 b9 0),upd (upd (fun _=>none) 10 (some ⟨b10,(bM x41)⟩)) 9 (some ⟨b9,(bM x36)⟩),fun _=>none⟩) H (fun _ H=>?_) (fun t4 g4 H=>?_)
   ·refine ab (ag 3 tk Z ?_);refine bu Z Z Z H (fun H=>?_) (fun H=>?_)
    ·refine ag 6 tk Z (ac ?_);refine aP _ () H Gh.d
    refine ag 2 tk Z (aJ tk ?_);refine aI tk (zl _) ?_;refine ag 2 tk Z (ac ?_);refine aP _ () H Gh.d
   refine aF Z H (fun H=>?_) (fun H=>?_)
   ·refine ak 1 tk Z ?_;obtain rfl:=aq H;have e2:fl2= .ret _:=hg2;subst e2;obtain rfl:=aZ Hp2;refine bl tk Z (ps:=[(ah 3)]) ⟨_,_,rfl,rfl,rfl⟩ (PLe.q Z)
   refine al (aa (aX tk mok ⟨true,false,[72,79,82]⟩ [0,1,2,3,4,5,6,7,8,9,10,11,12,13,14,15,16] Z (by decide+kernel) Z (bw Z (bd ?_))));refine bw Z ?_
   obtain⟨x70,k70,H⟩:=aV H
   refine bE k70.1 (aC (fun _=>Z) k70.2) ?_;refine az 3 Z (bd ?_);refine bw Z (bd ?_);refine bw Z ?_
   obtain⟨x78,k78,H⟩:=aV H
   refine bE k78.1 (aC (fun _=>Z) k78.2) ?_;refine bw Z ?_
   obtain⟨x80,k80,H⟩:=aV H
   refine bE k80.1 (aC (fun _=>Z) k80.2) ?_;refine az 3 Z (aQ ?_);refine aF Z H (fun H=>?_) (fun H=>?_)
   ·refine ak 1 tk Z ?_;obtain rfl:=aq H;have e2:fl2= .ret _:=hg2;subst e2;obtain rfl:=aZ Hp2;refine bl tk Z (ps:=[(ah 7)]) ⟨_,_,rfl,rfl,rfl⟩ (PLe.q Z)
   refine al (aM (bc 2 tk Z ?_));exact bv () H hl2 hg2
  have hn2:=rMd (pf h) hr2;refine bj Z ?_;refine aP s2 g2 hn2 Gh.d
 have H:=iW hn2 Hp2;refine ak 1 tk Z ?_;exact bi tk H Z
def iq(other:LForeignKey)(c0:LForeignKey):Option (Bool):=
 ae (iL other c0) fun x6=>
 some x6
theorem sP(other:LForeignKey)(c0:LForeignKey)(r:Bool)(H:iq other c0=some r):
  aY prog 35 [(.agg (gW other)),(.ptr (gW c0))] (aK r):=by
 unfold iq at H;refine PH.au func35 ntmps35 ?_;refine aa (ab (aO ?_));refine ai tk Z (ac (aa (ab (ag 2 tk Z ?_))))
 obtain⟨x6,h6,H⟩:=am H
 have s6:=qa other c0 _ h6;refine aj call36 (jt.r) s6 ?_;refine ai tk Z (ac ?_);exact bi tk H Z
def jy(inst:List LRelation):Option ((List LRelation)):=
 ae (aU (σ:=List LRelation) (ρ:=Empty) (fun(_:Nat) (x1:LRelation) (s1:List LRelation)=>
  ae (iE x1.rows) fun x17=>
  ae (dq 40 s1 ([(LRelation.mk x1.table x17)]:List LRelation)) fun(x20:List LRelation)=>
  some (.next x20)) 0 inst []) fun fl1=>fl1.thenP fun(s1:List LRelation)=>
 some s1
theorem uI{m:Nat}(inst:List LRelation)(r:(List LRelation))(H:jy inst=some r):
  jr prog 22 [(.list 69 (inst.map bW))] (lN m 69 (r.map bW)):=by
 unfold jy at H;refine PH.au func22 ntmps22 ?_;refine ak 1 tk Z (ak 1 tk Z (aa (aa (ab (ai tk Z (aI tk (zl _) ?_))))));refine ai tk Z (ac (hZ tk 3 20 (e:=69) Z Z ?_));refine gc (γ:=OwnRef) tk 8 7 6 (fun s1 g1=>upd (fun _=>.any) 3 (.own 20 g1 (s1.map bW).length)) nB (fun s1 g1=>upd (fun _=>none) 20 (some ⟨g1,69,(s1.map bW),true⟩)) (⟨none,0⟩) H (fun fl1 Hp1 j1 s1 g1 hz1 hl1 x1 fb1 hx1 H hg1=>?_) (fun s1 g1 H=>?_)
 ·refine aa (av (aa (ab ?_)));refine be tk (zn j1) (bA (fun _=>Z) hx1) ?_;refine ai tk Z ?_;refine bm tk fun b5=>?_
  refine ay tk ?_;refine ac (aX tk mok ⟨true,false,[]⟩ [0,1,2,3,4,5,6,7,8,9] Z (by decide+kernel) Z (az 2 Z (bd ?_)));refine bw Z (bd ?_)
  obtain⟨x17,h17,H⟩:=am H
  have s17:=np (m:=17) x1.rows _ h17;refine aS call45 (jt.r) (PFun.iw s17) ?_;refine az 2 Z ?_
  obtain⟨x20,h20,H⟩:=am H
  have k20:=cj h20;refine gz (rows2':=List.map bW ([(LRelation.mk x1.table x17)]:List LRelation)) (rows':=List.map bW x20) tk Z Z Z Z Z Z Z Z Z Z Z Z Z Z (gP.refl _) (cU k20.1) (cW k20.2.1) (cV k20.2.2) fun g20=>?_
  refine bw Z (aQ (aM (bc 2 tk Z ?_)));exact bv g20 H hl1 hg1
 refine ak 2 tk Z ?_;obtain rfl:=aq H;refine jI tk Z
def jc(sA:LSchema)(c:LChange):Option (Int):=
 letP (
  cond (c.kind==(1:Int))
   (cond (decide ((c.key.length:Int)>(0:Int)))
    (true)
    (cond (c.kind==(2:Int))
     (cond (decide ((c.row.length:Int)>(0:Int)))
      (true)
      (cond (c.kind !=(1:Int))
       ((c.kind !=(2:Int)))
       (false)))
     (cond (c.kind !=(1:Int))
      ((c.kind !=(2:Int)))
      (false))))
   (cond (c.kind==(2:Int))
    (cond (decide ((c.row.length:Int)>(0:Int)))
     (true)
     (cond (c.kind !=(1:Int))
      ((c.kind !=(2:Int)))
      (false)))
    (cond (c.kind !=(1:Int))
     ((c.kind !=(2:Int)))
     (false)))) fun(t1:Bool)=>
 cond t1
  (some 3)
  (ae (dZ sA c.table) fun x41=>
  cond (!x41.2)
   (some 4)
   (cond (c.kind==(1:Int))
    (ae (aG sA.tables x41.1) fun(x52:LTable)=>
    ae (eJ x52 c.row) fun x56=>
    some x56)
    (ae (aG sA.tables x41.1) fun(x60:LTable)=>
    ae (iT x60 c.key) fun x64=>
    some x64)))
theorem ud(sA:LSchema)(c:LChange)(r:Int)(H:jc sA c=some r):
  aY prog 23 [(.agg (da sA)),(.agg (cu c))] (ah r):=by
 unfold jc at H;refine PH.au func23 ntmps23 ?_;refine aa (ab (aO ?_));refine aO ?_;refine ai tk Z (ac (aa (aa ?_)));refine ed (γ:=Unit) (fun t1 g1=>⟨65,upd (upd (upd (fun _=>.any) 36 (aK t1)) 3 (.ptr (cu c))) 2 (.ptr (da sA)),fun _=>none,fun _=>none⟩) H (fun _ H=>?_) (fun t1 g1 H=>?_)
 ·refine ab (ag 4 tk Z ?_);refine bu Z Z Z H (fun H=>?_) (fun H=>?_)
  ·refine ag 2 tk Z (aI tk (zl _) ?_);refine ag 3 tk Z ?_;refine bu Z Z Z H (fun H=>?_) (fun H=>?_)
   ·refine ag 20 tk Z (ac ?_);refine aP _ () H Gh.d
   refine ag 4 tk Z ?_;refine bu Z Z Z H (fun H=>?_) (fun H=>?_)
   ·refine ag 2 tk Z (aI tk (zl _) ?_);refine ag 4 tk Z ?_;refine bu Z Z Z H (fun H=>?_) (fun H=>?_)
    ·refine ag 9 tk Z (ac ?_);refine aP _ () H Gh.d
    refine ag 4 tk Z ?_;refine bu Z Z Z H (fun H=>?_) (fun H=>?_)
    ·refine ag 5 tk Z (ac ?_);refine aP _ () H Gh.d
    refine ag 5 tk Z (ac ?_);refine aP _ () H Gh.d
   refine ag 11 tk Z ?_;refine bu Z Z Z H (fun H=>?_) (fun H=>?_)
   ·refine ag 5 tk Z (ac ?_);refine aP _ () H Gh.d
   refine ag 5 tk Z (ac ?_);refine aP _ () H Gh.d
  refine ag 10 tk Z ?_;refine bu Z Z Z H (fun H=>?_) (fun H=>?_)
  ·refine ag 2 tk Z (aI tk (zl _) ?_);refine ag 4 tk Z ?_;refine bu Z Z Z H (fun H=>?_) (fun H=>?_)
   ·refine ag 9 tk Z (ac ?_);refine aP _ () H Gh.d
   refine ag 4 tk Z ?_;refine bu Z Z Z H (fun H=>?_) (fun H=>?_)
   ·refine ag 5 tk Z (ac ?_);refine aP _ () H Gh.d
   refine ag 5 tk Z (ac ?_);refine aP _ () H Gh.d
  refine ag 11 tk Z ?_;refine bu Z Z Z H (fun H=>?_) (fun H=>?_)
  ·refine ag 5 tk Z (ac ?_);refine aP _ () H Gh.d
  refine ag 5 tk Z (ac ?_);refine aP _ () H Gh.d
 refine aF Z H (fun H=>?_) (fun H=>?_)
 ·refine ak 1 tk Z ?_;exact bi tk H Z
 refine al (aa (ab (ag 3 tk Z ?_)))
 obtain⟨x41,h41,H⟩:=am H
 have s41:=jE sA c.table _ h41;refine aj call24 (jt.r) s41 ?_;refine ag 5 tk Z (ac (aa (ak 2 tk Z ?_)));refine aF Z H (fun H=>?_) (fun H=>?_)
 ·refine ak 1 tk Z ?_;exact bi tk H Z
 refine al (aa (ak 3 tk Z ?_));refine aF Z H (fun H=>?_) (fun H=>?_)
 ·refine aa (aX tk mok ⟨false,false,[]⟩ [0,1,2,3,4,5,6,7,8] Z (by decide+kernel) Z (az 3 Z ?_))
  obtain⟨x52,k52,H⟩:=aV H
  refine bE k52.1 (aC (fun _=>Z) k52.2) ?_;refine az 3 Z ?_
  obtain⟨x56,h56,H⟩:=am H
  have s56:=mV x52 c.row _ h56;refine aS call39 (jt.r) s56 ?_;refine bw Z (aQ ?_);exact bi tk H Z
 refine al (aa (aX tk mok ⟨false,false,[]⟩ [0,1,2,3,4,5,6,7,8] Z (by decide+kernel) Z (az 3 Z ?_)))
 obtain⟨x60,k60,H⟩:=aV H
 refine bE k60.1 (aC (fun _=>Z) k60.2) ?_;refine az 3 Z ?_
 obtain⟨x64,h64,H⟩:=am H
 have s64:=rZ x60 c.key _ h64;refine aS call46 (jt.r) s64 ?_;refine bw Z (aQ ?_);exact bi tk H Z
def gN(data:Rs)(a:Int)(b:Int):Option (Rs):=
 ae (dg (σ:=Rs×Int) (ρ:=Empty) (fun(s1:Rs×Int)=>
  cond (decide (s1.2<b))
   (ae (dg (σ:=Rs×Int) (ρ:=Empty) (fun(s22:Rs×Int)=>
    ae (
     cond (decide (s22.2>a))
      (ae (aG s22.1 s22.2) fun(x22:Rb)=>
      ae (aG s22.1 (iw (s22.2-(1:Int)))) fun(x27:Rb)=>
      letP (cM x22 x27) fun x29=>
      some (s22.1,x29))
      (some (s22.1,false))) fun(t29:Rs×Bool)=>
    cond t29.2
     (ae (aG t29.1 (iw (s22.2-(1:Int)))) fun(x41:Rb)=>
     ae (aG t29.1 s22.2) fun(x45:Rb)=>
     ae (aG t29.1 s22.2) fun(_:Rb)=>
     letP (t29.1.set s22.2.toNat x41) fun(y30:Rs)=>
     ae (aG y30 (iw (s22.2-(1:Int)))) fun(_:Rb)=>
     letP (y30.set ((iw (s22.2-(1:Int))).toNat) x45) fun(y31:Rs)=>
     some (.next (y31,(iw (s22.2-(1:Int))))))
     (some (.brk (t29.1,s22.2)))) (s1.1,s1.2)) fun fl22=>fl22.thenP fun(s22:Rs×Int)=>
   some (.next (s22.1,(iw (s1.2+(1:Int))))))
   (some (.brk (s1.1,s1.2)))) (data,(iw (a+(1:Int))))) fun fl1=>fl1.thenP fun(s1:Rs×Int)=>
 some s1.1
theorem mD(g_data:OwnRef)(data:Rs)(a:Int)(b:Int)(r:Rs)(H:gN data a b=some r):
  PH prog 78 [(.own 0 g_data (data.map aA).length),(ah a),(ah b)] ⟨fun _=>none,upd (fun _=>none) 0 (some ⟨g_data,9,(data.map aA),true⟩)⟩ (fun u H=>u=(.tup [])/\H=⟨fun _=>none,upd (fun _=>none) 0 (some ⟨g_data,9,(r.map aA),true⟩)⟩):=by
 unfold gN at H;refine PH.au func78 ntmps78 ?_;refine ak 3 tk Z ?_
 obtain⟨fl1,H1,Hp1⟩:=am H
 refine dj (τ:=Rs×Int) (γ:=Unit) (fun s1 g1=>⟨49,upd (fun _=>.any) 0 (.own 0 g_data (s1.1.map aA).length),fun _=>none,upd (fun _=>none) 0 (some ⟨g_data,9,(s1.1.map aA),true⟩)⟩) (fun t=>fl1= .next t) ?_ (fun s1 g1 hn1=>?_)
 ·refine av ?_;refine cO (fun s1 g1=>⟨49,upd (upd (upd (upd (fun _=>.any) 6 (ah s1.2)) 2 (ah b)) 1 (ah a)) 0 (.own 0 g_data (s1.1.map aA).length),fun _=>none,upd (fun _=>none) 0 (some ⟨g_data,9,(s1.1.map aA),true⟩)⟩) () H1 Gh.d (fun m1 s1 g1 hr1=>?_)
  obtain⟨fb1,H,hg1⟩:=cp hr1
  refine aa (ak 3 tk Z ?_);refine aF Z H (fun H=>?_) (fun H=>?_)
  ·refine al (aa (av (ak 2 tk Z ?_)))
   obtain⟨fl22,H22,Hp22⟩:=am H
   refine dj (τ:=Rs×Int) (γ:=Unit) (fun s22 g22=>⟨49,upd (upd (upd (upd (fun _=>.any) 6 (ah s1.2)) 2 (ah b)) 1 (ah a)) 0 (.own 0 g_data (s22.1.map aA).length),fun _=>none,upd (fun _=>none) 0 (some ⟨g_data,9,(s22.1.map aA),true⟩)⟩) (fun t=>fl22= .next t) ?_ (fun s22 g22 hn22=>?_)
   ·refine av ?_;refine cO (fun s22 g22=>⟨49,upd (upd (upd (upd (upd (fun _=>.any) 7 (ah s22.2)) 6 (ah s1.2)) 2 (ah b)) 1 (ah a)) 0 (.own 0 g_data (s22.1.map aA).length),fun _=>none,upd (fun _=>none) 0 (some ⟨g_data,9,(s22.1.map aA),true⟩)⟩) () H22 Gh.d (fun m22 s22 g22 hr22=>?_)
    obtain⟨fb22,H,hg22⟩:=cp hr22
    refine aa (aa ?_);refine ee (γ:=Unit) (fun t29 g29=>⟨49,upd (upd (upd (upd (upd (upd (fun _=>.any) 30 (aK t29.2)) 7 (ah s22.2)) 6 (ah s1.2)) 2 (ah b)) 1 (ah a)) 0 (.own 0 g_data (t29.1.map aA).length),fun _=>none,upd (fun _=>none) 0 (some ⟨g_data,9,(t29.1.map aA),true⟩)⟩) H (fun _ H=>?_) (fun t29 g29 H=>?_)
    ·refine cA (tag:=0) Z (fun ho0=>?_);refine aX tk mok ⟨false,true,[]⟩ [0,1,2,3,4,5,6,7,8,9,10,11,12,13,14] Z (by decide+kernel) Z (az 4 Z ?_);refine gi H (fun H=>?_) (fun H=>?_)
     ·refine az 2 Z ?_
      obtain⟨x22,k22,H⟩:=aV H
      refine aT tk ⟨k22.1,(bh k22.2)⟩ (bf ho0 k22.2) ?_;refine bo tk Z Z Z Z Z Z Z Z Z (aC (fun _=>Z) k22.2) Z Z ?_;refine az 3 Z ?_
      obtain⟨x27,k27,H⟩:=aV H
      refine aT tk ⟨k27.1,(bh k27.2)⟩ (bf ho0 k27.2) ?_;refine bo tk Z Z Z Z Z Z Z Z Z (aC (fun _=>Z) k27.2) Z Z ?_
      obtain⟨x29,h29,H⟩:=bF H
      have s29:=dy x22 x27;rw[h29]at s29;refine aS call84 (jt.r) s29 ?_;refine bw Z (aQ ?_);refine aP _ () (aq H) Gh.d
     refine az 11 Z (aQ ?_);refine aP _ () (aq H) Gh.d
    refine aF Z H (fun H=>?_) (fun H=>?_)
    ·refine al (aa (av ?_));refine cA (tag:=0) Z (fun ho0=>?_);refine aX tk mok ⟨false,true,[]⟩ [0,1,2,3,4,5,6,7,8,9,10,11,12,13,14,15,16,17] Z (by decide+kernel) Z (az 8 Z ?_)
     obtain⟨x41,k41,H⟩:=aV H
     refine aT tk ⟨k41.1,(bh k41.2)⟩ (bf ho0 k41.2) ?_;refine bo tk Z Z Z Z Z Z Z Z Z (aC (fun _=>Z) k41.2) Z Z ?_;refine az 2 Z ?_
     obtain⟨x45,k45,H⟩:=aV H
     refine aT tk ⟨k45.1,(bh k45.2)⟩ (bf ho0 k45.2) ?_;refine bo tk Z Z Z Z Z Z Z Z Z (aC (fun _=>Z) k45.2) Z Z ?_
     obtain⟨x47,k47,H⟩:=aV H
     refine aT tk ⟨k47.1,(bh k47.2)⟩ (bf ho0 k47.2) ?_
     obtain⟨y30,hy30,H⟩:=bF H
     refine cg tk Z Z Z Z Z Z Z Z Z (by rw[zl];exact(zg.1 k47.2).1) (PLe.refl _ _) Z Z Z Z (by decide) (bD (fun _=>Z) k47.2 Z hy30) ?_
     obtain⟨x48,k48,H⟩:=aV H
     refine aT tk ⟨k48.1,(gJ (bt (f:=aA) hy30) k48.2)⟩ (gX ho0 (bt (f:=aA) hy30) k48.2) ?_
     obtain⟨y31,hy31,H⟩:=bF H
     refine cg tk Z Z Z Z Z Z Z Z Z (by rw[zl];exact(zg.1 k48.2).1) (PLe.refl _ _) Z Z Z Z (by decide) (bD (fun _=>Z) k48.2 Z hy31) ?_;refine aQ (aM (bc 3 tk Z ?_));obtain rfl:=aq H;refine ce (y31,(iw (s22.2-(1:Int)))) () hg22 (Gh.le (bp (PLe.of2 (pD.of_eq (congrArg (PV.own 0 g_data) ((bt (f:=aA) hy30).trans (bt (f:=aA) hy31))))) (ao (ao (ao (ao aL))))) aw (aD ax))
    refine bj Z ?_;obtain rfl:=aq H;refine aP (t29.1,s22.2) () hg22 Gh.d
   have H:=ci hn22 Hp22;refine aM (bc 3 tk Z ?_);obtain rfl:=aq H;refine ce (s22.1,(iw (s1.2+(1:Int)))) () hg1 Gh.d
  refine bj Z ?_;obtain rfl:=aq H;refine aP (s1.1,s1.2) () hg1 Gh.d
 have H:=ci hn1 Hp1;obtain rfl:=aq H;refine bZ (st':=⟨49,fun _=>.any,fun _=>none,upd (fun _=>none) 0 (some ⟨g_data,9,(s1.1.map aA),true⟩)⟩) (Gh.le aL aw (aD ax)) ?_;refine iO Z (PLe.q Z) ⟨rfl,rfl⟩
def gn(data:Rs)(lo:Int)(hi:Int)(first:Int):Option (Rs):=
 ae (dg (σ:=Rs×Int) (ρ:=(Rs)) (fun(s1:Rs×Int)=>
  cond (decide ((iw ((iw ((2:Int)*s1.2))+(1:Int)))>=hi))
   (some (.brk (s1.1,s1.2)))
   (ae (
    cond (decide ((iw ((iw ((iw ((2:Int)*s1.2))+(1:Int)))+(1:Int)))<hi))
     (ae (aG s1.1 (iw (first+(iw ((iw ((2:Int)*s1.2))+(1:Int)))))) fun(x26:Rb)=>
     ae (aG s1.1 (iw ((iw (first+(iw ((iw ((2:Int)*s1.2))+(1:Int)))))+(1:Int)))) fun(x33:Rb)=>
     letP (cM x26 x33) fun x35=>
     some (s1.1,x35))
     (some (s1.1,false))) fun(t10:Rs×Bool)=>
   letP (
    cond t10.2
     ((t10.1,(iw ((iw ((iw ((2:Int)*s1.2))+(1:Int)))+(1:Int)))))
     ((t10.1,(iw ((iw ((2:Int)*s1.2))+(1:Int)))))) fun(t11:Rs×Int)=>
   ae (aG t11.1 (iw (first+s1.2))) fun(x43:Rb)=>
   ae (aG t11.1 (iw (first+t11.2))) fun(x49:Rb)=>
   letP (cM x43 x49) fun x51=>
   cond (!x51)
    (some (.ret t11.1))
    (ae (aG t11.1 (iw (first+t11.2))) fun(x65:Rb)=>
    ae (aG t11.1 (iw (first+s1.2))) fun(x71:Rb)=>
    ae (aG t11.1 (iw (first+s1.2))) fun(_:Rb)=>
    letP (t11.1.set ((iw (first+s1.2)).toNat) x65) fun(y12:Rs)=>
    ae (aG y12 (iw (first+t11.2))) fun(_:Rb)=>
    letP (y12.set ((iw (first+t11.2)).toNat) x71) fun(y13:Rs)=>
    some (.next (y13,t11.2))))) (data,lo)) fun fl1=>fl1.thenR fun(s1:Rs×Int)=>
 some s1.1
theorem kE(g_data:OwnRef)(data:Rs)(lo:Int)(hi:Int)(first:Int)(r:Rs)(H:gn data lo hi first=some r):
  PH prog 112 [(.own 0 g_data (data.map aA).length),(ah lo),(ah hi),(ah first)] ⟨fun _=>none,upd (fun _=>none) 0 (some ⟨g_data,9,(data.map aA),true⟩)⟩ (fun u H=>u=(.tup [])/\H=⟨fun _=>none,upd (fun _=>none) 0 (some ⟨g_data,9,(r.map aA),true⟩)⟩):=by
 unfold gn at H;refine PH.au func112 ntmps112 ?_;refine ak 2 tk Z ?_
 obtain⟨fl1,H1,Hp1⟩:=am H
 refine dj (τ:=Rs×Int) (γ:=Unit) (fun s1 g1=>⟨76,upd (fun _=>.any) 0 (.own 0 g_data (s1.1.map aA).length),fun _=>none,upd (fun _=>none) 0 (some ⟨g_data,9,(s1.1.map aA),true⟩)⟩) (fun t=>fl1= .next t) ?_ (fun s1 g1 hn1=>?_)
 ·refine av ?_;refine cO (fun s1 g1=>⟨76,upd (upd (upd (upd (fun _=>.any) 8 (ah s1.2)) 3 (ah first)) 2 (ah hi)) 0 (.own 0 g_data (s1.1.map aA).length),fun _=>none,upd (fun _=>none) 0 (some ⟨g_data,9,(s1.1.map aA),true⟩)⟩) () H1 Gh.d (fun m1 s1 g1 hr1=>?_)
  obtain⟨fb1,H,hg1⟩:=cp hr1
  refine av (ak 4 tk Z (aa (ak 3 tk Z ?_)));refine aF Z H (fun H=>?_) (fun H=>?_)
  ·refine bj Z ?_;obtain rfl:=aq H;refine aP (s1.1,s1.2) () hg1 Gh.d
  refine al (aa (aa ?_));refine ee (γ:=Unit) (fun t10 g10=>⟨76,upd (upd (upd (upd (upd (upd (fun _=>.any) 36 (aK t10.2)) 9 (ah (iw ((iw ((2:Int)*s1.2))+(1:Int))))) 8 (ah s1.2)) 3 (ah first)) 2 (ah hi)) 0 (.own 0 g_data (t10.1.map aA).length),fun _=>none,upd (fun _=>none) 0 (some ⟨g_data,9,(t10.1.map aA),true⟩)⟩) H (fun _ H=>?_) (fun t10 g10 H=>?_)
  ·refine cA (tag:=0) Z (fun ho0=>?_);refine aX tk mok ⟨false,true,[]⟩ [0,1,2,3,4,5,6,7,8,9,10,11,12,13,14,15,16,17,18,19] Z (by decide+kernel) Z (az 5 Z ?_);refine gi H (fun H=>?_) (fun H=>?_)
   ·refine az 4 Z ?_
    obtain⟨x26,k26,H⟩:=aV H
    refine aT tk ⟨k26.1,(bh k26.2)⟩ (bf ho0 k26.2) ?_;refine bo tk Z Z Z Z Z Z Z Z Z (aC (fun _=>Z) k26.2) Z Z ?_;refine az 5 Z ?_
    obtain⟨x33,k33,H⟩:=aV H
    refine aT tk ⟨k33.1,(bh k33.2)⟩ (bf ho0 k33.2) ?_;refine bo tk Z Z Z Z Z Z Z Z Z (aC (fun _=>Z) k33.2) Z Z ?_
    obtain⟨x35,h35,H⟩:=bF H
    have s35:=dy x26 x33;rw[h35]at s35;refine aS call84 (jt.r) s35 ?_;refine bw Z (aQ ?_);refine aP _ () (aq H) Gh.d
   refine az 15 Z (aQ ?_);refine aP _ () (aq H) Gh.d
  refine ed (γ:=Unit) (fun t11 g11=>⟨76,upd (upd (upd (upd (upd (fun _=>.any) 9 (ah t11.2)) 8 (ah s1.2)) 3 (ah first)) 2 (ah hi)) 0 (.own 0 g_data (t11.1.map aA).length),fun _=>none,upd (fun _=>none) 0 (some ⟨g_data,9,(t11.1.map aA),true⟩)⟩) H (fun _ H=>?_) (fun t11 g11 H=>?_)
  ·refine aF Z H (fun H=>?_) (fun H=>?_)
   ·refine bc 3 tk Z ?_;refine aP _ () H Gh.d
   refine al ?_;refine aP _ () H Gh.d
  refine aa (aa ?_);refine cA (tag:=0) Z (fun ho0=>?_);refine aX tk mok ⟨false,true,[]⟩ [0,1,2,3,4,5,6,7,8,9,10,11,12,13] Z (by decide+kernel) Z (az 4 Z ?_)
  obtain⟨x43,k43,H⟩:=aV H
  refine aT tk ⟨k43.1,(bh k43.2)⟩ (bf ho0 k43.2) ?_;refine bo tk Z Z Z Z Z Z Z Z Z (aC (fun _=>Z) k43.2) Z Z ?_;refine az 4 Z ?_
  obtain⟨x49,k49,H⟩:=aV H
  refine aT tk ⟨k49.1,(bh k49.2)⟩ (bf ho0 k49.2) ?_;refine bo tk Z Z Z Z Z Z Z Z Z (aC (fun _=>Z) k49.2) Z Z ?_
  obtain⟨x51,h51,H⟩:=bF H
  have s51:=dy x43 x49;rw[h51]at s51;refine aS call84 (jt.r) s51 ?_;refine bw Z (aQ ?_);refine aF Z H (fun H=>?_) (fun H=>?_)
  ·obtain rfl:=aq H;have e1:fl1= .ret _:=hg1;subst e1;obtain rfl:=aZ Hp1;refine bZ (st':=⟨76,fun _=>.any,fun _=>none,upd (fun _=>none) 0 (some ⟨g_data,9,(t11.1.map aA),true⟩)⟩) (Gh.le aL aw (aD ax)) ?_;refine cl tk Z (ps:=[]) Z (PLe.q Z) ⟨rfl,rfl⟩
  refine al (aa ?_);refine cA (tag:=0) Z (fun ho0=>?_);refine aX tk mok ⟨false,true,[]⟩ [0,1,2,3,4,5,6,7,8,9,10,11,12,13,14,15,16,17,18,19,20,21,22,23] Z (by decide+kernel) Z (az 12 Z ?_)
  obtain⟨x65,k65,H⟩:=aV H
  refine aT tk ⟨k65.1,(bh k65.2)⟩ (bf ho0 k65.2) ?_;refine bo tk Z Z Z Z Z Z Z Z Z (aC (fun _=>Z) k65.2) Z Z ?_;refine az 4 Z ?_
  obtain⟨x71,k71,H⟩:=aV H
  refine aT tk ⟨k71.1,(bh k71.2)⟩ (bf ho0 k71.2) ?_;refine bo tk Z Z Z Z Z Z Z Z Z (aC (fun _=>Z) k71.2) Z Z ?_
  obtain⟨x73,k73,H⟩:=aV H
  refine aT tk ⟨k73.1,(bh k73.2)⟩ (bf ho0 k73.2) ?_
  obtain⟨y12,hy12,H⟩:=bF H
  refine cg tk Z Z Z Z Z Z Z Z Z (by rw[zl];exact(zg.1 k73.2).1) (PLe.refl _ _) Z Z Z Z (by decide) (bD (fun _=>Z) k73.2 Z hy12) ?_
  obtain⟨x74,k74,H⟩:=aV H
  refine aT tk ⟨k74.1,(gJ (bt (f:=aA) hy12) k74.2)⟩ (gX ho0 (bt (f:=aA) hy12) k74.2) ?_
  obtain⟨y13,hy13,H⟩:=bF H
  refine cg tk Z Z Z Z Z Z Z Z Z (by rw[zl];exact(zg.1 k74.2).1) (PLe.refl _ _) Z Z Z Z (by decide) (bD (fun _=>Z) k74.2 Z hy13) ?_;refine aQ (bc 2 tk Z (aM ?_));obtain rfl:=aq H;refine ce (y13,t11.2) () hg1 (Gh.le (bp (PLe.of2 (pD.of_eq (congrArg (PV.own 0 g_data) ((bt (f:=aA) hy12).trans (bt (f:=aA) hy13))))) (ao (ao (ao aL)))) aw (aD ax))
 have H:=iW hn1 Hp1;obtain rfl:=aq H;refine bZ (st':=⟨76,fun _=>.any,fun _=>none,upd (fun _=>none) 0 (some ⟨g_data,9,(s1.1.map aA),true⟩)⟩) (Gh.le aL aw (aD ax)) ?_;refine iO Z (PLe.q Z) ⟨rfl,rfl⟩
def kG(length:Int):Option (Int):=
 ae (ml (IntKind.u64.wrap length)) fun x5=>
 ae (shlI .u64 (1:Int) x5) fun(x6:Int)=>
 some x6
theorem qA(length:Int)(r:Int)(H:kG length=some r):
  aY prog 113 [(ah length)] (.val (.int .u64 r)):=by
 unfold kG at H;refine PH.au func113 ntmps113 ?_;refine ak 1 tk Z (aa (ab (ag 2 tk Z ?_)))
 obtain⟨x5,h5,H⟩:=am H
 have s5:=qW (IntKind.u64.wrap length) _ h5;refine aj call55 (jt.r) s5 ?_
 obtain⟨x6,h6,H⟩:=am H
 refine Ao.shl Z Z Z Z h6 Z (ai tk Z (ac ?_));exact bi tk H Z
def fy(data:Rs)(a:Int)(b:Int)(swaps:Int):Option (Int×Int×Rs×Int):=
 ae (aG data b) fun(x12:Rb)=>
 ae (aG data a) fun(x16:Rb)=>
 letP (cM x12 x16) fun x18=>
 cond x18
  (some (b,a,data,(iw (swaps+(1:Int)))))
  (some (a,b,data,swaps))
theorem jn(g_data:OwnRef)(b_swaps:Nat)(data:Rs)(a:Int)(b:Int)(swaps:Int)(r:Int×Int×Rs×Int)(H:fy data a b swaps=some r):
  PH prog 136 [(.own 0 g_data (data.map aA).length),(ah a),(ah b),(.box 1503 b_swaps 0)] ⟨upd (fun _=>none) 1503 (some ⟨b_swaps,[(ah swaps)]⟩),upd (fun _=>none) 0 (some ⟨g_data,9,(data.map aA),true⟩)⟩ (fun u H=>u=(.tup [(ah r.1),(ah r.2.1)])/\H=⟨upd (fun _=>none) 1503 (some ⟨b_swaps,[(ah r.2.2.2)]⟩),upd (fun _=>none) 0 (some ⟨g_data,9,(r.2.2.1.map aA),true⟩)⟩):=by
 unfold fy at H;refine PH.au func136 ntmps136 ?_;refine ak 2 tk Z (aa (aa ?_));refine cA (tag:=0) Z (fun ho0=>?_);refine aX tk mok ⟨false,true,[]⟩ [0,1,2,3,4,5,6,7,8] Z (by decide+kernel) Z (az 2 Z ?_)
 obtain⟨x12,k12,H⟩:=aV H
 refine aT tk ⟨k12.1,(bh k12.2)⟩ (bf ho0 k12.2) ?_;refine bo tk Z Z Z Z Z Z Z Z Z (aC (fun _=>Z) k12.2) Z Z ?_;refine az 2 Z ?_
 obtain⟨x16,k16,H⟩:=aV H
 refine aT tk ⟨k16.1,(bh k16.2)⟩ (bf ho0 k16.2) ?_;refine bo tk Z Z Z Z Z Z Z Z Z (aC (fun _=>Z) k16.2) Z Z ?_
 obtain⟨x18,h18,H⟩:=bF H
 have s18:=dy x12 x16;rw[h18]at s18;refine aS call84 (jt.r) s18 ?_;refine aQ ?_;refine aF Z H (fun H=>?_) (fun H=>?_)
 ·refine aa (ab (ag 2 tk Z (aJ tk ?_)));refine ag 2 tk Z (ay tk ?_);refine ac (ak 4 tk Z ?_);obtain rfl:=aq H;refine bZ (st':=⟨28,upd (upd (fun _=>.any) 9 (ah a)) 8 (ah b),upd (fun _=>none) 1503 (some ⟨b_swaps,[(ah (iw (swaps+(1:Int))))]⟩),upd (fun _=>none) 0 (some ⟨g_data,9,(data.map aA),true⟩)⟩) (Gh.le (ao (ao aL)) (aR Z (jt.r) aw) (aD ax)) ?_;refine cl tk Z (ps:=[(ah b),(ah a)]) ⟨_,_,rfl,rfl,_,_,rfl,rfl,rfl⟩ (PLe.q Z) ⟨rfl,rfl⟩
 refine al (ak 4 tk Z ?_);obtain rfl:=aq H;refine bZ (st':=⟨28,upd (upd (fun _=>.any) 9 (ah b)) 8 (ah a),upd (fun _=>none) 1503 (some ⟨b_swaps,[(ah swaps)]⟩),upd (fun _=>none) 0 (some ⟨g_data,9,(data.map aA),true⟩)⟩) (Gh.le (ao (ao aL)) (aR Z (jt.r) aw) (aD ax)) ?_;refine cl tk Z (ps:=[(ah a),(ah b)]) ⟨_,_,rfl,rfl,_,_,rfl,rfl,rfl⟩ (PLe.q Z) ⟨rfl,rfl⟩
def fA(data:Rs)(a:Int)(b:Int):Option (Bool×Rs):=
 ae (dg (σ:=Rs×Int×Int) (ρ:=(Bool×Rs)) (fun(s1:Rs×Int×Int)=>
  cond (decide (s1.2.2<(5:Int)))
   (ae (dg (σ:=Rs×Int) (ρ:=Empty) (fun(s52:Rs×Int)=>
    cond (decide (s52.2<b))
     (ae (aG s52.1 s52.2) fun(x23:Rb)=>
     ae (aG s52.1 (iw (s52.2-(1:Int)))) fun(x28:Rb)=>
     letP (cM x23 x28) fun x30=>
     cond (!x30)
      (some (.next (s52.1,(iw (s52.2+(1:Int))))))
      (some (.brk (s52.1,s52.2))))
     (some (.brk (s52.1,s52.2)))) (s1.1,s1.2.1)) fun fl52=>fl52.thenP fun(s52:Rs×Int)=>
   cond (s52.2==b)
    (some (.ret (true,s52.1)))
    (cond (decide ((iw (b-a))<(50:Int)))
     (some (.ret (false,s52.1)))
     (ae (aG s52.1 (iw (s52.2-(1:Int)))) fun(x50:Rb)=>
     ae (aG s52.1 s52.2) fun(x54:Rb)=>
     ae (aG s52.1 s52.2) fun(_:Rb)=>
     letP (s52.1.set s52.2.toNat x50) fun(y53:Rs)=>
     ae (aG y53 (iw (s52.2-(1:Int)))) fun(_:Rb)=>
     letP (y53.set ((iw (s52.2-(1:Int))).toNat) x54) fun(y54:Rs)=>
     ae (
      cond (decide ((iw (s52.2-a))>=(2:Int)))
       (ae (dg (σ:=Rs×Int) (ρ:=Empty) (fun(s63:Rs×Int)=>
        cond (decide (s63.2>=(1:Int)))
         (ae (aG s63.1 s63.2) fun(x70:Rb)=>
         ae (aG s63.1 (iw (s63.2-(1:Int)))) fun(x75:Rb)=>
         letP (cM x70 x75) fun x77=>
         cond (!x77)
          (some (.brk (s63.1,s63.2)))
          (ae (aG s63.1 (iw (s63.2-(1:Int)))) fun(x87:Rb)=>
          ae (aG s63.1 s63.2) fun(x91:Rb)=>
          ae (aG s63.1 s63.2) fun(_:Rb)=>
          letP (s63.1.set s63.2.toNat x87) fun(y68:Rs)=>
          ae (aG y68 (iw (s63.2-(1:Int)))) fun(_:Rb)=>
          letP (y68.set ((iw (s63.2-(1:Int))).toNat) x91) fun(y69:Rs)=>
          some (.next (y69,(iw (s63.2-(1:Int)))))))
         (some (.brk (s63.1,s63.2)))) (y54,(iw (s52.2-(1:Int))))) fun fl63=>fl63.thenP fun(s63:Rs×Int)=>
       some s63.1)
       (some y54)) fun(t62:Rs)=>
     cond (decide ((iw (b-s52.2))>=(2:Int)))
      (ae (dg (σ:=Rs×Int) (ρ:=Empty) (fun(s70:Rs×Int)=>
       cond (decide (s70.2<b))
        (ae (aG s70.1 s70.2) fun(x108:Rb)=>
        ae (aG s70.1 (iw (s70.2-(1:Int)))) fun(x113:Rb)=>
        letP (cM x108 x113) fun x115=>
        cond (!x115)
         (some (.brk (s70.1,s70.2)))
         (ae (aG s70.1 (iw (s70.2-(1:Int)))) fun(x125:Rb)=>
         ae (aG s70.1 s70.2) fun(x129:Rb)=>
         ae (aG s70.1 s70.2) fun(_:Rb)=>
         letP (s70.1.set s70.2.toNat x125) fun(y75:Rs)=>
         ae (aG y75 (iw (s70.2-(1:Int)))) fun(_:Rb)=>
         letP (y75.set ((iw (s70.2-(1:Int))).toNat) x129) fun(y76:Rs)=>
         some (.next (y76,(iw (s70.2+(1:Int)))))))
        (some (.brk (s70.1,s70.2)))) (t62,(iw (s52.2+(1:Int))))) fun fl70=>fl70.thenP fun(s70:Rs×Int)=>
      some (.next (s70.1,s52.2,(iw (s1.2.2+(1:Int))))))
      (some (.next (t62,s52.2,(iw (s1.2.2+(1:Int)))))))))
   (some (.brk (s1.1,s1.2.1,s1.2.2)))) (data,(iw (a+(1:Int))),0)) fun fl1=>fl1.thenR fun(s1:Rs×Int×Int)=>
 some (false,s1.1)
theorem lg(g_data:OwnRef)(data:Rs)(a:Int)(b:Int)(r:Bool×Rs)(H:fA data a b=some r):
  PH prog 83 [(.own 0 g_data (data.map aA).length),(ah a),(ah b)] ⟨fun _=>none,upd (fun _=>none) 0 (some ⟨g_data,9,(data.map aA),true⟩)⟩ (fun u H=>u=(aK r.1)/\H=⟨fun _=>none,upd (fun _=>none) 0 (some ⟨g_data,9,(r.2.map aA),true⟩)⟩):=by
 unfold fA at H;refine PH.au func83 ntmps83 ?_;refine ak 1 tk Z (ak 3 tk Z (aa (ak 1 tk Z ?_)))
 obtain⟨fl1,H1,Hp1⟩:=am H
 refine dj (τ:=Rs×Int×Int) (γ:=Unit) (fun s1 g1=>⟨133,upd (fun _=>.any) 0 (.own 0 g_data (s1.1.map aA).length),fun _=>none,upd (fun _=>none) 0 (some ⟨g_data,9,(s1.1.map aA),true⟩)⟩) (fun t=>fl1= .next t) ?_ (fun s1 g1 hn1=>?_)
 ·refine av ?_;refine cO (fun s1 g1=>⟨133,upd (upd (upd (upd (upd (fun _=>.any) 8 (ah s1.2.2)) 7 (ah s1.2.1)) 2 (ah b)) 1 (ah a)) 0 (.own 0 g_data (s1.1.map aA).length),fun _=>none,upd (fun _=>none) 0 (some ⟨g_data,9,(s1.1.map aA),true⟩)⟩) () H1 Gh.d (fun m1 s1 g1 hr1=>?_)
  obtain⟨fb1,H,hg1⟩:=cp hr1
  refine aa (ak 2 tk Z ?_);refine aF Z H (fun H=>?_) (fun H=>?_)
  ·refine al (aa (av (aa ?_)))
   obtain⟨fl52,H52,Hp52⟩:=am H
   refine dj (τ:=Rs×Int) (γ:=Unit) (fun s52 g52=>⟨133,upd (upd (upd (upd (upd (fun _=>.any) 8 (ah s1.2.2)) 7 (ah s52.2)) 2 (ah b)) 1 (ah a)) 0 (.own 0 g_data (s52.1.map aA).length),fun _=>none,upd (fun _=>none) 0 (some ⟨g_data,9,(s52.1.map aA),true⟩)⟩) (fun t=>fl52= .next t) ?_ (fun s52 g52 hn52=>?_)
   ·refine av ?_;refine cO (fun s52 g52=>⟨133,upd (upd (upd (upd (upd (fun _=>.any) 8 (ah s1.2.2)) 7 (ah s52.2)) 2 (ah b)) 1 (ah a)) 0 (.own 0 g_data (s52.1.map aA).length),fun _=>none,upd (fun _=>none) 0 (some ⟨g_data,9,(s52.1.map aA),true⟩)⟩) () H52 Gh.d (fun m52 s52 g52 hr52=>?_)
    obtain⟨fb52,H,hg52⟩:=cp hr52
    refine aa (aa ?_);refine cA (tag:=0) Z (fun ho0=>?_);refine aX tk mok ⟨false,true,[]⟩ [0,1,2,3,4,5,6,7,8,9,10,11,12,13,14,15] Z (by decide+kernel) Z (az 4 Z ?_);refine gi H (fun H=>?_) (fun H=>?_)
    ·refine az 2 Z ?_
     obtain⟨x23,k23,H⟩:=aV H
     refine aT tk ⟨k23.1,(bh k23.2)⟩ (bf ho0 k23.2) ?_;refine bo tk Z Z Z Z Z Z Z Z Z (aC (fun _=>Z) k23.2) Z Z ?_;refine az 3 Z ?_
     obtain⟨x28,k28,H⟩:=aV H
     refine aT tk ⟨k28.1,(bh k28.2)⟩ (bf ho0 k28.2) ?_;refine bo tk Z Z Z Z Z Z Z Z Z (aC (fun _=>Z) k28.2) Z Z ?_
     obtain⟨x30,h30,H⟩:=bF H
     have s30:=dy x23 x28;rw[h30]at s30;refine aS call84 (jt.r) s30 ?_;refine az 2 Z (aQ ?_);refine aF Z H (fun H=>?_) (fun H=>?_)
     ·refine al (av (bc 3 tk Z (aM ?_)));obtain rfl:=aq H;refine ce (s52.1,(iw (s52.2+(1:Int)))) () hg52 Gh.d
     refine bj Z ?_;obtain rfl:=aq H;refine aP (s52.1,s52.2) () hg52 Gh.d
    refine az 12 Z (aQ (bH Z (bj Z ?_)));obtain rfl:=aq H;refine aP (s52.1,s52.2) () hg52 Gh.d
   have H:=ci hn52 Hp52;refine aa (ak 3 tk Z ?_);refine aF Z H (fun H=>?_) (fun H=>?_)
   ·refine ak 1 tk Z ?_;obtain rfl:=aq H;have e1:fl1= .ret _:=hg1;subst e1;obtain rfl:=aZ Hp1;refine bZ (st':=⟨133,upd (fun _=>.any) 6 (aK true),fun _=>none,upd (fun _=>none) 0 (some ⟨g_data,9,(s52.1.map aA),true⟩)⟩) (Gh.le (ao aL) aw (aD ax)) ?_;refine cl tk Z (ps:=[(aK true)]) ⟨_,_,rfl,rfl,rfl⟩ (PLe.q Z) ⟨rfl,rfl⟩
   refine al (aa (ak 4 tk Z ?_));refine aF Z H (fun H=>?_) (fun H=>?_)
   ·refine ak 1 tk Z ?_;obtain rfl:=aq H;have e1:fl1= .ret _:=hg1;subst e1;obtain rfl:=aZ Hp1;refine bZ (st':=⟨133,upd (fun _=>.any) 6 (aK false),fun _=>none,upd (fun _=>none) 0 (some ⟨g_data,9,(s52.1.map aA),true⟩)⟩) (Gh.le (ao aL) aw (aD ax)) ?_;refine cl tk Z (ps:=[(aK false)]) ⟨_,_,rfl,rfl,rfl⟩ (PLe.q Z) ⟨rfl,rfl⟩
   refine al (aa ?_);refine cA (tag:=0) Z (fun ho0=>?_);refine aX tk mok ⟨false,true,[]⟩ [0,1,2,3,4,5,6,7,8,9,10,11,12,13,14,15,16,17] Z (by decide+kernel) Z (az 8 Z ?_)
   obtain⟨x50,k50,H⟩:=aV H
   refine aT tk ⟨k50.1,(bh k50.2)⟩ (bf ho0 k50.2) ?_;refine bo tk Z Z Z Z Z Z Z Z Z (aC (fun _=>Z) k50.2) Z Z ?_;refine az 2 Z ?_
   obtain⟨x54,k54,H⟩:=aV H
   refine aT tk ⟨k54.1,(bh k54.2)⟩ (bf ho0 k54.2) ?_;refine bo tk Z Z Z Z Z Z Z Z Z (aC (fun _=>Z) k54.2) Z Z ?_
   obtain⟨x56,k56,H⟩:=aV H
   refine aT tk ⟨k56.1,(bh k56.2)⟩ (bf ho0 k56.2) ?_
   obtain⟨y53,hy53,H⟩:=bF H
   refine cg tk Z Z Z Z Z Z Z Z Z (by rw[zl];exact(zg.1 k56.2).1) (PLe.refl _ _) Z Z Z Z (by decide) (bD (fun _=>Z) k56.2 Z hy53) ?_
   obtain⟨x57,k57,H⟩:=aV H
   refine aT tk ⟨k57.1,(gJ (bt (f:=aA) hy53) k57.2)⟩ (gX ho0 (bt (f:=aA) hy53) k57.2) ?_
   obtain⟨y54,hy54,H⟩:=bF H
   refine cg tk Z Z Z Z Z Z Z Z Z (by rw[zl];exact(zg.1 k57.2).1) (PLe.refl _ _) Z Z Z Z (by decide) (bD (fun _=>Z) k57.2 Z hy54) ?_;refine aQ (aa (ak 4 tk Z ?_));refine ee (γ:=Unit) (fun t62 g62=>⟨133,upd (upd (upd (upd (upd (fun _=>.any) 8 (ah s1.2.2)) 7 (ah s52.2)) 2 (ah b)) 1 (ah a)) 0 (.own 0 g_data (t62.map aA).length),fun _=>none,upd (fun _=>none) 0 (some ⟨g_data,9,(t62.map aA),true⟩)⟩) H (fun _ H=>?_) (fun t62 g62 H=>?_)
   ·refine aF Z H (fun H=>?_) (fun H=>?_)
    ·refine ak 3 tk Z ?_
     obtain⟨fl63,H63,Hp63⟩:=am H
     refine dj (τ:=Rs×Int) (γ:=Unit) (fun s63 g63=>⟨133,upd (upd (upd (upd (upd (fun _=>.any) 8 (ah s1.2.2)) 7 (ah s52.2)) 2 (ah b)) 1 (ah a)) 0 (.own 0 g_data (s63.1.map aA).length),fun _=>none,upd (fun _=>none) 0 (some ⟨g_data,9,(s63.1.map aA),true⟩)⟩) (fun t=>fl63= .next t) ?_ (fun s63 g63 hn63=>?_)
     ·refine av ?_;refine cO (fun s63 g63=>⟨133,upd (upd (upd (upd (upd (upd (fun _=>.any) 9 (ah s63.2)) 8 (ah s1.2.2)) 7 (ah s52.2)) 2 (ah b)) 1 (ah a)) 0 (.own 0 g_data (s63.1.map aA).length),fun _=>none,upd (fun _=>none) 0 (some ⟨g_data,9,(s63.1.map aA),true⟩)⟩) () H63 (Gh.le (bp (PLe.of2 (pD.of_eq (congrArg (PV.own 0 g_data) ((bt (f:=aA) hy53).trans (bt (f:=aA) hy54))))) (ao (ao (ao (ao (ao aL)))))) aw (aD ax)) (fun m63 s63 g63 hr63=>?_)
      obtain⟨fb63,H,hg63⟩:=cp hr63
      refine aa (ak 2 tk Z ?_);refine aF Z H (fun H=>?_) (fun H=>?_)
      ·refine al (aa (av (aa (aa ?_))));refine cA (tag:=0) Z (fun ho0=>?_);refine aX tk mok ⟨false,true,[]⟩ [0,1,2,3,4,5,6,7,8,9,10] Z (by decide+kernel) Z (az 2 Z ?_)
       obtain⟨x70,k70,H⟩:=aV H
       refine aT tk ⟨k70.1,(bh k70.2)⟩ (bf ho0 k70.2) ?_;refine bo tk Z Z Z Z Z Z Z Z Z (aC (fun _=>Z) k70.2) Z Z ?_;refine az 3 Z ?_
       obtain⟨x75,k75,H⟩:=aV H
       refine aT tk ⟨k75.1,(bh k75.2)⟩ (bf ho0 k75.2) ?_;refine bo tk Z Z Z Z Z Z Z Z Z (aC (fun _=>Z) k75.2) Z Z ?_
       obtain⟨x77,h77,H⟩:=bF H
       have s77:=dy x70 x75;rw[h77]at s77;refine aS call84 (jt.r) s77 ?_;refine bw Z (aQ ?_);refine aF Z H (fun H=>?_) (fun H=>?_)
       ·refine bj Z ?_;obtain rfl:=aq H;refine aP (s63.1,s63.2) () hg63 Gh.d
       refine al ?_;refine cA (tag:=0) Z (fun ho0=>?_);refine aX tk mok ⟨false,true,[]⟩ [0,1,2,3,4,5,6,7,8,9,10,11,12,13,14,15,16,17] Z (by decide+kernel) Z (az 8 Z ?_)
       obtain⟨x87,k87,H⟩:=aV H
       refine aT tk ⟨k87.1,(bh k87.2)⟩ (bf ho0 k87.2) ?_;refine bo tk Z Z Z Z Z Z Z Z Z (aC (fun _=>Z) k87.2) Z Z ?_;refine az 2 Z ?_
       obtain⟨x91,k91,H⟩:=aV H
       refine aT tk ⟨k91.1,(bh k91.2)⟩ (bf ho0 k91.2) ?_;refine bo tk Z Z Z Z Z Z Z Z Z (aC (fun _=>Z) k91.2) Z Z ?_
       obtain⟨x93,k93,H⟩:=aV H
       refine aT tk ⟨k93.1,(bh k93.2)⟩ (bf ho0 k93.2) ?_
       obtain⟨y68,hy68,H⟩:=bF H
       refine cg tk Z Z Z Z Z Z Z Z Z (by rw[zl];exact(zg.1 k93.2).1) (PLe.refl _ _) Z Z Z Z (by decide) (bD (fun _=>Z) k93.2 Z hy68) ?_
       obtain⟨x94,k94,H⟩:=aV H
       refine aT tk ⟨k94.1,(gJ (bt (f:=aA) hy68) k94.2)⟩ (gX ho0 (bt (f:=aA) hy68) k94.2) ?_
       obtain⟨y69,hy69,H⟩:=bF H
       refine cg tk Z Z Z Z Z Z Z Z Z (by rw[zl];exact(zg.1 k94.2).1) (PLe.refl _ _) Z Z Z Z (by decide) (bD (fun _=>Z) k94.2 Z hy69) ?_;refine aQ (aM (bc 3 tk Z ?_));obtain rfl:=aq H;refine ce (y69,(iw (s63.2-(1:Int)))) () hg63 (Gh.le (bp (PLe.of2 (pD.of_eq (congrArg (PV.own 0 g_data) ((bt (f:=aA) hy68).trans (bt (f:=aA) hy69))))) (ao (ao (ao (ao (ao aL)))))) aw (aD ax))
      refine bj Z ?_;obtain rfl:=aq H;refine aP (s63.1,s63.2) () hg63 Gh.d
     have H:=ci hn63 Hp63;refine aP _ () (aq H) Gh.d
    refine al ?_;refine aP _ () (aq H) (Gh.le (bp (PLe.of2 (pD.of_eq (congrArg (PV.own 0 g_data) ((bt (f:=aA) hy53).trans (bt (f:=aA) hy54))))) (ao (ao (ao (ao aL))))) aw (aD ax))
   refine ak 4 tk Z ?_;refine aF Z H (fun H=>?_) (fun H=>?_)
   ·refine ak 3 tk Z ?_
    obtain⟨fl70,H70,Hp70⟩:=am H
    refine dj (τ:=Rs×Int) (γ:=Unit) (fun s70 g70=>⟨133,upd (upd (upd (upd (upd (fun _=>.any) 8 (ah s1.2.2)) 7 (ah s52.2)) 2 (ah b)) 1 (ah a)) 0 (.own 0 g_data (s70.1.map aA).length),fun _=>none,upd (fun _=>none) 0 (some ⟨g_data,9,(s70.1.map aA),true⟩)⟩) (fun t=>fl70= .next t) ?_ (fun s70 g70 hn70=>?_)
    ·refine av ?_;refine cO (fun s70 g70=>⟨133,upd (upd (upd (upd (upd (upd (fun _=>.any) 10 (ah s70.2)) 8 (ah s1.2.2)) 7 (ah s52.2)) 2 (ah b)) 1 (ah a)) 0 (.own 0 g_data (s70.1.map aA).length),fun _=>none,upd (fun _=>none) 0 (some ⟨g_data,9,(s70.1.map aA),true⟩)⟩) () H70 Gh.d (fun m70 s70 g70 hr70=>?_)
     obtain⟨fb70,H,hg70⟩:=cp hr70
     refine aa (ak 3 tk Z ?_);refine aF Z H (fun H=>?_) (fun H=>?_)
     ·refine al (aa (av (aa (aa ?_))));refine cA (tag:=0) Z (fun ho0=>?_);refine aX tk mok ⟨false,true,[]⟩ [0,1,2,3,4,5,6,7,8,9,10] Z (by decide+kernel) Z (az 2 Z ?_)
      obtain⟨x108,k108,H⟩:=aV H
      refine aT tk ⟨k108.1,(bh k108.2)⟩ (bf ho0 k108.2) ?_;refine bo tk Z Z Z Z Z Z Z Z Z (aC (fun _=>Z) k108.2) Z Z ?_;refine az 3 Z ?_
      obtain⟨x113,k113,H⟩:=aV H
      refine aT tk ⟨k113.1,(bh k113.2)⟩ (bf ho0 k113.2) ?_;refine bo tk Z Z Z Z Z Z Z Z Z (aC (fun _=>Z) k113.2) Z Z ?_
      obtain⟨x115,h115,H⟩:=bF H
      have s115:=dy x108 x113;rw[h115]at s115;refine aS call84 (jt.r) s115 ?_;refine bw Z (aQ ?_);refine aF Z H (fun H=>?_) (fun H=>?_)
      ·refine bj Z ?_;obtain rfl:=aq H;refine aP (s70.1,s70.2) () hg70 Gh.d
      refine al ?_;refine cA (tag:=0) Z (fun ho0=>?_);refine aX tk mok ⟨false,true,[]⟩ [0,1,2,3,4,5,6,7,8,9,10,11,12,13,14,15,16,17] Z (by decide+kernel) Z (az 8 Z ?_)
      obtain⟨x125,k125,H⟩:=aV H
      refine aT tk ⟨k125.1,(bh k125.2)⟩ (bf ho0 k125.2) ?_;refine bo tk Z Z Z Z Z Z Z Z Z (aC (fun _=>Z) k125.2) Z Z ?_;refine az 2 Z ?_
      obtain⟨x129,k129,H⟩:=aV H
      refine aT tk ⟨k129.1,(bh k129.2)⟩ (bf ho0 k129.2) ?_;refine bo tk Z Z Z Z Z Z Z Z Z (aC (fun _=>Z) k129.2) Z Z ?_
      obtain⟨x131,k131,H⟩:=aV H
      refine aT tk ⟨k131.1,(bh k131.2)⟩ (bf ho0 k131.2) ?_
      obtain⟨y75,hy75,H⟩:=bF H
      refine cg tk Z Z Z Z Z Z Z Z Z (by rw[zl];exact(zg.1 k131.2).1) (PLe.refl _ _) Z Z Z Z (by decide) (bD (fun _=>Z) k131.2 Z hy75) ?_
      obtain⟨x132,k132,H⟩:=aV H
      refine aT tk ⟨k132.1,(gJ (bt (f:=aA) hy75) k132.2)⟩ (gX ho0 (bt (f:=aA) hy75) k132.2) ?_
      obtain⟨y76,hy76,H⟩:=bF H
      refine cg tk Z Z Z Z Z Z Z Z Z (by rw[zl];exact(zg.1 k132.2).1) (PLe.refl _ _) Z Z Z Z (by decide) (bD (fun _=>Z) k132.2 Z hy76) ?_;refine aQ (aM (bc 3 tk Z ?_));obtain rfl:=aq H;refine ce (y76,(iw (s70.2+(1:Int)))) () hg70 (Gh.le (bp (PLe.of2 (pD.of_eq (congrArg (PV.own 0 g_data) ((bt (f:=aA) hy75).trans (bt (f:=aA) hy76))))) (ao (ao (ao (ao (ao aL)))))) aw (aD ax))
     refine bj Z ?_;obtain rfl:=aq H;refine aP (s70.1,s70.2) () hg70 Gh.d
    have H:=ci hn70 Hp70;refine aM (bc 3 tk Z ?_);obtain rfl:=aq H;refine ce (s70.1,s52.2,(iw (s1.2.2+(1:Int)))) () hg1 Gh.d
   refine al (aM (bc 3 tk Z ?_));obtain rfl:=aq H;refine ce (t62,s52.2,(iw (s1.2.2+(1:Int)))) () hg1 Gh.d
  refine bj Z ?_;obtain rfl:=aq H;refine aP (s1.1,s1.2.1,s1.2.2) () hg1 Gh.d
 have H:=iW hn1 Hp1;refine ak 1 tk Z ?_;obtain rfl:=aq H;refine bZ (st':=⟨133,upd (fun _=>.any) 6 (aK false),fun _=>none,upd (fun _=>none) 0 (some ⟨g_data,9,(s1.1.map aA),true⟩)⟩) (Gh.le (ao aL) aw (aD ax)) ?_;refine cl tk Z (ps:=[(aK false)]) ⟨_,_,rfl,rfl,rfl⟩ (PLe.q Z) ⟨rfl,rfl⟩
end
end Go.Proofs.YtafdcemcgfbhcaaGreat
