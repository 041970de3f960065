/- procedureReturnEndsUpto_holds, part 5: the layer, the plain functions and what they compute; conditions as in the statement. -/
import Derived.Test.YtafdcemcgfbhcaaGreatDoorRed
set_option maxHeartbeats 4000000
namespace Go.Proofs.YtafdcemcgfbhcaaGreatDoor
noncomputable section
open Go Go.Ab Go.Proofs.Tryz
attribute [local irreducible] V Ao Do Gh Eff PH IntKind.wrap
set_option maxRecDepth 4000
def iU(sA:Rq)(f:LVal->Option (Bool)):Option (Int):=
 af (aN (σ:=Unit) (ρ:=(Int)) (fun(j1:Nat) (x1:LVal) (_:Unit)=>
  af (f x1) fun x16=>
  cond x16
   (some (.ret (j1:Int)))
   (some (.next ()))) 0 sA ()) fun fl1=>fl1.thenR fun(_:Unit)=>
 some (-1)
theorem ta{g_f:FuncId}{caps_f:List PV}(sA:Rq)(f:LVal->Option (Bool))(hg_f:∀(vs:Array Value) (w:World),(callFunc g_f vs).run prog w= .ok (.enter g_f vs) w)(hp_f:∀a0 r,f a0=some r->aQ prog g_f ((.agg (ae a0))::caps_f) (aK r))(r:Int)(H:iU sA f=some r):
  aQ prog 263 [(.list 69 (sA.map ae)),(.fn g_f caps_f)] (al r):=by
 unfold iU at H;refine PH.av func263 ntmps263 ?_;refine am 1 U Z (ab (ab (aa (ah U Z (aB U (zl _) ?_)))));refine ah U Z (ac ?_);refine eG U 8 7 0 (fun s1 g1=>upd (fun _=>.any) 1 (.fn g_f caps_f)) nB nO () H (fun fl1 Hp1 j1 s1 g1 hz1 hl1 x1 fb1 hx1 H hg1=>?_) (fun s1 g1 H=>?_)
 ·refine ab (aA (am 2 U Z (ab (aa (ag 3 U Z ?_)))));refine aU U (zn j1) (bn (fun _=>Z) hx1) ?_;refine ah U Z ?_
  obtain⟨x16,h16,H⟩:=aq H
  refine ak hg_f (jb.r) (hp_f _ _ h16) ?_;refine ac ?_;refine aH Z H (fun H=>?_) (fun H=>?_)
  ·refine am 2 U Z ?_;obtain rfl:=az H;have e1:fl1= .ret _:=hg1;subst e1;obtain rfl:=aT Hp1;refine ba U Z (ps:=[(al (j1:Int))]) ⟨_,_,rfl,rfl,rfl⟩ (PLe.q Z)
  refine ap (aM (bh 2 U Z ?_));exact bm () H hl1 hg1
 refine am 1 U Z ?_;exact bc U H Z
def jL(n:Int):LVal:=
 cond (decide (n<(-1000000000000)))
  ((LVal.mk 0 0 []))
  (cond (decide (n>(1000000000000:Int)))
   ((LVal.mk 0 0 []))
   ((LVal.mk 1 n [])))
theorem sM(n:Int):
  aQ prog 232 [(al n)] (.agg (ae (jL n))):=by
 obtain⟨r,H⟩:∃r,jL n=r:=⟨_,rfl⟩
 rw[H];unfold jL at H;refine PH.av func232 ntmps232 ?_;refine ab (aa ?_);refine bf U fun b2=>?_
 refine ac (ab (ab (aa (ag 3 U Z ?_))));refine bj Z Z Z H (fun H=>?_) (fun H=>?_)
 ·refine ag 3 U Z (ac (bW Z (ab (aa (ah U Z (au U ?_))))));refine ac ?_;exact vv U H Z Z Z Z Z
 refine ag 3 U Z (ac ?_);refine aH Z H (fun H=>?_) (fun H=>?_)
 ·refine ab (aa (ah U Z (au U ?_)));refine ac ?_;exact vv U H Z Z Z Z Z
 refine ap (ab (aa (ag 2 U Z (au U ?_))));refine ac ?_;exact vv U H Z Z Z Z Z
def fD(x:LCol)(c0:LCol):Bool:=
 (x.name==c0.name)
theorem rT(x:LCol)(c0:LCol):
  aQ prog 182 [(.agg (ay x)),(.ptr (ay c0))] (aK (fD x c0)):=by
 obtain⟨r,H⟩:∃r,fD x c0=r:=⟨_,rfl⟩
 rw[H];unfold fD at H;refine PH.av func182 ntmps182 ?_;refine ab (aa (aJ ?_));refine ah U Z (ac (am 6 U Z ?_));exact ez U H Z
theorem W_delete_183(g_s:OwnRef)(xs:List LCol)(i j:Int)(r:List LCol)(h:nL xs i j=some r):PH prog 183 [(.own 0 g_s (xs.map ay).length),(al i),(al j)] ⟨fun _=>none,upd (fun _=>none) 0 (some ⟨g_s,93,(xs.map ay),true⟩)⟩ (fun u H=>u= .own 0 g_s (r.map ay).length/\H=⟨fun _=>none,upd (fun _=>none) 0 (some ⟨g_s,93,(r.map ay),true⟩)⟩):=by
 obtain⟨hi,hij,hj,hr⟩:=tJ h
 have hjl:j.toNat<=(xs.map ay).length:=by rw[zl];exact hj
 have hij':i.toNat<=j.toNat:=by omega
 have ei:i=(i.toNat:Int):=by omega
 have ej:j=(j.toNat:Int):=by omega
 refine PH.av func183 ntmps183 ?_;refine qg (tag:=0) Z (fun hc=>?_);refine am 1 U Z (ab (aa (ag 4 U Z (eD U (m:=(xs.map ay).length) Z ?_))));refine jl (l:=i.toNat) (h:=j.toNat) (m:=(xs.map ay).length) U Z Z Z Z Z Z ⟨_,_,rfl,ei⟩ ⟨_,_,rfl,ej⟩ ⟨_,_,rfl,rfl⟩ (by decide) hij' hjl hc Z (ac (ab (am 3 U Z ?_)));refine bp Z (fun h=>?_) (fun h=>?_)
 ·have he:i=j:=by simpa using h
  have hx:r=xs:=by rw[hr,he,List.take_append_drop]
  subst hx;refine am 2 U Z ?_;refine cx (st':=⟨33,upd (fun _=>.any) 6 (.own 0 g_s (r.map ay).length),fun _=>none,upd (fun _=>none) 0 (some ⟨g_s,93,r.map ay,true⟩)⟩) (Gh.le (aw aS) aE (aL aF)) ?_;refine cT U Z (ps:=[.own 0 g_s (r.map ay).length]) ⟨_,_,rfl,rfl,rfl⟩ (PLe.q Z) ⟨rfl,rfl⟩
 ·refine ap (ab (aa (ah U Z (eD U (m:=(xs.map ay).length) Z ?_))));refine ah U Z (ac (ab (bd U mok ⟨false,false,[]⟩ [0,1,2,3,4,5,6,7] Z (by decide+kernel) Z (aG 2 Z (lb (l:=0) (h:=i.toNat) (m:=g_s.cap) U Z Z Z Z Z Z Z Z ⟨_,_,rfl,ei⟩ Z (by decide) (Nat.zero_le _) (by omega) (Nat.le_refl _) Z (aG 2 Z (lb (l:=j.toNat) (h:=(xs.map ay).length) (m:=g_s.cap) U Z Z Z Z Z Z Z ⟨_,_,rfl,ej⟩ Z Z (by decide) hjl hc (Nat.le_refl _) Z (rk (rows':=r.map ay) (tag:=0) (p:=i.toNat) (q:=j.toNat) U Z Z Z Z Z Z Z hij' hjl Z Z (by rw[hr,List.map_append,List.map_take,List.map_drop]) Z (bA Z (aZ ?_))))))))));have hrl:(r.map ay).length<=(xs.map ay).length:=by rw[hr];simp;omega
  refine ab (aa (ag 2 U Z (eD U (m:=(r.map ay).length) Z ?_)));refine ah U Z (jl (l:=(r.map ay).length) (h:=(xs.map ay).length) (m:=g_s.cap) U Z Z Z Z Z Z ⟨_,_,rfl,rfl⟩ ⟨_,_,rfl,rfl⟩ Z (by decide) hrl hc (Nat.le_refl _) Z (pn (tag:=0) (rows:=List.map ay r) U Z Z Z Z Z Z Z Z Z (p:=(r.map ay).length) (q:=(xs.map ay).length) (m:=g_s.cap) (Nat.le_refl _) hrl hc (Nat.le_refl _) Z (ac (am 2 U Z ?_))));refine cx (st':=⟨33,upd (fun _=>.any) 6 (.own 0 g_s (r.map ay).length),fun _=>none,upd (fun _=>none) 0 (some ⟨g_s,93,r.map ay,true⟩)⟩) (Gh.le (aw aS) aE (aL aF)) ?_;refine cT U Z (ps:=[.own 0 g_s (r.map ay).length]) ⟨_,_,rfl,rfl,rfl⟩ (PLe.q Z) ⟨rfl,rfl⟩
theorem W_delete_184(g_s:OwnRef)(xs:Rq)(i j:Int)(r:Rq)(h:nL xs i j=some r):PH prog 184 [(.own 0 g_s (xs.map ae).length),(al i),(al j)] ⟨fun _=>none,upd (fun _=>none) 0 (some ⟨g_s,69,(xs.map ae),true⟩)⟩ (fun u H=>u= .own 0 g_s (r.map ae).length/\H=⟨fun _=>none,upd (fun _=>none) 0 (some ⟨g_s,69,(r.map ae),true⟩)⟩):=by
 obtain⟨hi,hij,hj,hr⟩:=tJ h
 have hjl:j.toNat<=(xs.map ae).length:=by rw[zl];exact hj
 have hij':i.toNat<=j.toNat:=by omega
 have ei:i=(i.toNat:Int):=by omega
 have ej:j=(j.toNat:Int):=by omega
 refine PH.av func184 ntmps184 ?_;refine qg (tag:=0) Z (fun hc=>?_);refine am 1 U Z (ab (aa (ag 4 U Z (eD U (m:=(xs.map ae).length) Z ?_))));refine jl (l:=i.toNat) (h:=j.toNat) (m:=(xs.map ae).length) U Z Z Z Z Z Z ⟨_,_,rfl,ei⟩ ⟨_,_,rfl,ej⟩ ⟨_,_,rfl,rfl⟩ (by decide) hij' hjl hc Z (ac (ab (am 3 U Z ?_)));refine bp Z (fun h=>?_) (fun h=>?_)
 ·have he:i=j:=by simpa using h
  have hx:r=xs:=by rw[hr,he,List.take_append_drop]
  subst hx;refine am 2 U Z ?_;refine cx (st':=⟨33,upd (fun _=>.any) 6 (.own 0 g_s (r.map ae).length),fun _=>none,upd (fun _=>none) 0 (some ⟨g_s,69,r.map ae,true⟩)⟩) (Gh.le (aw aS) aE (aL aF)) ?_;refine cT U Z (ps:=[.own 0 g_s (r.map ae).length]) ⟨_,_,rfl,rfl,rfl⟩ (PLe.q Z) ⟨rfl,rfl⟩
 ·refine ap (ab (aa (ah U Z (eD U (m:=(xs.map ae).length) Z ?_))));refine ah U Z (ac (ab (bd U mok ⟨false,false,[]⟩ [0,1,2,3,4,5,6,7] Z (by decide+kernel) Z (aG 2 Z (lb (l:=0) (h:=i.toNat) (m:=g_s.cap) U Z Z Z Z Z Z Z Z ⟨_,_,rfl,ei⟩ Z (by decide) (Nat.zero_le _) (by omega) (Nat.le_refl _) Z (aG 2 Z (lb (l:=j.toNat) (h:=(xs.map ae).length) (m:=g_s.cap) U Z Z Z Z Z Z Z ⟨_,_,rfl,ej⟩ Z Z (by decide) hjl hc (Nat.le_refl _) Z (rk (rows':=r.map ae) (tag:=0) (p:=i.toNat) (q:=j.toNat) U Z Z Z Z Z Z Z hij' hjl Z Z (by rw[hr,List.map_append,List.map_take,List.map_drop]) Z (bA Z (aZ ?_))))))))));have hrl:(r.map ae).length<=(xs.map ae).length:=by rw[hr];simp;omega
  refine ab (aa (ag 2 U Z (eD U (m:=(r.map ae).length) Z ?_)));refine ah U Z (jl (l:=(r.map ae).length) (h:=(xs.map ae).length) (m:=g_s.cap) U Z Z Z Z Z Z ⟨_,_,rfl,rfl⟩ ⟨_,_,rfl,rfl⟩ Z (by decide) hrl hc (Nat.le_refl _) Z (pn (tag:=0) (rows:=List.map ae r) U Z Z Z Z Z Z Z Z Z (p:=(r.map ae).length) (q:=(xs.map ae).length) (m:=g_s.cap) (Nat.le_refl _) hrl hc (Nat.le_refl _) Z (ac (am 2 U Z ?_))));refine cx (st':=⟨33,upd (fun _=>.any) 6 (.own 0 g_s (r.map ae).length),fun _=>none,upd (fun _=>none) 0 (some ⟨g_s,69,r.map ae,true⟩)⟩) (Gh.le (aw aS) aE (aL aF)) ?_;refine cT U Z (ps:=[.own 0 g_s (r.map ae).length]) ⟨_,_,rfl,rfl,rfl⟩ (PLe.q Z) ⟨rfl,rfl⟩
theorem grow_238{m:Nat}{u:Unit}(n:Int)(h:oO 32 n=some u):ie prog 238 [.val (.slice none 0 0),al n] (ku m 69 []):=by
 have hn:=sv h
 have hw:Iw (n-Iw ((0:Int)-0))=n:=by
  have e0:Iw ((0:Int)-0)=0:=wW (by omega) (by omega);rw[e0,Int.sub_zero,wW (by omega) (by unfold maxLen at hn;omega)]
 refine PH.av func238 ntmps238 ?_;refine am 1 U Z (ab (am 2 U Z ?_));refine bp Z (fun h=>?_) (fun h=>?_)
 ·exfalso;have:=of_decide_eq_true h;omega
 refine ap (ab (ab (aa (ag 2 U Z (uB U Z Z Z Z Z Z (ag 4 U Z (jg 14 (q:=al n) Z (PLe.q (congrArg al hw)) (ah U Z (ac (am 2 U Z ?_))))))))));refine bp Z (fun h=>?_) (fun h=>?_)
 ·refine aa (ag 2 U Z (uB U Z Z Z Z Z Z (vS U Z Z Z Z Z Z Z Z (ah U Z ?_))));refine rL U Z Z Z Z Z Z Z Z Z Z Z Z Z Z Z (of_decide_eq_true h) hn.2.1 hn.2.2 fun g=>?_
  refine ag 2 U Z (vU U Z Z Z Z Z Z Z Z Z ⟨Int.le_refl 0,Nat.zero_le _⟩ Z Z Z (ah U Z (ac (am 2 U Z ?_))));refine gL U Z
 ·refine ap (am 2 U Z (gQ U 4 904 (e:=69) Z Z ?_));refine gL U Z
def bK(rA:LRun)(cols:List LCol)(row:Rq):LEnv:=
 (LEnv.mk cols row rA.args rA.names rA.vals)
theorem lU(rA:LRun)(cols:List LCol)(row:Rq):
  aQ prog 166 [(.agg (eA rA)),(.list 93 (cols.map ay)),(.list 69 (row.map ae))] (.agg (encEnv (bK rA cols row))):=by
 obtain⟨r,H⟩:∃r,bK rA cols row=r:=⟨_,rfl⟩
 rw[H];unfold bK at H;refine PH.av func166 ntmps166 ?_;refine ab (aa (aJ ?_));refine bf U fun b6=>?_
 refine ac (ab (aa (ag 9 U Z (au U ?_))));refine ac ?_;exact vv U H Z Z Z Z Z
theorem qK{m:Nat}(xs:Rz):ie prog 160 [.list 54 (xs.map rRr)] (ku m 54 (xs.map rRr)):=by
 refine PH.av func160 ntmps160 ?_;refine ib U 0 Z Z (fun hz hb=>?_);refine am 1 U Z (ab (ab (aa (ah U Z ?_))));refine ql U Z Z Z Z Z Z Z (fun b hn=>?_);refine ac ?_;refine bp Z (fun h=>?_) (fun h=>?_)
 ·refine am 1 U Z (gQ U 2 902 (e:=54) Z Z ?_);refine gL U (hn h).symm
 ·refine ap (ab (aa ?_));refine oj (rows':=[]) U (jk.refl _) fun g=>?_
  refine ah U Z ?_;refine bX (rows2':=xs.map rRr) (rows':=xs.map rRr) U Z Z Z Z Z Z Z Z Z Z Z Z Z (gH.refl _) (by simpa using hb) (by simpa using hz) Z fun g'=>?_
  refine ah U Z (ac ?_);refine gL U Z
def cf(s1A:Rq)(s2A:Rq):Option (Bool):=
 cond ((s1A.length:Int) !=(s2A.length:Int))
  (some false)
  (af (aN (σ:=Unit) (ρ:=(Bool)) (fun(j1:Nat) (x1:LVal) (_:Unit)=>
   af (aP s2A (j1:Int)) fun(x22:LVal)=>
   cond (!(x1.kind==x22.kind&&(x1.int==x22.int&&(x1.text==x22.text&&true))))
    (some (.ret false))
    (some (.next ()))) 0 s1A ()) fun fl1=>fl1.thenR fun(_:Unit)=>
  some true)
theorem eC(s1A:Rq)(s2A:Rq)(r:Bool)(H:cf s1A s2A=some r):
  aQ prog 50 [(.list 69 (s1A.map ae)),(.list 69 (s2A.map ae))] (aK r):=by
 unfold cf at H;refine PH.av func50 ntmps50 ?_;refine am 1 U Z (ab (ab (aa (ah U Z (aB U (zl _) ?_)))));refine ah U Z (aB U (zl _) ?_);refine ah U Z (ac ?_);refine aH Z H (fun H=>?_) (fun H=>?_)
 ·refine am 1 U Z ?_;exact bc U H Z
 refine ap (ab (ab (aa (ah U Z (aB U (zl _) ?_)))));refine ah U Z (ac ?_);refine eG U 13 12 0 (fun s1 g1=>upd (fun _=>.any) 1 (.list 69 (s2A.map ae))) nB nO () H (fun fl1 Hp1 j1 s1 g1 hz1 hl1 x1 fb1 hx1 H hg1=>?_) (fun s1 g1 H=>?_)
 ·refine ab (aA (am 2 U Z (ab (bd U mok ⟨false,false,[]⟩ [0,1,2,3,4,5,6,7,8] Z (by decide+kernel) Z (aG 2 Z ?_)))));refine bs (zn j1) (bn (fun _=>Z) hx1) ?_;refine aG 3 Z ?_
  obtain⟨x22,k22,H⟩:=bl H
  refine bs k22.1 (aO (fun _=>Z) k22.2) ?_;refine aG 2 Z (aZ ?_);refine aH Z H (fun H=>?_) (fun H=>?_)
  ·refine am 1 U Z ?_;obtain rfl:=az H;have e1:fl1= .ret _:=hg1;subst e1;obtain rfl:=aT Hp1;refine ba U Z (ps:=[(aK false)]) ⟨_,_,rfl,rfl,rfl⟩ (PLe.q Z)
  refine ap (aM (bh 2 U Z ?_));exact bm () H hl1 hg1
 refine am 1 U Z ?_;exact bc U H Z
def bT(sA:Rz)(f:Rq->Option (Bool)):Option (Int×Rz):=
 af (ny (sA.length:Int)) fun(n1:Nat)=>
 af (aN (σ:=Rz) (ρ:=(Int×Rz)) (fun(j1:Nat) (_:Nat) (s1:Rz)=>
  af (aP s1 (j1:Int)) fun(x14:Rq)=>
  af (f x14) fun x16=>
  cond x16
   (some (.ret ((j1:Int),s1)))
   (some (.next s1))) 0 (List.range n1) sA) fun fl1=>fl1.thenR fun(s1:Rz)=>
 some ((-1),s1)
theorem gr(g_sA:OwnRef){g_f:FuncId}{caps_f:List PV}(sA:Rz)(f:Rq->Option (Bool))(hg_f:∀(vs:Array Value) (w:World),(callFunc g_f vs).run prog w= .ok (.enter g_f vs) w)(hp_f:∀a0 r,f a0=some r->aQ prog g_f ((.list 69 (a0.map ae))::caps_f) (aK r))(r:Int×Rz)(H:bT sA f=some r):
  PH prog 211 [(.own 0 g_sA (sA.map rRr).length),(.fn g_f caps_f)] ⟨fun _=>none,upd (fun _=>none) 0 (some ⟨g_sA,54,(sA.map rRr),true⟩)⟩ (fun u H=>u=(al r.1)/\H=⟨fun _=>none,upd (fun _=>none) 0 (some ⟨g_sA,54,(r.2.map rRr),true⟩)⟩):=by
 unfold bT at H;refine PH.av func211 ntmps211 ?_;refine am 1 U Z (ab (ab (aa (ah U Z (eD U (zl _) ?_)))));refine ah U Z (ac ?_)
 obtain⟨n1,hs1,H⟩:=aq H
 have hz1:=mM hs1
 obtain⟨fl1,H1,Hp1⟩:=aq H
 refine fm (τ:=Rz) (γ:=Unit) (fun s1 g1=>⟨19,upd (fun _=>.any) 0 (.own 0 g_sA (s1.map rRr).length),fun _=>none,upd (fun _=>none) 0 (some ⟨g_sA,54,(s1.map rRr),true⟩)⟩) (fun t=>fl1= .next t) ?_ (fun s1 g1 hn1=>?_)
 ·refine aA ?_;refine iH (fun j1 s1 g1=>⟨19,upd (upd (upd (upd (fun _=>.any) 8 (al (j1:Int))) 7 (al (sA.length:Int))) 1 (.fn g_f caps_f)) 0 (.own 0 g_sA (s1.map rRr).length),fun _=>none,upd (fun _=>none) 0 (some ⟨g_sA,54,(s1.map rRr),true⟩)⟩) () H1 Gh.d (fun j1 s1 g1 hj1 hr1=>?_);refine am 1 U Z (ab ?_);refine bp Z (fun h=>?_) (fun h=>?_)
  ·have hl1:=natLt hz1 h
   obtain⟨x1,fb1,hx1,H,hg1⟩:=rMc hl1 hr1
   obtain rfl:=natX hx1;refine ap (ab (aA (am 2 U Z (ab (aa (ag 3 U Z ?_))))))
   obtain⟨x14,k14,H⟩:=bl H
   refine ky (tag:=0) Z (fun ho0=>?_);refine jh U ⟨k14.1,(dp k14.2)⟩ (dl ho0 k14.2) ?_;refine mV U Z Z Z Z Z Z Z (aO (fun _=>Z) k14.2) Z Z ?_
   obtain⟨x16,h16,H⟩:=aq H
   refine ak hg_f (jb.r) (hp_f _ _ h16) ?_;refine ac ?_;refine aH Z H (fun H=>?_) (fun H=>?_)
   ·refine am 2 U Z ?_;obtain rfl:=az H;have e1:fl1= .ret _:=hg1;subst e1;obtain rfl:=aT Hp1;refine cx (st':=⟨19,upd (fun _=>.any) 4 (al (j1:Int)),fun _=>none,upd (fun _=>none) 0 (some ⟨g_sA,54,(s1.map rRr),true⟩)⟩) (Gh.le (aw aS) aE (aL aF)) ?_;refine cT U Z (ps:=[(al (j1:Int))]) ⟨_,_,rfl,rfl,rfl⟩ (PLe.q Z) ⟨rfl,rfl⟩
   refine ap (aM (bh 2 U Z ?_));exact bm () H hl1 hg1 (Gh.le (aw (aw (aw (bD (PLe.q (nz hz1 hl1)) aS)))) aE (aL aF))
  have hn1:=rMd (natGe hz1 h) hr1;refine bq Z ?_;refine aV s1 g1 hn1 Gh.d
 have H:=lA hn1 Hp1;refine am 1 U Z ?_;obtain rfl:=az H;refine cx (st':=⟨19,upd (fun _=>.any) 4 (al (-1)),fun _=>none,upd (fun _=>none) 0 (some ⟨g_sA,54,(s1.map rRr),true⟩)⟩) (Gh.le (aw aS) aE (aL aF)) ?_;refine cT U Z (ps:=[(al (-1))]) ⟨_,_,rfl,rfl,rfl⟩ (PLe.q Z) ⟨rfl,rfl⟩
theorem uX(g_s:OwnRef)(xs:Rz)(i j:Int)(r:Rz)(h:nL xs i j=some r):PH prog 88 [(.own 0 g_s (xs.map rRr).length),(al i),(al j)] ⟨fun _=>none,upd (fun _=>none) 0 (some ⟨g_s,54,(xs.map rRr),true⟩)⟩ (fun u H=>u= .own 0 g_s (r.map rRr).length/\H=⟨fun _=>none,upd (fun _=>none) 0 (some ⟨g_s,54,(r.map rRr),true⟩)⟩):=by
 obtain⟨hi,hij,hj,hr⟩:=tJ h
 have hjl:j.toNat<=(xs.map rRr).length:=by rw[zl];exact hj
 have hij':i.toNat<=j.toNat:=by omega
 have ei:i=(i.toNat:Int):=by omega
 have ej:j=(j.toNat:Int):=by omega
 refine PH.av func88 ntmps88 ?_;refine qg (tag:=0) Z (fun hc=>?_);refine am 1 U Z (ab (aa (ag 4 U Z (eD U (m:=(xs.map rRr).length) Z ?_))));refine jl (l:=i.toNat) (h:=j.toNat) (m:=(xs.map rRr).length) U Z Z Z Z Z Z ⟨_,_,rfl,ei⟩ ⟨_,_,rfl,ej⟩ ⟨_,_,rfl,rfl⟩ (by decide) hij' hjl hc Z (ac (ab (am 3 U Z ?_)));refine bp Z (fun h=>?_) (fun h=>?_)
 ·have he:i=j:=by simpa using h
  have hx:r=xs:=by rw[hr,he,List.take_append_drop]
  subst hx;refine am 2 U Z ?_;refine cx (st':=⟨33,upd (fun _=>.any) 6 (.own 0 g_s (r.map rRr).length),fun _=>none,upd (fun _=>none) 0 (some ⟨g_s,54,r.map rRr,true⟩)⟩) (Gh.le (aw aS) aE (aL aF)) ?_;refine cT U Z (ps:=[.own 0 g_s (r.map rRr).length]) ⟨_,_,rfl,rfl,rfl⟩ (PLe.q Z) ⟨rfl,rfl⟩
 ·refine ap (ab (aa (ah U Z (eD U (m:=(xs.map rRr).length) Z ?_))));refine ah U Z (ac (ab (bd U mok ⟨false,false,[]⟩ [0,1,2,3,4,5,6,7] Z (by decide+kernel) Z (aG 2 Z (lb (l:=0) (h:=i.toNat) (m:=g_s.cap) U Z Z Z Z Z Z Z Z ⟨_,_,rfl,ei⟩ Z (by decide) (Nat.zero_le _) (by omega) (Nat.le_refl _) Z (aG 2 Z (lb (l:=j.toNat) (h:=(xs.map rRr).length) (m:=g_s.cap) U Z Z Z Z Z Z Z ⟨_,_,rfl,ej⟩ Z Z (by decide) hjl hc (Nat.le_refl _) Z (rk (rows':=r.map rRr) (tag:=0) (p:=i.toNat) (q:=j.toNat) U Z Z Z Z Z Z Z hij' hjl Z Z (by rw[hr,List.map_append,List.map_take,List.map_drop]) Z (bA Z (aZ ?_))))))))));have hrl:(r.map rRr).length<=(xs.map rRr).length:=by rw[hr];simp;omega
  refine ab (aa (ag 2 U Z (eD U (m:=(r.map rRr).length) Z ?_)));refine ah U Z (jl (l:=(r.map rRr).length) (h:=(xs.map rRr).length) (m:=g_s.cap) U Z Z Z Z Z Z ⟨_,_,rfl,rfl⟩ ⟨_,_,rfl,rfl⟩ Z (by decide) hrl hc (Nat.le_refl _) Z (pn (tag:=0) (rows:=List.map rRr r) U Z Z Z Z Z Z Z Z Z (p:=(r.map rRr).length) (q:=(xs.map rRr).length) (m:=g_s.cap) (Nat.le_refl _) hrl hc (Nat.le_refl _) Z (ac (am 2 U Z ?_))));refine cx (st':=⟨33,upd (fun _=>.any) 6 (.own 0 g_s (r.map rRr).length),fun _=>none,upd (fun _=>none) 0 (some ⟨g_s,54,r.map rRr,true⟩)⟩) (Gh.le (aw aS) aE (aL aF)) ?_;refine cT U Z (ps:=[.own 0 g_s (r.map rRr).length]) ⟨_,_,rfl,rfl,rfl⟩ (PLe.q Z) ⟨rfl,rfl⟩
theorem qz{m:Nat}(xs:Rq):ie prog 85 [.list 69 (xs.map ae)] (ku m 69 (xs.map ae)):=by
 refine PH.av func85 ntmps85 ?_;refine ib U 0 Z Z (fun hz hb=>?_);refine am 1 U Z (ab (ab (aa (ah U Z ?_))));refine ql U Z Z Z Z Z Z Z (fun b hn=>?_);refine ac ?_;refine bp Z (fun h=>?_) (fun h=>?_)
 ·refine am 1 U Z (gQ U 2 902 (e:=69) Z Z ?_);refine gL U (hn h).symm
 ·refine ap (ab (aa ?_));refine oj (rows':=[]) U (jk.refl _) fun g=>?_
  refine ah U Z ?_;refine bX (rows2':=xs.map ae) (rows':=xs.map ae) U Z Z Z Z Z Z Z Z Z Z Z Z Z (gH.refl _) (by simpa using hb) (by simpa using hz) Z fun g'=>?_
  refine ah U Z (ac ?_);refine gL U Z
def jd(a:Rq)(b:Rq)(downs:List Bool):Option (Int):=
 af (aN (σ:=Unit) (ρ:=(Int)) (fun(j1:Nat) (x1:LVal) (_:Unit)=>
  af (
   cond (decide ((j1:Int)>=(b.length:Int)))
    (some true)
    (af (aP b (j1:Int)) fun(x25:LVal)=>
    some (x1.kind==x25.kind&&(x1.int==x25.int&&(x1.text==x25.text&&true))))) fun(t3:Bool)=>
  cond t3
   (some (.next ()))
   (af (aP b (j1:Int)) fun(x35:LVal)=>
   letP (mQ x1 x35) fun x37=>
   cond (decide ((j1:Int)<(downs.length:Int)))
    (af (aP downs (j1:Int)) fun(x45:Bool)=>
    cond x45
     (cond (!x37)
      (some (.ret (-1)))
      (some (.ret 1)))
     (cond x37
      (some (.ret (-1)))
      (some (.ret 1))))
    (cond x37
     (some (.ret (-1)))
     (some (.ret 1))))) 0 a ()) fun fl1=>fl1.thenR fun(_:Unit)=>
 some 0
theorem tl(a:Rq)(b:Rq)(downs:List Bool)(r:Int)(H:jd a b downs=some r):
  aQ prog 219 [(.list 69 (a.map ae)),(.list 69 (b.map ae)),(.list 4 (downs.map rBool))] (al r):=by
 unfold jd at H;refine PH.av func219 ntmps219 ?_;refine am 1 U Z (ab (ab (aa (ah U Z (aB U (zl _) ?_)))));refine ah U Z (ac ?_);refine eG U 11 10 0 (fun s1 g1=>upd (upd (fun _=>.any) 2 (.list 4 (downs.map rBool))) 1 (.list 69 (b.map ae))) nB nO () H (fun fl1 Hp1 j1 s1 g1 hz1 hl1 x1 fb1 hx1 H hg1=>?_) (fun s1 g1 H=>?_)
 ·refine ab (aA (am 2 U Z (ab (ab ?_))));refine fu (γ:=Unit) (fun t3 g3=>⟨52,upd (upd (upd (upd (upd (upd (upd (fun _=>.any) 28 (aK t3)) 11 (al (j1:Int))) 10 (al (a.length:Int))) 7 (al (j1:Int))) 2 (.list 4 (downs.map rBool))) 1 (.list 69 (b.map ae))) 0 (.list 69 (a.map ae)),fun _=>none,fun _=>none⟩) H (fun _ H=>?_) (fun t3 g3 H=>?_)
  ·refine bd U mok ⟨false,false,[]⟩ [0,1,2,3,4,5,6,7,8,9,10,11,12,13,14] Z (by decide+kernel) Z (aG 2 Z (oG Z Z Z Z Z Z (zl _) Z (aG 2 Z ?_)));refine mj H (fun H=>?_) (fun H=>?_)
   ·refine aG 10 Z (aZ ?_);refine aV _ () (az H) Gh.d
   refine aG 2 Z ?_;refine bs (zn j1) (bn (fun _=>Z) hx1) ?_;refine aG 3 Z ?_
   obtain⟨x25,k25,H⟩:=bl H
   refine bs k25.1 (aO (fun _=>Z) k25.2) ?_;refine aG 3 Z (aZ ?_);refine aV _ () (az H) Gh.d
  refine aH Z H (fun H=>?_) (fun H=>?_)
  ·refine bq Z (bh 2 U Z ?_);exact bm () H hl1 hg1
  refine ap (ab (bd U mok ⟨false,false,[]⟩ [0,1,2,3,4,5,6,7,8,9] Z (by decide+kernel) Z (aG 2 Z ?_)));refine bs (zn j1) (bn (fun _=>Z) hx1) ?_;refine aG 3 Z ?_
  obtain⟨x35,k35,H⟩:=bl H
  refine bs k35.1 (aO (fun _=>Z) k35.2) ?_;refine bA Z ?_
  obtain⟨x37,h37,H⟩:=cK H
  have s37:=nu x1 x35;rw[h37]at s37;refine aW call246 (jb.r) s37 ?_;refine bA Z (aZ (ab (ab (aa (ag 2 U Z (aB U (zl _) ?_))))));refine ag 2 U Z ?_;refine bj Z Z Z H (fun H=>?_) (fun H=>?_)
  ·refine ag 2 U Z ?_
   obtain⟨x45,k45,H⟩:=bl H
   refine aU U k45.1 (aO (fun _=>Z) k45.2) ?_;refine ag 2 U Z (ac ?_);refine aH Z H (fun H=>?_) (fun H=>?_)
   ·refine bh 3 U Z (ab (am 1 U Z ?_));refine aH Z H (fun H=>?_) (fun H=>?_)
    ·refine am 1 U Z ?_;obtain rfl:=az H;have e1:fl1= .ret _:=hg1;subst e1;obtain rfl:=aT Hp1;refine ba U Z (ps:=[(al (-1))]) ⟨_,_,rfl,rfl,rfl⟩ (PLe.q Z)
    refine ap (am 1 U Z ?_);obtain rfl:=az H;have e1:fl1= .ret _:=hg1;subst e1;obtain rfl:=aT Hp1;refine ba U Z (ps:=[(al 1)]) ⟨_,_,rfl,rfl,rfl⟩ (PLe.q Z)
   refine ap (ab (am 1 U Z ?_));refine aH Z H (fun H=>?_) (fun H=>?_)
   ·refine am 1 U Z ?_;obtain rfl:=az H;have e1:fl1= .ret _:=hg1;subst e1;obtain rfl:=aT Hp1;refine ba U Z (ps:=[(al (-1))]) ⟨_,_,rfl,rfl,rfl⟩ (PLe.q Z)
   refine ap (am 1 U Z ?_);obtain rfl:=az H;have e1:fl1= .ret _:=hg1;subst e1;obtain rfl:=aT Hp1;refine ba U Z (ps:=[(al 1)]) ⟨_,_,rfl,rfl,rfl⟩ (PLe.q Z)
  refine ag 5 U Z (ac (bF Z (ap (ab (am 1 U Z ?_)))));refine aH Z H (fun H=>?_) (fun H=>?_)
  ·refine am 1 U Z ?_;obtain rfl:=az H;have e1:fl1= .ret _:=hg1;subst e1;obtain rfl:=aT Hp1;refine ba U Z (ps:=[(al (-1))]) ⟨_,_,rfl,rfl,rfl⟩ (PLe.q Z)
  refine ap (am 1 U Z ?_);obtain rfl:=az H;have e1:fl1= .ret _:=hg1;subst e1;obtain rfl:=aT Hp1;refine ba U Z (ps:=[(al 1)]) ⟨_,_,rfl,rfl,rfl⟩ (PLe.q Z)
 refine am 1 U Z ?_;exact bc U H Z
def cQ(data:Rz)(a:Int)(b:Int)(cmp:Rq->Rq->Option (Int)):Option (Rz):=
 af (gq (σ:=Rz×Int) (ρ:=Empty) (fun(s1:Rz×Int)=>
  cond (decide (s1.2<b))
   (af (gq (σ:=Rz×Int) (ρ:=Empty) (fun(s22:Rz×Int)=>
    af (
     cond (decide (s22.2>a))
      (af (aP s22.1 s22.2) fun(x25:Rq)=>
      af (aP s22.1 (Iw (s22.2-(1:Int)))) fun(x30:Rq)=>
      af (cmp x25 x30) fun x32=>
      some (s22.1,(decide (x32<(0:Int)))))
      (some (s22.1,false))) fun(t29:Rz×Bool)=>
    cond t29.2
     (af (aP t29.1 (Iw (s22.2-(1:Int)))) fun(x45:Rq)=>
     af (aP t29.1 s22.2) fun(x49:Rq)=>
     af (aP t29.1 s22.2) fun(_:Rq)=>
     letP (t29.1.set s22.2.toNat x45) fun(y30:Rz)=>
     af (aP y30 (Iw (s22.2-(1:Int)))) fun(_:Rq)=>
     letP (y30.set ((Iw (s22.2-(1:Int))).toNat) x49) fun(y31:Rz)=>
     some (.next (y31,(Iw (s22.2-(1:Int))))))
     (some (.brk (t29.1,s22.2)))) (s1.1,s1.2)) fun fl22=>fl22.thenP fun(s22:Rz×Int)=>
   some (.next (s22.1,(Iw (s1.2+(1:Int))))))
   (some (.brk (s1.1,s1.2)))) (data,(Iw (a+(1:Int))))) fun fl1=>fl1.thenP fun(s1:Rz×Int)=>
 some s1.1
theorem jp(g_data:OwnRef){g_cmp:FuncId}{caps_cmp:List PV}(data:Rz)(a:Int)(b:Int)(cmp:Rq->Rq->Option (Int))(hg_cmp:∀(vs:Array Value) (w:World),(callFunc g_cmp vs).run prog w= .ok (.enter g_cmp vs) w)(hp_cmp:∀a0 a1 r,cmp a0 a1=some r->aQ prog g_cmp ((.list 69 (a0.map ae))::(.list 69 (a1.map ae))::caps_cmp) (al r))(r:Rz)(H:cQ data a b cmp=some r):
  PH prog 267 [(.own 0 g_data (data.map rRr).length),(al a),(al b),(.fn g_cmp caps_cmp)] ⟨fun _=>none,upd (fun _=>none) 0 (some ⟨g_data,54,(data.map rRr),true⟩)⟩ (fun u H=>u=(.tup [])/\H=⟨fun _=>none,upd (fun _=>none) 0 (some ⟨g_data,54,(r.map rRr),true⟩)⟩):=by
 unfold cQ at H;refine PH.av func267 ntmps267 ?_;refine am 3 U Z ?_
 obtain⟨fl1,H1,Hp1⟩:=aq H
 refine fm (τ:=Rz×Int) (γ:=Unit) (fun s1 g1=>⟨53,upd (fun _=>.any) 0 (.own 0 g_data (s1.1.map rRr).length),fun _=>none,upd (fun _=>none) 0 (some ⟨g_data,54,(s1.1.map rRr),true⟩)⟩) (fun t=>fl1= .next t) ?_ (fun s1 g1 hn1=>?_)
 ·refine aA ?_;refine ir (fun s1 g1=>⟨53,upd (upd (upd (upd (upd (fun _=>.any) 8 (al s1.2)) 3 (.fn g_cmp caps_cmp)) 2 (al b)) 1 (al a)) 0 (.own 0 g_data (s1.1.map rRr).length),fun _=>none,upd (fun _=>none) 0 (some ⟨g_data,54,(s1.1.map rRr),true⟩)⟩) () H1 Gh.d (fun m1 s1 g1 hr1=>?_)
  obtain⟨fb1,H,hg1⟩:=fP hr1
  refine ab (am 3 U Z ?_);refine aH Z H (fun H=>?_) (fun H=>?_)
  ·refine ap (ab (aA (am 2 U Z ?_)))
   obtain⟨fl22,H22,Hp22⟩:=aq H
   refine fm (τ:=Rz×Int) (γ:=Unit) (fun s22 g22=>⟨53,upd (upd (upd (upd (upd (fun _=>.any) 8 (al s1.2)) 3 (.fn g_cmp caps_cmp)) 2 (al b)) 1 (al a)) 0 (.own 0 g_data (s22.1.map rRr).length),fun _=>none,upd (fun _=>none) 0 (some ⟨g_data,54,(s22.1.map rRr),true⟩)⟩) (fun t=>fl22= .next t) ?_ (fun s22 g22 hn22=>?_)
   ·refine aA ?_;refine ir (fun s22 g22=>⟨53,upd (upd (upd (upd (upd (upd (fun _=>.any) 9 (al s22.2)) 8 (al s1.2)) 3 (.fn g_cmp caps_cmp)) 2 (al b)) 1 (al a)) 0 (.own 0 g_data (s22.1.map rRr).length),fun _=>none,upd (fun _=>none) 0 (some ⟨g_data,54,(s22.1.map rRr),true⟩)⟩) () H22 Gh.d (fun m22 s22 g22 hr22=>?_)
    obtain⟨fb22,H,hg22⟩:=fP hr22
    refine ab (ab ?_);refine fu (γ:=Unit) (fun t29 g29=>⟨53,upd (upd (upd (upd (upd (upd (upd (fun _=>.any) 34 (aK t29.2)) 9 (al s22.2)) 8 (al s1.2)) 3 (.fn g_cmp caps_cmp)) 2 (al b)) 1 (al a)) 0 (.own 0 g_data (t29.1.map rRr).length),fun _=>none,upd (fun _=>none) 0 (some ⟨g_data,54,(t29.1.map rRr),true⟩)⟩) H (fun _ H=>?_) (fun t29 g29 H=>?_)
    ·refine gJ (tag:=0) Z (fun ho0=>?_);refine bd U mok ⟨false,true,[]⟩ [0,1,2,3,4,5,6,7,8,9,10,11,12,13,14,15,16] Z (by decide+kernel) Z (aG 4 Z ?_);refine mj H (fun H=>?_) (fun H=>?_)
     ·refine aG 3 Z ?_
      obtain⟨x25,k25,H⟩:=bl H
      refine cV U ⟨k25.1,(dp k25.2)⟩ (dl ho0 k25.2) ?_;refine fT U Z Z Z Z Z Z Z Z Z (aO (fun _=>Z) k25.2) Z Z ?_;refine aG 3 Z ?_
      obtain⟨x30,k30,H⟩:=bl H
      refine cV U ⟨k30.1,(dp k30.2)⟩ (dl ho0 k30.2) ?_;refine fT U Z Z Z Z Z Z Z Z Z (aO (fun _=>Z) k30.2) Z Z ?_
      obtain⟨x32,h32,H⟩:=aq H
      refine aW hg_cmp (jb.r) (hp_cmp _ _ _ h32) ?_;refine aG 2 Z (aZ ?_);refine aV _ () (az H) Gh.d
     refine aG 13 Z (aZ ?_);refine aV _ () (az H) Gh.d
    refine aH Z H (fun H=>?_) (fun H=>?_)
    ·refine ap (ab (aA ?_));refine gJ (tag:=0) Z (fun ho0=>?_);refine bd U mok ⟨false,true,[]⟩ [0,1,2,3,4,5,6,7,8,9,10,11,12,13,14,15,16,17] Z (by decide+kernel) Z (aG 8 Z ?_)
     obtain⟨x45,k45,H⟩:=bl H
     refine cV U ⟨k45.1,(dp k45.2)⟩ (dl ho0 k45.2) ?_;refine fT U Z Z Z Z Z Z Z Z Z (aO (fun _=>Z) k45.2) Z Z ?_;refine aG 2 Z ?_
     obtain⟨x49,k49,H⟩:=bl H
     refine cV U ⟨k49.1,(dp k49.2)⟩ (dl ho0 k49.2) ?_;refine fT U Z Z Z Z Z Z Z Z Z (aO (fun _=>Z) k49.2) Z Z ?_
     obtain⟨x51,k51,H⟩:=bl H
     refine cV U ⟨k51.1,(dp k51.2)⟩ (dl ho0 k51.2) ?_
     obtain⟨y30,hy30,H⟩:=cK H
     refine iu U Z Z Z Z Z Z Z Z Z (by rw[zl];exact(zg.1 k51.2).1) (PLe.refl _ _) Z Z Z Z (by decide) (eF (fun _=>Z) k51.2 Z hy30) ?_
     obtain⟨x52,k52,H⟩:=bl H
     refine cV U ⟨k52.1,(rM (eQ (f:=rRr) hy30) k52.2)⟩ (uq ho0 (eQ (f:=rRr) hy30) k52.2) ?_
     obtain⟨y31,hy31,H⟩:=cK H
     refine iu U Z Z Z Z Z Z Z Z Z (by rw[zl];exact(zg.1 k52.2).1) (PLe.refl _ _) Z Z Z Z (by decide) (eF (fun _=>Z) k52.2 Z hy31) ?_;refine aZ (aM (bh 3 U Z ?_));obtain rfl:=az H;refine eB (y31,(Iw (s22.2-(1:Int)))) () hg22 (Gh.le (bD (PLe.of2 (pE.of_eq (congrArg (PV.own 0 g_data) ((eQ (f:=rRr) hy30).trans (eQ (f:=rRr) hy31))))) (aw (aw (aw (aw (aw aS)))))) aE (aL aF))
    refine bq Z ?_;obtain rfl:=az H;refine aV (t29.1,s22.2) () hg22 Gh.d
   have H:=dT hn22 Hp22;refine aM (bh 3 U Z ?_);obtain rfl:=az H;refine eB (s22.1,(Iw (s1.2+(1:Int)))) () hg1 Gh.d
  refine bq Z ?_;obtain rfl:=az H;refine aV (s1.1,s1.2) () hg1 Gh.d
 have H:=dT hn1 Hp1;obtain rfl:=az H;refine cx (st':=⟨53,fun _=>.any,fun _=>none,upd (fun _=>none) 0 (some ⟨g_data,54,(s1.1.map rRr),true⟩)⟩) (Gh.le aS aE (aL aF)) ?_;refine mg Z (PLe.q Z) ⟨rfl,rfl⟩
def cM(data:Rz)(a:Int)(b:Int)(n:Int)(cmp:Rq->Rq->Option (Int)):Option (Rz):=
 af (gq (σ:=Rz×Int) (ρ:=Empty) (fun(s1:Rz×Int)=>
  cond (decide (s1.2<n))
   (af (aP s1.1 (Iw (b+s1.2))) fun(x28:Rq)=>
   af (aP s1.1 (Iw (a+s1.2))) fun(x34:Rq)=>
   af (aP s1.1 (Iw (a+s1.2))) fun(_:Rq)=>
   letP (s1.1.set ((Iw (a+s1.2)).toNat) x28) fun(y6:Rz)=>
   af (aP y6 (Iw (b+s1.2))) fun(_:Rq)=>
   letP (y6.set ((Iw (b+s1.2)).toNat) x34) fun(y7:Rz)=>
   some (.next (y7,(Iw (s1.2+(1:Int))))))
   (some (.brk (s1.1,s1.2)))) (data,0)) fun fl1=>fl1.thenP fun(s1:Rz×Int)=>
 some s1.1
theorem ii(g_data:OwnRef){g_cmp:FuncId}{caps_cmp:List PV}(data:Rz)(a:Int)(b:Int)(n:Int)(cmp:Rq->Rq->Option (Int))(hg_cmp:∀(vs:Array Value) (w:World),(callFunc g_cmp vs).run prog w= .ok (.enter g_cmp vs) w)(hp_cmp:∀a0 a1 r,cmp a0 a1=some r->aQ prog g_cmp ((.list 69 (a0.map ae))::(.list 69 (a1.map ae))::caps_cmp) (al r))(r:Rz)(H:cM data a b n cmp=some r):
  PH prog 286 [(.own 0 g_data (data.map rRr).length),(al a),(al b),(al n),(.fn g_cmp caps_cmp)] ⟨fun _=>none,upd (fun _=>none) 0 (some ⟨g_data,54,(data.map rRr),true⟩)⟩ (fun u H=>u=(.tup [])/\H=⟨fun _=>none,upd (fun _=>none) 0 (some ⟨g_data,54,(r.map rRr),true⟩)⟩):=by
 unfold cM at H;refine PH.av func286 ntmps286 ?_;refine am 1 U Z ?_
 obtain⟨fl1,H1,Hp1⟩:=aq H
 refine fm (τ:=Rz×Int) (γ:=Unit) (fun s1 g1=>⟨38,upd (fun _=>.any) 0 (.own 0 g_data (s1.1.map rRr).length),fun _=>none,upd (fun _=>none) 0 (some ⟨g_data,54,(s1.1.map rRr),true⟩)⟩) (fun t=>fl1= .next t) ?_ (fun s1 g1 hn1=>?_)
 ·refine aA ?_;refine ir (fun s1 g1=>⟨38,upd (upd (upd (upd (upd (fun _=>.any) 10 (al s1.2)) 3 (al n)) 2 (al b)) 1 (al a)) 0 (.own 0 g_data (s1.1.map rRr).length),fun _=>none,upd (fun _=>none) 0 (some ⟨g_data,54,(s1.1.map rRr),true⟩)⟩) () H1 Gh.d (fun m1 s1 g1 hr1=>?_)
  obtain⟨fb1,H,hg1⟩:=fP hr1
  refine ab (am 3 U Z ?_);refine aH Z H (fun H=>?_) (fun H=>?_)
  ·refine ap (ab (aA ?_));refine gJ (tag:=0) Z (fun ho0=>?_);refine bd U mok ⟨false,true,[]⟩ [0,1,2,3,4,5,6,7,8,9,10,11,12,13,14,15,16,17,18,19,20,21,22,23] Z (by decide+kernel) Z (aG 12 Z ?_)
   obtain⟨x28,k28,H⟩:=bl H
   refine cV U ⟨k28.1,(dp k28.2)⟩ (dl ho0 k28.2) ?_;refine fT U Z Z Z Z Z Z Z Z Z (aO (fun _=>Z) k28.2) Z Z ?_;refine aG 4 Z ?_
   obtain⟨x34,k34,H⟩:=bl H
   refine cV U ⟨k34.1,(dp k34.2)⟩ (dl ho0 k34.2) ?_;refine fT U Z Z Z Z Z Z Z Z Z (aO (fun _=>Z) k34.2) Z Z ?_
   obtain⟨x36,k36,H⟩:=bl H
   refine cV U ⟨k36.1,(dp k36.2)⟩ (dl ho0 k36.2) ?_
   obtain⟨y6,hy6,H⟩:=cK H
   refine iu U Z Z Z Z Z Z Z Z Z (by rw[zl];exact(zg.1 k36.2).1) (PLe.refl _ _) Z Z Z Z (by decide) (eF (fun _=>Z) k36.2 Z hy6) ?_
   obtain⟨x37,k37,H⟩:=bl H
   refine cV U ⟨k37.1,(rM (eQ (f:=rRr) hy6) k37.2)⟩ (uq ho0 (eQ (f:=rRr) hy6) k37.2) ?_
   obtain⟨y7,hy7,H⟩:=cK H
   refine iu U Z Z Z Z Z Z Z Z Z (by rw[zl];exact(zg.1 k37.2).1) (PLe.refl _ _) Z Z Z Z (by decide) (eF (fun _=>Z) k37.2 Z hy7) ?_;refine aZ (aM (bh 3 U Z ?_));obtain rfl:=az H;refine eB (y7,(Iw (s1.2+(1:Int)))) () hg1 (Gh.le (bD (PLe.of2 (pE.of_eq (congrArg (PV.own 0 g_data) ((eQ (f:=rRr) hy6).trans (eQ (f:=rRr) hy7))))) (aw (aw (aw (aw aS))))) aE (aL aF))
  refine bq Z ?_;obtain rfl:=az H;refine aV (s1.1,s1.2) () hg1 Gh.d
 have H:=dT hn1 Hp1;obtain rfl:=az H;refine cx (st':=⟨38,fun _=>.any,fun _=>none,upd (fun _=>none) 0 (some ⟨g_data,54,(s1.1.map rRr),true⟩)⟩) (Gh.le aS aE (aL aF)) ?_;refine mg Z (PLe.q Z) ⟨rfl,rfl⟩
def gd(t:LTable)(c0:LS):Bool:=
 (t.name==c0.table)
theorem rp(t:LTable)(c0:LS):
  aQ prog 185 [(.agg (bv t)),(.ptr (aC c0))] (aK (gd t c0)):=by
 obtain⟨r,H⟩:∃r,gd t c0=r:=⟨_,rfl⟩
 rw[H];unfold gd at H;refine PH.av func185 ntmps185 ?_;refine ab (aa (aJ ?_));refine ah U Z (ac (am 6 U Z ?_));exact ez U H Z
def fZ(x:LCol)(c0:LS)(c1:Int):Option (Bool):=
 af (aP c0.names c1) fun(x10:Rb)=>
 some (x.name==x10)
theorem rd(x:LCol)(c0:LS)(c1:Int)(r:Bool)(H:fZ x c0 c1=some r):
  aQ prog 186 [(.agg (ay x)),(.ptr (aC c0)),(.ptr [(al c1)])] (aK r):=by
 unfold fZ at H;refine PH.av func186 ntmps186 ?_;refine ab (aa (aJ ?_));refine ah U Z (ac (ab (bd U mok ⟨false,false,[]⟩ [0,1,2,3,4,5,6,7,8] Z (by decide+kernel) Z (aG 5 Z ?_))))
 obtain⟨x10,k10,H⟩:=bl H
 refine bs k10.1 (aO (fun _=>Z) k10.2) ?_;refine aG 3 Z (aZ ?_);exact bc U H Z
def iW(n:Int):Int:=
 (Iw ((100:Int)+n))
theorem qJ(n:Int):
  aQ prog 130 [(al n)] (al (iW n)):=by
 obtain⟨r,H⟩:∃r,iW n=r:=⟨_,rfl⟩
 rw[H];unfold iW at H;refine PH.av func130 ntmps130 ?_;refine am 1 U Z (am 3 U Z ?_);exact ez U H Z
def cU(s1A:List LChange)(s2A:List LChange)(eq:LChange->LChange->Option (Bool)):Option (Bool):=
 cond ((s1A.length:Int) !=(s2A.length:Int))
  (some false)
  (af (aN (σ:=Unit) (ρ:=(Bool)) (fun(j1:Nat) (x1:LChange) (_:Unit)=>
   af (aP s2A (j1:Int)) fun(x24:LChange)=>
   af (eq x1 x24) fun x29=>
   cond (!x29)
    (some (.ret false))
    (some (.next ()))) 0 s1A ()) fun fl1=>fl1.thenR fun(_:Unit)=>
  some true)
theorem io{g_eq:FuncId}{caps_eq:List PV}(s1A:List LChange)(s2A:List LChange)(eq:LChange->LChange->Option (Bool))(hg_eq:∀(vs:Array Value) (w:World),(callFunc g_eq vs).run prog w= .ok (.enter g_eq vs) w)(hp_eq:∀a0 a1 r,eq a0 a1=some r->aQ prog g_eq ((.agg (bV a0))::(.agg (bV a1))::caps_eq) (aK r))(r:Bool)(H:cU s1A s2A eq=some r):
  aQ prog 17 [(.list 56 (s1A.map bV)),(.list 56 (s2A.map bV)),(.fn g_eq caps_eq)] (aK r):=by
 unfold cU at H;refine PH.av func17 ntmps17 ?_;refine am 1 U Z (ab (ab (aa (ah U Z (aB U (zl _) ?_)))));refine ah U Z (aB U (zl _) ?_);refine ah U Z (ac ?_);refine aH Z H (fun H=>?_) (fun H=>?_)
 ·refine am 1 U Z ?_;exact bc U H Z
 refine ap (ab (ab (aa (ah U Z (aB U (zl _) ?_)))));refine ah U Z (ac ?_);refine eG U 17 16 15 (fun s1 g1=>upd (upd (fun _=>.any) 2 (.fn g_eq caps_eq)) 1 (.list 56 (s2A.map bV))) nB nO () H (fun fl1 Hp1 j1 s1 g1 hz1 hl1 x1 fb1 hx1 H hg1=>?_) (fun s1 g1 H=>?_)
 ·refine ab (aA (ab (aa (ah U Z ?_))));refine aU U (zn j1) (bn (fun _=>Z) hx1) ?_;refine ah U Z ?_;refine bf U fun b8=>?_
  refine ah U Z (au U ?_);refine ac (ab (aa (ag 2 U Z ?_)))
  obtain⟨x24,k24,H⟩:=bl H
  refine aU U k24.1 (aO (fun _=>Z) k24.2) ?_;refine ah U Z ?_;refine bf U fun b9=>?_
  refine au U ?_;refine ac (ab (aa (ah U Z (aD U ?_))));refine aD U ?_
  obtain⟨x29,h29,H⟩:=aq H
  refine ak hg_eq (jb.r) (hp_eq _ _ _ h29) ?_;refine ah U Z (ac ?_);refine aH Z H (fun H=>?_) (fun H=>?_)
  ·refine am 1 U Z ?_;obtain rfl:=az H;have e1:fl1= .ret _:=hg1;subst e1;obtain rfl:=aT Hp1;refine ba U Z (ps:=[(aK false)]) ⟨_,_,rfl,rfl,rfl⟩ (PLe.q Z)
  refine ap (aM (bh 2 U Z ?_));exact bm () H hl1 hg1
 refine am 1 U Z ?_;exact bc U H Z
def cA(s1A:List LResult)(s2A:List LResult)(eq:LResult->LResult->Option (Bool)):Option (Bool):=
 cond ((s1A.length:Int) !=(s2A.length:Int))
  (some false)
  (af (aN (σ:=Unit) (ρ:=(Bool)) (fun(j1:Nat) (x1:LResult) (_:Unit)=>
   af (aP s2A (j1:Int)) fun(x24:LResult)=>
   af (eq x1 x24) fun x29=>
   cond (!x29)
    (some (.ret false))
    (some (.next ()))) 0 s1A ()) fun fl1=>fl1.thenR fun(_:Unit)=>
  some true)
theorem gD{g_eq:FuncId}{caps_eq:List PV}(s1A:List LResult)(s2A:List LResult)(eq:LResult->LResult->Option (Bool))(hg_eq:∀(vs:Array Value) (w:World),(callFunc g_eq vs).run prog w= .ok (.enter g_eq vs) w)(hp_eq:∀a0 a1 r,eq a0 a1=some r->aQ prog g_eq ((.agg (bU a0))::(.agg (bU a1))::caps_eq) (aK r))(r:Bool)(H:cA s1A s2A eq=some r):
  aQ prog 20 [(.list 64 (s1A.map bU)),(.list 64 (s2A.map bU)),(.fn g_eq caps_eq)] (aK r):=by
 unfold cA at H;refine PH.av func20 ntmps20 ?_;refine am 1 U Z (ab (ab (aa (ah U Z (aB U (zl _) ?_)))));refine ah U Z (aB U (zl _) ?_);refine ah U Z (ac ?_);refine aH Z H (fun H=>?_) (fun H=>?_)
 ·refine am 1 U Z ?_;exact bc U H Z
 refine ap (ab (ab (aa (ah U Z (aB U (zl _) ?_)))));refine ah U Z (ac ?_);refine eG U 17 16 15 (fun s1 g1=>upd (upd (fun _=>.any) 2 (.fn g_eq caps_eq)) 1 (.list 64 (s2A.map bU))) nB nO () H (fun fl1 Hp1 j1 s1 g1 hz1 hl1 x1 fb1 hx1 H hg1=>?_) (fun s1 g1 H=>?_)
 ·refine ab (aA (ab (aa (ah U Z ?_))));refine aU U (zn j1) (bn (fun _=>Z) hx1) ?_;refine ah U Z ?_;refine bf U fun b8=>?_
  refine ah U Z (au U ?_);refine ac (ab (aa (ag 2 U Z ?_)))
  obtain⟨x24,k24,H⟩:=bl H
  refine aU U k24.1 (aO (fun _=>Z) k24.2) ?_;refine ah U Z ?_;refine bf U fun b9=>?_
  refine au U ?_;refine ac (ab (aa (ah U Z (aD U ?_))));refine aD U ?_
  obtain⟨x29,h29,H⟩:=aq H
  refine ak hg_eq (jb.r) (hp_eq _ _ _ h29) ?_;refine ah U Z (ac ?_);refine aH Z H (fun H=>?_) (fun H=>?_)
  ·refine am 1 U Z ?_;obtain rfl:=az H;have e1:fl1= .ret _:=hg1;subst e1;obtain rfl:=aT Hp1;refine ba U Z (ps:=[(aK false)]) ⟨_,_,rfl,rfl,rfl⟩ (PLe.q Z)
  refine ap (aM (bh 2 U Z ?_));exact bm () H hl1 hg1
 refine am 1 U Z ?_;exact bc U H Z
def ee(s1A:Rz)(s2A:Rz)(eq:Rq->Rq->Option (Bool)):Option (Bool):=
 cond ((s1A.length:Int) !=(s2A.length:Int))
  (some false)
  (af (aN (σ:=Unit) (ρ:=(Bool)) (fun(j1:Nat) (x1:Rq) (_:Unit)=>
   af (aP s2A (j1:Int)) fun(x24:Rq)=>
   af (eq x1 x24) fun x29=>
   cond (!x29)
    (some (.ret false))
    (some (.next ()))) 0 s1A ()) fun fl1=>fl1.thenR fun(_:Unit)=>
  some true)
theorem jJ{g_eq:FuncId}{caps_eq:List PV}(s1A:Rz)(s2A:Rz)(eq:Rq->Rq->Option (Bool))(hg_eq:∀(vs:Array Value) (w:World),(callFunc g_eq vs).run prog w= .ok (.enter g_eq vs) w)(hp_eq:∀a0 a1 r,eq a0 a1=some r->aQ prog g_eq ((.list 69 (a0.map ae))::(.list 69 (a1.map ae))::caps_eq) (aK r))(r:Bool)(H:ee s1A s2A eq=some r):
  aQ prog 51 [(.list 54 (s1A.map rRr)),(.list 54 (s2A.map rRr)),(.fn g_eq caps_eq)] (aK r):=by
 unfold ee at H;refine PH.av func51 ntmps51 ?_;refine am 1 U Z (ab (ab (aa (ah U Z (aB U (zl _) ?_)))));refine ah U Z (aB U (zl _) ?_);refine ah U Z (ac ?_);refine aH Z H (fun H=>?_) (fun H=>?_)
 ·refine am 1 U Z ?_;exact bc U H Z
 refine ap (ab (ab (aa (ah U Z (aB U (zl _) ?_)))));refine ah U Z (ac ?_);refine eG U 17 16 15 (fun s1 g1=>upd (upd (fun _=>.any) 2 (.fn g_eq caps_eq)) 1 (.list 54 (s2A.map rRr))) nB nO () H (fun fl1 Hp1 j1 s1 g1 hz1 hl1 x1 fb1 hx1 H hg1=>?_) (fun s1 g1 H=>?_)
 ·refine ab (aA (ab (aa (ah U Z ?_))));refine aU U (zn j1) (bn (fun _=>Z) hx1) ?_;refine ag 3 U Z (ac (ab (aa (ag 2 U Z ?_))))
  obtain⟨x24,k24,H⟩:=bl H
  refine aU U k24.1 (aO (fun _=>Z) k24.2) ?_;refine ag 2 U Z (ac (ab (aa (ag 3 U Z ?_))))
  obtain⟨x29,h29,H⟩:=aq H
  refine ak hg_eq (jb.r) (hp_eq _ _ _ h29) ?_;refine ah U Z (ac ?_);refine aH Z H (fun H=>?_) (fun H=>?_)
  ·refine am 1 U Z ?_;obtain rfl:=az H;have e1:fl1= .ret _:=hg1;subst e1;obtain rfl:=aT Hp1;refine ba U Z (ps:=[(aK false)]) ⟨_,_,rfl,rfl,rfl⟩ (PLe.q Z)
  refine ap (aM (bh 2 U Z ?_));exact bm () H hl1 hg1
 refine am 1 U Z ?_;exact bc U H Z
def dF(slices:List (List LS)):Option ((List LS)):=
 af (aN (σ:=Int) (ρ:=Empty) (fun(_:Nat) (x1:List LS) (s1:Int)=>
  cond (decide ((Iw (s1+(x1.length:Int)))<(0:Int)))
   (none)
   (some (.next (Iw (s1+(x1.length:Int)))))) 0 slices 0) fun fl1=>fl1.thenP fun(s1:Int)=>
 af (oO 192 s1) fun(_:Unit)=>
 af (aN (σ:=List LS) (ρ:=Empty) (fun(_:Nat) (x2:List LS) (s2:List LS)=>
  af (cJ 192 s2 x2) fun(x33:List LS)=>
  some (.next x33)) 0 slices []) fun fl2=>fl2.thenP fun(s2:List LS)=>
 some s2
theorem jj{m:Nat}(slices:List (List LS))(r:(List LS))(H:dF slices=some r):
  ie prog 11 [(.list 30 (slices.map (ao 40 ax)))] (ku m 40 (r.map ax)):=by
 unfold dF at H;refine PH.av func11 ntmps11 ?_;refine am 1 U Z (am 1 U Z (ab (ab (aa (ah U Z (aB U (zl _) ?_))))));refine ah U Z (ac ?_);refine fW U 11 10 9 (fun s1 g1=>upd (upd (fun _=>.any) 3 (al s1)) 0 (.list 30 (slices.map (ao 40 ax)))) nB nO () H (fun fl1 Hp1 j1 s1 g1 hz1 hl1 x1 fb1 hx1 H hg1=>?_) (fun s1 g1 H=>?_)
 ·refine ab (aA (ab (aa ?_)));refine aU U (zn j1) (bn (fun _=>Z) hx1) ?_;refine ag 2 U Z (ac (ab (aa (ag 2 U Z (aB U (zl _) ?_)))));refine ag 2 U Z (ac (am 2 U Z ?_));refine aH Z H (fun H=>?_) (fun H=>?_)
  ·cases H
  refine ap (aM (bh 2 U Z ?_));exact bm () H hl1 hg1
 refine ab (aa (ah U Z ?_))
 obtain⟨_,h24,H⟩:=aq H
 have s24:=grow_40 (m:=24) s1 h24;refine gX call40 (jb.r) s24 (fun g24=>?_);refine ah U Z (ac (ab (ab (aa (ah U Z (aB U (zl _) ?_))))));refine ah U Z (ac ?_);refine fW (γ:=OwnRef) U 27 26 25 (fun s2 g2=>upd (fun _=>.any) 6 (.own 24 g2 (s2.map ax).length)) nB (fun s2 g2=>upd (fun _=>none) 24 (some ⟨g2,40,(s2.map ax),true⟩)) g24 H (fun fl2 Hp2 j2 s2 g2 hz2 hl2 x2 fb2 hx2 H hg2=>?_) (fun s2 g2 H=>?_)
 ·refine ab (aA (ab (aa ?_)));refine aU U (zn j2) (bn (fun _=>Z) hx2) ?_;refine ag 2 U Z (ac (aa (ag 2 U Z ?_)))
  obtain⟨x33,h33,H⟩:=aq H
  have k33:=bS h33;refine bX (rows2':=List.map ax x2) (rows':=List.map ax x33) U Z Z Z Z Z Z Z Z Z Z Z Z Z (gH.refl _) (cD k33.1) (cC k33.2.1) (cE k33.2.2) fun g33=>?_
  refine ah U Z (ac (aM (bh 2 U Z ?_)));exact bm g33 H hl2 hg2
 refine am 2 U Z ?_;obtain rfl:=az H;refine gL U Z
def hC(t:LTable)(name:Rb):Option (Int×Bool):=
 af (bB t.columns (fun a0=>some (eR a0 name))) fun x10=>
 some ((if(0:Int)>x10 then(0:Int)else x10),(decide (x10>=(0:Int))))
theorem tj(t:LTable)(name:Rb)(r:Int×Bool)(H:hC t name=some r):
  aQ prog 106 [(.agg (bv t)),(.str name)] (.tup [(al r.1),(aK r.2)]):=by
 unfold hC at H;refine PH.av func106 ntmps106 ?_;refine ab (aa (aJ ?_));refine aJ ?_;refine ag 2 U Z (ac (ab (aa (ag 3 U Z ?_))))
 obtain⟨x10,h10,H⟩:=aq H
 have s10:=dh t.columns (fun a0=>some (eR a0 name)) call171 (fun a0 r h=>(az h)▸rz a0 name) _ h10;refine ak call170 (jb.r) s10 ?_;refine ah U Z (ac (am 6 U Z ?_));exact bc U H Z
def dS(sA:LSchema)(name:Rb):Option (Int×Bool):=
 af (cn sA.tables (fun a0=>some (cg a0 name))) fun x10=>
 some ((if(0:Int)>x10 then(0:Int)else x10),(decide (x10>=(0:Int))))
theorem jw(sA:LSchema)(name:Rb)(r:Int×Bool)(H:dS sA name=some r):
  aQ prog 28 [(.agg (cy sA)),(.str name)] (.tup [(al r.1),(aK r.2)]):=by
 unfold dS at H;refine PH.av func28 ntmps28 ?_;refine ab (aa (aJ ?_));refine aJ ?_;refine ag 2 U Z (ac (ab (aa (ag 3 U Z ?_))))
 obtain⟨x10,h10,H⟩:=aq H
 have s10:=ew sA.tables (fun a0=>some (cg a0 name)) call56 (fun a0 r h=>(az h)▸sq a0 name) _ h10;refine ak call55 (jb.r) s10 ?_;refine ah U Z (ac (am 6 U Z ?_));exact bc U H Z
def iz(a:LF)(b:LF):Option (Bool):=
 cond (a.table==b.table)
  (af (gO a.columns b.columns) fun x15=>
  cond x15
   (some (a.refTable==b.refTable))
   (some false))
  (some false)
theorem pJ(a:LF)(b:LF)(r:Bool)(H:iz a b=some r):
  aQ prog 75 [(.agg (gM a)),(.agg (gM b))] (aK r):=by
 unfold iz at H;refine PH.av func75 ntmps75 ?_;refine ab (aa (aJ ?_));refine aJ ?_;refine ah U Z (ac (ab (aa (ag 6 U Z ?_))));refine bj Z Z Z H (fun H=>?_) (fun H=>?_)
 ·refine ag 4 U Z ?_
  obtain⟨x15,h15,H⟩:=aq H
  have s15:=qI a.columns b.columns _ h15;refine ak call108 (jb.r) s15 ?_;refine ag 2 U Z ?_;refine bj Z Z Z H (fun H=>?_) (fun H=>?_)
  ·refine ag 7 U Z (ac ?_);exact bc U H Z
  refine ag 7 U Z (ac ?_);exact bc U H Z
 refine ag 14 U Z (ac ?_);exact bc U H Z
def co(sA:List LF)(f:LF->Option (Bool)):Option (Bool):=
 af (dq sA f) fun x7=>
 some (decide (x7>=(0:Int)))
theorem jF{g_f:FuncId}{caps_f:List PV}(sA:List LF)(f:LF->Option (Bool))(hg_f:∀(vs:Array Value) (w:World),(callFunc g_f vs).run prog w= .ok (.enter g_f vs) w)(hp_f:∀a0 r,f a0=some r->aQ prog g_f ((.agg (gM a0))::caps_f) (aK r))(r:Bool)(H:co sA f=some r):
  aQ prog 73 [(.list 145 (sA.map gM)),(.fn g_f caps_f)] (aK r):=by
 unfold co at H;refine PH.av func73 ntmps73 ?_;refine am 1 U Z (ab (aa (ag 2 U Z ?_)))
 obtain⟨x7,h7,H⟩:=aq H
 have s7:=jU sA f hg_f hp_f _ h7;refine ak call107 (jb.r) s7 ?_;refine ag 2 U Z (ac ?_);exact bc U H Z
def kT(a:Rb)(b:Rb):Int:=
 letP (fR a b) fun x7=>
 x7
theorem uI(a:Rb)(b:Rb):
  aQ prog 172 [(.str a),(.str b)] (al (kT a b)):=by
 obtain⟨r,H⟩:∃r,kT a b=r:=⟨_,rfl⟩
 rw[H];unfold kT at H;refine PH.av func172 ntmps172 ?_;refine am 1 U Z (ab (aa (ag 2 U Z ?_)))
 obtain⟨x7,h7,H⟩:=cK H
 have s7:=mU a b;rw[h7]at s7;refine ak call220 (jb.r) s7 ?_;refine ah U Z (ac ?_);exact ez U H Z
def cv(sA:List LK)(v:LK):Option (Bool):=
 af (dD sA v) fun x7=>
 some (decide (x7>=(0:Int)))
theorem kh(sA:List LK)(v:LK)(r:Bool)(H:cv sA v=some r):
  aQ prog 77 [(.list 151 (sA.map ix)),(.agg (ix v))] (aK r):=by
 unfold cv at H;refine PH.av func77 ntmps77 ?_;refine ab (aa (aJ ?_));refine ah U Z (ac (ab (aa (ag 2 U Z ?_))))
 obtain⟨x7,h7,H⟩:=aq H
 have s7:=kI sA v _ h7;refine ak call111 (jb.r) s7 ?_;refine ag 2 U Z (ac ?_);exact bc U H Z
def et(t:LTable)(row:Rq):Option (Int):=
 cond ((row.length:Int) !=(t.columns.length:Int))
  (some 3)
  (af (aN (σ:=Unit) (ρ:=(Int)) (fun(j1:Nat) (x1:LVal) (_:Unit)=>
   letP (dH x1) fun x22=>
   cond (x22 !=(0:Int))
    (some (.ret x22))
    (af (
     cond (x1.kind==(0:Int))
      (af (aP t.columns (j1:Int)) fun(x33:LCol)=>
      some (!x33.nullable))
      (some false)) fun(t3:Bool)=>
    cond t3
     (some (.ret 8))
     (cond (x1.kind !=(0:Int))
      (af (aP t.columns (j1:Int)) fun(x47:LCol)=>
      cond (x1.kind !=x47.kind)
       (some (.ret 7))
       (some (.next ())))
      (some (.next ()))))) 0 row ()) fun fl1=>fl1.thenR fun(_:Unit)=>
  some 0)
theorem mD(t:LTable)(row:Rq)(r:Int)(H:et t row=some r):
  aQ prog 78 [(.agg (bv t)),(.list 69 (row.map ae))] (al r):=by
 unfold et at H;refine PH.av func78 ntmps78 ?_;refine ab (aa (aJ ?_));refine ah U Z (ac (ab (ab (aa (ah U Z (aB U (zl _) ?_))))));refine ag 2 U Z (aB U (zl _) ?_);refine ah U Z (ac ?_);refine aH Z H (fun H=>?_) (fun H=>?_)
 ·refine am 1 U Z ?_;exact bc U H Z
 refine ap (ab (ab (aa (ah U Z (aB U (zl _) ?_)))));refine ah U Z (ac ?_);refine eG U 16 15 14 (fun s1 g1=>upd (fun _=>.any) 2 (.ptr (bv t))) nB nO () H (fun fl1 Hp1 j1 s1 g1 hz1 hl1 x1 fb1 hx1 H hg1=>?_) (fun s1 g1 H=>?_)
 ·refine ab (aA (ab (aa (ah U Z ?_))));refine aU U (zn j1) (bn (fun _=>Z) hx1) ?_;refine ah U Z ?_;refine bf U fun b6=>?_
  refine ah U Z (au U ?_);refine ac (ab (ab (aa (aD U ?_))))
  obtain⟨x22,h22,H⟩:=cK H
  have s22:=mW x1;rw[h22]at s22;refine ak call110 (jb.r) s22 ?_;refine ah U Z (ac (am 2 U Z ?_));refine aH Z H (fun H=>?_) (fun H=>?_)
  ·refine am 2 U Z ?_;obtain rfl:=az H;have e1:fl1= .ret _:=hg1;subst e1;obtain rfl:=aT Hp1;refine ba U Z (ps:=[(al x22)]) ⟨_,_,rfl,rfl,rfl⟩ (PLe.q Z)
  refine ap (ab (ab ?_));refine fu (γ:=Unit) (fun t3 g3=>⟨53,upd (upd (upd (upd (upd (upd (upd (fun _=>.any) 37 (aK t3)) 16 (al (j1:Int))) 15 (al (row.length:Int))) 14 (.list 69 (row.map ae))) 6 (.box 6 b6 0)) 5 (al (j1:Int))) 2 (.ptr (bv t)),upd (fun _=>none) 6 (some ⟨b6,(ae x1)⟩),fun _=>none⟩) H (fun _ H=>?_) (fun t3 g3 H=>?_)
  ·refine aa (ah U Z (aD U ?_));refine ag 2 U Z ?_;refine bj Z Z Z H (fun H=>?_) (fun H=>?_)
   ·refine ag 3 U Z ?_
    obtain⟨x33,k33,H⟩:=bl H
    refine aU U k33.1 (aO (fun _=>Z) k33.2) ?_;refine ag 4 U Z (ac ?_);refine aV _ () (az H) Gh.d
   refine ag 8 U Z (ac ?_);refine aV _ () (az H) Gh.d
  refine aH Z H (fun H=>?_) (fun H=>?_)
  ·refine am 1 U Z ?_;obtain rfl:=az H;have e1:fl1= .ret _:=hg1;subst e1;obtain rfl:=aT Hp1;refine ba U Z (ps:=[(al 8)]) ⟨_,_,rfl,rfl,rfl⟩ (PLe.q Z)
  refine ap (ab (bd U mok ⟨true,false,[45,49]⟩ [0,1,2,3,4,5,6,7,8,9,10,11,12,13] Z (by decide+kernel) Z (bA Z (bi ?_))));refine aG 2 Z ?_;refine mj H (fun H=>?_) (fun H=>?_)
  ·refine bA Z (bi ?_);refine aG 3 Z ?_
   obtain⟨x47,k47,H⟩:=bl H
   refine bs k47.1 (aO (fun _=>Z) k47.2) ?_;refine aG 4 Z (aZ ?_);refine aH Z H (fun H=>?_) (fun H=>?_)
   ·refine am 1 U Z ?_;obtain rfl:=az H;have e1:fl1= .ret _:=hg1;subst e1;obtain rfl:=aT Hp1;refine ba U Z (ps:=[(al 7)]) ⟨_,_,rfl,rfl,rfl⟩ (PLe.q Z)
   refine ap (aM (bh 2 U Z ?_));exact bm () H hl1 hg1
  refine aG 10 Z (aZ (bF Z (ap (aM (bh 2 U Z ?_)))));exact bm () H hl1 hg1
 refine am 1 U Z ?_;exact bc U H Z
def ef(sA:List Int)(v:Int):Option (Bool):=
 af (iX sA v) fun x7=>
 some (decide (x7>=(0:Int)))
theorem jG(sA:List Int)(v:Int)(r:Bool)(H:ef sA v=some r):
  aQ prog 115 [(.list 3 (sA.map bQ)),(al v)] (aK r):=by
 unfold ef at H;refine PH.av func115 ntmps115 ?_;refine am 1 U Z (ab (aa (ag 2 U Z ?_)))
 obtain⟨x7,h7,H⟩:=aq H
 have s7:=qH sA v _ h7;refine ak call173 (jb.r) s7 ?_;refine ag 2 U Z (ac ?_);exact bc U H Z
def fc(q:LQuery):Option ((List Int)×Int):=
 af (kB q) fun x18=>
 af (aN (σ:=List Int×Bool×List Bool) (ρ:=Empty) (fun(_:Nat) (x1:LQuery) (s1:List Int×Bool×List Bool)=>
  af (aN (σ:=List Int×Bool×List Bool) (ρ:=Empty) (fun(_:Nat) (x12:LExpr) (s12:List Int×Bool×List Bool)=>
   af (gG x12 s12.1 s12.2.1 s12.2.2) fun x33=>
   some (.next (x33.1,x33.2.1,x33.2.2))) 0 x1.exprs (s1.1,s1.2.1,s1.2.2)) fun fl12=>fl12.thenP fun(s12:List Int×Bool×List Bool)=>
  af (aN (σ:=List Int×Bool×List Bool) (ρ:=Empty) (fun(_:Nat) (x13:LA) (s13:List Int×Bool×List Bool)=>
   af (aN (σ:=List Int×Bool×List Bool) (ρ:=Empty) (fun(_:Nat) (x16:LExpr) (s16:List Int×Bool×List Bool)=>
    af (gG x16 s16.1 s16.2.1 s16.2.2) fun x51=>
    some (.next (x51.1,x51.2.1,x51.2.2))) 0 x13.args (s13.1,s13.2.1,s13.2.2)) fun fl16=>fl16.thenP fun(s16:List Int×Bool×List Bool)=>
   some (.next (s16.1,s16.2.1,s16.2.2))) 0 x1.aggregates (s12.1,s12.2.1,s12.2.2)) fun fl13=>fl13.thenP fun(s13:List Int×Bool×List Bool)=>
  some (.next (s13.1,s13.2.1,s13.2.2))) 0 x18 ([],false,(List.replicate 8 false))) fun fl1=>fl1.thenP fun(s1:List Int×Bool×List Bool)=>
 cond s1.2.1
  (some ([],13))
  (some (s1.1,0))
theorem kN(q:LQuery)(r:(List Int)×Int)(H:fc q=some r):
  aQ prog 91 [(.agg (aY q))] (.tup [(.list 3 (r.1.map bQ)),(al r.2)]):=by
 unfold fc at H;refine PH.av func91 ntmps91 ?_;refine ab (aa (aJ ?_));refine ag 2 U Z (ac (ab (aa ?_)));refine bf U fun b4=>?_
 refine ac (ab (aa ?_));refine bf U fun b5=>?_
 refine ac (ab (aa ?_));refine bf U fun b6=>?_
 refine au U ?_;refine ac (ab (aa ?_));refine bf U fun b7=>?_
 refine ac (ab (aa (ah U Z (au U ?_))));refine ac (ab (ab (aa (ah U Z ?_))))
 obtain⟨x18,h18,H⟩:=aq H
 have s18:=sW (m:=18) q _ h18;refine ak call93 (jb.r) (PFun.ik s18) ?_;refine aB U (zl _) ?_;refine ah U Z (ac ?_)
 obtain⟨fl1,H1,Hp1⟩:=aq H
 refine ib U 18 Z Z (fun hz1 _=>?_);rw[zl]at hz1;refine fm (τ:=List Int×Bool×List Bool) (γ:=OwnRef) (fun s1 g1=>⟨57,upd (upd (fun _=>.any) 6 (.box 6 b6 0)) 4 (.box 4 b4 0),upd (upd (fun _=>none) 6 (some ⟨b6,[(aK s1.2.1)]⟩)) 4 (some ⟨b4,[(.own 1204 g1 (s1.1.map bQ).length)]⟩),upd (fun _=>none) 1204 (some ⟨g1,3,(s1.1.map bQ),true⟩)⟩) (fun t=>fl1= .next t) ?_ (fun s1 g1 hn1=>?_)
 ·refine aA (np U 4 0 1204 (e:=3) Z Z Z Z ?_);refine iH (fun j1 s1 g1=>⟨57,upd (upd (upd (upd (upd (upd (fun _=>.any) 20 (al (j1:Int))) 19 (al (x18.length:Int))) 18 (.list 76 (x18.map dv))) 7 (.box 7 b7 0)) 6 (.box 6 b6 0)) 4 (.box 4 b4 0),upd (upd (upd (upd (fun _=>none) 7 (some ⟨b7,[(.fn 133 [(.box 4 b4 0),(.box 6 b6 0),(.box 5 b5 0),(.box 7 b7 0)])]⟩)) 6 (some ⟨b6,[(aK s1.2.1)]⟩)) 5 (some ⟨b5,(List.map aK s1.2.2)⟩)) 4 (some ⟨b4,[(.own 1204 g1 (s1.1.map bQ).length)]⟩),upd (fun _=>none) 1204 (some ⟨g1,3,(s1.1.map bQ),true⟩)⟩) (⟨none,0⟩) H1 Gh.d (fun j1 s1 g1 hj1 hr1=>?_);refine am 1 U Z (ab ?_);refine bp Z (fun h=>?_) (fun h=>?_)
  ·have hl1:=pm h
   obtain⟨x1,fb1,hx1,H,hg1⟩:=rMc hl1 hr1
   refine ap (ab (aA (ab (aa (aU U (zn j1) (bn cN hx1) ?_)))));refine ah U Z ?_;refine bf U fun b9=>?_
   refine au U ?_;refine ac (ab (ab (aa (ah U Z (aD U ?_)))));refine aB U (zl _) ?_;refine ah U Z (ac ?_);refine fW (γ:=OwnRef) U 27 26 25 (fun s12 g12=>upd (upd (upd (upd (upd (upd (upd (fun _=>.any) 20 (al (j1:Int))) 19 (al (x18.length:Int))) 18 (.list 76 (x18.map dv))) 9 (.box 9 b9 0)) 7 (.box 7 b7 0)) 6 (.box 6 b6 0)) 4 (.box 4 b4 0)) (fun s12 g12=>upd (upd (upd (upd (upd (fun _=>none) 9 (some ⟨b9,(aY x1)⟩)) 7 (some ⟨b7,[(.fn 133 [(.box 4 b4 0),(.box 6 b6 0),(.box 5 b5 0),(.box 7 b7 0)])]⟩)) 6 (some ⟨b6,[(aK s12.2.1)]⟩)) 5 (some ⟨b5,(List.map aK s12.2.2)⟩)) 4 (some ⟨b4,[(.own 1204 g12 (s12.1.map bQ).length)]⟩)) (fun s12 g12=>upd (fun _=>none) 1204 (some ⟨g12,3,(s12.1.map bQ),true⟩)) g1 H (fun fl12 Hp12 j12 s12 g12 hz12 hl12 x12 fb12 hx12 H hg12=>?_) (fun s12 g12 H=>?_)
   ·refine ab (aA (ab (aa (aU U (zn j12) (bn db hx12) ?_))));refine ah U Z ?_;refine bf U fun b11=>?_
    refine au U ?_;refine ac (aa (aD U ?_));refine aD U ?_
    obtain⟨x33,h33,H⟩:=aq H
    have s33:=lZ b4 g12 b6 b5 b7 x12 s12.1 s12.2.1 s12.2.2 _ h33;refine cu (st':=⟨_,_,upd (upd (upd (upd (upd (upd (fun _=>none) 11 (some ⟨b11,(iA x12)⟩)) 9 (some ⟨b9,(aY x1)⟩)) 7 (some ⟨b7,[(.fn 133 [(.box 1000 b4 0),(.box 1001 b6 0),(.box 1002 b5 0),(.box 1003 b7 0)])]⟩)) 6 (some ⟨b6,[(aK s12.2.1)]⟩)) 5 (some ⟨b5,(List.map aK s12.2.2)⟩)) 4 (some ⟨b4,[(.own 1100 g12 (s12.1.map bQ).length)]⟩),upd (fun _=>none) 1204 (some ⟨g12,3,(s12.1.map bQ),true⟩)⟩) (Gh.le (bL _ _) (aR Z (jb.of2 (jk.cons (pE.own Z) jk.nil)) (aR Z (jb.r) (aR Z (jb.r) (aR Z (jb.of2 (jk.cons (pE.fn (jk.cons pE.boxT (jk.cons pE.boxT (jk.cons pE.boxT (jk.cons pE.boxT jk.nil))))) jk.nil)) (aR Z (jb.r) (aR Z (jb.r) aE)))))) (aL aF)) ?_;refine cq (g:=133) Z Z Z call133 [(4,1000),(6,1001),(5,1002),(7,1003)] [(1204,1100)] Z Z Z Z (jb.of2 (jk.cons (pE.of_eq Z) (jk.cons pE.boxT (jk.cons pE.boxT (jk.cons pE.boxT (jk.cons pE.boxT jk.nil)))))) (by rw[cr,cr,cr,cr,bO,be,bH];rfl) s33 ?_;rintro u33 H33h ⟨gz33_0,rfl,rfl⟩
    refine⟨_,rfl,?_⟩
    refine cu (st':=⟨_,_,upd (upd (upd (upd (upd (upd (fun _=>none) 11 (some ⟨b11,(iA x12)⟩)) 9 (some ⟨b9,(aY x1)⟩)) 7 (some ⟨b7,[(.fn 133 [(.box 4 b4 0),(.box 6 b6 0),(.box 5 b5 0),(.box 7 b7 0)])]⟩)) 6 (some ⟨b6,[(aK x33.2.1)]⟩)) 5 (some ⟨b5,(List.map aK x33.2.2)⟩)) 4 (some ⟨b4,[(.own 1204 gz33_0 (x33.1.map bQ).length)]⟩),upd (fun _=>none) 1204 (some ⟨gz33_0,3,(x33.1.map bQ),true⟩)⟩) (Gh.le (bL _ _) (aR Z (jb.of2 (jk.cons (pE.own Z) jk.nil)) (aR Z (jb.r) (aR Z (jb.r) (aR Z (jb.of2 (jk.cons (pE.fn (jk.cons pE.boxT (jk.cons pE.boxT (jk.cons pE.boxT (jk.cons pE.boxT jk.nil))))) jk.nil)) (aR Z (jb.r) (aR Z (jb.r) aE)))))) (aL aF)) ?_;refine ac (aM (bh 2 U Z ?_));exact bm gz33_0 H hl12 hg12
   refine ab (aa (ah U Z (aD U ?_)));refine aB U (zl _) ?_;refine ah U Z (ac ?_);refine fW (γ:=OwnRef) U 38 37 36 (fun s13 g13=>upd (upd (upd (upd (upd (upd (fun _=>.any) 20 (al (j1:Int))) 19 (al (x18.length:Int))) 18 (.list 76 (x18.map dv))) 7 (.box 7 b7 0)) 6 (.box 6 b6 0)) 4 (.box 4 b4 0)) (fun s13 g13=>upd (upd (upd (upd (fun _=>none) 7 (some ⟨b7,[(.fn 133 [(.box 4 b4 0),(.box 6 b6 0),(.box 5 b5 0),(.box 7 b7 0)])]⟩)) 6 (some ⟨b6,[(aK s13.2.1)]⟩)) 5 (some ⟨b5,(List.map aK s13.2.2)⟩)) 4 (some ⟨b4,[(.own 1204 g13 (s13.1.map bQ).length)]⟩)) (fun s13 g13=>upd (fun _=>none) 1204 (some ⟨g13,3,(s13.1.map bQ),true⟩)) g12 H (fun fl13 Hp13 j13 s13 g13 hz13 hl13 x13 fb13 hx13 H hg13=>?_) (fun s13 g13 H=>?_)
   ·refine ab (aA (ab (aa ?_)));refine aU U (zn j13) (bn (fun _=>Z) hx13) ?_;refine ah U Z ?_;refine bf U fun b13=>?_
    refine au U ?_;refine ac (ab (aa (ah U Z (aD U ?_))));refine aB U (zl _) ?_;refine ah U Z (ac ?_);refine fW (γ:=OwnRef) U 45 44 43 (fun s16 g16=>upd (upd (upd (upd (upd (upd (upd (upd (upd (fun _=>.any) 38 (al (j13:Int))) 37 (al (x1.aggregates.length:Int))) 36 (.list 210 (x1.aggregates.map oS))) 20 (al (j1:Int))) 19 (al (x18.length:Int))) 18 (.list 76 (x18.map dv))) 7 (.box 7 b7 0)) 6 (.box 6 b6 0)) 4 (.box 4 b4 0)) (fun s16 g16=>upd (upd (upd (upd (fun _=>none) 7 (some ⟨b7,[(.fn 133 [(.box 4 b4 0),(.box 6 b6 0),(.box 5 b5 0),(.box 7 b7 0)])]⟩)) 6 (some ⟨b6,[(aK s16.2.1)]⟩)) 5 (some ⟨b5,(List.map aK s16.2.2)⟩)) 4 (some ⟨b4,[(.own 1204 g16 (s16.1.map bQ).length)]⟩)) (fun s16 g16=>upd (fun _=>none) 1204 (some ⟨g16,3,(s16.1.map bQ),true⟩)) g13 H (fun fl16 Hp16 j16 s16 g16 hz16 hl16 x16 fb16 hx16 H hg16=>?_) (fun s16 g16 H=>?_)
    ·refine ab (aA (ab (aa (aU U (zn j16) (bn db hx16) ?_))));refine ah U Z ?_;refine bf U fun b15=>?_
     refine au U ?_;refine ac (aa (aD U ?_));refine aD U ?_
     obtain⟨x51,h51,H⟩:=aq H
     have s51:=lZ b4 g16 b6 b5 b7 x16 s16.1 s16.2.1 s16.2.2 _ h51;refine cu (st':=⟨_,_,upd (upd (upd (upd (upd (fun _=>none) 15 (some ⟨b15,(iA x16)⟩)) 7 (some ⟨b7,[(.fn 133 [(.box 1000 b4 0),(.box 1001 b6 0),(.box 1002 b5 0),(.box 1003 b7 0)])]⟩)) 6 (some ⟨b6,[(aK s16.2.1)]⟩)) 5 (some ⟨b5,(List.map aK s16.2.2)⟩)) 4 (some ⟨b4,[(.own 1100 g16 (s16.1.map bQ).length)]⟩),upd (fun _=>none) 1204 (some ⟨g16,3,(s16.1.map bQ),true⟩)⟩) (Gh.le (bL _ _) (aR Z (jb.of2 (jk.cons (pE.own Z) jk.nil)) (aR Z (jb.r) (aR Z (jb.r) (aR Z (jb.of2 (jk.cons (pE.fn (jk.cons pE.boxT (jk.cons pE.boxT (jk.cons pE.boxT (jk.cons pE.boxT jk.nil))))) jk.nil)) (aR Z (jb.r) aE))))) (aL aF)) ?_;refine cq (g:=133) Z Z Z call133 [(4,1000),(6,1001),(5,1002),(7,1003)] [(1204,1100)] Z Z Z Z (jb.of2 (jk.cons (pE.of_eq Z) (jk.cons pE.boxT (jk.cons pE.boxT (jk.cons pE.boxT (jk.cons pE.boxT jk.nil)))))) (by rw[cr,cr,cr,cr,bO,be,bH];rfl) s51 ?_;rintro u51 H51h ⟨gz51_0,rfl,rfl⟩
     refine⟨_,rfl,?_⟩
     refine cu (st':=⟨_,_,upd (upd (upd (upd (upd (fun _=>none) 15 (some ⟨b15,(iA x16)⟩)) 7 (some ⟨b7,[(.fn 133 [(.box 4 b4 0),(.box 6 b6 0),(.box 5 b5 0),(.box 7 b7 0)])]⟩)) 6 (some ⟨b6,[(aK x51.2.1)]⟩)) 5 (some ⟨b5,(List.map aK x51.2.2)⟩)) 4 (some ⟨b4,[(.own 1204 gz51_0 (x51.1.map bQ).length)]⟩),upd (fun _=>none) 1204 (some ⟨gz51_0,3,(x51.1.map bQ),true⟩)⟩) (Gh.le (bL _ _) (aR Z (jb.of2 (jk.cons (pE.own Z) jk.nil)) (aR Z (jb.r) (aR Z (jb.r) (aR Z (jb.of2 (jk.cons (pE.fn (jk.cons pE.boxT (jk.cons pE.boxT (jk.cons pE.boxT (jk.cons pE.boxT jk.nil))))) jk.nil)) (aR Z (jb.r) aE))))) (aL aF)) ?_;refine ac (aM (bh 2 U Z ?_));exact bm gz51_0 H hl16 hg16
    refine aM (bh 2 U Z ?_);exact bm g16 H hl13 hg13
   refine aM (bh 2 U Z ?_);exact bm g13 H hl1 hg1
  have hn1:=rMd (pz h) hr1;refine bq Z ?_;refine aV s1 g1 hn1 Gh.d
 have H:=dT hn1 Hp1;refine ab (ab (aa (aD U ?_)));refine ac ?_;refine aH Z H (fun H=>?_) (fun H=>?_)
 ·refine am 2 U Z ?_;obtain rfl:=az H;refine ba U Z (ps:=[(.val (.slice none 0 0)),(al 13)]) ⟨_,_,rfl,rfl,_,_,rfl,rfl,rfl⟩ (PLe.of2 (pE.tup (jk.cons (pE.nil U Z) (jk.cons (pE.of_eq Z) jk.nil))))
 refine ap (ab (aa (aD U ?_)));refine ag 2 U Z (ac (cF 2 Z Z Z ?_));exact bc U H Z
def cX(sA:List LCol)(del:LCol->Option (Bool)):Option (List LCol):=
 af (cS sA del) fun x10=>
 af (fg (x10.2.length=sA.length) ()) fun(_:Unit)=>
 cond (x10.1==(-1))
  (some x10.2)
  (af (gq (σ:=List LCol×Int×Int) (ρ:=Empty) (fun(s1:List LCol×Int×Int)=>
   cond (decide (s1.2.2<(s1.1.length:Int)))
    (af (aP s1.1 s1.2.2) fun(x24:LCol)=>
    af (del x24) fun x28=>
    cond (!x28)
     (af (aP s1.1 s1.2.1) fun(_:LCol)=>
     letP (s1.1.set s1.2.1.toNat x24) fun(y4:List LCol)=>
     some (.next (y4,(Iw (s1.2.1+(1:Int))),(Iw (s1.2.2+(1:Int))))))
     (some (.next (s1.1,s1.2.1,(Iw (s1.2.2+(1:Int)))))))
    (some (.brk (s1.1,s1.2.1,s1.2.2)))) (x10.2,x10.1,(Iw (x10.1+(1:Int))))) fun fl1=>fl1.thenP fun(s1:List LCol×Int×Int)=>
  af (pC s1.1 s1.2.1) fun(y5:List LCol)=>
  af (pC y5 s1.2.1) fun(y6:List LCol)=>
  some y6)
theorem li(g_sA:OwnRef){g_del:FuncId}{caps_del:List PV}(sA:List LCol)(del:LCol->Option (Bool))(hg_del:∀(vs:Array Value) (w:World),(callFunc g_del vs).run prog w= .ok (.enter g_del vs) w)(hp_del:∀a0 r,del a0=some r->aQ prog g_del ((.agg (ay a0))::caps_del) (aK r))(r:List LCol)(H:cX sA del=some r):
  PH prog 175 [(.own 0 g_sA (sA.map ay).length),(.fn g_del caps_del)] ⟨fun _=>none,upd (fun _=>none) 0 (some ⟨g_sA,93,(sA.map ay),true⟩)⟩ (fun u H=>u= .own 0 g_sA (r.map ay).length/\H=⟨fun _=>none,upd (fun _=>none) 0 (some ⟨g_sA,93,(r.map ay),true⟩)⟩):=by
 unfold cX at H;refine PH.av func175 ntmps175 ?_;refine am 1 U Z (ab (aa (ag 2 U Z ?_)))
 obtain⟨x10,h10,H⟩:=aq H
 have s10:=kQ g_sA sA del hg_del hp_del _ h10
 obtain⟨_,q10_0,H⟩:=aq H
 have l10_0:=(dy q10_0).1;have z10_0:(List.map ay sA).length=(List.map ay x10.2).length:=by simpa using(l10_0).symm
 refine cq (g:=170) Z Z Z call170 [] [(0,0)] Z Z Z Z (jb.of2 (jk.cons (pE.own Z) (jk.cons (pE.of_eq Z) jk.nil))) (by rw[bO,be,bH];rfl) s10 ?_;rintro u10 H10h ⟨rfl,rfl⟩
 refine⟨_,rfl,?_⟩
 refine cu (st':=⟨_,_,fun _=>none,upd (fun _=>none) 0 (some ⟨g_sA,93,(x10.2.map ay),true⟩)⟩) (Gh.le (bL _ _) aE (aL aF)) ?_;refine ah U Z (ac (ab (am 2 U Z ?_)));refine aH Z H (fun H=>?_) (fun H=>?_)
 ·refine am 2 U Z ?_;obtain rfl:=az H;refine cx (st':=⟨42,upd (fun _=>.any) 4 (.own 0 g_sA (sA.map ay).length),fun _=>none,upd (fun _=>none) 0 (some ⟨g_sA,93,(x10.2.map ay),true⟩)⟩) (Gh.le (aw aS) aE (aL aF)) ?_;refine cT U Z (ps:=[(.own 0 g_sA (sA.map ay).length)]) ⟨_,_,rfl,rfl,rfl⟩ (PLe.of2 (pE.own z10_0)) ⟨rfl,rfl⟩
 refine ap (ab (am 3 U Z ?_))
 obtain⟨fl1,H1,Hp1⟩:=aq H
 refine fm (τ:=List LCol×Int×Int) (γ:=Unit) (fun s1 g1=>⟨42,upd (upd (fun _=>.any) 5 (al s1.2.1)) 0 (.own 0 g_sA (s1.1.map ay).length),fun _=>none,upd (fun _=>none) 0 (some ⟨g_sA,93,(s1.1.map ay),true⟩)⟩) (fun t=>fl1= .next t) ?_ (fun s1 g1 hn1=>?_)
 ·refine aA ?_;refine ir (fun s1 g1=>⟨42,upd (upd (upd (upd (fun _=>.any) 6 (al s1.2.2)) 5 (al s1.2.1)) 1 (.fn g_del caps_del)) 0 (.own 0 g_sA (s1.1.map ay).length),fun _=>none,upd (fun _=>none) 0 (some ⟨g_sA,93,(s1.1.map ay),true⟩)⟩) () H1 (Gh.le (bD (PLe.of2 (pE.of_eq (congrArg (PV.own 0 g_sA) z10_0))) (aw (aw (aw aS)))) aE (aL aF)) (fun m1 s1 g1 hr1=>?_)
  obtain⟨fb1,H,hg1⟩:=fP hr1
  refine ab (ab (aa (ag 2 U Z (eD U (zl _) ?_))));refine ah U Z (ac ?_);refine aH Z H (fun H=>?_) (fun H=>?_)
  ·refine ap (ab (aA (ab (aa (ag 2 U Z ?_)))))
   obtain⟨x24,k24,H⟩:=bl H
   refine ky (tag:=0) Z (fun ho0=>?_);refine jh U ⟨k24.1,(dp k24.2)⟩ (dl ho0 k24.2) ?_;refine mV U Z Z Z Z Z Z Z (aO (fun _=>Z) k24.2) Z Z ?_;refine bf U fun b7=>?_
   refine au U ?_;refine ac (ab (aa (ah U Z (aD U ?_))))
   obtain⟨x28,h28,H⟩:=aq H
   refine ak hg_del (jb.r) (hp_del _ _ h28) ?_;refine ah U Z (ac ?_);refine aH Z H (fun H=>?_) (fun H=>?_)
   ·refine ab (aa (ag 2 U Z (aD U ?_)))
    obtain⟨x33,k33,H⟩:=bl H
    refine ky (tag:=0) Z (fun ho0=>?_);refine jh U ⟨k33.1,(dp k33.2)⟩ (dl ho0 k33.2) ?_
    obtain⟨y4,hy4,H⟩:=cK H
    refine nq U Z Z Z Z Z Z Z Z (by rw[zl];exact(zg.1 k33.2).1) (PLe.refl _ _) Z Z Z Z (by decide) (eF (fun _=>Z) k33.2 Z hy4) ?_;refine ac (bh 3 U Z (aM (bh 3 U Z ?_)));obtain rfl:=az H;refine eB (y4,(Iw (s1.2.1+(1:Int))),(Iw (s1.2.2+(1:Int)))) () hg1 (Gh.le (bD (PLe.of2 (pE.of_eq (congrArg (PV.own 0 g_sA) (eQ (f:=ay) hy4)))) (aw (aw (aw aS)))) aE (aL aF))
   refine ap (aM (bh 3 U Z ?_));obtain rfl:=az H;refine eB (s1.1,s1.2.1,(Iw (s1.2.2+(1:Int)))) () hg1 Gh.d
  refine bq Z ?_;obtain rfl:=az H;refine aV (s1.1,s1.2.1,s1.2.2) () hg1 Gh.d
 have H:=dT hn1 Hp1;refine ab (aa (ag 2 U Z ?_))
 obtain⟨y5,hy5,H⟩:=aq H
 have ky5:=qW hy5;refine vV (tag:=0) Z (fun hcy5=>?_);have hny5:(s1.1.map ay).length=(List.map ay s1.1).length:=rfl;have hmy5:=ky5.2.1;rw[<-zl (f:=ay),<-hny5]at hmy5;rw[<-hny5]at hcy5;refine jl (l:=s1.2.1.toNat) (h:=(s1.1.map ay).length) (m:=g_sA.cap) U Z Z Z Z Z Z ⟨_,_,rfl,(Int.toNat_of_nonneg ky5.1).symm⟩ Z Z (by decide) hmy5 hcy5 (Nat.le_refl _) Z (cu (Gh.cutO (tag:=0) (rows':=List.map ay y5) Z s1.2.1.toNat (by rw[<-List.map_take,ky5.2.2])) ?_);refine pn (tag:=0) (rows:=List.map ay y5) U Z Z Z Z Z Z Z Z Z (p:=s1.2.1.toNat) (q:=(s1.1.map ay).length) (m:=g_sA.cap) (by rw[zl,ky5.2.2,List.length_take];exact Nat.min_le_left _ _) hmy5 hcy5 (Nat.le_refl _) Z ?_;refine ac (ab (aa (ag 2 U Z ?_)))
 obtain⟨y6,hy6,H⟩:=aq H
 have ky6:=qW hy6;refine vT (rows':=List.map ay y6) U Z Z Z Z Z Z Z Z ⟨ky6.1,by rw[zl];exact ky6.2.1⟩ (by rw[<-List.map_take,ky6.2.2]) Z Z ?_;refine ah U Z (ac ?_);obtain rfl:=az H;refine cx (st':=⟨42,upd (fun _=>.any) 4 (.own 0 g_sA (y6.map ay).length),fun _=>none,upd (fun _=>none) 0 (some ⟨g_sA,93,(y6.map ay),true⟩)⟩) (Gh.le (aw aS) aE (aL aF)) ?_;refine cT U Z (ps:=[(.own 0 g_sA (y6.map ay).length)]) ⟨_,_,rfl,rfl,rfl⟩ (PLe.of2 (pE.own Z)) ⟨rfl,rfl⟩
def gV(q:LQuery):Option (Int):=
 af (nJ q) fun x7=>
 some x7.2
theorem px(q:LQuery)(r:Int)(H:gV q=some r):
  aQ prog 157 [(.agg (aY q))] (al r):=by
 unfold gV at H;refine PH.av func157 ntmps157 ?_;refine ab (aa (aJ ?_));refine ah U Z (ac (ab (aa (ah U Z ?_))))
 obtain⟨x7,h7,H⟩:=aq H
 have s7:=W_query_most q _ h7;refine ak call205 (jb.r) s7 ?_;refine ag 5 U Z (ac (am 2 U Z ?_));exact bc U H Z
def jx(kind:Int)(a:List LCol)(b:List LCol):Option ((List LCol)×Int):=
 cond ((a.length:Int) !=(b.length:Int))
  (some ([],7))
  (af (aN (σ:=List LCol) (ρ:=((List LCol)×Int)) (fun(j1:Nat) (x1:LCol) (s1:List LCol)=>
   af (aP b (j1:Int)) fun(x29:LCol)=>
   cond (x1.kind !=x29.kind)
    (some (.ret ([],7)))
    (cond x1.nullable
     (af (aP s1 (j1:Int)) fun(x51:LCol)=>
     letP (s1.set ((j1:Int).toNat) (LCol.mk x51.name x51.kind true)) fun(y8:List LCol)=>
     some (.next y8))
     (cond (kind==(6:Int))
      (af (aP b (j1:Int)) fun(x46:LCol)=>
      af (aP s1 (j1:Int)) fun(x51:LCol)=>
      letP (s1.set ((j1:Int).toNat) (LCol.mk x51.name x51.kind x46.nullable)) fun(y9:List LCol)=>
      some (.next y9))
      (af (aP s1 (j1:Int)) fun(x51:LCol)=>
      letP (s1.set ((j1:Int).toNat) (LCol.mk x51.name x51.kind false)) fun(y10:List LCol)=>
      some (.next y10))))) 0 a a) fun fl1=>fl1.thenR fun(s1:List LCol)=>
  some (s1,0))
theorem ue(kind:Int)(a:List LCol)(b:List LCol)(r:(List LCol)×Int)(H:jx kind a b=some r):
  aQ prog 236 [(al kind),(.list 93 (a.map ay)),(.list 93 (b.map ay))] (.tup [(.list 93 (r.1.map ay)),(al r.2)]):=by
 unfold jx at H;refine PH.av func236 ntmps236 ?_;refine am 2 U Z (ab (ab (aa (ah U Z (aB U (zl _) ?_)))));refine ah U Z (aB U (zl _) ?_);refine ah U Z (ac ?_);refine aH Z H (fun H=>?_) (fun H=>?_)
 ·refine am 2 U Z ?_;obtain rfl:=az H;refine ba U Z (ps:=[(.val (.slice none 0 0)),(al 7)]) ⟨_,_,rfl,rfl,_,_,rfl,rfl,rfl⟩ (PLe.of2 (pE.tup (jk.cons (pE.nil U Z) (jk.cons (pE.of_eq Z) jk.nil))))
 refine ap (ab (aa (ah U Z ?_)));have s16:=na (m:=16) a;refine gX call176 (jb.r) s16 (fun g16=>?_);refine ah U Z (ac (ab (ab (aa (ah U Z (aB U (zl _) ?_))))));refine ah U Z (ac ?_);refine eG (γ:=OwnRef) U 19 18 1 (fun s1 g1=>upd (upd (upd (fun _=>.any) 8 (.own 16 g1 (s1.map ay).length)) 2 (.list 93 (b.map ay))) 0 (al kind)) nB (fun s1 g1=>upd (fun _=>none) 16 (some ⟨g1,93,(s1.map ay),true⟩)) g16 H (fun fl1 Hp1 j1 s1 g1 hz1 hl1 x1 fb1 hx1 H hg1=>?_) (fun s1 g1 H=>?_)
 ·refine ab (aA (am 2 U Z (ab (ab ?_))));refine gJ (tag:=16) Z (fun ho16=>?_);refine bd U mok ⟨false,false,[]⟩ [0,1,2,3,4,5,6,7,8,9,10] Z (by decide+kernel) Z (aG 2 Z ?_);refine bs (zn j1) (bn (fun _=>Z) hx1) ?_;refine aG 4 Z ?_
  obtain⟨x29,k29,H⟩:=bl H
  refine bs k29.1 (aO (fun _=>Z) k29.2) ?_;refine aG 3 Z (aZ ?_);refine aH Z H (fun H=>?_) (fun H=>?_)
  ·refine am 2 U Z ?_;obtain rfl:=az H;have e1:fl1= .ret _:=hg1;subst e1;obtain rfl:=aT Hp1;refine ba U Z (ps:=[(.val (.slice none 0 0)),(al 7)]) ⟨_,_,rfl,rfl,_,_,rfl,rfl,rfl⟩ (PLe.of2 (pE.tup (jk.cons (pE.nil U Z) (jk.cons (pE.of_eq Z) jk.nil))))
  refine ap (aa (ag 4 U Z ?_));refine aU U (zn j1) (bn (fun _=>Z) hx1) ?_;refine ag 3 U Z ?_;refine bj Z Z Z H (fun H=>?_) (fun H=>?_)
  ·refine ag 10 U Z ?_
   obtain⟨x51,k51,H⟩:=bl H
   refine ky (tag:=16) Z (fun ho16=>?_);refine jh U ⟨k51.1,(dp k51.2)⟩ (dl ho16 k51.2) ?_;refine ah U Z ?_
   obtain⟨y8,hy8,H⟩:=cK H
   refine nq U Z Z Z Z Z Z Z Z (by rw[zl];exact(zg.1 k51.2).1) (PLe.refl _ _) Z Z Z Z (by decide) (eF (fun _=>Z) k51.2 Z hy8) ?_;refine ac (aM (bh 2 U Z ?_));exact bm g1 H hl1 hg1 (Gh.le (aw (aw (bD (PLe.q (fj (by omega))) (aw (aw (bD (PLe.of2 (pE.of_eq (congrArg (PV.own 16 g1) (eQ (f:=ay) hy8)))) aS)))))) aE (aL aF))
  refine ag 3 U Z ?_;refine bj Z Z Z H (fun H=>?_) (fun H=>?_)
  ·refine ag 2 U Z ?_
   obtain⟨x46,k46,H⟩:=bl H
   refine aU U k46.1 (aO (fun _=>Z) k46.2) ?_;refine ag 4 U Z ?_
   obtain⟨x51,k51,H⟩:=bl H
   refine ky (tag:=16) Z (fun ho16=>?_);refine jh U ⟨k51.1,(dp k51.2)⟩ (dl ho16 k51.2) ?_;refine ah U Z ?_
   obtain⟨y9,hy9,H⟩:=cK H
   refine nq U Z Z Z Z Z Z Z Z (by rw[zl];exact(zg.1 k51.2).1) (PLe.refl _ _) Z Z Z Z (by decide) (eF (fun _=>Z) k51.2 Z hy9) ?_;refine ac (aM (bh 2 U Z ?_));exact bm g1 H hl1 hg1 (Gh.le (aw (aw (bD (PLe.q (fj (by omega))) (aw (aw (bD (PLe.of2 (pE.of_eq (congrArg (PV.own 16 g1) (eQ (f:=ay) hy9)))) aS)))))) aE (aL aF))
  refine ag 7 U Z ?_
  obtain⟨x51,k51,H⟩:=bl H
  refine ky (tag:=16) Z (fun ho16=>?_);refine jh U ⟨k51.1,(dp k51.2)⟩ (dl ho16 k51.2) ?_;refine ah U Z ?_
  obtain⟨y10,hy10,H⟩:=cK H
  refine nq U Z Z Z Z Z Z Z Z (by rw[zl];exact(zg.1 k51.2).1) (PLe.refl _ _) Z Z Z Z (by decide) (eF (fun _=>Z) k51.2 Z hy10) ?_;refine ac (aM (bh 2 U Z ?_));exact bm g1 H hl1 hg1 (Gh.le (aw (aw (bD (PLe.q (fj (by omega))) (aw (aw (bD (PLe.of2 (pE.of_eq (congrArg (PV.own 16 g1) (eQ (f:=ay) hy10)))) aS)))))) aE (aL aF))
 refine am 3 U Z (cF 6 Z Z Z ?_);exact bc U H Z
def cw(sA:Rs)(v:Rb):Option (Bool):=
 af (fh sA v) fun x7=>
 some (decide (x7>=(0:Int)))
theorem kg(sA:Rs)(v:Rb)(r:Bool)(H:cw sA v=some r):
  aQ prog 31 [(.list 9 (sA.map lP)),(.str v)] (aK r):=by
 unfold cw at H;refine PH.av func31 ntmps31 ?_;refine am 1 U Z (ab (aa (ag 2 U Z ?_)))
 obtain⟨x7,h7,H⟩:=aq H
 have s7:=od sA v _ h7;refine ak call61 (jb.r) s7 ?_;refine ag 2 U Z (ac ?_);exact bc U H Z
def cp(sA:List LCol)(f:LCol->Option (Bool)):Option (Bool):=
 af (bB sA f) fun x7=>
 some (decide (x7>=(0:Int)))
theorem kM{g_f:FuncId}{caps_f:List PV}(sA:List LCol)(f:LCol->Option (Bool))(hg_f:∀(vs:Array Value) (w:World),(callFunc g_f vs).run prog w= .ok (.enter g_f vs) w)(hp_f:∀a0 r,f a0=some r->aQ prog g_f ((.agg (ay a0))::caps_f) (aK r))(r:Bool)(H:cp sA f=some r):
  aQ prog 208 [(.list 93 (sA.map ay)),(.fn g_f caps_f)] (aK r):=by
 unfold cp at H;refine PH.av func208 ntmps208 ?_;refine am 1 U Z (ab (aa (ag 2 U Z ?_)))
 obtain⟨x7,h7,H⟩:=aq H
 have s7:=dh sA f hg_f hp_f _ h7;refine ak call170 (jb.r) s7 ?_;refine ag 2 U Z (ac ?_);exact bc U H Z
def iy(c:LC)(name:Rb):Option (LTable×Bool):=
 af (cn c.s.tables (fun a0=>some (eO a0 name))) fun x11=>
 cond (decide (x11<(0:Int)))
  (some ((LTable.mk [] [] []),false))
  (af (aP c.s.tables x11) fun(x19:LTable)=>
  some (x19,true))
theorem pQ(c:LC)(name:Rb)(r:LTable×Bool)(H:iy c name=some r):
  aQ prog 178 [(.agg (bt c)),(.str name)] (.tup [(.agg (bv r.1)),(aK r.2)]):=by
 unfold iy at H;refine PH.av func178 ntmps178 ?_;refine ab (aa (aJ ?_));refine aJ ?_;refine bf U fun b4=>?_
 refine ah U Z (ac (ab (aa (ag 4 U Z ?_))))
 obtain⟨x11,h11,H⟩:=aq H
 have s11:=ew c.s.tables (fun a0=>some (eO a0 name)) call221 (fun a0 r h=>(az h)▸pj a0 name) _ h11;refine ak call55 (jb.r) s11 ?_;refine ah U Z (ac (ab (am 2 U Z ?_)));refine aH Z H (fun H=>?_) (fun H=>?_)
 ·refine ab (aa (ah U Z (au U ?_)));refine ah U Z (ac ?_);obtain rfl:=az H;refine ba U Z (ps:=[(.agg [(.str []),(.val (.slice none 0 0)),(.val (.slice none 0 0))]),(aK false)]) ⟨_,_,rfl,⟨_,_,_,_,_,rfl,rfl,rfl,rfl⟩,_,_,rfl,rfl,rfl⟩ (PLe.of2 (pE.tup (jk.cons (pE.agg (jk.cons (pE.of_eq Z) (jk.cons (pE.nil U Z) (jk.cons (pE.nil U Z) jk.nil)))) (jk.cons (pE.of_eq Z) jk.nil))))
 refine ap (ab (aa (ag 4 U Z ?_)))
 obtain⟨x19,k19,H⟩:=bl H
 refine aU U k19.1 (aO (fun _=>Z) k19.2) ?_;refine ah U Z (au U ?_);refine ah U Z (ac ?_);obtain rfl:=az H;refine ba U Z (ps:=[(.agg (bv x19)),(aK true)]) ⟨_,_,rfl,⟨_,_,_,_,_,rfl,rfl,rfl,rfl⟩,_,_,rfl,rfl,rfl⟩ (PLe.q Z)
def hP(rA:LR)(c:LCol)(v:LVal):Option (LR):=
 af (bB rA.vars (fun a0=>some (fD a0 c))) fun x12=>
 cond (decide (x12>=(0:Int)))
  (af (nL rA.vars x12 (Iw (x12+(1:Int)))) fun x40=>
  af (nL rA.vals x12 (Iw (x12+(1:Int)))) fun x48=>
  af (cJ 32 x40 ([c]:List LCol)) fun(x61:List LCol)=>
  af (cJ 32 x48 ([v]:Rq)) fun(x68:Rq)=>
  some (LR.mk rA.s rA.st rA.args x61 x68 rA.changes rA.results rA.left rA.stopped))
  (af (cJ 32 rA.vars ([c]:List LCol)) fun(x61:List LCol)=>
  af (cJ 32 rA.vals ([v]:Rq)) fun(x68:Rq)=>
  some (LR.mk rA.s rA.st rA.args x61 x68 rA.changes rA.results rA.left rA.stopped))
theorem oe(b_rA:Nat)(g_rA_7:OwnRef)(g_rA_8:OwnRef)(rA:LR)(c:LCol)(v:LVal)(r:LR)(H:hP rA c v=some r):
  PH prog 123 [(.box 1500 b_rA 0),(.agg (ay c)),(.agg (ae v))] ⟨(bR b_rA rA g_rA_7 g_rA_8),(oR rA g_rA_7 g_rA_8)⟩ (fun u H=>∃gz0_7,∃gz0_8,u=(.tup [])/\H=⟨(bR b_rA r gz0_7 gz0_8),(oR r gz0_7 gz0_8)⟩):=by
 unfold hP at H;refine PH.av func123 ntmps123 ?_;refine ab (aa (aJ ?_));refine aJ ?_;refine ac (ab (aa (ag 3 U Z (aD U ?_))));refine ah U Z ?_
 obtain⟨x12,h12,H⟩:=aq H
 have s12:=dh rA.vars (fun a0=>some (fD a0 c)) call182 (fun a0 r h=>(az h)▸rT a0 c) _ h12;refine ak call170 (jb.r) s12 ?_;refine ah U Z (ac (ab (bd U mok ⟨true,false,[]⟩ [0,1,2,3,4,5,7,8,9,10,6,11,12,13,14,15,16,17] Z (by decide+kernel) Z (aG 5 Z (bi ?_)))));refine aG 3 Z (bi ?_);have s19:=na (m:=19) rA.vars;refine qC (g:=176) Z Z Z Z call176 (jb.r) Z Z s19 (fun g19=>?_);have s24:=clone_44 (m:=24) rA.vals;refine qC (g:=44) Z Z Z Z call44 (jb.r) Z Z s24 (fun g24=>?_);refine aG 2 Z (gw Z Z Z Z Z Z Z Z Z Z Z Z (aG 2 Z (gw Z Z Z Z Z Z Z Z Z Z Z Z (aZ (ab (am 2 U Z ?_))))));refine aH Z H (fun H=>?_) (fun H=>?_)
 ·refine bd U mok ⟨true,false,[]⟩ [0,1,2,3,4,5,6,7,8,10,11,12,13,14,15,16,9,17,18,19,20,21,22,23] Z (by decide+kernel) Z (aG 5 Z (bi ?_));refine aG 6 Z (bi ?_);refine aG 3 Z ?_
  obtain⟨x40,h40,H⟩:=aq H
  have s40:=W_delete_183 g19 rA.vars x12 (Iw (x12+(1:Int))) _ h40;refine vl (g:=183) Z Z Z Z call183 Z [(19,0)] Z Z (jb.of2 (jk.cons (pE.own Z) (jk.cons (pE.of_eq Z) (jk.cons (pE.of_eq Z) jk.nil)))) (by rw[be,bH];rfl) s40 ?_;rintro u40 H40h ⟨rfl,rfl⟩
  refine⟨(.own 19 g19 (x40.map ay).length),_,PLe.of2 (pE.own Z),rfl,?_⟩
  obtain⟨x48,h48,H⟩:=aq H
  have s48:=W_delete_184 g24 rA.vals x12 (Iw (x12+(1:Int))) _ h48;refine vl (g:=184) Z Z Z Z call184 Z [(24,0)] Z Z (jb.of2 (jk.cons (pE.own Z) (jk.cons (pE.of_eq Z) (jk.cons (pE.of_eq Z) jk.nil)))) (by rw[be,bH];rfl) s48 ?_;rintro u48 H48h ⟨rfl,rfl⟩
  refine⟨(.own 24 g24 (x48.map ae).length),_,PLe.of2 (pE.own Z),rfl,?_⟩
  refine aG 2 Z (gw Z Z Z Z Z Z Z Z Z Z Z Z (aG 2 Z (gw Z Z Z Z Z Z Z Z Z Z Z Z (aZ ?_))));refine cx (st':=⟨_,_,upd (fun _=>none) 1500 (some ⟨b_rA,[(.list 95 (rA.s.tables.map bv)),(.list 145 (rA.s.foreignKeys.map gM)),(.list 151 (rA.s.constraints.map ix)),(.list 86 (rA.st.map bG)),(.list 69 (rA.args.map ae)),(.own 19 g19 (x40.map ay).length),(.own 24 g24 (x48.map ae).length),(.own 1607 g_rA_7 (rA.changes.map bV).length),(.own 1608 g_rA_8 (rA.results.map bU).length),(al rA.left),(aK rA.stopped)]⟩),upd (upd (upd (upd (fun _=>none) 24 (some ⟨g24,69,(x48.map ae),true⟩)) 19 (some ⟨g19,93,(x40.map ay),true⟩)) 1608 (some ⟨g_rA_8,64,(rA.results.map bU),true⟩)) 1607 (some ⟨g_rA_7,56,(rA.changes.map bV),true⟩)⟩) (Gh.le (bL _ _) (aR Z (jb.r) aE) (aL (aL (aL (aL aF))))) ?_;refine bd U mok ⟨true,false,[59,66]⟩ [0,1,2,3,4,5,6,7,9,10,11,12,13,14,8,15,16,17,18,19,20,21] Z (by decide+kernel) Z (aG 5 Z (bi ?_));refine aG 5 Z (bi ?_);refine aG 2 Z ?_
  obtain⟨x61,h61,H⟩:=aq H
  have k61:=bS h61;refine gk (rows2':=List.map ay ([c]:List LCol)) (rows':=List.map ay x61) U Z Z Z Z Z Z Z Z Z Z Z Z Z Z (gH.refl _) (cD k61.1) (cC k61.2.1) (cE k61.2.2) fun g61=>?_
  obtain⟨x68,h68,H⟩:=aq H
  have k68:=bS h68;refine gk (rows2':=List.map ae ([v]:Rq)) (rows':=List.map ae x68) U Z Z Z Z Z Z Z Z Z Z Z Z Z Z (gH.refl _) (cD k68.1) (cC k68.2.1) (cE k68.2.2) fun g68=>?_
  refine aG 2 Z (gw Z Z Z Z Z Z Z Z Z Z Z Z (aG 2 Z (gw Z Z Z Z Z Z Z Z Z Z Z Z (aZ ?_))));obtain rfl:=az H;refine iJ 1500 5 Z Z Z Z Z (iJ 1500 6 Z Z Z Z Z ?_);refine cx (st':=⟨73,fun _=>.any,upd (fun _=>none) 1500 (some ⟨b_rA,[(.list 95 ((((LR.mk rA.s rA.st rA.args x61 x68 rA.changes rA.results rA.left rA.stopped).s).tables).map bv)),(.list 145 ((((LR.mk rA.s rA.st rA.args x61 x68 rA.changes rA.results rA.left rA.stopped).s).foreignKeys).map gM)),(.list 151 ((((LR.mk rA.s rA.st rA.args x61 x68 rA.changes rA.results rA.left rA.stopped).s).constraints).map ix)),(.list 86 (((LR.mk rA.s rA.st rA.args x61 x68 rA.changes rA.results rA.left rA.stopped).st).map bG)),(.list 69 (((LR.mk rA.s rA.st rA.args x61 x68 rA.changes rA.results rA.left rA.stopped).args).map ae)),(.list 93 (((LR.mk rA.s rA.st rA.args x61 x68 rA.changes rA.results rA.left rA.stopped).vars).map ay)),(.list 69 (((LR.mk rA.s rA.st rA.args x61 x68 rA.changes rA.results rA.left rA.stopped).vals).map ae)),(.own 1607 g_rA_7 (rA.changes.map bV).length),(.own 1608 g_rA_8 (rA.results.map bU).length),(al ((LR.mk rA.s rA.st rA.args x61 x68 rA.changes rA.results rA.left rA.stopped).left)),(aK ((LR.mk rA.s rA.st rA.args x61 x68 rA.changes rA.results rA.left rA.stopped).stopped))]⟩),(oR rA g_rA_7 g_rA_8)⟩) (Gh.le aS (aR Z (jb.r) aE) (aL (aL aF))) ?_;refine mg Z (PLe.q Z) ⟨_,_,rfl,rfl⟩
 refine ap (bd U mok ⟨true,false,[59,66]⟩ [0,1,2,3,4,5,6,7,9,10,11,12,13,14,8,15,16,17,18,19,20,21] Z (by decide+kernel) Z (aG 5 Z (bi ?_)));refine aG 5 Z (bi ?_);refine aG 2 Z ?_
 obtain⟨x61,h61,H⟩:=aq H
 have k61:=bS h61;refine gk (rows2':=List.map ay ([c]:List LCol)) (rows':=List.map ay x61) U Z Z Z Z Z Z Z Z Z Z Z Z Z Z (gH.refl _) (cD k61.1) (cC k61.2.1) (cE k61.2.2) fun g61=>?_
 obtain⟨x68,h68,H⟩:=aq H
 have k68:=bS h68;refine gk (rows2':=List.map ae ([v]:Rq)) (rows':=List.map ae x68) U Z Z Z Z Z Z Z Z Z Z Z Z Z Z (gH.refl _) (cD k68.1) (cC k68.2.1) (cE k68.2.2) fun g68=>?_
 refine aG 2 Z (gw Z Z Z Z Z Z Z Z Z Z Z Z (aG 2 Z (gw Z Z Z Z Z Z Z Z Z Z Z Z (aZ ?_))));obtain rfl:=az H;refine iJ 1500 5 Z Z Z Z Z (iJ 1500 6 Z Z Z Z Z ?_);refine cx (st':=⟨73,fun _=>.any,upd (fun _=>none) 1500 (some ⟨b_rA,[(.list 95 ((((LR.mk rA.s rA.st rA.args x61 x68 rA.changes rA.results rA.left rA.stopped).s).tables).map bv)),(.list 145 ((((LR.mk rA.s rA.st rA.args x61 x68 rA.changes rA.results rA.left rA.stopped).s).foreignKeys).map gM)),(.list 151 ((((LR.mk rA.s rA.st rA.args x61 x68 rA.changes rA.results rA.left rA.stopped).s).constraints).map ix)),(.list 86 (((LR.mk rA.s rA.st rA.args x61 x68 rA.changes rA.results rA.left rA.stopped).st).map bG)),(.list 69 (((LR.mk rA.s rA.st rA.args x61 x68 rA.changes rA.results rA.left rA.stopped).args).map ae)),(.list 93 (((LR.mk rA.s rA.st rA.args x61 x68 rA.changes rA.results rA.left rA.stopped).vars).map ay)),(.list 69 (((LR.mk rA.s rA.st rA.args x61 x68 rA.changes rA.results rA.left rA.stopped).vals).map ae)),(.own 1607 g_rA_7 (rA.changes.map bV).length),(.own 1608 g_rA_8 (rA.results.map bU).length),(al ((LR.mk rA.s rA.st rA.args x61 x68 rA.changes rA.results rA.left rA.stopped).left)),(aK ((LR.mk rA.s rA.st rA.args x61 x68 rA.changes rA.results rA.left rA.stopped).stopped))]⟩),(oR rA g_rA_7 g_rA_8)⟩) (Gh.le aS (aR Z (jb.r) aE) (aL (aL aF))) ?_;refine mg Z (PLe.q Z) ⟨_,_,rfl,rfl⟩
def bZ(slices:Rz):Option (Rq):=
 af (aN (σ:=Int) (ρ:=Empty) (fun(_:Nat) (x1:Rq) (s1:Int)=>
  cond (decide ((Iw (s1+(x1.length:Int)))<(0:Int)))
   (none)
   (some (.next (Iw (s1+(x1.length:Int)))))) 0 slices 0) fun fl1=>fl1.thenP fun(s1:Int)=>
 af (oO 32 s1) fun(_:Unit)=>
 af (aN (σ:=Rq) (ρ:=Empty) (fun(_:Nat) (x2:Rq) (s2:Rq)=>
  af (cJ 32 s2 x2) fun(x33:Rq)=>
  some (.next x33)) 0 slices []) fun fl2=>fl2.thenP fun(s2:Rq)=>
 some s2
theorem jS{m:Nat}(slices:Rz)(r:Rq)(H:bZ slices=some r):
  ie prog 210 [(.list 54 (slices.map rRr))] (ku m 69 (r.map ae)):=by
 unfold bZ at H;refine PH.av func210 ntmps210 ?_;refine am 1 U Z (am 1 U Z (ab (ab (aa (ah U Z (aB U (zl _) ?_))))));refine ah U Z (ac ?_);refine fW U 11 10 9 (fun s1 g1=>upd (upd (fun _=>.any) 3 (al s1)) 0 (.list 54 (slices.map rRr))) nB nO () H (fun fl1 Hp1 j1 s1 g1 hz1 hl1 x1 fb1 hx1 H hg1=>?_) (fun s1 g1 H=>?_)
 ·refine ab (aA (ab (aa ?_)));refine aU U (zn j1) (bn (fun _=>Z) hx1) ?_;refine ag 2 U Z (ac (ab (aa (ag 2 U Z (aB U (zl _) ?_)))));refine ag 2 U Z (ac (am 2 U Z ?_));refine aH Z H (fun H=>?_) (fun H=>?_)
  ·cases H
  refine ap (aM (bh 2 U Z ?_));exact bm () H hl1 hg1
 refine ab (aa (ah U Z ?_))
 obtain⟨_,h24,H⟩:=aq H
 have s24:=grow_238 (m:=24) s1 h24;refine gX call238 (jb.r) s24 (fun g24=>?_);refine ah U Z (ac (ab (ab (aa (ah U Z (aB U (zl _) ?_))))));refine ah U Z (ac ?_);refine fW (γ:=OwnRef) U 27 26 25 (fun s2 g2=>upd (fun _=>.any) 6 (.own 24 g2 (s2.map ae).length)) nB (fun s2 g2=>upd (fun _=>none) 24 (some ⟨g2,69,(s2.map ae),true⟩)) g24 H (fun fl2 Hp2 j2 s2 g2 hz2 hl2 x2 fb2 hx2 H hg2=>?_) (fun s2 g2 H=>?_)
 ·refine ab (aA (ab (aa ?_)));refine aU U (zn j2) (bn (fun _=>Z) hx2) ?_;refine ag 2 U Z (ac (aa (ag 2 U Z ?_)))
  obtain⟨x33,h33,H⟩:=aq H
  have k33:=bS h33;refine bX (rows2':=List.map ae x2) (rows':=List.map ae x33) U Z Z Z Z Z Z Z Z Z Z Z Z Z (gH.refl _) (cD k33.1) (cC k33.2.1) (cE k33.2.2) fun g33=>?_
  refine ah U Z (ac (aM (bh 2 U Z ?_)));exact bm g33 H hl2 hg2
 refine am 2 U Z ?_;obtain rfl:=az H;refine gL U Z
def jV(y:Rq)(c0:Rq):Option (Bool):=
 af (cf c0 y) fun x6=>
 some x6
theorem W_query_less_1(y:Rq)(c0:Rq)(r:Bool)(H:jV y c0=some r):
  aQ prog 212 [(.list 69 (y.map ae)),(.ptr [(.list 69 (c0.map ae))])] (aK r):=by
 unfold jV at H;refine PH.av func212 ntmps212 ?_;refine am 1 U Z (ab (aa (ag 2 U Z ?_)))
 obtain⟨x6,h6,H⟩:=aq H
 have s6:=eC c0 y _ h6;refine ak call50 (jb.r) s6 ?_;refine ah U Z (ac ?_);exact bc U H Z
def dR(sA:Rz)(del:Rq->Option (Bool)):Option Rz:=
 af (bT sA del) fun x10=>
 af (fg (x10.2.length=sA.length) ()) fun(_:Unit)=>
 cond (x10.1==(-1))
  (some x10.2)
  (af (gq (σ:=Rz×Int×Int) (ρ:=Empty) (fun(s1:Rz×Int×Int)=>
   cond (decide (s1.2.2<(s1.1.length:Int)))
    (af (aP s1.1 s1.2.2) fun(x24:Rq)=>
    af (del x24) fun x28=>
    cond (!x28)
     (af (aP s1.1 s1.2.1) fun(_:Rq)=>
     letP (s1.1.set s1.2.1.toNat x24) fun(y4:Rz)=>
     some (.next (y4,(Iw (s1.2.1+(1:Int))),(Iw (s1.2.2+(1:Int))))))
     (some (.next (s1.1,s1.2.1,(Iw (s1.2.2+(1:Int)))))))
    (some (.brk (s1.1,s1.2.1,s1.2.2)))) (x10.2,x10.1,(Iw (x10.1+(1:Int))))) fun fl1=>fl1.thenP fun(s1:Rz×Int×Int)=>
  af (pC s1.1 s1.2.1) fun(y5:Rz)=>
  af (pC y5 s1.2.1) fun(y6:Rz)=>
  some y6)
theorem mi(g_sA:OwnRef){g_del:FuncId}{caps_del:List PV}(sA:Rz)(del:Rq->Option (Bool))(hg_del:∀(vs:Array Value) (w:World),(callFunc g_del vs).run prog w= .ok (.enter g_del vs) w)(hp_del:∀a0 r,del a0=some r->aQ prog g_del ((.list 69 (a0.map ae))::caps_del) (aK r))(r:Rz)(H:dR sA del=some r):
  PH prog 163 [(.own 0 g_sA (sA.map rRr).length),(.fn g_del caps_del)] ⟨fun _=>none,upd (fun _=>none) 0 (some ⟨g_sA,54,(sA.map rRr),true⟩)⟩ (fun u H=>u= .own 0 g_sA (r.map rRr).length/\H=⟨fun _=>none,upd (fun _=>none) 0 (some ⟨g_sA,54,(r.map rRr),true⟩)⟩):=by
 unfold dR at H;refine PH.av func163 ntmps163 ?_;refine am 1 U Z (ab (aa (ag 2 U Z ?_)))
 obtain⟨x10,h10,H⟩:=aq H
 have s10:=gr g_sA sA del hg_del hp_del _ h10
 obtain⟨_,q10_0,H⟩:=aq H
 have l10_0:=(dy q10_0).1;have z10_0:(List.map rRr sA).length=(List.map rRr x10.2).length:=by simpa using(l10_0).symm
 refine cq (g:=211) Z Z Z call211 [] [(0,0)] Z Z Z Z (jb.of2 (jk.cons (pE.own Z) (jk.cons (pE.of_eq Z) jk.nil))) (by rw[bO,be,bH];rfl) s10 ?_;rintro u10 H10h ⟨rfl,rfl⟩
 refine⟨_,rfl,?_⟩
 refine cu (st':=⟨_,_,fun _=>none,upd (fun _=>none) 0 (some ⟨g_sA,54,(x10.2.map rRr),true⟩)⟩) (Gh.le (bL _ _) aE (aL aF)) ?_;refine ah U Z (ac (ab (am 2 U Z ?_)));refine aH Z H (fun H=>?_) (fun H=>?_)
 ·refine am 2 U Z ?_;obtain rfl:=az H;refine cx (st':=⟨42,upd (fun _=>.any) 4 (.own 0 g_sA (sA.map rRr).length),fun _=>none,upd (fun _=>none) 0 (some ⟨g_sA,54,(x10.2.map rRr),true⟩)⟩) (Gh.le (aw aS) aE (aL aF)) ?_;refine cT U Z (ps:=[(.own 0 g_sA (sA.map rRr).length)]) ⟨_,_,rfl,rfl,rfl⟩ (PLe.of2 (pE.own z10_0)) ⟨rfl,rfl⟩
 refine ap (ab (am 3 U Z ?_))
 obtain⟨fl1,H1,Hp1⟩:=aq H
 refine fm (τ:=Rz×Int×Int) (γ:=Unit) (fun s1 g1=>⟨42,upd (upd (fun _=>.any) 5 (al s1.2.1)) 0 (.own 0 g_sA (s1.1.map rRr).length),fun _=>none,upd (fun _=>none) 0 (some ⟨g_sA,54,(s1.1.map rRr),true⟩)⟩) (fun t=>fl1= .next t) ?_ (fun s1 g1 hn1=>?_)
 ·refine aA ?_;refine ir (fun s1 g1=>⟨42,upd (upd (upd (upd (fun _=>.any) 6 (al s1.2.2)) 5 (al s1.2.1)) 1 (.fn g_del caps_del)) 0 (.own 0 g_sA (s1.1.map rRr).length),fun _=>none,upd (fun _=>none) 0 (some ⟨g_sA,54,(s1.1.map rRr),true⟩)⟩) () H1 (Gh.le (bD (PLe.of2 (pE.of_eq (congrArg (PV.own 0 g_sA) z10_0))) (aw (aw (aw aS)))) aE (aL aF)) (fun m1 s1 g1 hr1=>?_)
  obtain⟨fb1,H,hg1⟩:=fP hr1
  refine ab (ab (aa (ag 2 U Z (eD U (zl _) ?_))));refine ah U Z (ac ?_);refine aH Z H (fun H=>?_) (fun H=>?_)
  ·refine ap (ab (aA (ab (aa (ag 2 U Z ?_)))))
   obtain⟨x24,k24,H⟩:=bl H
   refine ky (tag:=0) Z (fun ho0=>?_);refine jh U ⟨k24.1,(dp k24.2)⟩ (dl ho0 k24.2) ?_;refine mV U Z Z Z Z Z Z Z (aO (fun _=>Z) k24.2) Z Z ?_;refine ah U Z (ac (ab (aa (ag 2 U Z ?_))))
   obtain⟨x28,h28,H⟩:=aq H
   refine ak hg_del (jb.r) (hp_del _ _ h28) ?_;refine ah U Z (ac ?_);refine aH Z H (fun H=>?_) (fun H=>?_)
   ·refine ab (aa (ag 3 U Z ?_))
    obtain⟨x33,k33,H⟩:=bl H
    refine ky (tag:=0) Z (fun ho0=>?_);refine jh U ⟨k33.1,(dp k33.2)⟩ (dl ho0 k33.2) ?_
    obtain⟨y4,hy4,H⟩:=cK H
    refine nq U Z Z Z Z Z Z Z Z (by rw[zl];exact(zg.1 k33.2).1) (PLe.refl _ _) Z Z Z Z (by decide) (eF (fun _=>Z) k33.2 Z hy4) ?_;refine ac (bh 3 U Z (aM (bh 3 U Z ?_)));obtain rfl:=az H;refine eB (y4,(Iw (s1.2.1+(1:Int))),(Iw (s1.2.2+(1:Int)))) () hg1 (Gh.le (bD (PLe.of2 (pE.of_eq (congrArg (PV.own 0 g_sA) (eQ (f:=rRr) hy4)))) (aw (aw (aw aS)))) aE (aL aF))
   refine ap (aM (bh 3 U Z ?_));obtain rfl:=az H;refine eB (s1.1,s1.2.1,(Iw (s1.2.2+(1:Int)))) () hg1 Gh.d
  refine bq Z ?_;obtain rfl:=az H;refine aV (s1.1,s1.2.1,s1.2.2) () hg1 Gh.d
 have H:=dT hn1 Hp1;refine ab (aa (ag 2 U Z ?_))
 obtain⟨y5,hy5,H⟩:=aq H
 have ky5:=qW hy5;refine vV (tag:=0) Z (fun hcy5=>?_);have hny5:(s1.1.map rRr).length=(List.map rRr s1.1).length:=rfl;have hmy5:=ky5.2.1;rw[<-zl (f:=rRr),<-hny5]at hmy5;rw[<-hny5]at hcy5;refine jl (l:=s1.2.1.toNat) (h:=(s1.1.map rRr).length) (m:=g_sA.cap) U Z Z Z Z Z Z ⟨_,_,rfl,(Int.toNat_of_nonneg ky5.1).symm⟩ Z Z (by decide) hmy5 hcy5 (Nat.le_refl _) Z (cu (Gh.cutO (tag:=0) (rows':=List.map rRr y5) Z s1.2.1.toNat (by rw[<-List.map_take,ky5.2.2])) ?_);refine pn (tag:=0) (rows:=List.map rRr y5) U Z Z Z Z Z Z Z Z Z (p:=s1.2.1.toNat) (q:=(s1.1.map rRr).length) (m:=g_sA.cap) (by rw[zl,ky5.2.2,List.length_take];exact Nat.min_le_left _ _) hmy5 hcy5 (Nat.le_refl _) Z ?_;refine ac (ab (aa (ag 2 U Z ?_)))
 obtain⟨y6,hy6,H⟩:=aq H
 have ky6:=qW hy6;refine vT (rows':=List.map rRr y6) U Z Z Z Z Z Z Z Z ⟨ky6.1,by rw[zl];exact ky6.2.1⟩ (by rw[<-List.map_take,ky6.2.2]) Z Z ?_;refine ah U Z (ac ?_);obtain rfl:=az H;refine cx (st':=⟨42,upd (fun _=>.any) 4 (.own 0 g_sA (y6.map rRr).length),fun _=>none,upd (fun _=>none) 0 (some ⟨g_sA,54,(y6.map rRr),true⟩)⟩) (Gh.le (aw aS) aE (aL aF)) ?_;refine cT U Z (ps:=[(.own 0 g_sA (y6.map rRr).length)]) ⟨_,_,rfl,rfl,rfl⟩ (PLe.of2 (pE.own Z)) ⟨rfl,rfl⟩
def hO(y:Rq)(c0:Rq):Option (Bool):=
 af (cf c0 y) fun x6=>
 some x6
theorem tu(y:Rq)(c0:Rq)(r:Bool)(H:hO y c0=some r):
  aQ prog 215 [(.list 69 (y.map ae)),(.ptr [(.list 69 (c0.map ae))])] (aK r):=by
 unfold hO at H;refine PH.av func215 ntmps215 ?_;refine am 1 U Z (ab (aa (ag 2 U Z ?_)))
 obtain⟨x6,h6,H⟩:=aq H
 have s6:=eC c0 y _ h6;refine ak call50 (jb.r) s6 ?_;refine ah U Z (ac ?_);exact bc U H Z
def gB(op:Rb)(l:Rq):Option (LVal):=
 cond (op==([99,111,117,110,116]:Rb))
  (letP (jL (l.length:Int)) fun x13=>
  some x13)
  (cond ((l.length:Int)==(0:Int))
   (some (LVal.mk 0 0 []))
   (af (aP l 0) fun(x19:LVal)=>
   af (aN (σ:=Int×LVal) (ρ:=Empty) (fun(_:Nat) (x1:LVal) (s1:Int×LVal)=>
    cond (op==([109,105,110]:Rb))
     (letP (mQ x1 s1.2) fun x36=>
     cond x36
      (some (.next ((Iw (s1.1+x1.int)),x1)))
      (cond (op==([109,97,120]:Rb))
       (letP (mQ s1.2 x1) fun x44=>
       cond x44
        (some (.next ((Iw (s1.1+x1.int)),x1)))
        (some (.next ((Iw (s1.1+x1.int)),s1.2))))
       (some (.next ((Iw (s1.1+x1.int)),s1.2)))))
     (cond (op==([109,97,120]:Rb))
      (letP (mQ s1.2 x1) fun x44=>
      cond x44
       (some (.next ((Iw (s1.1+x1.int)),x1)))
       (some (.next ((Iw (s1.1+x1.int)),s1.2))))
      (some (.next ((Iw (s1.1+x1.int)),s1.2))))) 0 l (0,x19)) fun fl1=>fl1.thenP fun(s1:Int×LVal)=>
   cond (op==([115,117,109]:Rb))
    (letP (jL s1.1) fun x52=>
    some x52)
    (some s1.2)))
theorem qE(op:Rb)(l:Rq)(r:LVal)(H:gB op l=some r):
  aQ prog 244 [(.str op),(.list 69 (l.map ae))] (.agg (ae r)):=by
 unfold gB at H;refine PH.av func244 ntmps244 ?_;refine ab (aa ?_);refine bf U fun b4=>?_
 refine ac (ab (am 2 U Z ?_));refine aH Z H (fun H=>?_) (fun H=>?_)
 ·refine ab (aa (ah U Z (aB U (zl _) ?_)))
  obtain⟨x13,h13,H⟩:=cK H
  have s13:=sM (l.length:Int);rw[h13]at s13;refine ak call232 (jb.r) s13 ?_;refine au U ?_;refine ac ?_;exact vG U H Z Z Z Z Z
 refine ap (ab (ab (aa (ah U Z (aB U (zl _) ?_)))));refine ah U Z (ac ?_);refine aH Z H (fun H=>?_) (fun H=>?_)
 ·refine ab (aa (ah U Z (au U ?_)));refine ac ?_;exact vG U H Z Z Z Z Z
 refine ap (ab (aa (ah U Z ?_)))
 obtain⟨x19,k19,H⟩:=bl H
 refine aU U k19.1 (aO (fun _=>Z) k19.2) ?_;refine ah U Z ?_;refine bf U fun b5=>?_
 refine au U ?_;refine ac (am 1 U Z (ab (ab (aa (ah U Z (aB U (zl _) ?_))))));refine ah U Z (ac ?_);refine fW U 23 22 21 (fun s1 g1=>upd (upd (upd (upd (fun _=>.any) 6 (al s1.1)) 5 (.box 5 b5 0)) 4 (.box 4 b4 0)) 0 (.str op)) (fun s1 g1=>upd (upd (fun _=>none) 5 (some ⟨b5,(ae s1.2)⟩)) 4 (some ⟨b4,[(al 0),(al 0),(.str [])]⟩)) nO () H (fun fl1 Hp1 j1 s1 g1 hz1 hl1 x1 fb1 hx1 H hg1=>?_) (fun s1 g1 H=>?_)
 ·refine ab (aA (ab (aa ?_)));refine aU U (zn j1) (bn (fun _=>Z) hx1) ?_;refine ah U Z ?_;refine bf U fun b8=>?_
  refine au U ?_;refine ac (ab (aa (ag 2 U Z (aD U ?_))));refine ag 2 U Z (ac (ab (aa (ag 3 U Z ?_))));refine bj Z Z Z H (fun H=>?_) (fun H=>?_)
  ·refine aD U ?_;refine aD U ?_
   obtain⟨x36,h36,H⟩:=cK H
   have s36:=nu x1 s1.2;rw[h36]at s36;refine ak call246 (jb.r) s36 ?_;refine ag 2 U Z ?_;refine bj Z Z Z H (fun H=>?_) (fun H=>?_)
   ·refine ag 8 U Z (ac (bW Z (aa (aD U ?_))));refine au U ?_;refine ac (aM (bh 2 U Z ?_));exact bm () H hl1 hg1
   refine ag 3 U Z ?_;refine bj Z Z Z H (fun H=>?_) (fun H=>?_)
   ·refine aD U ?_;refine aD U ?_
    obtain⟨x44,h44,H⟩:=cK H
    have s44:=nu s1.2 x1;rw[h44]at s44;refine ak call246 (jb.r) s44 ?_;refine ag 2 U Z (ac ?_);refine aH Z H (fun H=>?_) (fun H=>?_)
    ·refine aa (aD U ?_);refine au U ?_;refine ac (aM (bh 2 U Z ?_));exact bm () H hl1 hg1
    refine ap (aM (bh 2 U Z ?_));exact bm () H hl1 hg1
   refine ag 5 U Z (ac (bF Z (ap (aM (bh 2 U Z ?_)))));exact bm () H hl1 hg1
  refine ag 8 U Z ?_;refine bj Z Z Z H (fun H=>?_) (fun H=>?_)
  ·refine aD U ?_;refine aD U ?_
   obtain⟨x44,h44,H⟩:=cK H
   have s44:=nu s1.2 x1;rw[h44]at s44;refine ak call246 (jb.r) s44 ?_;refine ag 2 U Z (ac ?_);refine aH Z H (fun H=>?_) (fun H=>?_)
   ·refine aa (aD U ?_);refine au U ?_;refine ac (aM (bh 2 U Z ?_));exact bm () H hl1 hg1
   refine ap (aM (bh 2 U Z ?_));exact bm () H hl1 hg1
  refine ag 5 U Z (ac (bF Z (ap (aM (bh 2 U Z ?_)))));exact bm () H hl1 hg1
 refine ab (am 2 U Z ?_);refine aH Z H (fun H=>?_) (fun H=>?_)
 ·refine ab (aa (ah U Z ?_))
  obtain⟨x52,h52,H⟩:=cK H
  have s52:=sM s1.1;rw[h52]at s52;refine ak call232 (jb.r) s52 ?_;refine au U ?_;refine ac ?_;exact vG U H Z Z Z Z Z
 refine ap (ab (aa (aD U ?_)));refine au U ?_;refine ac ?_;exact vG U H Z Z Z Z Z
def dV(data:Rz)(a:Int)(m:Int)(b:Int)(cmp:Rq->Rq->Option (Int)):Option (Rz):=
 af (gq (σ:=Rz×Int×Int) (ρ:=Empty) (fun(s1:Rz×Int×Int)=>
  cond (s1.2.1 !=s1.2.2)
   (cond (decide (s1.2.1>s1.2.2))
    (af (cM s1.1 (Iw (m-s1.2.1)) m s1.2.2 cmp) fun x31=>
    af (fg (x31.length=s1.1.length) ()) fun(_:Unit)=>
    some (.next (x31,(Iw (s1.2.1-s1.2.2)),s1.2.2)))
    (af (cM s1.1 (Iw (m-s1.2.1)) (Iw ((Iw (m+s1.2.2))-s1.2.1)) s1.2.1 cmp) fun x46=>
    af (fg (x46.length=s1.1.length) ()) fun(_:Unit)=>
    some (.next (x46,s1.2.1,(Iw (s1.2.2-s1.2.1))))))
   (some (.brk (s1.1,s1.2.1,s1.2.2)))) (data,(Iw (m-a)),(Iw (b-m)))) fun fl1=>fl1.thenP fun(s1:Rz×Int×Int)=>
 af (cM s1.1 (Iw (m-s1.2.1)) m s1.2.1 cmp) fun x57=>
 af (fg (x57.length=s1.1.length) ()) fun(_:Unit)=>
 some x57
theorem nw(g_data:OwnRef){g_cmp:FuncId}{caps_cmp:List PV}(data:Rz)(a:Int)(m:Int)(b:Int)(cmp:Rq->Rq->Option (Int))(hg_cmp:∀(vs:Array Value) (w:World),(callFunc g_cmp vs).run prog w= .ok (.enter g_cmp vs) w)(hp_cmp:∀a0 a1 r,cmp a0 a1=some r->aQ prog g_cmp ((.list 69 (a0.map ae))::(.list 69 (a1.map ae))::caps_cmp) (al r))(r:Rz)(H:dV data a m b cmp=some r):
  PH prog 278 [(.own 0 g_data (data.map rRr).length),(al a),(al m),(al b),(.fn g_cmp caps_cmp)] ⟨fun _=>none,upd (fun _=>none) 0 (some ⟨g_data,54,(data.map rRr),true⟩)⟩ (fun u H=>u=(.tup [])/\H=⟨fun _=>none,upd (fun _=>none) 0 (some ⟨g_data,54,(r.map rRr),true⟩)⟩):=by
 unfold dV at H;refine PH.av func278 ntmps278 ?_;refine am 4 U Z (am 4 U Z (ab ?_))
 obtain⟨fl1,H1,Hp1⟩:=aq H
 refine fm (τ:=Rz×Int×Int) (γ:=Unit) (fun s1 g1=>⟨58,upd (upd (upd (upd (fun _=>.any) 10 (al s1.2.1)) 4 (.fn g_cmp caps_cmp)) 2 (al m)) 0 (.own 0 g_data (s1.1.map rRr).length),fun _=>none,upd (fun _=>none) 0 (some ⟨g_data,54,(s1.1.map rRr),true⟩)⟩) (fun t=>fl1= .next t) ?_ (fun s1 g1 hn1=>?_)
 ·refine aA ?_;refine ir (fun s1 g1=>⟨58,upd (upd (upd (upd (upd (fun _=>.any) 11 (al s1.2.2)) 10 (al s1.2.1)) 4 (.fn g_cmp caps_cmp)) 2 (al m)) 0 (.own 0 g_data (s1.1.map rRr).length),fun _=>none,upd (fun _=>none) 0 (some ⟨g_data,54,(s1.1.map rRr),true⟩)⟩) () H1 Gh.d (fun m1 s1 g1 hr1=>?_)
  obtain⟨fb1,H,hg1⟩:=fP hr1
  refine ab (am 3 U Z ?_);refine aH Z H (fun H=>?_) (fun H=>?_)
  ·refine ap (aA (am 3 U Z ?_));refine aH Z H (fun H=>?_) (fun H=>?_)
   ·refine ab (aa (ag 7 U Z ?_))
    obtain⟨x31,h31,H⟩:=aq H
    have s31:=ii g_data s1.1 (Iw (m-s1.2.1)) m s1.2.2 cmp hg_cmp hp_cmp _ h31
    obtain⟨_,q31_0,H⟩:=aq H
    have l31_0:=(dy q31_0).1;have z31_0:(List.map rRr s1.1).length=(List.map rRr x31).length:=by simpa using(l31_0).symm
    refine cq (g:=286) Z Z Z call286 [] [(0,0)] Z Z Z Z (jb.of2 (jk.cons (pE.own Z) (jk.cons (pE.of_eq Z) (jk.cons (pE.of_eq Z) (jk.cons (pE.of_eq Z) (jk.cons (pE.of_eq Z) jk.nil)))))) (by rw[bO,be,bH];rfl) s31 ?_;rintro u31 H31h ⟨rfl,rfl⟩
    refine⟨_,rfl,?_⟩
    refine cu (st':=⟨_,_,fun _=>none,upd (fun _=>none) 0 (some ⟨g_data,54,(x31.map rRr),true⟩)⟩) (Gh.le (bL _ _) aE (aL aF)) ?_;refine ac (bh 4 U Z (aM ?_));obtain rfl:=az H;refine eB (x31,(Iw (s1.2.1-s1.2.2)),s1.2.2) () hg1 (Gh.le (bD (PLe.of2 (pE.of_eq (congrArg (PV.own 0 g_data) z31_0))) (aw (aw (aw (aw aS))))) aE (aL aF))
   refine ab (aa (ag 11 U Z ?_))
   obtain⟨x46,h46,H⟩:=aq H
   have s46:=ii g_data s1.1 (Iw (m-s1.2.1)) (Iw ((Iw (m+s1.2.2))-s1.2.1)) s1.2.1 cmp hg_cmp hp_cmp _ h46
   obtain⟨_,q46_0,H⟩:=aq H
   have l46_0:=(dy q46_0).1;have z46_0:(List.map rRr s1.1).length=(List.map rRr x46).length:=by simpa using(l46_0).symm
   refine cq (g:=286) Z Z Z call286 [] [(0,0)] Z Z Z Z (jb.of2 (jk.cons (pE.own Z) (jk.cons (pE.of_eq Z) (jk.cons (pE.of_eq Z) (jk.cons (pE.of_eq Z) (jk.cons (pE.of_eq Z) jk.nil)))))) (by rw[bO,be,bH];rfl) s46 ?_;rintro u46 H46h ⟨rfl,rfl⟩
   refine⟨_,rfl,?_⟩
   refine cu (st':=⟨_,_,fun _=>none,upd (fun _=>none) 0 (some ⟨g_data,54,(x46.map rRr),true⟩)⟩) (Gh.le (bL _ _) aE (aL aF)) ?_;refine ac (bh 4 U Z (aM ?_));obtain rfl:=az H;refine eB (x46,s1.2.1,(Iw (s1.2.2-s1.2.1))) () hg1 (Gh.le (bD (PLe.of2 (pE.of_eq (congrArg (PV.own 0 g_data) z46_0))) (aw (aw (aw (aw aS))))) aE (aL aF))
  refine bq Z ?_;obtain rfl:=az H;refine aV (s1.1,s1.2.1,s1.2.2) () hg1 Gh.d
 have H:=dT hn1 Hp1;refine aa (ag 7 U Z ?_)
 obtain⟨x57,h57,H⟩:=aq H
 have s57:=ii g_data s1.1 (Iw (m-s1.2.1)) m s1.2.1 cmp hg_cmp hp_cmp _ h57
 obtain⟨_,q57_0,H⟩:=aq H
 have l57_0:=(dy q57_0).1;have z57_0:(List.map rRr s1.1).length=(List.map rRr x57).length:=by simpa using(l57_0).symm
 refine cq (g:=286) Z Z Z call286 [] [(0,0)] Z Z Z Z (jb.of2 (jk.cons (pE.own Z) (jk.cons (pE.of_eq Z) (jk.cons (pE.of_eq Z) (jk.cons (pE.of_eq Z) (jk.cons (pE.of_eq Z) jk.nil)))))) (by rw[bO,be,bH];rfl) s57 ?_;rintro u57 H57h ⟨rfl,rfl⟩
 refine⟨_,rfl,?_⟩
 refine cu (st':=⟨_,_,fun _=>none,upd (fun _=>none) 0 (some ⟨g_data,54,(x57.map rRr),true⟩)⟩) (Gh.le (bL _ _) aE (aL aF)) ?_;refine ac ?_;obtain rfl:=az H;refine cx (st':=⟨58,fun _=>.any,fun _=>none,upd (fun _=>none) 0 (some ⟨g_data,54,(x57.map rRr),true⟩)⟩) (Gh.le aS aE (aL aF)) ?_;refine mg Z (PLe.q Z) ⟨rfl,rfl⟩
def it(rows:Rz):Option (Rz):=
 af (aN (σ:=Rz) (ρ:=Empty) (fun(_:Nat) (x1:Rq) (s1:Rz)=>
  af (cJ 24 s1 ([x1]:Rz)) fun(x16:Rz)=>
  some (.next x16)) 0 rows []) fun fl1=>fl1.thenP fun(s1:Rz)=>
 some s1
theorem mT{m:Nat}(rows:Rz)(r:Rz)(H:it rows=some r):
  ie prog 57 [(.list 54 (rows.map rRr))] (ku m 54 (r.map rRr)):=by
 unfold it at H;refine PH.av func57 ntmps57 ?_;refine am 1 U Z (am 1 U Z (ab (ab (aa (ah U Z (aB U (zl _) ?_))))));refine ah U Z (ac (gQ U 3 16 (e:=54) Z Z ?_));refine fW (γ:=OwnRef) U 8 7 6 (fun s1 g1=>upd (fun _=>.any) 3 (.own 16 g1 (s1.map rRr).length)) nB (fun s1 g1=>upd (fun _=>none) 16 (some ⟨g1,54,(s1.map rRr),true⟩)) (⟨none,0⟩) H (fun fl1 Hp1 j1 s1 g1 hz1 hl1 x1 fb1 hx1 H hg1=>?_) (fun s1 g1 H=>?_)
 ·refine ab (aA (ab (aa ?_)));refine aU U (zn j1) (bn (fun _=>Z) hx1) ?_;refine ag 2 U Z (ac (aa (ag 2 U Z ?_)));have s14:=qz (m:=14) x1;refine ak call85 (jb.r) (PFun.ik s14) ?_;refine ci U (rows':=List.map rRr ([x1]:Rz)) (gH.refl _) ?_
  obtain⟨x16,h16,H⟩:=aq H
  have k16:=bS h16;refine bX (rows2':=List.map rRr ([x1]:Rz)) (rows':=List.map rRr x16) U Z Z Z Z Z Z Z Z Z Z Z Z Z (gH.refl _) (cD k16.1) (cC k16.2.1) (cE k16.2.2) fun g16=>?_
  refine ah U Z (ac (aM (bh 2 U Z ?_)));exact bm g16 H hl1 hg1
 refine am 2 U Z ?_;obtain rfl:=az H;refine gL U Z
def iI(t:LTable)(key:Rq):Option (Int):=
 cond ((key.length:Int) !=(t.primaryKey.length:Int))
  (some 3)
  (af (aN (σ:=Unit) (ρ:=(Int)) (fun(j1:Nat) (x1:LVal) (_:Unit)=>
   letP (dH x1) fun x22=>
   cond (x22 !=(0:Int))
    (some (.ret x22))
    (af (aP t.primaryKey (j1:Int)) fun(x33:Int)=>
    af (aP t.columns x33) fun(x35:LCol)=>
    cond (x1.kind !=x35.kind)
     (some (.ret 7))
     (some (.next ())))) 0 key ()) fun fl1=>fl1.thenR fun(_:Unit)=>
  some 0)
theorem sO(t:LTable)(key:Rq)(r:Int)(H:iI t key=some r):
  aQ prog 84 [(.agg (bv t)),(.list 69 (key.map ae))] (al r):=by
 unfold iI at H;refine PH.av func84 ntmps84 ?_;refine ab (aa (aJ ?_));refine ah U Z (ac (ab (ab (aa (ah U Z (aB U (zl _) ?_))))));refine ag 2 U Z (aB U (zl _) ?_);refine ah U Z (ac ?_);refine aH Z H (fun H=>?_) (fun H=>?_)
 ·refine am 1 U Z ?_;exact bc U H Z
 refine ap (ab (ab (aa (ah U Z (aB U (zl _) ?_)))));refine ah U Z (ac ?_);refine eG U 16 15 14 (fun s1 g1=>upd (fun _=>.any) 2 (.ptr (bv t))) nB nO () H (fun fl1 Hp1 j1 s1 g1 hz1 hl1 x1 fb1 hx1 H hg1=>?_) (fun s1 g1 H=>?_)
 ·refine ab (aA (ab (aa (ah U Z ?_))));refine aU U (zn j1) (bn (fun _=>Z) hx1) ?_;refine ah U Z ?_;refine bf U fun b6=>?_
  refine ah U Z (au U ?_);refine ac (ab (ab (aa (aD U ?_))))
  obtain⟨x22,h22,H⟩:=cK H
  have s22:=mW x1;rw[h22]at s22;refine ak call110 (jb.r) s22 ?_;refine ah U Z (ac (am 2 U Z ?_));refine aH Z H (fun H=>?_) (fun H=>?_)
  ·refine am 2 U Z ?_;obtain rfl:=az H;have e1:fl1= .ret _:=hg1;subst e1;obtain rfl:=aT Hp1;refine ba U Z (ps:=[(al x22)]) ⟨_,_,rfl,rfl,rfl⟩ (PLe.q Z)
  refine ap (ab (bd U mok ⟨true,false,[29,31,34,37]⟩ [0,1,2,3,4,5,6,7,8,9,10,11,12] Z (by decide+kernel) Z (bA Z (bi ?_))));refine aG 5 Z ?_
  obtain⟨x33,k33,H⟩:=bl H
  refine bs k33.1 (aO (fun _=>Z) k33.2) ?_;refine bA Z ?_
  obtain⟨x35,k35,H⟩:=bl H
  refine bs k35.1 (aO (fun _=>Z) k35.2) ?_;refine aG 3 Z (aZ ?_);refine aH Z H (fun H=>?_) (fun H=>?_)
  ·refine am 1 U Z ?_;obtain rfl:=az H;have e1:fl1= .ret _:=hg1;subst e1;obtain rfl:=aT Hp1;refine ba U Z (ps:=[(al 7)]) ⟨_,_,rfl,rfl,rfl⟩ (PLe.q Z)
  refine ap (aM (bh 2 U Z ?_));exact bm () H hl1 hg1
 refine am 1 U Z ?_;exact bc U H Z
def jq(a:LChange)(b:LChange):Option (Bool):=
 cond (a.kind==b.kind)
  (cond (a.table==b.table)
   (af (cf a.key b.key) fun x22=>
   cond x22
    (af (cf a.row b.row) fun x29=>
    some x29)
    (some false))
   (some false))
  (some false)
theorem rl(a:LChange)(b:LChange)(r:Bool)(H:jq a b=some r):
  aQ prog 18 [(.agg (bV a)),(.agg (bV b))] (aK r):=by
 unfold jq at H;refine PH.av func18 ntmps18 ?_;refine ab (aa (aJ ?_));refine aJ ?_;refine ah U Z (ac (ab (aa (ag 6 U Z ?_))));refine bj Z Z Z H (fun H=>?_) (fun H=>?_)
 ·refine ag 7 U Z ?_;refine bj Z Z Z H (fun H=>?_) (fun H=>?_)
  ·refine ag 4 U Z ?_
   obtain⟨x22,h22,H⟩:=aq H
   have s22:=eC a.key b.key _ h22;refine ak call50 (jb.r) s22 ?_;refine ag 2 U Z ?_;refine bj Z Z Z H (fun H=>?_) (fun H=>?_)
   ·refine ag 4 U Z ?_
    obtain⟨x29,h29,H⟩:=aq H
    have s29:=eC a.row b.row _ h29;refine ak call50 (jb.r) s29 ?_;refine ag 2 U Z (ac ?_);exact bc U H Z
   refine ag 7 U Z (ac ?_);exact bc U H Z
  refine ag 14 U Z (ac ?_);exact bc U H Z
 refine ag 21 U Z (ac ?_);exact bc U H Z
def jr(x:Rq)(y:Rq):Option (Bool):=
 af (cf x y) fun x7=>
 some x7
theorem re(x:Rq)(y:Rq)(r:Bool)(H:jr x y=some r):
  aQ prog 52 [(.list 69 (x.map ae)),(.list 69 (y.map ae))] (aK r):=by
 unfold jr at H;refine PH.av func52 ntmps52 ?_;refine am 1 U Z (ab (aa (ag 2 U Z ?_)))
 obtain⟨x7,h7,H⟩:=aq H
 have s7:=eC x y _ h7;refine ak call50 (jb.r) s7 ?_;refine ah U Z (ac ?_);exact bc U H Z
def fY(t:LTable):Option (Int):=
 af (gA t.name) fun x11=>
 cond (!x11)
  (some 23)
  (cond ((t.columns.length:Int)==(0:Int))
   (some 3)
   (cond (decide ((t.columns.length:Int)>(6:Int)))
    (some 2)
    (af (aN (σ:=Unit) (ρ:=(Int)) (fun(j1:Nat) (x1:LCol) (_:Unit)=>
     af (gA x1.name) fun x31=>
     cond (!x31)
      (some (.ret 23))
      (af (hC t x1.name) fun x37=>
      cond (decide (x37.1<(j1:Int)))
       (some (.ret 5))
       (cond (decide (x1.kind<(1:Int)))
        (some (.ret 7))
        (cond (decide (x1.kind>(3:Int)))
         (some (.ret 7))
         (some (.next ())))))) 0 t.columns ()) fun fl1=>fl1.thenR fun(_:Unit)=>
    af (aN (σ:=Unit) (ρ:=(Int)) (fun(j2:Nat) (x2:Int) (_:Unit)=>
     cond (decide (x2<(0:Int)))
      (some (.ret 9))
      (cond (decide (x2>=(t.columns.length:Int)))
       (some (.ret 9))
       (af (aP t.columns x2) fun(x73:LCol)=>
       cond x73.nullable
        (some (.ret 9))
        (cond (decide ((j2:Int)>(0:Int)))
         (af (aP t.primaryKey (Iw ((j2:Int)-(1:Int)))) fun(x86:Int)=>
         cond (decide (x2<=x86))
          (some (.ret 9))
          (some (.next ())))
         (some (.next ())))))) 0 t.primaryKey ()) fun fl2=>fl2.thenR fun(_:Unit)=>
    cond ((t.primaryKey.length:Int)==(0:Int))
     (some 9)
     (some 0))))
theorem ra(t:LTable)(r:Int)(H:fY t=some r):
  aQ prog 71 [(.agg (bv t))] (al r):=by
 unfold fY at H;refine PH.av func71 ntmps71 ?_;refine ab (aa (aJ ?_));refine ah U Z (ac (ab (ab (aa (ag 2 U Z ?_)))))
 obtain⟨x11,h11,H⟩:=aq H
 have s11:=oY t.name _ h11;refine ak call105 (jb.r) s11 ?_;refine ah U Z (ac ?_);refine aH Z H (fun H=>?_) (fun H=>?_)
 ·refine am 1 U Z ?_;exact bc U H Z
 refine ap (ab (ab (aa (ag 2 U Z (aB U (zl _) ?_)))));refine ah U Z (ac ?_);refine aH Z H (fun H=>?_) (fun H=>?_)
 ·refine am 1 U Z ?_;exact bc U H Z
 refine ap (ab (ab (aa (ag 2 U Z (aB U (zl _) ?_)))));refine ah U Z (ac ?_);refine aH Z H (fun H=>?_) (fun H=>?_)
 ·refine am 1 U Z ?_;exact bc U H Z
 refine ap (ab (ab (aa (ag 2 U Z (aB U (zl _) ?_)))));refine ah U Z (ac ?_);refine eG U 24 23 22 (fun s1 g1=>upd (fun _=>.any) 1 (.ptr (bv t))) nB nO () H (fun fl1 Hp1 j1 s1 g1 hz1 hl1 x1 fb1 hx1 H hg1=>?_) (fun s1 g1 H=>?_)
 ·refine ab (aA (ab (aa (ah U Z ?_))));refine aU U (zn j1) (bn (fun _=>Z) hx1) ?_;refine ah U Z ?_;refine bf U fun b4=>?_
  refine ah U Z (au U ?_);refine ac (ab (ab (aa (ah U Z (aD U ?_)))))
  obtain⟨x31,h31,H⟩:=aq H
  have s31:=oY x1.name _ h31;refine ak call105 (jb.r) s31 ?_;refine ah U Z (ac ?_);refine aH Z H (fun H=>?_) (fun H=>?_)
  ·refine am 1 U Z ?_;obtain rfl:=az H;have e1:fl1= .ret _:=hg1;subst e1;obtain rfl:=aT Hp1;refine ba U Z (ps:=[(al 23)]) ⟨_,_,rfl,rfl,rfl⟩ (PLe.q Z)
  refine ap (ab (ab (aa (ag 2 U Z (aD U ?_)))))
  obtain⟨x37,h37,H⟩:=aq H
  have s37:=tj t x1.name _ h37;refine ak call106 (jb.r) s37 ?_;refine ag 5 U Z (ac (am 3 U Z ?_));refine aH Z H (fun H=>?_) (fun H=>?_)
  ·refine am 1 U Z ?_;obtain rfl:=az H;have e1:fl1= .ret _:=hg1;subst e1;obtain rfl:=aT Hp1;refine ba U Z (ps:=[(al 5)]) ⟨_,_,rfl,rfl,rfl⟩ (PLe.q Z)
  refine ap (ab (aa (ah U Z (aD U ?_))));refine ag 2 U Z ?_;refine bj Z Z Z H (fun H=>?_) (fun H=>?_)
  ·refine ag 4 U Z (ac (bW Z (am 1 U Z ?_)));obtain rfl:=az H;have e1:fl1= .ret _:=hg1;subst e1;obtain rfl:=aT Hp1;refine ba U Z (ps:=[(al 7)]) ⟨_,_,rfl,rfl,rfl⟩ (PLe.q Z)
  refine ah U Z (aD U ?_);refine ag 2 U Z (ac ?_);refine aH Z H (fun H=>?_) (fun H=>?_)
  ·refine am 1 U Z ?_;obtain rfl:=az H;have e1:fl1= .ret _:=hg1;subst e1;obtain rfl:=aT Hp1;refine ba U Z (ps:=[(al 7)]) ⟨_,_,rfl,rfl,rfl⟩ (PLe.q Z)
  refine ap (aM (bh 2 U Z ?_));exact bm () H hl1 hg1
 refine ab (ab (aa (ag 2 U Z (aB U (zl _) ?_))));refine ah U Z (ac ?_);refine eG U 55 54 53 (fun s2 g2=>upd (fun _=>.any) 1 (.ptr (bv t))) nB nO () H (fun fl2 Hp2 j2 s2 g2 hz2 hl2 x2 fb2 hx2 H hg2=>?_) (fun s2 g2 H=>?_)
 ·refine ab (aA (ab (aa (ah U Z ?_))));refine aU U (zn j2) (bn (fun _=>Z) hx2) ?_;refine ag 3 U Z (ac (ab (aa (ag 3 U Z ?_))));refine bj Z Z Z H (fun H=>?_) (fun H=>?_)
  ·refine ag 28 U Z (ac (bW Z (am 1 U Z ?_)));obtain rfl:=az H;have e2:fl2= .ret _:=hg2;subst e2;obtain rfl:=aT Hp2;refine ba U Z (ps:=[(al 9)]) ⟨_,_,rfl,rfl,rfl⟩ (PLe.q Z)
  refine ag 3 U Z (aB U (zl _) ?_);refine ag 3 U Z ?_;refine bj Z Z Z H (fun H=>?_) (fun H=>?_)
  ·refine ag 21 U Z (ac (bW Z (am 1 U Z ?_)));obtain rfl:=az H;have e2:fl2= .ret _:=hg2;subst e2;obtain rfl:=aT Hp2;refine ba U Z (ps:=[(al 9)]) ⟨_,_,rfl,rfl,rfl⟩ (PLe.q Z)
  refine ag 3 U Z ?_
  obtain⟨x73,k73,H⟩:=bl H
  refine aU U k73.1 (aO (fun _=>Z) k73.2) ?_;refine ag 4 U Z ?_;refine bj Z Z Z H (fun H=>?_) (fun H=>?_)
  ·refine ag 13 U Z (ac (bW Z (am 1 U Z ?_)));obtain rfl:=az H;have e2:fl2= .ret _:=hg2;subst e2;obtain rfl:=aT Hp2;refine ba U Z (ps:=[(al 9)]) ⟨_,_,rfl,rfl,rfl⟩ (PLe.q Z)
  refine ag 3 U Z ?_;refine bj Z Z Z H (fun H=>?_) (fun H=>?_)
  ·refine ag 5 U Z ?_
   obtain⟨x86,k86,H⟩:=bl H
   refine aU U k86.1 (aO (fun _=>Z) k86.2) ?_;refine ag 4 U Z (ac ?_);refine aH Z H (fun H=>?_) (fun H=>?_)
   ·refine am 1 U Z ?_;obtain rfl:=az H;have e2:fl2= .ret _:=hg2;subst e2;obtain rfl:=aT Hp2;refine ba U Z (ps:=[(al 9)]) ⟨_,_,rfl,rfl,rfl⟩ (PLe.q Z)
   refine ap (aM (bh 2 U Z ?_));exact bm () H hl2 hg2
  refine ag 10 U Z (ac (bF Z (ap (aM (bh 2 U Z ?_)))));exact bm () H hl2 hg2
 refine ab (ab (aa (ag 2 U Z (aB U (zl _) ?_))));refine ah U Z (ac ?_);refine aH Z H (fun H=>?_) (fun H=>?_)
 ·refine am 1 U Z ?_;exact bc U H Z
 refine ap (am 1 U Z ?_);exact bc U H Z
def fG(sA:LSchema)(fk:LF):Option (Int):=
 af (dS sA fk.table) fun x17=>
 af (dS sA fk.refTable) fun x24=>
 letP (
  cond (!x17.2)
   (true)
   ((!x24.2))) fun(t1:Bool)=>
 cond t1
  (some 4)
  (af (aP sA.tables x17.1) fun(x36:LTable)=>
  af (aP sA.tables x24.1) fun(x41:LTable)=>
  cond ((fk.columns.length:Int) !=(x41.primaryKey.length:Int))
   (some 3)
   (af (aN (σ:=Unit) (ρ:=(Int)) (fun(j2:Nat) (x2:Int) (_:Unit)=>
    letP (
     cond (decide (x2<(0:Int)))
      (true)
      ((decide (x2>=(x36.columns.length:Int))))) fun(t4:Bool)=>
    cond t4
     (some (.ret 3))
     (af (aP x36.columns x2) fun(x70:LCol)=>
     af (aP x41.primaryKey (j2:Int)) fun(x78:Int)=>
     af (aP x41.columns x78) fun(x80:LCol)=>
     cond (x70.kind !=x80.kind)
      (some (.ret 7))
      (some (.next ())))) 0 fk.columns ()) fun fl2=>fl2.thenR fun(_:Unit)=>
   some 0))
theorem pr(sA:LSchema)(fk:LF)(r:Int)(H:fG sA fk=some r):
  aQ prog 72 [(.agg (cy sA)),(.agg (gM fk))] (al r):=by
 unfold fG at H;refine PH.av func72 ntmps72 ?_;refine ab (aa (aJ ?_));refine aJ ?_;refine ah U Z (ac (ab (aa (ag 3 U Z ?_))))
 obtain⟨x17,h17,H⟩:=aq H
 have s17:=jw sA fk.table _ h17;refine ak call28 (jb.r) s17 ?_;refine ag 5 U Z (ac (ab (aa (ag 3 U Z ?_))))
 obtain⟨x24,h24,H⟩:=aq H
 have s24:=jw sA fk.refTable _ h24;refine ak call28 (jb.r) s24 ?_;refine ag 5 U Z (ac (ab (ab ?_)));refine fA (γ:=Unit) (fun t1 g1=>⟨85,upd (upd (upd (upd (upd (fun _=>.any) 32 (aK t1)) 7 (al x24.1)) 5 (al x17.1)) 3 (.ptr (gM fk))) 2 (.ptr (cy sA)),fun _=>none,fun _=>none⟩) H (fun _ H=>?_) (fun t1 g1 H=>?_)
 ·refine aa (ag 3 U Z ?_);refine bj Z Z Z H (fun H=>?_) (fun H=>?_)
  ·refine ag 3 U Z (ac ?_);refine aV _ () H Gh.d
  refine ag 3 U Z (ac ?_);refine aV _ () H Gh.d
 refine aH Z H (fun H=>?_) (fun H=>?_)
 ·refine am 1 U Z ?_;exact bc U H Z
 refine ap (ab (bd U mok ⟨false,false,[]⟩ [0,1,2,3,4,5,6,7,8,9,10,11,12,13] Z (by decide+kernel) Z (aG 3 Z ?_)))
 obtain⟨x36,k36,H⟩:=bl H
 refine bs k36.1 (aO (fun _=>Z) k36.2) ?_;refine aG 4 Z ?_
 obtain⟨x41,k41,H⟩:=bl H
 refine bs k41.1 (aO (fun _=>Z) k41.2) ?_;refine bA Z ?_;refine oH Z Z Z Z Z Z Z Z fun b9=>?_
 refine oH Z Z Z Z Z Z Z Z fun b10=>?_
 refine gw Z Z Z Z Z Z Z Z Z Z Z Z (gw Z Z Z Z Z Z Z Z Z Z Z Z (aZ (ab (ab (aa (ag 2 U Z (aB U (zl _) ?_)))))));refine ah U Z (aD U ?_);refine aB U (zl _) ?_;refine ah U Z (ac ?_);refine aH Z H (fun H=>?_) (fun H=>?_)
 ·refine am 1 U Z ?_;exact bc U H Z
 refine ap (ab (ab (aa (ag 2 U Z (aB U (zl _) ?_)))));refine ah U Z (ac ?_)
 obtain⟨fl2,H2,Hp2⟩:=aq H
 refine ib U 51 Z Z (fun hz2 _=>?_);rw[zl]at hz2;refine fm (τ:=Unit) (γ:=Unit) (fun s2 g2=>⟨85,fun _=>.any,fun _=>none,fun _=>none⟩) (fun t=>fl2= .next t) ?_ (fun s2 g2 hn2=>?_)
 ·refine aA ?_;refine iH (fun j2 s2 g2=>⟨85,upd (upd (upd (upd (upd (fun _=>.any) 53 (al (j2:Int))) 52 (al (fk.columns.length:Int))) 51 (.list 3 (fk.columns.map bQ))) 10 (.box 10 b10 0)) 9 (.box 9 b9 0),upd (upd (fun _=>none) 10 (some ⟨b10,(bv x41)⟩)) 9 (some ⟨b9,(bv x36)⟩),fun _=>none⟩) () H2 Gh.d (fun j2 s2 g2 hj2 hr2=>?_);refine am 1 U Z (ab ?_);refine bp Z (fun h=>?_) (fun h=>?_)
  ·have hl2:=pm h
   obtain⟨x2,fb2,hx2,H,hg2⟩:=rMc hl2 hr2
   refine ap (ab (aA (ab (aa (ah U Z ?_)))));refine aU U (zn j2) (bn (fun _=>Z) hx2) ?_;refine ag 3 U Z (ac (ab (ab ?_)));refine fA (γ:=Unit) (fun t4 g4=>⟨85,upd (upd (upd (upd (upd (upd (upd (upd (fun _=>.any) 66 (aK t4)) 53 (al (j2:Int))) 52 (al (fk.columns.length:Int))) 51 (.list 3 (fk.columns.map bQ))) 12 (al x2)) 11 (al (j2:Int))) 10 (.box 10 b10 0)) 9 (.box 9 b9 0),upd (upd (fun _=>none) 10 (some ⟨b10,(bv x41)⟩)) 9 (some ⟨b9,(bv x36)⟩),fun _=>none⟩) H (fun _ H=>?_) (fun t4 g4 H=>?_)
   ·refine aa (ag 3 U Z ?_);refine bj Z Z Z H (fun H=>?_) (fun H=>?_)
    ·refine ag 6 U Z (ac ?_);refine aV _ () H Gh.d
    refine ag 2 U Z (aD U ?_);refine aB U (zl _) ?_;refine ag 2 U Z (ac ?_);refine aV _ () H Gh.d
   refine aH Z H (fun H=>?_) (fun H=>?_)
   ·refine am 1 U Z ?_;obtain rfl:=az H;have e2:fl2= .ret _:=hg2;subst e2;obtain rfl:=aT Hp2;refine ba U Z (ps:=[(al 3)]) ⟨_,_,rfl,rfl,rfl⟩ (PLe.q Z)
   refine ap (ab (bd U mok ⟨true,false,[72,79,82]⟩ [0,1,2,3,4,5,6,7,8,9,10,11,12,13,14,15,16] Z (by decide+kernel) Z (bA Z (bi ?_))));refine bA Z ?_
   obtain⟨x70,k70,H⟩:=bl H
   refine bs k70.1 (aO (fun _=>Z) k70.2) ?_;refine aG 3 Z (bi ?_);refine bA Z (bi ?_);refine bA Z ?_
   obtain⟨x78,k78,H⟩:=bl H
   refine bs k78.1 (aO (fun _=>Z) k78.2) ?_;refine bA Z ?_
   obtain⟨x80,k80,H⟩:=bl H
   refine bs k80.1 (aO (fun _=>Z) k80.2) ?_;refine aG 3 Z (aZ ?_);refine aH Z H (fun H=>?_) (fun H=>?_)
   ·refine am 1 U Z ?_;obtain rfl:=az H;have e2:fl2= .ret _:=hg2;subst e2;obtain rfl:=aT Hp2;refine ba U Z (ps:=[(al 7)]) ⟨_,_,rfl,rfl,rfl⟩ (PLe.q Z)
   refine ap (aM (bh 2 U Z ?_));exact bm () H hl2 hg2
  have hn2:=rMd (pz h) hr2;refine bq Z ?_;refine aV s2 g2 hn2 Gh.d
 have H:=lA hn2 Hp2;refine am 1 U Z ?_;exact bc U H Z
def gZ(other:LF)(c0:LF):Option (Bool):=
 af (iz other c0) fun x6=>
 some x6
theorem tv(other:LF)(c0:LF)(r:Bool)(H:gZ other c0=some r):
  aQ prog 74 [(.agg (gM other)),(.ptr (gM c0))] (aK r):=by
 unfold gZ at H;refine PH.av func74 ntmps74 ?_;refine ab (aa (aJ ?_));refine ah U Z (ac (ab (aa (ag 2 U Z ?_))))
 obtain⟨x6,h6,H⟩:=aq H
 have s6:=pJ other c0 _ h6;refine ak call75 (jb.r) s6 ?_;refine ah U Z (ac ?_);exact bc U H Z
def kE(a:LVal)(b:LVal):Int:=
 letP (gY a.kind b.kind) fun x11=>
 cond (x11 !=(0:Int))
  (x11)
  (letP (gY a.int b.int) fun x19=>
  cond (x19 !=(0:Int))
   (x19)
   (letP (kT a.text b.text) fun x27=>
   x27))
theorem qM(a:LVal)(b:LVal):
  aQ prog 112 [(.agg (ae a)),(.agg (ae b))] (al (kE a b)):=by
 obtain⟨r,H⟩:∃r,kE a b=r:=⟨_,rfl⟩
 rw[H];unfold kE at H;refine PH.av func112 ntmps112 ?_;refine ab (aa (aJ ?_));refine aJ ?_;refine ah U Z (ac (ab (ab (aa (ag 4 U Z ?_)))))
 obtain⟨x11,h11,H⟩:=cK H
 have s11:=lQ a.kind b.kind;rw[h11]at s11;refine ak call113 (jb.r) s11 ?_;refine ah U Z (ac (am 2 U Z ?_));refine aH Z H (fun H=>?_) (fun H=>?_)
 ·refine am 2 U Z ?_;exact ez U H Z
 refine ap (ab (ab (aa (ag 4 U Z ?_))))
 obtain⟨x19,h19,H⟩:=cK H
 have s19:=lQ a.int b.int;rw[h19]at s19;refine ak call113 (jb.r) s19 ?_;refine ah U Z (ac (am 2 U Z ?_));refine aH Z H (fun H=>?_) (fun H=>?_)
 ·refine am 2 U Z ?_;exact ez U H Z
 refine ap (ab (aa (ag 4 U Z ?_)))
 obtain⟨x27,h27,H⟩:=cK H
 have s27:=uI a.text b.text;rw[h27]at s27;refine ak call172 (jb.r) s27 ?_;refine ah U Z (ac ?_);exact ez U H Z
def ce(kinds:List Int)(c0:LS):Option (Bool):=
 af (ef kinds c0.kind) fun x7=>
 some x7
theorem de(kinds:List Int)(c0:LS)(r:Bool)(H:ce kinds c0=some r):
  aQ prog 114 [(.list 3 (kinds.map bQ)),(.ptr (aC c0))] (aK r):=by
 unfold ce at H;refine PH.av func114 ntmps114 ?_;refine am 1 U Z (ab (aa (ag 3 U Z ?_)))
 obtain⟨x7,h7,H⟩:=aq H
 have s7:=jG kinds c0.kind _ h7;refine ak call115 (jb.r) s7 ?_;refine ah U Z (ac ?_);exact bc U H Z
def fe(c:LC)(q:LQuery):Option (Int):=
 af (fc q) fun x11=>
 af (aN (σ:=Unit) (ρ:=(Int)) (fun(j1:Nat) (x1:Int) (_:Unit)=>
  cond (x1 !=(0:Int))
   (cond (decide ((j1:Int)>=(c.args.length:Int)))
    (some (.ret 7))
    (af (aP c.args (j1:Int)) fun(x33:Int)=>
    cond (x33 !=x1)
     (some (.ret 7))
     (some (.next ()))))
   (some (.next ()))) 0 x11.1 ()) fun fl1=>fl1.thenR fun(_:Unit)=>
 some 0
theorem lV(c:LC)(q:LQuery)(r:Int)(H:fe c q=some r):
  aQ prog 120 [(.agg (bt c)),(.agg (aY q))] (al r):=by
 unfold fe at H;refine PH.av func120 ntmps120 ?_;refine ab (aa (aJ ?_));refine aJ ?_;refine ah U Z (ac (ab (aa (ah U Z ?_))))
 obtain⟨x11,h11,H⟩:=aq H
 have s11:=kN q _ h11;refine ak call91 (jb.r) s11 ?_;refine ag 5 U Z (ac (ab (ab (aa (ah U Z (aB U (zl _) ?_))))));refine ah U Z (ac ?_);refine eG U 16 15 14 (fun s1 g1=>upd (fun _=>.any) 2 (.ptr (bt c))) nB nO () H (fun fl1 Hp1 j1 s1 g1 hz1 hl1 x1 fb1 hx1 H hg1=>?_) (fun s1 g1 H=>?_)
 ·refine ab (aA (ab (aa (ah U Z ?_))));refine aU U (zn j1) (bn (fun _=>Z) hx1) ?_;refine ag 3 U Z (ac (ab (aa (ag 3 U Z ?_))));refine bj Z Z Z H (fun H=>?_) (fun H=>?_)
  ·refine ag 3 U Z (aB U (zl _) ?_);refine ag 2 U Z ?_;refine bj Z Z Z H (fun H=>?_) (fun H=>?_)
   ·refine ag 9 U Z (ac (bW Z (am 1 U Z ?_)));obtain rfl:=az H;have e1:fl1= .ret _:=hg1;subst e1;obtain rfl:=aT Hp1;refine ba U Z (ps:=[(al 7)]) ⟨_,_,rfl,rfl,rfl⟩ (PLe.q Z)
   refine ag 3 U Z ?_
   obtain⟨x33,k33,H⟩:=bl H
   refine aU U k33.1 (aO (fun _=>Z) k33.2) ?_;refine ag 5 U Z (ac ?_);refine aH Z H (fun H=>?_) (fun H=>?_)
   ·refine am 1 U Z ?_;obtain rfl:=az H;have e1:fl1= .ret _:=hg1;subst e1;obtain rfl:=aT Hp1;refine ba U Z (ps:=[(al 7)]) ⟨_,_,rfl,rfl,rfl⟩ (PLe.q Z)
   refine ap (aM (bh 2 U Z ?_));exact bm () H hl1 hg1
  refine ag 15 U Z (ac (bF Z (ap (aM (bh 2 U Z ?_)))));exact bm () H hl1 hg1
 refine am 1 U Z ?_;exact bc U H Z
def jA(vars:List LCol)(x:LCol):Option ((List LCol)):=
 af (cX vars (fun a0=>some (gU a0 x))) fun x9=>
 af (cJ 32 x9 ([x]:List LCol)) fun(x13:List LCol)=>
 some x13
theorem qZ(vars:List LCol)(x:LCol)(r:(List LCol))(H:jA vars x=some r):
  aQ prog 118 [(.list 93 (vars.map ay)),(.agg (ay x))] (.list 93 (r.map ay)):=by
 unfold jA at H;refine PH.av func118 ntmps118 ?_;refine ab (aa (aJ ?_));refine ah U Z (ac (ab (aa (ah U Z ?_))));have s7:=na (m:=7) vars;refine gX call176 (jb.r) s7 (fun g7=>?_);refine ah U Z ?_
 obtain⟨x9,h9,H⟩:=aq H
 have s9:=li g7 vars (fun a0=>some (gU a0 x)) call177 (fun a0 r h=>(az h)▸uM a0 x) _ h9;refine cq (g:=175) Z Z Z call175 [] [(7,0)] Z Z Z Z (jb.of2 (jk.cons (pE.own Z) (jk.cons (pE.of_eq Z) jk.nil))) (by rw[bO,be,bH];rfl) s9 ?_;rintro u9 H9h ⟨rfl,rfl⟩
 refine⟨_,rfl,?_⟩
 refine cu (st':=⟨_,_,fun _=>none,upd (fun _=>none) 7 (some ⟨g7,93,(x9.map ay),true⟩)⟩) (Gh.le (bL _ _) aE (aL aF)) ?_;refine jg 9 (q:=(.own 7 g7 (x9.map ay).length)) Z (PLe.of2 (pE.own Z)) (ah U Z (ac (ab (aa (ag 2 U Z (ci U (rows':=List.map ay ([x]:List LCol)) (gH.refl _) ?_))))))
 obtain⟨x13,h13,H⟩:=aq H
 have k13:=bS h13;refine bX (rows2':=List.map ay ([x]:List LCol)) (rows':=List.map ay x13) U Z Z Z Z Z Z Z Z Z Z Z Z Z (gH.refl _) (cD k13.1) (cC k13.2.1) (cE k13.2.2) fun g13=>?_
 refine ah U Z (ac (cF 4 Z Z Z ?_));exact bc U H Z
def dU(kinds:List Int)(c0:LQuery):Option (Bool):=
 af (ef kinds c0.kind) fun x7=>
 some x7
theorem gn(kinds:List Int)(c0:LQuery)(r:Bool)(H:dU kinds c0=some r):
  aQ prog 233 [(.list 3 (kinds.map bQ)),(.ptr (aY c0))] (aK r):=by
 unfold dU at H;refine PH.av func233 ntmps233 ?_;refine am 1 U Z (ab (aa (ag 3 U Z ?_)))
 obtain⟨x7,h7,H⟩:=aq H
 have s7:=jG kinds c0.kind _ h7;refine ak call115 (jb.r) s7 ?_;refine ah U Z (ac ?_);exact bc U H Z
def il(q:LQuery)(args:Rq):Option (Int):=
 af (fc q) fun x11=>
 cond (x11.2 !=(0:Int))
  (some x11.2)
  (cond (decide ((args.length:Int)<(x11.1.length:Int)))
   (some 1)
   (af (aN (σ:=Unit) (ρ:=(Int)) (fun(j1:Nat) (x1:Int) (_:Unit)=>
    af (aP args (j1:Int)) fun(x31:LVal)=>
    letP (kX x31) fun x33=>
    cond (!x33)
     (some (.ret 7))
     (cond (x1 !=(0:Int))
      (af (aP args (j1:Int)) fun(x41:LVal)=>
      cond (x41.kind !=x1)
       (af (aP args (j1:Int)) fun(x50:LVal)=>
       cond (x50.kind !=(0:Int))
        (some (.ret 7))
        (some (.next ())))
       (some (.next ())))
      (some (.next ())))) 0 x11.1 ()) fun fl1=>fl1.thenR fun(_:Unit)=>
   some 0))
theorem rg(q:LQuery)(args:Rq)(r:Int)(H:il q args=some r):
  aQ prog 54 [(.agg (aY q)),(.list 69 (args.map ae))] (al r):=by
 unfold il at H;refine PH.av func54 ntmps54 ?_;refine ab (aa (aJ ?_));refine ah U Z (ac (ab (aa (ah U Z ?_))))
 obtain⟨x11,h11,H⟩:=aq H
 have s11:=kN q _ h11;refine ak call91 (jb.r) s11 ?_;refine ag 5 U Z (ac (ab (am 2 U Z ?_)));refine aH Z H (fun H=>?_) (fun H=>?_)
 ·refine am 2 U Z ?_;exact bc U H Z
 refine ap (ab (ab (aa (ah U Z (aB U (zl _) ?_)))));refine ah U Z (aB U (zl _) ?_);refine ah U Z (ac ?_);refine aH Z H (fun H=>?_) (fun H=>?_)
 ·refine am 1 U Z ?_;exact bc U H Z
 refine ap (ab (ab (aa (ah U Z (aB U (zl _) ?_)))));refine ah U Z (ac ?_);refine eG U 24 23 22 (fun s1 g1=>upd (fun _=>.any) 1 (.list 69 (args.map ae))) nB nO () H (fun fl1 Hp1 j1 s1 g1 hz1 hl1 x1 fb1 hx1 H hg1=>?_) (fun s1 g1 H=>?_)
 ·refine ab (aA (ab (aa (ah U Z ?_))));refine aU U (zn j1) (bn (fun _=>Z) hx1) ?_;refine ag 3 U Z (ac (ab (aa (ag 2 U Z ?_))))
  obtain⟨x31,k31,H⟩:=bl H
  refine aU U k31.1 (aO (fun _=>Z) k31.2) ?_;refine ah U Z ?_
  obtain⟨x33,h33,H⟩:=cK H
  have s33:=ri x31;rw[h33]at s33;refine ak call43 (jb.r) s33 ?_;refine ag 2 U Z ?_;refine bj Z Z Z H (fun H=>?_) (fun H=>?_)
  ·refine ag 20 U Z (ac (bW Z (am 1 U Z ?_)));obtain rfl:=az H;have e1:fl1= .ret _:=hg1;subst e1;obtain rfl:=aT Hp1;refine ba U Z (ps:=[(al 7)]) ⟨_,_,rfl,rfl,rfl⟩ (PLe.q Z)
  refine ag 3 U Z ?_;refine bj Z Z Z H (fun H=>?_) (fun H=>?_)
  ·refine ag 2 U Z ?_
   obtain⟨x41,k41,H⟩:=bl H
   refine aU U k41.1 (aO (fun _=>Z) k41.2) ?_;refine ag 6 U Z ?_;refine bj Z Z Z H (fun H=>?_) (fun H=>?_)
   ·refine ag 2 U Z ?_
    obtain⟨x50,k50,H⟩:=bl H
    refine aU U k50.1 (aO (fun _=>Z) k50.2) ?_;refine ag 5 U Z (ac ?_);refine aH Z H (fun H=>?_) (fun H=>?_)
    ·refine am 1 U Z ?_;obtain rfl:=az H;have e1:fl1= .ret _:=hg1;subst e1;obtain rfl:=aT Hp1;refine ba U Z (ps:=[(al 7)]) ⟨_,_,rfl,rfl,rfl⟩ (PLe.q Z)
    refine ap (aM (bh 2 U Z ?_));exact bm () H hl1 hg1
   refine ag 8 U Z (ac (bF Z (ap (aM (bh 2 U Z ?_)))));exact bm () H hl1 hg1
  refine ag 17 U Z (ac (bF Z (ap (aM (bh 2 U Z ?_)))));exact bm () H hl1 hg1
 refine am 1 U Z ?_;exact bc U H Z
def ml(a:Rz)(b:Rz):Option (Rz):=
 af (aN (σ:=Rz×Rz) (ρ:=Empty) (fun(_:Nat) (x1:Rq) (s1:Rz×Rz)=>
  af (bT s1.1 (fun a0=>jV a0 x1)) fun x20=>
  af (fg (x20.2.length=s1.1.length) ()) fun(_:Unit)=>
  cond (decide (x20.1>=(0:Int)))
   (af (nL x20.2 x20.1 (Iw (x20.1+(1:Int)))) fun x27=>
   some (.next (x27,s1.2)))
   (af (cJ 24 s1.2 ([x1]:Rz)) fun(x31:Rz)=>
   some (.next (x20.2,x31)))) 0 a (b,[])) fun fl1=>fl1.thenP fun(s1:Rz×Rz)=>
 some s1.2
theorem W_query_less(a:Rz)(b:Rz)(r:Rz)(H:ml a b=some r):
  aQ prog 161 [(.list 54 (a.map rRr)),(.list 54 (b.map rRr))] (.list 54 (r.map rRr)):=by
 unfold ml at H;refine PH.av func161 ntmps161 ?_;refine am 1 U Z (ab (aa (ah U Z ?_)));have s11:=qK (m:=11) b;refine gX call160 (jb.r) s11 (fun g11=>?_);refine ah U Z (ac (am 1 U Z (ab (ab (aa (ah U Z (aB U (zl _) ?_)))))));refine ah U Z (ac ?_)
 obtain⟨fl1,H1,Hp1⟩:=aq H
 refine ib U 12 Z Z (fun hz1 _=>?_);rw[zl]at hz1;refine fm (τ:=Rz×Rz) (γ:=OwnRef×OwnRef) (fun s1 g1=>⟨34,upd (fun _=>.any) 6 (.own 31 g1.2 (s1.2.map rRr).length),fun _=>none,upd (fun _=>none) 31 (some ⟨g1.2,54,(s1.2.map rRr),true⟩)⟩) (fun t=>fl1= .next t) ?_ (fun s1 g1 hn1=>?_)
 ·refine aA (gQ U 6 31 (e:=54) Z Z ?_);refine iH (fun j1 s1 g1=>⟨34,upd (upd (upd (upd (upd (fun _=>.any) 14 (al (j1:Int))) 13 (al (a.length:Int))) 12 (.list 54 (a.map rRr))) 6 (.own 31 g1.2 (s1.2.map rRr).length)) 5 (.own 11 g1.1 (s1.1.map rRr).length),fun _=>none,upd (upd (fun _=>none) 31 (some ⟨g1.2,54,(s1.2.map rRr),true⟩)) 11 (some ⟨g1.1,54,(s1.1.map rRr),true⟩)⟩) (g11,⟨none,0⟩) H1 Gh.d (fun j1 s1 g1 hj1 hr1=>?_);refine am 1 U Z (ab ?_);refine bp Z (fun h=>?_) (fun h=>?_)
  ·have hl1:=pm h
   obtain⟨x1,fb1,hx1,H,hg1⟩:=rMc hl1 hr1
   refine ap (ab (aA (ab (aa ?_))));refine aU U (zn j1) (bn (fun _=>Z) hx1) ?_;refine ah U Z ?_;refine bf U fun b8=>?_
   refine au U ?_;refine ac (ab (ab (aa (ah U Z (cu (Gh.freezeB 8 Z Z Z Z) (ah U Z ?_))))))
   obtain⟨x20,h20,H⟩:=aq H
   have s20:=gr g1.1 s1.1 (fun a0=>jV a0 x1) call212 (fun a0 r h=>W_query_less_1 a0 x1 r h) _ h20
   obtain⟨_,q20_0,H⟩:=aq H
   have l20_0:=(dy q20_0).1;have z20_0:(List.map rRr s1.1).length=(List.map rRr x20.2).length:=by simpa using(l20_0).symm
   refine cq (g:=211) Z Z Z call211 [] [(11,0)] Z Z Z Z (jb.of2 (jk.cons (pE.own Z) (jk.cons (pE.of_eq Z) jk.nil))) (by rw[bO,be,bH];rfl) s20 ?_;rintro u20 H20h ⟨rfl,rfl⟩
   refine⟨_,rfl,?_⟩
   refine cu (st':=⟨_,_,fun _=>none,upd (upd (fun _=>none) 31 (some ⟨g1.2,54,(s1.2.map rRr),true⟩)) 11 (some ⟨g1.1,54,(x20.2.map rRr),true⟩)⟩) (Gh.le (bL _ _) aE (aL (aL aF))) ?_;refine ah U Z (ac (am 2 U Z ?_));refine aH Z H (fun H=>?_) (fun H=>?_)
   ·refine ab (aa (ag 4 U Z ?_))
    obtain⟨x27,h27,H⟩:=aq H
    have s27:=uX g1.1 x20.2 x20.1 (Iw (x20.1+(1:Int))) _ h27;refine cq (g:=88) Z Z Z call88 [] [(11,0)] Z Z Z Z (jb.of2 (jk.cons (pE.own z20_0) (jk.cons (pE.of_eq Z) (jk.cons (pE.of_eq Z) jk.nil)))) (by rw[bO,be,bH];rfl) s27 ?_;rintro u27 H27h ⟨rfl,rfl⟩
    refine⟨_,rfl,?_⟩
    refine cu (st':=⟨_,_,fun _=>none,upd (upd (fun _=>none) 31 (some ⟨g1.2,54,(s1.2.map rRr),true⟩)) 11 (some ⟨g1.1,54,(x27.map rRr),true⟩)⟩) (Gh.le (bL _ _) aE (aL (aL aF))) ?_;refine jg 27 (q:=(.own 11 g1.1 (x27.map rRr).length)) Z (PLe.of2 (pE.own Z)) (ah U Z (ac (bq Z (bh 2 U Z ?_))));exact bm (g1.1,g1.2) H hl1 hg1
   refine ap (aa (ag 2 U Z (ci U (rows':=List.map rRr ([x1]:Rz)) (gH.refl _) ?_)))
   obtain⟨x31,h31,H⟩:=aq H
   have k31:=bS h31;refine bX (rows2':=List.map rRr ([x1]:Rz)) (rows':=List.map rRr x31) U Z Z Z Z Z Z Z Z Z Z Z Z Z (gH.refl _) (cD k31.1) (cC k31.2.1) (cE k31.2.2) fun g31=>?_
   refine ah U Z (ac (aM (bh 2 U Z ?_)));exact bm (g1.1,g31) H hl1 hg1 (Gh.le (bD (PLe.of2 (pE.of_eq (congrArg (PV.own 11 g1.1) z20_0))) (aw (aw (aw (bD (PLe.q (fj (by omega))) aS))))) aE (aL (aL aF)))
  have hn1:=rMd (pz h) hr1;refine bq Z ?_;refine aV s1 g1 hn1 Gh.d
 have H:=dT hn1 Hp1;refine am 2 U Z (cF 4 Z Z Z ?_);exact bc U H Z
def cW(rec268:Rz->Int->Int->Int->Option (Rz))(data:Rz)(a:Int)(m:Int)(b:Int)(cmp:Rq->Rq->Option (Int)):Option (Rz):=
 cond ((Iw (m-a))==(1:Int))
  (af (gq (σ:=Rz×Int×Int) (ρ:=Empty) (fun(s1:Rz×Int×Int)=>
   cond (decide (s1.2.1<s1.2.2))
    (af (aP s1.1 (Iw (Int.fdiv (IntKind.u64.wrap (Iw (s1.2.1+s1.2.2))) (2^1)))) fun(x43:Rq)=>
    af (aP s1.1 a) fun(x47:Rq)=>
    af (cmp x43 x47) fun x49=>
    cond (decide (x49<(0:Int)))
     (some (.next (s1.1,(Iw ((Iw (Int.fdiv (IntKind.u64.wrap (Iw (s1.2.1+s1.2.2))) (2^1)))+(1:Int))),s1.2.2)))
     (some (.next (s1.1,s1.2.1,(Iw (Int.fdiv (IntKind.u64.wrap (Iw (s1.2.1+s1.2.2))) (2^1)))))))
    (some (.brk (s1.1,s1.2.1,s1.2.2)))) (data,m,b)) fun fl1=>fl1.thenP fun(s1:Rz×Int×Int)=>
  af (gq (σ:=Rz×Int) (ρ:=Empty) (fun(s2:Rz×Int)=>
   cond (decide (s2.2<(Iw (s1.2.1-(1:Int)))))
    (af (aP s2.1 (Iw (s2.2+(1:Int)))) fun(x69:Rq)=>
    af (aP s2.1 s2.2) fun(x73:Rq)=>
    af (aP s2.1 s2.2) fun(_:Rq)=>
    letP (s2.1.set s2.2.toNat x69) fun(y7:Rz)=>
    af (aP y7 (Iw (s2.2+(1:Int)))) fun(_:Rq)=>
    letP (y7.set ((Iw (s2.2+(1:Int))).toNat) x73) fun(y8:Rz)=>
    some (.next (y8,(Iw (s2.2+(1:Int))))))
    (some (.brk (s2.1,s2.2)))) (s1.1,a)) fun fl2=>fl2.thenP fun(s2:Rz×Int)=>
  some s2.1)
  (cond ((Iw (b-m))==(1:Int))
   (af (gq (σ:=Rz×Int×Int) (ρ:=Empty) (fun(s9:Rz×Int×Int)=>
    cond (decide (s9.2.1<s9.2.2))
     (af (aP s9.1 m) fun(x95:Rq)=>
     af (aP s9.1 (Iw (Int.fdiv (IntKind.u64.wrap (Iw (s9.2.1+s9.2.2))) (2^1)))) fun(x99:Rq)=>
     af (cmp x95 x99) fun x101=>
     cond (!(decide (x101<(0:Int))))
      (some (.next (s9.1,(Iw ((Iw (Int.fdiv (IntKind.u64.wrap (Iw (s9.2.1+s9.2.2))) (2^1)))+(1:Int))),s9.2.2)))
      (some (.next (s9.1,s9.2.1,(Iw (Int.fdiv (IntKind.u64.wrap (Iw (s9.2.1+s9.2.2))) (2^1)))))))
     (some (.brk (s9.1,s9.2.1,s9.2.2)))) (data,a,m)) fun fl9=>fl9.thenP fun(s9:Rz×Int×Int)=>
   af (gq (σ:=Rz×Int) (ρ:=Empty) (fun(s10:Rz×Int)=>
    cond (decide (s10.2>s9.2.1))
     (af (aP s10.1 (Iw (s10.2-(1:Int)))) fun(x121:Rq)=>
     af (aP s10.1 s10.2) fun(x125:Rq)=>
     af (aP s10.1 s10.2) fun(_:Rq)=>
     letP (s10.1.set s10.2.toNat x121) fun(y15:Rz)=>
     af (aP y15 (Iw (s10.2-(1:Int)))) fun(_:Rq)=>
     letP (y15.set ((Iw (s10.2-(1:Int))).toNat) x125) fun(y16:Rz)=>
     some (.next (y16,(Iw (s10.2-(1:Int))))))
     (some (.brk (s10.1,s10.2)))) (s9.1,m)) fun fl10=>fl10.thenP fun(s10:Rz×Int)=>
   some s10.1)
   (letP (
    cond (decide (m>(Iw (Int.fdiv (IntKind.u64.wrap (Iw (a+b))) (2^1)))))
     ((data,(Iw ((Iw ((Iw (Int.fdiv (IntKind.u64.wrap (Iw (a+b))) (2^1)))+m))-b)),(Iw (Int.fdiv (IntKind.u64.wrap (Iw (a+b))) (2^1)))))
     ((data,a,m))) fun(t17:Rz×Int×Int)=>
   af (gq (σ:=Rz×Int×Int) (ρ:=Empty) (fun(s18:Rz×Int×Int)=>
    cond (decide (s18.2.1<s18.2.2))
     (af (aP s18.1 (Iw ((Iw ((Iw ((Iw (Int.fdiv (IntKind.u64.wrap (Iw (a+b))) (2^1)))+m))-(1:Int)))-(Iw (Int.fdiv (IntKind.u64.wrap (Iw (s18.2.1+s18.2.2))) (2^1)))))) fun(x163:Rq)=>
     af (aP s18.1 (Iw (Int.fdiv (IntKind.u64.wrap (Iw (s18.2.1+s18.2.2))) (2^1)))) fun(x167:Rq)=>
     af (cmp x163 x167) fun x169=>
     cond (!(decide (x169<(0:Int))))
      (some (.next (s18.1,(Iw ((Iw (Int.fdiv (IntKind.u64.wrap (Iw (s18.2.1+s18.2.2))) (2^1)))+(1:Int))),s18.2.2)))
      (some (.next (s18.1,s18.2.1,(Iw (Int.fdiv (IntKind.u64.wrap (Iw (s18.2.1+s18.2.2))) (2^1)))))))
     (some (.brk (s18.1,s18.2.1,s18.2.2)))) (t17.1,t17.2.1,t17.2.2)) fun fl18=>fl18.thenP fun(s18:Rz×Int×Int)=>
   letP (
    cond (decide (s18.2.1<m))
     ((s18.1,(decide (m<(Iw ((Iw ((Iw (Int.fdiv (IntKind.u64.wrap (Iw (a+b))) (2^1)))+m))-s18.2.1))))))
     ((s18.1,false))) fun(t19:Rz×Bool)=>
   af (
    cond t19.2
     (af (dV t19.1 s18.2.1 m (Iw ((Iw ((Iw (Int.fdiv (IntKind.u64.wrap (Iw (a+b))) (2^1)))+m))-s18.2.1)) cmp) fun x191=>
     af (fg (x191.length=t19.1.length) ()) fun(_:Unit)=>
     some x191)
     (some t19.1)) fun(t20:Rz)=>
   letP (
    cond (decide (a<s18.2.1))
     ((t20,(decide (s18.2.1<(Iw (Int.fdiv (IntKind.u64.wrap (Iw (a+b))) (2^1)))))))
     ((t20,false))) fun(t21:Rz×Bool)=>
   af (
    cond t21.2
     (af (rec268 t21.1 a s18.2.1 (Iw (Int.fdiv (IntKind.u64.wrap (Iw (a+b))) (2^1)))) fun x205=>
     af (fg (x205.length=t21.1.length) ()) fun(_:Unit)=>
     some x205)
     (some t21.1)) fun(t22:Rz)=>
   cond (decide ((Iw (Int.fdiv (IntKind.u64.wrap (Iw (a+b))) (2^1)))<(Iw ((Iw ((Iw (Int.fdiv (IntKind.u64.wrap (Iw (a+b))) (2^1)))+m))-s18.2.1))))
    (cond (decide ((Iw ((Iw ((Iw (Int.fdiv (IntKind.u64.wrap (Iw (a+b))) (2^1)))+m))-s18.2.1))<b))
     (af (rec268 t22 (Iw (Int.fdiv (IntKind.u64.wrap (Iw (a+b))) (2^1))) (Iw ((Iw ((Iw (Int.fdiv (IntKind.u64.wrap (Iw (a+b))) (2^1)))+m))-s18.2.1)) b) fun x219=>
     af (fg (x219.length=t22.length) ()) fun(_:Unit)=>
     some x219)
     (some t22))
    (some t22)))
theorem mL(g_data:OwnRef){g_cmp:FuncId}{caps_cmp:List PV}(rec268:Rz->Int->Int->Int->Option (Rz))(hrec268:∀g0 a0 a1 a2 a3 r,rec268 a0 a1 a2 a3=some r->PH prog 268 [(.own 0 g0 (a0.map rRr).length),(al a1),(al a2),(al a3),(.fn g_cmp caps_cmp)] ⟨fun _=>none,upd (fun _=>none) 0 (some ⟨g0,54,(a0.map rRr),true⟩)⟩ (fun u H=>u=(.tup [])/\H=⟨fun _=>none,upd (fun _=>none) 0 (some ⟨g0,54,(r.map rRr),true⟩)⟩))(data:Rz)(a:Int)(m:Int)(b:Int)(cmp:Rq->Rq->Option (Int))(hg_cmp:∀(vs:Array Value) (w:World),(callFunc g_cmp vs).run prog w= .ok (.enter g_cmp vs) w)(hp_cmp:∀a0 a1 r,cmp a0 a1=some r->aQ prog g_cmp ((.list 69 (a0.map ae))::(.list 69 (a1.map ae))::caps_cmp) (al r))(r:Rz)(H:cW rec268 data a m b cmp=some r):
  PH prog 268 [(.own 0 g_data (data.map rRr).length),(al a),(al m),(al b),(.fn g_cmp caps_cmp)] ⟨fun _=>none,upd (fun _=>none) 0 (some ⟨g_data,54,(data.map rRr),true⟩)⟩ (fun u H=>u=(.tup [])/\H=⟨fun _=>none,upd (fun _=>none) 0 (some ⟨g_data,54,(r.map rRr),true⟩)⟩):=by
 unfold cW at H;refine PH.av func268 ntmps268 ?_;refine ab (am 4 U Z ?_);refine aH Z H (fun H=>?_) (fun H=>?_)
 ·refine am 2 U Z (am 2 U Z (ab ?_))
  obtain⟨fl1,H1,Hp1⟩:=aq H
  refine fm (τ:=Rz×Int×Int) (γ:=Unit) (fun s1 g1=>⟨220,upd (upd (upd (fun _=>.any) 10 (al s1.2.1)) 1 (al a)) 0 (.own 0 g_data (s1.1.map rRr).length),fun _=>none,upd (fun _=>none) 0 (some ⟨g_data,54,(s1.1.map rRr),true⟩)⟩) (fun t=>fl1= .next t) ?_ (fun s1 g1 hn1=>?_)
  ·refine aA ?_;refine ir (fun s1 g1=>⟨220,upd (upd (upd (upd (upd (fun _=>.any) 11 (al s1.2.2)) 10 (al s1.2.1)) 4 (.fn g_cmp caps_cmp)) 1 (al a)) 0 (.own 0 g_data (s1.1.map rRr).length),fun _=>none,upd (fun _=>none) 0 (some ⟨g_data,54,(s1.1.map rRr),true⟩)⟩) () H1 Gh.d (fun m1 s1 g1 hr1=>?_)
   obtain⟨fb1,H,hg1⟩:=fP hr1
   refine ab (am 3 U Z ?_);refine aH Z H (fun H=>?_) (fun H=>?_)
   ·refine ap (aA (ab (aa (ag 4 U Z (vu (m:=1) Z Z Z Z (by decide) Z Z (ag 2 U Z (ac (ab ?_))))))));refine gJ (tag:=0) Z (fun ho0=>?_);refine bd U mok ⟨false,true,[]⟩ [0,1,2,3,4,5,6,7,8,9,10] Z (by decide+kernel) Z (aG 3 Z ?_)
    obtain⟨x43,k43,H⟩:=bl H
    refine cV U ⟨k43.1,(dp k43.2)⟩ (dl ho0 k43.2) ?_;refine fT U Z Z Z Z Z Z Z Z Z (aO (fun _=>Z) k43.2) Z Z ?_;refine aG 2 Z ?_
    obtain⟨x47,k47,H⟩:=bl H
    refine cV U ⟨k47.1,(dp k47.2)⟩ (dl ho0 k47.2) ?_;refine fT U Z Z Z Z Z Z Z Z Z (aO (fun _=>Z) k47.2) Z Z ?_
    obtain⟨x49,h49,H⟩:=aq H
    refine aW hg_cmp (jb.r) (hp_cmp _ _ _ h49) ?_;refine bA Z (aZ ?_);refine aH Z H (fun H=>?_) (fun H=>?_)
    ·refine bh 3 U Z (aM ?_);obtain rfl:=az H;refine eB (s1.1,(Iw ((Iw (Int.fdiv (IntKind.u64.wrap (Iw (s1.2.1+s1.2.2))) (2^1)))+(1:Int))),s1.2.2) () hg1 Gh.d
    refine bh 2 U Z (aM ?_);obtain rfl:=az H;refine eB (s1.1,s1.2.1,(Iw (Int.fdiv (IntKind.u64.wrap (Iw (s1.2.1+s1.2.2))) (2^1)))) () hg1 Gh.d
   refine bq Z ?_;obtain rfl:=az H;refine aV (s1.1,s1.2.1,s1.2.2) () hg1 Gh.d
  have H:=dT hn1 Hp1;refine ab (am 2 U Z ?_)
  obtain⟨fl2,H2,Hp2⟩:=aq H
  refine fm (τ:=Rz×Int) (γ:=Unit) (fun s2 g2=>⟨220,upd (fun _=>.any) 0 (.own 0 g_data (s2.1.map rRr).length),fun _=>none,upd (fun _=>none) 0 (some ⟨g_data,54,(s2.1.map rRr),true⟩)⟩) (fun t=>fl2= .next t) ?_ (fun s2 g2 hn2=>?_)
  ·refine aA ?_;refine ir (fun s2 g2=>⟨220,upd (upd (upd (fun _=>.any) 13 (al s2.2)) 10 (al s1.2.1)) 0 (.own 0 g_data (s2.1.map rRr).length),fun _=>none,upd (fun _=>none) 0 (some ⟨g_data,54,(s2.1.map rRr),true⟩)⟩) () H2 Gh.d (fun m2 s2 g2 hr2=>?_)
   obtain⟨fb2,H,hg2⟩:=fP hr2
   refine ab (am 4 U Z ?_);refine aH Z H (fun H=>?_) (fun H=>?_)
   ·refine ap (ab (aA ?_));refine gJ (tag:=0) Z (fun ho0=>?_);refine bd U mok ⟨false,true,[]⟩ [0,1,2,3,4,5,6,7,8,9,10,11,12,13,14,15,16,17] Z (by decide+kernel) Z (aG 8 Z ?_)
    obtain⟨x69,k69,H⟩:=bl H
    refine cV U ⟨k69.1,(dp k69.2)⟩ (dl ho0 k69.2) ?_;refine fT U Z Z Z Z Z Z Z Z Z (aO (fun _=>Z) k69.2) Z Z ?_;refine aG 2 Z ?_
    obtain⟨x73,k73,H⟩:=bl H
    refine cV U ⟨k73.1,(dp k73.2)⟩ (dl ho0 k73.2) ?_;refine fT U Z Z Z Z Z Z Z Z Z (aO (fun _=>Z) k73.2) Z Z ?_
    obtain⟨x75,k75,H⟩:=bl H
    refine cV U ⟨k75.1,(dp k75.2)⟩ (dl ho0 k75.2) ?_
    obtain⟨y7,hy7,H⟩:=cK H
    refine iu U Z Z Z Z Z Z Z Z Z (by rw[zl];exact(zg.1 k75.2).1) (PLe.refl _ _) Z Z Z Z (by decide) (eF (fun _=>Z) k75.2 Z hy7) ?_
    obtain⟨x76,k76,H⟩:=bl H
    refine cV U ⟨k76.1,(rM (eQ (f:=rRr) hy7) k76.2)⟩ (uq ho0 (eQ (f:=rRr) hy7) k76.2) ?_
    obtain⟨y8,hy8,H⟩:=cK H
    refine iu U Z Z Z Z Z Z Z Z Z (by rw[zl];exact(zg.1 k76.2).1) (PLe.refl _ _) Z Z Z Z (by decide) (eF (fun _=>Z) k76.2 Z hy8) ?_;refine aZ (aM (bh 3 U Z ?_));obtain rfl:=az H;refine eB (y8,(Iw (s2.2+(1:Int)))) () hg2 (Gh.le (bD (PLe.of2 (pE.of_eq (congrArg (PV.own 0 g_data) ((eQ (f:=rRr) hy7).trans (eQ (f:=rRr) hy8))))) (aw (aw aS))) aE (aL aF))
   refine bq Z ?_;obtain rfl:=az H;refine aV (s2.1,s2.2) () hg2 Gh.d
  have H:=dT hn2 Hp2;obtain rfl:=az H;refine cx (st':=⟨220,fun _=>.any,fun _=>none,upd (fun _=>none) 0 (some ⟨g_data,54,(s2.1.map rRr),true⟩)⟩) (Gh.le aS aE (aL aF)) ?_;refine cT U Z (ps:=[]) Z (PLe.q Z) ⟨rfl,rfl⟩
 refine ap (ab (am 4 U Z ?_));refine aH Z H (fun H=>?_) (fun H=>?_)
 ·refine am 2 U Z (am 2 U Z (ab ?_))
  obtain⟨fl9,H9,Hp9⟩:=aq H
  refine fm (τ:=Rz×Int×Int) (γ:=Unit) (fun s9 g9=>⟨220,upd (upd (upd (fun _=>.any) 14 (al s9.2.1)) 2 (al m)) 0 (.own 0 g_data (s9.1.map rRr).length),fun _=>none,upd (fun _=>none) 0 (some ⟨g_data,54,(s9.1.map rRr),true⟩)⟩) (fun t=>fl9= .next t) ?_ (fun s9 g9 hn9=>?_)
  ·refine aA ?_;refine ir (fun s9 g9=>⟨220,upd (upd (upd (upd (upd (fun _=>.any) 15 (al s9.2.2)) 14 (al s9.2.1)) 4 (.fn g_cmp caps_cmp)) 2 (al m)) 0 (.own 0 g_data (s9.1.map rRr).length),fun _=>none,upd (fun _=>none) 0 (some ⟨g_data,54,(s9.1.map rRr),true⟩)⟩) () H9 Gh.d (fun m9 s9 g9 hr9=>?_)
   obtain⟨fb9,H,hg9⟩:=fP hr9
   refine ab (am 3 U Z ?_);refine aH Z H (fun H=>?_) (fun H=>?_)
   ·refine ap (aA (ab (aa (ag 4 U Z (vu (m:=1) Z Z Z Z (by decide) Z Z (ag 2 U Z (ac (ab ?_))))))));refine gJ (tag:=0) Z (fun ho0=>?_);refine bd U mok ⟨false,true,[]⟩ [0,1,2,3,4,5,6,7,8,9,10,11] Z (by decide+kernel) Z (aG 3 Z ?_)
    obtain⟨x95,k95,H⟩:=bl H
    refine cV U ⟨k95.1,(dp k95.2)⟩ (dl ho0 k95.2) ?_;refine fT U Z Z Z Z Z Z Z Z Z (aO (fun _=>Z) k95.2) Z Z ?_;refine aG 2 Z ?_
    obtain⟨x99,k99,H⟩:=bl H
    refine cV U ⟨k99.1,(dp k99.2)⟩ (dl ho0 k99.2) ?_;refine fT U Z Z Z Z Z Z Z Z Z (aO (fun _=>Z) k99.2) Z Z ?_
    obtain⟨x101,h101,H⟩:=aq H
    refine aW hg_cmp (jb.r) (hp_cmp _ _ _ h101) ?_;refine aG 2 Z (aZ ?_);refine aH Z H (fun H=>?_) (fun H=>?_)
    ·refine bh 3 U Z (aM ?_);obtain rfl:=az H;refine eB (s9.1,(Iw ((Iw (Int.fdiv (IntKind.u64.wrap (Iw (s9.2.1+s9.2.2))) (2^1)))+(1:Int))),s9.2.2) () hg9 Gh.d
    refine bh 2 U Z (aM ?_);obtain rfl:=az H;refine eB (s9.1,s9.2.1,(Iw (Int.fdiv (IntKind.u64.wrap (Iw (s9.2.1+s9.2.2))) (2^1)))) () hg9 Gh.d
   refine bq Z ?_;obtain rfl:=az H;refine aV (s9.1,s9.2.1,s9.2.2) () hg9 Gh.d
  have H:=dT hn9 Hp9;refine ab (am 2 U Z ?_)
  obtain⟨fl10,H10,Hp10⟩:=aq H
  refine fm (τ:=Rz×Int) (γ:=Unit) (fun s10 g10=>⟨220,upd (fun _=>.any) 0 (.own 0 g_data (s10.1.map rRr).length),fun _=>none,upd (fun _=>none) 0 (some ⟨g_data,54,(s10.1.map rRr),true⟩)⟩) (fun t=>fl10= .next t) ?_ (fun s10 g10 hn10=>?_)
  ·refine aA ?_;refine ir (fun s10 g10=>⟨220,upd (upd (upd (fun _=>.any) 17 (al s10.2)) 14 (al s9.2.1)) 0 (.own 0 g_data (s10.1.map rRr).length),fun _=>none,upd (fun _=>none) 0 (some ⟨g_data,54,(s10.1.map rRr),true⟩)⟩) () H10 Gh.d (fun m10 s10 g10 hr10=>?_)
   obtain⟨fb10,H,hg10⟩:=fP hr10
   refine ab (am 3 U Z ?_);refine aH Z H (fun H=>?_) (fun H=>?_)
   ·refine ap (ab (aA ?_));refine gJ (tag:=0) Z (fun ho0=>?_);refine bd U mok ⟨false,true,[]⟩ [0,1,2,3,4,5,6,7,8,9,10,11,12,13,14,15,16,17] Z (by decide+kernel) Z (aG 8 Z ?_)
    obtain⟨x121,k121,H⟩:=bl H
    refine cV U ⟨k121.1,(dp k121.2)⟩ (dl ho0 k121.2) ?_;refine fT U Z Z Z Z Z Z Z Z Z (aO (fun _=>Z) k121.2) Z Z ?_;refine aG 2 Z ?_
    obtain⟨x125,k125,H⟩:=bl H
    refine cV U ⟨k125.1,(dp k125.2)⟩ (dl ho0 k125.2) ?_;refine fT U Z Z Z Z Z Z Z Z Z (aO (fun _=>Z) k125.2) Z Z ?_
    obtain⟨x127,k127,H⟩:=bl H
    refine cV U ⟨k127.1,(dp k127.2)⟩ (dl ho0 k127.2) ?_
    obtain⟨y15,hy15,H⟩:=cK H
    refine iu U Z Z Z Z Z Z Z Z Z (by rw[zl];exact(zg.1 k127.2).1) (PLe.refl _ _) Z Z Z Z (by decide) (eF (fun _=>Z) k127.2 Z hy15) ?_
    obtain⟨x128,k128,H⟩:=bl H
    refine cV U ⟨k128.1,(rM (eQ (f:=rRr) hy15) k128.2)⟩ (uq ho0 (eQ (f:=rRr) hy15) k128.2) ?_
    obtain⟨y16,hy16,H⟩:=cK H
    refine iu U Z Z Z Z Z Z Z Z Z (by rw[zl];exact(zg.1 k128.2).1) (PLe.refl _ _) Z Z Z Z (by decide) (eF (fun _=>Z) k128.2 Z hy16) ?_;refine aZ (aM (bh 3 U Z ?_));obtain rfl:=az H;refine eB (y16,(Iw (s10.2-(1:Int)))) () hg10 (Gh.le (bD (PLe.of2 (pE.of_eq (congrArg (PV.own 0 g_data) ((eQ (f:=rRr) hy15).trans (eQ (f:=rRr) hy16))))) (aw (aw aS))) aE (aL aF))
   refine bq Z ?_;obtain rfl:=az H;refine aV (s10.1,s10.2) () hg10 Gh.d
  have H:=dT hn10 Hp10;obtain rfl:=az H;refine cx (st':=⟨220,fun _=>.any,fun _=>none,upd (fun _=>none) 0 (some ⟨g_data,54,(s10.1.map rRr),true⟩)⟩) (Gh.le aS aE (aL aF)) ?_;refine cT U Z (ps:=[]) Z (PLe.q Z) ⟨rfl,rfl⟩
 refine ap (ab (aa (ag 4 U Z (vu (m:=1) Z Z Z Z (by decide) Z Z (ag 2 U Z (ac (am 4 U Z (am 2 U Z (ab (am 3 U Z ?_))))))))));refine fA (γ:=Unit) (fun t17 g17=>⟨220,upd (upd (upd (upd (upd (upd (upd (upd (upd (fun _=>.any) 21 (al t17.2.2)) 20 (al t17.2.1)) 19 (al (Iw ((Iw (Int.fdiv (IntKind.u64.wrap (Iw (a+b))) (2^1)))+m)))) 18 (al (Iw (Int.fdiv (IntKind.u64.wrap (Iw (a+b))) (2^1))))) 4 (.fn g_cmp caps_cmp)) 3 (al b)) 2 (al m)) 1 (al a)) 0 (.own 0 g_data (t17.1.map rRr).length),fun _=>none,upd (fun _=>none) 0 (some ⟨g_data,54,(t17.1.map rRr),true⟩)⟩) H (fun _ H=>?_) (fun t17 g17 H=>?_)
 ·refine aH Z H (fun H=>?_) (fun H=>?_)
  ·refine am 4 U Z (bh 2 U Z ?_);refine aV _ () H Gh.d
  refine am 2 U Z (bh 2 U Z ?_);refine aV _ () H Gh.d
 refine am 3 U Z (ab ?_)
 obtain⟨fl18,H18,Hp18⟩:=aq H
 refine fm (τ:=Rz×Int×Int) (γ:=Unit) (fun s18 g18=>⟨220,upd (upd (upd (upd (upd (upd (upd (upd (fun _=>.any) 20 (al s18.2.1)) 19 (al (Iw ((Iw (Int.fdiv (IntKind.u64.wrap (Iw (a+b))) (2^1)))+m)))) 18 (al (Iw (Int.fdiv (IntKind.u64.wrap (Iw (a+b))) (2^1))))) 4 (.fn g_cmp caps_cmp)) 3 (al b)) 2 (al m)) 1 (al a)) 0 (.own 0 g_data (s18.1.map rRr).length),fun _=>none,upd (fun _=>none) 0 (some ⟨g_data,54,(s18.1.map rRr),true⟩)⟩) (fun t=>fl18= .next t) ?_ (fun s18 g18 hn18=>?_)
 ·refine aA ?_;refine ir (fun s18 g18=>⟨220,upd (upd (upd (upd (upd (upd (upd (upd (upd (upd (fun _=>.any) 22 (al (Iw ((Iw ((Iw (Int.fdiv (IntKind.u64.wrap (Iw (a+b))) (2^1)))+m))-(1:Int))))) 21 (al s18.2.2)) 20 (al s18.2.1)) 19 (al (Iw ((Iw (Int.fdiv (IntKind.u64.wrap (Iw (a+b))) (2^1)))+m)))) 18 (al (Iw (Int.fdiv (IntKind.u64.wrap (Iw (a+b))) (2^1))))) 4 (.fn g_cmp caps_cmp)) 3 (al b)) 2 (al m)) 1 (al a)) 0 (.own 0 g_data (s18.1.map rRr).length),fun _=>none,upd (fun _=>none) 0 (some ⟨g_data,54,(s18.1.map rRr),true⟩)⟩) () H18 Gh.d (fun m18 s18 g18 hr18=>?_)
  obtain⟨fb18,H,hg18⟩:=fP hr18
  refine ab (am 3 U Z ?_);refine aH Z H (fun H=>?_) (fun H=>?_)
  ·refine ap (aA (ab (aa (ag 4 U Z (vu (m:=1) Z Z Z Z (by decide) Z Z (ag 2 U Z (ac (ab ?_))))))));refine gJ (tag:=0) Z (fun ho0=>?_);refine bd U mok ⟨false,true,[]⟩ [0,1,2,3,4,5,6,7,8,9,10,11,12,13] Z (by decide+kernel) Z (aG 5 Z ?_)
   obtain⟨x163,k163,H⟩:=bl H
   refine cV U ⟨k163.1,(dp k163.2)⟩ (dl ho0 k163.2) ?_;refine fT U Z Z Z Z Z Z Z Z Z (aO (fun _=>Z) k163.2) Z Z ?_;refine aG 2 Z ?_
   obtain⟨x167,k167,H⟩:=bl H
   refine cV U ⟨k167.1,(dp k167.2)⟩ (dl ho0 k167.2) ?_;refine fT U Z Z Z Z Z Z Z Z Z (aO (fun _=>Z) k167.2) Z Z ?_
   obtain⟨x169,h169,H⟩:=aq H
   refine aW hg_cmp (jb.r) (hp_cmp _ _ _ h169) ?_;refine aG 2 Z (aZ ?_);refine aH Z H (fun H=>?_) (fun H=>?_)
   ·refine bh 3 U Z (aM ?_);obtain rfl:=az H;refine eB (s18.1,(Iw ((Iw (Int.fdiv (IntKind.u64.wrap (Iw (s18.2.1+s18.2.2))) (2^1)))+(1:Int))),s18.2.2) () hg18 Gh.d
   refine bh 2 U Z (aM ?_);obtain rfl:=az H;refine eB (s18.1,s18.2.1,(Iw (Int.fdiv (IntKind.u64.wrap (Iw (s18.2.1+s18.2.2))) (2^1)))) () hg18 Gh.d
  refine bq Z ?_;obtain rfl:=az H;refine aV (s18.1,s18.2.1,s18.2.2) () hg18 Gh.d
 have H:=dT hn18 Hp18;refine am 4 U Z (ab (ab ?_));refine fA (γ:=Unit) (fun t19 g19=>⟨220,upd (upd (upd (upd (upd (upd (upd (upd (upd (fun _=>.any) 185 (aK t19.2)) 24 (al (Iw ((Iw ((Iw (Int.fdiv (IntKind.u64.wrap (Iw (a+b))) (2^1)))+m))-s18.2.1)))) 20 (al s18.2.1)) 18 (al (Iw (Int.fdiv (IntKind.u64.wrap (Iw (a+b))) (2^1))))) 4 (.fn g_cmp caps_cmp)) 3 (al b)) 2 (al m)) 1 (al a)) 0 (.own 0 g_data (t19.1.map rRr).length),fun _=>none,upd (fun _=>none) 0 (some ⟨g_data,54,(t19.1.map rRr),true⟩)⟩) H (fun _ H=>?_) (fun t19 g19 H=>?_)
 ·refine aa (ag 4 U Z ?_);refine bj Z Z Z H (fun H=>?_) (fun H=>?_)
  ·refine ag 4 U Z (ac ?_);refine aV _ () H Gh.d
  refine ag 4 U Z (ac ?_);refine aV _ () H Gh.d
 refine fu (γ:=Unit) (fun t20 g20=>⟨220,upd (upd (upd (upd (upd (upd (upd (fun _=>.any) 24 (al (Iw ((Iw ((Iw (Int.fdiv (IntKind.u64.wrap (Iw (a+b))) (2^1)))+m))-s18.2.1)))) 20 (al s18.2.1)) 18 (al (Iw (Int.fdiv (IntKind.u64.wrap (Iw (a+b))) (2^1))))) 4 (.fn g_cmp caps_cmp)) 3 (al b)) 1 (al a)) 0 (.own 0 g_data (t20.map rRr).length),fun _=>none,upd (fun _=>none) 0 (some ⟨g_data,54,(t20.map rRr),true⟩)⟩) H (fun _ H=>?_) (fun t20 g20 H=>?_)
 ·refine aH Z H (fun H=>?_) (fun H=>?_)
  ·refine aa (ag 5 U Z ?_)
   obtain⟨x191,h191,H⟩:=aq H
   have s191:=nw g_data t19.1 s18.2.1 m (Iw ((Iw ((Iw (Int.fdiv (IntKind.u64.wrap (Iw (a+b))) (2^1)))+m))-s18.2.1)) cmp hg_cmp hp_cmp _ h191
   obtain⟨_,q191_0,H⟩:=aq H
   have l191_0:=(dy q191_0).1;have z191_0:(List.map rRr t19.1).length=(List.map rRr x191).length:=by simpa using(l191_0).symm
   refine cq (g:=278) Z Z Z call278 [] [(0,0)] Z Z Z Z (jb.of2 (jk.cons (pE.own Z) (jk.cons (pE.of_eq Z) (jk.cons (pE.of_eq Z) (jk.cons (pE.of_eq Z) (jk.cons (pE.of_eq Z) jk.nil)))))) (by rw[bO,be,bH];rfl) s191 ?_;rintro u191 H191h ⟨rfl,rfl⟩
   refine⟨_,rfl,?_⟩
   refine cu (st':=⟨_,_,fun _=>none,upd (fun _=>none) 0 (some ⟨g_data,54,(x191.map rRr),true⟩)⟩) (Gh.le (bL _ _) aE (aL aF)) ?_;refine ac ?_;refine aV _ () (az H) (Gh.le (bD (PLe.of2 (pE.of_eq (congrArg (PV.own 0 g_data) z191_0))) (aw (aw (aw (aw (aw (aw aS))))))) aE (aL aF))
  refine ap ?_;refine aV _ () (az H) Gh.d
 refine ab (ab ?_);refine fA (γ:=Unit) (fun t21 g21=>⟨220,upd (upd (upd (upd (upd (upd (upd (upd (fun _=>.any) 199 (aK t21.2)) 24 (al (Iw ((Iw ((Iw (Int.fdiv (IntKind.u64.wrap (Iw (a+b))) (2^1)))+m))-s18.2.1)))) 20 (al s18.2.1)) 18 (al (Iw (Int.fdiv (IntKind.u64.wrap (Iw (a+b))) (2^1))))) 4 (.fn g_cmp caps_cmp)) 3 (al b)) 1 (al a)) 0 (.own 0 g_data (t21.1.map rRr).length),fun _=>none,upd (fun _=>none) 0 (some ⟨g_data,54,(t21.1.map rRr),true⟩)⟩) H (fun _ H=>?_) (fun t21 g21 H=>?_)
 ·refine aa (ag 4 U Z ?_);refine bj Z Z Z H (fun H=>?_) (fun H=>?_)
  ·refine ag 4 U Z (ac ?_);refine aV _ () H Gh.d
  refine ag 4 U Z (ac ?_);refine aV _ () H Gh.d
 refine fu (γ:=Unit) (fun t22 g22=>⟨220,upd (upd (upd (upd (upd (fun _=>.any) 24 (al (Iw ((Iw ((Iw (Int.fdiv (IntKind.u64.wrap (Iw (a+b))) (2^1)))+m))-s18.2.1)))) 18 (al (Iw (Int.fdiv (IntKind.u64.wrap (Iw (a+b))) (2^1))))) 4 (.fn g_cmp caps_cmp)) 3 (al b)) 0 (.own 0 g_data (t22.map rRr).length),fun _=>none,upd (fun _=>none) 0 (some ⟨g_data,54,(t22.map rRr),true⟩)⟩) H (fun _ H=>?_) (fun t22 g22 H=>?_)
 ·refine aH Z H (fun H=>?_) (fun H=>?_)
  ·refine aa (ag 5 U Z ?_)
   obtain⟨x205,h205,H⟩:=aq H
   have s205:=hrec268 g_data t21.1 a s18.2.1 (Iw (Int.fdiv (IntKind.u64.wrap (Iw (a+b))) (2^1))) _ h205
   obtain⟨_,q205_0,H⟩:=aq H
   have l205_0:=(dy q205_0).1;have z205_0:(List.map rRr t21.1).length=(List.map rRr x205).length:=by simpa using(l205_0).symm
   refine cq (g:=268) Z Z Z call268 [] [(0,0)] Z Z Z Z (jb.of2 (jk.cons (pE.own Z) (jk.cons (pE.of_eq Z) (jk.cons (pE.of_eq Z) (jk.cons (pE.of_eq Z) (jk.cons (pE.of_eq Z) jk.nil)))))) (by rw[bO,be,bH];rfl) s205 ?_;rintro u205 H205h ⟨rfl,rfl⟩
   refine⟨_,rfl,?_⟩
   refine cu (st':=⟨_,_,fun _=>none,upd (fun _=>none) 0 (some ⟨g_data,54,(x205.map rRr),true⟩)⟩) (Gh.le (bL _ _) aE (aL aF)) ?_;refine ac ?_;refine aV _ () (az H) (Gh.le (bD (PLe.of2 (pE.of_eq (congrArg (PV.own 0 g_data) z205_0))) (aw (aw (aw (aw aS))))) aE (aL aF))
  refine ap ?_;refine aV _ () (az H) Gh.d
 refine ab (aa (ag 4 U Z ?_));refine bj Z Z Z H (fun H=>?_) (fun H=>?_)
 ·refine ag 4 U Z (ac ?_);refine aH Z H (fun H=>?_) (fun H=>?_)
  ·refine aa (ag 5 U Z ?_)
   obtain⟨x219,h219,H⟩:=aq H
   have s219:=hrec268 g_data t22 (Iw (Int.fdiv (IntKind.u64.wrap (Iw (a+b))) (2^1))) (Iw ((Iw ((Iw (Int.fdiv (IntKind.u64.wrap (Iw (a+b))) (2^1)))+m))-s18.2.1)) b _ h219
   obtain⟨_,q219_0,H⟩:=aq H
   have l219_0:=(dy q219_0).1;have z219_0:(List.map rRr t22).length=(List.map rRr x219).length:=by simpa using(l219_0).symm
   refine cq (g:=268) Z Z Z call268 [] [(0,0)] Z Z Z Z (jb.of2 (jk.cons (pE.own Z) (jk.cons (pE.of_eq Z) (jk.cons (pE.of_eq Z) (jk.cons (pE.of_eq Z) (jk.cons (pE.of_eq Z) jk.nil)))))) (by rw[bO,be,bH];rfl) s219 ?_;rintro u219 H219h ⟨rfl,rfl⟩
   refine⟨_,rfl,?_⟩
   refine cu (st':=⟨_,_,fun _=>none,upd (fun _=>none) 0 (some ⟨g_data,54,(x219.map rRr),true⟩)⟩) (Gh.le (bL _ _) aE (aL aF)) ?_;refine ac ?_;obtain rfl:=az H;refine cx (st':=⟨220,fun _=>.any,fun _=>none,upd (fun _=>none) 0 (some ⟨g_data,54,(x219.map rRr),true⟩)⟩) (Gh.le aS aE (aL aF)) ?_;refine mg Z (PLe.q Z) ⟨rfl,rfl⟩
  refine ap ?_;obtain rfl:=az H;refine cx (st':=⟨220,fun _=>.any,fun _=>none,upd (fun _=>none) 0 (some ⟨g_data,54,(t22.map rRr),true⟩)⟩) (Gh.le aS aE (aL aF)) ?_;refine mg Z (PLe.q Z) ⟨rfl,rfl⟩
 refine ag 4 U Z (ac (bF Z (ap ?_)));obtain rfl:=az H;refine cx (st':=⟨220,fun _=>.any,fun _=>none,upd (fun _=>none) 0 (some ⟨g_data,54,(t22.map rRr),true⟩)⟩) (Gh.le aS aE (aL aF)) ?_;refine mg Z (PLe.q Z) ⟨rfl,rfl⟩
def bC:Nat->Rz->Int->Int->Int->(Rq->Rq->Option (Int))->Option (Rz)
 |0,_,_,_,_,_=>none
 |n+1,v0,v1,v2,v3,v4=>cW (fun b0 b1 b2 b3=>bC n b0 b1 b2 b3 v4) v0 v1 v2 v3 v4
theorem mG{g_cmp:FuncId}{caps_cmp:List PV}(cmp:Rq->Rq->Option (Int))(hg_cmp:∀(vs:Array Value) (w:World),(callFunc g_cmp vs).run prog w= .ok (.enter g_cmp vs) w)(hp_cmp:∀a0 a1 r,cmp a0 a1=some r->aQ prog g_cmp ((.list 69 (a0.map ae))::(.list 69 (a1.map ae))::caps_cmp) (al r))(n:Nat):(∀g0 a0 a1 a2 a3 r,bC n a0 a1 a2 a3 cmp=some r->PH prog 268 [(.own 0 g0 (a0.map rRr).length),(al a1),(al a2),(al a3),(.fn g_cmp caps_cmp)] ⟨fun _=>none,upd (fun _=>none) 0 (some ⟨g0,54,(a0.map rRr),true⟩)⟩ (fun u H=>u=(.tup [])/\H=⟨fun _=>none,upd (fun _=>none) 0 (some ⟨g0,54,(r.map rRr),true⟩)⟩)):=by
 induction n with
 |zero=>exact(by intros;rename_i h;exact absurd (show(none:Option _)=some _ from h) (by simp))
 |succ n ih=>
  exact(fun g0 v0 v1 v2 v3 r h=>mL g0 (fun b0 b1 b2 b3=>bC n b0 b1 b2 b3 cmp) ih v0 v1 v2 v3 cmp hg_cmp hp_cmp r h)
def fQ(data:Rz)(a:Int)(m:Int)(b:Int)(cmp:Rq->Rq->Option (Int)):Option (Rz):=ij fun n=>bC n data a m b cmp
theorem jW(g_data:OwnRef){g_cmp:FuncId}{caps_cmp:List PV}(data:Rz)(a:Int)(m:Int)(b:Int)(cmp:Rq->Rq->Option (Int))(hg_cmp:∀(vs:Array Value) (w:World),(callFunc g_cmp vs).run prog w= .ok (.enter g_cmp vs) w)(hp_cmp:∀a0 a1 r,cmp a0 a1=some r->aQ prog g_cmp ((.list 69 (a0.map ae))::(.list 69 (a1.map ae))::caps_cmp) (al r))(r:Rz)(H:fQ data a m b cmp=some r):
  PH prog 268 [(.own 0 g_data (data.map rRr).length),(al a),(al m),(al b),(.fn g_cmp caps_cmp)] ⟨fun _=>none,upd (fun _=>none) 0 (some ⟨g_data,54,(data.map rRr),true⟩)⟩ (fun u H=>u=(.tup [])/\H=⟨fun _=>none,upd (fun _=>none) 0 (some ⟨g_data,54,(r.map rRr),true⟩)⟩):=by
 obtain⟨n,h⟩:=jt H
 exact(mG cmp hg_cmp hp_cmp n) g_data data a m b r h
def jn(inst:List LW):Option ((List LW)):=
 af (aN (σ:=List LW) (ρ:=Empty) (fun(_:Nat) (x1:LW) (s1:List LW)=>
  af (it x1.rows) fun x17=>
  af (cJ 40 s1 ([(LW.mk x1.table x17)]:List LW)) fun(x20:List LW)=>
  some (.next x20)) 0 inst []) fun fl1=>fl1.thenP fun(s1:List LW)=>
 some s1
theorem vk{m:Nat}(inst:List LW)(r:(List LW))(H:jn inst=some r):
  ie prog 29 [(.list 86 (inst.map bG))] (ku m 86 (r.map bG)):=by
 unfold jn at H;refine PH.av func29 ntmps29 ?_;refine am 1 U Z (am 1 U Z (ab (ab (aa (ah U Z (aB U (zl _) ?_))))));refine ah U Z (ac (gQ U 3 20 (e:=86) Z Z ?_));refine fW (γ:=OwnRef) U 8 7 6 (fun s1 g1=>upd (fun _=>.any) 3 (.own 20 g1 (s1.map bG).length)) nB (fun s1 g1=>upd (fun _=>none) 20 (some ⟨g1,86,(s1.map bG),true⟩)) (⟨none,0⟩) H (fun fl1 Hp1 j1 s1 g1 hz1 hl1 x1 fb1 hx1 H hg1=>?_) (fun s1 g1 H=>?_)
 ·refine ab (aA (ab (aa ?_)));refine aU U (zn j1) (bn (fun _=>Z) hx1) ?_;refine ah U Z ?_;refine bf U fun b5=>?_
  refine au U ?_;refine ac (bd U mok ⟨true,false,[]⟩ [0,1,2,3,4,5,6,7,8,9] Z (by decide+kernel) Z (aG 2 Z (bi ?_)));refine bA Z (bi ?_)
  obtain⟨x17,h17,H⟩:=aq H
  have s17:=mT (m:=17) x1.rows _ h17;refine aW call57 (jb.r) (PFun.ik s17) ?_;refine aG 2 Z ?_
  obtain⟨x20,h20,H⟩:=aq H
  have k20:=bS h20;refine gk (rows2':=List.map bG ([(LW.mk x1.table x17)]:List LW)) (rows':=List.map bG x20) U Z Z Z Z Z Z Z Z Z Z Z Z Z Z (gH.refl _) (cD k20.1) (cC k20.2.1) (cE k20.2.2) fun g20=>?_
  refine bA Z (aZ (aM (bh 2 U Z ?_)));exact bm g20 H hl1 hg1
 refine am 2 U Z ?_;obtain rfl:=az H;refine gL U Z
def iR(sA:LSchema)(c:LChange):Option (Int):=
 letP (
  cond (c.kind==(1:Int))
   (cond (decide ((c.key.length:Int)>(0:Int)))
    (true)
    (cond (c.kind==(2:Int))
     (cond (decide ((c.row.length:Int)>(0:Int)))
      (true)
      (cond (c.kind !=(1:Int))
       ((c.kind !=(2:Int)))
       (false)))
     (cond (c.kind !=(1:Int))
      ((c.kind !=(2:Int)))
      (false))))
   (cond (c.kind==(2:Int))
    (cond (decide ((c.row.length:Int)>(0:Int)))
     (true)
     (cond (c.kind !=(1:Int))
      ((c.kind !=(2:Int)))
      (false)))
    (cond (c.kind !=(1:Int))
     ((c.kind !=(2:Int)))
     (false)))) fun(t1:Bool)=>
 cond t1
  (some 3)
  (af (dS sA c.table) fun x41=>
  cond (!x41.2)
   (some 4)
   (cond (c.kind==(1:Int))
    (af (aP sA.tables x41.1) fun(x52:LTable)=>
    af (et x52 c.row) fun x56=>
    some x56)
    (af (aP sA.tables x41.1) fun(x60:LTable)=>
    af (iI x60 c.key) fun x64=>
    some x64)))
theorem uG(sA:LSchema)(c:LChange)(r:Int)(H:iR sA c=some r):
  aQ prog 46 [(.agg (cy sA)),(.agg (bV c))] (al r):=by
 unfold iR at H;refine PH.av func46 ntmps46 ?_;refine ab (aa (aJ ?_));refine aJ ?_;refine ah U Z (ac (ab (ab ?_)));refine fA (γ:=Unit) (fun t1 g1=>⟨65,upd (upd (upd (fun _=>.any) 36 (aK t1)) 3 (.ptr (bV c))) 2 (.ptr (cy sA)),fun _=>none,fun _=>none⟩) H (fun _ H=>?_) (fun t1 g1 H=>?_)
 ·refine aa (ag 4 U Z ?_);refine bj Z Z Z H (fun H=>?_) (fun H=>?_)
  ·refine ag 2 U Z (aB U (zl _) ?_);refine ag 3 U Z ?_;refine bj Z Z Z H (fun H=>?_) (fun H=>?_)
   ·refine ag 20 U Z (ac ?_);refine aV _ () H Gh.d
   refine ag 4 U Z ?_;refine bj Z Z Z H (fun H=>?_) (fun H=>?_)
   ·refine ag 2 U Z (aB U (zl _) ?_);refine ag 4 U Z ?_;refine bj Z Z Z H (fun H=>?_) (fun H=>?_)
    ·refine ag 9 U Z (ac ?_);refine aV _ () H Gh.d
    refine ag 4 U Z ?_;refine bj Z Z Z H (fun H=>?_) (fun H=>?_)
    ·refine ag 5 U Z (ac ?_);refine aV _ () H Gh.d
    refine ag 5 U Z (ac ?_);refine aV _ () H Gh.d
   refine ag 11 U Z ?_;refine bj Z Z Z H (fun H=>?_) (fun H=>?_)
   ·refine ag 5 U Z (ac ?_);refine aV _ () H Gh.d
   refine ag 5 U Z (ac ?_);refine aV _ () H Gh.d
  refine ag 10 U Z ?_;refine bj Z Z Z H (fun H=>?_) (fun H=>?_)
  ·refine ag 2 U Z (aB U (zl _) ?_);refine ag 4 U Z ?_;refine bj Z Z Z H (fun H=>?_) (fun H=>?_)
   ·refine ag 9 U Z (ac ?_);refine aV _ () H Gh.d
   refine ag 4 U Z ?_;refine bj Z Z Z H (fun H=>?_) (fun H=>?_)
   ·refine ag 5 U Z (ac ?_);refine aV _ () H Gh.d
   refine ag 5 U Z (ac ?_);refine aV _ () H Gh.d
  refine ag 11 U Z ?_;refine bj Z Z Z H (fun H=>?_) (fun H=>?_)
  ·refine ag 5 U Z (ac ?_);refine aV _ () H Gh.d
  refine ag 5 U Z (ac ?_);refine aV _ () H Gh.d
 refine aH Z H (fun H=>?_) (fun H=>?_)
 ·refine am 1 U Z ?_;exact bc U H Z
 refine ap (ab (aa (ag 3 U Z ?_)))
 obtain⟨x41,h41,H⟩:=aq H
 have s41:=jw sA c.table _ h41;refine ak call28 (jb.r) s41 ?_;refine ag 5 U Z (ac (ab (am 2 U Z ?_)));refine aH Z H (fun H=>?_) (fun H=>?_)
 ·refine am 1 U Z ?_;exact bc U H Z
 refine ap (ab (am 3 U Z ?_));refine aH Z H (fun H=>?_) (fun H=>?_)
 ·refine ab (bd U mok ⟨false,false,[]⟩ [0,1,2,3,4,5,6,7,8] Z (by decide+kernel) Z (aG 3 Z ?_))
  obtain⟨x52,k52,H⟩:=bl H
  refine bs k52.1 (aO (fun _=>Z) k52.2) ?_;refine aG 3 Z ?_
  obtain⟨x56,h56,H⟩:=aq H
  have s56:=mD x52 c.row _ h56;refine aW call78 (jb.r) s56 ?_;refine bA Z (aZ ?_);exact bc U H Z
 refine ap (ab (bd U mok ⟨false,false,[]⟩ [0,1,2,3,4,5,6,7,8] Z (by decide+kernel) Z (aG 3 Z ?_)))
 obtain⟨x60,k60,H⟩:=bl H
 refine bs k60.1 (aO (fun _=>Z) k60.2) ?_;refine aG 3 Z ?_
 obtain⟨x64,h64,H⟩:=aq H
 have s64:=sO x60 c.key _ h64;refine aW call84 (jb.r) s64 ?_;refine bA Z (aZ ?_);exact bc U H Z
def lw(a:Rz)(b:Rz):Option (Bool):=
 af (ee a b (fun a0 a1=>jr a0 a1)) fun x7=>
 some x7
theorem sQ(a:Rz)(b:Rz)(r:Bool)(H:lw a b=some r):
  aQ prog 22 [(.list 54 (a.map rRr)),(.list 54 (b.map rRr))] (aK r):=by
 unfold lw at H;refine PH.av func22 ntmps22 ?_;refine am 1 U Z (ab (aa (ag 2 U Z ?_)))
 obtain⟨x7,h7,H⟩:=aq H
 have s7:=jJ a b (fun a0 a1=>jr a0 a1) call52 (fun a0 a1 r h=>re a0 a1 r h) _ h7;refine ak call51 (jb.r) s7 ?_;refine ah U Z (ac ?_);exact bc U H Z
def iP(a:LVal)(op:Rb)(b:LVal):Bool×Int:=
 letP (
  cond (!(op==([61]:Rb)))
   (cond (!(op==([60]:Rb)))
    ((!(op==([60,61]:Rb))))
    (false))
   (false)) fun(t1:Bool)=>
 cond t1
  ((false,3))
  (letP (
   cond (a.kind==(0:Int))
    (true)
    ((b.kind==(0:Int)))) fun(t2:Bool)=>
  cond t2
   ((true,0))
   (letP (kE a b) fun x29=>
   cond (x29==(0:Int))
    (cond (!(op==([60]:Rb)))
     ((true,0))
     (cond (decide (x29<(0:Int)))
      (((!(op==([61]:Rb))),0))
      ((false,0))))
    (cond (decide (x29<(0:Int)))
     (((!(op==([61]:Rb))),0))
     ((false,0)))))
theorem uC(a:LVal)(op:Rb)(b:LVal):
  aQ prog 109 [(.agg (ae a)),(.str op),(.agg (ae b))] (.tup [(aK ((iP a op b).1)),(al ((iP a op b).2))]):=by
 obtain⟨r,H⟩:∃r,iP a op b=r:=⟨_,rfl⟩
 rw[H];unfold iP at H;refine PH.av func109 ntmps109 ?_;refine ab (aa (aJ ?_));refine aJ ?_;refine ag 2 U Z (ac (ab (ab ?_)));refine fA (γ:=Unit) (fun t1 g1=>⟨44,upd (upd (upd (upd (fun _=>.any) 18 (aK t1)) 5 (.ptr (ae b))) 3 (.ptr (ae a))) 1 (.str op),fun _=>none,fun _=>none⟩) H (fun _ H=>?_) (fun t1 g1 H=>?_)
 ·refine aa (ag 3 U Z ?_);refine bj Z Z Z H (fun H=>?_) (fun H=>?_)
  ·refine ag 4 U Z ?_;refine bj Z Z Z H (fun H=>?_) (fun H=>?_)
   ·refine ag 3 U Z (ac ?_);refine aV _ () H Gh.d
   refine ag 3 U Z (ac ?_);refine aV _ () H Gh.d
  refine ag 7 U Z (ac ?_);refine aV _ () H Gh.d
 refine aH Z H (fun H=>?_) (fun H=>?_)
 ·refine am 2 U Z ?_;exact ez U H Z
 refine ap (ab (ab ?_));refine fA (γ:=Unit) (fun t2 g2=>⟨44,upd (upd (upd (upd (fun _=>.any) 26 (aK t2)) 5 (.ptr (ae b))) 3 (.ptr (ae a))) 1 (.str op),fun _=>none,fun _=>none⟩) H (fun _ H=>?_) (fun t2 g2 H=>?_)
 ·refine aa (ag 4 U Z ?_);refine bj Z Z Z H (fun H=>?_) (fun H=>?_)
  ·refine ag 4 U Z (ac ?_);refine aV _ () H Gh.d
  refine ag 4 U Z (ac ?_);refine aV _ () H Gh.d
 refine aH Z H (fun H=>?_) (fun H=>?_)
 ·refine am 2 U Z ?_;exact ez U H Z
 refine ap (ab (aa (ag 2 U Z ?_)))
 obtain⟨x29,h29,H⟩:=cK H
 have s29:=qM a b;rw[h29]at s29;refine ak call112 (jb.r) s29 ?_;refine ah U Z (ac (ab (aa (ag 3 U Z ?_))));refine bj Z Z Z H (fun H=>?_) (fun H=>?_)
 ·refine ag 4 U Z ?_;refine bj Z Z Z H (fun H=>?_) (fun H=>?_)
  ·refine ag 9 U Z (ac ?_);exact ez U H Z
  refine ag 3 U Z ?_;refine bj Z Z Z H (fun H=>?_) (fun H=>?_)
  ·refine ag 6 U Z (ac ?_);exact ez U H Z
  refine ag 6 U Z (ac ?_);exact ez U H Z
 refine ag 7 U Z ?_;refine bj Z Z Z H (fun H=>?_) (fun H=>?_)
 ·refine ag 6 U Z (ac ?_);exact ez U H Z
 refine ag 6 U Z (ac ?_);exact ez U H Z
def dC(a:Rq)(b:Rq):Option (Int):=
 af (ny (if(b.length:Int)<(a.length:Int)then(b.length:Int)else(a.length:Int))) fun(n1:Nat)=>
 af (aN (σ:=Unit) (ρ:=(Int)) (fun(j1:Nat) (_:Nat) (_:Unit)=>
  af (aP a (j1:Int)) fun(x17:LVal)=>
  af (aP b (j1:Int)) fun(x21:LVal)=>
  letP (kE x17 x21) fun x23=>
  cond (x23 !=(0:Int))
   (some (.ret x23))
   (some (.next ()))) 0 (List.range n1) ()) fun fl1=>fl1.thenR fun(_:Unit)=>
 letP (gY (a.length:Int) (b.length:Int)) fun x32=>
 some x32
theorem og(a:Rq)(b:Rq)(r:Int)(H:dC a b=some r):
  aQ prog 79 [(.list 69 (a.map ae)),(.list 69 (b.map ae))] (al r):=by
 unfold dC at H;refine PH.av func79 ntmps79 ?_;refine am 1 U Z (ab (ab (aa (ah U Z (aB U (zl _) ?_)))));refine ah U Z (aB U (zl _) ?_);refine ag 2 U Z (ac ?_)
 obtain⟨n1,hs1,H⟩:=aq H
 have hz1:=mM hs1
 obtain⟨fl1,H1,Hp1⟩:=aq H
 refine fm (τ:=Unit) (γ:=Unit) (fun s1 g1=>⟨33,upd (upd (fun _=>.any) 1 (.list 69 (b.map ae))) 0 (.list 69 (a.map ae)),fun _=>none,fun _=>none⟩) (fun t=>fl1= .next t) ?_ (fun s1 g1 hn1=>?_)
 ·refine aA ?_;refine iH (fun j1 s1 g1=>⟨33,upd (upd (upd (upd (fun _=>.any) 12 (al (j1:Int))) 11 (al (if(b.length:Int)<(a.length:Int)then(b.length:Int)else(a.length:Int)))) 1 (.list 69 (b.map ae))) 0 (.list 69 (a.map ae)),fun _=>none,fun _=>none⟩) () H1 Gh.d (fun j1 s1 g1 hj1 hr1=>?_);refine am 1 U Z (ab ?_);refine bp Z (fun h=>?_) (fun h=>?_)
  ·have hl1:=natLt hz1 h
   obtain⟨x1,fb1,hx1,H,hg1⟩:=rMc hl1 hr1
   obtain rfl:=natX hx1;refine ap (ab (aA (am 2 U Z (ab (bd U mok ⟨false,false,[]⟩ [0,1,2,3,4,5,6,7,8,9] Z (by decide+kernel) Z (aG 2 Z ?_))))))
   obtain⟨x17,k17,H⟩:=bl H
   refine bs k17.1 (aO (fun _=>Z) k17.2) ?_;refine aG 3 Z ?_
   obtain⟨x21,k21,H⟩:=bl H
   refine bs k21.1 (aO (fun _=>Z) k21.2) ?_;refine bA Z ?_
   obtain⟨x23,h23,H⟩:=cK H
   have s23:=qM x17 x21;rw[h23]at s23;refine aW call112 (jb.r) s23 ?_;refine bA Z (aZ (am 2 U Z ?_));refine aH Z H (fun H=>?_) (fun H=>?_)
   ·refine am 2 U Z ?_;obtain rfl:=az H;have e1:fl1= .ret _:=hg1;subst e1;obtain rfl:=aT Hp1;refine ba U Z (ps:=[(al x23)]) ⟨_,_,rfl,rfl,rfl⟩ (PLe.q Z)
   refine ap (aM (bh 2 U Z ?_));exact bm () H hl1 hg1 (Gh.le (aw (aw (aw (bD (PLe.q (nz hz1 hl1)) aS)))) aE aF)
  have hn1:=rMd (natGe hz1 h) hr1;refine bq Z ?_;refine aV s1 g1 hn1 Gh.d
 have H:=lA hn1 Hp1;refine ab (aa (ah U Z (aB U (zl _) ?_)));refine ah U Z (aB U (zl _) ?_)
 obtain⟨x32,h32,H⟩:=cK H
 have s32:=lQ (a.length:Int) (b.length:Int);rw[h32]at s32;refine ak call113 (jb.r) s32 ?_;refine ah U Z (ac ?_);exact bc U H Z
def gS(sA:LS):Option (Bool):=
 letP (
  cond (decide (sA.kind<(1:Int)))
   (true)
   ((decide (sA.kind>(9:Int))))) fun(t1:Bool)=>
 af (
  cond t1
   (some t1)
   (af (ce ([1]:List Int) sA) fun x16=>
   cond (!(x16==(!(sA.name==([]:Rb)))))
    (some (!(x16==(!(sA.name==([]:Rb))))))
    (af (ce ([4,5,6]:List Int) sA) fun x23=>
    cond (!(x23==(!(sA.table==([]:Rb)))))
     (some (!(x23==(!(sA.table==([]:Rb))))))
     (af (
      af (ce ([3,7]:List Int) sA) fun x30=>
      cond (!(x30==((sA.query.length:Int)==(1:Int))))
       (some true)
       (some (decide ((sA.query.length:Int)>(1:Int))))) fun(t8:Bool)=>
     cond t8
      (some t8)
      (af (
       af (ce ([5,6]:List Int) sA) fun x44=>
       cond (!(x44==((sA.whereF.length:Int)==(1:Int))))
        (some true)
        (some (decide ((sA.whereF.length:Int)>(1:Int))))) fun(t9:Bool)=>
      cond t9
       (some t9)
       (af (
        af (ce ([8]:List Int) sA) fun x58=>
        cond (!x58)
         (some (sA.code !=(0:Int)))
         (some false)) fun(t10:Bool)=>
       cond t10
        (some t10)
        (af (
         af (ce ([2,3]:List Int) sA) fun x67=>
         cond (!x67)
          (some (decide ((sA.body.length:Int)>(0:Int))))
          (some false)) fun(t11:Bool)=>
        cond t11
         (some t11)
         (af (
          af (ce ([2]:List Int) sA) fun x77=>
          cond (!x77)
           (some (decide ((sA.elseF.length:Int)>(0:Int))))
           (some false)) fun(t12:Bool)=>
         cond t12
          (some t12)
          (af (ce ([5]:List Int) sA) fun x87=>
          cond (!x87)
           (some (decide ((sA.names.length:Int)>(0:Int))))
           (some false)))))))))) fun(t7:Bool)=>
 cond t7
  (some false)
  (af (ce ([1,2]:List Int) sA) fun x98=>
  cond x98
   (some ((sA.exprs.length:Int)==(1:Int)))
   (af (ce ([5]:List Int) sA) fun x106=>
   cond x106
    (cond ((sA.exprs.length:Int)==(sA.names.length:Int))
     (some (decide ((sA.names.length:Int)>(0:Int))))
     (some false))
    (af (ce ([8]:List Int) sA) fun x123=>
    cond x123
     (cond (decide (sA.code>=(1:Int)))
      (some (decide (sA.code<=(100:Int))))
      (some false))
     (af (ce ([4]:List Int) sA) fun x134=>
     cond x134
      (some true)
      (some ((sA.exprs.length:Int)==(0:Int)))))))
theorem uL(sA:LS)(r:Bool)(H:gS sA=some r):
  aQ prog 81 [(.agg (aC sA))] (aK r):=by
 unfold gS at H;refine PH.av func81 ntmps81 ?_;refine ab (aa (aJ ?_));refine ah U Z (ac (am 2 U Z (ab (aA (ab (ab ?_))))));refine fA (γ:=Unit) (fun t1 g1=>⟨141,upd (upd (upd (fun _=>.any) 5 (aK t1)) 3 (.fn 114 [(.ptr (aC sA))])) 1 (.ptr (aC sA)),fun _=>none,fun _=>none⟩) H (fun _ H=>?_) (fun t1 g1 H=>?_)
 ·refine aa (ag 4 U Z ?_);refine bj Z Z Z H (fun H=>?_) (fun H=>?_)
  ·refine ag 5 U Z (ac ?_);refine aV _ () H Gh.d
  refine ag 5 U Z (ac ?_);refine aV _ () H Gh.d
 refine fu (γ:=Unit) (fun t7 g7=>⟨141,upd (upd (upd (fun _=>.any) 5 (aK t7)) 3 (.fn 114 [(.ptr (aC sA))])) 1 (.ptr (aC sA)),fun _=>none,fun _=>none⟩) H (fun _ H=>?_) (fun t7 g7 H=>?_)
 ·refine aH Z H (fun H=>?_) (fun H=>?_)
  ·refine ap ?_;refine aV _ () (az H) Gh.d
  refine ab (bd U mok ⟨false,false,[]⟩ [0,1,3,4,5,2,6,7] Z (by decide+kernel) Z (aG 5 Z ?_))
  obtain⟨x16,h16,H⟩:=aq H
  have s16:=de ([1]:List Int) sA _ h16;refine aW call114 (jb.r) s16 ?_;refine aG 2 Z (aZ ?_);refine aH Z H (fun H=>?_) (fun H=>?_)
  ·refine ap ?_;refine aV _ () (az H) Gh.d
  refine ab (bd U mok ⟨false,false,[]⟩ [0,1,3,4,5,2,6,7] Z (by decide+kernel) Z (aG 5 Z ?_))
  obtain⟨x23,h23,H⟩:=aq H
  have s23:=de ([4,5,6]:List Int) sA _ h23;refine aW call114 (jb.r) s23 ?_;refine aG 2 Z (aZ ?_);refine aH Z H (fun H=>?_) (fun H=>?_)
  ·refine ap ?_;refine aV _ () (az H) Gh.d
  refine ab ?_;refine fu (γ:=Unit) (fun t8 g8=>⟨141,upd (upd (upd (fun _=>.any) 5 (aK t8)) 3 (.fn 114 [(.ptr (aC sA))])) 1 (.ptr (aC sA)),fun _=>none,fun _=>none⟩) H (fun _ H=>?_) (fun t8 g8 H=>?_)
  ·refine bd U mok ⟨false,false,[]⟩ [0,1,3,4,5,6,2,7,8,9,10,11,12,13,14] Z (by decide+kernel) Z (aG 4 Z (oG Z Z Z Z Z Z (zl _) Z (bA Z ?_)))
   obtain⟨x30,h30,H⟩:=aq H
   have s30:=de ([3,7]:List Int) sA _ h30;refine aW call114 (jb.r) s30 ?_;refine aG 2 Z ?_;refine mj H (fun H=>?_) (fun H=>?_)
   ·refine aG 6 Z (aZ ?_);refine aV _ () (az H) Gh.d
   refine aG 2 Z (oG Z Z Z Z Z Z (zl _) Z (aG 3 Z (aZ ?_)));refine aV _ () (az H) Gh.d
  refine aH Z H (fun H=>?_) (fun H=>?_)
  ·refine ap ?_;refine aV _ () (az H) Gh.d
  refine ab ?_;refine fu (γ:=Unit) (fun t9 g9=>⟨141,upd (upd (upd (fun _=>.any) 5 (aK t9)) 3 (.fn 114 [(.ptr (aC sA))])) 1 (.ptr (aC sA)),fun _=>none,fun _=>none⟩) H (fun _ H=>?_) (fun t9 g9 H=>?_)
  ·refine bd U mok ⟨false,false,[]⟩ [0,1,3,4,5,6,2,7,8,9,10,11,12,13,14] Z (by decide+kernel) Z (aG 4 Z (oG Z Z Z Z Z Z (zl _) Z (bA Z ?_)))
   obtain⟨x44,h44,H⟩:=aq H
   have s44:=de ([5,6]:List Int) sA _ h44;refine aW call114 (jb.r) s44 ?_;refine aG 2 Z ?_;refine mj H (fun H=>?_) (fun H=>?_)
   ·refine aG 6 Z (aZ ?_);refine aV _ () (az H) Gh.d
   refine aG 2 Z (oG Z Z Z Z Z Z (zl _) Z (aG 3 Z (aZ ?_)));refine aV _ () (az H) Gh.d
  refine aH Z H (fun H=>?_) (fun H=>?_)
  ·refine ap ?_;refine aV _ () (az H) Gh.d
  refine ab ?_;refine fu (γ:=Unit) (fun t10 g10=>⟨141,upd (upd (upd (fun _=>.any) 5 (aK t10)) 3 (.fn 114 [(.ptr (aC sA))])) 1 (.ptr (aC sA)),fun _=>none,fun _=>none⟩) H (fun _ H=>?_) (fun t10 g10 H=>?_)
  ·refine aa (ah U Z (ci U (rows':=List.map bQ ([8]:List Int)) (gH.refl _) ?_))
   obtain⟨x58,h58,H⟩:=aq H
   have s58:=de ([8]:List Int) sA _ h58;refine ak call114 (jb.r) s58 ?_;refine ag 2 U Z ?_;refine bj Z Z Z H (fun H=>?_) (fun H=>?_)
   ·refine ag 5 U Z (ac ?_);refine aV _ () (az H) Gh.d
   refine ag 5 U Z (ac ?_);refine aV _ () (az H) Gh.d
  refine aH Z H (fun H=>?_) (fun H=>?_)
  ·refine ap ?_;refine aV _ () (az H) Gh.d
  refine ab ?_;refine fu (γ:=Unit) (fun t11 g11=>⟨141,upd (upd (upd (fun _=>.any) 5 (aK t11)) 3 (.fn 114 [(.ptr (aC sA))])) 1 (.ptr (aC sA)),fun _=>none,fun _=>none⟩) H (fun _ H=>?_) (fun t11 g11 H=>?_)
  ·refine aa (ah U Z (ci U (rows':=List.map bQ ([2,3]:List Int)) (gH.refl _) ?_))
   obtain⟨x67,h67,H⟩:=aq H
   have s67:=de ([2,3]:List Int) sA _ h67;refine ak call114 (jb.r) s67 ?_;refine ag 2 U Z ?_;refine bj Z Z Z H (fun H=>?_) (fun H=>?_)
   ·refine ag 2 U Z (aB U (zl _) ?_);refine ag 3 U Z (ac ?_);refine aV _ () (az H) Gh.d
   refine ag 6 U Z (ac ?_);refine aV _ () (az H) Gh.d
  refine aH Z H (fun H=>?_) (fun H=>?_)
  ·refine ap ?_;refine aV _ () (az H) Gh.d
  refine ab ?_;refine fu (γ:=Unit) (fun t12 g12=>⟨141,upd (upd (upd (fun _=>.any) 5 (aK t12)) 3 (.fn 114 [(.ptr (aC sA))])) 1 (.ptr (aC sA)),fun _=>none,fun _=>none⟩) H (fun _ H=>?_) (fun t12 g12 H=>?_)
  ·refine aa (ah U Z (ci U (rows':=List.map bQ ([2]:List Int)) (gH.refl _) ?_))
   obtain⟨x77,h77,H⟩:=aq H
   have s77:=de ([2]:List Int) sA _ h77;refine ak call114 (jb.r) s77 ?_;refine ag 2 U Z ?_;refine bj Z Z Z H (fun H=>?_) (fun H=>?_)
   ·refine ag 2 U Z (aB U (zl _) ?_);refine ag 3 U Z (ac ?_);refine aV _ () (az H) Gh.d
   refine ag 6 U Z (ac ?_);refine aV _ () (az H) Gh.d
  refine aH Z H (fun H=>?_) (fun H=>?_)
  ·refine ap ?_;refine aV _ () (az H) Gh.d
  refine aa (ah U Z (ci U (rows':=List.map bQ ([5]:List Int)) (gH.refl _) ?_))
  obtain⟨x87,h87,H⟩:=aq H
  have s87:=de ([5]:List Int) sA _ h87;refine ak call114 (jb.r) s87 ?_;refine ag 2 U Z ?_;refine bj Z Z Z H (fun H=>?_) (fun H=>?_)
  ·refine ag 2 U Z (aB U (zl _) ?_);refine ag 3 U Z (ac ?_);refine aV _ () (az H) Gh.d
  refine ag 6 U Z (ac ?_);refine aV _ () (az H) Gh.d
 refine aH Z H (fun H=>?_) (fun H=>?_)
 ·refine am 1 U Z ?_;exact bc U H Z
 refine ab (aa (ah U Z (ci U (rows':=List.map bQ ([1,2]:List Int)) (gH.refl _) ?_)))
 obtain⟨x98,h98,H⟩:=aq H
 have s98:=de ([1,2]:List Int) sA _ h98;refine ak call114 (jb.r) s98 ?_;refine ah U Z (ac ?_);refine aH Z H (fun H=>?_) (fun H=>?_)
 ·refine ab (aa (ag 2 U Z (aB U (zl _) ?_)));refine ag 2 U Z (ac ?_);exact bc U H Z
 refine ab (aa (ah U Z (ci U (rows':=List.map bQ ([5]:List Int)) (gH.refl _) ?_)))
 obtain⟨x106,h106,H⟩:=aq H
 have s106:=de ([5]:List Int) sA _ h106;refine ak call114 (jb.r) s106 ?_;refine ah U Z (ac ?_);refine aH Z H (fun H=>?_) (fun H=>?_)
 ·refine ab (aa (ag 2 U Z (aB U (zl _) ?_)));refine ag 2 U Z (aB U (zl _) ?_);refine ag 2 U Z ?_;refine bj Z Z Z H (fun H=>?_) (fun H=>?_)
  ·refine ag 2 U Z (aB U (zl _) ?_);refine ag 3 U Z (ac ?_);exact bc U H Z
  refine ag 6 U Z (ac ?_);exact bc U H Z
 refine ab (aa (ah U Z (ci U (rows':=List.map bQ ([8]:List Int)) (gH.refl _) ?_)))
 obtain⟨x123,h123,H⟩:=aq H
 have s123:=de ([8]:List Int) sA _ h123;refine ak call114 (jb.r) s123 ?_;refine ah U Z (ac ?_);refine aH Z H (fun H=>?_) (fun H=>?_)
 ·refine ab (aa (ag 4 U Z ?_));refine bj Z Z Z H (fun H=>?_) (fun H=>?_)
  ·refine ag 5 U Z (ac ?_);exact bc U H Z
  refine ag 5 U Z (ac ?_);exact bc U H Z
 refine ap (aM (ab (aa (ah U Z (ci U (rows':=List.map bQ ([4]:List Int)) (gH.refl _) ?_)))))
 obtain⟨x134,h134,H⟩:=aq H
 have s134:=de ([4]:List Int) sA _ h134;refine ak call114 (jb.r) s134 ?_;refine ah U Z ?_;refine bj Z Z Z H (fun H=>?_) (fun H=>?_)
 ·refine ag 6 U Z (ac ?_);exact bc U H Z
 refine ag 2 U Z (aB U (zl _) ?_);refine ag 3 U Z (ac ?_);exact bc U H Z
def ed(c:LC)(cols:List LCol)(vars:List LCol)(e:LExpr):Option (Int×Bool×Int):=
 letP (fq cols vars e) fun x19=>
 cond (x19.2.2 !=(0:Int))
  (some (0,false,x19.2.2))
  (af (fe c (LQuery.mk 0 [] [] [e] [] [] 0 0 [])) fun x30=>
  cond (x30 !=(0:Int))
   (some (0,false,x30))
   (some (x19.1,x19.2.1,0)))
theorem jI(c:LC)(cols:List LCol)(vars:List LCol)(e:LExpr)(r:Int×Bool×Int)(H:ed c cols vars e=some r):
  aQ prog 116 [(.agg (bt c)),(.list 93 (cols.map ay)),(.list 93 (vars.map ay)),(.agg (iA e))] (.tup [(al r.1),(aK r.2.1),(al r.2.2)]):=by
 unfold ed at H;refine PH.av func116 ntmps116 ?_;refine ab (aa (aJ ?_));refine aJ ?_;refine ag 3 U Z (ac (ab (aa (ag 3 U Z ?_))))
 obtain⟨x19,h19,H⟩:=cK H
 have s19:=lM cols vars e;rw[h19]at s19;refine ak call122 (jb.r) s19 ?_;refine ag 7 U Z (ac (ab (am 2 U Z ?_)));refine aH Z H (fun H=>?_) (fun H=>?_)
 ·refine am 4 U Z ?_;exact bc U H Z
 refine ap (ab (ab (aa (ag 2 U Z (ci U (rows':=List.map ft ([e]:List LExpr)) (gH.trans (b:=List.map iA [e]) (gH.refl _) (gH.of_eq (rJ db [e]))) ?_)))));refine ah U Z ?_
 obtain⟨x30,h30,H⟩:=aq H
 have s30:=lV c (LQuery.mk 0 [] [] [e] [] [] 0 0 []) _ h30;refine ak call120 (jb.of2 (jk.cons (pE.of_eq Z) (jk.cons (pE.agg (jk.cons (pE.of_eq Z) (jk.cons (pE.of_eq Z) (jk.cons (pE.nil U Z) (jk.cons (pE.of_eq Z) (jk.cons (pE.nil U Z) (jk.cons (pE.nil U Z) (jk.cons (pE.of_eq Z) (jk.cons (pE.of_eq Z) (jk.cons (pE.nil U Z) jk.nil)))))))))) jk.nil))) s30 ?_;refine ah U Z (ac (am 2 U Z ?_));refine aH Z H (fun H=>?_) (fun H=>?_)
 ·refine am 4 U Z ?_;exact bc U H Z
 refine ap (am 5 U Z ?_);exact bc U H Z
def lC(q:LQuery):Option (Bool):=
 af (
  cond (decide (q.kind<(1:Int)))
   (some true)
   (cond (decide (q.kind>(10:Int)))
    (some true)
    (af (aP ([(-1),0,1,1,2,2,2,2,1,1,1]:List Int) q.kind) fun(x21:Int)=>
    some ((q.inputs.length:Int) !=x21)))) fun(t1:Bool)=>
 cond t1
  (some false)
  (af (
   af (dU ([1]:List Int) q) fun x29=>
   cond (!x29)
    (some (!(q.table==([]:Rb))))
    (some false)) fun(t2:Bool)=>
  af (
   cond t2
    (some t2)
    (af (
     af (dU ([3,8]:List Int) q) fun x38=>
     cond (!x38)
      (some (decide ((q.names.length:Int)>(0:Int))))
      (some false)) fun(t7:Bool)=>
    cond t7
     (some t7)
     (af (
      af (dU ([8]:List Int) q) fun x48=>
      cond (!x48)
       (some (decide ((q.aggregates.length:Int)>(0:Int))))
       (some false)) fun(t8:Bool)=>
     cond t8
      (some t8)
      (af (
       af (dU ([9]:List Int) q) fun x58=>
       cond (!x58)
        (some (decide ((q.descending.length:Int)>(0:Int))))
        (some false)) fun(t9:Bool)=>
      cond t9
       (some t9)
       (af (dU ([10]:List Int) q) fun x68=>
       cond (!x68)
        (cond (q.count !=(0:Int))
         (some true)
         (some (q.offset !=(0:Int))))
        (some false)))))) fun(t6:Bool)=>
  cond t6
   (some false)
   (af (dU ([2,4,5]:List Int) q) fun x83=>
   cond x83
    (some ((q.exprs.length:Int)==(1:Int)))
    (af (dU ([3,8]:List Int) q) fun x91=>
    cond x91
     (cond ((q.exprs.length:Int)==(q.names.length:Int))
      (some (decide ((Iw ((q.exprs.length:Int)+(q.aggregates.length:Int)))>(0:Int))))
      (some false))
     (af (dU ([9]:List Int) q) fun x112=>
     cond x112
      (cond ((q.exprs.length:Int)==(q.descending.length:Int))
       (some (decide ((q.exprs.length:Int)>(0:Int))))
       (some false))
      (af (dU ([10]:List Int) q) fun x129=>
      cond x129
       (cond ((q.exprs.length:Int)==(0:Int))
        (cond (decide (q.count>=(0:Int)))
         (some (decide (q.offset>=(0:Int))))
         (some false))
        (some false))
       (some ((q.exprs.length:Int)==(0:Int))))))))
theorem W_query_shape(q:LQuery)(r:Bool)(H:lC q=some r):
  aQ prog 206 [(.agg (aY q))] (aK r):=by
 unfold lC at H;refine PH.av func206 ntmps206 ?_;refine ab (aa (aJ ?_));refine ah U Z (ac (ab (aa (we (e:=3) (rows:=[[(al (-1))],[(al 0)],[(al 1)],[(al 1)],[(al 2)],[(al 2)],[(al 2)],[(al 2)],[(al 1)],[(al 1)],[(al 1)]]) U Z Z Z Z (rows':=List.map bQ ([(-1),0,1,1,2,2,2,2,1,1,1]:List Int)) (by kernel_rfl) (gH.refl _) Z Z (ah U Z (ac (ab (ab ?_))))))));refine fu (γ:=Unit) (fun t1 g1=>⟨148,upd (upd (fun _=>.any) 24 (aK t1)) 1 (.ptr (aY q)),fun _=>none,fun _=>none⟩) H (fun _ H=>?_) (fun t1 g1 H=>?_)
 ·refine bd U mok ⟨false,false,[]⟩ [0,1,2,3,4,5,6,7,8,9,10,11,12,13,14,15,16,17,18] Z (by decide+kernel) Z (aG 4 Z ?_);refine mj H (fun H=>?_) (fun H=>?_)
  ·refine aG 15 Z (aZ ?_);refine aV _ () (az H) Gh.d
  refine aG 5 Z ?_;refine mj H (fun H=>?_) (fun H=>?_)
  ·refine aG 10 Z (aZ ?_);refine aV _ () (az H) Gh.d
  refine aG 2 Z (oG Z Z Z Z Z Z (zl _) Z (aG 3 Z ?_))
  obtain⟨x21,k21,H⟩:=bl H
  refine bs k21.1 (aO (fun _=>Z) k21.2) ?_;refine aG 3 Z (aZ ?_);refine aV _ () (az H) Gh.d
 refine aH Z H (fun H=>?_) (fun H=>?_)
 ·refine am 1 U Z ?_;exact bc U H Z
 refine ap (am 2 U Z (ab (aA (ab (ab ?_)))));refine fu (γ:=Unit) (fun t2 g2=>⟨148,upd (upd (upd (fun _=>.any) 26 (aK t2)) 4 (.fn 233 [(.ptr (aY q))])) 1 (.ptr (aY q)),fun _=>none,fun _=>none⟩) H (fun _ H=>?_) (fun t2 g2 H=>?_)
 ·refine aa (ah U Z (ci U (rows':=List.map bQ ([1]:List Int)) (gH.refl _) ?_))
  obtain⟨x29,h29,H⟩:=aq H
  have s29:=gn ([1]:List Int) q _ h29;refine ak call233 (jb.r) s29 ?_;refine ag 2 U Z ?_;refine bj Z Z Z H (fun H=>?_) (fun H=>?_)
  ·refine ag 5 U Z (ac ?_);refine aV _ () (az H) Gh.d
  refine ag 5 U Z (ac ?_);refine aV _ () (az H) Gh.d
 refine fu (γ:=Unit) (fun t6 g6=>⟨148,upd (upd (upd (fun _=>.any) 26 (aK t6)) 4 (.fn 233 [(.ptr (aY q))])) 1 (.ptr (aY q)),fun _=>none,fun _=>none⟩) H (fun _ H=>?_) (fun t6 g6 H=>?_)
 ·refine aH Z H (fun H=>?_) (fun H=>?_)
  ·refine ap ?_;refine aV _ () (az H) Gh.d
  refine ab ?_;refine fu (γ:=Unit) (fun t7 g7=>⟨148,upd (upd (upd (fun _=>.any) 26 (aK t7)) 4 (.fn 233 [(.ptr (aY q))])) 1 (.ptr (aY q)),fun _=>none,fun _=>none⟩) H (fun _ H=>?_) (fun t7 g7 H=>?_)
  ·refine aa (ah U Z (ci U (rows':=List.map bQ ([3,8]:List Int)) (gH.refl _) ?_))
   obtain⟨x38,h38,H⟩:=aq H
   have s38:=gn ([3,8]:List Int) q _ h38;refine ak call233 (jb.r) s38 ?_;refine ag 2 U Z ?_;refine bj Z Z Z H (fun H=>?_) (fun H=>?_)
   ·refine ag 2 U Z (aB U (zl _) ?_);refine ag 3 U Z (ac ?_);refine aV _ () (az H) Gh.d
   refine ag 6 U Z (ac ?_);refine aV _ () (az H) Gh.d
  refine aH Z H (fun H=>?_) (fun H=>?_)
  ·refine ap ?_;refine aV _ () (az H) Gh.d
  refine ab ?_;refine fu (γ:=Unit) (fun t8 g8=>⟨148,upd (upd (upd (fun _=>.any) 26 (aK t8)) 4 (.fn 233 [(.ptr (aY q))])) 1 (.ptr (aY q)),fun _=>none,fun _=>none⟩) H (fun _ H=>?_) (fun t8 g8 H=>?_)
  ·refine aa (ah U Z (ci U (rows':=List.map bQ ([8]:List Int)) (gH.refl _) ?_))
   obtain⟨x48,h48,H⟩:=aq H
   have s48:=gn ([8]:List Int) q _ h48;refine ak call233 (jb.r) s48 ?_;refine ag 2 U Z ?_;refine bj Z Z Z H (fun H=>?_) (fun H=>?_)
   ·refine ag 2 U Z (aB U (zl _) ?_);refine ag 3 U Z (ac ?_);refine aV _ () (az H) Gh.d
   refine ag 6 U Z (ac ?_);refine aV _ () (az H) Gh.d
  refine aH Z H (fun H=>?_) (fun H=>?_)
  ·refine ap ?_;refine aV _ () (az H) Gh.d
  refine ab ?_;refine fu (γ:=Unit) (fun t9 g9=>⟨148,upd (upd (upd (fun _=>.any) 26 (aK t9)) 4 (.fn 233 [(.ptr (aY q))])) 1 (.ptr (aY q)),fun _=>none,fun _=>none⟩) H (fun _ H=>?_) (fun t9 g9 H=>?_)
  ·refine aa (ah U Z (ci U (rows':=List.map bQ ([9]:List Int)) (gH.refl _) ?_))
   obtain⟨x58,h58,H⟩:=aq H
   have s58:=gn ([9]:List Int) q _ h58;refine ak call233 (jb.r) s58 ?_;refine ag 2 U Z ?_;refine bj Z Z Z H (fun H=>?_) (fun H=>?_)
   ·refine ag 2 U Z (aB U (zl _) ?_);refine ag 3 U Z (ac ?_);refine aV _ () (az H) Gh.d
   refine ag 6 U Z (ac ?_);refine aV _ () (az H) Gh.d
  refine aH Z H (fun H=>?_) (fun H=>?_)
  ·refine ap ?_;refine aV _ () (az H) Gh.d
  refine aa (ah U Z (ci U (rows':=List.map bQ ([10]:List Int)) (gH.refl _) ?_))
  obtain⟨x68,h68,H⟩:=aq H
  have s68:=gn ([10]:List Int) q _ h68;refine ak call233 (jb.r) s68 ?_;refine ag 2 U Z ?_;refine bj Z Z Z H (fun H=>?_) (fun H=>?_)
  ·refine ag 4 U Z ?_;refine bj Z Z Z H (fun H=>?_) (fun H=>?_)
   ·refine ag 6 U Z (ac ?_);refine aV _ () (az H) Gh.d
   refine ag 6 U Z (ac ?_);refine aV _ () (az H) Gh.d
  refine ag 10 U Z (ac ?_);refine aV _ () (az H) Gh.d
 refine aH Z H (fun H=>?_) (fun H=>?_)
 ·refine am 1 U Z ?_;exact bc U H Z
 refine ab (aa (ah U Z (ci U (rows':=List.map bQ ([2,4,5]:List Int)) (gH.refl _) ?_)))
 obtain⟨x83,h83,H⟩:=aq H
 have s83:=gn ([2,4,5]:List Int) q _ h83;refine ak call233 (jb.r) s83 ?_;refine ah U Z (ac ?_);refine aH Z H (fun H=>?_) (fun H=>?_)
 ·refine ab (aa (ag 2 U Z (aB U (zl _) ?_)));refine ag 2 U Z (ac ?_);exact bc U H Z
 refine ab (aa (ah U Z (ci U (rows':=List.map bQ ([3,8]:List Int)) (gH.refl _) ?_)))
 obtain⟨x91,h91,H⟩:=aq H
 have s91:=gn ([3,8]:List Int) q _ h91;refine ak call233 (jb.r) s91 ?_;refine ah U Z (ac ?_);refine aH Z H (fun H=>?_) (fun H=>?_)
 ·refine ab (aa (ag 2 U Z (aB U (zl _) ?_)));refine ag 2 U Z (aB U (zl _) ?_);refine ag 2 U Z ?_;refine bj Z Z Z H (fun H=>?_) (fun H=>?_)
  ·refine ag 2 U Z (aB U (zl _) ?_);refine ag 2 U Z (aB U (zl _) ?_);refine ag 4 U Z (ac ?_);exact bc U H Z
  refine ag 10 U Z (ac ?_);exact bc U H Z
 refine ab (aa (ah U Z (ci U (rows':=List.map bQ ([9]:List Int)) (gH.refl _) ?_)))
 obtain⟨x112,h112,H⟩:=aq H
 have s112:=gn ([9]:List Int) q _ h112;refine ak call233 (jb.r) s112 ?_;refine ah U Z (ac ?_);refine aH Z H (fun H=>?_) (fun H=>?_)
 ·refine ab (aa (ag 2 U Z (aB U (zl _) ?_)));refine ag 2 U Z (aB U (zl _) ?_);refine ag 2 U Z ?_;refine bj Z Z Z H (fun H=>?_) (fun H=>?_)
  ·refine ag 2 U Z (aB U (zl _) ?_);refine ag 3 U Z (ac ?_);exact bc U H Z
  refine ag 6 U Z (ac ?_);exact bc U H Z
 refine ab (aa (ah U Z (ci U (rows':=List.map bQ ([10]:List Int)) (gH.refl _) ?_)))
 obtain⟨x129,h129,H⟩:=aq H
 have s129:=gn ([10]:List Int) q _ h129;refine ak call233 (jb.r) s129 ?_;refine ah U Z (ac ?_);refine aH Z H (fun H=>?_) (fun H=>?_)
 ·refine ab (aa (ag 2 U Z (aB U (zl _) ?_)));refine ag 2 U Z ?_;refine bj Z Z Z H (fun H=>?_) (fun H=>?_)
  ·refine ag 5 U Z ?_;refine bj Z Z Z H (fun H=>?_) (fun H=>?_)
   ·refine ag 5 U Z (ac ?_);exact bc U H Z
   refine ag 5 U Z (ac ?_);exact bc U H Z
  refine ag 10 U Z (ac ?_);exact bc U H Z
 refine ap (aM (ab (aa (ag 2 U Z (aB U (zl _) ?_)))));refine ag 2 U Z (ac ?_);exact bc U H Z
def el(c:LChecker)(l:List LCol)(e:LExpr):Int:=
 letP (fq l c.vars e) fun x15=>
 cond (x15.2.2==(0:Int))
  (cond (x15.1 !=(2:Int))
   (cond (x15.1 !=(0:Int))
    (7)
    (x15.2.2))
   (x15.2.2))
  (x15.2.2)
theorem lY(c:LChecker)(l:List LCol)(e:LExpr):
  aQ prog 235 [(.agg (eW c)),(.list 93 (l.map ay)),(.agg (iA e))] (al (el c l e)):=by
 obtain⟨r,H⟩:∃r,el c l e=r:=⟨_,rfl⟩
 rw[H];unfold el at H;refine PH.av func235 ntmps235 ?_;refine ab (aa (aJ ?_));refine aJ ?_;refine ah U Z (ac (ab (aa (ag 4 U Z ?_))))
 obtain⟨x15,h15,H⟩:=cK H
 have s15:=lM l c.vars e;rw[h15]at s15;refine ak call122 (jb.r) s15 ?_;refine ag 7 U Z (ac (ab (ab (aa (ag 3 U Z ?_)))));refine bj Z Z Z H (fun H=>?_) (fun H=>?_)
 ·refine ag 4 U Z ?_;refine bj Z Z Z H (fun H=>?_) (fun H=>?_)
  ·refine ag 3 U Z (ac ?_);refine aH Z H (fun H=>?_) (fun H=>?_)
   ·refine am 1 U Z ?_;exact ez U H Z
   refine ap (am 2 U Z ?_);exact ez U H Z
  refine ag 3 U Z (ac (bF Z (ap (am 2 U Z ?_))));exact ez U H Z
 refine ag 7 U Z (ac (bF Z (ap (am 2 U Z ?_))));exact ez U H Z
def hJ(c:LChecker)(inA:List LCol)(a:LA):Option (Int×Int):=
 af (
  letP (ep a.name) fun x13=>
  cond (!x13)
   (some true)
   (af (cw ([[99,111,117,110,116],[115,117,109],[109,105,110],[109,97,120]]:Rs) a.function) fun x19=>
   cond (!x19)
    (some true)
    (cond (decide ((a.args.length:Int)>(1:Int)))
     (some true)
     (cond (decide ((a.args.length:Int)<(1:Int)))
      (some (!(a.function==([99,111,117,110,116]:Rb))))
      (some false))))) fun(t1:Bool)=>
 cond t1
  (some (0,3))
  (cond ((a.args.length:Int)==(0:Int))
   (some (1,0))
   (af (aP a.args 0) fun(x49:LExpr)=>
   letP (fq inA c.vars x49) fun x51=>
   cond (x51.2.2 !=(0:Int))
    (some (0,x51.2.2))
    (letP (
     cond (x51.1==(0:Int))
      (true)
      (cond (a.function==([115,117,109]:Rb))
       ((x51.1 !=(1:Int)))
       (false))) fun(t2:Bool)=>
    cond t2
     (some (0,7))
     (cond (a.function==([99,111,117,110,116]:Rb))
      (some (1,0))
      (some (x51.1,0))))))
theorem tm(c:LChecker)(inA:List LCol)(a:LA)(r:Int×Int)(H:hJ c inA a=some r):
  aQ prog 261 [(.agg (eW c)),(.list 93 (inA.map ay)),(.agg (oS a))] (.tup [(al r.1),(al r.2)]):=by
 unfold hJ at H;refine PH.av func261 ntmps261 ?_;refine ab (aa (aJ ?_));refine aJ ?_;refine ag 2 U Z (ac (ab (ab ?_)));refine fu (γ:=Unit) (fun t1 g1=>⟨76,upd (upd (upd (upd (fun _=>.any) 38 (aK t1)) 5 (.ptr (oS a))) 3 (.ptr (eW c))) 1 (.list 93 (inA.map ay)),fun _=>none,fun _=>none⟩) H (fun _ H=>?_) (fun t1 g1 H=>?_)
 ·refine aa (ag 2 U Z ?_)
  obtain⟨x13,h13,H⟩:=cK H
  have s13:=lT a.name;rw[h13]at s13;refine ak call117 (jb.r) s13 ?_;refine ag 2 U Z ?_;refine bj Z Z Z H (fun H=>?_) (fun H=>?_)
  ·refine ag 23 U Z (ac ?_);refine aV _ () (az H) Gh.d
  refine ci U (rows':=List.map lP ([[99,111,117,110,116],[115,117,109],[109,105,110],[109,97,120]]:Rs)) (gH.refl _) ?_;refine ag 2 U Z ?_
  obtain⟨x19,h19,H⟩:=aq H
  have s19:=kg ([[99,111,117,110,116],[115,117,109],[109,105,110],[109,97,120]]:Rs) a.function _ h19;refine ak call31 (jb.r) s19 ?_;refine ag 3 U Z ?_;refine bj Z Z Z H (fun H=>?_) (fun H=>?_)
  ·refine ag 16 U Z (ac ?_);refine aV _ () (az H) Gh.d
  refine ag 2 U Z (aB U (zl _) ?_);refine ag 3 U Z ?_;refine bj Z Z Z H (fun H=>?_) (fun H=>?_)
  ·refine ag 10 U Z (ac ?_);refine aV _ () (az H) Gh.d
  refine ag 2 U Z (aB U (zl _) ?_);refine ag 2 U Z ?_;refine bj Z Z Z H (fun H=>?_) (fun H=>?_)
  ·refine ag 5 U Z (ac ?_);refine aV _ () (az H) Gh.d
  refine ag 5 U Z (ac ?_);refine aV _ () (az H) Gh.d
 refine aH Z H (fun H=>?_) (fun H=>?_)
 ·refine am 2 U Z ?_;exact bc U H Z
 refine ap (ab (ab (aa (ag 2 U Z (aB U (zl _) ?_)))));refine ah U Z (ac ?_);refine aH Z H (fun H=>?_) (fun H=>?_)
 ·refine am 2 U Z ?_;exact bc U H Z
 refine ap (ab (bd U mok ⟨false,false,[]⟩ [0,1,2,3,4,5,6,7,8,9,10,11,12,13,14] Z (by decide+kernel) Z (aG 5 Z ?_)))
 obtain⟨x49,k49,H⟩:=bl H
 refine bs k49.1 (aO db k49.2) ?_;refine bA Z ?_
 obtain⟨x51,h51,H⟩:=cK H
 have s51:=lM inA c.vars x49;rw[h51]at s51;refine aW call122 (jb.r) s51 ?_;refine aG 7 Z (aZ (ab (aA (am 3 U Z ?_))));refine aH Z H (fun H=>?_) (fun H=>?_)
 ·refine am 3 U Z ?_;exact bc U H Z
 refine ab ?_;refine fA (γ:=Unit) (fun t2 g2=>⟨76,upd (upd (upd (fun _=>.any) 59 (aK t2)) 8 (al x51.1)) 5 (.ptr (oS a)),fun _=>none,fun _=>none⟩) H (fun _ H=>?_) (fun t2 g2 H=>?_)
 ·refine aa (ag 3 U Z ?_);refine bj Z Z Z H (fun H=>?_) (fun H=>?_)
  ·refine ag 9 U Z (ac ?_);refine aV _ () H Gh.d
  refine ag 4 U Z ?_;refine bj Z Z Z H (fun H=>?_) (fun H=>?_)
  ·refine ag 5 U Z (ac ?_);refine aV _ () H Gh.d
  refine ag 5 U Z (ac ?_);refine aV _ () H Gh.d
 refine aH Z H (fun H=>?_) (fun H=>?_)
 ·refine am 2 U Z ?_;exact bc U H Z
 refine am 4 U Z ?_;refine aH Z H (fun H=>?_) (fun H=>?_)
 ·refine am 2 U Z ?_;exact bc U H Z
 refine ap (aM (am 3 U Z ?_));exact bc U H Z
def eX(data:Rz)(n:Int)(cmp:Rq->Rq->Option (Int)):Option (Rz):=
 af (gq (σ:=Rz×Int×Int) (ρ:=Empty) (fun(s1:Rz×Int×Int)=>
  cond (decide (s1.2.2<=n))
   (af (cQ s1.1 s1.2.1 s1.2.2 cmp) fun x18=>
   af (fg (x18.length=s1.1.length) ()) fun(_:Unit)=>
   some (.next (x18,s1.2.2,(Iw (s1.2.2+(20:Int))))))
   (some (.brk (s1.1,s1.2.1,s1.2.2)))) (data,0,20)) fun fl1=>fl1.thenP fun(s1:Rz×Int×Int)=>
 af (cQ s1.1 s1.2.1 n cmp) fun x27=>
 af (fg (x27.length=s1.1.length) ()) fun(_:Unit)=>
 af (gq (σ:=Rz×Int) (ρ:=Empty) (fun(s2:Rz×Int)=>
  cond (decide (s2.2<n))
   (af (gq (σ:=Rz×Int×Int) (ρ:=Empty) (fun(s5:Rz×Int×Int)=>
    cond (decide (s5.2.2<=n))
     (af (fQ s5.1 s5.2.1 (Iw (s5.2.1+s2.2)) s5.2.2 cmp) fun x43=>
     af (fg (x43.length=s5.1.length) ()) fun(_:Unit)=>
     some (.next (x43,s5.2.2,(Iw (s5.2.2+(Iw ((2:Int)*s2.2)))))))
     (some (.brk (s5.1,s5.2.1,s5.2.2)))) (s2.1,0,(Iw ((2:Int)*s2.2)))) fun fl5=>fl5.thenP fun(s5:Rz×Int×Int)=>
   cond (decide ((Iw (s5.2.1+s2.2))<n))
    (af (fQ s5.1 s5.2.1 (Iw (s5.2.1+s2.2)) n cmp) fun x60=>
    af (fg (x60.length=s5.1.length) ()) fun(_:Unit)=>
    some (.next (x60,(Iw (s2.2*(2:Int))))))
    (some (.next (s5.1,(Iw (s2.2*(2:Int)))))))
   (some (.brk (s2.1,s2.2)))) (x27,20)) fun fl2=>fl2.thenP fun(s2:Rz×Int)=>
 some s2.1
theorem nQ(g_data:OwnRef){g_cmp:FuncId}{caps_cmp:List PV}(data:Rz)(n:Int)(cmp:Rq->Rq->Option (Int))(hg_cmp:∀(vs:Array Value) (w:World),(callFunc g_cmp vs).run prog w= .ok (.enter g_cmp vs) w)(hp_cmp:∀a0 a1 r,cmp a0 a1=some r->aQ prog g_cmp ((.list 69 (a0.map ae))::(.list 69 (a1.map ae))::caps_cmp) (al r))(r:Rz)(H:eX data n cmp=some r):
  PH prog 245 [(.own 0 g_data (data.map rRr).length),(al n),(.fn g_cmp caps_cmp)] ⟨fun _=>none,upd (fun _=>none) 0 (some ⟨g_data,54,(data.map rRr),true⟩)⟩ (fun u H=>u=(.tup [])/\H=⟨fun _=>none,upd (fun _=>none) 0 (some ⟨g_data,54,(r.map rRr),true⟩)⟩):=by
 unfold eX at H;refine PH.av func245 ntmps245 ?_;refine am 1 U Z (am 3 U Z (ab ?_))
 obtain⟨fl1,H1,Hp1⟩:=aq H
 refine fm (τ:=Rz×Int×Int) (γ:=Unit) (fun s1 g1=>⟨63,upd (upd (upd (upd (upd (fun _=>.any) 7 (al s1.2.1)) 6 (al 20)) 2 (.fn g_cmp caps_cmp)) 1 (al n)) 0 (.own 0 g_data (s1.1.map rRr).length),fun _=>none,upd (fun _=>none) 0 (some ⟨g_data,54,(s1.1.map rRr),true⟩)⟩) (fun t=>fl1= .next t) ?_ (fun s1 g1 hn1=>?_)
 ·refine aA ?_;refine ir (fun s1 g1=>⟨63,upd (upd (upd (upd (upd (upd (fun _=>.any) 8 (al s1.2.2)) 7 (al s1.2.1)) 6 (al 20)) 2 (.fn g_cmp caps_cmp)) 1 (al n)) 0 (.own 0 g_data (s1.1.map rRr).length),fun _=>none,upd (fun _=>none) 0 (some ⟨g_data,54,(s1.1.map rRr),true⟩)⟩) () H1 Gh.d (fun m1 s1 g1 hr1=>?_)
  obtain⟨fb1,H,hg1⟩:=fP hr1
  refine ab (am 3 U Z ?_);refine aH Z H (fun H=>?_) (fun H=>?_)
  ·refine ap (aA (ab (aa (ag 4 U Z ?_))))
   obtain⟨x18,h18,H⟩:=aq H
   have s18:=jp g_data s1.1 s1.2.1 s1.2.2 cmp hg_cmp hp_cmp _ h18
   obtain⟨_,q18_0,H⟩:=aq H
   have l18_0:=(dy q18_0).1;have z18_0:(List.map rRr s1.1).length=(List.map rRr x18).length:=by simpa using(l18_0).symm
   refine cq (g:=267) Z Z Z call267 [] [(0,0)] Z Z Z Z (jb.of2 (jk.cons (pE.own Z) (jk.cons (pE.of_eq Z) (jk.cons (pE.of_eq Z) (jk.cons (pE.of_eq Z) jk.nil))))) (by rw[bO,be,bH];rfl) s18 ?_;rintro u18 H18h ⟨rfl,rfl⟩
   refine⟨_,rfl,?_⟩
   refine cu (st':=⟨_,_,fun _=>none,upd (fun _=>none) 0 (some ⟨g_data,54,(x18.map rRr),true⟩)⟩) (Gh.le (bL _ _) aE (aL aF)) ?_;refine ac (am 2 U Z (bh 4 U Z (aM ?_)));obtain rfl:=az H;refine eB (x18,s1.2.2,(Iw (s1.2.2+(20:Int)))) () hg1 (Gh.le (bD (PLe.of2 (pE.of_eq (congrArg (PV.own 0 g_data) z18_0))) (aw (aw (aw (aw (aw aS)))))) aE (aL aF))
  refine bq Z ?_;obtain rfl:=az H;refine aV (s1.1,s1.2.1,s1.2.2) () hg1 Gh.d
 have H:=dT hn1 Hp1;refine ab (aa (ag 4 U Z ?_))
 obtain⟨x27,h27,H⟩:=aq H
 have s27:=jp g_data s1.1 s1.2.1 n cmp hg_cmp hp_cmp _ h27
 obtain⟨_,q27_0,H⟩:=aq H
 have l27_0:=(dy q27_0).1;have z27_0:(List.map rRr s1.1).length=(List.map rRr x27).length:=by simpa using(l27_0).symm
 refine cq (g:=267) Z Z Z call267 [] [(0,0)] Z Z Z Z (jb.of2 (jk.cons (pE.own Z) (jk.cons (pE.of_eq Z) (jk.cons (pE.of_eq Z) (jk.cons (pE.of_eq Z) jk.nil))))) (by rw[bO,be,bH];rfl) s27 ?_;rintro u27 H27h ⟨rfl,rfl⟩
 refine⟨_,rfl,?_⟩
 refine cu (st':=⟨_,_,fun _=>none,upd (fun _=>none) 0 (some ⟨g_data,54,(x27.map rRr),true⟩)⟩) (Gh.le (bL _ _) aE (aL aF)) ?_;refine ac ?_
 obtain⟨fl2,H2,Hp2⟩:=aq H
 refine fm (τ:=Rz×Int) (γ:=Unit) (fun s2 g2=>⟨63,upd (fun _=>.any) 0 (.own 0 g_data (s2.1.map rRr).length),fun _=>none,upd (fun _=>none) 0 (some ⟨g_data,54,(s2.1.map rRr),true⟩)⟩) (fun t=>fl2= .next t) ?_ (fun s2 g2 hn2=>?_)
 ·refine aA ?_;refine ir (fun s2 g2=>⟨63,upd (upd (upd (upd (fun _=>.any) 6 (al s2.2)) 2 (.fn g_cmp caps_cmp)) 1 (al n)) 0 (.own 0 g_data (s2.1.map rRr).length),fun _=>none,upd (fun _=>none) 0 (some ⟨g_data,54,(s2.1.map rRr),true⟩)⟩) () H2 (Gh.le (bD (PLe.of2 (pE.of_eq (congrArg (PV.own 0 g_data) z27_0))) (aw (aw (aw aS)))) aE (aL aF)) (fun m2 s2 g2 hr2=>?_)
  obtain⟨fb2,H,hg2⟩:=fP hr2
  refine ab (am 3 U Z ?_);refine aH Z H (fun H=>?_) (fun H=>?_)
  ·refine ap (aA (am 4 U Z (ab ?_)))
   obtain⟨fl5,H5,Hp5⟩:=aq H
   refine fm (τ:=Rz×Int×Int) (γ:=Unit) (fun s5 g5=>⟨63,upd (upd (upd (upd (upd (fun _=>.any) 7 (al s5.2.1)) 6 (al s2.2)) 2 (.fn g_cmp caps_cmp)) 1 (al n)) 0 (.own 0 g_data (s5.1.map rRr).length),fun _=>none,upd (fun _=>none) 0 (some ⟨g_data,54,(s5.1.map rRr),true⟩)⟩) (fun t=>fl5= .next t) ?_ (fun s5 g5 hn5=>?_)
   ·refine aA ?_;refine ir (fun s5 g5=>⟨63,upd (upd (upd (upd (upd (upd (fun _=>.any) 8 (al s5.2.2)) 7 (al s5.2.1)) 6 (al s2.2)) 2 (.fn g_cmp caps_cmp)) 1 (al n)) 0 (.own 0 g_data (s5.1.map rRr).length),fun _=>none,upd (fun _=>none) 0 (some ⟨g_data,54,(s5.1.map rRr),true⟩)⟩) () H5 Gh.d (fun m5 s5 g5 hr5=>?_)
    obtain⟨fb5,H,hg5⟩:=fP hr5
    refine ab (am 3 U Z ?_);refine aH Z H (fun H=>?_) (fun H=>?_)
    ·refine ap (aA (ab (aa (ag 7 U Z ?_))))
     obtain⟨x43,h43,H⟩:=aq H
     have s43:=jW g_data s5.1 s5.2.1 (Iw (s5.2.1+s2.2)) s5.2.2 cmp hg_cmp hp_cmp _ h43
     obtain⟨_,q43_0,H⟩:=aq H
     have l43_0:=(dy q43_0).1;have z43_0:(List.map rRr s5.1).length=(List.map rRr x43).length:=by simpa using(l43_0).symm
     refine cq (g:=268) Z Z Z call268 [] [(0,0)] Z Z Z Z (jb.of2 (jk.cons (pE.own Z) (jk.cons (pE.of_eq Z) (jk.cons (pE.of_eq Z) (jk.cons (pE.of_eq Z) (jk.cons (pE.of_eq Z) jk.nil)))))) (by rw[bO,be,bH];rfl) s43 ?_;rintro u43 H43h ⟨rfl,rfl⟩
     refine⟨_,rfl,?_⟩
     refine cu (st':=⟨_,_,fun _=>none,upd (fun _=>none) 0 (some ⟨g_data,54,(x43.map rRr),true⟩)⟩) (Gh.le (bL _ _) aE (aL aF)) ?_;refine ac (am 2 U Z (bh 5 U Z (aM ?_)));obtain rfl:=az H;refine eB (x43,s5.2.2,(Iw (s5.2.2+(Iw ((2:Int)*s2.2))))) () hg5 (Gh.le (bD (PLe.of2 (pE.of_eq (congrArg (PV.own 0 g_data) z43_0))) (aw (aw (aw (aw (aw aS)))))) aE (aL aF))
    refine bq Z ?_;obtain rfl:=az H;refine aV (s5.1,s5.2.1,s5.2.2) () hg5 Gh.d
   have H:=dT hn5 Hp5;refine ab (am 4 U Z (am 3 U Z ?_));refine aH Z H (fun H=>?_) (fun H=>?_)
   ·refine aa (ag 5 U Z ?_)
    obtain⟨x60,h60,H⟩:=aq H
    have s60:=jW g_data s5.1 s5.2.1 (Iw (s5.2.1+s2.2)) n cmp hg_cmp hp_cmp _ h60
    obtain⟨_,q60_0,H⟩:=aq H
    have l60_0:=(dy q60_0).1;have z60_0:(List.map rRr s5.1).length=(List.map rRr x60).length:=by simpa using(l60_0).symm
    refine cq (g:=268) Z Z Z call268 [] [(0,0)] Z Z Z Z (jb.of2 (jk.cons (pE.own Z) (jk.cons (pE.of_eq Z) (jk.cons (pE.of_eq Z) (jk.cons (pE.of_eq Z) (jk.cons (pE.of_eq Z) jk.nil)))))) (by rw[bO,be,bH];rfl) s60 ?_;rintro u60 H60h ⟨rfl,rfl⟩
    refine⟨_,rfl,?_⟩
    refine cu (st':=⟨_,_,fun _=>none,upd (fun _=>none) 0 (some ⟨g_data,54,(x60.map rRr),true⟩)⟩) (Gh.le (bL _ _) aE (aL aF)) ?_;refine ac (bh 3 U Z (aM ?_));obtain rfl:=az H;refine eB (x60,(Iw (s2.2*(2:Int)))) () hg2 (Gh.le (bD (PLe.of2 (pE.of_eq (congrArg (PV.own 0 g_data) z60_0))) (aw (aw (aw aS)))) aE (aL aF))
   refine ap (bh 3 U Z (aM ?_));obtain rfl:=az H;refine eB (s5.1,(Iw (s2.2*(2:Int)))) () hg2 Gh.d
  refine bq Z ?_;obtain rfl:=az H;refine aV (s2.1,s2.2) () hg2 Gh.d
 have H:=dT hn2 Hp2;obtain rfl:=az H;refine cx (st':=⟨63,fun _=>.any,fun _=>none,upd (fun _=>none) 0 (some ⟨g_data,54,(s2.1.map rRr),true⟩)⟩) (Gh.le aS aE (aL aF)) ?_;refine mg Z (PLe.q Z) ⟨rfl,rfl⟩
def fF(v:LResult)(w:LResult):Option (Bool):=
 af (lw v.rows w.rows) fun x9=>
 some x9
theorem mI(v:LResult)(w:LResult)(r:Bool)(H:fF v w=some r):
  aQ prog 21 [(.agg (bU v)),(.agg (bU w))] (aK r):=by
 unfold fF at H;refine PH.av func21 ntmps21 ?_;refine ab (aa (aJ ?_));refine aJ ?_;refine ah U Z (ac (ab (aa (ag 4 U Z ?_))))
 obtain⟨x9,h9,H⟩:=aq H
 have s9:=sQ v.rows w.rows _ h9;refine ak call22 (jb.r) s9 ?_;refine ah U Z (ac ?_);exact bc U H Z
end
end Go.Proofs.YtafdcemcgfbhcaaGreatDoor
