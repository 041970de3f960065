/- procedureReturnEndsUpto_holds, part 6: the layer, the plain functions and what they compute; conditions as in the statement. -/
import Derived.Test.YtafdcemcgfbhcaaGreatDoorRee
set_option maxHeartbeats 4000000
namespace Go.Proofs.YtafdcemcgfbhcaaGreatDoor
noncomputable section
open Go Go.Ab Go.Proofs.Tryz
attribute [local irreducible] V Ao Do Gh Eff PH IntKind.wrap
set_option maxRecDepth 4000
def fH(sA:LSchema)(c:LK):Option (Int):=
 af (dS sA c.table) fun x14=>
 cond (!x14.2)
  (some 4)
  (af (aP sA.tables x14.1) fun(x22:LTable)=>
  letP (iP (LVal.mk 0 0 []) c.op (LVal.mk 0 0 [])) fun x30=>
  letP (
   cond (decide (c.left<(0:Int)))
    (true)
    (cond (decide (c.left>=(x22.columns.length:Int)))
     (true)
     (cond (x30.2 !=(0:Int))
      (true)
      (cond (decide (c.right<(-1)))
       (true)
       (cond (decide (c.right>=(x22.columns.length:Int)))
        (true)
        (cond (decide (c.right>=(0:Int)))
         ((!(c.value.kind==(0:Int)&&(c.value.int==(0:Int)&&(c.value.text==([]:Rb)&&true)))))
         (false))))))) fun(t1:Bool)=>
  cond t1
   (some 3)
   (cond (decide (c.right>=(0:Int)))
    (af (aP x22.columns c.left) fun(x76:LCol)=>
    af (aP x22.columns c.right) fun(x82:LCol)=>
    cond (x76.kind !=x82.kind)
     (some 7)
     (some 0))
    (af (aP x22.columns c.left) fun(x92:LCol)=>
    cond (c.value.kind !=x92.kind)
     (some 7)
     (letP (dH c.value) fun x98=>
     some x98))))
theorem pi(sA:LSchema)(c:LK)(r:Int)(H:fH sA c=some r):
  aQ prog 76 [(.agg (cy sA)),(.agg (ix c))] (al r):=by
 unfold fH at H;refine PH.av func76 ntmps76 ?_;refine ab (aa (aJ ?_));refine aJ ?_;refine ah U Z (ac (ab (aa (ag 3 U Z ?_))))
 obtain⟨x14,h14,H⟩:=aq H
 have s14:=jw sA c.table _ h14;refine ak call28 (jb.r) s14 ?_;refine ag 5 U Z (ac (ab (am 2 U Z ?_)));refine aH Z H (fun H=>?_) (fun H=>?_)
 ·refine am 1 U Z ?_;exact bc U H Z
 refine ap (ab (aa (ag 3 U Z ?_)))
 obtain⟨x22,k22,H⟩:=bl H
 refine aU U k22.1 (aO (fun _=>Z) k22.2) ?_;refine ag 3 U Z (ac (ab (aa (ag 4 U Z ?_))))
 obtain⟨x30,h30,H⟩:=cK H
 have s30:=uC (LVal.mk 0 0 []) c.op (LVal.mk 0 0 []);rw[h30]at s30;refine ak call109 (jb.r) s30 ?_;refine ag 5 U Z (ac (ab (ab ?_)));refine fA (γ:=Unit) (fun t1 g1=>⟨99,upd (upd (upd (fun _=>.any) 69 (aK t1)) 7 (.list 93 (x22.columns.map ay))) 3 (.ptr (ix c)),fun _=>none,fun _=>none⟩) H (fun _ H=>?_) (fun t1 g1 H=>?_)
 ·refine aa (ag 4 U Z ?_);refine bj Z Z Z H (fun H=>?_) (fun H=>?_)
  ·refine ag 33 U Z (ac ?_);refine aV _ () H Gh.d
  refine ag 3 U Z (aB U (zl _) ?_);refine ag 3 U Z ?_;refine bj Z Z Z H (fun H=>?_) (fun H=>?_)
  ·refine ag 26 U Z (ac ?_);refine aV _ () H Gh.d
  refine ag 4 U Z ?_;refine bj Z Z Z H (fun H=>?_) (fun H=>?_)
  ·refine ag 22 U Z (ac ?_);refine aV _ () H Gh.d
  refine ag 5 U Z ?_;refine bj Z Z Z H (fun H=>?_) (fun H=>?_)
  ·refine ag 17 U Z (ac ?_);refine aV _ () H Gh.d
  refine ag 3 U Z (aB U (zl _) ?_);refine ag 3 U Z ?_;refine bj Z Z Z H (fun H=>?_) (fun H=>?_)
  ·refine ag 10 U Z (ac ?_);refine aV _ () H Gh.d
  refine ag 4 U Z ?_;refine bj Z Z Z H (fun H=>?_) (fun H=>?_)
  ·refine ag 6 U Z (ac ?_);refine aV _ () H Gh.d
  refine ag 6 U Z (ac ?_);refine aV _ () H Gh.d
 refine aH Z H (fun H=>?_) (fun H=>?_)
 ·refine am 1 U Z ?_;exact bc U H Z
 refine ap (ab (am 3 U Z ?_));refine aH Z H (fun H=>?_) (fun H=>?_)
 ·refine ab (ab (bd U mok ⟨false,false,[]⟩ [0,1,2,3,4,5,6,7,8,9,10,11,12] Z (by decide+kernel) Z (aG 3 Z ?_)))
  obtain⟨x76,k76,H⟩:=bl H
  refine bs k76.1 (aO (fun _=>Z) k76.2) ?_;refine aG 5 Z ?_
  obtain⟨x82,k82,H⟩:=bl H
  refine bs k82.1 (aO (fun _=>Z) k82.2) ?_;refine aG 3 Z (aZ ?_);refine aH Z H (fun H=>?_) (fun H=>?_)
  ·refine am 1 U Z ?_;exact bc U H Z
  refine ap (am 1 U Z ?_);exact bc U H Z
 refine ap (ab (ab (bd U mok ⟨false,false,[]⟩ [0,1,2,3,4,5,6,7,8,9] Z (by decide+kernel) Z (aG 6 Z ?_))))
 obtain⟨x92,k92,H⟩:=bl H
 refine bs k92.1 (aO (fun _=>Z) k92.2) ?_;refine aG 3 Z (aZ ?_);refine aH Z H (fun H=>?_) (fun H=>?_)
 ·refine am 1 U Z ?_;exact bc U H Z
 refine ap (ab (aa (ag 2 U Z ?_)))
 obtain⟨x98,h98,H⟩:=cK H
 have s98:=mW c.value;rw[h98]at s98;refine ak call110 (jb.r) s98 ?_;refine ah U Z (ac ?_);exact bc U H Z
def eH(sA:LSchema)(inst:List LW):Option (Int):=
 cond ((inst.length:Int) !=(sA.tables.length:Int))
  (some 3)
  (af (aN (σ:=Unit) (ρ:=(Int)) (fun(j1:Nat) (x1:LW) (_:Unit)=>
   af (aP sA.tables (j1:Int)) fun(x28:LTable)=>
   cond (!(x1.table==x28.name))
    (some (.ret 3))
    (cond (decide ((x1.rows.length:Int)>(24:Int)))
     (some (.ret 2))
     (af (aN (σ:=Unit) (ρ:=(Int)) (fun(j3:Nat) (x3:Rq) (_:Unit)=>
      af (et x28 x3) fun x49=>
      cond (x49 !=(0:Int))
       (some (.ret x49))
       (cond ((j3:Int)==(0:Int))
        (some (.next ()))
        (af (aP x1.rows (Iw ((j3:Int)-(1:Int)))) fun(x60:Rq)=>
        af (cZ x28 x60) fun x62=>
        af (cZ x28 x3) fun x65=>
        af (dC x62 x65) fun x66=>
        cond (x66==(0:Int))
         (some (.ret 9))
         (cond (decide (x66>(0:Int)))
          (some (.ret 6))
          (some (.next ())))))) 0 x1.rows ()) fun fl3=>fl3.thenF fun(_:Unit)=>
     some (.next ())))) 0 inst ()) fun fl1=>fl1.thenR fun(_:Unit)=>
  some 0)
theorem kp(sA:LSchema)(inst:List LW)(r:Int)(H:eH sA inst=some r):
  aQ prog 38 [(.agg (cy sA)),(.list 86 (inst.map bG))] (al r):=by
 unfold eH at H;refine PH.av func38 ntmps38 ?_;refine ab (aa (aJ ?_));refine ah U Z (ac (ab (ab (aa (ah U Z (aB U (zl _) ?_))))));refine ag 2 U Z (aB U (zl _) ?_);refine ah U Z (ac ?_);refine aH Z H (fun H=>?_) (fun H=>?_)
 ·refine am 1 U Z ?_;exact bc U H Z
 refine ap (ab (ab (aa (ah U Z (aB U (zl _) ?_)))));refine ah U Z (ac ?_);refine eG U 20 19 18 (fun s1 g1=>upd (fun _=>.any) 2 (.ptr (cy sA))) nB nO () H (fun fl1 Hp1 j1 s1 g1 hz1 hl1 x1 fb1 hx1 H hg1=>?_) (fun s1 g1 H=>?_)
 ·refine ab (aA (ab (aa (ah U Z ?_))));refine aU U (zn j1) (bn (fun _=>Z) hx1) ?_;refine ah U Z ?_;refine bf U fun b6=>?_
  refine ah U Z (au U ?_);refine ac (ab (aa (ag 3 U Z ?_)))
  obtain⟨x28,k28,H⟩:=bl H
  refine aU U k28.1 (aO (fun _=>Z) k28.2) ?_;refine ah U Z ?_;refine bf U fun b7=>?_
  refine au U ?_;refine ac (ab (ab (aa (ah U Z (aD U ?_)))));refine ah U Z (aD U ?_);refine ah U Z (ac ?_);refine aH Z H (fun H=>?_) (fun H=>?_)
  ·refine am 1 U Z ?_;obtain rfl:=az H;have e1:fl1= .ret _:=hg1;subst e1;obtain rfl:=aT Hp1;refine ba U Z (ps:=[(al 3)]) ⟨_,_,rfl,rfl,rfl⟩ (PLe.q Z)
  refine ap (ab (ab (aa (ah U Z (aD U ?_)))));refine aB U (zl _) ?_;refine ah U Z (ac ?_);refine aH Z H (fun H=>?_) (fun H=>?_)
  ·refine am 1 U Z ?_;obtain rfl:=az H;have e1:fl1= .ret _:=hg1;subst e1;obtain rfl:=aT Hp1;refine ba U Z (ps:=[(al 2)]) ⟨_,_,rfl,rfl,rfl⟩ (PLe.q Z)
  refine ap (ab (aa (ah U Z (aD U ?_))));refine aB U (zl _) ?_;refine ah U Z (ac ?_)
  obtain⟨fl3,H3,Hp3⟩:=aq H
  refine ib U 40 Z Z (fun hz3 _=>?_);rw[zl]at hz3;refine fm (τ:=Unit) (γ:=Unit) (fun s3 g3=>⟨75,upd (upd (upd (upd (fun _=>.any) 20 (al (j1:Int))) 19 (al (inst.length:Int))) 18 (.list 86 (inst.map bG))) 2 (.ptr (cy sA)),fun _=>none,fun _=>none⟩) (fun t=>fl3= .next t) ?_ (fun s3 g3 hn3=>?_)
  ·refine aA ?_;refine iH (fun j3 s3 g3=>⟨75,upd (upd (upd (upd (upd (upd (upd (upd (upd (fun _=>.any) 42 (al (j3:Int))) 41 (al (x1.rows.length:Int))) 40 (.list 54 (x1.rows.map rRr))) 20 (al (j1:Int))) 19 (al (inst.length:Int))) 18 (.list 86 (inst.map bG))) 7 (.box 7 b7 0)) 6 (.box 6 b6 0)) 2 (.ptr (cy sA)),upd (upd (fun _=>none) 7 (some ⟨b7,(bv x28)⟩)) 6 (some ⟨b6,(bG x1)⟩),fun _=>none⟩) () H3 Gh.d (fun j3 s3 g3 hj3 hr3=>?_);refine am 1 U Z (ab ?_);refine bp Z (fun h=>?_) (fun h=>?_)
   ·have hl3:=pm h
    obtain⟨x3,fb3,hx3,H,hg3⟩:=rMc hl3 hr3
    refine ap (ab (aA (ab (aa (ah U Z ?_)))));refine aU U (zn j3) (bn (fun _=>Z) hx3) ?_;refine ag 3 U Z (ac (ab (ab (aa (aD U ?_)))));refine ah U Z ?_
    obtain⟨x49,h49,H⟩:=aq H
    have s49:=mD x28 x3 _ h49;refine ak call78 (jb.r) s49 ?_;refine ah U Z (ac (am 2 U Z ?_));refine aH Z H (fun H=>?_) (fun H=>?_)
    ·refine am 2 U Z ?_;obtain rfl:=az H;have e3:fl3= .ret _:=hg3;subst e3;have q3:=ni Hp3;subst q3;have e1:fl1= .ret _:=hg1;subst e1;obtain rfl:=aT Hp1;refine ba U Z (ps:=[(al x49)]) ⟨_,_,rfl,rfl,rfl⟩ (PLe.q Z)
    refine ap (ab (am 2 U Z ?_));refine aH Z H (fun H=>?_) (fun H=>?_)
    ·refine bq Z (bh 2 U Z ?_);exact bm () H hl3 hg3
    refine ap (ab (bd U mok ⟨true,false,[61]⟩ [0,1,2,3,4,5,6,8,9,7,10,11,12] Z (by decide+kernel) Z (bi ?_)));refine bA Z (bi ?_);refine aG 2 Z ?_
    obtain⟨x60,k60,H⟩:=bl H
    refine bs k60.1 (aO (fun _=>Z) k60.2) ?_;refine bA Z (bi ?_);refine bA Z ?_
    obtain⟨x62,h62,H⟩:=aq H
    have s62:=mr x28 x60 _ h62;refine aW call80 (jb.r) s62 ?_
    obtain⟨x65,h65,H⟩:=aq H
    have s65:=mr x28 x3 _ h65;refine aW call80 (jb.r) s65 ?_
    obtain⟨x66,h66,H⟩:=aq H
    have s66:=og x62 x65 _ h66;refine aW call79 (jb.r) s66 ?_;refine bA Z (aZ (aA (am 3 U Z ?_)));refine aH Z H (fun H=>?_) (fun H=>?_)
    ·refine am 1 U Z ?_;obtain rfl:=az H;have e3:fl3= .ret _:=hg3;subst e3;have q3:=ni Hp3;subst q3;have e1:fl1= .ret _:=hg1;subst e1;obtain rfl:=aT Hp1;refine ba U Z (ps:=[(al 9)]) ⟨_,_,rfl,rfl,rfl⟩ (PLe.q Z)
    refine am 3 U Z ?_;refine aH Z H (fun H=>?_) (fun H=>?_)
    ·refine am 1 U Z ?_;obtain rfl:=az H;have e3:fl3= .ret _:=hg3;subst e3;have q3:=ni Hp3;subst q3;have e1:fl1= .ret _:=hg1;subst e1;obtain rfl:=aT Hp1;refine ba U Z (ps:=[(al 6)]) ⟨_,_,rfl,rfl,rfl⟩ (PLe.q Z)
    refine ap (aM (aM (bh 2 U Z ?_)));exact bm () H hl3 hg3
   have hn3:=rMd (pz h) hr3;refine bq Z ?_;refine aV s3 g3 hn3 Gh.d
  have H:=thenF_next hn3 Hp3;refine aM (bh 2 U Z ?_);exact bm () H hl1 hg1
 refine am 1 U Z ?_;exact bc U H Z
def ek(c:LC)(cols:List LCol)(vars:List LCol)(e:LExpr):Option (Int):=
 af (ed c cols vars e) fun x17=>
 cond (x17.2.2==(0:Int))
  (cond (x17.1 !=(2:Int))
   (cond (x17.1 !=(0:Int))
    (some 7)
    (some x17.2.2))
   (some x17.2.2))
  (some x17.2.2)
theorem kP(c:LC)(cols:List LCol)(vars:List LCol)(e:LExpr)(r:Int)(H:ek c cols vars e=some r):
  aQ prog 119 [(.agg (bt c)),(.list 93 (cols.map ay)),(.list 93 (vars.map ay)),(.agg (iA e))] (al r):=by
 unfold ek at H;refine PH.av func119 ntmps119 ?_;refine ab (aa (aJ ?_));refine aJ ?_;refine ah U Z (ac (ab (aa (ag 4 U Z ?_))))
 obtain⟨x17,h17,H⟩:=aq H
 have s17:=jI c cols vars e _ h17;refine ak call116 (jb.r) s17 ?_;refine ag 7 U Z (ac (ab (ab (aa (ag 3 U Z ?_)))));refine bj Z Z Z H (fun H=>?_) (fun H=>?_)
 ·refine ag 4 U Z ?_;refine bj Z Z Z H (fun H=>?_) (fun H=>?_)
  ·refine ag 3 U Z (ac ?_);refine aH Z H (fun H=>?_) (fun H=>?_)
   ·refine am 1 U Z ?_;exact bc U H Z
   refine ap (am 2 U Z ?_);exact bc U H Z
  refine ag 3 U Z (ac (bF Z (ap (am 2 U Z ?_))));exact bc U H Z
 refine ag 7 U Z (ac (bF Z (ap (am 2 U Z ?_))));exact bc U H Z
def fB(c:LChecker)(q:LQuery)(inA:List LCol):Option ((List LCol)×Int):=
 af (aN (σ:=List LCol) (ρ:=((List LCol)×Int)) (fun(j1:Nat) (x1:LExpr) (s1:List LCol)=>
  letP (fq inA c.vars x1) fun x31=>
  af (aP q.names (j1:Int)) fun(x39:Rb)=>
  letP (ep x39) fun x41=>
  cond (!x41)
   (some (.ret ([],3)))
   (cond (x31.2.2 !=(0:Int))
    (some (.ret ([],x31.2.2)))
    (cond (x31.1==(0:Int))
     (some (.ret ([],7)))
     (af (aP q.names (j1:Int)) fun(x54:Rb)=>
     af (cJ 32 s1 ([(LCol.mk x54 x31.1 x31.2.1)]:List LCol)) fun(x60:List LCol)=>
     some (.next x60))))) 0 q.exprs []) fun fl1=>fl1.thenR fun(s1:List LCol)=>
 af (aN (σ:=List LCol) (ρ:=((List LCol)×Int)) (fun(_:Nat) (x2:LA) (s2:List LCol)=>
  af (hJ c inA x2) fun x73=>
  cond (x73.2 !=(0:Int))
   (some (.ret ([],x73.2)))
   (af (cJ 32 s2 ([(LCol.mk x2.name x73.1 (!(x2.function==([99,111,117,110,116]:Rb))))]:List LCol)) fun(x88:List LCol)=>
   some (.next x88))) 0 q.aggregates s1) fun fl2=>fl2.thenR fun(s2:List LCol)=>
 some (s2,0)
theorem oE(c:LChecker)(q:LQuery)(inA:List LCol)(r:(List LCol)×Int)(H:fB c q inA=some r):
  aQ prog 237 [(.agg (eW c)),(.agg (aY q)),(.list 93 (inA.map ay))] (.tup [(.list 93 (r.1.map ay)),(al r.2)]):=by
 unfold fB at H;refine PH.av func237 ntmps237 ?_;refine ab (aa (aJ ?_));refine aJ ?_;refine ag 2 U Z (ac (am 1 U Z (ab (ab (aa (ag 2 U Z (aB U (zl _) ?_)))))));refine ah U Z (ac (gQ U 8 60 (e:=93) Z Z ?_));refine eG (γ:=OwnRef) U 21 20 19 (fun s1 g1=>upd (upd (upd (upd (fun _=>.any) 8 (.own 60 g1 (s1.map ay).length)) 4 (.ptr (aY q))) 3 (.ptr (eW c))) 2 (.list 93 (inA.map ay))) nB (fun s1 g1=>upd (fun _=>none) 60 (some ⟨g1,93,(s1.map ay),true⟩)) (⟨none,0⟩) H (fun fl1 Hp1 j1 s1 g1 hz1 hl1 x1 fb1 hx1 H hg1=>?_) (fun s1 g1 H=>?_)
 ·refine ab (aA (ab (aa (ah U Z (aU U (zn j1) (bn db hx1) ?_)))));refine ah U Z ?_;refine bf U fun b10=>?_
  refine ah U Z (au U ?_);refine ac (ab (aa (ag 3 U Z (aD U ?_))))
  obtain⟨x31,h31,H⟩:=cK H
  have s31:=lM inA c.vars x1;rw[h31]at s31;refine ak call122 (jb.r) s31 ?_;refine ag 7 U Z (ac (ab (aA (ab (aa (ag 3 U Z ?_))))))
  obtain⟨x39,k39,H⟩:=bl H
  refine aU U k39.1 (aO (fun _=>Z) k39.2) ?_;refine ah U Z ?_
  obtain⟨x41,h41,H⟩:=cK H
  have s41:=lT x39;rw[h41]at s41;refine ak call117 (jb.r) s41 ?_;refine ag 2 U Z (ac ?_);refine aH Z H (fun H=>?_) (fun H=>?_)
  ·refine am 2 U Z ?_;obtain rfl:=az H;have e1:fl1= .ret _:=hg1;subst e1;obtain rfl:=aT Hp1;refine ba U Z (ps:=[(.val (.slice none 0 0)),(al 3)]) ⟨_,_,rfl,rfl,_,_,rfl,rfl,rfl⟩ (PLe.of2 (pE.tup (jk.cons (pE.nil U Z) (jk.cons (pE.of_eq Z) jk.nil))))
  refine am 3 U Z ?_;refine aH Z H (fun H=>?_) (fun H=>?_)
  ·refine am 3 U Z ?_;obtain rfl:=az H;have e1:fl1= .ret _:=hg1;subst e1;obtain rfl:=aT Hp1;refine ba U Z (ps:=[(.val (.slice none 0 0)),(al x31.2.2)]) ⟨_,_,rfl,rfl,_,_,rfl,rfl,rfl⟩ (PLe.of2 (pE.tup (jk.cons (pE.nil U Z) (jk.cons (pE.of_eq Z) jk.nil))))
  refine am 3 U Z ?_;refine aH Z H (fun H=>?_) (fun H=>?_)
  ·refine am 2 U Z ?_;obtain rfl:=az H;have e1:fl1= .ret _:=hg1;subst e1;obtain rfl:=aT Hp1;refine ba U Z (ps:=[(.val (.slice none 0 0)),(al 7)]) ⟨_,_,rfl,rfl,_,_,rfl,rfl,rfl⟩ (PLe.of2 (pE.tup (jk.cons (pE.nil U Z) (jk.cons (pE.of_eq Z) jk.nil))))
  refine ap (aM (aa (ag 4 U Z ?_)))
  obtain⟨x54,k54,H⟩:=bl H
  refine aU U k54.1 (aO (fun _=>Z) k54.2) ?_;refine ag 4 U Z (ci U (rows':=List.map ay ([(LCol.mk x54 x31.1 x31.2.1)]:List LCol)) (gH.refl _) ?_)
  obtain⟨x60,h60,H⟩:=aq H
  have k60:=bS h60;refine bX (rows2':=List.map ay ([(LCol.mk x54 x31.1 x31.2.1)]:List LCol)) (rows':=List.map ay x60) U Z Z Z Z Z Z Z Z Z Z Z Z Z (gH.refl _) (cD k60.1) (cC k60.2.1) (cE k60.2.2) fun g60=>?_
  refine ah U Z (ac (aM (bh 2 U Z ?_)));exact bm g60 H hl1 hg1
 refine ab (ab (aa (ag 2 U Z (aB U (zl _) ?_))));refine ah U Z (ac ?_);refine eG (γ:=OwnRef) U 65 64 63 (fun s2 g2=>upd (upd (upd (fun _=>.any) 8 (.own 60 g2 (s2.map ay).length)) 3 (.ptr (eW c))) 2 (.list 93 (inA.map ay))) nB (fun s2 g2=>upd (fun _=>none) 60 (some ⟨g2,93,(s2.map ay),true⟩)) g1 H (fun fl2 Hp2 j2 s2 g2 hz2 hl2 x2 fb2 hx2 H hg2=>?_) (fun s2 g2 H=>?_)
 ·refine ab (aA (ab (aa ?_)));refine aU U (zn j2) (bn (fun _=>Z) hx2) ?_;refine ah U Z ?_;refine bf U fun b15=>?_
  refine au U ?_;refine ac (ab (aa (ag 2 U Z (aD U ?_))))
  obtain⟨x73,h73,H⟩:=aq H
  have s73:=tm c inA x2 _ h73;refine ak call261 (jb.r) s73 ?_;refine ag 5 U Z (ac (ab (am 2 U Z ?_)));refine aH Z H (fun H=>?_) (fun H=>?_)
  ·refine am 3 U Z ?_;obtain rfl:=az H;have e2:fl2= .ret _:=hg2;subst e2;obtain rfl:=aT Hp2;refine ba U Z (ps:=[(.val (.slice none 0 0)),(al x73.2)]) ⟨_,_,rfl,rfl,_,_,rfl,rfl,rfl⟩ (PLe.of2 (pE.tup (jk.cons (pE.nil U Z) (jk.cons (pE.of_eq Z) jk.nil))))
  refine ap (aa (ag 2 U Z (aD U ?_)));refine ag 2 U Z (aD U ?_);refine ag 2 U Z ?_;refine ci U (rows':=List.map ay ([(LCol.mk x2.name x73.1 (!(x2.function==([99,111,117,110,116]:Rb))))]:List LCol)) (gH.refl _) ?_
  obtain⟨x88,h88,H⟩:=aq H
  have k88:=bS h88;refine bX (rows2':=List.map ay ([(LCol.mk x2.name x73.1 (!(x2.function==([99,111,117,110,116]:Rb))))]:List LCol)) (rows':=List.map ay x88) U Z Z Z Z Z Z Z Z Z Z Z Z Z (gH.refl _) (cD k88.1) (cC k88.2.1) (cE k88.2.2) fun g88=>?_
  refine ah U Z (ac (aM (bh 2 U Z ?_)));exact bm g88 H hl2 hg2
 refine am 3 U Z (cF 6 Z Z Z ?_);exact bc U H Z
def eo(rA:LR)(cols:List LCol)(row:Rq)(e:LExpr):Option (LVal×LR):=
 af (aN (σ:=Rs) (ρ:=Empty) (fun(_:Nat) (x1:LCol) (s1:Rs)=>
  af (cJ 16 s1 ([x1.name]:Rs)) fun(x37:Rs)=>
  some (.next x37)) 0 rA.vars []) fun fl1=>fl1.thenP fun(s1:Rs)=>
 letP (dY (LEnv.mk cols row rA.args s1 rA.vals) e) fun x42=>
 some (x42,rA)
theorem iG(b_rA:Nat)(g_rA_7:OwnRef)(g_rA_8:OwnRef)(rA:LR)(cols:List LCol)(row:Rq)(e:LExpr)(r:LVal×LR)(H:eo rA cols row e=some r):
  PH prog 124 [(.box 1500 b_rA 0),(.list 93 (cols.map ay)),(.list 69 (row.map ae)),(.agg (iA e))] ⟨(bR b_rA rA g_rA_7 g_rA_8),(oR rA g_rA_7 g_rA_8)⟩ (fun u H=>∃gz0_7,∃gz0_8,u=(.agg (ae r.1))/\H=⟨(bR b_rA r.2 gz0_7 gz0_8),(oR r.2 gz0_7 gz0_8)⟩):=by
 unfold eo at H;refine PH.av func124 ntmps124 ?_;refine ab (aa (aJ ?_));refine bf U fun b8=>?_
 refine ac (ab (bd U mok ⟨true,false,[]⟩ [0,1,2,3,4,5,6,7,8,9,10,11,12] Z (by decide+kernel) Z (aG 5 Z (bi ?_))));refine aG 3 Z (bi ?_);refine bA Z ?_;refine oH Z Z Z Z Z Z Z Z fun b9=>?_
 refine gw Z Z Z Z Z Z Z Z Z Z Z Z (aZ (ab (ab (aa (ag 3 U Z (aD U ?_))))));refine aB U (zl _) ?_;refine ah U Z (ac (np U 9 3 37 (e:=9) Z Z Z Z ?_));refine fW (γ:=OwnRef) U 28 27 26 (fun s1 g1=>upd (upd (upd (upd (fun _=>.any) 9 (.box 9 b9 0)) 8 (.box 8 b8 0)) 7 (.ptr (iA e))) 0 (.box 1500 b_rA 0)) (fun s1 g1=>upd (upd (bR b_rA rA g_rA_7 g_rA_8) 9 (some ⟨b9,[(.list 93 (cols.map ay)),(.list 69 (row.map ae)),(.list 69 (rA.args.map ae)),(.own 37 g1 (s1.map lP).length),(.list 69 (rA.vals.map ae))]⟩)) 8 (some ⟨b8,[(al 0),(al 0),(.str [])]⟩)) (fun s1 g1=>upd (upd (upd (fun _=>none) 37 (some ⟨g1,9,(s1.map lP),true⟩)) 1608 (some ⟨g_rA_8,64,(rA.results.map bU),true⟩)) 1607 (some ⟨g_rA_7,56,(rA.changes.map bV),true⟩)) (⟨none,0⟩) H (fun fl1 Hp1 j1 s1 g1 hz1 hl1 x1 fb1 hx1 H hg1=>?_) (fun s1 g1 H=>?_)
 ·refine ab (aA (ab (aa ?_)));refine aU U (zn j1) (bn (fun _=>Z) hx1) ?_;refine ah U Z ?_;refine bf U fun b11=>?_
  refine au U ?_;refine ac (aa (ah U Z (aD U ?_)));refine ah U Z (aD U ?_);refine ci U (rows':=List.map lP ([x1.name]:Rs)) (gH.refl _) ?_
  obtain⟨x37,h37,H⟩:=aq H
  have k37:=bS h37;refine bX (rows2':=List.map lP ([x1.name]:Rs)) (rows':=List.map lP x37) U Z Z Z Z Z Z Z Z Z Z Z Z Z (gH.refl _) (cD k37.1) (cC k37.2.1) (cE k37.2.2) fun g37=>?_
  refine ah U Z (au U ?_);refine ac (aM (bh 2 U Z ?_));exact bm g37 H hl1 hg1
 refine ab (iJ 9 3 Z Z Z Z Z (aa (aD U ?_)));refine ah U Z ?_
 obtain⟨x42,h42,H⟩:=cK H
 have s42:=nc (LEnv.mk cols row rA.args s1 rA.vals) e;rw[h42]at s42;refine ak call165 (jb.r) s42 ?_;refine au U ?_;refine ac ?_;obtain rfl:=az H;refine cx (st':=⟨43,upd (fun _=>.any) 8 (.box 8 b8 0),upd (bR b_rA rA g_rA_7 g_rA_8) 8 (some ⟨b8,(ae x42)⟩),(oR rA g_rA_7 g_rA_8)⟩) (Gh.le (aw aS) (aR Z (jb.r) (aR Z (jb.r) aE)) (aL (aL aF))) ?_;refine vY U Z (ps:=[(.agg (ae x42))]) ⟨_,_,rfl,⟨_,_,_,_,_,rfl,rfl,rfl,rfl⟩,rfl⟩ (PLe.q Z) (HSub.updB Z) ⟨_,_,rfl,rfl⟩
def js(x:Rq)(c0:LRun)(c1:List LCol)(c2:LQuery):Option (Bool):=
 af (aP c2.exprs 0) fun(x12:LExpr)=>
 letP (bK c0 c1 x) fun x9=>
 letP (dY x9 x12) fun x14=>
 letP (kW x14) fun x15=>
 some (!x15)
theorem tU(x:Rq)(c0:LRun)(c1:List LCol)(c2:LQuery)(r:Bool)(H:js x c0 c1 c2=some r):
  aQ prog 164 [(.list 69 (x.map ae)),(.ptr (eA c0)),(.ptr [(.list 93 (c1.map ay))]),(.ptr (aY c2))] (aK r):=by
 unfold js at H;refine PH.av func164 ntmps164 ?_;refine am 1 U Z (ab (bd U mok ⟨false,false,[]⟩ [0,1,2,4,5,6,7,3,8,9,10,11] Z (by decide+kernel) Z (aG 5 Z ?_)))
 obtain⟨x12,k12,H⟩:=bl H
 refine bs k12.1 (aO db k12.2) ?_;refine bA Z ?_
 obtain⟨x9,h9,H⟩:=cK H
 have s9:=lU c0 c1 x;rw[h9]at s9;refine aW call166 (jb.r) s9 ?_
 obtain⟨x14,h14,H⟩:=cK H
 have s14:=nc x9 x12;rw[h14]at s14;refine aW call165 (jb.r) s14 ?_
 obtain⟨x15,h15,H⟩:=cK H
 have s15:=isTS x14;rw[h15]at s15;refine aW call125 (jb.r) s15 ?_;refine aG 2 Z (aZ ?_);exact bc U H Z
def eg(rA:LRun)(cols:List LCol)(x:Rq)(l:List LExpr):Option (Rq):=
 af (aN (σ:=Rq) (ρ:=Empty) (fun(_:Nat) (x1:LExpr) (s1:Rq)=>
  letP (bK rA cols x) fun x22=>
  letP (dY x22 x1) fun x24=>
  af (cJ 32 s1 ([x24]:Rq)) fun(x26:Rq)=>
  some (.next x26)) 0 l []) fun fl1=>fl1.thenP fun(s1:Rq)=>
 some s1
theorem kR(rA:LRun)(cols:List LCol)(x:Rq)(l:List LExpr)(r:Rq)(H:eg rA cols x l=some r):
  aQ prog 167 [(.agg (eA rA)),(.list 93 (cols.map ay)),(.list 69 (x.map ae)),(.list 71 (l.map ft))] (.list 69 (r.map ae)):=by
 unfold eg at H;refine PH.av func167 ntmps167 ?_;refine ab (aa (aJ ?_));refine ah U Z (ac (am 1 U Z (ab (ab (aa (ah U Z (aB U (zl _) ?_)))))));refine ah U Z (ac (gQ U 9 26 (e:=69) Z Z ?_));refine fW (γ:=OwnRef) U 14 13 12 (fun s1 g1=>upd (upd (upd (upd (fun _=>.any) 9 (.own 26 g1 (s1.map ae).length)) 4 (.ptr (eA rA))) 2 (.list 69 (x.map ae))) 1 (.list 93 (cols.map ay))) nB (fun s1 g1=>upd (fun _=>none) 26 (some ⟨g1,69,(s1.map ae),true⟩)) (⟨none,0⟩) H (fun fl1 Hp1 j1 s1 g1 hz1 hl1 x1 fb1 hx1 H hg1=>?_) (fun s1 g1 H=>?_)
 ·refine ab (aA (ab (aa (aU U (zn j1) (bn db hx1) ?_))));refine ah U Z ?_;refine bf U fun b11=>?_
  refine au U ?_;refine ac (bd U mok ⟨true,false,[19]⟩ [0,1,2,3,5,4,6,7,8,9] Z (by decide+kernel) Z (aG 4 Z (bi ?_)))
  obtain⟨x22,h22,H⟩:=cK H
  have s22:=lU rA cols x;rw[h22]at s22;refine aW call166 (jb.r) s22 ?_
  obtain⟨x24,h24,H⟩:=cK H
  have s24:=nc x22 x1;rw[h24]at s24;refine aW call165 (jb.r) s24 ?_;refine bA Z ?_
  obtain⟨x26,h26,H⟩:=aq H
  have k26:=bS h26;refine gk (rows2':=List.map ae ([x24]:Rq)) (rows':=List.map ae x26) U Z Z Z Z Z Z Z Z Z Z Z Z Z Z (gH.refl _) (cD k26.1) (cC k26.2.1) (cE k26.2.2) fun g26=>?_
  refine bA Z (aZ (aM (bh 2 U Z ?_)));exact bm g26 H hl1 hg1
 refine am 2 U Z (cF 8 Z Z Z ?_);exact bc U H Z
def kF(rA:LRun)(a:LA)(cols:List LCol)(l:Rz):Option (LVal):=
 cond ((a.args.length:Int)==(0:Int))
  (letP (jL (l.length:Int)) fun x19=>
  some x19)
  (af (aN (σ:=Rq) (ρ:=Empty) (fun(_:Nat) (x1:Rq) (s1:Rq)=>
   af (aP a.args 0) fun(x32:LExpr)=>
   letP (bK rA cols x1) fun x29=>
   letP (dY x29 x32) fun x34=>
   cond (x34.kind !=(0:Int))
    (af (cJ 32 s1 ([x34]:Rq)) fun(x41:Rq)=>
    some (.next x41))
    (some (.next s1))) 0 l []) fun fl1=>fl1.thenP fun(s1:Rq)=>
  af (gB a.function s1) fun x46=>
  some x46)
theorem vt(rA:LRun)(a:LA)(cols:List LCol)(l:Rz)(r:LVal)(H:kF rA a cols l=some r):
  aQ prog 216 [(.agg (eA rA)),(.agg (oS a)),(.list 93 (cols.map ay)),(.list 54 (l.map rRr))] (.agg (ae r)):=by
 unfold kF at H;refine PH.av func216 ntmps216 ?_;refine ab (aa (aJ ?_));refine aJ ?_;refine bf U fun b8=>?_
 refine ac (ab (ab (aa (ag 2 U Z (aB U (zl _) ?_)))));refine ah U Z (ac ?_);refine aH Z H (fun H=>?_) (fun H=>?_)
 ·refine ab (aa (ah U Z (aB U (zl _) ?_)))
  obtain⟨x19,h19,H⟩:=cK H
  have s19:=sM (l.length:Int);rw[h19]at s19;refine ak call232 (jb.r) s19 ?_;refine au U ?_;refine ac ?_;exact vG U H Z Z Z Z Z
 refine ap (am 1 U Z (ab (ab (aa (ah U Z (aB U (zl _) ?_))))));refine ah U Z (ac (gQ U 9 41 (e:=69) Z Z ?_));refine fW (γ:=OwnRef) U 22 21 20 (fun s1 g1=>upd (upd (upd (upd (upd (fun _=>.any) 9 (.own 41 g1 (s1.map ae).length)) 8 (.box 8 b8 0)) 5 (.ptr (oS a))) 4 (.ptr (eA rA))) 2 (.list 93 (cols.map ay))) (fun s1 g1=>upd (fun _=>none) 8 (some ⟨b8,[(al 0),(al 0),(.str [])]⟩)) (fun s1 g1=>upd (fun _=>none) 41 (some ⟨g1,69,(s1.map ae),true⟩)) (⟨none,0⟩) H (fun fl1 Hp1 j1 s1 g1 hz1 hl1 x1 fb1 hx1 H hg1=>?_) (fun s1 g1 H=>?_)
 ·refine ab (aA (ab (aa ?_)));refine aU U (zn j1) (bn (fun _=>Z) hx1) ?_;refine ag 2 U Z (ac (ab (bd U mok ⟨false,false,[]⟩ [0,1,2,4,5,6,7,3,8,9,10] Z (by decide+kernel) Z (aG 5 Z ?_))))
  obtain⟨x32,k32,H⟩:=bl H
  refine bs k32.1 (aO db k32.2) ?_;refine bA Z ?_
  obtain⟨x29,h29,H⟩:=cK H
  have s29:=lU rA cols x1;rw[h29]at s29;refine aW call166 (jb.r) s29 ?_
  obtain⟨x34,h34,H⟩:=cK H
  have s34:=nc x29 x32;rw[h34]at s34;refine aW call165 (jb.r) s34 ?_;refine oH Z Z Z Z Z Z Z Z fun b12=>?_
  refine gw Z Z Z Z Z Z Z Z Z Z Z Z (aZ (ab (aa (ah U Z (aD U ?_)))));refine ah U Z (ac ?_);refine aH Z H (fun H=>?_) (fun H=>?_)
  ·refine aa (ah U Z (aD U ?_));refine ci U (rows':=List.map ae ([x34]:Rq)) (gH.refl _) ?_
   obtain⟨x41,h41,H⟩:=aq H
   have k41:=bS h41;refine bX (rows2':=List.map ae ([x34]:Rq)) (rows':=List.map ae x41) U Z Z Z Z Z Z Z Z Z Z Z Z Z (gH.refl _) (cD k41.1) (cC k41.2.1) (cE k41.2.2) fun g41=>?_
   refine ah U Z (ac (aM (bh 2 U Z ?_)));exact bm g41 H hl1 hg1
  refine ap (aM (bh 2 U Z ?_));exact bm g1 H hl1 hg1
 refine ab (cF 9 Z Z Z (aa (ag 3 U Z ?_)))
 obtain⟨x46,h46,H⟩:=aq H
 have s46:=qE a.function s1 _ h46;refine ak call244 (jb.r) s46 ?_;refine au U ?_;refine ac ?_;exact vG U H Z Z Z Z Z
def du(x:Rz)(cmp:Rq->Rq->Option (Int)):Option (Rz):=
 af (eX x (x.length:Int) cmp) fun x8=>
 af (fg (x8.length=x.length) ()) fun(_:Unit)=>
 some x8
theorem lp(g_x:OwnRef){g_cmp:FuncId}{caps_cmp:List PV}(x:Rz)(cmp:Rq->Rq->Option (Int))(hg_cmp:∀(vs:Array Value) (w:World),(callFunc g_cmp vs).run prog w= .ok (.enter g_cmp vs) w)(hp_cmp:∀a0 a1 r,cmp a0 a1=some r->aQ prog g_cmp ((.list 69 (a0.map ae))::(.list 69 (a1.map ae))::caps_cmp) (al r))(r:Rz)(H:du x cmp=some r):
  PH prog 217 [(.own 0 g_x (x.map rRr).length),(.fn g_cmp caps_cmp)] ⟨fun _=>none,upd (fun _=>none) 0 (some ⟨g_x,54,(x.map rRr),true⟩)⟩ (fun u H=>u=(.tup [])/\H=⟨fun _=>none,upd (fun _=>none) 0 (some ⟨g_x,54,(r.map rRr),true⟩)⟩):=by
 unfold du at H;refine PH.av func217 ntmps217 ?_;refine aa (ag 2 U Z (eD U (zl _) ?_));refine ah U Z ?_
 obtain⟨x8,h8,H⟩:=aq H
 have s8:=nQ g_x x (x.length:Int) cmp hg_cmp hp_cmp _ h8
 obtain⟨_,q8_0,H⟩:=aq H
 have l8_0:=(dy q8_0).1;have z8_0:(List.map rRr x).length=(List.map rRr x8).length:=by simpa using(l8_0).symm
 refine cq (g:=245) Z Z Z call245 [] [(0,0)] Z Z Z Z (jb.of2 (jk.cons (pE.own Z) (jk.cons (pE.of_eq Z) (jk.cons (pE.of_eq Z) jk.nil)))) (by rw[bO,be,bH];rfl) s8 ?_;rintro u8 H8h ⟨rfl,rfl⟩
 refine⟨_,rfl,?_⟩
 refine cu (st':=⟨_,_,fun _=>none,upd (fun _=>none) 0 (some ⟨g_x,54,(x8.map rRr),true⟩)⟩) (Gh.le (bL _ _) aE (aL aF)) ?_;refine ac ?_;obtain rfl:=az H;refine cx (st':=⟨9,fun _=>.any,fun _=>none,upd (fun _=>none) 0 (some ⟨g_x,54,(x8.map rRr),true⟩)⟩) (Gh.le aS aE (aL aF)) ?_;refine mg Z (PLe.q Z) ⟨rfl,rfl⟩
def iO(t:LTable)(rows:Rz)(key:Rq):Option (Int×Bool×Rz):=
 af (ny (rows.length:Int)) fun(n1:Nat)=>
 af (aN (σ:=Rz) (ρ:=(Int×Bool×Rz)) (fun(j1:Nat) (_:Nat) (s1:Rz)=>
  af (aP s1 (j1:Int)) fun(x16:Rq)=>
  af (cZ t x16) fun x20=>
  af (dC x20 key) fun x22=>
  cond (decide (x22>=(0:Int)))
   (some (.ret ((j1:Int),(x22==(0:Int)),s1)))
   (some (.next s1))) 0 (List.range n1) rows) fun fl1=>fl1.thenR fun(s1:Rz)=>
 some ((s1.length:Int),false,s1)
theorem pF(g_rows:OwnRef)(t:LTable)(rows:Rz)(key:Rq)(r:Int×Bool×Rz)(H:iO t rows key=some r):
  PH prog 86 [(.agg (bv t)),(.own 1 g_rows (rows.map rRr).length),(.list 69 (key.map ae))] ⟨fun _=>none,upd (fun _=>none) 1 (some ⟨g_rows,54,(rows.map rRr),true⟩)⟩ (fun u H=>u=(.tup [(al r.1),(aK r.2.1)])/\H=⟨fun _=>none,upd (fun _=>none) 1 (some ⟨g_rows,54,(r.2.2.map rRr),true⟩)⟩):=by
 unfold iO at H;refine PH.av func86 ntmps86 ?_;refine ab (aa (aJ ?_));refine ag 2 U Z (ac (ab (ab (aa (ah U Z (eD U (zl _) ?_))))));refine ah U Z (ac ?_)
 obtain⟨n1,hs1,H⟩:=aq H
 have hz1:=mM hs1
 obtain⟨fl1,H1,Hp1⟩:=aq H
 refine fm (τ:=Rz) (γ:=Unit) (fun s1 g1=>⟨31,upd (fun _=>.any) 1 (.own 1 g_rows (s1.map rRr).length),fun _=>none,upd (fun _=>none) 1 (some ⟨g_rows,54,(s1.map rRr),true⟩)⟩) (fun t=>fl1= .next t) ?_ (fun s1 g1 hn1=>?_)
 ·refine aA ?_;refine iH (fun j1 s1 g1=>⟨31,upd (upd (upd (upd (upd (upd (fun _=>.any) 13 (al (j1:Int))) 12 (al (rows.length:Int))) 11 (.own 1 g_rows (s1.map rRr).length)) 3 (.ptr (bv t))) 2 (.list 69 (key.map ae))) 1 (.own 1 g_rows (s1.map rRr).length),fun _=>none,upd (fun _=>none) 1 (some ⟨g_rows,54,(s1.map rRr),true⟩)⟩) () H1 Gh.d (fun j1 s1 g1 hj1 hr1=>?_);refine am 1 U Z (ab ?_);refine bp Z (fun h=>?_) (fun h=>?_)
  ·have hl1:=natLt hz1 h
   obtain⟨x1,fb1,hx1,H,hg1⟩:=rMc hl1 hr1
   obtain rfl:=natX hx1;refine ap (ab (aA (ab (aa (ah U Z ?_)))))
   obtain⟨x16,k16,H⟩:=bl H
   refine ky (tag:=1) Z (fun ho1=>?_);refine jh U ⟨k16.1,(dp k16.2)⟩ (dl ho1 k16.2) ?_;refine mV U Z Z Z Z Z Z Z (aO (fun _=>Z) k16.2) Z Z ?_;refine ag 2 U Z (ac (ab (aa (ag 2 U Z ?_))))
   obtain⟨x20,h20,H⟩:=aq H
   have s20:=mr t x16 _ h20;refine ak call80 (jb.r) s20 ?_;refine ah U Z ?_
   obtain⟨x22,h22,H⟩:=aq H
   have s22:=og x20 key _ h22;refine ak call79 (jb.r) s22 ?_;refine ah U Z (ac (am 2 U Z ?_));refine aH Z H (fun H=>?_) (fun H=>?_)
   ·refine am 5 U Z ?_;obtain rfl:=az H;have e1:fl1= .ret _:=hg1;subst e1;obtain rfl:=aT Hp1;refine cx (st':=⟨31,upd (upd (fun _=>.any) 7 (aK (x22==(0:Int)))) 6 (al (j1:Int)),fun _=>none,upd (fun _=>none) 1 (some ⟨g_rows,54,(s1.map rRr),true⟩)⟩) (Gh.le (aw (aw aS)) aE (aL aF)) ?_;refine cT U Z (ps:=[(al (j1:Int)),(aK (x22==(0:Int)))]) ⟨_,_,rfl,rfl,_,_,rfl,rfl,rfl⟩ (PLe.q Z) ⟨rfl,rfl⟩
   refine ap (aM (bh 2 U Z ?_));exact bm () H hl1 hg1 (Gh.le (aw (aw (aw (aw (aw (bD (PLe.q (nz hz1 hl1)) aS)))))) aE (aL aF))
  have hn1:=rMd (natGe hz1 h) hr1;refine bq Z ?_;refine aV s1 g1 hn1 Gh.d
 have H:=lA hn1 Hp1;refine ab (aa (ah U Z (eD U (zl _) ?_)));refine ag 2 U Z (ac ?_);obtain rfl:=az H;refine cx (st':=⟨31,upd (upd (fun _=>.any) 7 (aK false)) 6 (al (s1.length:Int)),fun _=>none,upd (fun _=>none) 1 (some ⟨g_rows,54,(s1.map rRr),true⟩)⟩) (Gh.le (aw (aw aS)) aE (aL aF)) ?_;refine cT U Z (ps:=[(al (s1.length:Int)),(aK false)]) ⟨_,_,rfl,rfl,_,_,rfl,rfl,rfl⟩ (PLe.q Z) ⟨rfl,rfl⟩
def gg(sA:LSchema):Option (Int):=
 letP (
  cond (decide ((sA.tables.length:Int)>(6:Int)))
   (true)
   (cond (decide ((sA.foreignKeys.length:Int)>(8:Int)))
    (true)
    ((decide ((sA.constraints.length:Int)>(8:Int)))))) fun(t1:Bool)=>
 cond t1
  (some 2)
  (af (aN (σ:=Unit) (ρ:=(Int)) (fun(j2:Nat) (x2:LTable) (_:Unit)=>
   af (fY x2) fun x37=>
   cond (x37 !=(0:Int))
    (some (.ret x37))
    (cond (decide ((j2:Int)>(0:Int)))
     (af (aP sA.tables (Iw ((j2:Int)-(1:Int)))) fun(x50:LTable)=>
     cond (Op.bytesLess x2.name x50.name||x2.name==x50.name)
      (some (.ret 6))
      (some (.next ())))
     (some (.next ())))) 0 sA.tables ()) fun fl2=>fl2.thenR fun(_:Unit)=>
  af (aN (σ:=Unit) (ρ:=(Int)) (fun(j3:Nat) (x3:LF) (_:Unit)=>
   af (fG sA x3) fun x66=>
   cond (x66 !=(0:Int))
    (some (.ret x66))
    (af (nK sA.foreignKeys 0 (j3:Int)) fun(x73:List LF)=>
    af (co x73 (fun a0=>gZ a0 x3)) fun x75=>
    cond x75
     (some (.ret 5))
     (some (.next ())))) 0 sA.foreignKeys ()) fun fl3=>fl3.thenR fun(_:Unit)=>
  af (aN (σ:=Unit) (ρ:=(Int)) (fun(j4:Nat) (x4:LK) (_:Unit)=>
   af (fH sA x4) fun x87=>
   cond (x87 !=(0:Int))
    (some (.ret x87))
    (af (nK sA.constraints 0 (j4:Int)) fun(x94:List LK)=>
    af (cv x94 x4) fun x96=>
    cond x96
     (some (.ret 5))
     (some (.next ())))) 0 sA.constraints ()) fun fl4=>fl4.thenR fun(_:Unit)=>
  some 0)
theorem pH(sA:LSchema)(r:Int)(H:gg sA=some r):
  aQ prog 37 [(.agg (cy sA))] (al r):=by
 unfold gg at H;refine PH.av func37 ntmps37 ?_;refine ab (aa (aJ ?_));refine ah U Z (ac (ab (ab ?_)));refine fA (γ:=Unit) (fun t1 g1=>⟨98,upd (upd (fun _=>.any) 27 (aK t1)) 1 (.ptr (cy sA)),fun _=>none,fun _=>none⟩) H (fun _ H=>?_) (fun t1 g1 H=>?_)
 ·refine aa (ag 2 U Z (aB U (zl _) ?_));refine ag 2 U Z ?_;refine bj Z Z Z H (fun H=>?_) (fun H=>?_)
  ·refine ag 11 U Z (ac ?_);refine aV _ () H Gh.d
  refine ag 2 U Z (aB U (zl _) ?_);refine ag 3 U Z ?_;refine bj Z Z Z H (fun H=>?_) (fun H=>?_)
  ·refine ag 5 U Z (ac ?_);refine aV _ () H Gh.d
  refine ag 2 U Z (aB U (zl _) ?_);refine ag 2 U Z (ac ?_);refine aV _ () H Gh.d
 refine aH Z H (fun H=>?_) (fun H=>?_)
 ·refine am 1 U Z ?_;exact bc U H Z
 refine ap (ab (ab (aa (ag 2 U Z (aB U (zl _) ?_)))));refine ah U Z (ac ?_);refine eG U 31 30 29 (fun s2 g2=>upd (fun _=>.any) 1 (.ptr (cy sA))) nB nO () H (fun fl2 Hp2 j2 s2 g2 hz2 hl2 x2 fb2 hx2 H hg2=>?_) (fun s2 g2 H=>?_)
 ·refine ab (aA (ab (aa (ah U Z ?_))));refine aU U (zn j2) (bn (fun _=>Z) hx2) ?_;refine ah U Z ?_;refine bf U fun b4=>?_
  refine ah U Z (au U ?_);refine ac (ab (ab (aa (aD U ?_))))
  obtain⟨x37,h37,H⟩:=aq H
  have s37:=ra x2 _ h37;refine ak call71 (jb.r) s37 ?_;refine ah U Z (ac (am 2 U Z ?_));refine aH Z H (fun H=>?_) (fun H=>?_)
  ·refine am 2 U Z ?_;obtain rfl:=az H;have e2:fl2= .ret _:=hg2;subst e2;obtain rfl:=aT Hp2;refine ba U Z (ps:=[(al x37)]) ⟨_,_,rfl,rfl,rfl⟩ (PLe.q Z)
  refine ap (ab (bd U mok ⟨true,false,[47,52]⟩ [0,1,2,3,4,5,6,7,8,9,10,11,12,13] Z (by decide+kernel) Z (aG 3 Z ?_)));refine mj H (fun H=>?_) (fun H=>?_)
  ·refine bA Z (bi ?_);refine aG 4 Z ?_
   obtain⟨x50,k50,H⟩:=bl H
   refine bs k50.1 (aO (fun _=>Z) k50.2) ?_;refine aG 4 Z (aZ ?_);refine aH Z H (fun H=>?_) (fun H=>?_)
   ·refine am 1 U Z ?_;obtain rfl:=az H;have e2:fl2= .ret _:=hg2;subst e2;obtain rfl:=aT Hp2;refine ba U Z (ps:=[(al 6)]) ⟨_,_,rfl,rfl,rfl⟩ (PLe.q Z)
   refine ap (aM (bh 2 U Z ?_));exact bm () H hl2 hg2
  refine aG 11 Z (aZ (bF Z (ap (aM (bh 2 U Z ?_)))));exact bm () H hl2 hg2
 refine ab (ab (aa (ag 2 U Z (aB U (zl _) ?_))));refine ah U Z (ac ?_);refine eG U 59 58 57 (fun s3 g3=>upd (fun _=>.any) 1 (.ptr (cy sA))) nB nO () H (fun fl3 Hp3 j3 s3 g3 hz3 hl3 x3 fb3 hx3 H hg3=>?_) (fun s3 g3 H=>?_)
 ·refine ab (aA (ab (aa (ah U Z ?_))));refine aU U (zn j3) (bn (fun _=>Z) hx3) ?_;refine ah U Z ?_;refine bf U fun b7=>?_
  refine ah U Z (au U ?_);refine ac (ab (ab (aa (ah U Z (aD U ?_)))))
  obtain⟨x66,h66,H⟩:=aq H
  have s66:=pr sA x3 _ h66;refine ak call72 (jb.r) s66 ?_;refine ah U Z (ac (am 2 U Z ?_));refine aH Z H (fun H=>?_) (fun H=>?_)
  ·refine am 2 U Z ?_;obtain rfl:=az H;have e3:fl3= .ret _:=hg3;subst e3;obtain rfl:=aT Hp3;refine ba U Z (ps:=[(al x66)]) ⟨_,_,rfl,rfl,rfl⟩ (PLe.q Z)
  refine ap (ab (aa (ag 3 U Z ?_)))
  obtain⟨x73,h73,H⟩:=aq H
  have k73:=nf h73;refine vF U Z Z Z Z Z (zl _) Z Z k73.1 (oI k73.2) Z (cu (Gh.freezeB 7 Z Z Z Z) (ah U Z ?_))
  obtain⟨x75,h75,H⟩:=aq H
  have s75:=jF x73 (fun a0=>gZ a0 x3) call74 (fun a0 r h=>tv a0 x3 r h) _ h75;refine ak call73 (jb.r) s75 ?_;refine ac ?_;refine aH Z H (fun H=>?_) (fun H=>?_)
  ·refine am 1 U Z ?_;obtain rfl:=az H;have e3:fl3= .ret _:=hg3;subst e3;obtain rfl:=aT Hp3;refine ba U Z (ps:=[(al 5)]) ⟨_,_,rfl,rfl,rfl⟩ (PLe.q Z)
  refine ap (aM (bh 2 U Z ?_));exact bm () H hl3 hg3
 refine ab (ab (aa (ag 2 U Z (aB U (zl _) ?_))));refine ah U Z (ac ?_);refine eG U 80 79 78 (fun s4 g4=>upd (fun _=>.any) 1 (.ptr (cy sA))) nB nO () H (fun fl4 Hp4 j4 s4 g4 hz4 hl4 x4 fb4 hx4 H hg4=>?_) (fun s4 g4 H=>?_)
 ·refine ab (aA (ab (aa (ah U Z ?_))));refine aU U (zn j4) (bn (fun _=>Z) hx4) ?_;refine ah U Z ?_;refine bf U fun b10=>?_
  refine ah U Z (au U ?_);refine ac (ab (ab (aa (ah U Z (aD U ?_)))))
  obtain⟨x87,h87,H⟩:=aq H
  have s87:=pi sA x4 _ h87;refine ak call76 (jb.r) s87 ?_;refine ah U Z (ac (am 2 U Z ?_));refine aH Z H (fun H=>?_) (fun H=>?_)
  ·refine am 2 U Z ?_;obtain rfl:=az H;have e4:fl4= .ret _:=hg4;subst e4;obtain rfl:=aT Hp4;refine ba U Z (ps:=[(al x87)]) ⟨_,_,rfl,rfl,rfl⟩ (PLe.q Z)
  refine ap (ab (bd U mok ⟨true,false,[92]⟩ [0,1,2,3,4,5] Z (by decide+kernel) Z (aG 3 Z ?_)))
  obtain⟨x94,h94,H⟩:=aq H
  have k94:=nf h94;refine vC Z Z Z Z Z Z (zl _) Z Z k94.1 (oI k94.2) Z (bi ?_)
  obtain⟨x96,h96,H⟩:=aq H
  have s96:=kh x94 x4 _ h96;refine aW call77 (jb.r) s96 ?_;refine aZ ?_;refine aH Z H (fun H=>?_) (fun H=>?_)
  ·refine am 1 U Z ?_;obtain rfl:=az H;have e4:fl4= .ret _:=hg4;subst e4;obtain rfl:=aT Hp4;refine ba U Z (ps:=[(al 5)]) ⟨_,_,rfl,rfl,rfl⟩ (PLe.q Z)
  refine ap (aM (bh 2 U Z ?_));exact bm () H hl4 hg4
 refine am 1 U Z ?_;exact bc U H Z
def ja(c:LChecker)(q:LQuery)(inA:List (List LCol)):Option ((List LCol)×Int):=
 cond (q.kind==(1:Int))
  (af (cn c.s.tables (fun a0=>some (fw a0 q))) fun x25=>
  cond (decide (x25<(0:Int)))
   (some ([],4))
   (af (aP c.s.tables x25) fun(x32:LTable)=>
   some (x32.columns,0)))
  (cond (q.kind==(2:Int))
   (af (aP inA 0) fun(x39:List LCol)=>
   af (aP inA 0) fun(x43:List LCol)=>
   af (aP q.exprs 0) fun(x47:LExpr)=>
   letP (el c x43 x47) fun x49=>
   some (x39,x49))
   (letP (
    cond (q.kind==(4:Int))
     ((q.kind==(4:Int)))
     ((q.kind==(5:Int)))) fun(t1:Bool)=>
   cond t1
    (af (aP inA 0) fun(x54:List LCol)=>
    af (aP inA 1) fun(x58:List LCol)=>
    af (aN (σ:=List LCol) (ρ:=Empty) (fun(_:Nat) (x2:LCol) (s2:List LCol)=>
     cond x2.nullable
      (af (cJ 32 s2 ([(LCol.mk x2.name x2.kind true)]:List LCol)) fun(x76:List LCol)=>
      some (.next x76))
      (af (cJ 32 s2 ([(LCol.mk x2.name x2.kind (q.kind==(5:Int)))]:List LCol)) fun(x76:List LCol)=>
      some (.next x76))) 0 x58 x54) fun fl2=>fl2.thenP fun(s2:List LCol)=>
    af (aP q.exprs 0) fun(x83:LExpr)=>
    letP (el c s2 x83) fun x85=>
    some (s2,x85))
    (letP (
     cond (q.kind==(6:Int))
      ((q.kind==(6:Int)))
      ((q.kind==(7:Int)))) fun(t3:Bool)=>
    cond t3
     (af (aP inA 0) fun(x92:List LCol)=>
     af (aP inA 1) fun(x95:List LCol)=>
     af (jx q.kind x92 x95) fun x97=>
     some (x97.1,x97.2))
     (letP (
      cond (q.kind==(3:Int))
       ((q.kind==(3:Int)))
       ((q.kind==(8:Int)))) fun(t4:Bool)=>
     cond t4
      (af (aP inA 0) fun(x106:List LCol)=>
      af (fB c q x106) fun x108=>
      some (x108.1,x108.2))
      (cond (q.kind==(9:Int))
       (af (aN (σ:=Unit) (ρ:=((List LCol)×Int)) (fun(_:Nat) (x5:LExpr) (_:Unit)=>
        af (aP inA 0) fun(x122:List LCol)=>
        letP (fq x122 c.vars x5) fun x127=>
        cond (x127.2.2 !=(0:Int))
         (some (.ret ([],x127.2.2)))
         (some (.next ()))) 0 q.exprs ()) fun fl5=>fl5.thenR fun(_:Unit)=>
       af (aP inA 0) fun(x136:List LCol)=>
       some (x136,0))
       (af (aP inA 0) fun(x136:List LCol)=>
       some (x136,0)))))))
theorem tq(c:LChecker)(q:LQuery)(inA:List (List LCol))(r:(List LCol)×Int)(H:ja c q inA=some r):
  aQ prog 207 [(.agg (eW c)),(.agg (aY q)),(.list 61 (inA.map (ao 93 ay)))] (.tup [(.list 93 (r.1.map ay)),(al r.2)]):=by
 unfold ja at H;refine PH.av func207 ntmps207 ?_;refine ab (aa (aJ ?_));refine aJ ?_;refine ag 2 U Z (ac (ab (am 2 U Z (aA (am 2 U Z ?_)))));refine aH Z H (fun H=>?_) (fun H=>?_)
 ·refine ab (aa (ag 4 U Z ?_))
  obtain⟨x25,h25,H⟩:=aq H
  have s25:=ew c.s.tables (fun a0=>some (fw a0 q)) call234 (fun a0 r h=>(az h)▸rI a0 q) _ h25;refine ak call55 (jb.r) s25 ?_;refine ah U Z (ac (ab (am 2 U Z ?_)));refine aH Z H (fun H=>?_) (fun H=>?_)
  ·refine am 2 U Z ?_;obtain rfl:=az H;refine ba U Z (ps:=[(.val (.slice none 0 0)),(al 4)]) ⟨_,_,rfl,rfl,_,_,rfl,rfl,rfl⟩ (PLe.of2 (pE.tup (jk.cons (pE.nil U Z) (jk.cons (pE.of_eq Z) jk.nil))))
  refine ap (ab (aa (ag 4 U Z ?_)))
  obtain⟨x32,k32,H⟩:=bl H
  refine aU U k32.1 (aO (fun _=>Z) k32.2) ?_;refine ag 2 U Z ?_;have s35:=na (m:=35) x32.columns;refine ak call176 (jb.r) (PFun.ik s35) ?_;refine ag 2 U Z (ac ?_);exact bc U H Z
 refine am 2 U Z ?_;refine aH Z H (fun H=>?_) (fun H=>?_)
 ·refine ab (bd U mok ⟨false,false,[]⟩ [0,1,2,3,4,5,6,7,8,9,10,11,12,13] Z (by decide+kernel) Z (bA Z ?_))
  obtain⟨x39,k39,H⟩:=bl H
  refine bs k39.1 (aO (fun _=>Z) k39.2) ?_;refine aG 3 Z ?_
  obtain⟨x43,k43,H⟩:=bl H
  refine bs k43.1 (aO (fun _=>Z) k43.2) ?_;refine aG 3 Z ?_
  obtain⟨x47,k47,H⟩:=bl H
  refine bs k47.1 (aO db k47.2) ?_;refine bA Z ?_
  obtain⟨x49,h49,H⟩:=cK H
  have s49:=lY c x43 x47;rw[h49]at s49;refine aW call235 (jb.r) s49 ?_;refine aG 2 Z (aZ ?_);exact bc U H Z
 refine ab (am 2 U Z ?_);refine fA (γ:=Unit) (fun t1 g1=>⟨138,upd (upd (upd (upd (upd (fun _=>.any) 50 (aK t1)) 18 (al q.kind)) 4 (.ptr (aY q))) 3 (.ptr (eW c))) 2 (.list 61 (inA.map (ao 93 ay))),fun _=>none,fun _=>none⟩) H (fun _ H=>?_) (fun t1 g1 H=>?_)
 ·refine aH Z H (fun H=>?_) (fun H=>?_)
  ·refine ap ?_;refine aV _ () H Gh.d
  refine bh 2 U Z ?_;refine aV _ () H Gh.d
 refine aH Z H (fun H=>?_) (fun H=>?_)
 ·refine ab (aa (ah U Z ?_))
  obtain⟨x54,k54,H⟩:=bl H
  refine aU U k54.1 (aO (fun _=>Z) k54.2) ?_;refine ah U Z ?_;have s56:=na (m:=56) x54;refine gX call176 (jb.r) s56 (fun g56=>?_);refine ah U Z (ac (ab (ab (aa (ah U Z ?_)))))
  obtain⟨x58,k58,H⟩:=bl H
  refine aU U k58.1 (aO (fun _=>Z) k58.2) ?_;refine ah U Z (aB U (zl _) ?_);refine ah U Z (ac ?_);refine fW (γ:=OwnRef) U 61 60 59 (fun s2 g2=>upd (upd (upd (fun _=>.any) 9 (.own 56 g2 (s2.map ay).length)) 4 (.ptr (aY q))) 3 (.ptr (eW c))) nB (fun s2 g2=>upd (fun _=>none) 56 (some ⟨g2,93,(s2.map ay),true⟩)) g56 H (fun fl2 Hp2 j2 s2 g2 hz2 hl2 x2 fb2 hx2 H hg2=>?_) (fun s2 g2 H=>?_)
  ·refine ab (aA (ab (aa ?_)));refine aU U (zn j2) (bn (fun _=>Z) hx2) ?_;refine ah U Z ?_;refine bf U fun b11=>?_
   refine au U ?_;refine ac (ab (aa (ah U Z (aD U ?_))));refine ah U Z ?_;refine bj Z Z Z H (fun H=>?_) (fun H=>?_)
   ·refine ag 5 U Z (au U ?_);refine ac (aa (ah U Z (aD U ?_)));refine ci U (rows':=List.map ay ([(LCol.mk x2.name x2.kind true)]:List LCol)) (gH.refl _) ?_
    obtain⟨x76,h76,H⟩:=aq H
    have k76:=bS h76;refine bX (rows2':=List.map ay ([(LCol.mk x2.name x2.kind true)]:List LCol)) (rows':=List.map ay x76) U Z Z Z Z Z Z Z Z Z Z Z Z Z (gH.refl _) (cD k76.1) (cC k76.2.1) (cE k76.2.2) fun g76=>?_
    refine ah U Z (ac (aM (bh 2 U Z ?_)));exact bm g76 H hl2 hg2
   refine ag 5 U Z (au U ?_);refine ac (aa (ah U Z (aD U ?_)));refine ci U (rows':=List.map ay ([(LCol.mk x2.name x2.kind (q.kind==(5:Int)))]:List LCol)) (gH.refl _) ?_
   obtain⟨x76,h76,H⟩:=aq H
   have k76:=bS h76;refine bX (rows2':=List.map ay ([(LCol.mk x2.name x2.kind (q.kind==(5:Int)))]:List LCol)) (rows':=List.map ay x76) U Z Z Z Z Z Z Z Z Z Z Z Z Z (gH.refl _) (cD k76.1) (cC k76.2.1) (cE k76.2.2) fun g76=>?_
   refine ah U Z (ac (aM (bh 2 U Z ?_)));exact bm g76 H hl2 hg2
  refine ab (cF 9 Z Z Z (bd U mok ⟨false,false,[]⟩ [0,1,2,3,4,5,6,7,8,9] Z (by decide+kernel) Z (aG 5 Z ?_)))
  obtain⟨x83,k83,H⟩:=bl H
  refine bs k83.1 (aO db k83.2) ?_;refine bA Z ?_
  obtain⟨x85,h85,H⟩:=cK H
  have s85:=lY c s2 x83;rw[h85]at s85;refine aW call235 (jb.r) s85 ?_;refine aG 2 Z (aZ ?_);exact bc U H Z
 refine ab (am 2 U Z ?_);refine fA (γ:=Unit) (fun t3 g3=>⟨138,upd (upd (upd (upd (upd (fun _=>.any) 86 (aK t3)) 18 (al q.kind)) 4 (.ptr (aY q))) 3 (.ptr (eW c))) 2 (.list 61 (inA.map (ao 93 ay))),fun _=>none,fun _=>none⟩) H (fun _ H=>?_) (fun t3 g3 H=>?_)
 ·refine aH Z H (fun H=>?_) (fun H=>?_)
  ·refine ap ?_;refine aV _ () H Gh.d
  refine bh 2 U Z ?_;refine aV _ () H Gh.d
 refine aH Z H (fun H=>?_) (fun H=>?_)
 ·refine ab (bd U mok ⟨false,false,[]⟩ [0,1,2,3,4,5,6,7,8,9,10,11,12] Z (by decide+kernel) Z (aG 3 Z ?_))
  obtain⟨x92,k92,H⟩:=bl H
  refine bs k92.1 (aO (fun _=>Z) k92.2) ?_;refine aG 2 Z ?_
  obtain⟨x95,k95,H⟩:=bl H
  refine bs k95.1 (aO (fun _=>Z) k95.2) ?_;refine bA Z ?_
  obtain⟨x97,h97,H⟩:=aq H
  have s97:=ue q.kind x92 x95 _ h97;refine aW call236 (jb.r) s97 ?_;refine aG 4 Z (aZ ?_);exact bc U H Z
 refine ab (am 2 U Z ?_);refine fA (γ:=Unit) (fun t4 g4=>⟨138,upd (upd (upd (upd (upd (fun _=>.any) 100 (aK t4)) 18 (al q.kind)) 4 (.ptr (aY q))) 3 (.ptr (eW c))) 2 (.list 61 (inA.map (ao 93 ay))),fun _=>none,fun _=>none⟩) H (fun _ H=>?_) (fun t4 g4 H=>?_)
 ·refine aH Z H (fun H=>?_) (fun H=>?_)
  ·refine ap ?_;refine aV _ () H Gh.d
  refine bh 2 U Z ?_;refine aV _ () H Gh.d
 refine aH Z H (fun H=>?_) (fun H=>?_)
 ·refine ab (bd U mok ⟨false,false,[]⟩ [0,1,2,3,4,5,6,7,8,9] Z (by decide+kernel) Z (aG 3 Z ?_))
  obtain⟨x106,k106,H⟩:=bl H
  refine bs k106.1 (aO (fun _=>Z) k106.2) ?_;refine bA Z ?_
  obtain⟨x108,h108,H⟩:=aq H
  have s108:=oE c q x106 _ h108;refine aW call237 (jb.r) s108 ?_;refine aG 4 Z (aZ ?_);exact bc U H Z
 refine am 2 U Z ?_;refine aH Z H (fun H=>?_) (fun H=>?_)
 ·refine ab (aa (ag 2 U Z (aB U (zl _) ?_)));refine ah U Z (ac ?_);refine eG U 116 115 114 (fun s5 g5=>upd (upd (fun _=>.any) 3 (.ptr (eW c))) 2 (.list 61 (inA.map (ao 93 ay)))) nB nO () H (fun fl5 Hp5 j5 s5 g5 hz5 hl5 x5 fb5 hx5 H hg5=>?_) (fun s5 g5 H=>?_)
  ·refine ab (aA (ab (aa (aU U (zn j5) (bn db hx5) ?_))));refine ah U Z ?_;refine bf U fun b13=>?_
   refine au U ?_;refine ac (ab (bd U mok ⟨true,false,[123,125]⟩ [0,1,2,3,4,5,6,7,8,9,10,11,12,13] Z (by decide+kernel) Z (bA Z ?_)))
   obtain⟨x122,k122,H⟩:=bl H
   refine bs k122.1 (aO (fun _=>Z) k122.2) ?_;refine aG 3 Z (bi ?_)
   obtain⟨x127,h127,H⟩:=cK H
   have s127:=lM x122 c.vars x5;rw[h127]at s127;refine aW call122 (jb.r) s127 ?_;refine aG 7 Z (aZ (am 2 U Z ?_));refine aH Z H (fun H=>?_) (fun H=>?_)
   ·refine am 3 U Z ?_;obtain rfl:=az H;have e5:fl5= .ret _:=hg5;subst e5;obtain rfl:=aT Hp5;refine ba U Z (ps:=[(.val (.slice none 0 0)),(al x127.2.2)]) ⟨_,_,rfl,rfl,_,_,rfl,rfl,rfl⟩ (PLe.of2 (pE.tup (jk.cons (pE.nil U Z) (jk.cons (pE.of_eq Z) jk.nil))))
   refine ap (aM (bh 2 U Z ?_));exact bm () H hl5 hg5
  refine aM (ab (aa (ah U Z ?_)))
  obtain⟨x136,k136,H⟩:=bl H
  refine aU U k136.1 (aO (fun _=>Z) k136.2) ?_;refine ag 3 U Z (ac ?_);exact bc U H Z
 refine ap (aM (ab (aa (ah U Z ?_))))
 obtain⟨x136,k136,H⟩:=bl H
 refine aU U k136.1 (aO (fun _=>Z) k136.2) ?_;refine ag 3 U Z (ac ?_);exact bc U H Z
def gp(c:LC)(vars:List LCol)(sA:LS):Option (Int):=
 af (iy c sA.table) fun x21=>
 cond (!x21.2)
  (some 4)
  (af (
   cond (sA.kind !=(4:Int))
    (af (aP sA.whereF 0) fun(x35:LExpr)=>
    af (ek c x21.1.columns vars x35) fun x37=>
    cond (x37 !=(0:Int))
     (some (.ret x37))
     (some (.next ())))
    (some (.next ()))) fun(fl1:Flow (Unit) (Int))=>fl1.thenR fun _=>
  letP (
   cond (sA.kind==(4:Int))
    (((sA.exprs.length:Int) !=(x21.1.columns.length:Int)))
    (false)) fun(t2:Bool)=>
  cond t2
   (some 3)
   (af (aN (σ:=Unit) (ρ:=(Int)) (fun(j3:Nat) (x3:LExpr) (_:Unit)=>
    af (
     cond (sA.kind==(5:Int))
      (af (bB x21.1.columns (fun a0=>eK a0 sA (j3:Int))) fun x68=>
      cond (decide (x68<(0:Int)))
       (some (.ret 23))
       (af (nK sA.names 0 (j3:Int)) fun(x76:Rs)=>
       af (aP sA.names (j3:Int)) fun(x80:Rb)=>
       af (cw x76 x80) fun x82=>
       cond x82
        (some (.ret 9))
        (af (ef x21.1.primaryKey x68) fun x87=>
        cond x87
         (some (.ret 9))
         (some (.next (x68,x21.1.columns))))))
      (some (.next ((j3:Int),[])))) fun(fl5:Flow (Int×List LCol) (Int))=>fl5.thenF fun t5=>
    af (ed c t5.2 vars x3) fun x94=>
    cond (x94.2.2 !=(0:Int))
     (some (.ret x94.2.2))
     (cond (x94.1 !=(0:Int))
      (af (aP x21.1.columns t5.1) fun(x108:LCol)=>
      cond (x94.1 !=x108.kind)
       (some (.ret 7))
       (some (.next ())))
      (some (.next ())))) 0 sA.exprs ()) fun fl3=>fl3.thenR fun(_:Unit)=>
   some 0))
theorem pI(c:LC)(vars:List LCol)(sA:LS)(r:Int)(H:gp c vars sA=some r):
  aQ prog 121 [(.agg (bt c)),(.list 93 (vars.map ay)),(.agg (aC sA))] (al r):=by
 unfold gp at H;refine PH.av func121 ntmps121 ?_;refine ab (aa (aJ ?_));refine aJ ?_;refine ah U Z (ac (ab (aa (ag 3 U Z ?_))))
 obtain⟨x21,h21,H⟩:=aq H
 have s21:=pQ c sA.table _ h21;refine ak call178 (jb.r) s21 ?_;refine ag 3 U Z ?_;refine bf U fun b7=>?_
 refine au U ?_;refine ah U Z (ac (ab (am 2 U Z ?_)));refine aH Z H (fun H=>?_) (fun H=>?_)
 ·refine am 1 U Z ?_;exact bc U H Z
 refine ap (ab (am 3 U Z ?_));refine V.cutR (γ:=Unit) (fun t1 g1=>⟨114,upd (upd (upd (upd (fun _=>.any) 7 (.box 7 b7 0)) 5 (.ptr (aC sA))) 3 (.ptr (bt c))) 1 (.list 93 (vars.map ay)),upd (fun _=>none) 7 (some ⟨b7,(bv x21.1)⟩),fun _=>none⟩) H (fun _ H Hp1=>?_) (fun t1 g1 H=>?_)
 ·refine aH Z H (fun H=>?_) (fun H=>?_)
  ·refine ab (bd U mok ⟨true,false,[29,34,36]⟩ [0,1,2,3,4,5,6,7,8,9] Z (by decide+kernel) Z (aG 2 Z (bi ?_)));refine aG 3 Z ?_
   obtain⟨x35,k35,H⟩:=bl H
   refine bs k35.1 (aO db k35.2) ?_;refine bA Z ?_
   obtain⟨x37,h37,H⟩:=aq H
   have s37:=kP c x21.1.columns vars x35 _ h37;refine aW call119 (jb.r) s37 ?_;refine bA Z (aZ (am 2 U Z ?_));refine aH Z H (fun H=>?_) (fun H=>?_)
   ·refine am 2 U Z ?_;obtain rfl:=az H;obtain rfl:=aT Hp1;refine ba U Z (ps:=[(al x37)]) ⟨_,_,rfl,rfl,rfl⟩ (PLe.q Z)
   refine ap ?_;refine aV _ () (az H).symm Gh.d
  refine ap ?_;refine aV _ () (az H).symm Gh.d
 refine ab (ab ?_);refine fA (γ:=Unit) (fun t2 g2=>⟨114,upd (upd (upd (upd (upd (fun _=>.any) 52 (aK t2)) 7 (.box 7 b7 0)) 5 (.ptr (aC sA))) 3 (.ptr (bt c))) 1 (.list 93 (vars.map ay)),upd (fun _=>none) 7 (some ⟨b7,(bv x21.1)⟩),fun _=>none⟩) H (fun _ H=>?_) (fun t2 g2 H=>?_)
 ·refine aa (ag 4 U Z ?_);refine bj Z Z Z H (fun H=>?_) (fun H=>?_)
  ·refine ag 2 U Z (aB U (zl _) ?_);refine ah U Z (aD U ?_);refine aB U (zl _) ?_;refine ag 2 U Z (ac ?_);refine aV _ () H Gh.d
  refine ag 8 U Z (ac ?_);refine aV _ () H Gh.d
 refine aH Z H (fun H=>?_) (fun H=>?_)
 ·refine am 1 U Z ?_;exact bc U H Z
 refine ap (ab (ab (aa (ag 2 U Z (aB U (zl _) ?_)))));refine ah U Z (ac ?_)
 obtain⟨fl3,H3,Hp3⟩:=aq H
 refine ib U 54 Z Z (fun hz3 _=>?_);rw[zl]at hz3;refine fm (τ:=Unit) (γ:=Unit) (fun s3 g3=>⟨114,upd (upd (upd (fun _=>.any) 5 (.ptr (aC sA))) 3 (.ptr (bt c))) 1 (.list 93 (vars.map ay)),fun _=>none,fun _=>none⟩) (fun t=>fl3= .next t) ?_ (fun s3 g3 hn3=>?_)
 ·refine aA ?_;refine iH (fun j3 s3 g3=>⟨114,upd (upd (upd (upd (upd (upd (upd (fun _=>.any) 56 (al (j3:Int))) 55 (al (sA.exprs.length:Int))) 54 (.list 71 (sA.exprs.map ft))) 7 (.box 7 b7 0)) 5 (.ptr (aC sA))) 3 (.ptr (bt c))) 1 (.list 93 (vars.map ay)),upd (fun _=>none) 7 (some ⟨b7,(bv x21.1)⟩),fun _=>none⟩) () H3 Gh.d (fun j3 s3 g3 hj3 hr3=>?_);refine am 1 U Z (ab ?_);refine bp Z (fun h=>?_) (fun h=>?_)
  ·have hl3:=pm h
   obtain⟨x3,fb3,hx3,H,hg3⟩:=rMc hl3 hr3
   refine ap (ab (aA (ab (aa (ah U Z (aU U (zn j3) (bn db hx3) ?_))))));refine ah U Z ?_;refine bf U fun b10=>?_
   refine bf U fun b11=>?_
   refine au U ?_;refine au U ?_;refine ac (ab (aa (aD U ?_)));refine ag 2 U Z (ac (ab (am 3 U Z ?_)));refine V.cutF (γ:=Unit) (fun t5 g5=>⟨114,upd (upd (upd (upd (upd (upd (upd (upd (upd (upd (fun _=>.any) 56 (al (j3:Int))) 55 (al (sA.exprs.length:Int))) 54 (.list 71 (sA.exprs.map ft))) 13 (.list 93 (t5.2.map ay))) 12 (al t5.1)) 11 (.box 11 b11 0)) 7 (.box 7 b7 0)) 5 (.ptr (aC sA))) 3 (.ptr (bt c))) 1 (.list 93 (vars.map ay)),upd (upd (fun _=>none) 11 (some ⟨b11,(iA x3)⟩)) 7 (some ⟨b7,(bv x21.1)⟩),fun _=>none⟩) H (fun _ H Hp5=>?_) (fun t5 g5 H=>?_)
   ·refine aH Z H (fun H=>?_) (fun H=>?_)
    ·refine ab (jM 10 ?_);refine bd U mok ⟨true,false,[]⟩ [0,1,2,4,5,3,6,7] Z (by decide+kernel) Z (bA Z (bi ?_));refine aG 2 Z (bi ?_)
     obtain⟨x68,h68,H⟩:=aq H
     have s68:=dh x21.1.columns (fun a0=>eK a0 sA (j3:Int)) call179 (fun a0 r h=>pu a0 sA (j3:Int) r h) _ h68;refine aW call170 (jb.r) s68 ?_;refine aG 2 Z (aZ (ab (am 2 U Z ?_)));refine aH Z H (fun H=>?_) (fun H=>?_)
     ·refine am 1 U Z ?_;obtain rfl:=az H;have q5:=ni Hp5;subst q5;have e3:fl3= .ret _:=hg3;subst e3;obtain rfl:=aT Hp3;refine ba U Z (ps:=[(al 23)]) ⟨_,_,rfl,rfl,rfl⟩ (PLe.q Z)
     refine ap (ab (bd U mok ⟨true,false,[74,75,78,79,81]⟩ [0,1,2,3,4,5,6,7,8,9,10,11,12,13,14,15] Z (by decide+kernel) Z (aG 3 Z ?_)))
     obtain⟨x76,h76,H⟩:=aq H
     have k76:=nf h76;refine vC Z Z Z Z Z Z (zl _) Z Z k76.1 (oI k76.2) Z (aG 3 Z ?_)
     obtain⟨x80,k80,H⟩:=bl H
     refine bs k80.1 (aO (fun _=>Z) k80.2) ?_;refine bA Z ?_
     obtain⟨x82,h82,H⟩:=aq H
     have s82:=kg x76 x80 _ h82;refine aW call31 (jb.r) s82 ?_;refine bA Z ?_;refine mj H (fun H=>?_) (fun H=>?_)
     ·refine aG 5 Z (aZ (bW Z (am 1 U Z ?_)));obtain rfl:=az H;have q5:=ni Hp5;subst q5;have e3:fl3= .ret _:=hg3;subst e3;obtain rfl:=aT Hp3;refine ba U Z (ps:=[(al 9)]) ⟨_,_,rfl,rfl,rfl⟩ (PLe.q Z)
     refine bA Z (bi ?_);refine bA Z ?_
     obtain⟨x87,h87,H⟩:=aq H
     have s87:=jG x21.1.primaryKey x68 _ h87;refine aW call115 (jb.r) s87 ?_;refine bA Z (aZ ?_);refine aH Z H (fun H=>?_) (fun H=>?_)
     ·refine am 1 U Z ?_;obtain rfl:=az H;have q5:=ni Hp5;subst q5;have e3:fl3= .ret _:=hg3;subst e3;obtain rfl:=aT Hp3;refine ba U Z (ps:=[(al 9)]) ⟨_,_,rfl,rfl,rfl⟩ (PLe.q Z)
     refine ap ?_;refine aV _ () (az H).symm Gh.d
    refine ap ?_;refine aV _ () (az H).symm (Gh.le (aw (aw (aw (aw (aw (aw (bD (PLe.of2 (pE.nil U Z)) (aw (aw (aw aS)))))))))) (aR Z (jb.r) (aR Z (jb.r) aE)) aF)
   refine ab (aa (ag 3 U Z (aD U ?_)))
   obtain⟨x94,h94,H⟩:=aq H
   have s94:=jI c t5.2 vars x3 _ h94;refine ak call116 (jb.r) s94 ?_;refine ag 7 U Z (ac (ab (am 2 U Z ?_)));refine aH Z H (fun H=>?_) (fun H=>?_)
   ·refine am 2 U Z ?_;obtain rfl:=az H;have e3:fl3= .ret _:=hg3;subst e3;obtain rfl:=aT Hp3;refine ba U Z (ps:=[(al x94.2.2)]) ⟨_,_,rfl,rfl,rfl⟩ (PLe.q Z)
   refine ap (ab (aa (ag 3 U Z ?_)));refine bj Z Z Z H (fun H=>?_) (fun H=>?_)
   ·refine ag 2 U Z (aD U ?_);refine ah U Z ?_
    obtain⟨x108,k108,H⟩:=bl H
    refine aU U k108.1 (aO (fun _=>Z) k108.2) ?_;refine ag 4 U Z (ac ?_);refine aH Z H (fun H=>?_) (fun H=>?_)
    ·refine am 1 U Z ?_;obtain rfl:=az H;have e3:fl3= .ret _:=hg3;subst e3;obtain rfl:=aT Hp3;refine ba U Z (ps:=[(al 7)]) ⟨_,_,rfl,rfl,rfl⟩ (PLe.q Z)
    refine ap (aM (bh 2 U Z ?_));exact bm () H hl3 hg3
   refine ag 9 U Z (ac (bF Z (ap (aM (bh 2 U Z ?_)))));exact bm () H hl3 hg3
  have hn3:=rMd (pz h) hr3;refine bq Z ?_;refine aV s3 g3 hn3 Gh.d
 have H:=lA hn3 Hp3;refine am 1 U Z ?_;exact bc U H Z
def jK(rA:LRun)(q:LQuery)(cols:List LCol)(inA:Rz):Option (Rz):=
 letP (
  cond ((q.exprs.length:Int)==(0:Int))
   (([[]],[[]]))
   (([],[]))) fun(t1:Rz×List Rz)=>
 af (aN (σ:=Rz×List Rz) (ρ:=Empty) (fun(_:Nat) (x2:Rq) (s2:Rz×List Rz)=>
  af (eg rA cols x2 q.exprs) fun x38=>
  af (bT s2.1 (fun a0=>hO a0 x38)) fun x41=>
  af (fg (x41.2.length=s2.1.length) ()) fun(_:Unit)=>
  af (
   cond (decide (x41.1<(0:Int)))
    (af (cJ 24 x41.2 ([x38]:Rz)) fun(x49:Rz)=>
    af (cJ 24 s2.2 ([[]]:List Rz)) fun(x52:List Rz)=>
    some (x49,x52,(x41.2.length:Int)))
    (some (x41.2,s2.2,x41.1))) fun(t7:Rz×List Rz×Int)=>
  af (aP t7.2.1 t7.2.2) fun(x57:Rz)=>
  af (cJ 24 x57 ([x2]:Rz)) fun(x61:Rz)=>
  af (aP t7.2.1 t7.2.2) fun(_:Rz)=>
  letP (t7.2.1.set t7.2.2.toNat x61) fun(y8:List Rz)=>
  some (.next (t7.1,y8))) 0 inA (t1.1,t1.2)) fun fl2=>fl2.thenP fun(s2:Rz×List Rz)=>
 af (fg (s2.2.length*24<=2^47) ()) fun(_:Unit)=>
 af (ny (s2.1.length:Int)) fun(n10:Nat)=>
 af (aN (σ:=Rz) (ρ:=Empty) (fun(j10:Nat) (_:Nat) (s10:Rz)=>
  af (aP s2.1 (j10:Int)) fun(x69:Rq)=>
  af (aN (σ:=Rq) (ρ:=Empty) (fun(_:Nat) (x13:LA) (s13:Rq)=>
   af (aP s2.2 (j10:Int)) fun(x86:Rz)=>
   af (kF rA x13 cols x86) fun x88=>
   af (cJ 32 s13 ([x88]:Rq)) fun(x90:Rq)=>
   some (.next x90)) 0 q.aggregates x69) fun fl13=>fl13.thenP fun(s13:Rq)=>
  af (cJ 24 s10 ([s13]:Rz)) fun(x95:Rz)=>
  some (.next x95)) 0 (List.range n10) []) fun fl10=>fl10.thenP fun(s10:Rz)=>
 some s10
theorem uK(rA:LRun)(q:LQuery)(cols:List LCol)(inA:Rz)(r:Rz)(H:jK rA q cols inA=some r):
  aQ prog 168 [(.agg (eA rA)),(.agg (aY q)),(.list 93 (cols.map ay)),(.list 54 (inA.map rRr))] (.list 54 (r.map rRr)):=by
 unfold jK at H;refine PH.av func168 ntmps168 ?_;refine ab (aa (aJ ?_));refine aJ ?_;refine ah U Z (ac (am 1 U Z (am 1 U Z (ab (ab (aa (ag 2 U Z (aB U (zl _) ?_))))))));refine ah U Z (ac ?_);refine fA (γ:=OwnRef×(Nat×Nat×(Nat->OwnRef))) (fun t1 g1=>⟨98,upd (upd (upd (upd (upd (upd (fun _=>.any) 10 (.val (jQ g1.2.1 t1.2.length g1.2.2.1))) 9 (.own 25 g1.1 (t1.1.map rRr).length)) 5 (.ptr (aY q))) 4 (.ptr (eA rA))) 3 (.list 54 (inA.map rRr))) 2 (.list 93 (cols.map ay)),upd (fun _=>none) 990 (jE g1.2.1 g1.2.2.2 (List.map (List.map rRr) t1.2) g1.2.2.1),fv 54 g1.2.2.2 (List.map (List.map rRr) t1.2) (upd (fun _=>none) 25 (some ⟨g1.1,54,(t1.1.map rRr),true⟩))⟩) H (fun _ H=>?_) (fun t1 g1 H=>?_)
 ·refine aH Z H (fun H=>?_) (fun H=>?_)
  ·refine aa ?_;refine vD (rows':=List.map rRr ([[]]:Rz)) U Z Z Z Z Z Z Z Z Z (jk.cons (pE.nil U Z) jk.nil) fun g25=>?_
   refine wi 990 54 U Z Z Z Z Z Z Z Z fun bf26 cf26=>?_
   refine ag 2 U Z (ac ?_);refine aV _ (g25,(bf26,cf26,(fun _=>⟨none,0⟩))) H (Gh.le (aw (aw (aw (aw (aw (aw aS)))))) (lN Z aE) (kZ (fun i rs h=>by first|exact fa h|(simp only[nj,iw,iV,Nat.reduceLT];exact fa h)) (aL aF)))
  refine ap (gQ U 9 25 (e:=54) Z Z ?_);refine aV _ (⟨none,0⟩,(0,0,fun _=>⟨none,0⟩)) H (Gh.le (aw (aw (aw (aw (aw (aw aS)))))) (wa aE) (vZ (aL aF)))
 refine ab (ab (aa (ah U Z (aB U (zl _) ?_))));refine ah U Z (ac ?_)
 obtain⟨fl2,H2,Hp2⟩:=aq H
 refine ib U 27 Z Z (fun hz2 _=>?_);rw[zl]at hz2;refine fm (τ:=Rz×List Rz) (γ:=OwnRef×(Nat×Nat×(Nat->OwnRef))) (fun s2 g2=>⟨98,upd (upd (upd (upd (upd (fun _=>.any) 10 (.val (jQ g2.2.1 s2.2.length g2.2.2.1))) 9 (.own 25 g2.1 (s2.1.map rRr).length)) 5 (.ptr (aY q))) 4 (.ptr (eA rA))) 2 (.list 93 (cols.map ay)),upd (fun _=>none) 990 (jE g2.2.1 g2.2.2.2 (List.map (List.map rRr) s2.2) g2.2.2.1),fv 54 g2.2.2.2 (List.map (List.map rRr) s2.2) (upd (fun _=>none) 25 (some ⟨g2.1,54,(s2.1.map rRr),true⟩))⟩) (fun t=>fl2= .next t) ?_ (fun s2 g2 hn2=>?_)
 ·refine aA ?_;refine iH (fun j2 s2 g2=>⟨98,upd (upd (upd (upd (upd (upd (upd (upd (fun _=>.any) 29 (al (j2:Int))) 28 (al (inA.length:Int))) 27 (.list 54 (inA.map rRr))) 10 (.val (jQ g2.2.1 s2.2.length g2.2.2.1))) 9 (.own 25 g2.1 (s2.1.map rRr).length)) 5 (.ptr (aY q))) 4 (.ptr (eA rA))) 2 (.list 93 (cols.map ay)),upd (fun _=>none) 990 (jE g2.2.1 g2.2.2.2 (List.map (List.map rRr) s2.2) g2.2.2.1),fv 54 g2.2.2.2 (List.map (List.map rRr) s2.2) (upd (fun _=>none) 25 (some ⟨g2.1,54,(s2.1.map rRr),true⟩))⟩) (g1.1,(g1.2.1,g1.2.2.1,g1.2.2.2)) H2 (Gh.le (aw (aw (aw (aw (aw (aw (aw (aw aS)))))))) (lN Z aE) (kZ (fun i rs h=>by first|exact fa h|(simp only[nj,iw,iV,Nat.reduceLT];exact fa h)) (aL aF))) (fun j2 s2 g2 hj2 hr2=>?_);refine am 1 U Z (ab ?_);refine bp Z (fun h=>?_) (fun h=>?_)
  ·have hl2:=pm h
   obtain⟨x2,fb2,hx2,H,hg2⟩:=rMc hl2 hr2
   refine ap (ab (aA (ab (aa ?_))));refine aU U (zn j2) (bn (fun _=>Z) hx2) ?_;refine ag 2 U Z (ac (ab (aa (ag 5 U Z ?_))))
   obtain⟨x38,h38,H⟩:=aq H
   have s38:=kR rA cols x2 q.exprs _ h38;refine ak call167 (jb.r) s38 ?_;refine bf U fun b13=>?_
   refine au U ?_;refine ac (ab (aa (ah U Z (cu (Gh.freezeB 13 Z Z Z Z) (ah U Z ?_)))))
   obtain⟨x41,h41,H⟩:=aq H
   have s41:=gr g2.1 s2.1 (fun a0=>hO a0 x38) call215 (fun a0 r h=>tu a0 x38 r h) _ h41
   obtain⟨_,q41_0,H⟩:=aq H
   have l41_0:=(dy q41_0).1;have z41_0:(List.map rRr s2.1).length=(List.map rRr x41.2).length:=by simpa using(l41_0).symm
   refine cq (g:=211) Z Z Z call211 [] [(25,0)] Z Z Z Z (jb.of2 (jk.cons (pE.own Z) (jk.cons (pE.of_eq Z) jk.nil))) (by rw[bO,be,bH];rfl) s41 ?_;rintro u41 H41h ⟨rfl,rfl⟩
   refine⟨_,rfl,?_⟩
   refine cu (st':=⟨_,_,upd (fun _=>none) 990 (jE g2.2.1 g2.2.2.2 (List.map (List.map rRr) s2.2) g2.2.2.1),fv 54 g2.2.2.2 (List.map (List.map rRr) s2.2) (upd (fun _=>none) 25 (some ⟨g2.1,54,(x41.2.map rRr),true⟩))⟩) (Gh.le (bL _ _) (lN Z aE) (kZ (fun i rs h=>by first|exact fa h|(simp only[nj,iw,iV,Nat.reduceLT];exact fa h)) (aL aF))) ?_;refine ah U Z (ac (ab (am 2 U Z ?_)));refine fu (γ:=OwnRef×(Nat×Nat×(Nat->OwnRef))) (fun t7 g7=>⟨98,upd (upd (upd (upd (upd (upd (upd (upd (upd (upd (fun _=>.any) 29 (al (j2:Int))) 28 (al (inA.length:Int))) 27 (.list 54 (inA.map rRr))) 14 (al t7.2.2)) 12 (.list 69 (x2.map ae))) 10 (.val (jQ g7.2.1 t7.2.1.length g7.2.2.1))) 9 (.own 25 g7.1 (t7.1.map rRr).length)) 5 (.ptr (aY q))) 4 (.ptr (eA rA))) 2 (.list 93 (cols.map ay)),upd (fun _=>none) 990 (jE g7.2.1 g7.2.2.2 (List.map (List.map rRr) t7.2.1) g7.2.2.1),fv 54 g7.2.2.2 (List.map (List.map rRr) t7.2.1) (upd (fun _=>none) 25 (some ⟨g7.1,54,(t7.1.map rRr),true⟩))⟩) H (fun _ H=>?_) (fun t7 g7 H=>?_)
   ·refine aH Z H (fun H=>?_) (fun H=>?_)
    ·refine ab (aa (ah U Z (eD U (z41_0.trans (zl _)) ?_)));refine ah U Z (ac (aa (ag 2 U Z (ci U (rows':=List.map rRr ([x38]:Rz)) (gH.refl _) ?_))))
     obtain⟨x49,h49,H⟩:=aq H
     have k49:=bS h49;refine bX (rows2':=List.map rRr ([x38]:Rz)) (rows':=List.map rRr x49) U Z Z Z Z Z Z Z Z Z Z Z z41_0 Z (gH.refl _) (cD k49.1) (cC k49.2.1) (cE k49.2.2) fun g49=>?_
     refine ah U Z (tH U Z Z Z Z Z Z ?_)
     obtain⟨x52,h52,H⟩:=aq H
     have k52:=bS h52;refine cu (st':=⟨_,_,upd (fun _=>none) 990 (jE g2.2.1 g2.2.2.2 (List.map (List.map rRr) s2.2) g2.2.2.1),fv 54 g2.2.2.2 (List.map (List.map rRr) s2.2) (upd (fun _=>none) 25 (some ⟨g49,54,(x49.map rRr),true⟩))⟩) (Gh.le (bL _ _) (lN Z aE) (kZ (fun i rs h=>by first|exact fa h|(simp only[nj,iw,iV,Nat.reduceLT];exact fa h)) (aL aF))) ?_;refine wg 990 54 U Z Z Z Z Z Z Z Z Z Z Z (zl _).symm Z Z (by rw[zl];exact k52.1) (by rw[zl];exact k52.2.1) fun bf52 cf52=>?_
     have hz52:List.map (List.map rRr) x52=List.map (List.map rRr) s2.2++[[]]:=by rw[k52.2.2,List.map_append];rfl
     refine cu (st':=⟨_,_,upd (fun _=>none) 990 (jE bf52 (upd g2.2.2.2 s2.2.length ⟨none,0⟩) (List.map (List.map rRr) x52) cf52),fv 54 (upd g2.2.2.2 s2.2.length ⟨none,0⟩) (List.map (List.map rRr) x52) (upd (fun _=>none) 25 (some ⟨g49,54,(x49.map rRr),true⟩))⟩) (Gh.le (bL _ _) (lN (by rw[hz52];rfl) aE) (kZ (fun i rs h=>by rw[hz52]at h;exact fa h) (aL aF))) ?_;refine jg 52 (q:=(.val (jQ bf52 x52.length cf52))) Z (PLe.q (by rw[k52.2.2,List.length_append];rfl)) ?_;refine ag 2 U Z (ac ?_);refine aV _ (g49,(bf52,cf52,(upd g2.2.2.2 s2.2.length ⟨none,0⟩))) (az H) (Gh.le (aw (aw (aw (aw (aw (aw (aw (aw (aw (aw aS)))))))))) (lN Z aE) (kZ (fun i rs h=>by first|exact fa h|(simp only[nj,iw,iV,Nat.reduceLT];exact fa h)) (aL aF)))
    refine ap ?_;refine aV _ (g2.1,(g2.2.1,g2.2.2.1,g2.2.2.2)) (az H) (Gh.le (aw (aw (aw (bD (PLe.of2 (pE.of_eq (congrArg (PV.own 25 g2.1) z41_0))) (aw (aw (aw (aw (aw (aw aS)))))))))) (lN Z aE) (kZ (fun i rs h=>by first|exact fa h|(simp only[nj,iw,iV,Nat.reduceLT];exact fa h)) (aL aF)))
   refine aa (ag 4 U Z ?_)
   obtain⟨x57,k57,H⟩:=bl H
   have wk57:(List.map (List.map rRr) t7.2.1)[t7.2.2.toNat]? =some (List.map rRr x57):=by rw[List.getElem?_map,k57.2];rfl
   refine vH 990 U Z Z Z Z Z Z Z Z ⟨k57.1,(zg.1 k57.2).1⟩ Z ?_;refine wq (hok:=rr _ _ _) U Z Z Z Z Z (tA wk57) (famCells_get wk57) Z (ah U Z (ci U (rows':=List.map rRr ([x2]:Rz)) (gH.refl _) ?_))
   obtain⟨x61,h61,H⟩:=aq H
   have k61:=bS h61;refine bX (rows2':=List.map rRr ([x2]:Rz)) (rows':=List.map rRr x61) U Z Z Z Z Z Z Z Z Z Z (fa wk57) Z Z (gH.refl _) (cD k61.1) (cC k61.2.1) (cE k61.2.2) fun g61=>?_
   obtain⟨x62,k62,H⟩:=bl H
   have wk62:(List.map (List.map rRr) t7.2.1)[t7.2.2.toNat]? =some (List.map rRr x62):=by rw[List.getElem?_map,k62.2];rfl
   refine vH 990 U Z Z Z Z Z Z Z Z ⟨k62.1,(zg.1 k62.2).1⟩ Z ?_
   obtain⟨y8,hy8,H⟩:=cK H
   have hzy8:List.map (List.map rRr) y8=(List.map (List.map rRr) t7.2.1).set t7.2.2.toNat (List.map rRr x61):=by rw[<-hy8,List.map_set]
   have hly8:y8.length=t7.2.1.length:=by rw[<-hy8,List.length_set]
   refine wc (hok:=rr _ _ _) U Z Z Z Z Z Z (tA wk62) Z Z (by rw[qm];exact Nat.lt_of_lt_of_le (zg.1 wk62).1 (kJ _ _)) (famCells_set wk62 _) ?_;refine cu (st':=⟨_,_,upd (fun _=>none) 990 (jE g7.2.1 (upd g7.2.2.2 t7.2.2.toNat g61) (List.map (List.map rRr) y8) g7.2.2.1),fv 54 (upd g7.2.2.2 t7.2.2.toNat g61) (List.map (List.map rRr) y8) (upd (fun _=>none) 25 (some ⟨g7.1,54,(t7.1.map rRr),true⟩))⟩) (Gh.le (bL _ _) (lN (famB_put wk62 hzy8) aE) (kZ (famO_put wk62 hzy8) (wn (by rw[fU _ _ (by unfold bJ;omega)];rfl) aF))) ?_;refine jg 10 (q:=(.val (jQ g7.2.1 y8.length g7.2.2.1))) Z (PLe.q (by rw[hly8];rfl)) ?_;refine jg 53 (q:=(.val (jQ g7.2.1 y8.length g7.2.2.1))) Z (PLe.q (by rw[hly8];rfl)) ?_;refine jg 55 (q:=(.val (jQ g7.2.1 y8.length g7.2.2.1))) Z (PLe.q (by rw[hly8];rfl)) ?_;refine ac (aM (bh 2 U Z ?_));exact bm (g7.1,(g7.2.1,g7.2.2.1,(upd g7.2.2.2 t7.2.2.toNat g61))) H hl2 hg2 (Gh.le (aw (aw (aw (aw (aw (aw (aw (bD (PLe.q (fj (by omega))) aS)))))))) (lN Z aE) (kZ (fun i rs h=>by first|exact fa h|(simp only[nj,iw,iV,Nat.reduceLT];exact fa h)) (aL aF)))
  have hn2:=rMd (pz h) hr2;refine bq Z ?_;refine aV s2 g2 hn2 (Gh.le (aw (aw (aw (aw (aw aS))))) (lN Z aE) (kZ (fun i rs h=>by first|exact fa h|(simp only[nj,iw,iV,Nat.reduceLT];exact fa h)) (aL aF)))
 have H:=dT hn2 Hp2;refine am 1 U Z (ab (ab (aa (ah U Z (eD U (zl _) ?_)))));refine ah U Z (ac ?_)
 obtain⟨_,hf9,H⟩:=aq H
 have kf9:=(dy hf9).1;refine vO 10 990 U (e:=54) (e':=62) (rows:=List.map (ao 54 rRr) s2.2) Z Z Z (zl _).symm Z (by rw[zl];exact kf9) (by rw[zl];unfold maxLen;omega) (by rw[List.map_map];rfl) ?_
 obtain⟨n10,hs10,H⟩:=aq H
 have hz10:=mM hs10
 obtain⟨fl10,H10,Hp10⟩:=aq H
 refine fm (τ:=Rz) (γ:=OwnRef) (fun s10 g10=>⟨98,upd (fun _=>.any) 15 (.own 95 g10 (s10.map rRr).length),fun _=>none,upd (fun _=>none) 95 (some ⟨g10,54,(s10.map rRr),true⟩)⟩) (fun t=>fl10= .next t) ?_ (fun s10 g10 hn10=>?_)
 ·refine aA (gQ U 15 95 (e:=54) Z Z ?_);refine iH (fun j10 s10 g10=>⟨98,upd (upd (upd (upd (upd (upd (upd (upd (fun _=>.any) 66 (al (j10:Int))) 65 (al (s2.1.length:Int))) 64 (.own 25 g2.1 (s2.1.map rRr).length)) 15 (.own 95 g10 (s10.map rRr).length)) 10 (.list 62 (s2.2.map (ao 54 rRr)))) 5 (.ptr (aY q))) 4 (.ptr (eA rA))) 2 (.list 93 (cols.map ay)),fun _=>none,upd (upd (fun _=>none) 95 (some ⟨g10,54,(s10.map rRr),true⟩)) 25 (some ⟨g2.1,54,(s2.1.map rRr),true⟩)⟩) (⟨none,0⟩) H10 Gh.d (fun j10 s10 g10 hj10 hr10=>?_);refine am 1 U Z (ab ?_);refine bp Z (fun h=>?_) (fun h=>?_)
  ·have hl10:=natLt hz10 h
   obtain⟨x10,fb10,hx10,H,hg10⟩:=rMc hl10 hr10
   obtain rfl:=natX hx10;refine ap (ab (aA (ab (aa (ah U Z ?_)))))
   obtain⟨x69,k69,H⟩:=bl H
   refine ky (tag:=25) Z (fun ho25=>?_);refine jh U ⟨k69.1,(dp k69.2)⟩ (dl ho25 k69.2) ?_;refine mV U Z Z Z Z Z Z Z (aO (fun _=>Z) k69.2) Z Z ?_;refine ag 2 U Z (ac (ab (aa (ah U Z ?_))));have s72:=qz (m:=72) x69;refine gX call85 (jb.r) s72 (fun g72=>?_);refine ah U Z (ac (ab (ab (aa (ag 2 U Z (aB U (zl _) ?_))))));refine ah U Z (ac ?_);refine fW (γ:=OwnRef) U 76 75 74 (fun s13 g13=>upd (upd (upd (upd (upd (upd (upd (upd (upd (upd (fun _=>.any) 66 (al (j10:Int))) 65 (al (s2.1.length:Int))) 64 (.own 25 g2.1 (s2.1.map rRr).length)) 18 (.own 72 g13 (s13.map ae).length)) 16 (al (j10:Int))) 15 (.own 95 g10 (s10.map rRr).length)) 10 (.list 62 (s2.2.map (ao 54 rRr)))) 5 (.ptr (aY q))) 4 (.ptr (eA rA))) 2 (.list 93 (cols.map ay))) nB (fun s13 g13=>upd (upd (upd (fun _=>none) 95 (some ⟨g10,54,(s10.map rRr),true⟩)) 72 (some ⟨g13,69,(s13.map ae),true⟩)) 25 (some ⟨g2.1,54,(s2.1.map rRr),true⟩)) g72 H (fun fl13 Hp13 j13 s13 g13 hz13 hl13 x13 fb13 hx13 H hg13=>?_) (fun s13 g13 H=>?_)
   ·refine ab (aA (ab (aa ?_)));refine aU U (zn j13) (bn (fun _=>Z) hx13) ?_;refine ah U Z ?_;refine bf U fun b20=>?_
    refine au U ?_;refine ac ?_;refine gJ (tag:=25) Z (fun ho25=>?_);refine gJ (tag:=72) Z (fun ho72=>?_);refine gJ (tag:=95) Z (fun ho95=>?_);refine bd U mok ⟨true,false,[81,87]⟩ [0,1,2,3,4,5,6,7,8,9,10,11] Z (by decide+kernel) Z (aG 2 Z (bi ?_));refine aG 3 Z ?_
    obtain⟨x86,k86,H⟩:=bl H
    refine bs k86.1 (aO (fun _=>Z) k86.2) ?_;refine bA Z ?_
    obtain⟨x88,h88,H⟩:=aq H
    have s88:=vt rA x13 cols x86 _ h88;refine aW call216 (jb.r) s88 ?_;refine bA Z ?_
    obtain⟨x90,h90,H⟩:=aq H
    have k90:=bS h90;refine gk (rows2':=List.map ae ([x88]:Rq)) (rows':=List.map ae x90) U Z Z Z Z Z Z Z Z Z Z Z Z Z Z (gH.refl _) (cD k90.1) (cC k90.2.1) (cE k90.2.2) fun g90=>?_
    refine bA Z (aZ (aM (bh 2 U Z ?_)));exact bm g90 H hl13 hg13
   refine cF 18 Z Z Z (aa (ag 2 U Z (ci U (rows':=List.map rRr ([s13]:Rz)) (gH.refl _) ?_)))
   obtain⟨x95,h95,H⟩:=aq H
   have k95:=bS h95;refine bX (rows2':=List.map rRr ([s13]:Rz)) (rows':=List.map rRr x95) U Z Z Z Z Z Z Z Z Z Z Z Z Z (gH.refl _) (cD k95.1) (cC k95.2.1) (cE k95.2.2) fun g95=>?_
   refine ah U Z (ac (aM (bh 2 U Z ?_)));exact bm g95 H hl10 hg10 (Gh.le (aw (aw (aw (aw (aw (aw (aw (bD (PLe.q (nz hz10 hl10)) aS)))))))) aE (aL (aL aF)))
  have hn10:=rMd (natGe hz10 h) hr10;refine bq Z ?_;refine aV s10 g10 hn10 Gh.d
 have H:=dT hn10 Hp10;refine am 2 U Z (cF 8 Z Z Z ?_);exact bc U H Z
def gI(a:Rq)(b:Rq)(c0:LRun)(c1:List LCol)(c2:LQuery):Option (Int):=
 af (eg c0 c1 a c2.exprs) fun x13=>
 af (eg c0 c1 b c2.exprs) fun x19=>
 af (jd x13 x19 c2.descending) fun x22=>
 some x22
theorem uc(a:Rq)(b:Rq)(c0:LRun)(c1:List LCol)(c2:LQuery)(r:Int)(H:gI a b c0 c1 c2=some r):
  aQ prog 218 [(.list 69 (a.map ae)),(.list 69 (b.map ae)),(.ptr (eA c0)),(.ptr [(.list 93 (c1.map ay))]),(.ptr (aY c2))] (al r):=by
 unfold gI at H;refine PH.av func218 ntmps218 ?_;refine am 1 U Z (ab (bd U mok ⟨false,false,[]⟩ [0,1,2,3,4,6,7,8,9,10,12,13,5,11,14,15] Z (by decide+kernel) Z (aG 12 Z ?_)))
 obtain⟨x13,h13,H⟩:=aq H
 have s13:=kR c0 c1 a c2.exprs _ h13;refine aW call167 (jb.r) s13 ?_
 obtain⟨x19,h19,H⟩:=aq H
 have s19:=kR c0 c1 b c2.exprs _ h19;refine aW call167 (jb.r) s19 ?_
 obtain⟨x22,h22,H⟩:=aq H
 have s22:=tl x13 x19 c2.descending _ h22;refine aW call219 (jb.r) s22 ?_;refine bA Z (aZ ?_);exact bc U H Z
def iS(t:LTable)(rows:Rz)(row:Rq):Option Rz:=
 af (it rows) fun x11=>
 af (cZ t row) fun x19=>
 af (iO t x11 x19) fun x20=>
 af (fg (x20.2.2.length=x11.length) ()) fun(_:Unit)=>
 cond x20.2.1
  (af (aP x20.2.2 x20.1) fun(_:Rq)=>
  letP (x20.2.2.set x20.1.toNat row) fun(y:Rz)=>
  some y)
  (insI x20.2.2 x20.1 row)
theorem uE(t:LTable)(rows:Rz)(row:Rq)(r:Rz)(H:iS t rows row=some r):
  aQ prog 47 [(.agg (bv t)),(.list 54 (rows.map rRr)),(.list 69 (row.map ae))] (.list 54 (r.map rRr)):=by
 unfold iS at H;refine PH.av func47 ntmps47 ?_;refine ab (aa (aJ ?_));refine ah U Z (ac (ab (aa (ah U Z ?_))))
 obtain⟨x11,h11,H⟩:=aq H
 have s11:=mT (m:=11) rows _ h11;refine gX call57 (jb.r) s11 (fun g11=>?_);refine ah U Z (ac (ab (aa (ah U Z ?_))));have s13:=qz (m:=13) row;refine gX call85 (jb.r) s13 (fun g13=>?_);refine ah U Z (ac (cF 2 Z Z Z (ab (bd U mok ⟨false,false,[]⟩ [0,1,2,3,4,5,6,7,8,9,10] Z (by decide+kernel) Z (aG 4 Z ?_)))))
 obtain⟨x19,h19,H⟩:=aq H
 have s19:=mr t row _ h19;refine aW call80 (jb.r) s19 ?_
 obtain⟨x20,h20,H⟩:=aq H
 have s20:=pF g11 t x11 x19 _ h20
 obtain⟨_,q20,H⟩:=aq H
 have l20:=(dy q20).1;have z20:(List.map rRr x11).length=(List.map rRr x20.2.2).length:=by simpa using l20.symm
 refine vl (g:=86) Z Z Z Z call86 Z [(11,1)] Z Z (jb.of2 (jk.cons (pE.of_eq Z) (jk.cons (pE.own Z) (jk.cons (pE.of_eq Z) jk.nil)))) (by rw[be,bH];rfl) s20 ?_;rintro u20 H20h ⟨rfl,rfl⟩
 refine⟨(.tup [(al x20.1),(aK x20.2.1)]),_,PLe.refl _ _,rfl,?_⟩
 refine aG 5 Z (aZ ?_);refine cx (st':=⟨34,upd (upd (upd (upd (upd (fun _=>.any) 9 (aK x20.2.1)) 8 (al x20.1)) 7 (.own 11 g11 (x20.2.2.map rRr).length)) 2 (.list 69 (row.map ae))) 3 (.ptr (bv t)),fun _=>none,upd (fun _=>none) 11 (some ⟨g11,54,(x20.2.2.map rRr),true⟩)⟩) (Gh.le (aw (aw (bD (PLe.of2 (pE.own z20)) (aw (aw aS))))) aE (aL aF)) ?_;refine ab (am 1 U Z ?_);refine aH Z H (fun H=>?_) (fun H=>?_)
 ·refine gJ (tag:=11) Z (fun ho=>?_);refine ab (aa (ag 3 U Z ?_))
  obtain⟨x27,k27,H⟩:=bl H
  refine jh U ⟨k27.1,(dp k27.2)⟩ (dl ho k27.2) ?_
  obtain⟨y,hy,H⟩:=cK H
  refine nq U Z Z Z Z Z Z Z Z (by rw[zl];exact(zg.1 k27.2).1) (PLe.refl _ _) Z Z Z Z (by decide) (eF (fun _=>Z) k27.2 Z hy) ?_;refine ac (am 2 U Z ?_);have hly:(List.map rRr x20.2.2).length=(List.map rRr y).length:=by rw[<-hy];simp
  refine cF 6 Z Z hly ?_;exact bc U H Z
 refine ap ?_
 obtain⟨⟨hi0,hi1,hi2⟩,rfl⟩:=insI_some H
 have ei:x20.1=(x20.1.toNat:Int):=by omega
 refine ab (aa (ag 3 U Z ?_));refine oj (rows':=[ao 69 ae row]) U (jk.refl _) fun g32=>?_
 have s33:=insert_row (m:=1) (rows:=x20.2.2.map rRr) (g1:=g11) (g2:=g32) (r:=ao 69 ae row) (i:=x20.1.toNat) (by rw[zl];omega) (by rw[zl];omega) (by rw[zl];unfold maxLen;omega) Z;rw[<-ei]at s33;refine cq (g:=87) Z Z Z call87 [] [(32,2),(11,1)] Z Z Z Z (jb.of2 (jk.cons (pE.own Z) (jk.cons (pE.of_eq Z) (jk.cons (pE.own Z) jk.nil)))) (by rw[bO,be,be,bH];rfl) s33 ?_;rintro u33 H33h ⟨g33,rfl,rfl⟩
 refine⟨_,rfl,?_⟩
 refine cu (st':=⟨_,_,fun _=>none,upd (fun _=>none) 11 (some ⟨g33,54,(x20.2.2.map rRr).take x20.1.toNat++ao 69 ae row::(x20.2.2.map rRr).drop x20.1.toNat,true⟩)⟩) (Gh.le (bL _ _) aE (aL aF)) ?_;refine jg 33 (q:=(.own 11 g33 ((x20.2.2.map rRr).take x20.1.toNat++ao 69 ae row::(x20.2.2.map rRr).drop x20.1.toNat).length)) Z (PLe.of2 (pE.own Z)) (ah U Z (ac (cF 6 Z Z Z ?_)));refine dO U (PLe.q ?_);rw[List.map_append,List.map_cons,List.map_take,List.map_drop]
def iQ(t:LTable)(rows:Rz)(key:Rq):Option (Rz×Bool):=
 af (it rows) fun x12=>
 af (iO t x12 key) fun x17=>
 af (fg (x17.2.2.length=x12.length) ()) fun(_:Unit)=>
 cond (!x17.2.1)
  (some (x17.2.2,false))
  (af (nL x17.2.2 x17.1 (Iw (x17.1+(1:Int)))) fun x27=>
  some (x27,true))
theorem uJ(t:LTable)(rows:Rz)(key:Rq)(r:Rz×Bool)(H:iQ t rows key=some r):
  aQ prog 48 [(.agg (bv t)),(.list 54 (rows.map rRr)),(.list 69 (key.map ae))] (.tup [(.list 54 (r.1.map rRr)),(aK r.2)]):=by
 unfold iQ at H;refine PH.av func48 ntmps48 ?_;refine ab (aa (aJ ?_));refine ag 2 U Z (ac (ab (aa (ah U Z ?_))))
 obtain⟨x12,h12,H⟩:=aq H
 have s12:=mT (m:=12) rows _ h12;refine gX call57 (jb.r) s12 (fun g12=>?_);refine ah U Z (ac (ab (aa (ag 3 U Z ?_))))
 obtain⟨x17,h17,H⟩:=aq H
 have s17:=pF g12 t x12 key _ h17
 obtain⟨_,q17_0,H⟩:=aq H
 have l17_0:=(dy q17_0).1;have z17_0:(List.map rRr x12).length=(List.map rRr x17.2.2).length:=by simpa using(l17_0).symm
 refine cq (g:=86) Z Z Z call86 [] [(12,1)] Z Z Z Z (jb.of2 (jk.cons (pE.of_eq Z) (jk.cons (pE.own Z) (jk.cons (pE.of_eq Z) jk.nil)))) (by rw[bO,be,bH];rfl) s17 ?_;rintro u17 H17h ⟨rfl,rfl⟩
 refine⟨_,rfl,?_⟩
 refine cu (st':=⟨_,_,fun _=>none,upd (fun _=>none) 12 (some ⟨g12,54,(x17.2.2.map rRr),true⟩)⟩) (Gh.le (bL _ _) aE (aL aF)) ?_;refine ag 5 U Z (ac (ab (am 2 U Z ?_)));refine aH Z H (fun H=>?_) (fun H=>?_)
 ·refine am 3 U Z (cF 6 Z Z z17_0 ?_);exact bc U H Z
 refine ap (ab (aa (ag 4 U Z ?_)))
 obtain⟨x27,h27,H⟩:=aq H
 have s27:=uX g12 x17.2.2 x17.1 (Iw (x17.1+(1:Int))) _ h27;refine cq (g:=88) Z Z Z call88 [] [(12,0)] Z Z Z Z (jb.of2 (jk.cons (pE.own z17_0) (jk.cons (pE.of_eq Z) (jk.cons (pE.of_eq Z) jk.nil)))) (by rw[bO,be,bH];rfl) s27 ?_;rintro u27 H27h ⟨rfl,rfl⟩
 refine⟨_,rfl,?_⟩
 refine cu (st':=⟨_,_,fun _=>none,upd (fun _=>none) 12 (some ⟨g12,54,(x27.map rRr),true⟩)⟩) (Gh.le (bL _ _) aE (aL aF)) ?_;refine jg 27 (q:=(.own 12 g12 (x27.map rRr).length)) Z (PLe.of2 (pE.own Z)) (ag 2 U Z (ac (cF 6 Z Z Z ?_)));exact bc U H Z
def fM(rec158:LChecker->LQuery->Option ((List LCol)×Int))(c:LChecker)(q:LQuery):Option ((List LCol)×Int):=
 af (lC q) fun x16=>
 cond (!x16)
  (some ([],3))
  (af (aN (σ:=List (List LCol)) (ρ:=((List LCol)×Int)) (fun(_:Nat) (x1:LQuery) (s1:List (List LCol))=>
   af (rec158 c x1) fun x28=>
   cond (x28.2 !=(0:Int))
    (some (.ret ([],x28.2)))
    (af (cJ 24 s1 ([x28.1]:List (List LCol))) fun(x37:List (List LCol))=>
    some (.next x37))) 0 q.inputs []) fun fl1=>fl1.thenR fun(s1:List (List LCol))=>
  af (ja c q s1) fun x43=>
  cond (x43.2 !=(0:Int))
   (some ([],x43.2))
   (cond (decide ((x43.1.length:Int)>(20:Int)))
    (some ([],2))
    (af (aN (σ:=Unit) (ρ:=((List LCol)×Int)) (fun(j2:Nat) (x2:LCol) (_:Unit)=>
     af (nK x43.1 0 (j2:Int)) fun(x61:List LCol)=>
     af (cp x61 (fun a0=>some (cG a0 x2))) fun x63=>
     cond x63
      (some (.ret ([],23)))
      (some (.next ()))) 0 x43.1 ()) fun fl2=>fl2.thenR fun(_:Unit)=>
    some (x43.1,0))))
theorem qk(rec158:LChecker->LQuery->Option ((List LCol)×Int))(hrec158:∀a0 a1 r,rec158 a0 a1=some r->aQ prog 158 [(.agg (eW a0)),(.agg (aY a1))] (.tup [(.list 93 (r.1.map ay)),(al r.2)]))(c:LChecker)(q:LQuery)(r:(List LCol)×Int)(H:fM rec158 c q=some r):
  aQ prog 158 [(.agg (eW c)),(.agg (aY q))] (.tup [(.list 93 (r.1.map ay)),(al r.2)]):=by
 unfold fM at H;refine PH.av func158 ntmps158 ?_;refine ab (aa (aJ ?_));refine aJ ?_;refine ag 2 U Z (ac (ab (ab (aa (ah U Z ?_)))))
 obtain⟨x16,h16,H⟩:=aq H
 have s16:=W_query_shape q _ h16;refine ak call206 (jb.r) s16 ?_;refine ah U Z (ac ?_);refine aH Z H (fun H=>?_) (fun H=>?_)
 ·refine am 2 U Z ?_;obtain rfl:=az H;refine ba U Z (ps:=[(.val (.slice none 0 0)),(al 3)]) ⟨_,_,rfl,rfl,_,_,rfl,rfl,rfl⟩ (PLe.of2 (pE.tup (jk.cons (pE.nil U Z) (jk.cons (pE.of_eq Z) jk.nil))))
 refine ap (am 1 U Z (ab (ab (aa (ag 2 U Z (aB U (zl _) ?_))))));refine ah U Z (ac (gQ U 6 37 (e:=61) Z Z ?_));refine eG (γ:=OwnRef) U 21 20 19 (fun s1 g1=>upd (upd (upd (fun _=>.any) 6 (.own 37 g1 (s1.map (ao 93 ay)).length)) 3 (.ptr (aY q))) 2 (.ptr (eW c))) nB (fun s1 g1=>upd (fun _=>none) 37 (some ⟨g1,61,(s1.map (ao 93 ay)),true⟩)) (⟨none,0⟩) H (fun fl1 Hp1 j1 s1 g1 hz1 hl1 x1 fb1 hx1 H hg1=>?_) (fun s1 g1 H=>?_)
 ·refine ab (aA (ab (aa (aU U (zn j1) (bn cN hx1) ?_))));refine ah U Z ?_;refine bf U fun b8=>?_
  refine au U ?_;refine ac (ab (aa (ah U Z (aD U ?_))))
  obtain⟨x28,h28,H⟩:=aq H
  have s28:=hrec158 c x1 _ h28;refine ak call158 (jb.r) s28 ?_;refine ag 5 U Z (ac (ab (am 2 U Z ?_)));refine aH Z H (fun H=>?_) (fun H=>?_)
  ·refine am 3 U Z ?_;obtain rfl:=az H;have e1:fl1= .ret _:=hg1;subst e1;obtain rfl:=aT Hp1;refine ba U Z (ps:=[(.val (.slice none 0 0)),(al x28.2)]) ⟨_,_,rfl,rfl,_,_,rfl,rfl,rfl⟩ (PLe.of2 (pE.tup (jk.cons (pE.nil U Z) (jk.cons (pE.of_eq Z) jk.nil))))
  refine ap (aa (ag 2 U Z (ci U (rows':=List.map (ao 93 ay) ([x28.1]:List (List LCol))) (gH.refl _) ?_)))
  obtain⟨x37,h37,H⟩:=aq H
  have k37:=bS h37;refine bX (rows2':=List.map (ao 93 ay) ([x28.1]:List (List LCol))) (rows':=List.map (ao 93 ay) x37) U Z Z Z Z Z Z Z Z Z Z Z Z Z (gH.refl _) (cD k37.1) (cC k37.2.1) (cE k37.2.2) fun g37=>?_
  refine ah U Z (ac (aM (bh 2 U Z ?_)));exact bm g37 H hl1 hg1
 refine ab (cF 6 Z Z Z (aa (ag 3 U Z ?_)))
 obtain⟨x43,h43,H⟩:=aq H
 have s43:=tq c q s1 _ h43;refine ak call207 (jb.r) s43 ?_;refine ag 5 U Z (ac (ab (am 2 U Z ?_)));refine aH Z H (fun H=>?_) (fun H=>?_)
 ·refine am 3 U Z ?_;obtain rfl:=az H;refine ba U Z (ps:=[(.val (.slice none 0 0)),(al x43.2)]) ⟨_,_,rfl,rfl,_,_,rfl,rfl,rfl⟩ (PLe.of2 (pE.tup (jk.cons (pE.nil U Z) (jk.cons (pE.of_eq Z) jk.nil))))
 refine ap (ab (ab (aa (ah U Z (aB U (zl _) ?_)))));refine ah U Z (ac ?_);refine aH Z H (fun H=>?_) (fun H=>?_)
 ·refine am 2 U Z ?_;obtain rfl:=az H;refine ba U Z (ps:=[(.val (.slice none 0 0)),(al 2)]) ⟨_,_,rfl,rfl,_,_,rfl,rfl,rfl⟩ (PLe.of2 (pE.tup (jk.cons (pE.nil U Z) (jk.cons (pE.of_eq Z) jk.nil))))
 refine ap (ab (ab (aa (ah U Z (aB U (zl _) ?_)))));refine ah U Z (ac ?_);refine eG U 54 53 52 (fun s2 g2=>upd (fun _=>.any) 11 (.list 93 (x43.1.map ay))) nB nO () H (fun fl2 Hp2 j2 s2 g2 hz2 hl2 x2 fb2 hx2 H hg2=>?_) (fun s2 g2 H=>?_)
 ·refine ab (aA (ab (aa (ah U Z ?_))));refine aU U (zn j2) (bn (fun _=>Z) hx2) ?_;refine ah U Z ?_;refine bf U fun b14=>?_
  refine ah U Z (au U ?_);refine ac (ab (aa (ag 2 U Z ?_)))
  obtain⟨x61,h61,H⟩:=aq H
  have k61:=nf h61;refine vF U Z Z Z Z Z (zl _) Z Z k61.1 (oI k61.2) Z (cu (Gh.freezeB 14 Z Z Z Z) (ah U Z ?_))
  obtain⟨x63,h63,H⟩:=aq H
  have s63:=kM x61 (fun a0=>some (cG a0 x2)) call209 (fun a0 r h=>(az h)▸pX a0 x2) _ h63;refine ak call208 (jb.r) s63 ?_;refine ac ?_;refine aH Z H (fun H=>?_) (fun H=>?_)
  ·refine am 2 U Z ?_;obtain rfl:=az H;have e2:fl2= .ret _:=hg2;subst e2;obtain rfl:=aT Hp2;refine ba U Z (ps:=[(.val (.slice none 0 0)),(al 23)]) ⟨_,_,rfl,rfl,_,_,rfl,rfl,rfl⟩ (PLe.of2 (pE.tup (jk.cons (pE.nil U Z) (jk.cons (pE.of_eq Z) jk.nil))))
  refine ap (aM (bh 2 U Z ?_));exact bm () H hl2 hg2
 refine am 3 U Z ?_;exact bc U H Z
def fK:Nat->LChecker->LQuery->Option ((List LCol)×Int)
 |0,_,_=>none
 |n+1,v0,v1=>fM (fun b0 b1=>fK n b0 b1) v0 v1
theorem qt  (n:Nat):(∀a0 a1 r,fK n a0 a1=some r->aQ prog 158 [(.agg (eW a0)),(.agg (aY a1))] (.tup [(.list 93 (r.1.map ay)),(al r.2)])):=by
 induction n with
 |zero=>exact(by intros;rename_i h;exact absurd (show(none:Option _)=some _ from h) (by simp))
 |succ n ih=>
  exact(fun v0 v1 r h=>qk (fun b0 b1=>fK n b0 b1) ih v0 v1  r h)
def fL(c:LChecker)(q:LQuery):Option ((List LCol)×Int):=ij fun n=>fK n c q
theorem mA(c:LChecker)(q:LQuery)(r:(List LCol)×Int)(H:fL c q=some r):
  aQ prog 158 [(.agg (eW c)),(.agg (aY q))] (.tup [(.list 93 (r.1.map ay)),(al r.2)]):=by
 obtain⟨n,h⟩:=jt H
 exact(qt  n) c q r h
def gF(rA:LRun)(q:LQuery)(cols:List LCol)(inA:Rz):Option (Rz):=
 af (du inA (fun a0 a1=>gI a0 a1 rA cols q)) fun x14=>
 af (fg (x14.length=inA.length) ()) fun(_:Unit)=>
 some x14
theorem vh(rA:LRun)(q:LQuery)(cols:List LCol)(inA:Rz)(r:Rz)(H:gF rA q cols inA=some r):
  aQ prog 169 [(.agg (eA rA)),(.agg (aY q)),(.list 93 (cols.map ay)),(.list 54 (inA.map rRr))] (.list 54 (r.map rRr)):=by
 unfold gF at H;refine PH.av func169 ntmps169 ?_;refine ab (aa (aJ ?_));refine aJ ?_;refine aJ ?_;refine ah U Z (ac (ab (aa (ah U Z ?_))));have s11:=qK (m:=11) inA;refine gX call160 (jb.r) s11 (fun g11=>?_);refine ah U Z (ac (ab (aa (ag 2 U Z ?_))))
 obtain⟨x14,h14,H⟩:=aq H
 have s14:=lp g11 inA (fun a0 a1=>gI a0 a1 rA cols q) call218 (fun a0 a1 r h=>uc a0 a1 rA cols q r h) _ h14
 obtain⟨_,q14_0,H⟩:=aq H
 have l14_0:=(dy q14_0).1;have z14_0:(List.map rRr inA).length=(List.map rRr x14).length:=by simpa using(l14_0).symm
 refine cq (g:=217) Z Z Z call217 [] [(11,0)] Z Z Z Z (jb.of2 (jk.cons (pE.own Z) (jk.cons (pE.of_eq Z) jk.nil))) (by rw[bO,be,bH];rfl) s14 ?_;rintro u14 H14h ⟨rfl,rfl⟩
 refine⟨_,rfl,?_⟩
 refine cu (st':=⟨_,_,fun _=>none,upd (fun _=>none) 11 (some ⟨g11,54,(x14.map rRr),true⟩)⟩) (Gh.le (bL _ _) aE (aL aF)) ?_;refine ac (am 2 U Z (cF 8 Z Z z14_0 ?_));exact bc U H Z
def lm(sA:LSchema)(inst:List LW)(changes:List LChange):Option ((List LW)×Int):=
 af (gg sA) fun x19=>
 cond (x19 !=(0:Int))
  (some ([],x19))
  (af (eH sA inst) fun x25=>
  cond (x25 !=(0:Int))
   (some ([],x25))
   (cond (decide ((changes.length:Int)>(24:Int)))
    (some ([],2))
    (af (jn inst) fun x33=>
    af (aN (σ:=List LW) (ρ:=((List LW)×Int)) (fun(_:Nat) (x1:LChange) (s1:List LW)=>
     af (iR sA x1) fun x42=>
     cond (x42 !=(0:Int))
      (some (.ret ([],x42)))
      (af (dS sA x1.table) fun x50=>
      af (aP sA.tables x50.1) fun(x56:LTable)=>
      cond (x1.kind==(1:Int))
       (af (aP s1 x50.1) fun(x66:LW)=>
       af (iS x56 x66.rows x1.row) fun x71=>
       af (aP s1 x50.1) fun(x72:LW)=>
       letP (s1.set x50.1.toNat (LW.mk x72.table x71)) fun(y6:List LW)=>
       af (aP y6 x50.1) fun(x76:LW)=>
       cond (decide ((x76.rows.length:Int)>(24:Int)))
        (some (.ret ([],2)))
        (some (.next y6)))
       (af (aP s1 x50.1) fun(x87:LW)=>
       af (iQ x56 x87.rows x1.key) fun x92=>
       af (aP s1 x50.1) fun(x95:LW)=>
       letP (s1.set x50.1.toNat (LW.mk x95.table x92.1)) fun(y7:List LW)=>
       cond (!x92.2)
        (some (.ret ([],9)))
        (some (.next y7))))) 0 changes x33) fun fl1=>fl1.thenR fun(s1:List LW)=>
    some (s1,0))))
theorem W_change_Apply(sA:LSchema)(inst:List LW)(changes:List LChange)(r:(List LW)×Int)(H:lm sA inst changes=some r):
  aQ prog 15 [(.agg (cy sA)),(.list 86 (inst.map bG)),(.list 56 (changes.map bV))] (.tup [(.list 86 (r.1.map bG)),(al r.2)]):=by
 unfold lm at H;refine PH.av func15 ntmps15 ?_;refine ab (aa (aJ ?_));refine ag 2 U Z (ac (ab (ab (aa (ah U Z ?_)))))
 obtain⟨x19,h19,H⟩:=aq H
 have s19:=pH sA _ h19;refine ak call37 (jb.r) s19 ?_;refine ah U Z (ac (am 2 U Z ?_));refine aH Z H (fun H=>?_) (fun H=>?_)
 ·refine am 3 U Z ?_;obtain rfl:=az H;refine ba U Z (ps:=[(.val (.slice none 0 0)),(al x19)]) ⟨_,_,rfl,rfl,_,_,rfl,rfl,rfl⟩ (PLe.of2 (pE.tup (jk.cons (pE.nil U Z) (jk.cons (pE.of_eq Z) jk.nil))))
 refine ap (ab (ab (aa (ag 2 U Z ?_))))
 obtain⟨x25,h25,H⟩:=aq H
 have s25:=kp sA inst _ h25;refine ak call38 (jb.r) s25 ?_;refine ah U Z (ac (am 2 U Z ?_));refine aH Z H (fun H=>?_) (fun H=>?_)
 ·refine am 3 U Z ?_;obtain rfl:=az H;refine ba U Z (ps:=[(.val (.slice none 0 0)),(al x25)]) ⟨_,_,rfl,rfl,_,_,rfl,rfl,rfl⟩ (PLe.of2 (pE.tup (jk.cons (pE.nil U Z) (jk.cons (pE.of_eq Z) jk.nil))))
 refine ap (ab (ab (aa (ah U Z (aB U (zl _) ?_)))));refine ah U Z (ac ?_);refine aH Z H (fun H=>?_) (fun H=>?_)
 ·refine am 2 U Z ?_;obtain rfl:=az H;refine ba U Z (ps:=[(.val (.slice none 0 0)),(al 2)]) ⟨_,_,rfl,rfl,_,_,rfl,rfl,rfl⟩ (PLe.of2 (pE.tup (jk.cons (pE.nil U Z) (jk.cons (pE.of_eq Z) jk.nil))))
 refine ap (ab (aa (ah U Z ?_)))
 obtain⟨x33,h33,H⟩:=aq H
 have s33:=vk (m:=33) inst _ h33;refine gX call29 (jb.r) s33 (fun g33=>?_);refine ah U Z (ac (ab (ab (aa (ah U Z (aB U (zl _) ?_))))));refine ah U Z (ac ?_);refine eG (γ:=OwnRef) U 36 35 34 (fun s1 g1=>upd (upd (fun _=>.any) 10 (.own 33 g1 (s1.map bG).length)) 3 (.ptr (cy sA))) nB (fun s1 g1=>upd (fun _=>none) 33 (some ⟨g1,86,(s1.map bG),true⟩)) g33 H (fun fl1 Hp1 j1 s1 g1 hz1 hl1 x1 fb1 hx1 H hg1=>?_) (fun s1 g1 H=>?_)
 ·refine ab (aA (ab (aa ?_)));refine aU U (zn j1) (bn (fun _=>Z) hx1) ?_;refine ah U Z ?_;refine bf U fun b12=>?_
  refine au U ?_;refine ac (ab (ab (aa (ah U Z (aD U ?_)))))
  obtain⟨x42,h42,H⟩:=aq H
  have s42:=uG sA x1 _ h42;refine ak call46 (jb.r) s42 ?_;refine ah U Z (ac (am 2 U Z ?_));refine aH Z H (fun H=>?_) (fun H=>?_)
  ·refine am 3 U Z ?_;obtain rfl:=az H;have e1:fl1= .ret _:=hg1;subst e1;obtain rfl:=aT Hp1;refine ba U Z (ps:=[(.val (.slice none 0 0)),(al x42)]) ⟨_,_,rfl,rfl,_,_,rfl,rfl,rfl⟩ (PLe.of2 (pE.tup (jk.cons (pE.nil U Z) (jk.cons (pE.of_eq Z) jk.nil))))
  refine ap (ab (aa (ag 2 U Z (aD U ?_))))
  obtain⟨x50,h50,H⟩:=aq H
  have s50:=jw sA x1.table _ h50;refine ak call28 (jb.r) s50 ?_;refine ag 5 U Z (ac (ab (aa (ag 3 U Z ?_))))
  obtain⟨x56,k56,H⟩:=bl H
  refine aU U k56.1 (aO (fun _=>Z) k56.2) ?_;refine ah U Z ?_;refine bf U fun b16=>?_
  refine au U ?_;refine ac (ab (ab (aa (ah U Z (aD U ?_)))));refine ah U Z (ac ?_);refine aH Z H (fun H=>?_) (fun H=>?_)
  ·refine ab ?_;refine gJ (tag:=33) Z (fun ho33=>?_);refine jM 12 ?_;refine jM 16 ?_;refine bd U mok ⟨false,true,[63,70]⟩ [0,1,2,3,4,5,6,7,8,9,10,11,12,13] Z (by decide+kernel) Z (aG 5 Z ?_)
   obtain⟨x66,k66,H⟩:=bl H
   refine cV U ⟨k66.1,(dp k66.2)⟩ (dl ho33 k66.2) ?_;refine bA Z ?_;refine fT U Z Z Z Z Z Z Z Z Z (aO (fun _=>Z) k66.2) Z Z ?_;refine aG 2 Z ?_
   obtain⟨x71,h71,H⟩:=aq H
   have s71:=uE x56 x66.rows x1.row _ h71;refine aW call47 (jb.r) s71 ?_
   obtain⟨x72,k72,H⟩:=bl H
   refine cV U ⟨k72.1,(dp k72.2)⟩ (dl ho33 k72.2) ?_;refine bA Z ?_
   obtain⟨y6,hy6,H⟩:=cK H
   refine iu U Z Z Z Z Z Z Z Z Z (by rw[zl];exact(zg.1 k72.2).1) (PLe.refl _ _) Z Z Z Z (by decide) (eF (fun _=>Z) k72.2 Z hy6) ?_;refine aZ (ab (ab (aa (ag 2 U Z ?_))))
   obtain⟨x76,k76,H⟩:=bl H
   refine ky (tag:=33) Z (fun ho33=>?_);refine jh U ⟨k76.1,(rM (eQ (f:=bG) hy6) k76.2)⟩ (dl ho33 k76.2) ?_;refine ah U Z ?_;refine mV U Z Z Z Z Z Z Z (aO (fun _=>Z) k76.2) Z Z ?_;refine aB U (zl _) ?_;refine ah U Z (ac ?_);refine aH Z H (fun H=>?_) (fun H=>?_)
   ·refine am 2 U Z ?_;obtain rfl:=az H;have e1:fl1= .ret _:=hg1;subst e1;obtain rfl:=aT Hp1;refine ba U Z (ps:=[(.val (.slice none 0 0)),(al 2)]) ⟨_,_,rfl,rfl,_,_,rfl,rfl,rfl⟩ (PLe.of2 (pE.tup (jk.cons (pE.nil U Z) (jk.cons (pE.of_eq Z) jk.nil))))
   refine ap (bq Z (bh 2 U Z ?_));exact bm g1 H hl1 hg1 (Gh.le (aw (aw (bD (PLe.q (fj (by omega))) (aw (bD (PLe.of2 (pE.of_eq (congrArg (PV.own 33 g1) (eQ (f:=bG) hy6)))) aS))))) aE (aL aF))
  refine ap (am 1 U Z (ab ?_));refine gJ (tag:=33) Z (fun ho33=>?_);refine jM 12 ?_;refine jM 16 ?_;refine bd U mok ⟨false,true,[84,91]⟩ [0,1,2,3,4,5,6,7,8,9,10,11,12,13,14,15,16,17] Z (by decide+kernel) Z (aG 5 Z ?_)
  obtain⟨x87,k87,H⟩:=bl H
  refine cV U ⟨k87.1,(dp k87.2)⟩ (dl ho33 k87.2) ?_;refine bA Z ?_;refine fT U Z Z Z Z Z Z Z Z Z (aO (fun _=>Z) k87.2) Z Z ?_;refine aG 2 Z ?_
  obtain⟨x92,h92,H⟩:=aq H
  have s92:=uJ x56 x87.rows x1.key _ h92;refine aW call48 (jb.r) s92 ?_;refine aG 3 Z ?_
  obtain⟨x95,k95,H⟩:=bl H
  refine cV U ⟨k95.1,(dp k95.2)⟩ (dl ho33 k95.2) ?_;refine bA Z ?_
  obtain⟨y7,hy7,H⟩:=cK H
  refine iu U Z Z Z Z Z Z Z Z Z (by rw[zl];exact(zg.1 k95.2).1) (PLe.refl _ _) Z Z Z Z (by decide) (eF (fun _=>Z) k95.2 Z hy7) ?_;refine bA Z (aZ (am 2 U Z ?_));refine aH Z H (fun H=>?_) (fun H=>?_)
  ·refine am 2 U Z ?_;obtain rfl:=az H;have e1:fl1= .ret _:=hg1;subst e1;obtain rfl:=aT Hp1;refine ba U Z (ps:=[(.val (.slice none 0 0)),(al 9)]) ⟨_,_,rfl,rfl,_,_,rfl,rfl,rfl⟩ (PLe.of2 (pE.tup (jk.cons (pE.nil U Z) (jk.cons (pE.of_eq Z) jk.nil))))
  refine ap (aM (bh 2 U Z ?_));exact bm g1 H hl1 hg1 (Gh.le (aw (aw (bD (PLe.q (fj (by omega))) (aw (bD (PLe.of2 (pE.of_eq (congrArg (PV.own 33 g1) (eQ (f:=bG) hy7)))) aS))))) aE (aL aF))
 refine am 3 U Z (cF 6 Z Z Z ?_);exact bc U H Z
def hZ(sA:LSchema)(vars:List LCol)(q:LQuery):Option ((List LCol)×Int):=
 af (
  af (kB q) fun x12=>
  cond (decide ((x12.length:Int)>(24:Int)))
   (some true)
   (af (lE q) fun x17=>
   cond (decide (x17>(12:Int)))
    (some true)
    (af (gV q) fun x22=>
    some (decide (x22>(20000:Int)))))) fun(t1:Bool)=>
 cond t1
  (some ([],2))
  (af (fc q) fun x27=>
  cond (x27.2 !=(0:Int))
   (some ([],x27.2))
   (af (fL (LChecker.mk sA vars) q) fun x38=>
   some (x38.1,x38.2)))
theorem oi(sA:LSchema)(vars:List LCol)(q:LQuery)(r:(List LCol)×Int)(H:hZ sA vars q=some r):
  aQ prog 103 [(.agg (cy sA)),(.list 93 (vars.map ay)),(.agg (aY q))] (.tup [(.list 93 (r.1.map ay)),(al r.2)]):=by
 unfold hZ at H;refine PH.av func103 ntmps103 ?_;refine ab (aa (aJ ?_));refine aJ ?_;refine ag 2 U Z (ac (ab (ab ?_)));refine fu (γ:=Unit) (fun t1 g1=>⟨41,upd (upd (upd (upd (fun _=>.any) 24 (aK t1)) 5 (.ptr (aY q))) 3 (.ptr (cy sA))) 1 (.list 93 (vars.map ay)),fun _=>none,fun _=>none⟩) H (fun _ H=>?_) (fun t1 g1 H=>?_)
 ·refine aa (ah U Z ?_)
  obtain⟨x12,h12,H⟩:=aq H
  have s12:=sW (m:=12) q _ h12;refine ak call93 (jb.r) (PFun.ik s12) ?_;refine aB U (zl _) ?_;refine ag 2 U Z ?_;refine bj Z Z Z H (fun H=>?_) (fun H=>?_)
  ·refine ag 9 U Z (ac ?_);refine aV _ () (az H) Gh.d
  refine ah U Z ?_
  obtain⟨x17,h17,H⟩:=aq H
  have s17:=W_query_depth q _ h17;refine ak call156 (jb.r) s17 ?_;refine ag 3 U Z ?_;refine bj Z Z Z H (fun H=>?_) (fun H=>?_)
  ·refine ag 4 U Z (ac ?_);refine aV _ () (az H) Gh.d
  refine ah U Z ?_
  obtain⟨x22,h22,H⟩:=aq H
  have s22:=px q _ h22;refine ak call157 (jb.r) s22 ?_;refine ag 2 U Z (ac ?_);refine aV _ () (az H) Gh.d
 refine aH Z H (fun H=>?_) (fun H=>?_)
 ·refine am 2 U Z ?_;obtain rfl:=az H;refine ba U Z (ps:=[(.val (.slice none 0 0)),(al 2)]) ⟨_,_,rfl,rfl,_,_,rfl,rfl,rfl⟩ (PLe.of2 (pE.tup (jk.cons (pE.nil U Z) (jk.cons (pE.of_eq Z) jk.nil))))
 refine ap (ab (ab (aa (ah U Z ?_))))
 obtain⟨x27,h27,H⟩:=aq H
 have s27:=kN q _ h27;refine ak call91 (jb.r) s27 ?_;refine ag 5 U Z (ac (am 2 U Z ?_));refine aH Z H (fun H=>?_) (fun H=>?_)
 ·refine am 3 U Z ?_;obtain rfl:=az H;refine ba U Z (ps:=[(.val (.slice none 0 0)),(al x27.2)]) ⟨_,_,rfl,rfl,_,_,rfl,rfl,rfl⟩ (PLe.of2 (pE.tup (jk.cons (pE.nil U Z) (jk.cons (pE.of_eq Z) jk.nil))))
 refine ap (ab (aa (ag 3 U Z ?_)));refine bf U fun b10=>?_
 refine au U ?_;refine ac (ab (aa (aD U ?_)));refine ah U Z ?_
 obtain⟨x38,h38,H⟩:=aq H
 have s38:=mA (LChecker.mk sA vars) q _ h38;refine ak call158 (jb.r) s38 ?_;refine ag 4 U Z (ac ?_);exact bc U H Z
def im(rA:LRun)(q:LQuery):Option ((List LCol)):=
 af (fL (LChecker.mk rA.s rA.vars) q) fun x14=>
 some x14.1
theorem mZ(rA:LRun)(q:LQuery)(r:(List LCol))(H:im rA q=some r):
  aQ prog 162 [(.agg (eA rA)),(.agg (aY q))] (.list 93 (r.map ay)):=by
 unfold im at H;refine PH.av func162 ntmps162 ?_;refine ab (aa (aJ ?_));refine aJ ?_;refine ah U Z (ac (ab (aa (ag 6 U Z ?_))))
 obtain⟨x14,h14,H⟩:=aq H
 have s14:=mA (LChecker.mk rA.s rA.vars) q _ h14;refine ak call158 (jb.r) s14 ?_;refine ag 5 U Z (ac (am 2 U Z ?_));exact bc U H Z
def gv(rA:LR)(c:LChange):Option (Int×LR):=
 cond ((rA.changes.length:Int)==(24:Int))
  (some (2,rA))
  (af (lm rA.s rA.st ([c]:List LChange)) fun x24=>
  cond (x24.2 !=(0:Int))
   (some (x24.2,rA))
   (af (cJ 72 rA.changes ([c]:List LChange)) fun(x39:List LChange)=>
   some (0,(LR.mk rA.s x24.1 rA.args rA.vars rA.vals x39 rA.results rA.left rA.stopped))))
theorem nr(b_rA:Nat)(g_rA_7:OwnRef)(g_rA_8:OwnRef)(rA:LR)(c:LChange)(r:Int×LR)(H:gv rA c=some r):
  PH prog 128 [(.box 1500 b_rA 0),(.agg (bV c))] ⟨(bR b_rA rA g_rA_7 g_rA_8),(oR rA g_rA_7 g_rA_8)⟩ (fun u H=>∃gz0_7,∃gz0_8,u=(al r.1)/\H=⟨(bR b_rA r.2 gz0_7 gz0_8),(oR r.2 gz0_7 gz0_8)⟩):=by
 unfold gv at H;refine PH.av func128 ntmps128 ?_;refine ab (aa (aJ ?_));refine ah U Z (ac (ab (ab (aa (ag 3 U Z (aD U ?_))))));refine eD U (zl _) ?_;refine ah U Z (ac ?_);refine aH Z H (fun H=>?_) (fun H=>?_)
 ·refine am 1 U Z ?_;obtain rfl:=az H;refine cx (st':=⟨44,upd (fun _=>.any) 4 (al 2),(bR b_rA rA g_rA_7 g_rA_8),(oR rA g_rA_7 g_rA_8)⟩) (Gh.le (aw aS) (aR Z (jb.r) aE) (aL (aL aF))) ?_;refine cT U Z (ps:=[(al 2)]) ⟨_,_,rfl,rfl,rfl⟩ (PLe.q Z) ⟨_,_,rfl,rfl⟩
 refine ap (ab (bd U mok ⟨true,false,[22]⟩ [0,1,2,3,4,5,6,7,8,9,10,11,12,13,14,15] Z (by decide+kernel) Z (aG 3 Z (bi ?_))));refine aG 3 Z (bi ?_);refine aG 2 Z ?_
 obtain⟨x24,h24,H⟩:=aq H
 have s24:=W_change_Apply rA.s rA.st ([c]:List LChange) _ h24;refine aW call15 (jb.r) s24 ?_;refine aG 5 Z (aZ (ab (am 2 U Z ?_)));refine aH Z H (fun H=>?_) (fun H=>?_)
 ·refine am 2 U Z ?_;obtain rfl:=az H;refine cx (st':=⟨44,upd (fun _=>.any) 4 (al x24.2),(bR b_rA rA g_rA_7 g_rA_8),(oR rA g_rA_7 g_rA_8)⟩) (Gh.le (aw aS) (aR Z (jb.r) aE) (aL (aL aF))) ?_;refine cT U Z (ps:=[(al x24.2)]) ⟨_,_,rfl,rfl,rfl⟩ (PLe.q Z) ⟨_,_,rfl,rfl⟩
 refine ap (ab (bd U mok ⟨true,false,[37]⟩ [0,1,2,3,4,5,6,7,8,9,10,11,12,13,14,15] Z (by decide+kernel) Z (aG 6 Z (bi ?_))));refine aG 2 Z ?_
 obtain⟨x39,h39,H⟩:=aq H
 have k39:=bS h39;refine gk (rows2':=List.map bV ([c]:List LChange)) (rows':=List.map bV x39) U Z Z Z Z Z Z Z Z Z Z Z Z Z Z (gH.refl _) (cD k39.1) (cC k39.2.1) (cE k39.2.2) fun g39=>?_
 refine aG 2 Z (gw Z Z Z Z Z Z Z Z Z Z Z Z (aG 2 Z (gw Z Z Z Z Z Z Z Z Z Z Z Z (aZ (am 1 U Z ?_)))));obtain rfl:=az H;refine cx (st':=⟨44,upd (fun _=>.any) 4 (al 0),upd (fun _=>none) 1500 (some ⟨b_rA,[(.list 95 ((((LR.mk rA.s x24.1 rA.args rA.vars rA.vals x39 rA.results rA.left rA.stopped).s).tables).map bv)),(.list 145 ((((LR.mk rA.s x24.1 rA.args rA.vars rA.vals x39 rA.results rA.left rA.stopped).s).foreignKeys).map gM)),(.list 151 ((((LR.mk rA.s x24.1 rA.args rA.vars rA.vals x39 rA.results rA.left rA.stopped).s).constraints).map ix)),(.list 86 (((LR.mk rA.s x24.1 rA.args rA.vars rA.vals x39 rA.results rA.left rA.stopped).st).map bG)),(.list 69 (((LR.mk rA.s x24.1 rA.args rA.vars rA.vals x39 rA.results rA.left rA.stopped).args).map ae)),(.list 93 (((LR.mk rA.s x24.1 rA.args rA.vars rA.vals x39 rA.results rA.left rA.stopped).vars).map ay)),(.list 69 (((LR.mk rA.s x24.1 rA.args rA.vars rA.vals x39 rA.results rA.left rA.stopped).vals).map ae)),(.own 1607 g39 (x39.map bV).length),(.own 1608 g_rA_8 (rA.results.map bU).length),(al ((LR.mk rA.s x24.1 rA.args rA.vars rA.vals x39 rA.results rA.left rA.stopped).left)),(aK ((LR.mk rA.s x24.1 rA.args rA.vars rA.vals x39 rA.results rA.left rA.stopped).stopped))]⟩),upd (upd (fun _=>none) 1608 (some ⟨g_rA_8,64,(rA.results.map bU),true⟩)) 1607 (some ⟨g39,56,(x39.map bV),true⟩)⟩) (Gh.le (aw aS) (aR Z (jb.r) aE) (aL (aL aF))) ?_;refine cT U Z (ps:=[(al 0)]) ⟨_,_,rfl,rfl,rfl⟩ (PLe.q Z) ⟨_,_,rfl,rfl⟩
def dr(_rec42:LC->(List LCol)->(List LS)->Option ((List LCol)×Int))(rec82:LC->(List LCol)->LS->Option ((List LCol)×Int))(c:LC)(vars:List LCol)(l:List LS):Option ((List LCol)×Int):=
 af (aN (σ:=List LCol) (ρ:=((List LCol)×Int)) (fun(_:Nat) (x1:LS) (s1:List LCol)=>
  af (gS x1) fun x18=>
  cond (!x18)
   (some (.ret ([],3)))
   (af (rec82 c s1 x1) fun x24=>
   cond (x24.2 !=(0:Int))
    (some (.ret ([],x24.2)))
    (some (.next x24.1)))) 0 l vars) fun fl1=>fl1.thenR fun(s1:List LCol)=>
 some (s1,0)
theorem qd(rec42:LC->(List LCol)->(List LS)->Option ((List LCol)×Int))(rec82:LC->(List LCol)->LS->Option ((List LCol)×Int))(_hrec42:∀a0 a1 a2 r,rec42 a0 a1 a2=some r->aQ prog 42 [(.agg (bt a0)),(.list 93 (a1.map ay)),(.list 40 (a2.map ax))] (.tup [(.list 93 (r.1.map ay)),(al r.2)]))(hrec82:∀a0 a1 a2 r,rec82 a0 a1 a2=some r->aQ prog 82 [(.agg (bt a0)),(.list 93 (a1.map ay)),(.agg (aC a2))] (.tup [(.list 93 (r.1.map ay)),(al r.2)]))(c:LC)(vars:List LCol)(l:List LS)(r:(List LCol)×Int)(H:dr rec42 rec82 c vars l=some r):
  aQ prog 42 [(.agg (bt c)),(.list 93 (vars.map ay)),(.list 40 (l.map ax))] (.tup [(.list 93 (r.1.map ay)),(al r.2)]):=by
 unfold dr at H;refine PH.av func42 ntmps42 ?_;refine ab (aa (aJ ?_));refine ag 2 U Z (ac (ab (ab (aa (ah U Z (aB U (zl _) ?_))))));refine ah U Z (ac ?_);refine eG U 13 12 11 (fun s1 g1=>upd (upd (fun _=>.any) 3 (.ptr (bt c))) 1 (.list 93 (s1.map ay))) nB nO () H (fun fl1 Hp1 j1 s1 g1 hz1 hl1 x1 fb1 hx1 H hg1=>?_) (fun s1 g1 H=>?_)
 ·refine ab (aA (ab (aa (aU U (zn j1) (bn dQ hx1) ?_))));refine ah U Z ?_;refine bf U fun b9=>?_
  refine au U ?_;refine ac (ab (ab (aa (aD U ?_))))
  obtain⟨x18,h18,H⟩:=aq H
  have s18:=uL x1 _ h18;refine ak call81 (jb.r) s18 ?_;refine ah U Z (ac ?_);refine aH Z H (fun H=>?_) (fun H=>?_)
  ·refine am 2 U Z ?_;obtain rfl:=az H;have e1:fl1= .ret _:=hg1;subst e1;obtain rfl:=aT Hp1;refine ba U Z (ps:=[(.val (.slice none 0 0)),(al 3)]) ⟨_,_,rfl,rfl,_,_,rfl,rfl,rfl⟩ (PLe.of2 (pE.tup (jk.cons (pE.nil U Z) (jk.cons (pE.of_eq Z) jk.nil))))
  refine ap (am 1 U Z (ab (aa (ag 2 U Z (aD U ?_)))))
  obtain⟨x24,h24,H⟩:=aq H
  have s24:=hrec82 c s1 x1 _ h24;refine ak call82 (jb.r) s24 ?_;refine ag 5 U Z (ac (am 2 U Z ?_));refine aH Z H (fun H=>?_) (fun H=>?_)
  ·refine am 3 U Z ?_;obtain rfl:=az H;have e1:fl1= .ret _:=hg1;subst e1;obtain rfl:=aT Hp1;refine ba U Z (ps:=[(.val (.slice none 0 0)),(al x24.2)]) ⟨_,_,rfl,rfl,_,_,rfl,rfl,rfl⟩ (PLe.of2 (pE.tup (jk.cons (pE.nil U Z) (jk.cons (pE.of_eq Z) jk.nil))))
  refine ap (aM (bh 2 U Z ?_));exact bm () H hl1 hg1
 refine am 3 U Z ?_;exact bc U H Z
def cz(rec42:LC->(List LCol)->(List LS)->Option ((List LCol)×Int))(_rec82:LC->(List LCol)->LS->Option ((List LCol)×Int))(c:LC)(vars:List LCol)(sA:LS):Option ((List LCol)×Int):=
 cond (sA.kind==(1:Int))
  (af (aP sA.exprs 0) fun(x31:LExpr)=>
  af (ed c ([]:List LCol) vars x31) fun x33=>
  letP (ep sA.name) fun x40=>
  cond (!x40)
   (some ([],3))
   (cond (x33.2.2 !=(0:Int))
    (some ([],x33.2.2))
    (cond (x33.1==(0:Int))
     (some ([],7))
     (af (jA vars (LCol.mk sA.name x33.1 x33.2.1)) fun x55=>
     some (x55,0)))))
  (cond (sA.kind==(2:Int))
   (af (aP sA.exprs 0) fun(x62:LExpr)=>
   af (ek c ([]:List LCol) vars x62) fun x64=>
   cond (x64 !=(0:Int))
    (some ([],x64))
    (af (rec42 c vars sA.body) fun x73=>
    cond (x73.2 !=(0:Int))
     (some ([],x73.2))
     (af (rec42 c vars sA.elseF) fun x84=>
     some (vars,x84.2))))
   (letP (
    cond (sA.kind==(3:Int))
     ((sA.kind==(3:Int)))
     ((sA.kind==(7:Int)))) fun(t1:Bool)=>
   cond t1
    (af (aP sA.query 0) fun(x98:LQuery)=>
    af (hZ c.s vars x98) fun x100=>
    cond (x100.2 !=(0:Int))
     (some ([],x100.2))
     (af (aP sA.query 0) fun(x109:LQuery)=>
     af (fe c x109) fun x111=>
     cond (x111 !=(0:Int))
      (some ([],x111))
      (af (aN (σ:=List LCol) (ρ:=Empty) (fun(_:Nat) (x2:LCol) (s2:List LCol)=>
       af (jA s2 x2) fun x124=>
       some (.next x124)) 0 x100.1 vars) fun fl2=>fl2.thenP fun(s2:List LCol)=>
      af (rec42 c s2 sA.body) fun x131=>
      some (vars,x131.2))))
    (letP (
     cond (sA.kind==(4:Int))
      ((sA.kind==(4:Int)))
      (cond (sA.kind==(5:Int))
       ((sA.kind==(5:Int)))
       ((sA.kind==(6:Int))))) fun(t3:Bool)=>
    cond t3
     (af (gp c vars sA) fun x144=>
     some (vars,x144))
     (some (vars,0)))))
theorem pM(rec42:LC->(List LCol)->(List LS)->Option ((List LCol)×Int))(rec82:LC->(List LCol)->LS->Option ((List LCol)×Int))(hrec42:∀a0 a1 a2 r,rec42 a0 a1 a2=some r->aQ prog 42 [(.agg (bt a0)),(.list 93 (a1.map ay)),(.list 40 (a2.map ax))] (.tup [(.list 93 (r.1.map ay)),(al r.2)]))(_hrec82:∀a0 a1 a2 r,rec82 a0 a1 a2=some r->aQ prog 82 [(.agg (bt a0)),(.list 93 (a1.map ay)),(.agg (aC a2))] (.tup [(.list 93 (r.1.map ay)),(al r.2)]))(c:LC)(vars:List LCol)(sA:LS)(r:(List LCol)×Int)(H:cz rec42 rec82 c vars sA=some r):
  aQ prog 82 [(.agg (bt c)),(.list 93 (vars.map ay)),(.agg (aC sA))] (.tup [(.list 93 (r.1.map ay)),(al r.2)]):=by
 unfold cz at H;refine PH.av func82 ntmps82 ?_;refine ab (aa (aJ ?_));refine aJ ?_;refine ag 2 U Z (ac (ab (am 2 U Z (aA (am 2 U Z ?_)))));refine aH Z H (fun H=>?_) (fun H=>?_)
 ·refine ab (bd U mok ⟨false,false,[]⟩ [0,1,2,3,4,5,6,7,8,9,10,11,12,13] Z (by decide+kernel) Z (aG 4 Z ?_))
  obtain⟨x31,k31,H⟩:=bl H
  refine bs k31.1 (aO db k31.2) ?_;refine bA Z ?_
  obtain⟨x33,h33,H⟩:=aq H
  have s33:=jI c ([]:List LCol) vars x31 _ h33;refine aW call116 (jb.of2 (jk.cons (pE.of_eq Z) (jk.cons (pE.nil U Z) (jk.cons (pE.of_eq Z) (jk.cons (pE.of_eq Z) jk.nil))))) s33 ?_;refine aG 7 Z (aZ (ab (aA (ab (aa (ag 2 U Z ?_))))))
  obtain⟨x40,h40,H⟩:=cK H
  have s40:=lT sA.name;rw[h40]at s40;refine ak call117 (jb.r) s40 ?_;refine ag 2 U Z (ac ?_);refine aH Z H (fun H=>?_) (fun H=>?_)
  ·refine am 2 U Z ?_;obtain rfl:=az H;refine ba U Z (ps:=[(.val (.slice none 0 0)),(al 3)]) ⟨_,_,rfl,rfl,_,_,rfl,rfl,rfl⟩ (PLe.of2 (pE.tup (jk.cons (pE.nil U Z) (jk.cons (pE.of_eq Z) jk.nil))))
  refine am 3 U Z ?_;refine aH Z H (fun H=>?_) (fun H=>?_)
  ·refine am 3 U Z ?_;obtain rfl:=az H;refine ba U Z (ps:=[(.val (.slice none 0 0)),(al x33.2.2)]) ⟨_,_,rfl,rfl,_,_,rfl,rfl,rfl⟩ (PLe.of2 (pE.tup (jk.cons (pE.nil U Z) (jk.cons (pE.of_eq Z) jk.nil))))
  refine am 3 U Z ?_;refine aH Z H (fun H=>?_) (fun H=>?_)
  ·refine am 2 U Z ?_;obtain rfl:=az H;refine ba U Z (ps:=[(.val (.slice none 0 0)),(al 7)]) ⟨_,_,rfl,rfl,_,_,rfl,rfl,rfl⟩ (PLe.of2 (pE.tup (jk.cons (pE.nil U Z) (jk.cons (pE.of_eq Z) jk.nil))))
  refine ap (aM (ab (aa (ag 6 U Z ?_))))
  obtain⟨x55,h55,H⟩:=aq H
  have s55:=qZ vars (LCol.mk sA.name x33.1 x33.2.1) _ h55;refine ak call118 (jb.r) s55 ?_;refine ag 2 U Z (ac ?_);exact bc U H Z
 refine am 2 U Z ?_;refine aH Z H (fun H=>?_) (fun H=>?_)
 ·refine ab (ab (bd U mok ⟨false,false,[]⟩ [0,1,2,3,4,5,6,7] Z (by decide+kernel) Z (aG 4 Z ?_)))
  obtain⟨x62,k62,H⟩:=bl H
  refine bs k62.1 (aO db k62.2) ?_;refine bA Z ?_
  obtain⟨x64,h64,H⟩:=aq H
  have s64:=kP c ([]:List LCol) vars x62 _ h64;refine aW call119 (jb.of2 (jk.cons (pE.of_eq Z) (jk.cons (pE.nil U Z) (jk.cons (pE.of_eq Z) (jk.cons (pE.of_eq Z) jk.nil))))) s64 ?_;refine bA Z (aZ (am 2 U Z ?_));refine aH Z H (fun H=>?_) (fun H=>?_)
  ·refine am 3 U Z ?_;obtain rfl:=az H;refine ba U Z (ps:=[(.val (.slice none 0 0)),(al x64)]) ⟨_,_,rfl,rfl,_,_,rfl,rfl,rfl⟩ (PLe.of2 (pE.tup (jk.cons (pE.nil U Z) (jk.cons (pE.of_eq Z) jk.nil))))
  refine ap (ab (ab (aa (ag 4 U Z ?_))))
  obtain⟨x73,h73,H⟩:=aq H
  have s73:=hrec42 c vars sA.body _ h73;refine ak call42 (jb.r) s73 ?_;refine ag 5 U Z (ac (am 2 U Z ?_));refine aH Z H (fun H=>?_) (fun H=>?_)
  ·refine am 3 U Z ?_;obtain rfl:=az H;refine ba U Z (ps:=[(.val (.slice none 0 0)),(al x73.2)]) ⟨_,_,rfl,rfl,_,_,rfl,rfl,rfl⟩ (PLe.of2 (pE.tup (jk.cons (pE.nil U Z) (jk.cons (pE.of_eq Z) jk.nil))))
  refine ap (ab (aa (ag 4 U Z ?_)))
  obtain⟨x84,h84,H⟩:=aq H
  have s84:=hrec42 c vars sA.elseF _ h84;refine ak call42 (jb.r) s84 ?_;refine ag 5 U Z (ac (am 4 U Z ?_));exact bc U H Z
 refine ab (am 2 U Z ?_);refine fA (γ:=Unit) (fun t1 g1=>⟨146,upd (upd (upd (upd (upd (fun _=>.any) 89 (aK t1)) 23 (al sA.kind)) 5 (.ptr (aC sA))) 3 (.ptr (bt c))) 1 (.list 93 (vars.map ay)),fun _=>none,fun _=>none⟩) H (fun _ H=>?_) (fun t1 g1 H=>?_)
 ·refine aH Z H (fun H=>?_) (fun H=>?_)
  ·refine ap ?_;refine aV _ () H Gh.d
  refine bh 2 U Z ?_;refine aV _ () H Gh.d
 refine aH Z H (fun H=>?_) (fun H=>?_)
 ·refine ab (bd U mok ⟨false,false,[]⟩ [0,1,2,3,4,5,6,7,8,9,10,11,12] Z (by decide+kernel) Z (aG 5 Z ?_))
  obtain⟨x98,k98,H⟩:=bl H
  refine bs k98.1 (aO cN k98.2) ?_;refine bA Z ?_
  obtain⟨x100,h100,H⟩:=aq H
  have s100:=oi c.s vars x98 _ h100;refine aW call103 (jb.r) s100 ?_;refine aG 5 Z (aZ (ab (am 2 U Z ?_)));refine aH Z H (fun H=>?_) (fun H=>?_)
  ·refine am 3 U Z ?_;obtain rfl:=az H;refine ba U Z (ps:=[(.val (.slice none 0 0)),(al x100.2)]) ⟨_,_,rfl,rfl,_,_,rfl,rfl,rfl⟩ (PLe.of2 (pE.tup (jk.cons (pE.nil U Z) (jk.cons (pE.of_eq Z) jk.nil))))
  refine ap (ab (ab (bd U mok ⟨false,false,[]⟩ [0,1,2,3,4,5,6] Z (by decide+kernel) Z (aG 3 Z ?_))))
  obtain⟨x109,k109,H⟩:=bl H
  refine bs k109.1 (aO cN k109.2) ?_;refine bA Z ?_
  obtain⟨x111,h111,H⟩:=aq H
  have s111:=lV c x109 _ h111;refine aW call120 (jb.r) s111 ?_;refine bA Z (aZ (am 2 U Z ?_));refine aH Z H (fun H=>?_) (fun H=>?_)
  ·refine am 3 U Z ?_;obtain rfl:=az H;refine ba U Z (ps:=[(.val (.slice none 0 0)),(al x111)]) ⟨_,_,rfl,rfl,_,_,rfl,rfl,rfl⟩ (PLe.of2 (pE.tup (jk.cons (pE.nil U Z) (jk.cons (pE.of_eq Z) jk.nil))))
  refine ap (am 2 U Z (ab (ab (aa (ah U Z (aB U (zl _) ?_))))));refine ah U Z (ac ?_);refine fW U 118 117 116 (fun s2 g2=>upd (upd (upd (upd (fun _=>.any) 19 (.list 93 (s2.map ay))) 5 (.ptr (aC sA))) 3 (.ptr (bt c))) 1 (.list 93 (vars.map ay))) nB nO () H (fun fl2 Hp2 j2 s2 g2 hz2 hl2 x2 fb2 hx2 H hg2=>?_) (fun s2 g2 H=>?_)
  ·refine ab (aA (ab (aa ?_)));refine aU U (zn j2) (bn (fun _=>Z) hx2) ?_;refine ah U Z ?_;refine bf U fun b21=>?_
   refine au U ?_;refine ac (aa (ah U Z (aD U ?_)))
   obtain⟨x124,h124,H⟩:=aq H
   have s124:=qZ s2 x2 _ h124;refine ak call118 (jb.r) s124 ?_;refine ah U Z (ac (aM (bh 2 U Z ?_)));exact bm () H hl2 hg2
  refine ab (aa (ag 4 U Z ?_))
  obtain⟨x131,h131,H⟩:=aq H
  have s131:=hrec42 c s2 sA.body _ h131;refine ak call42 (jb.r) s131 ?_;refine ag 4 U Z (ac (am 4 U Z ?_));exact bc U H Z
 refine ab (am 2 U Z ?_);refine fA (γ:=Unit) (fun t3 g3=>⟨146,upd (upd (upd (upd (fun _=>.any) 136 (aK t3)) 5 (.ptr (aC sA))) 3 (.ptr (bt c))) 1 (.list 93 (vars.map ay)),fun _=>none,fun _=>none⟩) H (fun _ H=>?_) (fun t3 g3 H=>?_)
 ·refine aH Z H (fun H=>?_) (fun H=>?_)
  ·refine ap ?_;refine aV _ () H Gh.d
  refine am 2 U Z ?_;refine aH Z H (fun H=>?_) (fun H=>?_)
  ·refine ap ?_;refine aV _ () H Gh.d
  refine bh 2 U Z ?_;refine aV _ () H Gh.d
 refine aH Z H (fun H=>?_) (fun H=>?_)
 ·refine ab (aa (ag 4 U Z ?_))
  obtain⟨x144,h144,H⟩:=aq H
  have s144:=pI c vars sA _ h144;refine ak call121 (jb.r) s144 ?_;refine ag 2 U Z (ac ?_);exact bc U H Z
 refine ap (aM (am 3 U Z ?_));exact bc U H Z
mutual
def ck:Nat->LC->(List LCol)->(List LS)->Option ((List LCol)×Int)
 |0,_,_,_=>none
 |n+1,v0,v1,v2=>dr (fun b0 b1 b2=>ck n b0 b1 b2) (fun b0 b1 b2=>cB n b0 b1 b2) v0 v1 v2
def cB:Nat->LC->(List LCol)->LS->Option ((List LCol)×Int)
 |0,_,_,_=>none
 |n+1,v0,v1,v2=>cz (fun b0 b1 b2=>ck n b0 b1 b2) (fun b0 b1 b2=>cB n b0 b1 b2) v0 v1 v2
end
theorem pK  (n:Nat):(∀a0 a1 a2 r,ck n a0 a1 a2=some r->aQ prog 42 [(.agg (bt a0)),(.list 93 (a1.map ay)),(.list 40 (a2.map ax))] (.tup [(.list 93 (r.1.map ay)),(al r.2)]))/\(∀a0 a1 a2 r,cB n a0 a1 a2=some r->aQ prog 82 [(.agg (bt a0)),(.list 93 (a1.map ay)),(.agg (aC a2))] (.tup [(.list 93 (r.1.map ay)),(al r.2)])):=by
 induction n with
 |zero=>exact⟨(by intros;rename_i h;exact absurd (show(none:Option _)=some _ from h) (by simp)),(by intros;rename_i h;exact absurd (show(none:Option _)=some _ from h) (by simp))⟩
 |succ n ih=>
  exact⟨(fun v0 v1 v2 r h=>qd (fun b0 b1 b2=>ck n b0 b1 b2) (fun b0 b1 b2=>cB n b0 b1 b2) ih.1 ih.2 v0 v1 v2  r h),(fun v0 v1 v2 r h=>pM (fun b0 b1 b2=>ck n b0 b1 b2) (fun b0 b1 b2=>cB n b0 b1 b2) ih.1 ih.2 v0 v1 v2  r h)⟩
def bw(c:LC)(vars:List LCol)(l:List LS):Option ((List LCol)×Int):=ij fun n=>ck n c vars l
theorem qp(c:LC)(vars:List LCol)(l:List LS)(r:(List LCol)×Int)(H:bw c vars l=some r):
  aQ prog 42 [(.agg (bt c)),(.list 93 (vars.map ay)),(.list 40 (l.map ax))] (.tup [(.list 93 (r.1.map ay)),(al r.2)]):=by
 obtain⟨n,h⟩:=jt H
 exact(pK  n).1 c vars l r h
def bY(c:LC)(vars:List LCol)(sA:LS):Option ((List LCol)×Int):=ij fun n=>cB n c vars sA
def lr(rec104:LRun->LQuery->Option (Rz))(rec159:LRun->LQuery->Option (Rz))(rA:LRun)(q:LQuery):Option (Rz):=
 cond (q.kind==(1:Int))
  (af (aN (σ:=Unit) (ρ:=(Rz)) (fun(_:Nat) (x1:LW) (_:Unit)=>
   cond (x1.table==q.table)
    (some (.ret x1.rows))
    (some (.next ()))) 0 rA.st ()) fun fl1=>fl1.thenR fun(_:Unit)=>
  some [])
  (letP (
   cond (q.kind==(4:Int))
    ((q.kind==(4:Int)))
    ((q.kind==(5:Int)))) fun(t2:Bool)=>
  cond t2
   (af (rec159 rA q) fun x37=>
   some x37)
   (cond (q.kind==(6:Int))
    (af (aP q.inputs 0) fun(x43:LQuery)=>
    af (aP q.inputs 1) fun(x50:LQuery)=>
    af (rec104 rA x43) fun x45=>
    af (rec104 rA x50) fun x52=>
    af (cJ 24 x45 x52) fun(x53:Rz)=>
    some x53)
    (cond (q.kind==(7:Int))
     (af (aP q.inputs 0) fun(x59:LQuery)=>
     af (aP q.inputs 1) fun(x65:LQuery)=>
     af (rec104 rA x59) fun x61=>
     af (rec104 rA x65) fun x67=>
     af (ml x61 x67) fun x68=>
     some x68)
     (af (aP q.inputs 0) fun(x72:LQuery)=>
     af (rec104 rA x72) fun x74=>
     af (aP q.inputs 0) fun(x78:LQuery)=>
     af (im rA x78) fun x80=>
     cond (q.kind==(2:Int))
      (af (dR x74 (fun a0=>js a0 rA x80 q)) fun x88=>
      some x88)
      (cond (q.kind==(3:Int))
       (af (aN (σ:=Rz) (ρ:=Empty) (fun(_:Nat) (x3:Rq) (s3:Rz)=>
        af (eg rA x80 x3 q.exprs) fun x103=>
        af (cJ 24 s3 ([x103]:Rz)) fun(x105:Rz)=>
        some (.next x105)) 0 x74 []) fun fl3=>fl3.thenP fun(s3:Rz)=>
       some s3)
       (cond (q.kind==(8:Int))
        (af (jK rA q x80 x74) fun x114=>
        some x114)
        (cond (q.kind==(9:Int))
         (af (gF rA q x80 x74) fun x121=>
         some x121)
         (af (nK x74 (if(x74.length:Int)<q.offset then(x74.length:Int)else q.offset) (Iw ((if(x74.length:Int)<q.offset then(x74.length:Int)else q.offset)+(if(Iw ((x74.length:Int)-(if(x74.length:Int)<q.offset then(x74.length:Int)else q.offset)))<q.count then(Iw ((x74.length:Int)-(if(x74.length:Int)<q.offset then(x74.length:Int)else q.offset)))else q.count)))) fun(x138:Rz)=>
         some x138))))))))
theorem uH(rec104:LRun->LQuery->Option (Rz))(rec159:LRun->LQuery->Option (Rz))(hrec104:∀a0 a1 r,rec104 a0 a1=some r->aQ prog 104 [(.agg (eA a0)),(.agg (aY a1))] (.list 54 (r.map rRr)))(hrec159:∀a0 a1 r,rec159 a0 a1=some r->aQ prog 159 [(.agg (eA a0)),(.agg (aY a1))] (.list 54 (r.map rRr)))(rA:LRun)(q:LQuery)(r:Rz)(H:lr rec104 rec159 rA q=some r):
  aQ prog 104 [(.agg (eA rA)),(.agg (aY q))] (.list 54 (r.map rRr)):=by
 unfold lr at H;refine PH.av func104 ntmps104 ?_;refine ab (aa (aJ ?_));refine aJ ?_;refine ah U Z (ac (ab (am 2 U Z (aA (am 2 U Z ?_)))));refine aH Z H (fun H=>?_) (fun H=>?_)
 ·refine ab (ab (aa (ag 2 U Z (aB U (zl _) ?_))));refine ah U Z (ac ?_);refine eG U 20 19 18 (fun s1 g1=>upd (fun _=>.any) 3 (.ptr (aY q))) nB nO () H (fun fl1 Hp1 j1 s1 g1 hz1 hl1 x1 fb1 hx1 H hg1=>?_) (fun s1 g1 H=>?_)
  ·refine ab (aA (ab (aa ?_)));refine aU U (zn j1) (bn (fun _=>Z) hx1) ?_;refine ah U Z ?_;refine bf U fun b6=>?_
   refine au U ?_;refine ac (ab (aa (ah U Z (aD U ?_))));refine ag 3 U Z (ac ?_);refine aH Z H (fun H=>?_) (fun H=>?_)
   ·refine ab (aa (ah U Z (aD U ?_)));refine ah U Z (ac ?_);obtain rfl:=az H;have e1:fl1= .ret _:=hg1;subst e1;obtain rfl:=aT Hp1;refine ba U Z (ps:=[(.list 54 (x1.rows.map rRr))]) ⟨_,_,rfl,rfl,rfl⟩ (PLe.q Z)
   refine ap (aM (bh 2 U Z ?_));exact bm () H hl1 hg1
  refine am 1 U Z ?_;obtain rfl:=az H;refine ba U Z (ps:=[(.val (.slice none 0 0))]) ⟨_,_,rfl,rfl,rfl⟩ (PLe.of2 (pE.nil U Z))
 refine ab (am 2 U Z ?_);refine fA (γ:=Unit) (fun t2 g2=>⟨139,upd (upd (upd (upd (fun _=>.any) 32 (aK t2)) 14 (al q.kind)) 3 (.ptr (aY q))) 2 (.ptr (eA rA)),fun _=>none,fun _=>none⟩) H (fun _ H=>?_) (fun t2 g2 H=>?_)
 ·refine aH Z H (fun H=>?_) (fun H=>?_)
  ·refine ap ?_;refine aV _ () H Gh.d
  refine bh 2 U Z ?_;refine aV _ () H Gh.d
 refine aH Z H (fun H=>?_) (fun H=>?_)
 ·refine ab (aa (ag 2 U Z ?_))
  obtain⟨x37,h37,H⟩:=aq H
  have s37:=hrec159 rA q _ h37;refine ak call159 (jb.r) s37 ?_;refine ah U Z (ac ?_);exact bc U H Z
 refine am 2 U Z ?_;refine aH Z H (fun H=>?_) (fun H=>?_)
 ·refine ab (bd U mok ⟨false,false,[]⟩ [0,1,2,3,4,7,8,9,10,11,5,6,12,13,14] Z (by decide+kernel) Z (aG 3 Z ?_))
  obtain⟨x43,k43,H⟩:=bl H
  refine bs k43.1 (aO cN k43.2) ?_;refine aG 4 Z ?_
  obtain⟨x50,k50,H⟩:=bl H
  refine bs k50.1 (aO cN k50.2) ?_;refine bA Z ?_
  obtain⟨x45,h45,H⟩:=aq H
  have s45:=hrec104 rA x43 _ h45;refine aW call104 (jb.r) s45 ?_;have s46:=qK (m:=46) x45;refine qC (g:=160) Z Z Z Z call160 (jb.r) Z Z s46 (fun g46=>?_)
  obtain⟨x52,h52,H⟩:=aq H
  have s52:=hrec104 rA x50 _ h52;refine aW call104 (jb.r) s52 ?_
  obtain⟨x53,h53,H⟩:=aq H
  have k53:=bS h53;refine gk (rows2':=List.map rRr x52) (rows':=List.map rRr x53) U Z Z Z Z Z Z Z Z Z Z Z Z Z Z (gH.refl _) (cD k53.1) (cC k53.2.1) (cE k53.2.2) fun g53=>?_
  refine bA Z (aZ (cF 4 Z Z Z ?_));exact bc U H Z
 refine am 2 U Z ?_;refine aH Z H (fun H=>?_) (fun H=>?_)
 ·refine ab (bd U mok ⟨false,false,[]⟩ [0,1,2,3,4,6,7,8,9,10,5,11,12,13] Z (by decide+kernel) Z (aG 3 Z ?_))
  obtain⟨x59,k59,H⟩:=bl H
  refine bs k59.1 (aO cN k59.2) ?_;refine aG 4 Z ?_
  obtain⟨x65,k65,H⟩:=bl H
  refine bs k65.1 (aO cN k65.2) ?_;refine bA Z ?_
  obtain⟨x61,h61,H⟩:=aq H
  have s61:=hrec104 rA x59 _ h61;refine aW call104 (jb.r) s61 ?_
  obtain⟨x67,h67,H⟩:=aq H
  have s67:=hrec104 rA x65 _ h67;refine aW call104 (jb.r) s67 ?_
  obtain⟨x68,h68,H⟩:=aq H
  have s68:=W_query_less x61 x67 _ h68;refine aW call161 (jb.r) s68 ?_;refine bA Z (aZ ?_);exact bc U H Z
 refine ap (aM (ab (bd U mok ⟨false,false,[]⟩ [0,1,2,3,4,5,6] Z (by decide+kernel) Z (aG 3 Z ?_))))
 obtain⟨x72,k72,H⟩:=bl H
 refine bs k72.1 (aO cN k72.2) ?_;refine bA Z ?_
 obtain⟨x74,h74,H⟩:=aq H
 have s74:=hrec104 rA x72 _ h74;refine aW call104 (jb.r) s74 ?_;refine bA Z (aZ (ab (bd U mok ⟨false,false,[]⟩ [0,1,2,3,4,5,6,7] Z (by decide+kernel) Z (aG 3 Z ?_))))
 obtain⟨x78,k78,H⟩:=bl H
 refine bs k78.1 (aO cN k78.2) ?_;refine bA Z ?_
 obtain⟨x80,h80,H⟩:=aq H
 have s80:=mZ rA x78 _ h80;refine aW call162 (jb.r) s80 ?_;refine oH Z Z Z Z Z Z Z Z fun b8=>?_
 refine gw Z Z Z Z Z Z Z Z Z Z Z Z (aZ (ab (am 2 U Z (aA (am 2 U Z ?_)))));refine aH Z H (fun H=>?_) (fun H=>?_)
 ·refine ab (aa (ah U Z ?_));have s86:=qK (m:=86) x74;refine gX call160 (jb.r) s86 (fun g86=>?_);refine cu (Gh.freezeB 8 Z Z Z Z) (ah U Z ?_)
  obtain⟨x88,h88,H⟩:=aq H
  have s88:=mi g86 x74 (fun a0=>js a0 rA x80 q) call164 (fun a0 r h=>tU a0 rA x80 q r h) _ h88;refine cq (g:=163) Z Z Z call163 [] [(86,0)] Z Z Z Z (jb.of2 (jk.cons (pE.own Z) (jk.cons (pE.of_eq Z) jk.nil))) (by rw[bO,be,bH];rfl) s88 ?_;rintro u88 H88h ⟨rfl,rfl⟩
  refine⟨_,rfl,?_⟩
  refine cu (st':=⟨_,_,fun _=>none,upd (fun _=>none) 86 (some ⟨g86,54,(x88.map rRr),true⟩)⟩) (Gh.le (bL _ _) aE (aL aF)) ?_;refine jg 88 (q:=(.own 86 g86 (x88.map rRr).length)) Z (PLe.of2 (pE.own Z)) (ah U Z (ac (cF 4 Z Z Z ?_)));exact bc U H Z
 refine am 2 U Z ?_;refine aH Z H (fun H=>?_) (fun H=>?_)
 ·refine am 1 U Z (ab (ab (aa (ah U Z (aB U (zl _) ?_)))));refine ah U Z (ac ?_)
  obtain⟨fl3,H3,Hp3⟩:=aq H
  refine ib U 91 Z Z (fun hz3 _=>?_);rw[zl]at hz3;refine fm (τ:=Rz) (γ:=OwnRef) (fun s3 g3=>⟨139,upd (upd (upd (fun _=>.any) 9 (.own 105 g3 (s3.map rRr).length)) 3 (.ptr (aY q))) 2 (.ptr (eA rA)),fun _=>none,upd (fun _=>none) 105 (some ⟨g3,54,(s3.map rRr),true⟩)⟩) (fun t=>fl3= .next t) ?_ (fun s3 g3 hn3=>?_)
  ·refine aA (gQ U 9 105 (e:=54) Z Z ?_);refine iH (fun j3 s3 g3=>⟨139,upd (upd (upd (upd (upd (upd (upd (fun _=>.any) 93 (al (j3:Int))) 92 (al (x74.length:Int))) 91 (.list 54 (x74.map rRr))) 9 (.own 105 g3 (s3.map rRr).length)) 8 (.box 8 b8 0)) 3 (.ptr (aY q))) 2 (.ptr (eA rA)),upd (fun _=>none) 8 (some ⟨b8,[(.list 93 (x80.map ay))]⟩),upd (fun _=>none) 105 (some ⟨g3,54,(s3.map rRr),true⟩)⟩) (⟨none,0⟩) H3 Gh.d (fun j3 s3 g3 hj3 hr3=>?_);refine am 1 U Z (ab ?_);refine bp Z (fun h=>?_) (fun h=>?_)
   ·have hl3:=pm h
    obtain⟨x3,fb3,hx3,H,hg3⟩:=rMc hl3 hr3
    refine ap (ab (aA (ab (aa ?_))));refine aU U (zn j3) (bn (fun _=>Z) hx3) ?_;refine ag 2 U Z (ac (aa (ag 2 U Z (aD U ?_))));refine ag 3 U Z ?_
    obtain⟨x103,h103,H⟩:=aq H
    have s103:=kR rA x80 x3 q.exprs _ h103;refine ak call167 (jb.r) s103 ?_;refine ci U (rows':=List.map rRr ([x103]:Rz)) (gH.refl _) ?_
    obtain⟨x105,h105,H⟩:=aq H
    have k105:=bS h105;refine bX (rows2':=List.map rRr ([x103]:Rz)) (rows':=List.map rRr x105) U Z Z Z Z Z Z Z Z Z Z Z Z Z (gH.refl _) (cD k105.1) (cC k105.2.1) (cE k105.2.2) fun g105=>?_
    refine ah U Z (ac (aM (bh 2 U Z ?_)));exact bm g105 H hl3 hg3
   have hn3:=rMd (pz h) hr3;refine bq Z ?_;refine aV s3 g3 hn3 Gh.d
  have H:=dT hn3 Hp3;refine am 2 U Z (cF 4 Z Z Z ?_);exact bc U H Z
 refine am 2 U Z ?_;refine aH Z H (fun H=>?_) (fun H=>?_)
 ·refine ab (aa (ag 2 U Z (aD U ?_)));refine ah U Z ?_
  obtain⟨x114,h114,H⟩:=aq H
  have s114:=uK rA q x80 x74 _ h114;refine ak call168 (jb.r) s114 ?_;refine ah U Z (ac ?_);exact bc U H Z
 refine am 2 U Z ?_;refine aH Z H (fun H=>?_) (fun H=>?_)
 ·refine ab (aa (ag 2 U Z (aD U ?_)));refine ah U Z ?_
  obtain⟨x121,h121,H⟩:=aq H
  have s121:=vh rA q x80 x74 _ h121;refine ak call169 (jb.r) s121 ?_;refine ah U Z (ac ?_);exact bc U H Z
 refine ap (aM (ab (aa (ag 3 U Z (aB U (zl _) ?_)))));refine ag 2 U Z (ac (ab (aa (ag 6 U Z (aB U (zl _) ?_)))));refine ag 4 U Z ?_
 obtain⟨x138,h138,H⟩:=aq H
 have k138:=nf h138;refine vF U Z Z Z Z Z (zl _) Z Z k138.1 (oI k138.2) Z (ah U Z (ac ?_));exact bc U H Z
def kf(rec104:LRun->LQuery->Option (Rz))(_rec159:LRun->LQuery->Option (Rz))(rA:LRun)(q:LQuery):Option (Rz):=
 af (aP q.inputs 0) fun(x19:LQuery)=>
 af (aP q.inputs 1) fun(x25:LQuery)=>
 af (rec104 rA x19) fun x21=>
 af (rec104 rA x25) fun x27=>
 af (aP q.inputs 1) fun(x31:LQuery)=>
 af (im rA x31) fun x33=>
 af (aP q.inputs 0) fun(x37:LQuery)=>
 af (im rA x37) fun x39=>
 af (cJ 32 x39 x33) fun(x42:List LCol)=>
 af (aN (σ:=List LCol×Rz) (ρ:=Empty) (fun(_:Nat) (x1:Rq) (s1:List LCol×Rz)=>
  af (aN (σ:=Rz×Bool) (ρ:=Empty) (fun(_:Nat) (x6:Rq) (s6:Rz×Bool)=>
   af (bZ ([x1,x6]:Rz)) fun x58=>
   af (aP q.exprs 0) fun(x65:LExpr)=>
   letP (bK rA s1.1 x58) fun x62=>
   letP (dY x62 x65) fun x67=>
   letP (kW x67) fun x68=>
   cond x68
    (af (cJ 24 s6.1 ([x58]:Rz)) fun(x72:Rz)=>
    some (.next (x72,true)))
    (some (.next (s6.1,s6.2)))) 0 x27 (s1.2,false)) fun fl6=>fl6.thenP fun(s6:Rz×Bool)=>
  letP (
   cond (!s6.2)
    ((q.kind==(5:Int)))
    (false)) fun(t7:Bool)=>
  cond t7
   (af (oO 32 (x33.length:Int)) fun(_:Unit)=>
   af (bZ ([x1,(List.replicate (x33.length:Int).toNat (LVal.mk 0 0 []))]:Rz)) fun x87=>
   af (cJ 24 s6.1 ([x87]:Rz)) fun(x89:Rz)=>
   some (.next (s1.1,x89)))
   (some (.next (s1.1,s6.1)))) 0 x21 (x42,[])) fun fl1=>fl1.thenP fun(s1:List LCol×Rz)=>
 some s1.2
theorem uF(rec104:LRun->LQuery->Option (Rz))(rec159:LRun->LQuery->Option (Rz))(hrec104:∀a0 a1 r,rec104 a0 a1=some r->aQ prog 104 [(.agg (eA a0)),(.agg (aY a1))] (.list 54 (r.map rRr)))(_hrec159:∀a0 a1 r,rec159 a0 a1=some r->aQ prog 159 [(.agg (eA a0)),(.agg (aY a1))] (.list 54 (r.map rRr)))(rA:LRun)(q:LQuery)(r:Rz)(H:kf rec104 rec159 rA q=some r):
  aQ prog 159 [(.agg (eA rA)),(.agg (aY q))] (.list 54 (r.map rRr)):=by
 unfold kf at H;refine PH.av func159 ntmps159 ?_;refine ab (aa (aJ ?_));refine aJ ?_;refine ah U Z (ac (ab (bd U mok ⟨false,false,[]⟩ [0,1,2,3,4,6,7,8,9,10,5,11,12,13] Z (by decide+kernel) Z (aG 3 Z ?_))))
 obtain⟨x19,k19,H⟩:=bl H
 refine bs k19.1 (aO cN k19.2) ?_;refine aG 4 Z ?_
 obtain⟨x25,k25,H⟩:=bl H
 refine bs k25.1 (aO cN k25.2) ?_;refine bA Z ?_
 obtain⟨x21,h21,H⟩:=aq H
 have s21:=hrec104 rA x19 _ h21;refine aW call104 (jb.r) s21 ?_
 obtain⟨x27,h27,H⟩:=aq H
 have s27:=hrec104 rA x25 _ h27;refine aW call104 (jb.r) s27 ?_;refine aG 2 Z (aZ (ab (bd U mok ⟨false,false,[]⟩ [0,1,2,3,4,5,6] Z (by decide+kernel) Z (aG 3 Z ?_))))
 obtain⟨x31,k31,H⟩:=bl H
 refine bs k31.1 (aO cN k31.2) ?_;refine bA Z ?_
 obtain⟨x33,h33,H⟩:=aq H
 have s33:=mZ rA x31 _ h33;refine aW call162 (jb.r) s33 ?_;refine bA Z (aZ (ab (bd U mok ⟨false,false,[]⟩ [0,1,2,3,4,7,5,6,8,9] Z (by decide+kernel) Z (aG 3 Z ?_))))
 obtain⟨x37,k37,H⟩:=bl H
 refine bs k37.1 (aO cN k37.2) ?_;refine aG 2 Z ?_
 obtain⟨x39,h39,H⟩:=aq H
 have s39:=mZ rA x37 _ h39;refine aW call162 (jb.r) s39 ?_;have s40:=na (m:=40) x39;refine qC (g:=176) Z Z Z Z call176 (jb.r) Z Z s40 (fun g40=>?_)
 obtain⟨x42,h42,H⟩:=aq H
 have k42:=bS h42;refine gk (rows2':=List.map ay x33) (rows':=List.map ay x42) U Z Z Z Z Z Z Z Z Z Z Z Z Z Z (gH.refl _) (cD k42.1) (cC k42.2.1) (cE k42.2.2) fun g42=>?_
 refine bA Z (aZ (am 1 U Z (ab (ab (aa (ah U Z (aB U (zl _) ?_)))))));refine ah U Z (ac (cF 8 Z Z Z (gQ U 9 72 (e:=54) Z Z ?_)));refine vN (γ:=OwnRef) U 43 Z Z (fun s1 g1=>upd (upd (upd (upd (upd (fun _=>.any) 9 (.own 72 g1 (s1.2.map rRr).length)) 7 (.list 93 (x33.map ay))) 6 (.list 54 (x27.map rRr))) 3 (.ptr (aY q))) 2 (.ptr (eA rA))) nB (fun s1 g1=>upd (fun _=>none) 72 (some ⟨g1,54,(s1.2.map rRr),true⟩)) (fun e j1 s1 g1=>upd (upd (upd (upd e 45 (al (j1:Int))) 44 (al (x21.length:Int))) 43 (.list 54 (x21.map rRr))) 8 (.list 93 (s1.1.map ay))) (⟨none,0⟩) H Z Gh.d (fun _ _ _=>rfl) (fun _ _ _=>rfl) (fun _ _ _=>Gh.d) (fun fl1 Hp1 j1 s1 g1 hz1 hl1 x1 fb1 hx1 H hg1=>?_) (fun s1 g1 H=>?_)
 ·refine ab (aA (ab (aa ?_)));refine aU U (zn j1) (bn (fun _=>Z) hx1) ?_;refine ag 2 U Z (ac (am 1 U Z (ab (ab (aa (ah U Z (aB U (zl _) ?_)))))));refine ah U Z (ac ?_);refine fW (γ:=OwnRef) U 51 50 49 (fun s6 g6=>upd (upd (upd (upd (upd (upd (upd (upd (upd (upd (upd (fun _=>.any) 45 (al (j1:Int))) 44 (al (x21.length:Int))) 43 (.list 54 (x21.map rRr))) 12 (aK s6.2)) 11 (.list 69 (x1.map ae))) 9 (.own 72 g6 (s6.1.map rRr).length)) 8 (.list 93 (s1.1.map ay))) 7 (.list 93 (x33.map ay))) 6 (.list 54 (x27.map rRr))) 3 (.ptr (aY q))) 2 (.ptr (eA rA))) nB (fun s6 g6=>upd (fun _=>none) 72 (some ⟨g6,54,(s6.1.map rRr),true⟩)) g1 H (fun fl6 Hp6 j6 s6 g6 hz6 hl6 x6 fb6 hx6 H hg6=>?_) (fun s6 g6 H=>?_)
  ·refine ab (aA (ab (aa ?_)));refine aU U (zn j6) (bn (fun _=>Z) hx6) ?_;refine ag 2 U Z (ac (ab (aa (ag 2 U Z (ci U (rows':=List.map rRr ([x1,x6]:Rz)) (gH.refl _) ?_)))))
   obtain⟨x58,h58,H⟩:=aq H
   have s58:=jS (m:=58) ([x1,x6]:Rz) _ h58;refine ak call210 (jb.r) (PFun.ik s58) ?_;refine ah U Z (ac (ab (bd U mok ⟨false,false,[]⟩ [0,1,2,4,5,6,7,3,8,9] Z (by decide+kernel) Z (aG 5 Z ?_))))
   obtain⟨x65,k65,H⟩:=bl H
   refine bs k65.1 (aO db k65.2) ?_;refine bA Z ?_
   obtain⟨x62,h62,H⟩:=cK H
   have s62:=lU rA s1.1 x58;rw[h62]at s62;refine aW call166 (jb.r) s62 ?_
   obtain⟨x67,h67,H⟩:=cK H
   have s67:=nc x62 x65;rw[h67]at s67;refine aW call165 (jb.r) s67 ?_
   obtain⟨x68,h68,H⟩:=cK H
   have s68:=isTS x67;rw[h68]at s68;refine aW call125 (jb.r) s68 ?_;refine aZ ?_;refine aH Z H (fun H=>?_) (fun H=>?_)
   ·refine ab (aa (ag 2 U Z (ci U (rows':=List.map rRr ([x58]:Rz)) (gH.refl _) ?_)))
    obtain⟨x72,h72,H⟩:=aq H
    have k72:=bS h72;refine bX (rows2':=List.map rRr ([x58]:Rz)) (rows':=List.map rRr x72) U Z Z Z Z Z Z Z Z Z Z Z Z Z (gH.refl _) (cD k72.1) (cC k72.2.1) (cE k72.2.2) fun g72=>?_
    refine ah U Z (ac (bh 1 U Z (aM (bh 2 U Z ?_))));exact bm g72 H hl6 hg6
   refine ap (aM (bh 2 U Z ?_));exact bm g6 H hl6 hg6
  refine ab ?_;refine fA (γ:=Unit) (fun t7 g7=>⟨92,upd (upd (upd (upd (upd (upd (upd (upd (upd (upd (upd (fun _=>.any) 80 (aK t7)) 45 (al (j1:Int))) 44 (al (x21.length:Int))) 43 (.list 54 (x21.map rRr))) 11 (.list 69 (x1.map ae))) 9 (.own 72 g6 (s6.1.map rRr).length)) 8 (.list 93 (s1.1.map ay))) 7 (.list 93 (x33.map ay))) 6 (.list 54 (x27.map rRr))) 3 (.ptr (aY q))) 2 (.ptr (eA rA)),fun _=>none,upd (fun _=>none) 72 (some ⟨g6,54,(s6.1.map rRr),true⟩)⟩) H (fun _ H=>?_) (fun t7 g7 H=>?_)
  ·refine aa (ag 3 U Z ?_);refine bj Z Z Z H (fun H=>?_) (fun H=>?_)
   ·refine ag 4 U Z (ac ?_);refine aV _ () H Gh.d
   refine ag 4 U Z (ac ?_);refine aV _ () H Gh.d
  refine aH Z H (fun H=>?_) (fun H=>?_)
  ·refine aa (ag 3 U Z (aB U (zl _) ?_))
   obtain⟨_,h85,H⟩:=aq H
   have k85:=sv h85;refine wo (rows:=List.map ae (List.replicate (x33.length:Int).toNat (LVal.mk 0 0 []))) U Z Z Z Z Z Z Z Z Z Z k85.1 k85.2.1 k85.2.2 (by rw[List.map_replicate];rfl) fun g85=>?_
   refine cu (Gh.freezeO 85 Z Z Z) (ci U (rows':=List.map rRr ([x1,(List.replicate (x33.length:Int).toNat (LVal.mk 0 0 []))]:Rz)) (gH.refl _) ?_)
   obtain⟨x87,h87,H⟩:=aq H
   have s87:=jS (m:=87) ([x1,(List.replicate (x33.length:Int).toNat (LVal.mk 0 0 []))]:Rz) _ h87;refine ak call210 (jb.r) (PFun.ik s87) ?_;refine ci U (rows':=List.map rRr ([x87]:Rz)) (gH.refl _) ?_
   obtain⟨x89,h89,H⟩:=aq H
   have k89:=bS h89;refine bX (rows2':=List.map rRr ([x87]:Rz)) (rows':=List.map rRr x89) U Z Z Z Z Z Z Z Z Z Z Z Z Z (gH.refl _) (cD k89.1) (cC k89.2.1) (cE k89.2.2) fun g89=>?_
   refine ah U Z (ac (aM (bh 2 U Z ?_)));exact bm g89 H hl1 hg1
  refine ap (aM (bh 2 U Z ?_));exact bm g6 H hl1 hg1
 refine am 2 U Z (cF 4 Z Z Z ?_);exact bc U H Z
mutual
def fN:Nat->LRun->LQuery->Option (Rz)
 |0,_,_=>none
 |n+1,v0,v1=>lr (fun b0 b1=>fN n b0 b1) (fun b0 b1=>iq n b0 b1) v0 v1
def iq:Nat->LRun->LQuery->Option (Rz)
 |0,_,_=>none
 |n+1,v0,v1=>kf (fun b0 b1=>fN n b0 b1) (fun b0 b1=>iq n b0 b1) v0 v1
end
theorem uD  (n:Nat):(∀a0 a1 r,fN n a0 a1=some r->aQ prog 104 [(.agg (eA a0)),(.agg (aY a1))] (.list 54 (r.map rRr)))/\(∀a0 a1 r,iq n a0 a1=some r->aQ prog 159 [(.agg (eA a0)),(.agg (aY a1))] (.list 54 (r.map rRr))):=by
 induction n with
 |zero=>exact⟨(by intros;rename_i h;exact absurd (show(none:Option _)=some _ from h) (by simp)),(by intros;rename_i h;exact absurd (show(none:Option _)=some _ from h) (by simp))⟩
 |succ n ih=>
  exact⟨(fun v0 v1 r h=>uH (fun b0 b1=>fN n b0 b1) (fun b0 b1=>iq n b0 b1) ih.1 ih.2 v0 v1  r h),(fun v0 v1 r h=>uF (fun b0 b1=>fN n b0 b1) (fun b0 b1=>iq n b0 b1) ih.1 ih.2 v0 v1  r h)⟩
def mS(rA:LRun)(q:LQuery):Option (Rz):=ij fun n=>fN n rA q
theorem vp(rA:LRun)(q:LQuery)(r:Rz)(H:mS rA q=some r):
  aQ prog 104 [(.agg (eA rA)),(.agg (aY q))] (.list 54 (r.map rRr)):=by
 obtain⟨n,h⟩:=jt H
 exact(uD  n).1 rA q r h
def iL(rA:LR)(sA:LS):Option (Int×LR):=
 af (cn rA.s.tables (fun a0=>some (gd a0 sA))) fun x22=>
 af (aP rA.s.tables x22) fun(x29:LTable)=>
 af (aP rA.st x22) fun(x36:LW)=>
 af (aN (σ:=LR) (ρ:=(Int×LR)) (fun(_:Nat) (x1:Rq) (s1:LR)=>
  af (aP sA.whereF 0) fun(x50:LExpr)=>
  af (eo s1 x29.columns x1 x50) fun x52=>
  letP (kW x52.1) fun x53=>
  cond (!x53)
   (some (.next x52.2))
   (af (aN (σ:=Rq) (ρ:=Empty) (fun(_:Nat) (x22:Int) (s22:Rq)=>
    af (aP x1 x22) fun(x69:LVal)=>
    af (cJ 32 s22 ([x69]:Rq)) fun(x72:Rq)=>
    some (.next x72)) 0 x29.primaryKey []) fun fl22=>fl22.thenP fun(s22:Rq)=>
   af (
    cond (sA.kind==(5:Int))
     (af (aN (σ:=LR×Rq) (ρ:=Empty) (fun(j28:Nat) (x28:LExpr) (s28:LR×Rq)=>
      af (bB x29.columns (fun a0=>fZ a0 sA (j28:Int))) fun x94=>
      af (eo s28.1 x29.columns x1 x28) fun x103=>
      af (aP s28.2 x94) fun(_:LVal)=>
      letP (s28.2.set x94.toNat x103.1) fun(y31:Rq)=>
      some (.next (x103.2,y31))) 0 sA.exprs (x52.2,x1)) fun fl28=>fl28.thenP fun(s28:LR×Rq)=>
     some (s28.1,1,[],s28.2))
     (some (x52.2,2,s22,[]))) fun(t27:LR×Int×Rq×Rq)=>
   af (gv t27.1 (LChange.mk t27.2.1 sA.table t27.2.2.1 t27.2.2.2)) fun x108=>
   cond (x108.1 !=(0:Int))
    (some (.ret (x108.1,x108.2)))
    (some (.next x108.2)))) 0 x36.rows rA) fun fl1=>fl1.thenR fun(s1:LR)=>
 some (0,s1)
theorem sn(b_rA:Nat)(g_rA_7:OwnRef)(g_rA_8:OwnRef)(rA:LR)(sA:LS)(r:Int×LR)(H:iL rA sA=some r):
  PH prog 129 [(.box 1500 b_rA 0),(.agg (aC sA))] ⟨(bR b_rA rA g_rA_7 g_rA_8),(oR rA g_rA_7 g_rA_8)⟩ (fun u H=>∃gz0_7,∃gz0_8,u=(al r.1)/\H=⟨(bR b_rA r.2 gz0_7 gz0_8),(oR r.2 gz0_7 gz0_8)⟩):=by
 unfold iL at H;refine PH.av func129 ntmps129 ?_;refine ab (aa (aJ ?_));refine ah U Z (ac (ab (aa (ag 4 U Z (aD U ?_)))));refine ah U Z ?_
 obtain⟨x22,h22,H⟩:=aq H
 have s22:=ew rA.s.tables (fun a0=>some (gd a0 sA)) call185 (fun a0 r h=>(az h)▸rp a0 sA) _ h22;refine ak call55 (jb.r) s22 ?_;refine ah U Z (ac (ab (aa (ag 4 U Z (aD U ?_)))));refine ah U Z ?_
 obtain⟨x29,k29,H⟩:=bl H
 refine aU U k29.1 (aO (fun _=>Z) k29.2) ?_;refine ah U Z ?_;refine bf U fun b6=>?_
 refine au U ?_;refine ac (ab (ab (aa (ag 3 U Z (aD U ?_)))));refine ah U Z ?_
 obtain⟨x36,k36,H⟩:=bl H
 refine aU U k36.1 (aO (fun _=>Z) k36.2) ?_;refine ag 2 U Z (aB U (zl _) ?_);refine ah U Z (ac (jM 6 ?_));refine eG (γ:=OwnRef×OwnRef) U 40 39 38 (fun s1 g1=>upd (upd (upd (fun _=>.any) 6 (.ptr (bv x29))) 3 (.ptr (aC sA))) 0 (.box 1500 b_rA 0)) (fun s1 g1=>(bR b_rA s1 g1.1 g1.2)) (fun s1 g1=>(oR s1 g1.1 g1.2)) (g_rA_7,g_rA_8) H (fun fl1 Hp1 j1 s1 g1 hz1 hl1 x1 fb1 hx1 H hg1=>?_) (fun s1 g1 H=>?_)
 ·refine ab (aA (ab (aa ?_)));refine aU U (zn j1) (bn (fun _=>Z) hx1) ?_;refine ag 2 U Z (ac (ab (ab (bd U mok ⟨false,false,[999997]⟩ [0,1,2,3,4,5,6,7,8,9,10] Z (by decide+kernel) Z (aG 6 Z ?_)))))
  obtain⟨x50,k50,H⟩:=bl H
  refine bs k50.1 (aO db k50.2) ?_;refine bA Z ?_
  obtain⟨x52,h52,H⟩:=aq H
  have s52:=iG b_rA g1.1 g1.2 s1 x29.columns x1 x50 _ h52;refine pg (g:=124) Z Z Z Z call124 Z Z [(1500,1500)] [(1607,1607),(1608,1608)] Z Z Z Z (jb.of2 (jk.cons pE.boxT (jk.cons (pE.of_eq Z) (jk.cons (pE.of_eq Z) (jk.cons (pE.of_eq Z) jk.nil))))) (by rw[cr,bO,be,be,bH];rfl) s52 ?_;rintro u52 H52h ⟨gz52_1607,gz52_1608,rfl,rfl⟩
  refine⟨_,rfl,?_⟩
  obtain⟨x53,h53,H⟩:=cK H
  have s53:=isTS x52.1;rw[h53]at s53;refine aW call125 (jb.r) s53 ?_;refine bA Z (aZ (cx (st':=⟨_,_,(bR b_rA x52.2 gz52_1607 gz52_1608),(oR x52.2 gz52_1607 gz52_1608)⟩) (Gh.le (bL _ _) (aR Z (jb.r) aE) (aL (aL aF))) ?_));refine aH Z H (fun H=>?_) (fun H=>?_)
  ·refine bq Z (bh 2 U Z ?_);exact bm (gz52_1607,gz52_1608) H hl1 hg1
  refine ap (ab (aa (ag 3 U Z ?_)));refine bf U fun b9=>?_
  refine au U ?_;refine ac (ab (ab (aa (ag 2 U Z (aB U (zl _) ?_)))));refine ah U Z (ac (np U 9 2 72 (e:=69) Z Z Z Z ?_));refine fW (γ:=OwnRef) U 61 60 59 (fun s22 g22=>upd (upd (upd (upd (upd (upd (upd (upd (fun _=>.any) 40 (al (j1:Int))) 39 (al (x36.rows.length:Int))) 38 (.list 54 (x36.rows.map rRr))) 9 (.box 9 b9 0)) 8 (.list 69 (x1.map ae))) 6 (.ptr (bv x29))) 3 (.ptr (aC sA))) 0 (.box 1500 b_rA 0)) (fun s22 g22=>upd (bR b_rA x52.2 gz52_1607 gz52_1608) 9 (some ⟨b9,[(al 2),(.str sA.table),(.own 72 g22 (s22.map ae).length),(.val (.slice none 0 0))]⟩)) (fun s22 g22=>upd (upd (upd (fun _=>none) 72 (some ⟨g22,69,(s22.map ae),true⟩)) 1608 (some ⟨gz52_1608,64,(x52.2.results.map bU),true⟩)) 1607 (some ⟨gz52_1607,56,(x52.2.changes.map bV),true⟩)) (⟨none,0⟩) H (fun fl22 Hp22 j22 s22 g22 hz22 hl22 x22 fb22 hx22 H hg22=>?_) (fun s22 g22 H=>?_)
  ·refine ab (aA (ab (aa ?_)));refine aU U (zn j22) (bn (fun _=>Z) hx22) ?_;refine ag 2 U Z (ac ?_);refine gJ (tag:=1607) Z (fun ho1607=>?_);refine gJ (tag:=1608) Z (fun ho1608=>?_);refine gJ (tag:=72) Z (fun ho72=>?_);refine bd U mok ⟨true,false,[70]⟩ [0,1,2,3,4,5,6,7,8,9] Z (by decide+kernel) Z (bA Z (bi ?_));refine aG 2 Z ?_
   obtain⟨x69,k69,H⟩:=bl H
   refine bs k69.1 (aO (fun _=>Z) k69.2) ?_;refine aG 2 Z ?_
   obtain⟨x72,h72,H⟩:=aq H
   have k72:=bS h72;refine gk (rows2':=List.map ae ([x69]:Rq)) (rows':=List.map ae x72) U Z Z Z Z Z Z Z Z Z Z Z Z Z Z (gH.refl _) (cD k72.1) (cC k72.2.1) (cE k72.2.2) fun g72=>?_
   refine bA Z (gw Z Z Z Z Z Z Z Z Z Z Z Z (aZ (aM (bh 2 U Z ?_))));exact bm g72 H hl22 hg22
  refine ab (am 3 U Z ?_);refine fu (γ:=OwnRef×OwnRef×OwnRef×OwnRef) (fun t27 g27=>⟨113,upd (upd (upd (upd (upd (upd (upd (fun _=>.any) 40 (al (j1:Int))) 39 (al (x36.rows.length:Int))) 38 (.list 54 (x36.rows.map rRr))) 9 (.box 9 b9 0)) 6 (.ptr (bv x29))) 3 (.ptr (aC sA))) 0 (.box 1500 b_rA 0),upd (bR b_rA t27.1 g27.1 g27.2.1) 9 (some ⟨b9,[(al t27.2.1),(.str sA.table),(.own 72 g27.2.2.1 (t27.2.2.1.map ae).length),(.own 81 g27.2.2.2 (t27.2.2.2.map ae).length)]⟩),upd (upd (oR t27.1 g27.1 g27.2.1) 81 (some ⟨g27.2.2.2,69,(t27.2.2.2.map ae),true⟩)) 72 (some ⟨g27.2.2.1,69,(t27.2.2.1.map ae),true⟩)⟩) H (fun _ H=>?_) (fun t27 g27 H=>?_)
  ·refine aH Z H (fun H=>?_) (fun H=>?_)
   ·refine ab (bd U mok ⟨false,false,[]⟩ [0,1,2,3,4,5] Z (by decide+kernel) Z (aG 3 Z ?_));have s81:=qz (m:=81) x1;refine qC (g:=85) Z Z Z Z call85 (jb.r) Z Z s81 (fun g81=>?_);refine bA Z (gw Z Z Z Z Z Z Z Z Z Z Z Z (aZ (ab (aa (ag 2 U Z (aB U (zl _) ?_))))));refine ah U Z (ac ?_);refine fW (γ:=OwnRef×OwnRef×OwnRef) U 86 85 84 (fun s28 g28=>upd (upd (upd (upd (upd (upd (upd (upd (fun _=>.any) 40 (al (j1:Int))) 39 (al (x36.rows.length:Int))) 38 (.list 54 (x36.rows.map rRr))) 9 (.box 9 b9 0)) 8 (.list 69 (x1.map ae))) 6 (.ptr (bv x29))) 3 (.ptr (aC sA))) 0 (.box 1500 b_rA 0)) (fun s28 g28=>upd (bR b_rA s28.1 g28.1 g28.2.1) 9 (some ⟨b9,[(al 1),(.str sA.table),(.val (.slice none 0 0)),(.own 81 g28.2.2 (s28.2.map ae).length)]⟩)) (fun s28 g28=>upd (upd (upd (fun _=>none) 81 (some ⟨g28.2.2,69,(s28.2.map ae),true⟩)) 1608 (some ⟨g28.2.1,64,(s28.1.results.map bU),true⟩)) 1607 (some ⟨g28.1,56,(s28.1.changes.map bV),true⟩)) (gz52_1607,gz52_1608,g81) H (fun fl28 Hp28 j28 s28 g28 hz28 hl28 x28 fb28 hx28 H hg28=>?_) (fun s28 g28 H=>?_)
    ·refine ab (aA (ab (aa (ah U Z (aU U (zn j28) (bn db hx28) ?_)))));refine ah U Z ?_;refine bf U fun b12=>?_
     refine bf U fun b13=>?_
     refine au U ?_;refine au U ?_;refine ac (ab (aa (ag 2 U Z (cu (Gh.freezeB 12 Z Z Z Z) (ah U Z ?_)))))
     obtain⟨x94,h94,H⟩:=aq H
     have s94:=dh x29.columns (fun a0=>fZ a0 sA (j28:Int)) call186 (fun a0 r h=>rd a0 sA (j28:Int) r h) _ h94;refine ak call170 (jb.r) s94 ?_;refine ah U Z (ac ?_);refine gJ (tag:=1607) Z (fun ho1607=>?_);refine gJ (tag:=1608) Z (fun ho1608=>?_);refine gJ (tag:=81) Z (fun ho81=>?_);refine jM 13 ?_;refine bd U mok ⟨true,false,[100,102,999997,3000009,4000096]⟩ [0,1,2,3,4,5,6,7,8,9,10] Z (by decide+kernel) Z (bA Z (vc U Z Z Z Z Z Z Z Z Z Z (aG 6 Z ?_)))
     obtain⟨x103,h103,H⟩:=aq H
     have s103:=iG b_rA g28.1 g28.2.1 s28.1 x29.columns x1 x28 _ h103;refine pg (g:=124) Z Z Z Z call124 Z Z [(1500,1500)] [(1607,1607),(1608,1608)] Z Z Z Z (jb.of2 (jk.cons pE.boxT (jk.cons (pE.of_eq Z) (jk.cons (pE.of_eq Z) (jk.cons (pE.of_eq Z) jk.nil))))) (by rw[cr,bO,be,be,bH];rfl) s103 ?_;rintro u103 H103h ⟨gz103_1607,gz103_1608,rfl,rfl⟩
     refine⟨_,rfl,?_⟩
     obtain⟨x104,k104,H⟩:=bl H
     refine cV U ⟨k104.1,(dp k104.2)⟩ (dl ho81 k104.2) ?_
     obtain⟨y31,hy31,H⟩:=cK H
     refine iu U Z Z Z Z Z Z Z Z Z (by rw[zl];exact(zg.1 k104.2).1) (PLe.refl _ _) Z Z Z Z (by decide) (eF (fun _=>Z) k104.2 Z hy31) ?_;refine aZ ?_;refine cx (st':=⟨_,_,upd (bR b_rA x103.2 gz103_1607 gz103_1608) 9 (some ⟨b9,[(al 1),(.str sA.table),(.val (.slice none 0 0)),(.own 81 g28.2.2 (s28.2.map ae).length)]⟩),upd (upd (upd (fun _=>none) 81 (some ⟨g28.2.2,69,(y31.map ae),true⟩)) 1608 (some ⟨gz103_1608,64,(x103.2.results.map bU),true⟩)) 1607 (some ⟨gz103_1607,56,(x103.2.changes.map bV),true⟩)⟩) (Gh.le (bL _ _) (aR Z (jb.r) (aR Z (jb.r) aE)) (aL (aL (aL aF)))) ?_;refine aM (bh 2 U Z ?_);exact bm (gz103_1607,gz103_1608,g28.2.2) H hl28 hg28 (Gh.le (aw (aw (bD (PLe.q (fj (by omega))) (aw (aw (aw (aw (aw (aw (aw (aw aS))))))))))) (aR Z (jb.of2 (jk.cons (pE.of_eq Z) (jk.cons (pE.of_eq Z) (jk.cons (pE.of_eq Z) (jk.cons (pE.of_eq (congrArg (PV.own 81 g28.2.2) (eQ (f:=ae) hy31))) jk.nil))))) (aR Z (jb.r) aE)) (aL (aL (aL aF))))
    refine np U 9 2 72 (e:=69) Z Z Z Z ?_;refine aV _ (g28.1,g28.2.1,⟨none,0⟩,g28.2.2) (az H) Gh.d
   refine ap (np U 9 3 81 (e:=69) Z Z Z Z ?_);refine aV _ (gz52_1607,gz52_1608,g22,⟨none,0⟩) (az H) Gh.d
  refine ab (iJ 9 2 Z Z Z Z Z (iJ 9 3 Z Z Z Z Z (aa (ah U Z (aD U ?_)))))
  obtain⟨x108,h108,H⟩:=aq H
  have s108:=nr b_rA g27.1 g27.2.1 t27.1 (LChange.mk t27.2.1 sA.table t27.2.2.1 t27.2.2.2) _ h108;refine cq (g:=128) Z Z Z call128 [(1500,1500)] [(1607,1607),(1608,1608)] Z Z Z Z (jb.of2 (jk.cons pE.boxT (jk.cons (pE.of_eq Z) jk.nil))) (by rw[cr,bO,be,be,bH];rfl) s108 ?_;rintro u108 H108h ⟨gz108_1607,gz108_1608,rfl,rfl⟩
  refine⟨_,rfl,?_⟩
  refine cu (st':=⟨_,_,upd (bR b_rA x108.2 gz108_1607 gz108_1608) 9 (some ⟨b9,[(al t27.2.1),(.str sA.table),(.list 69 (t27.2.2.1.map ae)),(.list 69 (t27.2.2.2.map ae))]⟩),upd (upd (upd (upd (fun _=>none) 81 (some ⟨g27.2.2.2,69,(t27.2.2.2.map ae),false⟩)) 72 (some ⟨g27.2.2.1,69,(t27.2.2.1.map ae),false⟩)) 1608 (some ⟨gz108_1608,64,(x108.2.results.map bU),true⟩)) 1607 (some ⟨gz108_1607,56,(x108.2.changes.map bV),true⟩)⟩) (Gh.le (bL _ _) (aR Z (jb.r) (aR Z (jb.r) aE)) (aL (aL (aL (aL aF))))) ?_;refine ah U Z (ac (am 2 U Z ?_));refine aH Z H (fun H=>?_) (fun H=>?_)
  ·refine am 2 U Z ?_;obtain rfl:=az H;have e1:fl1= .ret _:=hg1;subst e1;obtain rfl:=aT Hp1;refine cx (st':=⟨113,upd (fun _=>.any) 4 (al x108.1),(bR b_rA x108.2 gz108_1607 gz108_1608),(oR x108.2 gz108_1607 gz108_1608)⟩) (Gh.le (aw aS) (aR Z (jb.r) aE) (aL (aL aF))) ?_;refine cT U Z (ps:=[(al x108.1)]) ⟨_,_,rfl,rfl,rfl⟩ (PLe.q Z) ⟨_,_,rfl,rfl⟩
  refine ap (aM (bh 2 U Z ?_));exact bm (gz108_1607,gz108_1608) H hl1 hg1
 refine am 1 U Z ?_;obtain rfl:=az H;refine cx (st':=⟨113,upd (fun _=>.any) 4 (al 0),(bR b_rA s1 g1.1 g1.2),(oR s1 g1.1 g1.2)⟩) (Gh.le (aw aS) (aR Z (jb.r) aE) (aL (aL aF))) ?_;refine cT U Z (ps:=[(al 0)]) ⟨_,_,rfl,rfl,rfl⟩ (PLe.q Z) ⟨_,_,rfl,rfl⟩
def kS(sA:LSchema)(p:LP):Option (Int):=
 af (
  af (cd p.body) fun x11=>
  cond (decide ((x11.length:Int)>(40:Int)))
   (some true)
   (af (eh p.body) fun x17=>
   cond (decide (x17>(6:Int)))
    (some true)
    (some (decide ((p.parameters.length:Int)>(8:Int)))))) fun(t1:Bool)=>
 cond t1
  (some 2)
  (af (aN (σ:=Unit) (ρ:=(Int)) (fun(_:Nat) (x2:Int) (_:Unit)=>
   cond (decide (x2<(1:Int)))
    (some (.ret 1))
    (cond (decide (x2>(3:Int)))
     (some (.ret 1))
     (some (.next ())))) 0 p.parameters ()) fun fl2=>fl2.thenR fun(_:Unit)=>
  af (bw (LC.mk sA p.parameters) ([]:List LCol) p.body) fun x47=>
  some x47.2)
theorem pG(sA:LSchema)(p:LP)(r:Int)(H:kS sA p=some r):
  aQ prog 13 [(.agg (cy sA)),(.agg (fC p))] (al r):=by
 unfold kS at H;refine PH.av func13 ntmps13 ?_;refine ab (aa (aJ ?_));refine aJ ?_;refine ah U Z (ac (ab (ab ?_)));refine fu (γ:=Unit) (fun t1 g1=>⟨51,upd (upd (upd (fun _=>.any) 25 (aK t1)) 3 (.ptr (fC p))) 2 (.ptr (cy sA)),fun _=>none,fun _=>none⟩) H (fun _ H=>?_) (fun t1 g1 H=>?_)
 ·refine aa (ag 2 U Z ?_)
  obtain⟨x11,h11,H⟩:=aq H
  have s11:=mK p.body _ h11;refine ak call10 (jb.r) s11 ?_;refine aB U (zl _) ?_;refine ag 2 U Z ?_;refine bj Z Z Z H (fun H=>?_) (fun H=>?_)
  ·refine ag 11 U Z (ac ?_);refine aV _ () (az H) Gh.d
  refine ag 2 U Z ?_
  obtain⟨x17,h17,H⟩:=aq H
  have s17:=uN p.body _ h17;refine ak call41 (jb.r) s17 ?_;refine ag 3 U Z ?_;refine bj Z Z Z H (fun H=>?_) (fun H=>?_)
  ·refine ag 5 U Z (ac ?_);refine aV _ () (az H) Gh.d
  refine ag 2 U Z (aB U (zl _) ?_);refine ag 2 U Z (ac ?_);refine aV _ () (az H) Gh.d
 refine aH Z H (fun H=>?_) (fun H=>?_)
 ·refine am 1 U Z ?_;exact bc U H Z
 refine ap (ab (ab (aa (ag 2 U Z (aB U (zl _) ?_)))));refine ah U Z (ac ?_);refine eG U 29 28 27 (fun s2 g2=>upd (upd (fun _=>.any) 3 (.ptr (fC p))) 2 (.ptr (cy sA))) nB nO () H (fun fl2 Hp2 j2 s2 g2 hz2 hl2 x2 fb2 hx2 H hg2=>?_) (fun s2 g2 H=>?_)
 ·refine ab (aA (ab (aa ?_)));refine aU U (zn j2) (bn (fun _=>Z) hx2) ?_;refine ag 2 U Z (ac (ab (aa (ag 3 U Z ?_))));refine bj Z Z Z H (fun H=>?_) (fun H=>?_)
  ·refine ag 3 U Z (ac (bW Z (am 1 U Z ?_)));obtain rfl:=az H;have e2:fl2= .ret _:=hg2;subst e2;obtain rfl:=aT Hp2;refine ba U Z (ps:=[(al 1)]) ⟨_,_,rfl,rfl,rfl⟩ (PLe.q Z)
  refine ag 3 U Z (ac ?_);refine aH Z H (fun H=>?_) (fun H=>?_)
  ·refine am 1 U Z ?_;obtain rfl:=az H;have e2:fl2= .ret _:=hg2;subst e2;obtain rfl:=aT Hp2;refine ba U Z (ps:=[(al 1)]) ⟨_,_,rfl,rfl,rfl⟩ (PLe.q Z)
  refine ap (aM (bh 2 U Z ?_));exact bm () H hl2 hg2
 refine ab (aa (ag 6 U Z ?_))
 obtain⟨x47,h47,H⟩:=aq H
 have s47:=qp (LC.mk sA p.parameters) ([]:List LCol) p.body _ h47;refine ak call42 (jb.of2 (jk.cons (pE.of_eq Z) (jk.cons (pE.nil U Z) (jk.cons (pE.of_eq Z) jk.nil)))) s47 ?_;refine ag 5 U Z (ac (am 2 U Z ?_));exact bc U H Z
def ic(sA:LSchema)(st:List LW)(q:LQuery)(args:Rq)(vars:List LCol)(vals:Rq):Option (LResult×Int):=
 af (hZ sA vars q) fun x28=>
 cond (x28.2 !=(0:Int))
  (some ((LResult.mk [] []),x28.2))
  (af (il q args) fun x37=>
  cond (x37 !=(0:Int))
   (some ((LResult.mk [] []),x37))
   (af (eH sA st) fun x44=>
   cond (x44 !=(0:Int))
    (some ((LResult.mk [] []),x44))
    (af (aN (σ:=Rs) (ρ:=Empty) (fun(_:Nat) (x1:LCol) (s1:Rs)=>
     af (cJ 16 s1 ([x1.name]:Rs)) fun(x66:Rs)=>
     some (.next x66)) 0 vars []) fun fl1=>fl1.thenP fun(s1:Rs)=>
    af (mS (LRun.mk sA st args vars s1 vals) q) fun x73=>
    af (aN (σ:=Rz) (ρ:=Empty) (fun(_:Nat) (x2:Rq) (s2:Rz)=>
     af (cJ 24 s2 ([x2]:Rz)) fun(x84:Rz)=>
     some (.next x84)) 0 x73 []) fun fl2=>fl2.thenP fun(s2:Rz)=>
    some ((LResult.mk x28.1 s2),0))))
theorem rh(sA:LSchema)(st:List LW)(q:LQuery)(args:Rq)(vars:List LCol)(vals:Rq)(r:LResult×Int)(H:ic sA st q args vars vals=some r):
  aQ prog 70 [(.agg (cy sA)),(.list 86 (st.map bG)),(.agg (aY q)),(.list 69 (args.map ae)),(.list 93 (vars.map ay)),(.list 69 (vals.map ae))] (.tup [(.agg (bU r.1)),(al r.2)]):=by
 unfold ic at H;refine PH.av func70 ntmps70 ?_;refine ab (aa (aJ ?_));refine aJ ?_;refine bf U fun b12=>?_
 refine ah U Z (ac (ab (aa (ag 3 U Z ?_))))
 obtain⟨x28,h28,H⟩:=aq H
 have s28:=oi sA vars q _ h28;refine ak call103 (jb.r) s28 ?_;refine ag 5 U Z (ac (ab (am 2 U Z ?_)));refine aH Z H (fun H=>?_) (fun H=>?_)
 ·refine ab (aa (ag 2 U Z (au U ?_)));refine ah U Z (ac ?_);obtain rfl:=az H;refine ba U Z (ps:=[(.agg [(.val (.slice none 0 0)),(.val (.slice none 0 0))]),(al x28.2)]) ⟨_,_,rfl,⟨_,_,_,_,_,rfl,rfl,rfl,rfl⟩,_,_,rfl,rfl,rfl⟩ (PLe.of2 (pE.tup (jk.cons (pE.agg (jk.cons (pE.nil U Z) (jk.cons (pE.nil U Z) jk.nil))) (jk.cons (pE.of_eq Z) jk.nil))))
 refine ap (ab (ab (aa (ag 2 U Z ?_))))
 obtain⟨x37,h37,H⟩:=aq H
 have s37:=rg q args _ h37;refine ak call54 (jb.r) s37 ?_;refine ah U Z (ac (am 2 U Z ?_));refine aH Z H (fun H=>?_) (fun H=>?_)
 ·refine ab (aa (ag 2 U Z (au U ?_)));refine ah U Z (ac ?_);obtain rfl:=az H;refine ba U Z (ps:=[(.agg [(.val (.slice none 0 0)),(.val (.slice none 0 0))]),(al x37)]) ⟨_,_,rfl,⟨_,_,_,_,_,rfl,rfl,rfl,rfl⟩,_,_,rfl,rfl,rfl⟩ (PLe.of2 (pE.tup (jk.cons (pE.agg (jk.cons (pE.nil U Z) (jk.cons (pE.nil U Z) jk.nil))) (jk.cons (pE.of_eq Z) jk.nil))))
 refine ap (ab (ab (aa (ag 2 U Z ?_))))
 obtain⟨x44,h44,H⟩:=aq H
 have s44:=kp sA st _ h44;refine ak call38 (jb.r) s44 ?_;refine ah U Z (ac (am 2 U Z ?_));refine aH Z H (fun H=>?_) (fun H=>?_)
 ·refine ab (aa (ag 2 U Z (au U ?_)));refine ah U Z (ac ?_);obtain rfl:=az H;refine ba U Z (ps:=[(.agg [(.val (.slice none 0 0)),(.val (.slice none 0 0))]),(al x44)]) ⟨_,_,rfl,⟨_,_,_,_,_,rfl,rfl,rfl,rfl⟩,_,_,rfl,rfl,rfl⟩ (PLe.of2 (pE.tup (jk.cons (pE.agg (jk.cons (pE.nil U Z) (jk.cons (pE.nil U Z) jk.nil))) (jk.cons (pE.of_eq Z) jk.nil))))
 refine ap (ab (aa (ag 6 U Z ?_)));refine bf U fun b18=>?_
 refine au U ?_;refine ac (ab (ab (aa (ah U Z (aB U (zl _) ?_)))));refine ah U Z (ac (np U 18 6 66 (e:=9) Z Z Z Z ?_));refine fW (γ:=OwnRef) U 57 56 55 (fun s1 g1=>upd (upd (upd (upd (fun _=>.any) 18 (.box 18 b18 0)) 14 (.list 93 (x28.1.map ay))) 12 (.box 12 b12 0)) 8 (.ptr (aY q))) (fun s1 g1=>upd (upd (fun _=>none) 18 (some ⟨b18,[(.list 95 (sA.tables.map bv)),(.list 145 (sA.foreignKeys.map gM)),(.list 151 (sA.constraints.map ix)),(.list 86 (st.map bG)),(.list 69 (args.map ae)),(.list 93 (vars.map ay)),(.own 66 g1 (s1.map lP).length),(.list 69 (vals.map ae))]⟩)) 12 (some ⟨b12,[(.val (.slice none 0 0)),(.val (.slice none 0 0))]⟩)) (fun s1 g1=>upd (fun _=>none) 66 (some ⟨g1,9,(s1.map lP),true⟩)) (⟨none,0⟩) H (fun fl1 Hp1 j1 s1 g1 hz1 hl1 x1 fb1 hx1 H hg1=>?_) (fun s1 g1 H=>?_)
 ·refine ab (aA (ab (aa ?_)));refine aU U (zn j1) (bn (fun _=>Z) hx1) ?_;refine ah U Z ?_;refine bf U fun b20=>?_
  refine au U ?_;refine ac (aa (ah U Z (aD U ?_)));refine ah U Z (aD U ?_);refine ci U (rows':=List.map lP ([x1.name]:Rs)) (gH.refl _) ?_
  obtain⟨x66,h66,H⟩:=aq H
  have k66:=bS h66;refine bX (rows2':=List.map lP ([x1.name]:Rs)) (rows':=List.map lP x66) U Z Z Z Z Z Z Z Z Z Z Z Z Z (gH.refl _) (cD k66.1) (cC k66.2.1) (cE k66.2.2) fun g66=>?_
  refine ah U Z (au U ?_);refine ac (aM (bh 2 U Z ?_));exact bm g66 H hl1 hg1
 refine ab (aa (ag 2 U Z ?_));refine bf U fun b21=>?_
 refine au U ?_;refine ac (ab (ab (iJ 18 6 Z Z Z Z Z (aa (aD U ?_)))));refine ah U Z ?_
 obtain⟨x73,h73,H⟩:=aq H
 have s73:=vp (LRun.mk sA st args vars s1 vals) q _ h73;refine ak call104 (jb.r) s73 ?_;refine aB U (zl _) ?_;refine ah U Z (ac (np U 21 1 84 (e:=54) Z Z Z Z ?_));refine fW (γ:=OwnRef) U 75 74 73 (fun s2 g2=>upd (upd (fun _=>.any) 21 (.box 21 b21 0)) 12 (.box 12 b12 0)) (fun s2 g2=>upd (upd (fun _=>none) 21 (some ⟨b21,[(.list 93 (x28.1.map ay)),(.own 84 g2 (s2.map rRr).length)]⟩)) 12 (some ⟨b12,[(.val (.slice none 0 0)),(.val (.slice none 0 0))]⟩)) (fun s2 g2=>upd (fun _=>none) 84 (some ⟨g2,54,(s2.map rRr),true⟩)) (⟨none,0⟩) H (fun fl2 Hp2 j2 s2 g2 hz2 hl2 x2 fb2 hx2 H hg2=>?_) (fun s2 g2 H=>?_)
 ·refine ab (aA (ab (aa ?_)));refine aU U (zn j2) (bn (fun _=>Z) hx2) ?_;refine ag 2 U Z (ac (bd U mok ⟨true,false,[]⟩ [0,1,2,3,4,5,6,7] Z (by decide+kernel) Z (bA Z (bi ?_))));refine bA Z ?_;have s82:=qz (m:=82) x2;refine aW call85 (jb.r) (PFun.ik s82) ?_;refine bA Z ?_
  obtain⟨x84,h84,H⟩:=aq H
  have k84:=bS h84;refine gk (rows2':=List.map rRr ([x2]:Rz)) (rows':=List.map rRr x84) U Z Z Z Z Z Z Z Z Z Z Z Z Z Z (gH.refl _) (cD k84.1) (cC k84.2.1) (cE k84.2.2) fun g84=>?_
  refine bA Z (gw Z Z Z Z Z Z Z Z Z Z Z Z (aZ (aM (bh 2 U Z ?_))));exact bm g84 H hl2 hg2
 refine ab (aa (aD U ?_));refine au U ?_;refine ah U Z (ac ?_);obtain rfl:=az H;refine iJ 12 1 Z Z Z Z Z ?_;refine ba U Z (ps:=[(.agg [(.list 93 (x28.1.map ay)),(.list 54 (s2.map rRr))]),(al 0)]) ⟨_,_,rfl,⟨_,_,_,_,_,rfl,rfl,rfl,rfl⟩,_,_,rfl,rfl,rfl⟩ (PLe.q Z)
def jN(sA:LSchema)(st:List LW)(p:LP):Option (Bool):=
 af (cd p.body) fun x9=>
 cond (decide ((x9.length:Int)<=(40:Int)))
  (af (gg sA) fun x14=>
  cond (x14==(0:Int))
   (af (eH sA st) fun x20=>
   cond (x20==(0:Int))
    (af (kS sA p) fun x26=>
    some (x26==(0:Int)))
    (some false))
   (some false))
  (some false)
theorem nE(sA:LSchema)(st:List LW)(p:LP)(r:Bool)(H:jN sA st p=some r):
  aQ prog 8 [(.agg (cy sA)),(.list 86 (st.map bG)),(.agg (fC p))] (aK r):=by
 unfold jN at H;refine PH.av func8 ntmps8 ?_;refine ab (aa (aJ ?_));refine aJ ?_;refine ah U Z (ac (ab (aa (ag 2 U Z ?_))))
 obtain⟨x9,h9,H⟩:=aq H
 have s9:=mK p.body _ h9;refine ak call10 (jb.r) s9 ?_;refine aB U (zl _) ?_;refine ag 2 U Z ?_;refine bj Z Z Z H (fun H=>?_) (fun H=>?_)
 ·refine ah U Z ?_
  obtain⟨x14,h14,H⟩:=aq H
  have s14:=pH sA _ h14;refine ak call37 (jb.r) s14 ?_;refine ag 3 U Z ?_;refine bj Z Z Z H (fun H=>?_) (fun H=>?_)
  ·refine ag 2 U Z ?_
   obtain⟨x20,h20,H⟩:=aq H
   have s20:=kp sA st _ h20;refine ak call38 (jb.r) s20 ?_;refine ag 3 U Z ?_;refine bj Z Z Z H (fun H=>?_) (fun H=>?_)
   ·refine ag 2 U Z ?_
    obtain⟨x26,h26,H⟩:=aq H
    have s26:=pG sA p _ h26;refine ak call13 (jb.r) s26 ?_;refine ag 3 U Z (ac ?_);exact bc U H Z
   refine ag 6 U Z (ac ?_);exact bc U H Z
  refine ag 12 U Z (ac ?_);exact bc U H Z
 refine ag 17 U Z (ac ?_);exact bc U H Z
def lz(_rec45:LR->(List LS)->Option (Int×LR))(rec83:LR->LS->Option (Int×LR))(_rec126:LR->(List LS)->Option (Int×LR))(_rec127:LR->LS->Option (Int×LR))(rA:LR)(l:List LS):Option (Int×LR):=
 af (aN (σ:=LR) (ρ:=(Int×LR)) (fun(_:Nat) (x1:LS) (s1:LR)=>
  cond s1.stopped
   (some (.ret (0,s1)))
   (cond (decide ((Iw (s1.left-(1:Int)))<(0:Int)))
    (some (.ret (2,(LR.mk s1.s s1.st s1.args s1.vars s1.vals s1.changes s1.results (Iw (s1.left-(1:Int))) s1.stopped))))
    (af (rec83 (LR.mk s1.s s1.st s1.args s1.vars s1.vals s1.changes s1.results (Iw (s1.left-(1:Int))) s1.stopped) x1) fun x32=>
    cond (x32.1 !=(0:Int))
     (some (.ret (x32.1,x32.2)))
     (some (.next x32.2))))) 0 l rA) fun fl1=>fl1.thenR fun(s1:LR)=>
 some (0,s1)
theorem rR(b_rA:Nat)(g_rA_7:OwnRef)(g_rA_8:OwnRef)(rec45:LR->(List LS)->Option (Int×LR))(rec83:LR->LS->Option (Int×LR))(rec126:LR->(List LS)->Option (Int×LR))(rec127:LR->LS->Option (Int×LR))(_hrec45:∀bb0 gg0_7 gg0_8 a0 a1 r,rec45 a0 a1=some r->PH prog 45 [(.box 1500 bb0 0),(.list 40 (a1.map ax))] ⟨(bR bb0 a0 gg0_7 gg0_8),(oR a0 gg0_7 gg0_8)⟩ (fun u H=>∃gz0_7,∃gz0_8,u=(al r.1)/\H=⟨(bR bb0 r.2 gz0_7 gz0_8),(oR r.2 gz0_7 gz0_8)⟩))(hrec83:∀bb0 gg0_7 gg0_8 a0 a1 r,rec83 a0 a1=some r->PH prog 83 [(.box 1500 bb0 0),(.agg (aC a1))] ⟨(bR bb0 a0 gg0_7 gg0_8),(oR a0 gg0_7 gg0_8)⟩ (fun u H=>∃gz0_7,∃gz0_8,u=(al r.1)/\H=⟨(bR bb0 r.2 gz0_7 gz0_8),(oR r.2 gz0_7 gz0_8)⟩))(_hrec126:∀bb0 gg0_7 gg0_8 a0 a1 r,rec126 a0 a1=some r->PH prog 126 [(.box 1500 bb0 0),(.list 40 (a1.map ax))] ⟨(bR bb0 a0 gg0_7 gg0_8),(oR a0 gg0_7 gg0_8)⟩ (fun u H=>∃gz0_7,∃gz0_8,u=(al r.1)/\H=⟨(bR bb0 r.2 gz0_7 gz0_8),(oR r.2 gz0_7 gz0_8)⟩))(_hrec127:∀bb0 gg0_7 gg0_8 a0 a1 r,rec127 a0 a1=some r->PH prog 127 [(.box 1500 bb0 0),(.agg (aC a1))] ⟨(bR bb0 a0 gg0_7 gg0_8),(oR a0 gg0_7 gg0_8)⟩ (fun u H=>∃gz0_7,∃gz0_8,u=(al r.1)/\H=⟨(bR bb0 r.2 gz0_7 gz0_8),(oR r.2 gz0_7 gz0_8)⟩))(rA:LR)(l:List LS)(r:Int×LR)(H:lz rec45 rec83 rec126 rec127 rA l=some r):
  PH prog 45 [(.box 1500 b_rA 0),(.list 40 (l.map ax))] ⟨(bR b_rA rA g_rA_7 g_rA_8),(oR rA g_rA_7 g_rA_8)⟩ (fun u H=>∃gz0_7,∃gz0_8,u=(al r.1)/\H=⟨(bR b_rA r.2 gz0_7 gz0_8),(oR r.2 gz0_7 gz0_8)⟩):=by
 unfold lz at H;refine PH.av func45 ntmps45 ?_;refine am 1 U Z (ab (ab (aa (ah U Z (aB U (zl _) ?_)))));refine ah U Z (ac ?_);refine eG (γ:=OwnRef×OwnRef) U 10 9 8 (fun s1 g1=>upd (fun _=>.any) 0 (.box 1500 b_rA 0)) (fun s1 g1=>(bR b_rA s1 g1.1 g1.2)) (fun s1 g1=>(oR s1 g1.1 g1.2)) (g_rA_7,g_rA_8) H (fun fl1 Hp1 j1 s1 g1 hz1 hl1 x1 fb1 hx1 H hg1=>?_) (fun s1 g1 H=>?_)
 ·refine ab (aA (ab (aa (aU U (zn j1) (bn dQ hx1) ?_))));refine ah U Z ?_;refine bf U fun b6=>?_
  refine au U ?_;refine ac (ab (ab (aa (ag 3 U Z (aD U ?_)))));refine ac ?_;refine aH Z H (fun H=>?_) (fun H=>?_)
  ·refine am 1 U Z ?_;obtain rfl:=az H;have e1:fl1= .ret _:=hg1;subst e1;obtain rfl:=aT Hp1;refine cx (st':=⟨37,upd (fun _=>.any) 4 (al 0),(bR b_rA s1 g1.1 g1.2),(oR s1 g1.1 g1.2)⟩) (Gh.le (aw aS) (aR Z (jb.r) aE) (aL (aL aF))) ?_;refine cT U Z (ps:=[(al 0)]) ⟨_,_,rfl,rfl,rfl⟩ (PLe.q Z) ⟨_,_,rfl,rfl⟩
  refine ap (ab (ab (aa (ag 3 U Z (aD U ?_)))));refine ag 3 U Z (au U ?_);refine ac (ab (aa (ag 3 U Z (aD U ?_))));refine ah U Z (ac ?_);refine aH Z H (fun H=>?_) (fun H=>?_)
  ·refine am 1 U Z ?_;obtain rfl:=az H;have e1:fl1= .ret _:=hg1;subst e1;obtain rfl:=aT Hp1;refine cx (st':=⟨37,upd (fun _=>.any) 4 (al 2),upd (fun _=>none) 1500 (some ⟨b_rA,[(.list 95 ((((LR.mk s1.s s1.st s1.args s1.vars s1.vals s1.changes s1.results (Iw (s1.left-(1:Int))) s1.stopped).s).tables).map bv)),(.list 145 ((((LR.mk s1.s s1.st s1.args s1.vars s1.vals s1.changes s1.results (Iw (s1.left-(1:Int))) s1.stopped).s).foreignKeys).map gM)),(.list 151 ((((LR.mk s1.s s1.st s1.args s1.vars s1.vals s1.changes s1.results (Iw (s1.left-(1:Int))) s1.stopped).s).constraints).map ix)),(.list 86 (((LR.mk s1.s s1.st s1.args s1.vars s1.vals s1.changes s1.results (Iw (s1.left-(1:Int))) s1.stopped).st).map bG)),(.list 69 (((LR.mk s1.s s1.st s1.args s1.vars s1.vals s1.changes s1.results (Iw (s1.left-(1:Int))) s1.stopped).args).map ae)),(.list 93 (((LR.mk s1.s s1.st s1.args s1.vars s1.vals s1.changes s1.results (Iw (s1.left-(1:Int))) s1.stopped).vars).map ay)),(.list 69 (((LR.mk s1.s s1.st s1.args s1.vars s1.vals s1.changes s1.results (Iw (s1.left-(1:Int))) s1.stopped).vals).map ae)),(.own 1607 g1.1 (s1.changes.map bV).length),(.own 1608 g1.2 (s1.results.map bU).length),(al ((LR.mk s1.s s1.st s1.args s1.vars s1.vals s1.changes s1.results (Iw (s1.left-(1:Int))) s1.stopped).left)),(aK ((LR.mk s1.s s1.st s1.args s1.vars s1.vals s1.changes s1.results (Iw (s1.left-(1:Int))) s1.stopped).stopped))]⟩),(oR s1 g1.1 g1.2)⟩) (Gh.le (aw aS) (aR Z (jb.r) aE) (aL (aL aF))) ?_;refine cT U Z (ps:=[(al 2)]) ⟨_,_,rfl,rfl,rfl⟩ (PLe.q Z) ⟨_,_,rfl,rfl⟩
  refine ap (ab (aa (ah U Z (aD U ?_))))
  obtain⟨x32,h32,H⟩:=aq H
  have s32:=hrec83 b_rA g1.1 g1.2 (LR.mk s1.s s1.st s1.args s1.vars s1.vals s1.changes s1.results (Iw (s1.left-(1:Int))) s1.stopped) x1 _ h32;refine cq (g:=83) Z Z Z call83 [(1500,1500)] [(1607,1607),(1608,1608)] Z Z Z Z (jb.of2 (jk.cons pE.boxT (jk.cons (pE.of_eq Z) jk.nil))) (by rw[cr,bO,be,be,bH];rfl) s32 ?_;rintro u32 H32h ⟨gz32_1607,gz32_1608,rfl,rfl⟩
  refine⟨_,rfl,?_⟩
  refine cu (st':=⟨_,_,upd (bR b_rA x32.2 gz32_1607 gz32_1608) 6 (some ⟨b6,(aC x1)⟩),(oR x32.2 gz32_1607 gz32_1608)⟩) (Gh.le (bL _ _) (aR Z (jb.r) (aR Z (jb.r) aE)) (aL (aL aF))) (ah U Z (ac (am 2 U Z ?_)));refine aH Z H (fun H=>?_) (fun H=>?_)
  ·refine am 2 U Z ?_;obtain rfl:=az H;have e1:fl1= .ret _:=hg1;subst e1;obtain rfl:=aT Hp1;refine cx (st':=⟨37,upd (fun _=>.any) 4 (al x32.1),(bR b_rA x32.2 gz32_1607 gz32_1608),(oR x32.2 gz32_1607 gz32_1608)⟩) (Gh.le (aw aS) (aR Z (jb.r) aE) (aL (aL aF))) ?_;refine cT U Z (ps:=[(al x32.1)]) ⟨_,_,rfl,rfl,rfl⟩ (PLe.q Z) ⟨_,_,rfl,rfl⟩
  refine ap (aM (bh 2 U Z ?_));exact bm (gz32_1607,gz32_1608) H hl1 hg1
 refine am 1 U Z ?_;obtain rfl:=az H;refine cx (st':=⟨37,upd (fun _=>.any) 4 (al 0),(bR b_rA s1 g1.1 g1.2),(oR s1 g1.1 g1.2)⟩) (Gh.le (aw aS) (aR Z (jb.r) aE) (aL (aL aF))) ?_;refine cT U Z (ps:=[(al 0)]) ⟨_,_,rfl,rfl,rfl⟩ (PLe.q Z) ⟨_,_,rfl,rfl⟩
def lq(_rec45:LR->(List LS)->Option (Int×LR))(_rec83:LR->LS->Option (Int×LR))(rec126:LR->(List LS)->Option (Int×LR))(rec127:LR->LS->Option (Int×LR))(rA:LR)(sA:LS):Option (Int×LR):=
 cond (sA.kind==(1:Int))
  (af (aP sA.exprs 0) fun(x22:LExpr)=>
  letP (fq ([]:List LCol) rA.vars x22) fun x24=>
  af (aP sA.exprs 0) fun(x37:LExpr)=>
  af (eo rA ([]:List LCol) ([]:Rq) x37) fun x39=>
  af (hP x39.2 (LCol.mk sA.name x24.1 x24.2.1) x39.1) fun x40=>
  some (0,x40))
  (cond (sA.kind==(2:Int))
   (af (aP sA.exprs 0) fun(x46:LExpr)=>
   af (eo rA ([]:List LCol) ([]:Rq) x46) fun x48=>
   letP (kW x48.1) fun x49=>
   cond x49
    (af (rec126 x48.2 sA.body) fun x53=>
    some (x53.1,x53.2))
    (af (rec126 x48.2 sA.elseF) fun x57=>
    some (x57.1,x57.2)))
   (letP (
    cond (sA.kind==(3:Int))
     ((sA.kind==(3:Int)))
     ((sA.kind==(7:Int)))) fun(t1:Bool)=>
   cond t1
    (af (rec127 rA sA) fun x63=>
    some (x63.1,x63.2))
    (cond (sA.kind==(4:Int))
     (af (aN (σ:=Rq×LR) (ρ:=Empty) (fun(_:Nat) (x2:LExpr) (s2:Rq×LR)=>
      af (eo s2.2 ([]:List LCol) ([]:Rq) x2) fun x76=>
      af (cJ 32 s2.1 ([x76.1]:Rq)) fun(x78:Rq)=>
      some (.next (x78,x76.2))) 0 sA.exprs ([],rA)) fun fl2=>fl2.thenP fun(s2:Rq×LR)=>
     af (gv s2.2 (LChange.mk 1 sA.table [] s2.1)) fun x85=>
     some (x85.1,x85.2))
     (letP (
      cond (sA.kind==(5:Int))
       ((sA.kind==(5:Int)))
       ((sA.kind==(6:Int)))) fun(t3:Bool)=>
     cond t3
      (af (iL rA sA) fun x91=>
      some (x91.1,x91.2))
      (cond (sA.kind==(8:Int))
       (letP (iW sA.code) fun x96=>
       some (x96,rA))
       (cond (sA.kind==(9:Int))
        (some (0,(LR.mk rA.s rA.st rA.args rA.vars rA.vals rA.changes rA.results rA.left true)))
        (some (0,rA))))))))
theorem rH(b_rA:Nat)(g_rA_7:OwnRef)(g_rA_8:OwnRef)(rec45:LR->(List LS)->Option (Int×LR))(rec83:LR->LS->Option (Int×LR))(rec126:LR->(List LS)->Option (Int×LR))(rec127:LR->LS->Option (Int×LR))(_hrec45:∀bb0 gg0_7 gg0_8 a0 a1 r,rec45 a0 a1=some r->PH prog 45 [(.box 1500 bb0 0),(.list 40 (a1.map ax))] ⟨(bR bb0 a0 gg0_7 gg0_8),(oR a0 gg0_7 gg0_8)⟩ (fun u H=>∃gz0_7,∃gz0_8,u=(al r.1)/\H=⟨(bR bb0 r.2 gz0_7 gz0_8),(oR r.2 gz0_7 gz0_8)⟩))(_hrec83:∀bb0 gg0_7 gg0_8 a0 a1 r,rec83 a0 a1=some r->PH prog 83 [(.box 1500 bb0 0),(.agg (aC a1))] ⟨(bR bb0 a0 gg0_7 gg0_8),(oR a0 gg0_7 gg0_8)⟩ (fun u H=>∃gz0_7,∃gz0_8,u=(al r.1)/\H=⟨(bR bb0 r.2 gz0_7 gz0_8),(oR r.2 gz0_7 gz0_8)⟩))(hrec126:∀bb0 gg0_7 gg0_8 a0 a1 r,rec126 a0 a1=some r->PH prog 126 [(.box 1500 bb0 0),(.list 40 (a1.map ax))] ⟨(bR bb0 a0 gg0_7 gg0_8),(oR a0 gg0_7 gg0_8)⟩ (fun u H=>∃gz0_7,∃gz0_8,u=(al r.1)/\H=⟨(bR bb0 r.2 gz0_7 gz0_8),(oR r.2 gz0_7 gz0_8)⟩))(hrec127:∀bb0 gg0_7 gg0_8 a0 a1 r,rec127 a0 a1=some r->PH prog 127 [(.box 1500 bb0 0),(.agg (aC a1))] ⟨(bR bb0 a0 gg0_7 gg0_8),(oR a0 gg0_7 gg0_8)⟩ (fun u H=>∃gz0_7,∃gz0_8,u=(al r.1)/\H=⟨(bR bb0 r.2 gz0_7 gz0_8),(oR r.2 gz0_7 gz0_8)⟩))(rA:LR)(sA:LS)(r:Int×LR)(H:lq rec45 rec83 rec126 rec127 rA sA=some r):
  PH prog 83 [(.box 1500 b_rA 0),(.agg (aC sA))] ⟨(bR b_rA rA g_rA_7 g_rA_8),(oR rA g_rA_7 g_rA_8)⟩ (fun u H=>∃gz0_7,∃gz0_8,u=(al r.1)/\H=⟨(bR b_rA r.2 gz0_7 gz0_8),(oR r.2 gz0_7 gz0_8)⟩):=by
 unfold lq at H;refine PH.av func83 ntmps83 ?_;refine ab (aa (aJ ?_));refine ah U Z (ac (ab (am 2 U Z (aA (am 2 U Z ?_)))));refine aH Z H (fun H=>?_) (fun H=>?_)
 ·refine ab (bd U mok ⟨true,false,[21,23]⟩ [0,1,2,3,4,5,6,7,8,9,10,11,12,13,14,15] Z (by decide+kernel) Z (aG 3 Z (bi ?_)));refine aG 2 Z ?_
  obtain⟨x22,k22,H⟩:=bl H
  refine bs k22.1 (aO db k22.2) ?_;refine bA Z ?_
  obtain⟨x24,h24,H⟩:=cK H
  have s24:=lM ([]:List LCol) rA.vars x22;rw[h24]at s24;refine aW call122 (jb.of2 (jk.cons (pE.nil U Z) (jk.cons (pE.of_eq Z) (jk.cons (pE.of_eq Z) jk.nil)))) s24 ?_;refine aG 7 Z (aZ (bd U mok ⟨false,false,[999997]⟩ [0,1,2,3,4,5,6,7,8,9,10,11,12] Z (by decide+kernel) Z (aG 9 Z ?_)))
  obtain⟨x37,k37,H⟩:=bl H
  refine bs k37.1 (aO db k37.2) ?_;refine bA Z ?_
  obtain⟨x39,h39,H⟩:=aq H
  have s39:=iG b_rA g_rA_7 g_rA_8 rA ([]:List LCol) ([]:Rq) x37 _ h39;refine pg (g:=124) Z Z Z Z call124 Z Z [(1500,1500)] [(1607,1607),(1608,1608)] Z Z Z Z (jb.of2 (jk.cons pE.boxT (jk.cons (pE.nil U Z) (jk.cons (pE.nil U Z) (jk.cons (pE.of_eq Z) jk.nil))))) (by rw[cr,bO,be,be,bH];rfl) s39 ?_;rintro u39 H39h ⟨gz39_1607,gz39_1608,rfl,rfl⟩
  refine⟨_,rfl,?_⟩
  obtain⟨x40,h40,H⟩:=aq H
  have s40:=oe b_rA gz39_1607 gz39_1608 x39.2 (LCol.mk sA.name x24.1 x24.2.1) x39.1 _ h40;refine pg (g:=123) Z Z Z Z call123 Z Z [(1500,1500)] [(1607,1607),(1608,1608)] Z Z Z Z (jb.of2 (jk.cons pE.boxT (jk.cons (pE.of_eq Z) (jk.cons (pE.of_eq Z) jk.nil)))) (by rw[cr,bO,be,be,bH];rfl) s40 ?_;rintro u40 H40h ⟨gz40_1607,gz40_1608,rfl,rfl⟩
  refine⟨_,rfl,?_⟩
  refine aZ (cx (st':=⟨_,_,(bR b_rA x40 gz40_1607 gz40_1608),(oR x40 gz40_1607 gz40_1608)⟩) (Gh.le (bL _ _) (aR Z (jb.r) aE) (aL (aL aF))) (aM (am 1 U Z ?_)));obtain rfl:=az H;refine cx (st':=⟨102,upd (fun _=>.any) 4 (al 0),(bR b_rA x40 gz40_1607 gz40_1608),(oR x40 gz40_1607 gz40_1608)⟩) (Gh.le (aw aS) (aR Z (jb.r) aE) (aL (aL aF))) ?_;refine cT U Z (ps:=[(al 0)]) ⟨_,_,rfl,rfl,rfl⟩ (PLe.q Z) ⟨_,_,rfl,rfl⟩
 refine am 2 U Z ?_;refine aH Z H (fun H=>?_) (fun H=>?_)
 ·refine ab (ab (aa (ag 3 U Z ?_)))
  obtain⟨x46,k46,H⟩:=bl H
  refine aU U k46.1 (aO db k46.2) ?_;refine ah U Z ?_
  obtain⟨x48,h48,H⟩:=aq H
  have s48:=iG b_rA g_rA_7 g_rA_8 rA ([]:List LCol) ([]:Rq) x46 _ h48;refine cq (g:=124) Z Z Z call124 [(1500,1500)] [(1607,1607),(1608,1608)] Z Z Z Z (jb.of2 (jk.cons pE.boxT (jk.cons (pE.nil U Z) (jk.cons (pE.nil U Z) (jk.cons (pE.of_eq Z) jk.nil))))) (by rw[cr,bO,be,be,bH];rfl) s48 ?_;rintro u48 H48h ⟨gz48_1607,gz48_1608,rfl,rfl⟩
  refine⟨_,rfl,?_⟩
  refine cu (st':=⟨_,_,(bR b_rA x48.2 gz48_1607 gz48_1608),(oR x48.2 gz48_1607 gz48_1608)⟩) (Gh.le (bL _ _) (aR Z (jb.r) aE) (aL (aL aF))) ?_
  obtain⟨x49,h49,H⟩:=cK H
  have s49:=isTS x48.1;rw[h49]at s49;refine ak call125 (jb.r) s49 ?_;refine ac ?_;refine aH Z H (fun H=>?_) (fun H=>?_)
  ·refine ab (aa (ag 3 U Z ?_))
   obtain⟨x53,h53,H⟩:=aq H
   have s53:=hrec126 b_rA gz48_1607 gz48_1608 x48.2 sA.body _ h53;refine cq (g:=126) Z Z Z call126 [(1500,1500)] [(1607,1607),(1608,1608)] Z Z Z Z (jb.of2 (jk.cons pE.boxT (jk.cons (pE.of_eq Z) jk.nil))) (by rw[cr,bO,be,be,bH];rfl) s53 ?_;rintro u53 H53h ⟨gz53_1607,gz53_1608,rfl,rfl⟩
   refine⟨_,rfl,?_⟩
   refine cu (st':=⟨_,_,(bR b_rA x53.2 gz53_1607 gz53_1608),(oR x53.2 gz53_1607 gz53_1608)⟩) (Gh.le (bL _ _) (aR Z (jb.r) aE) (aL (aL aF))) (ah U Z (ac ?_));obtain rfl:=az H;refine cx (st':=⟨102,upd (fun _=>.any) 4 (al x53.1),(bR b_rA x53.2 gz53_1607 gz53_1608),(oR x53.2 gz53_1607 gz53_1608)⟩) (Gh.le (aw aS) (aR Z (jb.r) aE) (aL (aL aF))) ?_;refine cT U Z (ps:=[(al x53.1)]) ⟨_,_,rfl,rfl,rfl⟩ (PLe.q Z) ⟨_,_,rfl,rfl⟩
  refine ap (ab (aa (ag 3 U Z ?_)))
  obtain⟨x57,h57,H⟩:=aq H
  have s57:=hrec126 b_rA gz48_1607 gz48_1608 x48.2 sA.elseF _ h57;refine cq (g:=126) Z Z Z call126 [(1500,1500)] [(1607,1607),(1608,1608)] Z Z Z Z (jb.of2 (jk.cons pE.boxT (jk.cons (pE.of_eq Z) jk.nil))) (by rw[cr,bO,be,be,bH];rfl) s57 ?_;rintro u57 H57h ⟨gz57_1607,gz57_1608,rfl,rfl⟩
  refine⟨_,rfl,?_⟩
  refine cu (st':=⟨_,_,(bR b_rA x57.2 gz57_1607 gz57_1608),(oR x57.2 gz57_1607 gz57_1608)⟩) (Gh.le (bL _ _) (aR Z (jb.r) aE) (aL (aL aF))) (ah U Z (ac ?_));obtain rfl:=az H;refine cx (st':=⟨102,upd (fun _=>.any) 4 (al x57.1),(bR b_rA x57.2 gz57_1607 gz57_1608),(oR x57.2 gz57_1607 gz57_1608)⟩) (Gh.le (aw aS) (aR Z (jb.r) aE) (aL (aL aF))) ?_;refine cT U Z (ps:=[(al x57.1)]) ⟨_,_,rfl,rfl,rfl⟩ (PLe.q Z) ⟨_,_,rfl,rfl⟩
 refine ab (am 2 U Z ?_);refine fA (γ:=Unit) (fun t1 g1=>⟨102,upd (upd (upd (upd (fun _=>.any) 58 (aK t1)) 12 (al sA.kind)) 3 (.ptr (aC sA))) 0 (.box 1500 b_rA 0),(bR b_rA rA g_rA_7 g_rA_8),(oR rA g_rA_7 g_rA_8)⟩) H (fun _ H=>?_) (fun t1 g1 H=>?_)
 ·refine aH Z H (fun H=>?_) (fun H=>?_)
  ·refine ap ?_;refine aV _ () H Gh.d
  refine bh 2 U Z ?_;refine aV _ () H Gh.d
 refine aH Z H (fun H=>?_) (fun H=>?_)
 ·refine ab (aa (ag 2 U Z ?_))
  obtain⟨x63,h63,H⟩:=aq H
  have s63:=hrec127 b_rA g_rA_7 g_rA_8 rA sA _ h63;refine cq (g:=127) Z Z Z call127 [(1500,1500)] [(1607,1607),(1608,1608)] Z Z Z Z (jb.of2 (jk.cons pE.boxT (jk.cons (pE.of_eq Z) jk.nil))) (by rw[cr,bO,be,be,bH];rfl) s63 ?_;rintro u63 H63h ⟨gz63_1607,gz63_1608,rfl,rfl⟩
  refine⟨_,rfl,?_⟩
  refine cu (st':=⟨_,_,(bR b_rA x63.2 gz63_1607 gz63_1608),(oR x63.2 gz63_1607 gz63_1608)⟩) (Gh.le (bL _ _) (aR Z (jb.r) aE) (aL (aL aF))) (ah U Z (ac ?_));obtain rfl:=az H;refine cx (st':=⟨102,upd (fun _=>.any) 4 (al x63.1),(bR b_rA x63.2 gz63_1607 gz63_1608),(oR x63.2 gz63_1607 gz63_1608)⟩) (Gh.le (aw aS) (aR Z (jb.r) aE) (aL (aL aF))) ?_;refine cT U Z (ps:=[(al x63.1)]) ⟨_,_,rfl,rfl,rfl⟩ (PLe.q Z) ⟨_,_,rfl,rfl⟩
 refine am 2 U Z ?_;refine aH Z H (fun H=>?_) (fun H=>?_)
 ·refine am 1 U Z (ab (ab (aa (ag 2 U Z (aB U (zl _) ?_)))));refine ah U Z (ac (gQ U 8 78 (e:=69) Z Z ?_));refine fW (γ:=OwnRef×OwnRef×OwnRef) U 69 68 67 (fun s2 g2=>upd (upd (upd (fun _=>.any) 8 (.own 78 g2.1 (s2.1.map ae).length)) 3 (.ptr (aC sA))) 0 (.box 1500 b_rA 0)) (fun s2 g2=>(bR b_rA s2.2 g2.2.1 g2.2.2)) (fun s2 g2=>upd (upd (upd (fun _=>none) 78 (some ⟨g2.1,69,(s2.1.map ae),true⟩)) 1608 (some ⟨g2.2.2,64,(s2.2.results.map bU),true⟩)) 1607 (some ⟨g2.2.1,56,(s2.2.changes.map bV),true⟩)) (⟨none,0⟩,g_rA_7,g_rA_8) H (fun fl2 Hp2 j2 s2 g2 hz2 hl2 x2 fb2 hx2 H hg2=>?_) (fun s2 g2 H=>?_)
  ·refine ab (aA (ab (aa (aU U (zn j2) (bn db hx2) ?_))));refine ah U Z ?_;refine bf U fun b10=>?_
   refine au U ?_;refine ac (aa (ag 2 U Z (aD U ?_)))
   obtain⟨x76,h76,H⟩:=aq H
   have s76:=iG b_rA g2.2.1 g2.2.2 s2.2 ([]:List LCol) ([]:Rq) x2 _ h76;refine cq (g:=124) Z Z Z call124 [(1500,1500)] [(1607,1607),(1608,1608)] Z Z Z Z (jb.of2 (jk.cons pE.boxT (jk.cons (pE.nil U Z) (jk.cons (pE.nil U Z) (jk.cons (pE.of_eq Z) jk.nil))))) (by rw[cr,bO,be,be,bH];rfl) s76 ?_;rintro u76 H76h ⟨gz76_1607,gz76_1608,rfl,rfl⟩
   refine⟨_,rfl,?_⟩
   refine cu (st':=⟨_,_,upd (bR b_rA x76.2 gz76_1607 gz76_1608) 10 (some ⟨b10,(iA x2)⟩),upd (upd (upd (fun _=>none) 78 (some ⟨g2.1,69,(s2.1.map ae),true⟩)) 1608 (some ⟨gz76_1608,64,(x76.2.results.map bU),true⟩)) 1607 (some ⟨gz76_1607,56,(x76.2.changes.map bV),true⟩)⟩) (Gh.le (bL _ _) (aR Z (jb.r) (aR Z (jb.r) aE)) (aL (aL (aL aF)))) ?_;refine ci U (rows':=List.map ae ([x76.1]:Rq)) (gH.refl _) ?_
   obtain⟨x78,h78,H⟩:=aq H
   have k78:=bS h78;refine bX (rows2':=List.map ae ([x76.1]:Rq)) (rows':=List.map ae x78) U Z Z Z Z Z Z Z Z Z Z Z Z Z (gH.refl _) (cD k78.1) (cC k78.2.1) (cE k78.2.2) fun g78=>?_
   refine ah U Z (ac (aM (bh 2 U Z ?_)));exact bm (g78,gz76_1607,gz76_1608) H hl2 hg2
  refine ab (cF 8 Z Z Z (aa (ag 5 U Z ?_)))
  obtain⟨x85,h85,H⟩:=aq H
  have s85:=nr b_rA g2.2.1 g2.2.2 s2.2 (LChange.mk 1 sA.table [] s2.1) _ h85;refine cq (g:=128) Z Z Z call128 [(1500,1500)] [(1607,1607),(1608,1608)] Z Z Z Z (jb.of2 (jk.cons pE.boxT (jk.cons (pE.agg (jk.cons (pE.of_eq Z) (jk.cons (pE.of_eq Z) (jk.cons (pE.nil U Z) (jk.cons (pE.of_eq Z) jk.nil))))) jk.nil))) (by rw[cr,bO,be,be,bH];rfl) s85 ?_;rintro u85 H85h ⟨gz85_1607,gz85_1608,rfl,rfl⟩
  refine⟨_,rfl,?_⟩
  refine cu (st':=⟨_,_,(bR b_rA x85.2 gz85_1607 gz85_1608),upd (upd (upd (fun _=>none) 78 (some ⟨g2.1,69,(s2.1.map ae),false⟩)) 1608 (some ⟨gz85_1608,64,(x85.2.results.map bU),true⟩)) 1607 (some ⟨gz85_1607,56,(x85.2.changes.map bV),true⟩)⟩) (Gh.le (bL _ _) (aR Z (jb.r) aE) (aL (aL (aL aF)))) ?_;refine ah U Z (ac ?_);obtain rfl:=az H;refine cx (st':=⟨102,upd (fun _=>.any) 4 (al x85.1),(bR b_rA x85.2 gz85_1607 gz85_1608),(oR x85.2 gz85_1607 gz85_1608)⟩) (Gh.le (aw aS) (aR Z (jb.r) aE) (aL (aL aF))) ?_;refine cT U Z (ps:=[(al x85.1)]) ⟨_,_,rfl,rfl,rfl⟩ (PLe.q Z) ⟨_,_,rfl,rfl⟩
 refine ab (am 2 U Z ?_);refine fA (γ:=Unit) (fun t3 g3=>⟨102,upd (upd (upd (upd (fun _=>.any) 86 (aK t3)) 12 (al sA.kind)) 3 (.ptr (aC sA))) 0 (.box 1500 b_rA 0),(bR b_rA rA g_rA_7 g_rA_8),(oR rA g_rA_7 g_rA_8)⟩) H (fun _ H=>?_) (fun t3 g3 H=>?_)
 ·refine aH Z H (fun H=>?_) (fun H=>?_)
  ·refine ap ?_;refine aV _ () H Gh.d
  refine bh 2 U Z ?_;refine aV _ () H Gh.d
 refine aH Z H (fun H=>?_) (fun H=>?_)
 ·refine ab (aa (ag 2 U Z ?_))
  obtain⟨x91,h91,H⟩:=aq H
  have s91:=sn b_rA g_rA_7 g_rA_8 rA sA _ h91;refine cq (g:=129) Z Z Z call129 [(1500,1500)] [(1607,1607),(1608,1608)] Z Z Z Z (jb.of2 (jk.cons pE.boxT (jk.cons (pE.of_eq Z) jk.nil))) (by rw[cr,bO,be,be,bH];rfl) s91 ?_;rintro u91 H91h ⟨gz91_1607,gz91_1608,rfl,rfl⟩
  refine⟨_,rfl,?_⟩
  refine cu (st':=⟨_,_,(bR b_rA x91.2 gz91_1607 gz91_1608),(oR x91.2 gz91_1607 gz91_1608)⟩) (Gh.le (bL _ _) (aR Z (jb.r) aE) (aL (aL aF))) (ah U Z (ac ?_));obtain rfl:=az H;refine cx (st':=⟨102,upd (fun _=>.any) 4 (al x91.1),(bR b_rA x91.2 gz91_1607 gz91_1608),(oR x91.2 gz91_1607 gz91_1608)⟩) (Gh.le (aw aS) (aR Z (jb.r) aE) (aL (aL aF))) ?_;refine cT U Z (ps:=[(al x91.1)]) ⟨_,_,rfl,rfl,rfl⟩ (PLe.q Z) ⟨_,_,rfl,rfl⟩
 refine am 2 U Z ?_;refine aH Z H (fun H=>?_) (fun H=>?_)
 ·refine ab (aa (ag 2 U Z ?_))
  obtain⟨x96,h96,H⟩:=cK H
  have s96:=qJ sA.code;rw[h96]at s96;refine ak call130 (jb.r) s96 ?_;refine ah U Z (ac ?_);obtain rfl:=az H;refine cx (st':=⟨102,upd (fun _=>.any) 4 (al x96),(bR b_rA rA g_rA_7 g_rA_8),(oR rA g_rA_7 g_rA_8)⟩) (Gh.le (aw aS) (aR Z (jb.r) aE) (aL (aL aF))) ?_;refine cT U Z (ps:=[(al x96)]) ⟨_,_,rfl,rfl,rfl⟩ (PLe.q Z) ⟨_,_,rfl,rfl⟩
 refine am 2 U Z ?_;refine aH Z H (fun H=>?_) (fun H=>?_)
 ·refine aa (ag 3 U Z (au U ?_));refine ac (aM (am 1 U Z ?_));obtain rfl:=az H;refine cx (st':=⟨102,upd (fun _=>.any) 4 (al 0),upd (fun _=>none) 1500 (some ⟨b_rA,[(.list 95 ((((LR.mk rA.s rA.st rA.args rA.vars rA.vals rA.changes rA.results rA.left true).s).tables).map bv)),(.list 145 ((((LR.mk rA.s rA.st rA.args rA.vars rA.vals rA.changes rA.results rA.left true).s).foreignKeys).map gM)),(.list 151 ((((LR.mk rA.s rA.st rA.args rA.vars rA.vals rA.changes rA.results rA.left true).s).constraints).map ix)),(.list 86 (((LR.mk rA.s rA.st rA.args rA.vars rA.vals rA.changes rA.results rA.left true).st).map bG)),(.list 69 (((LR.mk rA.s rA.st rA.args rA.vars rA.vals rA.changes rA.results rA.left true).args).map ae)),(.list 93 (((LR.mk rA.s rA.st rA.args rA.vars rA.vals rA.changes rA.results rA.left true).vars).map ay)),(.list 69 (((LR.mk rA.s rA.st rA.args rA.vars rA.vals rA.changes rA.results rA.left true).vals).map ae)),(.own 1607 g_rA_7 (rA.changes.map bV).length),(.own 1608 g_rA_8 (rA.results.map bU).length),(al ((LR.mk rA.s rA.st rA.args rA.vars rA.vals rA.changes rA.results rA.left true).left)),(aK ((LR.mk rA.s rA.st rA.args rA.vars rA.vals rA.changes rA.results rA.left true).stopped))]⟩),(oR rA g_rA_7 g_rA_8)⟩) (Gh.le (aw aS) (aR Z (jb.r) aE) (aL (aL aF))) ?_;refine cT U Z (ps:=[(al 0)]) ⟨_,_,rfl,rfl,rfl⟩ (PLe.q Z) ⟨_,_,rfl,rfl⟩
 refine ap (aM (am 1 U Z ?_));obtain rfl:=az H;refine cx (st':=⟨102,upd (fun _=>.any) 4 (al 0),(bR b_rA rA g_rA_7 g_rA_8),(oR rA g_rA_7 g_rA_8)⟩) (Gh.le (aw aS) (aR Z (jb.r) aE) (aL (aL aF))) ?_;refine cT U Z (ps:=[(al 0)]) ⟨_,_,rfl,rfl,rfl⟩ (PLe.q Z) ⟨_,_,rfl,rfl⟩
def ll(rec45:LR->(List LS)->Option (Int×LR))(_rec83:LR->LS->Option (Int×LR))(_rec126:LR->(List LS)->Option (Int×LR))(_rec127:LR->LS->Option (Int×LR))(rA:LR)(l:List LS):Option (Int×LR):=
 af (rec45 rA l) fun x18=>
 some (x18.1,(LR.mk x18.2.s x18.2.st x18.2.args rA.vars rA.vals x18.2.changes x18.2.results x18.2.left x18.2.stopped))
theorem rn(b_rA:Nat)(g_rA_7:OwnRef)(g_rA_8:OwnRef)(rec45:LR->(List LS)->Option (Int×LR))(rec83:LR->LS->Option (Int×LR))(rec126:LR->(List LS)->Option (Int×LR))(rec127:LR->LS->Option (Int×LR))(hrec45:∀bb0 gg0_7 gg0_8 a0 a1 r,rec45 a0 a1=some r->PH prog 45 [(.box 1500 bb0 0),(.list 40 (a1.map ax))] ⟨(bR bb0 a0 gg0_7 gg0_8),(oR a0 gg0_7 gg0_8)⟩ (fun u H=>∃gz0_7,∃gz0_8,u=(al r.1)/\H=⟨(bR bb0 r.2 gz0_7 gz0_8),(oR r.2 gz0_7 gz0_8)⟩))(_hrec83:∀bb0 gg0_7 gg0_8 a0 a1 r,rec83 a0 a1=some r->PH prog 83 [(.box 1500 bb0 0),(.agg (aC a1))] ⟨(bR bb0 a0 gg0_7 gg0_8),(oR a0 gg0_7 gg0_8)⟩ (fun u H=>∃gz0_7,∃gz0_8,u=(al r.1)/\H=⟨(bR bb0 r.2 gz0_7 gz0_8),(oR r.2 gz0_7 gz0_8)⟩))(_hrec126:∀bb0 gg0_7 gg0_8 a0 a1 r,rec126 a0 a1=some r->PH prog 126 [(.box 1500 bb0 0),(.list 40 (a1.map ax))] ⟨(bR bb0 a0 gg0_7 gg0_8),(oR a0 gg0_7 gg0_8)⟩ (fun u H=>∃gz0_7,∃gz0_8,u=(al r.1)/\H=⟨(bR bb0 r.2 gz0_7 gz0_8),(oR r.2 gz0_7 gz0_8)⟩))(_hrec127:∀bb0 gg0_7 gg0_8 a0 a1 r,rec127 a0 a1=some r->PH prog 127 [(.box 1500 bb0 0),(.agg (aC a1))] ⟨(bR bb0 a0 gg0_7 gg0_8),(oR a0 gg0_7 gg0_8)⟩ (fun u H=>∃gz0_7,∃gz0_8,u=(al r.1)/\H=⟨(bR bb0 r.2 gz0_7 gz0_8),(oR r.2 gz0_7 gz0_8)⟩))(rA:LR)(l:List LS)(r:Int×LR)(H:ll rec45 rec83 rec126 rec127 rA l=some r):
  PH prog 126 [(.box 1500 b_rA 0),(.list 40 (l.map ax))] ⟨(bR b_rA rA g_rA_7 g_rA_8),(oR rA g_rA_7 g_rA_8)⟩ (fun u H=>∃gz0_7,∃gz0_8,u=(al r.1)/\H=⟨(bR b_rA r.2 gz0_7 gz0_8),(oR r.2 gz0_7 gz0_8)⟩):=by
 unfold ll at H;refine PH.av func126 ntmps126 ?_;refine am 1 U Z (ab (bd U mok ⟨true,false,[]⟩ [0,1,2,3,4,5,6,7,8,9] Z (by decide+kernel) Z (aG 3 Z (bi ?_))));refine aG 3 Z (bi ?_);refine aG 2 Z (aZ (ab (aa (ag 2 U Z ?_))))
 obtain⟨x18,h18,H⟩:=aq H
 have s18:=hrec45 b_rA g_rA_7 g_rA_8 rA l _ h18;refine cq (g:=45) Z Z Z call45 [(1500,1500)] [(1607,1607),(1608,1608)] Z Z Z Z (jb.of2 (jk.cons pE.boxT (jk.cons (pE.of_eq Z) jk.nil))) (by rw[cr,bO,be,be,bH];rfl) s18 ?_;rintro u18 H18h ⟨gz18_1607,gz18_1608,rfl,rfl⟩
 refine⟨_,rfl,?_⟩
 refine cu (st':=⟨_,_,(bR b_rA x18.2 gz18_1607 gz18_1608),(oR x18.2 gz18_1607 gz18_1608)⟩) (Gh.le (bL _ _) (aR Z (jb.r) aE) (aL (aL aF))) (ah U Z (ac (ab (aa (ag 6 U Z (au U ?_))))));refine ag 2 U Z (au U ?_);refine ac (am 2 U Z ?_);obtain rfl:=az H;refine cx (st':=⟨28,upd (fun _=>.any) 4 (al x18.1),upd (fun _=>none) 1500 (some ⟨b_rA,[(.list 95 ((((LR.mk x18.2.s x18.2.st x18.2.args rA.vars rA.vals x18.2.changes x18.2.results x18.2.left x18.2.stopped).s).tables).map bv)),(.list 145 ((((LR.mk x18.2.s x18.2.st x18.2.args rA.vars rA.vals x18.2.changes x18.2.results x18.2.left x18.2.stopped).s).foreignKeys).map gM)),(.list 151 ((((LR.mk x18.2.s x18.2.st x18.2.args rA.vars rA.vals x18.2.changes x18.2.results x18.2.left x18.2.stopped).s).constraints).map ix)),(.list 86 (((LR.mk x18.2.s x18.2.st x18.2.args rA.vars rA.vals x18.2.changes x18.2.results x18.2.left x18.2.stopped).st).map bG)),(.list 69 (((LR.mk x18.2.s x18.2.st x18.2.args rA.vars rA.vals x18.2.changes x18.2.results x18.2.left x18.2.stopped).args).map ae)),(.list 93 (((LR.mk x18.2.s x18.2.st x18.2.args rA.vars rA.vals x18.2.changes x18.2.results x18.2.left x18.2.stopped).vars).map ay)),(.list 69 (((LR.mk x18.2.s x18.2.st x18.2.args rA.vars rA.vals x18.2.changes x18.2.results x18.2.left x18.2.stopped).vals).map ae)),(.own 1607 gz18_1607 (x18.2.changes.map bV).length),(.own 1608 gz18_1608 (x18.2.results.map bU).length),(al ((LR.mk x18.2.s x18.2.st x18.2.args rA.vars rA.vals x18.2.changes x18.2.results x18.2.left x18.2.stopped).left)),(aK ((LR.mk x18.2.s x18.2.st x18.2.args rA.vars rA.vals x18.2.changes x18.2.results x18.2.left x18.2.stopped).stopped))]⟩),(oR x18.2 gz18_1607 gz18_1608)⟩) (Gh.le (aw aS) (aR Z (jb.r) aE) (aL (aL aF))) ?_;refine cT U Z (ps:=[(al x18.1)]) ⟨_,_,rfl,rfl,rfl⟩ (PLe.q Z) ⟨_,_,rfl,rfl⟩
def lR(rec45:LR->(List LS)->Option (Int×LR))(_rec83:LR->LS->Option (Int×LR))(_rec126:LR->(List LS)->Option (Int×LR))(_rec127:LR->LS->Option (Int×LR))(rA:LR)(sA:LS):Option (Int×LR):=
 af (aP sA.query 0) fun(x25:LQuery)=>
 af (ic rA.s rA.st x25 rA.args rA.vars rA.vals) fun x39=>
 cond (x39.2 !=(0:Int))
  (some (x39.2,rA))
  (cond (sA.kind==(7:Int))
   (cond ((rA.results.length:Int)==(8:Int))
    (some (2,rA))
    (af (cJ 48 rA.results ([x39.1]:List LResult)) fun(x61:List LResult)=>
    some (0,(LR.mk rA.s rA.st rA.args rA.vars rA.vals rA.changes x61 rA.left rA.stopped))))
   (af (aN (σ:=LR) (ρ:=(Int×LR)) (fun(_:Nat) (x1:Rq) (s1:LR)=>
    cond s1.stopped
     (some (.brk s1))
     (af (aN (σ:=LR) (ρ:=Empty) (fun(j4:Nat) (x4:LCol) (s4:LR)=>
      af (aP x1 (j4:Int)) fun(x103:LVal)=>
      af (hP s4 x4 x103) fun x105=>
      some (.next x105)) 0 x39.1.columns (LR.mk s1.s s1.st s1.args rA.vars rA.vals s1.changes s1.results s1.left s1.stopped)) fun fl4=>fl4.thenP fun(s4:LR)=>
     af (rec45 s4 sA.body) fun x110=>
     cond (x110.1 !=(0:Int))
      (some (.ret (x110.1,x110.2)))
      (some (.next x110.2)))) 0 x39.1.rows rA) fun fl1=>fl1.thenR fun(s1:LR)=>
   some (0,(LR.mk s1.s s1.st s1.args rA.vars rA.vals s1.changes s1.results s1.left s1.stopped))))
theorem sE(b_rA:Nat)(g_rA_7:OwnRef)(g_rA_8:OwnRef)(rec45:LR->(List LS)->Option (Int×LR))(rec83:LR->LS->Option (Int×LR))(rec126:LR->(List LS)->Option (Int×LR))(rec127:LR->LS->Option (Int×LR))(hrec45:∀bb0 gg0_7 gg0_8 a0 a1 r,rec45 a0 a1=some r->PH prog 45 [(.box 1500 bb0 0),(.list 40 (a1.map ax))] ⟨(bR bb0 a0 gg0_7 gg0_8),(oR a0 gg0_7 gg0_8)⟩ (fun u H=>∃gz0_7,∃gz0_8,u=(al r.1)/\H=⟨(bR bb0 r.2 gz0_7 gz0_8),(oR r.2 gz0_7 gz0_8)⟩))(_hrec83:∀bb0 gg0_7 gg0_8 a0 a1 r,rec83 a0 a1=some r->PH prog 83 [(.box 1500 bb0 0),(.agg (aC a1))] ⟨(bR bb0 a0 gg0_7 gg0_8),(oR a0 gg0_7 gg0_8)⟩ (fun u H=>∃gz0_7,∃gz0_8,u=(al r.1)/\H=⟨(bR bb0 r.2 gz0_7 gz0_8),(oR r.2 gz0_7 gz0_8)⟩))(_hrec126:∀bb0 gg0_7 gg0_8 a0 a1 r,rec126 a0 a1=some r->PH prog 126 [(.box 1500 bb0 0),(.list 40 (a1.map ax))] ⟨(bR bb0 a0 gg0_7 gg0_8),(oR a0 gg0_7 gg0_8)⟩ (fun u H=>∃gz0_7,∃gz0_8,u=(al r.1)/\H=⟨(bR bb0 r.2 gz0_7 gz0_8),(oR r.2 gz0_7 gz0_8)⟩))(_hrec127:∀bb0 gg0_7 gg0_8 a0 a1 r,rec127 a0 a1=some r->PH prog 127 [(.box 1500 bb0 0),(.agg (aC a1))] ⟨(bR bb0 a0 gg0_7 gg0_8),(oR a0 gg0_7 gg0_8)⟩ (fun u H=>∃gz0_7,∃gz0_8,u=(al r.1)/\H=⟨(bR bb0 r.2 gz0_7 gz0_8),(oR r.2 gz0_7 gz0_8)⟩))(rA:LR)(sA:LS)(r:Int×LR)(H:lR rec45 rec83 rec126 rec127 rA sA=some r):
  PH prog 127 [(.box 1500 b_rA 0),(.agg (aC sA))] ⟨(bR b_rA rA g_rA_7 g_rA_8),(oR rA g_rA_7 g_rA_8)⟩ (fun u H=>∃gz0_7,∃gz0_8,u=(al r.1)/\H=⟨(bR b_rA r.2 gz0_7 gz0_8),(oR r.2 gz0_7 gz0_8)⟩):=by
 unfold lR at H;refine PH.av func127 ntmps127 ?_;refine ab (aa (aJ ?_));refine ah U Z (ac (ab (bd U mok ⟨true,false,[24,26]⟩ [0,1,2,3,4,5,6,7,8,9,10,11,12,13,14,15,16,17,18,19,20,21,22,23,24,25,26,27,28,29,30] Z (by decide+kernel) Z (aG 3 Z (bi ?_)))));refine aG 3 Z (bi ?_);refine aG 2 Z ?_
 obtain⟨x25,k25,H⟩:=bl H
 refine bs k25.1 (aO cN k25.2) ?_;refine aG 4 Z (bi ?_);refine aG 3 Z (bi ?_);refine aG 3 Z (bi ?_)
 obtain⟨x39,h39,H⟩:=aq H
 have s39:=rh rA.s rA.st x25 rA.args rA.vars rA.vals _ h39;refine aW call70 (jb.r) s39 ?_;refine aG 3 Z ?_;refine oH Z Z Z Z Z Z Z Z fun b5=>?_
 refine gw Z Z Z Z Z Z Z Z Z Z Z Z (bA Z (aZ (ab (am 2 U Z ?_))));refine aH Z H (fun H=>?_) (fun H=>?_)
 ·refine am 2 U Z ?_;obtain rfl:=az H;refine cx (st':=⟨123,upd (fun _=>.any) 4 (al x39.2),(bR b_rA rA g_rA_7 g_rA_8),(oR rA g_rA_7 g_rA_8)⟩) (Gh.le (aw aS) (aR Z (jb.r) aE) (aL (aL aF))) ?_;refine cT U Z (ps:=[(al x39.2)]) ⟨_,_,rfl,rfl,rfl⟩ (PLe.q Z) ⟨_,_,rfl,rfl⟩
 refine ap (ab (am 3 U Z ?_));refine aH Z H (fun H=>?_) (fun H=>?_)
 ·refine ab (ab (aa (ag 3 U Z (aD U ?_))));refine eD U (zl _) ?_;refine ah U Z (ac ?_);refine aH Z H (fun H=>?_) (fun H=>?_)
  ·refine am 1 U Z ?_;obtain rfl:=az H;refine cx (st':=⟨123,upd (fun _=>.any) 4 (al 2),(bR b_rA rA g_rA_7 g_rA_8),(oR rA g_rA_7 g_rA_8)⟩) (Gh.le (aw aS) (aR Z (jb.r) aE) (aL (aL aF))) ?_;refine cT U Z (ps:=[(al 2)]) ⟨_,_,rfl,rfl,rfl⟩ (PLe.q Z) ⟨_,_,rfl,rfl⟩
  refine ap (ab (jM 5 ?_));refine bd U mok ⟨true,false,[59]⟩ [0,1,2,3,4,5,6,7,8,9,10] Z (by decide+kernel) Z (aG 4 Z (bi ?_));refine aG 2 Z ?_
  obtain⟨x61,h61,H⟩:=aq H
  have k61:=bS h61;refine gk (rows2':=List.map bU ([x39.1]:List LResult)) (rows':=List.map bU x61) U Z Z Z Z Z Z Z Z Z Z Z Z Z Z (gH.refl _) (cD k61.1) (cC k61.2.1) (cE k61.2.2) fun g61=>?_
  refine aG 2 Z (gw Z Z Z Z Z Z Z Z Z Z Z Z (aZ (am 1 U Z ?_)));obtain rfl:=az H;refine cx (st':=⟨123,upd (fun _=>.any) 4 (al 0),upd (fun _=>none) 1500 (some ⟨b_rA,[(.list 95 ((((LR.mk rA.s rA.st rA.args rA.vars rA.vals rA.changes x61 rA.left rA.stopped).s).tables).map bv)),(.list 145 ((((LR.mk rA.s rA.st rA.args rA.vars rA.vals rA.changes x61 rA.left rA.stopped).s).foreignKeys).map gM)),(.list 151 ((((LR.mk rA.s rA.st rA.args rA.vars rA.vals rA.changes x61 rA.left rA.stopped).s).constraints).map ix)),(.list 86 (((LR.mk rA.s rA.st rA.args rA.vars rA.vals rA.changes x61 rA.left rA.stopped).st).map bG)),(.list 69 (((LR.mk rA.s rA.st rA.args rA.vars rA.vals rA.changes x61 rA.left rA.stopped).args).map ae)),(.list 93 (((LR.mk rA.s rA.st rA.args rA.vars rA.vals rA.changes x61 rA.left rA.stopped).vars).map ay)),(.list 69 (((LR.mk rA.s rA.st rA.args rA.vars rA.vals rA.changes x61 rA.left rA.stopped).vals).map ae)),(.own 1607 g_rA_7 (rA.changes.map bV).length),(.own 1608 g61 (x61.map bU).length),(al ((LR.mk rA.s rA.st rA.args rA.vars rA.vals rA.changes x61 rA.left rA.stopped).left)),(aK ((LR.mk rA.s rA.st rA.args rA.vars rA.vals rA.changes x61 rA.left rA.stopped).stopped))]⟩),upd (upd (fun _=>none) 1608 (some ⟨g61,64,(x61.map bU),true⟩)) 1607 (some ⟨g_rA_7,56,(rA.changes.map bV),true⟩)⟩) (Gh.le (aw aS) (aR Z (jb.r) aE) (aL (aL aF))) ?_;refine cT U Z (ps:=[(al 0)]) ⟨_,_,rfl,rfl,rfl⟩ (PLe.q Z) ⟨_,_,rfl,rfl⟩
 refine ap (ab (bd U mok ⟨true,false,[]⟩ [0,1,2,3,4,5,6,7,8,9] Z (by decide+kernel) Z (aG 3 Z (bi ?_))));refine aG 3 Z (bi ?_);refine aG 2 Z (aZ (ab (ab (aa (ah U Z (aD U ?_))))));refine aB U (zl _) ?_;refine ah U Z (ac ?_)
 obtain⟨fl1,H1,Hp1⟩:=aq H
 refine ib U 73 Z Z (fun hz1 _=>?_);rw[zl]at hz1;refine fm (τ:=LR) (γ:=OwnRef×OwnRef) (fun s1 g1=>⟨123,upd (upd (upd (upd (fun _=>.any) 8 (.list 69 (rA.vals.map ae))) 7 (.list 93 (rA.vars.map ay))) 3 (.ptr (aC sA))) 0 (.box 1500 b_rA 0),(bR b_rA s1 g1.1 g1.2),(oR s1 g1.1 g1.2)⟩) (fun t=>fl1= .next t) ?_ (fun s1 g1 hn1=>?_)
 ·refine aA ?_;refine iH (fun j1 s1 g1=>⟨123,upd (upd (upd (upd (upd (upd (upd (upd (fun _=>.any) 75 (al (j1:Int))) 74 (al (x39.1.rows.length:Int))) 73 (.list 54 (x39.1.rows.map rRr))) 8 (.list 69 (rA.vals.map ae))) 7 (.list 93 (rA.vars.map ay))) 5 (.box 5 b5 0)) 3 (.ptr (aC sA))) 0 (.box 1500 b_rA 0),upd (bR b_rA s1 g1.1 g1.2) 5 (some ⟨b5,(bU x39.1)⟩),(oR s1 g1.1 g1.2)⟩) (g_rA_7,g_rA_8) H1 Gh.d (fun j1 s1 g1 hj1 hr1=>?_);refine am 1 U Z (ab ?_);refine bp Z (fun h=>?_) (fun h=>?_)
  ·have hl1:=pm h
   obtain⟨x1,fb1,hx1,H,hg1⟩:=rMc hl1 hr1
   refine ap (ab (aA (ab (aa ?_))));refine aU U (zn j1) (bn (fun _=>Z) hx1) ?_;refine ag 2 U Z (ac (ab (ab (aa (ag 3 U Z (aD U ?_))))));refine ac ?_;refine aH Z H (fun H=>?_) (fun H=>?_)
   ·refine bq Z ?_;obtain rfl:=az H;refine aV s1 (g1.1,g1.2) hg1 Gh.d
   refine ap (ab (aa (ag 6 U Z (au U ?_))));refine ag 2 U Z (au U ?_);refine ac (ab (ab (aa (ah U Z (aD U ?_)))));refine aB U (zl _) ?_;refine ah U Z (ac ?_);refine fW (γ:=OwnRef×OwnRef) U 94 93 92 (fun s4 g4=>upd (upd (upd (upd (upd (upd (upd (upd (upd (fun _=>.any) 75 (al (j1:Int))) 74 (al (x39.1.rows.length:Int))) 73 (.list 54 (x39.1.rows.map rRr))) 10 (.list 69 (x1.map ae))) 8 (.list 69 (rA.vals.map ae))) 7 (.list 93 (rA.vars.map ay))) 5 (.box 5 b5 0)) 3 (.ptr (aC sA))) 0 (.box 1500 b_rA 0)) (fun s4 g4=>upd (bR b_rA s4 g4.1 g4.2) 5 (some ⟨b5,(bU x39.1)⟩)) (fun s4 g4=>(oR s4 g4.1 g4.2)) (g1.1,g1.2) H (fun fl4 Hp4 j4 s4 g4 hz4 hl4 x4 fb4 hx4 H hg4=>?_) (fun s4 g4 H=>?_)
   ·refine ab (aA (ab (aa (ah U Z ?_))));refine aU U (zn j4) (bn (fun _=>Z) hx4) ?_;refine ah U Z ?_;refine bf U fun b12=>?_
    refine ah U Z (au U ?_);refine ac (bd U mok ⟨true,false,[104,999997,3000012,4000100]⟩ [0,1,2,3,4,5,6] Z (by decide+kernel) Z (bA Z (vc U Z Z Z Z Z Z Z Z Z Z (aG 2 Z ?_))))
    obtain⟨x103,k103,H⟩:=bl H
    refine bs k103.1 (aO (fun _=>Z) k103.2) ?_;refine bA Z ?_
    obtain⟨x105,h105,H⟩:=aq H
    have s105:=oe b_rA g4.1 g4.2 s4 x4 x103 _ h105;refine pg (g:=123) Z Z Z Z call123 Z Z [(1500,1500)] [(1607,1607),(1608,1608)] Z Z Z Z (jb.of2 (jk.cons pE.boxT (jk.cons (pE.of_eq Z) (jk.cons (pE.of_eq Z) jk.nil)))) (by rw[cr,bO,be,be,bH];rfl) s105 ?_;rintro u105 H105h ⟨gz105_1607,gz105_1608,rfl,rfl⟩
    refine⟨_,rfl,?_⟩
    refine aZ (cx (st':=⟨_,_,upd (upd (bR b_rA x105 gz105_1607 gz105_1608) 12 (some ⟨b12,(ay x4)⟩)) 5 (some ⟨b5,(bU x39.1)⟩),(oR x105 gz105_1607 gz105_1608)⟩) (Gh.le (bL _ _) (aR Z (jb.r) (aR Z (jb.r) (aR Z (jb.r) aE))) (aL (aL aF))) (aM (bh 2 U Z ?_)));exact bm (gz105_1607,gz105_1608) H hl4 hg4
   refine ab (aa (ag 3 U Z ?_))
   obtain⟨x110,h110,H⟩:=aq H
   have s110:=hrec45 b_rA g4.1 g4.2 s4 sA.body _ h110;refine cq (g:=45) Z Z Z call45 [(1500,1500)] [(1607,1607),(1608,1608)] Z Z Z Z (jb.of2 (jk.cons pE.boxT (jk.cons (pE.of_eq Z) jk.nil))) (by rw[cr,bO,be,be,bH];rfl) s110 ?_;rintro u110 H110h ⟨gz110_1607,gz110_1608,rfl,rfl⟩
   refine⟨_,rfl,?_⟩
   refine cu (st':=⟨_,_,upd (bR b_rA x110.2 gz110_1607 gz110_1608) 5 (some ⟨b5,(bU x39.1)⟩),(oR x110.2 gz110_1607 gz110_1608)⟩) (Gh.le (bL _ _) (aR Z (jb.r) (aR Z (jb.r) aE)) (aL (aL aF))) (ah U Z (ac (am 2 U Z ?_)));refine aH Z H (fun H=>?_) (fun H=>?_)
   ·refine am 2 U Z ?_;obtain rfl:=az H;have e1:fl1= .ret _:=hg1;subst e1;obtain rfl:=aT Hp1;refine cx (st':=⟨123,upd (fun _=>.any) 4 (al x110.1),(bR b_rA x110.2 gz110_1607 gz110_1608),(oR x110.2 gz110_1607 gz110_1608)⟩) (Gh.le (aw aS) (aR Z (jb.r) aE) (aL (aL aF))) ?_;refine cT U Z (ps:=[(al x110.1)]) ⟨_,_,rfl,rfl,rfl⟩ (PLe.q Z) ⟨_,_,rfl,rfl⟩
   refine ap (aM (bh 2 U Z ?_));exact bm (gz110_1607,gz110_1608) H hl1 hg1
  have hn1:=rMd (pz h) hr1;refine bq Z ?_;refine aV s1 g1 hn1 Gh.d
 have H:=lA hn1 Hp1;refine ab (aa (ag 6 U Z (au U ?_)));refine ag 2 U Z (au U ?_);refine ac (am 1 U Z ?_);obtain rfl:=az H;refine cx (st':=⟨123,upd (fun _=>.any) 4 (al 0),upd (fun _=>none) 1500 (some ⟨b_rA,[(.list 95 ((((LR.mk s1.s s1.st s1.args rA.vars rA.vals s1.changes s1.results s1.left s1.stopped).s).tables).map bv)),(.list 145 ((((LR.mk s1.s s1.st s1.args rA.vars rA.vals s1.changes s1.results s1.left s1.stopped).s).foreignKeys).map gM)),(.list 151 ((((LR.mk s1.s s1.st s1.args rA.vars rA.vals s1.changes s1.results s1.left s1.stopped).s).constraints).map ix)),(.list 86 (((LR.mk s1.s s1.st s1.args rA.vars rA.vals s1.changes s1.results s1.left s1.stopped).st).map bG)),(.list 69 (((LR.mk s1.s s1.st s1.args rA.vars rA.vals s1.changes s1.results s1.left s1.stopped).args).map ae)),(.list 93 (((LR.mk s1.s s1.st s1.args rA.vars rA.vals s1.changes s1.results s1.left s1.stopped).vars).map ay)),(.list 69 (((LR.mk s1.s s1.st s1.args rA.vars rA.vals s1.changes s1.results s1.left s1.stopped).vals).map ae)),(.own 1607 g1.1 (s1.changes.map bV).length),(.own 1608 g1.2 (s1.results.map bU).length),(al ((LR.mk s1.s s1.st s1.args rA.vars rA.vals s1.changes s1.results s1.left s1.stopped).left)),(aK ((LR.mk s1.s s1.st s1.args rA.vars rA.vals s1.changes s1.results s1.left s1.stopped).stopped))]⟩),(oR s1 g1.1 g1.2)⟩) (Gh.le (aw aS) (aR Z (jb.r) aE) (aL (aL aF))) ?_;refine cT U Z (ps:=[(al 0)]) ⟨_,_,rfl,rfl,rfl⟩ (PLe.q Z) ⟨_,_,rfl,rfl⟩
mutual
def dI:Nat->LR->(List LS)->Option (Int×LR)
 |0,_,_=>none
 |n+1,v0,v1=>lz (fun b0 b1=>dI n b0 b1) (fun b0 b1=>dN n b0 b1) (fun b0 b1=>dz n b0 b1) (fun b0 b1=>dZ n b0 b1) v0 v1
def dN:Nat->LR->LS->Option (Int×LR)
 |0,_,_=>none
 |n+1,v0,v1=>lq (fun b0 b1=>dI n b0 b1) (fun b0 b1=>dN n b0 b1) (fun b0 b1=>dz n b0 b1) (fun b0 b1=>dZ n b0 b1) v0 v1
def dz:Nat->LR->(List LS)->Option (Int×LR)
 |0,_,_=>none
 |n+1,v0,v1=>ll (fun b0 b1=>dI n b0 b1) (fun b0 b1=>dN n b0 b1) (fun b0 b1=>dz n b0 b1) (fun b0 b1=>dZ n b0 b1) v0 v1
def dZ:Nat->LR->LS->Option (Int×LR)
 |0,_,_=>none
 |n+1,v0,v1=>lR (fun b0 b1=>dI n b0 b1) (fun b0 b1=>dN n b0 b1) (fun b0 b1=>dz n b0 b1) (fun b0 b1=>dZ n b0 b1) v0 v1
end
theorem rU  (n:Nat):(∀bb0 gg0_7 gg0_8 a0 a1 r,dI n a0 a1=some r->PH prog 45 [(.box 1500 bb0 0),(.list 40 (a1.map ax))] ⟨(bR bb0 a0 gg0_7 gg0_8),(oR a0 gg0_7 gg0_8)⟩ (fun u H=>∃gz0_7,∃gz0_8,u=(al r.1)/\H=⟨(bR bb0 r.2 gz0_7 gz0_8),(oR r.2 gz0_7 gz0_8)⟩))/\(∀bb0 gg0_7 gg0_8 a0 a1 r,dN n a0 a1=some r->PH prog 83 [(.box 1500 bb0 0),(.agg (aC a1))] ⟨(bR bb0 a0 gg0_7 gg0_8),(oR a0 gg0_7 gg0_8)⟩ (fun u H=>∃gz0_7,∃gz0_8,u=(al r.1)/\H=⟨(bR bb0 r.2 gz0_7 gz0_8),(oR r.2 gz0_7 gz0_8)⟩))/\(∀bb0 gg0_7 gg0_8 a0 a1 r,dz n a0 a1=some r->PH prog 126 [(.box 1500 bb0 0),(.list 40 (a1.map ax))] ⟨(bR bb0 a0 gg0_7 gg0_8),(oR a0 gg0_7 gg0_8)⟩ (fun u H=>∃gz0_7,∃gz0_8,u=(al r.1)/\H=⟨(bR bb0 r.2 gz0_7 gz0_8),(oR r.2 gz0_7 gz0_8)⟩))/\(∀bb0 gg0_7 gg0_8 a0 a1 r,dZ n a0 a1=some r->PH prog 127 [(.box 1500 bb0 0),(.agg (aC a1))] ⟨(bR bb0 a0 gg0_7 gg0_8),(oR a0 gg0_7 gg0_8)⟩ (fun u H=>∃gz0_7,∃gz0_8,u=(al r.1)/\H=⟨(bR bb0 r.2 gz0_7 gz0_8),(oR r.2 gz0_7 gz0_8)⟩)):=by
 induction n with
 |zero=>exact⟨(by intros;rename_i h;exact absurd (show(none:Option _)=some _ from h) (by simp)),(by intros;rename_i h;exact absurd (show(none:Option _)=some _ from h) (by simp)),(by intros;rename_i h;exact absurd (show(none:Option _)=some _ from h) (by simp)),(by intros;rename_i h;exact absurd (show(none:Option _)=some _ from h) (by simp))⟩
 |succ n ih=>
  exact⟨(fun bb0 gg0_7 gg0_8 v0 v1 r h=>rR bb0 gg0_7 gg0_8 (fun b0 b1=>dI n b0 b1) (fun b0 b1=>dN n b0 b1) (fun b0 b1=>dz n b0 b1) (fun b0 b1=>dZ n b0 b1) ih.1 ih.2.1 ih.2.2.1 ih.2.2.2 v0 v1  r h),(fun bb0 gg0_7 gg0_8 v0 v1 r h=>rH bb0 gg0_7 gg0_8 (fun b0 b1=>dI n b0 b1) (fun b0 b1=>dN n b0 b1) (fun b0 b1=>dz n b0 b1) (fun b0 b1=>dZ n b0 b1) ih.1 ih.2.1 ih.2.2.1 ih.2.2.2 v0 v1  r h),(fun bb0 gg0_7 gg0_8 v0 v1 r h=>rn bb0 gg0_7 gg0_8 (fun b0 b1=>dI n b0 b1) (fun b0 b1=>dN n b0 b1) (fun b0 b1=>dz n b0 b1) (fun b0 b1=>dZ n b0 b1) ih.1 ih.2.1 ih.2.2.1 ih.2.2.2 v0 v1  r h),(fun bb0 gg0_7 gg0_8 v0 v1 r h=>sE bb0 gg0_7 gg0_8 (fun b0 b1=>dI n b0 b1) (fun b0 b1=>dN n b0 b1) (fun b0 b1=>dz n b0 b1) (fun b0 b1=>dZ n b0 b1) ih.1 ih.2.1 ih.2.2.1 ih.2.2.2 v0 v1  r h)⟩
def nT(rA:LR)(l:List LS):Option (Int×LR):=ij fun n=>dI n rA l
theorem ss(b_rA:Nat)(g_rA_7:OwnRef)(g_rA_8:OwnRef)(rA:LR)(l:List LS)(r:Int×LR)(H:nT rA l=some r):
  PH prog 45 [(.box 1500 b_rA 0),(.list 40 (l.map ax))] ⟨(bR b_rA rA g_rA_7 g_rA_8),(oR rA g_rA_7 g_rA_8)⟩ (fun u H=>∃gz0_7,∃gz0_8,u=(al r.1)/\H=⟨(bR b_rA r.2 gz0_7 gz0_8),(oR r.2 gz0_7 gz0_8)⟩):=by
 obtain⟨n,h⟩:=jt H
 exact(rU  n).1 b_rA g_rA_7 g_rA_8 rA l r h
def L_procedure_run_stmt(rA:LR)(sA:LS):Option (Int×LR):=ij fun n=>dN n rA sA
def L_procedure_run_inner(rA:LR)(l:List LS):Option (Int×LR):=ij fun n=>dz n rA l
def L_procedure_run_ask(rA:LR)(sA:LS):Option (Int×LR):=ij fun n=>dZ n rA sA
def lX(sA:LSchema)(st:List LW)(p:LP)(args:Rq):Option ((List LChange)×(List LResult)×Int):=
 af (kS sA p) fun x19=>
 cond (x19 !=(0:Int))
  (some ([],[],x19))
  (cond (decide ((args.length:Int)<(p.parameters.length:Int)))
   (some ([],[],1))
   (af (aN (σ:=Unit) (ρ:=((List LChange)×(List LResult)×Int)) (fun(j1:Nat) (x1:Int) (_:Unit)=>
    af (aP args (j1:Int)) fun(x39:LVal)=>
    letP (kX x39) fun x41=>
    cond (!x41)
     (some (.ret ([],[],7)))
     (af (aP args (j1:Int)) fun(x46:LVal)=>
     cond (x46.kind !=x1)
      (af (aP args (j1:Int)) fun(x54:LVal)=>
      cond (x54.kind !=(0:Int))
       (some (.ret ([],[],7)))
       (some (.next ())))
      (some (.next ())))) 0 p.parameters ()) fun fl1=>fl1.thenR fun(_:Unit)=>
   af (eH sA st) fun x63=>
   cond (x63 !=(0:Int))
    (some ([],[],x63))
    (af (nK args 0 (p.parameters.length:Int)) fun(x73:Rq)=>
    af (nT (LR.mk sA st x73 [] [] [] [] 400 false) p.body) fun x80=>
    cond (x80.1 !=(0:Int))
     (some ([],[],x80.1))
     (some (x80.2.changes,x80.2.results,0)))))
theorem qQ(sA:LSchema)(st:List LW)(p:LP)(args:Rq)(r:(List LChange)×(List LResult)×Int)(H:lX sA st p args=some r):
  aQ prog 14 [(.agg (cy sA)),(.list 86 (st.map bG)),(.agg (fC p)),(.list 69 (args.map ae))] (.tup [(.list 56 (r.1.map bV)),(.list 64 (r.2.1.map bU)),(al r.2.2)]):=by
 unfold lX at H;refine PH.av func14 ntmps14 ?_;refine ab (aa (aJ ?_));refine aJ ?_;refine ag 3 U Z (ac (ab (ab (aa (ag 2 U Z ?_)))))
 obtain⟨x19,h19,H⟩:=aq H
 have s19:=pG sA p _ h19;refine ak call13 (jb.r) s19 ?_;refine ah U Z (ac (am 2 U Z ?_));refine aH Z H (fun H=>?_) (fun H=>?_)
 ·refine am 4 U Z ?_;obtain rfl:=az H;refine ba U Z (ps:=[(.val (.slice none 0 0)),(.val (.slice none 0 0)),(al x19)]) ⟨_,_,rfl,rfl,_,_,rfl,rfl,_,_,rfl,rfl,rfl⟩ (PLe.of2 (pE.tup (jk.cons (pE.nil U Z) (jk.cons (pE.nil U Z) (jk.cons (pE.of_eq Z) jk.nil)))))
 refine ap (ab (ab (aa (ah U Z (aB U (zl _) ?_)))));refine ag 2 U Z (aB U (zl _) ?_);refine ah U Z (ac ?_);refine aH Z H (fun H=>?_) (fun H=>?_)
 ·refine am 3 U Z ?_;obtain rfl:=az H;refine ba U Z (ps:=[(.val (.slice none 0 0)),(.val (.slice none 0 0)),(al 1)]) ⟨_,_,rfl,rfl,_,_,rfl,rfl,_,_,rfl,rfl,rfl⟩ (PLe.of2 (pE.tup (jk.cons (pE.nil U Z) (jk.cons (pE.nil U Z) (jk.cons (pE.of_eq Z) jk.nil)))))
 refine ap (ab (ab (aa (ag 2 U Z (aB U (zl _) ?_)))));refine ah U Z (ac ?_);refine eG U 32 31 30 (fun s1 g1=>upd (upd (upd (upd (fun _=>.any) 6 (.ptr (fC p))) 4 (.ptr (cy sA))) 3 (.list 69 (args.map ae))) 1 (.list 86 (st.map bG))) nB nO () H (fun fl1 Hp1 j1 s1 g1 hz1 hl1 x1 fb1 hx1 H hg1=>?_) (fun s1 g1 H=>?_)
 ·refine ab (aA (ab (aa (ah U Z ?_))));refine aU U (zn j1) (bn (fun _=>Z) hx1) ?_;refine ag 3 U Z (ac (ab (aa (ag 2 U Z ?_))))
  obtain⟨x39,k39,H⟩:=bl H
  refine aU U k39.1 (aO (fun _=>Z) k39.2) ?_;refine ah U Z ?_
  obtain⟨x41,h41,H⟩:=cK H
  have s41:=ri x39;rw[h41]at s41;refine ak call43 (jb.r) s41 ?_;refine ag 2 U Z ?_;refine bj Z Z Z H (fun H=>?_) (fun H=>?_)
  ·refine ag 16 U Z (ac (bW Z (am 3 U Z ?_)));obtain rfl:=az H;have e1:fl1= .ret _:=hg1;subst e1;obtain rfl:=aT Hp1;refine ba U Z (ps:=[(.val (.slice none 0 0)),(.val (.slice none 0 0)),(al 7)]) ⟨_,_,rfl,rfl,_,_,rfl,rfl,_,_,rfl,rfl,rfl⟩ (PLe.of2 (pE.tup (jk.cons (pE.nil U Z) (jk.cons (pE.nil U Z) (jk.cons (pE.of_eq Z) jk.nil)))))
  refine ag 2 U Z ?_
  obtain⟨x46,k46,H⟩:=bl H
  refine aU U k46.1 (aO (fun _=>Z) k46.2) ?_;refine ag 5 U Z ?_;refine bj Z Z Z H (fun H=>?_) (fun H=>?_)
  ·refine ag 2 U Z ?_
   obtain⟨x54,k54,H⟩:=bl H
   refine aU U k54.1 (aO (fun _=>Z) k54.2) ?_;refine ag 5 U Z (ac ?_);refine aH Z H (fun H=>?_) (fun H=>?_)
   ·refine am 3 U Z ?_;obtain rfl:=az H;have e1:fl1= .ret _:=hg1;subst e1;obtain rfl:=aT Hp1;refine ba U Z (ps:=[(.val (.slice none 0 0)),(.val (.slice none 0 0)),(al 7)]) ⟨_,_,rfl,rfl,_,_,rfl,rfl,_,_,rfl,rfl,rfl⟩ (PLe.of2 (pE.tup (jk.cons (pE.nil U Z) (jk.cons (pE.nil U Z) (jk.cons (pE.of_eq Z) jk.nil)))))
   refine ap (aM (bh 2 U Z ?_));exact bm () H hl1 hg1
  refine ag 8 U Z (ac (bF Z (ap (aM (bh 2 U Z ?_)))));exact bm () H hl1 hg1
 refine ab (ab (aa (ag 2 U Z ?_)))
 obtain⟨x63,h63,H⟩:=aq H
 have s63:=kp sA st _ h63;refine ak call38 (jb.r) s63 ?_;refine ah U Z (ac (am 2 U Z ?_));refine aH Z H (fun H=>?_) (fun H=>?_)
 ·refine am 4 U Z ?_;obtain rfl:=az H;refine ba U Z (ps:=[(.val (.slice none 0 0)),(.val (.slice none 0 0)),(al x63)]) ⟨_,_,rfl,rfl,_,_,rfl,rfl,_,_,rfl,rfl,rfl⟩ (PLe.of2 (pE.tup (jk.cons (pE.nil U Z) (jk.cons (pE.nil U Z) (jk.cons (pE.of_eq Z) jk.nil)))))
 refine ap (ab (bd U mok ⟨false,false,[]⟩ [0,1,2,3,4,5,6,7,8,9,10] Z (by decide+kernel) Z (aG 5 Z (oG Z Z Z Z Z Z (zl _) Z ?_))))
 obtain⟨x73,h73,H⟩:=aq H
 have k73:=nf h73;refine vC Z Z Z Z Z Z (zl _) Z Z k73.1 (oI k73.2) Z ?_;have s74:=clone_44 (m:=74) x73;refine aW call44 (jb.r) (PFun.ik s74) ?_;refine bA Z ?_;refine Do.box (d:=76) Z Z Z Z Z Z fun b76=>?_
 refine bA Z (aZ (ab (ab (aa (ag 3 U Z (cu (Gh.nilOB U 76 7 1607 (e:=56) Z Z Z Z) (cu (Gh.nilOB U 76 8 1608 (e:=64) Z Z Z Z) ?_)))))))
 obtain⟨x80,h80,H⟩:=aq H
 have s80:=ss b76 (⟨none,0⟩) (⟨none,0⟩) (LR.mk sA st x73 [] [] [] [] 400 false) p.body _ h80;refine cu (st':=⟨_,_,upd (fun _=>none) 76 (some ⟨b76,[(.list 95 ((((LR.mk sA st x73 [] [] [] [] 400 false).s).tables).map bv)),(.list 145 ((((LR.mk sA st x73 [] [] [] [] 400 false).s).foreignKeys).map gM)),(.list 151 ((((LR.mk sA st x73 [] [] [] [] 400 false).s).constraints).map ix)),(.list 86 (((LR.mk sA st x73 [] [] [] [] 400 false).st).map bG)),(.list 69 (((LR.mk sA st x73 [] [] [] [] 400 false).args).map ae)),(.list 93 (((LR.mk sA st x73 [] [] [] [] 400 false).vars).map ay)),(.list 69 (((LR.mk sA st x73 [] [] [] [] 400 false).vals).map ae)),(.own 1607 ⟨none,0⟩ (([]:List LChange).map bV).length),(.own 1608 ⟨none,0⟩ (([]:List LResult).map bU).length),(al ((LR.mk sA st x73 [] [] [] [] 400 false).left)),(aK ((LR.mk sA st x73 [] [] [] [] 400 false).stopped))]⟩),upd (upd (fun _=>none) 1608 (some ⟨⟨none,0⟩,64,(([]:List LResult).map bU),true⟩)) 1607 (some ⟨⟨none,0⟩,56,(([]:List LChange).map bV),true⟩)⟩) (Gh.le (bL _ _) (aR Z (jb.of2 (jk.cons (pE.of_eq Z) (jk.cons (pE.of_eq Z) (jk.cons (pE.of_eq Z) (jk.cons (pE.of_eq Z) (jk.cons (pE.of_eq Z) (jk.cons (pE.nil U Z) (jk.cons (pE.nil U Z) (jk.cons (pE.of_eq Z) (jk.cons (pE.of_eq Z) (jk.cons (pE.of_eq Z) (jk.cons (pE.of_eq Z) jk.nil)))))))))))) aE) (aL (aL aF))) ?_;refine cq (g:=45) Z Z Z call45 [(76,1500)] [(1607,1607),(1608,1608)] Z Z Z Z (jb.of2 (jk.cons pE.boxT (jk.cons (pE.of_eq Z) jk.nil))) (by rw[cr,bO,be,be,bH];rfl) s80 ?_;rintro u80 H80h ⟨gz80_1607,gz80_1608,rfl,rfl⟩
 refine⟨_,rfl,?_⟩
 refine cu (st':=⟨_,_,upd (fun _=>none) 76 (some ⟨b76,(cR x80.2 gz80_1607 gz80_1608)⟩),(oR x80.2 gz80_1607 gz80_1608)⟩) (Gh.le (bL _ _) (aR Z (jb.r) aE) (aL (aL aF))) ?_;refine ah U Z (ac (am 2 U Z ?_));refine aH Z H (fun H=>?_) (fun H=>?_)
 ·refine am 4 U Z ?_;obtain rfl:=az H;refine ba U Z (ps:=[(.val (.slice none 0 0)),(.val (.slice none 0 0)),(al x80.1)]) ⟨_,_,rfl,rfl,_,_,rfl,rfl,_,_,rfl,rfl,rfl⟩ (PLe.of2 (pE.tup (jk.cons (pE.nil U Z) (jk.cons (pE.nil U Z) (jk.cons (pE.of_eq Z) jk.nil)))))
 refine ap (ab (bd U mok ⟨true,false,[]⟩ [0,1,2,3,4,5,6,7,8,9,10] Z (by decide+kernel) Z (aG 3 Z (bi ?_))));refine aG 3 Z (bi ?_);refine aG 3 Z (aZ (cF 8 Z Z Z (cF 9 Z Z Z ?_)));exact bc U H Z
def kt(sA:LSchema)(st:List LW)(p:LP)(rest:List LS)(args:Rq):Option (Bool):=
 letP (sampleV) fun x19=>
 cond (!x19)
  (some false)
  (af (cJ 192 p.body ([(LS.mk 9 0 [] [] [] [] [] [] [] [])]:List LS)) fun(x27:List LS)=>
  af (dF ([x27,rest]:List (List LS))) fun x34=>
  af (
   cond (decide ((rest.length:Int)>(40:Int)))
    (some true)
    (af (jN sA st (LP.mk p.parameters x27)) fun x43=>
    cond (!x43)
     (some true)
     (af (jN sA st (LP.mk p.parameters x34)) fun x50=>
     cond (!x50)
      (some true)
      (some (decide ((args.length:Int)>(20:Int))))))) fun(t1:Bool)=>
  cond t1
   (some true)
   (af (lX sA st (LP.mk p.parameters x27) args) fun x63=>
   af (lX sA st (LP.mk p.parameters x34) args) fun x72=>
   cond (x63.2.2==x72.2.2)
    (af (cU x63.1 x72.1 (fun a0 a1=>jq a0 a1)) fun x82=>
    cond x82
     (af (cA x63.2.1 x72.2.1 (fun a0 a1=>fF a0 a1)) fun x87=>
     some x87)
     (some false))
    (some false)))
theorem vq(sA:LSchema)(st:List LW)(p:LP)(rest:List LS)(args:Rq)(r:Bool)(H:kt sA st p rest args=some r):
  aQ prog 4 [(.agg (cy sA)),(.list 86 (st.map bG)),(.agg (fC p)),(.list 40 (rest.map ax)),(.list 69 (args.map ae))] (aK r):=by
 unfold kt at H;refine PH.av func4 ntmps4 ?_;refine ab (aa (aJ ?_));refine aJ ?_;refine ah U Z (ac (ab (ab (aa ?_))))
 obtain⟨x19,h19,H⟩:=cK H
 have s19:=sampleV_spec;rw[h19]at s19;refine ak call7 (jb.r) s19 ?_;refine ah U Z (ac ?_);refine aH Z H (fun H=>?_) (fun H=>?_)
 ·refine am 1 U Z ?_;exact bc U H Z
 refine ap (ab (aa (ah U Z ?_)));refine bf U fun b11=>?_
 refine au U ?_;refine ac (ab (aa (ag 2 U Z ?_)));have s24:=clone_19 (m:=24) p.body;refine gX call19 (jb.r) s24 (fun g24=>?_);refine ah U Z (ci U (rows':=List.map ax ([(LS.mk 9 0 [] [] [] [] [] [] [] [])]:List LS)) (gH.trans (b:=List.map aC [(LS.mk 9 0 [] [] [] [] [] [] [] [])]) (gH.cons (uk.cons (pE.of_eq Z) (uk.cons (pE.of_eq Z) (uk.cons (pE.of_eq Z) (uk.cons (pE.of_eq Z) (uk.cons (pE.nil U Z) (uk.cons (pE.nil U Z) (uk.cons (pE.nil U Z) (uk.cons (pE.nil U Z) (uk.cons (pE.nil U Z) (uk.cons (pE.nil U Z) uk.nil)))))))))) gH.nil) (gH.of_eq (rJ dQ [(LS.mk 9 0 [] [] [] [] [] [] [] [])]))) ?_)
 obtain⟨x27,h27,H⟩:=aq H
 have k27:=bS h27;refine bX (rows2':=List.map ax ([(LS.mk 9 0 [] [] [] [] [] [] [] [])]:List LS)) (rows':=List.map ax x27) U Z Z Z Z Z Z Z Z Z Z Z Z Z (gH.refl _) (cD k27.1) (cC k27.2.1) (cE k27.2.2) fun g27=>?_
 refine ah U Z (au U ?_);refine ac (ab (aa (aD U ?_)));refine bf U fun b12=>?_
 refine au U ?_;refine ac (ab (iJ 11 1 Z Z Z Z Z (aa (ah U Z (aD U ?_)))));refine ah U Z (ci U (rows':=List.map (ao 40 ax) ([x27,rest]:List (List LS))) (gH.refl _) ?_)
 obtain⟨x34,h34,H⟩:=aq H
 have s34:=jj (m:=34) ([x27,rest]:List (List LS)) _ h34;refine ak call11 (jb.r) (PFun.ik s34) ?_;refine ah U Z (au U ?_);refine ac (ab (ab ?_));refine fu (γ:=Unit) (fun t1 g1=>⟨89,upd (upd (upd (upd (upd (upd (fun _=>.any) 57 (aK t1)) 12 (.box 12 b12 0)) 11 (.box 11 b11 0)) 5 (.ptr (cy sA))) 4 (.list 69 (args.map ae))) 1 (.list 86 (st.map bG)),upd (upd (fun _=>none) 12 (some ⟨b12,[(.list 3 (p.parameters.map bQ)),(.list 40 (x34.map ax))]⟩)) 11 (some ⟨b11,[(.list 3 (p.parameters.map bQ)),(.list 40 (x27.map ax))]⟩),fun _=>none⟩) H (fun _ H=>?_) (fun t1 g1 H=>?_)
 ·refine aa (ah U Z (aB U (zl _) ?_));refine ag 2 U Z ?_;refine bj Z Z Z H (fun H=>?_) (fun H=>?_)
  ·refine ag 18 U Z (ac ?_);refine aV _ () (az H) Gh.d
  refine ag 2 U Z (aD U ?_)
  obtain⟨x43,h43,H⟩:=aq H
  have s43:=nE sA st (LP.mk p.parameters x27) _ h43;refine ak call8 (jb.r) s43 ?_;refine ag 3 U Z ?_;refine bj Z Z Z H (fun H=>?_) (fun H=>?_)
  ·refine ag 11 U Z (ac ?_);refine aV _ () (az H) Gh.d
  refine ag 2 U Z (aD U ?_)
  obtain⟨x50,h50,H⟩:=aq H
  have s50:=nE sA st (LP.mk p.parameters x34) _ h50;refine ak call8 (jb.r) s50 ?_;refine ag 3 U Z ?_;refine bj Z Z Z H (fun H=>?_) (fun H=>?_)
  ·refine ag 4 U Z (ac ?_);refine aV _ () (az H) Gh.d
  refine ah U Z (aB U (zl _) ?_);refine ag 2 U Z (ac ?_);refine aV _ () (az H) Gh.d
 refine aH Z H (fun H=>?_) (fun H=>?_)
 ·refine am 1 U Z ?_;exact bc U H Z
 refine ap (ab (aa (ag 2 U Z (aD U ?_))));refine ah U Z ?_
 obtain⟨x63,h63,H⟩:=aq H
 have s63:=qQ sA st (LP.mk p.parameters x27) args _ h63;refine ak call14 (jb.r) s63 ?_;refine ag 7 U Z (ac (ab (aa (ag 2 U Z (aD U ?_)))));refine ah U Z ?_
 obtain⟨x72,h72,H⟩:=aq H
 have s72:=qQ sA st (LP.mk p.parameters x34) args _ h72;refine ak call14 (jb.r) s72 ?_;refine ag 7 U Z (ac (ab (aa (ag 4 U Z ?_))));refine bj Z Z Z H (fun H=>?_) (fun H=>?_)
 ·refine ag 2 U Z ?_
  obtain⟨x82,h82,H⟩:=aq H
  have s82:=io x63.1 x72.1 (fun a0 a1=>jq a0 a1) call18 (fun a0 a1 r h=>rl a0 a1 r h) _ h82;refine ak call17 (jb.r) s82 ?_;refine ag 2 U Z ?_;refine bj Z Z Z H (fun H=>?_) (fun H=>?_)
  ·refine ag 2 U Z ?_
   obtain⟨x87,h87,H⟩:=aq H
   have s87:=gD x63.2.1 x72.2.1 (fun a0 a1=>fF a0 a1) call21 (fun a0 a1 r h=>mI a0 a1 r h) _ h87;refine ak call20 (jb.r) s87 ?_;refine ag 2 U Z (ac ?_);exact bc U H Z
  refine ag 5 U Z (ac ?_);exact bc U H Z
 refine ag 10 U Z (ac ?_);exact bc U H Z
end
end Go.Proofs.YtafdcemcgfbhcaaGreatDoor
