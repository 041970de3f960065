/- procedureSequenceUpto_holds, part 6: the layer, the plain functions and what they compute; conditions as in the statement. -/
import Derived.Test.YtafdcemcgfbhcaaGreatDoorSee
set_option maxHeartbeats 4000000
namespace Go.Proofs.YtafdcemcgfbhcaaGreatDoor
noncomputable section
open Go Go.Ab Go.Proofs.Tryz
attribute [local irreducible] V Ao Do Gh Eff PH IntKind.wrap
set_option maxRecDepth 4000
def gk(rec158:LChecker->LQuery->Option ((List LCol)×Int))(c:LChecker)(q:LQuery):Option ((List LCol)×Int):=
 aa (mB q) fun x16=>
 cond (!x16)
  (some ([],3))
  (aa (au (σ:=List (List LCol)) (ρ:=((List LCol)×Int)) (fun(_:Nat) (x1:LQuery) (s1:List (List LCol))=>
   aa (rec158 c x1) fun x28=>
   cond (x28.2 !=(0:Int))
    (some (.ret ([],x28.2)))
    (aa (cE 24 s1 ([x28.1]:List (List LCol))) fun(x37:List (List LCol))=>
    some (.next x37))) 0 q.inputs []) fun fl1=>fl1.thenR fun(s1:List (List LCol))=>
  aa (jP c q s1) fun x43=>
  cond (x43.2 !=(0:Int))
   (some ([],x43.2))
   (cond (decide ((x43.1.length:Int)>(20:Int)))
    (some ([],2))
    (aa (au (σ:=Unit) (ρ:=((List LCol)×Int)) (fun(j2:Nat) (x2:LCol) (_:Unit)=>
     aa (oq x43.1 0 (j2:Int)) fun(x61:List LCol)=>
     aa (co x61 (fun a0=>some (cG a0 x2))) fun x63=>
     cond x63
      (some (.ret ([],23)))
      (some (.next ()))) 0 x43.1 ()) fun fl2=>fl2.thenR fun(_:Unit)=>
    some (x43.1,0))))
theorem rn(rec158:LChecker->LQuery->Option ((List LCol)×Int))(hrec158:∀a0 a1 r,rec158 a0 a1=some r->aC prog 158 [(.agg (fq a0)),(.agg (aH a1))] (.tup [(.list 93 (r.1.map ap)),(ac r.2)]))(c:LChecker)(q:LQuery)(r:(List LCol)×Int)(H:gk rec158 c q=some r):
  aC prog 158 [(.agg (fq c)),(.agg (aH q))] (.tup [(.list 93 (r.1.map ap)),(ac r.2)]):=by
 unfold gk at H;refine PH.ak func158 ntmps158 ?_;refine gB ?_;refine aB call206 (ip.r) (W_query_shape q) H (fun x16 H=>?_);refine go ?_;refine aI Z H (fun H=>?_) (fun H=>?_)
 ·refine go ?_;obtain rfl:=ay H;exact gH U Z gr
 refine aE (dp 1 U Z (al (al (ah (cC 2 U Z (ic U (zl _) ?_))))));refine aD U Z (ao (iy U 6 37 (e:=61) Z Z ?_));refine fg (γ:=OwnRef) U 21 20 19 (fun s1 g1=>upd (upd (upd (fun _=>.any) 6 (.own 37 g1 (s1.map (ae 93 ap)).length)) 3 (.ptr (aH q))) 2 (.ptr (fq c))) nB (fun s1 g1=>upd (fun _=>none) 37 (some ⟨g1,61,(s1.map (ae 93 ap)),true⟩)) (⟨none,0⟩) H (fun fl1 Hp1 j1 s1 g1 hz1 hl1 x1 fb1 hx1 H hg1=>?_) (fun s1 g1 H=>?_)
 ·refine go ?_;refine aW U (zn j1) (aQ cF hx1) ?_;refine go ?_;refine aM U fun b8=>?_
  refine go ?_;refine aB call158 (ip.r) (hrec158 c x1) H (fun x28 H=>?_);refine go ?_;refine aI Z H (fun H=>?_) (fun H=>?_)
  ·refine go ?_;obtain rfl:=lvR H hg1 Hp1;exact gH U Z gr
  refine go ?_;refine bZ U (rows':=List.map (ae 93 ap) ([x28.1]:List (List LCol))) (iW.refl _) ?_;refine fm U H (fun x37 g37 H=>?_);refine go ?_;exact cJ g37 H hl1 hg1
 refine al (cD 6 Z Z Z (go ?_));refine aB call207 (ip.r) (uK c q s1) H (fun x43 H=>?_);refine go ?_;refine aI Z H (fun H=>?_) (fun H=>?_)
 ·refine go ?_;obtain rfl:=ay H;exact gH U Z gr
 refine go ?_;refine aI Z H (fun H=>?_) (fun H=>?_)
 ·refine go ?_;obtain rfl:=ay H;exact gH U Z gr
 refine go ?_;refine fg U 54 53 52 (fun s2 g2=>upd (fun _=>.any) 11 (.list 93 (x43.1.map ap))) nB nO () H (fun fl2 Hp2 j2 s2 g2 hz2 hl2 x2 fb2 hx2 H hg2=>?_) (fun s2 g2 H=>?_)
 ·refine go ?_;refine aW U (zn j2) (aQ (fun _=>Z) hx2) ?_;refine go ?_;refine aM U fun b14=>?_
  refine go ?_
  obtain⟨x61,h61,H⟩:=aA H
  have k61:=oH h61;refine wP U Z Z Z Z Z (zl _) Z Z k61.1 (pT k61.2) Z (iT (Gh.freezeB 14 Z Z Z Z) (go ?_));refine aB call208 (ip.r) (lN x61 (fun a0=>some (cG a0 x2)) call209 (fun a0 r h=>(ay h)▸rd a0 x2)) H (fun x63 H=>?_);refine ao ?_;refine aI Z H (fun H=>?_) (fun H=>?_)
  ·refine go ?_;obtain rfl:=lvR H hg2 Hp2;exact gH U Z gr
  exact fN
 exact fS
def gn:Nat->LChecker->LQuery->Option ((List LCol)×Int)
 |0,_,_=>none
 |n+1,v0,v1=>gk (fun b0 b1=>gn n b0 b1) v0 v1
theorem rG  (n:Nat):(∀a0 a1 r,gn n a0 a1=some r->aC prog 158 [(.agg (fq a0)),(.agg (aH a1))] (.tup [(.list 93 (r.1.map ap)),(ac r.2)])):=by
 induction n with
 |zero=>exact(by intros;rename_i h;exact absurd (show(none:Option _)=some _ from h) (by simp))
 |succ n ih=>
  exact(fun v0 v1 r h=>rn (fun b0 b1=>gn n b0 b1) ih v0 v1  r h)
def gg(c:LChecker)(q:LQuery):Option ((List LCol)×Int):=iO fun n=>gn n c q
theorem nD(c:LChecker)(q:LQuery)(r:(List LCol)×Int)(H:gg c q=some r):
  aC prog 158 [(.agg (fq c)),(.agg (aH q))] (.tup [(.list 93 (r.1.map ap)),(ac r.2)]):=by
 obtain⟨n,h⟩:=kd H
 exact(rG  n) c q r h
def iq(rA:LRun)(q:LQuery)(cols:List LCol)(inA:Rz):Option (Rz):=
 aa (dF inA (fun a0 a1=>ik a0 a1 rA cols q)) fun x14=>
 aa (fF (x14.length=inA.length) ()) fun(_:Unit)=>
 some x14
theorem wE(rA:LRun)(q:LQuery)(cols:List LCol)(inA:Rz)(r:Rz)(H:iq rA q cols inA=some r):
  aC prog 169 [(.agg (eQ rA)),(.agg (aH q)),(.list 93 (cols.map ap)),(.list 54 (inA.map rRr))] (.list 54 (r.map rRr)):=by
 unfold iq at H;refine PH.ak func169 ntmps169 ?_;refine al (ah (bC ?_));refine bC ?_;refine bC ?_;refine aD U Z (ao (al (ah (aD U Z ?_))));have s11:=ss (m:=11) inA;refine iH call160 (ip.r) s11 (fun g11=>?_);refine go ?_
 obtain⟨x14,h14,H⟩:=aA H
 have s14:=mp g11 inA (fun a0 a1=>ik a0 a1 rA cols q) call218 (fun a0 a1 r h=>uZ a0 a1 rA cols q r h) _ h14
 obtain⟨_,q14_0,H⟩:=aA H
 have l14_0:=(dK q14_0).1;have z14_0:(List.map rRr inA).length=(List.map rRr x14).length:=by simpa using(l14_0).symm
 refine gU call217 [] [(11,0)] s14 ?_;rintro u14 H14h ⟨rfl,rfl⟩
 refine⟨_,rfl,?_⟩
 refine eA (fun _=>none) (upd (fun _=>none) 11 (some ⟨g11,54,(x14.map rRr),true⟩)) ?_;refine ao (dp 2 U Z (cD 8 Z Z z14_0 ?_));exact fS
def kR(sA:LSchema)(inst:List LW)(changes:List LChange):Option ((List LW)×Int):=
 aa (gS sA) fun x19=>
 cond (x19 !=(0:Int))
  (some ([],x19))
  (aa (du sA inst) fun x25=>
  cond (x25 !=(0:Int))
   (some ([],x25))
   (cond (decide ((changes.length:Int)>(24:Int)))
    (some ([],2))
    (aa (jV inst) fun x33=>
    aa (au (σ:=List LW) (ρ:=((List LW)×Int)) (fun(_:Nat) (x1:LChange) (s1:List LW)=>
     aa (gP sA x1) fun x42=>
     cond (x42 !=(0:Int))
      (some (.ret ([],x42)))
      (aa (dH sA x1.table) fun x50=>
      aa (ax sA.tables x50.1) fun(x56:LTable)=>
      cond (x1.kind==(1:Int))
       (aa (ax s1 x50.1) fun(x66:LW)=>
       aa (gT x56 x66.rows x1.row) fun x71=>
       aa (ax s1 x50.1) fun(x72:LW)=>
       letP (s1.set x50.1.toNat (LW.mk x72.table x71)) fun(y6:List LW)=>
       aa (ax y6 x50.1) fun(x76:LW)=>
       cond (decide ((x76.rows.length:Int)>(24:Int)))
        (some (.ret ([],2)))
        (some (.next y6)))
       (aa (ax s1 x50.1) fun(x87:LW)=>
       aa (gO x56 x87.rows x1.key) fun x92=>
       aa (ax s1 x50.1) fun(x95:LW)=>
       letP (s1.set x50.1.toNat (LW.mk x95.table x92.1)) fun(y7:List LW)=>
       cond (!x92.2)
        (some (.ret ([],9)))
        (some (.next y7))))) 0 changes x33) fun fl1=>fl1.thenR fun(s1:List LW)=>
    some (s1,0))))
theorem tA(sA:LSchema)(inst:List LW)(changes:List LChange)(r:(List LW)×Int)(H:kR sA inst changes=some r):
  aC prog 15 [(.agg (cf sA)),(.list 86 (inst.map bE)),(.list 56 (changes.map bW))] (.tup [(.list 86 (r.1.map bE)),(ac r.2)]):=by
 unfold kR at H;refine PH.ak func15 ntmps15 ?_;refine gB ?_;refine aB call37 (ip.r) (qK sA) H (fun x19 H=>?_);refine go ?_;refine aI Z H (fun H=>?_) (fun H=>?_)
 ·refine go ?_;obtain rfl:=ay H;exact gH U Z gr
 refine go ?_;refine aB call38 (ip.r) (lq sA inst) H (fun x25 H=>?_);refine go ?_;refine aI Z H (fun H=>?_) (fun H=>?_)
 ·refine go ?_;obtain rfl:=ay H;exact gH U Z gr
 refine go ?_;refine aI Z H (fun H=>?_) (fun H=>?_)
 ·refine go ?_;obtain rfl:=ay H;exact gH U Z gr
 refine go ?_
 obtain⟨x33,h33,H⟩:=aA H
 have s33:=wD (m:=33) inst _ h33;refine iH call29 (ip.r) s33 (fun g33=>?_);refine go ?_;refine fg (γ:=OwnRef) U 36 35 34 (fun s1 g1=>upd (upd (fun _=>.any) 10 (.own 33 g1 (s1.map bE).length)) 3 (.ptr (cf sA))) nB (fun s1 g1=>upd (fun _=>none) 33 (some ⟨g1,86,(s1.map bE),true⟩)) g33 H (fun fl1 Hp1 j1 s1 g1 hz1 hl1 x1 fb1 hx1 H hg1=>?_) (fun s1 g1 H=>?_)
 ·refine go ?_;refine aW U (zn j1) (aQ (fun _=>Z) hx1) ?_;refine go ?_;refine aM U fun b12=>?_
  refine go ?_;refine aB call46 (ip.r) (vZ sA x1) H (fun x42 H=>?_);refine go ?_;refine aI Z H (fun H=>?_) (fun H=>?_)
  ·refine go ?_;obtain rfl:=lvR H hg1 Hp1;exact gH U Z gr
  refine go ?_;refine aB call28 (ip.r) (kr sA x1.table) H (fun x50 H=>?_);refine go ?_;refine ec U (fun _=>Z) H (fun x56 H=>?_);refine go ?_;refine aM U fun b16=>?_
  refine go ?_;refine aI Z H (fun H=>?_) (fun H=>?_)
  ·refine al ?_;refine ii (tag:=33) Z (fun ho33=>?_);refine kJ 12 ?_;refine kJ 16 ?_;refine bK ⟨false,true,[63,70]⟩ [0,1,2,3,4,5,6,7,8,9,10,11,12,13] ?_;refine go ?_
   obtain⟨x66,k66,H⟩:=eC H
   refine cZ U ⟨k66.1,(dz k66.2)⟩ (dv ho33 k66.2) ?_;refine go ?_;refine gC U Z Z Z Z Z Z Z Z Z (dJ (fun _=>Z) k66.2) Z Z ?_;refine go ?_;refine bU call47 (ip.r) (vX x56 x66.rows x1.row) H (fun x71 H=>?_)
   obtain⟨x72,k72,H⟩:=eC H
   refine cZ U ⟨k72.1,(dz k72.2)⟩ (dv ho33 k72.2) ?_;refine jm Z ?_
   obtain⟨y6,hy6,H⟩:=cI H
   refine je U Z Z Z Z Z Z Z Z Z (by rw[zl];exact(zg.1 k72.2).1) (PLe.refl _ _) Z Z Z Z (by decide) (eT (fun _=>Z) k72.2 Z hy6) ?_;refine go ?_
   obtain⟨x76,k76,H⟩:=eC H
   refine lz (tag:=33) Z (fun ho33=>?_);refine jT U ⟨k76.1,(tl (eZ (f:=bE) hy6) k76.2)⟩ (dv ho33 k76.2) ?_;refine go ?_;refine oj U Z Z Z Z Z Z Z (dJ (fun _=>Z) k76.2) Z Z ?_;refine go ?_;refine aI Z H (fun H=>?_) (fun H=>?_)
   ·refine go ?_;obtain rfl:=lvR H hg1 Hp1;exact gH U Z gr
   refine go ?_;exact cJ g1 H hl1 hg1 (Gh.le (aq (aq (bh (PLe.q (fG (by omega))) (aq (bh (PLe.of2 (PLe2.of_eq (congrArg (PV.own 33 g1) (eZ (f:=bE) hy6)))) bm))))) aV (bJ aU))
  refine aE (dp 1 U Z (al ?_));refine ii (tag:=33) Z (fun ho33=>?_);refine kJ 12 ?_;refine kJ 16 ?_;refine bK ⟨false,true,[84,91]⟩ [0,1,2,3,4,5,6,7,8,9,10,11,12,13,14,15,16,17] ?_;refine go ?_
  obtain⟨x87,k87,H⟩:=eC H
  refine cZ U ⟨k87.1,(dz k87.2)⟩ (dv ho33 k87.2) ?_;refine go ?_;refine gC U Z Z Z Z Z Z Z Z Z (dJ (fun _=>Z) k87.2) Z Z ?_;refine go ?_;refine bU call48 (ip.r) (wb x56 x87.rows x1.key) H (fun x92 H=>?_);refine go ?_
  obtain⟨x95,k95,H⟩:=eC H
  refine cZ U ⟨k95.1,(dz k95.2)⟩ (dv ho33 k95.2) ?_;refine jm Z ?_
  obtain⟨y7,hy7,H⟩:=cI H
  refine je U Z Z Z Z Z Z Z Z Z (by rw[zl];exact(zg.1 k95.2).1) (PLe.refl _ _) Z Z Z Z (by decide) (eT (fun _=>Z) k95.2 Z hy7) ?_;refine go ?_;refine aI Z H (fun H=>?_) (fun H=>?_)
  ·refine go ?_;obtain rfl:=lvR H hg1 Hp1;exact gH U Z gr
  refine go ?_;exact cJ g1 H hl1 hg1 (Gh.le (aq (aq (bh (PLe.q (fG (by omega))) (aq (bh (PLe.of2 (PLe2.of_eq (congrArg (PV.own 33 g1) (eZ (f:=bE) hy7)))) bm))))) aV (bJ aU))
 refine dp 3 U Z (cD 6 Z Z Z ?_);exact fS
def iJ(sA:LSchema)(vars:List LCol)(q:LQuery):Option ((List LCol)×Int):=
 aa (
  aa (lA q) fun x12=>
  cond (decide ((x12.length:Int)>(24:Int)))
   (some true)
   (aa (mG q) fun x17=>
   cond (decide (x17>(12:Int)))
    (some true)
    (aa (iF q) fun x22=>
    some (decide (x22>(20000:Int)))))) fun(t1:Bool)=>
 cond t1
  (some ([],2))
  (aa (fw q) fun x27=>
  cond (x27.2 !=(0:Int))
   (some ([],x27.2))
   (aa (gg (LChecker.mk sA vars) q) fun x38=>
   some (x38.1,x38.2)))
theorem pE(sA:LSchema)(vars:List LCol)(q:LQuery)(r:(List LCol)×Int)(H:iJ sA vars q=some r):
  aC prog 103 [(.agg (cf sA)),(.list 93 (vars.map ap)),(.agg (aH q))] (.tup [(.list 93 (r.1.map ap)),(ac r.2)]):=by
 unfold iJ at H;refine PH.ak func103 ntmps103 ?_;refine al (ah (bC ?_));refine bC ?_;refine cC 2 U Z (ao (al (al ?_)));refine fQ (γ:=Unit) (fun t1 g1=>⟨41,upd (upd (upd (upd (fun _=>.any) 24 (az t1)) 5 (.ptr (aH q))) 3 (.ptr (cf sA))) 1 (.list 93 (vars.map ap)),fun _=>none,fun _=>none⟩) H (fun _ H=>?_) (fun t1 g1 H=>?_)
 ·refine go ?_
  obtain⟨x12,h12,H⟩:=aA H
  have s12:=uD (m:=12) q _ h12;refine ag call93 (ip.r) (PFun.gN s12) ?_;refine go ?_;refine aN Z Z Z H (fun H=>?_) (fun H=>?_)
  ·exact fA
  refine go ?_;refine aB call156 (ip.r) (W_query_depth q) H (fun x17 H=>?_);refine go ?_;refine aN Z Z Z H (fun H=>?_) (fun H=>?_)
  ·exact fA
  refine go ?_;refine aB call157 (ip.r) (qA q) H (fun x22 H=>?_);exact fA
 refine aI Z H (fun H=>?_) (fun H=>?_)
 ·refine go ?_;obtain rfl:=ay H;exact gH U Z gr
 refine go ?_;refine aB call91 (ip.r) (lP q) H (fun x27 H=>?_);refine go ?_;refine aI Z H (fun H=>?_) (fun H=>?_)
 ·refine go ?_;obtain rfl:=ay H;exact gH U Z gr
 refine go ?_;refine aM U fun b10=>?_
 refine go ?_;refine aB call158 (ip.r) (nD (LChecker.mk sA vars) q) H (fun x38 H=>?_);exact fS
def jb(rA:LRun)(q:LQuery):Option ((List LCol)):=
 aa (gg (LChecker.mk rA.s rA.vars) q) fun x14=>
 some x14.1
theorem oi(rA:LRun)(q:LQuery)(r:(List LCol))(H:jb rA q=some r):
  aC prog 162 [(.agg (eQ rA)),(.agg (aH q))] (.list 93 (r.map ap)):=by
 unfold jb at H;refine PH.ak func162 ntmps162 ?_;refine gB ?_;refine aB call158 (ip.r) (nD (LChecker.mk rA.s rA.vars) q) H (fun x14 H=>?_);exact fS
def de(rA:LR)(c:LChange):Option (Int×LR):=
 cond ((rA.changes.length:Int)==(24:Int))
  (some (2,rA))
  (aa (kR rA.s rA.st ([c]:List LChange)) fun x24=>
  cond (x24.2 !=(0:Int))
   (some (x24.2,rA))
   (aa (cE 72 rA.changes ([c]:List LChange)) fun(x39:List LChange)=>
   some (0,{rA with st:=x24.1,changes:=x39})))
theorem ow(b_rA:Nat)(g_rA_7:OwnRef)(g_rA_8:OwnRef)(rA:LR)(c:LChange)(r:Int×LR)(H:de rA c=some r):
  PH prog 128 [(.box 1500 b_rA 0),(.agg (bW c))] ⟨(bR b_rA rA g_rA_7 g_rA_8),(oR rA g_rA_7 g_rA_8)⟩ (fun u H=>∃gz0_7,∃gz0_8,u=(ac r.1)/\H=⟨(bR b_rA r.2 gz0_7 gz0_8),(oR r.2 gz0_7 gz0_8)⟩):=by
 unfold de at H;refine PH.ak func128 ntmps128 ?_;refine al (ah (bC ?_));refine aD U Z (ao (al (al (ah (cC 3 U Z (iQ U ?_))))));refine eO U (zl _) ?_;refine go ?_;refine aI Z H (fun H=>?_) (fun H=>?_)
 ·refine go ?_;obtain rfl:=ay H;refine cv (st':=⟨44,upd (fun _=>.any) 4 (ac 2),(bR b_rA rA g_rA_7 g_rA_8),(oR rA g_rA_7 g_rA_8)⟩) Gh.d ?_;exact hO U Z ⟨_,_,rfl,rfl⟩
 refine go ?_;refine bK ⟨true,false,[22]⟩ [0,1,2,3,4,5,6,7,8,9,10,11,12,13,14,15] ?_;refine go ?_;refine bU call15 (ip.r) (tA rA.s rA.st ([c]:List LChange)) H (fun x24 H=>?_);refine go ?_;refine aI Z H (fun H=>?_) (fun H=>?_)
 ·refine go ?_;obtain rfl:=ay H;refine cv (st':=⟨44,upd (fun _=>.any) 4 (ac x24.2),(bR b_rA rA g_rA_7 g_rA_8),(oR rA g_rA_7 g_rA_8)⟩) Gh.d ?_;exact hO U Z ⟨_,_,rfl,rfl⟩
 refine go ?_;refine bK ⟨true,false,[37]⟩ [0,1,2,3,4,5,6,7,8,9,10,11,12,13,14,15] ?_;refine go ?_
 obtain⟨x39,h39,H⟩:=aA H
 have k39:=fZ h39;refine hC (rows2':=List.map bW ([c]:List LChange)) (rows':=List.map bW x39) U Z Z Z Z Z Z Z Z Z Z Z Z Z Z (iW.refl _) (jD k39.1) (jC k39.2.1) (jz k39.2.2) fun g39=>?_
 refine go ?_;refine ib Z Z Z Z Z Z Z Z Z Z Z Z (go ?_);refine ib Z Z Z Z Z Z Z Z Z Z Z Z (go ?_);obtain rfl:=ay H;refine cv (st':=⟨44,upd (fun _=>.any) 4 (ac 0),(bR b_rA {rA with st:=x24.1,changes:=x39} g39 g_rA_8),upd (upd (fun _=>none) 1608 (some ⟨g_rA_8,64,(rA.results.map dR),true⟩)) 1607 (some ⟨g39,56,(x39.map bW),true⟩)⟩) Gh.d ?_;exact hO U Z ⟨_,_,rfl,rfl⟩
def dD(_rec42:LC->(List LCol)->(List LS)->Option ((List LCol)×Int))(rec82:LC->(List LCol)->LS->Option ((List LCol)×Int))(c:LC)(vars:List LCol)(l:List LS):Option ((List LCol)×Int):=
 aa (au (σ:=List LCol) (ρ:=((List LCol)×Int)) (fun(_:Nat) (x1:LS) (s1:List LCol)=>
  aa (iE x1) fun x18=>
  cond (!x18)
   (some (.ret ([],3)))
   (aa (rec82 c s1 x1) fun x24=>
   cond (x24.2 !=(0:Int))
    (some (.ret ([],x24.2)))
    (some (.next x24.1)))) 0 l vars) fun fl1=>fl1.thenR fun(s1:List LCol)=>
 some (s1,0)
theorem rg(rec42:LC->(List LCol)->(List LS)->Option ((List LCol)×Int))(rec82:LC->(List LCol)->LS->Option ((List LCol)×Int))(_hrec42:∀a0 a1 a2 r,rec42 a0 a1 a2=some r->aC prog 42 [(.agg (ba a0)),(.list 93 (a1.map ap)),(.list 40 (a2.map af))] (.tup [(.list 93 (r.1.map ap)),(ac r.2)]))(hrec82:∀a0 a1 a2 r,rec82 a0 a1 a2=some r->aC prog 82 [(.agg (ba a0)),(.list 93 (a1.map ap)),(.agg (am a2))] (.tup [(.list 93 (r.1.map ap)),(ac r.2)]))(c:LC)(vars:List LCol)(l:List LS)(r:(List LCol)×Int)(H:dD rec42 rec82 c vars l=some r):
  aC prog 42 [(.agg (ba c)),(.list 93 (vars.map ap)),(.list 40 (l.map af))] (.tup [(.list 93 (r.1.map ap)),(ac r.2)]):=by
 unfold dD at H;refine PH.ak func42 ntmps42 ?_;refine gB ?_;refine fg U 13 12 11 (fun s1 g1=>upd (upd (fun _=>.any) 3 (.ptr (ba c))) 1 (.list 93 (s1.map ap))) nB nO () H (fun fl1 Hp1 j1 s1 g1 hz1 hl1 x1 fb1 hx1 H hg1=>?_) (fun s1 g1 H=>?_)
 ·refine go ?_;refine aW U (zn j1) (aQ cx hx1) ?_;refine go ?_;refine aM U fun b9=>?_
  refine go ?_;refine aB call81 (ip.r) (wa x1) H (fun x18 H=>?_);refine go ?_;refine aI Z H (fun H=>?_) (fun H=>?_)
  ·refine go ?_;obtain rfl:=lvR H hg1 Hp1;exact gH U Z gr
  refine go ?_;refine aB call82 (ip.r) (hrec82 c s1 x1) H (fun x24 H=>?_);refine go ?_;refine aI Z H (fun H=>?_) (fun H=>?_)
  ·refine go ?_;obtain rfl:=lvR H hg1 Hp1;exact gH U Z gr
  exact fN
 exact fS
def cA(rec42:LC->(List LCol)->(List LS)->Option ((List LCol)×Int))(_rec82:LC->(List LCol)->LS->Option ((List LCol)×Int))(c:LC)(vars:List LCol)(sA:LS):Option ((List LCol)×Int):=
 cond (sA.kind==(1:Int))
  (aa (ax sA.exprs 0) fun(x31:LExpr)=>
  aa (et c ([]:List LCol) vars x31) fun x33=>
  letP (eE sA.name) fun x40=>
  cond (!x40)
   (some ([],3))
   (cond (x33.2.2 !=(0:Int))
    (some ([],x33.2.2))
    (cond (x33.1==(0:Int))
     (some ([],7))
     (aa (kv vars (LCol.mk sA.name x33.1 x33.2.1)) fun x55=>
     some (x55,0)))))
  (cond (sA.kind==(2:Int))
   (aa (ax sA.exprs 0) fun(x62:LExpr)=>
   aa (eD c ([]:List LCol) vars x62) fun x64=>
   cond (x64 !=(0:Int))
    (some ([],x64))
    (aa (rec42 c vars sA.body) fun x73=>
    cond (x73.2 !=(0:Int))
     (some ([],x73.2))
     (aa (rec42 c vars sA.elseF) fun x84=>
     some (vars,x84.2))))
   (letP (
    cond (sA.kind==(3:Int))
     ((sA.kind==(3:Int)))
     ((sA.kind==(7:Int)))) fun(t1:Bool)=>
   cond t1
    (aa (ax sA.query 0) fun(x98:LQuery)=>
    aa (iJ c.s vars x98) fun x100=>
    cond (x100.2 !=(0:Int))
     (some ([],x100.2))
     (aa (ax sA.query 0) fun(x109:LQuery)=>
     aa (fy c x109) fun x111=>
     cond (x111 !=(0:Int))
      (some ([],x111))
      (aa (au (σ:=List LCol) (ρ:=Empty) (fun(_:Nat) (x2:LCol) (s2:List LCol)=>
       aa (kv s2 x2) fun x124=>
       some (.next x124)) 0 x100.1 vars) fun fl2=>fl2.thenP fun(s2:List LCol)=>
      aa (rec42 c s2 sA.body) fun x131=>
      some (vars,x131.2))))
    (letP (
     cond (sA.kind==(4:Int))
      ((sA.kind==(4:Int)))
      (cond (sA.kind==(5:Int))
       ((sA.kind==(5:Int)))
       ((sA.kind==(6:Int))))) fun(t3:Bool)=>
    cond t3
     (aa (gZ c vars sA) fun x144=>
     some (vars,x144))
     (some (vars,0)))))
theorem re(rec42:LC->(List LCol)->(List LS)->Option ((List LCol)×Int))(rec82:LC->(List LCol)->LS->Option ((List LCol)×Int))(hrec42:∀a0 a1 a2 r,rec42 a0 a1 a2=some r->aC prog 42 [(.agg (ba a0)),(.list 93 (a1.map ap)),(.list 40 (a2.map af))] (.tup [(.list 93 (r.1.map ap)),(ac r.2)]))(_hrec82:∀a0 a1 a2 r,rec82 a0 a1 a2=some r->aC prog 82 [(.agg (ba a0)),(.list 93 (a1.map ap)),(.agg (am a2))] (.tup [(.list 93 (r.1.map ap)),(ac r.2)]))(c:LC)(vars:List LCol)(sA:LS)(r:(List LCol)×Int)(H:cA rec42 rec82 c vars sA=some r):
  aC prog 82 [(.agg (ba c)),(.list 93 (vars.map ap)),(.agg (am sA))] (.tup [(.list 93 (r.1.map ap)),(ac r.2)]):=by
 unfold cA at H;refine PH.ak func82 ntmps82 ?_;refine gB ?_;refine aI Z H (fun H=>?_) (fun H=>?_)
 ·refine al (bK ⟨false,false,[]⟩ [0,1,2,3,4,5,6,7,8,9,10,11,12,13] ?_);refine go ?_;refine bl cQ H (fun x31 H=>?_);refine go ?_;refine bU call116 (ip.of2 (ku.cons (PLe2.of_eq Z) (ku.cons (PLe2.nil U Z) (ku.cons (PLe2.of_eq Z) (ku.cons (PLe2.of_eq Z) ku.nil))))) (kB c ([]:List LCol) vars x31) H (fun x33 H=>?_);refine go ?_
  obtain⟨x40,h40,H⟩:=cI H
  have s40:=mR sA.name;rw[h40]at s40;refine ag call117 (ip.r) s40 ?_;refine go ?_;refine aI Z H (fun H=>?_) (fun H=>?_)
  ·refine go ?_;obtain rfl:=ay H;exact gH U Z gr
  refine go ?_;refine aI Z H (fun H=>?_) (fun H=>?_)
  ·refine go ?_;obtain rfl:=ay H;exact gH U Z gr
  refine go ?_;refine aI Z H (fun H=>?_) (fun H=>?_)
  ·refine go ?_;obtain rfl:=ay H;exact gH U Z gr
  refine go ?_;refine aB call118 (ip.r) (sy vars (LCol.mk sA.name x33.1 x33.2.1)) H (fun x55 H=>?_);exact fS
 refine go ?_;refine aI Z H (fun H=>?_) (fun H=>?_)
 ·refine go ?_;refine bK ⟨false,false,[]⟩ [0,1,2,3,4,5,6,7] ?_;refine go ?_;refine bl cQ H (fun x62 H=>?_);refine go ?_;refine bU call119 (ip.of2 (ku.cons (PLe2.of_eq Z) (ku.cons (PLe2.nil U Z) (ku.cons (PLe2.of_eq Z) (ku.cons (PLe2.of_eq Z) ku.nil))))) (lR c ([]:List LCol) vars x62) H (fun x64 H=>?_);refine go ?_;refine aI Z H (fun H=>?_) (fun H=>?_)
  ·refine go ?_;obtain rfl:=ay H;exact gH U Z gr
  refine go ?_;refine aB call42 (ip.r) (hrec42 c vars sA.body) H (fun x73 H=>?_);refine go ?_;refine aI Z H (fun H=>?_) (fun H=>?_)
  ·refine go ?_;obtain rfl:=ay H;exact gH U Z gr
  refine go ?_;refine aB call42 (ip.r) (hrec42 c vars sA.elseF) H (fun x84 H=>?_);exact fS
 refine go ?_;refine fP (γ:=Unit) (fun t1 g1=>⟨146,upd (upd (upd (upd (upd (fun _=>.any) 89 (az t1)) 23 (ac sA.kind)) 5 (.ptr (am sA))) 3 (.ptr (ba c))) 1 (.list 93 (vars.map ap)),fun _=>none,fun _=>none⟩) H (fun _ H=>?_) (fun t1 g1 H=>?_)
 ·refine aI Z H (fun H=>?_) (fun H=>?_)
  ·refine aE ?_;exact fA
  exact fA
 refine aI Z H (fun H=>?_) (fun H=>?_)
 ·refine al (bK ⟨false,false,[]⟩ [0,1,2,3,4,5,6,7,8,9,10,11,12] ?_);refine go ?_;refine bl cF H (fun x98 H=>?_);refine go ?_;refine bU call103 (ip.r) (pE c.s vars x98) H (fun x100 H=>?_);refine go ?_;refine aI Z H (fun H=>?_) (fun H=>?_)
  ·refine go ?_;obtain rfl:=ay H;exact gH U Z gr
  refine go ?_;refine bK ⟨false,false,[]⟩ [0,1,2,3,4,5,6] ?_;refine go ?_;refine bl cF H (fun x109 H=>?_);refine go ?_;refine bU call120 (ip.r) (mV c x109) H (fun x111 H=>?_);refine go ?_;refine aI Z H (fun H=>?_) (fun H=>?_)
  ·refine go ?_;obtain rfl:=ay H;exact gH U Z gr
  refine go ?_;refine fW U 118 117 116 (fun s2 g2=>upd (upd (upd (upd (fun _=>.any) 19 (.list 93 (s2.map ap))) 5 (.ptr (am sA))) 3 (.ptr (ba c))) 1 (.list 93 (vars.map ap))) nB nO () H (fun fl2 Hp2 j2 s2 g2 hz2 hl2 x2 fb2 hx2 H hg2=>?_) (fun s2 g2 H=>?_)
  ·refine go ?_;refine aW U (zn j2) (aQ (fun _=>Z) hx2) ?_;refine go ?_;refine aM U fun b21=>?_
   refine go ?_;refine aB call118 (ip.r) (sy s2 x2) H (fun x124 H=>?_);exact fN
  refine go ?_;refine aB call42 (ip.r) (hrec42 c s2 sA.body) H (fun x131 H=>?_);exact fS
 refine go ?_;refine fP (γ:=Unit) (fun t3 g3=>⟨146,upd (upd (upd (upd (fun _=>.any) 136 (az t3)) 5 (.ptr (am sA))) 3 (.ptr (ba c))) 1 (.list 93 (vars.map ap)),fun _=>none,fun _=>none⟩) H (fun _ H=>?_) (fun t3 g3 H=>?_)
 ·refine aI Z H (fun H=>?_) (fun H=>?_)
  ·refine aE ?_;exact fA
  refine go ?_;refine aI Z H (fun H=>?_) (fun H=>?_)
  ·refine aE ?_;exact fA
  exact fA
 refine aI Z H (fun H=>?_) (fun H=>?_)
 ·refine go ?_;refine aB call121 (ip.r) (qQ c vars sA) H (fun x144 H=>?_);exact fS
 exact fS
mutual
def cn:Nat->LC->(List LCol)->(List LS)->Option ((List LCol)×Int)
 |0,_,_,_=>none
 |n+1,v0,v1,v2=>dD (fun b0 b1 b2=>cn n b0 b1 b2) (fun b0 b1 b2=>cz n b0 b1 b2) v0 v1 v2
def cz:Nat->LC->(List LCol)->LS->Option ((List LCol)×Int)
 |0,_,_,_=>none
 |n+1,v0,v1,v2=>cA (fun b0 b1 b2=>cn n b0 b1 b2) (fun b0 b1 b2=>cz n b0 b1 b2) v0 v1 v2
end
theorem qN  (n:Nat):(∀a0 a1 a2 r,cn n a0 a1 a2=some r->aC prog 42 [(.agg (ba a0)),(.list 93 (a1.map ap)),(.list 40 (a2.map af))] (.tup [(.list 93 (r.1.map ap)),(ac r.2)]))/\(∀a0 a1 a2 r,cz n a0 a1 a2=some r->aC prog 82 [(.agg (ba a0)),(.list 93 (a1.map ap)),(.agg (am a2))] (.tup [(.list 93 (r.1.map ap)),(ac r.2)])):=by
 induction n with
 |zero=>exact⟨(by intros;rename_i h;exact absurd (show(none:Option _)=some _ from h) (by simp)),(by intros;rename_i h;exact absurd (show(none:Option _)=some _ from h) (by simp))⟩
 |succ n ih=>
  exact⟨(fun v0 v1 v2 r h=>rg (fun b0 b1 b2=>cn n b0 b1 b2) (fun b0 b1 b2=>cz n b0 b1 b2) ih.1 ih.2 v0 v1 v2  r h),(fun v0 v1 v2 r h=>re (fun b0 b1 b2=>cn n b0 b1 b2) (fun b0 b1 b2=>cz n b0 b1 b2) ih.1 ih.2 v0 v1 v2  r h)⟩
def be(c:LC)(vars:List LCol)(l:List LS):Option ((List LCol)×Int):=iO fun n=>cn n c vars l
theorem rm(c:LC)(vars:List LCol)(l:List LS)(r:(List LCol)×Int)(H:be c vars l=some r):
  aC prog 42 [(.agg (ba c)),(.list 93 (vars.map ap)),(.list 40 (l.map af))] (.tup [(.list 93 (r.1.map ap)),(ac r.2)]):=by
 obtain⟨n,h⟩:=kd H
 exact(qN  n).1 c vars l r h
def bV(c:LC)(vars:List LCol)(sA:LS):Option ((List LCol)×Int):=iO fun n=>cz n c vars sA
def mw(rec104:LRun->LQuery->Option (Rz))(rec159:LRun->LQuery->Option (Rz))(rA:LRun)(q:LQuery):Option (Rz):=
 cond (q.kind==(1:Int))
  (aa (au (σ:=Unit) (ρ:=(Rz)) (fun(_:Nat) (x1:LW) (_:Unit)=>
   cond (x1.table==q.table)
    (some (.ret x1.rows))
    (some (.next ()))) 0 rA.st ()) fun fl1=>fl1.thenR fun(_:Unit)=>
  some [])
  (letP (
   cond (q.kind==(4:Int))
    ((q.kind==(4:Int)))
    ((q.kind==(5:Int)))) fun(t2:Bool)=>
  cond t2
   (aa (rec159 rA q) fun x37=>
   some x37)
   (cond (q.kind==(6:Int))
    (aa (ax q.inputs 0) fun(x43:LQuery)=>
    aa (ax q.inputs 1) fun(x50:LQuery)=>
    aa (rec104 rA x43) fun x45=>
    aa (rec104 rA x50) fun x52=>
    aa (cE 24 x45 x52) fun(x53:Rz)=>
    some x53)
    (cond (q.kind==(7:Int))
     (aa (ax q.inputs 0) fun(x59:LQuery)=>
     aa (ax q.inputs 1) fun(x65:LQuery)=>
     aa (rec104 rA x59) fun x61=>
     aa (rec104 rA x65) fun x67=>
     aa (mZ x61 x67) fun x68=>
     some x68)
     (aa (ax q.inputs 0) fun(x72:LQuery)=>
     aa (rec104 rA x72) fun x74=>
     aa (ax q.inputs 0) fun(x78:LQuery)=>
     aa (jb rA x78) fun x80=>
     cond (q.kind==(2:Int))
      (aa (ee x74 (fun a0=>kt a0 rA x80 q)) fun x88=>
      some x88)
      (cond (q.kind==(3:Int))
       (aa (au (σ:=Rz) (ρ:=Empty) (fun(_:Nat) (x3:Rq) (s3:Rz)=>
        aa (eB rA x80 x3 q.exprs) fun x103=>
        aa (cE 24 s3 ([x103]:Rz)) fun(x105:Rz)=>
        some (.next x105)) 0 x74 []) fun fl3=>fl3.thenP fun(s3:Rz)=>
       some s3)
       (cond (q.kind==(8:Int))
        (aa (kH rA q x80 x74) fun x114=>
        some x114)
        (cond (q.kind==(9:Int))
         (aa (iq rA q x80 x74) fun x121=>
         some x121)
         (aa (oq x74 (if(x74.length:Int)<q.offset then(x74.length:Int)else q.offset) (Iw ((if(x74.length:Int)<q.offset then(x74.length:Int)else q.offset)+(if(Iw ((x74.length:Int)-(if(x74.length:Int)<q.offset then(x74.length:Int)else q.offset)))<q.count then(Iw ((x74.length:Int)-(if(x74.length:Int)<q.offset then(x74.length:Int)else q.offset)))else q.count)))) fun(x138:Rz)=>
         some x138))))))))
theorem vQ(rec104:LRun->LQuery->Option (Rz))(rec159:LRun->LQuery->Option (Rz))(hrec104:∀a0 a1 r,rec104 a0 a1=some r->aC prog 104 [(.agg (eQ a0)),(.agg (aH a1))] (.list 54 (r.map rRr)))(hrec159:∀a0 a1 r,rec159 a0 a1=some r->aC prog 159 [(.agg (eQ a0)),(.agg (aH a1))] (.list 54 (r.map rRr)))(rA:LRun)(q:LQuery)(r:Rz)(H:mw rec104 rec159 rA q=some r):
  aC prog 104 [(.agg (eQ rA)),(.agg (aH q))] (.list 54 (r.map rRr)):=by
 unfold mw at H;refine PH.ak func104 ntmps104 ?_;refine gB ?_;refine aI Z H (fun H=>?_) (fun H=>?_)
 ·refine go ?_;refine fg U 20 19 18 (fun s1 g1=>upd (fun _=>.any) 3 (.ptr (aH q))) nB nO () H (fun fl1 Hp1 j1 s1 g1 hz1 hl1 x1 fb1 hx1 H hg1=>?_) (fun s1 g1 H=>?_)
  ·refine go ?_;refine aW U (zn j1) (aQ (fun _=>Z) hx1) ?_;refine go ?_;refine aM U fun b6=>?_
   refine go ?_;refine bG Z H (fun H=>lvR H hg1 Hp1) (fun H=>?_);exact fN
  refine go ?_;obtain rfl:=ay H;exact gH U Z gr
 refine go ?_;refine fP (γ:=Unit) (fun t2 g2=>⟨139,upd (upd (upd (upd (fun _=>.any) 32 (az t2)) 14 (ac q.kind)) 3 (.ptr (aH q))) 2 (.ptr (eQ rA)),fun _=>none,fun _=>none⟩) H (fun _ H=>?_) (fun t2 g2 H=>?_)
 ·refine aI Z H (fun H=>?_) (fun H=>?_)
  ·refine aE ?_;exact fA
  exact fA
 refine aI Z H (fun H=>?_) (fun H=>?_)
 ·refine go ?_;refine aB call159 (ip.r) (hrec159 rA q) H (fun x37 H=>?_);exact fS
 refine go ?_;refine aI Z H (fun H=>?_) (fun H=>?_)
 ·refine al (bK ⟨false,false,[]⟩ [0,1,2,3,4,7,8,9,10,11,5,6,12,13,14] ?_);refine go ?_;refine bl cF H (fun x43 H=>?_);refine go ?_;refine bl cF H (fun x50 H=>?_);refine go ?_;refine bU call104 (ip.r) (hrec104 rA x43) H (fun x45 H=>?_);have s46:=ss (m:=46) x45;refine rQ (g:=160) Z Z Z Z call160 (ip.r) Z Z s46 (fun g46=>?_);refine bU call104 (ip.r) (hrec104 rA x50) H (fun x52 H=>?_)
  obtain⟨x53,h53,H⟩:=aA H
  have k53:=fZ h53;refine hC (rows2':=List.map rRr x52) (rows':=List.map rRr x53) U Z Z Z Z Z Z Z Z Z Z Z Z Z Z (iW.refl _) (jD k53.1) (jC k53.2.1) (jz k53.2.2) fun g53=>?_
  refine jm Z (dE (cD 4 Z Z Z ?_));exact fS
 refine go ?_;refine aI Z H (fun H=>?_) (fun H=>?_)
 ·refine al (bK ⟨false,false,[]⟩ [0,1,2,3,4,6,7,8,9,10,5,11,12,13] ?_);refine go ?_;refine bl cF H (fun x59 H=>?_);refine go ?_;refine bl cF H (fun x65 H=>?_);refine go ?_;refine bU call104 (ip.r) (hrec104 rA x59) H (fun x61 H=>?_);refine bU call104 (ip.r) (hrec104 rA x65) H (fun x67 H=>?_);refine bU call161 (ip.r) (W_query_less x61 x67) H (fun x68 H=>?_);exact fS
 refine go ?_;refine bK ⟨false,false,[]⟩ [0,1,2,3,4,5,6] ?_;refine go ?_;refine bl cF H (fun x72 H=>?_);refine go ?_;refine bU call104 (ip.r) (hrec104 rA x72) H (fun x74 H=>?_);refine go ?_;refine bK ⟨false,false,[]⟩ [0,1,2,3,4,5,6,7] ?_;refine go ?_;refine bl cF H (fun x78 H=>?_);refine go ?_;refine bU call162 (ip.r) (oi rA x78) H (fun x80 H=>?_);refine pY Z Z Z Z Z Z Z Z fun b8=>?_
 refine ib Z Z Z Z Z Z Z Z Z Z Z Z (go ?_);refine aI Z H (fun H=>?_) (fun H=>?_)
 ·refine al (ah (aD U Z ?_));have s86:=ss (m:=86) x74;refine iH call160 (ip.r) s86 (fun g86=>?_);refine iT (Gh.freezeB 8 Z Z Z Z) (go ?_)
  obtain⟨x88,h88,H⟩:=aA H
  have s88:=nf g86 x74 (fun a0=>kt a0 rA x80 q) call164 (fun a0 r h=>vw a0 rA x80 q r h) _ h88;refine gU call163 [] [(86,0)] s88 ?_;rintro u88 H88h ⟨rfl,rfl⟩
  refine⟨_,rfl,?_⟩
  refine eA (fun _=>none) (upd (fun _=>none) 86 (some ⟨g86,54,(x88.map rRr),true⟩)) ?_;refine jA 88 (q:=(.own 86 g86 (x88.map rRr).length)) Z (PLe.of2 (PLe2.own Z)) (aD U Z (ao (cD 4 Z Z Z ?_)));exact fS
 refine go ?_;refine aI Z H (fun H=>?_) (fun H=>?_)
 ·refine go ?_
  obtain⟨fl3,H3,Hp3⟩:=aA H
  refine jc U 91 Z Z (fun hz3 _=>?_);rw[zl]at hz3;refine fK (τ:=Rz) (γ:=OwnRef) (fun s3 g3=>⟨139,upd (upd (upd (fun _=>.any) 9 (.own 105 g3 (s3.map rRr).length)) 3 (.ptr (aH q))) 2 (.ptr (eQ rA)),fun _=>none,upd (fun _=>none) 105 (some ⟨g3,54,(s3.map rRr),true⟩)⟩) (fun t=>fl3= .next t) ?_ (fun s3 g3 hn3=>?_)
  ·refine aG (iy U 9 105 (e:=54) Z Z ?_);refine jw (fun j3 s3 g3=>⟨139,upd (upd (upd (upd (upd (upd (upd (fun _=>.any) 93 (ac (j3:Int))) 92 (ac (x74.length:Int))) 91 (.list 54 (x74.map rRr))) 9 (.own 105 g3 (s3.map rRr).length)) 8 (.box 8 b8 0)) 3 (.ptr (aH q))) 2 (.ptr (eQ rA)),upd (fun _=>none) 8 (some ⟨b8,[(.list 93 (x80.map ap))]⟩),upd (fun _=>none) 105 (some ⟨g3,54,(s3.map rRr),true⟩)⟩) (⟨none,0⟩) H3 Gh.d (fun j3 s3 g3 hj3 hr3=>?_);refine go ?_;refine aY Z (fun h=>?_) (fun h=>?_)
   ·have hl3:=qk h
    obtain⟨x3,fb3,hx3,H,hg3⟩:=rMc hl3 hr3
    refine go ?_;refine aW U (zn j3) (aQ (fun _=>Z) hx3) ?_;refine go ?_;refine aB call167 (ip.r) (lU rA x80 x3 q.exprs) H (fun x103 H=>?_);refine bZ U (rows':=List.map rRr ([x103]:Rz)) (iW.refl _) ?_;refine fm U H (fun x105 g105 H=>?_);refine go ?_;exact cJ g105 H hl3 hg3
   have hn3:=rMd (qp h) hr3;refine bd Z ?_;refine fc s3 g3 hn3 Gh.d
  have H:=ep hn3 Hp3;refine dp 2 U Z (cD 4 Z Z Z ?_);exact fS
 refine go ?_;refine aI Z H (fun H=>?_) (fun H=>?_)
 ·refine go ?_;refine aB call168 (ip.r) (vR rA q x80 x74) H (fun x114 H=>?_);exact fS
 refine go ?_;refine aI Z H (fun H=>?_) (fun H=>?_)
 ·refine go ?_;refine aB call169 (ip.r) (wE rA q x80 x74) H (fun x121 H=>?_);exact fS
 refine go ?_
 obtain⟨x138,h138,H⟩:=aA H
 have k138:=oH h138;refine wP U Z Z Z Z Z (zl _) Z Z k138.1 (pT k138.2) Z ?_;exact fS
def kX(rec104:LRun->LQuery->Option (Rz))(_rec159:LRun->LQuery->Option (Rz))(rA:LRun)(q:LQuery):Option (Rz):=
 aa (ax q.inputs 0) fun(x19:LQuery)=>
 aa (ax q.inputs 1) fun(x25:LQuery)=>
 aa (rec104 rA x19) fun x21=>
 aa (rec104 rA x25) fun x27=>
 aa (ax q.inputs 1) fun(x31:LQuery)=>
 aa (jb rA x31) fun x33=>
 aa (ax q.inputs 0) fun(x37:LQuery)=>
 aa (jb rA x37) fun x39=>
 aa (cE 32 x39 x33) fun(x42:List LCol)=>
 aa (au (σ:=List LCol×Rz) (ρ:=Empty) (fun(_:Nat) (x1:Rq) (s1:List LCol×Rz)=>
  aa (au (σ:=Rz×Bool) (ρ:=Empty) (fun(_:Nat) (x6:Rq) (s6:Rz×Bool)=>
   aa (bX ([x1,x6]:Rz)) fun x58=>
   aa (ax q.exprs 0) fun(x65:LExpr)=>
   letP (bs rA s1.1 x58) fun x62=>
   letP (er x62 x65) fun x67=>
   letP (ma x67) fun x68=>
   cond x68
    (aa (cE 24 s6.1 ([x58]:Rz)) fun(x72:Rz)=>
    some (.next (x72,true)))
    (some (.next (s6.1,s6.2)))) 0 x27 (s1.2,false)) fun fl6=>fl6.thenP fun(s6:Rz×Bool)=>
  letP (
   cond (!s6.2)
    ((q.kind==(5:Int)))
    (false)) fun(t7:Bool)=>
  cond t7
   (aa (nT 32 (x33.length:Int)) fun(_:Unit)=>
   aa (bX ([x1,(List.replicate (x33.length:Int).toNat (LVal.mk 0 0 []))]:Rz)) fun x87=>
   aa (cE 24 s6.1 ([x87]:Rz)) fun(x89:Rz)=>
   some (.next (s1.1,x89)))
   (some (.next (s1.1,s6.1)))) 0 x21 (x42,[])) fun fl1=>fl1.thenP fun(s1:List LCol×Rz)=>
 some s1.2
theorem vY(rec104:LRun->LQuery->Option (Rz))(rec159:LRun->LQuery->Option (Rz))(hrec104:∀a0 a1 r,rec104 a0 a1=some r->aC prog 104 [(.agg (eQ a0)),(.agg (aH a1))] (.list 54 (r.map rRr)))(_hrec159:∀a0 a1 r,rec159 a0 a1=some r->aC prog 159 [(.agg (eQ a0)),(.agg (aH a1))] (.list 54 (r.map rRr)))(rA:LRun)(q:LQuery)(r:Rz)(H:kX rec104 rec159 rA q=some r):
  aC prog 159 [(.agg (eQ rA)),(.agg (aH q))] (.list 54 (r.map rRr)):=by
 unfold kX at H;refine PH.ak func159 ntmps159 ?_;refine gB ?_;refine bK ⟨false,false,[]⟩ [0,1,2,3,4,6,7,8,9,10,5,11,12,13] ?_;refine go ?_;refine bl cF H (fun x19 H=>?_);refine go ?_;refine bl cF H (fun x25 H=>?_);refine go ?_;refine bU call104 (ip.r) (hrec104 rA x19) H (fun x21 H=>?_);refine bU call104 (ip.r) (hrec104 rA x25) H (fun x27 H=>?_);refine go ?_;refine bK ⟨false,false,[]⟩ [0,1,2,3,4,5,6] ?_;refine go ?_;refine bl cF H (fun x31 H=>?_);refine go ?_;refine bU call162 (ip.r) (oi rA x31) H (fun x33 H=>?_);refine go ?_;refine bK ⟨false,false,[]⟩ [0,1,2,3,4,7,5,6,8,9] ?_;refine go ?_;refine bl cF H (fun x37 H=>?_);refine go ?_;refine bU call162 (ip.r) (oi rA x37) H (fun x39 H=>?_);have s40:=oE (m:=40) x39;refine rQ (g:=176) Z Z Z Z call176 (ip.r) Z Z s40 (fun g40=>?_)
 obtain⟨x42,h42,H⟩:=aA H
 have k42:=fZ h42;refine hC (rows2':=List.map ap x33) (rows':=List.map ap x42) U Z Z Z Z Z Z Z Z Z Z Z Z Z Z (iW.refl _) (jD k42.1) (jC k42.2.1) (jz k42.2.2) fun g42=>?_
 refine jm Z (dE (dp 1 U Z (al (al (ah (aD U Z (ic U (zl _) ?_)))))));refine aD U Z (ao (cD 8 Z Z Z (iy U 9 72 (e:=54) Z Z ?_)));refine xd (γ:=OwnRef) U 43 Z Z (fun s1 g1=>upd (upd (upd (upd (upd (fun _=>.any) 9 (.own 72 g1 (s1.2.map rRr).length)) 7 (.list 93 (x33.map ap))) 6 (.list 54 (x27.map rRr))) 3 (.ptr (aH q))) 2 (.ptr (eQ rA))) nB (fun s1 g1=>upd (fun _=>none) 72 (some ⟨g1,54,(s1.2.map rRr),true⟩)) (fun e j1 s1 g1=>upd (upd (upd (upd e 45 (ac (j1:Int))) 44 (ac (x21.length:Int))) 43 (.list 54 (x21.map rRr))) 8 (.list 93 (s1.1.map ap))) (⟨none,0⟩) H Z Gh.d (fun _ _ _=>rfl) (fun _ _ _=>rfl) (fun _ _ _=>Gh.d) (fun fl1 Hp1 j1 s1 g1 hz1 hl1 x1 fb1 hx1 H hg1=>?_) (fun s1 g1 H=>?_)
 ·refine go ?_;refine aW U (zn j1) (aQ (fun _=>Z) hx1) ?_;refine go ?_;refine fW (γ:=OwnRef) U 51 50 49 (fun s6 g6=>upd (upd (upd (upd (upd (upd (upd (upd (upd (upd (upd (fun _=>.any) 45 (ac (j1:Int))) 44 (ac (x21.length:Int))) 43 (.list 54 (x21.map rRr))) 12 (az s6.2)) 11 (.list 69 (x1.map ab))) 9 (.own 72 g6 (s6.1.map rRr).length)) 8 (.list 93 (s1.1.map ap))) 7 (.list 93 (x33.map ap))) 6 (.list 54 (x27.map rRr))) 3 (.ptr (aH q))) 2 (.ptr (eQ rA))) nB (fun s6 g6=>upd (fun _=>none) 72 (some ⟨g6,54,(s6.1.map rRr),true⟩)) g1 H (fun fl6 Hp6 j6 s6 g6 hz6 hl6 x6 fb6 hx6 H hg6=>?_) (fun s6 g6 H=>?_)
  ·refine go ?_;refine aW U (zn j6) (aQ (fun _=>Z) hx6) ?_;refine go ?_;refine bZ U (rows':=List.map rRr ([x1,x6]:Rz)) (iW.refl _) ?_
   obtain⟨x58,h58,H⟩:=aA H
   have s58:=kQ (m:=58) ([x1,x6]:Rz) _ h58;refine ag call210 (ip.r) (PFun.gN s58) ?_;refine go ?_;refine bK ⟨false,false,[]⟩ [0,1,2,4,5,6,7,3,8,9] ?_;refine go ?_;refine bl cQ H (fun x65 H=>?_);refine go ?_
   obtain⟨x62,h62,H⟩:=cI H
   have s62:=mS rA s1.1 x58;rw[h62]at s62;refine bI call166 (ip.r) s62 ?_
   obtain⟨x67,h67,H⟩:=cI H
   have s67:=oB x62 x65;rw[h67]at s67;refine bI call165 (ip.r) s67 ?_
   obtain⟨x68,h68,H⟩:=cI H
   have s68:=isTS x67;rw[h68]at s68;refine bI call125 (ip.r) s68 ?_;refine dE ?_;refine aI Z H (fun H=>?_) (fun H=>?_)
   ·refine go ?_;refine bZ U (rows':=List.map rRr ([x58]:Rz)) (iW.refl _) ?_;refine fm U H (fun x72 g72 H=>?_);refine go ?_;exact cJ g72 H hl6 hg6
   refine go ?_;exact cJ g6 H hl6 hg6
  refine al ?_;refine fP (γ:=Unit) (fun t7 g7=>⟨92,upd (upd (upd (upd (upd (upd (upd (upd (upd (upd (upd (fun _=>.any) 80 (az t7)) 45 (ac (j1:Int))) 44 (ac (x21.length:Int))) 43 (.list 54 (x21.map rRr))) 11 (.list 69 (x1.map ab))) 9 (.own 72 g6 (s6.1.map rRr).length)) 8 (.list 93 (s1.1.map ap))) 7 (.list 93 (x33.map ap))) 6 (.list 54 (x27.map rRr))) 3 (.ptr (aH q))) 2 (.ptr (eQ rA)),fun _=>none,upd (fun _=>none) 72 (some ⟨g6,54,(s6.1.map rRr),true⟩)⟩) H (fun _ H=>?_) (fun t7 g7 H=>?_)
  ·refine go ?_;refine aN Z Z Z H (fun H=>?_) (fun H=>?_)
   ·exact fA
   exact fA
  refine aI Z H (fun H=>?_) (fun H=>?_)
  ·refine go ?_
   obtain⟨_,h85,H⟩:=aA H
   have k85:=qP h85;refine xK (rows:=List.map ab (List.replicate (x33.length:Int).toNat (LVal.mk 0 0 []))) U Z Z Z Z Z Z Z Z Z Z k85.1 k85.2.1 k85.2.2 (by rw[List.map_replicate];rfl) fun g85=>?_
   refine iT (Gh.freezeO 85 Z Z Z) (bZ U (rows':=List.map rRr ([x1,(List.replicate (x33.length:Int).toNat (LVal.mk 0 0 []))]:Rz)) (iW.refl _) ?_)
   obtain⟨x87,h87,H⟩:=aA H
   have s87:=kQ (m:=87) ([x1,(List.replicate (x33.length:Int).toNat (LVal.mk 0 0 []))]:Rz) _ h87;refine ag call210 (ip.r) (PFun.gN s87) ?_;refine bZ U (rows':=List.map rRr ([x87]:Rz)) (iW.refl _) ?_;refine fm U H (fun x89 g89 H=>?_);refine go ?_;exact cJ g89 H hl1 hg1
  refine go ?_;exact cJ g6 H hl1 hg1
 refine dp 2 U Z (cD 4 Z Z Z ?_);exact fS
mutual
def gz:Nat->LRun->LQuery->Option (Rz)
 |0,_,_=>none
 |n+1,v0,v1=>mw (fun b0 b1=>gz n b0 b1) (fun b0 b1=>iX n b0 b1) v0 v1
def iX:Nat->LRun->LQuery->Option (Rz)
 |0,_,_=>none
 |n+1,v0,v1=>kX (fun b0 b1=>gz n b0 b1) (fun b0 b1=>iX n b0 b1) v0 v1
end
theorem vS  (n:Nat):(∀a0 a1 r,gz n a0 a1=some r->aC prog 104 [(.agg (eQ a0)),(.agg (aH a1))] (.list 54 (r.map rRr)))/\(∀a0 a1 r,iX n a0 a1=some r->aC prog 159 [(.agg (eQ a0)),(.agg (aH a1))] (.list 54 (r.map rRr))):=by
 induction n with
 |zero=>exact⟨(by intros;rename_i h;exact absurd (show(none:Option _)=some _ from h) (by simp)),(by intros;rename_i h;exact absurd (show(none:Option _)=some _ from h) (by simp))⟩
 |succ n ih=>
  exact⟨(fun v0 v1 r h=>vQ (fun b0 b1=>gz n b0 b1) (fun b0 b1=>iX n b0 b1) ih.1 ih.2 v0 v1  r h),(fun v0 v1 r h=>vY (fun b0 b1=>gz n b0 b1) (fun b0 b1=>iX n b0 b1) ih.1 ih.2 v0 v1  r h)⟩
def oe(rA:LRun)(q:LQuery):Option (Rz):=iO fun n=>gz n rA q
theorem wB(rA:LRun)(q:LQuery)(r:Rz)(H:oe rA q=some r):
  aC prog 104 [(.agg (eQ rA)),(.agg (aH q))] (.list 54 (r.map rRr)):=by
 obtain⟨n,h⟩:=kd H
 exact(vS  n).1 rA q r h
def dT(rA:LR)(sA:LS):Option (Int×LR):=
 aa (ck rA.s.tables (fun a0=>some (gK a0 sA))) fun x22=>
 aa (ax rA.s.tables x22) fun(x29:LTable)=>
 aa (ax rA.st x22) fun(x36:LW)=>
 aa (au (σ:=LR) (ρ:=(Int×LR)) (fun(_:Nat) (x1:Rq) (s1:LR)=>
  aa (ax sA.whereF 0) fun(x50:LExpr)=>
  aa (cp s1 x29.columns x1 x50) fun x52=>
  letP (ma x52.1) fun x53=>
  cond (!x53)
   (some (.next x52.2))
   (aa (au (σ:=Rq) (ρ:=Empty) (fun(_:Nat) (x22:Int) (s22:Rq)=>
    aa (ax x1 x22) fun(x69:LVal)=>
    aa (cE 32 s22 ([x69]:Rq)) fun(x72:Rq)=>
    some (.next x72)) 0 x29.primaryKey []) fun fl22=>fl22.thenP fun(s22:Rq)=>
   aa (
    cond (sA.kind==(5:Int))
     (aa (au (σ:=LR×Rq) (ρ:=Empty) (fun(j28:Nat) (x28:LExpr) (s28:LR×Rq)=>
      aa (bf x29.columns (fun a0=>gM a0 sA (j28:Int))) fun x94=>
      aa (cp s28.1 x29.columns x1 x28) fun x103=>
      aa (ax s28.2 x94) fun(_:LVal)=>
      letP (s28.2.set x94.toNat x103.1) fun(y31:Rq)=>
      some (.next (x103.2,y31))) 0 sA.exprs (x52.2,x1)) fun fl28=>fl28.thenP fun(s28:LR×Rq)=>
     some (s28.1,1,[],s28.2))
     (some (x52.2,2,s22,[]))) fun(t27:LR×Int×Rq×Rq)=>
   aa (de t27.1 (LChange.mk t27.2.1 sA.table t27.2.2.1 t27.2.2.2)) fun x108=>
   cond (x108.1 !=(0:Int))
    (some (.ret (x108.1,x108.2)))
    (some (.next x108.2)))) 0 x36.rows rA) fun fl1=>fl1.thenR fun(s1:LR)=>
 some (0,s1)
theorem tV(b_rA:Nat)(g_rA_7:OwnRef)(g_rA_8:OwnRef)(rA:LR)(sA:LS)(r:Int×LR)(H:dT rA sA=some r):
  PH prog 129 [(.box 1500 b_rA 0),(.agg (am sA))] ⟨(bR b_rA rA g_rA_7 g_rA_8),(oR rA g_rA_7 g_rA_8)⟩ (fun u H=>∃gz0_7,∃gz0_8,u=(ac r.1)/\H=⟨(bR b_rA r.2 gz0_7 gz0_8),(oR r.2 gz0_7 gz0_8)⟩):=by
 unfold dT at H;refine PH.ak func129 ntmps129 ?_;refine gB ?_;refine aB call55 (ip.r) (eM rA.s.tables (fun a0=>some (gK a0 sA)) call185 (fun a0 r h=>(ay h)▸sG a0 sA)) H (fun x22 H=>?_);refine go ?_;refine ec U (fun _=>Z) H (fun x29 H=>?_);refine go ?_;refine aM U fun b6=>?_
 refine go ?_;refine ec U (fun _=>Z) H (fun x36 H=>?_);refine cC 2 U Z (ic U (zl _) ?_);refine aD U Z (ao (kJ 6 ?_));refine fg (γ:=OwnRef×OwnRef) U 40 39 38 (fun s1 g1=>upd (upd (upd (fun _=>.any) 6 (.ptr (bq x29))) 3 (.ptr (am sA))) 0 (.box 1500 b_rA 0)) (fun s1 g1=>(bR b_rA s1 g1.1 g1.2)) (fun s1 g1=>(oR s1 g1.1 g1.2)) (g_rA_7,g_rA_8) H (fun fl1 Hp1 j1 s1 g1 hz1 hl1 x1 fb1 hx1 H hg1=>?_) (fun s1 g1 H=>?_)
 ·refine go ?_;refine aW U (zn j1) (aQ (fun _=>Z) hx1) ?_;refine go ?_;refine bK ⟨false,false,[999997]⟩ [0,1,2,3,4,5,6,7,8,9,10] ?_;refine go ?_;refine bl cQ H (fun x50 H=>?_);refine go ?_
  obtain⟨x52,h52,H⟩:=aA H
  have s52:=jn b_rA g1.1 g1.2 s1 x29.columns x1 x50 _ h52;refine qF (g:=124) Z Z Z Z call124 Z Z [(1500,1500)] [(1607,1607),(1608,1608)] Z Z Z Z (ip.of2 (ku.cons PLe2.boxT (ku.cons (PLe2.of_eq Z) (ku.cons (PLe2.of_eq Z) (ku.cons (PLe2.of_eq Z) ku.nil))))) (by rw[dU,dI,bB,bB,cP];rfl) s52 ?_;rintro u52 H52h ⟨gz52_1607,gz52_1608,rfl,rfl⟩
  refine⟨_,rfl,?_⟩
  obtain⟨x53,h53,H⟩:=cI H
  have s53:=isTS x52.1;rw[h53]at s53;refine bI call125 (ip.r) s53 ?_;refine jm Z (dE (cv (st':=⟨_,_,(bR b_rA x52.2 gz52_1607 gz52_1608),(oR x52.2 gz52_1607 gz52_1608)⟩) (Gh.le (il _ _) (aZ Z (ip.r) aV) (bJ (bJ aU))) ?_));refine aI Z H (fun H=>?_) (fun H=>?_)
  ·refine go ?_;exact cJ (gz52_1607,gz52_1608) H hl1 hg1
  refine go ?_;refine aM U fun b9=>?_
  refine aK U ?_;refine ao (al (al (ah (cC 2 U Z (ic U (zl _) ?_)))));refine aD U Z (ao (oA U 9 2 72 (e:=69) Z Z Z Z ?_));refine fW (γ:=OwnRef) U 61 60 59 (fun s22 g22=>upd (upd (upd (upd (upd (upd (upd (upd (fun _=>.any) 40 (ac (j1:Int))) 39 (ac (x36.rows.length:Int))) 38 (.list 54 (x36.rows.map rRr))) 9 (.box 9 b9 0)) 8 (.list 69 (x1.map ab))) 6 (.ptr (bq x29))) 3 (.ptr (am sA))) 0 (.box 1500 b_rA 0)) (fun s22 g22=>upd (bR b_rA x52.2 gz52_1607 gz52_1608) 9 (some ⟨b9,[(ac 2),(.str sA.table),(.own 72 g22 (s22.map ab).length),(.val (.slice none 0 0))]⟩)) (fun s22 g22=>upd (upd (upd (fun _=>none) 72 (some ⟨g22,69,(s22.map ab),true⟩)) 1608 (some ⟨gz52_1608,64,(x52.2.results.map dR),true⟩)) 1607 (some ⟨gz52_1607,56,(x52.2.changes.map bW),true⟩)) (⟨none,0⟩) H (fun fl22 Hp22 j22 s22 g22 hz22 hl22 x22 fb22 hx22 H hg22=>?_) (fun s22 g22 H=>?_)
  ·refine go ?_;refine aW U (zn j22) (aQ (fun _=>Z) hx22) ?_;refine cC 2 U Z (ao ?_);refine ii (tag:=1607) Z (fun ho1607=>?_);refine ii (tag:=1608) Z (fun ho1608=>?_);refine ii (tag:=72) Z (fun ho72=>?_);refine bK ⟨true,false,[70]⟩ [0,1,2,3,4,5,6,7,8,9] ?_;refine go ?_;refine bl (fun _=>Z) H (fun x69 H=>?_);refine go ?_
   obtain⟨x72,h72,H⟩:=aA H
   have k72:=fZ h72;refine hC (rows2':=List.map ab ([x69]:Rq)) (rows':=List.map ab x72) U Z Z Z Z Z Z Z Z Z Z Z Z Z Z (iW.refl _) (jD k72.1) (jC k72.2.1) (jz k72.2.2) fun g72=>?_
   refine go ?_;refine ib Z Z Z Z Z Z Z Z Z Z Z Z (go ?_);exact cJ g72 H hl22 hg22
  refine go ?_;refine fQ (γ:=OwnRef×OwnRef×OwnRef×OwnRef) (fun t27 g27=>⟨113,upd (upd (upd (upd (upd (upd (upd (fun _=>.any) 40 (ac (j1:Int))) 39 (ac (x36.rows.length:Int))) 38 (.list 54 (x36.rows.map rRr))) 9 (.box 9 b9 0)) 6 (.ptr (bq x29))) 3 (.ptr (am sA))) 0 (.box 1500 b_rA 0),upd (bR b_rA t27.1 g27.1 g27.2.1) 9 (some ⟨b9,[(ac t27.2.1),(.str sA.table),(.own 72 g27.2.2.1 (t27.2.2.1.map ab).length),(.own 81 g27.2.2.2 (t27.2.2.2.map ab).length)]⟩),upd (upd (oR t27.1 g27.1 g27.2.1) 81 (some ⟨g27.2.2.2,69,(t27.2.2.2.map ab),true⟩)) 72 (some ⟨g27.2.2.1,69,(t27.2.2.1.map ab),true⟩)⟩) H (fun _ H=>?_) (fun t27 g27 H=>?_)
  ·refine aI Z H (fun H=>?_) (fun H=>?_)
   ·refine al (bK ⟨false,false,[]⟩ [0,1,2,3,4,5] ?_);refine oa 3 Z ?_;have s81:=rR (m:=81) x1;refine rQ (g:=85) Z Z Z Z call85 (ip.r) Z Z s81 (fun g81=>?_);refine go ?_;refine ib Z Z Z Z Z Z Z Z Z Z Z Z (go ?_);refine fW (γ:=OwnRef×OwnRef×OwnRef) U 86 85 84 (fun s28 g28=>upd (upd (upd (upd (upd (upd (upd (upd (fun _=>.any) 40 (ac (j1:Int))) 39 (ac (x36.rows.length:Int))) 38 (.list 54 (x36.rows.map rRr))) 9 (.box 9 b9 0)) 8 (.list 69 (x1.map ab))) 6 (.ptr (bq x29))) 3 (.ptr (am sA))) 0 (.box 1500 b_rA 0)) (fun s28 g28=>upd (bR b_rA s28.1 g28.1 g28.2.1) 9 (some ⟨b9,[(ac 1),(.str sA.table),(.val (.slice none 0 0)),(.own 81 g28.2.2 (s28.2.map ab).length)]⟩)) (fun s28 g28=>upd (upd (upd (fun _=>none) 81 (some ⟨g28.2.2,69,(s28.2.map ab),true⟩)) 1608 (some ⟨g28.2.1,64,(s28.1.results.map dR),true⟩)) 1607 (some ⟨g28.1,56,(s28.1.changes.map bW),true⟩)) (gz52_1607,gz52_1608,g81) H (fun fl28 Hp28 j28 s28 g28 hz28 hl28 x28 fb28 hx28 H hg28=>?_) (fun s28 g28 H=>?_)
    ·refine go ?_;refine aW U (zn j28) (aQ cQ hx28) ?_;refine go ?_;refine aM U fun b12=>?_
     refine aM U fun b13=>?_
     refine aK U ?_;refine aK U ?_;refine ao (al (ah (cC 2 U Z (iT (Gh.freezeB 12 Z Z Z Z) (go ?_)))));refine aB call170 (ip.r) (dy x29.columns (fun a0=>gM a0 sA (j28:Int)) call186 (fun a0 r h=>sJ a0 sA (j28:Int) r h)) H (fun x94 H=>?_);refine aD U Z (ao ?_);refine ii (tag:=1607) Z (fun ho1607=>?_);refine ii (tag:=1608) Z (fun ho1608=>?_);refine ii (tag:=81) Z (fun ho81=>?_);refine kJ 13 ?_;refine bK ⟨true,false,[100,102,999997,3000009,4000096]⟩ [0,1,2,3,4,5,6,7,8,9,10] ?_;refine go ?_;refine wk U Z Z Z Z Z Z Z Z Z Z (go ?_)
     obtain⟨x103,h103,H⟩:=aA H
     have s103:=jn b_rA g28.1 g28.2.1 s28.1 x29.columns x1 x28 _ h103;refine qF (g:=124) Z Z Z Z call124 Z Z [(1500,1500)] [(1607,1607),(1608,1608)] Z Z Z Z (ip.of2 (ku.cons PLe2.boxT (ku.cons (PLe2.of_eq Z) (ku.cons (PLe2.of_eq Z) (ku.cons (PLe2.of_eq Z) ku.nil))))) (by rw[dU,dI,bB,bB,cP];rfl) s103 ?_;rintro u103 H103h ⟨gz103_1607,gz103_1608,rfl,rfl⟩
     refine⟨_,rfl,?_⟩
     obtain⟨x104,k104,H⟩:=eC H
     refine cZ U ⟨k104.1,(dz k104.2)⟩ (dv ho81 k104.2) ?_
     obtain⟨y31,hy31,H⟩:=cI H
     refine je U Z Z Z Z Z Z Z Z Z (by rw[zl];exact(zg.1 k104.2).1) (PLe.refl _ _) Z Z Z Z (by decide) (eT (fun _=>Z) k104.2 Z hy31) ?_;refine dE ?_;refine cv (st':=⟨_,_,upd (bR b_rA x103.2 gz103_1607 gz103_1608) 9 (some ⟨b9,[(ac 1),(.str sA.table),(.val (.slice none 0 0)),(.own 81 g28.2.2 (s28.2.map ab).length)]⟩),upd (upd (upd (fun _=>none) 81 (some ⟨g28.2.2,69,(y31.map ab),true⟩)) 1608 (some ⟨gz103_1608,64,(x103.2.results.map dR),true⟩)) 1607 (some ⟨gz103_1607,56,(x103.2.changes.map bW),true⟩)⟩) (Gh.le (il _ _) (aZ Z (ip.r) (aZ Z (ip.r) aV)) (bJ (bJ (bJ aU)))) ?_;refine go ?_;exact cJ (gz103_1607,gz103_1608,g28.2.2) H hl28 hg28 (Gh.le (aq (aq (bh (PLe.q (fG (by omega))) (aq (aq (aq (aq (aq (aq (aq (aq bm))))))))))) (aZ Z (ip.of2 (ku.cons (PLe2.of_eq Z) (ku.cons (PLe2.of_eq Z) (ku.cons (PLe2.of_eq Z) (ku.cons (PLe2.of_eq (congrArg (PV.own 81 g28.2.2) (eZ (f:=ab) hy31))) ku.nil))))) (aZ Z (ip.r) aV)) (bJ (bJ (bJ aU))))
    refine oA U 9 2 72 (e:=69) Z Z Z Z ?_;refine fc _ (g28.1,g28.2.1,⟨none,0⟩,g28.2.2) (ay H) Gh.d
   refine aE (oA U 9 3 81 (e:=69) Z Z Z Z ?_);refine fc _ (gz52_1607,gz52_1608,g22,⟨none,0⟩) (ay H) Gh.d
  refine al (jZ 9 2 Z Z Z Z Z (jZ 9 3 Z Z Z Z Z (go ?_)))
  obtain⟨x108,h108,H⟩:=aA H
  have s108:=ow b_rA g27.1 g27.2.1 t27.1 (LChange.mk t27.2.1 sA.table t27.2.2.1 t27.2.2.2) _ h108;refine gU call128 [(1500,1500)] [(1607,1607),(1608,1608)] s108 ?_;rintro u108 H108h ⟨gz108_1607,gz108_1608,rfl,rfl⟩
  refine⟨_,rfl,?_⟩
  refine eA (upd (bR b_rA x108.2 gz108_1607 gz108_1608) 9 (some ⟨b9,[(ac t27.2.1),(.str sA.table),(.list 69 (t27.2.2.1.map ab)),(.list 69 (t27.2.2.2.map ab))]⟩)) (upd (upd (upd (upd (fun _=>none) 81 (some ⟨g27.2.2.2,69,(t27.2.2.2.map ab),false⟩)) 72 (some ⟨g27.2.2.1,69,(t27.2.2.1.map ab),false⟩)) 1608 (some ⟨gz108_1608,64,(x108.2.results.map dR),true⟩)) 1607 (some ⟨gz108_1607,56,(x108.2.changes.map bW),true⟩)) ?_;refine go ?_;refine aI Z H (fun H=>?_) (fun H=>?_)
  ·refine go ?_;obtain rfl:=lvR H hg1 Hp1;refine cv (st':=⟨113,upd (fun _=>.any) 4 (ac x108.1),(bR b_rA x108.2 gz108_1607 gz108_1608),(oR x108.2 gz108_1607 gz108_1608)⟩) Gh.d ?_;exact hO U Z ⟨_,_,rfl,rfl⟩
  refine go ?_;exact cJ (gz108_1607,gz108_1608) H hl1 hg1
 refine go ?_;obtain rfl:=ay H;refine cv (st':=⟨113,upd (fun _=>.any) 4 (ac 0),(bR b_rA s1 g1.1 g1.2),(oR s1 g1.1 g1.2)⟩) Gh.d ?_;exact hO U Z ⟨_,_,rfl,rfl⟩
def gR(sA:LSchema)(p:LP):Option (Int):=
 aa (
  aa (bD p.body) fun x11=>
  cond (decide ((x11.length:Int)>(40:Int)))
   (some true)
   (aa (ez p.body) fun x17=>
   cond (decide (x17>(6:Int)))
    (some true)
    (some (decide ((p.parameters.length:Int)>(8:Int)))))) fun(t1:Bool)=>
 cond t1
  (some 2)
  (aa (au (σ:=Unit) (ρ:=(Int)) (fun(_:Nat) (x2:Int) (_:Unit)=>
   cond (decide (x2<(1:Int)))
    (some (.ret 1))
    (cond (decide (x2>(3:Int)))
     (some (.ret 1))
     (some (.next ())))) 0 p.parameters ()) fun fl2=>fl2.thenR fun(_:Unit)=>
  aa (be (LC.mk sA p.parameters) ([]:List LCol) p.body) fun x47=>
  some x47.2)
theorem nG(sA:LSchema)(p:LP)(r:Int)(H:gR sA p=some r):
  aC prog 13 [(.agg (cf sA)),(.agg (bn p))] (ac r):=by
 unfold gR at H;refine PH.ak func13 ntmps13 ?_;refine al (ah (bC ?_));refine bC ?_;refine aD U Z (ao (al (al ?_)));refine fQ (γ:=Unit) (fun t1 g1=>⟨51,upd (upd (upd (fun _=>.any) 25 (az t1)) 3 (.ptr (bn p))) 2 (.ptr (cf sA)),fun _=>none,fun _=>none⟩) H (fun _ H=>?_) (fun t1 g1 H=>?_)
 ·refine go ?_;refine aB call10 (ip.r) (lO p.body) H (fun x11 H=>?_);refine go ?_;refine aN Z Z Z H (fun H=>?_) (fun H=>?_)
  ·exact fA
  refine go ?_;refine aB call41 (ip.r) (vW p.body) H (fun x17 H=>?_);refine go ?_;refine aN Z Z Z H (fun H=>?_) (fun H=>?_)
  ·exact fA
  exact fA
 refine bG Z H ay (fun H=>?_);refine go ?_;refine fg U 29 28 27 (fun s2 g2=>upd (upd (fun _=>.any) 3 (.ptr (bn p))) 2 (.ptr (cf sA))) nB nO () H (fun fl2 Hp2 j2 s2 g2 hz2 hl2 x2 fb2 hx2 H hg2=>?_) (fun s2 g2 H=>?_)
 ·refine go ?_;refine aW U (zn j2) (aQ (fun _=>Z) hx2) ?_;refine go ?_;refine aN Z Z Z H (fun H=>?_) (fun H=>?_)
  ·refine go ?_;refine bO Z ?_;exact fE (lvR H hg2 Hp2)
  refine go ?_;refine bG Z H (fun H=>lvR H hg2 Hp2) (fun H=>?_);exact fN
 refine go ?_;refine aB call42 (ip.of2 (ku.cons (PLe2.of_eq Z) (ku.cons (PLe2.nil U Z) (ku.cons (PLe2.of_eq Z) ku.nil)))) (rm (LC.mk sA p.parameters) ([]:List LCol) p.body) H (fun x47 H=>?_);exact fS
def iP(sA:LSchema)(st:List LW)(q:LQuery)(args:Rq)(vars:List LCol)(vals:Rq):Option (LResult×Int):=
 aa (iJ sA vars q) fun x28=>
 cond (x28.2 !=(0:Int))
  (some ((LResult.mk [] []),x28.2))
  (aa (iR q args) fun x37=>
  cond (x37 !=(0:Int))
   (some ((LResult.mk [] []),x37))
   (aa (du sA st) fun x44=>
   cond (x44 !=(0:Int))
    (some ((LResult.mk [] []),x44))
    (aa (au (σ:=Rs) (ρ:=Empty) (fun(_:Nat) (x1:LCol) (s1:Rs)=>
     aa (cE 16 s1 ([x1.name]:Rs)) fun(x66:Rs)=>
     some (.next x66)) 0 vars []) fun fl1=>fl1.thenP fun(s1:Rs)=>
    aa (oe (LRun.mk sA st args vars s1 vals) q) fun x73=>
    aa (au (σ:=Rz) (ρ:=Empty) (fun(_:Nat) (x2:Rq) (s2:Rz)=>
     aa (cE 24 s2 ([x2]:Rz)) fun(x84:Rz)=>
     some (.next x84)) 0 x73 []) fun fl2=>fl2.thenP fun(s2:Rz)=>
    some ((LResult.mk x28.1 s2),0))))
theorem sO(sA:LSchema)(st:List LW)(q:LQuery)(args:Rq)(vars:List LCol)(vals:Rq)(r:LResult×Int)(H:iP sA st q args vars vals=some r):
  aC prog 70 [(.agg (cf sA)),(.list 86 (st.map bE)),(.agg (aH q)),(.list 69 (args.map ab)),(.list 93 (vars.map ap)),(.list 69 (vals.map ab))] (.tup [(.agg (dR r.1)),(ac r.2)]):=by
 unfold iP at H;refine PH.ak func70 ntmps70 ?_;refine gB ?_;refine aM U fun b12=>?_
 refine go ?_;refine aB call103 (ip.r) (pE sA vars q) H (fun x28 H=>?_);refine go ?_;refine aI Z H (fun H=>?_) (fun H=>?_)
 ·refine go ?_;obtain rfl:=ay H;refine lH U Z (ps:=[(.agg [(.val (.slice none 0 0)),(.val (.slice none 0 0))]),(ac x28.2)]) ⟨_,_,rfl,⟨_,_,_,_,_,rfl,rfl,rfl,rfl⟩,_,_,rfl,rfl,rfl⟩ (PLe.of2 (PLe2.tup (ku.cons (PLe2.agg (ku.cons (PLe2.nil U Z) (ku.cons (PLe2.nil U Z) ku.nil))) (ku.cons (PLe2.of_eq Z) ku.nil))))
 refine go ?_;refine aB call54 (ip.r) (sM q args) H (fun x37 H=>?_);refine go ?_;refine aI Z H (fun H=>?_) (fun H=>?_)
 ·refine go ?_;obtain rfl:=ay H;refine lH U Z (ps:=[(.agg [(.val (.slice none 0 0)),(.val (.slice none 0 0))]),(ac x37)]) ⟨_,_,rfl,⟨_,_,_,_,_,rfl,rfl,rfl,rfl⟩,_,_,rfl,rfl,rfl⟩ (PLe.of2 (PLe2.tup (ku.cons (PLe2.agg (ku.cons (PLe2.nil U Z) (ku.cons (PLe2.nil U Z) ku.nil))) (ku.cons (PLe2.of_eq Z) ku.nil))))
 refine go ?_;refine aB call38 (ip.r) (lq sA st) H (fun x44 H=>?_);refine go ?_;refine aI Z H (fun H=>?_) (fun H=>?_)
 ·refine go ?_;obtain rfl:=ay H;refine lH U Z (ps:=[(.agg [(.val (.slice none 0 0)),(.val (.slice none 0 0))]),(ac x44)]) ⟨_,_,rfl,⟨_,_,_,_,_,rfl,rfl,rfl,rfl⟩,_,_,rfl,rfl,rfl⟩ (PLe.of2 (PLe2.tup (ku.cons (PLe2.agg (ku.cons (PLe2.nil U Z) (ku.cons (PLe2.nil U Z) ku.nil))) (ku.cons (PLe2.of_eq Z) ku.nil))))
 refine go ?_;refine aM U fun b18=>?_
 refine aK U ?_;refine ao (al (al (ah (aD U Z (ic U (zl _) ?_)))));refine aD U Z (ao (oA U 18 6 66 (e:=9) Z Z Z Z ?_));refine fW (γ:=OwnRef) U 57 56 55 (fun s1 g1=>upd (upd (upd (upd (fun _=>.any) 18 (.box 18 b18 0)) 14 (.list 93 (x28.1.map ap))) 12 (.box 12 b12 0)) 8 (.ptr (aH q))) (fun s1 g1=>upd (upd (fun _=>none) 18 (some ⟨b18,[(.list 95 (sA.tables.map bq)),(.list 145 (sA.foreignKeys.map jX)),(.list 151 (sA.constraints.map ln)),(.list 86 (st.map bE)),(.list 69 (args.map ab)),(.list 93 (vars.map ap)),(.own 66 g1 (s1.map nE).length),(.list 69 (vals.map ab))]⟩)) 12 (some ⟨b12,[(.val (.slice none 0 0)),(.val (.slice none 0 0))]⟩)) (fun s1 g1=>upd (fun _=>none) 66 (some ⟨g1,9,(s1.map nE),true⟩)) (⟨none,0⟩) H (fun fl1 Hp1 j1 s1 g1 hz1 hl1 x1 fb1 hx1 H hg1=>?_) (fun s1 g1 H=>?_)
 ·refine go ?_;refine aW U (zn j1) (aQ (fun _=>Z) hx1) ?_;refine go ?_;refine aM U fun b20=>?_
  refine go ?_;refine bZ U (rows':=List.map nE ([x1.name]:Rs)) (iW.refl _) ?_;refine fm U H (fun x66 g66 H=>?_);refine go ?_;exact cJ g66 H hl1 hg1
 refine go ?_;refine aM U fun b21=>?_
 refine aK U ?_;refine ao (al (al (jZ 18 6 Z Z Z Z Z (go ?_))));refine aB call104 (ip.r) (wB (LRun.mk sA st args vars s1 vals) q) H (fun x73 H=>?_);refine ic U (zl _) ?_;refine aD U Z (ao (oA U 21 1 84 (e:=54) Z Z Z Z ?_));refine fW (γ:=OwnRef) U 75 74 73 (fun s2 g2=>upd (upd (fun _=>.any) 21 (.box 21 b21 0)) 12 (.box 12 b12 0)) (fun s2 g2=>upd (upd (fun _=>none) 21 (some ⟨b21,[(.list 93 (x28.1.map ap)),(.own 84 g2 (s2.map rRr).length)]⟩)) 12 (some ⟨b12,[(.val (.slice none 0 0)),(.val (.slice none 0 0))]⟩)) (fun s2 g2=>upd (fun _=>none) 84 (some ⟨g2,54,(s2.map rRr),true⟩)) (⟨none,0⟩) H (fun fl2 Hp2 j2 s2 g2 hz2 hl2 x2 fb2 hx2 H hg2=>?_) (fun s2 g2 H=>?_)
 ·refine go ?_;refine aW U (zn j2) (aQ (fun _=>Z) hx2) ?_;refine go ?_;refine bK ⟨true,false,[]⟩ [0,1,2,3,4,5,6,7] ?_;refine jm Z (kP ?_);refine jm Z ?_;have s82:=rR (m:=82) x2;refine bI call85 (ip.r) (PFun.gN s82) ?_;refine go ?_
  obtain⟨x84,h84,H⟩:=aA H
  have k84:=fZ h84;refine hC (rows2':=List.map rRr ([x2]:Rz)) (rows':=List.map rRr x84) U Z Z Z Z Z Z Z Z Z Z Z Z Z Z (iW.refl _) (jD k84.1) (jC k84.2.1) (jz k84.2.2) fun g84=>?_
  refine go ?_;refine ib Z Z Z Z Z Z Z Z Z Z Z Z (go ?_);exact cJ g84 H hl2 hg2
 refine go ?_;obtain rfl:=ay H;refine jZ 12 1 Z Z Z Z Z ?_;refine lH U Z (ps:=[(.agg [(.list 93 (x28.1.map ap)),(.list 54 (s2.map rRr))]),(ac 0)]) ⟨_,_,rfl,⟨_,_,_,_,_,rfl,rfl,rfl,rfl⟩,_,_,rfl,rfl,rfl⟩ (PLe.q Z)
def it(sA:LSchema)(st:List LW)(p:LP):Option (Bool):=
 aa (bD p.body) fun x9=>
 cond (decide ((x9.length:Int)<=(40:Int)))
  (aa (gS sA) fun x14=>
  cond (x14==(0:Int))
   (aa (du sA st) fun x20=>
   cond (x20==(0:Int))
    (aa (gR sA p) fun x26=>
    some (x26==(0:Int)))
    (some false))
   (some false))
  (some false)
theorem oU(sA:LSchema)(st:List LW)(p:LP)(r:Bool)(H:it sA st p=some r):
  aC prog 8 [(.agg (cf sA)),(.list 86 (st.map bE)),(.agg (bn p))] (az r):=by
 unfold it at H;refine PH.ak func8 ntmps8 ?_;refine gB ?_;refine aB call10 (ip.r) (lO p.body) H (fun x9 H=>?_);refine go ?_;refine aN Z Z Z H (fun H=>?_) (fun H=>?_)
 ·refine go ?_;refine aB call37 (ip.r) (qK sA) H (fun x14 H=>?_);refine go ?_;refine aN Z Z Z H (fun H=>?_) (fun H=>?_)
  ·refine go ?_;refine aB call38 (ip.r) (lq sA st) H (fun x20 H=>?_);refine go ?_;refine aN Z Z Z H (fun H=>?_) (fun H=>?_)
   ·refine go ?_;refine aB call13 (ip.r) (nG sA p) H (fun x26 H=>?_);exact fS
   exact fS
  exact fS
 exact fS
def eF(_rec45:LR->(List LS)->Option (Int×LR))(rec83:LR->LS->Option (Int×LR))(_rec126:LR->(List LS)->Option (Int×LR))(_rec127:LR->LS->Option (Int×LR))(rA:LR)(l:List LS):Option (Int×LR):=
 aa (au (σ:=LR) (ρ:=(Int×LR)) (fun(_:Nat) (x1:LS) (s1:LR)=>
  cond s1.stopped
   (some (.ret (0,s1)))
   (cond (decide ((Iw (s1.left-(1:Int)))<(0:Int)))
    (some (.ret (2,{s1 with left:=(Iw (s1.left-(1:Int)))})))
    (aa (rec83 {s1 with left:=(Iw (s1.left-(1:Int)))} x1) fun x32=>
    cond (x32.1 !=(0:Int))
     (some (.ret (x32.1,x32.2)))
     (some (.next x32.2))))) 0 l rA) fun fl1=>fl1.thenR fun(s1:LR)=>
 some (0,s1)
theorem tc(b_rA:Nat)(g_rA_7:OwnRef)(g_rA_8:OwnRef)(rec45:LR->(List LS)->Option (Int×LR))(rec83:LR->LS->Option (Int×LR))(rec126:LR->(List LS)->Option (Int×LR))(rec127:LR->LS->Option (Int×LR))(_hrec45:∀bb0 gg0_7 gg0_8 a0 a1 r,rec45 a0 a1=some r->PH prog 45 [(.box 1500 bb0 0),(.list 40 (a1.map af))] ⟨(bR bb0 a0 gg0_7 gg0_8),(oR a0 gg0_7 gg0_8)⟩ (fun u H=>∃gz0_7,∃gz0_8,u=(ac r.1)/\H=⟨(bR bb0 r.2 gz0_7 gz0_8),(oR r.2 gz0_7 gz0_8)⟩))(hrec83:∀bb0 gg0_7 gg0_8 a0 a1 r,rec83 a0 a1=some r->PH prog 83 [(.box 1500 bb0 0),(.agg (am a1))] ⟨(bR bb0 a0 gg0_7 gg0_8),(oR a0 gg0_7 gg0_8)⟩ (fun u H=>∃gz0_7,∃gz0_8,u=(ac r.1)/\H=⟨(bR bb0 r.2 gz0_7 gz0_8),(oR r.2 gz0_7 gz0_8)⟩))(_hrec126:∀bb0 gg0_7 gg0_8 a0 a1 r,rec126 a0 a1=some r->PH prog 126 [(.box 1500 bb0 0),(.list 40 (a1.map af))] ⟨(bR bb0 a0 gg0_7 gg0_8),(oR a0 gg0_7 gg0_8)⟩ (fun u H=>∃gz0_7,∃gz0_8,u=(ac r.1)/\H=⟨(bR bb0 r.2 gz0_7 gz0_8),(oR r.2 gz0_7 gz0_8)⟩))(_hrec127:∀bb0 gg0_7 gg0_8 a0 a1 r,rec127 a0 a1=some r->PH prog 127 [(.box 1500 bb0 0),(.agg (am a1))] ⟨(bR bb0 a0 gg0_7 gg0_8),(oR a0 gg0_7 gg0_8)⟩ (fun u H=>∃gz0_7,∃gz0_8,u=(ac r.1)/\H=⟨(bR bb0 r.2 gz0_7 gz0_8),(oR r.2 gz0_7 gz0_8)⟩))(rA:LR)(l:List LS)(r:Int×LR)(H:eF rec45 rec83 rec126 rec127 rA l=some r):
  PH prog 45 [(.box 1500 b_rA 0),(.list 40 (l.map af))] ⟨(bR b_rA rA g_rA_7 g_rA_8),(oR rA g_rA_7 g_rA_8)⟩ (fun u H=>∃gz0_7,∃gz0_8,u=(ac r.1)/\H=⟨(bR b_rA r.2 gz0_7 gz0_8),(oR r.2 gz0_7 gz0_8)⟩):=by
 unfold eF at H;refine PH.ak func45 ntmps45 ?_;refine go ?_;refine fg (γ:=OwnRef×OwnRef) U 10 9 8 (fun s1 g1=>upd (fun _=>.any) 0 (.box 1500 b_rA 0)) (fun s1 g1=>(bR b_rA s1 g1.1 g1.2)) (fun s1 g1=>(oR s1 g1.1 g1.2)) (g_rA_7,g_rA_8) H (fun fl1 Hp1 j1 s1 g1 hz1 hl1 x1 fb1 hx1 H hg1=>?_) (fun s1 g1 H=>?_)
 ·refine go ?_;refine aW U (zn j1) (aQ cx hx1) ?_;refine go ?_;refine aM U fun b6=>?_
  refine go ?_;refine aI Z H (fun H=>?_) (fun H=>?_)
  ·refine go ?_;obtain rfl:=lvR H hg1 Hp1;refine cv (st':=⟨37,upd (fun _=>.any) 4 (ac 0),(bR b_rA s1 g1.1 g1.2),(oR s1 g1.1 g1.2)⟩) Gh.d ?_;exact hO U Z ⟨_,_,rfl,rfl⟩
  refine go ?_;refine aI Z H (fun H=>?_) (fun H=>?_)
  ·refine go ?_;obtain rfl:=lvR H hg1 Hp1;refine cv (st':=⟨37,upd (fun _=>.any) 4 (ac 2),(bR b_rA {s1 with left:=(Iw (s1.left-(1:Int)))} g1.1 g1.2),(oR s1 g1.1 g1.2)⟩) Gh.d ?_;exact hO U Z ⟨_,_,rfl,rfl⟩
  refine go ?_
  obtain⟨x32,h32,H⟩:=aA H
  have s32:=hrec83 b_rA g1.1 g1.2 {s1 with left:=(Iw (s1.left-(1:Int)))} x1 _ h32;refine gU call83 [(1500,1500)] [(1607,1607),(1608,1608)] s32 ?_;rintro u32 H32h ⟨gz32_1607,gz32_1608,rfl,rfl⟩
  refine⟨_,rfl,?_⟩
  refine eA (upd (bR b_rA x32.2 gz32_1607 gz32_1608) 6 (some ⟨b6,(am x1)⟩)) (oR x32.2 gz32_1607 gz32_1608) ?_;refine go ?_;refine aI Z H (fun H=>?_) (fun H=>?_)
  ·refine go ?_;obtain rfl:=lvR H hg1 Hp1;refine cv (st':=⟨37,upd (fun _=>.any) 4 (ac x32.1),(bR b_rA x32.2 gz32_1607 gz32_1608),(oR x32.2 gz32_1607 gz32_1608)⟩) Gh.d ?_;exact hO U Z ⟨_,_,rfl,rfl⟩
  refine go ?_;exact cJ (gz32_1607,gz32_1608) H hl1 hg1
 refine go ?_;obtain rfl:=ay H;refine cv (st':=⟨37,upd (fun _=>.any) 4 (ac 0),(bR b_rA s1 g1.1 g1.2),(oR s1 g1.1 g1.2)⟩) Gh.d ?_;exact hO U Z ⟨_,_,rfl,rfl⟩
def ce(_rec45:LR->(List LS)->Option (Int×LR))(_rec83:LR->LS->Option (Int×LR))(rec126:LR->(List LS)->Option (Int×LR))(rec127:LR->LS->Option (Int×LR))(rA:LR)(sA:LS):Option (Int×LR):=
 cond (sA.kind==(1:Int))
  (aa (ax sA.exprs 0) fun(x22:LExpr)=>
  letP (fI ([]:List LCol) rA.vars x22) fun x24=>
  aa (ax sA.exprs 0) fun(x37:LExpr)=>
  aa (cp rA ([]:List LCol) ([]:Rq) x37) fun x39=>
  aa (dO x39.2 (LCol.mk sA.name x24.1 x24.2.1) x39.1) fun x40=>
  some (0,x40))
  (cond (sA.kind==(2:Int))
   (aa (ax sA.exprs 0) fun(x46:LExpr)=>
   aa (cp rA ([]:List LCol) ([]:Rq) x46) fun x48=>
   letP (ma x48.1) fun x49=>
   cond x49
    (aa (rec126 x48.2 sA.body) fun x53=>
    some (x53.1,x53.2))
    (aa (rec126 x48.2 sA.elseF) fun x57=>
    some (x57.1,x57.2)))
   (letP (
    cond (sA.kind==(3:Int))
     ((sA.kind==(3:Int)))
     ((sA.kind==(7:Int)))) fun(t1:Bool)=>
   cond t1
    (aa (rec127 rA sA) fun x63=>
    some (x63.1,x63.2))
    (cond (sA.kind==(4:Int))
     (aa (au (σ:=Rq×LR) (ρ:=Empty) (fun(_:Nat) (x2:LExpr) (s2:Rq×LR)=>
      aa (cp s2.2 ([]:List LCol) ([]:Rq) x2) fun x76=>
      aa (cE 32 s2.1 ([x76.1]:Rq)) fun(x78:Rq)=>
      some (.next (x78,x76.2))) 0 sA.exprs ([],rA)) fun fl2=>fl2.thenP fun(s2:Rq×LR)=>
     aa (de s2.2 (LChange.mk 1 sA.table [] s2.1)) fun x85=>
     some (x85.1,x85.2))
     (letP (
      cond (sA.kind==(5:Int))
       ((sA.kind==(5:Int)))
       ((sA.kind==(6:Int)))) fun(t3:Bool)=>
     cond t3
      (aa (dT rA sA) fun x91=>
      some (x91.1,x91.2))
      (cond (sA.kind==(8:Int))
       (letP (gm sA.code) fun x96=>
       some (x96,rA))
       (cond (sA.kind==(9:Int))
        (some (0,{rA with stopped:=true}))
        (some (0,rA))))))))
theorem tC(b_rA:Nat)(g_rA_7:OwnRef)(g_rA_8:OwnRef)(rec45:LR->(List LS)->Option (Int×LR))(rec83:LR->LS->Option (Int×LR))(rec126:LR->(List LS)->Option (Int×LR))(rec127:LR->LS->Option (Int×LR))(_hrec45:∀bb0 gg0_7 gg0_8 a0 a1 r,rec45 a0 a1=some r->PH prog 45 [(.box 1500 bb0 0),(.list 40 (a1.map af))] ⟨(bR bb0 a0 gg0_7 gg0_8),(oR a0 gg0_7 gg0_8)⟩ (fun u H=>∃gz0_7,∃gz0_8,u=(ac r.1)/\H=⟨(bR bb0 r.2 gz0_7 gz0_8),(oR r.2 gz0_7 gz0_8)⟩))(_hrec83:∀bb0 gg0_7 gg0_8 a0 a1 r,rec83 a0 a1=some r->PH prog 83 [(.box 1500 bb0 0),(.agg (am a1))] ⟨(bR bb0 a0 gg0_7 gg0_8),(oR a0 gg0_7 gg0_8)⟩ (fun u H=>∃gz0_7,∃gz0_8,u=(ac r.1)/\H=⟨(bR bb0 r.2 gz0_7 gz0_8),(oR r.2 gz0_7 gz0_8)⟩))(hrec126:∀bb0 gg0_7 gg0_8 a0 a1 r,rec126 a0 a1=some r->PH prog 126 [(.box 1500 bb0 0),(.list 40 (a1.map af))] ⟨(bR bb0 a0 gg0_7 gg0_8),(oR a0 gg0_7 gg0_8)⟩ (fun u H=>∃gz0_7,∃gz0_8,u=(ac r.1)/\H=⟨(bR bb0 r.2 gz0_7 gz0_8),(oR r.2 gz0_7 gz0_8)⟩))(hrec127:∀bb0 gg0_7 gg0_8 a0 a1 r,rec127 a0 a1=some r->PH prog 127 [(.box 1500 bb0 0),(.agg (am a1))] ⟨(bR bb0 a0 gg0_7 gg0_8),(oR a0 gg0_7 gg0_8)⟩ (fun u H=>∃gz0_7,∃gz0_8,u=(ac r.1)/\H=⟨(bR bb0 r.2 gz0_7 gz0_8),(oR r.2 gz0_7 gz0_8)⟩))(rA:LR)(sA:LS)(r:Int×LR)(H:ce rec45 rec83 rec126 rec127 rA sA=some r):
  PH prog 83 [(.box 1500 b_rA 0),(.agg (am sA))] ⟨(bR b_rA rA g_rA_7 g_rA_8),(oR rA g_rA_7 g_rA_8)⟩ (fun u H=>∃gz0_7,∃gz0_8,u=(ac r.1)/\H=⟨(bR b_rA r.2 gz0_7 gz0_8),(oR r.2 gz0_7 gz0_8)⟩):=by
 unfold ce at H;refine PH.ak func83 ntmps83 ?_;refine gB ?_;refine aI Z H (fun H=>?_) (fun H=>?_)
 ·refine al (bK ⟨true,false,[21,23]⟩ [0,1,2,3,4,5,6,7,8,9,10,11,12,13,14,15] ?_);refine go ?_;refine bl cQ H (fun x22 H=>?_);refine go ?_
  obtain⟨x24,h24,H⟩:=cI H
  have s24:=mL ([]:List LCol) rA.vars x22;rw[h24]at s24;refine bI call122 (ip.of2 (ku.cons (PLe2.nil U Z) (ku.cons (PLe2.of_eq Z) (ku.cons (PLe2.of_eq Z) ku.nil)))) s24 ?_;refine go ?_;refine bK ⟨false,false,[999997]⟩ [0,1,2,3,4,5,6,7,8,9,10,11,12] ?_;refine go ?_;refine bl cQ H (fun x37 H=>?_);refine go ?_
  obtain⟨x39,h39,H⟩:=aA H
  have s39:=jn b_rA g_rA_7 g_rA_8 rA ([]:List LCol) ([]:Rq) x37 _ h39;refine qF (g:=124) Z Z Z Z call124 Z Z [(1500,1500)] [(1607,1607),(1608,1608)] Z Z Z Z (ip.of2 (ku.cons PLe2.boxT (ku.cons (PLe2.nil U Z) (ku.cons (PLe2.nil U Z) (ku.cons (PLe2.of_eq Z) ku.nil))))) (by rw[dU,dI,bB,bB,cP];rfl) s39 ?_;rintro u39 H39h ⟨gz39_1607,gz39_1608,rfl,rfl⟩
  refine⟨_,rfl,?_⟩
  obtain⟨x40,h40,H⟩:=aA H
  have s40:=pD b_rA gz39_1607 gz39_1608 x39.2 (LCol.mk sA.name x24.1 x24.2.1) x39.1 _ h40;refine qF (g:=123) Z Z Z Z call123 Z Z [(1500,1500)] [(1607,1607),(1608,1608)] Z Z Z Z (ip.of2 (ku.cons PLe2.boxT (ku.cons (PLe2.of_eq Z) (ku.cons (PLe2.of_eq Z) ku.nil)))) (by rw[dU,dI,bB,bB,cP];rfl) s40 ?_;rintro u40 H40h ⟨gz40_1607,gz40_1608,rfl,rfl⟩
  refine⟨_,rfl,?_⟩
  refine dE (cv (st':=⟨_,_,(bR b_rA x40 gz40_1607 gz40_1608),(oR x40 gz40_1607 gz40_1608)⟩) (Gh.le (il _ _) (aZ Z (ip.r) aV) (bJ (bJ aU))) (go ?_));obtain rfl:=ay H;refine cv (st':=⟨102,upd (fun _=>.any) 4 (ac 0),(bR b_rA x40 gz40_1607 gz40_1608),(oR x40 gz40_1607 gz40_1608)⟩) Gh.d ?_;exact hO U Z ⟨_,_,rfl,rfl⟩
 refine go ?_;refine aI Z H (fun H=>?_) (fun H=>?_)
 ·refine go ?_;refine ec U cQ H (fun x46 H=>?_);refine go ?_
  obtain⟨x48,h48,H⟩:=aA H
  have s48:=jn b_rA g_rA_7 g_rA_8 rA ([]:List LCol) ([]:Rq) x46 _ h48;refine fL (g:=124) Z Z Z call124 [(1500,1500)] [(1607,1607),(1608,1608)] Z Z Z Z (ip.of2 (ku.cons PLe2.boxT (ku.cons (PLe2.nil U Z) (ku.cons (PLe2.nil U Z) (ku.cons (PLe2.of_eq Z) ku.nil))))) (by rw[dU,dI,bB,bB,cP];rfl) s48 ?_;rintro u48 H48h ⟨gz48_1607,gz48_1608,rfl,rfl⟩
  refine⟨_,rfl,?_⟩
  refine eA (bR b_rA x48.2 gz48_1607 gz48_1608) (oR x48.2 gz48_1607 gz48_1608) ?_
  obtain⟨x49,h49,H⟩:=cI H
  have s49:=isTS x48.1;rw[h49]at s49;refine ag call125 (ip.r) s49 ?_;refine ao ?_;refine aI Z H (fun H=>?_) (fun H=>?_)
  ·refine go ?_
   obtain⟨x53,h53,H⟩:=aA H
   have s53:=hrec126 b_rA gz48_1607 gz48_1608 x48.2 sA.body _ h53;refine gU call126 [(1500,1500)] [(1607,1607),(1608,1608)] s53 ?_;rintro u53 H53h ⟨gz53_1607,gz53_1608,rfl,rfl⟩
   refine⟨_,rfl,?_⟩
   refine eA (bR b_rA x53.2 gz53_1607 gz53_1608) (oR x53.2 gz53_1607 gz53_1608) ?_;refine go ?_;obtain rfl:=ay H;refine cv (st':=⟨102,upd (fun _=>.any) 4 (ac x53.1),(bR b_rA x53.2 gz53_1607 gz53_1608),(oR x53.2 gz53_1607 gz53_1608)⟩) Gh.d ?_;exact hO U Z ⟨_,_,rfl,rfl⟩
  refine go ?_
  obtain⟨x57,h57,H⟩:=aA H
  have s57:=hrec126 b_rA gz48_1607 gz48_1608 x48.2 sA.elseF _ h57;refine gU call126 [(1500,1500)] [(1607,1607),(1608,1608)] s57 ?_;rintro u57 H57h ⟨gz57_1607,gz57_1608,rfl,rfl⟩
  refine⟨_,rfl,?_⟩
  refine eA (bR b_rA x57.2 gz57_1607 gz57_1608) (oR x57.2 gz57_1607 gz57_1608) ?_;refine go ?_;obtain rfl:=ay H;refine cv (st':=⟨102,upd (fun _=>.any) 4 (ac x57.1),(bR b_rA x57.2 gz57_1607 gz57_1608),(oR x57.2 gz57_1607 gz57_1608)⟩) Gh.d ?_;exact hO U Z ⟨_,_,rfl,rfl⟩
 refine go ?_;refine fP (γ:=Unit) (fun t1 g1=>⟨102,upd (upd (upd (upd (fun _=>.any) 58 (az t1)) 12 (ac sA.kind)) 3 (.ptr (am sA))) 0 (.box 1500 b_rA 0),(bR b_rA rA g_rA_7 g_rA_8),(oR rA g_rA_7 g_rA_8)⟩) H (fun _ H=>?_) (fun t1 g1 H=>?_)
 ·refine aI Z H (fun H=>?_) (fun H=>?_)
  ·refine aE ?_;exact fA
  exact fA
 refine aI Z H (fun H=>?_) (fun H=>?_)
 ·refine go ?_
  obtain⟨x63,h63,H⟩:=aA H
  have s63:=hrec127 b_rA g_rA_7 g_rA_8 rA sA _ h63;refine gU call127 [(1500,1500)] [(1607,1607),(1608,1608)] s63 ?_;rintro u63 H63h ⟨gz63_1607,gz63_1608,rfl,rfl⟩
  refine⟨_,rfl,?_⟩
  refine eA (bR b_rA x63.2 gz63_1607 gz63_1608) (oR x63.2 gz63_1607 gz63_1608) ?_;refine go ?_;obtain rfl:=ay H;refine cv (st':=⟨102,upd (fun _=>.any) 4 (ac x63.1),(bR b_rA x63.2 gz63_1607 gz63_1608),(oR x63.2 gz63_1607 gz63_1608)⟩) Gh.d ?_;exact hO U Z ⟨_,_,rfl,rfl⟩
 refine go ?_;refine aI Z H (fun H=>?_) (fun H=>?_)
 ·refine dp 1 U Z (al (al (ah (cC 2 U Z (ic U (zl _) ?_)))));refine aD U Z (ao (iy U 8 78 (e:=69) Z Z ?_));refine fW (γ:=OwnRef×OwnRef×OwnRef) U 69 68 67 (fun s2 g2=>upd (upd (upd (fun _=>.any) 8 (.own 78 g2.1 (s2.1.map ab).length)) 3 (.ptr (am sA))) 0 (.box 1500 b_rA 0)) (fun s2 g2=>(bR b_rA s2.2 g2.2.1 g2.2.2)) (fun s2 g2=>upd (upd (upd (fun _=>none) 78 (some ⟨g2.1,69,(s2.1.map ab),true⟩)) 1608 (some ⟨g2.2.2,64,(s2.2.results.map dR),true⟩)) 1607 (some ⟨g2.2.1,56,(s2.2.changes.map bW),true⟩)) (⟨none,0⟩,g_rA_7,g_rA_8) H (fun fl2 Hp2 j2 s2 g2 hz2 hl2 x2 fb2 hx2 H hg2=>?_) (fun s2 g2 H=>?_)
  ·refine go ?_;refine aW U (zn j2) (aQ cQ hx2) ?_;refine go ?_;refine aM U fun b10=>?_
   refine go ?_
   obtain⟨x76,h76,H⟩:=aA H
   have s76:=jn b_rA g2.2.1 g2.2.2 s2.2 ([]:List LCol) ([]:Rq) x2 _ h76;refine fL (g:=124) Z Z Z call124 [(1500,1500)] [(1607,1607),(1608,1608)] Z Z Z Z (ip.of2 (ku.cons PLe2.boxT (ku.cons (PLe2.nil U Z) (ku.cons (PLe2.nil U Z) (ku.cons (PLe2.of_eq Z) ku.nil))))) (by rw[dU,dI,bB,bB,cP];rfl) s76 ?_;rintro u76 H76h ⟨gz76_1607,gz76_1608,rfl,rfl⟩
   refine⟨_,rfl,?_⟩
   refine eA (upd (bR b_rA x76.2 gz76_1607 gz76_1608) 10 (some ⟨b10,(jl x2)⟩)) (upd (upd (upd (fun _=>none) 78 (some ⟨g2.1,69,(s2.1.map ab),true⟩)) 1608 (some ⟨gz76_1608,64,(x76.2.results.map dR),true⟩)) 1607 (some ⟨gz76_1607,56,(x76.2.changes.map bW),true⟩)) ?_;refine bZ U (rows':=List.map ab ([x76.1]:Rq)) (iW.refl _) ?_;refine fm U H (fun x78 g78 H=>?_);refine go ?_;exact cJ (g78,gz76_1607,gz76_1608) H hl2 hg2
  refine al (cD 8 Z Z Z (go ?_))
  obtain⟨x85,h85,H⟩:=aA H
  have s85:=ow b_rA g2.2.1 g2.2.2 s2.2 (LChange.mk 1 sA.table [] s2.1) _ h85;refine fL (g:=128) Z Z Z call128 [(1500,1500)] [(1607,1607),(1608,1608)] Z Z Z Z (ip.of2 (ku.cons PLe2.boxT (ku.cons (PLe2.agg (ku.cons (PLe2.of_eq Z) (ku.cons (PLe2.of_eq Z) (ku.cons (PLe2.nil U Z) (ku.cons (PLe2.of_eq Z) ku.nil))))) ku.nil))) (by rw[dU,dI,bB,bB,cP];rfl) s85 ?_;rintro u85 H85h ⟨gz85_1607,gz85_1608,rfl,rfl⟩
  refine⟨_,rfl,?_⟩
  refine eA (bR b_rA x85.2 gz85_1607 gz85_1608) (upd (upd (upd (fun _=>none) 78 (some ⟨g2.1,69,(s2.1.map ab),false⟩)) 1608 (some ⟨gz85_1608,64,(x85.2.results.map dR),true⟩)) 1607 (some ⟨gz85_1607,56,(x85.2.changes.map bW),true⟩)) ?_;refine go ?_;obtain rfl:=ay H;refine cv (st':=⟨102,upd (fun _=>.any) 4 (ac x85.1),(bR b_rA x85.2 gz85_1607 gz85_1608),(oR x85.2 gz85_1607 gz85_1608)⟩) Gh.d ?_;exact hO U Z ⟨_,_,rfl,rfl⟩
 refine go ?_;refine fP (γ:=Unit) (fun t3 g3=>⟨102,upd (upd (upd (upd (fun _=>.any) 86 (az t3)) 12 (ac sA.kind)) 3 (.ptr (am sA))) 0 (.box 1500 b_rA 0),(bR b_rA rA g_rA_7 g_rA_8),(oR rA g_rA_7 g_rA_8)⟩) H (fun _ H=>?_) (fun t3 g3 H=>?_)
 ·refine aI Z H (fun H=>?_) (fun H=>?_)
  ·refine aE ?_;exact fA
  exact fA
 refine aI Z H (fun H=>?_) (fun H=>?_)
 ·refine go ?_
  obtain⟨x91,h91,H⟩:=aA H
  have s91:=tV b_rA g_rA_7 g_rA_8 rA sA _ h91;refine gU call129 [(1500,1500)] [(1607,1607),(1608,1608)] s91 ?_;rintro u91 H91h ⟨gz91_1607,gz91_1608,rfl,rfl⟩
  refine⟨_,rfl,?_⟩
  refine eA (bR b_rA x91.2 gz91_1607 gz91_1608) (oR x91.2 gz91_1607 gz91_1608) ?_;refine go ?_;obtain rfl:=ay H;refine cv (st':=⟨102,upd (fun _=>.any) 4 (ac x91.1),(bR b_rA x91.2 gz91_1607 gz91_1608),(oR x91.2 gz91_1607 gz91_1608)⟩) Gh.d ?_;exact hO U Z ⟨_,_,rfl,rfl⟩
 refine go ?_;refine aI Z H (fun H=>?_) (fun H=>?_)
 ·refine go ?_
  obtain⟨x96,h96,H⟩:=cI H
  have s96:=rX sA.code;rw[h96]at s96;refine ag call130 (ip.r) s96 ?_;refine go ?_;obtain rfl:=ay H;refine cv (st':=⟨102,upd (fun _=>.any) 4 (ac x96),(bR b_rA rA g_rA_7 g_rA_8),(oR rA g_rA_7 g_rA_8)⟩) Gh.d ?_;exact hO U Z ⟨_,_,rfl,rfl⟩
 refine go ?_;refine aI Z H (fun H=>?_) (fun H=>?_)
 ·refine go ?_;obtain rfl:=ay H;refine cv (st':=⟨102,upd (fun _=>.any) 4 (ac 0),(bR b_rA {rA with stopped:=true} g_rA_7 g_rA_8),(oR rA g_rA_7 g_rA_8)⟩) Gh.d ?_;exact hO U Z ⟨_,_,rfl,rfl⟩
 refine go ?_;obtain rfl:=ay H;refine cv (st':=⟨102,upd (fun _=>.any) 4 (ac 0),(bR b_rA rA g_rA_7 g_rA_8),(oR rA g_rA_7 g_rA_8)⟩) Gh.d ?_;exact hO U Z ⟨_,_,rfl,rfl⟩
def dL(rec45:LR->(List LS)->Option (Int×LR))(_rec83:LR->LS->Option (Int×LR))(_rec126:LR->(List LS)->Option (Int×LR))(_rec127:LR->LS->Option (Int×LR))(rA:LR)(l:List LS):Option (Int×LR):=
 aa (rec45 rA l) fun x18=>
 some (x18.1,{x18.2 with vars:=rA.vars,vals:=rA.vals})
theorem sR(b_rA:Nat)(g_rA_7:OwnRef)(g_rA_8:OwnRef)(rec45:LR->(List LS)->Option (Int×LR))(rec83:LR->LS->Option (Int×LR))(rec126:LR->(List LS)->Option (Int×LR))(rec127:LR->LS->Option (Int×LR))(hrec45:∀bb0 gg0_7 gg0_8 a0 a1 r,rec45 a0 a1=some r->PH prog 45 [(.box 1500 bb0 0),(.list 40 (a1.map af))] ⟨(bR bb0 a0 gg0_7 gg0_8),(oR a0 gg0_7 gg0_8)⟩ (fun u H=>∃gz0_7,∃gz0_8,u=(ac r.1)/\H=⟨(bR bb0 r.2 gz0_7 gz0_8),(oR r.2 gz0_7 gz0_8)⟩))(_hrec83:∀bb0 gg0_7 gg0_8 a0 a1 r,rec83 a0 a1=some r->PH prog 83 [(.box 1500 bb0 0),(.agg (am a1))] ⟨(bR bb0 a0 gg0_7 gg0_8),(oR a0 gg0_7 gg0_8)⟩ (fun u H=>∃gz0_7,∃gz0_8,u=(ac r.1)/\H=⟨(bR bb0 r.2 gz0_7 gz0_8),(oR r.2 gz0_7 gz0_8)⟩))(_hrec126:∀bb0 gg0_7 gg0_8 a0 a1 r,rec126 a0 a1=some r->PH prog 126 [(.box 1500 bb0 0),(.list 40 (a1.map af))] ⟨(bR bb0 a0 gg0_7 gg0_8),(oR a0 gg0_7 gg0_8)⟩ (fun u H=>∃gz0_7,∃gz0_8,u=(ac r.1)/\H=⟨(bR bb0 r.2 gz0_7 gz0_8),(oR r.2 gz0_7 gz0_8)⟩))(_hrec127:∀bb0 gg0_7 gg0_8 a0 a1 r,rec127 a0 a1=some r->PH prog 127 [(.box 1500 bb0 0),(.agg (am a1))] ⟨(bR bb0 a0 gg0_7 gg0_8),(oR a0 gg0_7 gg0_8)⟩ (fun u H=>∃gz0_7,∃gz0_8,u=(ac r.1)/\H=⟨(bR bb0 r.2 gz0_7 gz0_8),(oR r.2 gz0_7 gz0_8)⟩))(rA:LR)(l:List LS)(r:Int×LR)(H:dL rec45 rec83 rec126 rec127 rA l=some r):
  PH prog 126 [(.box 1500 b_rA 0),(.list 40 (l.map af))] ⟨(bR b_rA rA g_rA_7 g_rA_8),(oR rA g_rA_7 g_rA_8)⟩ (fun u H=>∃gz0_7,∃gz0_8,u=(ac r.1)/\H=⟨(bR b_rA r.2 gz0_7 gz0_8),(oR r.2 gz0_7 gz0_8)⟩):=by
 unfold dL at H;refine PH.ak func126 ntmps126 ?_;refine go ?_;refine bK ⟨true,false,[]⟩ [0,1,2,3,4,5,6,7,8,9] ?_;refine go ?_
 obtain⟨x18,h18,H⟩:=aA H
 have s18:=hrec45 b_rA g_rA_7 g_rA_8 rA l _ h18;refine gU call45 [(1500,1500)] [(1607,1607),(1608,1608)] s18 ?_;rintro u18 H18h ⟨gz18_1607,gz18_1608,rfl,rfl⟩
 refine⟨_,rfl,?_⟩
 refine eA (bR b_rA x18.2 gz18_1607 gz18_1608) (oR x18.2 gz18_1607 gz18_1608) ?_;refine go ?_;obtain rfl:=ay H;refine cv (st':=⟨28,upd (fun _=>.any) 4 (ac x18.1),(bR b_rA {x18.2 with vars:=rA.vars,vals:=rA.vals} gz18_1607 gz18_1608),(oR x18.2 gz18_1607 gz18_1608)⟩) Gh.d ?_;exact hO U Z ⟨_,_,rfl,rfl⟩
def bL(rec45:LR->(List LS)->Option (Int×LR))(_rec83:LR->LS->Option (Int×LR))(_rec126:LR->(List LS)->Option (Int×LR))(_rec127:LR->LS->Option (Int×LR))(rA:LR)(sA:LS):Option (Int×LR):=
 aa (ax sA.query 0) fun(x25:LQuery)=>
 aa (iP rA.s rA.st x25 rA.args rA.vars rA.vals) fun x39=>
 cond (x39.2 !=(0:Int))
  (some (x39.2,rA))
  (cond (sA.kind==(7:Int))
   (cond ((rA.results.length:Int)==(8:Int))
    (some (2,rA))
    (aa (cE 48 rA.results ([x39.1]:List LResult)) fun(x61:List LResult)=>
    some (0,{rA with results:=x61})))
   (aa (au (σ:=LR) (ρ:=(Int×LR)) (fun(_:Nat) (x1:Rq) (s1:LR)=>
    cond s1.stopped
     (some (.brk s1))
     (aa (au (σ:=LR) (ρ:=Empty) (fun(j4:Nat) (x4:LCol) (s4:LR)=>
      aa (ax x1 (j4:Int)) fun(x103:LVal)=>
      aa (dO s4 x4 x103) fun x105=>
      some (.next x105)) 0 x39.1.columns {s1 with vars:=rA.vars,vals:=rA.vals}) fun fl4=>fl4.thenP fun(s4:LR)=>
     aa (rec45 s4 sA.body) fun x110=>
     cond (x110.1 !=(0:Int))
      (some (.ret (x110.1,x110.2)))
      (some (.next x110.2)))) 0 x39.1.rows rA) fun fl1=>fl1.thenR fun(s1:LR)=>
   some (0,{s1 with vars:=rA.vars,vals:=rA.vals})))
theorem tW(b_rA:Nat)(g_rA_7:OwnRef)(g_rA_8:OwnRef)(rec45:LR->(List LS)->Option (Int×LR))(rec83:LR->LS->Option (Int×LR))(rec126:LR->(List LS)->Option (Int×LR))(rec127:LR->LS->Option (Int×LR))(hrec45:∀bb0 gg0_7 gg0_8 a0 a1 r,rec45 a0 a1=some r->PH prog 45 [(.box 1500 bb0 0),(.list 40 (a1.map af))] ⟨(bR bb0 a0 gg0_7 gg0_8),(oR a0 gg0_7 gg0_8)⟩ (fun u H=>∃gz0_7,∃gz0_8,u=(ac r.1)/\H=⟨(bR bb0 r.2 gz0_7 gz0_8),(oR r.2 gz0_7 gz0_8)⟩))(_hrec83:∀bb0 gg0_7 gg0_8 a0 a1 r,rec83 a0 a1=some r->PH prog 83 [(.box 1500 bb0 0),(.agg (am a1))] ⟨(bR bb0 a0 gg0_7 gg0_8),(oR a0 gg0_7 gg0_8)⟩ (fun u H=>∃gz0_7,∃gz0_8,u=(ac r.1)/\H=⟨(bR bb0 r.2 gz0_7 gz0_8),(oR r.2 gz0_7 gz0_8)⟩))(_hrec126:∀bb0 gg0_7 gg0_8 a0 a1 r,rec126 a0 a1=some r->PH prog 126 [(.box 1500 bb0 0),(.list 40 (a1.map af))] ⟨(bR bb0 a0 gg0_7 gg0_8),(oR a0 gg0_7 gg0_8)⟩ (fun u H=>∃gz0_7,∃gz0_8,u=(ac r.1)/\H=⟨(bR bb0 r.2 gz0_7 gz0_8),(oR r.2 gz0_7 gz0_8)⟩))(_hrec127:∀bb0 gg0_7 gg0_8 a0 a1 r,rec127 a0 a1=some r->PH prog 127 [(.box 1500 bb0 0),(.agg (am a1))] ⟨(bR bb0 a0 gg0_7 gg0_8),(oR a0 gg0_7 gg0_8)⟩ (fun u H=>∃gz0_7,∃gz0_8,u=(ac r.1)/\H=⟨(bR bb0 r.2 gz0_7 gz0_8),(oR r.2 gz0_7 gz0_8)⟩))(rA:LR)(sA:LS)(r:Int×LR)(H:bL rec45 rec83 rec126 rec127 rA sA=some r):
  PH prog 127 [(.box 1500 b_rA 0),(.agg (am sA))] ⟨(bR b_rA rA g_rA_7 g_rA_8),(oR rA g_rA_7 g_rA_8)⟩ (fun u H=>∃gz0_7,∃gz0_8,u=(ac r.1)/\H=⟨(bR b_rA r.2 gz0_7 gz0_8),(oR r.2 gz0_7 gz0_8)⟩):=by
 unfold bL at H;refine PH.ak func127 ntmps127 ?_;refine gB ?_;refine bK ⟨true,false,[24,26]⟩ [0,1,2,3,4,5,6,7,8,9,10,11,12,13,14,15,16,17,18,19,20,21,22,23,24,25,26,27,28,29,30] ?_;refine go ?_;refine bl cF H (fun x25 H=>?_);refine go ?_;refine bU call70 (ip.r) (sO rA.s rA.st x25 rA.args rA.vars rA.vals) H (fun x39 H=>?_);refine go ?_;refine pY Z Z Z Z Z Z Z Z fun b5=>?_
 refine ib Z Z Z Z Z Z Z Z Z Z Z Z (go ?_);refine aI Z H (fun H=>?_) (fun H=>?_)
 ·refine go ?_;obtain rfl:=ay H;refine cv (st':=⟨123,upd (fun _=>.any) 4 (ac x39.2),(bR b_rA rA g_rA_7 g_rA_8),(oR rA g_rA_7 g_rA_8)⟩) Gh.d ?_;exact hO U Z ⟨_,_,rfl,rfl⟩
 refine go ?_;refine aI Z H (fun H=>?_) (fun H=>?_)
 ·refine al (al (ah (cC 3 U Z (iQ U ?_))));refine eO U (zl _) ?_;refine go ?_;refine aI Z H (fun H=>?_) (fun H=>?_)
  ·refine go ?_;obtain rfl:=ay H;refine cv (st':=⟨123,upd (fun _=>.any) 4 (ac 2),(bR b_rA rA g_rA_7 g_rA_8),(oR rA g_rA_7 g_rA_8)⟩) Gh.d ?_;exact hO U Z ⟨_,_,rfl,rfl⟩
  refine aE (al (kJ 5 ?_));refine bK ⟨true,false,[59]⟩ [0,1,2,3,4,5,6,7,8,9,10] ?_;refine go ?_
  obtain⟨x61,h61,H⟩:=aA H
  have k61:=fZ h61;refine hC (rows2':=List.map dR ([x39.1]:List LResult)) (rows':=List.map dR x61) U Z Z Z Z Z Z Z Z Z Z Z Z Z Z (iW.refl _) (jD k61.1) (jC k61.2.1) (jz k61.2.2) fun g61=>?_
  refine go ?_;refine ib Z Z Z Z Z Z Z Z Z Z Z Z (go ?_);obtain rfl:=ay H;refine cv (st':=⟨123,upd (fun _=>.any) 4 (ac 0),(bR b_rA {rA with results:=x61} g_rA_7 g61),upd (upd (fun _=>none) 1608 (some ⟨g61,64,(x61.map dR),true⟩)) 1607 (some ⟨g_rA_7,56,(rA.changes.map bW),true⟩)⟩) Gh.d ?_;exact hO U Z ⟨_,_,rfl,rfl⟩
 refine go ?_;refine bK ⟨true,false,[]⟩ [0,1,2,3,4,5,6,7,8,9] ?_;refine go ?_
 obtain⟨fl1,H1,Hp1⟩:=aA H
 refine jc U 73 Z Z (fun hz1 _=>?_);rw[zl]at hz1;refine fK (τ:=LR) (γ:=OwnRef×OwnRef) (fun s1 g1=>⟨123,upd (upd (upd (upd (fun _=>.any) 8 (.list 69 (rA.vals.map ab))) 7 (.list 93 (rA.vars.map ap))) 3 (.ptr (am sA))) 0 (.box 1500 b_rA 0),(bR b_rA s1 g1.1 g1.2),(oR s1 g1.1 g1.2)⟩) (fun t=>fl1= .next t) ?_ (fun s1 g1 hn1=>?_)
 ·refine aG ?_;refine jw (fun j1 s1 g1=>⟨123,upd (upd (upd (upd (upd (upd (upd (upd (fun _=>.any) 75 (ac (j1:Int))) 74 (ac (x39.1.rows.length:Int))) 73 (.list 54 (x39.1.rows.map rRr))) 8 (.list 69 (rA.vals.map ab))) 7 (.list 93 (rA.vars.map ap))) 5 (.box 5 b5 0)) 3 (.ptr (am sA))) 0 (.box 1500 b_rA 0),upd (bR b_rA s1 g1.1 g1.2) 5 (some ⟨b5,(dR x39.1)⟩),(oR s1 g1.1 g1.2)⟩) (g_rA_7,g_rA_8) H1 Gh.d (fun j1 s1 g1 hj1 hr1=>?_);refine go ?_;refine aY Z (fun h=>?_) (fun h=>?_)
  ·have hl1:=qk h
   obtain⟨x1,fb1,hx1,H,hg1⟩:=rMc hl1 hr1
   refine go ?_;refine aW U (zn j1) (aQ (fun _=>Z) hx1) ?_;refine go ?_;refine aI Z H (fun H=>?_) (fun H=>?_)
   ·refine bd Z ?_;obtain rfl:=ay H;refine fc s1 (g1.1,g1.2) hg1 Gh.d
   refine go ?_;refine fW (γ:=OwnRef×OwnRef) U 94 93 92 (fun s4 g4=>upd (upd (upd (upd (upd (upd (upd (upd (upd (fun _=>.any) 75 (ac (j1:Int))) 74 (ac (x39.1.rows.length:Int))) 73 (.list 54 (x39.1.rows.map rRr))) 10 (.list 69 (x1.map ab))) 8 (.list 69 (rA.vals.map ab))) 7 (.list 93 (rA.vars.map ap))) 5 (.box 5 b5 0)) 3 (.ptr (am sA))) 0 (.box 1500 b_rA 0)) (fun s4 g4=>upd (bR b_rA s4 g4.1 g4.2) 5 (some ⟨b5,(dR x39.1)⟩)) (fun s4 g4=>(oR s4 g4.1 g4.2)) (g1.1,g1.2) H (fun fl4 Hp4 j4 s4 g4 hz4 hl4 x4 fb4 hx4 H hg4=>?_) (fun s4 g4 H=>?_)
   ·refine go ?_;refine aW U (zn j4) (aQ (fun _=>Z) hx4) ?_;refine go ?_;refine aM U fun b12=>?_
    refine go ?_;refine bK ⟨true,false,[104,999997,3000012,4000100]⟩ [0,1,2,3,4,5,6] ?_;refine go ?_;refine wk U Z Z Z Z Z Z Z Z Z Z (go ?_);refine bl (fun _=>Z) H (fun x103 H=>?_);refine go ?_
    obtain⟨x105,h105,H⟩:=aA H
    have s105:=pD b_rA g4.1 g4.2 s4 x4 x103 _ h105;refine qF (g:=123) Z Z Z Z call123 Z Z [(1500,1500)] [(1607,1607),(1608,1608)] Z Z Z Z (ip.of2 (ku.cons PLe2.boxT (ku.cons (PLe2.of_eq Z) (ku.cons (PLe2.of_eq Z) ku.nil)))) (by rw[dU,dI,bB,bB,cP];rfl) s105 ?_;rintro u105 H105h ⟨gz105_1607,gz105_1608,rfl,rfl⟩
    refine⟨_,rfl,?_⟩
    refine dE (cv (st':=⟨_,_,upd (upd (bR b_rA x105 gz105_1607 gz105_1608) 12 (some ⟨b12,(ap x4)⟩)) 5 (some ⟨b5,(dR x39.1)⟩),(oR x105 gz105_1607 gz105_1608)⟩) (Gh.le (il _ _) (aZ Z (ip.r) (aZ Z (ip.r) (aZ Z (ip.r) aV))) (bJ (bJ aU))) (go ?_));exact cJ (gz105_1607,gz105_1608) H hl4 hg4
   refine go ?_
   obtain⟨x110,h110,H⟩:=aA H
   have s110:=hrec45 b_rA g4.1 g4.2 s4 sA.body _ h110;refine gU call45 [(1500,1500)] [(1607,1607),(1608,1608)] s110 ?_;rintro u110 H110h ⟨gz110_1607,gz110_1608,rfl,rfl⟩
   refine⟨_,rfl,?_⟩
   refine eA (upd (bR b_rA x110.2 gz110_1607 gz110_1608) 5 (some ⟨b5,(dR x39.1)⟩)) (oR x110.2 gz110_1607 gz110_1608) ?_;refine go ?_;refine aI Z H (fun H=>?_) (fun H=>?_)
   ·refine go ?_;obtain rfl:=lvR H hg1 Hp1;refine cv (st':=⟨123,upd (fun _=>.any) 4 (ac x110.1),(bR b_rA x110.2 gz110_1607 gz110_1608),(oR x110.2 gz110_1607 gz110_1608)⟩) Gh.d ?_;exact hO U Z ⟨_,_,rfl,rfl⟩
   refine go ?_;exact cJ (gz110_1607,gz110_1608) H hl1 hg1
  have hn1:=rMd (qp h) hr1;refine bd Z ?_;refine fc s1 g1 hn1 Gh.d
 have H:=mn hn1 Hp1;refine go ?_;obtain rfl:=ay H;refine cv (st':=⟨123,upd (fun _=>.any) 4 (ac 0),(bR b_rA {s1 with vars:=rA.vars,vals:=rA.vals} g1.1 g1.2),(oR s1 g1.1 g1.2)⟩) Gh.d ?_;exact hO U Z ⟨_,_,rfl,rfl⟩
mutual
def bS:Nat->LR->(List LS)->Option (Int×LR)
 |0,_,_=>none
 |n+1,v0,v1=>eF (fun b0 b1=>bS n b0 b1) (fun b0 b1=>cr n b0 b1) (fun b0 b1=>bT n b0 b1) (fun b0 b1=>cB n b0 b1) v0 v1
def cr:Nat->LR->LS->Option (Int×LR)
 |0,_,_=>none
 |n+1,v0,v1=>ce (fun b0 b1=>bS n b0 b1) (fun b0 b1=>cr n b0 b1) (fun b0 b1=>bT n b0 b1) (fun b0 b1=>cB n b0 b1) v0 v1
def bT:Nat->LR->(List LS)->Option (Int×LR)
 |0,_,_=>none
 |n+1,v0,v1=>dL (fun b0 b1=>bS n b0 b1) (fun b0 b1=>cr n b0 b1) (fun b0 b1=>bT n b0 b1) (fun b0 b1=>cB n b0 b1) v0 v1
def cB:Nat->LR->LS->Option (Int×LR)
 |0,_,_=>none
 |n+1,v0,v1=>bL (fun b0 b1=>bS n b0 b1) (fun b0 b1=>cr n b0 b1) (fun b0 b1=>bT n b0 b1) (fun b0 b1=>cB n b0 b1) v0 v1
end
theorem ta  (n:Nat):(∀bb0 gg0_7 gg0_8 a0 a1 r,bS n a0 a1=some r->PH prog 45 [(.box 1500 bb0 0),(.list 40 (a1.map af))] ⟨(bR bb0 a0 gg0_7 gg0_8),(oR a0 gg0_7 gg0_8)⟩ (fun u H=>∃gz0_7,∃gz0_8,u=(ac r.1)/\H=⟨(bR bb0 r.2 gz0_7 gz0_8),(oR r.2 gz0_7 gz0_8)⟩))/\(∀bb0 gg0_7 gg0_8 a0 a1 r,cr n a0 a1=some r->PH prog 83 [(.box 1500 bb0 0),(.agg (am a1))] ⟨(bR bb0 a0 gg0_7 gg0_8),(oR a0 gg0_7 gg0_8)⟩ (fun u H=>∃gz0_7,∃gz0_8,u=(ac r.1)/\H=⟨(bR bb0 r.2 gz0_7 gz0_8),(oR r.2 gz0_7 gz0_8)⟩))/\(∀bb0 gg0_7 gg0_8 a0 a1 r,bT n a0 a1=some r->PH prog 126 [(.box 1500 bb0 0),(.list 40 (a1.map af))] ⟨(bR bb0 a0 gg0_7 gg0_8),(oR a0 gg0_7 gg0_8)⟩ (fun u H=>∃gz0_7,∃gz0_8,u=(ac r.1)/\H=⟨(bR bb0 r.2 gz0_7 gz0_8),(oR r.2 gz0_7 gz0_8)⟩))/\(∀bb0 gg0_7 gg0_8 a0 a1 r,cB n a0 a1=some r->PH prog 127 [(.box 1500 bb0 0),(.agg (am a1))] ⟨(bR bb0 a0 gg0_7 gg0_8),(oR a0 gg0_7 gg0_8)⟩ (fun u H=>∃gz0_7,∃gz0_8,u=(ac r.1)/\H=⟨(bR bb0 r.2 gz0_7 gz0_8),(oR r.2 gz0_7 gz0_8)⟩)):=by
 induction n with
 |zero=>exact⟨(by intros;rename_i h;exact absurd (show(none:Option _)=some _ from h) (by simp)),(by intros;rename_i h;exact absurd (show(none:Option _)=some _ from h) (by simp)),(by intros;rename_i h;exact absurd (show(none:Option _)=some _ from h) (by simp)),(by intros;rename_i h;exact absurd (show(none:Option _)=some _ from h) (by simp))⟩
 |succ n ih=>
  exact⟨(fun bb0 gg0_7 gg0_8 v0 v1 r h=>tc bb0 gg0_7 gg0_8 (fun b0 b1=>bS n b0 b1) (fun b0 b1=>cr n b0 b1) (fun b0 b1=>bT n b0 b1) (fun b0 b1=>cB n b0 b1) ih.1 ih.2.1 ih.2.2.1 ih.2.2.2 v0 v1  r h),(fun bb0 gg0_7 gg0_8 v0 v1 r h=>tC bb0 gg0_7 gg0_8 (fun b0 b1=>bS n b0 b1) (fun b0 b1=>cr n b0 b1) (fun b0 b1=>bT n b0 b1) (fun b0 b1=>cB n b0 b1) ih.1 ih.2.1 ih.2.2.1 ih.2.2.2 v0 v1  r h),(fun bb0 gg0_7 gg0_8 v0 v1 r h=>sR bb0 gg0_7 gg0_8 (fun b0 b1=>bS n b0 b1) (fun b0 b1=>cr n b0 b1) (fun b0 b1=>bT n b0 b1) (fun b0 b1=>cB n b0 b1) ih.1 ih.2.1 ih.2.2.1 ih.2.2.2 v0 v1  r h),(fun bb0 gg0_7 gg0_8 v0 v1 r h=>tW bb0 gg0_7 gg0_8 (fun b0 b1=>bS n b0 b1) (fun b0 b1=>cr n b0 b1) (fun b0 b1=>bT n b0 b1) (fun b0 b1=>cB n b0 b1) ih.1 ih.2.1 ih.2.2.1 ih.2.2.2 v0 v1  r h)⟩
def aw(rA:LR)(l:List LS):Option (Int×LR):=iO fun n=>bS n rA l
theorem uu(b_rA:Nat)(g_rA_7:OwnRef)(g_rA_8:OwnRef)(rA:LR)(l:List LS)(r:Int×LR)(H:aw rA l=some r):
  PH prog 45 [(.box 1500 b_rA 0),(.list 40 (l.map af))] ⟨(bR b_rA rA g_rA_7 g_rA_8),(oR rA g_rA_7 g_rA_8)⟩ (fun u H=>∃gz0_7,∃gz0_8,u=(ac r.1)/\H=⟨(bR b_rA r.2 gz0_7 gz0_8),(oR r.2 gz0_7 gz0_8)⟩):=by
 obtain⟨n,h⟩:=kd H
 exact(ta  n).1 b_rA g_rA_7 g_rA_8 rA l r h
def aR(rA:LR)(sA:LS):Option (Int×LR):=iO fun n=>cr n rA sA
def aJ(rA:LR)(l:List LS):Option (Int×LR):=iO fun n=>bT n rA l
def aP(rA:LR)(sA:LS):Option (Int×LR):=iO fun n=>cB n rA sA
def jr(sA:LSchema)(st:List LW)(p:LP)(args:Rq):Option ((List LChange)×(List LResult)×Int):=
 aa (gR sA p) fun x19=>
 cond (x19 !=(0:Int))
  (some ([],[],x19))
  (cond (decide ((args.length:Int)<(p.parameters.length:Int)))
   (some ([],[],1))
   (aa (au (σ:=Unit) (ρ:=((List LChange)×(List LResult)×Int)) (fun(j1:Nat) (x1:Int) (_:Unit)=>
    aa (ax args (j1:Int)) fun(x39:LVal)=>
    letP (kY x39) fun x41=>
    cond (!x41)
     (some (.ret ([],[],7)))
     (aa (ax args (j1:Int)) fun(x46:LVal)=>
     cond (x46.kind !=x1)
      (aa (ax args (j1:Int)) fun(x54:LVal)=>
      cond (x54.kind !=(0:Int))
       (some (.ret ([],[],7)))
       (some (.next ())))
      (some (.next ())))) 0 p.parameters ()) fun fl1=>fl1.thenR fun(_:Unit)=>
   aa (du sA st) fun x63=>
   cond (x63 !=(0:Int))
    (some ([],[],x63))
    (aa (oq args 0 (p.parameters.length:Int)) fun(x73:Rq)=>
    aa (aw (LR.mk sA st x73 [] [] [] [] 400 false) p.body) fun x80=>
    cond (x80.1 !=(0:Int))
     (some ([],[],x80.1))
     (some (x80.2.changes,x80.2.results,0)))))
theorem oJ(sA:LSchema)(st:List LW)(p:LP)(args:Rq)(r:(List LChange)×(List LResult)×Int)(H:jr sA st p args=some r):
  aC prog 14 [(.agg (cf sA)),(.list 86 (st.map bE)),(.agg (bn p)),(.list 69 (args.map ab))] (.tup [(.list 56 (r.1.map bW)),(.list 64 (r.2.1.map dR)),(ac r.2.2)]):=by
 unfold jr at H;refine PH.ak func14 ntmps14 ?_;refine gB ?_;refine aB call13 (ip.r) (nG sA p) H (fun x19 H=>?_);refine go ?_;refine aI Z H (fun H=>?_) (fun H=>?_)
 ·refine go ?_;obtain rfl:=ay H;exact gH U Z gr
 refine go ?_;refine aI Z H (fun H=>?_) (fun H=>?_)
 ·refine go ?_;obtain rfl:=ay H;exact gH U Z gr
 refine go ?_;refine fg U 32 31 30 (fun s1 g1=>upd (upd (upd (upd (fun _=>.any) 6 (.ptr (bn p))) 4 (.ptr (cf sA))) 3 (.list 69 (args.map ab))) 1 (.list 86 (st.map bE))) nB nO () H (fun fl1 Hp1 j1 s1 g1 hz1 hl1 x1 fb1 hx1 H hg1=>?_) (fun s1 g1 H=>?_)
 ·refine go ?_;refine aW U (zn j1) (aQ (fun _=>Z) hx1) ?_;refine go ?_;refine ec U (fun _=>Z) H (fun x39 H=>?_);refine go ?_
  obtain⟨x41,h41,H⟩:=cI H
  have s41:=sI x39;rw[h41]at s41;refine ag call43 (ip.r) s41 ?_;refine go ?_;refine aN Z Z Z H (fun H=>?_) (fun H=>?_)
  ·refine go ?_;refine bO Z (go ?_);obtain rfl:=lvR H hg1 Hp1;exact gH U Z gr
  refine go ?_;refine ec U (fun _=>Z) H (fun x46 H=>?_);refine go ?_;refine aN Z Z Z H (fun H=>?_) (fun H=>?_)
  ·refine go ?_;refine ec U (fun _=>Z) H (fun x54 H=>?_);refine go ?_;refine aI Z H (fun H=>?_) (fun H=>?_)
   ·refine go ?_;obtain rfl:=lvR H hg1 Hp1;exact gH U Z gr
   exact fN
  refine go ?_;refine bj Z ?_;exact fN
 refine go ?_;refine aB call38 (ip.r) (lq sA st) H (fun x63 H=>?_);refine go ?_;refine aI Z H (fun H=>?_) (fun H=>?_)
 ·refine go ?_;obtain rfl:=ay H;exact gH U Z gr
 refine go ?_;refine bK ⟨false,false,[]⟩ [0,1,2,3,4,5,6,7,8,9,10] ?_;refine go ?_
 obtain⟨x73,h73,H⟩:=aA H
 have k73:=oH h73;refine wS Z Z Z Z Z Z (zl _) Z Z k73.1 (pT k73.2) Z ?_;have s74:=clone_44 (m:=74) x73;refine bI call44 (ip.r) (PFun.gN s74) ?_;refine go ?_;refine Do.box (d:=76) Z Z Z Z Z Z fun b76=>?_
 refine jm Z (dE (al (al (ah (cC 3 U Z (iT (Gh.nilOB U 76 7 1607 (e:=56) Z Z Z Z) (iT (Gh.nilOB U 76 8 1608 (e:=64) Z Z Z Z) ?_)))))))
 obtain⟨x80,h80,H⟩:=aA H
 have s80:=uu b76 (⟨none,0⟩) (⟨none,0⟩) (LR.mk sA st x73 [] [] [] [] 400 false) p.body _ h80;refine iT (st':=⟨_,_,upd (fun _=>none) 76 (some ⟨b76,(cR (LR.mk sA st x73 [] [] [] [] 400 false) ⟨none,0⟩ ⟨none,0⟩)⟩),upd (upd (fun _=>none) 1608 (some ⟨⟨none,0⟩,64,(([]:List LResult).map dR),true⟩)) 1607 (some ⟨⟨none,0⟩,56,(([]:List LChange).map bW),true⟩)⟩) (Gh.le (il _ _) (aZ Z (ip.of2 (ku.cons (PLe2.of_eq Z) (ku.cons (PLe2.of_eq Z) (ku.cons (PLe2.of_eq Z) (ku.cons (PLe2.of_eq Z) (ku.cons (PLe2.of_eq Z) (ku.cons (PLe2.nil U Z) (ku.cons (PLe2.nil U Z) (ku.cons (PLe2.of_eq Z) (ku.cons (PLe2.of_eq Z) (ku.cons (PLe2.of_eq Z) (ku.cons (PLe2.of_eq Z) ku.nil)))))))))))) aV) (bJ (bJ aU))) ?_;refine gU call45 [(76,1500)] [(1607,1607),(1608,1608)] s80 ?_;rintro u80 H80h ⟨gz80_1607,gz80_1608,rfl,rfl⟩
 refine⟨_,rfl,?_⟩
 refine eA (upd (fun _=>none) 76 (some ⟨b76,(cR x80.2 gz80_1607 gz80_1608)⟩)) (oR x80.2 gz80_1607 gz80_1608) ?_;refine go ?_;refine aI Z H (fun H=>?_) (fun H=>?_)
 ·refine go ?_;obtain rfl:=ay H;exact gH U Z gr
 refine go ?_;refine bK ⟨true,false,[]⟩ [0,1,2,3,4,5,6,7,8,9,10] ?_;refine oa 3 Z (kP ?_);refine oa 3 Z (kP ?_);refine oa 3 Z (dE (cD 8 Z Z Z (cD 9 Z Z Z ?_)));exact fS
def fC(sA:LSchema)(st:List LW)(p:LP)(q:LP):Option (Bool):=
 letP (sampleV) fun x22=>
 cond (!x22)
  (some false)
  (aa (
   cond (decide ((Iw ((p.parameters.length:Int)+(q.parameters.length:Int)))>(0:Int)))
    (some true)
    (aa (it sA st p) fun x36=>
    cond (!x36)
     (some true)
     (aa (it sA st q) fun x43=>
     cond (!x43)
      (some true)
      (aa (bu ([p.body,q.body]:List (List LS))) fun x52=>
      aa (bD x52) fun x53=>
      aa (bF x53 (fun a0=>some (bt a0))) fun x54=>
      some x54)))) fun(t1:Bool)=>
  cond t1
   (some true)
   (aa (bu ([p.body,q.body]:List (List LS))) fun x61=>
   aa (gR sA (LP.mk [] x61)) fun x65=>
   cond (x65 !=(0:Int))
    (some true)
    (aa (jr sA st p ([]:Rq)) fun x71=>
    aa (jr sA st (LP.mk [] x61) ([]:Rq)) fun x79=>
    cond (x71.2.2 !=(0:Int))
     (some (x79.2.2==x71.2.2))
     (aa (kR sA st x71.1) fun x92=>
     cond (x92.2 !=(0:Int))
      (some false)
      (aa (jr sA x92.1 q ([]:Rq)) fun x101=>
      cond (x101.2.2 !=(0:Int))
       (cond (x79.2.2==x101.2.2)
        (some true)
        (some (x79.2.2==(2:Int))))
       (cond (x79.2.2 !=(0:Int))
        (some (x79.2.2==(2:Int)))
        (aa (dP ([x71.1,x101.1]:List (List LChange))) fun x121=>
        cond (decide ((x79.2.1.length:Int)<=(8:Int)))
         (aa (bA x79.1 x121 (fun a0 a1=>fv a0 a1)) fun x128=>
         some x128)
         (some false))))))))
theorem pB(sA:LSchema)(st:List LW)(p:LP)(q:LP)(r:Bool)(H:fC sA st p q=some r):
  aC prog 3 [(.agg (cf sA)),(.list 86 (st.map bE)),(.agg (bn p)),(.agg (bn q))] (az r):=by
 unfold fC at H;refine PH.ak func3 ntmps3 ?_;refine gB ?_
 obtain⟨x22,h22,H⟩:=cI H
 have s22:=sampleV_spec;rw[h22]at s22;refine ag call7 (ip.r) s22 ?_;refine go ?_;refine bG Z H ay (fun H=>?_);refine aE (al (al ?_));refine fQ (γ:=Unit) (fun t1 g1=>⟨130,upd (upd (upd (upd (upd (fun _=>.any) 55 (az t1)) 7 (.ptr (bn q))) 6 (.ptr (bn p))) 4 (.ptr (cf sA))) 1 (.list 86 (st.map bE)),fun _=>none,fun _=>none⟩) H (fun _ H=>?_) (fun t1 g1 H=>?_)
 ·refine go ?_;refine aN Z Z Z H (fun H=>?_) (fun H=>?_)
  ·exact fA
  refine go ?_;refine aB call8 (ip.r) (oU sA st p) H (fun x36 H=>?_);refine go ?_;refine aN Z Z Z H (fun H=>?_) (fun H=>?_)
  ·exact fA
  refine go ?_;refine aB call8 (ip.r) (oU sA st q) H (fun x43 H=>?_);refine go ?_;refine aN Z Z Z H (fun H=>?_) (fun H=>?_)
  ·exact fA
  refine go ?_;refine bZ U (rows':=List.map (ae 40 af) ([p.body,q.body]:List (List LS))) (iW.refl _) ?_
  obtain⟨x52,h52,H⟩:=aA H
  have s52:=fR (m:=52) ([p.body,q.body]:List (List LS)) _ h52;refine ag call11 (ip.r) (PFun.gN s52) ?_;refine aB call10 (ip.r) (lO x52) H (fun x53 H=>?_);refine aB call9 (ip.r) (jj x53 (fun a0=>some (bt a0)) call12 (fun a0 r h=>(ay h)▸oI a0)) H (fun x54 H=>?_);exact fA
 refine bG Z H ay (fun H=>?_);refine go ?_;refine bZ U (rows':=List.map (ae 40 af) ([p.body,q.body]:List (List LS))) (iW.refl _) ?_
 obtain⟨x61,h61,H⟩:=aA H
 have s61:=fR (m:=61) ([p.body,q.body]:List (List LS)) _ h61;refine ag call11 (ip.r) (PFun.gN s61) ?_;refine go ?_;refine aM U fun b9=>?_
 refine go ?_;refine aB call13 (ip.of2 (ku.cons (PLe2.of_eq Z) (ku.cons (PLe2.agg (ku.cons (PLe2.nil U Z) (ku.cons (PLe2.of_eq Z) ku.nil))) ku.nil))) (nG sA (LP.mk [] x61)) H (fun x65 H=>?_);refine go ?_;refine bG Z H ay (fun H=>?_);refine go ?_;refine aB call14 (ip.of2 (ku.cons (PLe2.of_eq Z) (ku.cons (PLe2.of_eq Z) (ku.cons (PLe2.of_eq Z) (ku.cons (PLe2.nil U Z) ku.nil))))) (oJ sA st p ([]:Rq)) H (fun x71 H=>?_);refine go ?_;refine aB call14 (ip.of2 (ku.cons (PLe2.of_eq Z) (ku.cons (PLe2.of_eq Z) (ku.cons (PLe2.agg (ku.cons (PLe2.nil U Z) (ku.cons (PLe2.of_eq Z) ku.nil))) (ku.cons (PLe2.nil U Z) ku.nil))))) (oJ sA st (LP.mk [] x61) ([]:Rq)) H (fun x79 H=>?_);refine go ?_;refine bG Z H ay (fun H=>?_);refine go ?_;refine aB call15 (ip.r) (tA sA st x71.1) H (fun x92 H=>?_);refine go ?_;refine bG Z H ay (fun H=>?_);refine go ?_;refine aB call14 (ip.of2 (ku.cons (PLe2.of_eq Z) (ku.cons (PLe2.of_eq Z) (ku.cons (PLe2.of_eq Z) (ku.cons (PLe2.nil U Z) ku.nil))))) (oJ sA x92.1 q ([]:Rq)) H (fun x101 H=>?_);refine go ?_;refine aI Z H (fun H=>?_) (fun H=>?_)
 ·refine go ?_;refine aN Z Z Z H (fun H=>?_) (fun H=>?_)
  ·exact fS
  exact fS
 refine go ?_;refine bG Z H ay (fun H=>?_);refine go ?_;refine bZ U (rows':=List.map (ae 56 bW) ([x71.1,x101.1]:List (List LChange))) (iW.refl _) ?_
 obtain⟨x121,h121,H⟩:=aA H
 have s121:=mP (m:=121) ([x71.1,x101.1]:List (List LChange)) _ h121;refine ag call16 (ip.r) (PFun.gN s121) ?_;refine go ?_;refine aN Z Z Z H (fun H=>?_) (fun H=>?_)
 ·refine go ?_;refine aB call17 (ip.r) (ja x79.1 x121 (fun a0 a1=>fv a0 a1) call18 (fun a0 a1 r h=>sQ a0 a1 r h)) H (fun x128 H=>?_);exact fS
 exact fS
end
end Go.Proofs.YtafdcemcgfbhcaaGreatDoor

namespace Go.Proofs.YtafdcemcgfbhcaaGreatDoor
noncomputable section
open Go Go.Ab Go.Proofs.Tryz
theorem LQuery.inputs_lt{q x:LQuery}(h:x∈q.inputs):SizeOf.sizeOf x<SizeOf.sizeOf q:=by
 cases q;simp only[LQuery.inputs]at h
 have:=List.sizeOf_lt_of_mem h
 simp only[LQuery.mk.sizeOf_spec];omega
theorem LQuery.ind{p:LQuery->Prop}(h:∀q:LQuery,(∀x∈q.inputs,p x)->p q):∀q,p q:=by
 intro q;generalize hn:SizeOf.sizeOf q=n;induction n using Nat.strongRecOn generalizing q with
 |_ n ih=>exact h q fun x hx=>ih _ (hn▸LQuery.inputs_lt hx) x Z
theorem qm{α:Type}{p:α->Nat->Prop}:∀(xs:List α),(∀x∈xs,∃N,∀n,N<=n->p x n)->∃N,∀n,N<=n->∀x∈xs,p x n
 |[],_=>⟨0,fun _ _ x hx=>by simp at hx⟩
 |y::xs,h=>by
  obtain⟨N,hN⟩:=h y (by simp)
  obtain⟨N',hN'⟩:=qm xs fun x hx=>h x (by simp[hx])
  refine⟨N+N',fun n hn x hx=>?_⟩
  rcases List.mem_cons.1 hx with rfl|hx
  ·exact hN n (by omega)
  ·exact hN' n (by omega) x hx
theorem js{α σ ρ:Type}{step step':Nat->α->σ->Option (Flow σ ρ)}:∀(xs:List α) (j:Nat) (s:σ),(∀k x s,xs[k]? =some x->step (j+k) x s=step' (j+k) x s)->au step j xs s=au step' j xs s
 |[],_,_,_=>rfl
 |x::xs,j,s,h=>by
  have h0:=h 0 x s Z;rw[Nat.add_zero]at h0;rw[au,au,h0];split
  ·rfl
  ·exact js xs (j+1) _ fun k y t hk=>by
    have:=h (k+1) y t (by simpa using hk)
    rwa [show j+(k+1)=j+1+k from by omega]at this
  ·rfl
  ·rfl
theorem cV{α:Type}{xs:List α}{k:Nat}{x:α}(h:xs[k]? =some x):x∈xs:=List.mem_of_getElem? h
theorem qZ{γ β:Type}{F:Nat->γ->LQuery->Option β}{O:(γ->LQuery->Option β)->γ->LQuery->Option β}(hF:∀n,F (n+1)=O (F n))(c:γ)(q:LQuery)
  (hc:∀r r':γ->LQuery->Option β,(∀x∈q.inputs,r c x=r' c x)->O r c q=O r' c q) (hx:∀x∈q.inputs,∃v,iO (fun n=>F n c x)=some v) {r:β} (h:O (fun c q=>iO fun n=>F n c q) c q=some r):
  iO (fun n=>F n c q)=some r:=by
 obtain⟨N,hN⟩:=qm (p:=fun x n=>F n c x=iO fun n=>F n c x) q.inputs (fun x hm=>by
  obtain⟨v,hv⟩:=hx x hm
  obtain⟨N,hN⟩:=limN_ev hv
  exact⟨N,fun n hn=>by rw[hN n hn,hv]⟩)
 refine tI (N+1) fun m hm=>?_
 obtain⟨m,rfl⟩:∃k,m=k+1:=⟨m-1,by omega⟩
 rw[hF,hc _ (fun c q=>iO fun n=>F n c q) (hN m (by omega)),h]
def dl(q:LQuery):List LQuery:=q::(q.inputs.attach.map fun x=>dl x.1).flatten
termination_by SizeOf.sizeOf q
decreasing_by exact LQuery.inputs_lt x.2
theorem lJ(q:LQuery):dl q=q::(q.inputs.map dl).flatten:=by
 rw[dl,List.attach_map_val (f:=dl)]
theorem flat_le{α β:Type}{f:α->List β}{xs:List α}{x:α}(h:x∈xs):(f x).length<=((xs.map f).flatten).length:=by
 induction xs with
 |nil=>simp at h
 |cons y xs ih=>
  simp only[List.map_cons,List.flatten_cons,List.length_append];rcases List.mem_cons.1 h with rfl|h
  ·omega
  ·have:=ih h;omega
theorem pr{q x:LQuery}(h:x∈q.inputs):(dl x).length+1<=(dl q).length:=by
 rw[lJ q]
 have:=flat_le (f:=dl) h
 simp only[List.length_cons];omega
theorem aS{α:Type}{bytes:Nat}{xs ys:List α}(hb:bytes<=200)(h:xs.length+ys.length<=10000000):cE bytes xs ys=some (xs++ys):=by
 refine appI_ok ?_ (by unfold maxLen;omega)
 have:(xs.length+ys.length)*bytes<=10000000*200:=Nat.mul_le_mul h hb
 omega
theorem take_flat{α β:Type}{f:α->List β}{xs:List α}{k:Nat}:(((xs.take k).map f).flatten).length<=((xs.map f).flatten).length:=by
 induction xs generalizing k with
 |nil=>simp
 |cons y xs ih=>
  cases k with
  |zero=>simp
  |succ k=>simp only[List.take_succ_cons,List.map_cons,List.flatten_cons,List.length_append];have:=ih (k:=k);omega
theorem nodes_ok:∀q:LQuery,(dl q).length<=10000000->lA q=some (dl q):=by
 refine LQuery.ind fun q ih hb=>?_
 refine qZ (γ:=Unit) (F:=fun n _ q=>ly n q) (O:=fun r _ q=>lr (fun x=>r () x) q) (fun n=>rfl) () q ?_ (fun x hx=>⟨_,ih x hx (by have:=pr hx;omega)⟩) ?_
 ·intro r r' h;simp only[lr];congr 1;exact js q.inputs 0 _ fun k x s hk=>by rw[h x (cV hk)]
 ·have hr:=rMa (step:=fun(_:Nat) (x1:LQuery) (s1:List LQuery)=>aa (lA x1) fun x17=>aa (cE 160 s1 x17) fun(x18:List LQuery)=>some (Flow.next (ρ:=Empty) x18)) (xs:=q.inputs) (s:=[q])
   (fun k=>q::((q.inputs.take k).map dl).flatten) (by simp) (fun k x hk=>by
    have hx:=cV hk;rw[ih x hx (by have:=pr hx;omega),bPs,aS (by decide),bPs]
    ·rw[List.take_add_one,hk];simp
    ·have h1:(((q.inputs.take (k+1)).map dl).flatten).length<=((q.inputs.map dl).flatten).length:=take_flat;rw[List.take_add_one,hk]at h1;rw[lJ]at hb;simp at h1 hb⊢;omega)
  simp only[lr];have e:∀x,(iO fun n=>ly n x)=lA x:=fun _=>rfl
  simp only[e];rw[hr,bPs,bQ,List.take_length,lJ]
def eu(a b:Int):Int:=if b>a then b else a
theorem tw{a b c:Int}(h:a<=c)(h':b<=c):eu a b<=c:=by unfold eu;split<;>assumption
theorem ll(a b:Int):a<=eu a b:=by unfold eu;split<;>omega
theorem qz(a b:Int):b<=eu a b:=by unfold eu;split<;>omega
def kV(q:LQuery):Int:=(q.inputs.attach.map fun x=>kV x.1).foldl eu 0+1
termination_by SizeOf.sizeOf q
decreasing_by exact LQuery.inputs_lt x.2
theorem va(q:LQuery):kV q=(q.inputs.map kV).foldl eu 0+1:=by
 rw[kV,List.attach_map_val (f:=kV)]
theorem uC:∀{l:List Int} {a c:Int},a<=c->(∀x∈l,x<=c)->l.foldl eu a<=c
 |[],_,_,h,_=>h
 |x::l,a,c,h,hl=>uC (l:=l) (tw h (hl x (by simp))) fun y hy=>hl y (by simp[hy])
theorem uz:∀{l:List Int} {a:Int},a<=l.foldl eu a/\∀x∈l,x<=l.foldl eu a
 |[],a=>⟨Int.le_refl a,by simp⟩
 |x::l,a=>by
  obtain⟨h1,h2⟩:=uz (l:=l) (a:=eu a x)
  simp only[List.foldl_cons]
  refine⟨Int.le_trans (ll a x) h1,fun y hy=>?_⟩
  rcases List.mem_cons.1 hy with rfl|hy
  ·exact Int.le_trans (qz a y) h1
  ·exact h2 y hy
theorem depthQ_nodes:∀q:LQuery,1<=kV q/\kV q<=(dl q).length:=by
 refine LQuery.ind fun q ih=>?_
 rw[va,lJ]
 have h1:(q.inputs.map kV).foldl eu 0<=(((q.inputs.map dl).flatten).length:Nat):=uC (by omega) fun x hx=>by
  obtain⟨y,hy,rfl⟩:=List.mem_map.1 hx
  have:=(ih y hy).2
  have:=flat_le (f:=dl) hy
  omega
 have h2:=(uz (l:=q.inputs.map kV) (a:=0)).1;simp only[List.length_cons];omega
theorem depth_ok:∀q:LQuery,(dl q).length<=10000000->mG q=some (kV q):=by
 refine LQuery.ind fun q ih hb=>?_
 refine qZ (γ:=Unit) (F:=fun n _ q=>lw n q) (O:=fun r _ q=>lx (fun x=>r () x) q) (fun n=>rfl) () q ?_ (fun x hx=>⟨_,ih x hx (by have:=pr hx;omega)⟩) ?_
 ·intro r r' h;simp only[lx];congr 1;exact js q.inputs 0 _ fun k x s hk=>by rw[h x (cV hk)]
 ·have hr:=rMa (step:=fun(_:Nat) (x1:LQuery) (s1:Int)=>aa (mG x1) fun x15=>some (Flow.next (ρ:=Empty) (if x15>s1 then x15 else s1))) (xs:=q.inputs) (s:=0)
   (fun k=>((q.inputs.take k).map kV).foldl eu 0) (by simp) (fun k x hk=>by
    have hx:=cV hk;rw[ih x hx (by have:=pr hx;omega),bPs,List.take_add_one,hk];simp[eu])
  simp only[lx];have e:∀x,(iO fun n=>lw n x)=mG x:=fun _=>rfl
  simp only[e];rw[hr,bPs,bQ,List.take_length,va];have h:=depthQ_nodes q;rw[va]at h;rw[Ww (by omega) (by omega)]
def pH(n:Int):Int:=if 20001<n then 20001 else n
def kF(kind:Int)(s:Int×Int)(j:Nat)(x:Int×Int):Int×Int:=
 (pH (if j=0 then x.1 else if kind=6 then s.1+x.1 else if kind=4\/kind=5 then s.1*eu 1 x.1 else s.1),eu s.2 x.2)
def fu(kind:Int):Nat->List (Int×Int)->Int×Int->Int×Int
 |_,[],s=>s
 |j,x::l,s=>fu kind (j+1) l (kF kind s j x)
def bw(q:LQuery):Int×Int:=
 let s:=fu q.kind 0 (q.inputs.attach.map fun x=>bw x.1) (0,0)
 if q.kind=1 then(24,eu s.2 24)else(s.1,eu s.2 s.1)
termination_by SizeOf.sizeOf q
decreasing_by exact LQuery.inputs_lt x.2
theorem qa(q:LQuery):bw q=if q.kind=1 then(24,eu (fu q.kind 0 (q.inputs.map bw) (0,0)).2 24)else((fu q.kind 0 (q.inputs.map bw) (0,0)).1,eu (fu q.kind 0 (q.inputs.map bw) (0,0)).2 (fu q.kind 0 (q.inputs.map bw) (0,0)).1):=by
 rw[bw,List.attach_map_val (f:=bw)]
def qg(s:Int×Int):Prop:=0<=s.1/\s.1<=20001/\0<=s.2/\s.2<=20001
theorem capI_b{n:Int}(h:0<=n):0<=pH n/\pH n<=20001:=by unfold pH;split<;>omega
theorem mostStep_r{kind:Int}{s x:Int×Int}{j:Nat}(hs:qg s)(hx:qg x):qg (kF kind s j x):=by
 obtain⟨a1,a2,a3,a4⟩:=hs
 obtain⟨b1,b2,b3,b4⟩:=hx
 unfold kF
 have h1:0<=(if j=0 then x.1 else if kind=6 then s.1+x.1 else if kind=4\/kind=5 then s.1*eu 1 x.1 else s.1):=by
  split
  ·exact b1
  ·split
   ·omega
   ·split
    ·exact Int.mul_nonneg a1 (Int.le_trans (by decide) (ll 1 x.1))
    ·exact a1
 exact⟨(capI_b h1).1,(capI_b h1).2,Int.le_trans a3 (ll _ _),tw a4 b4⟩
theorem ub{kind:Int}:∀{l:List (Int×Int)} {j:Nat} {s:Int×Int},qg s->(∀x∈l,qg x)->qg (fu kind j l s)
 |[],_,_,h,_=>h
 |x::l,j,s,h,hl=>ub (l:=l) (mostStep_r h (hl x (by simp))) fun y hy=>hl y (by simp[hy])
theorem mostQ_r:∀q:LQuery,qg (bw q):=by
 refine LQuery.ind fun q ih=>?_
 rw[qa]
 have h:qg (fu q.kind 0 (q.inputs.map bw) (0,0)):=ub ⟨by decide,by decide,by decide,by decide⟩ fun x hx=>by
  obtain⟨y,hy,rfl⟩:=List.mem_map.1 hx
  exact ih y hy
 obtain⟨a1,a2,a3,a4⟩:=h
 split
 ·exact⟨show(0:Int)<=24 by decide,show(24:Int)<=20001 by decide,Int.le_trans a3 (ll _ _),tw a4 (by decide)⟩
 ·exact⟨a1,a2,Int.le_trans a3 (ll _ _),tw a4 a2⟩
theorem vr(kind:Int):∀(l:List (Int×Int)) (j:Nat) (s x:Int×Int),fu kind j (l++[x]) s=kF kind (fu kind j l s) (j+l.length) x
 |[],j,s,x=>by simp[fu]
 |y::l,j,s,x=>by
  rw[List.cons_append,fu,vr kind l (j+1),fu];congr 1;simp;omega
theorem mostStep_run{kind:Int}{s x:Int×Int}{j:Nat}(hs:qg s)(hx:qg x):
  (cond ((j:Int)==(0:Int))
   (some (Flow.next (ρ:=Empty) ((if(20001:Int)<x.1 then(20001:Int)else x.1),(if x.2>s.2 then x.2 else s.2))))
   (cond (kind==(6:Int))
    (some (.next ((if(20001:Int)<(Iw (s.1+x.1))then(20001:Int)else(Iw (s.1+x.1))),(if x.2>s.2 then x.2 else s.2))))
    (letP (
     cond (kind==(4:Int))
      (true)
      ((kind==(5:Int)))) fun(t4:Bool)=>
    cond t4
     (some (.next ((if(20001:Int)<(Iw (s.1*(if x.1>(1:Int)then x.1 else(1:Int))))then(20001:Int)else(Iw (s.1*(if x.1>(1:Int)then x.1 else(1:Int))))),(if x.2>s.2 then x.2 else s.2))))
     (some (.next ((if(20001:Int)<s.1 then(20001:Int)else s.1),(if x.2>s.2 then x.2 else s.2)))))))=some (.next (kF kind s j x)):=by
 obtain⟨a1,a2,a3,a4⟩:=hs
 obtain⟨b1,b2,b3,b4⟩:=hx
 have hm:1<=eu 1 x.1/\eu 1 x.1<=20001:=⟨ll _ _,tw (by decide) b2⟩
 have hp:0<=s.1*eu 1 x.1/\s.1*eu 1 x.1<=20001*20001:=⟨Int.mul_nonneg a1 (by omega),Int.mul_le_mul a2 hm.2 (by omega) (by decide)⟩
 have hw1:Iw (s.1+x.1)=s.1+x.1:=Ww (by omega) (by omega);have hw2:Iw (s.1*(if x.1>(1:Int)then x.1 else(1:Int)))=s.1*eu 1 x.1:=Ww (by show _<=s.1*eu 1 x.1;omega) (by show s.1*eu 1 x.1<=_;omega);rw[hw1,hw2];unfold kF pH eu letP;by_cases h0:j=0
 ·subst h0;simp
 ·have:((j:Int)==(0:Int))=false:=by simp;omega
  rw[this];by_cases h6:kind=6
  ·subst h6;simp[h0]
  ·by_cases h4:kind=4
   ·subst h4;simp[h0]
   ·by_cases h5:kind=5
    ·subst h5;simp[h0]
    ·have e6:(kind==(6:Int))=false:=by simpa using h6
     have e4:(kind==(4:Int))=false:=by simpa using h4
     have e5:(kind==(5:Int))=false:=by simpa using h5
     simp[h0,h6,h4,h5,e6,e4,e5]
theorem most_ok:∀q:LQuery,px q=some (bw q):=by
 refine LQuery.ind fun q ih=>?_
 refine qZ (γ:=Unit) (F:=fun n _ q=>mh n q) (O:=fun r _ q=>mi (fun x=>r () x) q) (fun n=>rfl) () q ?_ (fun x hx=>⟨_,ih x hx⟩) ?_
 ·intro r r' h;simp only[mi];congr 1;exact js q.inputs 0 _ fun k x s hk=>by rw[h x (cV hk)]
 ·simp only[mi];have e:∀x,(iO fun n=>mh n x)=px x:=fun _=>rfl
  simp only[e]
  rw[rMa (xs:=q.inputs) (s:=(0,0)) (fun k=>fu q.kind 0 ((q.inputs.take k).map bw) (0,0)) (by simp[fu]) (fun k x hk=>by
    have hx:=cV hk
    rw[ih x hx,bPs,mostStep_run (ub ⟨by decide,by decide,by decide,by decide⟩ fun y hy=>by
     obtain⟨z,_,rfl⟩:=List.mem_map.1 hy
     exact mostQ_r z) (mostQ_r x),List.take_add_one,hk]
    have hk':=(zg.1 hk).1;simp only[Option.toList_some,List.map_append,List.map_cons,List.map_nil];rw[vr];congr 3;simp;omega)]
  rw[bPs,bQ,List.take_length,qa];by_cases h1:q.kind=1
  ·simp[h1,eu]
  ·have:(q.kind==(1:Int))=false:=by simpa using h1
   simp[h1,this,eu]
theorem LExpr.args_lt{e x:LExpr}(h:x∈e.args):SizeOf.sizeOf x<SizeOf.sizeOf e:=by
 cases e;simp only[LExpr.args]at h
 have:=List.sizeOf_lt_of_mem h
 simp only[LExpr.mk.sizeOf_spec];omega
theorem LExpr.ind{p:LExpr->Prop}(h:∀e:LExpr,(∀x∈e.args,p x)->p e):∀e,p e:=by
 intro e;generalize hn:SizeOf.sizeOf e=n;induction n using Nat.strongRecOn generalizing e with
 |_ n ih=>exact h e fun x hx=>ih _ (hn▸LExpr.args_lt hx) x Z
def lI(e:LExpr):List (Nat×Int):=if e.kind=3/\0<=e.index/\e.index<8 then [(e.index.toNat,e.value.kind)]else []
def fj(e:LExpr):List (Nat×Int):=lI e++(e.args.attach.map fun x=>fj x.1).flatten
termination_by SizeOf.sizeOf e
decreasing_by exact LExpr.args_lt x.2
theorem uq(e:LExpr):fj e=lI e++(e.args.map fj).flatten:=by
 rw[fj,List.attach_map_val (f:=fj)]
abbrev PSt:=List Int×Bool×List Bool
def kx(out:List Int)(i:Nat):List Int:=out++List.replicate (i+1-out.length) 0
def fY(s:PSt)(p:Nat×Int):PSt:=
 ((kx s.1 p.1).set p.1 p.2,s.2.1||(s.2.2.getD p.1 false&&(kx s.1 p.1).getD p.1 0 !=p.2),s.2.2.set p.1 true)
def POk(s:PSt):Prop:=s.1.length<=8/\s.2.2.length=8
theorem qu(out:List Int)(i:Nat):(kx out i).length=max out.length (i+1):=by simp[kx];omega
theorem pstep_ok{s:PSt}{p:Nat×Int}(h:POk s)(hp:p.1<8):POk (fY s p):=by
 refine⟨?_,by simp[fY,h.2]⟩
 show((kx s.1 p.1).set p.1 p.2).length<=8
 rw[List.length_set,qu]
 have:=h.1
 omega
theorem oL:∀e:LExpr,∀p∈fj e,p.1<8:=by
 refine LExpr.ind fun e ih p hp=>?_
 rw[uq,List.mem_append]at hp;rcases hp with hp|hp
 ·unfold lI at hp;split at hp
  ·rename_i h;simp at hp;subst hp;simp;omega
  ·simp at hp
 ·obtain⟨l,hl,hp⟩:=List.mem_flatten.1 hp
  obtain⟨x,hx,rfl⟩:=List.mem_map.1 hl
  exact ih x hx p hp
theorem om:∀{l:List (Nat×Int)} {s:PSt},POk s->(∀p∈l,p.1<8)->POk (l.foldl fY s)
 |[],_,h,_=>h
 |p::l,s,h,hl=>om (l:=l) (pstep_ok h (hl p (by simp))) fun q hq=>hl q (by simp[hq])
theorem pad_while(i:Nat)(hi:i<8):∀(n:Nat) (out:List Int),i+1-out.length=n->out.length<=8->
  gX (σ:=List Int) (ρ:=Empty) (fun(s7:List Int)=>cond (decide ((s7.length:Int)<=(i:Int))) (aa (cE 8 s7 ([0]:List Int)) fun(x28:List Int)=>some (.next x28)) (some (.brk s7))) out=some (.next (kx out i))
 |0,out,hn,ho=>by
  refine nH (fl:= .brk out) ?_ ?_
  ·have:¬((out.length:Int)<=(i:Int)):=by omega
   simp[this]
  ·simp[kx,hn]
 |n+1,out,hn,ho=>by
  refine nH (fl:= .next (out++[0])) ?_ ?_
  ·have:(out.length:Int)<=(i:Int):=by omega
   simp only[this,decide_true,zc];rw[aS (by decide) (by simp;omega)];rfl
  ·have:=pad_while i hi n (out++[0]) (by simp;omega) (by simp;omega)
   simp only;rw[this];simp only[kx,List.length_append,List.length_singleton,List.append_assoc,hn];rw[show i+1-(out.length+1)=n from by omega,show(List.replicate (n+1) (0:Int))=[0]++List.replicate n 0 from Z]
theorem arrI_at{xs:List Bool}{i:Nat}(h:xs.length=8)(hi:i<8):arrI 8 xs (i:Int)=some (xs.getD i false):=by
 have:xs[i]? =some (xs.getD i false):=by rw[List.getD_eq_getElem?_getD,ze (by omega)];rfl
 exact arrI_eq (by omega) (by simpa using this)
theorem getI_at{xs:List Int}{i:Nat}(h:i<xs.length):ax xs (i:Int)=some (xs.getD i 0):=by
 have:xs[i]? =some (xs.getD i 0):=by rw[List.getD_eq_getElem?_getD,ze h];rfl
 exact gp this
theorem look_ok:∀e:LExpr,∃N,∀n,N<=n->∀s:PSt,POk s->ef n e s.1 s.2.1 s.2.2=some ((fj e).foldl fY s):=by
 refine LExpr.ind fun e ih=>?_
 obtain⟨N,hN⟩:=qm (p:=fun x n=>∀s:PSt,POk s->ef n x s.1 s.2.1 s.2.2=some ((fj x).foldl fY s)) e.args ih
 refine⟨N+1,fun n hn s hs=>?_⟩
 obtain⟨n,rfl⟩:∃k,n=k+1:=⟨n-1,by omega⟩
 rw[ef];simp only[jq];have h1:POk ((lI e).foldl fY s):=om hs fun p hp=>oL e p (by rw[uq];simp[hp])
 have hloop:∀s:PSt,POk s->aa (au (σ:=List Int×Bool×List Bool) (ρ:=Empty) (fun(_:Nat) (x11:LExpr) (s11:List Int×Bool×List Bool)=>
   aa (ef n x11 s11.1 s11.2.1 s11.2.2) fun x66=>some (.next (x66.1,x66.2.1,x66.2.2))) 0 e.args (s.1,s.2.1,s.2.2)) (fun fl11=>fl11.thenP fun(s11:List Int×Bool×List Bool)=>some (s11.1,s11.2.1,s11.2.2))=
   some (((e.args.map fj).flatten).foldl fY s):=by
  intro s hs
  rw[rMa (xs:=e.args) (s:=(s.1,s.2.1,s.2.2)) (fun k=>(((e.args.take k).map fj).flatten).foldl fY s) Z (fun k x hk=>by
   have hx:=cV hk
   have hok:POk ((((e.args.take k).map fj).flatten).foldl fY s):=om hs fun p hp=>by
    obtain⟨l,hl,hp⟩:=List.mem_flatten.1 hp
    obtain⟨y,hy,rfl⟩:=List.mem_map.1 hl
    exact oL y p hp
   rw[hN n (by omega) x hx _ hok,bPs,List.take_add_one,hk];simp)]
  rw[bPs,bQ,List.take_length]
 have key:(aa (cond (letP (cond (e.kind==(3:Int)) (cond (decide (e.index>=(0:Int))) ((decide (e.index<(8:Int)))) (false)) (false)) fun(t1:Bool)=>t1)
   (aa (gX (σ:=List Int) (ρ:=Empty) (fun(s7:List Int)=>cond (decide ((s7.length:Int)<=e.index)) (aa (cE 8 s7 ([0]:List Int)) fun(x28:List Int)=>some (.next x28)) (some (.brk s7))) s.1) fun fl7=>fl7.thenP fun(s7:List Int)=>
   aa (cond s.2.1 (some true) (aa (arrI 8 s.2.2 e.index) fun(x33:Bool)=>cond x33 (aa (ax s7 e.index) fun(x39:Int)=>some (x39 !=e.value.kind)) (some false))) fun(t8:Bool)=>
   aa (ax s7 e.index) fun(_:Int)=>letP (s7.set e.index.toNat e.value.kind) fun(y9:List Int)=>aa (arrI 8 s.2.2 e.index) fun(_:Bool)=>letP (s.2.2.set e.index.toNat true) fun(y10:List Bool)=>some (y9,t8,y10))
   (some (s.1,s.2.1,s.2.2))) fun t=>some t)=some ((lI e).foldl fY s):=by
  unfold letP;by_cases hc:e.kind=3/\0<=e.index/\e.index<8
  ·obtain⟨hk,h0,h8⟩:=hc
   obtain⟨i,hi⟩:∃i:Nat,e.index=i:=⟨e.index.toNat,by omega⟩
   have hi8:i<8:=by omega
   have e0:(e.kind==(3:Int))=true:=by simpa using hk
   have e1:decide (e.index>=(0:Int))=true:=zt h0;have e2:decide (e.index<(8:Int))=true:=zt h8;rw[e0,e1,e2];simp only[zc];rw[hi,pad_while i hi8 _ s.1 Z hs.1];simp only[bPs,bQ];have hl:i<(kx s.1 i).length:=by rw[qu];omega
   rw[arrI_at hs.2 hi8,getI_at hl];simp only[bPs,Int.toNat_natCast];have hh:lI e=[(i,e.value.kind)]:=by unfold lI;rw[zp ⟨hk,h0,h8⟩,hi,Int.toNat_natCast]
   rw[hh];simp only[List.foldl_cons,List.foldl_nil,fY];cases hb:s.2.1<;>cases hc:s.2.2.getD i false<;>simp
  ·have hh:lI e=[]:=by unfold lI;rw[zy hc]
   rw[hh]
   have e0:(cond (e.kind==(3:Int)) (cond (decide (e.index>=(0:Int))) ((decide (e.index<(8:Int)))) (false)) (false))=false:=by
    by_cases a:e.kind=3
    ·by_cases b:0<=e.index
     ·have:¬e.index<8:=fun h=>hc ⟨a,b,h⟩
      simp[this]
     ·have:¬e.index>=0:=b
      simp[this]
    ·have:(e.kind==(3:Int))=false:=by simpa using a
     simp[this]
   rw[e0];rfl
 simp only[aX]at key⊢;rw[uq,List.foldl_append,<-hloop _ h1];generalize hg:(cond _ _ _:Option PSt)=o at key;cases o with
 |none=>cases key
 |some t=>
  simp only[bPs,zo]at key;subst key;rfl
theorem look_eq(e:LExpr){s:PSt}(h:POk s):im e s.1 s.2.1 s.2.2=some ((fj e).foldl fY s):=by
 obtain⟨N,hN⟩:=look_ok e
 exact tI N fun n hn=>hN n hn s h
def mg(x:LQuery):List (Nat×Int):=(x.exprs.map fj).flatten++(x.aggregates.map fun a=>(a.args.map fj).flatten).flatten
def ny(q:LQuery):List (Nat×Int):=((dl q).map mg).flatten
theorem rh{x:LQuery}:∀p∈mg x,p.1<8:=by
 intro p hp;rcases List.mem_append.1 hp with hp|hp
 ·obtain⟨l,hl,hp⟩:=List.mem_flatten.1 hp
  obtain⟨e,_,rfl⟩:=List.mem_map.1 hl
  exact oL e p hp
 ·obtain⟨l,hl,hp⟩:=List.mem_flatten.1 hp
  obtain⟨a,_,rfl⟩:=List.mem_map.1 hl
  obtain⟨l,hl,hp⟩:=List.mem_flatten.1 hp
  obtain⟨e,_,rfl⟩:=List.mem_map.1 hl
  exact oL e p hp
theorem paramsQ_lt{q:LQuery}:∀p∈ny q,p.1<8:=by
 intro p hp
 obtain⟨l,hl,hp⟩:=List.mem_flatten.1 hp
 obtain⟨x,_,rfl⟩:=List.mem_map.1 hl
 exact rh p hp
theorem lookAll{l:List LExpr}{s:PSt}(h:POk s):au (σ:=PSt) (ρ:=Empty) (fun(_:Nat) (x12:LExpr) (s12:PSt)=>
   aa (im x12 s12.1 s12.2.1 s12.2.2) fun x33=>some (.next (x33.1,x33.2.1,x33.2.2))) 0 l (s.1,s.2.1,s.2.2)=some (.next (((l.map fj).flatten).foldl fY s)):=by
 rw[rMa (xs:=l) (s:=(s.1,s.2.1,s.2.2)) (fun k=>(((l.take k).map fj).flatten).foldl fY s) Z (fun k x hk=>by
  have hok:POk ((((l.take k).map fj).flatten).foldl fY s):=om h fun p hp=>by
   obtain⟨m,hm,hp⟩:=List.mem_flatten.1 hp
   obtain⟨y,hy,rfl⟩:=List.mem_map.1 hm
   exact oL y p hp
  rw[look_eq x hok,bPs,List.take_add_one,hk];simp),List.take_length]
def eX(q:LQuery):PSt:=(ny q).foldl fY ([],false,List.replicate 8 false)
theorem kinds_ok{q:LQuery}(hb:(dl q).length<=10000000):fw q=some (cond (eX q).2.1 ([],13) ((eX q).1,0)):=by
 unfold fw;rw[nodes_ok q hb,bPs]
 rw[rMa (xs:=dl q) (s:=([],false,List.replicate 8 false)) (fun k=>((((dl q).take k).map mg).flatten).foldl fY ([],false,List.replicate 8 false)) Z (fun k x hk=>by
  have hok:POk (((((dl q).take k).map mg).flatten).foldl fY ([],false,List.replicate 8 false)):=om ⟨by simp,by simp⟩ fun p hp=>by
   obtain⟨m,hm,hp⟩:=List.mem_flatten.1 hp
   obtain⟨y,hy,rfl⟩:=List.mem_map.1 hm
   exact rh p hp
  rw[lookAll hok,bPs,bQ]
  rw[show((((dl q).take (k+1)).map mg).flatten).foldl fY ([],false,List.replicate 8 false)=(mg x).foldl fY (((((dl q).take k).map mg).flatten).foldl fY ([],false,List.replicate 8 false))from by
   rw[List.take_add_one,hk];simp only[Option.toList_some,List.map_append,List.map_cons,List.map_nil,List.flatten_append,List.flatten_cons,List.flatten_nil,List.append_nil,List.foldl_append]]
  generalize(((((dl q).take k).map mg).flatten).foldl fY ([],false,List.replicate 8 false))=s at hok⊢
  have hok2:POk (((x.exprs.map fj).flatten).foldl fY s):=om hok fun p hp=>rh (x:=x) p (by unfold mg;simp only[List.mem_append];exact .inl hp)
  rw[rMa (xs:=x.aggregates) (s:=((((x.exprs.map fj).flatten).foldl fY s).1,(((x.exprs.map fj).flatten).foldl fY s).2.1,(((x.exprs.map fj).flatten).foldl fY s).2.2))
   (fun k=>((((x.aggregates.take k).map fun a=>(a.args.map fj).flatten).flatten).foldl fY (((x.exprs.map fj).flatten).foldl fY s))) Z (fun k a ha=>by
    have hok3:POk ((((x.aggregates.take k).map fun a=>(a.args.map fj).flatten).flatten).foldl fY (((x.exprs.map fj).flatten).foldl fY s)):=om hok2 fun p hp=>rh (x:=x) p (by
     unfold mg;simp only[List.mem_append]
     obtain⟨m,hm,hp⟩:=List.mem_flatten.1 hp
     obtain⟨y,hy,rfl⟩:=List.mem_map.1 hm
     exact .inr (List.mem_flatten.2 ⟨_,List.mem_map.2 ⟨y,List.mem_of_mem_take hy,rfl⟩,hp⟩))
    rw[lookAll hok3,bPs,bQ,List.take_add_one,ha];simp)]
  rw[bPs,bQ,List.take_length];unfold mg;rw[List.foldl_append])]
 rw[bPs,bQ,List.take_length]
 show(cond (eX q).2.1 (some ([],13)) (some ((eX q).1,0)))=_
 cases(eX q).2.1<;>rfl
def tj(l:List (Nat×Int)):Prop:=∀i k k',(i,k)∈l->(i,k')∈l->k=k'
structure PInv(l:List (Nat×Int))(s:PSt):Prop where
 ok:POk s
 seen:∀i,i<8->(s.2.2.getD i false=true↔∃k,(i,k)∈l)
 len:∀i k,(i,k)∈l->i<s.1.length
 last:s.1.length=0\/∃k,(s.1.length-1,k)∈l
 zero:∀i,(∀k,(i,k)∉l)->s.1.getD i 0=0
 good:s.2.1=false->∀i k,(i,k)∈l->s.1.getD i 0=k
 bad:tj l->s.2.1=false
theorem sn(out:List Int)(i j:Nat):(kx out i).getD j 0=out.getD j 0:=by
 simp only[kx,List.getD_eq_getElem?_getD];by_cases h:j<out.length
 ·rw[List.getElem?_append_left h]
 ·rw[List.getElem?_append_right (by omega),List.getElem?_eq_none (l:=out) (by omega),List.getElem?_replicate];split<;>rfl
theorem PInv.init:PInv [] ([],false,List.replicate 8 false):=
 ⟨⟨by simp,by simp⟩,fun i hi=>by
  have:(List.replicate 8 false).getD i false=false:=by rw[List.getD_eq_getElem?_getD,List.getElem?_replicate];split<;>rfl
  exact⟨fun h=>(by rw[show(([],false,List.replicate 8 false):PSt).2.2=List.replicate 8 false from Z,this]at h;cases h),fun⟨k,hk⟩=>(by simp at hk)⟩,fun i k h=>by simp at h,.inl Z,fun i _=>by simp,fun _ i k h=>by simp at h,fun _=>rfl⟩
theorem PInv.step{l:List (Nat×Int)}{s:PSt}(h:PInv l s){p:Nat×Int}(hp:p.1<8):PInv (l++[p]) (fY s p):=by
 obtain⟨i,k⟩:=p
 simp only at hp
 have hset:∀(xs:List Int) (j:Nat) (v:Int),i<xs.length->(xs.set i v).getD j 0=if j=i then v else xs.getD j 0:=by
  intro xs j v hl;rw[List.getD_eq_getElem?_getD,List.getD_eq_getElem?_getD,List.getElem?_set];by_cases hji:i=j
  ·subst hji;simp[hl]
  ·have:j≠i:=fun h=>hji h.symm
   simp[hji,this]
 have hl1:i<(kx s.1 i).length:=by rw[qu];omega
 refine⟨pstep_ok h.ok hp,fun j hj=>?_,fun j k' hm=>?_,?_,fun j hno=>?_,fun hb j k' hm=>?_,fun hk=>?_⟩
 ·show(s.2.2.set i true).getD j false=true↔_
  rw[List.getD_eq_getElem?_getD,List.getElem?_set];by_cases hji:i=j
  ·subst hji
   have:i<s.2.2.length:=by rw[h.ok.2];exact hp
   simp[this]
  ·have h1:=h.seen j hj;rw[List.getD_eq_getElem?_getD]at h1;have hji':j≠i:=fun h=>hji h.symm
   simp only[hji,if_false,h1,List.mem_append,List.mem_singleton,Prod.mk.injEq,hji',false_and,or_false]
 ·show j<((kx s.1 i).set i k).length;rw[List.length_set,qu];rcases List.mem_append.1 hm with hm|hm
  ·have:=h.len j k' hm;omega
  ·simp at hm;omega
 ·show((kx s.1 i).set i k).length=0\/∃k',(((kx s.1 i).set i k).length-1,k')∈l++[(i,k)]
  rw[List.length_set,qu];by_cases hle:s.1.length<=i+1
  ·right
   exact⟨k,by rw[show max s.1.length (i+1)-1=i from by omega];simp⟩
  ·rcases h.last with h0|⟨k',hk'⟩
   ·omega
   ·right
    exact⟨k',by rw[show max s.1.length (i+1)-1=s.1.length-1 from by omega];simp[hk']⟩
 ·show((kx s.1 i).set i k).getD j 0=0
  have hji:j≠i:=fun e=>hno k (by simp[e])
  rw[hset _ _ _ hl1,zy hji,sn];exact h.zero j fun k' hm=>hno k' (by simp[hm])
 ·have hb':s.2.1=false/\(s.2.2.getD i false&&(kx s.1 i).getD i 0 !=k)=false:=by
   have:(s.2.1||(s.2.2.getD i false&&(kx s.1 i).getD i 0 !=k))=false:=hb
   simpa using this
  show((kx s.1 i).set i k).getD j 0=k'
  rw[hset _ _ _ hl1];have hold:=h.good hb'.1;rcases List.mem_append.1 hm with hm1|hm
  ·by_cases hji:j=i
   ·subst hji;rw[zp Z];have hs:=(h.seen j hp).2 ⟨k',hm1⟩
    have:=hb'.2
    rw[hs,sn,hold j k' hm1]at this;simp at this;exact this.symm
   ·rw[zy hji,sn];exact hold j k' hm1
  ·simp at hm;rw[zp hm.1,hm.2]
 ·have h1:=h.bad fun i k k' a b=>hk i k k' (by simp[a]) (by simp[b])
  show(s.2.1||(s.2.2.getD i false&&(kx s.1 i).getD i 0 !=k))=false
  rw[h1,Bool.false_or,sn];cases hs:s.2.2.getD i false with
  |false=>rfl
  |true=>
   obtain⟨k',hk'⟩:=(h.seen i hp).1 hs
   rw[h.good h1 i k' hk',hk i k' k (by simp[hk']) (by simp)];simp
theorem PInv.fold:∀{r l:List (Nat×Int)} {s:PSt},PInv l s->(∀p∈r,p.1<8)->PInv (l++r) (r.foldl fY s)
 |[],l,s,h,_=>by simpa using h
 |p::r,l,s,h,hr=>by
  have:=PInv.fold (r:=r) (h.step (hr p (by simp))) fun q hq=>hr q (by simp[hq])
  simpa using this
theorem kinds_inv(q:LQuery):PInv (ny q) (eX q):=by
 have:=PInv.fold (r:=ny q) PInv.init paramsQ_lt
 rw[List.nil_append]at this;exact this
theorem kinds_bad{q:LQuery}:(eX q).2.1=false↔tj (ny q):=by
 have h:=kinds_inv q
 refine⟨fun hb i k k' a b=>?_,h.bad⟩
 rw[<-h.good hb i k a,<-h.good hb i k' b]
structure ArgsOk(l:List (Nat×Int))(args:Rq):Prop where
 kinds:tj l
 args:∀i k,(i,k)∈l->i<args.length/\(∀j x,j<=i->args[j]? =some x->kY x=true)/\(∀x,args[i]? =some x->k=0\/x.kind=k\/x.kind=0)
theorem args_ok{q:LQuery}(hb:(dl q).length<=10000000)(args:Rq):∃e,iR q args=some e/\(e=0↔ArgsOk (ny q) args):=by
 unfold iR;rw[kinds_ok hb,bPs];have h:=kinds_inv q;cases hbad:(eX q).2.1 with
 |true=>
  refine⟨13,by simp,?_⟩
  have:¬tj (ny q):=fun hk=>by rw[kinds_bad.2 hk]at hbad;cases hbad
  exact⟨fun h=>by omega,fun h=>absurd h.kinds this⟩
 |false=>
  simp only[zd];have hk:=kinds_bad.1 hbad;by_cases hl:args.length<(eX q).1.length
  ·refine⟨1,by simp[hl],fun h=>by omega,fun ha=>?_⟩
   rcases h.last with h0|⟨k,hm⟩
   ·omega
   ·have:=(ha.args _ _ hm).1;omega
  ·have hge:(eX q).1.length<=args.length:=by omega
   have hstep:∀k x,(eX q).1[k]? =some x->∃y,args[k]? =some y:=fun k x hx=>by
    have:=(zg.1 hx).1
    exact⟨args[k],ze (by omega)⟩
   let okAt:Nat->Int->Prop:=fun k x=>∀y,args[k]? =some y->kY y=true/\(x=0\/y.kind=x\/y.kind=0)
   obtain⟨fl,hfl,hres⟩:=eI (step:=fun(j1:Nat) (x1:Int) (_:Unit)=>aa (ax args (j1:Int)) fun(x31:LVal)=>letP (kY x31) fun x33=>cond (!x33) (some (Flow.ret (σ:=Unit) (7:Int)))
     (cond (x1 !=(0:Int)) (aa (ax args (j1:Int)) fun(x41:LVal)=>cond (x41.kind !=x1) (aa (ax args (j1:Int)) fun(x50:LVal)=>cond (x50.kind !=(0:Int)) (some (.ret 7)) (some (.next ()))) (some (.next ()))) (some (.next ()))))
    (fun j _=>∀k x,k<j->(eX q).1[k]? =some x->okAt k x) (fun r=>r=7/\∃k x,(eX q).1[k]? =some x/\¬okAt k x) (eX q).1 0 () (fun k x hk=>by omega) (fun k x s hk hI=>by
     obtain⟨y,hy⟩:=hstep k x hk
     simp only[Nat.zero_add]at hI⊢;rw[gp hy];simp only[bPs,aX]
     have next:okAt k x->∀k' x',k'<k+1->(eX q).1[k']? =some x'->okAt k' x':=fun ho k' x' hk' hx'=>by
      by_cases he:k'=k
      ·subst he;rw[hk]at hx';cases hx';exact ho
      ·exact hI k' x' (by omega) hx'
     cases hv:kY y with
     |false=>exact⟨_,rfl,rfl,k,x,hk,fun ho=>by have:=(ho y hy).1;rw[hv]at this;cases this⟩
     |true=>
      simp only[Bool.not_true,zd];by_cases hx0:x=0
      ·refine⟨.next (),by simp[hx0],next fun z hz=>?_⟩
       rw[hy]at hz;cases hz;exact⟨hv,.inl hx0⟩
      ·have e0:(x !=(0:Int))=true:=by simpa using hx0
       rw[e0,zc];by_cases hyx:y.kind=x
       ·refine⟨.next (),by simp[hyx],next fun z hz=>?_⟩
        rw[hy]at hz;cases hz;exact⟨hv,.inr (.inl hyx)⟩
       ·have e1:(y.kind !=x)=true:=by simpa using hyx
        rw[e1,zc];by_cases hy0:y.kind=0
        ·refine⟨.next (),by simp[hy0],next fun z hz=>?_⟩
         rw[hy]at hz;cases hz;exact⟨hv,.inr (.inr hy0)⟩
        ·have e2:(y.kind !=(0:Int))=true:=by simpa using hy0
         refine⟨.ret 7,by simp[e2],rfl,k,x,hk,fun ho=>?_⟩
         rcases(ho y hy).2 with a|a|a
         ·exact hx0 a
         ·exact hyx a
         ·exact hy0 a)
   have e0:decide ((args.length:Int)<((eX q).1.length:Int))=false:=zf (by omega);simp only[bne_self_eq_false,zd,e0];rw[hfl,bPs]
   have hget:∀k,k<(eX q).1.length->(eX q).1[k]? =some ((eX q).1.getD k 0):=fun k hk=>by
    rw[List.getD_eq_getElem?_getD,ze hk];rfl
   cases fl with
   |brk s=>exact absurd hres (by simp)
   |next s=>
    refine⟨0,rfl,fun _=>⟨hk,fun i k hm=>?_⟩,fun _=>rfl⟩
    have hi:=h.len i k hm;simp only[Nat.zero_add]at hres
    refine⟨by omega,fun j x hj hx=>?_,fun x hx=>?_⟩
    ·exact((hres j _ (by omega) (hget j (by omega))) x hx).1
    ·have:=((hres i _ (by omega) (hget i (by omega))) x hx).2
     rwa [h.good hbad i k hm]at this
   |ret r=>
    obtain⟨rfl,k,x,hx,hno⟩:=hres
    refine⟨7,rfl,fun h=>by omega,fun ha=>absurd ?_ hno⟩
    intro y hy;have hkl:=(zg.1 hx).1;rcases h.last with h0|⟨k',hm⟩
    ·omega
    ·have hv:=(ha.args _ _ hm).2.1 k y (by omega) hy
     refine⟨hv,?_⟩
     by_cases hex:∃k2,(k,k2)∈ny q
     ·obtain⟨k2,hm2⟩:=hex
      have hg:=h.good hbad k k2 hm2
      have hxx:x=k2:=by
       rw[hget k hkl]at hx;rw[<-hg]
       exact(Option.some.inj hx).symm
      rw[hxx]
      exact(ha.args k k2 hm2).2.2 y hy
     ·left
      have:=h.zero k fun k2 hm2=>hex ⟨k2,hm2⟩
      rw[hget k hkl]at hx;rw[<-this]
      exact(Option.some.inj hx).symm
def Tot{α:Type}(o:Option α):Prop:=∃v,o=some v
theorem Tot.mk{α:Type}{v:α}:Tot (Option.some v):=⟨v,rfl⟩
theorem Tot.bind{α β:Type}{o:Option α}{k:α->Option β}(h:Tot o)(hk:∀v,o=some v->Tot (k v)):Tot (aa o k):=by
 obtain⟨v,hv⟩:=h
 rw[hv];exact hk v hv
theorem Tot.cond{α:Type}{b:Bool}{x y:Option α}(hx:b=true->Tot x)(hy:b=false->Tot y):Tot (cond b x y):=by
 cases b
 ·exact hy Z
 ·exact hx Z
theorem Tot.letP{α β:Type}{a:α}{k:α->Option β}(h:Tot (k a)):Tot (letP a k):=h
theorem Tot.get{α:Type}{xs:List α}{i:Int}(h0:0<=i)(h:i<xs.length):Tot (ax xs i):=by
 have:i.toNat<xs.length:=by omega
 exact⟨xs[i.toNat],ls h0 (ze this)⟩
theorem Tot.sub{α:Type}{xs:List α}{a b:Int}(h:0<=a/\a<=b/\b<=xs.length):Tot (oq xs a b):=⟨_,te h⟩
theorem Tot.range{α σ ρ:Type}{step:Nat->α->σ->Option (Flow σ ρ)}:∀(xs:List α) (j:Nat) (s:σ),(∀k x s,xs[k]? =some x->Tot (step (j+k) x s))->Tot (au step j xs s)
 |[],_,s,_=>⟨.next s,rfl⟩
 |x::xs,j,s,h=>by
  obtain⟨fl,hfl⟩:=h 0 x s Z
  rw[Nat.add_zero]at hfl;rw[au,hfl];cases fl with
  |next s'=>
   exact Tot.range xs (j+1) s' fun k y t hk=>by
    have:=h (k+1) y t (by simpa using hk)
    rwa [show j+(k+1)=j+1+k from by omega]at this
  |brk s'=>exact⟨_,rfl⟩
  |ret r=>exact⟨_,rfl⟩
theorem Tot.thenR{σ ρ:Type}{fl:Flow σ ρ}{k:σ->Option ρ}(h:∀s,(fl= .next s\/fl= .brk s)->Tot (k s)):Tot (fl.thenR k):=by
 cases fl with
 |next s=>exact h s (.inl Z)
 |brk s=>exact h s (.inr Z)
 |ret r=>exact⟨r,rfl⟩
theorem jk{a b:Int}(h:a≠b):(a !=b)=true:=by simpa using h
theorem iB{a b:Int}(h:a=b):(a !=b)=false:=by simp[h]
theorem ci{a b:Int}(h:a≠b):(a==b)=false:=by simpa using h
theorem jI{a b:Int}(h:a=b):(a==b)=true:=by simp[h]
theorem idxF{α:Type}{l:List α}{f:α->Option Bool}{p:α->Bool}(h:∀x∈l,f x=some (p x)):
  aa (au (σ:=Unit) (ρ:=Int) (fun(j1:Nat) (x1:α) (_:Unit)=>aa (f x1) fun x16=>cond x16 (some (.ret (j1:Int))) (some (.next ()))) 0 l ()) (fun fl1=>fl1.thenR fun(_:Unit)=>some (-1))=some (aL p l):=by
 rw[sU p (fun j _=>(j:Int)) l 0 (fun k x hk=>by
  rw[h x (cV hk),bPs];cases p x<;>simp)]
 unfold aL;cases hf:l.findIdx? p with
 |none=>rfl
 |some i=>
  have hi:=(List.findIdx?_eq_some_iff_getElem.1 hf).1;simp only[ze hi];simp
theorem idxF2{α:Type}{l:List α}{p:α->Bool}:
  aa (au (σ:=Unit) (ρ:=Int) (fun(j1:Nat) (x1:α) (_:Unit)=>cond (p x1) (some (.ret (j1:Int))) (some (.next ()))) 0 l ()) (fun fl1=>fl1.thenR fun(_:Unit)=>some (-1))=some (aL p l):=idxF (f:=fun x=>some (p x)) fun _ _=>rfl
theorem idxOf_neg{α:Type}{p:α->Bool}{l:List α}:aL p l=-1\/0<=aL p l:=by
 unfold aL;cases l.findIdx? p with
 |none=>exact .inl Z
 |some i=>exact .inr (by simp)
theorem jH{α:Type}{p:α->Bool}{l:List α}(h:0<=aL p l):∃x,l[(aL p l).toNat]? =some x/\p x=true:=by
 unfold aL at h⊢;cases hf:l.findIdx? p with
 |none=>rw[hf]at h;simp at h
 |some i=>
  obtain⟨hi,hp,_⟩:=List.findIdx?_eq_some_iff_getElem.1 hf
  exact⟨l[i],by simp[hi],hp⟩
theorem sq(l:List LTable)(p:LTable->Bool):ck l (fun a=>some (p a))=some (aL p l):=idxF fun _ _=>rfl
theorem uo(l:List LCol)(p:LCol->Bool):bf l (fun a=>some (p a))=some (aL p l):=idxF fun _ _=>rfl
theorem pz(s:LSchema)(name:Rb):dH s name=some (eu 0 (aL (fun t=>cd t name) s.tables),decide (aL (fun t=>cd t name) s.tables>=0)):=by
 unfold dH;rw[sq,bPs];congr 2;unfold eu;split<;>split<;>omega
theorem findColumn_eq(t:LTable)(name:Rb):iK t name=some (eu 0 (aL (fun c=>eY c name) t.columns),decide (aL (fun c=>eY c name) t.columns>=0)):=by
 unfold iK;rw[uo,bPs];congr 2;unfold eu;split<;>split<;>omega
theorem qe{n:Int}(h:0<=n):eu 0 n=n:=by unfold eu;split<;>omega
theorem uF(s:Rb):Tot (io s):=by
 unfold io;refine Tot.bind ?_ fun b hb=>?_
 ·refine Tot.cond (fun _=>Tot.mk) fun h1=>?_
  refine Tot.cond (fun _=>Tot.mk) fun h2=>?_
  have h1:=of_decide_eq_false h1;refine Tot.bind (Tot.get (by decide) (by omega)) fun x _=>?_
  refine Tot.cond (fun _=>?_) fun _=>Tot.mk
  exact Tot.bind (Tot.get (by decide) (by omega)) fun x _=>Tot.mk
 ·refine Tot.cond (fun _=>Tot.mk) fun h=>?_
  subst h
  have hl:(s.length:Int)<=12:=by
   by_cases h1:(s.length:Int)<1
   ·omega
   ·by_cases h2:(s.length:Int)>12
    ·rw[zf h1,zt h2]at hb;simp at hb
    ·omega
  refine Tot.bind ⟨(),dM (by omega)⟩ fun _ _=>?_
  refine Tot.bind (Tot.range _ _ _ fun k x _ _=>?_) fun fl _=>Tot.thenR fun _ _=>Tot.mk
  repeat' first|exact Tot.mk|refine Tot.cond (fun _=>?_) (fun _=>?_)
structure TableOk(t:LTable):Prop where
 pk:∀x∈t.primaryKey,0<=x/\x<t.columns.length
 six:t.columns.length<=6
 nn:∀(k:Nat) (x:Int),t.primaryKey[k]? =some x->(k:Int)<=x/\∀c,t.columns[x.toNat]? =some c->c.nullable=false
theorem TableOk.few{t:LTable}(h:TableOk t):t.primaryKey.length<=6:=by
 by_cases hc:t.primaryKey.length<=6
 ·exact hc
 ·have h6:t.primaryKey[6]? =some t.primaryKey[6]:=ze (by omega);have h1:=(h.nn 6 _ h6).1;have h2:=h.pk _ (List.mem_of_getElem? h6);have h3:=h.six;omega
theorem validTable(t:LTable)(hsm:t.primaryKey.length<=2^60):∃e,gL t=some e/\(e=0->TableOk t):=by
 unfold gL
 obtain⟨b,hb⟩:=uF t.name
 rw[hb,bPs];cases b with
 |false=>exact⟨23,rfl,fun h=>by omega⟩
 |true=>
  simp only[Bool.not_true,zd];by_cases h0:(t.columns.length:Int)=0
  ·exact⟨3,by simp[h0],fun h=>by omega⟩
  by_cases h6:(t.columns.length:Int)>6
  ·have:((t.columns.length:Int)==0)=false:=by simpa using h0
   exact⟨2,by rw[this];simp[h6],fun h=>by omega⟩
  have e0:((t.columns.length:Int)==0)=false:=by simpa using h0
  rw[e0,zf h6];simp only[zd]
  obtain⟨fl,hfl,hr⟩:=eI (step:=fun(j1:Nat) (x1:LCol) (_:Unit)=>
    aa (io x1.name) fun x31=>cond (!x31) (some (Flow.ret (σ:=Unit) (23:Int)))
     (aa (iK t x1.name) fun x37=>cond (decide (x37.1<(j1:Int))) (some (.ret 5)) (cond (decide (x1.kind<(1:Int))) (some (.ret 7)) (cond (decide (x1.kind>(3:Int))) (some (.ret 7)) (some (.next ())))))) (fun _ _=>True) (fun r=>r≠0) t.columns 0 () trivial (fun k x s hk _=>by
    obtain⟨b,hb⟩:=uF x.name
    rw[hb,bPs,findColumn_eq,bPs];cases b with
    |false=>exact⟨_,rfl,by simp⟩
    |true=>
     simp only[Bool.not_true,zd];by_cases a1:eu 0 (aL (fun c=>eY c x.name) t.columns)<((0+k:Nat):Int)
     ·exact⟨.ret 5,by rw[zt a1];rfl,by simp⟩
     ·rw[zf a1];by_cases a2:x.kind<1
      ·exact⟨.ret 7,by rw[zt a2];rfl,by simp⟩
      ·rw[zf a2];by_cases a3:x.kind>3
       ·exact⟨.ret 7,by rw[zt a3];rfl,by simp⟩
       ·exact⟨.next (),by rw[zf a3];rfl,trivial⟩)
  rw[hfl,bPs];cases fl with
  |brk s=>exact absurd hr (by simp)
  |ret r=>exact⟨r,rfl,fun h=>absurd h hr⟩
  |next s=>
   rw[fX]
   obtain⟨fl,hfl,hr⟩:=eI (step:=fun(j2:Nat) (x2:Int) (_:Unit)=>
     cond (decide (x2<(0:Int))) (some (Flow.ret (σ:=Unit) (9:Int))) (cond (decide (x2>=(t.columns.length:Int))) (some (.ret 9))
      (aa (ax t.columns x2) fun(x73:LCol)=>cond x73.nullable (some (.ret 9)) (cond (decide ((j2:Int)>(0:Int)))
       (aa (ax t.primaryKey (Iw ((j2:Int)-(1:Int)))) fun(x86:Int)=>cond (decide (x2<=x86)) (some (.ret 9)) (some (.next ()))) (some (.next ())))))) (fun j _=>∀(k:Nat) (x:Int),k<j->t.primaryKey[k]? =some x->(0<=x/\x<t.columns.length)/\(k:Int)<=x/\∀c,t.columns[x.toNat]? =some c->c.nullable=false) (fun r=>r≠0) t.primaryKey 0 () (fun k x h=>by omega) (fun k x s hk hI=>by
     simp only[Nat.zero_add]at hI⊢;by_cases a1:x<0
     ·exact⟨.ret 9,by rw[zt a1];rfl,by simp⟩
     rw[zf a1];by_cases a2:x>=(t.columns.length:Int)
     ·exact⟨.ret 9,by rw[zt a2];rfl,by simp⟩
     rw[zf a2];simp only[zd]
     obtain⟨c,hc⟩:=Tot.get (xs:=t.columns) (i:=x) (by omega) (by omega)
     rw[hc,bPs]
     have next:c.nullable=false->(k:Int)<=x->∀(k':Nat) (x':Int),k'<k+1->t.primaryKey[k']? =some x'->(0<=x'/\x'<t.columns.length)/\(k':Int)<=x'/\∀c,t.columns[x'.toNat]? =some c->c.nullable=false:=fun hn hkx k' x' h1 h2=>by
      by_cases he:k'=k
      ·subst he;rw[hk]at h2;cases h2;exact⟨by omega,hkx,fun c' hc'=>by rw[(gIs hc).2]at hc';cases hc';exact hn⟩
      ·exact hI k' x' (by omega) h2
     cases hn:c.nullable with
     |true=>exact⟨_,rfl,by simp⟩
     |false=>
      simp only[zd];by_cases a3:(k:Int)>0
      ·rw[zt a3];have hkl:=(zg.1 hk).1;rw[Ww (by omega) (by omega)]
       obtain⟨y,hy⟩:=Tot.get (xs:=t.primaryKey) (i:=(k:Int)-1) (by omega) (by omega)
       rw[zc,hy,bPs];by_cases a4:x<=y
       ·exact⟨.ret 9,by rw[zt a4];rfl,by simp⟩
       ·refine⟨.next (),by rw[zf a4];rfl,next hn ?_⟩
        have hy2:=(gIs hy).2;rw[show((k:Int)-1).toNat=k-1 from by omega]at hy2
        have:=(hI (k-1) y (by omega) hy2).2.1
        omega
      ·exact⟨.next (),by rw[zf a3];rfl,next hn (by omega)⟩)
   rw[hfl,bPs];cases fl with
   |brk s=>exact absurd hr (by simp)
   |ret r=>exact⟨r,rfl,fun h=>absurd h hr⟩
   |next s=>
    rw[fX];simp only[Nat.zero_add]at hr;by_cases hp:(t.primaryKey.length:Int)=0
    ·exact⟨9,by simp[hp],fun h=>by omega⟩
    ·have:((t.primaryKey.length:Int)==0)=false:=by simpa using hp
     refine⟨0,by rw[this];rfl,fun _=>⟨fun x hx=>?_,by omega,fun k x hk=>(hr k x (zg.1 hk).1 hk).2⟩⟩
     obtain⟨k,hk,rfl⟩:=List.mem_iff_getElem.1 hx
     exact(hr k _ hk (ze hk)).1
theorem dG{α:Type}{xs:List α}{k:Nat}(h:k<xs.length):ax xs (k:Int)=some xs[k]:=gp (ze h)
theorem foreignKey_tot{s:LSchema}(hs:∀t∈s.tables,TableOk t)(fk:LF):Tot (gc s fk):=by
 unfold gc;rw[pz,pz];simp only[bPs,aX];generalize hi:aL (fun t=>cd t fk.table) s.tables=i;generalize hj:aL (fun t=>cd t fk.refTable) s.tables=j;by_cases h1:i>=0
 ·by_cases h2:j>=0
  ·rw[zt h1,zt h2];simp only[Bool.not_true,zd];rw[qe h1,qe h2]
   obtain⟨t,ht,_⟩:=jH (hi▸h1)
   obtain⟨u,hu,_⟩:=jH (hj▸h2)
   rw[hi]at ht;rw[hj]at hu;rw[ls h1 ht,ls h2 hu];simp only[bPs];refine Tot.cond (fun _=>Tot.mk) fun hl=>?_
   have hl:fk.columns.length=u.primaryKey.length:=by
    by_cases h:(fk.columns.length:Int)=(u.primaryKey.length:Int)
    ·omega
    ·simp[h]at hl
   refine Tot.bind (Tot.range _ _ _ fun k x st hk=>?_) fun fl _=>Tot.thenR fun _ _=>Tot.mk
   have hkl:=(zg.1 hk).1;by_cases a1:x<0
   ·rw[zt a1];exact Tot.mk
   ·rw[zf a1];by_cases a2:x>=(t.columns.length:Int)
    ·rw[zt a2];exact Tot.mk
    ·rw[zf a2];simp only[zd]
     obtain⟨c,hc⟩:=Tot.get (xs:=t.columns) (i:=x) (by omega) (by omega)
     rw[hc,bPs,Nat.zero_add,dG (by omega),bPs];have hp:=(hs u (cV hu)).pk u.primaryKey[k] (List.getElem_mem _)
     obtain⟨d,hd⟩:=Tot.get (xs:=u.columns) (i:=u.primaryKey[k]) hp.1 hp.2
     rw[hd,bPs];exact Tot.cond (fun _=>Tot.mk) fun _=>Tot.mk
  ·rw[zf h2];simp only[Bool.not_false];cases decide (i>=0)<;>exact Tot.mk
 ·rw[zf h1];exact Tot.mk
theorem constraint_tot(s:LSchema)(c:LK):Tot (gd s c):=by
 unfold gd;rw[pz];simp only[bPs,aX];generalize hi:aL (fun t=>cd t c.table) s.tables=i;by_cases h1:i>=0
 ·rw[zt h1];simp only[Bool.not_true,zd];rw[qe h1]
  obtain⟨t,ht,_⟩:=jH (hi▸h1)
  rw[hi]at ht;rw[ls h1 ht,bPs];refine Tot.cond (fun _=>Tot.mk) fun hl=>?_
  by_cases a1:c.left<0
  ·rw[zt a1]at hl;cases hl
  rw[zf a1,zd]at hl;by_cases a2:c.left>=(t.columns.length:Int)
  ·rw[zt a2]at hl;cases hl
  rw[zf a2,zd]at hl
  obtain⟨x,hx⟩:=Tot.get (xs:=t.columns) (i:=c.left) (by omega) (by omega)
  rw[hx];refine Tot.cond (fun a3=>?_) fun _=>?_
  ·have a3:=of_decide_eq_true a3
   have a4:c.right<(t.columns.length:Int):=by
    rcases Int.lt_or_le c.right (t.columns.length:Int)with h|h
    ·exact h
    ·have e:decide (c.right>=(t.columns.length:Int))=true:=zt h;rw[e]at hl;revert hl
     cases((jB (LVal.mk 0 0 []) c.op (LVal.mk 0 0 [])).2 !=0)<;>cases decide (c.right< -1)<;>simp
   obtain⟨y,hy⟩:=Tot.get (xs:=t.columns) (i:=c.right) a3 a4
   rw[hy];simp only[bPs];exact Tot.cond (fun _=>Tot.mk) fun _=>Tot.mk
  ·rw[bPs];exact Tot.cond (fun _=>Tot.mk) fun _=>Tot.mk
 ·rw[zf h1];exact Tot.mk
theorem equalInts_tot(a b:List Int):Tot (iw a b):=by
 unfold iw;refine Tot.cond (fun _=>Tot.mk) fun h=>?_
 have h:a.length=b.length:=by
  by_cases h':(a.length:Int)=(b.length:Int)
  ·omega
  ·simp[h']at h
 refine Tot.bind (Tot.range _ _ _ fun k x s hk=>?_) fun fl _=>Tot.thenR fun _ _=>Tot.mk
 have hkl:=(zg.1 hk).1;rw[Nat.zero_add,dG (by omega),bPs];exact Tot.cond (fun _=>Tot.mk) fun _=>Tot.mk
theorem fkIn_tot(l:List LF)(x:LF):Tot (cj l (fun a0=>iI a0 x)):=by
 unfold cj dA;refine Tot.bind (Tot.bind (Tot.range _ _ _ fun k y s hk=>?_) fun fl _=>Tot.thenR fun _ _=>Tot.mk) fun _ _=>Tot.mk
 refine Tot.bind ?_ fun _ _=>Tot.cond (fun _=>Tot.mk) fun _=>Tot.mk
 unfold iI;refine Tot.bind ?_ fun _ _=>Tot.mk
 unfold ji;refine Tot.cond (fun _=>Tot.bind (equalInts_tot _ _) fun _ _=>Tot.cond (fun _=>Tot.mk) fun _=>Tot.mk) fun _=>Tot.mk
theorem csIn_tot(l:List LK)(x:LK):Tot (cw l x):=by
 unfold cw dQ;refine Tot.bind (Tot.bind (Tot.range _ _ _ fun k y s hk=>?_) fun fl _=>Tot.thenR fun _ _=>Tot.mk) fun _ _=>Tot.mk
 exact Tot.cond (fun _=>Tot.mk) fun _=>Tot.mk
def pi(s:LSchema):Prop:=∀t∈s.tables,t.primaryKey.length<=10000000
theorem validate_inv{s:LSchema}(hsm:∀t∈s.tables,t.primaryKey.length<=2^60):∃e,gS s=some e/\(e=0->s.tables.length<=6/\∀t∈s.tables,TableOk t):=by
 unfold gS;rw[aX];cases ht:(cond (decide ((s.tables.length:Int)>(6:Int))) true (cond (decide ((s.foreignKeys.length:Int)>(8:Int))) true (decide ((s.constraints.length:Int)>(8:Int)))))with
 |true=>exact⟨2,rfl,fun h=>by omega⟩
 |false=>
 rw[zd]
 have h6:s.tables.length<=6:=by
  by_cases h:(s.tables.length:Int)>6
  ·rw[zt h]at ht;cases ht
  ·omega
 obtain⟨fl,hfl,hr⟩:=eI (step:=fun(j2:Nat) (x2:LTable) (_:Unit)=>
   aa (gL x2) fun x37=>cond (x37 !=(0:Int)) (some (Flow.ret (σ:=Unit) x37)) (cond (decide ((j2:Int)>(0:Int)))
     (aa (ax s.tables (Iw ((j2:Int)-(1:Int)))) fun(x50:LTable)=>cond (Op.bytesLess x2.name x50.name||x2.name==x50.name) (some (.ret 6)) (some (.next ()))) (some (.next ())))) (fun j _=>∀k x,k<j->s.tables[k]? =some x->TableOk x) (fun r=>r≠0) s.tables 0 () (fun k x h=>by omega) (fun k x st hk hI=>by
    simp only[Nat.zero_add]at hI⊢
    obtain⟨e,he,hok⟩:=validTable x (hsm x (cV hk))
    rw[he,bPs];by_cases h0:e=0
    ·have next:∀k' x',k'<k+1->s.tables[k']? =some x'->TableOk x':=fun k' x' h1 h2=>by
      by_cases heq:k'=k
      ·subst heq;rw[hk]at h2;cases h2;exact hok h0
      ·exact hI k' x' (by omega) h2
     rw[show(e !=(0:Int))=false from by simp[h0],zd];by_cases a3:(k:Int)>0
     ·have hkl:=(zg.1 hk).1;rw[zt a3,Ww (by omega) (by omega)]
      obtain⟨y,hy⟩:=Tot.get (xs:=s.tables) (i:=(k:Int)-1) (by omega) (by omega)
      rw[zc,hy,bPs]
      cases(Op.bytesLess x.name y.name||x.name==y.name)with
      |true=>exact⟨.ret 6,rfl,by simp⟩
      |false=>exact⟨.next (),rfl,next⟩
     ·exact⟨.next (),by rw[zf a3];rfl,next⟩
    ·exact⟨.ret e,by rw[show(e !=(0:Int))=true from by simp[h0]];rfl,h0⟩)
 rw[hfl,bPs];cases fl with
 |brk s=>exact absurd hr (by simp)
 |ret r=>exact⟨r,rfl,fun h=>absurd h hr⟩
 |next u=>
  rw[fX];simp only[Nat.zero_add]at hr
  have hok:∀t∈s.tables,TableOk t:=fun t ht=>by
   obtain⟨k,hk,rfl⟩:=List.mem_iff_getElem.1 ht
   exact hr k _ hk (ze hk)
  refine(show∀{o:Option Int},Tot o->∃e,o=some e/\(e=0->s.tables.length<=6/\∀t∈s.tables,TableOk t)from fun⟨e,h⟩=>⟨e,h,fun _=>⟨h6,hok⟩⟩) ?_
  refine Tot.bind (Tot.range _ _ _ fun k x st hk=>?_) fun fl _=>Tot.thenR fun _ _=>?_
  ·refine Tot.bind (foreignKey_tot hok x) fun e _=>Tot.cond (fun _=>Tot.mk) fun _=>?_
   have hkl:=(zg.1 hk).1;refine Tot.bind (Tot.sub ⟨by omega,by omega,by omega⟩) fun l _=>?_
   exact Tot.bind (fkIn_tot l x) fun _ _=>Tot.cond (fun _=>Tot.mk) fun _=>Tot.mk
  ·refine Tot.bind (Tot.range _ _ _ fun k x st hk=>?_) fun fl _=>Tot.thenR fun _ _=>Tot.mk
   refine Tot.bind (constraint_tot s x) fun e _=>Tot.cond (fun _=>Tot.mk) fun _=>?_
   have hkl:=(zg.1 hk).1;refine Tot.bind (Tot.sub ⟨by omega,by omega,by omega⟩) fun l _=>?_
   exact Tot.bind (csIn_tot l x) fun _ _=>Tot.cond (fun _=>Tot.mk) fun _=>Tot.mk
def oD(cols:List LCol)(row:Rq):Prop:=row.length=cols.length/\∀(i:Nat) (c:LCol) (x:LVal),cols[i]? =some c->row[i]? =some x->FitsK x c.kind c.nullable
theorem validate_valid{v:LVal}(h:da v=0):kY v=true:=by
 obtain⟨k,n,t⟩:=v
 unfold da letP at h;unfold kY;by_cases k0:k=0
 ·subst k0;by_cases hn:n=0
  ·subst hn;cases t with
   |nil=>rfl
   |cons c t=>simp at h
  ·simp[jk hn]at h
 ·have e0:(k==(0:Int))=false:=by simpa using k0
  simp only[e0,zd]at h;by_cases k1:k=1
  ·subst k1;cases t with
   |cons c t=>simp at h
   |nil=>
    by_cases a:n< -1000000000000
    ·simp[a]at h
    ·by_cases b:n>1000000000000
     ·simp[a,b]at h
     ·simp;omega
  ·by_cases k2:k=2
   ·subst k2;cases t with
    |cons c t=>simp at h
    |nil=>
     by_cases a:n=0
     ·simp[a]
     ·by_cases b:n=1
      ·simp[b]
      ·simp[jk a,jk b]at h
   ·by_cases k3:k=3
    ·subst k3;by_cases a:n=0
     ·subst a;by_cases b:(t.length:Int)>24
      ·simp[b]at h
      ·simp;omega
     ·simp[jk a]at h
    ·have e1:(k==(1:Int))=false:=by simpa using k1
     have e2:(k==(2:Int))=false:=by simpa using k2
     have e3:(k==(3:Int))=false:=by simpa using k3
     simp[e1,e2,e3]at h
theorem sS(t:LTable)(row:Rq):∃e,dC t row=some e/\(e=0->oD t.columns row):=by
 unfold dC;by_cases hl:(row.length:Int)=(t.columns.length:Int)
 ·have hl':row.length=t.columns.length:=by omega
  rw[show((row.length:Int) !=(t.columns.length:Int))=false from by simp[hl],zd]
  obtain⟨fl,hfl,hr⟩:=eI (step:=fun(j1:Nat) (x1:LVal) (_:Unit)=>letP (da x1) fun x22=>cond (x22 !=(0:Int)) (some (Flow.ret (σ:=Unit) x22))
    (aa (cond (x1.kind==(0:Int)) (aa (ax t.columns (j1:Int)) fun(x33:LCol)=>some (!x33.nullable)) (some false)) fun(t3:Bool)=>cond t3 (some (.ret 8))
     (cond (x1.kind !=(0:Int)) (aa (ax t.columns (j1:Int)) fun(x47:LCol)=>cond (x1.kind !=x47.kind) (some (.ret 7)) (some (.next ()))) (some (.next ())))))
   (fun j _=>∀(k:Nat) (c:LCol) (x:LVal),k<j->t.columns[k]? =some c->row[k]? =some x->FitsK x c.kind c.nullable) (fun r=>r≠0) row 0 () (fun k c x h=>by omega) (fun k x st hk hI=>by
    simp only[Nat.zero_add]at hI⊢;have hkl:=(zg.1 hk).1;rw[aX,dG (xs:=t.columns) (by omega)];by_cases hv:da x=0
    ·rw[show(da x !=(0:Int))=false from by simp[hv],zd];have hvv:=validate_valid hv
     have next:FitsK x t.columns[k].kind t.columns[k].nullable->∀(k':Nat) (c:LCol) (x':LVal),k'<k+1->t.columns[k']? =some c->row[k']? =some x'->FitsK x' c.kind c.nullable:=fun hf k' c x' h1 h2 h3=>by
      by_cases heq:k'=k
      ·subst heq;rw[hk]at h3;rw[ze (by omega)]at h2;cases h2;cases h3;exact hf
      ·exact hI k' c x' (by omega) h2 h3
     by_cases hx:x.kind=0
     ·rw[show(x.kind==(0:Int))=true from by simp[hx],zc,bPs,bPs];cases hn:t.columns[k].nullable with
      |false=>exact⟨.ret 8,rfl,by simp⟩
      |true=>exact⟨.next (),by simp[hx],next ⟨hvv,.inr hx,fun _=>hn⟩⟩
     ·rw[show(x.kind==(0:Int))=false from by simp[hx],zd,bPs,zd,show(x.kind !=(0:Int))=true from by simp[hx],zc,bPs];by_cases hk':x.kind=t.columns[k].kind
      ·exact⟨.next (),by rw[iB hk'];rfl,next ⟨hvv,.inl hk',fun h=>absurd h hx⟩⟩
      ·exact⟨.ret 7,by rw[jk hk'];rfl,by simp⟩
    ·exact⟨.ret (da x),by rw[show(da x !=(0:Int))=true from by simp[hv]];rfl,hv⟩)
  rw[hfl,bPs];cases fl with
  |brk s=>exact absurd hr (by simp)
  |ret r=>exact⟨r,rfl,fun h=>absurd h hr⟩
  |next s=>
   simp only[Nat.zero_add]at hr
   exact⟨0,rfl,fun _=>⟨hl',fun i c x hc hx=>hr i c x (zg.1 hx).1 hc hx⟩⟩
 ·exact⟨3,by rw[show((row.length:Int) !=(t.columns.length:Int))=true from by simp[hl]];rfl,fun h=>by omega⟩
theorem vF(t:LTable)(row:Rq)(hsm:t.primaryKey.length<=10000000):∃k,cu t row=some k/\k.length=t.primaryKey.length:=by
 unfold cu
 obtain⟨fl,hfl,hr⟩:=eI (step:=fun(_:Nat) (x1:Int) (s1:Rq)=>
  letP (cond (decide (x1>=(0:Int))) ((decide (x1<(row.length:Int)))) (false)) fun(t6:Bool)=>
  aa (cond t6 (aa (ax row x1) fun(x27:LVal)=>some x27) (some (LVal.mk 0 0 []))) fun(t7:LVal)=>
  aa (cE 32 s1 ([t7]:Rq)) fun(x32:Rq)=>some (Flow.next (ρ:=Empty) x32)) (fun j s=>s.length=j) (fun _=>False) t.primaryKey 0 ([]:Rq) Z (fun k x s hk hI=>by
   have hI:s.length=k:=by simpa using hI
   have hkl:=(zg.1 hk).1;rw[aX]
   have ht:∃v,(cond (cond (decide (x>=(0:Int))) ((decide (x<(row.length:Int)))) (false)) (aa (ax row x) fun(x27:LVal)=>some x27) (some (LVal.mk 0 0 [])))=some v:=by
    refine Tot.cond (fun h=>?_) fun _=>Tot.mk
    by_cases h0:x>=0
    ·rw[zt h0]at h;exact Tot.bind (Tot.get h0 (of_decide_eq_true h)) fun _ _=>Tot.mk
    ·rw[zf h0]at h;cases h
   obtain⟨v,hv⟩:=ht
   rw[hv,bPs,aS (by decide) (by simp;omega),bPs]
   exact⟨_,rfl,by simp[hI]⟩)
 rw[hfl,bPs];cases fl with
 |brk s=>exact absurd hr (by simp)
 |ret r=>exact r.elim
 |next s=>exact⟨s,rfl,by simpa using hr⟩
theorem oT(a b:Rq)(ha:a.length<=10000000):Tot (bM a b):=by
 unfold bM
 have hm:∃n:Nat,(if(b.length:Int)<(a.length:Int)then(b.length:Int)else(a.length:Int))=(n:Int)/\n<=a.length/\n<=b.length:=by
  split
  ·exact⟨b.length,rfl,by omega,by omega⟩
  ·exact⟨a.length,rfl,by omega,by omega⟩
 obtain⟨n,hn,h1,h2⟩:=hm
 rw[hn,lD (by omega),bPs];refine Tot.bind (Tot.range _ _ _ fun k x s hk=>?_) fun fl _=>Tot.thenR fun _ _=>Tot.mk
 have hkl:=(zg.1 hk).1;simp at hkl;rw[Nat.zero_add,dG (by omega),dG (by omega)];simp only[bPs,aX];exact Tot.cond (fun _=>Tot.mk) fun _=>Tot.mk
def KeyOrd(t:LTable)(rows:Rz):Prop:=∀(i:Nat) (p row:Rq),rows[i]? =some p->rows[i+1]? =some row->∃k1 k2 z,cu t p=some k1/\cu t row=some k2/\bM k1 k2=some z/\z<0
structure InstOk(s:LSchema)(st:List LW):Prop where
 len:st.length=s.tables.length
 ord:∀(i:Nat) (r:LW) (t:LTable),st[i]? =some r->s.tables[i]? =some t->KeyOrd t r.rows
 tab:∀(i:Nat) (r:LW) (t:LTable),st[i]? =some r->s.tables[i]? =some t->r.table=t.name/\r.rows.length<=24/\∀row∈r.rows,oD t.columns row
theorem conforms{s:LSchema}(hsm:pi s)(st:List LW):∃e,du s st=some e/\(e=0->InstOk s st):=by
 unfold du;by_cases hl:(st.length:Int)=(s.tables.length:Int)
 ·have hl':st.length=s.tables.length:=by omega
  rw[show((st.length:Int) !=(s.tables.length:Int))=false from by simp[hl],zd]
  let good:LW->LTable->Prop:=fun r t=>(r.table=t.name/\r.rows.length<=24/\∀row∈r.rows,oD t.columns row)/\KeyOrd t r.rows
  obtain⟨fl,hfl,hr⟩:=eI (step:=fun(j1:Nat) (x1:LW) (_:Unit)=>
   aa (ax s.tables (j1:Int)) fun(x28:LTable)=>
   cond (!(x1.table==x28.name)) (some (Flow.ret (σ:=Unit) (3:Int))) (cond (decide ((x1.rows.length:Int)>(24:Int))) (some (.ret 2))
     (aa (au (σ:=Unit) (ρ:=(Int)) (fun(j3:Nat) (x3:Rq) (_:Unit)=>
      aa (dC x28 x3) fun x49=>cond (x49 !=(0:Int)) (some (.ret x49)) (cond ((j3:Int)==(0:Int)) (some (.next ()))
        (aa (ax x1.rows (Iw ((j3:Int)-(1:Int)))) fun(x60:Rq)=>aa (cu x28 x60) fun x62=>aa (cu x28 x3) fun x65=>aa (bM x62 x65) fun x66=>
        cond (x66==(0:Int)) (some (.ret 9)) (cond (decide (x66>(0:Int))) (some (.ret 6)) (some (.next ())))))) 0 x1.rows ()) fun fl3=>fl3.thenF fun(_:Unit)=>some (.next ()))))
   (fun j _=>∀(k:Nat) (r:LW) (t:LTable),k<j->st[k]? =some r->s.tables[k]? =some t->good r t) (fun r=>r≠0) st 0 () (fun k r t h=>by omega) (fun k r u hk hI=>by
    simp only[Nat.zero_add]at hI⊢;have hkl:=(zg.1 hk).1;have hkt:k<s.tables.length:=by omega
    rw[dG hkt,bPs];by_cases hn:r.table=s.tables[k].name
    ·rw[show(!(r.table==s.tables[k].name))=false from by simp[hn],zd];by_cases h24:(r.rows.length:Int)>24
     ·exact⟨.ret 2,by rw[zt h24];rfl,by simp⟩
     ·rw[zf h24,zd];have hsk:=hsm s.tables[k] (List.getElem_mem _)
      obtain⟨fl,hfl,hr⟩:=eI (step:=fun(j3:Nat) (x3:Rq) (_:Unit)=>
       aa (dC s.tables[k] x3) fun x49=>cond (x49 !=(0:Int)) (some (Flow.ret (σ:=Unit) x49)) (cond ((j3:Int)==(0:Int)) (some (.next ()))
        (aa (ax r.rows (Iw ((j3:Int)-(1:Int)))) fun(x60:Rq)=>aa (cu s.tables[k] x60) fun x62=>aa (cu s.tables[k] x3) fun x65=>aa (bM x62 x65) fun x66=>
        cond (x66==(0:Int)) (some (.ret 9)) (cond (decide (x66>(0:Int))) (some (.ret 6)) (some (.next ())))))) (fun j _=>(∀i row,i<j->r.rows[i]? =some row->oD s.tables[k].columns row)/\∀(i:Nat) (p row:Rq),i+1<j->r.rows[i]? =some p->r.rows[i+1]? =some row->∃k1 k2 z,cu s.tables[k] p=some k1/\cu s.tables[k] row=some k2/\bM k1 k2=some z/\z<0) (fun r=>r≠0) r.rows 0 () ⟨fun i row h=>by omega,fun i p row h=>by omega⟩ (fun i row u hi hI2=>by
        simp only[Nat.zero_add]at hI2⊢;have hil:=(zg.1 hi).1
        obtain⟨e,he,hok⟩:=sS s.tables[k] row
        rw[he,bPs];by_cases h0:e=0
        ·rw[show(e !=(0:Int))=false from by simp[h0],zd]
         have next:∀i' row',i'<i+1->r.rows[i']? =some row'->oD s.tables[k].columns row':=fun i' row' h1 h2=>by
          by_cases heq:i'=i
          ·subst heq;rw[hi]at h2;cases h2;exact hok h0
          ·exact hI2.1 i' row' (by omega) h2
         by_cases hi0:i=0
         ·exact⟨.next (),by simp[hi0],next,fun i' p row' h1=>by omega⟩
         ·rw[show((i:Int)==(0:Int))=false from by simp;omega,zd,Ww (by omega) (by omega)]
          obtain⟨p,hp⟩:=Tot.get (xs:=r.rows) (i:=(i:Int)-1) (by omega) (by omega)
          obtain⟨k1,hk1,hl1⟩:=vF s.tables[k] p hsk
          obtain⟨k2,hk2,_⟩:=vF s.tables[k] row hsk
          obtain⟨z,hz⟩:=oT k1 k2 (by omega)
          rw[hp,bPs,hk1,bPs,hk2,bPs,hz,bPs];by_cases z0:z=0
          ·exact⟨.ret 9,by rw[jI z0];rfl,by simp⟩
          ·by_cases z1:z>0
           ·exact⟨.ret 6,by rw[ci z0,zt z1];rfl,by simp⟩
           ·refine⟨.next (),by rw[ci z0,zf z1];rfl,next,fun i' p' row' h1 h2 h3=>?_⟩
            by_cases heq:i'+1=i
            ·subst heq;rw[hi]at h3;cases h3;have hp':=(gIs hp).2;rw[show(((i'+1:Nat):Int)-1).toNat=i' from by omega,h2]at hp';cases hp'
             exact⟨k1,k2,z,hk1,hk2,hz,by omega⟩
            ·exact hI2.2 i' p' row' (by omega) h2 h3
        ·exact⟨.ret e,by rw[show(e !=(0:Int))=true from by simp[h0]];rfl,h0⟩)
      rw[hfl,bPs];cases fl with
      |brk s=>exact absurd hr (by simp)
      |ret e=>exact⟨.ret e,rfl,hr⟩
      |next s'=>
       simp only[Nat.zero_add]at hr
       refine⟨.next (),rfl,fun k' r' t' h1 h2 h3=>?_⟩
       by_cases heq:k'=k
       ·subst heq;rw[hk]at h2;rw[ze hkt]at h3;cases h2;cases h3
        refine⟨⟨hn,by omega,fun row hrow=>?_⟩,fun i p row h2 h3=>hr.2 i p row (zg.1 h3).1 h2 h3⟩
        obtain⟨i,hi,rfl⟩:=List.mem_iff_getElem.1 hrow
        exact hr.1 i _ hi (ze hi)
       ·exact hI k' r' t' (by omega) h2 h3
    ·exact⟨.ret 3,by rw[show(!(r.table==s.tables[k].name))=true from by simp[hn]];rfl,by simp⟩)
  rw[hfl,bPs];cases fl with
  |brk s=>exact absurd hr (by simp)
  |ret r=>exact⟨r,rfl,fun h=>absurd h hr⟩
  |next u=>
   simp only[Nat.zero_add]at hr
   exact⟨0,rfl,fun _=>⟨hl',fun i r t h1 h2=>(hr i r t (zg.1 h1).1 h1 h2).2,fun i r t h1 h2=>(hr i r t (zg.1 h1).1 h1 h2).1⟩⟩
 ·exact⟨3,by rw[show((st.length:Int) !=(s.tables.length:Int))=true from by simp[hl]];rfl,fun h=>by omega⟩
theorem vb(l:List Int)(v:Int):ew l v=some (l.any fun x=>v==x):=by
 unfold ew jL;rw[idxF2 (p:=fun x=>v==x),bPs,kl]
theorem shape1(l:List Int)(q:LQuery):ek l q=some (l.any fun x=>q.kind==x):=by
 unfold ek;rw[vb,bPs]
def ru(k:Int):Nat:=if k=1 then 0 else if k=4\/k=5\/k=6\/k=7 then 2 else 1
def nQ(q:LQuery):Bool:=
 decide (1<=q.kind)&&decide (q.kind<=10)&&decide (q.inputs.length=ru q.kind)&&(q.kind==1||q.table==[])&&(q.kind==3||q.kind==8||decide (q.names.length=0))&&
 (q.kind==8||decide (q.aggregates.length=0))&&(q.kind==9||decide (q.descending.length=0))&&(q.kind==10||(q.count==0&&q.offset==0))&&
 (if q.kind=2\/q.kind=4\/q.kind=5 then decide (q.exprs.length=1)
  else if q.kind=3\/q.kind=8 then decide (q.exprs.length=q.names.length)&&decide (0<q.exprs.length+q.aggregates.length)
  else if q.kind=9 then decide (q.exprs.length=q.descending.length)&&decide (0<q.exprs.length)
  else if q.kind=10 then decide (q.exprs.length=0)&&decide (q.count>=0)&&decide (q.offset>=0)
  else decide (q.exprs.length=0))
theorem natE(a b:Nat):((a:Int)==(b:Int))=decide (a=b):=by
 by_cases h:a=b
 ·simp[h]
 ·rw[zf h];exact ci (by omega)
theorem natNE(a b:Nat):((a:Int) !=(b:Int))= !decide (a=b):=by rw[bne,natE]
theorem natPos(a:Nat):decide ((a:Int)>0)= !decide (a=0):=by
 by_cases h:a=0
 ·simp[h]
 ·rw[zf h,zt (by omega)];rfl
theorem condSome{α:Type}(b:Bool)(x y:α):(cond b (some x) (some y))=some (cond b x y):=by cases b<;>rfl
theorem shape_eq(q:LQuery)(hs:q.exprs.length<=10000000/\q.aggregates.length<=10000000):mB q=some (nQ q):=by
 unfold mB;simp only[shape1,bPs];by_cases k0:q.kind<1
 ·rw[zt k0];simp[nQ,show ¬(1<=q.kind)from by omega]
 rw[zf k0];by_cases k10:q.kind>10
 ·rw[zt k10];simp[nQ,show ¬(q.kind<=10)from by omega]
 rw[zf k10];have hw:Iw ((q.exprs.length:Int)+(q.aggregates.length:Int))=((q.exprs.length+q.aggregates.length:Nat):Int):=by rw[Ww (by omega) (by omega)];simp
 rw[hw];have hk:q.kind=1\/q.kind=2\/q.kind=3\/q.kind=4\/q.kind=5\/q.kind=6\/q.kind=7\/q.kind=8\/q.kind=9\/q.kind=10:=by omega
 unfold nQ;have e0:∀n:Nat,((n:Int)==0)=decide (n=0):=fun n=>natE n 0
 have e1:∀n:Nat,((n:Int)==1)=decide (n=1):=fun n=>natE n 1
 have n0:∀n:Nat,((n:Int) !=0)= !decide (n=0):=fun n=>natNE n 0
 have n1:∀n:Nat,((n:Int) !=1)= !decide (n=1):=fun n=>natNE n 1
 have n2:∀n:Nat,((n:Int) !=2)= !decide (n=2):=fun n=>natNE n 2
 have c0:(q.count !=0)= !(q.count==0):=rfl;have o0:(q.offset !=0)= !(q.offset==0):=rfl;have p0:decide (0<q.exprs.length)= !decide (q.exprs.length=0):=by rw[<-natPos];simp
 have p1:decide (0<q.exprs.length+q.aggregates.length)= !decide (q.exprs.length+q.aggregates.length=0):=by rw[<-natPos];simp;omega
 simp only[natPos,natE,e0,e1,c0,o0,p0,p1]
 generalize(q.table==[])=b1
 generalize decide (q.names.length=0)=b2;generalize decide (q.aggregates.length=0)=b3;generalize decide (q.descending.length=0)=b4
 generalize(q.count==0)=b5
 generalize(q.offset==0)=b6
 generalize decide (q.exprs.length=1)=b7;generalize decide (q.exprs.length=q.names.length)=b8;generalize decide (q.exprs.length+q.aggregates.length=0)=b9;generalize decide (q.exprs.length=q.descending.length)=b10;generalize decide (q.exprs.length=0)=b11;generalize decide (q.count>=0)=b12;generalize decide (q.offset>=0)=b13;generalize hL:q.inputs.length=L;rcases hk with h|h|h|h|h|h|h|h|h|h<;>rw[h]
 all_goals simp only[ru,ax,n0,n1,n2]
 all_goals simp[n0,n1,n2,condSome,Bool.and_assoc]
def e0Q(q:LQuery):LExpr:=q.exprs.headD (.mk 1 [] 0 .nul [])
def ld(a b:List LCol)(left:Bool):List LCol:=a++b.map fun x=>⟨x.name,x.kind,x.nullable||left⟩
def mH(kind:Int)(a b:List LCol):List LCol×Int:=
 if a.length=b.length/\a.map LCol.kind=b.map LCol.kind then(List.zipWith (fun x y=>⟨x.name,x.kind,x.nullable||(kind==6&&y.nullable)⟩) a b,0)else([],7)
def cS(vars cols:List LCol):List LExpr->Rs->List LCol×Int
 |e::es,n::ns=>if eE n=false then([],3)else if(fI cols vars e).2.2≠0 then([],(fI cols vars e).2.2)else if(fI cols vars e).1=0 then([],7)
  else if(cS vars cols es ns).2≠0 then([],(cS vars cols es ns).2)else(⟨n,(fI cols vars e).1,(fI cols vars e).2.1⟩::(cS vars cols es ns).1,0)
 |_,_=>([],0)
abbrev mC:Rb:=[99,111,117,110,116]
abbrev sSum:Rb:=[115,117,109]
abbrev sMin:Rb:=[109,105,110]
abbrev sMax:Rb:=[109,97,120]
def aggQ(vars cols:List LCol)(a:LA):Int×Int:=
 if eE a.name=false\/¬a.function∈[mC,sSum,sMin,sMax]\/1<a.args.length\/(a.args.length<1/\a.function≠mC)then(0,3)
 else match a.args with
  |[]=>(1,0)
  |e::_=>if(fI cols vars e).2.2≠0 then(0,(fI cols vars e).2.2)else if(fI cols vars e).1=0\/(a.function=sSum/\(fI cols vars e).1≠1)then(0,7)
   else if a.function=mC then(1,0)else((fI cols vars e).1,0)
def eW(vars cols:List LCol):List LA->List LCol×Int
 |[]=>([],0)
 |a::l=>if(aggQ vars cols a).2≠0 then([],(aggQ vars cols a).2)else if(eW vars cols l).2≠0 then([],(eW vars cols l).2)
  else(⟨a.name,(aggQ vars cols a).1,!(a.function==mC)⟩::(eW vars cols l).1,0)
def oS(vars cols:List LCol)(q:LQuery):List LCol×Int:=
 if(cS vars cols q.exprs q.names).2≠0 then([],(cS vars cols q.exprs q.names).2)
 else if(eW vars cols q.aggregates).2≠0 then([],(eW vars cols q.aggregates).2)
 else((cS vars cols q.exprs q.names).1++(eW vars cols q.aggregates).1,0)
def lu(vars cols:List LCol):List LExpr->Int
 |[]=>0
 |e::l=>if(fI cols vars e).2.2≠0 then(fI cols vars e).2.2 else lu vars cols l
def kC(c:LChecker)(q:LQuery)(ins:List (List LCol)):List LCol×Int:=
 if q.kind=1 then(match c.s.tables.find? fun t=>t.name==q.table with|some t=>(t.columns,0)|none=>([],4))
 else if q.kind=2 then(ins.getD 0 [],eG c (ins.getD 0 []) (e0Q q))
 else if q.kind=4\/q.kind=5 then(ld (ins.getD 0 []) (ins.getD 1 []) (q.kind==5),eG c (ld (ins.getD 0 []) (ins.getD 1 []) (q.kind==5)) (e0Q q))
 else if q.kind=6\/q.kind=7 then mH q.kind (ins.getD 0 []) (ins.getD 1 [])
 else if q.kind=3\/q.kind=8 then oS c.vars (ins.getD 0 []) q
 else if q.kind=9 then(if lu c.vars (ins.getD 0 []) q.exprs≠0 then([],lu c.vars (ins.getD 0 []) q.exprs)else(ins.getD 0 [],0))
 else(ins.getD 0 [],0)
theorem find_idx{α:Type}(p:α->Bool)(l:List α):(l.find? p=none/\aL p l=-1)\/∃x,l.find? p=some x/\0<=aL p l/\l[(aL p l).toNat]? =some x:=by
 induction l with
 |nil=>exact .inl ⟨rfl,rfl⟩
 |cons a l ih=>
  by_cases h:p a=true
  ·right
   exact⟨a,by simp[List.find?_cons,h],by unfold aL;simp[List.findIdx?_cons,h],by unfold aL;simp[List.findIdx?_cons,h]⟩
  ·have h:p a=false:=by simpa using h
   have hi:aL p (a::l)=if aL p l<0 then-1 else aL p l+1:=by
    unfold aL;simp only[List.findIdx?_cons,h,Bool.false_eq_true,if_false];cases l.findIdx? p with
    |none=>rfl
    |some i=>rw[zy (by simp only;omega)];simp
   rw[List.find?_cons,h,hi];rcases ih with⟨h1,h2⟩|⟨x,h1,h2,h3⟩
   ·left;exact⟨h1,by rw[h2];rfl⟩
   ·right
    refine⟨x,h1,by split<;>omega,?_⟩
    rw[zy (by omega),show(aL p l+1).toNat=(aL p l).toNat+1 from by omega,List.getElem?_cons_succ,h3]
theorem set_ok(kind:Int)(a b:List LCol):km kind a b=some (mH kind a b):=by
 unfold km mH;by_cases hl:a.length=b.length
 ·rw[natNE,zt hl];simp only[Bool.not_true,zd]
  let z:LCol->LCol->LCol:=fun x y=>⟨x.name,x.kind,x.nullable||(kind==6&&y.nullable)⟩
  obtain⟨fl,hfl,hr⟩:=eI (step:=fun(j1:Nat) (x1:LCol) (s1:List LCol)=>
   aa (ax b (j1:Int)) fun(x29:LCol)=>cond (x1.kind !=x29.kind) (some (Flow.ret (([],7):List LCol×Int)))
    (cond x1.nullable (aa (ax s1 (j1:Int)) fun(x51:LCol)=>letP (s1.set ((j1:Int).toNat) (LCol.mk x51.name x51.kind true)) fun(y8:List LCol)=>some (.next y8))
     (cond (kind==(6:Int)) (aa (ax b (j1:Int)) fun(x46:LCol)=>aa (ax s1 (j1:Int)) fun(x51:LCol)=>letP (s1.set ((j1:Int).toNat) (LCol.mk x51.name x51.kind x46.nullable)) fun(y9:List LCol)=>some (.next y9))
      (aa (ax s1 (j1:Int)) fun(x51:LCol)=>letP (s1.set ((j1:Int).toNat) (LCol.mk x51.name x51.kind false)) fun(y10:List LCol)=>some (.next y10)))))
   (fun j s=>s=(List.zipWith z a b).take j++a.drop j/\(a.take j).map LCol.kind=(b.take j).map LCol.kind) (fun r=>r=([],7)/\a.map LCol.kind≠b.map LCol.kind) a 0 a ⟨by simp,rfl⟩ (fun k x s hk hI=>by
    simp only[Nat.zero_add]at hI⊢;have hka:=(zg.1 hk).1;have hxe:=(zg.1 hk).2;have hkb:k<b.length:=by omega
    rw[dG hkb,bPs,bPs];by_cases hkk:x.kind=b[k].kind
    ·have hzl:((List.zipWith z a b).take k).length=k:=by simp;omega
     have hs:s[k]? =some x:=by
      rw[hI.1,List.getElem?_append_right (by omega),hzl,Nat.sub_self,List.getElem?_drop,Nat.add_zero,hk]
     have hkinds:(a.take (k+1)).map LCol.kind=(b.take (k+1)).map LCol.kind:=by
      rw[List.take_add_one,List.take_add_one,hk,ze hkb,List.map_append,List.map_append,hI.2];congr 1;show [x.kind]=[b[k].kind];rw[hkk]
     have hset:∀v:LCol,v=z x b[k]->s.set k v=(List.zipWith z a b).take (k+1)++a.drop (k+1):=by
      intro v hv;rw[hI.1,List.set_append_right _ _ (by omega),hzl,Nat.sub_self];rw[List.drop_eq_getElem_cons hka,List.set_cons_zero,List.take_add_one,List.append_assoc];congr 1;rw[List.getElem?_zipWith,hk,ze hkb];simp[hv]
     rw[iB hkk,zd,gp hs];simp only[bPs,aX,Int.toNat_natCast];cases hx:x.nullable with
     |true=>exact⟨_,rfl,hset _ (by simp[z,hx]),hkinds⟩
     |false=>
      by_cases h6:kind=6
      ·exact⟨.next _,by rw[jI h6];rfl,hset _ (by simp[z,hx,h6]),hkinds⟩
      ·exact⟨.next _,by rw[ci h6];rfl,hset _ (by simp[z,hx,h6]),hkinds⟩
    ·refine⟨.ret ([],7),by rw[jk hkk];rfl,rfl,fun he=>hkk ?_⟩
     have:=congrArg (fun l=>l[k]?) he
     simp only[List.getElem?_map,hk,ze hkb,Option.map_some,zo]at this;exact this)
  rw[hfl,bPs];cases fl with
  |brk s=>exact absurd hr (by simp)
  |ret r=>rw[hr.1,zy (fun h=>hr.2 h.2)];rfl
  |next s=>
   simp only[Nat.zero_add]at hr;rw[fX,hr.1,zp ⟨hl,by have:=hr.2;rwa [List.take_length,hl,List.take_length]at this⟩]
   have:(List.zipWith z a b).take a.length=List.zipWith z a b:=List.take_of_length_le (by simp;omega)
   rw[this,List.drop_length,List.append_nil]
 ·rw[natNE,zf hl,zy (fun h=>hl h.1)];rfl
theorem rf{α:Type}{l:List α}{d:α}(h:0<l.length):ax l 0=some (l.getD 0 d):=by
 cases l with
 |nil=>simp at h
 |cons a l=>rfl
theorem getD1{α:Type}{l:List α}{d:α}(h:1<l.length):ax l 1=some (l.getD 1 d):=by
 match l with
 |[]=>simp at h
 |[_]=>simp at h
 |a::b::l=>rfl
theorem e0_get{q:LQuery}(h:0<q.exprs.length):ax q.exprs 0=some (e0Q q):=by
 unfold e0Q;cases hq:q.exprs with
 |nil=>rw[hq]at h;simp at h
 |cons a l=>rfl
theorem containsS(l:Rs)(v:Rb):cy l v=some (decide (v∈l)):=by
 unfold cy fD;rw[idxF2 (p:=fun x=>v==x),bPs,kl];congr 1;by_cases h:v∈l
 ·rw[zt h,List.any_eq_true];exact⟨v,h,by simp⟩
 ·rw[zf h,List.any_eq_false];intro x hx he;exact h (by simp at he;rwa [he])
theorem agg_eq(c:LChecker)(cols:List LCol)(a:LA):iM c cols a=some (aggQ c.vars cols a):=by
 unfold iM aggQ;simp only[aX,containsS,bPs];by_cases h1:eE a.name=false
 ·simp[h1]
 have h1':eE a.name=true:=by simpa using h1
 by_cases h2:a.function∈[mC,sSum,sMin,sMax]
 ·rw[zt (show a.function∈([[99,111,117,110,116],[115,117,109],[109,105,110],[109,97,120]]:Rs)from h2)];cases ha:a.args with
  |nil=>
   by_cases h3:a.function=mC
   ·simp[h1',h3]
   ·have h3':(a.function==([99,111,117,110,116]:Rb))=false:=by simpa using h3
    simp[h1',h3,h2,h3']
  |cons e l=>
   cases l with
   |cons e2 l=>
    have:(1:Int)<(l.length:Int)+1+1:=by omega
    simp[h1',h2,this]
   |nil=>
    simp only[h1',Bool.not_true,zd,List.length_singleton];have hno:¬(True=False\/¬a.function∈[mC,sSum,sMin,sMax]\/1<1\/(1<1/\a.function≠mC)):=by simp[h2]
    simp only[ax];by_cases h4:(fI cols c.vars e).2.2=0
    ·by_cases h5:(fI cols c.vars e).1=0
     ·simp[h2,h4,h5]
     ·by_cases h6:a.function=sSum
      ·by_cases h7:(fI cols c.vars e).1=1
       ·simp[h2,h4,h6,h7]
       ·simp[h2,h4,h5,h6,h7,jk h7]
      ·have h6':(a.function==([115,117,109]:Rb))=false:=by simpa using h6
       by_cases h8:a.function=mC
       ·simp[h2,h4,h5,h8,ci h5]
       ·have h8':(a.function==([99,111,117,110,116]:Rb))=false:=by simpa using h8
        simp[h2,h4,h5,h6,h8,h6',h8',ci h5]
    ·simp[h2,h4,jk h4]
 ·rw[zf (show ¬a.function∈([[99,111,117,110,116],[115,117,109],[109,105,110],[109,97,120]]:Rs)from h2)];simp[h1',h2]
theorem namedE_run(vars cols:List LCol)(names:Rs):∀(es:List LExpr) (j:Nat) (s:List LCol),es.length+j=names.length->s.length+es.length<=10000000->
  ∀k:List LCol->Option (List LCol×Int),aa (au (σ:=List LCol) (ρ:=((List LCol)×Int)) (fun(j1:Nat) (x1:LExpr) (s1:List LCol)=>
  letP (fI cols vars x1) fun x31=>
  aa (ax names (j1:Int)) fun(x39:Rb)=>
  letP (eE x39) fun x41=>
  cond (!x41)
   (some (.ret ([],3)))
   (cond (x31.2.2 !=(0:Int))
    (some (.ret ([],x31.2.2)))
    (cond (x31.1==(0:Int))
     (some (.ret ([],7)))
     (aa (ax names (j1:Int)) fun(x54:Rb)=>
     aa (cE 32 s1 ([(LCol.mk x54 x31.1 x31.2.1)]:List LCol)) fun(x60:List LCol)=>
     some (.next x60))))) j es s) (fun fl1=>fl1.thenR k)=if(cS vars cols es (names.drop j)).2≠0 then some ([],(cS vars cols es (names.drop j)).2)else k (s++(cS vars cols es (names.drop j)).1)
 |[],j,s,_,_,k=>by simp[au,cS]
 |e::es,j,s,hl,hb,k=>by
  have hj:j<names.length:=by simp at hl;omega
  rw[au,List.drop_eq_getElem_cons hj,cS,aX,dG hj,bPs,aX];cases h1:eE names[j]with
  |false=>simp
  |true=>
   simp only[Bool.not_true,zd,Bool.true_eq_false,if_false];by_cases h2:(fI cols vars e).2.2=0
   ·rw[iB h2,zd];simp only[h2,ne_eq,not_true_eq_false,if_false];by_cases h3:(fI cols vars e).1=0
    ·rw[jI h3];simp[h3]
    ·rw[ci h3,zd,bPs,aS (by decide) (by simp at hb⊢;omega),bPs];simp only[h3,if_false];rw[namedE_run vars cols names es (j+1) _ (by simp at hl;omega) (by simp at hb⊢;omega) k];by_cases h4:(cS vars cols es (names.drop (j+1))).2=0
     ·simp[h4]
     ·simp[h4]
   ·rw[jk h2];simp[h2]
theorem namedA_run(c:LChecker)(cols:List LCol):∀(l:List LA) (j:Nat) (s:List LCol),s.length+l.length<=10000000->
  aa (au (σ:=List LCol) (ρ:=((List LCol)×Int)) (fun(_:Nat) (x2:LA) (s2:List LCol)=>
  aa (iM c cols x2) fun x73=>
  cond (x73.2 !=(0:Int))
   (some (.ret ([],x73.2)))
   (aa (cE 32 s2 ([(LCol.mk x2.name x73.1 (!(x2.function==([99,111,117,110,116]:Rb))))]:List LCol)) fun(x88:List LCol)=>
   some (.next x88))) j l s) (fun fl2=>fl2.thenR fun(s2:List LCol)=>some (s2,0))=some (if(eW c.vars cols l).2≠0 then([],(eW c.vars cols l).2)else(s++(eW c.vars cols l).1,0))
 |[],j,s,_=>by simp[au,eW]
 |a::l,j,s,hb=>by
  rw[au,eW,agg_eq,bPs];by_cases h1:(aggQ c.vars cols a).2=0
  ·rw[iB h1,zd,aS (by decide) (by simp at hb⊢;omega),bPs];simp only[h1,ne_eq,not_true_eq_false,if_false];rw[namedA_run c cols l (j+1) _ (by simp at hb⊢;omega)];by_cases h4:(eW c.vars cols l).2=0
   ·simp[h4]
   ·simp[h4]
  ·rw[jk h1];simp[h1]
theorem named_eq(c:LChecker)(q:LQuery)(cols:List LCol)(hl:q.exprs.length=q.names.length)(hb:q.exprs.length<=1000000/\q.aggregates.length<=1000000):fT c q cols=some (oS c.vars cols q):=by
 unfold fT oS;rw[namedE_run c.vars cols q.names q.exprs 0 [] (by omega) (by simp;omega),List.drop_zero];by_cases h:(cS c.vars cols q.exprs q.names).2=0
 ·have hlen:∀(es:List LExpr) (ns:Rs),(cS c.vars cols es ns).1.length<=es.length:=by
   intro es;induction es with
   |nil=>intro ns;simp[cS]
   |cons e es ih=>
    intro ns;cases ns with
    |nil=>simp[cS]
    |cons n ns=>
     simp only[cS];split
     ·simp
     ·split
      ·simp
      ·split
       ·simp
       ·split
        ·simp
        ·have:=ih ns;simp;omega
  simp only[h,ne_eq,not_true_eq_false,if_false,List.nil_append];rw[namedA_run c cols q.aggregates 0 _ (by have:=hlen q.exprs q.names;omega)]
 ·simp[h]
structure SmallQ(q:LQuery):Prop where
 nodes:(dl q).length<=10000000
 here:∀x∈dl q,x.exprs.length<=1000000/\x.aggregates.length<=1000000
theorem mem_nodes{q x y:LQuery}(h:x∈q.inputs)(hy:y∈dl x):y∈dl q:=by
 rw[lJ];exact List.mem_cons_of_mem _ (List.mem_flatten.2 ⟨_,List.mem_map.2 ⟨x,h,rfl⟩,hy⟩)
theorem self_nodes(q:LQuery):q∈dl q:=by rw[lJ];exact List.mem_cons_self
theorem SmallQ.sub{q x:LQuery}(h:SmallQ q)(hx:x∈q.inputs):SmallQ x:=
 ⟨by have:=pr hx;have:=h.nodes;omega,fun y hy=>h.here y (mem_nodes hx hy)⟩
theorem SmallQ.self{q:LQuery}(h:SmallQ q):q.exprs.length<=1000000/\q.aggregates.length<=1000000:=h.here q (self_nodes q)
structure ShapeOk(q:LQuery):Prop where
 kind:1<=q.kind/\q.kind<=10
 arity:q.inputs.length=ru q.kind
 one:q.kind=2\/q.kind=4\/q.kind=5->q.exprs.length=1
 named:q.kind=3\/q.kind=8->q.exprs.length=q.names.length
 aggs:q.kind≠8->q.aggregates=[]
 sorted:q.kind=9->q.exprs.length=q.descending.length
 limit:q.kind=10->0<=q.count/\0<=q.offset
theorem shape_ok{q:LQuery}(h:nQ q=true):ShapeOk q:=by
 unfold nQ at h;simp only[Bool.and_eq_true,decide_eq_true_eq]at h
 obtain⟨⟨⟨⟨⟨⟨⟨⟨h1,h2⟩,h3⟩,h4⟩,h5⟩,h6⟩,h7⟩,h8⟩,h9⟩:=h
 refine⟨⟨h1,h2⟩,h3,fun hk=>?_,fun hk=>?_,fun hk=>?_,fun hk=>?_,fun hk=>?_⟩
 ·rw[zp hk]at h9;simpa using h9
 ·rw[zy (by omega),zp hk]at h9;simp at h9;exact h9.1
 ·have:(q.kind==8)=false:=ci hk
  rw[this]at h6;simp at h6;exact h6
 ·rw[zy (by omega),zy (by omega),zp hk]at h9;simp at h9;exact h9.1
 ·rw[zy (by omega),zy (by omega),zy (by omega),zp hk]at h9;simp at h9;omega
theorem join_run(left:Bool):∀(b:List LCol) (j:Nat) (a:List LCol),a.length+b.length<=10000000->
  au (σ:=List LCol) (ρ:=Empty) (fun(_:Nat) (x2:LCol) (s2:List LCol)=>cond x2.nullable
          (aa (cE 32 s2 ([(LCol.mk x2.name x2.kind true)]:List LCol)) fun(x76:List LCol)=>some (.next x76))
          (aa (cE 32 s2 ([(LCol.mk x2.name x2.kind left)]:List LCol)) fun(x76:List LCol)=>some (.next x76))) j b a=some (.next (ld a b left))
 |[],j,a,_=>by simp[au,ld]
 |x::b,j,a,h=>by
  have step:(cond x.nullable (aa (cE 32 a ([(LCol.mk x.name x.kind true)]:List LCol)) fun(x76:List LCol)=>some (Flow.next (ρ:=Empty) x76))
    (aa (cE 32 a ([(LCol.mk x.name x.kind left)]:List LCol)) fun(x76:List LCol)=>some (.next x76)))=some (.next (a++[⟨x.name,x.kind,x.nullable||left⟩])):=by
   rw[aS (by decide) (by simp at h⊢;omega),aS (by decide) (by simp at h⊢;omega)];cases x.nullable<;>simp
  rw[au,step];simp only;rw[join_run left b (j+1) _ (by simp at h⊢;omega)];simp[ld]
theorem sort_run(vars cols:List LCol)(ins:List (List LCol))(h0:ax ins 0=some cols):∀(es:List LExpr) (j:Nat) (k:Unit->Option (List LCol×Int)),
  aa (au (σ:=Unit) (ρ:=((List LCol)×Int)) (fun(_:Nat) (x5:LExpr) (_:Unit)=>aa (ax ins 0) fun(x122:List LCol)=>letP (fI x122 vars x5) fun x127=>cond (x127.2.2 !=(0:Int)) (some (.ret ([],x127.2.2))) (some (.next ()))) j es ()) (fun fl5=>fl5.thenR k)=
   if lu vars cols es≠0 then some ([],lu vars cols es)else k ()
 |[],j,k=>by simp[au,lu]
 |e::es,j,k=>by
  rw[au,lu,h0,bPs,aX];by_cases h:(fI cols vars e).2.2=0
  ·rw[iB h,zd];simp only[h,ne_eq,not_true_eq_false,if_false];rw[<-h0];exact sort_run vars cols ins h0 es (j+1) k
  ·rw[jk h];simp[h]
theorem out_eq{c:LChecker}{q:LQuery}{ins:List (List LCol)}(hs:ShapeOk q)(hsm:SmallQ q)(hl:ins.length=q.inputs.length)(hb:∀l∈ins,l.length<=20):jP c q ins=some (kC c q ins):=by
 obtain⟨hk,ha,h1,hn,_,_,_⟩:=hs
 have hself:=hsm.self
 have hi:∀i,i<ins.length->(ins.getD i []).length<=20:=fun i hi=>by
  rw[List.getD_eq_getElem?_getD,ze hi];exact hb _ (List.getElem_mem hi)
 have e0:q.exprs.length=1->ax q.exprs 0=some (e0Q q):=fun h=>e0_get (by omega)
 unfold jP kC;have kk:q.kind=1\/q.kind=2\/q.kind=3\/q.kind=4\/q.kind=5\/q.kind=6\/q.kind=7\/q.kind=8\/q.kind=9\/q.kind=10:=by omega
 rcases kk with h|h|h|h|h|h|h|h|h|h
 ·rw[h,sq];simp only[bPs];rcases find_idx (fun a0=>fV a0 q) c.s.tables with⟨f1,f2⟩|⟨t,f1,f2,f3⟩
  ·have f1':c.s.tables.find? (fun t=>t.name==q.table)=none:=f1;rw[f2,f1'];rfl
  ·have f1':c.s.tables.find? (fun t=>t.name==q.table)=some t:=f1;rw[f1',zf (show ¬aL (fun a0=>fV a0 q) c.s.tables<0 from by omega),ls f2 f3];rfl
 all_goals rw[h]at ha
 all_goals simp only[ru]at ha
 ·have g0:ax ins 0=some (ins.getD 0 []):=rf (by simp at ha;omega);rw[h,g0,e0 (h1 (.inl h))];simp[aX]
 ·have g0:ax ins 0=some (ins.getD 0 []):=rf (by simp at ha;omega);rw[h,g0];simp only[bPs];rw[named_eq c q _ (hn (.inl h)) hself];simp[aX]
 ·have g0:ax ins 0=some (ins.getD 0 []):=rf (by simp at ha;omega);have g1:ax ins 1=some (ins.getD 1 []):=getD1 (by simp at ha;omega);rw[h,g0,g1,e0 (h1 (.inr (.inl h)))];simp only[bPs];rw[join_run ((4:Int)==5) _ 0 _ (by have:=hi 0 (by simp at ha;omega);have:=hi 1 (by simp at ha;omega);omega)];simp[aX]
 ·have g0:ax ins 0=some (ins.getD 0 []):=rf (by simp at ha;omega);have g1:ax ins 1=some (ins.getD 1 []):=getD1 (by simp at ha;omega);rw[h,g0,g1,e0 (h1 (.inr (.inr h)))];simp only[bPs];rw[join_run ((5:Int)==5) _ 0 _ (by have:=hi 0 (by simp at ha;omega);have:=hi 1 (by simp at ha;omega);omega)];simp[aX]
 ·have g0:ax ins 0=some (ins.getD 0 []):=rf (by simp at ha;omega);have g1:ax ins 1=some (ins.getD 1 []):=getD1 (by simp at ha;omega);rw[h,g0,g1];simp only[bPs,set_ok];simp[aX]
 ·have g0:ax ins 0=some (ins.getD 0 []):=rf (by simp at ha;omega);have g1:ax ins 1=some (ins.getD 1 []):=getD1 (by simp at ha;omega);rw[h,g0,g1];simp only[bPs,set_ok];simp[aX]
 ·have g0:ax ins 0=some (ins.getD 0 []):=rf (by simp at ha;omega);rw[h,g0];simp only[bPs];rw[named_eq c q _ (hn (.inr h)) hself];simp[aX]
 ·have g0:ax ins 0=some (ins.getD 0 []):=rf (by simp at ha;omega);rw[h,sort_run c.vars _ ins g0,g0];simp only[aX,bPs];by_cases hse:lu c.vars (ins.getD 0 []) q.exprs=0
  ·simp only[hse,ne_eq,not_true_eq_false,if_false];rfl
  ·simp only[hse,ne_eq,not_false_eq_true,if_true];rfl
 ·have g0:ax ins 0=some (ins.getD 0 []):=rf (by simp at ha;omega);rw[h,g0];simp[aX]
def eN:List (List LCol×Int)->List (List LCol)×Int
 |[]=>([],0)
 |r::l=>if r.2≠0 then([],r.2)else if(eN l).2≠0 then([],(eN l).2)else(r.1::(eN l).1,0)
def rI(c:LChecker)(q:LQuery)(ins:List (List LCol×Int)):List LCol×Int:=
 if nQ q=false then([],3)else if(eN ins).2≠0 then([],(eN ins).2)
 else if(kC c q (eN ins).1).2≠0 then([],(kC c q (eN ins).1).2)
 else if 20<(kC c q (eN ins).1).1.length then([],2)
 else if((kC c q (eN ins).1).1.map LCol.name).Nodup then((kC c q (eN ins).1).1,0)else([],23)
def ia(c:LChecker)(q:LQuery):List LCol×Int:=rI c q (q.inputs.attach.map fun x=>ia c x.1)
termination_by SizeOf.sizeOf q
decreasing_by exact LQuery.inputs_lt x.2
theorem colsQ_eq(c:LChecker)(q:LQuery):ia c q=rI c q (q.inputs.map (ia c)):=by
 rw[ia,List.attach_map_val (f:=ia c)]
theorem wd(f:LQuery->Option (List LCol×Int))(g:LQuery->List LCol×Int):∀(l:List LQuery) (j:Nat) (s:List (List LCol)),(∀x∈l,f x=some (g x))->s.length+l.length<=10000000->∀k:List (List LCol)->Option (List LCol×Int),
  aa (au (σ:=List (List LCol)) (ρ:=((List LCol)×Int)) (fun(_:Nat) (x1:LQuery) (s1:List (List LCol))=>aa (f x1) fun x28=>cond (x28.2 !=(0:Int)) (some (.ret ([],x28.2)))
    (aa (cE 24 s1 ([x28.1]:List (List LCol))) fun(x37:List (List LCol))=>some (.next x37))) j l s) (fun fl1=>fl1.thenR k)=
   if(eN (l.map g)).2≠0 then some ([],(eN (l.map g)).2)else k (s++(eN (l.map g)).1)
 |[],j,s,_,_,k=>by simp[au,eN]
 |x::l,j,s,h,hb,k=>by
  rw[au,h x (by simp),bPs,List.map_cons,eN];by_cases h1:(g x).2=0
  ·rw[iB h1,zd,aS (by decide) (by simp at hb⊢;omega),bPs];simp only[h1,ne_eq,not_true_eq_false,if_false];rw[wd f g l (j+1) _ (fun y hy=>h y (by simp[hy])) (by simp at hb⊢;omega) k];by_cases h2:(eN (l.map g)).2=0
   ·simp[h2]
   ·simp[h2]
  ·rw[jk h1];simp[h1]
theorem ul:∀{l:List (List LCol×Int)},(eN l).2=0->(∀r∈l,r.2=0)/\(eN l).1=l.map (·.1)
 |[],_=>⟨by simp,rfl⟩
 |r::l,h=>by
  simp only[eN]at h⊢;by_cases h1:r.2=0
  ·by_cases h2:(eN l).2=0
   ·obtain⟨a,b⟩:=ul h2
    refine⟨fun x hx=>?_,by simp[h1,h2,b]⟩
    rcases List.mem_cons.1 hx with rfl|hx
    ·exact h1
    ·exact a x hx
   ·simp[h1,h2]at h
  ·simp[h1]at h
theorem dup_run(out:List LCol):aa (au (σ:=Unit) (ρ:=((List LCol)×Int)) (fun(j2:Nat) (x2:LCol) (_:Unit)=>
     aa (oq out 0 (j2:Int)) fun(x61:List LCol)=>
     aa (co x61 (fun a0=>some (cG a0 x2))) fun x63=>
     cond x63 (some (.ret ([],23))) (some (.next ()))) 0 out ()) (fun fl2=>fl2.thenR fun(_:Unit)=>some (out,0))=some (if(out.map LCol.name).Nodup then(out,0)else([],23)):=by
 obtain⟨fl,hfl,hr⟩:=eI (step:=fun(j2:Nat) (x2:LCol) (_:Unit)=>
     aa (oq out 0 (j2:Int)) fun(x61:List LCol)=>
     aa (co x61 (fun a0=>some (cG a0 x2))) fun x63=>
     cond x63 (some (Flow.ret (([],23):List LCol×Int))) (some (.next ())))
  (fun j _=>((out.take j).map LCol.name).Nodup) (fun r=>r=([],23)/\¬(out.map LCol.name).Nodup) out 0 () (by simp) (fun k x s hk hI=>by
   simp only[Nat.zero_add]at hI⊢;have hkl:=(zg.1 hk).1;rw[te ⟨by omega,by omega,by omega⟩,bPs];unfold co;rw[uo,bPs,bPs,kl];simp only[Int.toNat_natCast,Int.toNat_zero,List.drop_zero];cases ha:(out.take k).any fun a0=>cG a0 x with
   |true=>
    refine⟨_,rfl,rfl,fun hnd=>?_⟩
    obtain⟨y,hy,he⟩:=List.any_eq_true.1 ha
    have he:y.name=x.name:=by simpa[cG]using he
    obtain⟨i,hi,hyi⟩:=List.mem_take_iff_getElem.1 hy
    have hii:i<k:=by omega
    rw[List.nodup_iff_pairwise_ne,List.pairwise_iff_getElem]at hnd;refine hnd i k (by simp;omega) (by simpa using hkl) hii ?_;simp only[List.getElem_map];rw[(zg.1 hk).2,hyi,he]
   |false=>
    refine⟨_,rfl,?_⟩
    simp only;rw[List.take_add_one,hk,List.map_append,List.nodup_append]
    refine⟨hI,by simp,fun a ha' b hb hab=>?_⟩
    simp at hb;subst hb;subst hab
    obtain⟨y,hy,he⟩:=List.mem_map.1 ha'
    have:=List.any_eq_false.1 ha y hy
    exact this (by simpa[cG]using he))
 rw[hfl,bPs];cases fl with
 |brk s=>exact absurd hr (by simp)
 |ret r=>rw[pp,hr.1,zy hr.2]
 |next s=>
  simp only[Nat.zero_add,List.take_length]at hr;rw[fX,zp hr]
theorem kO(c:LChecker)(q:LQuery):(ia c q).1.length<=20:=by
 rw[colsQ_eq];unfold rI
 repeat' split
 all_goals first|(simp;done)|(simp only;omega)
theorem cols_ok(c:LChecker):∀q:LQuery,SmallQ q->gg c q=some (ia c q):=by
 refine LQuery.ind fun q ih hsm=>?_
 refine qZ (γ:=LChecker) (F:=fun n c q=>gn n c q) (O:=fun r c q=>gk r c q) (fun n=>rfl) c q ?_ (fun x hx=>⟨_,ih x hx (hsm.sub hx)⟩) ?_
 ·intro r r' h;simp only[gk];congr 1;funext b;congr 2;exact js q.inputs 0 _ fun k x s hk=>by rw[h x (cV hk)]
 ·have e:∀c x,(iO fun n=>gn n c x)=gg c x:=fun _ _=>rfl
  simp only[gk,e];have hself:=hsm.self;rw[shape_eq q ⟨by omega,by omega⟩,bPs,colsQ_eq];unfold rI;cases hs:nQ q with
  |false=>rfl
  |true=>
   have hok:=shape_ok hs;have hin:q.inputs.length<=2:=by rw[hok.arity];unfold ru;split<;>(try split)<;>omega
   simp only[Bool.not_true,zd,Bool.true_eq_false,if_false];rw[wd (gg c) (ia c) q.inputs 0 [] (fun x hx=>ih x hx (hsm.sub hx)) (by simp;omega),List.nil_append];by_cases h1:(eN (q.inputs.map (ia c))).2=0
   ·obtain⟨a,b⟩:=ul h1
    simp only[h1,ne_eq,not_true_eq_false,if_false]
    rw[out_eq hok hsm (by rw[b];simp) (fun l hl=>by
     rw[b]at hl
     obtain⟨r,hr,rfl⟩:=List.mem_map.1 hl
     obtain⟨x,_,rfl⟩:=List.mem_map.1 hr
     exact kO c x),bPs]
    generalize kC c q (eN (q.inputs.map (ia c))).1=o;by_cases h2:o.2=0
    ·rw[iB h2,zd];simp only[h2,not_true_eq_false,if_false];by_cases h3:20<o.1.length
     ·rw[zt (show(o.1.length:Int)>20 from by omega),zp h3];rfl
     ·rw[zf (show ¬(o.1.length:Int)>20 from by omega),zy h3,zd];exact dup_run o.1
    ·rw[jk h2];simp[h2]
   ·simp[h1]
theorem whileM_by{σ ρ:Type}{step:σ->Option (Flow σ ρ)}(I:σ->Prop)(μ:σ->Nat)(Q:σ->Prop)(R:ρ->Prop)(hs:∀s,I s->∃fl,step s=some fl/\(match fl with| .next s'=>I s'/\μ s'<μ s| .brk s'=>Q s'| .ret r=>R r)):
  ∀s,I s->∃fl,gX step s=some fl/\(match fl with| .next s'=>Q s'| .brk _=>False| .ret r=>R r):=by
 intro s;generalize hn:μ s=n;induction n using Nat.strongRecOn generalizing s with
 |_ n ih=>
  intro hI
  obtain⟨fl,h1,h2⟩:=hs s hI
  cases fl with
  |next s'=>
   obtain⟨fl,h3,h4⟩:=ih (μ s') (hn▸h2.2) s' Z h2.1
   exact⟨fl,nH h1 h3,h4⟩
  |brk s'=>exact⟨.next s',nH h1 Z,h2⟩
  |ret r=>exact⟨.ret r,nH h1 Z,h2⟩
theorem iG{σ β:Type}{step:σ->Option (Flow σ Empty)}{k:σ->Option β}{R:β->Prop}{s:σ}(I:σ->Prop)(μ:σ->Nat)(Q:σ->Prop)(h0:I s)
  (hs:∀s,I s->∃fl,step s=some fl/\(match fl with| .next s'=>I s'/\μ s'<μ s| .brk s'=>Q s'| .ret _=>False)) (hk:∀s',Q s'->∃r,k s'=some r/\R r):
  ∃r,aa (gX step s) (fun fl=>fl.thenP k)=some r/\R r:=by
 obtain⟨fl,h1,h2⟩:=whileM_by (step:=step) I μ Q (fun _=>False) (fun s hI=>by
  obtain⟨fl,h1,h2⟩:=hs s hI
  refine⟨fl,h1,?_⟩
  cases fl with
  |next s'=>exact h2
  |brk s'=>exact h2
  |ret r=>exact r.elim) s h0
 cases fl with
 |next s'=>rw[h1];exact hk s' h2
 |brk s'=>exact absurd h2 (by simp)
 |ret r=>exact r.elim
theorem mid_eq{n:Int}(h0:0<=n)(h1:n<=4611686018427387904):Iw (Int.fdiv (IntKind.u64.wrap (Iw n)) (2^1))=n/2:=by
 have h3:Iw n=n:=Ww (by omega) (by omega)
 have h2:IntKind.u64.wrap n=n:=by
  simp only[IntKind.wrap,IntKind.bits,IntKind.signed];simp;omega
 rw[h3,h2,show(2:Int)^1=2 from Z,Int.fdiv_eq_ediv_of_nonneg _ (by decide)];exact Ww (by omega) (by omega)
section
variable{α:Type}
theorem swap_perm{l:List α}{i j:Nat}{x y:α}(hi:l[i]? =some x)(hj:l[j]? =some y):((l.set i y).set j x).Perm l:=by
 have hil:=(zg.1 hi).1;have hjl:=(zg.1 hj).1;have hx:=(zg.1 hi).2;have hy:=(zg.1 hj).2;rw[<-hx,<-hy];exact List.set_set_perm hil hjl
end
section
abbrev Rows:=Rz
abbrev Cmp:=Rq->Rq->Option Int
structure SrtOk(cmp:Cmp)(d0 d:Rows):Prop where
 perm:d.Perm d0
 small:d0.length<=1000000
 tot:∀x∈d0,∀y∈d0,Tot (cmp x y)
variable{cmp:Cmp}{d0:Rows}
theorem SrtOk.len{d:Rows}(h:SrtOk cmp d0 d):d.length=d0.length:=h.perm.length_eq
theorem SrtOk.cm{d:Rows}(h:SrtOk cmp d0 d){x y:Rq}(hx:x∈d)(hy:y∈d):Tot (cmp x y):=h.tot x (h.perm.mem_iff.1 hx) y (h.perm.mem_iff.1 hy)
theorem SrtOk.swap{d:Rows}(h:SrtOk cmp d0 d){i j:Nat}{x y:Rq}(hi:d[i]? =some x)(hj:d[j]? =some y):SrtOk cmp d0 ((d.set i y).set j x):=⟨(swap_perm hi hj).trans h.perm,h.small,h.tot⟩
theorem SrtOk.get{d:Rows}(h:SrtOk cmp d0 d){i:Int}(h0:0<=i)(h1:i<d0.length):∃x,ax d i=some x/\d[i.toNat]? =some x/\x∈d:=by
 have hl:=h.len
 have:i.toNat<d.length:=by omega
 exact⟨d[i.toNat],ls h0 (ze this),ze this,List.getElem_mem _⟩
theorem getI_set{α:Type}{l:List α}{i j:Int}{x y:α}(h0:0<=j)(hj:l[j.toNat]? =some y):∃z,ax (l.set i.toNat x) j=some z:=by
 have hl:=(zg.1 hj).1
 exact⟨_,ls h0 (ze (by simpa using hl))⟩
theorem vI{β:Type}{d:Rows}(h:SrtOk cmp d0 d){i j:Int}(hi0:0<=i)(hi1:i<d0.length)(hj0:0<=j)(hj1:j<d0.length):∃d',SrtOk cmp d0 d'/\∀k:Rows->Option β,
  (aa (ax d j) fun(x28:Rq)=>aa (ax d i) fun(x34:Rq)=>aa (ax d i) fun(_:Rq)=>letP (d.set i.toNat x28) fun(y6:Rows)=>aa (ax y6 j) fun(_:Rq)=>letP (y6.set j.toNat x34) fun(y7:Rows)=>k y7)=k d':=by
 obtain⟨y,hy,hy',_⟩:=h.get hj0 hj1
 obtain⟨x,hx,hx',_⟩:=h.get hi0 hi1
 obtain⟨z,hz⟩:=getI_set (i:=i) (x:=y) hj0 hy'
 refine⟨_,h.swap hx' hy',fun k=>?_⟩
 rw[hy,hx];simp only[bPs,aX];rw[hz,bPs]
theorem vn{d:Rows}(h:SrtOk cmp d0 d){a b:Int}(ha:0<=a/\a<=d0.length)(hb:b<=d0.length):∃d',cU d a b cmp=some d'/\SrtOk cmp d0 d':=by
 have hs:=h.small;unfold cU;rw[Ww (by omega) (by omega)];refine iG (fun s=>SrtOk cmp d0 s.1/\a<s.2) (fun s=>(b-s.2).toNat) (fun s=>SrtOk cmp d0 s.1) ⟨h,by show a<a+1;omega⟩ (fun s hI=>?_) (fun s hq=>⟨_,rfl,hq⟩)
 obtain⟨h1,h2⟩:=hI
 by_cases hlt:s.2<b
 ·rw[zt hlt,zc];refine iG (fun t=>SrtOk cmp d0 t.1/\a<=t.2/\t.2<b) (fun t=>(t.2-a).toNat) (fun t=>SrtOk cmp d0 t.1) ⟨h1,by show a<=s.2;omega,hlt⟩ (fun t hI=>?_) (fun t hq=>⟨_,rfl,?_⟩)
  ·obtain⟨g1,g2,g3⟩:=hI
   by_cases hgt:t.2>a
   ·rw[zt hgt,zc,Ww (by omega) (by omega)]
    obtain⟨x,hx,hx',hxm⟩:=g1.get (i:=t.2) (by omega) (by omega)
    obtain⟨y,hy,hy',hym⟩:=g1.get (i:=t.2-1) (by omega) (by omega)
    obtain⟨c,hc⟩:=g1.cm hxm hym
    obtain⟨d',hd',hsw⟩:=vI (β:=Flow (Rows×Int) Empty) g1 (i:=t.2) (j:=t.2-1) (by omega) (by omega) (by omega) (by omega)
    rw[hx,bPs,hy,bPs,hc,bPs,bPs];by_cases hneg:c<0
    ·rw[zt hneg]
     have:=hsw (fun y31=>some (.next (y31,t.2-1)))
     rw[hx,hy]at this
     refine⟨.next (d',t.2-1),?_,⟨hd',by show a<=t.2-1;omega,by show t.2-1<b;omega⟩,by show(t.2-1-a).toNat<(t.2-a).toNat;omega⟩
     rw[zc];simp only;rw[hy,hx];exact this
    ·rw[zf hneg]
     exact⟨_,rfl,g1⟩
   ·rw[zf hgt]
    exact⟨_,rfl,g1⟩
  ·show(SrtOk cmp d0 t.1/\a<Iw (s.2+1))/\(b-Iw (s.2+1)).toNat<(b-s.2).toNat
   rw[Ww (by omega) (by omega)]
   exact⟨⟨hq,by omega⟩,by omega⟩
 ·rw[zf hlt]
  exact⟨_,rfl,h1⟩
theorem ry{d:Rows}(h:SrtOk cmp d0 d){a b n:Int}(ha:0<=a)(hb:0<=b)(hn:n<=d0.length)(ha':a+n<=d0.length)(hb':b+n<=d0.length):∃d',cM d a b n cmp=some d'/\SrtOk cmp d0 d':=by
 have hs:=h.small;unfold cM;refine iG (fun s=>SrtOk cmp d0 s.1/\0<=s.2) (fun s=>(n-s.2).toNat) (fun s=>SrtOk cmp d0 s.1) ⟨h,by show(0:Int)<=0;omega⟩ (fun s hI=>?_) (fun s hq=>⟨_,rfl,hq⟩)
 obtain⟨h1,h2⟩:=hI
 by_cases hlt:s.2<n
 ·rw[zt hlt,zc,Ww (n:=b+s.2) (by omega) (by omega),Ww (n:=a+s.2) (by omega) (by omega),Ww (n:=s.2+1) (by omega) (by omega)]
  obtain⟨d',hd',hsw⟩:=vI (β:=Flow (Rows×Int) Empty) h1 (i:=a+s.2) (j:=b+s.2) (by omega) (by omega) (by omega) (by omega)
  exact⟨_,hsw _,⟨hd',by show 0<=s.2+1;omega⟩,by show(n-(s.2+1)).toNat<(n-s.2).toNat;omega⟩
 ·rw[zf hlt]
  exact⟨_,rfl,h1⟩
theorem rotate_ok{d:Rows}(h:SrtOk cmp d0 d){a m b:Int}(ha:0<=a)(hm:a<m)(hb:m<b)(hb':b<=d0.length):∃d',eh d a m b cmp=some d'/\SrtOk cmp d0 d':=by
 have hs:=h.small;unfold eh;rw[Ww (n:=m-a) (by omega) (by omega),Ww (n:=b-m) (by omega) (by omega)];refine iG (fun s=>SrtOk cmp d0 s.1/\0<s.2.1/\0<s.2.2/\s.2.1<=m-a/\s.2.2<=b-m) (fun s=>(s.2.1+s.2.2).toNat) (fun s=>SrtOk cmp d0 s.1/\0<s.2.1/\s.2.1<=m-a/\s.2.1<=b-m) ⟨h,by show 0<m-a;omega,by show 0<b-m;omega,Int.le_refl _,Int.le_refl _⟩ (fun s hI=>?_) (fun s hq=>?_)
 ·obtain⟨h1,h2,h3,h4,h5⟩:=hI
  by_cases hne:s.2.1=s.2.2
  ·rw[iB hne]
   exact⟨_,rfl,h1,h2,h4,by show s.2.1<=b-m;omega⟩
  ·rw[jk hne,zc,Ww (n:=m-s.2.1) (by omega) (by omega)];by_cases hgt:s.2.1>s.2.2
   ·rw[zt hgt,zc]
    obtain⟨d',e,hd'⟩:=ry h1 (a:=m-s.2.1) (b:=m) (n:=s.2.2) (by omega) (by omega) (by omega) (by omega) (by omega)
    rw[e,bPs,dM (by rw[hd'.len,h1.len]),bPs,Ww (by omega) (by omega)]
    exact⟨_,rfl,⟨hd',by show 0<s.2.1-s.2.2;omega,h3,by show s.2.1-s.2.2<=m-a;omega,h5⟩,by show(s.2.1-s.2.2+s.2.2).toNat<(s.2.1+s.2.2).toNat;omega⟩
   ·rw[zf hgt,zd,Ww (n:=m+s.2.2) (by omega) (by omega),Ww (n:=m+s.2.2-s.2.1) (by omega) (by omega)]
    obtain⟨d',e,hd'⟩:=ry h1 (a:=m-s.2.1) (b:=m+s.2.2-s.2.1) (n:=s.2.1) (by omega) (by omega) (by omega) (by omega) (by omega)
    rw[e,bPs,dM (by rw[hd'.len,h1.len]),bPs,Ww (by omega) (by omega)]
    exact⟨_,rfl,⟨hd',h2,by show 0<s.2.2-s.2.1;omega,h4,by show s.2.2-s.2.1<=b-m;omega⟩,by show(s.2.1+(s.2.2-s.2.1)).toNat<(s.2.1+s.2.2).toNat;omega⟩
 ·obtain⟨h1,h2,h3,h4⟩:=hq
  rw[Ww (n:=m-s.2.1) (by omega) (by omega)]
  obtain⟨d',e,hd'⟩:=ry h1 (a:=m-s.2.1) (b:=m) (n:=s.2.1) (by omega) (by omega) (by omega) (by omega) (by omega)
  rw[e,bPs,dM (by rw[hd'.len,h1.len]),bPs]
  exact⟨_,rfl,hd'⟩
def LeO{β:Type}(o o':Option β):Prop:=∀r,o=some r->o'=some r
theorem LeO.refl{β:Type}(o:Option β):LeO o o:=fun _ h=>h
theorem LeO.bind{β γ:Type}{o o':Option β}{k k':β->Option γ}(h:LeO o o')(hk:∀v,LeO (k v) (k' v)):LeO (aa o k) (aa o' k'):=by
 intro r hr;cases o with
 |none=>cases hr
 |some v=>rw[h v Z];exact hk v r hr
theorem LeO.cond{β:Type}{b:Bool}{x x' y y':Option β}(hx:LeO x x')(hy:LeO y y'):LeO (cond b x y) (cond b x' y'):=by
 cases b
 ·exact hy
 ·exact hx
theorem LeO.thenP{σ β:Type}{fl:Flow σ Empty}{k k':σ->Option β}(hk:∀s,LeO (k s) (k' s)):LeO (fl.thenP k) (fl.thenP k'):=by
 cases fl with
 |next s=>exact hk s
 |brk s=>exact hk s
 |ret r=>exact r.elim
theorem symMerge_mono{r r':Rows->Int->Int->Int->Option Rows}(h:∀d a m b,LeO (r d a m b) (r' d a m b))(d:Rows)(a m b:Int):LeO (dc r d a m b cmp) (dc r' d a m b cmp):=by
 unfold dc;simp only[aX];refine LeO.cond (LeO.refl _) (LeO.cond (LeO.refl _) (LeO.bind (LeO.refl _) fun fl=>LeO.thenP fun s=>LeO.bind (LeO.refl _) fun t=>LeO.bind (LeO.cond (LeO.bind (h _ _ _ _) fun _=>LeO.refl _) (LeO.refl _)) fun u=>LeO.cond (LeO.cond (LeO.bind (h _ _ _ _) fun _=>LeO.refl _) (LeO.refl _)) (LeO.refl _)))
theorem uy:∀(n:Nat) (d:Rows) (a m b:Int),LeO (bg n d a m b cmp) (bg (n+1) d a m b cmp)
 |0,d,a,m,b=>fun r h=>by simp[bg]at h
 |n+1,d,a,m,b=>by
  rw[bg,bg];exact symMerge_mono (fun d a m b=>uy n d a m b) d a m b
theorem uY{n:Nat}{d:Rows}{a m b:Int}{r:Rows}(h:bg n d a m b cmp=some r):gq d a m b cmp=some r:=by
 refine tI n fun k hk=>?_
 obtain⟨j,rfl⟩:∃j,k=n+j:=⟨k-n,by omega⟩
 clear hk;induction j with
 |zero=>exact h
 |succ j ih=>exact uy (n+j) d a m b r ih
theorem qd:∀(n:Nat) {d:Rows} (_:SrtOk cmp d0 d) {a m b:Int},0<=a->a<m->m<b->b<=d0.length->(b-a).toNat<n->∃d',bg n d a m b cmp=some d'/\SrtOk cmp d0 d'
 |0,_,_,_,_,_,_,_,_,_,hn=>by omega
 |n+1,d,h,a,m,b,ha,hm,hb,hb',hn=>by
  have hs:=h.small;rw[bg];unfold dc;rw[Ww (n:=m-a) (by omega) (by omega),Ww (n:=b-m) (by omega) (by omega)];by_cases h1:m-a=1
  ·rw[jI h1,zc];refine iG (fun s=>SrtOk cmp d0 s.1/\m<=s.2.1/\s.2.1<=s.2.2/\s.2.2<=b) (fun s=>(s.2.2-s.2.1).toNat) (fun s=>SrtOk cmp d0 s.1/\m<=s.2.1/\s.2.1<=b) ⟨h,Int.le_refl _,by show m<=b;omega,Int.le_refl _⟩ (fun s hI=>?_) (fun s hq=>?_)
   ·obtain⟨g1,g2,g3,g4⟩:=hI
    by_cases hlt:s.2.1<s.2.2
    ·rw[zt hlt,zc,mid_eq (n:=s.2.1+s.2.2) (by omega) (by omega)]
     obtain⟨x,hx,_,hxm⟩:=g1.get (i:=(s.2.1+s.2.2)/2) (by omega) (by omega)
     obtain⟨y,hy,_,hym⟩:=g1.get (i:=a) (by omega) (by omega)
     obtain⟨c,hc⟩:=g1.cm hxm hym
     rw[hx,bPs,hy,bPs,hc,bPs];by_cases hneg:c<0
     ·rw[zt hneg,zc,Ww (by omega) (by omega)]
      exact⟨_,rfl,⟨g1,by show m<=(s.2.1+s.2.2)/2+1;omega,by show(s.2.1+s.2.2)/2+1<=s.2.2;omega,g4⟩,by show(s.2.2-((s.2.1+s.2.2)/2+1)).toNat<(s.2.2-s.2.1).toNat;omega⟩
     ·rw[zf hneg,zd]
      exact⟨_,rfl,⟨g1,g2,by show s.2.1<=(s.2.1+s.2.2)/2;omega,by show(s.2.1+s.2.2)/2<=b;omega⟩,by show((s.2.1+s.2.2)/2-s.2.1).toNat<(s.2.2-s.2.1).toNat;omega⟩
    ·rw[zf hlt]
     exact⟨_,rfl,g1,g2,by show s.2.1<=b;omega⟩
   ·obtain⟨g1,g2,g3⟩:=hq
    rw[Ww (n:=s.2.1-1) (by omega) (by omega)];refine iG (fun t=>SrtOk cmp d0 t.1/\a<=t.2) (fun t=>(s.2.1-t.2).toNat) (fun t=>SrtOk cmp d0 t.1) ⟨g1,Int.le_refl _⟩ (fun t hI=>?_) (fun t hq=>⟨_,rfl,hq⟩)
    obtain⟨k1,k2⟩:=hI
    by_cases hlt:t.2<s.2.1-1
    ·rw[zt hlt,zc,Ww (n:=t.2+1) (by omega) (by omega)]
     obtain⟨d',hd',hsw⟩:=vI (β:=Flow (Rows×Int) Empty) k1 (i:=t.2) (j:=t.2+1) (by omega) (by omega) (by omega) (by omega)
     exact⟨_,hsw _,⟨hd',by show a<=t.2+1;omega⟩,by show(s.2.1-(t.2+1)).toNat<(s.2.1-t.2).toNat;omega⟩
    ·rw[zf hlt]
     exact⟨_,rfl,k1⟩
  ·rw[ci h1,zd];by_cases h2:b-m=1
   ·rw[jI h2,zc];refine iG (fun s=>SrtOk cmp d0 s.1/\a<=s.2.1/\s.2.1<=s.2.2/\s.2.2<=m) (fun s=>(s.2.2-s.2.1).toNat) (fun s=>SrtOk cmp d0 s.1/\a<=s.2.1/\s.2.1<=m) ⟨h,Int.le_refl _,by show a<=m;omega,Int.le_refl _⟩ (fun s hI=>?_) (fun s hq=>?_)
    ·obtain⟨g1,g2,g3,g4⟩:=hI
     by_cases hlt:s.2.1<s.2.2
     ·rw[zt hlt,zc,mid_eq (n:=s.2.1+s.2.2) (by omega) (by omega)]
      obtain⟨x,hx,_,hxm⟩:=g1.get (i:=m) (by omega) (by omega)
      obtain⟨y,hy,_,hym⟩:=g1.get (i:=(s.2.1+s.2.2)/2) (by omega) (by omega)
      obtain⟨c,hc⟩:=g1.cm hxm hym
      rw[hx,bPs,hy,bPs,hc,bPs];by_cases hneg:c<0
      ·rw[zt hneg]
       exact⟨_,rfl,⟨g1,g2,by show s.2.1<=(s.2.1+s.2.2)/2;omega,by show(s.2.1+s.2.2)/2<=m;omega⟩,by show((s.2.1+s.2.2)/2-s.2.1).toNat<(s.2.2-s.2.1).toNat;omega⟩
      ·rw[zf hneg,Bool.not_false,zc,Ww (by omega) (by omega)]
       exact⟨_,rfl,⟨g1,by show a<=(s.2.1+s.2.2)/2+1;omega,by show(s.2.1+s.2.2)/2+1<=s.2.2;omega,g4⟩,by show(s.2.2-((s.2.1+s.2.2)/2+1)).toNat<(s.2.2-s.2.1).toNat;omega⟩
     ·rw[zf hlt]
      exact⟨_,rfl,g1,g2,by show s.2.1<=m;omega⟩
    ·obtain⟨g1,g2,g3⟩:=hq
     refine iG (fun t=>SrtOk cmp d0 t.1/\a<=t.2/\t.2<=m) (fun t=>(t.2-a).toNat) (fun t=>SrtOk cmp d0 t.1) ⟨g1,by show a<=m;omega,Int.le_refl _⟩ (fun t hI=>?_) (fun t hq=>⟨_,rfl,hq⟩)
     obtain⟨k1,k2,k3⟩:=hI
     by_cases hlt:t.2>s.2.1
     ·rw[zt hlt,zc,Ww (n:=t.2-1) (by omega) (by omega)]
      obtain⟨d',hd',hsw⟩:=vI (β:=Flow (Rows×Int) Empty) k1 (i:=t.2) (j:=t.2-1) (by omega) (by omega) (by omega) (by omega)
      exact⟨_,hsw _,⟨hd',by show a<=t.2-1;omega,by show t.2-1<=m;omega⟩,by show(t.2-1-a).toNat<(t.2-a).toNat;omega⟩
     ·rw[zf hlt]
      exact⟨_,rfl,k1⟩
   ·rw[ci h2,zd];simp only[aX];rw[mid_eq (n:=a+b) (by omega) (by omega)];generalize hmid:(a+b)/2=mid;have b1:2*mid<=a+b/\a+b<=2*mid+1:=by omega
    rw[Ww (n:=mid+m) (by omega) (by omega),Ww (n:=mid+m-b) (by omega) (by omega),Ww (n:=mid+m-1) (by omega) (by omega)]
    obtain⟨lo,hi,e1,l1,l2,l3,l4,l5,l6⟩:∃lo hi:Int,(cond (decide (m>mid)) ((d,mid+m-b,mid)) ((d,a,m)):Rows×Int×Int)=(d,lo,hi)/\a<=lo/\lo<=hi/\hi<=m/\mid+m-lo<=b/\m<=mid+m-hi/\hi<=mid:=by
     by_cases hgt:m>mid
     ·exact⟨mid+m-b,mid,by rw[zt hgt];rfl,by omega,by omega,by omega,by omega,by omega,by omega⟩
     ·exact⟨a,m,by rw[zf hgt];rfl,by omega,by omega,by omega,by omega,by omega,by omega⟩
    rw[e1];refine iG (fun s=>SrtOk cmp d0 s.1/\lo<=s.2.1/\s.2.1<=s.2.2/\s.2.2<=hi) (fun s=>(s.2.2-s.2.1).toNat) (fun s=>SrtOk cmp d0 s.1/\lo<=s.2.1/\s.2.1<=hi) ⟨h,Int.le_refl _,l2,Int.le_refl _⟩ (fun s hI=>?_) (fun s hq=>?_)
    ·obtain⟨g1,g2,g3,g4⟩:=hI
     by_cases hlt:s.2.1<s.2.2
     ·rw[zt hlt,zc,mid_eq (n:=s.2.1+s.2.2) (by omega) (by omega)];generalize hc:(s.2.1+s.2.2)/2=c;have c1:s.2.1<=c/\c<s.2.2:=by omega
      rw[Ww (n:=mid+m-1-c) (by omega) (by omega)]
      obtain⟨x,hx,_,hxm⟩:=g1.get (i:=mid+m-1-c) (by omega) (by omega)
      obtain⟨y,hy,_,hym⟩:=g1.get (i:=c) (by omega) (by omega)
      obtain⟨v,hv⟩:=g1.cm hxm hym
      rw[hx,bPs,hy,bPs,hv,bPs];by_cases hneg:v<0
      ·rw[zt hneg]
       exact⟨_,rfl,⟨g1,g2,by show s.2.1<=c;omega,by show c<=hi;omega⟩,by show(c-s.2.1).toNat<(s.2.2-s.2.1).toNat;omega⟩
      ·rw[zf hneg,Bool.not_false,zc,Ww (by omega) (by omega)]
       exact⟨_,rfl,⟨g1,by show lo<=c+1;omega,by show c+1<=s.2.2;omega,g4⟩,by show(s.2.2-(c+1)).toNat<(s.2.2-s.2.1).toNat;omega⟩
     ·rw[zf hlt]
      exact⟨_,rfl,g1,g2,by show s.2.1<=hi;omega⟩
    ·obtain⟨g1,g2,g3⟩:=hq
     rw[Ww (n:=mid+m-s.2.1) (by omega) (by omega)]
     -- the rotation
     obtain⟨t,ht,hto⟩:∃t,(aa (cond ((cond (decide (s.2.1<m)) ((s.1,decide (m<mid+m-s.2.1))) ((s.1,false)):Rows×Bool)).2
       (aa (eh ((cond (decide (s.2.1<m)) ((s.1,decide (m<mid+m-s.2.1))) ((s.1,false)):Rows×Bool)).1 s.2.1 m (mid+m-s.2.1) cmp) fun x191=>aa (fF (x191.length=((cond (decide (s.2.1<m)) ((s.1,decide (m<mid+m-s.2.1))) ((s.1,false)):Rows×Bool)).1.length) ()) fun(_:Unit)=>some x191)
       (some ((cond (decide (s.2.1<m)) ((s.1,decide (m<mid+m-s.2.1))) ((s.1,false)):Rows×Bool)).1)) some)=some t/\SrtOk cmp d0 t:=by
      by_cases c1:s.2.1<m
      ·by_cases c2:m<mid+m-s.2.1
       ·rw[zt c1,zt c2];simp only[zc]
        obtain⟨d',e,hd'⟩:=rotate_ok g1 (a:=s.2.1) (m:=m) (b:=mid+m-s.2.1) (by omega) c1 c2 (by omega)
        rw[e,bPs,dM (by rw[hd'.len,g1.len])]
        exact⟨_,rfl,hd'⟩
       ·rw[zt c1,zf c2]
        exact⟨_,rfl,g1⟩
      ·rw[zf c1]
       exact⟨_,rfl,g1⟩
     have ht':=ht;generalize hcc:(cond ((cond (decide (s.2.1<m)) ((s.1,decide (m<mid+m-s.2.1))) ((s.1,false)):Rows×Bool)).2 _ _:Option Rows)=o at ht⊢;cases o with
     |none=>cases ht
     |some t0=>
      simp only[bPs,zo]at ht;subst ht;rw[bPs];clear hcc ht'
      obtain⟨u,hu,huo⟩:∃u,(aa (cond ((cond (decide (a<s.2.1)) ((t0,decide (s.2.1<mid))) ((t0,false)):Rows×Bool)).2
        (aa (bg n ((cond (decide (a<s.2.1)) ((t0,decide (s.2.1<mid))) ((t0,false)):Rows×Bool)).1 a s.2.1 mid cmp) fun x205=>aa (fF (x205.length=((cond (decide (a<s.2.1)) ((t0,decide (s.2.1<mid))) ((t0,false)):Rows×Bool)).1.length) ()) fun(_:Unit)=>some x205)
        (some ((cond (decide (a<s.2.1)) ((t0,decide (s.2.1<mid))) ((t0,false)):Rows×Bool)).1)) some)=some u/\SrtOk cmp d0 u:=by
       by_cases c1:a<s.2.1
       ·by_cases c2:s.2.1<mid
        ·rw[zt c1,zt c2];simp only[zc]
         obtain⟨d',e,hd'⟩:=qd n hto (a:=a) (m:=s.2.1) (b:=mid) ha c1 c2 (by omega) (by omega)
         rw[e,bPs,dM (by rw[hd'.len,hto.len])]
         exact⟨_,rfl,hd'⟩
        ·rw[zt c1,zf c2]
         exact⟨_,rfl,hto⟩
       ·rw[zf c1]
        exact⟨_,rfl,hto⟩
      generalize hcc:(cond ((cond (decide (a<s.2.1)) ((t0,decide (s.2.1<mid))) ((t0,false)):Rows×Bool)).2 _ _:Option Rows)=o at hu⊢;cases o with
      |none=>cases hu
      |some u0=>
       simp only[bPs,zo]at hu;subst hu;rw[bPs];by_cases c1:mid<mid+m-s.2.1
       ·rw[zt c1,zc];by_cases c2:mid+m-s.2.1<b
        ·rw[zt c2,zc]
         obtain⟨d',e,hd'⟩:=qd n huo (a:=mid) (m:=mid+m-s.2.1) (b:=b) (by omega) c1 c2 hb' (by omega)
         rw[e,bPs,dM (by rw[hd'.len,huo.len])]
         exact⟨_,rfl,hd'⟩
        ·rw[zf c2]
         exact⟨_,rfl,huo⟩
       ·rw[zf c1]
        exact⟨_,rfl,huo⟩
theorem stable_ok{d:Rows}(h:SrtOk cmp d0 d):∃d',fo d (d0.length:Int) cmp=some d'/\SrtOk cmp d0 d':=by
 have hs:=h.small;unfold fo;refine iG (fun s=>SrtOk cmp d0 s.1/\0<=s.2.1/\s.2.1<=s.2.2/\s.2.2<=s.2.1+20/\s.2.1<=d0.length) (fun s=>(d0.length+20-s.2.2).toNat) (fun s=>SrtOk cmp d0 s.1/\0<=s.2.1/\s.2.1<=d0.length) ⟨h,by show(0:Int)<=0;omega,by show(0:Int)<=20;omega,by show(20:Int)<=0+20;omega,by show(0:Int)<=d0.length;omega⟩ (fun s hI=>?_) (fun s hq=>?_)
 ·obtain⟨g1,g2,g3,g4,g5⟩:=hI
  by_cases hle:s.2.2<=(d0.length:Int)
  ·rw[zt hle,zc]
   obtain⟨d',e,hd'⟩:=vn g1 (a:=s.2.1) (b:=s.2.2) ⟨g2,by omega⟩ hle
   rw[e,bPs,dM (by rw[hd'.len,g1.len]),bPs,Ww (by omega) (by omega)]
   exact⟨_,rfl,⟨hd',by show 0<=s.2.2;omega,by show s.2.2<=s.2.2+20;omega,by show s.2.2+20<=s.2.2+20;omega,hle⟩,by show((d0.length:Int)+20-(s.2.2+20)).toNat<((d0.length:Int)+20-s.2.2).toNat;omega⟩
  ·rw[zf hle]
   exact⟨_,rfl,g1,g2,g5⟩
 ·obtain⟨g1,g2,g3⟩:=hq
  obtain⟨d',e,hd'⟩:=vn g1 (a:=s.2.1) (b:=(d0.length:Int)) ⟨g2,by omega⟩ (Int.le_refl _)
  rw[e,bPs,dM (by rw[hd'.len,g1.len]),bPs];clear e g1 g2 g3 s h;refine iG (fun s=>SrtOk cmp d0 s.1/\20<=s.2) (fun s=>(d0.length-s.2).toNat) (fun s=>SrtOk cmp d0 s.1) ⟨hd',by show(20:Int)<=20;omega⟩ (fun s hI=>?_) (fun s hq=>⟨_,rfl,hq⟩)
  obtain⟨g1,g2⟩:=hI
  by_cases hlt:s.2<(d0.length:Int)
  ·rw[zt hlt,zc,Ww (n:=2*s.2) (by omega) (by omega)];refine iG (fun t=>SrtOk cmp d0 t.1/\0<=t.2.1/\t.2.2=t.2.1+2*s.2/\t.2.1<=d0.length) (fun t=>(d0.length+2*s.2-t.2.2).toNat) (fun t=>SrtOk cmp d0 t.1/\0<=t.2.1/\t.2.1<=d0.length) ⟨g1,by show(0:Int)<=0;omega,by show 2*s.2=0+2*s.2;omega,by show(0:Int)<=d0.length;omega⟩ (fun t hI=>?_) (fun t hq=>?_)
   ·obtain⟨k1,k2,k3,k4⟩:=hI
    by_cases hle:t.2.2<=(d0.length:Int)
    ·rw[zt hle,zc,Ww (n:=t.2.1+s.2) (by omega) (by omega)]
     obtain⟨d'',e,hd''⟩:=qd ((t.2.2-t.2.1).toNat+1) k1 (a:=t.2.1) (m:=t.2.1+s.2) (b:=t.2.2) k2 (by omega) (by omega) hle (by omega)
     rw[uY e,bPs,dM (by rw[hd''.len,k1.len]),bPs,Ww (by omega) (by omega)]
     exact⟨_,rfl,⟨hd'',by show 0<=t.2.2;omega,by show t.2.2+2*s.2=t.2.2+2*s.2;omega,hle⟩,by show((d0.length:Int)+2*s.2-(t.2.2+2*s.2)).toNat<((d0.length:Int)+2*s.2-t.2.2).toNat;omega⟩
    ·rw[zf hle]
     exact⟨_,rfl,k1,k2,k4⟩
   ·obtain⟨k1,k2,k3⟩:=hq
    rw[Ww (n:=t.2.1+s.2) (by omega) (by omega),Ww (n:=s.2*2) (by omega) (by omega)];by_cases hm:t.2.1+s.2<(d0.length:Int)
    ·rw[zt hm,zc]
     obtain⟨d'',e,hd''⟩:=qd ((d0.length-t.2.1).toNat+1) k1 (a:=t.2.1) (m:=t.2.1+s.2) (b:=(d0.length:Int)) k2 (by omega) (by omega) (Int.le_refl _) (by omega)
     rw[uY e,bPs,dM (by rw[hd''.len,k1.len]),bPs]
     exact⟨_,rfl,⟨hd'',by show 20<=s.2*2;omega⟩,by show((d0.length:Int)-s.2*2).toNat<((d0.length:Int)-s.2).toNat;omega⟩
    ·rw[zf hm,zd]
     exact⟨_,rfl,⟨k1,by show 20<=s.2*2;omega⟩,by show((d0.length:Int)-s.2*2).toNat<((d0.length:Int)-s.2).toNat;omega⟩
  ·rw[zf hlt]
   exact⟨_,rfl,g1⟩
theorem sortStable_ok{d:Rows}(hs:d.length<=1000000)(ht:∀x∈d,∀y∈d,Tot (cmp x y)):∃d',dF d cmp=some d'/\d'.Perm d:=by
 unfold dF
 obtain⟨d',e,hd'⟩:=stable_ok (cmp:=cmp) (d0:=d) (d:=d) ⟨List.Perm.refl _,hs,ht⟩
 rw[e,bPs,dM hd'.len,bPs]
 exact⟨d',rfl,hd'.perm⟩
end
theorem ur(r:LRun)(cols:List LCol)(x:Rq)(l:List LExpr)(hl:l.length<=10000000):eB r cols x l=some (l.map fun e=>er (bs r cols x) e):=by
 unfold eB
 rw[np (xs:=l) (fun e=>er (bs r cols x) e) (fun k e hk=>by
  have:=(zg.1 hk).1
  rw[aX,aX,aS (by decide) (by simp;omega),bPs])]
 rfl
theorem compare_tot(a b:Rq)(ds:List Bool):Tot (jM a b ds):=by
 unfold jM;refine Tot.bind (Tot.range _ _ _ fun k x s hk=>?_) fun fl _=>Tot.thenR fun _ _=>Tot.mk
 rw[Nat.zero_add];by_cases h1:(k:Int)>=(b.length:Int)
 ·rw[zt h1];exact Tot.mk
 ·rw[zf h1,zd,dG (by omega)];simp only[bPs,aX];refine Tot.cond (fun _=>Tot.mk) fun _=>?_
  refine Tot.cond (fun h=>?_) fun _=>Tot.cond (fun _=>Tot.mk) fun _=>Tot.mk
  have h:=of_decide_eq_true h;rw[dG (by omega),bPs];exact Tot.cond (fun _=>Tot.cond (fun _=>Tot.mk) fun _=>Tot.mk) fun _=>Tot.cond (fun _=>Tot.mk) fun _=>Tot.mk
theorem sort_ok(r:LRun)(q:LQuery)(cols:List LCol)(l:Rows)(hs:l.length<=1000000)(he:q.exprs.length<=1000000):∃l',iq r q cols l=some l'/\l'.Perm l:=by
 unfold iq
 obtain⟨l',e,hp⟩:=sortStable_ok (cmp:=fun a0 a1=>ik a0 a1 r cols q) hs (fun x _ y _=>by
  show Tot (ik x y r cols q);unfold ik;rw[ur r cols x q.exprs (by omega),ur r cols y q.exprs (by omega),bPs,bPs];exact Tot.bind (compare_tot _ _ _) fun _ _=>Tot.mk)
 rw[e,bPs,dM hp.length_eq,bPs]
 exact⟨l',rfl,hp⟩
end
end Go.Proofs.YtafdcemcgfbhcaaGreatDoor
