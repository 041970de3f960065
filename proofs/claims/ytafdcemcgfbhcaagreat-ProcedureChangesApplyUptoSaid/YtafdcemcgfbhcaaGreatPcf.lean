/- procedureChangesApplyUpto_holds, part 6: the layer, the plain functions and what they compute; conditions as in the statement. -/
import Derived.Test.YtafdcemcgfbhcaaGreatPce
set_option maxHeartbeats 4000000
namespace Go.Proofs.YtafdcemcgfbhcaaGreat
noncomputable section
open Go Go.Ab Go.Proofs.Tryz
attribute [local irreducible] V Ao Do Gh Eff PH IntKind.wrap
set_option maxRecDepth 4000
def dJ(_rec43:LProcedureChecker->(List LCol)->(List LProcedureStatement)->Option ((List LCol)×Int))(rec66:LProcedureChecker->(List LCol)->LProcedureStatement->Option ((List LCol)×Int))(c:LProcedureChecker)(vars:List LCol)(l:List LProcedureStatement):Option ((List LCol)×Int):=
 ae (aU (σ:=List LCol) (ρ:=((List LCol)×Int)) (fun(_:Nat) (x1:LProcedureStatement) (s1:List LCol)=>
  ae (ig x1) fun x18=>
  cond (!x18)
   (some (.ret ([],3)))
   (ae (rec66 c s1 x1) fun x24=>
   cond (x24.2 !=(0:Int))
    (some (.ret ([],x24.2)))
    (some (.next x24.1)))) 0 l vars) fun fl1=>fl1.thenR fun(s1:List LCol)=>
 some (s1,0)
theorem pM(rec43:LProcedureChecker->(List LCol)->(List LProcedureStatement)->Option ((List LCol)×Int))(rec66:LProcedureChecker->(List LCol)->LProcedureStatement->Option ((List LCol)×Int))(_hrec43:∀a0 a1 a2 r,rec43 a0 a1 a2=some r->aY prog 43 [(.agg (bL a0)),(.list 53 (a1.map aB)),(.list 66 (a2.map aH))] (.tup [(.list 53 (r.1.map aB)),(ah r.2)]))(hrec66:∀a0 a1 a2 r,rec66 a0 a1 a2=some r->aY prog 66 [(.agg (bL a0)),(.list 53 (a1.map aB)),(.agg (aE a2))] (.tup [(.list 53 (r.1.map aB)),(ah r.2)]))(c:LProcedureChecker)(vars:List LCol)(l:List LProcedureStatement)(r:(List LCol)×Int)(H:dJ rec43 rec66 c vars l=some r):
  aY prog 43 [(.agg (bL c)),(.list 53 (vars.map aB)),(.list 66 (l.map aH))] (.tup [(.list 53 (r.1.map aB)),(ah r.2)]):=by
 unfold dJ at H;refine PH.au func43 ntmps43 ?_;refine aa (ab (aO ?_));refine ag 2 tk Z (ac (aa (aa (ab (ai tk Z (aI tk (zl _) ?_))))));refine ai tk Z (ac ?_);refine ff tk 13 12 11 (fun s1 g1=>upd (upd (fun _=>.any) 3 (.ptr (bL c))) 1 (.list 53 (s1.map aB))) nB nO () H (fun fl1 Hp1 j1 s1 g1 hz1 hl1 x1 fb1 hx1 H hg1=>?_) (fun s1 g1 H=>?_)
 ·refine aa (av (aa (ab (be tk (zn j1) (bA dr hx1) ?_))));refine ai tk Z ?_;refine bm tk fun b9=>?_
  refine ay tk ?_;refine ac (aa (aa (ab (aJ tk ?_))))
  obtain⟨x18,h18,H⟩:=am H
  have s18:=uh x1 _ h18;refine aj call65 (jt.r) s18 ?_;refine ai tk Z (ac ?_);refine aF Z H (fun H=>?_) (fun H=>?_)
  ·refine ak 2 tk Z ?_;obtain rfl:=aq H;have e1:fl1= .ret _:=hg1;subst e1;obtain rfl:=aZ Hp1;refine bl tk Z (ps:=[(.val (.slice none 0 0)),(ah 3)]) ⟨_,_,rfl,rfl,_,_,rfl,rfl,rfl⟩ (PLe.of2 (pD.tup (jN.cons (pD.nil tk Z) (jN.cons (pD.of_eq Z) jN.nil))))
  refine al (ak 1 tk Z (aa (ab (ag 2 tk Z (aJ tk ?_)))))
  obtain⟨x24,h24,H⟩:=am H
  have s24:=hrec66 c s1 x1 _ h24;refine aj call66 (jt.r) s24 ?_;refine ag 5 tk Z (ac (ak 2 tk Z ?_));refine aF Z H (fun H=>?_) (fun H=>?_)
  ·refine ak 3 tk Z ?_;obtain rfl:=aq H;have e1:fl1= .ret _:=hg1;subst e1;obtain rfl:=aZ Hp1;refine bl tk Z (ps:=[(.val (.slice none 0 0)),(ah x24.2)]) ⟨_,_,rfl,rfl,_,_,rfl,rfl,rfl⟩ (PLe.of2 (pD.tup (jN.cons (pD.nil tk Z) (jN.cons (pD.of_eq Z) jN.nil))))
  refine al (aM (bc 2 tk Z ?_));exact bv () H hl1 hg1
 refine ak 3 tk Z ?_;exact bi tk H Z
def cX(rec43:LProcedureChecker->(List LCol)->(List LProcedureStatement)->Option ((List LCol)×Int))(_rec66:LProcedureChecker->(List LCol)->LProcedureStatement->Option ((List LCol)×Int))(c:LProcedureChecker)(vars:List LCol)(sA:LProcedureStatement):Option ((List LCol)×Int):=
 cond (sA.kind==(1:Int))
  (ae (aG sA.exprs 0) fun(x31:LExpr)=>
  ae (eu c ([]:List LCol) vars x31) fun x33=>
  letP (eE sA.name) fun x40=>
  cond (!x40)
   (some ([],3))
   (cond (x33.2.2 !=(0:Int))
    (some ([],x33.2.2))
    (cond (x33.1==(0:Int))
     (some ([],7))
     (ae (jM vars (LCol.mk sA.name x33.1 x33.2.1)) fun x55=>
     some (x55,0)))))
  (cond (sA.kind==(2:Int))
   (ae (aG sA.exprs 0) fun(x62:LExpr)=>
   ae (eD c ([]:List LCol) vars x62) fun x64=>
   cond (x64 !=(0:Int))
    (some ([],x64))
    (ae (rec43 c vars sA.body) fun x73=>
    cond (x73.2 !=(0:Int))
     (some ([],x73.2))
     (ae (rec43 c vars sA.elseF) fun x84=>
     some (vars,x84.2))))
   (letP (
    cond (sA.kind==(3:Int))
     ((sA.kind==(3:Int)))
     ((sA.kind==(7:Int)))) fun(t1:Bool)=>
   cond t1
    (ae (aG sA.query 0) fun(x98:LQuery)=>
    ae (ir c.s vars x98) fun x100=>
    cond (x100.2 !=(0:Int))
     (some ([],x100.2))
     (ae (aG sA.query 0) fun(x109:LQuery)=>
     ae (ft c x109) fun x111=>
     cond (x111 !=(0:Int))
      (some ([],x111))
      (ae (aU (σ:=List LCol) (ρ:=Empty) (fun(_:Nat) (x2:LCol) (s2:List LCol)=>
       ae (jM s2 x2) fun x124=>
       some (.next x124)) 0 x100.1 vars) fun fl2=>fl2.thenP fun(s2:List LCol)=>
      ae (rec43 c s2 sA.body) fun x131=>
      some (vars,x131.2))))
    (letP (
     cond (sA.kind==(4:Int))
      ((sA.kind==(4:Int)))
      (cond (sA.kind==(5:Int))
       ((sA.kind==(5:Int)))
       ((sA.kind==(6:Int))))) fun(t3:Bool)=>
    cond t3
     (ae (gC c vars sA) fun x144=>
     some (vars,x144))
     (some (vars,0)))))
theorem pR(rec43:LProcedureChecker->(List LCol)->(List LProcedureStatement)->Option ((List LCol)×Int))(rec66:LProcedureChecker->(List LCol)->LProcedureStatement->Option ((List LCol)×Int))(hrec43:∀a0 a1 a2 r,rec43 a0 a1 a2=some r->aY prog 43 [(.agg (bL a0)),(.list 53 (a1.map aB)),(.list 66 (a2.map aH))] (.tup [(.list 53 (r.1.map aB)),(ah r.2)]))(_hrec66:∀a0 a1 a2 r,rec66 a0 a1 a2=some r->aY prog 66 [(.agg (bL a0)),(.list 53 (a1.map aB)),(.agg (aE a2))] (.tup [(.list 53 (r.1.map aB)),(ah r.2)]))(c:LProcedureChecker)(vars:List LCol)(sA:LProcedureStatement)(r:(List LCol)×Int)(H:cX rec43 rec66 c vars sA=some r):
  aY prog 66 [(.agg (bL c)),(.list 53 (vars.map aB)),(.agg (aE sA))] (.tup [(.list 53 (r.1.map aB)),(ah r.2)]):=by
 unfold cX at H;refine PH.au func66 ntmps66 ?_;refine aa (ab (aO ?_));refine aO ?_;refine ag 2 tk Z (ac (aa (ak 2 tk Z (av (ak 2 tk Z ?_)))));refine aF Z H (fun H=>?_) (fun H=>?_)
 ·refine aa (aX tk mok ⟨false,false,[]⟩ [0,1,2,3,4,5,6,7,8,9,10,11,12,13] Z (by decide+kernel) Z (az 4 Z ?_))
  obtain⟨x31,k31,H⟩:=aV H
  refine bE k31.1 (aC dh k31.2) ?_;refine bw Z ?_
  obtain⟨x33,h33,H⟩:=am H
  have s33:=jS c ([]:List LCol) vars x31 _ h33;refine aS call94 (jt.of2 (jN.cons (pD.of_eq Z) (jN.cons (pD.nil tk Z) (jN.cons (pD.of_eq Z) (jN.cons (pD.of_eq Z) jN.nil))))) s33 ?_;refine az 7 Z (aQ (aa (av (aa (ab (ag 2 tk Z ?_))))))
  obtain⟨x40,h40,H⟩:=bF H
  have s40:=mg sA.name;rw[h40]at s40;refine aj call95 (jt.r) s40 ?_;refine ag 2 tk Z (ac ?_);refine aF Z H (fun H=>?_) (fun H=>?_)
  ·refine ak 2 tk Z ?_;obtain rfl:=aq H;refine bl tk Z (ps:=[(.val (.slice none 0 0)),(ah 3)]) ⟨_,_,rfl,rfl,_,_,rfl,rfl,rfl⟩ (PLe.of2 (pD.tup (jN.cons (pD.nil tk Z) (jN.cons (pD.of_eq Z) jN.nil))))
  refine ak 3 tk Z ?_;refine aF Z H (fun H=>?_) (fun H=>?_)
  ·refine ak 3 tk Z ?_;obtain rfl:=aq H;refine bl tk Z (ps:=[(.val (.slice none 0 0)),(ah x33.2.2)]) ⟨_,_,rfl,rfl,_,_,rfl,rfl,rfl⟩ (PLe.of2 (pD.tup (jN.cons (pD.nil tk Z) (jN.cons (pD.of_eq Z) jN.nil))))
  refine ak 3 tk Z ?_;refine aF Z H (fun H=>?_) (fun H=>?_)
  ·refine ak 2 tk Z ?_;obtain rfl:=aq H;refine bl tk Z (ps:=[(.val (.slice none 0 0)),(ah 7)]) ⟨_,_,rfl,rfl,_,_,rfl,rfl,rfl⟩ (PLe.of2 (pD.tup (jN.cons (pD.nil tk Z) (jN.cons (pD.of_eq Z) jN.nil))))
  refine al (aM (aa (ab (ag 6 tk Z ?_))))
  obtain⟨x55,h55,H⟩:=am H
  have s55:=qV vars (LCol.mk sA.name x33.1 x33.2.1) _ h55;refine aj call96 (jt.r) s55 ?_;refine ag 2 tk Z (ac ?_);exact bi tk H Z
 refine ak 2 tk Z ?_;refine aF Z H (fun H=>?_) (fun H=>?_)
 ·refine aa (aa (aX tk mok ⟨false,false,[]⟩ [0,1,2,3,4,5,6,7] Z (by decide+kernel) Z (az 4 Z ?_)))
  obtain⟨x62,k62,H⟩:=aV H
  refine bE k62.1 (aC dh k62.2) ?_;refine bw Z ?_
  obtain⟨x64,h64,H⟩:=am H
  have s64:=lf c ([]:List LCol) vars x62 _ h64;refine aS call97 (jt.of2 (jN.cons (pD.of_eq Z) (jN.cons (pD.nil tk Z) (jN.cons (pD.of_eq Z) (jN.cons (pD.of_eq Z) jN.nil))))) s64 ?_;refine bw Z (aQ (ak 2 tk Z ?_));refine aF Z H (fun H=>?_) (fun H=>?_)
  ·refine ak 3 tk Z ?_;obtain rfl:=aq H;refine bl tk Z (ps:=[(.val (.slice none 0 0)),(ah x64)]) ⟨_,_,rfl,rfl,_,_,rfl,rfl,rfl⟩ (PLe.of2 (pD.tup (jN.cons (pD.nil tk Z) (jN.cons (pD.of_eq Z) jN.nil))))
  refine al (aa (aa (ab (ag 4 tk Z ?_))))
  obtain⟨x73,h73,H⟩:=am H
  have s73:=hrec43 c vars sA.body _ h73;refine aj call43 (jt.r) s73 ?_;refine ag 5 tk Z (ac (ak 2 tk Z ?_));refine aF Z H (fun H=>?_) (fun H=>?_)
  ·refine ak 3 tk Z ?_;obtain rfl:=aq H;refine bl tk Z (ps:=[(.val (.slice none 0 0)),(ah x73.2)]) ⟨_,_,rfl,rfl,_,_,rfl,rfl,rfl⟩ (PLe.of2 (pD.tup (jN.cons (pD.nil tk Z) (jN.cons (pD.of_eq Z) jN.nil))))
  refine al (aa (ab (ag 4 tk Z ?_)))
  obtain⟨x84,h84,H⟩:=am H
  have s84:=hrec43 c vars sA.elseF _ h84;refine aj call43 (jt.r) s84 ?_;refine ag 5 tk Z (ac (ak 4 tk Z ?_));exact bi tk H Z
 refine aa (ak 2 tk Z ?_);refine ed (γ:=Unit) (fun t1 g1=>⟨146,upd (upd (upd (upd (upd (fun _=>.any) 89 (aK t1)) 23 (ah sA.kind)) 5 (.ptr (aE sA))) 3 (.ptr (bL c))) 1 (.list 53 (vars.map aB)),fun _=>none,fun _=>none⟩) H (fun _ H=>?_) (fun t1 g1 H=>?_)
 ·refine aF Z H (fun H=>?_) (fun H=>?_)
  ·refine al ?_;refine aP _ () H Gh.d
  refine bc 2 tk Z ?_;refine aP _ () H Gh.d
 refine aF Z H (fun H=>?_) (fun H=>?_)
 ·refine aa (aX tk mok ⟨false,false,[]⟩ [0,1,2,3,4,5,6,7,8,9,10,11,12] Z (by decide+kernel) Z (az 5 Z ?_))
  obtain⟨x98,k98,H⟩:=aV H
  refine bE k98.1 (aC dd k98.2) ?_;refine bw Z ?_
  obtain⟨x100,h100,H⟩:=am H
  have s100:=ow c.s vars x98 _ h100;refine aS call98 (jt.r) s100 ?_;refine az 5 Z (aQ (aa (ak 2 tk Z ?_)));refine aF Z H (fun H=>?_) (fun H=>?_)
  ·refine ak 3 tk Z ?_;obtain rfl:=aq H;refine bl tk Z (ps:=[(.val (.slice none 0 0)),(ah x100.2)]) ⟨_,_,rfl,rfl,_,_,rfl,rfl,rfl⟩ (PLe.of2 (pD.tup (jN.cons (pD.nil tk Z) (jN.cons (pD.of_eq Z) jN.nil))))
  refine al (aa (aa (aX tk mok ⟨false,false,[]⟩ [0,1,2,3,4,5,6] Z (by decide+kernel) Z (az 3 Z ?_))))
  obtain⟨x109,k109,H⟩:=aV H
  refine bE k109.1 (aC dd k109.2) ?_;refine bw Z ?_
  obtain⟨x111,h111,H⟩:=am H
  have s111:=mf c x109 _ h111;refine aS call99 (jt.r) s111 ?_;refine bw Z (aQ (ak 2 tk Z ?_));refine aF Z H (fun H=>?_) (fun H=>?_)
  ·refine ak 3 tk Z ?_;obtain rfl:=aq H;refine bl tk Z (ps:=[(.val (.slice none 0 0)),(ah x111)]) ⟨_,_,rfl,rfl,_,_,rfl,rfl,rfl⟩ (PLe.of2 (pD.tup (jN.cons (pD.nil tk Z) (jN.cons (pD.of_eq Z) jN.nil))))
  refine al (ak 2 tk Z (aa (aa (ab (ai tk Z (aI tk (zl _) ?_))))));refine ai tk Z (ac ?_);refine gc tk 118 117 116 (fun s2 g2=>upd (upd (upd (upd (fun _=>.any) 19 (.list 53 (s2.map aB))) 5 (.ptr (aE sA))) 3 (.ptr (bL c))) 1 (.list 53 (vars.map aB))) nB nO () H (fun fl2 Hp2 j2 s2 g2 hz2 hl2 x2 fb2 hx2 H hg2=>?_) (fun s2 g2 H=>?_)
  ·refine aa (av (aa (ab ?_)));refine be tk (zn j2) (bA (fun _=>Z) hx2) ?_;refine ai tk Z ?_;refine bm tk fun b21=>?_
   refine ay tk ?_;refine ac (ab (ai tk Z (aJ tk ?_)))
   obtain⟨x124,h124,H⟩:=am H
   have s124:=qV s2 x2 _ h124;refine aj call96 (jt.r) s124 ?_;refine ai tk Z (ac (aM (bc 2 tk Z ?_)));exact bv () H hl2 hg2
  refine aa (ab (ag 4 tk Z ?_))
  obtain⟨x131,h131,H⟩:=am H
  have s131:=hrec43 c s2 sA.body _ h131;refine aj call43 (jt.r) s131 ?_;refine ag 4 tk Z (ac (ak 4 tk Z ?_));exact bi tk H Z
 refine aa (ak 2 tk Z ?_);refine ed (γ:=Unit) (fun t3 g3=>⟨146,upd (upd (upd (upd (fun _=>.any) 136 (aK t3)) 5 (.ptr (aE sA))) 3 (.ptr (bL c))) 1 (.list 53 (vars.map aB)),fun _=>none,fun _=>none⟩) H (fun _ H=>?_) (fun t3 g3 H=>?_)
 ·refine aF Z H (fun H=>?_) (fun H=>?_)
  ·refine al ?_;refine aP _ () H Gh.d
  refine ak 2 tk Z ?_;refine aF Z H (fun H=>?_) (fun H=>?_)
  ·refine al ?_;refine aP _ () H Gh.d
  refine bc 2 tk Z ?_;refine aP _ () H Gh.d
 refine aF Z H (fun H=>?_) (fun H=>?_)
 ·refine aa (ab (ag 4 tk Z ?_))
  obtain⟨x144,h144,H⟩:=am H
  have s144:=pO c vars sA _ h144;refine aj call100 (jt.r) s144 ?_;refine ag 2 tk Z (ac ?_);exact bi tk H Z
 refine al (aM (ak 3 tk Z ?_));exact bi tk H Z
mutual
def cK:Nat->LProcedureChecker->(List LCol)->(List LProcedureStatement)->Option ((List LCol)×Int)
 |0,_,_,_=>none
 |n+1,v0,v1,v2=>dJ (fun b0 b1 b2=>cK n b0 b1 b2) (fun b0 b1 b2=>db n b0 b1 b2) v0 v1 v2
def db:Nat->LProcedureChecker->(List LCol)->LProcedureStatement->Option ((List LCol)×Int)
 |0,_,_,_=>none
 |n+1,v0,v1,v2=>cX (fun b0 b1 b2=>cK n b0 b1 b2) (fun b0 b1 b2=>db n b0 b1 b2) v0 v1 v2
end
theorem pP  (n:Nat):(∀a0 a1 a2 r,cK n a0 a1 a2=some r->aY prog 43 [(.agg (bL a0)),(.list 53 (a1.map aB)),(.list 66 (a2.map aH))] (.tup [(.list 53 (r.1.map aB)),(ah r.2)]))/\(∀a0 a1 a2 r,db n a0 a1 a2=some r->aY prog 66 [(.agg (bL a0)),(.list 53 (a1.map aB)),(.agg (aE a2))] (.tup [(.list 53 (r.1.map aB)),(ah r.2)])):=by
 induction n with
 |zero=>exact⟨(by intros;rename_i h;exact absurd (show(none:Option _)=some _ from h) (by simp)),(by intros;rename_i h;exact absurd (show(none:Option _)=some _ from h) (by simp))⟩
 |succ n ih=>
  exact⟨(fun v0 v1 v2 r h=>pM (fun b0 b1 b2=>cK n b0 b1 b2) (fun b0 b1 b2=>db n b0 b1 b2) ih.1 ih.2 v0 v1 v2  r h),(fun v0 v1 v2 r h=>pR (fun b0 b1 b2=>cK n b0 b1 b2) (fun b0 b1 b2=>db n b0 b1 b2) ih.1 ih.2 v0 v1 v2  r h)⟩
def bN(c:LProcedureChecker)(vars:List LCol)(l:List LProcedureStatement):Option ((List LCol)×Int):=ia fun n=>cK n c vars l
theorem qk(c:LProcedureChecker)(vars:List LCol)(l:List LProcedureStatement)(r:(List LCol)×Int)(H:bN c vars l=some r):
  aY prog 43 [(.agg (bL c)),(.list 53 (vars.map aB)),(.list 66 (l.map aH))] (.tup [(.list 53 (r.1.map aB)),(ah r.2)]):=by
 obtain⟨n,h⟩:=jh H
 exact(pP  n).1 c vars l r h
def cx(c:LProcedureChecker)(vars:List LCol)(sA:LProcedureStatement):Option ((List LCol)×Int):=ia fun n=>db n c vars sA
def lQ(rec134:LRun->LQuery->Option (Rz))(rec156:LRun->LQuery->Option (Rz))(rA:LRun)(q:LQuery):Option (Rz):=
 cond (q.kind==(1:Int))
  (ae (aU (σ:=Unit) (ρ:=(Rz)) (fun(_:Nat) (x1:LRelation) (_:Unit)=>
   cond (x1.table==q.table)
    (some (.ret x1.rows))
    (some (.next ()))) 0 rA.st ()) fun fl1=>fl1.thenR fun(_:Unit)=>
  some [])
  (letP (
   cond (q.kind==(4:Int))
    ((q.kind==(4:Int)))
    ((q.kind==(5:Int)))) fun(t2:Bool)=>
  cond t2
   (ae (rec156 rA q) fun x37=>
   some x37)
   (cond (q.kind==(6:Int))
    (ae (aG q.inputs 0) fun(x43:LQuery)=>
    ae (aG q.inputs 1) fun(x50:LQuery)=>
    ae (rec134 rA x43) fun x45=>
    ae (rec134 rA x50) fun x52=>
    ae (dq 24 x45 x52) fun(x53:Rz)=>
    some x53)
    (cond (q.kind==(7:Int))
     (ae (aG q.inputs 0) fun(x59:LQuery)=>
     ae (aG q.inputs 1) fun(x65:LQuery)=>
     ae (rec134 rA x59) fun x61=>
     ae (rec134 rA x65) fun x67=>
     ae (mB x61 x67) fun x68=>
     some x68)
     (ae (aG q.inputs 0) fun(x72:LQuery)=>
     ae (rec134 rA x72) fun x74=>
     ae (aG q.inputs 0) fun(x78:LQuery)=>
     ae (iD rA x78) fun x80=>
     cond (q.kind==(2:Int))
      (ae (ef x74 (fun a0=>jD a0 rA x80 q)) fun x88=>
      some x88)
      (cond (q.kind==(3:Int))
       (ae (aU (σ:=Rz) (ρ:=Empty) (fun(_:Nat) (x3:Rq) (s3:Rz)=>
        ae (eB rA x80 x3 q.exprs) fun x103=>
        ae (dq 24 s3 ([x103]:Rz)) fun(x105:Rz)=>
        some (.next x105)) 0 x74 []) fun fl3=>fl3.thenP fun(s3:Rz)=>
       some s3)
       (cond (q.kind==(8:Int))
        (ae (jX rA q x80 x74) fun x114=>
        some x114)
        (cond (q.kind==(9:Int))
         (ae (gU rA q x80 x74) fun x121=>
         some x121)
         (ae (nZ x74 (if(x74.length:Int)<q.offset then(x74.length:Int)else q.offset) (iw ((if(x74.length:Int)<q.offset then(x74.length:Int)else q.offset)+(if(iw ((x74.length:Int)-(if(x74.length:Int)<q.offset then(x74.length:Int)else q.offset)))<q.count then(iw ((x74.length:Int)-(if(x74.length:Int)<q.offset then(x74.length:Int)else q.offset)))else q.count)))) fun(x138:Rz)=>
         some x138))))))))
theorem ue(rec134:LRun->LQuery->Option (Rz))(rec156:LRun->LQuery->Option (Rz))(hrec134:∀a0 a1 r,rec134 a0 a1=some r->aY prog 134 [(.agg (eP a0)),(.agg (bg a1))] (.list 46 (r.map (ap 58 af))))(hrec156:∀a0 a1 r,rec156 a0 a1=some r->aY prog 156 [(.agg (eP a0)),(.agg (bg a1))] (.list 46 (r.map (ap 58 af))))(rA:LRun)(q:LQuery)(r:Rz)(H:lQ rec134 rec156 rA q=some r):
  aY prog 134 [(.agg (eP rA)),(.agg (bg q))] (.list 46 (r.map (ap 58 af))):=by
 unfold lQ at H;refine PH.au func134 ntmps134 ?_;refine aa (ab (aO ?_));refine aO ?_;refine ai tk Z (ac (aa (ak 2 tk Z (av (ak 2 tk Z ?_)))));refine aF Z H (fun H=>?_) (fun H=>?_)
 ·refine aa (aa (ab (ag 2 tk Z (aI tk (zl _) ?_))));refine ai tk Z (ac ?_);refine ff tk 20 19 18 (fun s1 g1=>upd (fun _=>.any) 3 (.ptr (bg q))) nB nO () H (fun fl1 Hp1 j1 s1 g1 hz1 hl1 x1 fb1 hx1 H hg1=>?_) (fun s1 g1 H=>?_)
  ·refine aa (av (aa (ab ?_)));refine be tk (zn j1) (bA (fun _=>Z) hx1) ?_;refine ai tk Z ?_;refine bm tk fun b6=>?_
   refine ay tk ?_;refine ac (aa (ab (ai tk Z (aJ tk ?_))));refine ag 3 tk Z (ac ?_);refine aF Z H (fun H=>?_) (fun H=>?_)
   ·refine aa (ab (ai tk Z (aJ tk ?_)));refine ai tk Z (ac ?_);obtain rfl:=aq H;have e1:fl1= .ret _:=hg1;subst e1;obtain rfl:=aZ Hp1;refine bl tk Z (ps:=[(.list 46 (x1.rows.map (ap 58 af)))]) ⟨_,_,rfl,rfl,rfl⟩ (PLe.q Z)
   refine al (aM (bc 2 tk Z ?_));exact bv () H hl1 hg1
  refine ak 1 tk Z ?_;obtain rfl:=aq H;refine bl tk Z (ps:=[(.val (.slice none 0 0))]) ⟨_,_,rfl,rfl,rfl⟩ (PLe.of2 (pD.nil tk Z))
 refine aa (ak 2 tk Z ?_);refine ed (γ:=Unit) (fun t2 g2=>⟨139,upd (upd (upd (upd (fun _=>.any) 32 (aK t2)) 14 (ah q.kind)) 3 (.ptr (bg q))) 2 (.ptr (eP rA)),fun _=>none,fun _=>none⟩) H (fun _ H=>?_) (fun t2 g2 H=>?_)
 ·refine aF Z H (fun H=>?_) (fun H=>?_)
  ·refine al ?_;refine aP _ () H Gh.d
  refine bc 2 tk Z ?_;refine aP _ () H Gh.d
 refine aF Z H (fun H=>?_) (fun H=>?_)
 ·refine aa (ab (ag 2 tk Z ?_))
  obtain⟨x37,h37,H⟩:=am H
  have s37:=hrec156 rA q _ h37;refine aj call156 (jt.r) s37 ?_;refine ai tk Z (ac ?_);exact bi tk H Z
 refine ak 2 tk Z ?_;refine aF Z H (fun H=>?_) (fun H=>?_)
 ·refine aa (aX tk mok ⟨false,false,[]⟩ [0,1,2,3,4,7,8,9,10,11,5,6,12,13,14] Z (by decide+kernel) Z (az 3 Z ?_))
  obtain⟨x43,k43,H⟩:=aV H
  refine bE k43.1 (aC dd k43.2) ?_;refine az 4 Z ?_
  obtain⟨x50,k50,H⟩:=aV H
  refine bE k50.1 (aC dd k50.2) ?_;refine bw Z ?_
  obtain⟨x45,h45,H⟩:=am H
  have s45:=hrec134 rA x43 _ h45;refine aS call134 (jt.r) s45 ?_;have s46:=qO (m:=46) x45;refine qm (g:=157) Z Z Z Z call157 (jt.r) Z Z s46 (fun g46=>?_)
  obtain⟨x52,h52,H⟩:=am H
  have s52:=hrec134 rA x50 _ h52;refine aS call134 (jt.r) s52 ?_
  obtain⟨x53,h53,H⟩:=am H
  have k53:=cj h53;refine gz (rows2':=List.map (ap 58 af) x52) (rows':=List.map (ap 58 af) x53) tk Z Z Z Z Z Z Z Z Z Z Z Z Z Z (gP.refl _) (cU k53.1) (cW k53.2.1) (cV k53.2.2) fun g53=>?_
  refine bw Z (aQ (cT 4 Z Z Z ?_));exact bi tk H Z
 refine ak 2 tk Z ?_;refine aF Z H (fun H=>?_) (fun H=>?_)
 ·refine aa (aX tk mok ⟨false,false,[]⟩ [0,1,2,3,4,6,7,8,9,10,5,11,12,13] Z (by decide+kernel) Z (az 3 Z ?_))
  obtain⟨x59,k59,H⟩:=aV H
  refine bE k59.1 (aC dd k59.2) ?_;refine az 4 Z ?_
  obtain⟨x65,k65,H⟩:=aV H
  refine bE k65.1 (aC dd k65.2) ?_;refine bw Z ?_
  obtain⟨x61,h61,H⟩:=am H
  have s61:=hrec134 rA x59 _ h61;refine aS call134 (jt.r) s61 ?_
  obtain⟨x67,h67,H⟩:=am H
  have s67:=hrec134 rA x65 _ h67;refine aS call134 (jt.r) s67 ?_
  obtain⟨x68,h68,H⟩:=am H
  have s68:=W_query_less x61 x67 _ h68;refine aS call158 (jt.r) s68 ?_;refine bw Z (aQ ?_);exact bi tk H Z
 refine al (aM (aa (aX tk mok ⟨false,false,[]⟩ [0,1,2,3,4,5,6] Z (by decide+kernel) Z (az 3 Z ?_))))
 obtain⟨x72,k72,H⟩:=aV H
 refine bE k72.1 (aC dd k72.2) ?_;refine bw Z ?_
 obtain⟨x74,h74,H⟩:=am H
 have s74:=hrec134 rA x72 _ h74;refine aS call134 (jt.r) s74 ?_;refine bw Z (aQ (aa (aX tk mok ⟨false,false,[]⟩ [0,1,2,3,4,5,6,7] Z (by decide+kernel) Z (az 3 Z ?_))))
 obtain⟨x78,k78,H⟩:=aV H
 refine bE k78.1 (aC dd k78.2) ?_;refine bw Z ?_
 obtain⟨x80,h80,H⟩:=am H
 have s80:=nv rA x78 _ h80;refine aS call159 (jt.r) s80 ?_;refine nj Z Z Z Z Z Z Z Z fun b8=>?_
 refine fM Z Z Z Z Z Z Z Z Z Z Z Z (aQ (aa (ak 2 tk Z (av (ak 2 tk Z ?_)))));refine aF Z H (fun H=>?_) (fun H=>?_)
 ·refine aa (ab (ai tk Z ?_));have s86:=qO (m:=86) x74;refine jj call157 (jt.r) s86 (fun g86=>?_);refine bS (Gh.freezeB 8 Z Z Z Z) (ai tk Z ?_)
  obtain⟨x88,h88,H⟩:=am H
  have s88:=my g86 x74 (fun a0=>jD a0 rA x80 q) call161 (fun a0 r h=>sV a0 rA x80 q r h) _ h88;refine bB (g:=160) Z Z Z call160 [] [(86,0)] Z Z Z Z (jt.of2 (jN.cons (pD.own Z) (jN.cons (pD.of_eq Z) jN.nil))) (by rw[bq,aW,bn];rfl) s88 ?_;rintro u88 H88h ⟨rfl,rfl⟩
  refine⟨_,rfl,?_⟩
  refine bS (st':=⟨_,_,fun _=>none,upd (fun _=>none) 86 (some ⟨g86,46,(x88.map (ap 58 af)),true⟩)⟩) (Gh.le (bs _ _) aw (aD ax)) ?_;refine je 88 (q:=(.own 86 g86 (x88.map (ap 58 af)).length)) Z (PLe.of2 (pD.own Z)) (ai tk Z (ac (cT 4 Z Z Z ?_)));exact bi tk H Z
 refine ak 2 tk Z ?_;refine aF Z H (fun H=>?_) (fun H=>?_)
 ·refine ak 1 tk Z (aa (aa (ab (ai tk Z (aI tk (zl _) ?_)))));refine ai tk Z (ac ?_)
  obtain⟨fl3,H3,Hp3⟩:=am H
  refine iI tk 91 Z Z (fun hz3 _=>?_);rw[zl]at hz3;refine dj (τ:=Rz) (γ:=OwnRef) (fun s3 g3=>⟨139,upd (upd (upd (fun _=>.any) 9 (.own 105 g3 (s3.map (ap 58 af)).length)) 3 (.ptr (bg q))) 2 (.ptr (eP rA)),fun _=>none,upd (fun _=>none) 105 (some ⟨g3,46,(s3.map (ap 58 af)),true⟩)⟩) (fun t=>fl3= .next t) ?_ (fun s3 g3 hn3=>?_)
  ·refine av (hZ tk 9 105 (e:=46) Z Z ?_);refine iU (fun j3 s3 g3=>⟨139,upd (upd (upd (upd (upd (upd (upd (fun _=>.any) 93 (ah (j3:Int))) 92 (ah (x74.length:Int))) 91 (.list 46 (x74.map (ap 58 af)))) 9 (.own 105 g3 (s3.map (ap 58 af)).length)) 8 (.box 8 b8 0)) 3 (.ptr (bg q))) 2 (.ptr (eP rA)),upd (fun _=>none) 8 (some ⟨b8,[(.list 53 (x80.map aB))]⟩),upd (fun _=>none) 105 (some ⟨g3,46,(s3.map (ap 58 af)),true⟩)⟩) (⟨none,0⟩) H3 Gh.d (fun j3 s3 g3 hj3 hr3=>?_);refine ak 1 tk Z (aa ?_);refine bJ Z (fun h=>?_) (fun h=>?_)
   ·have hl3:=pe h
    obtain⟨x3,fb3,hx3,H,hg3⟩:=rMc hl3 hr3
    refine al (aa (av (aa (ab ?_))));refine be tk (zn j3) (bA (fun _=>Z) hx3) ?_;refine ag 2 tk Z (ac (ab (ag 2 tk Z (aJ tk ?_))));refine ag 3 tk Z ?_
    obtain⟨x103,h103,H⟩:=am H
    have s103:=lk rA x80 x3 q.exprs _ h103;refine aj call163 (jt.r) s103 ?_;refine cy tk (rows':=List.map (ap 58 af) ([x103]:Rz)) (gP.refl _) ?_
    obtain⟨x105,h105,H⟩:=am H
    have k105:=cj h105;refine cv (rows2':=List.map (ap 58 af) ([x103]:Rz)) (rows':=List.map (ap 58 af) x105) tk Z Z Z Z Z Z Z Z Z Z Z Z Z (gP.refl _) (cU k105.1) (cW k105.2.1) (cV k105.2.2) fun g105=>?_
    refine ai tk Z (ac (aM (bc 2 tk Z ?_)));exact bv g105 H hl3 hg3
   have hn3:=rMd (pf h) hr3;refine bj Z ?_;refine aP s3 g3 hn3 Gh.d
  have H:=ci hn3 Hp3;refine ak 2 tk Z (cT 4 Z Z Z ?_);exact bi tk H Z
 refine ak 2 tk Z ?_;refine aF Z H (fun H=>?_) (fun H=>?_)
 ·refine aa (ab (ag 2 tk Z (aJ tk ?_)));refine ai tk Z ?_
  obtain⟨x114,h114,H⟩:=am H
  have s114:=ug rA q x80 x74 _ h114;refine aj call164 (jt.r) s114 ?_;refine ai tk Z (ac ?_);exact bi tk H Z
 refine ak 2 tk Z ?_;refine aF Z H (fun H=>?_) (fun H=>?_)
 ·refine aa (ab (ag 2 tk Z (aJ tk ?_)));refine ai tk Z ?_
  obtain⟨x121,h121,H⟩:=am H
  have s121:=uJ rA q x80 x74 _ h121;refine aj call165 (jt.r) s121 ?_;refine ai tk Z (ac ?_);exact bi tk H Z
 refine al (aM (aa (ab (ag 3 tk Z (aI tk (zl _) ?_)))));refine ag 2 tk Z (ac (aa (ab (ag 6 tk Z (aI tk (zl _) ?_)))));refine ag 4 tk Z ?_
 obtain⟨x138,h138,H⟩:=am H
 have k138:=nz h138;refine uU tk Z Z Z Z Z (zl _) Z Z k138.1 (oz k138.2) Z (ai tk Z (ac ?_));exact bi tk H Z
def kx(rec134:LRun->LQuery->Option (Rz))(_rec156:LRun->LQuery->Option (Rz))(rA:LRun)(q:LQuery):Option (Rz):=
 ae (aG q.inputs 0) fun(x19:LQuery)=>
 ae (aG q.inputs 1) fun(x25:LQuery)=>
 ae (rec134 rA x19) fun x21=>
 ae (rec134 rA x25) fun x27=>
 ae (aG q.inputs 1) fun(x31:LQuery)=>
 ae (iD rA x31) fun x33=>
 ae (aG q.inputs 0) fun(x37:LQuery)=>
 ae (iD rA x37) fun x39=>
 ae (dq 32 x39 x33) fun(x42:List LCol)=>
 ae (aU (σ:=List LCol×Rz) (ρ:=Empty) (fun(_:Nat) (x1:Rq) (s1:List LCol×Rz)=>
  ae (aU (σ:=Rz×Bool) (ρ:=Empty) (fun(_:Nat) (x6:Rq) (s6:Rz×Bool)=>
   ae (cB ([x1,x6]:Rz)) fun x58=>
   ae (aG q.exprs 0) fun(x65:LExpr)=>
   letP (bY rA s1.1 x58) fun x62=>
   letP (et x62 x65) fun x67=>
   letP (lu x67) fun x68=>
   cond x68
    (ae (dq 24 s6.1 ([x58]:Rz)) fun(x72:Rz)=>
    some (.next (x72,true)))
    (some (.next (s6.1,s6.2)))) 0 x27 (s1.2,false)) fun fl6=>fl6.thenP fun(s6:Rz×Bool)=>
  letP (
   cond (!s6.2)
    ((q.kind==(5:Int)))
    (false)) fun(t7:Bool)=>
  cond t7
   (ae (qE 32 (x33.length:Int)) fun(_:Unit)=>
   ae (cB ([x1,(List.replicate (x33.length:Int).toNat (LVal.mk 0 0 []))]:Rz)) fun x87=>
   ae (dq 24 s6.1 ([x87]:Rz)) fun(x89:Rz)=>
   some (.next (s1.1,x89)))
   (some (.next (s1.1,s6.1)))) 0 x21 (x42,[])) fun fl1=>fl1.thenP fun(s1:List LCol×Rz)=>
 some s1.2
theorem uj(rec134:LRun->LQuery->Option (Rz))(rec156:LRun->LQuery->Option (Rz))(hrec134:∀a0 a1 r,rec134 a0 a1=some r->aY prog 134 [(.agg (eP a0)),(.agg (bg a1))] (.list 46 (r.map (ap 58 af))))(_hrec156:∀a0 a1 r,rec156 a0 a1=some r->aY prog 156 [(.agg (eP a0)),(.agg (bg a1))] (.list 46 (r.map (ap 58 af))))(rA:LRun)(q:LQuery)(r:Rz)(H:kx rec134 rec156 rA q=some r):
  aY prog 156 [(.agg (eP rA)),(.agg (bg q))] (.list 46 (r.map (ap 58 af))):=by
 unfold kx at H;refine PH.au func156 ntmps156 ?_;refine aa (ab (aO ?_));refine aO ?_;refine ai tk Z (ac (aa (aX tk mok ⟨false,false,[]⟩ [0,1,2,3,4,6,7,8,9,10,5,11,12,13] Z (by decide+kernel) Z (az 3 Z ?_))))
 obtain⟨x19,k19,H⟩:=aV H
 refine bE k19.1 (aC dd k19.2) ?_;refine az 4 Z ?_
 obtain⟨x25,k25,H⟩:=aV H
 refine bE k25.1 (aC dd k25.2) ?_;refine bw Z ?_
 obtain⟨x21,h21,H⟩:=am H
 have s21:=hrec134 rA x19 _ h21;refine aS call134 (jt.r) s21 ?_
 obtain⟨x27,h27,H⟩:=am H
 have s27:=hrec134 rA x25 _ h27;refine aS call134 (jt.r) s27 ?_;refine az 2 Z (aQ (aa (aX tk mok ⟨false,false,[]⟩ [0,1,2,3,4,5,6] Z (by decide+kernel) Z (az 3 Z ?_))))
 obtain⟨x31,k31,H⟩:=aV H
 refine bE k31.1 (aC dd k31.2) ?_;refine bw Z ?_
 obtain⟨x33,h33,H⟩:=am H
 have s33:=nv rA x31 _ h33;refine aS call159 (jt.r) s33 ?_;refine bw Z (aQ (aa (aX tk mok ⟨false,false,[]⟩ [0,1,2,3,4,7,5,6,8,9] Z (by decide+kernel) Z (az 3 Z ?_))))
 obtain⟨x37,k37,H⟩:=aV H
 refine bE k37.1 (aC dd k37.2) ?_;refine az 2 Z ?_
 obtain⟨x39,h39,H⟩:=am H
 have s39:=nv rA x37 _ h39;refine aS call159 (jt.r) s39 ?_;have s40:=nD (m:=40) x39;refine qm (g:=104) Z Z Z Z call104 (jt.r) Z Z s40 (fun g40=>?_)
 obtain⟨x42,h42,H⟩:=am H
 have k42:=cj h42;refine gz (rows2':=List.map aB x33) (rows':=List.map aB x42) tk Z Z Z Z Z Z Z Z Z Z Z Z Z Z (gP.refl _) (cU k42.1) (cW k42.2.1) (cV k42.2.2) fun g42=>?_
 refine bw Z (aQ (ak 1 tk Z (aa (aa (ab (ai tk Z (aI tk (zl _) ?_)))))));refine ai tk Z (ac (cT 8 Z Z Z (hZ tk 9 72 (e:=46) Z Z ?_)));refine vc (γ:=OwnRef) tk 43 Z Z (fun s1 g1=>upd (upd (upd (upd (upd (fun _=>.any) 9 (.own 72 g1 (s1.2.map (ap 58 af)).length)) 7 (.list 53 (x33.map aB))) 6 (.list 46 (x27.map (ap 58 af)))) 3 (.ptr (bg q))) 2 (.ptr (eP rA))) nB (fun s1 g1=>upd (fun _=>none) 72 (some ⟨g1,46,(s1.2.map (ap 58 af)),true⟩)) (fun e j1 s1 g1=>upd (upd (upd (upd e 45 (ah (j1:Int))) 44 (ah (x21.length:Int))) 43 (.list 46 (x21.map (ap 58 af)))) 8 (.list 53 (s1.1.map aB))) (⟨none,0⟩) H Z Gh.d (fun _ _ _=>rfl) (fun _ _ _=>rfl) (fun _ _ _=>Gh.d) (fun fl1 Hp1 j1 s1 g1 hz1 hl1 x1 fb1 hx1 H hg1=>?_) (fun s1 g1 H=>?_)
 ·refine aa (av (aa (ab ?_)));refine be tk (zn j1) (bA (fun _=>Z) hx1) ?_;refine ag 2 tk Z (ac (ak 1 tk Z (aa (aa (ab (ai tk Z (aI tk (zl _) ?_)))))));refine ai tk Z (ac ?_);refine gc (γ:=OwnRef) tk 51 50 49 (fun s6 g6=>upd (upd (upd (upd (upd (upd (upd (upd (upd (upd (upd (fun _=>.any) 45 (ah (j1:Int))) 44 (ah (x21.length:Int))) 43 (.list 46 (x21.map (ap 58 af)))) 12 (aK s6.2)) 11 (.list 58 (x1.map af))) 9 (.own 72 g6 (s6.1.map (ap 58 af)).length)) 8 (.list 53 (s1.1.map aB))) 7 (.list 53 (x33.map aB))) 6 (.list 46 (x27.map (ap 58 af)))) 3 (.ptr (bg q))) 2 (.ptr (eP rA))) nB (fun s6 g6=>upd (fun _=>none) 72 (some ⟨g6,46,(s6.1.map (ap 58 af)),true⟩)) g1 H (fun fl6 Hp6 j6 s6 g6 hz6 hl6 x6 fb6 hx6 H hg6=>?_) (fun s6 g6 H=>?_)
  ·refine aa (av (aa (ab ?_)));refine be tk (zn j6) (bA (fun _=>Z) hx6) ?_;refine ag 2 tk Z (ac (aa (ab (ag 2 tk Z (cy tk (rows':=List.map (ap 58 af) ([x1,x6]:Rz)) (gP.refl _) ?_)))))
   obtain⟨x58,h58,H⟩:=am H
   have s58:=kh (m:=58) ([x1,x6]:Rz) _ h58;refine aj call179 (jt.r) (PFun.iw s58) ?_;refine ai tk Z (ac (aa (aX tk mok ⟨false,false,[]⟩ [0,1,2,4,5,6,7,3,8,9] Z (by decide+kernel) Z (az 5 Z ?_))))
   obtain⟨x65,k65,H⟩:=aV H
   refine bE k65.1 (aC dh k65.2) ?_;refine bw Z ?_
   obtain⟨x62,h62,H⟩:=bF H
   have s62:=mm rA s1.1 x58;rw[h62]at s62;refine aS call162 (jt.r) s62 ?_
   obtain⟨x67,h67,H⟩:=bF H
   have s67:=nG x62 x65;rw[h67]at s67;refine aS call107 (jt.r) s67 ?_
   obtain⟨x68,h68,H⟩:=bF H
   have s68:=isTS x67;rw[h68]at s68;refine aS call70 (jt.r) s68 ?_;refine aQ ?_;refine aF Z H (fun H=>?_) (fun H=>?_)
   ·refine aa (ab (ag 2 tk Z (cy tk (rows':=List.map (ap 58 af) ([x58]:Rz)) (gP.refl _) ?_)))
    obtain⟨x72,h72,H⟩:=am H
    have k72:=cj h72;refine cv (rows2':=List.map (ap 58 af) ([x58]:Rz)) (rows':=List.map (ap 58 af) x72) tk Z Z Z Z Z Z Z Z Z Z Z Z Z (gP.refl _) (cU k72.1) (cW k72.2.1) (cV k72.2.2) fun g72=>?_
    refine ai tk Z (ac (bc 1 tk Z (aM (bc 2 tk Z ?_))));exact bv g72 H hl6 hg6
   refine al (aM (bc 2 tk Z ?_));exact bv g6 H hl6 hg6
  refine aa ?_;refine ed (γ:=Unit) (fun t7 g7=>⟨92,upd (upd (upd (upd (upd (upd (upd (upd (upd (upd (upd (fun _=>.any) 80 (aK t7)) 45 (ah (j1:Int))) 44 (ah (x21.length:Int))) 43 (.list 46 (x21.map (ap 58 af)))) 11 (.list 58 (x1.map af))) 9 (.own 72 g6 (s6.1.map (ap 58 af)).length)) 8 (.list 53 (s1.1.map aB))) 7 (.list 53 (x33.map aB))) 6 (.list 46 (x27.map (ap 58 af)))) 3 (.ptr (bg q))) 2 (.ptr (eP rA)),fun _=>none,upd (fun _=>none) 72 (some ⟨g6,46,(s6.1.map (ap 58 af)),true⟩)⟩) H (fun _ H=>?_) (fun t7 g7 H=>?_)
  ·refine ab (ag 3 tk Z ?_);refine bu Z Z Z H (fun H=>?_) (fun H=>?_)
   ·refine ag 4 tk Z (ac ?_);refine aP _ () H Gh.d
   refine ag 4 tk Z (ac ?_);refine aP _ () H Gh.d
  refine aF Z H (fun H=>?_) (fun H=>?_)
  ·refine ab (ag 3 tk Z (aI tk (zl _) ?_))
   obtain⟨_,h85,H⟩:=am H
   have k85:=growI_some h85;refine vH (rows:=List.map af (List.replicate (x33.length:Int).toNat (LVal.mk 0 0 []))) tk Z Z Z Z Z Z Z Z Z Z k85.1 k85.2.1 k85.2.2 (by rw[List.map_replicate];rfl) fun g85=>?_
   refine bS (Gh.freezeO 85 Z Z Z) (cy tk (rows':=List.map (ap 58 af) ([x1,(List.replicate (x33.length:Int).toNat (LVal.mk 0 0 []))]:Rz)) (gP.refl _) ?_)
   obtain⟨x87,h87,H⟩:=am H
   have s87:=kh (m:=87) ([x1,(List.replicate (x33.length:Int).toNat (LVal.mk 0 0 []))]:Rz) _ h87;refine aj call179 (jt.r) (PFun.iw s87) ?_;refine cy tk (rows':=List.map (ap 58 af) ([x87]:Rz)) (gP.refl _) ?_
   obtain⟨x89,h89,H⟩:=am H
   have k89:=cj h89;refine cv (rows2':=List.map (ap 58 af) ([x87]:Rz)) (rows':=List.map (ap 58 af) x89) tk Z Z Z Z Z Z Z Z Z Z Z Z Z (gP.refl _) (cU k89.1) (cW k89.2.1) (cV k89.2.2) fun g89=>?_
   refine ai tk Z (ac (aM (bc 2 tk Z ?_)));exact bv g89 H hl1 hg1
  refine al (aM (bc 2 tk Z ?_));exact bv g6 H hl1 hg1
 refine ak 2 tk Z (cT 4 Z Z Z ?_);exact bi tk H Z
mutual
def gg:Nat->LRun->LQuery->Option (Rz)
 |0,_,_=>none
 |n+1,v0,v1=>lQ (fun b0 b1=>gg n b0 b1) (fun b0 b1=>iA n b0 b1) v0 v1
def iA:Nat->LRun->LQuery->Option (Rz)
 |0,_,_=>none
 |n+1,v0,v1=>kx (fun b0 b1=>gg n b0 b1) (fun b0 b1=>iA n b0 b1) v0 v1
end
theorem ul  (n:Nat):(∀a0 a1 r,gg n a0 a1=some r->aY prog 134 [(.agg (eP a0)),(.agg (bg a1))] (.list 46 (r.map (ap 58 af))))/\(∀a0 a1 r,iA n a0 a1=some r->aY prog 156 [(.agg (eP a0)),(.agg (bg a1))] (.list 46 (r.map (ap 58 af)))):=by
 induction n with
 |zero=>exact⟨(by intros;rename_i h;exact absurd (show(none:Option _)=some _ from h) (by simp)),(by intros;rename_i h;exact absurd (show(none:Option _)=some _ from h) (by simp))⟩
 |succ n ih=>
  exact⟨(fun v0 v1 r h=>ue (fun b0 b1=>gg n b0 b1) (fun b0 b1=>iA n b0 b1) ih.1 ih.2 v0 v1  r h),(fun v0 v1 r h=>uj (fun b0 b1=>gg n b0 b1) (fun b0 b1=>iA n b0 b1) ih.1 ih.2 v0 v1  r h)⟩
def nr(rA:LRun)(q:LQuery):Option (Rz):=ia fun n=>gg n rA q
theorem uD(rA:LRun)(q:LQuery)(r:Rz)(H:nr rA q=some r):
  aY prog 134 [(.agg (eP rA)),(.agg (bg q))] (.list 46 (r.map (ap 58 af))):=by
 obtain⟨n,h⟩:=jh H
 exact(ul  n).1 rA q r h
def iS(rA:LProcedureRun)(sA:LProcedureStatement):Option (Int×LProcedureRun):=
 ae (cI rA.s.tables (fun a0=>some (gu a0 sA))) fun x22=>
 ae (aG rA.s.tables x22) fun(x29:LTable)=>
 ae (aG rA.st x22) fun(x36:LRelation)=>
 ae (aU (σ:=LProcedureRun) (ρ:=(Int×LProcedureRun)) (fun(_:Nat) (x1:Rq) (s1:LProcedureRun)=>
  ae (aG sA.whereF 0) fun(x50:LExpr)=>
  ae (eG s1 x29.columns x1 x50) fun x52=>
  letP (lu x52.1) fun x53=>
  cond (!x53)
   (some (.next x52.2))
   (ae (aU (σ:=Rq) (ρ:=Empty) (fun(_:Nat) (x22:Int) (s22:Rq)=>
    ae (aG x1 x22) fun(x69:LVal)=>
    ae (dq 32 s22 ([x69]:Rq)) fun(x72:Rq)=>
    some (.next x72)) 0 x29.primaryKey []) fun fl22=>fl22.thenP fun(s22:Rq)=>
   ae (
    cond (sA.kind==(5:Int))
     (ae (aU (σ:=LProcedureRun×Rq) (ρ:=Empty) (fun(j28:Nat) (x28:LExpr) (s28:LProcedureRun×Rq)=>
      ae (bO x29.columns (fun a0=>gq a0 sA (j28:Int))) fun x94=>
      ae (eG s28.1 x29.columns x1 x28) fun x103=>
      ae (aG s28.2 x94) fun(_:LVal)=>
      letP (s28.2.set x94.toNat x103.1) fun(y31:Rq)=>
      some (.next (x103.2,y31))) 0 sA.exprs (x52.2,x1)) fun fl28=>fl28.thenP fun(s28:LProcedureRun×Rq)=>
     some (s28.1,1,[],s28.2))
     (some (x52.2,2,s22,[]))) fun(t27:LProcedureRun×Int×Rq×Rq)=>
   ae (gI t27.1 (LChange.mk t27.2.1 sA.table t27.2.2.1 t27.2.2.2)) fun x108=>
   cond (x108.1 !=(0:Int))
    (some (.ret (x108.1,x108.2)))
    (some (.next x108.2)))) 0 x36.rows rA) fun fl1=>fl1.thenR fun(s1:LProcedureRun)=>
 some (0,s1)
theorem sc(b_rA:Nat)(g_rA_7:OwnRef)(g_rA_8:OwnRef)(rA:LProcedureRun)(sA:LProcedureStatement)(r:Int×LProcedureRun)(H:iS rA sA=some r):
  PH prog 74 [(.box 1500 b_rA 0),(.agg (aE sA))] ⟨(bR b_rA rA g_rA_7 g_rA_8),(oR rA g_rA_7 g_rA_8)⟩ (fun u H=>∃gz0_7,∃gz0_8,u=(ah r.1)/\H=⟨(bR b_rA r.2 gz0_7 gz0_8),(oR r.2 gz0_7 gz0_8)⟩):=by
 unfold iS at H;refine PH.au func74 ntmps74 ?_;refine aa (ab (aO ?_));refine ai tk Z (ac (aa (ab (ag 4 tk Z (aJ tk ?_)))));refine ai tk Z ?_
 obtain⟨x22,h22,H⟩:=am H
 have s22:=eM rA.s.tables (fun a0=>some (gu a0 sA)) call109 (fun a0 r h=>(aq h)▸re a0 sA) _ h22;refine aj call47 (jt.r) s22 ?_;refine ai tk Z (ac (aa (ab (ag 4 tk Z (aJ tk ?_)))));refine ai tk Z ?_
 obtain⟨x29,k29,H⟩:=aV H
 refine be tk k29.1 (aC (fun _=>Z) k29.2) ?_;refine ai tk Z ?_;refine bm tk fun b6=>?_
 refine ay tk ?_;refine ac (aa (aa (ab (ag 3 tk Z (aJ tk ?_)))));refine ai tk Z ?_
 obtain⟨x36,k36,H⟩:=aV H
 refine be tk k36.1 (aC (fun _=>Z) k36.2) ?_;refine ag 2 tk Z (aI tk (zl _) ?_);refine ai tk Z (ac (qQ 6 Z Z Z Z ?_));refine ff (γ:=OwnRef×OwnRef) tk 40 39 38 (fun s1 g1=>upd (upd (upd (fun _=>.any) 6 (.ptr (bM x29))) 3 (.ptr (aE sA))) 0 (.box 1500 b_rA 0)) (fun s1 g1=>(bR b_rA s1 g1.1 g1.2)) (fun s1 g1=>(oR s1 g1.1 g1.2)) (g_rA_7,g_rA_8) H (fun fl1 Hp1 j1 s1 g1 hz1 hl1 x1 fb1 hx1 H hg1=>?_) (fun s1 g1 H=>?_)
 ·refine aa (av (aa (ab ?_)));refine be tk (zn j1) (bA (fun _=>Z) hx1) ?_;refine ag 2 tk Z (ac (aa (aa (aX tk mok ⟨false,false,[999997]⟩ [0,1,2,3,4,5,6,7,8,9,10] Z (by decide+kernel) Z (az 6 Z ?_)))))
  obtain⟨x50,k50,H⟩:=aV H
  refine bE k50.1 (aC dh k50.2) ?_;refine bw Z ?_
  obtain⟨x52,h52,H⟩:=am H
  have s52:=iY b_rA g1.1 g1.2 s1 x29.columns x1 x50 _ h52;refine pl (g:=69) Z Z Z Z call69 Z Z [(1500,1500)] [(1607,1607),(1608,1608)] Z Z Z Z (jt.of2 (jN.cons pD.boxT (jN.cons (pD.of_eq Z) (jN.cons (pD.of_eq Z) (jN.cons (pD.of_eq Z) jN.nil))))) (by rw[cf,bq,aW,aW,bn];rfl) s52 ?_;rintro u52 H52h ⟨gz52_1607,gz52_1608,rfl,rfl⟩
  refine⟨_,rfl,?_⟩
  obtain⟨x53,h53,H⟩:=bF H
  have s53:=isTS x52.1;rw[h53]at s53;refine aS call70 (jt.r) s53 ?_;refine bw Z (aQ (bZ (st':=⟨_,_,(bR b_rA x52.2 gz52_1607 gz52_1608),(oR x52.2 gz52_1607 gz52_1608)⟩) (Gh.le (bs _ _) (aR Z (jt.r) aw) (aD (aD ax))) ?_));refine aF Z H (fun H=>?_) (fun H=>?_)
  ·refine bj Z (bc 2 tk Z ?_);exact bv (gz52_1607,gz52_1608) H hl1 hg1
  refine al (aa (ab (ag 3 tk Z ?_)));refine bm tk fun b9=>?_
  refine ay tk ?_;refine ac (aa (aa (ab (ag 2 tk Z (aI tk (zl _) ?_)))));refine ai tk Z (ac (nH tk 9 2 72 (e:=58) Z Z Z Z ?_));refine gc (γ:=OwnRef) tk 61 60 59 (fun s22 g22=>upd (upd (upd (upd (upd (upd (upd (upd (fun _=>.any) 40 (ah (j1:Int))) 39 (ah (x36.rows.length:Int))) 38 (.list 46 (x36.rows.map (ap 58 af)))) 9 (.box 9 b9 0)) 8 (.list 58 (x1.map af))) 6 (.ptr (bM x29))) 3 (.ptr (aE sA))) 0 (.box 1500 b_rA 0)) (fun s22 g22=>upd (bR b_rA x52.2 gz52_1607 gz52_1608) 9 (some ⟨b9,[(ah 2),(.str sA.table),(.own 72 g22 (s22.map af).length),(.val (.slice none 0 0))]⟩)) (fun s22 g22=>upd (upd (upd (fun _=>none) 72 (some ⟨g22,58,(s22.map af),true⟩)) 1608 (some ⟨gz52_1608,180,(x52.2.results.map cN),true⟩)) 1607 (some ⟨gz52_1607,48,(x52.2.changes.map cu),true⟩)) (⟨none,0⟩) H (fun fl22 Hp22 j22 s22 g22 hz22 hl22 x22 fb22 hx22 H hg22=>?_) (fun s22 g22 H=>?_)
  ·refine aa (av (aa (ab ?_)));refine be tk (zn j22) (bA (fun _=>Z) hx22) ?_;refine ag 2 tk Z (ac ?_);refine cA (tag:=1607) Z (fun ho1607=>?_);refine cA (tag:=1608) Z (fun ho1608=>?_);refine cA (tag:=72) Z (fun ho72=>?_);refine aX tk mok ⟨true,false,[70]⟩ [0,1,2,3,4,5,6,7,8,9] Z (by decide+kernel) Z (bw Z (bd ?_));refine az 2 Z ?_
   obtain⟨x69,k69,H⟩:=aV H
   refine bE k69.1 (aC (fun _=>Z) k69.2) ?_;refine az 2 Z ?_
   obtain⟨x72,h72,H⟩:=am H
   have k72:=cj h72;refine gz (rows2':=List.map af ([x69]:Rq)) (rows':=List.map af x72) tk Z Z Z Z Z Z Z Z Z Z Z Z Z Z (gP.refl _) (cU k72.1) (cW k72.2.1) (cV k72.2.2) fun g72=>?_
   refine bw Z (fM Z Z Z Z Z Z Z Z Z Z Z Z (aQ (aM (bc 2 tk Z ?_))));exact bv g72 H hl22 hg22
  refine aa (ak 3 tk Z ?_);refine ee (γ:=OwnRef×OwnRef×OwnRef×OwnRef) (fun t27 g27=>⟨113,upd (upd (upd (upd (upd (upd (upd (fun _=>.any) 40 (ah (j1:Int))) 39 (ah (x36.rows.length:Int))) 38 (.list 46 (x36.rows.map (ap 58 af)))) 9 (.box 9 b9 0)) 6 (.ptr (bM x29))) 3 (.ptr (aE sA))) 0 (.box 1500 b_rA 0),upd (bR b_rA t27.1 g27.1 g27.2.1) 9 (some ⟨b9,[(ah t27.2.1),(.str sA.table),(.own 72 g27.2.2.1 (t27.2.2.1.map af).length),(.own 81 g27.2.2.2 (t27.2.2.2.map af).length)]⟩),upd (upd (oR t27.1 g27.1 g27.2.1) 81 (some ⟨g27.2.2.2,58,(t27.2.2.2.map af),true⟩)) 72 (some ⟨g27.2.2.1,58,(t27.2.2.1.map af),true⟩)⟩) H (fun _ H=>?_) (fun t27 g27 H=>?_)
  ·refine aF Z H (fun H=>?_) (fun H=>?_)
   ·refine aa (aX tk mok ⟨false,false,[]⟩ [0,1,2,3,4,5] Z (by decide+kernel) Z (az 3 Z ?_));have s81:=qp (m:=81) x1;refine qm (g:=49) Z Z Z Z call49 (jt.r) Z Z s81 (fun g81=>?_);refine bw Z (fM Z Z Z Z Z Z Z Z Z Z Z Z (aQ (aa (ab (ag 2 tk Z (aI tk (zl _) ?_))))));refine ai tk Z (ac ?_);refine gc (γ:=OwnRef×OwnRef×OwnRef) tk 86 85 84 (fun s28 g28=>upd (upd (upd (upd (upd (upd (upd (upd (fun _=>.any) 40 (ah (j1:Int))) 39 (ah (x36.rows.length:Int))) 38 (.list 46 (x36.rows.map (ap 58 af)))) 9 (.box 9 b9 0)) 8 (.list 58 (x1.map af))) 6 (.ptr (bM x29))) 3 (.ptr (aE sA))) 0 (.box 1500 b_rA 0)) (fun s28 g28=>upd (bR b_rA s28.1 g28.1 g28.2.1) 9 (some ⟨b9,[(ah 1),(.str sA.table),(.val (.slice none 0 0)),(.own 81 g28.2.2 (s28.2.map af).length)]⟩)) (fun s28 g28=>upd (upd (upd (fun _=>none) 81 (some ⟨g28.2.2,58,(s28.2.map af),true⟩)) 1608 (some ⟨g28.2.1,180,(s28.1.results.map cN),true⟩)) 1607 (some ⟨g28.1,48,(s28.1.changes.map cu),true⟩)) (gz52_1607,gz52_1608,g81) H (fun fl28 Hp28 j28 s28 g28 hz28 hl28 x28 fb28 hx28 H hg28=>?_) (fun s28 g28 H=>?_)
    ·refine aa (av (aa (ab (ai tk Z (be tk (zn j28) (bA dh hx28) ?_)))));refine ai tk Z ?_;refine bm tk fun b12=>?_
     refine bm tk fun b13=>?_
     refine ay tk ?_;refine ay tk ?_;refine ac (aa (ab (ag 2 tk Z (bS (Gh.freezeB 12 Z Z Z Z) (ai tk Z ?_)))))
     obtain⟨x94,h94,H⟩:=am H
     have s94:=dF x29.columns (fun a0=>gq a0 sA (j28:Int)) call110 (fun a0 r h=>rh a0 sA (j28:Int) r h) _ h94;refine aj call89 (jt.r) s94 ?_;refine ai tk Z (ac ?_);refine cA (tag:=1607) Z (fun ho1607=>?_);refine cA (tag:=1608) Z (fun ho1608=>?_);refine cA (tag:=81) Z (fun ho81=>?_);refine aX tk mok ⟨true,false,[100,999997,3000009,3000013,4000096,4000102]⟩ [0,1,2,3,4,5,6,7,8,9,10] Z (by decide+kernel) Z (bw Z (qX tk Z Z Z Z Z Z Z Z Z Z (az 5 Z (qX tk Z Z Z Z Z Z Z Z Z Z ?_))))
     obtain⟨x103,h103,H⟩:=am H
     have s103:=iY b_rA g28.1 g28.2.1 s28.1 x29.columns x1 x28 _ h103;refine pl (g:=69) Z Z Z Z call69 Z Z [(1500,1500)] [(1607,1607),(1608,1608)] Z Z Z Z (jt.of2 (jN.cons pD.boxT (jN.cons (pD.of_eq Z) (jN.cons (pD.of_eq Z) (jN.cons (pD.of_eq Z) jN.nil))))) (by rw[cf,bq,aW,aW,bn];rfl) s103 ?_;rintro u103 H103h ⟨gz103_1607,gz103_1608,rfl,rfl⟩
     refine⟨_,rfl,?_⟩
     obtain⟨x104,k104,H⟩:=aV H
     refine aT tk ⟨k104.1,(bh k104.2)⟩ (bf ho81 k104.2) ?_
     obtain⟨y31,hy31,H⟩:=bF H
     refine cg tk Z Z Z Z Z Z Z Z Z (by rw[zl];exact(zg.1 k104.2).1) (PLe.refl _ _) Z Z Z Z (by decide) (bD (fun _=>Z) k104.2 Z hy31) ?_;refine aQ ?_;refine bZ (st':=⟨_,_,upd (upd (bR b_rA x103.2 gz103_1607 gz103_1608) 13 (some ⟨b13,(gZ x28)⟩)) 9 (some ⟨b9,[(ah 1),(.str sA.table),(.val (.slice none 0 0)),(.own 81 g28.2.2 (s28.2.map af).length)]⟩),upd (upd (upd (fun _=>none) 81 (some ⟨g28.2.2,58,(y31.map af),true⟩)) 1608 (some ⟨gz103_1608,180,(x103.2.results.map cN),true⟩)) 1607 (some ⟨gz103_1607,48,(x103.2.changes.map cu),true⟩)⟩) (Gh.le (bs _ _) (aR Z (jt.r) (aR Z (jt.r) (aR Z (jt.r) aw))) (aD (aD (aD ax)))) ?_;refine aM (bc 2 tk Z ?_);exact bv (gz103_1607,gz103_1608,g28.2.2) H hl28 hg28 (Gh.le (ao (ao (bp (PLe.q (fB (by omega))) (ao (ao (ao (ao (ao (ao (ao (ao aL))))))))))) (aR Z (jt.of2 (jN.cons (pD.of_eq Z) (jN.cons (pD.of_eq Z) (jN.cons (pD.of_eq Z) (jN.cons (pD.of_eq (congrArg (PV.own 81 g28.2.2) (bt (f:=af) hy31))) jN.nil))))) (aR Z (jt.r) aw)) (aD (aD (aD ax))))
    refine nH tk 9 2 72 (e:=58) Z Z Z Z ?_;refine aP _ (g28.1,g28.2.1,⟨none,0⟩,g28.2.2) (aq H) Gh.d
   refine al (nH tk 9 3 81 (e:=58) Z Z Z Z ?_);refine aP _ (gz52_1607,gz52_1608,g22,⟨none,0⟩) (aq H) Gh.d
  refine aa (jA 9 2 Z Z Z Z Z (jA 9 3 Z Z Z Z Z (ab (ai tk Z (aJ tk ?_)))))
  obtain⟨x108,h108,H⟩:=am H
  have s108:=nC b_rA g27.1 g27.2.1 t27.1 (LChange.mk t27.2.1 sA.table t27.2.2.1 t27.2.2.2) _ h108;refine bB (g:=73) Z Z Z call73 [(1500,1500)] [(1607,1607),(1608,1608)] Z Z Z Z (jt.of2 (jN.cons pD.boxT (jN.cons (pD.of_eq Z) jN.nil))) (by rw[cf,bq,aW,aW,bn];rfl) s108 ?_;rintro u108 H108h ⟨gz108_1607,gz108_1608,rfl,rfl⟩
  refine⟨_,rfl,?_⟩
  refine bS (st':=⟨_,_,upd (bR b_rA x108.2 gz108_1607 gz108_1608) 9 (some ⟨b9,[(ah t27.2.1),(.str sA.table),(.list 58 (t27.2.2.1.map af)),(.list 58 (t27.2.2.2.map af))]⟩),upd (upd (upd (upd (fun _=>none) 81 (some ⟨g27.2.2.2,58,(t27.2.2.2.map af),false⟩)) 72 (some ⟨g27.2.2.1,58,(t27.2.2.1.map af),false⟩)) 1608 (some ⟨gz108_1608,180,(x108.2.results.map cN),true⟩)) 1607 (some ⟨gz108_1607,48,(x108.2.changes.map cu),true⟩)⟩) (Gh.le (bs _ _) (aR Z (jt.r) (aR Z (jt.r) aw)) (aD (aD (aD (aD ax))))) ?_;refine ai tk Z (ac (ak 2 tk Z ?_));refine aF Z H (fun H=>?_) (fun H=>?_)
  ·refine ak 2 tk Z ?_;obtain rfl:=aq H;have e1:fl1= .ret _:=hg1;subst e1;obtain rfl:=aZ Hp1;refine bZ (st':=⟨113,upd (fun _=>.any) 4 (ah x108.1),(bR b_rA x108.2 gz108_1607 gz108_1608),(oR x108.2 gz108_1607 gz108_1608)⟩) (Gh.le (ao aL) (aR Z (jt.r) aw) (aD (aD ax))) ?_;refine cl tk Z (ps:=[(ah x108.1)]) ⟨_,_,rfl,rfl,rfl⟩ (PLe.q Z) ⟨_,_,rfl,rfl⟩
  refine al (aM (bc 2 tk Z ?_));exact bv (gz108_1607,gz108_1608) H hl1 hg1
 refine ak 1 tk Z ?_;obtain rfl:=aq H;refine bZ (st':=⟨113,upd (fun _=>.any) 4 (ah 0),(bR b_rA s1 g1.1 g1.2),(oR s1 g1.1 g1.2)⟩) (Gh.le (ao aL) (aR Z (jt.r) aw) (aD (aD ax))) ?_;refine cl tk Z (ps:=[(ah 0)]) ⟨_,_,rfl,rfl,rfl⟩ (PLe.q Z) ⟨_,_,rfl,rfl⟩
def mq(q:LQuery):Option (Rs):=
 ae (jR q) fun x7=>
 ae (aU (σ:=Rs) (ρ:=Empty) (fun(_:Nat) (x1:LQuery) (s1:Rs)=>
  cond (x1.kind==(1:Int))
   (ae (dq 16 s1 ([x1.table]:Rs)) fun(x20:Rs)=>
   some (.next x20))
   (some (.next s1))) 0 x7 []) fun fl1=>fl1.thenP fun(s1:Rs)=>
 ae (gY s1) fun x23=>
 ae (cF (x23.length=s1.length) ()) fun(_:Unit)=>
 ae (go x23) fun x25=>
 some x25
theorem tq(q:LQuery)(r:Rs)(H:mq q=some r):
  aY prog 27 [(.agg (bg q))] (.list 9 (r.map aA)):=by
 unfold mq at H;refine PH.au func27 ntmps27 ?_;refine aa (ab (aO ?_));refine ai tk Z (ac (ak 1 tk Z (aa (aa (ab (ai tk Z ?_))))))
 obtain⟨x7,h7,H⟩:=am H
 have s7:=pC (m:=7) q _ h7;refine aj call53 (jt.r) (PFun.iw s7) ?_;refine aI tk (zl _) ?_;refine ai tk Z (ac (hZ tk 3 20 (e:=9) Z Z ?_));refine gc (γ:=OwnRef) tk 9 8 7 (fun s1 g1=>upd (fun _=>.any) 3 (.own 20 g1 (s1.map aA).length)) nB (fun s1 g1=>upd (fun _=>none) 20 (some ⟨g1,9,(s1.map aA),true⟩)) (⟨none,0⟩) H (fun fl1 Hp1 j1 s1 g1 hz1 hl1 x1 fb1 hx1 H hg1=>?_) (fun s1 g1 H=>?_)
 ·refine aa (av (aa (ab (be tk (zn j1) (bA dd hx1) ?_))));refine ai tk Z ?_;refine bm tk fun b5=>?_
  refine ay tk ?_;refine ac (aa (ab (ai tk Z (aJ tk ?_))));refine ai tk Z (ac ?_);refine aF Z H (fun H=>?_) (fun H=>?_)
  ·refine ab (ag 2 tk Z (aJ tk ?_));refine cy tk (rows':=List.map aA ([x1.table]:Rs)) (gP.refl _) ?_
   obtain⟨x20,h20,H⟩:=am H
   have k20:=cj h20;refine cv (rows2':=List.map aA ([x1.table]:Rs)) (rows':=List.map aA x20) tk Z Z Z Z Z Z Z Z Z Z Z Z Z (gP.refl _) (cU k20.1) (cW k20.2.1) (cV k20.2.2) fun g20=>?_
   refine ai tk Z (ac (aM (bc 2 tk Z ?_)));exact bv g20 H hl1 hg1
  refine al (aM (bc 2 tk Z ?_));exact bv g1 H hl1 hg1
 refine aa (ab (ai tk Z ?_))
 obtain⟨x23,h23,H⟩:=am H
 have s23:=lC g1 s1 _ h23
 obtain⟨_,q23_0,H⟩:=am H
 have l23_0:=(bG q23_0).1;have z23_0:(List.map aA s1).length=(List.map aA x23).length:=by simpa using(l23_0).symm
 refine bB (g:=28) Z Z Z call28 [] [(20,0)] Z Z Z Z (jt.of2 (jN.cons (pD.own Z) jN.nil)) (by rw[bq,aW,bn];rfl) s23 ?_;rintro u23 H23h ⟨rfl,rfl⟩
 refine⟨_,rfl,?_⟩
 refine bS (st':=⟨_,_,fun _=>none,upd (fun _=>none) 20 (some ⟨g1,9,(x23.map aA),true⟩)⟩) (Gh.le (bs _ _) aw (aD ax)) ?_;refine ac (aa (ab (ai tk Z ?_)))
 obtain⟨x25,h25,H⟩:=am H
 have s25:=kF g1 x23 _ h25;refine bB (g:=29) Z Z Z call29 [] [(20,0)] Z Z Z Z (jt.of2 (jN.cons (pD.own z23_0) jN.nil)) (by rw[bq,aW,bn];rfl) s25 ?_;rintro u25 H25h ⟨rfl,rfl⟩
 refine⟨_,rfl,?_⟩
 refine bS (st':=⟨_,_,fun _=>none,upd (fun _=>none) 20 (some ⟨g1,9,(x25.map aA),true⟩)⟩) (Gh.le (bs _ _) aw (aD ax)) ?_;refine je 25 (q:=(.own 20 g1 (x25.map aA).length)) Z (PLe.of2 (pD.own Z)) (ai tk Z (ac (cT 2 Z Z Z ?_)));exact bi tk H Z
def li(sA:LSchema)(p:LProcedureProcedure):Option (Int):=
 ae (
  ae (dc p.body) fun x11=>
  cond (decide ((x11.length:Int)>(40:Int)))
   (some true)
   (ae (eC p.body) fun x17=>
   cond (decide (x17>(6:Int)))
    (some true)
    (some (decide ((p.parameters.length:Int)>(8:Int)))))) fun(t1:Bool)=>
 cond t1
  (some 2)
  (ae (aU (σ:=Unit) (ρ:=(Int)) (fun(_:Nat) (x2:Int) (_:Unit)=>
   cond (decide (x2<(1:Int)))
    (some (.ret 1))
    (cond (decide (x2>(3:Int)))
     (some (.ret 1))
     (some (.next ())))) 0 p.parameters ()) fun fl2=>fl2.thenR fun(_:Unit)=>
  ae (bN (LProcedureChecker.mk sA p.parameters) ([]:List LCol) p.body) fun x47=>
  some x47.2)
theorem pH(sA:LSchema)(p:LProcedureProcedure)(r:Int)(H:li sA p=some r):
  aY prog 18 [(.agg (da sA)),(.agg (eh p))] (ah r):=by
 unfold li at H;refine PH.au func18 ntmps18 ?_;refine aa (ab (aO ?_));refine aO ?_;refine ai tk Z (ac (aa (aa ?_)));refine ee (γ:=Unit) (fun t1 g1=>⟨51,upd (upd (upd (fun _=>.any) 25 (aK t1)) 3 (.ptr (eh p))) 2 (.ptr (da sA)),fun _=>none,fun _=>none⟩) H (fun _ H=>?_) (fun t1 g1 H=>?_)
 ·refine ab (ag 2 tk Z ?_)
  obtain⟨x11,h11,H⟩:=am H
  have s11:=kZ p.body _ h11;refine aj call15 (jt.r) s11 ?_;refine aI tk (zl _) ?_;refine ag 2 tk Z ?_;refine bu Z Z Z H (fun H=>?_) (fun H=>?_)
  ·refine ag 11 tk Z (ac ?_);refine aP _ () (aq H) Gh.d
  refine ag 2 tk Z ?_
  obtain⟨x17,h17,H⟩:=am H
  have s17:=tZ p.body _ h17;refine aj call42 (jt.r) s17 ?_;refine ag 3 tk Z ?_;refine bu Z Z Z H (fun H=>?_) (fun H=>?_)
  ·refine ag 5 tk Z (ac ?_);refine aP _ () (aq H) Gh.d
  refine ag 2 tk Z (aI tk (zl _) ?_);refine ag 2 tk Z (ac ?_);refine aP _ () (aq H) Gh.d
 refine aF Z H (fun H=>?_) (fun H=>?_)
 ·refine ak 1 tk Z ?_;exact bi tk H Z
 refine al (aa (aa (ab (ag 2 tk Z (aI tk (zl _) ?_)))));refine ai tk Z (ac ?_);refine ff tk 29 28 27 (fun s2 g2=>upd (upd (fun _=>.any) 3 (.ptr (eh p))) 2 (.ptr (da sA))) nB nO () H (fun fl2 Hp2 j2 s2 g2 hz2 hl2 x2 fb2 hx2 H hg2=>?_) (fun s2 g2 H=>?_)
 ·refine aa (av (aa (ab ?_)));refine be tk (zn j2) (bA (fun _=>Z) hx2) ?_;refine ag 2 tk Z (ac (aa (ab (ag 3 tk Z ?_))));refine bu Z Z Z H (fun H=>?_) (fun H=>?_)
  ·refine ag 3 tk Z (ac (ct Z (ak 1 tk Z ?_)));obtain rfl:=aq H;have e2:fl2= .ret _:=hg2;subst e2;obtain rfl:=aZ Hp2;refine bl tk Z (ps:=[(ah 1)]) ⟨_,_,rfl,rfl,rfl⟩ (PLe.q Z)
  refine ag 3 tk Z (ac ?_);refine aF Z H (fun H=>?_) (fun H=>?_)
  ·refine ak 1 tk Z ?_;obtain rfl:=aq H;have e2:fl2= .ret _:=hg2;subst e2;obtain rfl:=aZ Hp2;refine bl tk Z (ps:=[(ah 1)]) ⟨_,_,rfl,rfl,rfl⟩ (PLe.q Z)
  refine al (aM (bc 2 tk Z ?_));exact bv () H hl2 hg2
 refine aa (ab (ag 6 tk Z ?_))
 obtain⟨x47,h47,H⟩:=am H
 have s47:=qk (LProcedureChecker.mk sA p.parameters) ([]:List LCol) p.body _ h47;refine aj call43 (jt.of2 (jN.cons (pD.of_eq Z) (jN.cons (pD.nil tk Z) (jN.cons (pD.of_eq Z) jN.nil)))) s47 ?_;refine ag 5 tk Z (ac (ak 2 tk Z ?_));exact bi tk H Z
def iv(sA:LSchema)(st:List LRelation)(q:LQuery)(args:Rq)(vars:List LCol)(vals:Rq):Option (LResult×Int):=
 ae (ir sA vars q) fun x28=>
 cond (x28.2 !=(0:Int))
  (some ((LResult.mk [] []),x28.2))
  (ae (iz q args) fun x37=>
  cond (x37 !=(0:Int))
   (some ((LResult.mk [] []),x37))
   (ae (eR sA st) fun x44=>
   cond (x44 !=(0:Int))
    (some ((LResult.mk [] []),x44))
    (ae (aU (σ:=Rs) (ρ:=Empty) (fun(_:Nat) (x1:LCol) (s1:Rs)=>
     ae (dq 16 s1 ([x1.name]:Rs)) fun(x66:Rs)=>
     some (.next x66)) 0 vars []) fun fl1=>fl1.thenP fun(s1:Rs)=>
    ae (nr (LRun.mk sA st args vars s1 vals) q) fun x73=>
    ae (aU (σ:=Rz) (ρ:=Empty) (fun(_:Nat) (x2:Rq) (s2:Rz)=>
     ae (dq 24 s2 ([x2]:Rz)) fun(x84:Rz)=>
     some (.next x84)) 0 x73 []) fun fl2=>fl2.thenP fun(s2:Rz)=>
    some ((LResult.mk x28.1 s2),0))))
theorem rj(sA:LSchema)(st:List LRelation)(q:LQuery)(args:Rq)(vars:List LCol)(vals:Rq)(r:LResult×Int)(H:iv sA st q args vars vals=some r):
  aY prog 108 [(.agg (da sA)),(.list 69 (st.map bW)),(.agg (bg q)),(.list 58 (args.map af)),(.list 53 (vars.map aB)),(.list 58 (vals.map af))] (.tup [(.agg (cN r.1)),(ah r.2)]):=by
 unfold iv at H;refine PH.au func108 ntmps108 ?_;refine aa (ab (aO ?_));refine aO ?_;refine bm tk fun b12=>?_
 refine ai tk Z (ac (aa (ab (ag 3 tk Z ?_))))
 obtain⟨x28,h28,H⟩:=am H
 have s28:=ow sA vars q _ h28;refine aj call98 (jt.r) s28 ?_;refine ag 5 tk Z (ac (aa (ak 2 tk Z ?_)));refine aF Z H (fun H=>?_) (fun H=>?_)
 ·refine aa (ab (ag 2 tk Z (ay tk ?_)));refine ai tk Z (ac ?_);obtain rfl:=aq H;refine bl tk Z (ps:=[(.agg [(.val (.slice none 0 0)),(.val (.slice none 0 0))]),(ah x28.2)]) ⟨_,_,rfl,⟨_,_,_,_,_,rfl,rfl,rfl,rfl⟩,_,_,rfl,rfl,rfl⟩ (PLe.of2 (pD.tup (jN.cons (pD.agg (jN.cons (pD.nil tk Z) (jN.cons (pD.nil tk Z) jN.nil))) (jN.cons (pD.of_eq Z) jN.nil))))
 refine al (aa (aa (ab (ag 2 tk Z ?_))))
 obtain⟨x37,h37,H⟩:=am H
 have s37:=ri q args _ h37;refine aj call133 (jt.r) s37 ?_;refine ai tk Z (ac (ak 2 tk Z ?_));refine aF Z H (fun H=>?_) (fun H=>?_)
 ·refine aa (ab (ag 2 tk Z (ay tk ?_)));refine ai tk Z (ac ?_);obtain rfl:=aq H;refine bl tk Z (ps:=[(.agg [(.val (.slice none 0 0)),(.val (.slice none 0 0))]),(ah x37)]) ⟨_,_,rfl,⟨_,_,_,_,_,rfl,rfl,rfl,rfl⟩,_,_,rfl,rfl,rfl⟩ (PLe.of2 (pD.tup (jN.cons (pD.agg (jN.cons (pD.nil tk Z) (jN.cons (pD.nil tk Z) jN.nil))) (jN.cons (pD.of_eq Z) jN.nil))))
 refine al (aa (aa (ab (ag 2 tk Z ?_))))
 obtain⟨x44,h44,H⟩:=am H
 have s44:=kB sA st _ h44;refine aj call17 (jt.r) s44 ?_;refine ai tk Z (ac (ak 2 tk Z ?_));refine aF Z H (fun H=>?_) (fun H=>?_)
 ·refine aa (ab (ag 2 tk Z (ay tk ?_)));refine ai tk Z (ac ?_);obtain rfl:=aq H;refine bl tk Z (ps:=[(.agg [(.val (.slice none 0 0)),(.val (.slice none 0 0))]),(ah x44)]) ⟨_,_,rfl,⟨_,_,_,_,_,rfl,rfl,rfl,rfl⟩,_,_,rfl,rfl,rfl⟩ (PLe.of2 (pD.tup (jN.cons (pD.agg (jN.cons (pD.nil tk Z) (jN.cons (pD.nil tk Z) jN.nil))) (jN.cons (pD.of_eq Z) jN.nil))))
 refine al (aa (ab (ag 6 tk Z ?_)));refine bm tk fun b18=>?_
 refine ay tk ?_;refine ac (aa (aa (ab (ai tk Z (aI tk (zl _) ?_)))));refine ai tk Z (ac (nH tk 18 6 66 (e:=9) Z Z Z Z ?_));refine gc (γ:=OwnRef) tk 57 56 55 (fun s1 g1=>upd (upd (upd (upd (fun _=>.any) 18 (.box 18 b18 0)) 14 (.list 53 (x28.1.map aB))) 12 (.box 12 b12 0)) 8 (.ptr (bg q))) (fun s1 g1=>upd (upd (fun _=>none) 18 (some ⟨b18,[(.list 56 (sA.tables.map bM)),(.list 99 (sA.foreignKeys.map gW)),(.list 105 (sA.constraints.map iK)),(.list 69 (st.map bW)),(.list 58 (args.map af)),(.list 53 (vars.map aB)),(.own 66 g1 (s1.map aA).length),(.list 58 (vals.map af))]⟩)) 12 (some ⟨b12,[(.val (.slice none 0 0)),(.val (.slice none 0 0))]⟩)) (fun s1 g1=>upd (fun _=>none) 66 (some ⟨g1,9,(s1.map aA),true⟩)) (⟨none,0⟩) H (fun fl1 Hp1 j1 s1 g1 hz1 hl1 x1 fb1 hx1 H hg1=>?_) (fun s1 g1 H=>?_)
 ·refine aa (av (aa (ab ?_)));refine be tk (zn j1) (bA (fun _=>Z) hx1) ?_;refine ai tk Z ?_;refine bm tk fun b20=>?_
  refine ay tk ?_;refine ac (ab (ai tk Z (aJ tk ?_)));refine ai tk Z (aJ tk ?_);refine cy tk (rows':=List.map aA ([x1.name]:Rs)) (gP.refl _) ?_
  obtain⟨x66,h66,H⟩:=am H
  have k66:=cj h66;refine cv (rows2':=List.map aA ([x1.name]:Rs)) (rows':=List.map aA x66) tk Z Z Z Z Z Z Z Z Z Z Z Z Z (gP.refl _) (cU k66.1) (cW k66.2.1) (cV k66.2.2) fun g66=>?_
  refine ai tk Z (ay tk ?_);refine ac (aM (bc 2 tk Z ?_));exact bv g66 H hl1 hg1
 refine aa (ab (ag 2 tk Z ?_));refine bm tk fun b21=>?_
 refine ay tk ?_;refine ac (aa (aa (jA 18 6 Z Z Z Z Z (ab (aJ tk ?_)))));refine ai tk Z ?_
 obtain⟨x73,h73,H⟩:=am H
 have s73:=uD (LRun.mk sA st args vars s1 vals) q _ h73;refine aj call134 (jt.r) s73 ?_;refine aI tk (zl _) ?_;refine ai tk Z (ac (nH tk 21 1 84 (e:=46) Z Z Z Z ?_));refine gc (γ:=OwnRef) tk 75 74 73 (fun s2 g2=>upd (upd (fun _=>.any) 21 (.box 21 b21 0)) 12 (.box 12 b12 0)) (fun s2 g2=>upd (upd (fun _=>none) 21 (some ⟨b21,[(.list 53 (x28.1.map aB)),(.own 84 g2 (s2.map (ap 58 af)).length)]⟩)) 12 (some ⟨b12,[(.val (.slice none 0 0)),(.val (.slice none 0 0))]⟩)) (fun s2 g2=>upd (fun _=>none) 84 (some ⟨g2,46,(s2.map (ap 58 af)),true⟩)) (⟨none,0⟩) H (fun fl2 Hp2 j2 s2 g2 hz2 hl2 x2 fb2 hx2 H hg2=>?_) (fun s2 g2 H=>?_)
 ·refine aa (av (aa (ab ?_)));refine be tk (zn j2) (bA (fun _=>Z) hx2) ?_;refine ag 2 tk Z (ac (aX tk mok ⟨true,false,[]⟩ [0,1,2,3,4,5,6,7] Z (by decide+kernel) Z (bw Z (bd ?_))));refine bw Z ?_;have s82:=qp (m:=82) x2;refine aS call49 (jt.r) (PFun.iw s82) ?_;refine bw Z ?_
  obtain⟨x84,h84,H⟩:=am H
  have k84:=cj h84;refine gz (rows2':=List.map (ap 58 af) ([x2]:Rz)) (rows':=List.map (ap 58 af) x84) tk Z Z Z Z Z Z Z Z Z Z Z Z Z Z (gP.refl _) (cU k84.1) (cW k84.2.1) (cV k84.2.2) fun g84=>?_
  refine bw Z (fM Z Z Z Z Z Z Z Z Z Z Z Z (aQ (aM (bc 2 tk Z ?_))));exact bv g84 H hl2 hg2
 refine aa (ab (aJ tk ?_));refine ay tk ?_;refine ai tk Z (ac ?_);obtain rfl:=aq H;refine jA 12 1 Z Z Z Z Z ?_;refine bl tk Z (ps:=[(.agg [(.list 53 (x28.1.map aB)),(.list 46 (s2.map (ap 58 af)))]),(ah 0)]) ⟨_,_,rfl,⟨_,_,_,_,_,rfl,rfl,rfl,rfl⟩,_,_,rfl,rfl,rfl⟩ (PLe.q Z)
def jY(p:LProcedureProcedure):Option (Rs):=
 ae (dc p.body) fun x10=>
 ae (aU (σ:=Rs) (ρ:=Empty) (fun(_:Nat) (x1:LProcedureStatement) (s1:Rs)=>
  letP (
   cond (x1.kind==(4:Int))
    (true)
    (cond (x1.kind==(5:Int))
     (true)
     ((x1.kind==(6:Int))))) fun(t10:Bool)=>
  ae (
   cond t10
    (ae (dq 16 s1 ([x1.table]:Rs)) fun(x33:Rs)=>
    some x33)
    (some s1)) fun(t11:Rs)=>
  letP (
   cond (x1.kind==(3:Int))
    (true)
    ((x1.kind==(7:Int)))) fun(t12:Bool)=>
  cond t12
   (ae (aU (σ:=Rs) (ρ:=Empty) (fun(_:Nat) (x13:LQuery) (s13:Rs)=>
    ae (mq x13) fun x51=>
    ae (dq 16 s13 x51) fun(x52:Rs)=>
    some (.next x52)) 0 x1.query t11) fun fl13=>fl13.thenP fun(s13:Rs)=>
   some (.next s13))
   (some (.next t11))) 0 x10 []) fun fl1=>fl1.thenP fun(s1:Rs)=>
 ae (gY s1) fun x56=>
 ae (cF (x56.length=s1.length) ()) fun(_:Unit)=>
 ae (go x56) fun x58=>
 some x58
theorem pV(p:LProcedureProcedure)(r:Rs)(H:jY p=some r):
  aY prog 8 [(.agg (eh p))] (.list 9 (r.map aA)):=by
 unfold jY at H;refine PH.au func8 ntmps8 ?_;refine aa (ab (aO ?_));refine ai tk Z (ac (ak 1 tk Z (aa (aa (ab (ag 2 tk Z ?_))))))
 obtain⟨x10,h10,H⟩:=am H
 have s10:=kZ p.body _ h10;refine aj call15 (jt.r) s10 ?_;refine aI tk (zl _) ?_;refine ai tk Z (ac (hZ tk 3 33 (e:=9) Z Z ?_));refine gc (γ:=OwnRef) tk 12 11 10 (fun s1 g1=>upd (fun _=>.any) 3 (.own 33 g1 (s1.map aA).length)) nB (fun s1 g1=>upd (fun _=>none) 33 (some ⟨g1,9,(s1.map aA),true⟩)) (⟨none,0⟩) H (fun fl1 Hp1 j1 s1 g1 hz1 hl1 x1 fb1 hx1 H hg1=>?_) (fun s1 g1 H=>?_)
 ·refine aa (av (aa (ab (be tk (zn j1) (bA dr hx1) ?_))));refine ai tk Z ?_;refine bm tk fun b5=>?_
  refine ay tk ?_;refine ac (aa (aa ?_));refine ed (γ:=Unit) (fun t10 g10=>⟨59,upd (upd (upd (upd (upd (upd (fun _=>.any) 28 (aK t10)) 12 (ah (j1:Int))) 11 (ah (x10.length:Int))) 10 (.list 66 (x10.map aH))) 5 (.box 5 b5 0)) 3 (.own 33 g1 (s1.map aA).length),upd (fun _=>none) 5 (some ⟨b5,(aE x1)⟩),upd (fun _=>none) 33 (some ⟨g1,9,(s1.map aA),true⟩)⟩) H (fun _ H=>?_) (fun t10 g10 H=>?_)
  ·refine ab (ai tk Z (aJ tk ?_));refine ag 2 tk Z ?_;refine bu Z Z Z H (fun H=>?_) (fun H=>?_)
   ·refine ag 9 tk Z (ac ?_);refine aP _ () H Gh.d
   refine ai tk Z (aJ tk ?_);refine ag 3 tk Z ?_;refine bu Z Z Z H (fun H=>?_) (fun H=>?_)
   ·refine ag 4 tk Z (ac ?_);refine aP _ () H Gh.d
   refine ai tk Z (aJ tk ?_);refine ag 2 tk Z (ac ?_);refine aP _ () H Gh.d
  refine ee (γ:=OwnRef) (fun t11 g11=>⟨59,upd (upd (upd (upd (upd (fun _=>.any) 12 (ah (j1:Int))) 11 (ah (x10.length:Int))) 10 (.list 66 (x10.map aH))) 5 (.box 5 b5 0)) 3 (.own 33 g11 (t11.map aA).length),upd (fun _=>none) 5 (some ⟨b5,(aE x1)⟩),upd (fun _=>none) 33 (some ⟨g11,9,(t11.map aA),true⟩)⟩) H (fun _ H=>?_) (fun t11 g11 H=>?_)
  ·refine aF Z H (fun H=>?_) (fun H=>?_)
   ·refine ab (ag 2 tk Z (aJ tk ?_));refine cy tk (rows':=List.map aA ([x1.table]:Rs)) (gP.refl _) ?_
    obtain⟨x33,h33,H⟩:=am H
    have k33:=cj h33;refine cv (rows2':=List.map aA ([x1.table]:Rs)) (rows':=List.map aA x33) tk Z Z Z Z Z Z Z Z Z Z Z Z Z (gP.refl _) (cU k33.1) (cW k33.2.1) (cV k33.2.2) fun g33=>?_
    refine ai tk Z (ac ?_);refine aP _ g33 (aq H) Gh.d
   refine al ?_;refine aP _ g1 (aq H) Gh.d
  refine aa ?_;refine ed (γ:=Unit) (fun t12 g12=>⟨59,upd (upd (upd (upd (upd (upd (fun _=>.any) 41 (aK t12)) 12 (ah (j1:Int))) 11 (ah (x10.length:Int))) 10 (.list 66 (x10.map aH))) 5 (.box 5 b5 0)) 3 (.own 33 g11 (t11.map aA).length),upd (fun _=>none) 5 (some ⟨b5,(aE x1)⟩),upd (fun _=>none) 33 (some ⟨g11,9,(t11.map aA),true⟩)⟩) H (fun _ H=>?_) (fun t12 g12 H=>?_)
  ·refine ab (ai tk Z (aJ tk ?_));refine ag 2 tk Z ?_;refine bu Z Z Z H (fun H=>?_) (fun H=>?_)
   ·refine ag 4 tk Z (ac ?_);refine aP _ () H Gh.d
   refine ai tk Z (aJ tk ?_);refine ag 2 tk Z (ac ?_);refine aP _ () H Gh.d
  refine aF Z H (fun H=>?_) (fun H=>?_)
  ·refine aa (ab (ai tk Z (aJ tk ?_)));refine aI tk (zl _) ?_;refine ai tk Z (ac ?_);refine gc (γ:=OwnRef) tk 45 44 43 (fun s13 g13=>upd (upd (upd (upd (fun _=>.any) 12 (ah (j1:Int))) 11 (ah (x10.length:Int))) 10 (.list 66 (x10.map aH))) 3 (.own 33 g13 (s13.map aA).length)) nB (fun s13 g13=>upd (fun _=>none) 33 (some ⟨g13,9,(s13.map aA),true⟩)) g11 H (fun fl13 Hp13 j13 s13 g13 hz13 hl13 x13 fb13 hx13 H hg13=>?_) (fun s13 g13 H=>?_)
   ·refine aa (av (aa (ab (be tk (zn j13) (bA dd hx13) ?_))));refine ai tk Z ?_;refine bm tk fun b7=>?_
    refine ay tk ?_;refine ac (ab (ai tk Z (aJ tk ?_)))
    obtain⟨x51,h51,H⟩:=am H
    have s51:=tq x13 _ h51;refine aj call27 (jt.r) s51 ?_
    obtain⟨x52,h52,H⟩:=am H
    have k52:=cj h52;refine cv (rows2':=List.map aA x51) (rows':=List.map aA x52) tk Z Z Z Z Z Z Z Z Z Z Z Z Z (gP.refl _) (cU k52.1) (cW k52.2.1) (cV k52.2.2) fun g52=>?_
    refine ai tk Z (ac (aM (bc 2 tk Z ?_)));exact bv g52 H hl13 hg13
   refine aM (bc 2 tk Z ?_);exact bv g13 H hl1 hg1
  refine al (aM (bc 2 tk Z ?_));exact bv g11 H hl1 hg1
 refine aa (ab (ai tk Z ?_))
 obtain⟨x56,h56,H⟩:=am H
 have s56:=lC g1 s1 _ h56
 obtain⟨_,q56_0,H⟩:=am H
 have l56_0:=(bG q56_0).1;have z56_0:(List.map aA s1).length=(List.map aA x56).length:=by simpa using(l56_0).symm
 refine bB (g:=28) Z Z Z call28 [] [(33,0)] Z Z Z Z (jt.of2 (jN.cons (pD.own Z) jN.nil)) (by rw[bq,aW,bn];rfl) s56 ?_;rintro u56 H56h ⟨rfl,rfl⟩
 refine⟨_,rfl,?_⟩
 refine bS (st':=⟨_,_,fun _=>none,upd (fun _=>none) 33 (some ⟨g1,9,(x56.map aA),true⟩)⟩) (Gh.le (bs _ _) aw (aD ax)) ?_;refine ac (aa (ab (ai tk Z ?_)))
 obtain⟨x58,h58,H⟩:=am H
 have s58:=kF g1 x56 _ h58;refine bB (g:=29) Z Z Z call29 [] [(33,0)] Z Z Z Z (jt.of2 (jN.cons (pD.own z56_0) jN.nil)) (by rw[bq,aW,bn];rfl) s58 ?_;rintro u58 H58h ⟨rfl,rfl⟩
 refine⟨_,rfl,?_⟩
 refine bS (st':=⟨_,_,fun _=>none,upd (fun _=>none) 33 (some ⟨g1,9,(x58.map aA),true⟩)⟩) (Gh.le (bs _ _) aw (aD ax)) ?_;refine je 58 (q:=(.own 33 g1 (x58.map aA).length)) Z (PLe.of2 (pD.own Z)) (ai tk Z (ac (cT 2 Z Z Z ?_)));exact bi tk H Z
def fh(_rec21:LProcedureRun->(List LProcedureStatement)->Option (Int×LProcedureRun))(rec44:LProcedureRun->LProcedureStatement->Option (Int×LProcedureRun))(_rec71:LProcedureRun->(List LProcedureStatement)->Option (Int×LProcedureRun))(_rec72:LProcedureRun->LProcedureStatement->Option (Int×LProcedureRun))(rA:LProcedureRun)(l:List LProcedureStatement):Option (Int×LProcedureRun):=
 ae (aU (σ:=LProcedureRun) (ρ:=(Int×LProcedureRun)) (fun(_:Nat) (x1:LProcedureStatement) (s1:LProcedureRun)=>
  cond s1.stopped
   (some (.ret (0,s1)))
   (cond (decide ((iw (s1.left-(1:Int)))<(0:Int)))
    (some (.ret (2,(LProcedureRun.mk s1.s s1.st s1.args s1.vars s1.vals s1.changes s1.results (iw (s1.left-(1:Int))) s1.stopped))))
    (ae (rec44 (LProcedureRun.mk s1.s s1.st s1.args s1.vars s1.vals s1.changes s1.results (iw (s1.left-(1:Int))) s1.stopped) x1) fun x32=>
    cond (x32.1 !=(0:Int))
     (some (.ret (x32.1,x32.2)))
     (some (.next x32.2))))) 0 l rA) fun fl1=>fl1.thenR fun(s1:LProcedureRun)=>
 some (0,s1)
theorem rn(b_rA:Nat)(g_rA_7:OwnRef)(g_rA_8:OwnRef)(rec21:LProcedureRun->(List LProcedureStatement)->Option (Int×LProcedureRun))(rec44:LProcedureRun->LProcedureStatement->Option (Int×LProcedureRun))(rec71:LProcedureRun->(List LProcedureStatement)->Option (Int×LProcedureRun))(rec72:LProcedureRun->LProcedureStatement->Option (Int×LProcedureRun))(_hrec21:∀bb0 gg0_7 gg0_8 a0 a1 r,rec21 a0 a1=some r->PH prog 21 [(.box 1500 bb0 0),(.list 66 (a1.map aH))] ⟨(bR bb0 a0 gg0_7 gg0_8),(oR a0 gg0_7 gg0_8)⟩ (fun u H=>∃gz0_7,∃gz0_8,u=(ah r.1)/\H=⟨(bR bb0 r.2 gz0_7 gz0_8),(oR r.2 gz0_7 gz0_8)⟩))(hrec44:∀bb0 gg0_7 gg0_8 a0 a1 r,rec44 a0 a1=some r->PH prog 44 [(.box 1500 bb0 0),(.agg (aE a1))] ⟨(bR bb0 a0 gg0_7 gg0_8),(oR a0 gg0_7 gg0_8)⟩ (fun u H=>∃gz0_7,∃gz0_8,u=(ah r.1)/\H=⟨(bR bb0 r.2 gz0_7 gz0_8),(oR r.2 gz0_7 gz0_8)⟩))(_hrec71:∀bb0 gg0_7 gg0_8 a0 a1 r,rec71 a0 a1=some r->PH prog 71 [(.box 1500 bb0 0),(.list 66 (a1.map aH))] ⟨(bR bb0 a0 gg0_7 gg0_8),(oR a0 gg0_7 gg0_8)⟩ (fun u H=>∃gz0_7,∃gz0_8,u=(ah r.1)/\H=⟨(bR bb0 r.2 gz0_7 gz0_8),(oR r.2 gz0_7 gz0_8)⟩))(_hrec72:∀bb0 gg0_7 gg0_8 a0 a1 r,rec72 a0 a1=some r->PH prog 72 [(.box 1500 bb0 0),(.agg (aE a1))] ⟨(bR bb0 a0 gg0_7 gg0_8),(oR a0 gg0_7 gg0_8)⟩ (fun u H=>∃gz0_7,∃gz0_8,u=(ah r.1)/\H=⟨(bR bb0 r.2 gz0_7 gz0_8),(oR r.2 gz0_7 gz0_8)⟩))(rA:LProcedureRun)(l:List LProcedureStatement)(r:Int×LProcedureRun)(H:fh rec21 rec44 rec71 rec72 rA l=some r):
  PH prog 21 [(.box 1500 b_rA 0),(.list 66 (l.map aH))] ⟨(bR b_rA rA g_rA_7 g_rA_8),(oR rA g_rA_7 g_rA_8)⟩ (fun u H=>∃gz0_7,∃gz0_8,u=(ah r.1)/\H=⟨(bR b_rA r.2 gz0_7 gz0_8),(oR r.2 gz0_7 gz0_8)⟩):=by
 unfold fh at H;refine PH.au func21 ntmps21 ?_;refine ak 1 tk Z (aa (aa (ab (ai tk Z (aI tk (zl _) ?_)))));refine ai tk Z (ac ?_);refine ff (γ:=OwnRef×OwnRef) tk 10 9 8 (fun s1 g1=>upd (fun _=>.any) 0 (.box 1500 b_rA 0)) (fun s1 g1=>(bR b_rA s1 g1.1 g1.2)) (fun s1 g1=>(oR s1 g1.1 g1.2)) (g_rA_7,g_rA_8) H (fun fl1 Hp1 j1 s1 g1 hz1 hl1 x1 fb1 hx1 H hg1=>?_) (fun s1 g1 H=>?_)
 ·refine aa (av (aa (ab (be tk (zn j1) (bA dr hx1) ?_))));refine ai tk Z ?_;refine bm tk fun b6=>?_
  refine ay tk ?_;refine ac (aa (aa (ab (ag 3 tk Z (aJ tk ?_)))));refine ac ?_;refine aF Z H (fun H=>?_) (fun H=>?_)
  ·refine ak 1 tk Z ?_;obtain rfl:=aq H;have e1:fl1= .ret _:=hg1;subst e1;obtain rfl:=aZ Hp1;refine bZ (st':=⟨37,upd (fun _=>.any) 4 (ah 0),(bR b_rA s1 g1.1 g1.2),(oR s1 g1.1 g1.2)⟩) (Gh.le (ao aL) (aR Z (jt.r) aw) (aD (aD ax))) ?_;refine cl tk Z (ps:=[(ah 0)]) ⟨_,_,rfl,rfl,rfl⟩ (PLe.q Z) ⟨_,_,rfl,rfl⟩
  refine al (aa (aa (ab (ag 3 tk Z (aJ tk ?_)))));refine ag 3 tk Z (ay tk ?_);refine ac (aa (ab (ag 3 tk Z (aJ tk ?_))));refine ai tk Z (ac ?_);refine aF Z H (fun H=>?_) (fun H=>?_)
  ·refine ak 1 tk Z ?_;obtain rfl:=aq H;have e1:fl1= .ret _:=hg1;subst e1;obtain rfl:=aZ Hp1;refine bZ (st':=⟨37,upd (fun _=>.any) 4 (ah 2),upd (fun _=>none) 1500 (some ⟨b_rA,[(.list 56 ((((LProcedureRun.mk s1.s s1.st s1.args s1.vars s1.vals s1.changes s1.results (iw (s1.left-(1:Int))) s1.stopped).s).tables).map bM)),(.list 99 ((((LProcedureRun.mk s1.s s1.st s1.args s1.vars s1.vals s1.changes s1.results (iw (s1.left-(1:Int))) s1.stopped).s).foreignKeys).map gW)),(.list 105 ((((LProcedureRun.mk s1.s s1.st s1.args s1.vars s1.vals s1.changes s1.results (iw (s1.left-(1:Int))) s1.stopped).s).constraints).map iK)),(.list 69 (((LProcedureRun.mk s1.s s1.st s1.args s1.vars s1.vals s1.changes s1.results (iw (s1.left-(1:Int))) s1.stopped).st).map bW)),(.list 58 (((LProcedureRun.mk s1.s s1.st s1.args s1.vars s1.vals s1.changes s1.results (iw (s1.left-(1:Int))) s1.stopped).args).map af)),(.list 53 (((LProcedureRun.mk s1.s s1.st s1.args s1.vars s1.vals s1.changes s1.results (iw (s1.left-(1:Int))) s1.stopped).vars).map aB)),(.list 58 (((LProcedureRun.mk s1.s s1.st s1.args s1.vars s1.vals s1.changes s1.results (iw (s1.left-(1:Int))) s1.stopped).vals).map af)),(.own 1607 g1.1 (s1.changes.map cu).length),(.own 1608 g1.2 (s1.results.map cN).length),(ah ((LProcedureRun.mk s1.s s1.st s1.args s1.vars s1.vals s1.changes s1.results (iw (s1.left-(1:Int))) s1.stopped).left)),(aK ((LProcedureRun.mk s1.s s1.st s1.args s1.vars s1.vals s1.changes s1.results (iw (s1.left-(1:Int))) s1.stopped).stopped))]⟩),(oR s1 g1.1 g1.2)⟩) (Gh.le (ao aL) (aR Z (jt.r) aw) (aD (aD ax))) ?_;refine cl tk Z (ps:=[(ah 2)]) ⟨_,_,rfl,rfl,rfl⟩ (PLe.q Z) ⟨_,_,rfl,rfl⟩
  refine al (aa (ab (ai tk Z (aJ tk ?_))))
  obtain⟨x32,h32,H⟩:=am H
  have s32:=hrec44 b_rA g1.1 g1.2 (LProcedureRun.mk s1.s s1.st s1.args s1.vars s1.vals s1.changes s1.results (iw (s1.left-(1:Int))) s1.stopped) x1 _ h32;refine bB (g:=44) Z Z Z call44 [(1500,1500)] [(1607,1607),(1608,1608)] Z Z Z Z (jt.of2 (jN.cons pD.boxT (jN.cons (pD.of_eq Z) jN.nil))) (by rw[cf,bq,aW,aW,bn];rfl) s32 ?_;rintro u32 H32h ⟨gz32_1607,gz32_1608,rfl,rfl⟩
  refine⟨_,rfl,?_⟩
  refine bS (st':=⟨_,_,upd (bR b_rA x32.2 gz32_1607 gz32_1608) 6 (some ⟨b6,(aE x1)⟩),(oR x32.2 gz32_1607 gz32_1608)⟩) (Gh.le (bs _ _) (aR Z (jt.r) (aR Z (jt.r) aw)) (aD (aD ax))) (ai tk Z (ac (ak 2 tk Z ?_)));refine aF Z H (fun H=>?_) (fun H=>?_)
  ·refine ak 2 tk Z ?_;obtain rfl:=aq H;have e1:fl1= .ret _:=hg1;subst e1;obtain rfl:=aZ Hp1;refine bZ (st':=⟨37,upd (fun _=>.any) 4 (ah x32.1),(bR b_rA x32.2 gz32_1607 gz32_1608),(oR x32.2 gz32_1607 gz32_1608)⟩) (Gh.le (ao aL) (aR Z (jt.r) aw) (aD (aD ax))) ?_;refine cl tk Z (ps:=[(ah x32.1)]) ⟨_,_,rfl,rfl,rfl⟩ (PLe.q Z) ⟨_,_,rfl,rfl⟩
  refine al (aM (bc 2 tk Z ?_));exact bv (gz32_1607,gz32_1608) H hl1 hg1
 refine ak 1 tk Z ?_;obtain rfl:=aq H;refine bZ (st':=⟨37,upd (fun _=>.any) 4 (ah 0),(bR b_rA s1 g1.1 g1.2),(oR s1 g1.1 g1.2)⟩) (Gh.le (ao aL) (aR Z (jt.r) aw) (aD (aD ax))) ?_;refine cl tk Z (ps:=[(ah 0)]) ⟨_,_,rfl,rfl,rfl⟩ (PLe.q Z) ⟨_,_,rfl,rfl⟩
def dU(_rec21:LProcedureRun->(List LProcedureStatement)->Option (Int×LProcedureRun))(_rec44:LProcedureRun->LProcedureStatement->Option (Int×LProcedureRun))(rec71:LProcedureRun->(List LProcedureStatement)->Option (Int×LProcedureRun))(rec72:LProcedureRun->LProcedureStatement->Option (Int×LProcedureRun))(rA:LProcedureRun)(sA:LProcedureStatement):Option (Int×LProcedureRun):=
 cond (sA.kind==(1:Int))
  (ae (aG sA.exprs 0) fun(x22:LExpr)=>
  letP (fD ([]:List LCol) rA.vars x22) fun x24=>
  ae (aG sA.exprs 0) fun(x37:LExpr)=>
  ae (eG rA ([]:List LCol) ([]:Rq) x37) fun x39=>
  ae (im x39.2 (LCol.mk sA.name x24.1 x24.2.1) x39.1) fun x40=>
  some (0,x40))
  (cond (sA.kind==(2:Int))
   (ae (aG sA.exprs 0) fun(x46:LExpr)=>
   ae (eG rA ([]:List LCol) ([]:Rq) x46) fun x48=>
   letP (lu x48.1) fun x49=>
   cond x49
    (ae (rec71 x48.2 sA.body) fun x53=>
    some (x53.1,x53.2))
    (ae (rec71 x48.2 sA.elseF) fun x57=>
    some (x57.1,x57.2)))
   (letP (
    cond (sA.kind==(3:Int))
     ((sA.kind==(3:Int)))
     ((sA.kind==(7:Int)))) fun(t1:Bool)=>
   cond t1
    (ae (rec72 rA sA) fun x63=>
    some (x63.1,x63.2))
    (cond (sA.kind==(4:Int))
     (ae (aU (σ:=Rq×LProcedureRun) (ρ:=Empty) (fun(_:Nat) (x2:LExpr) (s2:Rq×LProcedureRun)=>
      ae (eG s2.2 ([]:List LCol) ([]:Rq) x2) fun x76=>
      ae (dq 32 s2.1 ([x76.1]:Rq)) fun(x78:Rq)=>
      some (.next (x78,x76.2))) 0 sA.exprs ([],rA)) fun fl2=>fl2.thenP fun(s2:Rq×LProcedureRun)=>
     ae (gI s2.2 (LChange.mk 1 sA.table [] s2.1)) fun x85=>
     some (x85.1,x85.2))
     (letP (
      cond (sA.kind==(5:Int))
       ((sA.kind==(5:Int)))
       ((sA.kind==(6:Int)))) fun(t3:Bool)=>
     cond t3
      (ae (iS rA sA) fun x91=>
      some (x91.1,x91.2))
      (cond (sA.kind==(8:Int))
       (letP (fT sA.code) fun x96=>
       some (x96,rA))
       (cond (sA.kind==(9:Int))
        (some (0,(LProcedureRun.mk rA.s rA.st rA.args rA.vars rA.vals rA.changes rA.results rA.left true)))
        (some (0,rA))))))))
theorem rJ(b_rA:Nat)(g_rA_7:OwnRef)(g_rA_8:OwnRef)(rec21:LProcedureRun->(List LProcedureStatement)->Option (Int×LProcedureRun))(rec44:LProcedureRun->LProcedureStatement->Option (Int×LProcedureRun))(rec71:LProcedureRun->(List LProcedureStatement)->Option (Int×LProcedureRun))(rec72:LProcedureRun->LProcedureStatement->Option (Int×LProcedureRun))(_hrec21:∀bb0 gg0_7 gg0_8 a0 a1 r,rec21 a0 a1=some r->PH prog 21 [(.box 1500 bb0 0),(.list 66 (a1.map aH))] ⟨(bR bb0 a0 gg0_7 gg0_8),(oR a0 gg0_7 gg0_8)⟩ (fun u H=>∃gz0_7,∃gz0_8,u=(ah r.1)/\H=⟨(bR bb0 r.2 gz0_7 gz0_8),(oR r.2 gz0_7 gz0_8)⟩))(_hrec44:∀bb0 gg0_7 gg0_8 a0 a1 r,rec44 a0 a1=some r->PH prog 44 [(.box 1500 bb0 0),(.agg (aE a1))] ⟨(bR bb0 a0 gg0_7 gg0_8),(oR a0 gg0_7 gg0_8)⟩ (fun u H=>∃gz0_7,∃gz0_8,u=(ah r.1)/\H=⟨(bR bb0 r.2 gz0_7 gz0_8),(oR r.2 gz0_7 gz0_8)⟩))(hrec71:∀bb0 gg0_7 gg0_8 a0 a1 r,rec71 a0 a1=some r->PH prog 71 [(.box 1500 bb0 0),(.list 66 (a1.map aH))] ⟨(bR bb0 a0 gg0_7 gg0_8),(oR a0 gg0_7 gg0_8)⟩ (fun u H=>∃gz0_7,∃gz0_8,u=(ah r.1)/\H=⟨(bR bb0 r.2 gz0_7 gz0_8),(oR r.2 gz0_7 gz0_8)⟩))(hrec72:∀bb0 gg0_7 gg0_8 a0 a1 r,rec72 a0 a1=some r->PH prog 72 [(.box 1500 bb0 0),(.agg (aE a1))] ⟨(bR bb0 a0 gg0_7 gg0_8),(oR a0 gg0_7 gg0_8)⟩ (fun u H=>∃gz0_7,∃gz0_8,u=(ah r.1)/\H=⟨(bR bb0 r.2 gz0_7 gz0_8),(oR r.2 gz0_7 gz0_8)⟩))(rA:LProcedureRun)(sA:LProcedureStatement)(r:Int×LProcedureRun)(H:dU rec21 rec44 rec71 rec72 rA sA=some r):
  PH prog 44 [(.box 1500 b_rA 0),(.agg (aE sA))] ⟨(bR b_rA rA g_rA_7 g_rA_8),(oR rA g_rA_7 g_rA_8)⟩ (fun u H=>∃gz0_7,∃gz0_8,u=(ah r.1)/\H=⟨(bR b_rA r.2 gz0_7 gz0_8),(oR r.2 gz0_7 gz0_8)⟩):=by
 unfold dU at H;refine PH.au func44 ntmps44 ?_;refine aa (ab (aO ?_));refine ai tk Z (ac (aa (ak 2 tk Z (av (ak 2 tk Z ?_)))));refine aF Z H (fun H=>?_) (fun H=>?_)
 ·refine aa (aX tk mok ⟨true,false,[21,23]⟩ [0,1,2,3,4,5,6,7,8,9,10,11,12,13,14,15] Z (by decide+kernel) Z (az 3 Z (bd ?_)));refine az 2 Z ?_
  obtain⟨x22,k22,H⟩:=aV H
  refine bE k22.1 (aC dh k22.2) ?_;refine bw Z ?_
  obtain⟨x24,h24,H⟩:=bF H
  have s24:=lZ ([]:List LCol) rA.vars x22;rw[h24]at s24;refine aS call67 (jt.of2 (jN.cons (pD.nil tk Z) (jN.cons (pD.of_eq Z) (jN.cons (pD.of_eq Z) jN.nil)))) s24 ?_;refine az 7 Z (aQ (aX tk mok ⟨false,false,[999997]⟩ [0,1,2,3,4,5,6,7,8,9,10,11,12] Z (by decide+kernel) Z (az 9 Z ?_)))
  obtain⟨x37,k37,H⟩:=aV H
  refine bE k37.1 (aC dh k37.2) ?_;refine bw Z ?_
  obtain⟨x39,h39,H⟩:=am H
  have s39:=iY b_rA g_rA_7 g_rA_8 rA ([]:List LCol) ([]:Rq) x37 _ h39;refine pl (g:=69) Z Z Z Z call69 Z Z [(1500,1500)] [(1607,1607),(1608,1608)] Z Z Z Z (jt.of2 (jN.cons pD.boxT (jN.cons (pD.nil tk Z) (jN.cons (pD.nil tk Z) (jN.cons (pD.of_eq Z) jN.nil))))) (by rw[cf,bq,aW,aW,bn];rfl) s39 ?_;rintro u39 H39h ⟨gz39_1607,gz39_1608,rfl,rfl⟩
  refine⟨_,rfl,?_⟩
  obtain⟨x40,h40,H⟩:=am H
  have s40:=oy b_rA gz39_1607 gz39_1608 x39.2 (LCol.mk sA.name x24.1 x24.2.1) x39.1 _ h40;refine pl (g:=68) Z Z Z Z call68 Z Z [(1500,1500)] [(1607,1607),(1608,1608)] Z Z Z Z (jt.of2 (jN.cons pD.boxT (jN.cons (pD.of_eq Z) (jN.cons (pD.of_eq Z) jN.nil)))) (by rw[cf,bq,aW,aW,bn];rfl) s40 ?_;rintro u40 H40h ⟨gz40_1607,gz40_1608,rfl,rfl⟩
  refine⟨_,rfl,?_⟩
  refine aQ (bZ (st':=⟨_,_,(bR b_rA x40 gz40_1607 gz40_1608),(oR x40 gz40_1607 gz40_1608)⟩) (Gh.le (bs _ _) (aR Z (jt.r) aw) (aD (aD ax))) (aM (ak 1 tk Z ?_)));obtain rfl:=aq H;refine bZ (st':=⟨102,upd (fun _=>.any) 4 (ah 0),(bR b_rA x40 gz40_1607 gz40_1608),(oR x40 gz40_1607 gz40_1608)⟩) (Gh.le (ao aL) (aR Z (jt.r) aw) (aD (aD ax))) ?_;refine cl tk Z (ps:=[(ah 0)]) ⟨_,_,rfl,rfl,rfl⟩ (PLe.q Z) ⟨_,_,rfl,rfl⟩
 refine ak 2 tk Z ?_;refine aF Z H (fun H=>?_) (fun H=>?_)
 ·refine aa (aa (ab (ag 3 tk Z ?_)))
  obtain⟨x46,k46,H⟩:=aV H
  refine be tk k46.1 (aC dh k46.2) ?_;refine ai tk Z ?_
  obtain⟨x48,h48,H⟩:=am H
  have s48:=iY b_rA g_rA_7 g_rA_8 rA ([]:List LCol) ([]:Rq) x46 _ h48;refine bB (g:=69) Z Z Z call69 [(1500,1500)] [(1607,1607),(1608,1608)] Z Z Z Z (jt.of2 (jN.cons pD.boxT (jN.cons (pD.nil tk Z) (jN.cons (pD.nil tk Z) (jN.cons (pD.of_eq Z) jN.nil))))) (by rw[cf,bq,aW,aW,bn];rfl) s48 ?_;rintro u48 H48h ⟨gz48_1607,gz48_1608,rfl,rfl⟩
  refine⟨_,rfl,?_⟩
  refine bS (st':=⟨_,_,(bR b_rA x48.2 gz48_1607 gz48_1608),(oR x48.2 gz48_1607 gz48_1608)⟩) (Gh.le (bs _ _) (aR Z (jt.r) aw) (aD (aD ax))) ?_
  obtain⟨x49,h49,H⟩:=bF H
  have s49:=isTS x48.1;rw[h49]at s49;refine aj call70 (jt.r) s49 ?_;refine ac ?_;refine aF Z H (fun H=>?_) (fun H=>?_)
  ·refine aa (ab (ag 3 tk Z ?_))
   obtain⟨x53,h53,H⟩:=am H
   have s53:=hrec71 b_rA gz48_1607 gz48_1608 x48.2 sA.body _ h53;refine bB (g:=71) Z Z Z call71 [(1500,1500)] [(1607,1607),(1608,1608)] Z Z Z Z (jt.of2 (jN.cons pD.boxT (jN.cons (pD.of_eq Z) jN.nil))) (by rw[cf,bq,aW,aW,bn];rfl) s53 ?_;rintro u53 H53h ⟨gz53_1607,gz53_1608,rfl,rfl⟩
   refine⟨_,rfl,?_⟩
   refine bS (st':=⟨_,_,(bR b_rA x53.2 gz53_1607 gz53_1608),(oR x53.2 gz53_1607 gz53_1608)⟩) (Gh.le (bs _ _) (aR Z (jt.r) aw) (aD (aD ax))) (ai tk Z (ac ?_));obtain rfl:=aq H;refine bZ (st':=⟨102,upd (fun _=>.any) 4 (ah x53.1),(bR b_rA x53.2 gz53_1607 gz53_1608),(oR x53.2 gz53_1607 gz53_1608)⟩) (Gh.le (ao aL) (aR Z (jt.r) aw) (aD (aD ax))) ?_;refine cl tk Z (ps:=[(ah x53.1)]) ⟨_,_,rfl,rfl,rfl⟩ (PLe.q Z) ⟨_,_,rfl,rfl⟩
  refine al (aa (ab (ag 3 tk Z ?_)))
  obtain⟨x57,h57,H⟩:=am H
  have s57:=hrec71 b_rA gz48_1607 gz48_1608 x48.2 sA.elseF _ h57;refine bB (g:=71) Z Z Z call71 [(1500,1500)] [(1607,1607),(1608,1608)] Z Z Z Z (jt.of2 (jN.cons pD.boxT (jN.cons (pD.of_eq Z) jN.nil))) (by rw[cf,bq,aW,aW,bn];rfl) s57 ?_;rintro u57 H57h ⟨gz57_1607,gz57_1608,rfl,rfl⟩
  refine⟨_,rfl,?_⟩
  refine bS (st':=⟨_,_,(bR b_rA x57.2 gz57_1607 gz57_1608),(oR x57.2 gz57_1607 gz57_1608)⟩) (Gh.le (bs _ _) (aR Z (jt.r) aw) (aD (aD ax))) (ai tk Z (ac ?_));obtain rfl:=aq H;refine bZ (st':=⟨102,upd (fun _=>.any) 4 (ah x57.1),(bR b_rA x57.2 gz57_1607 gz57_1608),(oR x57.2 gz57_1607 gz57_1608)⟩) (Gh.le (ao aL) (aR Z (jt.r) aw) (aD (aD ax))) ?_;refine cl tk Z (ps:=[(ah x57.1)]) ⟨_,_,rfl,rfl,rfl⟩ (PLe.q Z) ⟨_,_,rfl,rfl⟩
 refine aa (ak 2 tk Z ?_);refine ed (γ:=Unit) (fun t1 g1=>⟨102,upd (upd (upd (upd (fun _=>.any) 58 (aK t1)) 12 (ah sA.kind)) 3 (.ptr (aE sA))) 0 (.box 1500 b_rA 0),(bR b_rA rA g_rA_7 g_rA_8),(oR rA g_rA_7 g_rA_8)⟩) H (fun _ H=>?_) (fun t1 g1 H=>?_)
 ·refine aF Z H (fun H=>?_) (fun H=>?_)
  ·refine al ?_;refine aP _ () H Gh.d
  refine bc 2 tk Z ?_;refine aP _ () H Gh.d
 refine aF Z H (fun H=>?_) (fun H=>?_)
 ·refine aa (ab (ag 2 tk Z ?_))
  obtain⟨x63,h63,H⟩:=am H
  have s63:=hrec72 b_rA g_rA_7 g_rA_8 rA sA _ h63;refine bB (g:=72) Z Z Z call72 [(1500,1500)] [(1607,1607),(1608,1608)] Z Z Z Z (jt.of2 (jN.cons pD.boxT (jN.cons (pD.of_eq Z) jN.nil))) (by rw[cf,bq,aW,aW,bn];rfl) s63 ?_;rintro u63 H63h ⟨gz63_1607,gz63_1608,rfl,rfl⟩
  refine⟨_,rfl,?_⟩
  refine bS (st':=⟨_,_,(bR b_rA x63.2 gz63_1607 gz63_1608),(oR x63.2 gz63_1607 gz63_1608)⟩) (Gh.le (bs _ _) (aR Z (jt.r) aw) (aD (aD ax))) (ai tk Z (ac ?_));obtain rfl:=aq H;refine bZ (st':=⟨102,upd (fun _=>.any) 4 (ah x63.1),(bR b_rA x63.2 gz63_1607 gz63_1608),(oR x63.2 gz63_1607 gz63_1608)⟩) (Gh.le (ao aL) (aR Z (jt.r) aw) (aD (aD ax))) ?_;refine cl tk Z (ps:=[(ah x63.1)]) ⟨_,_,rfl,rfl,rfl⟩ (PLe.q Z) ⟨_,_,rfl,rfl⟩
 refine ak 2 tk Z ?_;refine aF Z H (fun H=>?_) (fun H=>?_)
 ·refine ak 1 tk Z (aa (aa (ab (ag 2 tk Z (aI tk (zl _) ?_)))));refine ai tk Z (ac (hZ tk 8 78 (e:=58) Z Z ?_));refine gc (γ:=OwnRef×OwnRef×OwnRef) tk 69 68 67 (fun s2 g2=>upd (upd (upd (fun _=>.any) 8 (.own 78 g2.1 (s2.1.map af).length)) 3 (.ptr (aE sA))) 0 (.box 1500 b_rA 0)) (fun s2 g2=>(bR b_rA s2.2 g2.2.1 g2.2.2)) (fun s2 g2=>upd (upd (upd (fun _=>none) 78 (some ⟨g2.1,58,(s2.1.map af),true⟩)) 1608 (some ⟨g2.2.2,180,(s2.2.results.map cN),true⟩)) 1607 (some ⟨g2.2.1,48,(s2.2.changes.map cu),true⟩)) (⟨none,0⟩,g_rA_7,g_rA_8) H (fun fl2 Hp2 j2 s2 g2 hz2 hl2 x2 fb2 hx2 H hg2=>?_) (fun s2 g2 H=>?_)
  ·refine aa (av (aa (ab (be tk (zn j2) (bA dh hx2) ?_))));refine ai tk Z ?_;refine bm tk fun b10=>?_
   refine ay tk ?_;refine ac (ab (ag 2 tk Z (aJ tk ?_)))
   obtain⟨x76,h76,H⟩:=am H
   have s76:=iY b_rA g2.2.1 g2.2.2 s2.2 ([]:List LCol) ([]:Rq) x2 _ h76;refine bB (g:=69) Z Z Z call69 [(1500,1500)] [(1607,1607),(1608,1608)] Z Z Z Z (jt.of2 (jN.cons pD.boxT (jN.cons (pD.nil tk Z) (jN.cons (pD.nil tk Z) (jN.cons (pD.of_eq Z) jN.nil))))) (by rw[cf,bq,aW,aW,bn];rfl) s76 ?_;rintro u76 H76h ⟨gz76_1607,gz76_1608,rfl,rfl⟩
   refine⟨_,rfl,?_⟩
   refine bS (st':=⟨_,_,upd (bR b_rA x76.2 gz76_1607 gz76_1608) 10 (some ⟨b10,(gZ x2)⟩),upd (upd (upd (fun _=>none) 78 (some ⟨g2.1,58,(s2.1.map af),true⟩)) 1608 (some ⟨gz76_1608,180,(x76.2.results.map cN),true⟩)) 1607 (some ⟨gz76_1607,48,(x76.2.changes.map cu),true⟩)⟩) (Gh.le (bs _ _) (aR Z (jt.r) (aR Z (jt.r) aw)) (aD (aD (aD ax)))) ?_;refine cy tk (rows':=List.map af ([x76.1]:Rq)) (gP.refl _) ?_
   obtain⟨x78,h78,H⟩:=am H
   have k78:=cj h78;refine cv (rows2':=List.map af ([x76.1]:Rq)) (rows':=List.map af x78) tk Z Z Z Z Z Z Z Z Z Z Z Z Z (gP.refl _) (cU k78.1) (cW k78.2.1) (cV k78.2.2) fun g78=>?_
   refine ai tk Z (ac (aM (bc 2 tk Z ?_)));exact bv (g78,gz76_1607,gz76_1608) H hl2 hg2
  refine aa (cT 8 Z Z Z (ab (ag 5 tk Z ?_)))
  obtain⟨x85,h85,H⟩:=am H
  have s85:=nC b_rA g2.2.1 g2.2.2 s2.2 (LChange.mk 1 sA.table [] s2.1) _ h85;refine bB (g:=73) Z Z Z call73 [(1500,1500)] [(1607,1607),(1608,1608)] Z Z Z Z (jt.of2 (jN.cons pD.boxT (jN.cons (pD.agg (jN.cons (pD.of_eq Z) (jN.cons (pD.of_eq Z) (jN.cons (pD.nil tk Z) (jN.cons (pD.of_eq Z) jN.nil))))) jN.nil))) (by rw[cf,bq,aW,aW,bn];rfl) s85 ?_;rintro u85 H85h ⟨gz85_1607,gz85_1608,rfl,rfl⟩
  refine⟨_,rfl,?_⟩
  refine bS (st':=⟨_,_,(bR b_rA x85.2 gz85_1607 gz85_1608),upd (upd (upd (fun _=>none) 78 (some ⟨g2.1,58,(s2.1.map af),false⟩)) 1608 (some ⟨gz85_1608,180,(x85.2.results.map cN),true⟩)) 1607 (some ⟨gz85_1607,48,(x85.2.changes.map cu),true⟩)⟩) (Gh.le (bs _ _) (aR Z (jt.r) aw) (aD (aD (aD ax)))) ?_;refine ai tk Z (ac ?_);obtain rfl:=aq H;refine bZ (st':=⟨102,upd (fun _=>.any) 4 (ah x85.1),(bR b_rA x85.2 gz85_1607 gz85_1608),(oR x85.2 gz85_1607 gz85_1608)⟩) (Gh.le (ao aL) (aR Z (jt.r) aw) (aD (aD ax))) ?_;refine cl tk Z (ps:=[(ah x85.1)]) ⟨_,_,rfl,rfl,rfl⟩ (PLe.q Z) ⟨_,_,rfl,rfl⟩
 refine aa (ak 2 tk Z ?_);refine ed (γ:=Unit) (fun t3 g3=>⟨102,upd (upd (upd (upd (fun _=>.any) 86 (aK t3)) 12 (ah sA.kind)) 3 (.ptr (aE sA))) 0 (.box 1500 b_rA 0),(bR b_rA rA g_rA_7 g_rA_8),(oR rA g_rA_7 g_rA_8)⟩) H (fun _ H=>?_) (fun t3 g3 H=>?_)
 ·refine aF Z H (fun H=>?_) (fun H=>?_)
  ·refine al ?_;refine aP _ () H Gh.d
  refine bc 2 tk Z ?_;refine aP _ () H Gh.d
 refine aF Z H (fun H=>?_) (fun H=>?_)
 ·refine aa (ab (ag 2 tk Z ?_))
  obtain⟨x91,h91,H⟩:=am H
  have s91:=sc b_rA g_rA_7 g_rA_8 rA sA _ h91;refine bB (g:=74) Z Z Z call74 [(1500,1500)] [(1607,1607),(1608,1608)] Z Z Z Z (jt.of2 (jN.cons pD.boxT (jN.cons (pD.of_eq Z) jN.nil))) (by rw[cf,bq,aW,aW,bn];rfl) s91 ?_;rintro u91 H91h ⟨gz91_1607,gz91_1608,rfl,rfl⟩
  refine⟨_,rfl,?_⟩
  refine bS (st':=⟨_,_,(bR b_rA x91.2 gz91_1607 gz91_1608),(oR x91.2 gz91_1607 gz91_1608)⟩) (Gh.le (bs _ _) (aR Z (jt.r) aw) (aD (aD ax))) (ai tk Z (ac ?_));obtain rfl:=aq H;refine bZ (st':=⟨102,upd (fun _=>.any) 4 (ah x91.1),(bR b_rA x91.2 gz91_1607 gz91_1608),(oR x91.2 gz91_1607 gz91_1608)⟩) (Gh.le (ao aL) (aR Z (jt.r) aw) (aD (aD ax))) ?_;refine cl tk Z (ps:=[(ah x91.1)]) ⟨_,_,rfl,rfl,rfl⟩ (PLe.q Z) ⟨_,_,rfl,rfl⟩
 refine ak 2 tk Z ?_;refine aF Z H (fun H=>?_) (fun H=>?_)
 ·refine aa (ab (ag 2 tk Z ?_))
  obtain⟨x96,h96,H⟩:=bF H
  have s96:=qB sA.code;rw[h96]at s96;refine aj call75 (jt.r) s96 ?_;refine ai tk Z (ac ?_);obtain rfl:=aq H;refine bZ (st':=⟨102,upd (fun _=>.any) 4 (ah x96),(bR b_rA rA g_rA_7 g_rA_8),(oR rA g_rA_7 g_rA_8)⟩) (Gh.le (ao aL) (aR Z (jt.r) aw) (aD (aD ax))) ?_;refine cl tk Z (ps:=[(ah x96)]) ⟨_,_,rfl,rfl,rfl⟩ (PLe.q Z) ⟨_,_,rfl,rfl⟩
 refine ak 2 tk Z ?_;refine aF Z H (fun H=>?_) (fun H=>?_)
 ·refine ab (ag 3 tk Z (ay tk ?_));refine ac (aM (ak 1 tk Z ?_));obtain rfl:=aq H;refine bZ (st':=⟨102,upd (fun _=>.any) 4 (ah 0),upd (fun _=>none) 1500 (some ⟨b_rA,[(.list 56 ((((LProcedureRun.mk rA.s rA.st rA.args rA.vars rA.vals rA.changes rA.results rA.left true).s).tables).map bM)),(.list 99 ((((LProcedureRun.mk rA.s rA.st rA.args rA.vars rA.vals rA.changes rA.results rA.left true).s).foreignKeys).map gW)),(.list 105 ((((LProcedureRun.mk rA.s rA.st rA.args rA.vars rA.vals rA.changes rA.results rA.left true).s).constraints).map iK)),(.list 69 (((LProcedureRun.mk rA.s rA.st rA.args rA.vars rA.vals rA.changes rA.results rA.left true).st).map bW)),(.list 58 (((LProcedureRun.mk rA.s rA.st rA.args rA.vars rA.vals rA.changes rA.results rA.left true).args).map af)),(.list 53 (((LProcedureRun.mk rA.s rA.st rA.args rA.vars rA.vals rA.changes rA.results rA.left true).vars).map aB)),(.list 58 (((LProcedureRun.mk rA.s rA.st rA.args rA.vars rA.vals rA.changes rA.results rA.left true).vals).map af)),(.own 1607 g_rA_7 (rA.changes.map cu).length),(.own 1608 g_rA_8 (rA.results.map cN).length),(ah ((LProcedureRun.mk rA.s rA.st rA.args rA.vars rA.vals rA.changes rA.results rA.left true).left)),(aK ((LProcedureRun.mk rA.s rA.st rA.args rA.vars rA.vals rA.changes rA.results rA.left true).stopped))]⟩),(oR rA g_rA_7 g_rA_8)⟩) (Gh.le (ao aL) (aR Z (jt.r) aw) (aD (aD ax))) ?_;refine cl tk Z (ps:=[(ah 0)]) ⟨_,_,rfl,rfl,rfl⟩ (PLe.q Z) ⟨_,_,rfl,rfl⟩
 refine al (aM (ak 1 tk Z ?_));obtain rfl:=aq H;refine bZ (st':=⟨102,upd (fun _=>.any) 4 (ah 0),(bR b_rA rA g_rA_7 g_rA_8),(oR rA g_rA_7 g_rA_8)⟩) (Gh.le (ao aL) (aR Z (jt.r) aw) (aD (aD ax))) ?_;refine cl tk Z (ps:=[(ah 0)]) ⟨_,_,rfl,rfl,rfl⟩ (PLe.q Z) ⟨_,_,rfl,rfl⟩
def eV(rec21:LProcedureRun->(List LProcedureStatement)->Option (Int×LProcedureRun))(_rec44:LProcedureRun->LProcedureStatement->Option (Int×LProcedureRun))(_rec71:LProcedureRun->(List LProcedureStatement)->Option (Int×LProcedureRun))(_rec72:LProcedureRun->LProcedureStatement->Option (Int×LProcedureRun))(rA:LProcedureRun)(l:List LProcedureStatement):Option (Int×LProcedureRun):=
 ae (rec21 rA l) fun x18=>
 some (x18.1,(LProcedureRun.mk x18.2.s x18.2.st x18.2.args rA.vars rA.vals x18.2.changes x18.2.results x18.2.left x18.2.stopped))
theorem rf(b_rA:Nat)(g_rA_7:OwnRef)(g_rA_8:OwnRef)(rec21:LProcedureRun->(List LProcedureStatement)->Option (Int×LProcedureRun))(rec44:LProcedureRun->LProcedureStatement->Option (Int×LProcedureRun))(rec71:LProcedureRun->(List LProcedureStatement)->Option (Int×LProcedureRun))(rec72:LProcedureRun->LProcedureStatement->Option (Int×LProcedureRun))(hrec21:∀bb0 gg0_7 gg0_8 a0 a1 r,rec21 a0 a1=some r->PH prog 21 [(.box 1500 bb0 0),(.list 66 (a1.map aH))] ⟨(bR bb0 a0 gg0_7 gg0_8),(oR a0 gg0_7 gg0_8)⟩ (fun u H=>∃gz0_7,∃gz0_8,u=(ah r.1)/\H=⟨(bR bb0 r.2 gz0_7 gz0_8),(oR r.2 gz0_7 gz0_8)⟩))(_hrec44:∀bb0 gg0_7 gg0_8 a0 a1 r,rec44 a0 a1=some r->PH prog 44 [(.box 1500 bb0 0),(.agg (aE a1))] ⟨(bR bb0 a0 gg0_7 gg0_8),(oR a0 gg0_7 gg0_8)⟩ (fun u H=>∃gz0_7,∃gz0_8,u=(ah r.1)/\H=⟨(bR bb0 r.2 gz0_7 gz0_8),(oR r.2 gz0_7 gz0_8)⟩))(_hrec71:∀bb0 gg0_7 gg0_8 a0 a1 r,rec71 a0 a1=some r->PH prog 71 [(.box 1500 bb0 0),(.list 66 (a1.map aH))] ⟨(bR bb0 a0 gg0_7 gg0_8),(oR a0 gg0_7 gg0_8)⟩ (fun u H=>∃gz0_7,∃gz0_8,u=(ah r.1)/\H=⟨(bR bb0 r.2 gz0_7 gz0_8),(oR r.2 gz0_7 gz0_8)⟩))(_hrec72:∀bb0 gg0_7 gg0_8 a0 a1 r,rec72 a0 a1=some r->PH prog 72 [(.box 1500 bb0 0),(.agg (aE a1))] ⟨(bR bb0 a0 gg0_7 gg0_8),(oR a0 gg0_7 gg0_8)⟩ (fun u H=>∃gz0_7,∃gz0_8,u=(ah r.1)/\H=⟨(bR bb0 r.2 gz0_7 gz0_8),(oR r.2 gz0_7 gz0_8)⟩))(rA:LProcedureRun)(l:List LProcedureStatement)(r:Int×LProcedureRun)(H:eV rec21 rec44 rec71 rec72 rA l=some r):
  PH prog 71 [(.box 1500 b_rA 0),(.list 66 (l.map aH))] ⟨(bR b_rA rA g_rA_7 g_rA_8),(oR rA g_rA_7 g_rA_8)⟩ (fun u H=>∃gz0_7,∃gz0_8,u=(ah r.1)/\H=⟨(bR b_rA r.2 gz0_7 gz0_8),(oR r.2 gz0_7 gz0_8)⟩):=by
 unfold eV at H;refine PH.au func71 ntmps71 ?_;refine ak 1 tk Z (aa (aX tk mok ⟨true,false,[]⟩ [0,1,2,3,4,5,6,7,8,9] Z (by decide+kernel) Z (az 3 Z (bd ?_))));refine az 3 Z (bd ?_);refine az 2 Z (aQ (aa (ab (ag 2 tk Z ?_))))
 obtain⟨x18,h18,H⟩:=am H
 have s18:=hrec21 b_rA g_rA_7 g_rA_8 rA l _ h18;refine bB (g:=21) Z Z Z call21 [(1500,1500)] [(1607,1607),(1608,1608)] Z Z Z Z (jt.of2 (jN.cons pD.boxT (jN.cons (pD.of_eq Z) jN.nil))) (by rw[cf,bq,aW,aW,bn];rfl) s18 ?_;rintro u18 H18h ⟨gz18_1607,gz18_1608,rfl,rfl⟩
 refine⟨_,rfl,?_⟩
 refine bS (st':=⟨_,_,(bR b_rA x18.2 gz18_1607 gz18_1608),(oR x18.2 gz18_1607 gz18_1608)⟩) (Gh.le (bs _ _) (aR Z (jt.r) aw) (aD (aD ax))) (ai tk Z (ac (aa (ab (ag 6 tk Z (ay tk ?_))))));refine ag 2 tk Z (ay tk ?_);refine ac (ak 2 tk Z ?_);obtain rfl:=aq H;refine bZ (st':=⟨28,upd (fun _=>.any) 4 (ah x18.1),upd (fun _=>none) 1500 (some ⟨b_rA,[(.list 56 ((((LProcedureRun.mk x18.2.s x18.2.st x18.2.args rA.vars rA.vals x18.2.changes x18.2.results x18.2.left x18.2.stopped).s).tables).map bM)),(.list 99 ((((LProcedureRun.mk x18.2.s x18.2.st x18.2.args rA.vars rA.vals x18.2.changes x18.2.results x18.2.left x18.2.stopped).s).foreignKeys).map gW)),(.list 105 ((((LProcedureRun.mk x18.2.s x18.2.st x18.2.args rA.vars rA.vals x18.2.changes x18.2.results x18.2.left x18.2.stopped).s).constraints).map iK)),(.list 69 (((LProcedureRun.mk x18.2.s x18.2.st x18.2.args rA.vars rA.vals x18.2.changes x18.2.results x18.2.left x18.2.stopped).st).map bW)),(.list 58 (((LProcedureRun.mk x18.2.s x18.2.st x18.2.args rA.vars rA.vals x18.2.changes x18.2.results x18.2.left x18.2.stopped).args).map af)),(.list 53 (((LProcedureRun.mk x18.2.s x18.2.st x18.2.args rA.vars rA.vals x18.2.changes x18.2.results x18.2.left x18.2.stopped).vars).map aB)),(.list 58 (((LProcedureRun.mk x18.2.s x18.2.st x18.2.args rA.vars rA.vals x18.2.changes x18.2.results x18.2.left x18.2.stopped).vals).map af)),(.own 1607 gz18_1607 (x18.2.changes.map cu).length),(.own 1608 gz18_1608 (x18.2.results.map cN).length),(ah ((LProcedureRun.mk x18.2.s x18.2.st x18.2.args rA.vars rA.vals x18.2.changes x18.2.results x18.2.left x18.2.stopped).left)),(aK ((LProcedureRun.mk x18.2.s x18.2.st x18.2.args rA.vars rA.vals x18.2.changes x18.2.results x18.2.left x18.2.stopped).stopped))]⟩),(oR x18.2 gz18_1607 gz18_1608)⟩) (Gh.le (ao aL) (aR Z (jt.r) aw) (aD (aD ax))) ?_;refine cl tk Z (ps:=[(ah x18.1)]) ⟨_,_,rfl,rfl,rfl⟩ (PLe.q Z) ⟨_,_,rfl,rfl⟩
def dP(rec21:LProcedureRun->(List LProcedureStatement)->Option (Int×LProcedureRun))(_rec44:LProcedureRun->LProcedureStatement->Option (Int×LProcedureRun))(_rec71:LProcedureRun->(List LProcedureStatement)->Option (Int×LProcedureRun))(_rec72:LProcedureRun->LProcedureStatement->Option (Int×LProcedureRun))(rA:LProcedureRun)(sA:LProcedureStatement):Option (Int×LProcedureRun):=
 ae (aG sA.query 0) fun(x25:LQuery)=>
 ae (iv rA.s rA.st x25 rA.args rA.vars rA.vals) fun x39=>
 cond (x39.2 !=(0:Int))
  (some (x39.2,rA))
  (cond (sA.kind==(7:Int))
   (cond ((rA.results.length:Int)==(8:Int))
    (some (2,rA))
    (ae (dq 48 rA.results ([x39.1]:List LResult)) fun(x61:List LResult)=>
    some (0,(LProcedureRun.mk rA.s rA.st rA.args rA.vars rA.vals rA.changes x61 rA.left rA.stopped))))
   (ae (aU (σ:=LProcedureRun) (ρ:=(Int×LProcedureRun)) (fun(_:Nat) (x1:Rq) (s1:LProcedureRun)=>
    cond s1.stopped
     (some (.brk s1))
     (ae (aU (σ:=LProcedureRun) (ρ:=Empty) (fun(j4:Nat) (x4:LCol) (s4:LProcedureRun)=>
      ae (aG x1 (j4:Int)) fun(x103:LVal)=>
      ae (im s4 x4 x103) fun x105=>
      some (.next x105)) 0 x39.1.columns (LProcedureRun.mk s1.s s1.st s1.args rA.vars rA.vals s1.changes s1.results s1.left s1.stopped)) fun fl4=>fl4.thenP fun(s4:LProcedureRun)=>
     ae (rec21 s4 sA.body) fun x110=>
     cond (x110.1 !=(0:Int))
      (some (.ret (x110.1,x110.2)))
      (some (.next x110.2)))) 0 x39.1.rows rA) fun fl1=>fl1.thenR fun(s1:LProcedureRun)=>
   some (0,(LProcedureRun.mk s1.s s1.st s1.args rA.vars rA.vals s1.changes s1.results s1.left s1.stopped))))
theorem sw(b_rA:Nat)(g_rA_7:OwnRef)(g_rA_8:OwnRef)(rec21:LProcedureRun->(List LProcedureStatement)->Option (Int×LProcedureRun))(rec44:LProcedureRun->LProcedureStatement->Option (Int×LProcedureRun))(rec71:LProcedureRun->(List LProcedureStatement)->Option (Int×LProcedureRun))(rec72:LProcedureRun->LProcedureStatement->Option (Int×LProcedureRun))(hrec21:∀bb0 gg0_7 gg0_8 a0 a1 r,rec21 a0 a1=some r->PH prog 21 [(.box 1500 bb0 0),(.list 66 (a1.map aH))] ⟨(bR bb0 a0 gg0_7 gg0_8),(oR a0 gg0_7 gg0_8)⟩ (fun u H=>∃gz0_7,∃gz0_8,u=(ah r.1)/\H=⟨(bR bb0 r.2 gz0_7 gz0_8),(oR r.2 gz0_7 gz0_8)⟩))(_hrec44:∀bb0 gg0_7 gg0_8 a0 a1 r,rec44 a0 a1=some r->PH prog 44 [(.box 1500 bb0 0),(.agg (aE a1))] ⟨(bR bb0 a0 gg0_7 gg0_8),(oR a0 gg0_7 gg0_8)⟩ (fun u H=>∃gz0_7,∃gz0_8,u=(ah r.1)/\H=⟨(bR bb0 r.2 gz0_7 gz0_8),(oR r.2 gz0_7 gz0_8)⟩))(_hrec71:∀bb0 gg0_7 gg0_8 a0 a1 r,rec71 a0 a1=some r->PH prog 71 [(.box 1500 bb0 0),(.list 66 (a1.map aH))] ⟨(bR bb0 a0 gg0_7 gg0_8),(oR a0 gg0_7 gg0_8)⟩ (fun u H=>∃gz0_7,∃gz0_8,u=(ah r.1)/\H=⟨(bR bb0 r.2 gz0_7 gz0_8),(oR r.2 gz0_7 gz0_8)⟩))(_hrec72:∀bb0 gg0_7 gg0_8 a0 a1 r,rec72 a0 a1=some r->PH prog 72 [(.box 1500 bb0 0),(.agg (aE a1))] ⟨(bR bb0 a0 gg0_7 gg0_8),(oR a0 gg0_7 gg0_8)⟩ (fun u H=>∃gz0_7,∃gz0_8,u=(ah r.1)/\H=⟨(bR bb0 r.2 gz0_7 gz0_8),(oR r.2 gz0_7 gz0_8)⟩))(rA:LProcedureRun)(sA:LProcedureStatement)(r:Int×LProcedureRun)(H:dP rec21 rec44 rec71 rec72 rA sA=some r):
  PH prog 72 [(.box 1500 b_rA 0),(.agg (aE sA))] ⟨(bR b_rA rA g_rA_7 g_rA_8),(oR rA g_rA_7 g_rA_8)⟩ (fun u H=>∃gz0_7,∃gz0_8,u=(ah r.1)/\H=⟨(bR b_rA r.2 gz0_7 gz0_8),(oR r.2 gz0_7 gz0_8)⟩):=by
 unfold dP at H;refine PH.au func72 ntmps72 ?_;refine aa (ab (aO ?_));refine ai tk Z (ac (aa (aX tk mok ⟨true,false,[24,26]⟩ [0,1,2,3,4,5,6,7,8,9,10,11,12,13,14,15,16,17,18,19,20,21,22,23,24,25,26,27,28,29,30] Z (by decide+kernel) Z (az 3 Z (bd ?_)))));refine az 3 Z (bd ?_);refine az 2 Z ?_
 obtain⟨x25,k25,H⟩:=aV H
 refine bE k25.1 (aC dd k25.2) ?_;refine az 4 Z (bd ?_);refine az 3 Z (bd ?_);refine az 3 Z (bd ?_)
 obtain⟨x39,h39,H⟩:=am H
 have s39:=rj rA.s rA.st x25 rA.args rA.vars rA.vals _ h39;refine aS call108 (jt.r) s39 ?_;refine az 3 Z ?_;refine nj Z Z Z Z Z Z Z Z fun b5=>?_
 refine fM Z Z Z Z Z Z Z Z Z Z Z Z (bw Z (aQ (aa (ak 2 tk Z ?_))));refine aF Z H (fun H=>?_) (fun H=>?_)
 ·refine ak 2 tk Z ?_;obtain rfl:=aq H;refine bZ (st':=⟨123,upd (fun _=>.any) 4 (ah x39.2),(bR b_rA rA g_rA_7 g_rA_8),(oR rA g_rA_7 g_rA_8)⟩) (Gh.le (ao aL) (aR Z (jt.r) aw) (aD (aD ax))) ?_;refine cl tk Z (ps:=[(ah x39.2)]) ⟨_,_,rfl,rfl,rfl⟩ (PLe.q Z) ⟨_,_,rfl,rfl⟩
 refine al (aa (ak 3 tk Z ?_));refine aF Z H (fun H=>?_) (fun H=>?_)
 ·refine aa (aa (ab (ag 3 tk Z (aJ tk ?_))));refine eg tk (zl _) ?_;refine ai tk Z (ac ?_);refine aF Z H (fun H=>?_) (fun H=>?_)
  ·refine ak 1 tk Z ?_;obtain rfl:=aq H;refine bZ (st':=⟨123,upd (fun _=>.any) 4 (ah 2),(bR b_rA rA g_rA_7 g_rA_8),(oR rA g_rA_7 g_rA_8)⟩) (Gh.le (ao aL) (aR Z (jt.r) aw) (aD (aD ax))) ?_;refine cl tk Z (ps:=[(ah 2)]) ⟨_,_,rfl,rfl,rfl⟩ (PLe.q Z) ⟨_,_,rfl,rfl⟩
  refine al (aa (aX tk mok ⟨true,false,[]⟩ [0,1,2,3,4,5,6,7,8,9,10] Z (by decide+kernel) Z (az 4 Z (bd ?_))));refine bd ?_;refine bw Z ?_
  obtain⟨x61,h61,H⟩:=am H
  have k61:=cj h61;refine gz (rows2':=List.map cN ([x39.1]:List LResult)) (rows':=List.map cN x61) tk Z Z Z Z Z Z Z Z Z Z Z Z Z Z (gP.refl _) (cU k61.1) (cW k61.2.1) (cV k61.2.2) fun g61=>?_
  refine az 2 Z (fM Z Z Z Z Z Z Z Z Z Z Z Z (aQ (ak 1 tk Z ?_)));obtain rfl:=aq H;refine bZ (st':=⟨123,upd (fun _=>.any) 4 (ah 0),upd (fun _=>none) 1500 (some ⟨b_rA,[(.list 56 ((((LProcedureRun.mk rA.s rA.st rA.args rA.vars rA.vals rA.changes x61 rA.left rA.stopped).s).tables).map bM)),(.list 99 ((((LProcedureRun.mk rA.s rA.st rA.args rA.vars rA.vals rA.changes x61 rA.left rA.stopped).s).foreignKeys).map gW)),(.list 105 ((((LProcedureRun.mk rA.s rA.st rA.args rA.vars rA.vals rA.changes x61 rA.left rA.stopped).s).constraints).map iK)),(.list 69 (((LProcedureRun.mk rA.s rA.st rA.args rA.vars rA.vals rA.changes x61 rA.left rA.stopped).st).map bW)),(.list 58 (((LProcedureRun.mk rA.s rA.st rA.args rA.vars rA.vals rA.changes x61 rA.left rA.stopped).args).map af)),(.list 53 (((LProcedureRun.mk rA.s rA.st rA.args rA.vars rA.vals rA.changes x61 rA.left rA.stopped).vars).map aB)),(.list 58 (((LProcedureRun.mk rA.s rA.st rA.args rA.vars rA.vals rA.changes x61 rA.left rA.stopped).vals).map af)),(.own 1607 g_rA_7 (rA.changes.map cu).length),(.own 1608 g61 (x61.map cN).length),(ah ((LProcedureRun.mk rA.s rA.st rA.args rA.vars rA.vals rA.changes x61 rA.left rA.stopped).left)),(aK ((LProcedureRun.mk rA.s rA.st rA.args rA.vars rA.vals rA.changes x61 rA.left rA.stopped).stopped))]⟩),upd (upd (fun _=>none) 1608 (some ⟨g61,180,(x61.map cN),true⟩)) 1607 (some ⟨g_rA_7,48,(rA.changes.map cu),true⟩)⟩) (Gh.le (ao aL) (aR Z (jt.r) aw) (aD (aD ax))) ?_;refine cl tk Z (ps:=[(ah 0)]) ⟨_,_,rfl,rfl,rfl⟩ (PLe.q Z) ⟨_,_,rfl,rfl⟩
 refine al (aa (aX tk mok ⟨true,false,[]⟩ [0,1,2,3,4,5,6,7,8,9] Z (by decide+kernel) Z (az 3 Z (bd ?_))));refine az 3 Z (bd ?_);refine az 2 Z (aQ (aa (aa (ab (ai tk Z (aJ tk ?_))))));refine aI tk (zl _) ?_;refine ai tk Z (ac ?_)
 obtain⟨fl1,H1,Hp1⟩:=am H
 refine iI tk 73 Z Z (fun hz1 _=>?_);rw[zl]at hz1;refine dj (τ:=LProcedureRun) (γ:=OwnRef×OwnRef) (fun s1 g1=>⟨123,upd (upd (upd (upd (fun _=>.any) 8 (.list 58 (rA.vals.map af))) 7 (.list 53 (rA.vars.map aB))) 3 (.ptr (aE sA))) 0 (.box 1500 b_rA 0),(bR b_rA s1 g1.1 g1.2),(oR s1 g1.1 g1.2)⟩) (fun t=>fl1= .next t) ?_ (fun s1 g1 hn1=>?_)
 ·refine av ?_;refine iU (fun j1 s1 g1=>⟨123,upd (upd (upd (upd (upd (upd (upd (upd (fun _=>.any) 75 (ah (j1:Int))) 74 (ah (x39.1.rows.length:Int))) 73 (.list 46 (x39.1.rows.map (ap 58 af)))) 8 (.list 58 (rA.vals.map af))) 7 (.list 53 (rA.vars.map aB))) 5 (.box 5 b5 0)) 3 (.ptr (aE sA))) 0 (.box 1500 b_rA 0),upd (bR b_rA s1 g1.1 g1.2) 5 (some ⟨b5,(cN x39.1)⟩),(oR s1 g1.1 g1.2)⟩) (g_rA_7,g_rA_8) H1 Gh.d (fun j1 s1 g1 hj1 hr1=>?_);refine ak 1 tk Z (aa ?_);refine bJ Z (fun h=>?_) (fun h=>?_)
  ·have hl1:=pe h
   obtain⟨x1,fb1,hx1,H,hg1⟩:=rMc hl1 hr1
   refine al (aa (av (aa (ab ?_))));refine be tk (zn j1) (bA (fun _=>Z) hx1) ?_;refine ag 2 tk Z (ac (aa (aa (ab (ag 3 tk Z (aJ tk ?_))))));refine ac ?_;refine aF Z H (fun H=>?_) (fun H=>?_)
   ·refine bj Z ?_;obtain rfl:=aq H;refine aP s1 (g1.1,g1.2) hg1 Gh.d
   refine al (aa (ab (ag 6 tk Z (ay tk ?_))));refine ag 2 tk Z (ay tk ?_);refine ac (aa (aa (ab (ai tk Z (aJ tk ?_)))));refine aI tk (zl _) ?_;refine ai tk Z (ac ?_);refine gc (γ:=OwnRef×OwnRef) tk 94 93 92 (fun s4 g4=>upd (upd (upd (upd (upd (upd (upd (upd (upd (fun _=>.any) 75 (ah (j1:Int))) 74 (ah (x39.1.rows.length:Int))) 73 (.list 46 (x39.1.rows.map (ap 58 af)))) 10 (.list 58 (x1.map af))) 8 (.list 58 (rA.vals.map af))) 7 (.list 53 (rA.vars.map aB))) 5 (.box 5 b5 0)) 3 (.ptr (aE sA))) 0 (.box 1500 b_rA 0)) (fun s4 g4=>upd (bR b_rA s4 g4.1 g4.2) 5 (some ⟨b5,(cN x39.1)⟩)) (fun s4 g4=>(oR s4 g4.1 g4.2)) (g1.1,g1.2) H (fun fl4 Hp4 j4 s4 g4 hz4 hl4 x4 fb4 hx4 H hg4=>?_) (fun s4 g4 H=>?_)
   ·refine aa (av (aa (ab (ai tk Z ?_))));refine be tk (zn j4) (bA (fun _=>Z) hx4) ?_;refine ai tk Z ?_;refine bm tk fun b12=>?_
    refine ai tk Z (ay tk ?_);refine ac (aX tk mok ⟨true,false,[104,999997,3000012,4000100]⟩ [0,1,2,3,4,5,6] Z (by decide+kernel) Z (bw Z (qX tk Z Z Z Z Z Z Z Z Z Z (az 2 Z ?_))))
    obtain⟨x103,k103,H⟩:=aV H
    refine bE k103.1 (aC (fun _=>Z) k103.2) ?_;refine bw Z ?_
    obtain⟨x105,h105,H⟩:=am H
    have s105:=oy b_rA g4.1 g4.2 s4 x4 x103 _ h105;refine pl (g:=68) Z Z Z Z call68 Z Z [(1500,1500)] [(1607,1607),(1608,1608)] Z Z Z Z (jt.of2 (jN.cons pD.boxT (jN.cons (pD.of_eq Z) (jN.cons (pD.of_eq Z) jN.nil)))) (by rw[cf,bq,aW,aW,bn];rfl) s105 ?_;rintro u105 H105h ⟨gz105_1607,gz105_1608,rfl,rfl⟩
    refine⟨_,rfl,?_⟩
    refine aQ (bZ (st':=⟨_,_,upd (upd (bR b_rA x105 gz105_1607 gz105_1608) 12 (some ⟨b12,(aB x4)⟩)) 5 (some ⟨b5,(cN x39.1)⟩),(oR x105 gz105_1607 gz105_1608)⟩) (Gh.le (bs _ _) (aR Z (jt.r) (aR Z (jt.r) (aR Z (jt.r) aw))) (aD (aD ax))) (aM (bc 2 tk Z ?_)));exact bv (gz105_1607,gz105_1608) H hl4 hg4
   refine aa (ab (ag 3 tk Z ?_))
   obtain⟨x110,h110,H⟩:=am H
   have s110:=hrec21 b_rA g4.1 g4.2 s4 sA.body _ h110;refine bB (g:=21) Z Z Z call21 [(1500,1500)] [(1607,1607),(1608,1608)] Z Z Z Z (jt.of2 (jN.cons pD.boxT (jN.cons (pD.of_eq Z) jN.nil))) (by rw[cf,bq,aW,aW,bn];rfl) s110 ?_;rintro u110 H110h ⟨gz110_1607,gz110_1608,rfl,rfl⟩
   refine⟨_,rfl,?_⟩
   refine bS (st':=⟨_,_,upd (bR b_rA x110.2 gz110_1607 gz110_1608) 5 (some ⟨b5,(cN x39.1)⟩),(oR x110.2 gz110_1607 gz110_1608)⟩) (Gh.le (bs _ _) (aR Z (jt.r) (aR Z (jt.r) aw)) (aD (aD ax))) (ai tk Z (ac (ak 2 tk Z ?_)));refine aF Z H (fun H=>?_) (fun H=>?_)
   ·refine ak 2 tk Z ?_;obtain rfl:=aq H;have e1:fl1= .ret _:=hg1;subst e1;obtain rfl:=aZ Hp1;refine bZ (st':=⟨123,upd (fun _=>.any) 4 (ah x110.1),(bR b_rA x110.2 gz110_1607 gz110_1608),(oR x110.2 gz110_1607 gz110_1608)⟩) (Gh.le (ao aL) (aR Z (jt.r) aw) (aD (aD ax))) ?_;refine cl tk Z (ps:=[(ah x110.1)]) ⟨_,_,rfl,rfl,rfl⟩ (PLe.q Z) ⟨_,_,rfl,rfl⟩
   refine al (aM (bc 2 tk Z ?_));exact bv (gz110_1607,gz110_1608) H hl1 hg1
  have hn1:=rMd (pf h) hr1;refine bj Z ?_;refine aP s1 g1 hn1 Gh.d
 have H:=iW hn1 Hp1;refine aa (ab (ag 6 tk Z (ay tk ?_)));refine ag 2 tk Z (ay tk ?_);refine ac (ak 1 tk Z ?_);obtain rfl:=aq H;refine bZ (st':=⟨123,upd (fun _=>.any) 4 (ah 0),upd (fun _=>none) 1500 (some ⟨b_rA,[(.list 56 ((((LProcedureRun.mk s1.s s1.st s1.args rA.vars rA.vals s1.changes s1.results s1.left s1.stopped).s).tables).map bM)),(.list 99 ((((LProcedureRun.mk s1.s s1.st s1.args rA.vars rA.vals s1.changes s1.results s1.left s1.stopped).s).foreignKeys).map gW)),(.list 105 ((((LProcedureRun.mk s1.s s1.st s1.args rA.vars rA.vals s1.changes s1.results s1.left s1.stopped).s).constraints).map iK)),(.list 69 (((LProcedureRun.mk s1.s s1.st s1.args rA.vars rA.vals s1.changes s1.results s1.left s1.stopped).st).map bW)),(.list 58 (((LProcedureRun.mk s1.s s1.st s1.args rA.vars rA.vals s1.changes s1.results s1.left s1.stopped).args).map af)),(.list 53 (((LProcedureRun.mk s1.s s1.st s1.args rA.vars rA.vals s1.changes s1.results s1.left s1.stopped).vars).map aB)),(.list 58 (((LProcedureRun.mk s1.s s1.st s1.args rA.vars rA.vals s1.changes s1.results s1.left s1.stopped).vals).map af)),(.own 1607 g1.1 (s1.changes.map cu).length),(.own 1608 g1.2 (s1.results.map cN).length),(ah ((LProcedureRun.mk s1.s s1.st s1.args rA.vars rA.vals s1.changes s1.results s1.left s1.stopped).left)),(aK ((LProcedureRun.mk s1.s s1.st s1.args rA.vars rA.vals s1.changes s1.results s1.left s1.stopped).stopped))]⟩),(oR s1 g1.1 g1.2)⟩) (Gh.le (ao aL) (aR Z (jt.r) aw) (aD (aD ax))) ?_;refine cl tk Z (ps:=[(ah 0)]) ⟨_,_,rfl,rfl,rfl⟩ (PLe.q Z) ⟨_,_,rfl,rfl⟩
mutual
def cw:Nat->LProcedureRun->(List LProcedureStatement)->Option (Int×LProcedureRun)
 |0,_,_=>none
 |n+1,v0,v1=>fh (fun b0 b1=>cw n b0 b1) (fun b0 b1=>cQ n b0 b1) (fun b0 b1=>cz n b0 b1) (fun b0 b1=>de n b0 b1) v0 v1
def cQ:Nat->LProcedureRun->LProcedureStatement->Option (Int×LProcedureRun)
 |0,_,_=>none
 |n+1,v0,v1=>dU (fun b0 b1=>cw n b0 b1) (fun b0 b1=>cQ n b0 b1) (fun b0 b1=>cz n b0 b1) (fun b0 b1=>de n b0 b1) v0 v1
def cz:Nat->LProcedureRun->(List LProcedureStatement)->Option (Int×LProcedureRun)
 |0,_,_=>none
 |n+1,v0,v1=>eV (fun b0 b1=>cw n b0 b1) (fun b0 b1=>cQ n b0 b1) (fun b0 b1=>cz n b0 b1) (fun b0 b1=>de n b0 b1) v0 v1
def de:Nat->LProcedureRun->LProcedureStatement->Option (Int×LProcedureRun)
 |0,_,_=>none
 |n+1,v0,v1=>dP (fun b0 b1=>cw n b0 b1) (fun b0 b1=>cQ n b0 b1) (fun b0 b1=>cz n b0 b1) (fun b0 b1=>de n b0 b1) v0 v1
end
theorem rt  (n:Nat):(∀bb0 gg0_7 gg0_8 a0 a1 r,cw n a0 a1=some r->PH prog 21 [(.box 1500 bb0 0),(.list 66 (a1.map aH))] ⟨(bR bb0 a0 gg0_7 gg0_8),(oR a0 gg0_7 gg0_8)⟩ (fun u H=>∃gz0_7,∃gz0_8,u=(ah r.1)/\H=⟨(bR bb0 r.2 gz0_7 gz0_8),(oR r.2 gz0_7 gz0_8)⟩))/\(∀bb0 gg0_7 gg0_8 a0 a1 r,cQ n a0 a1=some r->PH prog 44 [(.box 1500 bb0 0),(.agg (aE a1))] ⟨(bR bb0 a0 gg0_7 gg0_8),(oR a0 gg0_7 gg0_8)⟩ (fun u H=>∃gz0_7,∃gz0_8,u=(ah r.1)/\H=⟨(bR bb0 r.2 gz0_7 gz0_8),(oR r.2 gz0_7 gz0_8)⟩))/\(∀bb0 gg0_7 gg0_8 a0 a1 r,cz n a0 a1=some r->PH prog 71 [(.box 1500 bb0 0),(.list 66 (a1.map aH))] ⟨(bR bb0 a0 gg0_7 gg0_8),(oR a0 gg0_7 gg0_8)⟩ (fun u H=>∃gz0_7,∃gz0_8,u=(ah r.1)/\H=⟨(bR bb0 r.2 gz0_7 gz0_8),(oR r.2 gz0_7 gz0_8)⟩))/\(∀bb0 gg0_7 gg0_8 a0 a1 r,de n a0 a1=some r->PH prog 72 [(.box 1500 bb0 0),(.agg (aE a1))] ⟨(bR bb0 a0 gg0_7 gg0_8),(oR a0 gg0_7 gg0_8)⟩ (fun u H=>∃gz0_7,∃gz0_8,u=(ah r.1)/\H=⟨(bR bb0 r.2 gz0_7 gz0_8),(oR r.2 gz0_7 gz0_8)⟩)):=by
 induction n with
 |zero=>exact⟨(by intros;rename_i h;exact absurd (show(none:Option _)=some _ from h) (by simp)),(by intros;rename_i h;exact absurd (show(none:Option _)=some _ from h) (by simp)),(by intros;rename_i h;exact absurd (show(none:Option _)=some _ from h) (by simp)),(by intros;rename_i h;exact absurd (show(none:Option _)=some _ from h) (by simp))⟩
 |succ n ih=>
  exact⟨(fun bb0 gg0_7 gg0_8 v0 v1 r h=>rn bb0 gg0_7 gg0_8 (fun b0 b1=>cw n b0 b1) (fun b0 b1=>cQ n b0 b1) (fun b0 b1=>cz n b0 b1) (fun b0 b1=>de n b0 b1) ih.1 ih.2.1 ih.2.2.1 ih.2.2.2 v0 v1  r h),(fun bb0 gg0_7 gg0_8 v0 v1 r h=>rJ bb0 gg0_7 gg0_8 (fun b0 b1=>cw n b0 b1) (fun b0 b1=>cQ n b0 b1) (fun b0 b1=>cz n b0 b1) (fun b0 b1=>de n b0 b1) ih.1 ih.2.1 ih.2.2.1 ih.2.2.2 v0 v1  r h),(fun bb0 gg0_7 gg0_8 v0 v1 r h=>rf bb0 gg0_7 gg0_8 (fun b0 b1=>cw n b0 b1) (fun b0 b1=>cQ n b0 b1) (fun b0 b1=>cz n b0 b1) (fun b0 b1=>de n b0 b1) ih.1 ih.2.1 ih.2.2.1 ih.2.2.2 v0 v1  r h),(fun bb0 gg0_7 gg0_8 v0 v1 r h=>sw bb0 gg0_7 gg0_8 (fun b0 b1=>cw n b0 b1) (fun b0 b1=>cQ n b0 b1) (fun b0 b1=>cz n b0 b1) (fun b0 b1=>de n b0 b1) ih.1 ih.2.1 ih.2.2.1 ih.2.2.2 v0 v1  r h)⟩
def bC(rA:LProcedureRun)(l:List LProcedureStatement):Option (Int×LProcedureRun):=ia fun n=>cw n rA l
theorem sq(b_rA:Nat)(g_rA_7:OwnRef)(g_rA_8:OwnRef)(rA:LProcedureRun)(l:List LProcedureStatement)(r:Int×LProcedureRun)(H:bC rA l=some r):
  PH prog 21 [(.box 1500 b_rA 0),(.list 66 (l.map aH))] ⟨(bR b_rA rA g_rA_7 g_rA_8),(oR rA g_rA_7 g_rA_8)⟩ (fun u H=>∃gz0_7,∃gz0_8,u=(ah r.1)/\H=⟨(bR b_rA r.2 gz0_7 gz0_8),(oR r.2 gz0_7 gz0_8)⟩):=by
 obtain⟨n,h⟩:=jh H
 exact(rt  n).1 b_rA g_rA_7 g_rA_8 rA l r h
def co(rA:LProcedureRun)(sA:LProcedureStatement):Option (Int×LProcedureRun):=ia fun n=>cQ n rA sA
def bU(rA:LProcedureRun)(l:List LProcedureStatement):Option (Int×LProcedureRun):=ia fun n=>cz n rA l
def cn(rA:LProcedureRun)(sA:LProcedureStatement):Option (Int×LProcedureRun):=ia fun n=>de n rA sA
def lO(sA:LSchema)(st:List LRelation)(p:LProcedureProcedure):Option (Bool):=
 ae (dc p.body) fun x9=>
 cond (decide ((x9.length:Int)<=(40:Int)))
  (ae (gw sA) fun x14=>
  cond (x14==(0:Int))
   (ae (eR sA st) fun x20=>
   cond (x20==(0:Int))
    (ae (li sA p) fun x26=>
    some (x26==(0:Int)))
    (some false))
   (some false))
  (some false)
theorem sj(sA:LSchema)(st:List LRelation)(p:LProcedureProcedure)(r:Bool)(H:lO sA st p=some r):
  aY prog 5 [(.agg (da sA)),(.list 69 (st.map bW)),(.agg (eh p))] (aK r):=by
 unfold lO at H;refine PH.au func5 ntmps5 ?_;refine aa (ab (aO ?_));refine aO ?_;refine ai tk Z (ac (aa (ab (ag 2 tk Z ?_))))
 obtain⟨x9,h9,H⟩:=am H
 have s9:=kZ p.body _ h9;refine aj call15 (jt.r) s9 ?_;refine aI tk (zl _) ?_;refine ag 2 tk Z ?_;refine bu Z Z Z H (fun H=>?_) (fun H=>?_)
 ·refine ai tk Z ?_
  obtain⟨x14,h14,H⟩:=am H
  have s14:=pF sA _ h14;refine aj call16 (jt.r) s14 ?_;refine ag 3 tk Z ?_;refine bu Z Z Z H (fun H=>?_) (fun H=>?_)
  ·refine ag 2 tk Z ?_
   obtain⟨x20,h20,H⟩:=am H
   have s20:=kB sA st _ h20;refine aj call17 (jt.r) s20 ?_;refine ag 3 tk Z ?_;refine bu Z Z Z H (fun H=>?_) (fun H=>?_)
   ·refine ag 2 tk Z ?_
    obtain⟨x26,h26,H⟩:=am H
    have s26:=pH sA p _ h26;refine aj call18 (jt.r) s26 ?_;refine ag 3 tk Z (ac ?_);exact bi tk H Z
   refine ag 6 tk Z (ac ?_);exact bi tk H Z
  refine ag 12 tk Z (ac ?_);exact bi tk H Z
 refine ag 17 tk Z (ac ?_);exact bi tk H Z
def mi(sA:LSchema)(st:List LRelation)(p:LProcedureProcedure)(args:Rq):Option ((List LChange)×(List LResult)×Int):=
 ae (li sA p) fun x19=>
 cond (x19 !=(0:Int))
  (some ([],[],x19))
  (cond (decide ((args.length:Int)<(p.parameters.length:Int)))
   (some ([],[],1))
   (ae (aU (σ:=Unit) (ρ:=((List LChange)×(List LResult)×Int)) (fun(j1:Nat) (x1:Int) (_:Unit)=>
    ae (aG args (j1:Int)) fun(x39:LVal)=>
    letP (lz x39) fun x41=>
    cond (!x41)
     (some (.ret ([],[],7)))
     (ae (aG args (j1:Int)) fun(x46:LVal)=>
     cond (x46.kind !=x1)
      (ae (aG args (j1:Int)) fun(x54:LVal)=>
      cond (x54.kind !=(0:Int))
       (some (.ret ([],[],7)))
       (some (.next ())))
      (some (.next ())))) 0 p.parameters ()) fun fl1=>fl1.thenR fun(_:Unit)=>
   ae (eR sA st) fun x63=>
   cond (x63 !=(0:Int))
    (some ([],[],x63))
    (ae (nZ args 0 (p.parameters.length:Int)) fun(x73:Rq)=>
    ae (bC (LProcedureRun.mk sA st x73 [] [] [] [] 400 false) p.body) fun x80=>
    cond (x80.1 !=(0:Int))
     (some ([],[],x80.1))
     (some (x80.2.changes,x80.2.results,0)))))
theorem qK(sA:LSchema)(st:List LRelation)(p:LProcedureProcedure)(args:Rq)(r:(List LChange)×(List LResult)×Int)(H:mi sA st p args=some r):
  aY prog 6 [(.agg (da sA)),(.list 69 (st.map bW)),(.agg (eh p)),(.list 58 (args.map af))] (.tup [(.list 48 (r.1.map cu)),(.list 180 (r.2.1.map cN)),(ah r.2.2)]):=by
 unfold mi at H;refine PH.au func6 ntmps6 ?_;refine aa (ab (aO ?_));refine aO ?_;refine ag 3 tk Z (ac (aa (aa (ab (ag 2 tk Z ?_)))))
 obtain⟨x19,h19,H⟩:=am H
 have s19:=pH sA p _ h19;refine aj call18 (jt.r) s19 ?_;refine ai tk Z (ac (ak 2 tk Z ?_));refine aF Z H (fun H=>?_) (fun H=>?_)
 ·refine ak 4 tk Z ?_;obtain rfl:=aq H;refine bl tk Z (ps:=[(.val (.slice none 0 0)),(.val (.slice none 0 0)),(ah x19)]) ⟨_,_,rfl,rfl,_,_,rfl,rfl,_,_,rfl,rfl,rfl⟩ (PLe.of2 (pD.tup (jN.cons (pD.nil tk Z) (jN.cons (pD.nil tk Z) (jN.cons (pD.of_eq Z) jN.nil)))))
 refine al (aa (aa (ab (ai tk Z (aI tk (zl _) ?_)))));refine ag 2 tk Z (aI tk (zl _) ?_);refine ai tk Z (ac ?_);refine aF Z H (fun H=>?_) (fun H=>?_)
 ·refine ak 3 tk Z ?_;obtain rfl:=aq H;refine bl tk Z (ps:=[(.val (.slice none 0 0)),(.val (.slice none 0 0)),(ah 1)]) ⟨_,_,rfl,rfl,_,_,rfl,rfl,_,_,rfl,rfl,rfl⟩ (PLe.of2 (pD.tup (jN.cons (pD.nil tk Z) (jN.cons (pD.nil tk Z) (jN.cons (pD.of_eq Z) jN.nil)))))
 refine al (aa (aa (ab (ag 2 tk Z (aI tk (zl _) ?_)))));refine ai tk Z (ac ?_);refine ff tk 32 31 30 (fun s1 g1=>upd (upd (upd (upd (fun _=>.any) 6 (.ptr (eh p))) 4 (.ptr (da sA))) 3 (.list 58 (args.map af))) 1 (.list 69 (st.map bW))) nB nO () H (fun fl1 Hp1 j1 s1 g1 hz1 hl1 x1 fb1 hx1 H hg1=>?_) (fun s1 g1 H=>?_)
 ·refine aa (av (aa (ab (ai tk Z ?_))));refine be tk (zn j1) (bA (fun _=>Z) hx1) ?_;refine ag 3 tk Z (ac (aa (ab (ag 2 tk Z ?_))))
  obtain⟨x39,k39,H⟩:=aV H
  refine be tk k39.1 (aC (fun _=>Z) k39.2) ?_;refine ai tk Z ?_
  obtain⟨x41,h41,H⟩:=bF H
  have s41:=qZ x39;rw[h41]at s41;refine aj call19 (jt.r) s41 ?_;refine ag 2 tk Z ?_;refine bu Z Z Z H (fun H=>?_) (fun H=>?_)
  ·refine ag 16 tk Z (ac (ct Z (ak 3 tk Z ?_)));obtain rfl:=aq H;have e1:fl1= .ret _:=hg1;subst e1;obtain rfl:=aZ Hp1;refine bl tk Z (ps:=[(.val (.slice none 0 0)),(.val (.slice none 0 0)),(ah 7)]) ⟨_,_,rfl,rfl,_,_,rfl,rfl,_,_,rfl,rfl,rfl⟩ (PLe.of2 (pD.tup (jN.cons (pD.nil tk Z) (jN.cons (pD.nil tk Z) (jN.cons (pD.of_eq Z) jN.nil)))))
  refine ag 2 tk Z ?_
  obtain⟨x46,k46,H⟩:=aV H
  refine be tk k46.1 (aC (fun _=>Z) k46.2) ?_;refine ag 5 tk Z ?_;refine bu Z Z Z H (fun H=>?_) (fun H=>?_)
  ·refine ag 2 tk Z ?_
   obtain⟨x54,k54,H⟩:=aV H
   refine be tk k54.1 (aC (fun _=>Z) k54.2) ?_;refine ag 5 tk Z (ac ?_);refine aF Z H (fun H=>?_) (fun H=>?_)
   ·refine ak 3 tk Z ?_;obtain rfl:=aq H;have e1:fl1= .ret _:=hg1;subst e1;obtain rfl:=aZ Hp1;refine bl tk Z (ps:=[(.val (.slice none 0 0)),(.val (.slice none 0 0)),(ah 7)]) ⟨_,_,rfl,rfl,_,_,rfl,rfl,_,_,rfl,rfl,rfl⟩ (PLe.of2 (pD.tup (jN.cons (pD.nil tk Z) (jN.cons (pD.nil tk Z) (jN.cons (pD.of_eq Z) jN.nil)))))
   refine al (aM (bc 2 tk Z ?_));exact bv () H hl1 hg1
  refine ag 8 tk Z (ac (bH Z (al (aM (bc 2 tk Z ?_)))));exact bv () H hl1 hg1
 refine aa (aa (ab (ag 2 tk Z ?_)))
 obtain⟨x63,h63,H⟩:=am H
 have s63:=kB sA st _ h63;refine aj call17 (jt.r) s63 ?_;refine ai tk Z (ac (ak 2 tk Z ?_));refine aF Z H (fun H=>?_) (fun H=>?_)
 ·refine ak 4 tk Z ?_;obtain rfl:=aq H;refine bl tk Z (ps:=[(.val (.slice none 0 0)),(.val (.slice none 0 0)),(ah x63)]) ⟨_,_,rfl,rfl,_,_,rfl,rfl,_,_,rfl,rfl,rfl⟩ (PLe.of2 (pD.tup (jN.cons (pD.nil tk Z) (jN.cons (pD.nil tk Z) (jN.cons (pD.of_eq Z) jN.nil)))))
 refine al (aa (aX tk mok ⟨false,false,[]⟩ [0,1,2,3,4,5,6,7,8,9,10] Z (by decide+kernel) Z (az 5 Z (mG (zl _) ?_))))
 obtain⟨x73,h73,H⟩:=am H
 have k73:=nz h73;refine uR Z Z Z Z Z Z (zl _) Z Z k73.1 (oz k73.2) Z ?_;have s74:=clone_20 (m:=74) x73;refine aS call20 (jt.r) (PFun.iw s74) ?_;refine bw Z ?_;refine Do.box (d:=76) Z Z Z Z Z Z fun b76=>?_
 refine bw Z (aQ (aa (aa (ab (ag 3 tk Z (bS (Gh.nilOB tk 76 7 1607 (e:=48) Z Z Z Z) (bS (Gh.nilOB tk 76 8 1608 (e:=180) Z Z Z Z) ?_)))))))
 obtain⟨x80,h80,H⟩:=am H
 have s80:=sq b76 (⟨none,0⟩) (⟨none,0⟩) (LProcedureRun.mk sA st x73 [] [] [] [] 400 false) p.body _ h80;refine bS (st':=⟨_,_,upd (fun _=>none) 76 (some ⟨b76,[(.list 56 ((((LProcedureRun.mk sA st x73 [] [] [] [] 400 false).s).tables).map bM)),(.list 99 ((((LProcedureRun.mk sA st x73 [] [] [] [] 400 false).s).foreignKeys).map gW)),(.list 105 ((((LProcedureRun.mk sA st x73 [] [] [] [] 400 false).s).constraints).map iK)),(.list 69 (((LProcedureRun.mk sA st x73 [] [] [] [] 400 false).st).map bW)),(.list 58 (((LProcedureRun.mk sA st x73 [] [] [] [] 400 false).args).map af)),(.list 53 (((LProcedureRun.mk sA st x73 [] [] [] [] 400 false).vars).map aB)),(.list 58 (((LProcedureRun.mk sA st x73 [] [] [] [] 400 false).vals).map af)),(.own 1607 ⟨none,0⟩ (([]:List LChange).map cu).length),(.own 1608 ⟨none,0⟩ (([]:List LResult).map cN).length),(ah ((LProcedureRun.mk sA st x73 [] [] [] [] 400 false).left)),(aK ((LProcedureRun.mk sA st x73 [] [] [] [] 400 false).stopped))]⟩),upd (upd (fun _=>none) 1608 (some ⟨⟨none,0⟩,180,(([]:List LResult).map cN),true⟩)) 1607 (some ⟨⟨none,0⟩,48,(([]:List LChange).map cu),true⟩)⟩) (Gh.le (bs _ _) (aR Z (jt.of2 (jN.cons (pD.of_eq Z) (jN.cons (pD.of_eq Z) (jN.cons (pD.of_eq Z) (jN.cons (pD.of_eq Z) (jN.cons (pD.of_eq Z) (jN.cons (pD.nil tk Z) (jN.cons (pD.nil tk Z) (jN.cons (pD.of_eq Z) (jN.cons (pD.of_eq Z) (jN.cons (pD.of_eq Z) (jN.cons (pD.of_eq Z) jN.nil)))))))))))) aw) (aD (aD ax))) ?_;refine bB (g:=21) Z Z Z call21 [(76,1500)] [(1607,1607),(1608,1608)] Z Z Z Z (jt.of2 (jN.cons pD.boxT (jN.cons (pD.of_eq Z) jN.nil))) (by rw[cf,bq,aW,aW,bn];rfl) s80 ?_;rintro u80 H80h ⟨gz80_1607,gz80_1608,rfl,rfl⟩
 refine⟨_,rfl,?_⟩
 refine bS (st':=⟨_,_,upd (fun _=>none) 76 (some ⟨b76,(cR x80.2 gz80_1607 gz80_1608)⟩),(oR x80.2 gz80_1607 gz80_1608)⟩) (Gh.le (bs _ _) (aR Z (jt.r) aw) (aD (aD ax))) ?_;refine ai tk Z (ac (ak 2 tk Z ?_));refine aF Z H (fun H=>?_) (fun H=>?_)
 ·refine ak 4 tk Z ?_;obtain rfl:=aq H;refine bl tk Z (ps:=[(.val (.slice none 0 0)),(.val (.slice none 0 0)),(ah x80.1)]) ⟨_,_,rfl,rfl,_,_,rfl,rfl,_,_,rfl,rfl,rfl⟩ (PLe.of2 (pD.tup (jN.cons (pD.nil tk Z) (jN.cons (pD.nil tk Z) (jN.cons (pD.of_eq Z) jN.nil)))))
 refine al (aa (aX tk mok ⟨true,false,[]⟩ [0,1,2,3,4,5,6,7,8,9,10] Z (by decide+kernel) Z (az 3 Z (bd ?_))));refine az 3 Z (bd ?_);refine az 3 Z (aQ (cT 8 Z Z Z (cT 9 Z Z Z ?_)));exact bi tk H Z
def ly:Option (Bool):=
 letP (cS 1) fun x19=>
 letP (oY true) fun x24=>
 letP (cS 1) fun x33=>
 letP (cS 5) fun x35=>
 letP (cS 2) fun x38=>
 letP (cS 7) fun x40=>
 ae (mi (LSchema.mk [(LTable.mk [116] [(LCol.mk [107] 1 false),(LCol.mk [97] 1 false)] [0])] [] []) ([(LRelation.mk [116] [[x33,x35],[x38,x40]])]:List LRelation) (LProcedureProcedure.mk [] [(LProcedureStatement.mk 5 0 [] [116] [[97]] [(LExpr.mk 5 [43] 0 (LVal.mk 0 0 []) [(LExpr.mk 2 [97] 0 (LVal.mk 0 0 []) []),(LExpr.mk 1 [] 0 x19 [])])] [(LExpr.mk 1 [] 0 x24 [])] [] [] [])]) ([]:Rq)) fun x46=>
 cond (x46.2.2==(0:Int))
  (cond ((x46.1.length:Int)==(2:Int))
   (ae (aG x46.1 0) fun(x59:LChange)=>
   cond (x59.kind==(1:Int))
    (ae (aG x46.1 0) fun(x66:LChange)=>
    letP (cS 1) fun x70=>
    letP (cS 6) fun x72=>
    ae (cZ x66.row ([x70,x72]:Rq)) fun x74=>
    cond x74
     (ae (aG x46.1 1) fun(x78:LChange)=>
     letP (cS 2) fun x82=>
     letP (cS 8) fun x84=>
     ae (cZ x78.row ([x82,x84]:Rq)) fun x86=>
     some x86)
     (some false))
    (some false))
   (some false))
  (some false)
theorem rB(r:Bool)(H:ly=some r):
  aY prog 4 [] (aK r):=by
 unfold ly at H;refine PH.au func4 ntmps4 ?_;refine ak 1 tk Z (aa (ab (ag 2 tk Z (cy tk (rows':=List.map aB ([(LCol.mk [107] 1 false),(LCol.mk [97] 1 false)]:List LCol)) (gP.refl _) ?_))));refine cy tk (rows':=List.map cq ([0]:List Int)) (gP.refl _) ?_;refine ai tk Z (cy tk (rows':=List.map bM ([(LTable.mk [116] [(LCol.mk [107] 1 false),(LCol.mk [97] 1 false)] [0])]:List LTable)) (gP.refl _) ?_);refine ai tk Z ?_;refine bm tk fun b1=>?_
 refine ay tk ?_;refine ac (ak 1 tk Z (aa (ab (ai tk Z ?_))));refine bm tk fun b3=>?_
 refine ay tk ?_;refine ac (aa (aX tk mok ⟨true,false,[]⟩ [0,1,2,3,4,5,6,7,8,9,10,11,12,13,14,15] Z (by decide+kernel) Z (bw Z (bd ?_))));refine bw Z ?_
 obtain⟨x19,h19,H⟩:=bF H
 have s19:=dM 1;rw[h19]at s19;refine aS call12 (jt.r) s19 ?_;refine az 4 Z ?_
 obtain⟨x24,h24,H⟩:=bF H
 have s24:=mK true;rw[h24]at s24;refine aS call13 (jt.r) s24 ?_;refine az 5 Z ?_;refine nj Z Z Z Z Z Z Z Z fun b4=>?_
 refine fM Z Z Z Z Z Z Z Z Z Z Z Z (aQ (aa (aX tk mok ⟨true,false,[]⟩ [0,1,3,6,8,14,2,4,5,7,9,10,11,12,13,15,16,17,18,19,20,21,22] Z (by decide+kernel) Z (bd ?_))));refine az 4 Z (bd ?_)
 obtain⟨x33,h33,H⟩:=bF H
 have s33:=dM 1;rw[h33]at s33;refine aS call12 (jt.r) s33 ?_
 obtain⟨x35,h35,H⟩:=bF H
 have s35:=dM 5;rw[h35]at s35;refine aS call12 (jt.r) s35 ?_;refine bw Z ?_
 obtain⟨x38,h38,H⟩:=bF H
 have s38:=dM 2;rw[h38]at s38;refine aS call12 (jt.r) s38 ?_
 obtain⟨x40,h40,H⟩:=bF H
 have s40:=dM 7;rw[h40]at s40;refine aS call12 (jt.r) s40 ?_;refine az 4 Z ?_
 obtain⟨x46,h46,H⟩:=am H
 have s46:=qK (LSchema.mk [(LTable.mk [116] [(LCol.mk [107] 1 false),(LCol.mk [97] 1 false)] [0])] [] []) ([(LRelation.mk [116] [[x33,x35],[x38,x40]])]:List LRelation) (LProcedureProcedure.mk [] [(LProcedureStatement.mk 5 0 [] [116] [[97]] [(LExpr.mk 5 [43] 0 (LVal.mk 0 0 []) [(LExpr.mk 2 [97] 0 (LVal.mk 0 0 []) []),(LExpr.mk 1 [] 0 x19 [])])] [(LExpr.mk 1 [] 0 x24 [])] [] [] [])]) ([]:Rq) _ h46;refine aS call6 (jt.of2 (jN.cons (pD.agg (jN.cons (pD.of_eq Z) (jN.cons (pD.nil tk Z) (jN.cons (pD.nil tk Z) jN.nil)))) (jN.cons (pD.of_eq Z) (jN.cons (pD.agg (jN.cons (pD.nil tk Z) (jN.cons (pD.list (gP.trans (b:=List.map aE [(LProcedureStatement.mk 5 0 [] [116] [[97]] [(LExpr.mk 5 [43] 0 (LVal.mk 0 0 []) [(LExpr.mk 2 [97] 0 (LVal.mk 0 0 []) []),(LExpr.mk 1 [] 0 x19 [])])] [(LExpr.mk 1 [] 0 x24 [])] [] [] [])]) (gP.cons (tY.cons (pD.of_eq Z) (tY.cons (pD.of_eq Z) (tY.cons (pD.of_eq Z) (tY.cons (pD.of_eq Z) (tY.cons (pD.of_eq Z) (tY.cons (pD.list (gP.trans (b:=List.map gZ [(LExpr.mk 5 [43] 0 (LVal.mk 0 0 []) [(LExpr.mk 2 [97] 0 (LVal.mk 0 0 []) []),(LExpr.mk 1 [] 0 x19 [])])]) (gP.cons (tY.cons (pD.of_eq Z) (tY.cons (pD.of_eq Z) (tY.cons (pD.of_eq Z) (tY.cons (pD.of_eq Z) (tY.cons (pD.of_eq Z) (tY.cons (pD.of_eq Z) (tY.cons (pD.list (gP.trans (b:=List.map gZ [(LExpr.mk 2 [97] 0 (LVal.mk 0 0 []) []),(LExpr.mk 1 [] 0 x19 [])]) (gP.cons (tY.cons (pD.of_eq Z) (tY.cons (pD.of_eq Z) (tY.cons (pD.of_eq Z) (tY.cons (pD.of_eq Z) (tY.cons (pD.of_eq Z) (tY.cons (pD.of_eq Z) (tY.cons (pD.nil tk Z) tY.nil))))))) (gP.cons (tY.cons (pD.of_eq Z) (tY.cons (pD.of_eq Z) (tY.cons (pD.of_eq Z) (tY.cons (pD.of_eq Z) (tY.cons (pD.of_eq Z) (tY.cons (pD.of_eq Z) (tY.cons (pD.nil tk Z) tY.nil))))))) gP.nil)) (gP.of_eq (ny dh [(LExpr.mk 2 [97] 0 (LVal.mk 0 0 []) []),(LExpr.mk 1 [] 0 x19 [])])))) tY.nil))))))) gP.nil) (gP.of_eq (ny dh [(LExpr.mk 5 [43] 0 (LVal.mk 0 0 []) [(LExpr.mk 2 [97] 0 (LVal.mk 0 0 []) []),(LExpr.mk 1 [] 0 x19 [])])])))) (tY.cons (pD.list (gP.trans (b:=List.map gZ [(LExpr.mk 1 [] 0 x24 [])]) (gP.cons (tY.cons (pD.of_eq Z) (tY.cons (pD.of_eq Z) (tY.cons (pD.of_eq Z) (tY.cons (pD.of_eq Z) (tY.cons (pD.of_eq Z) (tY.cons (pD.of_eq Z) (tY.cons (pD.nil tk Z) tY.nil))))))) gP.nil) (gP.of_eq (ny dh [(LExpr.mk 1 [] 0 x24 [])])))) (tY.cons (pD.nil tk Z) (tY.cons (pD.nil tk Z) (tY.cons (pD.nil tk Z) tY.nil)))))))))) gP.nil) (gP.of_eq (ny dr [(LProcedureStatement.mk 5 0 [] [116] [[97]] [(LExpr.mk 5 [43] 0 (LVal.mk 0 0 []) [(LExpr.mk 2 [97] 0 (LVal.mk 0 0 []) []),(LExpr.mk 1 [] 0 x19 [])])] [(LExpr.mk 1 [] 0 x24 [])] [] [] [])])))) jN.nil))) (jN.cons (pD.nil tk Z) jN.nil))))) s46 ?_;refine az 7 Z (aQ (aa (aX tk mok ⟨false,false,[]⟩ [0,1,2,3,4,5,6,7,8,9,10,11,12,13,14,15,16,17,18,19,21,20,22,23,24,25,26,27,28,29,30,31,33,32,34,35,36,37,38] Z (by decide+kernel) Z (az 3 Z ?_))));refine gi H (fun H=>?_) (fun H=>?_)
 ·refine bw Z (mG (zl _) ?_);refine az 3 Z ?_;refine gi H (fun H=>?_) (fun H=>?_)
  ·refine bw Z ?_
   obtain⟨x59,k59,H⟩:=aV H
   refine bE k59.1 (aC (fun _=>Z) k59.2) ?_;refine az 5 Z ?_;refine gi H (fun H=>?_) (fun H=>?_)
   ·refine bw Z ?_
    obtain⟨x66,k66,H⟩:=aV H
    refine bE k66.1 (aC (fun _=>Z) k66.2) ?_;refine az 4 Z ?_
    obtain⟨x70,h70,H⟩:=bF H
    have s70:=dM 1;rw[h70]at s70;refine aS call12 (jt.r) s70 ?_
    obtain⟨x72,h72,H⟩:=bF H
    have s72:=dM 6;rw[h72]at s72;refine aS call12 (jt.r) s72 ?_;refine bw Z ?_
    obtain⟨x74,h74,H⟩:=am H
    have s74:=fX x66.row ([x70,x72]:Rq) _ h74;refine aS call14 (jt.r) s74 ?_;refine az 2 Z ?_;refine gi H (fun H=>?_) (fun H=>?_)
    ·refine bw Z ?_
     obtain⟨x78,k78,H⟩:=aV H
     refine bE k78.1 (aC (fun _=>Z) k78.2) ?_;refine az 4 Z ?_
     obtain⟨x82,h82,H⟩:=bF H
     have s82:=dM 2;rw[h82]at s82;refine aS call12 (jt.r) s82 ?_
     obtain⟨x84,h84,H⟩:=bF H
     have s84:=dM 8;rw[h84]at s84;refine aS call12 (jt.r) s84 ?_;refine bw Z ?_
     obtain⟨x86,h86,H⟩:=am H
     have s86:=fX x78.row ([x82,x84]:Rq) _ h86;refine aS call14 (jt.r) s86 ?_;refine az 2 Z (aQ ?_);exact bi tk H Z
    refine az 12 Z (aQ ?_);exact bi tk H Z
   refine az 24 Z (aQ ?_);exact bi tk H Z
  refine az 31 Z (aQ ?_);exact bi tk H Z
 refine az 36 Z (aQ ?_);exact bi tk H Z
def kj(sA:LSchema)(st:List LRelation)(p:LProcedureProcedure)(args:Rq):Option (Bool):=
 ae (ly) fun x15=>
 cond (!x15)
  (some false)
  (ae (
   ae (lO sA st p) fun x20=>
   cond (!x20)
    (some true)
    (some (decide ((args.length:Int)>(20:Int))))) fun(t1:Bool)=>
  cond t1
   (some true)
   (ae (mi sA st p args) fun x32=>
   cond (x32.2.2 !=(0:Int))
    (some ((iw ((x32.1.length:Int)+(x32.2.1.length:Int)))==(0:Int)))
    (ae (kl sA st x32.1) fun x48=>
    ae (jY p) fun x52=>
    cond (x48.2==(0:Int))
     (cond (decide ((x32.1.length:Int)<=(24:Int)))
      (cond (decide ((x32.2.1.length:Int)<=(8:Int)))
       (ae (fj x32.1 (fun a0=>fq a0 x52)) fun x68=>
       some (!x68))
       (some false))
      (some false))
     (some false))))
theorem us(sA:LSchema)(st:List LRelation)(p:LProcedureProcedure)(args:Rq)(r:Bool)(H:kj sA st p args=some r):
  aY prog 3 [(.agg (da sA)),(.list 69 (st.map bW)),(.agg (eh p)),(.list 58 (args.map af))] (aK r):=by
 unfold kj at H;refine PH.au func3 ntmps3 ?_;refine aa (ab (aO ?_));refine aO ?_;refine ai tk Z (ac (aa (aa (ab ?_))))
 obtain⟨x15,h15,H⟩:=am H
 have s15:=rB _ h15;refine aj call4 (jt.r) s15 ?_;refine ai tk Z (ac ?_);refine aF Z H (fun H=>?_) (fun H=>?_)
 ·refine ak 1 tk Z ?_;exact bi tk H Z
 refine al (aa (aa ?_));refine ee (γ:=Unit) (fun t1 g1=>⟨71,upd (upd (upd (upd (upd (fun _=>.any) 26 (aK t1)) 6 (.ptr (eh p))) 4 (.ptr (da sA))) 3 (.list 58 (args.map af))) 1 (.list 69 (st.map bW)),fun _=>none,fun _=>none⟩) H (fun _ H=>?_) (fun t1 g1 H=>?_)
 ·refine ab (ag 3 tk Z ?_)
  obtain⟨x20,h20,H⟩:=am H
  have s20:=sj sA st p _ h20;refine aj call5 (jt.r) s20 ?_;refine ag 2 tk Z ?_;refine bu Z Z Z H (fun H=>?_) (fun H=>?_)
  ·refine ag 4 tk Z (ac ?_);refine aP _ () (aq H) Gh.d
  refine ai tk Z (aI tk (zl _) ?_);refine ag 2 tk Z (ac ?_);refine aP _ () (aq H) Gh.d
 refine aF Z H (fun H=>?_) (fun H=>?_)
 ·refine ak 1 tk Z ?_;exact bi tk H Z
 refine al (aa (ab (ag 4 tk Z ?_)))
 obtain⟨x32,h32,H⟩:=am H
 have s32:=qK sA st p args _ h32;refine aj call6 (jt.r) s32 ?_;refine ag 7 tk Z (ac (aa (ak 2 tk Z ?_)));refine aF Z H (fun H=>?_) (fun H=>?_)
 ·refine aa (ab (ai tk Z (aI tk (zl _) ?_)));refine ai tk Z (aI tk (zl _) ?_);refine ag 3 tk Z (ac ?_);exact bi tk H Z
 refine al (aa (ab (ag 3 tk Z ?_)))
 obtain⟨x48,h48,H⟩:=am H
 have s48:=rK sA st x32.1 _ h48;refine aj call7 (jt.r) s48 ?_;refine ag 5 tk Z (ac (aa (ab (ai tk Z ?_))))
 obtain⟨x52,h52,H⟩:=am H
 have s52:=pV p _ h52;refine aj call8 (jt.r) s52 ?_;refine bm tk fun b14=>?_
 refine ay tk ?_;refine ac (aa (qQ 14 Z Z Z Z (ab (ag 3 tk Z ?_))));refine bu Z Z Z H (fun H=>?_) (fun H=>?_)
 ·refine ai tk Z (aI tk (zl _) ?_);refine ag 3 tk Z ?_;refine bu Z Z Z H (fun H=>?_) (fun H=>?_)
  ·refine ai tk Z (aI tk (zl _) ?_);refine ag 3 tk Z ?_;refine bu Z Z Z H (fun H=>?_) (fun H=>?_)
   ·refine ag 2 tk Z ?_
    obtain⟨x68,h68,H⟩:=am H
    have s68:=kY x32.1 (fun a0=>fq a0 x52) call10 (fun a0 r h=>mJ a0 x52 r h) _ h68;refine aj call9 (jt.r) s68 ?_;refine ag 3 tk Z (ac ?_);exact bi tk H Z
   refine ag 6 tk Z (ac ?_);exact bi tk H Z
  refine ag 11 tk Z (ac ?_);exact bi tk H Z
 refine ag 16 tk Z (ac ?_);exact bi tk H Z
end
end Go.Proofs.YtafdcemcgfbhcaaGreat

namespace Go.Proofs.YtafdcemcgfbhcaaGreat
noncomputable section
open Go Go.Ab Go.Proofs.Tryz
theorem LQuery.inputs_lt{q x:LQuery}(h:x∈q.inputs):SizeOf.sizeOf x<SizeOf.sizeOf q:=by
 cases q;simp only[LQuery.inputs]at h
 have:=List.sizeOf_lt_of_mem h
 simp only[LQuery.mk.sizeOf_spec];omega
theorem LQuery.ind{p:LQuery->Prop}(h:∀q:LQuery,(∀x∈q.inputs,p x)->p q):∀q,p q:=by
 intro q;generalize hn:SizeOf.sizeOf q=n;induction n using Nat.strongRecOn generalizing q with
 |_ n ih=>exact h q fun x hx=>ih _ (hn▸LQuery.inputs_lt hx) x Z
theorem pj{α:Type}{p:α->Nat->Prop}:∀(xs:List α),(∀x∈xs,∃N,∀n,N<=n->p x n)->∃N,∀n,N<=n->∀x∈xs,p x n
 |[],_=>⟨0,fun _ _ x hx=>by simp at hx⟩
 |y::xs,h=>by
  obtain⟨N,hN⟩:=h y (by simp)
  obtain⟨N',hN'⟩:=pj xs fun x hx=>h x (by simp[hx])
  refine⟨N+N',fun n hn x hx=>?_⟩
  rcases List.mem_cons.1 hx with rfl|hx
  ·exact hN n (by omega)
  ·exact hN' n (by omega) x hx
theorem iZ{α σ ρ:Type}{step step':Nat->α->σ->Option (Flow σ ρ)}:∀(xs:List α) (j:Nat) (s:σ),(∀k x s,xs[k]? =some x->step (j+k) x s=step' (j+k) x s)->aU step j xs s=aU step' j xs s
 |[],_,_,_=>rfl
 |x::xs,j,s,h=>by
  have h0:=h 0 x s Z;rw[Nat.add_zero]at h0;rw[aU,aU,h0];split
  ·rfl
  ·exact iZ xs (j+1) _ fun k y t hk=>by
    have:=h (k+1) y t (by simpa using hk)
    rwa [show j+(k+1)=j+1+k from by omega]at this
  ·rfl
  ·rfl
theorem ek{α:Type}{xs:List α}{k:Nat}{x:α}(h:xs[k]? =some x):x∈xs:=List.mem_of_getElem? h
theorem pU{γ β:Type}{F:Nat->γ->LQuery->Option β}{O:(γ->LQuery->Option β)->γ->LQuery->Option β}(hF:∀n,F (n+1)=O (F n))(c:γ)(q:LQuery)
  (hc:∀r r':γ->LQuery->Option β,(∀x∈q.inputs,r c x=r' c x)->O r c q=O r' c q) (hx:∀x∈q.inputs,∃v,ia (fun n=>F n c x)=some v) {r:β} (h:O (fun c q=>ia fun n=>F n c q) c q=some r):
  ia (fun n=>F n c q)=some r:=by
 obtain⟨N,hN⟩:=pj (p:=fun x n=>F n c x=ia fun n=>F n c x) q.inputs (fun x hm=>by
  obtain⟨v,hv⟩:=hx x hm
  obtain⟨N,hN⟩:=limN_ev hv
  exact⟨N,fun n hn=>by rw[hN n hn,hv]⟩)
 refine rO (N+1) fun m hm=>?_
 obtain⟨m,rfl⟩:∃k,m=k+1:=⟨m-1,by omega⟩
 rw[hF,hc _ (fun c q=>ia fun n=>F n c q) (hN m (by omega)),h]
def dz(q:LQuery):List LQuery:=q::(q.inputs.attach.map fun x=>dz x.1).flatten
termination_by SizeOf.sizeOf q
decreasing_by exact LQuery.inputs_lt x.2
theorem kS(q:LQuery):dz q=q::(q.inputs.map dz).flatten:=by
 rw[dz,List.attach_map_val (f:=dz)]
theorem flat_le{α β:Type}{f:α->List β}{xs:List α}{x:α}(h:x∈xs):(f x).length<=((xs.map f).flatten).length:=by
 induction xs with
 |nil=>simp at h
 |cons y xs ih=>
  simp only[List.map_cons,List.flatten_cons,List.length_append];rcases List.mem_cons.1 h with rfl|h
  ·omega
  ·have:=ih h;omega
theorem om{q x:LQuery}(h:x∈q.inputs):(dz x).length+1<=(dz q).length:=by
 rw[kS q]
 have:=flat_le (f:=dz) h
 simp only[List.length_cons];omega
theorem cd{α:Type}{bytes:Nat}{xs ys:List α}(hb:bytes<=200)(h:xs.length+ys.length<=10000000):dq bytes xs ys=some (xs++ys):=by
 refine appI_ok ?_ (by unfold maxLen;omega)
 have:(xs.length+ys.length)*bytes<=10000000*200:=Nat.mul_le_mul h hb
 omega
theorem take_flat{α β:Type}{f:α->List β}{xs:List α}{k:Nat}:(((xs.take k).map f).flatten).length<=((xs.map f).flatten).length:=by
 induction xs generalizing k with
 |nil=>simp
 |cons y xs ih=>
  cases k with
  |zero=>simp
  |succ k=>simp only[List.take_succ_cons,List.map_cons,List.flatten_cons,List.length_append];have:=ih (k:=k);omega
theorem nodes_ok:∀q:LQuery,(dz q).length<=10000000->jR q=some (dz q):=by
 refine LQuery.ind fun q ih hb=>?_
 refine pU (γ:=Unit) (F:=fun n _ q=>kI n q) (O:=fun r _ q=>kL (fun x=>r () x) q) (fun n=>rfl) () q ?_ (fun x hx=>⟨_,ih x hx (by have:=om hx;omega)⟩) ?_
 ·intro r r' h;simp only[kL];congr 1;exact iZ q.inputs 0 _ fun k x s hk=>by rw[h x (ek hk)]
 ·have hr:=rMa (step:=fun(_:Nat) (x1:LQuery) (s1:List LQuery)=>ae (jR x1) fun x17=>ae (dq 160 s1 x17) fun(x18:List LQuery)=>some (Flow.next (ρ:=Empty) x18)) (xs:=q.inputs) (s:=[q])
   (fun k=>q::((q.inputs.take k).map dz).flatten) (by simp) (fun k x hk=>by
    have hx:=ek hk;rw[ih x hx (by have:=om hx;omega),bPs,cd (by decide),bPs]
    ·rw[List.take_add_one,hk];simp
    ·have h1:(((q.inputs.take (k+1)).map dz).flatten).length<=((q.inputs.map dz).flatten).length:=take_flat;rw[List.take_add_one,hk]at h1;rw[kS]at hb;simp at h1 hb⊢;omega)
  simp only[kL];have e:∀x,(ia fun n=>kI n x)=jR x:=fun _=>rfl
  simp only[e];rw[hr,bPs,dl,List.take_length,kS]
def ew(a b:Int):Int:=if b>a then b else a
theorem ro{a b c:Int}(h:a<=c)(h':b<=c):ew a b<=c:=by unfold ew;split<;>assumption
theorem kv(a b:Int):a<=ew a b:=by unfold ew;split<;>omega
theorem pm(a b:Int):b<=ew a b:=by unfold ew;split<;>omega
def ku(q:LQuery):Int:=(q.inputs.attach.map fun x=>ku x.1).foldl ew 0+1
termination_by SizeOf.sizeOf q
decreasing_by exact LQuery.inputs_lt x.2
theorem sX(q:LQuery):ku q=(q.inputs.map ku).foldl ew 0+1:=by
 rw[ku,List.attach_map_val (f:=ku)]
theorem sK:∀{l:List Int} {a c:Int},a<=c->(∀x∈l,x<=c)->l.foldl ew a<=c
 |[],_,_,h,_=>h
 |x::l,a,c,h,hl=>sK (l:=l) (ro h (hl x (by simp))) fun y hy=>hl y (by simp[hy])
theorem sI:∀{l:List Int} {a:Int},a<=l.foldl ew a/\∀x∈l,x<=l.foldl ew a
 |[],a=>⟨Int.le_refl a,by simp⟩
 |x::l,a=>by
  obtain⟨h1,h2⟩:=sI (l:=l) (a:=ew a x)
  simp only[List.foldl_cons]
  refine⟨Int.le_trans (kv a x) h1,fun y hy=>?_⟩
  rcases List.mem_cons.1 hy with rfl|hy
  ·exact Int.le_trans (pm a y) h1
  ·exact h2 y hy
theorem depthQ_nodes:∀q:LQuery,1<=ku q/\ku q<=(dz q).length:=by
 refine LQuery.ind fun q ih=>?_
 rw[sX,kS]
 have h1:(q.inputs.map ku).foldl ew 0<=(((q.inputs.map dz).flatten).length:Nat):=sK (by omega) fun x hx=>by
  obtain⟨y,hy,rfl⟩:=List.mem_map.1 hx
  have:=(ih y hy).2
  have:=flat_le (f:=dz) hy
  omega
 have h2:=(sI (l:=q.inputs.map ku) (a:=0)).1;simp only[List.length_cons];omega
theorem depth_ok:∀q:LQuery,(dz q).length<=10000000->lV q=some (ku q):=by
 refine LQuery.ind fun q ih hb=>?_
 refine pU (γ:=Unit) (F:=fun n _ q=>kH n q) (O:=fun r _ q=>kK (fun x=>r () x) q) (fun n=>rfl) () q ?_ (fun x hx=>⟨_,ih x hx (by have:=om hx;omega)⟩) ?_
 ·intro r r' h;simp only[kK];congr 1;exact iZ q.inputs 0 _ fun k x s hk=>by rw[h x (ek hk)]
 ·have hr:=rMa (step:=fun(_:Nat) (x1:LQuery) (s1:Int)=>ae (lV x1) fun x15=>some (Flow.next (ρ:=Empty) (if x15>s1 then x15 else s1))) (xs:=q.inputs) (s:=0)
   (fun k=>((q.inputs.take k).map ku).foldl ew 0) (by simp) (fun k x hk=>by
    have hx:=ek hk;rw[ih x hx (by have:=om hx;omega),bPs,List.take_add_one,hk];simp[ew])
  simp only[kK];have e:∀x,(ia fun n=>kH n x)=lV x:=fun _=>rfl
  simp only[e];rw[hr,bPs,dl,List.take_length,sX];have h:=depthQ_nodes q;rw[sX]at h;rw[wW (by omega) (by omega)]
def oN(n:Int):Int:=if 20001<n then 20001 else n
def jT(kind:Int)(s:Int×Int)(j:Nat)(x:Int×Int):Int×Int:=
 (oN (if j=0 then x.1 else if kind=6 then s.1+x.1 else if kind=4\/kind=5 then s.1*ew 1 x.1 else s.1),ew s.2 x.2)
def fo(kind:Int):Nat->List (Int×Int)->Int×Int->Int×Int
 |_,[],s=>s
 |j,x::l,s=>fo kind (j+1) l (jT kind s j x)
def ck(q:LQuery):Int×Int:=
 let s:=fo q.kind 0 (q.inputs.attach.map fun x=>ck x.1) (0,0)
 if q.kind=1 then(24,ew s.2 24)else(s.1,ew s.2 s.1)
termination_by SizeOf.sizeOf q
decreasing_by exact LQuery.inputs_lt x.2
theorem oO(q:LQuery):ck q=if q.kind=1 then(24,ew (fo q.kind 0 (q.inputs.map ck) (0,0)).2 24)else((fo q.kind 0 (q.inputs.map ck) (0,0)).1,ew (fo q.kind 0 (q.inputs.map ck) (0,0)).2 (fo q.kind 0 (q.inputs.map ck) (0,0)).1):=by
 rw[ck,List.attach_map_val (f:=ck)]
def oV(s:Int×Int):Prop:=0<=s.1/\s.1<=20001/\0<=s.2/\s.2<=20001
theorem capI_b{n:Int}(h:0<=n):0<=oN n/\oN n<=20001:=by unfold oN;split<;>omega
theorem mostStep_r{kind:Int}{s x:Int×Int}{j:Nat}(hs:oV s)(hx:oV x):oV (jT kind s j x):=by
 obtain⟨a1,a2,a3,a4⟩:=hs
 obtain⟨b1,b2,b3,b4⟩:=hx
 unfold jT
 have h1:0<=(if j=0 then x.1 else if kind=6 then s.1+x.1 else if kind=4\/kind=5 then s.1*ew 1 x.1 else s.1):=by
  split
  ·exact b1
  ·split
   ·omega
   ·split
    ·exact Int.mul_nonneg a1 (Int.le_trans (by decide) (kv 1 x.1))
    ·exact a1
 exact⟨(capI_b h1).1,(capI_b h1).2,Int.le_trans a3 (kv _ _),ro a4 b4⟩
theorem sF{kind:Int}:∀{l:List (Int×Int)} {j:Nat} {s:Int×Int},oV s->(∀x∈l,oV x)->oV (fo kind j l s)
 |[],_,_,h,_=>h
 |x::l,j,s,h,hl=>sF (l:=l) (mostStep_r h (hl x (by simp))) fun y hy=>hl y (by simp[hy])
theorem mostQ_r:∀q:LQuery,oV (ck q):=by
 refine LQuery.ind fun q ih=>?_
 rw[oO]
 have h:oV (fo q.kind 0 (q.inputs.map ck) (0,0)):=sF ⟨by decide,by decide,by decide,by decide⟩ fun x hx=>by
  obtain⟨y,hy,rfl⟩:=List.mem_map.1 hx
  exact ih y hy
 obtain⟨a1,a2,a3,a4⟩:=h
 split
 ·exact⟨show(0:Int)<=24 by decide,show(24:Int)<=20001 by decide,Int.le_trans a3 (kv _ _),ro a4 (by decide)⟩
 ·exact⟨a1,a2,Int.le_trans a3 (kv _ _),ro a4 a2⟩
theorem tG(kind:Int):∀(l:List (Int×Int)) (j:Nat) (s x:Int×Int),fo kind j (l++[x]) s=jT kind (fo kind j l s) (j+l.length) x
 |[],j,s,x=>by simp[fo]
 |y::l,j,s,x=>by
  rw[List.cons_append,fo,tG kind l (j+1),fo];congr 1;simp;omega
theorem mostStep_run{kind:Int}{s x:Int×Int}{j:Nat}(hs:oV s)(hx:oV x):
  (cond ((j:Int)==(0:Int))
   (some (Flow.next (ρ:=Empty) ((if(20001:Int)<x.1 then(20001:Int)else x.1),(if x.2>s.2 then x.2 else s.2))))
   (cond (kind==(6:Int))
    (some (.next ((if(20001:Int)<(iw (s.1+x.1))then(20001:Int)else(iw (s.1+x.1))),(if x.2>s.2 then x.2 else s.2))))
    (letP (
     cond (kind==(4:Int))
      (true)
      ((kind==(5:Int)))) fun(t4:Bool)=>
    cond t4
     (some (.next ((if(20001:Int)<(iw (s.1*(if x.1>(1:Int)then x.1 else(1:Int))))then(20001:Int)else(iw (s.1*(if x.1>(1:Int)then x.1 else(1:Int))))),(if x.2>s.2 then x.2 else s.2))))
     (some (.next ((if(20001:Int)<s.1 then(20001:Int)else s.1),(if x.2>s.2 then x.2 else s.2)))))))=some (.next (jT kind s j x)):=by
 obtain⟨a1,a2,a3,a4⟩:=hs
 obtain⟨b1,b2,b3,b4⟩:=hx
 have hm:1<=ew 1 x.1/\ew 1 x.1<=20001:=⟨kv _ _,ro (by decide) b2⟩
 have hp:0<=s.1*ew 1 x.1/\s.1*ew 1 x.1<=20001*20001:=⟨Int.mul_nonneg a1 (by omega),Int.mul_le_mul a2 hm.2 (by omega) (by decide)⟩
 have hw1:iw (s.1+x.1)=s.1+x.1:=wW (by omega) (by omega);have hw2:iw (s.1*(if x.1>(1:Int)then x.1 else(1:Int)))=s.1*ew 1 x.1:=wW (by show _<=s.1*ew 1 x.1;omega) (by show s.1*ew 1 x.1<=_;omega);rw[hw1,hw2];unfold jT oN ew letP;by_cases h0:j=0
 ·subst h0;simp
 ·have:((j:Int)==(0:Int))=false:=by simp;omega
  rw[this];by_cases h6:kind=6
  ·subst h6;simp[h0]
  ·by_cases h4:kind=4
   ·subst h4;simp[h0]
   ·by_cases h5:kind=5
    ·subst h5;simp[h0]
    ·have e6:(kind==(6:Int))=false:=by simpa using h6
     have e4:(kind==(4:Int))=false:=by simpa using h4
     have e5:(kind==(5:Int))=false:=by simpa using h5
     simp[h0,h6,h4,h5,e6,e4,e5]
theorem most_ok:∀q:LQuery,nX q=some (ck q):=by
 refine LQuery.ind fun q ih=>?_
 refine pU (γ:=Unit) (F:=fun n _ q=>lD n q) (O:=fun r _ q=>ls (fun x=>r () x) q) (fun n=>rfl) () q ?_ (fun x hx=>⟨_,ih x hx⟩) ?_
 ·intro r r' h;simp only[ls];congr 1;exact iZ q.inputs 0 _ fun k x s hk=>by rw[h x (ek hk)]
 ·simp only[ls];have e:∀x,(ia fun n=>lD n x)=nX x:=fun _=>rfl
  simp only[e]
  rw[rMa (xs:=q.inputs) (s:=(0,0)) (fun k=>fo q.kind 0 ((q.inputs.take k).map ck) (0,0)) (by simp[fo]) (fun k x hk=>by
    have hx:=ek hk
    rw[ih x hx,bPs,mostStep_run (sF ⟨by decide,by decide,by decide,by decide⟩ fun y hy=>by
     obtain⟨z,_,rfl⟩:=List.mem_map.1 hy
     exact mostQ_r z) (mostQ_r x),List.take_add_one,hk]
    have hk':=(zg.1 hk).1;simp only[Option.toList_some,List.map_append,List.map_cons,List.map_nil];rw[tG];congr 3;simp;omega)]
  rw[bPs,dl,List.take_length,oO];by_cases h1:q.kind=1
  ·simp[h1,ew]
  ·have:(q.kind==(1:Int))=false:=by simpa using h1
   simp[h1,this,ew]
theorem LExpr.args_lt{e x:LExpr}(h:x∈e.args):SizeOf.sizeOf x<SizeOf.sizeOf e:=by
 cases e;simp only[LExpr.args]at h
 have:=List.sizeOf_lt_of_mem h
 simp only[LExpr.mk.sizeOf_spec];omega
theorem LExpr.ind{p:LExpr->Prop}(h:∀e:LExpr,(∀x∈e.args,p x)->p e):∀e,p e:=by
 intro e;generalize hn:SizeOf.sizeOf e=n;induction n using Nat.strongRecOn generalizing e with
 |_ n ih=>exact h e fun x hx=>ih _ (hn▸LExpr.args_lt hx) x Z
def kP(e:LExpr):List (Nat×Int):=if e.kind=3/\0<=e.index/\e.index<8 then [(e.index.toNat,e.value.kind)]else []
def fc(e:LExpr):List (Nat×Int):=kP e++(e.args.attach.map fun x=>fc x.1).flatten
termination_by SizeOf.sizeOf e
decreasing_by exact LExpr.args_lt x.2
theorem rY(e:LExpr):fc e=kP e++(e.args.map fc).flatten:=by
 rw[fc,List.attach_map_val (f:=fc)]
abbrev PSt:=List Int×Bool×List Bool
def jL(out:List Int)(i:Nat):List Int:=out++List.replicate (i+1-out.length) 0
def fN(s:PSt)(p:Nat×Int):PSt:=
 ((jL s.1 p.1).set p.1 p.2,s.2.1||(s.2.2.getD p.1 false&&(jL s.1 p.1).getD p.1 0 !=p.2),s.2.2.set p.1 true)
def POk(s:PSt):Prop:=s.1.length<=8/\s.2.2.length=8
theorem pu(out:List Int)(i:Nat):(jL out i).length=max out.length (i+1):=by simp[jL];omega
theorem pstep_ok{s:PSt}{p:Nat×Int}(h:POk s)(hp:p.1<8):POk (fN s p):=by
 refine⟨?_,by simp[fN,h.2]⟩
 show((jL s.1 p.1).set p.1 p.2).length<=8
 rw[List.length_set,pu]
 have:=h.1
 omega
theorem nU:∀e:LExpr,∀p∈fc e,p.1<8:=by
 refine LExpr.ind fun e ih p hp=>?_
 rw[rY,List.mem_append]at hp;rcases hp with hp|hp
 ·unfold kP at hp;split at hp
  ·rename_i h;simp at hp;subst hp;simp;omega
  ·simp at hp
 ·obtain⟨l,hl,hp⟩:=List.mem_flatten.1 hp
  obtain⟨x,hx,rfl⟩:=List.mem_map.1 hl
  exact ih x hx p hp
theorem nx:∀{l:List (Nat×Int)} {s:PSt},POk s->(∀p∈l,p.1<8)->POk (l.foldl fN s)
 |[],_,h,_=>h
 |p::l,s,h,hl=>nx (l:=l) (pstep_ok h (hl p (by simp))) fun q hq=>hl q (by simp[hq])
theorem pad_while(i:Nat)(hi:i<8):∀(n:Nat) (out:List Int),i+1-out.length=n->out.length<=8->
  dg (σ:=List Int) (ρ:=Empty) (fun(s7:List Int)=>cond (decide ((s7.length:Int)<=(i:Int))) (ae (dq 8 s7 ([0]:List Int)) fun(x28:List Int)=>some (.next x28)) (some (.brk s7))) out=some (.next (jL out i))
 |0,out,hn,ho=>by
  refine mW (fl:= .brk out) ?_ ?_
  ·have:¬((out.length:Int)<=(i:Int)):=by omega
   simp[this]
  ·simp[jL,hn]
 |n+1,out,hn,ho=>by
  refine mW (fl:= .next (out++[0])) ?_ ?_
  ·have:(out.length:Int)<=(i:Int):=by omega
   simp only[this,decide_true,zc];rw[cd (by decide) (by simp;omega)];rfl
  ·have:=pad_while i hi n (out++[0]) (by simp;omega) (by simp;omega)
   simp only;rw[this];simp only[jL,List.length_append,List.length_singleton,List.append_assoc,hn];rw[show i+1-(out.length+1)=n from by omega,show(List.replicate (n+1) (0:Int))=[0]++List.replicate n 0 from Z]
theorem arrI_at{xs:List Bool}{i:Nat}(h:xs.length=8)(hi:i<8):arrI 8 xs (i:Int)=some (xs.getD i false):=by
 have:xs[i]? =some (xs.getD i false):=by rw[List.getD_eq_getElem?_getD,ze (by omega)];rfl
 exact arrI_eq (by omega) (by simpa using this)
theorem getI_at{xs:List Int}{i:Nat}(h:i<xs.length):aG xs (i:Int)=some (xs.getD i 0):=by
 have:xs[i]? =some (xs.getD i 0):=by rw[List.getD_eq_getElem?_getD,ze h];rfl
 exact jw this
theorem look_ok:∀e:LExpr,∃N,∀n,N<=n->∀s:PSt,POk s->ec n e s.1 s.2.1 s.2.2=some ((fc e).foldl fN s):=by
 refine LExpr.ind fun e ih=>?_
 obtain⟨N,hN⟩:=pj (p:=fun x n=>∀s:PSt,POk s->ec n x s.1 s.2.1 s.2.2=some ((fc x).foldl fN s)) e.args ih
 refine⟨N+1,fun n hn s hs=>?_⟩
 obtain⟨n,rfl⟩:∃k,n=k+1:=⟨n-1,by omega⟩
 rw[ec];simp only[iR];have h1:POk ((kP e).foldl fN s):=nx hs fun p hp=>nU e p (by rw[rY];simp[hp])
 have hloop:∀s:PSt,POk s->ae (aU (σ:=List Int×Bool×List Bool) (ρ:=Empty) (fun(_:Nat) (x11:LExpr) (s11:List Int×Bool×List Bool)=>
   ae (ec n x11 s11.1 s11.2.1 s11.2.2) fun x66=>some (.next (x66.1,x66.2.1,x66.2.2))) 0 e.args (s.1,s.2.1,s.2.2)) (fun fl11=>fl11.thenP fun(s11:List Int×Bool×List Bool)=>some (s11.1,s11.2.1,s11.2.2))=
   some (((e.args.map fc).flatten).foldl fN s):=by
  intro s hs
  rw[rMa (xs:=e.args) (s:=(s.1,s.2.1,s.2.2)) (fun k=>(((e.args.take k).map fc).flatten).foldl fN s) Z (fun k x hk=>by
   have hx:=ek hk
   have hok:POk ((((e.args.take k).map fc).flatten).foldl fN s):=nx hs fun p hp=>by
    obtain⟨l,hl,hp⟩:=List.mem_flatten.1 hp
    obtain⟨y,hy,rfl⟩:=List.mem_map.1 hl
    exact nU y p hp
   rw[hN n (by omega) x hx _ hok,bPs,List.take_add_one,hk];simp)]
  rw[bPs,dl,List.take_length]
 have key:(ae (cond (letP (cond (e.kind==(3:Int)) (cond (decide (e.index>=(0:Int))) ((decide (e.index<(8:Int)))) (false)) (false)) fun(t1:Bool)=>t1)
   (ae (dg (σ:=List Int) (ρ:=Empty) (fun(s7:List Int)=>cond (decide ((s7.length:Int)<=e.index)) (ae (dq 8 s7 ([0]:List Int)) fun(x28:List Int)=>some (.next x28)) (some (.brk s7))) s.1) fun fl7=>fl7.thenP fun(s7:List Int)=>
   ae (cond s.2.1 (some true) (ae (arrI 8 s.2.2 e.index) fun(x33:Bool)=>cond x33 (ae (aG s7 e.index) fun(x39:Int)=>some (x39 !=e.value.kind)) (some false))) fun(t8:Bool)=>
   ae (aG s7 e.index) fun(_:Int)=>letP (s7.set e.index.toNat e.value.kind) fun(y9:List Int)=>ae (arrI 8 s.2.2 e.index) fun(_:Bool)=>letP (s.2.2.set e.index.toNat true) fun(y10:List Bool)=>some (y9,t8,y10))
   (some (s.1,s.2.1,s.2.2))) fun t=>some t)=some ((kP e).foldl fN s):=by
  unfold letP;by_cases hc:e.kind=3/\0<=e.index/\e.index<8
  ·obtain⟨hk,h0,h8⟩:=hc
   obtain⟨i,hi⟩:∃i:Nat,e.index=i:=⟨e.index.toNat,by omega⟩
   have hi8:i<8:=by omega
   have e0:(e.kind==(3:Int))=true:=by simpa using hk
   have e1:decide (e.index>=(0:Int))=true:=zt h0;have e2:decide (e.index<(8:Int))=true:=zt h8;rw[e0,e1,e2];simp only[zc];rw[hi,pad_while i hi8 _ s.1 Z hs.1];simp only[bPs,dl];have hl:i<(jL s.1 i).length:=by rw[pu];omega
   rw[arrI_at hs.2 hi8,getI_at hl];simp only[bPs,Int.toNat_natCast];have hh:kP e=[(i,e.value.kind)]:=by unfold kP;rw[zp ⟨hk,h0,h8⟩,hi,Int.toNat_natCast]
   rw[hh];simp only[List.foldl_cons,List.foldl_nil,fN];cases hb:s.2.1<;>cases hc:s.2.2.getD i false<;>simp
  ·have hh:kP e=[]:=by unfold kP;rw[zy hc]
   rw[hh]
   have e0:(cond (e.kind==(3:Int)) (cond (decide (e.index>=(0:Int))) ((decide (e.index<(8:Int)))) (false)) (false))=false:=by
    by_cases a:e.kind=3
    ·by_cases b:0<=e.index
     ·have:¬e.index<8:=fun h=>hc ⟨a,b,h⟩
      simp[this]
     ·have:¬e.index>=0:=b
      simp[this]
    ·have:(e.kind==(3:Int))=false:=by simpa using a
     simp[this]
   rw[e0];rfl
 simp only[bV]at key⊢;rw[rY,List.foldl_append,<-hloop _ h1];generalize hg:(cond _ _ _:Option PSt)=o at key;cases o with
 |none=>cases key
 |some t=>
  simp only[bPs,zo]at key;subst key;rfl
theorem look_eq(e:LExpr){s:PSt}(h:POk s):gS e s.1 s.2.1 s.2.2=some ((fc e).foldl fN s):=by
 obtain⟨N,hN⟩:=look_ok e
 exact rO N fun n hn=>hN n hn s h
def lF(x:LQuery):List (Nat×Int):=(x.exprs.map fc).flatten++(x.aggregates.map fun a=>(a.args.map fc).flatten).flatten
def mR(q:LQuery):List (Nat×Int):=((dz q).map lF).flatten
theorem pJ{x:LQuery}:∀p∈lF x,p.1<8:=by
 intro p hp;rcases List.mem_append.1 hp with hp|hp
 ·obtain⟨l,hl,hp⟩:=List.mem_flatten.1 hp
  obtain⟨e,_,rfl⟩:=List.mem_map.1 hl
  exact nU e p hp
 ·obtain⟨l,hl,hp⟩:=List.mem_flatten.1 hp
  obtain⟨a,_,rfl⟩:=List.mem_map.1 hl
  obtain⟨l,hl,hp⟩:=List.mem_flatten.1 hp
  obtain⟨e,_,rfl⟩:=List.mem_map.1 hl
  exact nU e p hp
theorem paramsQ_lt{q:LQuery}:∀p∈mR q,p.1<8:=by
 intro p hp
 obtain⟨l,hl,hp⟩:=List.mem_flatten.1 hp
 obtain⟨x,_,rfl⟩:=List.mem_map.1 hl
 exact pJ p hp
theorem lookAll{l:List LExpr}{s:PSt}(h:POk s):aU (σ:=PSt) (ρ:=Empty) (fun(_:Nat) (x12:LExpr) (s12:PSt)=>
   ae (gS x12 s12.1 s12.2.1 s12.2.2) fun x33=>some (.next (x33.1,x33.2.1,x33.2.2))) 0 l (s.1,s.2.1,s.2.2)=some (.next (((l.map fc).flatten).foldl fN s)):=by
 rw[rMa (xs:=l) (s:=(s.1,s.2.1,s.2.2)) (fun k=>(((l.take k).map fc).flatten).foldl fN s) Z (fun k x hk=>by
  have hok:POk ((((l.take k).map fc).flatten).foldl fN s):=nx h fun p hp=>by
   obtain⟨m,hm,hp⟩:=List.mem_flatten.1 hp
   obtain⟨y,hy,rfl⟩:=List.mem_map.1 hm
   exact nU y p hp
  rw[look_eq x hok,bPs,List.take_add_one,hk];simp),List.take_length]
def eU(q:LQuery):PSt:=(mR q).foldl fN ([],false,List.replicate 8 false)
theorem kinds_ok{q:LQuery}(hb:(dz q).length<=10000000):fm q=some (cond (eU q).2.1 ([],13) ((eU q).1,0)):=by
 unfold fm;rw[nodes_ok q hb,bPs]
 rw[rMa (xs:=dz q) (s:=([],false,List.replicate 8 false)) (fun k=>((((dz q).take k).map lF).flatten).foldl fN ([],false,List.replicate 8 false)) Z (fun k x hk=>by
  have hok:POk (((((dz q).take k).map lF).flatten).foldl fN ([],false,List.replicate 8 false)):=nx ⟨by simp,by simp⟩ fun p hp=>by
   obtain⟨m,hm,hp⟩:=List.mem_flatten.1 hp
   obtain⟨y,hy,rfl⟩:=List.mem_map.1 hm
   exact pJ p hp
  rw[lookAll hok,bPs,dl]
  rw[show((((dz q).take (k+1)).map lF).flatten).foldl fN ([],false,List.replicate 8 false)=(lF x).foldl fN (((((dz q).take k).map lF).flatten).foldl fN ([],false,List.replicate 8 false))from by
   rw[List.take_add_one,hk];simp only[Option.toList_some,List.map_append,List.map_cons,List.map_nil,List.flatten_append,List.flatten_cons,List.flatten_nil,List.append_nil,List.foldl_append]]
  generalize(((((dz q).take k).map lF).flatten).foldl fN ([],false,List.replicate 8 false))=s at hok⊢
  have hok2:POk (((x.exprs.map fc).flatten).foldl fN s):=nx hok fun p hp=>pJ (x:=x) p (by unfold lF;simp only[List.mem_append];exact .inl hp)
  rw[rMa (xs:=x.aggregates) (s:=((((x.exprs.map fc).flatten).foldl fN s).1,(((x.exprs.map fc).flatten).foldl fN s).2.1,(((x.exprs.map fc).flatten).foldl fN s).2.2))
   (fun k=>((((x.aggregates.take k).map fun a=>(a.args.map fc).flatten).flatten).foldl fN (((x.exprs.map fc).flatten).foldl fN s))) Z (fun k a ha=>by
    have hok3:POk ((((x.aggregates.take k).map fun a=>(a.args.map fc).flatten).flatten).foldl fN (((x.exprs.map fc).flatten).foldl fN s)):=nx hok2 fun p hp=>pJ (x:=x) p (by
     unfold lF;simp only[List.mem_append]
     obtain⟨m,hm,hp⟩:=List.mem_flatten.1 hp
     obtain⟨y,hy,rfl⟩:=List.mem_map.1 hm
     exact .inr (List.mem_flatten.2 ⟨_,List.mem_map.2 ⟨y,List.mem_of_mem_take hy,rfl⟩,hp⟩))
    rw[lookAll hok3,bPs,dl,List.take_add_one,ha];simp)]
  rw[bPs,dl,List.take_length];unfold lF;rw[List.foldl_append])]
 rw[bPs,dl,List.take_length]
 show(cond (eU q).2.1 (some ([],13)) (some ((eU q).1,0)))=_
 cases(eU q).2.1<;>rfl
def rQ(l:List (Nat×Int)):Prop:=∀i k k',(i,k)∈l->(i,k')∈l->k=k'
structure PInv(l:List (Nat×Int))(s:PSt):Prop where
 ok:POk s
 seen:∀i,i<8->(s.2.2.getD i false=true↔∃k,(i,k)∈l)
 len:∀i k,(i,k)∈l->i<s.1.length
 last:s.1.length=0\/∃k,(s.1.length-1,k)∈l
 zero:∀i,(∀k,(i,k)∉l)->s.1.getD i 0=0
 good:s.2.1=false->∀i k,(i,k)∈l->s.1.getD i 0=k
 bad:rQ l->s.2.1=false
theorem qT(out:List Int)(i j:Nat):(jL out i).getD j 0=out.getD j 0:=by
 simp only[jL,List.getD_eq_getElem?_getD];by_cases h:j<out.length
 ·rw[List.getElem?_append_left h]
 ·rw[List.getElem?_append_right (by omega),List.getElem?_eq_none (l:=out) (by omega),List.getElem?_replicate];split<;>rfl
theorem PInv.init:PInv [] ([],false,List.replicate 8 false):=
 ⟨⟨by simp,by simp⟩,fun i hi=>by
  have:(List.replicate 8 false).getD i false=false:=by rw[List.getD_eq_getElem?_getD,List.getElem?_replicate];split<;>rfl
  exact⟨fun h=>(by rw[show(([],false,List.replicate 8 false):PSt).2.2=List.replicate 8 false from Z,this]at h;cases h),fun⟨k,hk⟩=>(by simp at hk)⟩,fun i k h=>by simp at h,.inl Z,fun i _=>by simp,fun _ i k h=>by simp at h,fun _=>rfl⟩
theorem PInv.step{l:List (Nat×Int)}{s:PSt}(h:PInv l s){p:Nat×Int}(hp:p.1<8):PInv (l++[p]) (fN s p):=by
 obtain⟨i,k⟩:=p
 simp only at hp
 have hset:∀(xs:List Int) (j:Nat) (v:Int),i<xs.length->(xs.set i v).getD j 0=if j=i then v else xs.getD j 0:=by
  intro xs j v hl;rw[List.getD_eq_getElem?_getD,List.getD_eq_getElem?_getD,List.getElem?_set];by_cases hji:i=j
  ·subst hji;simp[hl]
  ·have:j≠i:=fun h=>hji h.symm
   simp[hji,this]
 have hl1:i<(jL s.1 i).length:=by rw[pu];omega
 refine⟨pstep_ok h.ok hp,fun j hj=>?_,fun j k' hm=>?_,?_,fun j hno=>?_,fun hb j k' hm=>?_,fun hk=>?_⟩
 ·show(s.2.2.set i true).getD j false=true↔_
  rw[List.getD_eq_getElem?_getD,List.getElem?_set];by_cases hji:i=j
  ·subst hji
   have:i<s.2.2.length:=by rw[h.ok.2];exact hp
   simp[this]
  ·have h1:=h.seen j hj;rw[List.getD_eq_getElem?_getD]at h1;have hji':j≠i:=fun h=>hji h.symm
   simp only[hji,if_false,h1,List.mem_append,List.mem_singleton,Prod.mk.injEq,hji',false_and,or_false]
 ·show j<((jL s.1 i).set i k).length;rw[List.length_set,pu];rcases List.mem_append.1 hm with hm|hm
  ·have:=h.len j k' hm;omega
  ·simp at hm;omega
 ·show((jL s.1 i).set i k).length=0\/∃k',(((jL s.1 i).set i k).length-1,k')∈l++[(i,k)]
  rw[List.length_set,pu];by_cases hle:s.1.length<=i+1
  ·right
   exact⟨k,by rw[show max s.1.length (i+1)-1=i from by omega];simp⟩
  ·rcases h.last with h0|⟨k',hk'⟩
   ·omega
   ·right
    exact⟨k',by rw[show max s.1.length (i+1)-1=s.1.length-1 from by omega];simp[hk']⟩
 ·show((jL s.1 i).set i k).getD j 0=0
  have hji:j≠i:=fun e=>hno k (by simp[e])
  rw[hset _ _ _ hl1,zy hji,qT];exact h.zero j fun k' hm=>hno k' (by simp[hm])
 ·have hb':s.2.1=false/\(s.2.2.getD i false&&(jL s.1 i).getD i 0 !=k)=false:=by
   have:(s.2.1||(s.2.2.getD i false&&(jL s.1 i).getD i 0 !=k))=false:=hb
   simpa using this
  show((jL s.1 i).set i k).getD j 0=k'
  rw[hset _ _ _ hl1];have hold:=h.good hb'.1;rcases List.mem_append.1 hm with hm1|hm
  ·by_cases hji:j=i
   ·subst hji;rw[zp Z];have hs:=(h.seen j hp).2 ⟨k',hm1⟩
    have:=hb'.2
    rw[hs,qT,hold j k' hm1]at this;simp at this;exact this.symm
   ·rw[zy hji,qT];exact hold j k' hm1
  ·simp at hm;rw[zp hm.1,hm.2]
 ·have h1:=h.bad fun i k k' a b=>hk i k k' (by simp[a]) (by simp[b])
  show(s.2.1||(s.2.2.getD i false&&(jL s.1 i).getD i 0 !=k))=false
  rw[h1,Bool.false_or,qT];cases hs:s.2.2.getD i false with
  |false=>rfl
  |true=>
   obtain⟨k',hk'⟩:=(h.seen i hp).1 hs
   rw[h.good h1 i k' hk',hk i k' k (by simp[hk']) (by simp)];simp
theorem PInv.fold:∀{r l:List (Nat×Int)} {s:PSt},PInv l s->(∀p∈r,p.1<8)->PInv (l++r) (r.foldl fN s)
 |[],l,s,h,_=>by simpa using h
 |p::r,l,s,h,hr=>by
  have:=PInv.fold (r:=r) (h.step (hr p (by simp))) fun q hq=>hr q (by simp[hq])
  simpa using this
theorem kinds_inv(q:LQuery):PInv (mR q) (eU q):=by
 have:=PInv.fold (r:=mR q) PInv.init paramsQ_lt
 rw[List.nil_append]at this;exact this
theorem kinds_bad{q:LQuery}:(eU q).2.1=false↔rQ (mR q):=by
 have h:=kinds_inv q
 refine⟨fun hb i k k' a b=>?_,h.bad⟩
 rw[<-h.good hb i k a,<-h.good hb i k' b]
structure ArgsOk(l:List (Nat×Int))(args:Rq):Prop where
 kinds:rQ l
 args:∀i k,(i,k)∈l->i<args.length/\(∀j x,j<=i->args[j]? =some x->lz x=true)/\(∀x,args[i]? =some x->k=0\/x.kind=k\/x.kind=0)
theorem args_ok{q:LQuery}(hb:(dz q).length<=10000000)(args:Rq):∃e,iz q args=some e/\(e=0↔ArgsOk (mR q) args):=by
 unfold iz;rw[kinds_ok hb,bPs];have h:=kinds_inv q;cases hbad:(eU q).2.1 with
 |true=>
  refine⟨13,by simp,?_⟩
  have:¬rQ (mR q):=fun hk=>by rw[kinds_bad.2 hk]at hbad;cases hbad
  exact⟨fun h=>by omega,fun h=>absurd h.kinds this⟩
 |false=>
  simp only[zd];have hk:=kinds_bad.1 hbad;by_cases hl:args.length<(eU q).1.length
  ·refine⟨1,by simp[hl],fun h=>by omega,fun ha=>?_⟩
   rcases h.last with h0|⟨k,hm⟩
   ·omega
   ·have:=(ha.args _ _ hm).1;omega
  ·have hge:(eU q).1.length<=args.length:=by omega
   have hstep:∀k x,(eU q).1[k]? =some x->∃y,args[k]? =some y:=fun k x hx=>by
    have:=(zg.1 hx).1
    exact⟨args[k],ze (by omega)⟩
   let okAt:Nat->Int->Prop:=fun k x=>∀y,args[k]? =some y->lz y=true/\(x=0\/y.kind=x\/y.kind=0)
   obtain⟨fl,hfl,hres⟩:=gv (step:=fun(j1:Nat) (x1:Int) (_:Unit)=>ae (aG args (j1:Int)) fun(x31:LVal)=>letP (lz x31) fun x33=>cond (!x33) (some (Flow.ret (σ:=Unit) (7:Int)))
     (cond (x1 !=(0:Int)) (ae (aG args (j1:Int)) fun(x41:LVal)=>cond (x41.kind !=x1) (ae (aG args (j1:Int)) fun(x50:LVal)=>cond (x50.kind !=(0:Int)) (some (.ret 7)) (some (.next ()))) (some (.next ()))) (some (.next ()))))
    (fun j _=>∀k x,k<j->(eU q).1[k]? =some x->okAt k x) (fun r=>r=7/\∃k x,(eU q).1[k]? =some x/\¬okAt k x) (eU q).1 0 () (fun k x hk=>by omega) (fun k x s hk hI=>by
     obtain⟨y,hy⟩:=hstep k x hk
     simp only[Nat.zero_add]at hI⊢;rw[jw hy];simp only[bPs,bV]
     have next:okAt k x->∀k' x',k'<k+1->(eU q).1[k']? =some x'->okAt k' x':=fun ho k' x' hk' hx'=>by
      by_cases he:k'=k
      ·subst he;rw[hk]at hx';cases hx';exact ho
      ·exact hI k' x' (by omega) hx'
     cases hv:lz y with
     |false=>exact⟨_,rfl,rfl,k,x,hk,fun ho=>by have:=(ho y hy).1;rw[hv]at this;cases this⟩
     |true=>
      simp only[Bool.not_true,zd];by_cases hx0:x=0
      ·refine⟨.next (),by simp[hx0],next fun z hz=>?_⟩
       rw[hy]at hz;cases hz;exact⟨hv,.inl hx0⟩
      ·have e0:(x !=(0:Int))=true:=by simpa using hx0
       rw[e0,zc];by_cases hyx:y.kind=x
       ·refine⟨.next (),by simp[hyx],next fun z hz=>?_⟩
        rw[hy]at hz;cases hz;exact⟨hv,.inr (.inl hyx)⟩
       ·have e1:(y.kind !=x)=true:=by simpa using hyx
        rw[e1,zc];by_cases hy0:y.kind=0
        ·refine⟨.next (),by simp[hy0],next fun z hz=>?_⟩
         rw[hy]at hz;cases hz;exact⟨hv,.inr (.inr hy0)⟩
        ·have e2:(y.kind !=(0:Int))=true:=by simpa using hy0
         refine⟨.ret 7,by simp[e2],rfl,k,x,hk,fun ho=>?_⟩
         rcases(ho y hy).2 with a|a|a
         ·exact hx0 a
         ·exact hyx a
         ·exact hy0 a)
   have e0:decide ((args.length:Int)<((eU q).1.length:Int))=false:=zf (by omega);simp only[bne_self_eq_false,zd,e0];rw[hfl,bPs]
   have hget:∀k,k<(eU q).1.length->(eU q).1[k]? =some ((eU q).1.getD k 0):=fun k hk=>by
    rw[List.getD_eq_getElem?_getD,ze hk];rfl
   cases fl with
   |brk s=>exact absurd hres (by simp)
   |next s=>
    refine⟨0,rfl,fun _=>⟨hk,fun i k hm=>?_⟩,fun _=>rfl⟩
    have hi:=h.len i k hm;simp only[Nat.zero_add]at hres
    refine⟨by omega,fun j x hj hx=>?_,fun x hx=>?_⟩
    ·exact((hres j _ (by omega) (hget j (by omega))) x hx).1
    ·have:=((hres i _ (by omega) (hget i (by omega))) x hx).2
     rwa [h.good hbad i k hm]at this
   |ret r=>
    obtain⟨rfl,k,x,hx,hno⟩:=hres
    refine⟨7,rfl,fun h=>by omega,fun ha=>absurd ?_ hno⟩
    intro y hy;have hkl:=(zg.1 hx).1;rcases h.last with h0|⟨k',hm⟩
    ·omega
    ·have hv:=(ha.args _ _ hm).2.1 k y (by omega) hy
     refine⟨hv,?_⟩
     by_cases hex:∃k2,(k,k2)∈mR q
     ·obtain⟨k2,hm2⟩:=hex
      have hg:=h.good hbad k k2 hm2
      have hxx:x=k2:=by
       rw[hget k hkl]at hx;rw[<-hg]
       exact(Option.some.inj hx).symm
      rw[hxx]
      exact(ha.args k k2 hm2).2.2 y hy
     ·left
      have:=h.zero k fun k2 hm2=>hex ⟨k2,hm2⟩
      rw[hget k hkl]at hx;rw[<-this]
      exact(Option.some.inj hx).symm
def Tot{α:Type}(o:Option α):Prop:=∃v,o=some v
theorem Tot.mk{α:Type}{v:α}:Tot (Option.some v):=⟨v,rfl⟩
theorem Tot.bind{α β:Type}{o:Option α}{k:α->Option β}(h:Tot o)(hk:∀v,o=some v->Tot (k v)):Tot (ae o k):=by
 obtain⟨v,hv⟩:=h
 rw[hv];exact hk v hv
theorem Tot.cond{α:Type}{b:Bool}{x y:Option α}(hx:b=true->Tot x)(hy:b=false->Tot y):Tot (cond b x y):=by
 cases b
 ·exact hy Z
 ·exact hx Z
theorem Tot.letP{α β:Type}{a:α}{k:α->Option β}(h:Tot (k a)):Tot (letP a k):=h
theorem Tot.get{α:Type}{xs:List α}{i:Int}(h0:0<=i)(h:i<xs.length):Tot (aG xs i):=by
 have:i.toNat<xs.length:=by omega
 exact⟨xs[i.toNat],lw h0 (ze this)⟩
theorem Tot.sub{α:Type}{xs:List α}{a b:Int}(h:0<=a/\a<=b/\b<=xs.length):Tot (nZ xs a b):=⟨_,rF h⟩
theorem Tot.range{α σ ρ:Type}{step:Nat->α->σ->Option (Flow σ ρ)}:∀(xs:List α) (j:Nat) (s:σ),(∀k x s,xs[k]? =some x->Tot (step (j+k) x s))->Tot (aU step j xs s)
 |[],_,s,_=>⟨.next s,rfl⟩
 |x::xs,j,s,h=>by
  obtain⟨fl,hfl⟩:=h 0 x s Z
  rw[Nat.add_zero]at hfl;rw[aU,hfl];cases fl with
  |next s'=>
   exact Tot.range xs (j+1) s' fun k y t hk=>by
    have:=h (k+1) y t (by simpa using hk)
    rwa [show j+(k+1)=j+1+k from by omega]at this
  |brk s'=>exact⟨_,rfl⟩
  |ret r=>exact⟨_,rfl⟩
theorem Tot.thenR{σ ρ:Type}{fl:Flow σ ρ}{k:σ->Option ρ}(h:∀s,(fl= .next s\/fl= .brk s)->Tot (k s)):Tot (fl.thenR k):=by
 cases fl with
 |next s=>exact h s (.inl Z)
 |brk s=>exact h s (.inr Z)
 |ret r=>exact⟨r,rfl⟩
theorem mt{a b:Int}(h:a≠b):(a !=b)=true:=by simpa using h
theorem pB{a b:Int}(h:a=b):(a !=b)=false:=by simp[h]
theorem dm{a b:Int}(h:a≠b):(a==b)=false:=by simpa using h
theorem ld{a b:Int}(h:a=b):(a==b)=true:=by simp[h]
theorem idxF{α:Type}{l:List α}{f:α->Option Bool}{p:α->Bool}(h:∀x∈l,f x=some (p x)):
  ae (aU (σ:=Unit) (ρ:=Int) (fun(j1:Nat) (x1:α) (_:Unit)=>ae (f x1) fun x16=>cond x16 (some (.ret (j1:Int))) (some (.next ()))) 0 l ()) (fun fl1=>fl1.thenR fun(_:Unit)=>some (-1))=some (br p l):=by
 rw[rg p (fun j _=>(j:Int)) l 0 (fun k x hk=>by
  rw[h x (ek hk),bPs];cases p x<;>simp)]
 unfold br;cases hf:l.findIdx? p with
 |none=>rfl
 |some i=>
  have hi:=(List.findIdx?_eq_some_iff_getElem.1 hf).1;simp only[ze hi];simp
theorem idxF2{α:Type}{l:List α}{p:α->Bool}:
  ae (aU (σ:=Unit) (ρ:=Int) (fun(j1:Nat) (x1:α) (_:Unit)=>cond (p x1) (some (.ret (j1:Int))) (some (.next ()))) 0 l ()) (fun fl1=>fl1.thenR fun(_:Unit)=>some (-1))=some (br p l):=idxF (f:=fun x=>some (p x)) fun _ _=>rfl
theorem idxOf_neg{α:Type}{p:α->Bool}{l:List α}:br p l=-1\/0<=br p l:=by
 unfold br;cases l.findIdx? p with
 |none=>exact .inl Z
 |some i=>exact .inr (by simp)
theorem ji{α:Type}{p:α->Bool}{l:List α}(h:0<=br p l):∃x,l[(br p l).toNat]? =some x/\p x=true:=by
 unfold br at h⊢;cases hf:l.findIdx? p with
 |none=>rw[hf]at h;simp at h
 |some i=>
  obtain⟨hi,hp,_⟩:=List.findIdx?_eq_some_iff_getElem.1 hf
  exact⟨l[i],by simp[hi],hp⟩
theorem qH(l:List LTable)(p:LTable->Bool):cI l (fun a=>some (p a))=some (br p l):=idxF fun _ _=>rfl
theorem sC(l:List LCol)(p:LCol->Bool):bO l (fun a=>some (p a))=some (br p l):=idxF fun _ _=>rfl
theorem oq(s:LSchema)(name:Rb):dZ s name=some (ew 0 (br (fun t=>cE t name) s.tables),decide (br (fun t=>cE t name) s.tables>=0)):=by
 unfold dZ;rw[qH,bPs];congr 2;unfold ew;split<;>split<;>omega
theorem findColumn_eq(t:LTable)(name:Rb):io t name=some (ew 0 (br (fun c=>eY c name) t.columns),decide (br (fun c=>eY c name) t.columns>=0)):=by
 unfold io;rw[sC,bPs];congr 2;unfold ew;split<;>split<;>omega
theorem oZ{n:Int}(h:0<=n):ew 0 n=n:=by unfold ew;split<;>omega
theorem sG(s:Rb):Tot (gL s):=by
 unfold gL;refine Tot.bind ?_ fun b hb=>?_
 ·refine Tot.cond (fun _=>Tot.mk) fun h1=>?_
  refine Tot.cond (fun _=>Tot.mk) fun h2=>?_
  have h1:=of_decide_eq_false h1;refine Tot.bind (Tot.get (by decide) (by omega)) fun x _=>?_
  refine Tot.cond (fun _=>?_) fun _=>Tot.mk
  exact Tot.bind (Tot.get (by decide) (by omega)) fun x _=>Tot.mk
 ·refine Tot.cond (fun _=>Tot.mk) fun h=>?_
  subst h
  have hl:(s.length:Int)<=12:=by
   by_cases h1:(s.length:Int)<1
   ·omega
   ·by_cases h2:(s.length:Int)>12
    ·rw[zf h1,zt h2]at hb;simp at hb
    ·omega
  refine Tot.bind ⟨(),el (by omega)⟩ fun _ _=>?_
  refine Tot.bind (Tot.range _ _ _ fun k x _ _=>?_) fun fl _=>Tot.thenR fun _ _=>Tot.mk
  repeat' first|exact Tot.mk|refine Tot.cond (fun _=>?_) (fun _=>?_)
structure TableOk(t:LTable):Prop where
 pk:∀x∈t.primaryKey,0<=x/\x<t.columns.length
 six:t.columns.length<=6
 nn:∀(k:Nat) (x:Int),t.primaryKey[k]? =some x->(k:Int)<=x/\∀c,t.columns[x.toNat]? =some c->c.nullable=false
theorem TableOk.few{t:LTable}(h:TableOk t):t.primaryKey.length<=6:=by
 by_cases hc:t.primaryKey.length<=6
 ·exact hc
 ·have h6:t.primaryKey[6]? =some t.primaryKey[6]:=ze (by omega);have h1:=(h.nn 6 _ h6).1;have h2:=h.pk _ (List.mem_of_getElem? h6);have h3:=h.six;omega
theorem validTable(t:LTable)(hsm:t.primaryKey.length<=2^60):∃e,gp t=some e/\(e=0->TableOk t):=by
 unfold gp
 obtain⟨b,hb⟩:=sG t.name
 rw[hb,bPs];cases b with
 |false=>exact⟨23,rfl,fun h=>by omega⟩
 |true=>
  simp only[Bool.not_true,zd];by_cases h0:(t.columns.length:Int)=0
  ·exact⟨3,by simp[h0],fun h=>by omega⟩
  by_cases h6:(t.columns.length:Int)>6
  ·have:((t.columns.length:Int)==0)=false:=by simpa using h0
   exact⟨2,by rw[this];simp[h6],fun h=>by omega⟩
  have e0:((t.columns.length:Int)==0)=false:=by simpa using h0
  rw[e0,zf h6];simp only[zd]
  obtain⟨fl,hfl,hr⟩:=gv (step:=fun(j1:Nat) (x1:LCol) (_:Unit)=>
    ae (gL x1.name) fun x31=>cond (!x31) (some (Flow.ret (σ:=Unit) (23:Int)))
     (ae (io t x1.name) fun x37=>cond (decide (x37.1<(j1:Int))) (some (.ret 5)) (cond (decide (x1.kind<(1:Int))) (some (.ret 7)) (cond (decide (x1.kind>(3:Int))) (some (.ret 7)) (some (.next ())))))) (fun _ _=>True) (fun r=>r≠0) t.columns 0 () trivial (fun k x s hk _=>by
    obtain⟨b,hb⟩:=sG x.name
    rw[hb,bPs,findColumn_eq,bPs];cases b with
    |false=>exact⟨_,rfl,by simp⟩
    |true=>
     simp only[Bool.not_true,zd];by_cases a1:ew 0 (br (fun c=>eY c x.name) t.columns)<((0+k:Nat):Int)
     ·exact⟨.ret 5,by rw[zt a1];rfl,by simp⟩
     ·rw[zf a1];by_cases a2:x.kind<1
      ·exact⟨.ret 7,by rw[zt a2];rfl,by simp⟩
      ·rw[zf a2];by_cases a3:x.kind>3
       ·exact⟨.ret 7,by rw[zt a3];rfl,by simp⟩
       ·exact⟨.next (),by rw[zf a3];rfl,trivial⟩)
  rw[hfl,bPs];cases fl with
  |brk s=>exact absurd hr (by simp)
  |ret r=>exact⟨r,rfl,fun h=>absurd h hr⟩
  |next s=>
   rw[kg]
   obtain⟨fl,hfl,hr⟩:=gv (step:=fun(j2:Nat) (x2:Int) (_:Unit)=>
     cond (decide (x2<(0:Int))) (some (Flow.ret (σ:=Unit) (9:Int))) (cond (decide (x2>=(t.columns.length:Int))) (some (.ret 9))
      (ae (aG t.columns x2) fun(x73:LCol)=>cond x73.nullable (some (.ret 9)) (cond (decide ((j2:Int)>(0:Int)))
       (ae (aG t.primaryKey (iw ((j2:Int)-(1:Int)))) fun(x86:Int)=>cond (decide (x2<=x86)) (some (.ret 9)) (some (.next ()))) (some (.next ())))))) (fun j _=>∀(k:Nat) (x:Int),k<j->t.primaryKey[k]? =some x->(0<=x/\x<t.columns.length)/\(k:Int)<=x/\∀c,t.columns[x.toNat]? =some c->c.nullable=false) (fun r=>r≠0) t.primaryKey 0 () (fun k x h=>by omega) (fun k x s hk hI=>by
     simp only[Nat.zero_add]at hI⊢;by_cases a1:x<0
     ·exact⟨.ret 9,by rw[zt a1];rfl,by simp⟩
     rw[zf a1];by_cases a2:x>=(t.columns.length:Int)
     ·exact⟨.ret 9,by rw[zt a2];rfl,by simp⟩
     rw[zf a2];simp only[zd]
     obtain⟨c,hc⟩:=Tot.get (xs:=t.columns) (i:=x) (by omega) (by omega)
     rw[hc,bPs]
     have next:c.nullable=false->(k:Int)<=x->∀(k':Nat) (x':Int),k'<k+1->t.primaryKey[k']? =some x'->(0<=x'/\x'<t.columns.length)/\(k':Int)<=x'/\∀c,t.columns[x'.toNat]? =some c->c.nullable=false:=fun hn hkx k' x' h1 h2=>by
      by_cases he:k'=k
      ·subst he;rw[hk]at h2;cases h2;exact⟨by omega,hkx,fun c' hc'=>by rw[(gIs hc).2]at hc';cases hc';exact hn⟩
      ·exact hI k' x' (by omega) h2
     cases hn:c.nullable with
     |true=>exact⟨_,rfl,by simp⟩
     |false=>
      simp only[zd];by_cases a3:(k:Int)>0
      ·rw[zt a3];have hkl:=(zg.1 hk).1;rw[wW (by omega) (by omega)]
       obtain⟨y,hy⟩:=Tot.get (xs:=t.primaryKey) (i:=(k:Int)-1) (by omega) (by omega)
       rw[zc,hy,bPs];by_cases a4:x<=y
       ·exact⟨.ret 9,by rw[zt a4];rfl,by simp⟩
       ·refine⟨.next (),by rw[zf a4];rfl,next hn ?_⟩
        have hy2:=(gIs hy).2;rw[show((k:Int)-1).toNat=k-1 from by omega]at hy2
        have:=(hI (k-1) y (by omega) hy2).2.1
        omega
      ·exact⟨.next (),by rw[zf a3];rfl,next hn (by omega)⟩)
   rw[hfl,bPs];cases fl with
   |brk s=>exact absurd hr (by simp)
   |ret r=>exact⟨r,rfl,fun h=>absurd h hr⟩
   |next s=>
    rw[kg];simp only[Nat.zero_add]at hr;by_cases hp:(t.primaryKey.length:Int)=0
    ·exact⟨9,by simp[hp],fun h=>by omega⟩
    ·have:((t.primaryKey.length:Int)==0)=false:=by simpa using hp
     refine⟨0,by rw[this];rfl,fun _=>⟨fun x hx=>?_,by omega,fun k x hk=>(hr k x (zg.1 hk).1 hk).2⟩⟩
     obtain⟨k,hk,rfl⟩:=List.mem_iff_getElem.1 hx
     exact(hr k _ hk (ze hk)).1
theorem fI{α:Type}{xs:List α}{k:Nat}(h:k<xs.length):aG xs (k:Int)=some xs[k]:=jw (ze h)
theorem foreignKey_tot{s:LSchema}(hs:∀t∈s.tables,TableOk t)(fk:LForeignKey):Tot (fP s fk):=by
 unfold fP;rw[oq,oq];simp only[bPs,bV];generalize hi:br (fun t=>cE t fk.table) s.tables=i;generalize hj:br (fun t=>cE t fk.refTable) s.tables=j;by_cases h1:i>=0
 ·by_cases h2:j>=0
  ·rw[zt h1,zt h2];simp only[Bool.not_true,zd];rw[oZ h1,oZ h2]
   obtain⟨t,ht,_⟩:=ji (hi▸h1)
   obtain⟨u,hu,_⟩:=ji (hj▸h2)
   rw[hi]at ht;rw[hj]at hu;rw[lw h1 ht,lw h2 hu];simp only[bPs];refine Tot.cond (fun _=>Tot.mk) fun hl=>?_
   have hl:fk.columns.length=u.primaryKey.length:=by
    by_cases h:(fk.columns.length:Int)=(u.primaryKey.length:Int)
    ·omega
    ·simp[h]at hl
   refine Tot.bind (Tot.range _ _ _ fun k x st hk=>?_) fun fl _=>Tot.thenR fun _ _=>Tot.mk
   have hkl:=(zg.1 hk).1;by_cases a1:x<0
   ·rw[zt a1];exact Tot.mk
   ·rw[zf a1];by_cases a2:x>=(t.columns.length:Int)
    ·rw[zt a2];exact Tot.mk
    ·rw[zf a2];simp only[zd]
     obtain⟨c,hc⟩:=Tot.get (xs:=t.columns) (i:=x) (by omega) (by omega)
     rw[hc,bPs,Nat.zero_add,fI (by omega),bPs];have hp:=(hs u (ek hu)).pk u.primaryKey[k] (List.getElem_mem _)
     obtain⟨d,hd⟩:=Tot.get (xs:=u.columns) (i:=u.primaryKey[k]) hp.1 hp.2
     rw[hd,bPs];exact Tot.cond (fun _=>Tot.mk) fun _=>Tot.mk
  ·rw[zf h2];simp only[Bool.not_false];cases decide (i>=0)<;>exact Tot.mk
 ·rw[zf h1];exact Tot.mk
theorem constraint_tot(s:LSchema)(c:LConstraint):Tot (fQ s c):=by
 unfold fQ;rw[oq];simp only[bPs,bV];generalize hi:br (fun t=>cE t c.table) s.tables=i;by_cases h1:i>=0
 ·rw[zt h1];simp only[Bool.not_true,zd];rw[oZ h1]
  obtain⟨t,ht,_⟩:=ji (hi▸h1)
  rw[hi]at ht;rw[lw h1 ht,bPs];refine Tot.cond (fun _=>Tot.mk) fun hl=>?_
  by_cases a1:c.left<0
  ·rw[zt a1]at hl;cases hl
  rw[zf a1,zd]at hl;by_cases a2:c.left>=(t.columns.length:Int)
  ·rw[zt a2]at hl;cases hl
  rw[zf a2,zd]at hl
  obtain⟨x,hx⟩:=Tot.get (xs:=t.columns) (i:=c.left) (by omega) (by omega)
  rw[hx];refine Tot.cond (fun a3=>?_) fun _=>?_
  ·have a3:=of_decide_eq_true a3
   have a4:c.right<(t.columns.length:Int):=by
    rcases Int.lt_or_le c.right (t.columns.length:Int)with h|h
    ·exact h
    ·have e:decide (c.right>=(t.columns.length:Int))=true:=zt h;rw[e]at hl;revert hl
     cases((jf (LVal.mk 0 0 []) c.op (LVal.mk 0 0 [])).2 !=0)<;>cases decide (c.right< -1)<;>simp
   obtain⟨y,hy⟩:=Tot.get (xs:=t.columns) (i:=c.right) a3 a4
   rw[hy];simp only[bPs];exact Tot.cond (fun _=>Tot.mk) fun _=>Tot.mk
  ·rw[bPs];exact Tot.cond (fun _=>Tot.mk) fun _=>Tot.mk
 ·rw[zf h1];exact Tot.mk
theorem equalInts_tot(a b:List Int):Tot (hO a b):=by
 unfold hO;refine Tot.cond (fun _=>Tot.mk) fun h=>?_
 have h:a.length=b.length:=by
  by_cases h':(a.length:Int)=(b.length:Int)
  ·omega
  ·simp[h']at h
 refine Tot.bind (Tot.range _ _ _ fun k x s hk=>?_) fun fl _=>Tot.thenR fun _ _=>Tot.mk
 have hkl:=(zg.1 hk).1;rw[Nat.zero_add,fI (by omega),bPs];exact Tot.cond (fun _=>Tot.mk) fun _=>Tot.mk
theorem fkIn_tot(l:List LForeignKey)(x:LForeignKey):Tot (cJ l (fun a0=>iq a0 x)):=by
 unfold cJ dH;refine Tot.bind (Tot.bind (Tot.range _ _ _ fun k y s hk=>?_) fun fl _=>Tot.thenR fun _ _=>Tot.mk) fun _ _=>Tot.mk
 refine Tot.bind ?_ fun _ _=>Tot.cond (fun _=>Tot.mk) fun _=>Tot.mk
 unfold iq;refine Tot.bind ?_ fun _ _=>Tot.mk
 unfold iL;refine Tot.cond (fun _=>Tot.bind (equalInts_tot _ _) fun _ _=>Tot.cond (fun _=>Tot.mk) fun _=>Tot.mk) fun _=>Tot.mk
theorem csIn_tot(l:List LConstraint)(x:LConstraint):Tot (cY l x):=by
 unfold cY dQ;refine Tot.bind (Tot.bind (Tot.range _ _ _ fun k y s hk=>?_) fun fl _=>Tot.thenR fun _ _=>Tot.mk) fun _ _=>Tot.mk
 exact Tot.cond (fun _=>Tot.mk) fun _=>Tot.mk
def SmallS(s:LSchema):Prop:=∀t∈s.tables,t.primaryKey.length<=10000000
theorem validate_inv{s:LSchema}(hsm:∀t∈s.tables,t.primaryKey.length<=2^60):∃e,gw s=some e/\(e=0->s.tables.length<=6/\∀t∈s.tables,TableOk t):=by
 unfold gw;rw[bV];cases ht:(cond (decide ((s.tables.length:Int)>(6:Int))) true (cond (decide ((s.foreignKeys.length:Int)>(8:Int))) true (decide ((s.constraints.length:Int)>(8:Int)))))with
 |true=>exact⟨2,rfl,fun h=>by omega⟩
 |false=>
 rw[zd]
 have h6:s.tables.length<=6:=by
  by_cases h:(s.tables.length:Int)>6
  ·rw[zt h]at ht;cases ht
  ·omega
 obtain⟨fl,hfl,hr⟩:=gv (step:=fun(j2:Nat) (x2:LTable) (_:Unit)=>
   ae (gp x2) fun x37=>cond (x37 !=(0:Int)) (some (Flow.ret (σ:=Unit) x37)) (cond (decide ((j2:Int)>(0:Int)))
     (ae (aG s.tables (iw ((j2:Int)-(1:Int)))) fun(x50:LTable)=>cond (Op.bytesLess x2.name x50.name||x2.name==x50.name) (some (.ret 6)) (some (.next ()))) (some (.next ())))) (fun j _=>∀k x,k<j->s.tables[k]? =some x->TableOk x) (fun r=>r≠0) s.tables 0 () (fun k x h=>by omega) (fun k x st hk hI=>by
    simp only[Nat.zero_add]at hI⊢
    obtain⟨e,he,hok⟩:=validTable x (hsm x (ek hk))
    rw[he,bPs];by_cases h0:e=0
    ·have next:∀k' x',k'<k+1->s.tables[k']? =some x'->TableOk x':=fun k' x' h1 h2=>by
      by_cases heq:k'=k
      ·subst heq;rw[hk]at h2;cases h2;exact hok h0
      ·exact hI k' x' (by omega) h2
     rw[show(e !=(0:Int))=false from by simp[h0],zd];by_cases a3:(k:Int)>0
     ·have hkl:=(zg.1 hk).1;rw[zt a3,wW (by omega) (by omega)]
      obtain⟨y,hy⟩:=Tot.get (xs:=s.tables) (i:=(k:Int)-1) (by omega) (by omega)
      rw[zc,hy,bPs]
      cases(Op.bytesLess x.name y.name||x.name==y.name)with
      |true=>exact⟨.ret 6,rfl,by simp⟩
      |false=>exact⟨.next (),rfl,next⟩
     ·exact⟨.next (),by rw[zf a3];rfl,next⟩
    ·exact⟨.ret e,by rw[show(e !=(0:Int))=true from by simp[h0]];rfl,h0⟩)
 rw[hfl,bPs];cases fl with
 |brk s=>exact absurd hr (by simp)
 |ret r=>exact⟨r,rfl,fun h=>absurd h hr⟩
 |next u=>
  rw[kg];simp only[Nat.zero_add]at hr
  have hok:∀t∈s.tables,TableOk t:=fun t ht=>by
   obtain⟨k,hk,rfl⟩:=List.mem_iff_getElem.1 ht
   exact hr k _ hk (ze hk)
  refine(show∀{o:Option Int},Tot o->∃e,o=some e/\(e=0->s.tables.length<=6/\∀t∈s.tables,TableOk t)from fun⟨e,h⟩=>⟨e,h,fun _=>⟨h6,hok⟩⟩) ?_
  refine Tot.bind (Tot.range _ _ _ fun k x st hk=>?_) fun fl _=>Tot.thenR fun _ _=>?_
  ·refine Tot.bind (foreignKey_tot hok x) fun e _=>Tot.cond (fun _=>Tot.mk) fun _=>?_
   have hkl:=(zg.1 hk).1;refine Tot.bind (Tot.sub ⟨by omega,by omega,by omega⟩) fun l _=>?_
   exact Tot.bind (fkIn_tot l x) fun _ _=>Tot.cond (fun _=>Tot.mk) fun _=>Tot.mk
  ·refine Tot.bind (Tot.range _ _ _ fun k x st hk=>?_) fun fl _=>Tot.thenR fun _ _=>Tot.mk
   refine Tot.bind (constraint_tot s x) fun e _=>Tot.cond (fun _=>Tot.mk) fun _=>?_
   have hkl:=(zg.1 hk).1;refine Tot.bind (Tot.sub ⟨by omega,by omega,by omega⟩) fun l _=>?_
   exact Tot.bind (csIn_tot l x) fun _ _=>Tot.cond (fun _=>Tot.mk) fun _=>Tot.mk
def rL(cols:List LCol)(row:Rq):Prop:=row.length=cols.length/\∀(i:Nat) (c:LCol) (x:LVal),cols[i]? =some c->row[i]? =some x->FitsK x c.kind c.nullable
theorem validate_valid{v:LVal}(h:dS v=0):lz v=true:=by
 obtain⟨k,n,t⟩:=v
 unfold dS letP at h;unfold lz;by_cases k0:k=0
 ·subst k0;by_cases hn:n=0
  ·subst hn;cases t with
   |nil=>rfl
   |cons c t=>simp at h
  ·simp[mt hn]at h
 ·have e0:(k==(0:Int))=false:=by simpa using k0
  simp only[e0,zd]at h;by_cases k1:k=1
  ·subst k1;cases t with
   |cons c t=>simp at h
   |nil=>
    by_cases a:n< -1000000000000
    ·simp[a]at h
    ·by_cases b:n>1000000000000
     ·simp[a,b]at h
     ·simp;omega
  ·by_cases k2:k=2
   ·subst k2;cases t with
    |cons c t=>simp at h
    |nil=>
     by_cases a:n=0
     ·simp[a]
     ·by_cases b:n=1
      ·simp[b]
      ·simp[mt a,mt b]at h
   ·by_cases k3:k=3
    ·subst k3;by_cases a:n=0
     ·subst a;by_cases b:(t.length:Int)>24
      ·simp[b]at h
      ·simp;omega
     ·simp[mt a]at h
    ·have e1:(k==(1:Int))=false:=by simpa using k1
     have e2:(k==(2:Int))=false:=by simpa using k2
     have e3:(k==(3:Int))=false:=by simpa using k3
     simp[e1,e2,e3]at h
theorem uq(t:LTable)(row:Rq):∃e,eJ t row=some e/\(e=0->rL t.columns row):=by
 unfold eJ;by_cases hl:(row.length:Int)=(t.columns.length:Int)
 ·have hl':row.length=t.columns.length:=by omega
  rw[show((row.length:Int) !=(t.columns.length:Int))=false from by simp[hl],zd]
  obtain⟨fl,hfl,hr⟩:=gv (step:=fun(j1:Nat) (x1:LVal) (_:Unit)=>letP (dS x1) fun x22=>cond (x22 !=(0:Int)) (some (Flow.ret (σ:=Unit) x22))
    (ae (cond (x1.kind==(0:Int)) (ae (aG t.columns (j1:Int)) fun(x33:LCol)=>some (!x33.nullable)) (some false)) fun(t3:Bool)=>cond t3 (some (.ret 8))
     (cond (x1.kind !=(0:Int)) (ae (aG t.columns (j1:Int)) fun(x47:LCol)=>cond (x1.kind !=x47.kind) (some (.ret 7)) (some (.next ()))) (some (.next ())))))
   (fun j _=>∀(k:Nat) (c:LCol) (x:LVal),k<j->t.columns[k]? =some c->row[k]? =some x->FitsK x c.kind c.nullable) (fun r=>r≠0) row 0 () (fun k c x h=>by omega) (fun k x st hk hI=>by
    simp only[Nat.zero_add]at hI⊢;have hkl:=(zg.1 hk).1;rw[bV,fI (xs:=t.columns) (by omega)];by_cases hv:dS x=0
    ·rw[show(dS x !=(0:Int))=false from by simp[hv],zd];have hvv:=validate_valid hv
     have next:FitsK x t.columns[k].kind t.columns[k].nullable->∀(k':Nat) (c:LCol) (x':LVal),k'<k+1->t.columns[k']? =some c->row[k']? =some x'->FitsK x' c.kind c.nullable:=fun hf k' c x' h1 h2 h3=>by
      by_cases heq:k'=k
      ·subst heq;rw[hk]at h3;rw[ze (by omega)]at h2;cases h2;cases h3;exact hf
      ·exact hI k' c x' (by omega) h2 h3
     by_cases hx:x.kind=0
     ·rw[show(x.kind==(0:Int))=true from by simp[hx],zc,bPs,bPs];cases hn:t.columns[k].nullable with
      |false=>exact⟨.ret 8,rfl,by simp⟩
      |true=>exact⟨.next (),by simp[hx],next ⟨hvv,.inr hx,fun _=>hn⟩⟩
     ·rw[show(x.kind==(0:Int))=false from by simp[hx],zd,bPs,zd,show(x.kind !=(0:Int))=true from by simp[hx],zc,bPs];by_cases hk':x.kind=t.columns[k].kind
      ·exact⟨.next (),by rw[pB hk'];rfl,next ⟨hvv,.inl hk',fun h=>absurd h hx⟩⟩
      ·exact⟨.ret 7,by rw[mt hk'];rfl,by simp⟩
    ·exact⟨.ret (dS x),by rw[show(dS x !=(0:Int))=true from by simp[hv]];rfl,hv⟩)
  rw[hfl,bPs];cases fl with
  |brk s=>exact absurd hr (by simp)
  |ret r=>exact⟨r,rfl,fun h=>absurd h hr⟩
  |next s=>
   simp only[Nat.zero_add]at hr
   exact⟨0,rfl,fun _=>⟨hl',fun i c x hc hx=>hr i c x (zg.1 hx).1 hc hx⟩⟩
 ·exact⟨3,by rw[show((row.length:Int) !=(t.columns.length:Int))=true from by simp[hl]];rfl,fun h=>by omega⟩
theorem tL(t:LTable)(row:Rq)(hsm:t.primaryKey.length<=10000000):∃k,dA t row=some k/\k.length=t.primaryKey.length:=by
 unfold dA
 obtain⟨fl,hfl,hr⟩:=gv (step:=fun(_:Nat) (x1:Int) (s1:Rq)=>
  letP (cond (decide (x1>=(0:Int))) ((decide (x1<(row.length:Int)))) (false)) fun(t6:Bool)=>
  ae (cond t6 (ae (aG row x1) fun(x27:LVal)=>some x27) (some (LVal.mk 0 0 []))) fun(t7:LVal)=>
  ae (dq 32 s1 ([t7]:Rq)) fun(x32:Rq)=>some (Flow.next (ρ:=Empty) x32)) (fun j s=>s.length=j) (fun _=>False) t.primaryKey 0 ([]:Rq) Z (fun k x s hk hI=>by
   have hI:s.length=k:=by simpa using hI
   have hkl:=(zg.1 hk).1;rw[bV]
   have ht:∃v,(cond (cond (decide (x>=(0:Int))) ((decide (x<(row.length:Int)))) (false)) (ae (aG row x) fun(x27:LVal)=>some x27) (some (LVal.mk 0 0 [])))=some v:=by
    refine Tot.cond (fun h=>?_) fun _=>Tot.mk
    by_cases h0:x>=0
    ·rw[zt h0]at h;exact Tot.bind (Tot.get h0 (of_decide_eq_true h)) fun _ _=>Tot.mk
    ·rw[zf h0]at h;cases h
   obtain⟨v,hv⟩:=ht
   rw[hv,bPs,cd (by decide) (by simp;omega),bPs]
   exact⟨_,rfl,by simp[hI]⟩)
 rw[hfl,bPs];cases fl with
 |brk s=>exact absurd hr (by simp)
 |ret r=>exact r.elim
 |next s=>exact⟨s,rfl,by simpa using hr⟩
theorem qP(a b:Rq)(ha:a.length<=10000000):Tot (dO a b):=by
 unfold dO
 have hm:∃n:Nat,(if(b.length:Int)<(a.length:Int)then(b.length:Int)else(a.length:Int))=(n:Int)/\n<=a.length/\n<=b.length:=by
  split
  ·exact⟨b.length,rfl,by omega,by omega⟩
  ·exact⟨a.length,rfl,by omega,by omega⟩
 obtain⟨n,hn,h1,h2⟩:=hm
 rw[hn,pw (by omega),bPs];refine Tot.bind (Tot.range _ _ _ fun k x s hk=>?_) fun fl _=>Tot.thenR fun _ _=>Tot.mk
 have hkl:=(zg.1 hk).1;simp at hkl;rw[Nat.zero_add,fI (by omega),fI (by omega)];simp only[bPs,bV];exact Tot.cond (fun _=>Tot.mk) fun _=>Tot.mk
def KeyOrd(t:LTable)(rows:Rz):Prop:=∀(i:Nat) (p row:Rq),rows[i]? =some p->rows[i+1]? =some row->∃k1 k2 z,dA t p=some k1/\dA t row=some k2/\dO k1 k2=some z/\z<0
structure InstOk(s:LSchema)(st:List LRelation):Prop where
 len:st.length=s.tables.length
 ord:∀(i:Nat) (r:LRelation) (t:LTable),st[i]? =some r->s.tables[i]? =some t->KeyOrd t r.rows
 tab:∀(i:Nat) (r:LRelation) (t:LTable),st[i]? =some r->s.tables[i]? =some t->r.table=t.name/\r.rows.length<=24/\∀row∈r.rows,rL t.columns row
theorem conforms{s:LSchema}(hsm:SmallS s)(st:List LRelation):∃e,eR s st=some e/\(e=0->InstOk s st):=by
 unfold eR;by_cases hl:(st.length:Int)=(s.tables.length:Int)
 ·have hl':st.length=s.tables.length:=by omega
  rw[show((st.length:Int) !=(s.tables.length:Int))=false from by simp[hl],zd]
  let good:LRelation->LTable->Prop:=fun r t=>(r.table=t.name/\r.rows.length<=24/\∀row∈r.rows,rL t.columns row)/\KeyOrd t r.rows
  obtain⟨fl,hfl,hr⟩:=gv (step:=fun(j1:Nat) (x1:LRelation) (_:Unit)=>
   ae (aG s.tables (j1:Int)) fun(x28:LTable)=>
   cond (!(x1.table==x28.name)) (some (Flow.ret (σ:=Unit) (3:Int))) (cond (decide ((x1.rows.length:Int)>(24:Int))) (some (.ret 2))
     (ae (aU (σ:=Unit) (ρ:=(Int)) (fun(j3:Nat) (x3:Rq) (_:Unit)=>
      ae (eJ x28 x3) fun x49=>cond (x49 !=(0:Int)) (some (.ret x49)) (cond ((j3:Int)==(0:Int)) (some (.next ()))
        (ae (aG x1.rows (iw ((j3:Int)-(1:Int)))) fun(x60:Rq)=>ae (dA x28 x60) fun x62=>ae (dA x28 x3) fun x65=>ae (dO x62 x65) fun x66=>
        cond (x66==(0:Int)) (some (.ret 9)) (cond (decide (x66>(0:Int))) (some (.ret 6)) (some (.next ())))))) 0 x1.rows ()) fun fl3=>fl3.thenF fun(_:Unit)=>some (.next ()))))
   (fun j _=>∀(k:Nat) (r:LRelation) (t:LTable),k<j->st[k]? =some r->s.tables[k]? =some t->good r t) (fun r=>r≠0) st 0 () (fun k r t h=>by omega) (fun k r u hk hI=>by
    simp only[Nat.zero_add]at hI⊢;have hkl:=(zg.1 hk).1;have hkt:k<s.tables.length:=by omega
    rw[fI hkt,bPs];by_cases hn:r.table=s.tables[k].name
    ·rw[show(!(r.table==s.tables[k].name))=false from by simp[hn],zd];by_cases h24:(r.rows.length:Int)>24
     ·exact⟨.ret 2,by rw[zt h24];rfl,by simp⟩
     ·rw[zf h24,zd];have hsk:=hsm s.tables[k] (List.getElem_mem _)
      obtain⟨fl,hfl,hr⟩:=gv (step:=fun(j3:Nat) (x3:Rq) (_:Unit)=>
       ae (eJ s.tables[k] x3) fun x49=>cond (x49 !=(0:Int)) (some (Flow.ret (σ:=Unit) x49)) (cond ((j3:Int)==(0:Int)) (some (.next ()))
        (ae (aG r.rows (iw ((j3:Int)-(1:Int)))) fun(x60:Rq)=>ae (dA s.tables[k] x60) fun x62=>ae (dA s.tables[k] x3) fun x65=>ae (dO x62 x65) fun x66=>
        cond (x66==(0:Int)) (some (.ret 9)) (cond (decide (x66>(0:Int))) (some (.ret 6)) (some (.next ())))))) (fun j _=>(∀i row,i<j->r.rows[i]? =some row->rL s.tables[k].columns row)/\∀(i:Nat) (p row:Rq),i+1<j->r.rows[i]? =some p->r.rows[i+1]? =some row->∃k1 k2 z,dA s.tables[k] p=some k1/\dA s.tables[k] row=some k2/\dO k1 k2=some z/\z<0) (fun r=>r≠0) r.rows 0 () ⟨fun i row h=>by omega,fun i p row h=>by omega⟩ (fun i row u hi hI2=>by
        simp only[Nat.zero_add]at hI2⊢;have hil:=(zg.1 hi).1
        obtain⟨e,he,hok⟩:=uq s.tables[k] row
        rw[he,bPs];by_cases h0:e=0
        ·rw[show(e !=(0:Int))=false from by simp[h0],zd]
         have next:∀i' row',i'<i+1->r.rows[i']? =some row'->rL s.tables[k].columns row':=fun i' row' h1 h2=>by
          by_cases heq:i'=i
          ·subst heq;rw[hi]at h2;cases h2;exact hok h0
          ·exact hI2.1 i' row' (by omega) h2
         by_cases hi0:i=0
         ·exact⟨.next (),by simp[hi0],next,fun i' p row' h1=>by omega⟩
         ·rw[show((i:Int)==(0:Int))=false from by simp;omega,zd,wW (by omega) (by omega)]
          obtain⟨p,hp⟩:=Tot.get (xs:=r.rows) (i:=(i:Int)-1) (by omega) (by omega)
          obtain⟨k1,hk1,hl1⟩:=tL s.tables[k] p hsk
          obtain⟨k2,hk2,_⟩:=tL s.tables[k] row hsk
          obtain⟨z,hz⟩:=qP k1 k2 (by omega)
          rw[hp,bPs,hk1,bPs,hk2,bPs,hz,bPs];by_cases z0:z=0
          ·exact⟨.ret 9,by rw[ld z0];rfl,by simp⟩
          ·by_cases z1:z>0
           ·exact⟨.ret 6,by rw[dm z0,zt z1];rfl,by simp⟩
           ·refine⟨.next (),by rw[dm z0,zf z1];rfl,next,fun i' p' row' h1 h2 h3=>?_⟩
            by_cases heq:i'+1=i
            ·subst heq;rw[hi]at h3;cases h3;have hp':=(gIs hp).2;rw[show(((i'+1:Nat):Int)-1).toNat=i' from by omega,h2]at hp';cases hp'
             exact⟨k1,k2,z,hk1,hk2,hz,by omega⟩
            ·exact hI2.2 i' p' row' (by omega) h2 h3
        ·exact⟨.ret e,by rw[show(e !=(0:Int))=true from by simp[h0]];rfl,h0⟩)
      rw[hfl,bPs];cases fl with
      |brk s=>exact absurd hr (by simp)
      |ret e=>exact⟨.ret e,rfl,hr⟩
      |next s'=>
       simp only[Nat.zero_add]at hr
       refine⟨.next (),rfl,fun k' r' t' h1 h2 h3=>?_⟩
       by_cases heq:k'=k
       ·subst heq;rw[hk]at h2;rw[ze hkt]at h3;cases h2;cases h3
        refine⟨⟨hn,by omega,fun row hrow=>?_⟩,fun i p row h2 h3=>hr.2 i p row (zg.1 h3).1 h2 h3⟩
        obtain⟨i,hi,rfl⟩:=List.mem_iff_getElem.1 hrow
        exact hr.1 i _ hi (ze hi)
       ·exact hI k' r' t' (by omega) h2 h3
    ·exact⟨.ret 3,by rw[show(!(r.table==s.tables[k].name))=true from by simp[hn]];rfl,by simp⟩)
  rw[hfl,bPs];cases fl with
  |brk s=>exact absurd hr (by simp)
  |ret r=>exact⟨r,rfl,fun h=>absurd h hr⟩
  |next u=>
   simp only[Nat.zero_add]at hr
   exact⟨0,rfl,fun _=>⟨hl',fun i r t h1 h2=>(hr i r t (zg.1 h1).1 h1 h2).2,fun i r t h1 h2=>(hr i r t (zg.1 h1).1 h1 h2).1⟩⟩
 ·exact⟨3,by rw[show((st.length:Int) !=(s.tables.length:Int))=true from by simp[hl]];rfl,fun h=>by omega⟩
theorem tH(l:List Int)(v:Int):ez l v=some (l.any fun x=>v==x):=by
 unfold ez jp;rw[idxF2 (p:=fun x=>v==x),bPs,jB]
theorem shape1(l:List Int)(q:LQuery):ep l q=some (l.any fun x=>q.kind==x):=by
 unfold ep;rw[tH,bPs]
def qg(k:Int):Nat:=if k=1 then 0 else if k=4\/k=5\/k=6\/k=7 then 2 else 1
def nc(q:LQuery):Bool:=
 decide (1<=q.kind)&&decide (q.kind<=10)&&decide (q.inputs.length=qg q.kind)&&(q.kind==1||q.table==[])&&(q.kind==3||q.kind==8||decide (q.names.length=0))&&
 (q.kind==8||decide (q.aggregates.length=0))&&(q.kind==9||decide (q.descending.length=0))&&(q.kind==10||(q.count==0&&q.offset==0))&&
 (if q.kind=2\/q.kind=4\/q.kind=5 then decide (q.exprs.length=1)
  else if q.kind=3\/q.kind=8 then decide (q.exprs.length=q.names.length)&&decide (0<q.exprs.length+q.aggregates.length)
  else if q.kind=9 then decide (q.exprs.length=q.descending.length)&&decide (0<q.exprs.length)
  else if q.kind=10 then decide (q.exprs.length=0)&&decide (q.count>=0)&&decide (q.offset>=0)
  else decide (q.exprs.length=0))
theorem natE(a b:Nat):((a:Int)==(b:Int))=decide (a=b):=by
 by_cases h:a=b
 ·simp[h]
 ·rw[zf h];exact dm (by omega)
theorem natNE(a b:Nat):((a:Int) !=(b:Int))= !decide (a=b):=by rw[bne,natE]
theorem natPos(a:Nat):decide ((a:Int)>0)= !decide (a=0):=by
 by_cases h:a=0
 ·simp[h]
 ·rw[zf h,zt (by omega)];rfl
theorem condSome{α:Type}(b:Bool)(x y:α):(cond b (some x) (some y))=some (cond b x y):=by cases b<;>rfl
theorem shape_eq(q:LQuery)(hs:q.exprs.length<=10000000/\q.aggregates.length<=10000000):lS q=some (nc q):=by
 unfold lS;simp only[shape1,bPs];by_cases k0:q.kind<1
 ·rw[zt k0];simp[nc,show ¬(1<=q.kind)from by omega]
 rw[zf k0];by_cases k10:q.kind>10
 ·rw[zt k10];simp[nc,show ¬(q.kind<=10)from by omega]
 rw[zf k10];have hw:iw ((q.exprs.length:Int)+(q.aggregates.length:Int))=((q.exprs.length+q.aggregates.length:Nat):Int):=by rw[wW (by omega) (by omega)];simp
 rw[hw];have hk:q.kind=1\/q.kind=2\/q.kind=3\/q.kind=4\/q.kind=5\/q.kind=6\/q.kind=7\/q.kind=8\/q.kind=9\/q.kind=10:=by omega
 unfold nc;have e0:∀n:Nat,((n:Int)==0)=decide (n=0):=fun n=>natE n 0
 have e1:∀n:Nat,((n:Int)==1)=decide (n=1):=fun n=>natE n 1
 have n0:∀n:Nat,((n:Int) !=0)= !decide (n=0):=fun n=>natNE n 0
 have n1:∀n:Nat,((n:Int) !=1)= !decide (n=1):=fun n=>natNE n 1
 have n2:∀n:Nat,((n:Int) !=2)= !decide (n=2):=fun n=>natNE n 2
 have c0:(q.count !=0)= !(q.count==0):=rfl;have o0:(q.offset !=0)= !(q.offset==0):=rfl;have p0:decide (0<q.exprs.length)= !decide (q.exprs.length=0):=by rw[<-natPos];simp
 have p1:decide (0<q.exprs.length+q.aggregates.length)= !decide (q.exprs.length+q.aggregates.length=0):=by rw[<-natPos];simp;omega
 simp only[natPos,natE,e0,e1,c0,o0,p0,p1]
 generalize(q.table==[])=b1
 generalize decide (q.names.length=0)=b2;generalize decide (q.aggregates.length=0)=b3;generalize decide (q.descending.length=0)=b4
 generalize(q.count==0)=b5
 generalize(q.offset==0)=b6
 generalize decide (q.exprs.length=1)=b7;generalize decide (q.exprs.length=q.names.length)=b8;generalize decide (q.exprs.length+q.aggregates.length=0)=b9;generalize decide (q.exprs.length=q.descending.length)=b10;generalize decide (q.exprs.length=0)=b11;generalize decide (q.count>=0)=b12;generalize decide (q.offset>=0)=b13;generalize hL:q.inputs.length=L;rcases hk with h|h|h|h|h|h|h|h|h|h<;>rw[h]
 all_goals simp only[qg,aG,n0,n1,n2]
 all_goals simp[n0,n1,n2,condSome,Bool.and_assoc]
def e0Q(q:LQuery):LExpr:=q.exprs.headD (.mk 1 [] 0 .nul [])
def kA(a b:List LCol)(left:Bool):List LCol:=a++b.map fun x=>⟨x.name,x.kind,x.nullable||left⟩
def lX(kind:Int)(a b:List LCol):List LCol×Int:=
 if a.length=b.length/\a.map LCol.kind=b.map LCol.kind then(List.zipWith (fun x y=>⟨x.name,x.kind,x.nullable||(kind==6&&y.nullable)⟩) a b,0)else([],7)
def dt(vars cols:List LCol):List LExpr->Rs->List LCol×Int
 |e::es,n::ns=>if eE n=false then([],3)else if(fD cols vars e).2.2≠0 then([],(fD cols vars e).2.2)else if(fD cols vars e).1=0 then([],7)
  else if(dt vars cols es ns).2≠0 then([],(dt vars cols es ns).2)else(⟨n,(fD cols vars e).1,(fD cols vars e).2.1⟩::(dt vars cols es ns).1,0)
 |_,_=>([],0)
abbrev lW:Rb:=[99,111,117,110,116]
abbrev sSum:Rb:=[115,117,109]
abbrev sMin:Rb:=[109,105,110]
abbrev sMax:Rb:=[109,97,120]
def aggQ(vars cols:List LCol)(a:LAggregateCall):Int×Int:=
 if eE a.name=false\/¬a.function∈[lW,sSum,sMin,sMax]\/1<a.args.length\/(a.args.length<1/\a.function≠lW)then(0,3)
 else match a.args with
  |[]=>(1,0)
  |e::_=>if(fD cols vars e).2.2≠0 then(0,(fD cols vars e).2.2)else if(fD cols vars e).1=0\/(a.function=sSum/\(fD cols vars e).1≠1)then(0,7)
   else if a.function=lW then(1,0)else((fD cols vars e).1,0)
def eS(vars cols:List LCol):List LAggregateCall->List LCol×Int
 |[]=>([],0)
 |a::l=>if(aggQ vars cols a).2≠0 then([],(aggQ vars cols a).2)else if(eS vars cols l).2≠0 then([],(eS vars cols l).2)
  else(⟨a.name,(aggQ vars cols a).1,!(a.function==lW)⟩::(eS vars cols l).1,0)
def og(vars cols:List LCol)(q:LQuery):List LCol×Int:=
 if(dt vars cols q.exprs q.names).2≠0 then([],(dt vars cols q.exprs q.names).2)
 else if(eS vars cols q.aggregates).2≠0 then([],(eS vars cols q.aggregates).2)
 else((dt vars cols q.exprs q.names).1++(eS vars cols q.aggregates).1,0)
def kJ(vars cols:List LCol):List LExpr->Int
 |[]=>0
 |e::l=>if(fD cols vars e).2.2≠0 then(fD cols vars e).2.2 else kJ vars cols l
def jU(c:LChecker)(q:LQuery)(ins:List (List LCol)):List LCol×Int:=
 if q.kind=1 then(match c.s.tables.find? fun t=>t.name==q.table with|some t=>(t.columns,0)|none=>([],4))
 else if q.kind=2 then(ins.getD 0 [],eF c (ins.getD 0 []) (e0Q q))
 else if q.kind=4\/q.kind=5 then(kA (ins.getD 0 []) (ins.getD 1 []) (q.kind==5),eF c (kA (ins.getD 0 []) (ins.getD 1 []) (q.kind==5)) (e0Q q))
 else if q.kind=6\/q.kind=7 then lX q.kind (ins.getD 0 []) (ins.getD 1 [])
 else if q.kind=3\/q.kind=8 then og c.vars (ins.getD 0 []) q
 else if q.kind=9 then(if kJ c.vars (ins.getD 0 []) q.exprs≠0 then([],kJ c.vars (ins.getD 0 []) q.exprs)else(ins.getD 0 [],0))
 else(ins.getD 0 [],0)
theorem find_idx{α:Type}(p:α->Bool)(l:List α):(l.find? p=none/\br p l=-1)\/∃x,l.find? p=some x/\0<=br p l/\l[(br p l).toNat]? =some x:=by
 induction l with
 |nil=>exact .inl ⟨rfl,rfl⟩
 |cons a l ih=>
  by_cases h:p a=true
  ·right
   exact⟨a,by simp[List.find?_cons,h],by unfold br;simp[List.findIdx?_cons,h],by unfold br;simp[List.findIdx?_cons,h]⟩
  ·have h:p a=false:=by simpa using h
   have hi:br p (a::l)=if br p l<0 then-1 else br p l+1:=by
    unfold br;simp only[List.findIdx?_cons,h,Bool.false_eq_true,if_false];cases l.findIdx? p with
    |none=>rfl
    |some i=>rw[zy (by simp only;omega)];simp
   rw[List.find?_cons,h,hi];rcases ih with⟨h1,h2⟩|⟨x,h1,h2,h3⟩
   ·left;exact⟨h1,by rw[h2];rfl⟩
   ·right
    refine⟨x,h1,by split<;>omega,?_⟩
    rw[zy (by omega),show(br p l+1).toNat=(br p l).toNat+1 from by omega,List.getElem?_cons_succ,h3]
theorem set_ok(kind:Int)(a b:List LCol):jF kind a b=some (lX kind a b):=by
 unfold jF lX;by_cases hl:a.length=b.length
 ·rw[natNE,zt hl];simp only[Bool.not_true,zd]
  let z:LCol->LCol->LCol:=fun x y=>⟨x.name,x.kind,x.nullable||(kind==6&&y.nullable)⟩
  obtain⟨fl,hfl,hr⟩:=gv (step:=fun(j1:Nat) (x1:LCol) (s1:List LCol)=>
   ae (aG b (j1:Int)) fun(x29:LCol)=>cond (x1.kind !=x29.kind) (some (Flow.ret (([],7):List LCol×Int)))
    (cond x1.nullable (ae (aG s1 (j1:Int)) fun(x51:LCol)=>letP (s1.set ((j1:Int).toNat) (LCol.mk x51.name x51.kind true)) fun(y8:List LCol)=>some (.next y8))
     (cond (kind==(6:Int)) (ae (aG b (j1:Int)) fun(x46:LCol)=>ae (aG s1 (j1:Int)) fun(x51:LCol)=>letP (s1.set ((j1:Int).toNat) (LCol.mk x51.name x51.kind x46.nullable)) fun(y9:List LCol)=>some (.next y9))
      (ae (aG s1 (j1:Int)) fun(x51:LCol)=>letP (s1.set ((j1:Int).toNat) (LCol.mk x51.name x51.kind false)) fun(y10:List LCol)=>some (.next y10)))))
   (fun j s=>s=(List.zipWith z a b).take j++a.drop j/\(a.take j).map LCol.kind=(b.take j).map LCol.kind) (fun r=>r=([],7)/\a.map LCol.kind≠b.map LCol.kind) a 0 a ⟨by simp,rfl⟩ (fun k x s hk hI=>by
    simp only[Nat.zero_add]at hI⊢;have hka:=(zg.1 hk).1;have hxe:=(zg.1 hk).2;have hkb:k<b.length:=by omega
    rw[fI hkb,bPs,bPs];by_cases hkk:x.kind=b[k].kind
    ·have hzl:((List.zipWith z a b).take k).length=k:=by simp;omega
     have hs:s[k]? =some x:=by
      rw[hI.1,List.getElem?_append_right (by omega),hzl,Nat.sub_self,List.getElem?_drop,Nat.add_zero,hk]
     have hkinds:(a.take (k+1)).map LCol.kind=(b.take (k+1)).map LCol.kind:=by
      rw[List.take_add_one,List.take_add_one,hk,ze hkb,List.map_append,List.map_append,hI.2];congr 1;show [x.kind]=[b[k].kind];rw[hkk]
     have hset:∀v:LCol,v=z x b[k]->s.set k v=(List.zipWith z a b).take (k+1)++a.drop (k+1):=by
      intro v hv;rw[hI.1,List.set_append_right _ _ (by omega),hzl,Nat.sub_self];rw[List.drop_eq_getElem_cons hka,List.set_cons_zero,List.take_add_one,List.append_assoc];congr 1;rw[List.getElem?_zipWith,hk,ze hkb];simp[hv]
     rw[pB hkk,zd,jw hs];simp only[bPs,bV,Int.toNat_natCast];cases hx:x.nullable with
     |true=>exact⟨_,rfl,hset _ (by simp[z,hx]),hkinds⟩
     |false=>
      by_cases h6:kind=6
      ·exact⟨.next _,by rw[ld h6];rfl,hset _ (by simp[z,hx,h6]),hkinds⟩
      ·exact⟨.next _,by rw[dm h6];rfl,hset _ (by simp[z,hx,h6]),hkinds⟩
    ·refine⟨.ret ([],7),by rw[mt hkk];rfl,rfl,fun he=>hkk ?_⟩
     have:=congrArg (fun l=>l[k]?) he
     simp only[List.getElem?_map,hk,ze hkb,Option.map_some,zo]at this;exact this)
  rw[hfl,bPs];cases fl with
  |brk s=>exact absurd hr (by simp)
  |ret r=>rw[hr.1,zy (fun h=>hr.2 h.2)];rfl
  |next s=>
   simp only[Nat.zero_add]at hr;rw[kg,hr.1,zp ⟨hl,by have:=hr.2;rwa [List.take_length,hl,List.take_length]at this⟩]
   have:(List.zipWith z a b).take a.length=List.zipWith z a b:=List.take_of_length_le (by simp;omega)
   rw[this,List.drop_length,List.append_nil]
 ·rw[natNE,zf hl,zy (fun h=>hl h.1)];rfl
theorem pI{α:Type}{l:List α}{d:α}(h:0<l.length):aG l 0=some (l.getD 0 d):=by
 cases l with
 |nil=>simp at h
 |cons a l=>rfl
theorem getD1{α:Type}{l:List α}{d:α}(h:1<l.length):aG l 1=some (l.getD 1 d):=by
 match l with
 |[]=>simp at h
 |[_]=>simp at h
 |a::b::l=>rfl
theorem e0_get{q:LQuery}(h:0<q.exprs.length):aG q.exprs 0=some (e0Q q):=by
 unfold e0Q;cases hq:q.exprs with
 |nil=>rw[hq]at h;simp at h
 |cons a l=>rfl
theorem containsS(l:Rs)(v:Rb):cD l v=some (decide (v∈l)):=by
 unfold cD fw;rw[idxF2 (p:=fun x=>v==x),bPs,jB];congr 1;by_cases h:v∈l
 ·rw[zt h,List.any_eq_true];exact⟨v,h,by simp⟩
 ·rw[zf h,List.any_eq_false];intro x hx he;exact h (by simp at he;rwa [he])
theorem agg_eq(c:LChecker)(cols:List LCol)(a:LAggregateCall):it c cols a=some (aggQ c.vars cols a):=by
 unfold it aggQ;simp only[bV,containsS,bPs];by_cases h1:eE a.name=false
 ·simp[h1]
 have h1':eE a.name=true:=by simpa using h1
 by_cases h2:a.function∈[lW,sSum,sMin,sMax]
 ·rw[zt (show a.function∈([[99,111,117,110,116],[115,117,109],[109,105,110],[109,97,120]]:Rs)from h2)];cases ha:a.args with
  |nil=>
   by_cases h3:a.function=lW
   ·simp[h1',h3]
   ·have h3':(a.function==([99,111,117,110,116]:Rb))=false:=by simpa using h3
    simp[h1',h3,h2,h3']
  |cons e l=>
   cases l with
   |cons e2 l=>
    have:(1:Int)<(l.length:Int)+1+1:=by omega
    simp[h1',h2,this]
   |nil=>
    simp only[h1',Bool.not_true,zd,List.length_singleton];have hno:¬(True=False\/¬a.function∈[lW,sSum,sMin,sMax]\/1<1\/(1<1/\a.function≠lW)):=by simp[h2]
    simp only[aG];by_cases h4:(fD cols c.vars e).2.2=0
    ·by_cases h5:(fD cols c.vars e).1=0
     ·simp[h2,h4,h5]
     ·by_cases h6:a.function=sSum
      ·by_cases h7:(fD cols c.vars e).1=1
       ·simp[h2,h4,h6,h7]
       ·simp[h2,h4,h5,h6,h7,mt h7]
      ·have h6':(a.function==([115,117,109]:Rb))=false:=by simpa using h6
       by_cases h8:a.function=lW
       ·simp[h2,h4,h5,h8,dm h5]
       ·have h8':(a.function==([99,111,117,110,116]:Rb))=false:=by simpa using h8
        simp[h2,h4,h5,h6,h8,h6',h8',dm h5]
    ·simp[h2,h4,mt h4]
 ·rw[zf (show ¬a.function∈([[99,111,117,110,116],[115,117,109],[109,105,110],[109,97,120]]:Rs)from h2)];simp[h1',h2]
theorem namedE_run(vars cols:List LCol)(names:Rs):∀(es:List LExpr) (j:Nat) (s:List LCol),es.length+j=names.length->s.length+es.length<=10000000->
  ∀k:List LCol->Option (List LCol×Int),ae (aU (σ:=List LCol) (ρ:=((List LCol)×Int)) (fun(j1:Nat) (x1:LExpr) (s1:List LCol)=>
  letP (fD cols vars x1) fun x31=>
  ae (aG names (j1:Int)) fun(x39:Rb)=>
  letP (eE x39) fun x41=>
  cond (!x41)
   (some (.ret ([],3)))
   (cond (x31.2.2 !=(0:Int))
    (some (.ret ([],x31.2.2)))
    (cond (x31.1==(0:Int))
     (some (.ret ([],7)))
     (ae (aG names (j1:Int)) fun(x54:Rb)=>
     ae (dq 32 s1 ([(LCol.mk x54 x31.1 x31.2.1)]:List LCol)) fun(x60:List LCol)=>
     some (.next x60))))) j es s) (fun fl1=>fl1.thenR k)=if(dt vars cols es (names.drop j)).2≠0 then some ([],(dt vars cols es (names.drop j)).2)else k (s++(dt vars cols es (names.drop j)).1)
 |[],j,s,_,_,k=>by simp[aU,dt]
 |e::es,j,s,hl,hb,k=>by
  have hj:j<names.length:=by simp at hl;omega
  rw[aU,List.drop_eq_getElem_cons hj,dt,bV,fI hj,bPs,bV];cases h1:eE names[j]with
  |false=>simp
  |true=>
   simp only[Bool.not_true,zd,Bool.true_eq_false,if_false];by_cases h2:(fD cols vars e).2.2=0
   ·rw[pB h2,zd];simp only[h2,ne_eq,not_true_eq_false,if_false];by_cases h3:(fD cols vars e).1=0
    ·rw[ld h3];simp[h3]
    ·rw[dm h3,zd,bPs,cd (by decide) (by simp at hb⊢;omega),bPs];simp only[h3,if_false];rw[namedE_run vars cols names es (j+1) _ (by simp at hl;omega) (by simp at hb⊢;omega) k];by_cases h4:(dt vars cols es (names.drop (j+1))).2=0
     ·simp[h4]
     ·simp[h4]
   ·rw[mt h2];simp[h2]
theorem namedA_run(c:LChecker)(cols:List LCol):∀(l:List LAggregateCall) (j:Nat) (s:List LCol),s.length+l.length<=10000000->
  ae (aU (σ:=List LCol) (ρ:=((List LCol)×Int)) (fun(_:Nat) (x2:LAggregateCall) (s2:List LCol)=>
  ae (it c cols x2) fun x73=>
  cond (x73.2 !=(0:Int))
   (some (.ret ([],x73.2)))
   (ae (dq 32 s2 ([(LCol.mk x2.name x73.1 (!(x2.function==([99,111,117,110,116]:Rb))))]:List LCol)) fun(x88:List LCol)=>
   some (.next x88))) j l s) (fun fl2=>fl2.thenR fun(s2:List LCol)=>some (s2,0))=some (if(eS c.vars cols l).2≠0 then([],(eS c.vars cols l).2)else(s++(eS c.vars cols l).1,0))
 |[],j,s,_=>by simp[aU,eS]
 |a::l,j,s,hb=>by
  rw[aU,eS,agg_eq,bPs];by_cases h1:(aggQ c.vars cols a).2=0
  ·rw[pB h1,zd,cd (by decide) (by simp at hb⊢;omega),bPs];simp only[h1,ne_eq,not_true_eq_false,if_false];rw[namedA_run c cols l (j+1) _ (by simp at hb⊢;omega)];by_cases h4:(eS c.vars cols l).2=0
   ·simp[h4]
   ·simp[h4]
  ·rw[mt h1];simp[h1]
theorem named_eq(c:LChecker)(q:LQuery)(cols:List LCol)(hl:q.exprs.length=q.names.length)(hb:q.exprs.length<=1000000/\q.aggregates.length<=1000000):fH c q cols=some (og c.vars cols q):=by
 unfold fH og;rw[namedE_run c.vars cols q.names q.exprs 0 [] (by omega) (by simp;omega),List.drop_zero];by_cases h:(dt c.vars cols q.exprs q.names).2=0
 ·have hlen:∀(es:List LExpr) (ns:Rs),(dt c.vars cols es ns).1.length<=es.length:=by
   intro es;induction es with
   |nil=>intro ns;simp[dt]
   |cons e es ih=>
    intro ns;cases ns with
    |nil=>simp[dt]
    |cons n ns=>
     simp only[dt];split
     ·simp
     ·split
      ·simp
      ·split
       ·simp
       ·split
        ·simp
        ·have:=ih ns;simp;omega
  simp only[h,ne_eq,not_true_eq_false,if_false,List.nil_append];rw[namedA_run c cols q.aggregates 0 _ (by have:=hlen q.exprs q.names;omega)]
 ·simp[h]
structure SmallQ(q:LQuery):Prop where
 nodes:(dz q).length<=10000000
 here:∀x∈dz q,x.exprs.length<=1000000/\x.aggregates.length<=1000000
theorem mem_nodes{q x y:LQuery}(h:x∈q.inputs)(hy:y∈dz x):y∈dz q:=by
 rw[kS];exact List.mem_cons_of_mem _ (List.mem_flatten.2 ⟨_,List.mem_map.2 ⟨x,h,rfl⟩,hy⟩)
theorem self_nodes(q:LQuery):q∈dz q:=by rw[kS];exact List.mem_cons_self
theorem SmallQ.sub{q x:LQuery}(h:SmallQ q)(hx:x∈q.inputs):SmallQ x:=
 ⟨by have:=om hx;have:=h.nodes;omega,fun y hy=>h.here y (mem_nodes hx hy)⟩
theorem SmallQ.self{q:LQuery}(h:SmallQ q):q.exprs.length<=1000000/\q.aggregates.length<=1000000:=h.here q (self_nodes q)
structure ShapeOk(q:LQuery):Prop where
 kind:1<=q.kind/\q.kind<=10
 arity:q.inputs.length=qg q.kind
 one:q.kind=2\/q.kind=4\/q.kind=5->q.exprs.length=1
 named:q.kind=3\/q.kind=8->q.exprs.length=q.names.length
 aggs:q.kind≠8->q.aggregates=[]
 sorted:q.kind=9->q.exprs.length=q.descending.length
 limit:q.kind=10->0<=q.count/\0<=q.offset
theorem shape_ok{q:LQuery}(h:nc q=true):ShapeOk q:=by
 unfold nc at h;simp only[Bool.and_eq_true,decide_eq_true_eq]at h
 obtain⟨⟨⟨⟨⟨⟨⟨⟨h1,h2⟩,h3⟩,h4⟩,h5⟩,h6⟩,h7⟩,h8⟩,h9⟩:=h
 refine⟨⟨h1,h2⟩,h3,fun hk=>?_,fun hk=>?_,fun hk=>?_,fun hk=>?_,fun hk=>?_⟩
 ·rw[zp hk]at h9;simpa using h9
 ·rw[zy (by omega),zp hk]at h9;simp at h9;exact h9.1
 ·have:(q.kind==8)=false:=dm hk
  rw[this]at h6;simp at h6;exact h6
 ·rw[zy (by omega),zy (by omega),zp hk]at h9;simp at h9;exact h9.1
 ·rw[zy (by omega),zy (by omega),zy (by omega),zp hk]at h9;simp at h9;omega
theorem join_run(left:Bool):∀(b:List LCol) (j:Nat) (a:List LCol),a.length+b.length<=10000000->
  aU (σ:=List LCol) (ρ:=Empty) (fun(_:Nat) (x2:LCol) (s2:List LCol)=>cond x2.nullable
          (ae (dq 32 s2 ([(LCol.mk x2.name x2.kind true)]:List LCol)) fun(x76:List LCol)=>some (.next x76))
          (ae (dq 32 s2 ([(LCol.mk x2.name x2.kind left)]:List LCol)) fun(x76:List LCol)=>some (.next x76))) j b a=some (.next (kA a b left))
 |[],j,a,_=>by simp[aU,kA]
 |x::b,j,a,h=>by
  have step:(cond x.nullable (ae (dq 32 a ([(LCol.mk x.name x.kind true)]:List LCol)) fun(x76:List LCol)=>some (Flow.next (ρ:=Empty) x76))
    (ae (dq 32 a ([(LCol.mk x.name x.kind left)]:List LCol)) fun(x76:List LCol)=>some (.next x76)))=some (.next (a++[⟨x.name,x.kind,x.nullable||left⟩])):=by
   rw[cd (by decide) (by simp at h⊢;omega),cd (by decide) (by simp at h⊢;omega)];cases x.nullable<;>simp
  rw[aU,step];simp only;rw[join_run left b (j+1) _ (by simp at h⊢;omega)];simp[kA]
theorem sort_run(vars cols:List LCol)(ins:List (List LCol))(h0:aG ins 0=some cols):∀(es:List LExpr) (j:Nat) (k:Unit->Option (List LCol×Int)),
  ae (aU (σ:=Unit) (ρ:=((List LCol)×Int)) (fun(_:Nat) (x5:LExpr) (_:Unit)=>ae (aG ins 0) fun(x122:List LCol)=>letP (fD x122 vars x5) fun x127=>cond (x127.2.2 !=(0:Int)) (some (.ret ([],x127.2.2))) (some (.next ()))) j es ()) (fun fl5=>fl5.thenR k)=
   if kJ vars cols es≠0 then some ([],kJ vars cols es)else k ()
 |[],j,k=>by simp[aU,kJ]
 |e::es,j,k=>by
  rw[aU,kJ,h0,bPs,bV];by_cases h:(fD cols vars e).2.2=0
  ·rw[pB h,zd];simp only[h,ne_eq,not_true_eq_false,if_false];rw[<-h0];exact sort_run vars cols ins h0 es (j+1) k
  ·rw[mt h];simp[h]
theorem out_eq{c:LChecker}{q:LQuery}{ins:List (List LCol)}(hs:ShapeOk q)(hsm:SmallQ q)(hl:ins.length=q.inputs.length)(hb:∀l∈ins,l.length<=20):jq c q ins=some (jU c q ins):=by
 obtain⟨hk,ha,h1,hn,_,_,_⟩:=hs
 have hself:=hsm.self
 have hi:∀i,i<ins.length->(ins.getD i []).length<=20:=fun i hi=>by
  rw[List.getD_eq_getElem?_getD,ze hi];exact hb _ (List.getElem_mem hi)
 have e0:q.exprs.length=1->aG q.exprs 0=some (e0Q q):=fun h=>e0_get (by omega)
 unfold jq jU;have kk:q.kind=1\/q.kind=2\/q.kind=3\/q.kind=4\/q.kind=5\/q.kind=6\/q.kind=7\/q.kind=8\/q.kind=9\/q.kind=10:=by omega
 rcases kk with h|h|h|h|h|h|h|h|h|h
 ·rw[h,qH];simp only[bPs];rcases find_idx (fun a0=>fF a0 q) c.s.tables with⟨f1,f2⟩|⟨t,f1,f2,f3⟩
  ·have f1':c.s.tables.find? (fun t=>t.name==q.table)=none:=f1;rw[f2,f1'];rfl
  ·have f1':c.s.tables.find? (fun t=>t.name==q.table)=some t:=f1;rw[f1',zf (show ¬br (fun a0=>fF a0 q) c.s.tables<0 from by omega),lw f2 f3];rfl
 all_goals rw[h]at ha
 all_goals simp only[qg]at ha
 ·have g0:aG ins 0=some (ins.getD 0 []):=pI (by simp at ha;omega);rw[h,g0,e0 (h1 (.inl h))];simp[bV]
 ·have g0:aG ins 0=some (ins.getD 0 []):=pI (by simp at ha;omega);rw[h,g0];simp only[bPs];rw[named_eq c q _ (hn (.inl h)) hself];simp[bV]
 ·have g0:aG ins 0=some (ins.getD 0 []):=pI (by simp at ha;omega);have g1:aG ins 1=some (ins.getD 1 []):=getD1 (by simp at ha;omega);rw[h,g0,g1,e0 (h1 (.inr (.inl h)))];simp only[bPs];rw[join_run ((4:Int)==5) _ 0 _ (by have:=hi 0 (by simp at ha;omega);have:=hi 1 (by simp at ha;omega);omega)];simp[bV]
 ·have g0:aG ins 0=some (ins.getD 0 []):=pI (by simp at ha;omega);have g1:aG ins 1=some (ins.getD 1 []):=getD1 (by simp at ha;omega);rw[h,g0,g1,e0 (h1 (.inr (.inr h)))];simp only[bPs];rw[join_run ((5:Int)==5) _ 0 _ (by have:=hi 0 (by simp at ha;omega);have:=hi 1 (by simp at ha;omega);omega)];simp[bV]
 ·have g0:aG ins 0=some (ins.getD 0 []):=pI (by simp at ha;omega);have g1:aG ins 1=some (ins.getD 1 []):=getD1 (by simp at ha;omega);rw[h,g0,g1];simp only[bPs,set_ok];simp[bV]
 ·have g0:aG ins 0=some (ins.getD 0 []):=pI (by simp at ha;omega);have g1:aG ins 1=some (ins.getD 1 []):=getD1 (by simp at ha;omega);rw[h,g0,g1];simp only[bPs,set_ok];simp[bV]
 ·have g0:aG ins 0=some (ins.getD 0 []):=pI (by simp at ha;omega);rw[h,g0];simp only[bPs];rw[named_eq c q _ (hn (.inr h)) hself];simp[bV]
 ·have g0:aG ins 0=some (ins.getD 0 []):=pI (by simp at ha;omega);rw[h,sort_run c.vars _ ins g0,g0];simp only[bV,bPs];by_cases hse:kJ c.vars (ins.getD 0 []) q.exprs=0
  ·simp only[hse,ne_eq,not_true_eq_false,if_false];rfl
  ·simp only[hse,ne_eq,not_false_eq_true,if_true];rfl
 ·have g0:aG ins 0=some (ins.getD 0 []):=pI (by simp at ha;omega);rw[h,g0];simp[bV]
def eN:List (List LCol×Int)->List (List LCol)×Int
 |[]=>([],0)
 |r::l=>if r.2≠0 then([],r.2)else if(eN l).2≠0 then([],(eN l).2)else(r.1::(eN l).1,0)
def qo(c:LChecker)(q:LQuery)(ins:List (List LCol×Int)):List LCol×Int:=
 if nc q=false then([],3)else if(eN ins).2≠0 then([],(eN ins).2)
 else if(jU c q (eN ins).1).2≠0 then([],(jU c q (eN ins).1).2)
 else if 20<(jU c q (eN ins).1).1.length then([],2)
 else if((jU c q (eN ins).1).1.map LCol.name).Nodup then((jU c q (eN ins).1).1,0)else([],23)
def gK(c:LChecker)(q:LQuery):List LCol×Int:=qo c q (q.inputs.attach.map fun x=>gK c x.1)
termination_by SizeOf.sizeOf q
decreasing_by exact LQuery.inputs_lt x.2
theorem colsQ_eq(c:LChecker)(q:LQuery):gK c q=qo c q (q.inputs.map (gK c)):=by
 rw[gK,List.attach_map_val (f:=gK c)]
theorem uu(f:LQuery->Option (List LCol×Int))(g:LQuery->List LCol×Int):∀(l:List LQuery) (j:Nat) (s:List (List LCol)),(∀x∈l,f x=some (g x))->s.length+l.length<=10000000->∀k:List (List LCol)->Option (List LCol×Int),
  ae (aU (σ:=List (List LCol)) (ρ:=((List LCol)×Int)) (fun(_:Nat) (x1:LQuery) (s1:List (List LCol))=>ae (f x1) fun x28=>cond (x28.2 !=(0:Int)) (some (.ret ([],x28.2)))
    (ae (dq 24 s1 ([x28.1]:List (List LCol))) fun(x37:List (List LCol))=>some (.next x37))) j l s) (fun fl1=>fl1.thenR k)=
   if(eN (l.map g)).2≠0 then some ([],(eN (l.map g)).2)else k (s++(eN (l.map g)).1)
 |[],j,s,_,_,k=>by simp[aU,eN]
 |x::l,j,s,h,hb,k=>by
  rw[aU,h x (by simp),bPs,List.map_cons,eN];by_cases h1:(g x).2=0
  ·rw[pB h1,zd,cd (by decide) (by simp at hb⊢;omega),bPs];simp only[h1,ne_eq,not_true_eq_false,if_false];rw[uu f g l (j+1) _ (fun y hy=>h y (by simp[hy])) (by simp at hb⊢;omega) k];by_cases h2:(eN (l.map g)).2=0
   ·simp[h2]
   ·simp[h2]
  ·rw[mt h1];simp[h1]
theorem sn:∀{l:List (List LCol×Int)},(eN l).2=0->(∀r∈l,r.2=0)/\(eN l).1=l.map (·.1)
 |[],_=>⟨by simp,rfl⟩
 |r::l,h=>by
  simp only[eN]at h⊢;by_cases h1:r.2=0
  ·by_cases h2:(eN l).2=0
   ·obtain⟨a,b⟩:=sn h2
    refine⟨fun x hx=>?_,by simp[h1,h2,b]⟩
    rcases List.mem_cons.1 hx with rfl|hx
    ·exact h1
    ·exact a x hx
   ·simp[h1,h2]at h
  ·simp[h1]at h
theorem dup_run(out:List LCol):ae (aU (σ:=Unit) (ρ:=((List LCol)×Int)) (fun(j2:Nat) (x2:LCol) (_:Unit)=>
     ae (nZ out 0 (j2:Int)) fun(x61:List LCol)=>
     ae (cL x61 (fun a0=>some (dk a0 x2))) fun x63=>
     cond x63 (some (.ret ([],23))) (some (.next ()))) 0 out ()) (fun fl2=>fl2.thenR fun(_:Unit)=>some (out,0))=some (if(out.map LCol.name).Nodup then(out,0)else([],23)):=by
 obtain⟨fl,hfl,hr⟩:=gv (step:=fun(j2:Nat) (x2:LCol) (_:Unit)=>
     ae (nZ out 0 (j2:Int)) fun(x61:List LCol)=>
     ae (cL x61 (fun a0=>some (dk a0 x2))) fun x63=>
     cond x63 (some (Flow.ret (([],23):List LCol×Int))) (some (.next ())))
  (fun j _=>((out.take j).map LCol.name).Nodup) (fun r=>r=([],23)/\¬(out.map LCol.name).Nodup) out 0 () (by simp) (fun k x s hk hI=>by
   simp only[Nat.zero_add]at hI⊢;have hkl:=(zg.1 hk).1;rw[rF ⟨by omega,by omega,by omega⟩,bPs];unfold cL;rw[sC,bPs,bPs,jB];simp only[Int.toNat_natCast,Int.toNat_zero,List.drop_zero];cases ha:(out.take k).any fun a0=>dk a0 x with
   |true=>
    refine⟨_,rfl,rfl,fun hnd=>?_⟩
    obtain⟨y,hy,he⟩:=List.any_eq_true.1 ha
    have he:y.name=x.name:=by simpa[dk]using he
    obtain⟨i,hi,hyi⟩:=List.mem_take_iff_getElem.1 hy
    have hii:i<k:=by omega
    rw[List.nodup_iff_pairwise_ne,List.pairwise_iff_getElem]at hnd;refine hnd i k (by simp;omega) (by simpa using hkl) hii ?_;simp only[List.getElem_map];rw[(zg.1 hk).2,hyi,he]
   |false=>
    refine⟨_,rfl,?_⟩
    simp only;rw[List.take_add_one,hk,List.map_append,List.nodup_append]
    refine⟨hI,by simp,fun a ha' b hb hab=>?_⟩
    simp at hb;subst hb;subst hab
    obtain⟨y,hy,he⟩:=List.mem_map.1 ha'
    have:=List.any_eq_false.1 ha y hy
    exact this (by simpa[dk]using he))
 rw[hfl,bPs];cases fl with
 |brk s=>exact absurd hr (by simp)
 |ret r=>rw[pW,hr.1,zy hr.2]
 |next s=>
  simp only[Nat.zero_add,List.take_length]at hr;rw[kg,zp hr]
theorem ki(c:LChecker)(q:LQuery):(gK c q).1.length<=20:=by
 rw[colsQ_eq];unfold qo
 repeat' split
 all_goals first|(simp;done)|(simp only;omega)
theorem cols_ok(c:LChecker):∀q:LQuery,SmallQ q->fU c q=some (gK c q):=by
 refine LQuery.ind fun q ih hsm=>?_
 refine pU (γ:=LChecker) (F:=fun n c q=>fR n c q) (O:=fun r c q=>fS r c q) (fun n=>rfl) c q ?_ (fun x hx=>⟨_,ih x hx (hsm.sub hx)⟩) ?_
 ·intro r r' h;simp only[fS];congr 1;funext b;congr 2;exact iZ q.inputs 0 _ fun k x s hk=>by rw[h x (ek hk)]
 ·have e:∀c x,(ia fun n=>fR n c x)=fU c x:=fun _ _=>rfl
  simp only[fS,e];have hself:=hsm.self;rw[shape_eq q ⟨by omega,by omega⟩,bPs,colsQ_eq];unfold qo;cases hs:nc q with
  |false=>rfl
  |true=>
   have hok:=shape_ok hs;have hin:q.inputs.length<=2:=by rw[hok.arity];unfold qg;split<;>(try split)<;>omega
   simp only[Bool.not_true,zd,Bool.true_eq_false,if_false];rw[uu (fU c) (gK c) q.inputs 0 [] (fun x hx=>ih x hx (hsm.sub hx)) (by simp;omega),List.nil_append];by_cases h1:(eN (q.inputs.map (gK c))).2=0
   ·obtain⟨a,b⟩:=sn h1
    simp only[h1,ne_eq,not_true_eq_false,if_false]
    rw[out_eq hok hsm (by rw[b];simp) (fun l hl=>by
     rw[b]at hl
     obtain⟨r,hr,rfl⟩:=List.mem_map.1 hl
     obtain⟨x,_,rfl⟩:=List.mem_map.1 hr
     exact ki c x),bPs]
    generalize jU c q (eN (q.inputs.map (gK c))).1=o;by_cases h2:o.2=0
    ·rw[pB h2,zd];simp only[h2,not_true_eq_false,if_false];by_cases h3:20<o.1.length
     ·rw[zt (show(o.1.length:Int)>20 from by omega),zp h3];rfl
     ·rw[zf (show ¬(o.1.length:Int)>20 from by omega),zy h3,zd];exact dup_run o.1
    ·rw[mt h2];simp[h2]
   ·simp[h1]
end
end Go.Proofs.YtafdcemcgfbhcaaGreat
