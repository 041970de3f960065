/- procedureDeleteRemovesMatchingRows_holds, part 5: the layer, the plain functions and what they compute; conditions as in the statement. -/
import Derived.Test.YtafdcemcgfbhcaaGreatDoorDed
set_option maxHeartbeats 4000000
namespace Go.Proofs.YtafdcemcgfbhcaaGreatDoor
noncomputable section
open Go Go.Ab
attribute [local irreducible] V Ao Do Gh Eff PH IntKind.wrap
set_option maxRecDepth 4000
def gA(t:LTable)(name:List UInt8):Option (Int×Bool):=
 ag (cK t.columns (fun a0=>some (ed a0 name))) fun x10=>
 some ((if(0:Int)>x10 then(0:Int)else x10),(decide (x10≥(0:Int))))
theorem sL(t:LTable)(name:List UInt8)(r:Int×Bool)(H:gA t name=some r):
  aJ Tryz.prog 106 [(.agg (bc t)),(.str name)] (.tup [(al r.1),(aB r.2)]):=by
 unfold gA at H;refine PH.au Tryz.func106 Tryz.ntmps106 ?_;refine ab (aa (aC ?_));refine aC ?_;refine af 2 tk rfl (ac (ab (aa (af 3 tk rfl ?_))))
 obtain⟨x10,h10,H⟩:=av H
 have s10:=hP t.columns (fun a0=>some (ed a0 name)) Tryz.call171 (fun a0 r h=>(ax h)▸rg a0 name) _ h10;refine ak Tryz.call170 (iX.r) s10 ?_;refine ah tk rfl (ac (ao 6 tk rfl ?_));exact aW tk H rfl
def cT(sA:LSchema)(name:List UInt8):Option (Int×Bool):=
 ag (bZ sA.tables (fun a0=>some (cN a0 name))) fun x10=>
 some ((if(0:Int)>x10 then(0:Int)else x10),(decide (x10≥(0:Int))))
theorem gS(sA:LSchema)(name:List UInt8)(r:Int×Bool)(H:cT sA name=some r):
  aJ Tryz.prog 28 [(.agg (bJ sA)),(.str name)] (.tup [(al r.1),(aB r.2)]):=by
 unfold cT at H;refine PH.au Tryz.func28 Tryz.ntmps28 ?_;refine ab (aa (aC ?_));refine aC ?_;refine af 2 tk rfl (ac (ab (aa (af 3 tk rfl ?_))))
 obtain⟨x10,h10,H⟩:=av H
 have s10:=dR sA.tables (fun a0=>some (cN a0 name)) Tryz.call56 (fun a0 r h=>(ax h)▸sj a0 name) _ h10;refine ak Tryz.call55 (iX.r) s10 ?_;refine ah tk rfl (ac (ao 6 tk rfl ?_));exact aW tk H rfl
def hO(a:LForeignKey)(b:LForeignKey):Option (Bool):=
 cond (a.table==b.table)
  (ag (gr a.columns b.columns) fun x15=>
  cond x15
   (some (a.refTable==b.refTable))
   (some false))
  (some false)
theorem pH(a:LForeignKey)(b:LForeignKey)(r:Bool)(H:hO a b=some r):
  aJ Tryz.prog 75 [(.agg (ct a)),(.agg (ct b))] (aB r):=by
 unfold hO at H;refine PH.au Tryz.func75 Tryz.ntmps75 ?_;refine ab (aa (aC ?_));refine aC ?_;refine ah tk rfl (ac (ab (aa (af 6 tk rfl ?_))));refine bh rfl rfl rfl H (fun H=>?_) (fun H=>?_)
 ·refine af 4 tk rfl ?_
  obtain⟨x15,h15,H⟩:=av H
  have s15:=qA a.columns b.columns _ h15;refine ak Tryz.call108 (iX.r) s15 ?_;refine af 2 tk rfl ?_;refine bh rfl rfl rfl H (fun H=>?_) (fun H=>?_)
  ·refine af 7 tk rfl (ac ?_);exact aW tk H rfl
  refine af 7 tk rfl (ac ?_);exact aW tk H rfl
 refine af 14 tk rfl (ac ?_);exact aW tk H rfl
def bY(sA:List LForeignKey)(f:LForeignKey→Option (Bool)):Option (Bool):=
 ag (cL sA f) fun x7=>
 some (decide (x7≥(0:Int)))
theorem jk{g_f:FuncId}{caps_f:List PV}(sA:List LForeignKey)(f:LForeignKey→Option (Bool))(hg_f:∀(vs:Array Value) (w:World),(callFunc g_f vs).run Tryz.prog w= .ok (.enter g_f vs) w)(hp_f:∀a0 r,f a0=some r→aJ Tryz.prog g_f ((.agg (ct a0))::caps_f) (aB r))(r:Bool)(H:bY sA f=some r):
  aJ Tryz.prog 73 [(.list 145 (sA.map ct)),(.fn g_f caps_f)] (aB r):=by
 unfold bY at H;refine PH.au Tryz.func73 Tryz.ntmps73 ?_;refine ao 1 tk rfl (ab (aa (af 2 tk rfl ?_)))
 obtain⟨x7,h7,H⟩:=av H
 have s7:=jK sA f hg_f hp_f _ h7;refine ak Tryz.call107 (iX.r) s7 ?_;refine af 2 tk rfl (ac ?_);exact aW tk H rfl
def jx(a:List UInt8)(b:List UInt8):Int:=
 letP (dT a b) fun x7=>
 x7
theorem ue(a:List UInt8)(b:List UInt8):
  aJ Tryz.prog 172 [(.str a),(.str b)] (al (jx a b)):=by
 obtain⟨r,H⟩:∃r,jx a b=r:=⟨_,rfl⟩
 rw[H];unfold jx at H;refine PH.au Tryz.func172 Tryz.ntmps172 ?_;refine ao 1 tk rfl (ab (aa (af 2 tk rfl ?_)))
 obtain⟨x7,h7,H⟩:=cp H
 have s7:=mI a b;rw[h7]at s7;refine ak Tryz.call220 (iX.r) s7 ?_;refine ah tk rfl (ac ?_);exact ez tk H rfl
def ci(sA:List LConstraint)(v:LConstraint):Option (Bool):=
 ag (de sA v) fun x7=>
 some (decide (x7≥(0:Int)))
theorem jP(sA:List LConstraint)(v:LConstraint)(r:Bool)(H:ci sA v=some r):
  aJ Tryz.prog 77 [(.list 151 (sA.map cF)),(.agg (cF v))] (aB r):=by
 unfold ci at H;refine PH.au Tryz.func77 Tryz.ntmps77 ?_;refine ab (aa (aC ?_));refine ah tk rfl (ac (ab (aa (af 2 tk rfl ?_))))
 obtain⟨x7,h7,H⟩:=av H
 have s7:=kA sA v _ h7;refine ak Tryz.call111 (iX.r) s7 ?_;refine af 2 tk rfl (ac ?_);exact aW tk H rfl
def dq(t:LTable)(row:Rq):Option (Int):=
 cond ((row.length:Int) !=(t.columns.length:Int))
  (some 3)
  (ag (aG (σ:=Unit) (ρ:=(Int)) (fun(j1:Nat) (x1:LVal) (_:Unit)=>
   letP (cA x1) fun x22=>
   cond (x22 !=(0:Int))
    (some (.ret x22))
    (ag (
     cond (x1.kind==(0:Int))
      (ag (getI t.columns (j1:Int)) fun(x33:LCol)=>
      some (!x33.nullable))
      (some false)) fun(t3:Bool)=>
    cond t3
     (some (.ret 8))
     (cond (x1.kind !=(0:Int))
      (ag (getI t.columns (j1:Int)) fun(x47:LCol)=>
      cond (x1.kind !=x47.kind)
       (some (.ret 7))
       (some (.next ())))
      (some (.next ()))))) 0 row ()) fun fl1=>fl1.thenR fun(_:Unit)=>
  some 0)
theorem qT(t:LTable)(row:Rq)(r:Int)(H:dq t row=some r):
  aJ Tryz.prog 78 [(.agg (bc t)),(.list 69 (row.map ae))] (al r):=by
 unfold dq at H;refine PH.au Tryz.func78 Tryz.ntmps78 ?_;refine ab (aa (aC ?_));refine ah tk rfl (ac (ab (ab (aa (ah tk rfl (az tk (zl _) ?_))))));refine af 2 tk rfl (az tk (zl _) ?_);refine ah tk rfl (ac ?_);refine aE rfl H (fun H=>?_) (fun H=>?_)
 ·refine ao 1 tk rfl ?_;exact aW tk H rfl
 refine ap (ab (ab (aa (ah tk rfl (az tk (zl _) ?_)))));refine ah tk rfl (ac ?_);refine dS tk 16 15 14 (fun s1 g1=>upd (fun _=>.any) 2 (.ptr (bc t))) nB nO () H (fun fl1 Hp1 j1 s1 g1 hz1 hl1 x1 fb1 hx1 H hg1=>?_) (fun s1 g1 H=>?_)
 ·refine ab (aw (ab (aa (ah tk rfl ?_))));refine aR tk (zn j1) (bj (fun _=>rfl) hx1) ?_;refine ah tk rfl ?_;refine ba tk fun b6=>?_
  refine ah tk rfl (aq tk ?_);refine ac (ab (ab (aa (aA tk ?_))))
  obtain⟨x22,h22,H⟩:=cp H
  have s22:=mH x1;rw[h22]at s22;refine ak Tryz.call110 (iX.r) s22 ?_;refine ah tk rfl (ac (ao 2 tk rfl ?_));refine aE rfl H (fun H=>?_) (fun H=>?_)
  ·refine ao 2 tk rfl ?_;obtain rfl:=ax H;have e1:fl1= .ret _:=hg1;subst e1;obtain rfl:=aQ Hp1;refine aZ tk rfl (ps:=[(al x22)]) ⟨_,_,rfl,rfl,rfl⟩ (PLe.q rfl)
  refine ap (ab (ab ?_));refine ew (γ:=Unit) (fun t3 g3=>⟨53,upd (upd (upd (upd (upd (upd (upd (fun _=>.any) 37 (aB t3)) 16 (al (j1:Int))) 15 (al (row.length:Int))) 14 (.list 69 (row.map ae))) 6 (.box 6 b6 0)) 5 (al (j1:Int))) 2 (.ptr (bc t)),upd (fun _=>none) 6 (some ⟨b6,(ae x1)⟩),fun _=>none⟩) H (fun _ H=>?_) (fun t3 g3 H=>?_)
  ·refine aa (ah tk rfl (aA tk ?_));refine af 2 tk rfl ?_;refine bh rfl rfl rfl H (fun H=>?_) (fun H=>?_)
   ·refine af 3 tk rfl ?_
    obtain⟨x33,k33,H⟩:=br H
    refine aR tk k33.1 (aM (fun _=>rfl) k33.2) ?_;refine af 4 tk rfl (ac ?_);refine aS _ () (ax H) Gh.d
   refine af 8 tk rfl (ac ?_);refine aS _ () (ax H) Gh.d
  refine aE rfl H (fun H=>?_) (fun H=>?_)
  ·refine ao 1 tk rfl ?_;obtain rfl:=ax H;have e1:fl1= .ret _:=hg1;subst e1;obtain rfl:=aQ Hp1;refine aZ tk rfl (ps:=[(al 8)]) ⟨_,_,rfl,rfl,rfl⟩ (PLe.q rfl)
  refine ap (ab (bn tk mok ⟨true,false,[45,49]⟩ [0,1,2,3,4,5,6,7,8,9,10,11,12,13] rfl (by decide+kernel) rfl (bN rfl (bK ?_))));refine aN 2 rfl ?_;refine ml H (fun H=>?_) (fun H=>?_)
  ·refine bN rfl (bK ?_);refine aN 3 rfl ?_
   obtain⟨x47,k47,H⟩:=br H
   refine bE k47.1 (aM (fun _=>rfl) k47.2) ?_;refine aN 4 rfl (bm ?_);refine aE rfl H (fun H=>?_) (fun H=>?_)
   ·refine ao 1 tk rfl ?_;obtain rfl:=ax H;have e1:fl1= .ret _:=hg1;subst e1;obtain rfl:=aQ Hp1;refine aZ tk rfl (ps:=[(al 7)]) ⟨_,_,rfl,rfl,rfl⟩ (PLe.q rfl)
   refine ap (aH (be 2 tk rfl ?_));exact bl () H hl1 hg1
  refine aN 10 rfl (bm (bA rfl (ap (aH (be 2 tk rfl ?_)))));exact bl () H hl1 hg1
 refine ao 1 tk rfl ?_;exact aW tk H rfl
def eo(sA:List Int)(v:Int):Option (Bool):=
 ag (iF sA v) fun x7=>
 some (decide (x7≥(0:Int)))
theorem ln(sA:List Int)(v:Int)(r:Bool)(H:eo sA v=some r):
  aJ Tryz.prog 115 [(.list 3 (sA.map bH)),(al v)] (aB r):=by
 unfold eo at H;refine PH.au Tryz.func115 Tryz.ntmps115 ?_;refine ao 1 tk rfl (ab (aa (af 2 tk rfl ?_)))
 obtain⟨x7,h7,H⟩:=av H
 have s7:=qB sA v _ h7;refine ak Tryz.call173 (iX.r) s7 ?_;refine af 2 tk rfl (ac ?_);exact aW tk H rfl
def eC(q:LQuery):Option ((List Int)×Int):=
 ag (kh q) fun x18=>
 ag (aG (σ:=List Int×Bool×List Bool) (ρ:=Empty) (fun(_:Nat) (x1:LQuery) (s1:List Int×Bool×List Bool)=>
  ag (aG (σ:=List Int×Bool×List Bool) (ρ:=Empty) (fun(_:Nat) (x12:LExpr) (s12:List Int×Bool×List Bool)=>
   ag (fT x12 s12.1 s12.2.1 s12.2.2) fun x33=>
   some (.next (x33.1,x33.2.1,x33.2.2))) 0 x1.exprs (s1.1,s1.2.1,s1.2.2)) fun fl12=>fl12.thenP fun(s12:List Int×Bool×List Bool)=>
  ag (aG (σ:=List Int×Bool×List Bool) (ρ:=Empty) (fun(_:Nat) (x13:LAggregateCall) (s13:List Int×Bool×List Bool)=>
   ag (aG (σ:=List Int×Bool×List Bool) (ρ:=Empty) (fun(_:Nat) (x16:LExpr) (s16:List Int×Bool×List Bool)=>
    ag (fT x16 s16.1 s16.2.1 s16.2.2) fun x51=>
    some (.next (x51.1,x51.2.1,x51.2.2))) 0 x13.args (s13.1,s13.2.1,s13.2.2)) fun fl16=>fl16.thenP fun(s16:List Int×Bool×List Bool)=>
   some (.next (s16.1,s16.2.1,s16.2.2))) 0 x1.aggregates (s12.1,s12.2.1,s12.2.2)) fun fl13=>fl13.thenP fun(s13:List Int×Bool×List Bool)=>
  some (.next (s13.1,s13.2.1,s13.2.2))) 0 x18 ([],false,(List.replicate 8 false))) fun fl1=>fl1.thenP fun(s1:List Int×Bool×List Bool)=>
 cond s1.2.1
  (some ([],13))
  (some (s1.1,0))
theorem kC(q:LQuery)(r:(List Int)×Int)(H:eC q=some r):
  aJ Tryz.prog 91 [(.agg (aO q))] (.tup [(.list 3 (r.1.map bH)),(al r.2)]):=by
 unfold eC at H;refine PH.au Tryz.func91 Tryz.ntmps91 ?_;refine ab (aa (aC ?_));refine af 2 tk rfl (ac (ab (aa ?_)));refine ba tk fun b4=>?_
 refine ac (ab (aa ?_));refine ba tk fun b5=>?_
 refine ac (ab (aa ?_));refine ba tk fun b6=>?_
 refine aq tk ?_;refine ac (ab (aa ?_));refine ba tk fun b7=>?_
 refine ac (ab (aa (ah tk rfl (aq tk ?_))));refine ac (ab (ab (aa (ah tk rfl ?_))))
 obtain⟨x18,h18,H⟩:=av H
 have s18:=sC (m:=18) q _ h18;refine ak Tryz.call93 (iX.r) (PFun.hX s18) ?_;refine az tk (zl _) ?_;refine ah tk rfl (ac ?_)
 obtain⟨fl1,H1,Hp1⟩:=av H
 refine gR tk 18 rfl rfl (fun hz1 _=>?_);rw[zl]at hz1;refine fL (τ:=List Int×Bool×List Bool) (γ:=OwnRef) (fun s1 g1=>⟨57,upd (upd (fun _=>.any) 6 (.box 6 b6 0)) 4 (.box 4 b4 0),upd (upd (fun _=>none) 6 (some ⟨b6,[(aB s1.2.1)]⟩)) 4 (some ⟨b4,[(.own 1204 g1 (s1.1.map bH).length)]⟩),upd (fun _=>none) 1204 (some ⟨g1,3,(s1.1.map bH),true⟩)⟩) (fun t=>fl1= .next t) ?_ (fun s1 g1 hn1=>?_)
 ·refine aw (pR tk 4 0 1204 (e:=3) rfl rfl rfl rfl ?_);refine js (fun j1 s1 g1=>⟨57,upd (upd (upd (upd (upd (upd (fun _=>.any) 20 (al (j1:Int))) 19 (al (x18.length:Int))) 18 (.list 76 (x18.map dW))) 7 (.box 7 b7 0)) 6 (.box 6 b6 0)) 4 (.box 4 b4 0),upd (upd (upd (upd (fun _=>none) 7 (some ⟨b7,[(.fn 133 [(.box 4 b4 0),(.box 6 b6 0),(.box 5 b5 0),(.box 7 b7 0)])]⟩)) 6 (some ⟨b6,[(aB s1.2.1)]⟩)) 5 (some ⟨b5,(List.map aB s1.2.2)⟩)) 4 (some ⟨b4,[(.own 1204 g1 (s1.1.map bH).length)]⟩),upd (fun _=>none) 1204 (some ⟨g1,3,(s1.1.map bH),true⟩)⟩) (⟨none,0⟩) H1 Gh.d (fun j1 s1 g1 hj1 hr1=>?_);refine ao 1 tk rfl (ab ?_);refine bt rfl (fun h=>?_) (fun h=>?_)
  ·have hl1:=pZ h
   obtain⟨x1,fb1,hx1,H,hg1⟩:=rMc hl1 hr1
   refine ap (ab (aw (ab (aa (aR tk (zn j1) (bj dr hx1) ?_)))));refine ah tk rfl ?_;refine ba tk fun b9=>?_
   refine aq tk ?_;refine ac (ab (ab (aa (ah tk rfl (aA tk ?_)))));refine az tk (zl _) ?_;refine ah tk rfl (ac ?_);refine gn (γ:=OwnRef) tk 27 26 25 (fun s12 g12=>upd (upd (upd (upd (upd (upd (upd (fun _=>.any) 20 (al (j1:Int))) 19 (al (x18.length:Int))) 18 (.list 76 (x18.map dW))) 9 (.box 9 b9 0)) 7 (.box 7 b7 0)) 6 (.box 6 b6 0)) 4 (.box 4 b4 0)) (fun s12 g12=>upd (upd (upd (upd (upd (fun _=>none) 9 (some ⟨b9,(aO x1)⟩)) 7 (some ⟨b7,[(.fn 133 [(.box 4 b4 0),(.box 6 b6 0),(.box 5 b5 0),(.box 7 b7 0)])]⟩)) 6 (some ⟨b6,[(aB s12.2.1)]⟩)) 5 (some ⟨b5,(List.map aB s12.2.2)⟩)) 4 (some ⟨b4,[(.own 1204 g12 (s12.1.map bH).length)]⟩)) (fun s12 g12=>upd (fun _=>none) 1204 (some ⟨g12,3,(s12.1.map bH),true⟩)) g1 H (fun fl12 Hp12 j12 s12 g12 hz12 hl12 x12 fb12 hx12 H hg12=>?_) (fun s12 g12 H=>?_)
   ·refine ab (aw (ab (aa (aR tk (zn j12) (bj cx hx12) ?_))));refine ah tk rfl ?_;refine ba tk fun b11=>?_
    refine aq tk ?_;refine ac (aa (aA tk ?_));refine aA tk ?_
    obtain⟨x33,h33,H⟩:=av H
    have s33:=lJ b4 g12 b6 b5 b7 x12 s12.1 s12.2.1 s12.2.2 _ h33;refine dc (st':=⟨_,_,upd (upd (upd (upd (upd (upd (fun _=>none) 11 (some ⟨b11,(fV x12)⟩)) 9 (some ⟨b9,(aO x1)⟩)) 7 (some ⟨b7,[(.fn 133 [(.box 1000 b4 0),(.box 1001 b6 0),(.box 1002 b5 0),(.box 1003 b7 0)])]⟩)) 6 (some ⟨b6,[(aB s12.2.1)]⟩)) 5 (some ⟨b5,(List.map aB s12.2.2)⟩)) 4 (some ⟨b4,[(.own 1100 g12 (s12.1.map bH).length)]⟩),upd (fun _=>none) 1204 (some ⟨g12,3,(s12.1.map bH),true⟩)⟩) (Gh.le (cj _ _) (bi rfl (iX.of2 (jg.cons (pj.own rfl) jg.nil)) (bi rfl (iX.r) (bi rfl (iX.r) (bi rfl (iX.of2 (jg.cons (pj.fn (jg.cons pj.boxT (jg.cons pj.boxT (jg.cons pj.boxT (jg.cons pj.boxT jg.nil))))) jg.nil)) (bi rfl (iX.r) (bi rfl (iX.r) aK)))))) (bd aL)) ?_;refine dw (g:=133) rfl rfl rfl Tryz.call133 [(4,1000),(6,1001),(5,1002),(7,1003)] [(1204,1100)] rfl rfl rfl rfl (iX.of2 (jg.cons (pj.of_eq rfl) (jg.cons pj.boxT (jg.cons pj.boxT (jg.cons pj.boxT (jg.cons pj.boxT jg.nil)))))) (by rw[eu,eu,eu,eu,cE,bU,cD];rfl) s33 ?_;rintro u33 H33h ⟨gz33_0,rfl,rfl⟩
    refine⟨_,rfl,?_⟩
    refine dc (st':=⟨_,_,upd (upd (upd (upd (upd (upd (fun _=>none) 11 (some ⟨b11,(fV x12)⟩)) 9 (some ⟨b9,(aO x1)⟩)) 7 (some ⟨b7,[(.fn 133 [(.box 4 b4 0),(.box 6 b6 0),(.box 5 b5 0),(.box 7 b7 0)])]⟩)) 6 (some ⟨b6,[(aB x33.2.1)]⟩)) 5 (some ⟨b5,(List.map aB x33.2.2)⟩)) 4 (some ⟨b4,[(.own 1204 gz33_0 (x33.1.map bH).length)]⟩),upd (fun _=>none) 1204 (some ⟨gz33_0,3,(x33.1.map bH),true⟩)⟩) (Gh.le (cj _ _) (bi rfl (iX.of2 (jg.cons (pj.own rfl) jg.nil)) (bi rfl (iX.r) (bi rfl (iX.r) (bi rfl (iX.of2 (jg.cons (pj.fn (jg.cons pj.boxT (jg.cons pj.boxT (jg.cons pj.boxT (jg.cons pj.boxT jg.nil))))) jg.nil)) (bi rfl (iX.r) (bi rfl (iX.r) aK)))))) (bd aL)) ?_;refine ac (aH (be 2 tk rfl ?_));exact bl gz33_0 H hl12 hg12
   refine ab (aa (ah tk rfl (aA tk ?_)));refine az tk (zl _) ?_;refine ah tk rfl (ac ?_);refine gn (γ:=OwnRef) tk 38 37 36 (fun s13 g13=>upd (upd (upd (upd (upd (upd (fun _=>.any) 20 (al (j1:Int))) 19 (al (x18.length:Int))) 18 (.list 76 (x18.map dW))) 7 (.box 7 b7 0)) 6 (.box 6 b6 0)) 4 (.box 4 b4 0)) (fun s13 g13=>upd (upd (upd (upd (fun _=>none) 7 (some ⟨b7,[(.fn 133 [(.box 4 b4 0),(.box 6 b6 0),(.box 5 b5 0),(.box 7 b7 0)])]⟩)) 6 (some ⟨b6,[(aB s13.2.1)]⟩)) 5 (some ⟨b5,(List.map aB s13.2.2)⟩)) 4 (some ⟨b4,[(.own 1204 g13 (s13.1.map bH).length)]⟩)) (fun s13 g13=>upd (fun _=>none) 1204 (some ⟨g13,3,(s13.1.map bH),true⟩)) g12 H (fun fl13 Hp13 j13 s13 g13 hz13 hl13 x13 fb13 hx13 H hg13=>?_) (fun s13 g13 H=>?_)
   ·refine ab (aw (ab (aa ?_)));refine aR tk (zn j13) (bj (fun _=>rfl) hx13) ?_;refine ah tk rfl ?_;refine ba tk fun b13=>?_
    refine aq tk ?_;refine ac (ab (aa (ah tk rfl (aA tk ?_))));refine az tk (zl _) ?_;refine ah tk rfl (ac ?_);refine gn (γ:=OwnRef) tk 45 44 43 (fun s16 g16=>upd (upd (upd (upd (upd (upd (upd (upd (upd (fun _=>.any) 38 (al (j13:Int))) 37 (al (x1.aggregates.length:Int))) 36 (.list 210 (x1.aggregates.map po))) 20 (al (j1:Int))) 19 (al (x18.length:Int))) 18 (.list 76 (x18.map dW))) 7 (.box 7 b7 0)) 6 (.box 6 b6 0)) 4 (.box 4 b4 0)) (fun s16 g16=>upd (upd (upd (upd (fun _=>none) 7 (some ⟨b7,[(.fn 133 [(.box 4 b4 0),(.box 6 b6 0),(.box 5 b5 0),(.box 7 b7 0)])]⟩)) 6 (some ⟨b6,[(aB s16.2.1)]⟩)) 5 (some ⟨b5,(List.map aB s16.2.2)⟩)) 4 (some ⟨b4,[(.own 1204 g16 (s16.1.map bH).length)]⟩)) (fun s16 g16=>upd (fun _=>none) 1204 (some ⟨g16,3,(s16.1.map bH),true⟩)) g13 H (fun fl16 Hp16 j16 s16 g16 hz16 hl16 x16 fb16 hx16 H hg16=>?_) (fun s16 g16 H=>?_)
    ·refine ab (aw (ab (aa (aR tk (zn j16) (bj cx hx16) ?_))));refine ah tk rfl ?_;refine ba tk fun b15=>?_
     refine aq tk ?_;refine ac (aa (aA tk ?_));refine aA tk ?_
     obtain⟨x51,h51,H⟩:=av H
     have s51:=lJ b4 g16 b6 b5 b7 x16 s16.1 s16.2.1 s16.2.2 _ h51;refine dc (st':=⟨_,_,upd (upd (upd (upd (upd (fun _=>none) 15 (some ⟨b15,(fV x16)⟩)) 7 (some ⟨b7,[(.fn 133 [(.box 1000 b4 0),(.box 1001 b6 0),(.box 1002 b5 0),(.box 1003 b7 0)])]⟩)) 6 (some ⟨b6,[(aB s16.2.1)]⟩)) 5 (some ⟨b5,(List.map aB s16.2.2)⟩)) 4 (some ⟨b4,[(.own 1100 g16 (s16.1.map bH).length)]⟩),upd (fun _=>none) 1204 (some ⟨g16,3,(s16.1.map bH),true⟩)⟩) (Gh.le (cj _ _) (bi rfl (iX.of2 (jg.cons (pj.own rfl) jg.nil)) (bi rfl (iX.r) (bi rfl (iX.r) (bi rfl (iX.of2 (jg.cons (pj.fn (jg.cons pj.boxT (jg.cons pj.boxT (jg.cons pj.boxT (jg.cons pj.boxT jg.nil))))) jg.nil)) (bi rfl (iX.r) aK))))) (bd aL)) ?_;refine dw (g:=133) rfl rfl rfl Tryz.call133 [(4,1000),(6,1001),(5,1002),(7,1003)] [(1204,1100)] rfl rfl rfl rfl (iX.of2 (jg.cons (pj.of_eq rfl) (jg.cons pj.boxT (jg.cons pj.boxT (jg.cons pj.boxT (jg.cons pj.boxT jg.nil)))))) (by rw[eu,eu,eu,eu,cE,bU,cD];rfl) s51 ?_;rintro u51 H51h ⟨gz51_0,rfl,rfl⟩
     refine⟨_,rfl,?_⟩
     refine dc (st':=⟨_,_,upd (upd (upd (upd (upd (fun _=>none) 15 (some ⟨b15,(fV x16)⟩)) 7 (some ⟨b7,[(.fn 133 [(.box 4 b4 0),(.box 6 b6 0),(.box 5 b5 0),(.box 7 b7 0)])]⟩)) 6 (some ⟨b6,[(aB x51.2.1)]⟩)) 5 (some ⟨b5,(List.map aB x51.2.2)⟩)) 4 (some ⟨b4,[(.own 1204 gz51_0 (x51.1.map bH).length)]⟩),upd (fun _=>none) 1204 (some ⟨gz51_0,3,(x51.1.map bH),true⟩)⟩) (Gh.le (cj _ _) (bi rfl (iX.of2 (jg.cons (pj.own rfl) jg.nil)) (bi rfl (iX.r) (bi rfl (iX.r) (bi rfl (iX.of2 (jg.cons (pj.fn (jg.cons pj.boxT (jg.cons pj.boxT (jg.cons pj.boxT (jg.cons pj.boxT jg.nil))))) jg.nil)) (bi rfl (iX.r) aK))))) (bd aL)) ?_;refine ac (aH (be 2 tk rfl ?_));exact bl gz51_0 H hl16 hg16
    refine aH (be 2 tk rfl ?_);exact bl g16 H hl13 hg13
   refine aH (be 2 tk rfl ?_);exact bl g13 H hl1 hg1
  have hn1:=rMd (pW h) hr1;refine bs rfl ?_;refine aS s1 g1 hn1 Gh.d
 have H:=dM hn1 Hp1;refine ab (ab (aa (aA tk ?_)));refine ac ?_;refine aE rfl H (fun H=>?_) (fun H=>?_)
 ·refine ao 2 tk rfl ?_;obtain rfl:=ax H;refine aZ tk rfl (ps:=[(.val (.slice none 0 0)),(al 13)]) ⟨_,_,rfl,rfl,_,_,rfl,rfl,rfl⟩ (PLe.of2 (pj.tup (jg.cons (pj.nil tk rfl) (jg.cons (pj.of_eq rfl) jg.nil))))
 refine ap (ab (aa (aA tk ?_)));refine af 2 tk rfl (ac (cS 2 rfl rfl rfl ?_));exact aW tk H rfl
def gw(q:LQuery):Option (Int):=
 ag (nr q) fun x7=>
 some x7.2
theorem oM(q:LQuery)(r:Int)(H:gw q=some r):
  aJ Tryz.prog 157 [(.agg (aO q))] (al r):=by
 unfold gw at H;refine PH.au Tryz.func157 Tryz.ntmps157 ?_;refine ab (aa (aC ?_));refine ah tk rfl (ac (ab (aa (ah tk rfl ?_))))
 obtain⟨x7,h7,H⟩:=av H
 have s7:=W_query_most q _ h7;refine ak Tryz.call205 (iX.r) s7 ?_;refine af 5 tk rfl (ac (ao 2 tk rfl ?_));exact aW tk H rfl
def iW(kind:Int)(a:List LCol)(b:List LCol):Option ((List LCol)×Int):=
 cond ((a.length:Int) !=(b.length:Int))
  (some ([],7))
  (ag (aG (σ:=List LCol) (ρ:=((List LCol)×Int)) (fun(j1:Nat) (x1:LCol) (s1:List LCol)=>
   ag (getI b (j1:Int)) fun(x29:LCol)=>
   cond (x1.kind !=x29.kind)
    (some (.ret ([],7)))
    (cond x1.nullable
     (ag (getI s1 (j1:Int)) fun(x51:LCol)=>
     letP (s1.set ((j1:Int).toNat) (LCol.mk x51.name x51.kind true)) fun(y8:List LCol)=>
     some (.next y8))
     (cond (kind==(6:Int))
      (ag (getI b (j1:Int)) fun(x46:LCol)=>
      ag (getI s1 (j1:Int)) fun(x51:LCol)=>
      letP (s1.set ((j1:Int).toNat) (LCol.mk x51.name x51.kind x46.nullable)) fun(y9:List LCol)=>
      some (.next y9))
      (ag (getI s1 (j1:Int)) fun(x51:LCol)=>
      letP (s1.set ((j1:Int).toNat) (LCol.mk x51.name x51.kind false)) fun(y10:List LCol)=>
      some (.next y10))))) 0 a a) fun fl1=>fl1.thenR fun(s1:List LCol)=>
  some (s1,0))
theorem tl(kind:Int)(a:List LCol)(b:List LCol)(r:(List LCol)×Int)(H:iW kind a b=some r):
  aJ Tryz.prog 236 [(al kind),(.list 93 (a.map aF)),(.list 93 (b.map aF))] (.tup [(.list 93 (r.1.map aF)),(al r.2)]):=by
 unfold iW at H;refine PH.au Tryz.func236 Tryz.ntmps236 ?_;refine ao 2 tk rfl (ab (ab (aa (ah tk rfl (az tk (zl _) ?_)))));refine ah tk rfl (az tk (zl _) ?_);refine ah tk rfl (ac ?_);refine aE rfl H (fun H=>?_) (fun H=>?_)
 ·refine ao 2 tk rfl ?_;obtain rfl:=ax H;refine aZ tk rfl (ps:=[(.val (.slice none 0 0)),(al 7)]) ⟨_,_,rfl,rfl,_,_,rfl,rfl,rfl⟩ (PLe.of2 (pj.tup (jg.cons (pj.nil tk rfl) (jg.cons (pj.of_eq rfl) jg.nil))))
 refine ap (ab (aa (ah tk rfl ?_)));have s16:=qO (m:=16) a;refine jG Tryz.call176 (iX.r) s16 (fun g16=>?_);refine ah tk rfl (ac (ab (ab (aa (ah tk rfl (az tk (zl _) ?_))))));refine ah tk rfl (ac ?_);refine dS (γ:=OwnRef) tk 19 18 1 (fun s1 g1=>upd (upd (upd (fun _=>.any) 8 (.own 16 g1 (s1.map aF).length)) 2 (.list 93 (b.map aF))) 0 (al kind)) nB (fun s1 g1=>upd (fun _=>none) 16 (some ⟨g1,93,(s1.map aF),true⟩)) g16 H (fun fl1 Hp1 j1 s1 g1 hz1 hl1 x1 fb1 hx1 H hg1=>?_) (fun s1 g1 H=>?_)
 ·refine ab (aw (ao 2 tk rfl (ab (ab ?_))));refine iL (tag:=16) rfl (fun ho16=>?_);refine bn tk mok ⟨false,false,[]⟩ [0,1,2,3,4,5,6,7,8,9,10] rfl (by decide+kernel) rfl (aN 2 rfl ?_);refine bE (zn j1) (bj (fun _=>rfl) hx1) ?_;refine aN 4 rfl ?_
  obtain⟨x29,k29,H⟩:=br H
  refine bE k29.1 (aM (fun _=>rfl) k29.2) ?_;refine aN 3 rfl (bm ?_);refine aE rfl H (fun H=>?_) (fun H=>?_)
  ·refine ao 2 tk rfl ?_;obtain rfl:=ax H;have e1:fl1= .ret _:=hg1;subst e1;obtain rfl:=aQ Hp1;refine aZ tk rfl (ps:=[(.val (.slice none 0 0)),(al 7)]) ⟨_,_,rfl,rfl,_,_,rfl,rfl,rfl⟩ (PLe.of2 (pj.tup (jg.cons (pj.nil tk rfl) (jg.cons (pj.of_eq rfl) jg.nil))))
  refine ap (aa (af 4 tk rfl ?_));refine aR tk (zn j1) (bj (fun _=>rfl) hx1) ?_;refine af 3 tk rfl ?_;refine bh rfl rfl rfl H (fun H=>?_) (fun H=>?_)
  ·refine af 10 tk rfl ?_
   obtain⟨x51,k51,H⟩:=br H
   refine lU (tag:=16) rfl (fun ho16=>?_);refine kZ tk ⟨k51.1,(dB k51.2)⟩ (dK ho16 k51.2) ?_;refine ah tk rfl ?_
   obtain⟨y8,hy8,H⟩:=cp H
   refine oS tk rfl rfl rfl rfl rfl rfl rfl rfl (by rw[zl];exact(zg.1 k51.2).1) (PLe.refl _ _) rfl rfl rfl rfl (by decide) (fo (fun _=>rfl) k51.2 rfl hy8) ?_;refine ac (aH (be 2 tk rfl ?_));exact bl g1 H hl1 hg1 (Gh.le (ay (ay (bG (PLe.q (eV (by omega))) (ay (ay (bG (PLe.of2 (pj.of_eq (congrArg (PV.own 16 g1) (eQ (f:=aF) hy8)))) bg)))))) aK (bd aL))
  refine af 3 tk rfl ?_;refine bh rfl rfl rfl H (fun H=>?_) (fun H=>?_)
  ·refine af 2 tk rfl ?_
   obtain⟨x46,k46,H⟩:=br H
   refine aR tk k46.1 (aM (fun _=>rfl) k46.2) ?_;refine af 4 tk rfl ?_
   obtain⟨x51,k51,H⟩:=br H
   refine lU (tag:=16) rfl (fun ho16=>?_);refine kZ tk ⟨k51.1,(dB k51.2)⟩ (dK ho16 k51.2) ?_;refine ah tk rfl ?_
   obtain⟨y9,hy9,H⟩:=cp H
   refine oS tk rfl rfl rfl rfl rfl rfl rfl rfl (by rw[zl];exact(zg.1 k51.2).1) (PLe.refl _ _) rfl rfl rfl rfl (by decide) (fo (fun _=>rfl) k51.2 rfl hy9) ?_;refine ac (aH (be 2 tk rfl ?_));exact bl g1 H hl1 hg1 (Gh.le (ay (ay (bG (PLe.q (eV (by omega))) (ay (ay (bG (PLe.of2 (pj.of_eq (congrArg (PV.own 16 g1) (eQ (f:=aF) hy9)))) bg)))))) aK (bd aL))
  refine af 7 tk rfl ?_
  obtain⟨x51,k51,H⟩:=br H
  refine lU (tag:=16) rfl (fun ho16=>?_);refine kZ tk ⟨k51.1,(dB k51.2)⟩ (dK ho16 k51.2) ?_;refine ah tk rfl ?_
  obtain⟨y10,hy10,H⟩:=cp H
  refine oS tk rfl rfl rfl rfl rfl rfl rfl rfl (by rw[zl];exact(zg.1 k51.2).1) (PLe.refl _ _) rfl rfl rfl rfl (by decide) (fo (fun _=>rfl) k51.2 rfl hy10) ?_;refine ac (aH (be 2 tk rfl ?_));exact bl g1 H hl1 hg1 (Gh.le (ay (ay (bG (PLe.q (eV (by omega))) (ay (ay (bG (PLe.of2 (pj.of_eq (congrArg (PV.own 16 g1) (eQ (f:=aF) hy10)))) bg)))))) aK (bd aL))
 refine ao 3 tk rfl (cS 6 rfl rfl rfl ?_);exact aW tk H rfl
def dU(sA:List (List UInt8))(v:List UInt8):Option (Bool):=
 ag (fP sA v) fun x7=>
 some (decide (x7≥(0:Int)))
theorem mJ(sA:List (List UInt8))(v:List UInt8)(r:Bool)(H:dU sA v=some r):
  aJ Tryz.prog 31 [(.list 9 (sA.map lC)),(.str v)] (aB r):=by
 unfold dU at H;refine PH.au Tryz.func31 Tryz.ntmps31 ?_;refine ao 1 tk rfl (ab (aa (af 2 tk rfl ?_)))
 obtain⟨x7,h7,H⟩:=av H
 have s7:=nP sA v _ h7;refine ak Tryz.call61 (iX.r) s7 ?_;refine af 2 tk rfl (ac ?_);exact aW tk H rfl
def cd(sA:List LCol)(f:LCol→Option (Bool)):Option (Bool):=
 ag (cK sA f) fun x7=>
 some (decide (x7≥(0:Int)))
theorem kD{g_f:FuncId}{caps_f:List PV}(sA:List LCol)(f:LCol→Option (Bool))(hg_f:∀(vs:Array Value) (w:World),(callFunc g_f vs).run Tryz.prog w= .ok (.enter g_f vs) w)(hp_f:∀a0 r,f a0=some r→aJ Tryz.prog g_f ((.agg (aF a0))::caps_f) (aB r))(r:Bool)(H:cd sA f=some r):
  aJ Tryz.prog 208 [(.list 93 (sA.map aF)),(.fn g_f caps_f)] (aB r):=by
 unfold cd at H;refine PH.au Tryz.func208 Tryz.ntmps208 ?_;refine ao 1 tk rfl (ab (aa (af 2 tk rfl ?_)))
 obtain⟨x7,h7,H⟩:=av H
 have s7:=hP sA f hg_f hp_f _ h7;refine ak Tryz.call170 (iX.r) s7 ?_;refine af 2 tk rfl (ac ?_);exact aW tk H rfl
def hJ(c:LProcedureChecker)(name:List UInt8):Option (LTable×Bool):=
 ag (bZ c.s.tables (fun a0=>some (ef a0 name))) fun x11=>
 cond (decide (x11<(0:Int)))
  (some ((LTable.mk [] [] []),false))
  (ag (getI c.s.tables x11) fun(x19:LTable)=>
  some (x19,true))
theorem px(c:LProcedureChecker)(name:List UInt8)(r:LTable×Bool)(H:hJ c name=some r):
  aJ Tryz.prog 178 [(.agg (ce c)),(.str name)] (.tup [(.agg (bc r.1)),(aB r.2)]):=by
 unfold hJ at H;refine PH.au Tryz.func178 Tryz.ntmps178 ?_;refine ab (aa (aC ?_));refine aC ?_;refine ba tk fun b4=>?_
 refine ah tk rfl (ac (ab (aa (af 4 tk rfl ?_))))
 obtain⟨x11,h11,H⟩:=av H
 have s11:=dR c.s.tables (fun a0=>some (ef a0 name)) Tryz.call221 (fun a0 r h=>(ax h)▸oV a0 name) _ h11;refine ak Tryz.call55 (iX.r) s11 ?_;refine ah tk rfl (ac (ab (ao 2 tk rfl ?_)));refine aE rfl H (fun H=>?_) (fun H=>?_)
 ·refine ab (aa (ah tk rfl (aq tk ?_)));refine ah tk rfl (ac ?_);obtain rfl:=ax H;refine aZ tk rfl (ps:=[(.agg [(.str []),(.val (.slice none 0 0)),(.val (.slice none 0 0))]),(aB false)]) ⟨_,_,rfl,⟨_,_,_,_,_,rfl,rfl,rfl,rfl⟩,_,_,rfl,rfl,rfl⟩ (PLe.of2 (pj.tup (jg.cons (pj.agg (jg.cons (pj.of_eq rfl) (jg.cons (pj.nil tk rfl) (jg.cons (pj.nil tk rfl) jg.nil)))) (jg.cons (pj.of_eq rfl) jg.nil))))
 refine ap (ab (aa (af 4 tk rfl ?_)))
 obtain⟨x19,k19,H⟩:=br H
 refine aR tk k19.1 (aM (fun _=>rfl) k19.2) ?_;refine ah tk rfl (aq tk ?_);refine ah tk rfl (ac ?_);obtain rfl:=ax H;refine aZ tk rfl (ps:=[(.agg (bc x19)),(aB true)]) ⟨_,_,rfl,⟨_,_,_,_,_,rfl,rfl,rfl,rfl⟩,_,_,rfl,rfl,rfl⟩ (PLe.q rfl)
def iR(rows:Rz):Option (Rz):=
 ag (aG (σ:=Rz) (ρ:=Empty) (fun(_:Nat) (x1:Rq) (s1:Rz)=>
  ag (db 24 s1 ([x1]:Rz)) fun(x16:Rz)=>
  some (.next x16)) 0 rows []) fun fl1=>fl1.thenP fun(s1:Rz)=>
 some s1
theorem qf{m:Nat}(rows:Rz)(r:Rz)(H:iR rows=some r):
  gq Tryz.prog 57 [(.list 54 (rows.map (am 69 ae)))] (ly m 54 (r.map (am 69 ae))):=by
 unfold iR at H;refine PH.au Tryz.func57 Tryz.ntmps57 ?_;refine ao 1 tk rfl (ao 1 tk rfl (ab (ab (aa (ah tk rfl (az tk (zl _) ?_))))));refine ah tk rfl (ac (iw tk 3 16 (e:=54) rfl rfl ?_));refine gn (γ:=OwnRef) tk 8 7 6 (fun s1 g1=>upd (fun _=>.any) 3 (.own 16 g1 (s1.map (am 69 ae)).length)) nB (fun s1 g1=>upd (fun _=>none) 16 (some ⟨g1,54,(s1.map (am 69 ae)),true⟩)) (⟨none,0⟩) H (fun fl1 Hp1 j1 s1 g1 hz1 hl1 x1 fb1 hx1 H hg1=>?_) (fun s1 g1 H=>?_)
 ·refine ab (aw (ab (aa ?_)));refine aR tk (zn j1) (bj (fun _=>rfl) hx1) ?_;refine af 2 tk rfl (ac (aa (af 2 tk rfl ?_)));have s14:=clone_85 (m:=14) x1;refine ak Tryz.call85 (iX.r) (PFun.hX s14) ?_;refine bX tk (rows':=List.map (am 69 ae) ([x1]:Rz)) (fW.refl _) ?_
  obtain⟨x16,h16,H⟩:=av H
  have k16:=cf h16;refine cg (rows2':=List.map (am 69 ae) ([x1]:Rz)) (rows':=List.map (am 69 ae) x16) tk rfl rfl rfl rfl rfl rfl rfl rfl rfl rfl rfl rfl rfl (fW.refl _) (dl k16.1) (dg k16.2.1) (dh k16.2.2) fun g16=>?_
  refine ah tk rfl (ac (aH (be 2 tk rfl ?_)));exact bl g16 H hl1 hg1
 refine ao 2 tk rfl ?_;obtain rfl:=ax H;refine jf tk rfl
def il(t:LTable)(key:Rq):Option (Int):=
 cond ((key.length:Int) !=(t.primaryKey.length:Int))
  (some 3)
  (ag (aG (σ:=Unit) (ρ:=(Int)) (fun(j1:Nat) (x1:LVal) (_:Unit)=>
   letP (cA x1) fun x22=>
   cond (x22 !=(0:Int))
    (some (.ret x22))
    (ag (getI t.primaryKey (j1:Int)) fun(x33:Int)=>
    ag (getI t.columns x33) fun(x35:LCol)=>
    cond (x1.kind !=x35.kind)
     (some (.ret 7))
     (some (.next ())))) 0 key ()) fun fl1=>fl1.thenR fun(_:Unit)=>
  some 0)
theorem rM(t:LTable)(key:Rq)(r:Int)(H:il t key=some r):
  aJ Tryz.prog 84 [(.agg (bc t)),(.list 69 (key.map ae))] (al r):=by
 unfold il at H;refine PH.au Tryz.func84 Tryz.ntmps84 ?_;refine ab (aa (aC ?_));refine ah tk rfl (ac (ab (ab (aa (ah tk rfl (az tk (zl _) ?_))))));refine af 2 tk rfl (az tk (zl _) ?_);refine ah tk rfl (ac ?_);refine aE rfl H (fun H=>?_) (fun H=>?_)
 ·refine ao 1 tk rfl ?_;exact aW tk H rfl
 refine ap (ab (ab (aa (ah tk rfl (az tk (zl _) ?_)))));refine ah tk rfl (ac ?_);refine dS tk 16 15 14 (fun s1 g1=>upd (fun _=>.any) 2 (.ptr (bc t))) nB nO () H (fun fl1 Hp1 j1 s1 g1 hz1 hl1 x1 fb1 hx1 H hg1=>?_) (fun s1 g1 H=>?_)
 ·refine ab (aw (ab (aa (ah tk rfl ?_))));refine aR tk (zn j1) (bj (fun _=>rfl) hx1) ?_;refine ah tk rfl ?_;refine ba tk fun b6=>?_
  refine ah tk rfl (aq tk ?_);refine ac (ab (ab (aa (aA tk ?_))))
  obtain⟨x22,h22,H⟩:=cp H
  have s22:=mH x1;rw[h22]at s22;refine ak Tryz.call110 (iX.r) s22 ?_;refine ah tk rfl (ac (ao 2 tk rfl ?_));refine aE rfl H (fun H=>?_) (fun H=>?_)
  ·refine ao 2 tk rfl ?_;obtain rfl:=ax H;have e1:fl1= .ret _:=hg1;subst e1;obtain rfl:=aQ Hp1;refine aZ tk rfl (ps:=[(al x22)]) ⟨_,_,rfl,rfl,rfl⟩ (PLe.q rfl)
  refine ap (ab (bn tk mok ⟨true,false,[29,31,34,37]⟩ [0,1,2,3,4,5,6,7,8,9,10,11,12] rfl (by decide+kernel) rfl (bN rfl (bK ?_))));refine aN 5 rfl ?_
  obtain⟨x33,k33,H⟩:=br H
  refine bE k33.1 (aM (fun _=>rfl) k33.2) ?_;refine bN rfl ?_
  obtain⟨x35,k35,H⟩:=br H
  refine bE k35.1 (aM (fun _=>rfl) k35.2) ?_;refine aN 3 rfl (bm ?_);refine aE rfl H (fun H=>?_) (fun H=>?_)
  ·refine ao 1 tk rfl ?_;obtain rfl:=ax H;have e1:fl1= .ret _:=hg1;subst e1;obtain rfl:=aQ Hp1;refine aZ tk rfl (ps:=[(al 7)]) ⟨_,_,rfl,rfl,rfl⟩ (PLe.q rfl)
  refine ap (aH (be 2 tk rfl ?_));exact bl () H hl1 hg1
 refine ao 1 tk rfl ?_;exact aW tk H rfl
def bS(slices:Rz):Option (Rq):=
 ag (aG (σ:=Int) (ρ:=Empty) (fun(_:Nat) (x1:Rq) (s1:Int)=>
  cond (decide ((IntKind.i64.wrap (s1+(x1.length:Int)))<(0:Int)))
   (none)
   (some (.next (IntKind.i64.wrap (s1+(x1.length:Int)))))) 0 slices 0) fun fl1=>fl1.thenP fun(s1:Int)=>
 ag (qL 32 s1) fun(_:Unit)=>
 ag (aG (σ:=Rq) (ρ:=Empty) (fun(_:Nat) (x2:Rq) (s2:Rq)=>
  ag (db 32 s2 x2) fun(x33:Rq)=>
  some (.next x33)) 0 slices []) fun fl2=>fl2.thenP fun(s2:Rq)=>
 some s2
theorem jC{m:Nat}(slices:Rz)(r:Rq)(H:bS slices=some r):
  gq Tryz.prog 210 [(.list 54 (slices.map (am 69 ae)))] (ly m 69 (r.map ae)):=by
 unfold bS at H;refine PH.au Tryz.func210 Tryz.ntmps210 ?_;refine ao 1 tk rfl (ao 1 tk rfl (ab (ab (aa (ah tk rfl (az tk (zl _) ?_))))));refine ah tk rfl (ac ?_);refine gn tk 11 10 9 (fun s1 g1=>upd (upd (fun _=>.any) 3 (al s1)) 0 (.list 54 (slices.map (am 69 ae)))) nB nO () H (fun fl1 Hp1 j1 s1 g1 hz1 hl1 x1 fb1 hx1 H hg1=>?_) (fun s1 g1 H=>?_)
 ·refine ab (aw (ab (aa ?_)));refine aR tk (zn j1) (bj (fun _=>rfl) hx1) ?_;refine af 2 tk rfl (ac (ab (aa (af 2 tk rfl (az tk (zl _) ?_)))));refine af 2 tk rfl (ac (ao 2 tk rfl ?_));refine aE rfl H (fun H=>?_) (fun H=>?_)
  ·cases H
  refine ap (aH (be 2 tk rfl ?_));exact bl () H hl1 hg1
 refine ab (aa (ah tk rfl ?_))
 obtain⟨_,h24,H⟩:=av H
 have s24:=grow_238 (m:=24) s1 h24;refine jG Tryz.call238 (iX.r) s24 (fun g24=>?_);refine ah tk rfl (ac (ab (ab (aa (ah tk rfl (az tk (zl _) ?_))))));refine ah tk rfl (ac ?_);refine gn (γ:=OwnRef) tk 27 26 25 (fun s2 g2=>upd (fun _=>.any) 6 (.own 24 g2 (s2.map ae).length)) nB (fun s2 g2=>upd (fun _=>none) 24 (some ⟨g2,69,(s2.map ae),true⟩)) g24 H (fun fl2 Hp2 j2 s2 g2 hz2 hl2 x2 fb2 hx2 H hg2=>?_) (fun s2 g2 H=>?_)
 ·refine ab (aw (ab (aa ?_)));refine aR tk (zn j2) (bj (fun _=>rfl) hx2) ?_;refine af 2 tk rfl (ac (aa (af 2 tk rfl ?_)))
  obtain⟨x33,h33,H⟩:=av H
  have k33:=cf h33;refine cg (rows2':=List.map ae x2) (rows':=List.map ae x33) tk rfl rfl rfl rfl rfl rfl rfl rfl rfl rfl rfl rfl rfl (fW.refl _) (dl k33.1) (dg k33.2.1) (dh k33.2.2) fun g33=>?_
  refine ah tk rfl (ac (aH (be 2 tk rfl ?_)));exact bl g33 H hl2 hg2
 refine ao 2 tk rfl ?_;obtain rfl:=ax H;refine jf tk rfl
def jH(y:Rq)(c0:Rq):Option (Bool):=
 ag (bW c0 y) fun x6=>
 some x6
theorem W_query_less_1(y:Rq)(c0:Rq)(r:Bool)(H:jH y c0=some r):
  aJ Tryz.prog 212 [(.list 69 (y.map ae)),(.ptr [(.list 69 (c0.map ae))])] (aB r):=by
 unfold jH at H;refine PH.au Tryz.func212 Tryz.ntmps212 ?_;refine ao 1 tk rfl (ab (aa (af 2 tk rfl ?_)))
 obtain⟨x6,h6,H⟩:=av H
 have s6:=gQ c0 y _ h6;refine ak Tryz.call50 (iX.r) s6 ?_;refine ah tk rfl (ac ?_);exact aW tk H rfl
def dv(sA:Rz)(del:Rq→Option (Bool)):Option Rz:=
 ag (bI sA del) fun x10=>
 ag (eY (x10.2.length=sA.length) ()) fun(_:Unit)=>
 cond (x10.1==(-1))
  (some x10.2)
  (ag (fY (σ:=Rz×Int×Int) (ρ:=Empty) (fun(s1:Rz×Int×Int)=>
   cond (decide (s1.2.2<(s1.1.length:Int)))
    (ag (getI s1.1 s1.2.2) fun(x24:Rq)=>
    ag (del x24) fun x28=>
    cond (!x28)
     (ag (getI s1.1 s1.2.1) fun(_:Rq)=>
     letP (s1.1.set s1.2.1.toNat x24) fun(y4:Rz)=>
     some (.next (y4,(IntKind.i64.wrap (s1.2.1+(1:Int))),(IntKind.i64.wrap (s1.2.2+(1:Int))))))
     (some (.next (s1.1,s1.2.1,(IntKind.i64.wrap (s1.2.2+(1:Int)))))))
    (some (.brk (s1.1,s1.2.1,s1.2.2)))) (x10.2,x10.1,(IntKind.i64.wrap (x10.1+(1:Int))))) fun fl1=>fl1.thenP fun(s1:Rz×Int×Int)=>
  ag (cutI s1.1 s1.2.1) fun(y5:Rz)=>
  ag (cutI y5 s1.2.1) fun(y6:Rz)=>
  some y6)
theorem lM(g_sA:OwnRef){g_del:FuncId}{caps_del:List PV}(sA:Rz)(del:Rq→Option (Bool))(hg_del:∀(vs:Array Value) (w:World),(callFunc g_del vs).run Tryz.prog w= .ok (.enter g_del vs) w)(hp_del:∀a0 r,del a0=some r→aJ Tryz.prog g_del ((.list 69 (a0.map ae))::caps_del) (aB r))(r:Rz)(H:dv sA del=some r):
  PH Tryz.prog 163 [(.own 0 g_sA (sA.map (am 69 ae)).length),(.fn g_del caps_del)] ⟨fun _=>none,upd (fun _=>none) 0 (some ⟨g_sA,54,(sA.map (am 69 ae)),true⟩)⟩ (fun u H=>u= .own 0 g_sA (r.map (am 69 ae)).length∧H=⟨fun _=>none,upd (fun _=>none) 0 (some ⟨g_sA,54,(r.map (am 69 ae)),true⟩)⟩):=by
 unfold dv at H;refine PH.au Tryz.func163 Tryz.ntmps163 ?_;refine ao 1 tk rfl (ab (aa (af 2 tk rfl ?_)))
 obtain⟨x10,h10,H⟩:=av H
 have s10:=fM g_sA sA del hg_del hp_del _ h10
 obtain⟨_,q10_0,H⟩:=av H
 have l10_0:=(dH q10_0).1;have z10_0:(List.map (am 69 ae) sA).length=(List.map (am 69 ae) x10.2).length:=by simpa using(l10_0).symm
 refine dw (g:=211) rfl rfl rfl Tryz.call211 [] [(0,0)] rfl rfl rfl rfl (iX.of2 (jg.cons (pj.own rfl) (jg.cons (pj.of_eq rfl) jg.nil))) (by rw[cE,bU,cD];rfl) s10 ?_;rintro u10 H10h ⟨rfl,rfl⟩
 refine⟨_,rfl,?_⟩
 refine dc (st':=⟨_,_,fun _=>none,upd (fun _=>none) 0 (some ⟨g_sA,54,(x10.2.map (am 69 ae)),true⟩)⟩) (Gh.le (cj _ _) aK (bd aL)) ?_;refine ah tk rfl (ac (ab (ao 2 tk rfl ?_)));refine aE rfl H (fun H=>?_) (fun H=>?_)
 ·refine ao 2 tk rfl ?_;obtain rfl:=ax H;refine eR (st':=⟨42,upd (fun _=>.any) 4 (.own 0 g_sA (sA.map (am 69 ae)).length),fun _=>none,upd (fun _=>none) 0 (some ⟨g_sA,54,(x10.2.map (am 69 ae)),true⟩)⟩) (Gh.le (ay bg) aK (bd aL)) ?_;refine gV tk rfl (ps:=[(.own 0 g_sA (sA.map (am 69 ae)).length)]) ⟨_,_,rfl,rfl,rfl⟩ (PLe.of2 (pj.own z10_0)) ⟨rfl,rfl⟩
 refine ap (ab (ao 3 tk rfl ?_))
 obtain⟨fl1,H1,Hp1⟩:=av H
 refine fL (τ:=Rz×Int×Int) (γ:=Unit) (fun s1 g1=>⟨42,upd (upd (fun _=>.any) 5 (al s1.2.1)) 0 (.own 0 g_sA (s1.1.map (am 69 ae)).length),fun _=>none,upd (fun _=>none) 0 (some ⟨g_sA,54,(s1.1.map (am 69 ae)),true⟩)⟩) (fun t=>fl1= .next t) ?_ (fun s1 g1 hn1=>?_)
 ·refine aw ?_;refine ic (fun s1 g1=>⟨42,upd (upd (upd (upd (fun _=>.any) 6 (al s1.2.2)) 5 (al s1.2.1)) 1 (.fn g_del caps_del)) 0 (.own 0 g_sA (s1.1.map (am 69 ae)).length),fun _=>none,upd (fun _=>none) 0 (some ⟨g_sA,54,(s1.1.map (am 69 ae)),true⟩)⟩) () H1 (Gh.le (bG (PLe.of2 (pj.of_eq (congrArg (PV.own 0 g_sA) z10_0))) (ay (ay (ay bg)))) aK (bd aL)) (fun m1 s1 g1 hr1=>?_)
  obtain⟨fb1,H,hg1⟩:=fK hr1
  refine ab (ab (aa (af 2 tk rfl (jp tk (zl _) ?_))));refine ah tk rfl (ac ?_);refine aE rfl H (fun H=>?_) (fun H=>?_)
  ·refine ap (ab (aw (ab (aa (af 2 tk rfl ?_)))))
   obtain⟨x24,k24,H⟩:=br H
   refine lU (tag:=0) rfl (fun ho0=>?_);refine kZ tk ⟨k24.1,(dB k24.2)⟩ (dK ho0 k24.2) ?_;refine rW tk rfl rfl rfl rfl rfl rfl rfl (aM (fun _=>rfl) k24.2) rfl rfl ?_;refine ah tk rfl (ac (ab (aa (af 2 tk rfl ?_))))
   obtain⟨x28,h28,H⟩:=av H
   refine ak hg_del (iX.r) (hp_del _ _ h28) ?_;refine ah tk rfl (ac ?_);refine aE rfl H (fun H=>?_) (fun H=>?_)
   ·refine ab (aa (af 3 tk rfl ?_))
    obtain⟨x33,k33,H⟩:=br H
    refine lU (tag:=0) rfl (fun ho0=>?_);refine kZ tk ⟨k33.1,(dB k33.2)⟩ (dK ho0 k33.2) ?_
    obtain⟨y4,hy4,H⟩:=cp H
    refine oS tk rfl rfl rfl rfl rfl rfl rfl rfl (by rw[zl];exact(zg.1 k33.2).1) (PLe.refl _ _) rfl rfl rfl rfl (by decide) (fo (fun _=>rfl) k33.2 rfl hy4) ?_;refine ac (be 3 tk rfl (aH (be 3 tk rfl ?_)));obtain rfl:=ax H;refine eF (y4,(IntKind.i64.wrap (s1.2.1+(1:Int))),(IntKind.i64.wrap (s1.2.2+(1:Int)))) () hg1 (Gh.le (bG (PLe.of2 (pj.of_eq (congrArg (PV.own 0 g_sA) (eQ (f:=(am 69 ae)) hy4)))) (ay (ay (ay bg)))) aK (bd aL))
   refine ap (aH (be 3 tk rfl ?_));obtain rfl:=ax H;refine eF (s1.1,s1.2.1,(IntKind.i64.wrap (s1.2.2+(1:Int)))) () hg1 Gh.d
  refine bs rfl ?_;obtain rfl:=ax H;refine aS (s1.1,s1.2.1,s1.2.2) () hg1 Gh.d
 have H:=dM hn1 Hp1;refine ab (aa (af 2 tk rfl ?_))
 obtain⟨y5,hy5,H⟩:=av H
 have ky5:=cutI_some hy5;refine Ao.ownC (tag:=0) rfl (fun hcy5=>?_);have hny5:(s1.1.map (am 69 ae)).length=(List.map (am 69 ae) s1.1).length:=rfl;have hmy5:=ky5.2.1;rw[←zl (f:=(am 69 ae)),←hny5]at hmy5;rw[←hny5]at hcy5;refine vh (l:=s1.2.1.toNat) (h:=(s1.1.map (am 69 ae)).length) (m:=g_sA.cap) tk rfl rfl rfl rfl rfl rfl ⟨_,_,rfl,(Int.toNat_of_nonneg ky5.1).symm⟩ rfl rfl (by decide) hmy5 hcy5 (Nat.le_refl _) rfl (dc (Gh.cutO (tag:=0) (rows':=List.map (am 69 ae) y5) rfl s1.2.1.toNat (by rw[←List.map_take,ky5.2.2])) ?_);refine vp (tag:=0) (rows:=List.map (am 69 ae) y5) tk rfl rfl rfl rfl rfl rfl rfl rfl rfl (p:=s1.2.1.toNat) (q:=(s1.1.map (am 69 ae)).length) (m:=g_sA.cap) (by rw[zl,ky5.2.2,List.length_take];exact Nat.min_le_left _ _) hmy5 hcy5 (Nat.le_refl _) rfl ?_;refine ac (ab (aa (af 2 tk rfl ?_)))
 obtain⟨y6,hy6,H⟩:=av H
 have ky6:=cutI_some hy6;refine Ao.cutP (rows':=List.map (am 69 ae) y6) tk rfl rfl rfl rfl rfl rfl rfl rfl ⟨ky6.1,by rw[zl];exact ky6.2.1⟩ (by rw[←List.map_take,ky6.2.2]) rfl rfl ?_;refine ah tk rfl (ac ?_);obtain rfl:=ax H;refine eR (st':=⟨42,upd (fun _=>.any) 4 (.own 0 g_sA (y6.map (am 69 ae)).length),fun _=>none,upd (fun _=>none) 0 (some ⟨g_sA,54,(y6.map (am 69 ae)),true⟩)⟩) (Gh.le (ay bg) aK (bd aL)) ?_;refine gV tk rfl (ps:=[(.own 0 g_sA (y6.map (am 69 ae)).length)]) ⟨_,_,rfl,rfl,rfl⟩ (PLe.of2 (pj.own rfl)) ⟨rfl,rfl⟩
def gC(y:Rq)(c0:Rq):Option (Bool):=
 ag (bW c0 y) fun x6=>
 some x6
theorem sJ(y:Rq)(c0:Rq)(r:Bool)(H:gC y c0=some r):
  aJ Tryz.prog 215 [(.list 69 (y.map ae)),(.ptr [(.list 69 (c0.map ae))])] (aB r):=by
 unfold gC at H;refine PH.au Tryz.func215 Tryz.ntmps215 ?_;refine ao 1 tk rfl (ab (aa (af 2 tk rfl ?_)))
 obtain⟨x6,h6,H⟩:=av H
 have s6:=gQ c0 y _ h6;refine ak Tryz.call50 (iX.r) s6 ?_;refine ah tk rfl (ac ?_);exact aW tk H rfl
def fZ(op:List UInt8)(l:Rq):Option (LVal):=
 cond (op==([99,111,117,110,116]:List UInt8))
  (letP (gp (l.length:Int)) fun x13=>
  some x13)
  (cond ((l.length:Int)==(0:Int))
   (some (LVal.mk 0 0 []))
   (ag (getI l 0) fun(x19:LVal)=>
   ag (aG (σ:=Int×LVal) (ρ:=Empty) (fun(_:Nat) (x1:LVal) (s1:Int×LVal)=>
    cond (op==([109,105,110]:List UInt8))
     (letP (mF x1 s1.2) fun x36=>
     cond x36
      (some (.next ((IntKind.i64.wrap (s1.1+x1.int)),x1)))
      (cond (op==([109,97,120]:List UInt8))
       (letP (mF s1.2 x1) fun x44=>
       cond x44
        (some (.next ((IntKind.i64.wrap (s1.1+x1.int)),x1)))
        (some (.next ((IntKind.i64.wrap (s1.1+x1.int)),s1.2))))
       (some (.next ((IntKind.i64.wrap (s1.1+x1.int)),s1.2)))))
     (cond (op==([109,97,120]:List UInt8))
      (letP (mF s1.2 x1) fun x44=>
      cond x44
       (some (.next ((IntKind.i64.wrap (s1.1+x1.int)),x1)))
       (some (.next ((IntKind.i64.wrap (s1.1+x1.int)),s1.2))))
      (some (.next ((IntKind.i64.wrap (s1.1+x1.int)),s1.2))))) 0 l (0,x19)) fun fl1=>fl1.thenP fun(s1:Int×LVal)=>
   cond (op==([115,117,109]:List UInt8))
    (letP (gp s1.1) fun x52=>
    some x52)
    (some s1.2)))
theorem qm(op:List UInt8)(l:Rq)(r:LVal)(H:fZ op l=some r):
  aJ Tryz.prog 244 [(.str op),(.list 69 (l.map ae))] (.agg (ae r)):=by
 unfold fZ at H;refine PH.au Tryz.func244 Tryz.ntmps244 ?_;refine ab (aa ?_);refine ba tk fun b4=>?_
 refine ac (ab (ao 2 tk rfl ?_));refine aE rfl H (fun H=>?_) (fun H=>?_)
 ·refine ab (aa (ah tk rfl (az tk (zl _) ?_)))
  obtain⟨x13,h13,H⟩:=cp H
  have s13:=rZ (l.length:Int);rw[h13]at s13;refine ak Tryz.call232 (iX.r) s13 ?_;refine aq tk ?_;refine ac ?_;exact vm tk H rfl rfl rfl rfl rfl
 refine ap (ab (ab (aa (ah tk rfl (az tk (zl _) ?_)))));refine ah tk rfl (ac ?_);refine aE rfl H (fun H=>?_) (fun H=>?_)
 ·refine ab (aa (ah tk rfl (aq tk ?_)));refine ac ?_;exact vm tk H rfl rfl rfl rfl rfl
 refine ap (ab (aa (ah tk rfl ?_)))
 obtain⟨x19,k19,H⟩:=br H
 refine aR tk k19.1 (aM (fun _=>rfl) k19.2) ?_;refine ah tk rfl ?_;refine ba tk fun b5=>?_
 refine aq tk ?_;refine ac (ao 1 tk rfl (ab (ab (aa (ah tk rfl (az tk (zl _) ?_))))));refine ah tk rfl (ac ?_);refine gn tk 23 22 21 (fun s1 g1=>upd (upd (upd (upd (fun _=>.any) 6 (al s1.1)) 5 (.box 5 b5 0)) 4 (.box 4 b4 0)) 0 (.str op)) (fun s1 g1=>upd (upd (fun _=>none) 5 (some ⟨b5,(ae s1.2)⟩)) 4 (some ⟨b4,[(al 0),(al 0),(.str [])]⟩)) nO () H (fun fl1 Hp1 j1 s1 g1 hz1 hl1 x1 fb1 hx1 H hg1=>?_) (fun s1 g1 H=>?_)
 ·refine ab (aw (ab (aa ?_)));refine aR tk (zn j1) (bj (fun _=>rfl) hx1) ?_;refine ah tk rfl ?_;refine ba tk fun b8=>?_
  refine aq tk ?_;refine ac (ab (aa (af 2 tk rfl (aA tk ?_))));refine af 2 tk rfl (ac (ab (aa (af 3 tk rfl ?_))));refine bh rfl rfl rfl H (fun H=>?_) (fun H=>?_)
  ·refine aA tk ?_;refine aA tk ?_
   obtain⟨x36,h36,H⟩:=cp H
   have s36:=nc x1 s1.2;rw[h36]at s36;refine ak Tryz.call246 (iX.r) s36 ?_;refine af 2 tk rfl ?_;refine bh rfl rfl rfl H (fun H=>?_) (fun H=>?_)
   ·refine af 8 tk rfl (ac (bR rfl (aa (aA tk ?_))));refine aq tk ?_;refine ac (aH (be 2 tk rfl ?_));exact bl () H hl1 hg1
   refine af 3 tk rfl ?_;refine bh rfl rfl rfl H (fun H=>?_) (fun H=>?_)
   ·refine aA tk ?_;refine aA tk ?_
    obtain⟨x44,h44,H⟩:=cp H
    have s44:=nc s1.2 x1;rw[h44]at s44;refine ak Tryz.call246 (iX.r) s44 ?_;refine af 2 tk rfl (ac ?_);refine aE rfl H (fun H=>?_) (fun H=>?_)
    ·refine aa (aA tk ?_);refine aq tk ?_;refine ac (aH (be 2 tk rfl ?_));exact bl () H hl1 hg1
    refine ap (aH (be 2 tk rfl ?_));exact bl () H hl1 hg1
   refine af 5 tk rfl (ac (bA rfl (ap (aH (be 2 tk rfl ?_)))));exact bl () H hl1 hg1
  refine af 8 tk rfl ?_;refine bh rfl rfl rfl H (fun H=>?_) (fun H=>?_)
  ·refine aA tk ?_;refine aA tk ?_
   obtain⟨x44,h44,H⟩:=cp H
   have s44:=nc s1.2 x1;rw[h44]at s44;refine ak Tryz.call246 (iX.r) s44 ?_;refine af 2 tk rfl (ac ?_);refine aE rfl H (fun H=>?_) (fun H=>?_)
   ·refine aa (aA tk ?_);refine aq tk ?_;refine ac (aH (be 2 tk rfl ?_));exact bl () H hl1 hg1
   refine ap (aH (be 2 tk rfl ?_));exact bl () H hl1 hg1
  refine af 5 tk rfl (ac (bA rfl (ap (aH (be 2 tk rfl ?_)))));exact bl () H hl1 hg1
 refine ab (ao 2 tk rfl ?_);refine aE rfl H (fun H=>?_) (fun H=>?_)
 ·refine ab (aa (ah tk rfl ?_))
  obtain⟨x52,h52,H⟩:=cp H
  have s52:=rZ s1.1;rw[h52]at s52;refine ak Tryz.call232 (iX.r) s52 ?_;refine aq tk ?_;refine ac ?_;exact vm tk H rfl rfl rfl rfl rfl
 refine ap (ab (aa (aA tk ?_)));refine aq tk ?_;refine ac ?_;exact vm tk H rfl rfl rfl rfl rfl
def dD(data:Rz)(a:Int)(m:Int)(b:Int)(cmp:Rq→Rq→Option (Int)):Option (Rz):=
 ag (fY (σ:=Rz×Int×Int) (ρ:=Empty) (fun(s1:Rz×Int×Int)=>
  cond (s1.2.1 !=s1.2.2)
   (cond (decide (s1.2.1>s1.2.2))
    (ag (cu s1.1 (IntKind.i64.wrap (m-s1.2.1)) m s1.2.2 cmp) fun x31=>
    ag (eY (x31.length=s1.1.length) ()) fun(_:Unit)=>
    some (.next (x31,(IntKind.i64.wrap (s1.2.1-s1.2.2)),s1.2.2)))
    (ag (cu s1.1 (IntKind.i64.wrap (m-s1.2.1)) (IntKind.i64.wrap ((IntKind.i64.wrap (m+s1.2.2))-s1.2.1)) s1.2.1 cmp) fun x46=>
    ag (eY (x46.length=s1.1.length) ()) fun(_:Unit)=>
    some (.next (x46,s1.2.1,(IntKind.i64.wrap (s1.2.2-s1.2.1))))))
   (some (.brk (s1.1,s1.2.1,s1.2.2)))) (data,(IntKind.i64.wrap (m-a)),(IntKind.i64.wrap (b-m)))) fun fl1=>fl1.thenP fun(s1:Rz×Int×Int)=>
 ag (cu s1.1 (IntKind.i64.wrap (m-s1.2.1)) m s1.2.1 cmp) fun x57=>
 ag (eY (x57.length=s1.1.length) ()) fun(_:Unit)=>
 some x57
theorem nq(g_data:OwnRef){g_cmp:FuncId}{caps_cmp:List PV}(data:Rz)(a:Int)(m:Int)(b:Int)(cmp:Rq→Rq→Option (Int))(hg_cmp:∀(vs:Array Value) (w:World),(callFunc g_cmp vs).run Tryz.prog w= .ok (.enter g_cmp vs) w)(hp_cmp:∀a0 a1 r,cmp a0 a1=some r→aJ Tryz.prog g_cmp ((.list 69 (a0.map ae))::(.list 69 (a1.map ae))::caps_cmp) (al r))(r:Rz)(H:dD data a m b cmp=some r):
  PH Tryz.prog 278 [(.own 0 g_data (data.map (am 69 ae)).length),(al a),(al m),(al b),(.fn g_cmp caps_cmp)] ⟨fun _=>none,upd (fun _=>none) 0 (some ⟨g_data,54,(data.map (am 69 ae)),true⟩)⟩ (fun u H=>u=(.tup [])∧H=⟨fun _=>none,upd (fun _=>none) 0 (some ⟨g_data,54,(r.map (am 69 ae)),true⟩)⟩):=by
 unfold dD at H;refine PH.au Tryz.func278 Tryz.ntmps278 ?_;refine ao 4 tk rfl (ao 4 tk rfl (ab ?_))
 obtain⟨fl1,H1,Hp1⟩:=av H
 refine fL (τ:=Rz×Int×Int) (γ:=Unit) (fun s1 g1=>⟨58,upd (upd (upd (upd (fun _=>.any) 10 (al s1.2.1)) 4 (.fn g_cmp caps_cmp)) 2 (al m)) 0 (.own 0 g_data (s1.1.map (am 69 ae)).length),fun _=>none,upd (fun _=>none) 0 (some ⟨g_data,54,(s1.1.map (am 69 ae)),true⟩)⟩) (fun t=>fl1= .next t) ?_ (fun s1 g1 hn1=>?_)
 ·refine aw ?_;refine ic (fun s1 g1=>⟨58,upd (upd (upd (upd (upd (fun _=>.any) 11 (al s1.2.2)) 10 (al s1.2.1)) 4 (.fn g_cmp caps_cmp)) 2 (al m)) 0 (.own 0 g_data (s1.1.map (am 69 ae)).length),fun _=>none,upd (fun _=>none) 0 (some ⟨g_data,54,(s1.1.map (am 69 ae)),true⟩)⟩) () H1 Gh.d (fun m1 s1 g1 hr1=>?_)
  obtain⟨fb1,H,hg1⟩:=fK hr1
  refine ab (ao 3 tk rfl ?_);refine aE rfl H (fun H=>?_) (fun H=>?_)
  ·refine ap (aw (ao 3 tk rfl ?_));refine aE rfl H (fun H=>?_) (fun H=>?_)
   ·refine ab (aa (af 7 tk rfl ?_))
    obtain⟨x31,h31,H⟩:=av H
    have s31:=gH g_data s1.1 (IntKind.i64.wrap (m-s1.2.1)) m s1.2.2 cmp hg_cmp hp_cmp _ h31
    obtain⟨_,q31_0,H⟩:=av H
    have l31_0:=(dH q31_0).1;have z31_0:(List.map (am 69 ae) s1.1).length=(List.map (am 69 ae) x31).length:=by simpa using(l31_0).symm
    refine dw (g:=286) rfl rfl rfl Tryz.call286 [] [(0,0)] rfl rfl rfl rfl (iX.of2 (jg.cons (pj.own rfl) (jg.cons (pj.of_eq rfl) (jg.cons (pj.of_eq rfl) (jg.cons (pj.of_eq rfl) (jg.cons (pj.of_eq rfl) jg.nil)))))) (by rw[cE,bU,cD];rfl) s31 ?_;rintro u31 H31h ⟨rfl,rfl⟩
    refine⟨_,rfl,?_⟩
    refine dc (st':=⟨_,_,fun _=>none,upd (fun _=>none) 0 (some ⟨g_data,54,(x31.map (am 69 ae)),true⟩)⟩) (Gh.le (cj _ _) aK (bd aL)) ?_;refine ac (be 4 tk rfl (aH ?_));obtain rfl:=ax H;refine eF (x31,(IntKind.i64.wrap (s1.2.1-s1.2.2)),s1.2.2) () hg1 (Gh.le (bG (PLe.of2 (pj.of_eq (congrArg (PV.own 0 g_data) z31_0))) (ay (ay (ay (ay bg))))) aK (bd aL))
   refine ab (aa (af 11 tk rfl ?_))
   obtain⟨x46,h46,H⟩:=av H
   have s46:=gH g_data s1.1 (IntKind.i64.wrap (m-s1.2.1)) (IntKind.i64.wrap ((IntKind.i64.wrap (m+s1.2.2))-s1.2.1)) s1.2.1 cmp hg_cmp hp_cmp _ h46
   obtain⟨_,q46_0,H⟩:=av H
   have l46_0:=(dH q46_0).1;have z46_0:(List.map (am 69 ae) s1.1).length=(List.map (am 69 ae) x46).length:=by simpa using(l46_0).symm
   refine dw (g:=286) rfl rfl rfl Tryz.call286 [] [(0,0)] rfl rfl rfl rfl (iX.of2 (jg.cons (pj.own rfl) (jg.cons (pj.of_eq rfl) (jg.cons (pj.of_eq rfl) (jg.cons (pj.of_eq rfl) (jg.cons (pj.of_eq rfl) jg.nil)))))) (by rw[cE,bU,cD];rfl) s46 ?_;rintro u46 H46h ⟨rfl,rfl⟩
   refine⟨_,rfl,?_⟩
   refine dc (st':=⟨_,_,fun _=>none,upd (fun _=>none) 0 (some ⟨g_data,54,(x46.map (am 69 ae)),true⟩)⟩) (Gh.le (cj _ _) aK (bd aL)) ?_;refine ac (be 4 tk rfl (aH ?_));obtain rfl:=ax H;refine eF (x46,s1.2.1,(IntKind.i64.wrap (s1.2.2-s1.2.1))) () hg1 (Gh.le (bG (PLe.of2 (pj.of_eq (congrArg (PV.own 0 g_data) z46_0))) (ay (ay (ay (ay bg))))) aK (bd aL))
  refine bs rfl ?_;obtain rfl:=ax H;refine aS (s1.1,s1.2.1,s1.2.2) () hg1 Gh.d
 have H:=dM hn1 Hp1;refine aa (af 7 tk rfl ?_)
 obtain⟨x57,h57,H⟩:=av H
 have s57:=gH g_data s1.1 (IntKind.i64.wrap (m-s1.2.1)) m s1.2.1 cmp hg_cmp hp_cmp _ h57
 obtain⟨_,q57_0,H⟩:=av H
 have l57_0:=(dH q57_0).1;have z57_0:(List.map (am 69 ae) s1.1).length=(List.map (am 69 ae) x57).length:=by simpa using(l57_0).symm
 refine dw (g:=286) rfl rfl rfl Tryz.call286 [] [(0,0)] rfl rfl rfl rfl (iX.of2 (jg.cons (pj.own rfl) (jg.cons (pj.of_eq rfl) (jg.cons (pj.of_eq rfl) (jg.cons (pj.of_eq rfl) (jg.cons (pj.of_eq rfl) jg.nil)))))) (by rw[cE,bU,cD];rfl) s57 ?_;rintro u57 H57h ⟨rfl,rfl⟩
 refine⟨_,rfl,?_⟩
 refine dc (st':=⟨_,_,fun _=>none,upd (fun _=>none) 0 (some ⟨g_data,54,(x57.map (am 69 ae)),true⟩)⟩) (Gh.le (cj _ _) aK (bd aL)) ?_;refine ac ?_;obtain rfl:=ax H;refine eR (st':=⟨58,fun _=>.any,fun _=>none,upd (fun _=>none) 0 (some ⟨g_data,54,(x57.map (am 69 ae)),true⟩)⟩) (Gh.le bg aK (bd aL)) ?_;refine nG rfl (PLe.q rfl) ⟨rfl,rfl⟩
def iY(x:Rq)(y:Rq):Option (Bool):=
 ag (bW x y) fun x7=>
 some x7
theorem tE(x:Rq)(y:Rq)(r:Bool)(H:iY x y=some r):
  aJ Tryz.prog 92 [(.list 69 (x.map ae)),(.list 69 (y.map ae))] (aB r):=by
 unfold iY at H;refine PH.au Tryz.func92 Tryz.ntmps92 ?_;refine ao 1 tk rfl (ab (aa (af 2 tk rfl ?_)))
 obtain⟨x7,h7,H⟩:=av H
 have s7:=gQ x y _ h7;refine ak Tryz.call50 (iX.r) s7 ?_;refine ah tk rfl (ac ?_);exact aW tk H rfl
def fC(t:LTable):Option (Int):=
 ag (fS t.name) fun x11=>
 cond (!x11)
  (some 23)
  (cond ((t.columns.length:Int)==(0:Int))
   (some 3)
   (cond (decide ((t.columns.length:Int)>(6:Int)))
    (some 2)
    (ag (aG (σ:=Unit) (ρ:=(Int)) (fun(j1:Nat) (x1:LCol) (_:Unit)=>
     ag (fS x1.name) fun x31=>
     cond (!x31)
      (some (.ret 23))
      (ag (gA t x1.name) fun x37=>
      cond (decide (x37.1<(j1:Int)))
       (some (.ret 5))
       (cond (decide (x1.kind<(1:Int)))
        (some (.ret 7))
        (cond (decide (x1.kind>(3:Int)))
         (some (.ret 7))
         (some (.next ())))))) 0 t.columns ()) fun fl1=>fl1.thenR fun(_:Unit)=>
    ag (aG (σ:=Unit) (ρ:=(Int)) (fun(j2:Nat) (x2:Int) (_:Unit)=>
     cond (decide (x2<(0:Int)))
      (some (.ret 9))
      (cond (decide (x2≥(t.columns.length:Int)))
       (some (.ret 9))
       (ag (getI t.columns x2) fun(x73:LCol)=>
       cond x73.nullable
        (some (.ret 9))
        (cond (decide ((j2:Int)>(0:Int)))
         (ag (getI t.primaryKey (IntKind.i64.wrap ((j2:Int)-(1:Int)))) fun(x86:Int)=>
         cond (decide (x2≤x86))
          (some (.ret 9))
          (some (.next ())))
         (some (.next ())))))) 0 t.primaryKey ()) fun fl2=>fl2.thenR fun(_:Unit)=>
    cond ((t.primaryKey.length:Int)==(0:Int))
     (some 9)
     (some 0))))
theorem qZ(t:LTable)(r:Int)(H:fC t=some r):
  aJ Tryz.prog 71 [(.agg (bc t))] (al r):=by
 unfold fC at H;refine PH.au Tryz.func71 Tryz.ntmps71 ?_;refine ab (aa (aC ?_));refine ah tk rfl (ac (ab (ab (aa (af 2 tk rfl ?_)))))
 obtain⟨x11,h11,H⟩:=av H
 have s11:=oW t.name _ h11;refine ak Tryz.call105 (iX.r) s11 ?_;refine ah tk rfl (ac ?_);refine aE rfl H (fun H=>?_) (fun H=>?_)
 ·refine ao 1 tk rfl ?_;exact aW tk H rfl
 refine ap (ab (ab (aa (af 2 tk rfl (az tk (zl _) ?_)))));refine ah tk rfl (ac ?_);refine aE rfl H (fun H=>?_) (fun H=>?_)
 ·refine ao 1 tk rfl ?_;exact aW tk H rfl
 refine ap (ab (ab (aa (af 2 tk rfl (az tk (zl _) ?_)))));refine ah tk rfl (ac ?_);refine aE rfl H (fun H=>?_) (fun H=>?_)
 ·refine ao 1 tk rfl ?_;exact aW tk H rfl
 refine ap (ab (ab (aa (af 2 tk rfl (az tk (zl _) ?_)))));refine ah tk rfl (ac ?_);refine dS tk 24 23 22 (fun s1 g1=>upd (fun _=>.any) 1 (.ptr (bc t))) nB nO () H (fun fl1 Hp1 j1 s1 g1 hz1 hl1 x1 fb1 hx1 H hg1=>?_) (fun s1 g1 H=>?_)
 ·refine ab (aw (ab (aa (ah tk rfl ?_))));refine aR tk (zn j1) (bj (fun _=>rfl) hx1) ?_;refine ah tk rfl ?_;refine ba tk fun b4=>?_
  refine ah tk rfl (aq tk ?_);refine ac (ab (ab (aa (ah tk rfl (aA tk ?_)))))
  obtain⟨x31,h31,H⟩:=av H
  have s31:=oW x1.name _ h31;refine ak Tryz.call105 (iX.r) s31 ?_;refine ah tk rfl (ac ?_);refine aE rfl H (fun H=>?_) (fun H=>?_)
  ·refine ao 1 tk rfl ?_;obtain rfl:=ax H;have e1:fl1= .ret _:=hg1;subst e1;obtain rfl:=aQ Hp1;refine aZ tk rfl (ps:=[(al 23)]) ⟨_,_,rfl,rfl,rfl⟩ (PLe.q rfl)
  refine ap (ab (ab (aa (af 2 tk rfl (aA tk ?_)))))
  obtain⟨x37,h37,H⟩:=av H
  have s37:=sL t x1.name _ h37;refine ak Tryz.call106 (iX.r) s37 ?_;refine af 5 tk rfl (ac (ao 3 tk rfl ?_));refine aE rfl H (fun H=>?_) (fun H=>?_)
  ·refine ao 1 tk rfl ?_;obtain rfl:=ax H;have e1:fl1= .ret _:=hg1;subst e1;obtain rfl:=aQ Hp1;refine aZ tk rfl (ps:=[(al 5)]) ⟨_,_,rfl,rfl,rfl⟩ (PLe.q rfl)
  refine ap (ab (aa (ah tk rfl (aA tk ?_))));refine af 2 tk rfl ?_;refine bh rfl rfl rfl H (fun H=>?_) (fun H=>?_)
  ·refine af 4 tk rfl (ac (bR rfl (ao 1 tk rfl ?_)));obtain rfl:=ax H;have e1:fl1= .ret _:=hg1;subst e1;obtain rfl:=aQ Hp1;refine aZ tk rfl (ps:=[(al 7)]) ⟨_,_,rfl,rfl,rfl⟩ (PLe.q rfl)
  refine ah tk rfl (aA tk ?_);refine af 2 tk rfl (ac ?_);refine aE rfl H (fun H=>?_) (fun H=>?_)
  ·refine ao 1 tk rfl ?_;obtain rfl:=ax H;have e1:fl1= .ret _:=hg1;subst e1;obtain rfl:=aQ Hp1;refine aZ tk rfl (ps:=[(al 7)]) ⟨_,_,rfl,rfl,rfl⟩ (PLe.q rfl)
  refine ap (aH (be 2 tk rfl ?_));exact bl () H hl1 hg1
 refine ab (ab (aa (af 2 tk rfl (az tk (zl _) ?_))));refine ah tk rfl (ac ?_);refine dS tk 55 54 53 (fun s2 g2=>upd (fun _=>.any) 1 (.ptr (bc t))) nB nO () H (fun fl2 Hp2 j2 s2 g2 hz2 hl2 x2 fb2 hx2 H hg2=>?_) (fun s2 g2 H=>?_)
 ·refine ab (aw (ab (aa (ah tk rfl ?_))));refine aR tk (zn j2) (bj (fun _=>rfl) hx2) ?_;refine af 3 tk rfl (ac (ab (aa (af 3 tk rfl ?_))));refine bh rfl rfl rfl H (fun H=>?_) (fun H=>?_)
  ·refine af 28 tk rfl (ac (bR rfl (ao 1 tk rfl ?_)));obtain rfl:=ax H;have e2:fl2= .ret _:=hg2;subst e2;obtain rfl:=aQ Hp2;refine aZ tk rfl (ps:=[(al 9)]) ⟨_,_,rfl,rfl,rfl⟩ (PLe.q rfl)
  refine af 3 tk rfl (az tk (zl _) ?_);refine af 3 tk rfl ?_;refine bh rfl rfl rfl H (fun H=>?_) (fun H=>?_)
  ·refine af 21 tk rfl (ac (bR rfl (ao 1 tk rfl ?_)));obtain rfl:=ax H;have e2:fl2= .ret _:=hg2;subst e2;obtain rfl:=aQ Hp2;refine aZ tk rfl (ps:=[(al 9)]) ⟨_,_,rfl,rfl,rfl⟩ (PLe.q rfl)
  refine af 3 tk rfl ?_
  obtain⟨x73,k73,H⟩:=br H
  refine aR tk k73.1 (aM (fun _=>rfl) k73.2) ?_;refine af 4 tk rfl ?_;refine bh rfl rfl rfl H (fun H=>?_) (fun H=>?_)
  ·refine af 13 tk rfl (ac (bR rfl (ao 1 tk rfl ?_)));obtain rfl:=ax H;have e2:fl2= .ret _:=hg2;subst e2;obtain rfl:=aQ Hp2;refine aZ tk rfl (ps:=[(al 9)]) ⟨_,_,rfl,rfl,rfl⟩ (PLe.q rfl)
  refine af 3 tk rfl ?_;refine bh rfl rfl rfl H (fun H=>?_) (fun H=>?_)
  ·refine af 5 tk rfl ?_
   obtain⟨x86,k86,H⟩:=br H
   refine aR tk k86.1 (aM (fun _=>rfl) k86.2) ?_;refine af 4 tk rfl (ac ?_);refine aE rfl H (fun H=>?_) (fun H=>?_)
   ·refine ao 1 tk rfl ?_;obtain rfl:=ax H;have e2:fl2= .ret _:=hg2;subst e2;obtain rfl:=aQ Hp2;refine aZ tk rfl (ps:=[(al 9)]) ⟨_,_,rfl,rfl,rfl⟩ (PLe.q rfl)
   refine ap (aH (be 2 tk rfl ?_));exact bl () H hl2 hg2
  refine af 10 tk rfl (ac (bA rfl (ap (aH (be 2 tk rfl ?_)))));exact bl () H hl2 hg2
 refine ab (ab (aa (af 2 tk rfl (az tk (zl _) ?_))));refine ah tk rfl (ac ?_);refine aE rfl H (fun H=>?_) (fun H=>?_)
 ·refine ao 1 tk rfl ?_;exact aW tk H rfl
 refine ap (ao 1 tk rfl ?_);exact aW tk H rfl
def fe(sA:LSchema)(fk:LForeignKey):Option (Int):=
 ag (cT sA fk.table) fun x17=>
 ag (cT sA fk.refTable) fun x24=>
 letP (
  cond (!x17.2)
   (true)
   ((!x24.2))) fun(t1:Bool)=>
 cond t1
  (some 4)
  (ag (getI sA.tables x17.1) fun(x36:LTable)=>
  ag (getI sA.tables x24.1) fun(x41:LTable)=>
  cond ((fk.columns.length:Int) !=(x41.primaryKey.length:Int))
   (some 3)
   (ag (aG (σ:=Unit) (ρ:=(Int)) (fun(j2:Nat) (x2:Int) (_:Unit)=>
    letP (
     cond (decide (x2<(0:Int)))
      (true)
      ((decide (x2≥(x36.columns.length:Int))))) fun(t4:Bool)=>
    cond t4
     (some (.ret 3))
     (ag (getI x36.columns x2) fun(x70:LCol)=>
     ag (getI x41.primaryKey (j2:Int)) fun(x78:Int)=>
     ag (getI x41.columns x78) fun(x80:LCol)=>
     cond (x70.kind !=x80.kind)
      (some (.ret 7))
      (some (.next ())))) 0 fk.columns ()) fun fl2=>fl2.thenR fun(_:Unit)=>
   some 0))
theorem oN(sA:LSchema)(fk:LForeignKey)(r:Int)(H:fe sA fk=some r):
  aJ Tryz.prog 72 [(.agg (bJ sA)),(.agg (ct fk))] (al r):=by
 unfold fe at H;refine PH.au Tryz.func72 Tryz.ntmps72 ?_;refine ab (aa (aC ?_));refine aC ?_;refine ah tk rfl (ac (ab (aa (af 3 tk rfl ?_))))
 obtain⟨x17,h17,H⟩:=av H
 have s17:=gS sA fk.table _ h17;refine ak Tryz.call28 (iX.r) s17 ?_;refine af 5 tk rfl (ac (ab (aa (af 3 tk rfl ?_))))
 obtain⟨x24,h24,H⟩:=av H
 have s24:=gS sA fk.refTable _ h24;refine ak Tryz.call28 (iX.r) s24 ?_;refine af 5 tk rfl (ac (ab (ab ?_)));refine eM (γ:=Unit) (fun t1 g1=>⟨85,upd (upd (upd (upd (upd (fun _=>.any) 32 (aB t1)) 7 (al x24.1)) 5 (al x17.1)) 3 (.ptr (ct fk))) 2 (.ptr (bJ sA)),fun _=>none,fun _=>none⟩) H (fun _ H=>?_) (fun t1 g1 H=>?_)
 ·refine aa (af 3 tk rfl ?_);refine bh rfl rfl rfl H (fun H=>?_) (fun H=>?_)
  ·refine af 3 tk rfl (ac ?_);refine aS _ () H Gh.d
  refine af 3 tk rfl (ac ?_);refine aS _ () H Gh.d
 refine aE rfl H (fun H=>?_) (fun H=>?_)
 ·refine ao 1 tk rfl ?_;exact aW tk H rfl
 refine ap (ab (bn tk mok ⟨false,false,[]⟩ [0,1,2,3,4,5,6,7,8,9,10,11,12,13] rfl (by decide+kernel) rfl (aN 3 rfl ?_)))
 obtain⟨x36,k36,H⟩:=br H
 refine bE k36.1 (aM (fun _=>rfl) k36.2) ?_;refine aN 4 rfl ?_
 obtain⟨x41,k41,H⟩:=br H
 refine bE k41.1 (aM (fun _=>rfl) k41.2) ?_;refine bN rfl ?_;refine nU rfl rfl rfl rfl rfl rfl rfl rfl fun b9=>?_
 refine nU rfl rfl rfl rfl rfl rfl rfl rfl fun b10=>?_
 refine jX rfl rfl rfl rfl rfl rfl rfl rfl rfl rfl rfl rfl (jX rfl rfl rfl rfl rfl rfl rfl rfl rfl rfl rfl rfl (bm (ab (ab (aa (af 2 tk rfl (az tk (zl _) ?_)))))));refine ah tk rfl (aA tk ?_);refine az tk (zl _) ?_;refine ah tk rfl (ac ?_);refine aE rfl H (fun H=>?_) (fun H=>?_)
 ·refine ao 1 tk rfl ?_;exact aW tk H rfl
 refine ap (ab (ab (aa (af 2 tk rfl (az tk (zl _) ?_)))));refine ah tk rfl (ac ?_)
 obtain⟨fl2,H2,Hp2⟩:=av H
 refine gR tk 51 rfl rfl (fun hz2 _=>?_);rw[zl]at hz2;refine fL (τ:=Unit) (γ:=Unit) (fun s2 g2=>⟨85,fun _=>.any,fun _=>none,fun _=>none⟩) (fun t=>fl2= .next t) ?_ (fun s2 g2 hn2=>?_)
 ·refine aw ?_;refine js (fun j2 s2 g2=>⟨85,upd (upd (upd (upd (upd (fun _=>.any) 53 (al (j2:Int))) 52 (al (fk.columns.length:Int))) 51 (.list 3 (fk.columns.map bH))) 10 (.box 10 b10 0)) 9 (.box 9 b9 0),upd (upd (fun _=>none) 10 (some ⟨b10,(bc x41)⟩)) 9 (some ⟨b9,(bc x36)⟩),fun _=>none⟩) () H2 Gh.d (fun j2 s2 g2 hj2 hr2=>?_);refine ao 1 tk rfl (ab ?_);refine bt rfl (fun h=>?_) (fun h=>?_)
  ·have hl2:=pZ h
   obtain⟨x2,fb2,hx2,H,hg2⟩:=rMc hl2 hr2
   refine ap (ab (aw (ab (aa (ah tk rfl ?_)))));refine aR tk (zn j2) (bj (fun _=>rfl) hx2) ?_;refine af 3 tk rfl (ac (ab (ab ?_)));refine eM (γ:=Unit) (fun t4 g4=>⟨85,upd (upd (upd (upd (upd (upd (upd (upd (fun _=>.any) 66 (aB t4)) 53 (al (j2:Int))) 52 (al (fk.columns.length:Int))) 51 (.list 3 (fk.columns.map bH))) 12 (al x2)) 11 (al (j2:Int))) 10 (.box 10 b10 0)) 9 (.box 9 b9 0),upd (upd (fun _=>none) 10 (some ⟨b10,(bc x41)⟩)) 9 (some ⟨b9,(bc x36)⟩),fun _=>none⟩) H (fun _ H=>?_) (fun t4 g4 H=>?_)
   ·refine aa (af 3 tk rfl ?_);refine bh rfl rfl rfl H (fun H=>?_) (fun H=>?_)
    ·refine af 6 tk rfl (ac ?_);refine aS _ () H Gh.d
    refine af 2 tk rfl (aA tk ?_);refine az tk (zl _) ?_;refine af 2 tk rfl (ac ?_);refine aS _ () H Gh.d
   refine aE rfl H (fun H=>?_) (fun H=>?_)
   ·refine ao 1 tk rfl ?_;obtain rfl:=ax H;have e2:fl2= .ret _:=hg2;subst e2;obtain rfl:=aQ Hp2;refine aZ tk rfl (ps:=[(al 3)]) ⟨_,_,rfl,rfl,rfl⟩ (PLe.q rfl)
   refine ap (ab (bn tk mok ⟨true,false,[72,79,82]⟩ [0,1,2,3,4,5,6,7,8,9,10,11,12,13,14,15,16] rfl (by decide+kernel) rfl (bN rfl (bK ?_))));refine bN rfl ?_
   obtain⟨x70,k70,H⟩:=br H
   refine bE k70.1 (aM (fun _=>rfl) k70.2) ?_;refine aN 3 rfl (bK ?_);refine bN rfl (bK ?_);refine bN rfl ?_
   obtain⟨x78,k78,H⟩:=br H
   refine bE k78.1 (aM (fun _=>rfl) k78.2) ?_;refine bN rfl ?_
   obtain⟨x80,k80,H⟩:=br H
   refine bE k80.1 (aM (fun _=>rfl) k80.2) ?_;refine aN 3 rfl (bm ?_);refine aE rfl H (fun H=>?_) (fun H=>?_)
   ·refine ao 1 tk rfl ?_;obtain rfl:=ax H;have e2:fl2= .ret _:=hg2;subst e2;obtain rfl:=aQ Hp2;refine aZ tk rfl (ps:=[(al 7)]) ⟨_,_,rfl,rfl,rfl⟩ (PLe.q rfl)
   refine ap (aH (be 2 tk rfl ?_));exact bl () H hl2 hg2
  have hn2:=rMd (pW h) hr2;refine bs rfl ?_;refine aS s2 g2 hn2 Gh.d
 have H:=nL hn2 Hp2;refine ao 1 tk rfl ?_;exact aW tk H rfl
def gB(other:LForeignKey)(c0:LForeignKey):Option (Bool):=
 ag (hO other c0) fun x6=>
 some x6
theorem sI(other:LForeignKey)(c0:LForeignKey)(r:Bool)(H:gB other c0=some r):
  aJ Tryz.prog 74 [(.agg (ct other)),(.ptr (ct c0))] (aB r):=by
 unfold gB at H;refine PH.au Tryz.func74 Tryz.ntmps74 ?_;refine ab (aa (aC ?_));refine ah tk rfl (ac (ab (aa (af 2 tk rfl ?_))))
 obtain⟨x6,h6,H⟩:=av H
 have s6:=pH other c0 _ h6;refine ak Tryz.call75 (iX.r) s6 ?_;refine ah tk rfl (ac ?_);exact aW tk H rfl
def cC(a:LVal)(b:LVal):Int:=
 letP (bP a.kind b.kind) fun x11=>
 cond (x11 !=(0:Int))
  (x11)
  (letP (bP a.int b.int) fun x19=>
  cond (x19 !=(0:Int))
   (x19)
   (letP (jx a.text b.text) fun x27=>
   x27))
theorem qS(a:LVal)(b:LVal):
  aJ Tryz.prog 112 [(.agg (ae a)),(.agg (ae b))] (al (cC a b)):=by
 obtain⟨r,H⟩:∃r,cC a b=r:=⟨_,rfl⟩
 rw[H];unfold cC at H;refine PH.au Tryz.func112 Tryz.ntmps112 ?_;refine ab (aa (aC ?_));refine aC ?_;refine ah tk rfl (ac (ab (ab (aa (af 4 tk rfl ?_)))))
 obtain⟨x11,h11,H⟩:=cp H
 have s11:=lz a.kind b.kind;rw[h11]at s11;refine ak Tryz.call113 (iX.r) s11 ?_;refine ah tk rfl (ac (ao 2 tk rfl ?_));refine aE rfl H (fun H=>?_) (fun H=>?_)
 ·refine ao 2 tk rfl ?_;exact ez tk H rfl
 refine ap (ab (ab (aa (af 4 tk rfl ?_))))
 obtain⟨x19,h19,H⟩:=cp H
 have s19:=lz a.int b.int;rw[h19]at s19;refine ak Tryz.call113 (iX.r) s19 ?_;refine ah tk rfl (ac (ao 2 tk rfl ?_));refine aE rfl H (fun H=>?_) (fun H=>?_)
 ·refine ao 2 tk rfl ?_;exact ez tk H rfl
 refine ap (ab (aa (af 4 tk rfl ?_)))
 obtain⟨x27,h27,H⟩:=cp H
 have s27:=ue a.text b.text;rw[h27]at s27;refine ak Tryz.call172 (iX.r) s27 ?_;refine ah tk rfl (ac ?_);exact ez tk H rfl
def bV(kinds:List Int)(c0:LProcedureStatement):Option (Bool):=
 ag (eo kinds c0.kind) fun x7=>
 some x7
theorem cI(kinds:List Int)(c0:LProcedureStatement)(r:Bool)(H:bV kinds c0=some r):
  aJ Tryz.prog 114 [(.list 3 (kinds.map bH)),(.ptr (aP c0))] (aB r):=by
 unfold bV at H;refine PH.au Tryz.func114 Tryz.ntmps114 ?_;refine ao 1 tk rfl (ab (aa (af 3 tk rfl ?_)))
 obtain⟨x7,h7,H⟩:=av H
 have s7:=ln kinds c0.kind _ h7;refine ak Tryz.call115 (iX.r) s7 ?_;refine ah tk rfl (ac ?_);exact aW tk H rfl
def fI(c:LProcedureChecker)(q:LQuery):Option (Int):=
 ag (eC q) fun x11=>
 ag (aG (σ:=Unit) (ρ:=(Int)) (fun(j1:Nat) (x1:Int) (_:Unit)=>
  cond (x1 !=(0:Int))
   (cond (decide ((j1:Int)≥(c.args.length:Int)))
    (some (.ret 7))
    (ag (getI c.args (j1:Int)) fun(x33:Int)=>
    cond (x33 !=x1)
     (some (.ret 7))
     (some (.next ()))))
   (some (.next ()))) 0 x11.1 ()) fun fl1=>fl1.thenR fun(_:Unit)=>
 some 0
theorem pt(c:LProcedureChecker)(q:LQuery)(r:Int)(H:fI c q=some r):
  aJ Tryz.prog 120 [(.agg (ce c)),(.agg (aO q))] (al r):=by
 unfold fI at H;refine PH.au Tryz.func120 Tryz.ntmps120 ?_;refine ab (aa (aC ?_));refine aC ?_;refine ah tk rfl (ac (ab (aa (ah tk rfl ?_))))
 obtain⟨x11,h11,H⟩:=av H
 have s11:=kC q _ h11;refine ak Tryz.call91 (iX.r) s11 ?_;refine af 5 tk rfl (ac (ab (ab (aa (ah tk rfl (az tk (zl _) ?_))))));refine ah tk rfl (ac ?_);refine dS tk 16 15 14 (fun s1 g1=>upd (fun _=>.any) 2 (.ptr (ce c))) nB nO () H (fun fl1 Hp1 j1 s1 g1 hz1 hl1 x1 fb1 hx1 H hg1=>?_) (fun s1 g1 H=>?_)
 ·refine ab (aw (ab (aa (ah tk rfl ?_))));refine aR tk (zn j1) (bj (fun _=>rfl) hx1) ?_;refine af 3 tk rfl (ac (ab (aa (af 3 tk rfl ?_))));refine bh rfl rfl rfl H (fun H=>?_) (fun H=>?_)
  ·refine af 3 tk rfl (az tk (zl _) ?_);refine af 2 tk rfl ?_;refine bh rfl rfl rfl H (fun H=>?_) (fun H=>?_)
   ·refine af 9 tk rfl (ac (bR rfl (ao 1 tk rfl ?_)));obtain rfl:=ax H;have e1:fl1= .ret _:=hg1;subst e1;obtain rfl:=aQ Hp1;refine aZ tk rfl (ps:=[(al 7)]) ⟨_,_,rfl,rfl,rfl⟩ (PLe.q rfl)
   refine af 3 tk rfl ?_
   obtain⟨x33,k33,H⟩:=br H
   refine aR tk k33.1 (aM (fun _=>rfl) k33.2) ?_;refine af 5 tk rfl (ac ?_);refine aE rfl H (fun H=>?_) (fun H=>?_)
   ·refine ao 1 tk rfl ?_;obtain rfl:=ax H;have e1:fl1= .ret _:=hg1;subst e1;obtain rfl:=aQ Hp1;refine aZ tk rfl (ps:=[(al 7)]) ⟨_,_,rfl,rfl,rfl⟩ (PLe.q rfl)
   refine ap (aH (be 2 tk rfl ?_));exact bl () H hl1 hg1
  refine af 15 tk rfl (ac (bA rfl (ap (aH (be 2 tk rfl ?_)))));exact bl () H hl1 hg1
 refine ao 1 tk rfl ?_;exact aW tk H rfl
def dC(kinds:List Int)(c0:LQuery):Option (Bool):=
 ag (eo kinds c0.kind) fun x7=>
 some x7
theorem fJ(kinds:List Int)(c0:LQuery)(r:Bool)(H:dC kinds c0=some r):
  aJ Tryz.prog 233 [(.list 3 (kinds.map bH)),(.ptr (aO c0))] (aB r):=by
 unfold dC at H;refine PH.au Tryz.func233 Tryz.ntmps233 ?_;refine ao 1 tk rfl (ab (aa (af 3 tk rfl ?_)))
 obtain⟨x7,h7,H⟩:=av H
 have s7:=ln kinds c0.kind _ h7;refine ak Tryz.call115 (iX.r) s7 ?_;refine ah tk rfl (ac ?_);exact aW tk H rfl
def gO(inst:List LRelation):Option ((List LRelation)):=
 ag (aG (σ:=List LRelation) (ρ:=Empty) (fun(_:Nat) (x1:LRelation) (s1:List LRelation)=>
  ag (iR x1.rows) fun x17=>
  ag (db 40 s1 ([(LRelation.mk x1.table x17)]:List LRelation)) fun(x20:List LRelation)=>
  some (.next x20)) 0 inst []) fun fl1=>fl1.thenP fun(s1:List LRelation)=>
 some s1
theorem pV{m:Nat}(inst:List LRelation)(r:(List LRelation))(H:gO inst=some r):
  gq Tryz.prog 29 [(.list 86 (inst.map aI))] (ly m 86 (r.map aI)):=by
 unfold gO at H;refine PH.au Tryz.func29 Tryz.ntmps29 ?_;refine ao 1 tk rfl (ao 1 tk rfl (ab (ab (aa (ah tk rfl (az tk (zl _) ?_))))));refine ah tk rfl (ac (iw tk 3 20 (e:=86) rfl rfl ?_));refine gn (γ:=OwnRef) tk 8 7 6 (fun s1 g1=>upd (fun _=>.any) 3 (.own 20 g1 (s1.map aI).length)) nB (fun s1 g1=>upd (fun _=>none) 20 (some ⟨g1,86,(s1.map aI),true⟩)) (⟨none,0⟩) H (fun fl1 Hp1 j1 s1 g1 hz1 hl1 x1 fb1 hx1 H hg1=>?_) (fun s1 g1 H=>?_)
 ·refine ab (aw (ab (aa ?_)));refine aR tk (zn j1) (bj (fun _=>rfl) hx1) ?_;refine ah tk rfl ?_;refine ba tk fun b5=>?_
  refine aq tk ?_;refine ac (bn tk mok ⟨true,false,[]⟩ [0,1,2,3,4,5,6,7,8,9] rfl (by decide+kernel) rfl (aN 2 rfl (bK ?_)));refine bN rfl (bK ?_)
  obtain⟨x17,h17,H⟩:=av H
  have s17:=qf (m:=17) x1.rows _ h17;refine aY Tryz.call57 (iX.r) (PFun.hX s17) ?_;refine aN 2 rfl ?_
  obtain⟨x20,h20,H⟩:=av H
  have k20:=cf h20;refine jz (rows2':=List.map aI ([(LRelation.mk x1.table x17)]:List LRelation)) (rows':=List.map aI x20) tk rfl rfl rfl rfl rfl rfl rfl rfl rfl rfl rfl rfl rfl rfl (fW.refl _) (dl k20.1) (dg k20.2.1) (dh k20.2.2) fun g20=>?_
  refine bN rfl (bm (aH (be 2 tk rfl ?_)));exact bl g20 H hl1 hg1
 refine ao 2 tk rfl ?_;obtain rfl:=ax H;refine jf tk rfl
def iA(sA:LSchema)(c:LChange):Option (Int):=
 ag (
  cond (c.kind==(1:Int))
   (none)
   (cond (c.kind==(2:Int))
    (cond (decide ((c.row.length:Int)>(0:Int)))
     (some true)
     (cond (c.kind !=(1:Int))
      (some (c.kind !=(2:Int)))
      (some false)))
    (cond (c.kind !=(1:Int))
     (some (c.kind !=(2:Int)))
     (some false)))) fun(t1:Bool)=>
 cond t1
  (some 3)
  (ag (cT sA c.table) fun x41=>
  cond (!x41.2)
   (some 4)
   (cond (c.kind==(1:Int))
    (none)
    (ag (getI sA.tables x41.1) fun(x60:LTable)=>
    ag (il x60 c.key) fun x64=>
    some x64)))
theorem un(sA:LSchema)(c:LChange)(r:Int)(H:iA sA c=some r):
  aJ Tryz.prog 46 [(.agg (bJ sA)),(.agg (aV c))] (al r):=by
 unfold iA at H;refine PH.au Tryz.func46 Tryz.ntmps46 ?_;refine ab (aa (aC ?_));refine aC ?_;refine ah tk rfl (ac (ab (ab ?_)));refine ew (γ:=Unit) (fun t1 g1=>⟨65,upd (upd (upd (fun _=>.any) 36 (aB t1)) 3 (.ptr (aV c))) 2 (.ptr (bJ sA)),fun _=>none,fun _=>none⟩) H (fun _ H=>?_) (fun t1 g1 H=>?_)
 ·refine aa (af 4 tk rfl ?_);refine bh rfl rfl rfl H (fun H=>?_) (fun H=>?_)
  ·cases H
  refine af 10 tk rfl ?_;refine bh rfl rfl rfl H (fun H=>?_) (fun H=>?_)
  ·refine af 2 tk rfl (az tk (zl _) ?_);refine af 4 tk rfl ?_;refine bh rfl rfl rfl H (fun H=>?_) (fun H=>?_)
   ·refine af 9 tk rfl (ac ?_);refine aS _ () (ax H) Gh.d
   refine af 4 tk rfl ?_;refine bh rfl rfl rfl H (fun H=>?_) (fun H=>?_)
   ·refine af 5 tk rfl (ac ?_);refine aS _ () (ax H) Gh.d
   refine af 5 tk rfl (ac ?_);refine aS _ () (ax H) Gh.d
  refine af 11 tk rfl ?_;refine bh rfl rfl rfl H (fun H=>?_) (fun H=>?_)
  ·refine af 5 tk rfl (ac ?_);refine aS _ () (ax H) Gh.d
  refine af 5 tk rfl (ac ?_);refine aS _ () (ax H) Gh.d
 refine aE rfl H (fun H=>?_) (fun H=>?_)
 ·refine ao 1 tk rfl ?_;exact aW tk H rfl
 refine ap (ab (aa (af 3 tk rfl ?_)))
 obtain⟨x41,h41,H⟩:=av H
 have s41:=gS sA c.table _ h41;refine ak Tryz.call28 (iX.r) s41 ?_;refine af 5 tk rfl (ac (ab (ao 2 tk rfl ?_)));refine aE rfl H (fun H=>?_) (fun H=>?_)
 ·refine ao 1 tk rfl ?_;exact aW tk H rfl
 refine ap (ab (ao 3 tk rfl ?_));refine aE rfl H (fun H=>?_) (fun H=>?_)
 ·cases H
 refine ap (ab (bn tk mok ⟨false,false,[]⟩ [0,1,2,3,4,5,6,7,8] rfl (by decide+kernel) rfl (aN 3 rfl ?_)))
 obtain⟨x60,k60,H⟩:=br H
 refine bE k60.1 (aM (fun _=>rfl) k60.2) ?_;refine aN 3 rfl ?_
 obtain⟨x64,h64,H⟩:=av H
 have s64:=rM x60 c.key _ h64;refine aY Tryz.call84 (iX.r) s64 ?_;refine bN rfl (bm ?_);exact aW tk H rfl
def fA(q:LQuery)(args:Rq):Option (Int):=
 ag (eC q) fun x11=>
 cond (x11.2 !=(0:Int))
  (some x11.2)
  (cond (decide ((args.length:Int)<(x11.1.length:Int)))
   (some 1)
   (ag (aG (σ:=Unit) (ρ:=(Int)) (fun(j1:Nat) (x1:Int) (_:Unit)=>
    ag (getI args (j1:Int)) fun(x31:LVal)=>
    letP (et x31) fun x33=>
    cond (!x33)
     (some (.ret 7))
     (cond (x1 !=(0:Int))
      (ag (getI args (j1:Int)) fun(x41:LVal)=>
      cond (x41.kind !=x1)
       (ag (getI args (j1:Int)) fun(x50:LVal)=>
       cond (x50.kind !=(0:Int))
        (some (.ret 7))
        (some (.next ())))
       (some (.next ())))
      (some (.next ())))) 0 x11.1 ()) fun fl1=>fl1.thenR fun(_:Unit)=>
   some 0))
theorem mp(q:LQuery)(args:Rq)(r:Int)(H:fA q args=some r):
  aJ Tryz.prog 54 [(.agg (aO q)),(.list 69 (args.map ae))] (al r):=by
 unfold fA at H;refine PH.au Tryz.func54 Tryz.ntmps54 ?_;refine ab (aa (aC ?_));refine ah tk rfl (ac (ab (aa (ah tk rfl ?_))))
 obtain⟨x11,h11,H⟩:=av H
 have s11:=kC q _ h11;refine ak Tryz.call91 (iX.r) s11 ?_;refine af 5 tk rfl (ac (ab (ao 2 tk rfl ?_)));refine aE rfl H (fun H=>?_) (fun H=>?_)
 ·refine ao 2 tk rfl ?_;exact aW tk H rfl
 refine ap (ab (ab (aa (ah tk rfl (az tk (zl _) ?_)))));refine ah tk rfl (az tk (zl _) ?_);refine ah tk rfl (ac ?_);refine aE rfl H (fun H=>?_) (fun H=>?_)
 ·refine ao 1 tk rfl ?_;exact aW tk H rfl
 refine ap (ab (ab (aa (ah tk rfl (az tk (zl _) ?_)))));refine ah tk rfl (ac ?_);refine dS tk 24 23 22 (fun s1 g1=>upd (fun _=>.any) 1 (.list 69 (args.map ae))) nB nO () H (fun fl1 Hp1 j1 s1 g1 hz1 hl1 x1 fb1 hx1 H hg1=>?_) (fun s1 g1 H=>?_)
 ·refine ab (aw (ab (aa (ah tk rfl ?_))));refine aR tk (zn j1) (bj (fun _=>rfl) hx1) ?_;refine af 3 tk rfl (ac (ab (aa (af 2 tk rfl ?_))))
  obtain⟨x31,k31,H⟩:=br H
  refine aR tk k31.1 (aM (fun _=>rfl) k31.2) ?_;refine ah tk rfl ?_
  obtain⟨x33,h33,H⟩:=cp H
  have s33:=qV x31;rw[h33]at s33;refine ak Tryz.call43 (iX.r) s33 ?_;refine af 2 tk rfl ?_;refine bh rfl rfl rfl H (fun H=>?_) (fun H=>?_)
  ·refine af 20 tk rfl (ac (bR rfl (ao 1 tk rfl ?_)));obtain rfl:=ax H;have e1:fl1= .ret _:=hg1;subst e1;obtain rfl:=aQ Hp1;refine aZ tk rfl (ps:=[(al 7)]) ⟨_,_,rfl,rfl,rfl⟩ (PLe.q rfl)
  refine af 3 tk rfl ?_;refine bh rfl rfl rfl H (fun H=>?_) (fun H=>?_)
  ·refine af 2 tk rfl ?_
   obtain⟨x41,k41,H⟩:=br H
   refine aR tk k41.1 (aM (fun _=>rfl) k41.2) ?_;refine af 6 tk rfl ?_;refine bh rfl rfl rfl H (fun H=>?_) (fun H=>?_)
   ·refine af 2 tk rfl ?_
    obtain⟨x50,k50,H⟩:=br H
    refine aR tk k50.1 (aM (fun _=>rfl) k50.2) ?_;refine af 5 tk rfl (ac ?_);refine aE rfl H (fun H=>?_) (fun H=>?_)
    ·refine ao 1 tk rfl ?_;obtain rfl:=ax H;have e1:fl1= .ret _:=hg1;subst e1;obtain rfl:=aQ Hp1;refine aZ tk rfl (ps:=[(al 7)]) ⟨_,_,rfl,rfl,rfl⟩ (PLe.q rfl)
    refine ap (aH (be 2 tk rfl ?_));exact bl () H hl1 hg1
   refine af 8 tk rfl (ac (bA rfl (ap (aH (be 2 tk rfl ?_)))));exact bl () H hl1 hg1
  refine af 17 tk rfl (ac (bA rfl (ap (aH (be 2 tk rfl ?_)))));exact bl () H hl1 hg1
 refine ao 1 tk rfl ?_;exact aW tk H rfl
def lG(a:Rz)(b:Rz):Option (Rz):=
 ag (aG (σ:=Rz×Rz) (ρ:=Empty) (fun(_:Nat) (x1:Rq) (s1:Rz×Rz)=>
  ag (bI s1.1 (fun a0=>jH a0 x1)) fun x20=>
  ag (eY (x20.2.length=s1.1.length) ()) fun(_:Unit)=>
  cond (decide (x20.1≥(0:Int)))
   (ag (delI x20.2 x20.1 (IntKind.i64.wrap (x20.1+(1:Int)))) fun x27=>
   some (.next (x27,s1.2)))
   (ag (db 24 s1.2 ([x1]:Rz)) fun(x31:Rz)=>
   some (.next (x20.2,x31)))) 0 a (b,[])) fun fl1=>fl1.thenP fun(s1:Rz×Rz)=>
 some s1.2
theorem W_query_less(a:Rz)(b:Rz)(r:Rz)(H:lG a b=some r):
  aJ Tryz.prog 161 [(.list 54 (a.map (am 69 ae))),(.list 54 (b.map (am 69 ae)))] (.list 54 (r.map (am 69 ae))):=by
 unfold lG at H;refine PH.au Tryz.func161 Tryz.ntmps161 ?_;refine ao 1 tk rfl (ab (aa (ah tk rfl ?_)));have s11:=qF (m:=11) b;refine jG Tryz.call160 (iX.r) s11 (fun g11=>?_);refine ah tk rfl (ac (ao 1 tk rfl (ab (ab (aa (ah tk rfl (az tk (zl _) ?_)))))));refine ah tk rfl (ac ?_)
 obtain⟨fl1,H1,Hp1⟩:=av H
 refine gR tk 12 rfl rfl (fun hz1 _=>?_);rw[zl]at hz1;refine fL (τ:=Rz×Rz) (γ:=OwnRef×OwnRef) (fun s1 g1=>⟨34,upd (fun _=>.any) 6 (.own 31 g1.2 (s1.2.map (am 69 ae)).length),fun _=>none,upd (fun _=>none) 31 (some ⟨g1.2,54,(s1.2.map (am 69 ae)),true⟩)⟩) (fun t=>fl1= .next t) ?_ (fun s1 g1 hn1=>?_)
 ·refine aw (iw tk 6 31 (e:=54) rfl rfl ?_);refine js (fun j1 s1 g1=>⟨34,upd (upd (upd (upd (upd (fun _=>.any) 14 (al (j1:Int))) 13 (al (a.length:Int))) 12 (.list 54 (a.map (am 69 ae)))) 6 (.own 31 g1.2 (s1.2.map (am 69 ae)).length)) 5 (.own 11 g1.1 (s1.1.map (am 69 ae)).length),fun _=>none,upd (upd (fun _=>none) 31 (some ⟨g1.2,54,(s1.2.map (am 69 ae)),true⟩)) 11 (some ⟨g1.1,54,(s1.1.map (am 69 ae)),true⟩)⟩) (g11,⟨none,0⟩) H1 Gh.d (fun j1 s1 g1 hj1 hr1=>?_);refine ao 1 tk rfl (ab ?_);refine bt rfl (fun h=>?_) (fun h=>?_)
  ·have hl1:=pZ h
   obtain⟨x1,fb1,hx1,H,hg1⟩:=rMc hl1 hr1
   refine ap (ab (aw (ab (aa ?_))));refine aR tk (zn j1) (bj (fun _=>rfl) hx1) ?_;refine ah tk rfl ?_;refine ba tk fun b8=>?_
   refine aq tk ?_;refine ac (ab (ab (aa (ah tk rfl (dc (Gh.freezeB 8 rfl rfl rfl rfl) (ah tk rfl ?_))))))
   obtain⟨x20,h20,H⟩:=av H
   have s20:=fM g1.1 s1.1 (fun a0=>jH a0 x1) Tryz.call212 (fun a0 r h=>W_query_less_1 a0 x1 r h) _ h20
   obtain⟨_,q20_0,H⟩:=av H
   have l20_0:=(dH q20_0).1;have z20_0:(List.map (am 69 ae) s1.1).length=(List.map (am 69 ae) x20.2).length:=by simpa using(l20_0).symm
   refine dw (g:=211) rfl rfl rfl Tryz.call211 [] [(11,0)] rfl rfl rfl rfl (iX.of2 (jg.cons (pj.own rfl) (jg.cons (pj.of_eq rfl) jg.nil))) (by rw[cE,bU,cD];rfl) s20 ?_;rintro u20 H20h ⟨rfl,rfl⟩
   refine⟨_,rfl,?_⟩
   refine dc (st':=⟨_,_,fun _=>none,upd (upd (fun _=>none) 31 (some ⟨g1.2,54,(s1.2.map (am 69 ae)),true⟩)) 11 (some ⟨g1.1,54,(x20.2.map (am 69 ae)),true⟩)⟩) (Gh.le (cj _ _) aK (bd (bd aL))) ?_;refine ah tk rfl (ac (ao 2 tk rfl ?_));refine aE rfl H (fun H=>?_) (fun H=>?_)
   ·refine ab (aa (af 4 tk rfl ?_))
    obtain⟨x27,h27,H⟩:=av H
    have s27:=uv g1.1 x20.2 x20.1 (IntKind.i64.wrap (x20.1+(1:Int))) _ h27;refine dw (g:=88) rfl rfl rfl Tryz.call88 [] [(11,0)] rfl rfl rfl rfl (iX.of2 (jg.cons (pj.own z20_0) (jg.cons (pj.of_eq rfl) (jg.cons (pj.of_eq rfl) jg.nil)))) (by rw[cE,bU,cD];rfl) s27 ?_;rintro u27 H27h ⟨rfl,rfl⟩
    refine⟨_,rfl,?_⟩
    refine dc (st':=⟨_,_,fun _=>none,upd (upd (fun _=>none) 31 (some ⟨g1.2,54,(s1.2.map (am 69 ae)),true⟩)) 11 (some ⟨g1.1,54,(x27.map (am 69 ae)),true⟩)⟩) (Gh.le (cj _ _) aK (bd (bd aL))) ?_;refine ma 27 (q:=(.own 11 g1.1 (x27.map (am 69 ae)).length)) rfl (PLe.of2 (pj.own rfl)) (ah tk rfl (ac (bs rfl (be 2 tk rfl ?_))));exact bl (g1.1,g1.2) H hl1 hg1
   refine ap (aa (af 2 tk rfl (bX tk (rows':=List.map (am 69 ae) ([x1]:Rz)) (fW.refl _) ?_)))
   obtain⟨x31,h31,H⟩:=av H
   have k31:=cf h31;refine cg (rows2':=List.map (am 69 ae) ([x1]:Rz)) (rows':=List.map (am 69 ae) x31) tk rfl rfl rfl rfl rfl rfl rfl rfl rfl rfl rfl rfl rfl (fW.refl _) (dl k31.1) (dg k31.2.1) (dh k31.2.2) fun g31=>?_
   refine ah tk rfl (ac (aH (be 2 tk rfl ?_)));exact bl (g1.1,g31) H hl1 hg1 (Gh.le (bG (PLe.of2 (pj.of_eq (congrArg (PV.own 11 g1.1) z20_0))) (ay (ay (ay (bG (PLe.q (eV (by omega))) bg))))) aK (bd (bd aL)))
  have hn1:=rMd (pW h) hr1;refine bs rfl ?_;refine aS s1 g1 hn1 Gh.d
 have H:=dM hn1 Hp1;refine ao 2 tk rfl (cS 4 rfl rfl rfl ?_);exact aW tk H rfl
def cB(rec268:Rz→Int→Int→Int→Option (Rz))(data:Rz)(a:Int)(m:Int)(b:Int)(cmp:Rq→Rq→Option (Int)):Option (Rz):=
 cond ((IntKind.i64.wrap (m-a))==(1:Int))
  (ag (fY (σ:=Rz×Int×Int) (ρ:=Empty) (fun(s1:Rz×Int×Int)=>
   cond (decide (s1.2.1<s1.2.2))
    (ag (getI s1.1 (IntKind.i64.wrap (Int.fdiv (IntKind.u64.wrap (IntKind.i64.wrap (s1.2.1+s1.2.2))) (2^1)))) fun(x43:Rq)=>
    ag (getI s1.1 a) fun(x47:Rq)=>
    ag (cmp x43 x47) fun x49=>
    cond (decide (x49<(0:Int)))
     (some (.next (s1.1,(IntKind.i64.wrap ((IntKind.i64.wrap (Int.fdiv (IntKind.u64.wrap (IntKind.i64.wrap (s1.2.1+s1.2.2))) (2^1)))+(1:Int))),s1.2.2)))
     (some (.next (s1.1,s1.2.1,(IntKind.i64.wrap (Int.fdiv (IntKind.u64.wrap (IntKind.i64.wrap (s1.2.1+s1.2.2))) (2^1)))))))
    (some (.brk (s1.1,s1.2.1,s1.2.2)))) (data,m,b)) fun fl1=>fl1.thenP fun(s1:Rz×Int×Int)=>
  ag (fY (σ:=Rz×Int) (ρ:=Empty) (fun(s2:Rz×Int)=>
   cond (decide (s2.2<(IntKind.i64.wrap (s1.2.1-(1:Int)))))
    (ag (getI s2.1 (IntKind.i64.wrap (s2.2+(1:Int)))) fun(x69:Rq)=>
    ag (getI s2.1 s2.2) fun(x73:Rq)=>
    ag (getI s2.1 s2.2) fun(_:Rq)=>
    letP (s2.1.set s2.2.toNat x69) fun(y7:Rz)=>
    ag (getI y7 (IntKind.i64.wrap (s2.2+(1:Int)))) fun(_:Rq)=>
    letP (y7.set ((IntKind.i64.wrap (s2.2+(1:Int))).toNat) x73) fun(y8:Rz)=>
    some (.next (y8,(IntKind.i64.wrap (s2.2+(1:Int))))))
    (some (.brk (s2.1,s2.2)))) (s1.1,a)) fun fl2=>fl2.thenP fun(s2:Rz×Int)=>
  some s2.1)
  (cond ((IntKind.i64.wrap (b-m))==(1:Int))
   (ag (fY (σ:=Rz×Int×Int) (ρ:=Empty) (fun(s9:Rz×Int×Int)=>
    cond (decide (s9.2.1<s9.2.2))
     (ag (getI s9.1 m) fun(x95:Rq)=>
     ag (getI s9.1 (IntKind.i64.wrap (Int.fdiv (IntKind.u64.wrap (IntKind.i64.wrap (s9.2.1+s9.2.2))) (2^1)))) fun(x99:Rq)=>
     ag (cmp x95 x99) fun x101=>
     cond (!(decide (x101<(0:Int))))
      (some (.next (s9.1,(IntKind.i64.wrap ((IntKind.i64.wrap (Int.fdiv (IntKind.u64.wrap (IntKind.i64.wrap (s9.2.1+s9.2.2))) (2^1)))+(1:Int))),s9.2.2)))
      (some (.next (s9.1,s9.2.1,(IntKind.i64.wrap (Int.fdiv (IntKind.u64.wrap (IntKind.i64.wrap (s9.2.1+s9.2.2))) (2^1)))))))
     (some (.brk (s9.1,s9.2.1,s9.2.2)))) (data,a,m)) fun fl9=>fl9.thenP fun(s9:Rz×Int×Int)=>
   ag (fY (σ:=Rz×Int) (ρ:=Empty) (fun(s10:Rz×Int)=>
    cond (decide (s10.2>s9.2.1))
     (ag (getI s10.1 (IntKind.i64.wrap (s10.2-(1:Int)))) fun(x121:Rq)=>
     ag (getI s10.1 s10.2) fun(x125:Rq)=>
     ag (getI s10.1 s10.2) fun(_:Rq)=>
     letP (s10.1.set s10.2.toNat x121) fun(y15:Rz)=>
     ag (getI y15 (IntKind.i64.wrap (s10.2-(1:Int)))) fun(_:Rq)=>
     letP (y15.set ((IntKind.i64.wrap (s10.2-(1:Int))).toNat) x125) fun(y16:Rz)=>
     some (.next (y16,(IntKind.i64.wrap (s10.2-(1:Int))))))
     (some (.brk (s10.1,s10.2)))) (s9.1,m)) fun fl10=>fl10.thenP fun(s10:Rz×Int)=>
   some s10.1)
   (letP (
    cond (decide (m>(IntKind.i64.wrap (Int.fdiv (IntKind.u64.wrap (IntKind.i64.wrap (a+b))) (2^1)))))
     ((data,(IntKind.i64.wrap ((IntKind.i64.wrap ((IntKind.i64.wrap (Int.fdiv (IntKind.u64.wrap (IntKind.i64.wrap (a+b))) (2^1)))+m))-b)),(IntKind.i64.wrap (Int.fdiv (IntKind.u64.wrap (IntKind.i64.wrap (a+b))) (2^1)))))
     ((data,a,m))) fun(t17:Rz×Int×Int)=>
   ag (fY (σ:=Rz×Int×Int) (ρ:=Empty) (fun(s18:Rz×Int×Int)=>
    cond (decide (s18.2.1<s18.2.2))
     (ag (getI s18.1 (IntKind.i64.wrap ((IntKind.i64.wrap ((IntKind.i64.wrap ((IntKind.i64.wrap (Int.fdiv (IntKind.u64.wrap (IntKind.i64.wrap (a+b))) (2^1)))+m))-(1:Int)))-(IntKind.i64.wrap (Int.fdiv (IntKind.u64.wrap (IntKind.i64.wrap (s18.2.1+s18.2.2))) (2^1)))))) fun(x163:Rq)=>
     ag (getI s18.1 (IntKind.i64.wrap (Int.fdiv (IntKind.u64.wrap (IntKind.i64.wrap (s18.2.1+s18.2.2))) (2^1)))) fun(x167:Rq)=>
     ag (cmp x163 x167) fun x169=>
     cond (!(decide (x169<(0:Int))))
      (some (.next (s18.1,(IntKind.i64.wrap ((IntKind.i64.wrap (Int.fdiv (IntKind.u64.wrap (IntKind.i64.wrap (s18.2.1+s18.2.2))) (2^1)))+(1:Int))),s18.2.2)))
      (some (.next (s18.1,s18.2.1,(IntKind.i64.wrap (Int.fdiv (IntKind.u64.wrap (IntKind.i64.wrap (s18.2.1+s18.2.2))) (2^1)))))))
     (some (.brk (s18.1,s18.2.1,s18.2.2)))) (t17.1,t17.2.1,t17.2.2)) fun fl18=>fl18.thenP fun(s18:Rz×Int×Int)=>
   letP (
    cond (decide (s18.2.1<m))
     ((s18.1,(decide (m<(IntKind.i64.wrap ((IntKind.i64.wrap ((IntKind.i64.wrap (Int.fdiv (IntKind.u64.wrap (IntKind.i64.wrap (a+b))) (2^1)))+m))-s18.2.1))))))
     ((s18.1,false))) fun(t19:Rz×Bool)=>
   ag (
    cond t19.2
     (ag (dD t19.1 s18.2.1 m (IntKind.i64.wrap ((IntKind.i64.wrap ((IntKind.i64.wrap (Int.fdiv (IntKind.u64.wrap (IntKind.i64.wrap (a+b))) (2^1)))+m))-s18.2.1)) cmp) fun x191=>
     ag (eY (x191.length=t19.1.length) ()) fun(_:Unit)=>
     some x191)
     (some t19.1)) fun(t20:Rz)=>
   letP (
    cond (decide (a<s18.2.1))
     ((t20,(decide (s18.2.1<(IntKind.i64.wrap (Int.fdiv (IntKind.u64.wrap (IntKind.i64.wrap (a+b))) (2^1)))))))
     ((t20,false))) fun(t21:Rz×Bool)=>
   ag (
    cond t21.2
     (ag (rec268 t21.1 a s18.2.1 (IntKind.i64.wrap (Int.fdiv (IntKind.u64.wrap (IntKind.i64.wrap (a+b))) (2^1)))) fun x205=>
     ag (eY (x205.length=t21.1.length) ()) fun(_:Unit)=>
     some x205)
     (some t21.1)) fun(t22:Rz)=>
   cond (decide ((IntKind.i64.wrap (Int.fdiv (IntKind.u64.wrap (IntKind.i64.wrap (a+b))) (2^1)))<(IntKind.i64.wrap ((IntKind.i64.wrap ((IntKind.i64.wrap (Int.fdiv (IntKind.u64.wrap (IntKind.i64.wrap (a+b))) (2^1)))+m))-s18.2.1))))
    (cond (decide ((IntKind.i64.wrap ((IntKind.i64.wrap ((IntKind.i64.wrap (Int.fdiv (IntKind.u64.wrap (IntKind.i64.wrap (a+b))) (2^1)))+m))-s18.2.1))<b))
     (ag (rec268 t22 (IntKind.i64.wrap (Int.fdiv (IntKind.u64.wrap (IntKind.i64.wrap (a+b))) (2^1))) (IntKind.i64.wrap ((IntKind.i64.wrap ((IntKind.i64.wrap (Int.fdiv (IntKind.u64.wrap (IntKind.i64.wrap (a+b))) (2^1)))+m))-s18.2.1)) b) fun x219=>
     ag (eY (x219.length=t22.length) ()) fun(_:Unit)=>
     some x219)
     (some t22))
    (some t22)))
theorem my(g_data:OwnRef){g_cmp:FuncId}{caps_cmp:List PV}(rec268:Rz→Int→Int→Int→Option (Rz))(hrec268:∀g0 a0 a1 a2 a3 r,rec268 a0 a1 a2 a3=some r→PH Tryz.prog 268 [(.own 0 g0 (a0.map (am 69 ae)).length),(al a1),(al a2),(al a3),(.fn g_cmp caps_cmp)] ⟨fun _=>none,upd (fun _=>none) 0 (some ⟨g0,54,(a0.map (am 69 ae)),true⟩)⟩ (fun u H=>u=(.tup [])∧H=⟨fun _=>none,upd (fun _=>none) 0 (some ⟨g0,54,(r.map (am 69 ae)),true⟩)⟩))(data:Rz)(a:Int)(m:Int)(b:Int)(cmp:Rq→Rq→Option (Int))(hg_cmp:∀(vs:Array Value) (w:World),(callFunc g_cmp vs).run Tryz.prog w= .ok (.enter g_cmp vs) w)(hp_cmp:∀a0 a1 r,cmp a0 a1=some r→aJ Tryz.prog g_cmp ((.list 69 (a0.map ae))::(.list 69 (a1.map ae))::caps_cmp) (al r))(r:Rz)(H:cB rec268 data a m b cmp=some r):
  PH Tryz.prog 268 [(.own 0 g_data (data.map (am 69 ae)).length),(al a),(al m),(al b),(.fn g_cmp caps_cmp)] ⟨fun _=>none,upd (fun _=>none) 0 (some ⟨g_data,54,(data.map (am 69 ae)),true⟩)⟩ (fun u H=>u=(.tup [])∧H=⟨fun _=>none,upd (fun _=>none) 0 (some ⟨g_data,54,(r.map (am 69 ae)),true⟩)⟩):=by
 unfold cB at H;refine PH.au Tryz.func268 Tryz.ntmps268 ?_;refine ab (ao 4 tk rfl ?_);refine aE rfl H (fun H=>?_) (fun H=>?_)
 ·refine ao 2 tk rfl (ao 2 tk rfl (ab ?_))
  obtain⟨fl1,H1,Hp1⟩:=av H
  refine fL (τ:=Rz×Int×Int) (γ:=Unit) (fun s1 g1=>⟨220,upd (upd (upd (fun _=>.any) 10 (al s1.2.1)) 1 (al a)) 0 (.own 0 g_data (s1.1.map (am 69 ae)).length),fun _=>none,upd (fun _=>none) 0 (some ⟨g_data,54,(s1.1.map (am 69 ae)),true⟩)⟩) (fun t=>fl1= .next t) ?_ (fun s1 g1 hn1=>?_)
  ·refine aw ?_;refine ic (fun s1 g1=>⟨220,upd (upd (upd (upd (upd (fun _=>.any) 11 (al s1.2.2)) 10 (al s1.2.1)) 4 (.fn g_cmp caps_cmp)) 1 (al a)) 0 (.own 0 g_data (s1.1.map (am 69 ae)).length),fun _=>none,upd (fun _=>none) 0 (some ⟨g_data,54,(s1.1.map (am 69 ae)),true⟩)⟩) () H1 Gh.d (fun m1 s1 g1 hr1=>?_)
   obtain⟨fb1,H,hg1⟩:=fK hr1
   refine ab (ao 3 tk rfl ?_);refine aE rfl H (fun H=>?_) (fun H=>?_)
   ·refine ap (aw (ab (aa (af 4 tk rfl (uX (m:=1) rfl rfl rfl rfl (by decide) rfl rfl (af 2 tk rfl (ac (ab ?_))))))));refine iL (tag:=0) rfl (fun ho0=>?_);refine bn tk mok ⟨false,true,[]⟩ [0,1,2,3,4,5,6,7,8,9,10] rfl (by decide+kernel) rfl (aN 3 rfl ?_)
    obtain⟨x43,k43,H⟩:=br H
    refine cU tk ⟨k43.1,(dB k43.2)⟩ (dK ho0 k43.2) ?_;refine fG tk rfl rfl rfl rfl rfl rfl rfl rfl rfl (aM (fun _=>rfl) k43.2) rfl rfl ?_;refine aN 2 rfl ?_
    obtain⟨x47,k47,H⟩:=br H
    refine cU tk ⟨k47.1,(dB k47.2)⟩ (dK ho0 k47.2) ?_;refine fG tk rfl rfl rfl rfl rfl rfl rfl rfl rfl (aM (fun _=>rfl) k47.2) rfl rfl ?_
    obtain⟨x49,h49,H⟩:=av H
    refine aY hg_cmp (iX.r) (hp_cmp _ _ _ h49) ?_;refine bN rfl (bm ?_);refine aE rfl H (fun H=>?_) (fun H=>?_)
    ·refine be 3 tk rfl (aH ?_);obtain rfl:=ax H;refine eF (s1.1,(IntKind.i64.wrap ((IntKind.i64.wrap (Int.fdiv (IntKind.u64.wrap (IntKind.i64.wrap (s1.2.1+s1.2.2))) (2^1)))+(1:Int))),s1.2.2) () hg1 Gh.d
    refine be 2 tk rfl (aH ?_);obtain rfl:=ax H;refine eF (s1.1,s1.2.1,(IntKind.i64.wrap (Int.fdiv (IntKind.u64.wrap (IntKind.i64.wrap (s1.2.1+s1.2.2))) (2^1)))) () hg1 Gh.d
   refine bs rfl ?_;obtain rfl:=ax H;refine aS (s1.1,s1.2.1,s1.2.2) () hg1 Gh.d
  have H:=dM hn1 Hp1;refine ab (ao 2 tk rfl ?_)
  obtain⟨fl2,H2,Hp2⟩:=av H
  refine fL (τ:=Rz×Int) (γ:=Unit) (fun s2 g2=>⟨220,upd (fun _=>.any) 0 (.own 0 g_data (s2.1.map (am 69 ae)).length),fun _=>none,upd (fun _=>none) 0 (some ⟨g_data,54,(s2.1.map (am 69 ae)),true⟩)⟩) (fun t=>fl2= .next t) ?_ (fun s2 g2 hn2=>?_)
  ·refine aw ?_;refine ic (fun s2 g2=>⟨220,upd (upd (upd (fun _=>.any) 13 (al s2.2)) 10 (al s1.2.1)) 0 (.own 0 g_data (s2.1.map (am 69 ae)).length),fun _=>none,upd (fun _=>none) 0 (some ⟨g_data,54,(s2.1.map (am 69 ae)),true⟩)⟩) () H2 Gh.d (fun m2 s2 g2 hr2=>?_)
   obtain⟨fb2,H,hg2⟩:=fK hr2
   refine ab (ao 4 tk rfl ?_);refine aE rfl H (fun H=>?_) (fun H=>?_)
   ·refine ap (ab (aw ?_));refine iL (tag:=0) rfl (fun ho0=>?_);refine bn tk mok ⟨false,true,[]⟩ [0,1,2,3,4,5,6,7,8,9,10,11,12,13,14,15,16,17] rfl (by decide+kernel) rfl (aN 8 rfl ?_)
    obtain⟨x69,k69,H⟩:=br H
    refine cU tk ⟨k69.1,(dB k69.2)⟩ (dK ho0 k69.2) ?_;refine fG tk rfl rfl rfl rfl rfl rfl rfl rfl rfl (aM (fun _=>rfl) k69.2) rfl rfl ?_;refine aN 2 rfl ?_
    obtain⟨x73,k73,H⟩:=br H
    refine cU tk ⟨k73.1,(dB k73.2)⟩ (dK ho0 k73.2) ?_;refine fG tk rfl rfl rfl rfl rfl rfl rfl rfl rfl (aM (fun _=>rfl) k73.2) rfl rfl ?_
    obtain⟨x75,k75,H⟩:=br H
    refine cU tk ⟨k75.1,(dB k75.2)⟩ (dK ho0 k75.2) ?_
    obtain⟨y7,hy7,H⟩:=cp H
    refine jd tk rfl rfl rfl rfl rfl rfl rfl rfl rfl (by rw[zl];exact(zg.1 k75.2).1) (PLe.refl _ _) rfl rfl rfl rfl (by decide) (fo (fun _=>rfl) k75.2 rfl hy7) ?_
    obtain⟨x76,k76,H⟩:=br H
    refine cU tk ⟨k76.1,(tR (eQ (f:=(am 69 ae)) hy7) k76.2)⟩ (tN ho0 (eQ (f:=(am 69 ae)) hy7) k76.2) ?_
    obtain⟨y8,hy8,H⟩:=cp H
    refine jd tk rfl rfl rfl rfl rfl rfl rfl rfl rfl (by rw[zl];exact(zg.1 k76.2).1) (PLe.refl _ _) rfl rfl rfl rfl (by decide) (fo (fun _=>rfl) k76.2 rfl hy8) ?_;refine bm (aH (be 3 tk rfl ?_));obtain rfl:=ax H;refine eF (y8,(IntKind.i64.wrap (s2.2+(1:Int)))) () hg2 (Gh.le (bG (PLe.of2 (pj.of_eq (congrArg (PV.own 0 g_data) ((eQ (f:=(am 69 ae)) hy7).trans (eQ (f:=(am 69 ae)) hy8))))) (ay (ay bg))) aK (bd aL))
   refine bs rfl ?_;obtain rfl:=ax H;refine aS (s2.1,s2.2) () hg2 Gh.d
  have H:=dM hn2 Hp2;obtain rfl:=ax H;refine eR (st':=⟨220,fun _=>.any,fun _=>none,upd (fun _=>none) 0 (some ⟨g_data,54,(s2.1.map (am 69 ae)),true⟩)⟩) (Gh.le bg aK (bd aL)) ?_;refine gV tk rfl (ps:=[]) rfl (PLe.q rfl) ⟨rfl,rfl⟩
 refine ap (ab (ao 4 tk rfl ?_));refine aE rfl H (fun H=>?_) (fun H=>?_)
 ·refine ao 2 tk rfl (ao 2 tk rfl (ab ?_))
  obtain⟨fl9,H9,Hp9⟩:=av H
  refine fL (τ:=Rz×Int×Int) (γ:=Unit) (fun s9 g9=>⟨220,upd (upd (upd (fun _=>.any) 14 (al s9.2.1)) 2 (al m)) 0 (.own 0 g_data (s9.1.map (am 69 ae)).length),fun _=>none,upd (fun _=>none) 0 (some ⟨g_data,54,(s9.1.map (am 69 ae)),true⟩)⟩) (fun t=>fl9= .next t) ?_ (fun s9 g9 hn9=>?_)
  ·refine aw ?_;refine ic (fun s9 g9=>⟨220,upd (upd (upd (upd (upd (fun _=>.any) 15 (al s9.2.2)) 14 (al s9.2.1)) 4 (.fn g_cmp caps_cmp)) 2 (al m)) 0 (.own 0 g_data (s9.1.map (am 69 ae)).length),fun _=>none,upd (fun _=>none) 0 (some ⟨g_data,54,(s9.1.map (am 69 ae)),true⟩)⟩) () H9 Gh.d (fun m9 s9 g9 hr9=>?_)
   obtain⟨fb9,H,hg9⟩:=fK hr9
   refine ab (ao 3 tk rfl ?_);refine aE rfl H (fun H=>?_) (fun H=>?_)
   ·refine ap (aw (ab (aa (af 4 tk rfl (uX (m:=1) rfl rfl rfl rfl (by decide) rfl rfl (af 2 tk rfl (ac (ab ?_))))))));refine iL (tag:=0) rfl (fun ho0=>?_);refine bn tk mok ⟨false,true,[]⟩ [0,1,2,3,4,5,6,7,8,9,10,11] rfl (by decide+kernel) rfl (aN 3 rfl ?_)
    obtain⟨x95,k95,H⟩:=br H
    refine cU tk ⟨k95.1,(dB k95.2)⟩ (dK ho0 k95.2) ?_;refine fG tk rfl rfl rfl rfl rfl rfl rfl rfl rfl (aM (fun _=>rfl) k95.2) rfl rfl ?_;refine aN 2 rfl ?_
    obtain⟨x99,k99,H⟩:=br H
    refine cU tk ⟨k99.1,(dB k99.2)⟩ (dK ho0 k99.2) ?_;refine fG tk rfl rfl rfl rfl rfl rfl rfl rfl rfl (aM (fun _=>rfl) k99.2) rfl rfl ?_
    obtain⟨x101,h101,H⟩:=av H
    refine aY hg_cmp (iX.r) (hp_cmp _ _ _ h101) ?_;refine aN 2 rfl (bm ?_);refine aE rfl H (fun H=>?_) (fun H=>?_)
    ·refine be 3 tk rfl (aH ?_);obtain rfl:=ax H;refine eF (s9.1,(IntKind.i64.wrap ((IntKind.i64.wrap (Int.fdiv (IntKind.u64.wrap (IntKind.i64.wrap (s9.2.1+s9.2.2))) (2^1)))+(1:Int))),s9.2.2) () hg9 Gh.d
    refine be 2 tk rfl (aH ?_);obtain rfl:=ax H;refine eF (s9.1,s9.2.1,(IntKind.i64.wrap (Int.fdiv (IntKind.u64.wrap (IntKind.i64.wrap (s9.2.1+s9.2.2))) (2^1)))) () hg9 Gh.d
   refine bs rfl ?_;obtain rfl:=ax H;refine aS (s9.1,s9.2.1,s9.2.2) () hg9 Gh.d
  have H:=dM hn9 Hp9;refine ab (ao 2 tk rfl ?_)
  obtain⟨fl10,H10,Hp10⟩:=av H
  refine fL (τ:=Rz×Int) (γ:=Unit) (fun s10 g10=>⟨220,upd (fun _=>.any) 0 (.own 0 g_data (s10.1.map (am 69 ae)).length),fun _=>none,upd (fun _=>none) 0 (some ⟨g_data,54,(s10.1.map (am 69 ae)),true⟩)⟩) (fun t=>fl10= .next t) ?_ (fun s10 g10 hn10=>?_)
  ·refine aw ?_;refine ic (fun s10 g10=>⟨220,upd (upd (upd (fun _=>.any) 17 (al s10.2)) 14 (al s9.2.1)) 0 (.own 0 g_data (s10.1.map (am 69 ae)).length),fun _=>none,upd (fun _=>none) 0 (some ⟨g_data,54,(s10.1.map (am 69 ae)),true⟩)⟩) () H10 Gh.d (fun m10 s10 g10 hr10=>?_)
   obtain⟨fb10,H,hg10⟩:=fK hr10
   refine ab (ao 3 tk rfl ?_);refine aE rfl H (fun H=>?_) (fun H=>?_)
   ·refine ap (ab (aw ?_));refine iL (tag:=0) rfl (fun ho0=>?_);refine bn tk mok ⟨false,true,[]⟩ [0,1,2,3,4,5,6,7,8,9,10,11,12,13,14,15,16,17] rfl (by decide+kernel) rfl (aN 8 rfl ?_)
    obtain⟨x121,k121,H⟩:=br H
    refine cU tk ⟨k121.1,(dB k121.2)⟩ (dK ho0 k121.2) ?_;refine fG tk rfl rfl rfl rfl rfl rfl rfl rfl rfl (aM (fun _=>rfl) k121.2) rfl rfl ?_;refine aN 2 rfl ?_
    obtain⟨x125,k125,H⟩:=br H
    refine cU tk ⟨k125.1,(dB k125.2)⟩ (dK ho0 k125.2) ?_;refine fG tk rfl rfl rfl rfl rfl rfl rfl rfl rfl (aM (fun _=>rfl) k125.2) rfl rfl ?_
    obtain⟨x127,k127,H⟩:=br H
    refine cU tk ⟨k127.1,(dB k127.2)⟩ (dK ho0 k127.2) ?_
    obtain⟨y15,hy15,H⟩:=cp H
    refine jd tk rfl rfl rfl rfl rfl rfl rfl rfl rfl (by rw[zl];exact(zg.1 k127.2).1) (PLe.refl _ _) rfl rfl rfl rfl (by decide) (fo (fun _=>rfl) k127.2 rfl hy15) ?_
    obtain⟨x128,k128,H⟩:=br H
    refine cU tk ⟨k128.1,(tR (eQ (f:=(am 69 ae)) hy15) k128.2)⟩ (tN ho0 (eQ (f:=(am 69 ae)) hy15) k128.2) ?_
    obtain⟨y16,hy16,H⟩:=cp H
    refine jd tk rfl rfl rfl rfl rfl rfl rfl rfl rfl (by rw[zl];exact(zg.1 k128.2).1) (PLe.refl _ _) rfl rfl rfl rfl (by decide) (fo (fun _=>rfl) k128.2 rfl hy16) ?_;refine bm (aH (be 3 tk rfl ?_));obtain rfl:=ax H;refine eF (y16,(IntKind.i64.wrap (s10.2-(1:Int)))) () hg10 (Gh.le (bG (PLe.of2 (pj.of_eq (congrArg (PV.own 0 g_data) ((eQ (f:=(am 69 ae)) hy15).trans (eQ (f:=(am 69 ae)) hy16))))) (ay (ay bg))) aK (bd aL))
   refine bs rfl ?_;obtain rfl:=ax H;refine aS (s10.1,s10.2) () hg10 Gh.d
  have H:=dM hn10 Hp10;obtain rfl:=ax H;refine eR (st':=⟨220,fun _=>.any,fun _=>none,upd (fun _=>none) 0 (some ⟨g_data,54,(s10.1.map (am 69 ae)),true⟩)⟩) (Gh.le bg aK (bd aL)) ?_;refine gV tk rfl (ps:=[]) rfl (PLe.q rfl) ⟨rfl,rfl⟩
 refine ap (ab (aa (af 4 tk rfl (uX (m:=1) rfl rfl rfl rfl (by decide) rfl rfl (af 2 tk rfl (ac (ao 4 tk rfl (ao 2 tk rfl (ab (ao 3 tk rfl ?_))))))))));refine eM (γ:=Unit) (fun t17 g17=>⟨220,upd (upd (upd (upd (upd (upd (upd (upd (upd (fun _=>.any) 21 (al t17.2.2)) 20 (al t17.2.1)) 19 (al (IntKind.i64.wrap ((IntKind.i64.wrap (Int.fdiv (IntKind.u64.wrap (IntKind.i64.wrap (a+b))) (2^1)))+m)))) 18 (al (IntKind.i64.wrap (Int.fdiv (IntKind.u64.wrap (IntKind.i64.wrap (a+b))) (2^1))))) 4 (.fn g_cmp caps_cmp)) 3 (al b)) 2 (al m)) 1 (al a)) 0 (.own 0 g_data (t17.1.map (am 69 ae)).length),fun _=>none,upd (fun _=>none) 0 (some ⟨g_data,54,(t17.1.map (am 69 ae)),true⟩)⟩) H (fun _ H=>?_) (fun t17 g17 H=>?_)
 ·refine aE rfl H (fun H=>?_) (fun H=>?_)
  ·refine ao 4 tk rfl (be 2 tk rfl ?_);refine aS _ () H Gh.d
  refine ao 2 tk rfl (be 2 tk rfl ?_);refine aS _ () H Gh.d
 refine ao 3 tk rfl (ab ?_)
 obtain⟨fl18,H18,Hp18⟩:=av H
 refine fL (τ:=Rz×Int×Int) (γ:=Unit) (fun s18 g18=>⟨220,upd (upd (upd (upd (upd (upd (upd (upd (fun _=>.any) 20 (al s18.2.1)) 19 (al (IntKind.i64.wrap ((IntKind.i64.wrap (Int.fdiv (IntKind.u64.wrap (IntKind.i64.wrap (a+b))) (2^1)))+m)))) 18 (al (IntKind.i64.wrap (Int.fdiv (IntKind.u64.wrap (IntKind.i64.wrap (a+b))) (2^1))))) 4 (.fn g_cmp caps_cmp)) 3 (al b)) 2 (al m)) 1 (al a)) 0 (.own 0 g_data (s18.1.map (am 69 ae)).length),fun _=>none,upd (fun _=>none) 0 (some ⟨g_data,54,(s18.1.map (am 69 ae)),true⟩)⟩) (fun t=>fl18= .next t) ?_ (fun s18 g18 hn18=>?_)
 ·refine aw ?_;refine ic (fun s18 g18=>⟨220,upd (upd (upd (upd (upd (upd (upd (upd (upd (upd (fun _=>.any) 22 (al (IntKind.i64.wrap ((IntKind.i64.wrap ((IntKind.i64.wrap (Int.fdiv (IntKind.u64.wrap (IntKind.i64.wrap (a+b))) (2^1)))+m))-(1:Int))))) 21 (al s18.2.2)) 20 (al s18.2.1)) 19 (al (IntKind.i64.wrap ((IntKind.i64.wrap (Int.fdiv (IntKind.u64.wrap (IntKind.i64.wrap (a+b))) (2^1)))+m)))) 18 (al (IntKind.i64.wrap (Int.fdiv (IntKind.u64.wrap (IntKind.i64.wrap (a+b))) (2^1))))) 4 (.fn g_cmp caps_cmp)) 3 (al b)) 2 (al m)) 1 (al a)) 0 (.own 0 g_data (s18.1.map (am 69 ae)).length),fun _=>none,upd (fun _=>none) 0 (some ⟨g_data,54,(s18.1.map (am 69 ae)),true⟩)⟩) () H18 Gh.d (fun m18 s18 g18 hr18=>?_)
  obtain⟨fb18,H,hg18⟩:=fK hr18
  refine ab (ao 3 tk rfl ?_);refine aE rfl H (fun H=>?_) (fun H=>?_)
  ·refine ap (aw (ab (aa (af 4 tk rfl (uX (m:=1) rfl rfl rfl rfl (by decide) rfl rfl (af 2 tk rfl (ac (ab ?_))))))));refine iL (tag:=0) rfl (fun ho0=>?_);refine bn tk mok ⟨false,true,[]⟩ [0,1,2,3,4,5,6,7,8,9,10,11,12,13] rfl (by decide+kernel) rfl (aN 5 rfl ?_)
   obtain⟨x163,k163,H⟩:=br H
   refine cU tk ⟨k163.1,(dB k163.2)⟩ (dK ho0 k163.2) ?_;refine fG tk rfl rfl rfl rfl rfl rfl rfl rfl rfl (aM (fun _=>rfl) k163.2) rfl rfl ?_;refine aN 2 rfl ?_
   obtain⟨x167,k167,H⟩:=br H
   refine cU tk ⟨k167.1,(dB k167.2)⟩ (dK ho0 k167.2) ?_;refine fG tk rfl rfl rfl rfl rfl rfl rfl rfl rfl (aM (fun _=>rfl) k167.2) rfl rfl ?_
   obtain⟨x169,h169,H⟩:=av H
   refine aY hg_cmp (iX.r) (hp_cmp _ _ _ h169) ?_;refine aN 2 rfl (bm ?_);refine aE rfl H (fun H=>?_) (fun H=>?_)
   ·refine be 3 tk rfl (aH ?_);obtain rfl:=ax H;refine eF (s18.1,(IntKind.i64.wrap ((IntKind.i64.wrap (Int.fdiv (IntKind.u64.wrap (IntKind.i64.wrap (s18.2.1+s18.2.2))) (2^1)))+(1:Int))),s18.2.2) () hg18 Gh.d
   refine be 2 tk rfl (aH ?_);obtain rfl:=ax H;refine eF (s18.1,s18.2.1,(IntKind.i64.wrap (Int.fdiv (IntKind.u64.wrap (IntKind.i64.wrap (s18.2.1+s18.2.2))) (2^1)))) () hg18 Gh.d
  refine bs rfl ?_;obtain rfl:=ax H;refine aS (s18.1,s18.2.1,s18.2.2) () hg18 Gh.d
 have H:=dM hn18 Hp18;refine ao 4 tk rfl (ab (ab ?_));refine eM (γ:=Unit) (fun t19 g19=>⟨220,upd (upd (upd (upd (upd (upd (upd (upd (upd (fun _=>.any) 185 (aB t19.2)) 24 (al (IntKind.i64.wrap ((IntKind.i64.wrap ((IntKind.i64.wrap (Int.fdiv (IntKind.u64.wrap (IntKind.i64.wrap (a+b))) (2^1)))+m))-s18.2.1)))) 20 (al s18.2.1)) 18 (al (IntKind.i64.wrap (Int.fdiv (IntKind.u64.wrap (IntKind.i64.wrap (a+b))) (2^1))))) 4 (.fn g_cmp caps_cmp)) 3 (al b)) 2 (al m)) 1 (al a)) 0 (.own 0 g_data (t19.1.map (am 69 ae)).length),fun _=>none,upd (fun _=>none) 0 (some ⟨g_data,54,(t19.1.map (am 69 ae)),true⟩)⟩) H (fun _ H=>?_) (fun t19 g19 H=>?_)
 ·refine aa (af 4 tk rfl ?_);refine bh rfl rfl rfl H (fun H=>?_) (fun H=>?_)
  ·refine af 4 tk rfl (ac ?_);refine aS _ () H Gh.d
  refine af 4 tk rfl (ac ?_);refine aS _ () H Gh.d
 refine ew (γ:=Unit) (fun t20 g20=>⟨220,upd (upd (upd (upd (upd (upd (upd (fun _=>.any) 24 (al (IntKind.i64.wrap ((IntKind.i64.wrap ((IntKind.i64.wrap (Int.fdiv (IntKind.u64.wrap (IntKind.i64.wrap (a+b))) (2^1)))+m))-s18.2.1)))) 20 (al s18.2.1)) 18 (al (IntKind.i64.wrap (Int.fdiv (IntKind.u64.wrap (IntKind.i64.wrap (a+b))) (2^1))))) 4 (.fn g_cmp caps_cmp)) 3 (al b)) 1 (al a)) 0 (.own 0 g_data (t20.map (am 69 ae)).length),fun _=>none,upd (fun _=>none) 0 (some ⟨g_data,54,(t20.map (am 69 ae)),true⟩)⟩) H (fun _ H=>?_) (fun t20 g20 H=>?_)
 ·refine aE rfl H (fun H=>?_) (fun H=>?_)
  ·refine aa (af 5 tk rfl ?_)
   obtain⟨x191,h191,H⟩:=av H
   have s191:=nq g_data t19.1 s18.2.1 m (IntKind.i64.wrap ((IntKind.i64.wrap ((IntKind.i64.wrap (Int.fdiv (IntKind.u64.wrap (IntKind.i64.wrap (a+b))) (2^1)))+m))-s18.2.1)) cmp hg_cmp hp_cmp _ h191
   obtain⟨_,q191_0,H⟩:=av H
   have l191_0:=(dH q191_0).1;have z191_0:(List.map (am 69 ae) t19.1).length=(List.map (am 69 ae) x191).length:=by simpa using(l191_0).symm
   refine dw (g:=278) rfl rfl rfl Tryz.call278 [] [(0,0)] rfl rfl rfl rfl (iX.of2 (jg.cons (pj.own rfl) (jg.cons (pj.of_eq rfl) (jg.cons (pj.of_eq rfl) (jg.cons (pj.of_eq rfl) (jg.cons (pj.of_eq rfl) jg.nil)))))) (by rw[cE,bU,cD];rfl) s191 ?_;rintro u191 H191h ⟨rfl,rfl⟩
   refine⟨_,rfl,?_⟩
   refine dc (st':=⟨_,_,fun _=>none,upd (fun _=>none) 0 (some ⟨g_data,54,(x191.map (am 69 ae)),true⟩)⟩) (Gh.le (cj _ _) aK (bd aL)) ?_;refine ac ?_;refine aS _ () (ax H) (Gh.le (bG (PLe.of2 (pj.of_eq (congrArg (PV.own 0 g_data) z191_0))) (ay (ay (ay (ay (ay (ay bg))))))) aK (bd aL))
  refine ap ?_;refine aS _ () (ax H) Gh.d
 refine ab (ab ?_);refine eM (γ:=Unit) (fun t21 g21=>⟨220,upd (upd (upd (upd (upd (upd (upd (upd (fun _=>.any) 199 (aB t21.2)) 24 (al (IntKind.i64.wrap ((IntKind.i64.wrap ((IntKind.i64.wrap (Int.fdiv (IntKind.u64.wrap (IntKind.i64.wrap (a+b))) (2^1)))+m))-s18.2.1)))) 20 (al s18.2.1)) 18 (al (IntKind.i64.wrap (Int.fdiv (IntKind.u64.wrap (IntKind.i64.wrap (a+b))) (2^1))))) 4 (.fn g_cmp caps_cmp)) 3 (al b)) 1 (al a)) 0 (.own 0 g_data (t21.1.map (am 69 ae)).length),fun _=>none,upd (fun _=>none) 0 (some ⟨g_data,54,(t21.1.map (am 69 ae)),true⟩)⟩) H (fun _ H=>?_) (fun t21 g21 H=>?_)
 ·refine aa (af 4 tk rfl ?_);refine bh rfl rfl rfl H (fun H=>?_) (fun H=>?_)
  ·refine af 4 tk rfl (ac ?_);refine aS _ () H Gh.d
  refine af 4 tk rfl (ac ?_);refine aS _ () H Gh.d
 refine ew (γ:=Unit) (fun t22 g22=>⟨220,upd (upd (upd (upd (upd (fun _=>.any) 24 (al (IntKind.i64.wrap ((IntKind.i64.wrap ((IntKind.i64.wrap (Int.fdiv (IntKind.u64.wrap (IntKind.i64.wrap (a+b))) (2^1)))+m))-s18.2.1)))) 18 (al (IntKind.i64.wrap (Int.fdiv (IntKind.u64.wrap (IntKind.i64.wrap (a+b))) (2^1))))) 4 (.fn g_cmp caps_cmp)) 3 (al b)) 0 (.own 0 g_data (t22.map (am 69 ae)).length),fun _=>none,upd (fun _=>none) 0 (some ⟨g_data,54,(t22.map (am 69 ae)),true⟩)⟩) H (fun _ H=>?_) (fun t22 g22 H=>?_)
 ·refine aE rfl H (fun H=>?_) (fun H=>?_)
  ·refine aa (af 5 tk rfl ?_)
   obtain⟨x205,h205,H⟩:=av H
   have s205:=hrec268 g_data t21.1 a s18.2.1 (IntKind.i64.wrap (Int.fdiv (IntKind.u64.wrap (IntKind.i64.wrap (a+b))) (2^1))) _ h205
   obtain⟨_,q205_0,H⟩:=av H
   have l205_0:=(dH q205_0).1;have z205_0:(List.map (am 69 ae) t21.1).length=(List.map (am 69 ae) x205).length:=by simpa using(l205_0).symm
   refine dw (g:=268) rfl rfl rfl Tryz.call268 [] [(0,0)] rfl rfl rfl rfl (iX.of2 (jg.cons (pj.own rfl) (jg.cons (pj.of_eq rfl) (jg.cons (pj.of_eq rfl) (jg.cons (pj.of_eq rfl) (jg.cons (pj.of_eq rfl) jg.nil)))))) (by rw[cE,bU,cD];rfl) s205 ?_;rintro u205 H205h ⟨rfl,rfl⟩
   refine⟨_,rfl,?_⟩
   refine dc (st':=⟨_,_,fun _=>none,upd (fun _=>none) 0 (some ⟨g_data,54,(x205.map (am 69 ae)),true⟩)⟩) (Gh.le (cj _ _) aK (bd aL)) ?_;refine ac ?_;refine aS _ () (ax H) (Gh.le (bG (PLe.of2 (pj.of_eq (congrArg (PV.own 0 g_data) z205_0))) (ay (ay (ay (ay bg))))) aK (bd aL))
  refine ap ?_;refine aS _ () (ax H) Gh.d
 refine ab (aa (af 4 tk rfl ?_));refine bh rfl rfl rfl H (fun H=>?_) (fun H=>?_)
 ·refine af 4 tk rfl (ac ?_);refine aE rfl H (fun H=>?_) (fun H=>?_)
  ·refine aa (af 5 tk rfl ?_)
   obtain⟨x219,h219,H⟩:=av H
   have s219:=hrec268 g_data t22 (IntKind.i64.wrap (Int.fdiv (IntKind.u64.wrap (IntKind.i64.wrap (a+b))) (2^1))) (IntKind.i64.wrap ((IntKind.i64.wrap ((IntKind.i64.wrap (Int.fdiv (IntKind.u64.wrap (IntKind.i64.wrap (a+b))) (2^1)))+m))-s18.2.1)) b _ h219
   obtain⟨_,q219_0,H⟩:=av H
   have l219_0:=(dH q219_0).1;have z219_0:(List.map (am 69 ae) t22).length=(List.map (am 69 ae) x219).length:=by simpa using(l219_0).symm
   refine dw (g:=268) rfl rfl rfl Tryz.call268 [] [(0,0)] rfl rfl rfl rfl (iX.of2 (jg.cons (pj.own rfl) (jg.cons (pj.of_eq rfl) (jg.cons (pj.of_eq rfl) (jg.cons (pj.of_eq rfl) (jg.cons (pj.of_eq rfl) jg.nil)))))) (by rw[cE,bU,cD];rfl) s219 ?_;rintro u219 H219h ⟨rfl,rfl⟩
   refine⟨_,rfl,?_⟩
   refine dc (st':=⟨_,_,fun _=>none,upd (fun _=>none) 0 (some ⟨g_data,54,(x219.map (am 69 ae)),true⟩)⟩) (Gh.le (cj _ _) aK (bd aL)) ?_;refine ac ?_;obtain rfl:=ax H;refine eR (st':=⟨220,fun _=>.any,fun _=>none,upd (fun _=>none) 0 (some ⟨g_data,54,(x219.map (am 69 ae)),true⟩)⟩) (Gh.le bg aK (bd aL)) ?_;refine nG rfl (PLe.q rfl) ⟨rfl,rfl⟩
  refine ap ?_;obtain rfl:=ax H;refine eR (st':=⟨220,fun _=>.any,fun _=>none,upd (fun _=>none) 0 (some ⟨g_data,54,(t22.map (am 69 ae)),true⟩)⟩) (Gh.le bg aK (bd aL)) ?_;refine nG rfl (PLe.q rfl) ⟨rfl,rfl⟩
 refine af 4 tk rfl (ac (bA rfl (ap ?_)));obtain rfl:=ax H;refine eR (st':=⟨220,fun _=>.any,fun _=>none,upd (fun _=>none) 0 (some ⟨g_data,54,(t22.map (am 69 ae)),true⟩)⟩) (Gh.le bg aK (bd aL)) ?_;refine nG rfl (PLe.q rfl) ⟨rfl,rfl⟩
def bv:Nat→Rz→Int→Int→Int→(Rq→Rq→Option (Int))→Option (Rz)
 |0,_,_,_,_,_=>none
 |n+1,v0,v1,v2,v3,v4=>cB (fun b0 b1 b2 b3=>bv n b0 b1 b2 b3 v4) v0 v1 v2 v3 v4
theorem mm{g_cmp:FuncId}{caps_cmp:List PV}(cmp:Rq→Rq→Option (Int))(hg_cmp:∀(vs:Array Value) (w:World),(callFunc g_cmp vs).run Tryz.prog w= .ok (.enter g_cmp vs) w)(hp_cmp:∀a0 a1 r,cmp a0 a1=some r→aJ Tryz.prog g_cmp ((.list 69 (a0.map ae))::(.list 69 (a1.map ae))::caps_cmp) (al r))(n:Nat):(∀g0 a0 a1 a2 a3 r,bv n a0 a1 a2 a3 cmp=some r→PH Tryz.prog 268 [(.own 0 g0 (a0.map (am 69 ae)).length),(al a1),(al a2),(al a3),(.fn g_cmp caps_cmp)] ⟨fun _=>none,upd (fun _=>none) 0 (some ⟨g0,54,(a0.map (am 69 ae)),true⟩)⟩ (fun u H=>u=(.tup [])∧H=⟨fun _=>none,upd (fun _=>none) 0 (some ⟨g0,54,(r.map (am 69 ae)),true⟩)⟩)):=by
 induction n with
 |zero=>exact(by intros;rename_i h;exact absurd (show(none:Option _)=some _ from h) (by simp))
 |succ n ih=>
  exact(fun g0 v0 v1 v2 v3 r h=>my g0 (fun b0 b1 b2 b3=>bv n b0 b1 b2 b3 cmp) ih v0 v1 v2 v3 cmp hg_cmp hp_cmp r h)
def fm(data:Rz)(a:Int)(m:Int)(b:Int)(cmp:Rq→Rq→Option (Int)):Option (Rz):=jl fun n=>bv n data a m b cmp
theorem jS(g_data:OwnRef){g_cmp:FuncId}{caps_cmp:List PV}(data:Rz)(a:Int)(m:Int)(b:Int)(cmp:Rq→Rq→Option (Int))(hg_cmp:∀(vs:Array Value) (w:World),(callFunc g_cmp vs).run Tryz.prog w= .ok (.enter g_cmp vs) w)(hp_cmp:∀a0 a1 r,cmp a0 a1=some r→aJ Tryz.prog g_cmp ((.list 69 (a0.map ae))::(.list 69 (a1.map ae))::caps_cmp) (al r))(r:Rz)(H:fm data a m b cmp=some r):
  PH Tryz.prog 268 [(.own 0 g_data (data.map (am 69 ae)).length),(al a),(al m),(al b),(.fn g_cmp caps_cmp)] ⟨fun _=>none,upd (fun _=>none) 0 (some ⟨g_data,54,(data.map (am 69 ae)),true⟩)⟩ (fun u H=>u=(.tup [])∧H=⟨fun _=>none,upd (fun _=>none) 0 (some ⟨g_data,54,(r.map (am 69 ae)),true⟩)⟩):=by
 obtain⟨n,h⟩:=jD H
 exact(mm cmp hg_cmp hp_cmp n) g_data data a m b r h
def jM(a:Rz)(b:Rz):Option (Bool):=
 ag (cv a b (fun a0 a1=>iY a0 a1)) fun x7=>
 some x7
theorem uO(a:Rz)(b:Rz)(r:Bool)(H:jM a b=some r):
  aJ Tryz.prog 60 [(.list 54 (a.map (am 69 ae))),(.list 54 (b.map (am 69 ae)))] (aB r):=by
 unfold jM at H;refine PH.au Tryz.func60 Tryz.ntmps60 ?_;refine ao 1 tk rfl (ab (aa (af 2 tk rfl ?_)))
 obtain⟨x7,h7,H⟩:=av H
 have s7:=jq a b (fun a0 a1=>iY a0 a1) Tryz.call92 (fun a0 a1 r h=>tE a0 a1 r h) _ h7;refine ak Tryz.call51 (iX.r) s7 ?_;refine ah tk rfl (ac ?_);exact aW tk H rfl
def iB(a:LVal)(op:List UInt8)(b:LVal):Bool×Int:=
 letP (
  cond (!(op==([61]:List UInt8)))
   (cond (!(op==([60]:List UInt8)))
    ((!(op==([60,61]:List UInt8))))
    (false))
   (false)) fun(t1:Bool)=>
 cond t1
  ((false,3))
  (letP (
   cond (a.kind==(0:Int))
    (true)
    ((b.kind==(0:Int)))) fun(t2:Bool)=>
  cond t2
   ((true,0))
   (letP (cC a b) fun x29=>
   cond (x29==(0:Int))
    (cond (!(op==([60]:List UInt8)))
     ((true,0))
     (cond (decide (x29<(0:Int)))
      (((!(op==([61]:List UInt8))),0))
      ((false,0))))
    (cond (decide (x29<(0:Int)))
     (((!(op==([61]:List UInt8))),0))
     ((false,0)))))
theorem uf(a:LVal)(op:List UInt8)(b:LVal):
  aJ Tryz.prog 109 [(.agg (ae a)),(.str op),(.agg (ae b))] (.tup [(aB ((iB a op b).1)),(al ((iB a op b).2))]):=by
 obtain⟨r,H⟩:∃r,iB a op b=r:=⟨_,rfl⟩
 rw[H];unfold iB at H;refine PH.au Tryz.func109 Tryz.ntmps109 ?_;refine ab (aa (aC ?_));refine aC ?_;refine af 2 tk rfl (ac (ab (ab ?_)));refine eM (γ:=Unit) (fun t1 g1=>⟨44,upd (upd (upd (upd (fun _=>.any) 18 (aB t1)) 5 (.ptr (ae b))) 3 (.ptr (ae a))) 1 (.str op),fun _=>none,fun _=>none⟩) H (fun _ H=>?_) (fun t1 g1 H=>?_)
 ·refine aa (af 3 tk rfl ?_);refine bh rfl rfl rfl H (fun H=>?_) (fun H=>?_)
  ·refine af 4 tk rfl ?_;refine bh rfl rfl rfl H (fun H=>?_) (fun H=>?_)
   ·refine af 3 tk rfl (ac ?_);refine aS _ () H Gh.d
   refine af 3 tk rfl (ac ?_);refine aS _ () H Gh.d
  refine af 7 tk rfl (ac ?_);refine aS _ () H Gh.d
 refine aE rfl H (fun H=>?_) (fun H=>?_)
 ·refine ao 2 tk rfl ?_;exact ez tk H rfl
 refine ap (ab (ab ?_));refine eM (γ:=Unit) (fun t2 g2=>⟨44,upd (upd (upd (upd (fun _=>.any) 26 (aB t2)) 5 (.ptr (ae b))) 3 (.ptr (ae a))) 1 (.str op),fun _=>none,fun _=>none⟩) H (fun _ H=>?_) (fun t2 g2 H=>?_)
 ·refine aa (af 4 tk rfl ?_);refine bh rfl rfl rfl H (fun H=>?_) (fun H=>?_)
  ·refine af 4 tk rfl (ac ?_);refine aS _ () H Gh.d
  refine af 4 tk rfl (ac ?_);refine aS _ () H Gh.d
 refine aE rfl H (fun H=>?_) (fun H=>?_)
 ·refine ao 2 tk rfl ?_;exact ez tk H rfl
 refine ap (ab (aa (af 2 tk rfl ?_)))
 obtain⟨x29,h29,H⟩:=cp H
 have s29:=qS a b;rw[h29]at s29;refine ak Tryz.call112 (iX.r) s29 ?_;refine ah tk rfl (ac (ab (aa (af 3 tk rfl ?_))));refine bh rfl rfl rfl H (fun H=>?_) (fun H=>?_)
 ·refine af 4 tk rfl ?_;refine bh rfl rfl rfl H (fun H=>?_) (fun H=>?_)
  ·refine af 9 tk rfl (ac ?_);exact ez tk H rfl
  refine af 3 tk rfl ?_;refine bh rfl rfl rfl H (fun H=>?_) (fun H=>?_)
  ·refine af 6 tk rfl (ac ?_);exact ez tk H rfl
  refine af 6 tk rfl (ac ?_);exact ez tk H rfl
 refine af 7 tk rfl ?_;refine bh rfl rfl rfl H (fun H=>?_) (fun H=>?_)
 ·refine af 6 tk rfl (ac ?_);exact ez tk H rfl
 refine af 6 tk rfl (ac ?_);exact ez tk H rfl
def bL(a:Rq)(b:Rq):Option (Int):=
 ag (oT (if(b.length:Int)<(a.length:Int)then(b.length:Int)else(a.length:Int))) fun(n1:Nat)=>
 ag (aG (σ:=Unit) (ρ:=(Int)) (fun(j1:Nat) (_:Nat) (_:Unit)=>
  ag (getI a (j1:Int)) fun(x17:LVal)=>
  ag (getI b (j1:Int)) fun(x21:LVal)=>
  letP (cC x17 x21) fun x23=>
  cond (x23 !=(0:Int))
   (some (.ret x23))
   (some (.next ()))) 0 (List.range n1) ()) fun fl1=>fl1.thenR fun(_:Unit)=>
 letP (bP (a.length:Int) (b.length:Int)) fun x32=>
 some x32
theorem lA(a:Rq)(b:Rq)(r:Int)(H:bL a b=some r):
  aJ Tryz.prog 79 [(.list 69 (a.map ae)),(.list 69 (b.map ae))] (al r):=by
 unfold bL at H;refine PH.au Tryz.func79 Tryz.ntmps79 ?_;refine ao 1 tk rfl (ab (ab (aa (ah tk rfl (az tk (zl _) ?_)))));refine ah tk rfl (az tk (zl _) ?_);refine af 2 tk rfl (ac ?_)
 obtain⟨n1,hs1,H⟩:=av H
 have hz1:=oH hs1
 obtain⟨fl1,H1,Hp1⟩:=av H
 refine fL (τ:=Unit) (γ:=Unit) (fun s1 g1=>⟨33,upd (upd (fun _=>.any) 1 (.list 69 (b.map ae))) 0 (.list 69 (a.map ae)),fun _=>none,fun _=>none⟩) (fun t=>fl1= .next t) ?_ (fun s1 g1 hn1=>?_)
 ·refine aw ?_;refine js (fun j1 s1 g1=>⟨33,upd (upd (upd (upd (fun _=>.any) 12 (al (j1:Int))) 11 (al (if(b.length:Int)<(a.length:Int)then(b.length:Int)else(a.length:Int)))) 1 (.list 69 (b.map ae))) 0 (.list 69 (a.map ae)),fun _=>none,fun _=>none⟩) () H1 Gh.d (fun j1 s1 g1 hj1 hr1=>?_);refine ao 1 tk rfl (ab ?_);refine bt rfl (fun h=>?_) (fun h=>?_)
  ·have hl1:=natLt hz1 h
   obtain⟨x1,fb1,hx1,H,hg1⟩:=rMc hl1 hr1
   obtain rfl:=natX hx1;refine ap (ab (aw (ao 2 tk rfl (ab (bn tk mok ⟨false,false,[]⟩ [0,1,2,3,4,5,6,7,8,9] rfl (by decide+kernel) rfl (aN 2 rfl ?_))))))
   obtain⟨x17,k17,H⟩:=br H
   refine bE k17.1 (aM (fun _=>rfl) k17.2) ?_;refine aN 3 rfl ?_
   obtain⟨x21,k21,H⟩:=br H
   refine bE k21.1 (aM (fun _=>rfl) k21.2) ?_;refine bN rfl ?_
   obtain⟨x23,h23,H⟩:=cp H
   have s23:=qS x17 x21;rw[h23]at s23;refine aY Tryz.call112 (iX.r) s23 ?_;refine bN rfl (bm (ao 2 tk rfl ?_));refine aE rfl H (fun H=>?_) (fun H=>?_)
   ·refine ao 2 tk rfl ?_;obtain rfl:=ax H;have e1:fl1= .ret _:=hg1;subst e1;obtain rfl:=aQ Hp1;refine aZ tk rfl (ps:=[(al x23)]) ⟨_,_,rfl,rfl,rfl⟩ (PLe.q rfl)
   refine ap (aH (be 2 tk rfl ?_));exact bl () H hl1 hg1 (Gh.le (ay (ay (ay (bG (PLe.q (pD hz1 hl1)) bg)))) aK aL)
  have hn1:=rMd (natGe hz1 h) hr1;refine bs rfl ?_;refine aS s1 g1 hn1 Gh.d
 have H:=nL hn1 Hp1;refine ab (aa (ah tk rfl (az tk (zl _) ?_)));refine ah tk rfl (az tk (zl _) ?_)
 obtain⟨x32,h32,H⟩:=cp H
 have s32:=lz (a.length:Int) (b.length:Int);rw[h32]at s32;refine ak Tryz.call113 (iX.r) s32 ?_;refine ah tk rfl (ac ?_);exact aW tk H rfl
def ju(sA:LProcedureStatement):Option (Bool):=
 letP (
  cond (decide (sA.kind<(1:Int)))
   (true)
   ((decide (sA.kind>(9:Int))))) fun(t1:Bool)=>
 ag (
  cond t1
   (some t1)
   (ag (bV ([1]:List Int) sA) fun x16=>
   cond (!(x16==(!(sA.name==([]:List UInt8)))))
    (some (!(x16==(!(sA.name==([]:List UInt8))))))
    (ag (bV ([4,5,6]:List Int) sA) fun x23=>
    cond (!(x23==(!(sA.table==([]:List UInt8)))))
     (some (!(x23==(!(sA.table==([]:List UInt8))))))
     (ag (
      ag (bV ([3,7]:List Int) sA) fun x30=>
      cond (!(x30==((sA.query.length:Int)==(1:Int))))
       (some true)
       (some (decide ((sA.query.length:Int)>(1:Int))))) fun(t8:Bool)=>
     cond t8
      (some t8)
      (ag (
       ag (bV ([5,6]:List Int) sA) fun x44=>
       cond (!(x44==((sA.whereF.length:Int)==(1:Int))))
        (some true)
        (some (decide ((sA.whereF.length:Int)>(1:Int))))) fun(t9:Bool)=>
      cond t9
       (some t9)
       (ag (
        ag (bV ([8]:List Int) sA) fun x58=>
        cond (!x58)
         (some (sA.code !=(0:Int)))
         (some false)) fun(t10:Bool)=>
       cond t10
        (some t10)
        (ag (
         ag (bV ([2,3]:List Int) sA) fun x67=>
         cond (!x67)
          (some (decide ((sA.body.length:Int)>(0:Int))))
          (some false)) fun(t11:Bool)=>
        cond t11
         (some t11)
         (ag (
          ag (bV ([2]:List Int) sA) fun x77=>
          cond (!x77)
           (some (decide ((sA.elseF.length:Int)>(0:Int))))
           (some false)) fun(t12:Bool)=>
         cond t12
          (some t12)
          (ag (bV ([5]:List Int) sA) fun x87=>
          cond (!x87)
           (some (decide ((sA.names.length:Int)>(0:Int))))
           (some false)))))))))) fun(t7:Bool)=>
 cond t7
  (some false)
  (ag (bV ([1,2]:List Int) sA) fun x98=>
  cond x98
   (some ((sA.exprs.length:Int)==(1:Int)))
   (ag (bV ([5]:List Int) sA) fun x106=>
   cond x106
    (cond ((sA.exprs.length:Int)==(sA.names.length:Int))
     (some (decide ((sA.names.length:Int)>(0:Int))))
     (some false))
    (ag (bV ([8]:List Int) sA) fun x123=>
    cond x123
     (cond (decide (sA.code≥(1:Int)))
      (some (decide (sA.code≤(100:Int))))
      (some false))
     (ag (bV ([4]:List Int) sA) fun x134=>
     cond x134
      (some true)
      (some ((sA.exprs.length:Int)==(0:Int)))))))
theorem uj(sA:LProcedureStatement)(r:Bool)(H:ju sA=some r):
  aJ Tryz.prog 81 [(.agg (aP sA))] (aB r):=by
 unfold ju at H;refine PH.au Tryz.func81 Tryz.ntmps81 ?_;refine ab (aa (aC ?_));refine ah tk rfl (ac (ao 2 tk rfl (ab (aw (ab (ab ?_))))));refine eM (γ:=Unit) (fun t1 g1=>⟨141,upd (upd (upd (fun _=>.any) 5 (aB t1)) 3 (.fn 114 [(.ptr (aP sA))])) 1 (.ptr (aP sA)),fun _=>none,fun _=>none⟩) H (fun _ H=>?_) (fun t1 g1 H=>?_)
 ·refine aa (af 4 tk rfl ?_);refine bh rfl rfl rfl H (fun H=>?_) (fun H=>?_)
  ·refine af 5 tk rfl (ac ?_);refine aS _ () H Gh.d
  refine af 5 tk rfl (ac ?_);refine aS _ () H Gh.d
 refine ew (γ:=Unit) (fun t7 g7=>⟨141,upd (upd (upd (fun _=>.any) 5 (aB t7)) 3 (.fn 114 [(.ptr (aP sA))])) 1 (.ptr (aP sA)),fun _=>none,fun _=>none⟩) H (fun _ H=>?_) (fun t7 g7 H=>?_)
 ·refine aE rfl H (fun H=>?_) (fun H=>?_)
  ·refine ap ?_;refine aS _ () (ax H) Gh.d
  refine ab (bn tk mok ⟨false,false,[]⟩ [0,1,3,4,5,2,6,7] rfl (by decide+kernel) rfl (aN 5 rfl ?_))
  obtain⟨x16,h16,H⟩:=av H
  have s16:=cI ([1]:List Int) sA _ h16;refine aY Tryz.call114 (iX.r) s16 ?_;refine aN 2 rfl (bm ?_);refine aE rfl H (fun H=>?_) (fun H=>?_)
  ·refine ap ?_;refine aS _ () (ax H) Gh.d
  refine ab (bn tk mok ⟨false,false,[]⟩ [0,1,3,4,5,2,6,7] rfl (by decide+kernel) rfl (aN 5 rfl ?_))
  obtain⟨x23,h23,H⟩:=av H
  have s23:=cI ([4,5,6]:List Int) sA _ h23;refine aY Tryz.call114 (iX.r) s23 ?_;refine aN 2 rfl (bm ?_);refine aE rfl H (fun H=>?_) (fun H=>?_)
  ·refine ap ?_;refine aS _ () (ax H) Gh.d
  refine ab ?_;refine ew (γ:=Unit) (fun t8 g8=>⟨141,upd (upd (upd (fun _=>.any) 5 (aB t8)) 3 (.fn 114 [(.ptr (aP sA))])) 1 (.ptr (aP sA)),fun _=>none,fun _=>none⟩) H (fun _ H=>?_) (fun t8 g8 H=>?_)
  ·refine bn tk mok ⟨false,false,[]⟩ [0,1,3,4,5,6,2,7,8,9,10,11,12,13,14] rfl (by decide+kernel) rfl (aN 4 rfl (oe rfl rfl rfl rfl rfl rfl (zl _) rfl (bN rfl ?_)))
   obtain⟨x30,h30,H⟩:=av H
   have s30:=cI ([3,7]:List Int) sA _ h30;refine aY Tryz.call114 (iX.r) s30 ?_;refine aN 2 rfl ?_;refine ml H (fun H=>?_) (fun H=>?_)
   ·refine aN 6 rfl (bm ?_);refine aS _ () (ax H) Gh.d
   refine aN 2 rfl (oe rfl rfl rfl rfl rfl rfl (zl _) rfl (aN 3 rfl (bm ?_)));refine aS _ () (ax H) Gh.d
  refine aE rfl H (fun H=>?_) (fun H=>?_)
  ·refine ap ?_;refine aS _ () (ax H) Gh.d
  refine ab ?_;refine ew (γ:=Unit) (fun t9 g9=>⟨141,upd (upd (upd (fun _=>.any) 5 (aB t9)) 3 (.fn 114 [(.ptr (aP sA))])) 1 (.ptr (aP sA)),fun _=>none,fun _=>none⟩) H (fun _ H=>?_) (fun t9 g9 H=>?_)
  ·refine bn tk mok ⟨false,false,[]⟩ [0,1,3,4,5,6,2,7,8,9,10,11,12,13,14] rfl (by decide+kernel) rfl (aN 4 rfl (oe rfl rfl rfl rfl rfl rfl (zl _) rfl (bN rfl ?_)))
   obtain⟨x44,h44,H⟩:=av H
   have s44:=cI ([5,6]:List Int) sA _ h44;refine aY Tryz.call114 (iX.r) s44 ?_;refine aN 2 rfl ?_;refine ml H (fun H=>?_) (fun H=>?_)
   ·refine aN 6 rfl (bm ?_);refine aS _ () (ax H) Gh.d
   refine aN 2 rfl (oe rfl rfl rfl rfl rfl rfl (zl _) rfl (aN 3 rfl (bm ?_)));refine aS _ () (ax H) Gh.d
  refine aE rfl H (fun H=>?_) (fun H=>?_)
  ·refine ap ?_;refine aS _ () (ax H) Gh.d
  refine ab ?_;refine ew (γ:=Unit) (fun t10 g10=>⟨141,upd (upd (upd (fun _=>.any) 5 (aB t10)) 3 (.fn 114 [(.ptr (aP sA))])) 1 (.ptr (aP sA)),fun _=>none,fun _=>none⟩) H (fun _ H=>?_) (fun t10 g10 H=>?_)
  ·refine aa (ah tk rfl (bX tk (rows':=List.map bH ([8]:List Int)) (fW.refl _) ?_))
   obtain⟨x58,h58,H⟩:=av H
   have s58:=cI ([8]:List Int) sA _ h58;refine ak Tryz.call114 (iX.r) s58 ?_;refine af 2 tk rfl ?_;refine bh rfl rfl rfl H (fun H=>?_) (fun H=>?_)
   ·refine af 5 tk rfl (ac ?_);refine aS _ () (ax H) Gh.d
   refine af 5 tk rfl (ac ?_);refine aS _ () (ax H) Gh.d
  refine aE rfl H (fun H=>?_) (fun H=>?_)
  ·refine ap ?_;refine aS _ () (ax H) Gh.d
  refine ab ?_;refine ew (γ:=Unit) (fun t11 g11=>⟨141,upd (upd (upd (fun _=>.any) 5 (aB t11)) 3 (.fn 114 [(.ptr (aP sA))])) 1 (.ptr (aP sA)),fun _=>none,fun _=>none⟩) H (fun _ H=>?_) (fun t11 g11 H=>?_)
  ·refine aa (ah tk rfl (bX tk (rows':=List.map bH ([2,3]:List Int)) (fW.refl _) ?_))
   obtain⟨x67,h67,H⟩:=av H
   have s67:=cI ([2,3]:List Int) sA _ h67;refine ak Tryz.call114 (iX.r) s67 ?_;refine af 2 tk rfl ?_;refine bh rfl rfl rfl H (fun H=>?_) (fun H=>?_)
   ·refine af 2 tk rfl (az tk (zl _) ?_);refine af 3 tk rfl (ac ?_);refine aS _ () (ax H) Gh.d
   refine af 6 tk rfl (ac ?_);refine aS _ () (ax H) Gh.d
  refine aE rfl H (fun H=>?_) (fun H=>?_)
  ·refine ap ?_;refine aS _ () (ax H) Gh.d
  refine ab ?_;refine ew (γ:=Unit) (fun t12 g12=>⟨141,upd (upd (upd (fun _=>.any) 5 (aB t12)) 3 (.fn 114 [(.ptr (aP sA))])) 1 (.ptr (aP sA)),fun _=>none,fun _=>none⟩) H (fun _ H=>?_) (fun t12 g12 H=>?_)
  ·refine aa (ah tk rfl (bX tk (rows':=List.map bH ([2]:List Int)) (fW.refl _) ?_))
   obtain⟨x77,h77,H⟩:=av H
   have s77:=cI ([2]:List Int) sA _ h77;refine ak Tryz.call114 (iX.r) s77 ?_;refine af 2 tk rfl ?_;refine bh rfl rfl rfl H (fun H=>?_) (fun H=>?_)
   ·refine af 2 tk rfl (az tk (zl _) ?_);refine af 3 tk rfl (ac ?_);refine aS _ () (ax H) Gh.d
   refine af 6 tk rfl (ac ?_);refine aS _ () (ax H) Gh.d
  refine aE rfl H (fun H=>?_) (fun H=>?_)
  ·refine ap ?_;refine aS _ () (ax H) Gh.d
  refine aa (ah tk rfl (bX tk (rows':=List.map bH ([5]:List Int)) (fW.refl _) ?_))
  obtain⟨x87,h87,H⟩:=av H
  have s87:=cI ([5]:List Int) sA _ h87;refine ak Tryz.call114 (iX.r) s87 ?_;refine af 2 tk rfl ?_;refine bh rfl rfl rfl H (fun H=>?_) (fun H=>?_)
  ·refine af 2 tk rfl (az tk (zl _) ?_);refine af 3 tk rfl (ac ?_);refine aS _ () (ax H) Gh.d
  refine af 6 tk rfl (ac ?_);refine aS _ () (ax H) Gh.d
 refine aE rfl H (fun H=>?_) (fun H=>?_)
 ·refine ao 1 tk rfl ?_;exact aW tk H rfl
 refine ab (aa (ah tk rfl (bX tk (rows':=List.map bH ([1,2]:List Int)) (fW.refl _) ?_)))
 obtain⟨x98,h98,H⟩:=av H
 have s98:=cI ([1,2]:List Int) sA _ h98;refine ak Tryz.call114 (iX.r) s98 ?_;refine ah tk rfl (ac ?_);refine aE rfl H (fun H=>?_) (fun H=>?_)
 ·refine ab (aa (af 2 tk rfl (az tk (zl _) ?_)));refine af 2 tk rfl (ac ?_);exact aW tk H rfl
 refine ab (aa (ah tk rfl (bX tk (rows':=List.map bH ([5]:List Int)) (fW.refl _) ?_)))
 obtain⟨x106,h106,H⟩:=av H
 have s106:=cI ([5]:List Int) sA _ h106;refine ak Tryz.call114 (iX.r) s106 ?_;refine ah tk rfl (ac ?_);refine aE rfl H (fun H=>?_) (fun H=>?_)
 ·refine ab (aa (af 2 tk rfl (az tk (zl _) ?_)));refine af 2 tk rfl (az tk (zl _) ?_);refine af 2 tk rfl ?_;refine bh rfl rfl rfl H (fun H=>?_) (fun H=>?_)
  ·refine af 2 tk rfl (az tk (zl _) ?_);refine af 3 tk rfl (ac ?_);exact aW tk H rfl
  refine af 6 tk rfl (ac ?_);exact aW tk H rfl
 refine ab (aa (ah tk rfl (bX tk (rows':=List.map bH ([8]:List Int)) (fW.refl _) ?_)))
 obtain⟨x123,h123,H⟩:=av H
 have s123:=cI ([8]:List Int) sA _ h123;refine ak Tryz.call114 (iX.r) s123 ?_;refine ah tk rfl (ac ?_);refine aE rfl H (fun H=>?_) (fun H=>?_)
 ·refine ab (aa (af 4 tk rfl ?_));refine bh rfl rfl rfl H (fun H=>?_) (fun H=>?_)
  ·refine af 5 tk rfl (ac ?_);exact aW tk H rfl
  refine af 5 tk rfl (ac ?_);exact aW tk H rfl
 refine ap (aH (ab (aa (ah tk rfl (bX tk (rows':=List.map bH ([4]:List Int)) (fW.refl _) ?_)))))
 obtain⟨x134,h134,H⟩:=av H
 have s134:=cI ([4]:List Int) sA _ h134;refine ak Tryz.call114 (iX.r) s134 ?_;refine ah tk rfl ?_;refine bh rfl rfl rfl H (fun H=>?_) (fun H=>?_)
 ·refine af 6 tk rfl (ac ?_);exact aW tk H rfl
 refine af 2 tk rfl (az tk (zl _) ?_);refine af 3 tk rfl (ac ?_);exact aW tk H rfl
def ep(c:LProcedureChecker)(cols:List LCol)(vars:List LCol)(e:LExpr):Option (Int×Bool×Int):=
 letP (cZ cols vars e) fun x19=>
 cond (x19.2.2 !=(0:Int))
  (some (0,false,x19.2.2))
  (ag (fI c (LQuery.mk 0 [] [] [e] [] [] 0 0 [])) fun x30=>
  cond (x30 !=(0:Int))
   (some (0,false,x30))
   (some (x19.1,x19.2.1,0)))
theorem lp(c:LProcedureChecker)(cols:List LCol)(vars:List LCol)(e:LExpr)(r:Int×Bool×Int)(H:ep c cols vars e=some r):
  aJ Tryz.prog 116 [(.agg (ce c)),(.list 93 (cols.map aF)),(.list 93 (vars.map aF)),(.agg (fV e))] (.tup [(al r.1),(aB r.2.1),(al r.2.2)]):=by
 unfold ep at H;refine PH.au Tryz.func116 Tryz.ntmps116 ?_;refine ab (aa (aC ?_));refine aC ?_;refine af 3 tk rfl (ac (ab (aa (af 3 tk rfl ?_))))
 obtain⟨x19,h19,H⟩:=cp H
 have s19:=mi cols vars e;rw[h19]at s19;refine ak Tryz.call122 (iX.r) s19 ?_;refine af 7 tk rfl (ac (ab (ao 2 tk rfl ?_)));refine aE rfl H (fun H=>?_) (fun H=>?_)
 ·refine ao 4 tk rfl ?_;exact aW tk H rfl
 refine ap (ab (ab (aa (af 2 tk rfl (bX tk (rows':=List.map dL ([e]:List LExpr)) (fW.trans (b:=List.map fV [e]) (fW.refl _) (fW.of_eq (lT cx [e]))) ?_)))));refine ah tk rfl ?_
 obtain⟨x30,h30,H⟩:=av H
 have s30:=pt c (LQuery.mk 0 [] [] [e] [] [] 0 0 []) _ h30;refine ak Tryz.call120 (iX.of2 (jg.cons (pj.of_eq rfl) (jg.cons (pj.agg (jg.cons (pj.of_eq rfl) (jg.cons (pj.of_eq rfl) (jg.cons (pj.nil tk rfl) (jg.cons (pj.of_eq rfl) (jg.cons (pj.nil tk rfl) (jg.cons (pj.nil tk rfl) (jg.cons (pj.of_eq rfl) (jg.cons (pj.of_eq rfl) (jg.cons (pj.nil tk rfl) jg.nil)))))))))) jg.nil))) s30 ?_;refine ah tk rfl (ac (ao 2 tk rfl ?_));refine aE rfl H (fun H=>?_) (fun H=>?_)
 ·refine ao 4 tk rfl ?_;exact aW tk H rfl
 refine ap (ao 5 tk rfl ?_);exact aW tk H rfl
def lq(q:LQuery):Option (Bool):=
 ag (
  cond (decide (q.kind<(1:Int)))
   (some true)
   (cond (decide (q.kind>(10:Int)))
    (some true)
    (ag (getI ([(-1),0,1,1,2,2,2,2,1,1,1]:List Int) q.kind) fun(x21:Int)=>
    some ((q.inputs.length:Int) !=x21)))) fun(t1:Bool)=>
 cond t1
  (some false)
  (ag (
   ag (dC ([1]:List Int) q) fun x29=>
   cond (!x29)
    (some (!(q.table==([]:List UInt8))))
    (some false)) fun(t2:Bool)=>
  ag (
   cond t2
    (some t2)
    (ag (
     ag (dC ([3,8]:List Int) q) fun x38=>
     cond (!x38)
      (some (decide ((q.names.length:Int)>(0:Int))))
      (some false)) fun(t7:Bool)=>
    cond t7
     (some t7)
     (ag (
      ag (dC ([8]:List Int) q) fun x48=>
      cond (!x48)
       (some (decide ((q.aggregates.length:Int)>(0:Int))))
       (some false)) fun(t8:Bool)=>
     cond t8
      (some t8)
      (ag (
       ag (dC ([9]:List Int) q) fun x58=>
       cond (!x58)
        (some (decide ((q.descending.length:Int)>(0:Int))))
        (some false)) fun(t9:Bool)=>
      cond t9
       (some t9)
       (ag (dC ([10]:List Int) q) fun x68=>
       cond (!x68)
        (cond (q.count !=(0:Int))
         (some true)
         (some (q.offset !=(0:Int))))
        (some false)))))) fun(t6:Bool)=>
  cond t6
   (some false)
   (ag (dC ([2,4,5]:List Int) q) fun x83=>
   cond x83
    (some ((q.exprs.length:Int)==(1:Int)))
    (ag (dC ([3,8]:List Int) q) fun x91=>
    cond x91
     (cond ((q.exprs.length:Int)==(q.names.length:Int))
      (some (decide ((IntKind.i64.wrap ((q.exprs.length:Int)+(q.aggregates.length:Int)))>(0:Int))))
      (some false))
     (ag (dC ([9]:List Int) q) fun x112=>
     cond x112
      (cond ((q.exprs.length:Int)==(q.descending.length:Int))
       (some (decide ((q.exprs.length:Int)>(0:Int))))
       (some false))
      (ag (dC ([10]:List Int) q) fun x129=>
      cond x129
       (cond ((q.exprs.length:Int)==(0:Int))
        (cond (decide (q.count≥(0:Int)))
         (some (decide (q.offset≥(0:Int))))
         (some false))
        (some false))
       (some ((q.exprs.length:Int)==(0:Int))))))))
theorem W_query_shape(q:LQuery)(r:Bool)(H:lq q=some r):
  aJ Tryz.prog 206 [(.agg (aO q))] (aB r):=by
 unfold lq at H;refine PH.au Tryz.func206 Tryz.ntmps206 ?_;refine ab (aa (aC ?_));refine ah tk rfl (ac (ab (aa (vI (e:=3) (rows:=[[(al (-1))],[(al 0)],[(al 1)],[(al 1)],[(al 2)],[(al 2)],[(al 2)],[(al 2)],[(al 1)],[(al 1)],[(al 1)]]) tk rfl rfl rfl rfl (rows':=List.map bH ([(-1),0,1,1,2,2,2,2,1,1,1]:List Int)) (by kernel_rfl) (fW.refl _) rfl rfl (ah tk rfl (ac (ab (ab ?_))))))));refine ew (γ:=Unit) (fun t1 g1=>⟨148,upd (upd (fun _=>.any) 24 (aB t1)) 1 (.ptr (aO q)),fun _=>none,fun _=>none⟩) H (fun _ H=>?_) (fun t1 g1 H=>?_)
 ·refine bn tk mok ⟨false,false,[]⟩ [0,1,2,3,4,5,6,7,8,9,10,11,12,13,14,15,16,17,18] rfl (by decide+kernel) rfl (aN 4 rfl ?_);refine ml H (fun H=>?_) (fun H=>?_)
  ·refine aN 15 rfl (bm ?_);refine aS _ () (ax H) Gh.d
  refine aN 5 rfl ?_;refine ml H (fun H=>?_) (fun H=>?_)
  ·refine aN 10 rfl (bm ?_);refine aS _ () (ax H) Gh.d
  refine aN 2 rfl (oe rfl rfl rfl rfl rfl rfl (zl _) rfl (aN 3 rfl ?_))
  obtain⟨x21,k21,H⟩:=br H
  refine bE k21.1 (aM (fun _=>rfl) k21.2) ?_;refine aN 3 rfl (bm ?_);refine aS _ () (ax H) Gh.d
 refine aE rfl H (fun H=>?_) (fun H=>?_)
 ·refine ao 1 tk rfl ?_;exact aW tk H rfl
 refine ap (ao 2 tk rfl (ab (aw (ab (ab ?_)))));refine ew (γ:=Unit) (fun t2 g2=>⟨148,upd (upd (upd (fun _=>.any) 26 (aB t2)) 4 (.fn 233 [(.ptr (aO q))])) 1 (.ptr (aO q)),fun _=>none,fun _=>none⟩) H (fun _ H=>?_) (fun t2 g2 H=>?_)
 ·refine aa (ah tk rfl (bX tk (rows':=List.map bH ([1]:List Int)) (fW.refl _) ?_))
  obtain⟨x29,h29,H⟩:=av H
  have s29:=fJ ([1]:List Int) q _ h29;refine ak Tryz.call233 (iX.r) s29 ?_;refine af 2 tk rfl ?_;refine bh rfl rfl rfl H (fun H=>?_) (fun H=>?_)
  ·refine af 5 tk rfl (ac ?_);refine aS _ () (ax H) Gh.d
  refine af 5 tk rfl (ac ?_);refine aS _ () (ax H) Gh.d
 refine ew (γ:=Unit) (fun t6 g6=>⟨148,upd (upd (upd (fun _=>.any) 26 (aB t6)) 4 (.fn 233 [(.ptr (aO q))])) 1 (.ptr (aO q)),fun _=>none,fun _=>none⟩) H (fun _ H=>?_) (fun t6 g6 H=>?_)
 ·refine aE rfl H (fun H=>?_) (fun H=>?_)
  ·refine ap ?_;refine aS _ () (ax H) Gh.d
  refine ab ?_;refine ew (γ:=Unit) (fun t7 g7=>⟨148,upd (upd (upd (fun _=>.any) 26 (aB t7)) 4 (.fn 233 [(.ptr (aO q))])) 1 (.ptr (aO q)),fun _=>none,fun _=>none⟩) H (fun _ H=>?_) (fun t7 g7 H=>?_)
  ·refine aa (ah tk rfl (bX tk (rows':=List.map bH ([3,8]:List Int)) (fW.refl _) ?_))
   obtain⟨x38,h38,H⟩:=av H
   have s38:=fJ ([3,8]:List Int) q _ h38;refine ak Tryz.call233 (iX.r) s38 ?_;refine af 2 tk rfl ?_;refine bh rfl rfl rfl H (fun H=>?_) (fun H=>?_)
   ·refine af 2 tk rfl (az tk (zl _) ?_);refine af 3 tk rfl (ac ?_);refine aS _ () (ax H) Gh.d
   refine af 6 tk rfl (ac ?_);refine aS _ () (ax H) Gh.d
  refine aE rfl H (fun H=>?_) (fun H=>?_)
  ·refine ap ?_;refine aS _ () (ax H) Gh.d
  refine ab ?_;refine ew (γ:=Unit) (fun t8 g8=>⟨148,upd (upd (upd (fun _=>.any) 26 (aB t8)) 4 (.fn 233 [(.ptr (aO q))])) 1 (.ptr (aO q)),fun _=>none,fun _=>none⟩) H (fun _ H=>?_) (fun t8 g8 H=>?_)
  ·refine aa (ah tk rfl (bX tk (rows':=List.map bH ([8]:List Int)) (fW.refl _) ?_))
   obtain⟨x48,h48,H⟩:=av H
   have s48:=fJ ([8]:List Int) q _ h48;refine ak Tryz.call233 (iX.r) s48 ?_;refine af 2 tk rfl ?_;refine bh rfl rfl rfl H (fun H=>?_) (fun H=>?_)
   ·refine af 2 tk rfl (az tk (zl _) ?_);refine af 3 tk rfl (ac ?_);refine aS _ () (ax H) Gh.d
   refine af 6 tk rfl (ac ?_);refine aS _ () (ax H) Gh.d
  refine aE rfl H (fun H=>?_) (fun H=>?_)
  ·refine ap ?_;refine aS _ () (ax H) Gh.d
  refine ab ?_;refine ew (γ:=Unit) (fun t9 g9=>⟨148,upd (upd (upd (fun _=>.any) 26 (aB t9)) 4 (.fn 233 [(.ptr (aO q))])) 1 (.ptr (aO q)),fun _=>none,fun _=>none⟩) H (fun _ H=>?_) (fun t9 g9 H=>?_)
  ·refine aa (ah tk rfl (bX tk (rows':=List.map bH ([9]:List Int)) (fW.refl _) ?_))
   obtain⟨x58,h58,H⟩:=av H
   have s58:=fJ ([9]:List Int) q _ h58;refine ak Tryz.call233 (iX.r) s58 ?_;refine af 2 tk rfl ?_;refine bh rfl rfl rfl H (fun H=>?_) (fun H=>?_)
   ·refine af 2 tk rfl (az tk (zl _) ?_);refine af 3 tk rfl (ac ?_);refine aS _ () (ax H) Gh.d
   refine af 6 tk rfl (ac ?_);refine aS _ () (ax H) Gh.d
  refine aE rfl H (fun H=>?_) (fun H=>?_)
  ·refine ap ?_;refine aS _ () (ax H) Gh.d
  refine aa (ah tk rfl (bX tk (rows':=List.map bH ([10]:List Int)) (fW.refl _) ?_))
  obtain⟨x68,h68,H⟩:=av H
  have s68:=fJ ([10]:List Int) q _ h68;refine ak Tryz.call233 (iX.r) s68 ?_;refine af 2 tk rfl ?_;refine bh rfl rfl rfl H (fun H=>?_) (fun H=>?_)
  ·refine af 4 tk rfl ?_;refine bh rfl rfl rfl H (fun H=>?_) (fun H=>?_)
   ·refine af 6 tk rfl (ac ?_);refine aS _ () (ax H) Gh.d
   refine af 6 tk rfl (ac ?_);refine aS _ () (ax H) Gh.d
  refine af 10 tk rfl (ac ?_);refine aS _ () (ax H) Gh.d
 refine aE rfl H (fun H=>?_) (fun H=>?_)
 ·refine ao 1 tk rfl ?_;exact aW tk H rfl
 refine ab (aa (ah tk rfl (bX tk (rows':=List.map bH ([2,4,5]:List Int)) (fW.refl _) ?_)))
 obtain⟨x83,h83,H⟩:=av H
 have s83:=fJ ([2,4,5]:List Int) q _ h83;refine ak Tryz.call233 (iX.r) s83 ?_;refine ah tk rfl (ac ?_);refine aE rfl H (fun H=>?_) (fun H=>?_)
 ·refine ab (aa (af 2 tk rfl (az tk (zl _) ?_)));refine af 2 tk rfl (ac ?_);exact aW tk H rfl
 refine ab (aa (ah tk rfl (bX tk (rows':=List.map bH ([3,8]:List Int)) (fW.refl _) ?_)))
 obtain⟨x91,h91,H⟩:=av H
 have s91:=fJ ([3,8]:List Int) q _ h91;refine ak Tryz.call233 (iX.r) s91 ?_;refine ah tk rfl (ac ?_);refine aE rfl H (fun H=>?_) (fun H=>?_)
 ·refine ab (aa (af 2 tk rfl (az tk (zl _) ?_)));refine af 2 tk rfl (az tk (zl _) ?_);refine af 2 tk rfl ?_;refine bh rfl rfl rfl H (fun H=>?_) (fun H=>?_)
  ·refine af 2 tk rfl (az tk (zl _) ?_);refine af 2 tk rfl (az tk (zl _) ?_);refine af 4 tk rfl (ac ?_);exact aW tk H rfl
  refine af 10 tk rfl (ac ?_);exact aW tk H rfl
 refine ab (aa (ah tk rfl (bX tk (rows':=List.map bH ([9]:List Int)) (fW.refl _) ?_)))
 obtain⟨x112,h112,H⟩:=av H
 have s112:=fJ ([9]:List Int) q _ h112;refine ak Tryz.call233 (iX.r) s112 ?_;refine ah tk rfl (ac ?_);refine aE rfl H (fun H=>?_) (fun H=>?_)
 ·refine ab (aa (af 2 tk rfl (az tk (zl _) ?_)));refine af 2 tk rfl (az tk (zl _) ?_);refine af 2 tk rfl ?_;refine bh rfl rfl rfl H (fun H=>?_) (fun H=>?_)
  ·refine af 2 tk rfl (az tk (zl _) ?_);refine af 3 tk rfl (ac ?_);exact aW tk H rfl
  refine af 6 tk rfl (ac ?_);exact aW tk H rfl
 refine ab (aa (ah tk rfl (bX tk (rows':=List.map bH ([10]:List Int)) (fW.refl _) ?_)))
 obtain⟨x129,h129,H⟩:=av H
 have s129:=fJ ([10]:List Int) q _ h129;refine ak Tryz.call233 (iX.r) s129 ?_;refine ah tk rfl (ac ?_);refine aE rfl H (fun H=>?_) (fun H=>?_)
 ·refine ab (aa (af 2 tk rfl (az tk (zl _) ?_)));refine af 2 tk rfl ?_;refine bh rfl rfl rfl H (fun H=>?_) (fun H=>?_)
  ·refine af 5 tk rfl ?_;refine bh rfl rfl rfl H (fun H=>?_) (fun H=>?_)
   ·refine af 5 tk rfl (ac ?_);exact aW tk H rfl
   refine af 5 tk rfl (ac ?_);exact aW tk H rfl
  refine af 10 tk rfl (ac ?_);exact aW tk H rfl
 refine ap (aH (ab (aa (af 2 tk rfl (az tk (zl _) ?_)))));refine af 2 tk rfl (ac ?_);exact aW tk H rfl
def dO(c:LChecker)(l:List LCol)(e:LExpr):Int:=
 letP (cZ l c.vars e) fun x15=>
 cond (x15.2.2==(0:Int))
  (cond (x15.1 !=(2:Int))
   (cond (x15.1 !=(0:Int))
    (7)
    (x15.2.2))
   (x15.2.2))
  (x15.2.2)
theorem lD(c:LChecker)(l:List LCol)(e:LExpr):
  aJ Tryz.prog 235 [(.agg (eA c)),(.list 93 (l.map aF)),(.agg (fV e))] (al (dO c l e)):=by
 obtain⟨r,H⟩:∃r,dO c l e=r:=⟨_,rfl⟩
 rw[H];unfold dO at H;refine PH.au Tryz.func235 Tryz.ntmps235 ?_;refine ab (aa (aC ?_));refine aC ?_;refine ah tk rfl (ac (ab (aa (af 4 tk rfl ?_))))
 obtain⟨x15,h15,H⟩:=cp H
 have s15:=mi l c.vars e;rw[h15]at s15;refine ak Tryz.call122 (iX.r) s15 ?_;refine af 7 tk rfl (ac (ab (ab (aa (af 3 tk rfl ?_)))));refine bh rfl rfl rfl H (fun H=>?_) (fun H=>?_)
 ·refine af 4 tk rfl ?_;refine bh rfl rfl rfl H (fun H=>?_) (fun H=>?_)
  ·refine af 3 tk rfl (ac ?_);refine aE rfl H (fun H=>?_) (fun H=>?_)
   ·refine ao 1 tk rfl ?_;exact ez tk H rfl
   refine ap (ao 2 tk rfl ?_);exact ez tk H rfl
  refine af 3 tk rfl (ac (bA rfl (ap (ao 2 tk rfl ?_))));exact ez tk H rfl
 refine af 7 tk rfl (ac (bA rfl (ap (ao 2 tk rfl ?_))));exact ez tk H rfl
def gz(c:LChecker)(inA:List LCol)(a:LAggregateCall):Option (Int×Int):=
 ag (
  letP (dG a.name) fun x13=>
  cond (!x13)
   (some true)
   (ag (dU ([[99,111,117,110,116],[115,117,109],[109,105,110],[109,97,120]]:List (List UInt8)) a.function) fun x19=>
   cond (!x19)
    (some true)
    (cond (decide ((a.args.length:Int)>(1:Int)))
     (some true)
     (cond (decide ((a.args.length:Int)<(1:Int)))
      (some (!(a.function==([99,111,117,110,116]:List UInt8))))
      (some false))))) fun(t1:Bool)=>
 cond t1
  (some (0,3))
  (cond ((a.args.length:Int)==(0:Int))
   (some (1,0))
   (ag (getI a.args 0) fun(x49:LExpr)=>
   letP (cZ inA c.vars x49) fun x51=>
   cond (x51.2.2 !=(0:Int))
    (some (0,x51.2.2))
    (letP (
     cond (x51.1==(0:Int))
      (true)
      (cond (a.function==([115,117,109]:List UInt8))
       ((x51.1 !=(1:Int)))
       (false))) fun(t2:Bool)=>
    cond t2
     (some (0,7))
     (cond (a.function==([99,111,117,110,116]:List UInt8))
      (some (1,0))
      (some (x51.1,0))))))
theorem sN(c:LChecker)(inA:List LCol)(a:LAggregateCall)(r:Int×Int)(H:gz c inA a=some r):
  aJ Tryz.prog 261 [(.agg (eA c)),(.list 93 (inA.map aF)),(.agg (po a))] (.tup [(al r.1),(al r.2)]):=by
 unfold gz at H;refine PH.au Tryz.func261 Tryz.ntmps261 ?_;refine ab (aa (aC ?_));refine aC ?_;refine af 2 tk rfl (ac (ab (ab ?_)));refine ew (γ:=Unit) (fun t1 g1=>⟨76,upd (upd (upd (upd (fun _=>.any) 38 (aB t1)) 5 (.ptr (po a))) 3 (.ptr (eA c))) 1 (.list 93 (inA.map aF)),fun _=>none,fun _=>none⟩) H (fun _ H=>?_) (fun t1 g1 H=>?_)
 ·refine aa (af 2 tk rfl ?_)
  obtain⟨x13,h13,H⟩:=cp H
  have s13:=nf a.name;rw[h13]at s13;refine ak Tryz.call117 (iX.r) s13 ?_;refine af 2 tk rfl ?_;refine bh rfl rfl rfl H (fun H=>?_) (fun H=>?_)
  ·refine af 23 tk rfl (ac ?_);refine aS _ () (ax H) Gh.d
  refine bX tk (rows':=List.map lC ([[99,111,117,110,116],[115,117,109],[109,105,110],[109,97,120]]:List (List UInt8))) (fW.refl _) ?_;refine af 2 tk rfl ?_
  obtain⟨x19,h19,H⟩:=av H
  have s19:=mJ ([[99,111,117,110,116],[115,117,109],[109,105,110],[109,97,120]]:List (List UInt8)) a.function _ h19;refine ak Tryz.call31 (iX.r) s19 ?_;refine af 3 tk rfl ?_;refine bh rfl rfl rfl H (fun H=>?_) (fun H=>?_)
  ·refine af 16 tk rfl (ac ?_);refine aS _ () (ax H) Gh.d
  refine af 2 tk rfl (az tk (zl _) ?_);refine af 3 tk rfl ?_;refine bh rfl rfl rfl H (fun H=>?_) (fun H=>?_)
  ·refine af 10 tk rfl (ac ?_);refine aS _ () (ax H) Gh.d
  refine af 2 tk rfl (az tk (zl _) ?_);refine af 2 tk rfl ?_;refine bh rfl rfl rfl H (fun H=>?_) (fun H=>?_)
  ·refine af 5 tk rfl (ac ?_);refine aS _ () (ax H) Gh.d
  refine af 5 tk rfl (ac ?_);refine aS _ () (ax H) Gh.d
 refine aE rfl H (fun H=>?_) (fun H=>?_)
 ·refine ao 2 tk rfl ?_;exact aW tk H rfl
 refine ap (ab (ab (aa (af 2 tk rfl (az tk (zl _) ?_)))));refine ah tk rfl (ac ?_);refine aE rfl H (fun H=>?_) (fun H=>?_)
 ·refine ao 2 tk rfl ?_;exact aW tk H rfl
 refine ap (ab (bn tk mok ⟨false,false,[]⟩ [0,1,2,3,4,5,6,7,8,9,10,11,12,13,14] rfl (by decide+kernel) rfl (aN 5 rfl ?_)))
 obtain⟨x49,k49,H⟩:=br H
 refine bE k49.1 (aM cx k49.2) ?_;refine bN rfl ?_
 obtain⟨x51,h51,H⟩:=cp H
 have s51:=mi inA c.vars x49;rw[h51]at s51;refine aY Tryz.call122 (iX.r) s51 ?_;refine aN 7 rfl (bm (ab (aw (ao 3 tk rfl ?_))));refine aE rfl H (fun H=>?_) (fun H=>?_)
 ·refine ao 3 tk rfl ?_;exact aW tk H rfl
 refine ab ?_;refine eM (γ:=Unit) (fun t2 g2=>⟨76,upd (upd (upd (fun _=>.any) 59 (aB t2)) 8 (al x51.1)) 5 (.ptr (po a)),fun _=>none,fun _=>none⟩) H (fun _ H=>?_) (fun t2 g2 H=>?_)
 ·refine aa (af 3 tk rfl ?_);refine bh rfl rfl rfl H (fun H=>?_) (fun H=>?_)
  ·refine af 9 tk rfl (ac ?_);refine aS _ () H Gh.d
  refine af 4 tk rfl ?_;refine bh rfl rfl rfl H (fun H=>?_) (fun H=>?_)
  ·refine af 5 tk rfl (ac ?_);refine aS _ () H Gh.d
  refine af 5 tk rfl (ac ?_);refine aS _ () H Gh.d
 refine aE rfl H (fun H=>?_) (fun H=>?_)
 ·refine ao 2 tk rfl ?_;exact aW tk H rfl
 refine ao 4 tk rfl ?_;refine aE rfl H (fun H=>?_) (fun H=>?_)
 ·refine ao 2 tk rfl ?_;exact aW tk H rfl
 refine ap (aH (ao 3 tk rfl ?_));exact aW tk H rfl
def eB(data:Rz)(n:Int)(cmp:Rq→Rq→Option (Int)):Option (Rz):=
 ag (fY (σ:=Rz×Int×Int) (ρ:=Empty) (fun(s1:Rz×Int×Int)=>
  cond (decide (s1.2.2≤n))
   (ag (cz s1.1 s1.2.1 s1.2.2 cmp) fun x18=>
   ag (eY (x18.length=s1.1.length) ()) fun(_:Unit)=>
   some (.next (x18,s1.2.2,(IntKind.i64.wrap (s1.2.2+(20:Int))))))
   (some (.brk (s1.1,s1.2.1,s1.2.2)))) (data,0,20)) fun fl1=>fl1.thenP fun(s1:Rz×Int×Int)=>
 ag (cz s1.1 s1.2.1 n cmp) fun x27=>
 ag (eY (x27.length=s1.1.length) ()) fun(_:Unit)=>
 ag (fY (σ:=Rz×Int) (ρ:=Empty) (fun(s2:Rz×Int)=>
  cond (decide (s2.2<n))
   (ag (fY (σ:=Rz×Int×Int) (ρ:=Empty) (fun(s5:Rz×Int×Int)=>
    cond (decide (s5.2.2≤n))
     (ag (fm s5.1 s5.2.1 (IntKind.i64.wrap (s5.2.1+s2.2)) s5.2.2 cmp) fun x43=>
     ag (eY (x43.length=s5.1.length) ()) fun(_:Unit)=>
     some (.next (x43,s5.2.2,(IntKind.i64.wrap (s5.2.2+(IntKind.i64.wrap ((2:Int)*s2.2)))))))
     (some (.brk (s5.1,s5.2.1,s5.2.2)))) (s2.1,0,(IntKind.i64.wrap ((2:Int)*s2.2)))) fun fl5=>fl5.thenP fun(s5:Rz×Int×Int)=>
   cond (decide ((IntKind.i64.wrap (s5.2.1+s2.2))<n))
    (ag (fm s5.1 s5.2.1 (IntKind.i64.wrap (s5.2.1+s2.2)) n cmp) fun x60=>
    ag (eY (x60.length=s5.1.length) ()) fun(_:Unit)=>
    some (.next (x60,(IntKind.i64.wrap (s2.2*(2:Int))))))
    (some (.next (s5.1,(IntKind.i64.wrap (s2.2*(2:Int)))))))
   (some (.brk (s2.1,s2.2)))) (x27,20)) fun fl2=>fl2.thenP fun(s2:Rz×Int)=>
 some s2.1
theorem nF(g_data:OwnRef){g_cmp:FuncId}{caps_cmp:List PV}(data:Rz)(n:Int)(cmp:Rq→Rq→Option (Int))(hg_cmp:∀(vs:Array Value) (w:World),(callFunc g_cmp vs).run Tryz.prog w= .ok (.enter g_cmp vs) w)(hp_cmp:∀a0 a1 r,cmp a0 a1=some r→aJ Tryz.prog g_cmp ((.list 69 (a0.map ae))::(.list 69 (a1.map ae))::caps_cmp) (al r))(r:Rz)(H:eB data n cmp=some r):
  PH Tryz.prog 245 [(.own 0 g_data (data.map (am 69 ae)).length),(al n),(.fn g_cmp caps_cmp)] ⟨fun _=>none,upd (fun _=>none) 0 (some ⟨g_data,54,(data.map (am 69 ae)),true⟩)⟩ (fun u H=>u=(.tup [])∧H=⟨fun _=>none,upd (fun _=>none) 0 (some ⟨g_data,54,(r.map (am 69 ae)),true⟩)⟩):=by
 unfold eB at H;refine PH.au Tryz.func245 Tryz.ntmps245 ?_;refine ao 1 tk rfl (ao 3 tk rfl (ab ?_))
 obtain⟨fl1,H1,Hp1⟩:=av H
 refine fL (τ:=Rz×Int×Int) (γ:=Unit) (fun s1 g1=>⟨63,upd (upd (upd (upd (upd (fun _=>.any) 7 (al s1.2.1)) 6 (al 20)) 2 (.fn g_cmp caps_cmp)) 1 (al n)) 0 (.own 0 g_data (s1.1.map (am 69 ae)).length),fun _=>none,upd (fun _=>none) 0 (some ⟨g_data,54,(s1.1.map (am 69 ae)),true⟩)⟩) (fun t=>fl1= .next t) ?_ (fun s1 g1 hn1=>?_)
 ·refine aw ?_;refine ic (fun s1 g1=>⟨63,upd (upd (upd (upd (upd (upd (fun _=>.any) 8 (al s1.2.2)) 7 (al s1.2.1)) 6 (al 20)) 2 (.fn g_cmp caps_cmp)) 1 (al n)) 0 (.own 0 g_data (s1.1.map (am 69 ae)).length),fun _=>none,upd (fun _=>none) 0 (some ⟨g_data,54,(s1.1.map (am 69 ae)),true⟩)⟩) () H1 Gh.d (fun m1 s1 g1 hr1=>?_)
  obtain⟨fb1,H,hg1⟩:=fK hr1
  refine ab (ao 3 tk rfl ?_);refine aE rfl H (fun H=>?_) (fun H=>?_)
  ·refine ap (aw (ab (aa (af 4 tk rfl ?_))))
   obtain⟨x18,h18,H⟩:=av H
   have s18:=iT g_data s1.1 s1.2.1 s1.2.2 cmp hg_cmp hp_cmp _ h18
   obtain⟨_,q18_0,H⟩:=av H
   have l18_0:=(dH q18_0).1;have z18_0:(List.map (am 69 ae) s1.1).length=(List.map (am 69 ae) x18).length:=by simpa using(l18_0).symm
   refine dw (g:=267) rfl rfl rfl Tryz.call267 [] [(0,0)] rfl rfl rfl rfl (iX.of2 (jg.cons (pj.own rfl) (jg.cons (pj.of_eq rfl) (jg.cons (pj.of_eq rfl) (jg.cons (pj.of_eq rfl) jg.nil))))) (by rw[cE,bU,cD];rfl) s18 ?_;rintro u18 H18h ⟨rfl,rfl⟩
   refine⟨_,rfl,?_⟩
   refine dc (st':=⟨_,_,fun _=>none,upd (fun _=>none) 0 (some ⟨g_data,54,(x18.map (am 69 ae)),true⟩)⟩) (Gh.le (cj _ _) aK (bd aL)) ?_;refine ac (ao 2 tk rfl (be 4 tk rfl (aH ?_)));obtain rfl:=ax H;refine eF (x18,s1.2.2,(IntKind.i64.wrap (s1.2.2+(20:Int)))) () hg1 (Gh.le (bG (PLe.of2 (pj.of_eq (congrArg (PV.own 0 g_data) z18_0))) (ay (ay (ay (ay (ay bg)))))) aK (bd aL))
  refine bs rfl ?_;obtain rfl:=ax H;refine aS (s1.1,s1.2.1,s1.2.2) () hg1 Gh.d
 have H:=dM hn1 Hp1;refine ab (aa (af 4 tk rfl ?_))
 obtain⟨x27,h27,H⟩:=av H
 have s27:=iT g_data s1.1 s1.2.1 n cmp hg_cmp hp_cmp _ h27
 obtain⟨_,q27_0,H⟩:=av H
 have l27_0:=(dH q27_0).1;have z27_0:(List.map (am 69 ae) s1.1).length=(List.map (am 69 ae) x27).length:=by simpa using(l27_0).symm
 refine dw (g:=267) rfl rfl rfl Tryz.call267 [] [(0,0)] rfl rfl rfl rfl (iX.of2 (jg.cons (pj.own rfl) (jg.cons (pj.of_eq rfl) (jg.cons (pj.of_eq rfl) (jg.cons (pj.of_eq rfl) jg.nil))))) (by rw[cE,bU,cD];rfl) s27 ?_;rintro u27 H27h ⟨rfl,rfl⟩
 refine⟨_,rfl,?_⟩
 refine dc (st':=⟨_,_,fun _=>none,upd (fun _=>none) 0 (some ⟨g_data,54,(x27.map (am 69 ae)),true⟩)⟩) (Gh.le (cj _ _) aK (bd aL)) ?_;refine ac ?_
 obtain⟨fl2,H2,Hp2⟩:=av H
 refine fL (τ:=Rz×Int) (γ:=Unit) (fun s2 g2=>⟨63,upd (fun _=>.any) 0 (.own 0 g_data (s2.1.map (am 69 ae)).length),fun _=>none,upd (fun _=>none) 0 (some ⟨g_data,54,(s2.1.map (am 69 ae)),true⟩)⟩) (fun t=>fl2= .next t) ?_ (fun s2 g2 hn2=>?_)
 ·refine aw ?_;refine ic (fun s2 g2=>⟨63,upd (upd (upd (upd (fun _=>.any) 6 (al s2.2)) 2 (.fn g_cmp caps_cmp)) 1 (al n)) 0 (.own 0 g_data (s2.1.map (am 69 ae)).length),fun _=>none,upd (fun _=>none) 0 (some ⟨g_data,54,(s2.1.map (am 69 ae)),true⟩)⟩) () H2 (Gh.le (bG (PLe.of2 (pj.of_eq (congrArg (PV.own 0 g_data) z27_0))) (ay (ay (ay bg)))) aK (bd aL)) (fun m2 s2 g2 hr2=>?_)
  obtain⟨fb2,H,hg2⟩:=fK hr2
  refine ab (ao 3 tk rfl ?_);refine aE rfl H (fun H=>?_) (fun H=>?_)
  ·refine ap (aw (ao 4 tk rfl (ab ?_)))
   obtain⟨fl5,H5,Hp5⟩:=av H
   refine fL (τ:=Rz×Int×Int) (γ:=Unit) (fun s5 g5=>⟨63,upd (upd (upd (upd (upd (fun _=>.any) 7 (al s5.2.1)) 6 (al s2.2)) 2 (.fn g_cmp caps_cmp)) 1 (al n)) 0 (.own 0 g_data (s5.1.map (am 69 ae)).length),fun _=>none,upd (fun _=>none) 0 (some ⟨g_data,54,(s5.1.map (am 69 ae)),true⟩)⟩) (fun t=>fl5= .next t) ?_ (fun s5 g5 hn5=>?_)
   ·refine aw ?_;refine ic (fun s5 g5=>⟨63,upd (upd (upd (upd (upd (upd (fun _=>.any) 8 (al s5.2.2)) 7 (al s5.2.1)) 6 (al s2.2)) 2 (.fn g_cmp caps_cmp)) 1 (al n)) 0 (.own 0 g_data (s5.1.map (am 69 ae)).length),fun _=>none,upd (fun _=>none) 0 (some ⟨g_data,54,(s5.1.map (am 69 ae)),true⟩)⟩) () H5 Gh.d (fun m5 s5 g5 hr5=>?_)
    obtain⟨fb5,H,hg5⟩:=fK hr5
    refine ab (ao 3 tk rfl ?_);refine aE rfl H (fun H=>?_) (fun H=>?_)
    ·refine ap (aw (ab (aa (af 7 tk rfl ?_))))
     obtain⟨x43,h43,H⟩:=av H
     have s43:=jS g_data s5.1 s5.2.1 (IntKind.i64.wrap (s5.2.1+s2.2)) s5.2.2 cmp hg_cmp hp_cmp _ h43
     obtain⟨_,q43_0,H⟩:=av H
     have l43_0:=(dH q43_0).1;have z43_0:(List.map (am 69 ae) s5.1).length=(List.map (am 69 ae) x43).length:=by simpa using(l43_0).symm
     refine dw (g:=268) rfl rfl rfl Tryz.call268 [] [(0,0)] rfl rfl rfl rfl (iX.of2 (jg.cons (pj.own rfl) (jg.cons (pj.of_eq rfl) (jg.cons (pj.of_eq rfl) (jg.cons (pj.of_eq rfl) (jg.cons (pj.of_eq rfl) jg.nil)))))) (by rw[cE,bU,cD];rfl) s43 ?_;rintro u43 H43h ⟨rfl,rfl⟩
     refine⟨_,rfl,?_⟩
     refine dc (st':=⟨_,_,fun _=>none,upd (fun _=>none) 0 (some ⟨g_data,54,(x43.map (am 69 ae)),true⟩)⟩) (Gh.le (cj _ _) aK (bd aL)) ?_;refine ac (ao 2 tk rfl (be 5 tk rfl (aH ?_)));obtain rfl:=ax H;refine eF (x43,s5.2.2,(IntKind.i64.wrap (s5.2.2+(IntKind.i64.wrap ((2:Int)*s2.2))))) () hg5 (Gh.le (bG (PLe.of2 (pj.of_eq (congrArg (PV.own 0 g_data) z43_0))) (ay (ay (ay (ay (ay bg)))))) aK (bd aL))
    refine bs rfl ?_;obtain rfl:=ax H;refine aS (s5.1,s5.2.1,s5.2.2) () hg5 Gh.d
   have H:=dM hn5 Hp5;refine ab (ao 4 tk rfl (ao 3 tk rfl ?_));refine aE rfl H (fun H=>?_) (fun H=>?_)
   ·refine aa (af 5 tk rfl ?_)
    obtain⟨x60,h60,H⟩:=av H
    have s60:=jS g_data s5.1 s5.2.1 (IntKind.i64.wrap (s5.2.1+s2.2)) n cmp hg_cmp hp_cmp _ h60
    obtain⟨_,q60_0,H⟩:=av H
    have l60_0:=(dH q60_0).1;have z60_0:(List.map (am 69 ae) s5.1).length=(List.map (am 69 ae) x60).length:=by simpa using(l60_0).symm
    refine dw (g:=268) rfl rfl rfl Tryz.call268 [] [(0,0)] rfl rfl rfl rfl (iX.of2 (jg.cons (pj.own rfl) (jg.cons (pj.of_eq rfl) (jg.cons (pj.of_eq rfl) (jg.cons (pj.of_eq rfl) (jg.cons (pj.of_eq rfl) jg.nil)))))) (by rw[cE,bU,cD];rfl) s60 ?_;rintro u60 H60h ⟨rfl,rfl⟩
    refine⟨_,rfl,?_⟩
    refine dc (st':=⟨_,_,fun _=>none,upd (fun _=>none) 0 (some ⟨g_data,54,(x60.map (am 69 ae)),true⟩)⟩) (Gh.le (cj _ _) aK (bd aL)) ?_;refine ac (be 3 tk rfl (aH ?_));obtain rfl:=ax H;refine eF (x60,(IntKind.i64.wrap (s2.2*(2:Int)))) () hg2 (Gh.le (bG (PLe.of2 (pj.of_eq (congrArg (PV.own 0 g_data) z60_0))) (ay (ay (ay bg)))) aK (bd aL))
   refine ap (be 3 tk rfl (aH ?_));obtain rfl:=ax H;refine eF (s5.1,(IntKind.i64.wrap (s2.2*(2:Int)))) () hg2 Gh.d
  refine bs rfl ?_;obtain rfl:=ax H;refine aS (s2.1,s2.2) () hg2 Gh.d
 have H:=dM hn2 Hp2;obtain rfl:=ax H;refine eR (st':=⟨63,fun _=>.any,fun _=>none,upd (fun _=>none) 0 (some ⟨g_data,54,(s2.1.map (am 69 ae)),true⟩)⟩) (Gh.le bg aK (bd aL)) ?_;refine nG rfl (PLe.q rfl) ⟨rfl,rfl⟩
def je(x:LRelation)(y:LRelation):Option (Bool):=
 cond (x.table==y.table)
  (ag (jM x.rows y.rows) fun x15=>
  some x15)
  (some false)
theorem tw(x:LRelation)(y:LRelation)(r:Bool)(H:je x y=some r):
  aJ Tryz.prog 59 [(.agg (aI x)),(.agg (aI y))] (aB r):=by
 unfold je at H;refine PH.au Tryz.func59 Tryz.ntmps59 ?_;refine ab (aa (aC ?_));refine aC ?_;refine ah tk rfl (ac (ab (aa (af 6 tk rfl ?_))));refine bh rfl rfl rfl H (fun H=>?_) (fun H=>?_)
 ·refine af 4 tk rfl ?_
  obtain⟨x15,h15,H⟩:=av H
  have s15:=uO x.rows y.rows _ h15;refine ak Tryz.call60 (iX.r) s15 ?_;refine af 2 tk rfl (ac ?_);exact aW tk H rfl
 refine af 7 tk rfl (ac ?_);exact aW tk H rfl
def eZ(sA:LSchema)(c:LConstraint):Option (Int):=
 ag (cT sA c.table) fun x14=>
 cond (!x14.2)
  (some 4)
  (ag (getI sA.tables x14.1) fun(x22:LTable)=>
  letP (iB (LVal.mk 0 0 []) c.op (LVal.mk 0 0 [])) fun x30=>
  letP (
   cond (decide (c.left<(0:Int)))
    (true)
    (cond (decide (c.left≥(x22.columns.length:Int)))
     (true)
     (cond (x30.2 !=(0:Int))
      (true)
      (cond (decide (c.right<(-1)))
       (true)
       (cond (decide (c.right≥(x22.columns.length:Int)))
        (true)
        (cond (decide (c.right≥(0:Int)))
         ((!(c.value.kind==(0:Int)&&(c.value.int==(0:Int)&&(c.value.text==([]:List UInt8)&&true)))))
         (false))))))) fun(t1:Bool)=>
  cond t1
   (some 3)
   (cond (decide (c.right≥(0:Int)))
    (ag (getI x22.columns c.left) fun(x76:LCol)=>
    ag (getI x22.columns c.right) fun(x82:LCol)=>
    cond (x76.kind !=x82.kind)
     (some 7)
     (some 0))
    (ag (getI x22.columns c.left) fun(x92:LCol)=>
    cond (c.value.kind !=x92.kind)
     (some 7)
     (letP (cA c.value) fun x98=>
     some x98))))
theorem oY(sA:LSchema)(c:LConstraint)(r:Int)(H:eZ sA c=some r):
  aJ Tryz.prog 76 [(.agg (bJ sA)),(.agg (cF c))] (al r):=by
 unfold eZ at H;refine PH.au Tryz.func76 Tryz.ntmps76 ?_;refine ab (aa (aC ?_));refine aC ?_;refine ah tk rfl (ac (ab (aa (af 3 tk rfl ?_))))
 obtain⟨x14,h14,H⟩:=av H
 have s14:=gS sA c.table _ h14;refine ak Tryz.call28 (iX.r) s14 ?_;refine af 5 tk rfl (ac (ab (ao 2 tk rfl ?_)));refine aE rfl H (fun H=>?_) (fun H=>?_)
 ·refine ao 1 tk rfl ?_;exact aW tk H rfl
 refine ap (ab (aa (af 3 tk rfl ?_)))
 obtain⟨x22,k22,H⟩:=br H
 refine aR tk k22.1 (aM (fun _=>rfl) k22.2) ?_;refine af 3 tk rfl (ac (ab (aa (af 4 tk rfl ?_))))
 obtain⟨x30,h30,H⟩:=cp H
 have s30:=uf (LVal.mk 0 0 []) c.op (LVal.mk 0 0 []);rw[h30]at s30;refine ak Tryz.call109 (iX.r) s30 ?_;refine af 5 tk rfl (ac (ab (ab ?_)));refine eM (γ:=Unit) (fun t1 g1=>⟨99,upd (upd (upd (fun _=>.any) 69 (aB t1)) 7 (.list 93 (x22.columns.map aF))) 3 (.ptr (cF c)),fun _=>none,fun _=>none⟩) H (fun _ H=>?_) (fun t1 g1 H=>?_)
 ·refine aa (af 4 tk rfl ?_);refine bh rfl rfl rfl H (fun H=>?_) (fun H=>?_)
  ·refine af 33 tk rfl (ac ?_);refine aS _ () H Gh.d
  refine af 3 tk rfl (az tk (zl _) ?_);refine af 3 tk rfl ?_;refine bh rfl rfl rfl H (fun H=>?_) (fun H=>?_)
  ·refine af 26 tk rfl (ac ?_);refine aS _ () H Gh.d
  refine af 4 tk rfl ?_;refine bh rfl rfl rfl H (fun H=>?_) (fun H=>?_)
  ·refine af 22 tk rfl (ac ?_);refine aS _ () H Gh.d
  refine af 5 tk rfl ?_;refine bh rfl rfl rfl H (fun H=>?_) (fun H=>?_)
  ·refine af 17 tk rfl (ac ?_);refine aS _ () H Gh.d
  refine af 3 tk rfl (az tk (zl _) ?_);refine af 3 tk rfl ?_;refine bh rfl rfl rfl H (fun H=>?_) (fun H=>?_)
  ·refine af 10 tk rfl (ac ?_);refine aS _ () H Gh.d
  refine af 4 tk rfl ?_;refine bh rfl rfl rfl H (fun H=>?_) (fun H=>?_)
  ·refine af 6 tk rfl (ac ?_);refine aS _ () H Gh.d
  refine af 6 tk rfl (ac ?_);refine aS _ () H Gh.d
 refine aE rfl H (fun H=>?_) (fun H=>?_)
 ·refine ao 1 tk rfl ?_;exact aW tk H rfl
 refine ap (ab (ao 3 tk rfl ?_));refine aE rfl H (fun H=>?_) (fun H=>?_)
 ·refine ab (ab (bn tk mok ⟨false,false,[]⟩ [0,1,2,3,4,5,6,7,8,9,10,11,12] rfl (by decide+kernel) rfl (aN 3 rfl ?_)))
  obtain⟨x76,k76,H⟩:=br H
  refine bE k76.1 (aM (fun _=>rfl) k76.2) ?_;refine aN 5 rfl ?_
  obtain⟨x82,k82,H⟩:=br H
  refine bE k82.1 (aM (fun _=>rfl) k82.2) ?_;refine aN 3 rfl (bm ?_);refine aE rfl H (fun H=>?_) (fun H=>?_)
  ·refine ao 1 tk rfl ?_;exact aW tk H rfl
  refine ap (ao 1 tk rfl ?_);exact aW tk H rfl
 refine ap (ab (ab (bn tk mok ⟨false,false,[]⟩ [0,1,2,3,4,5,6,7,8,9] rfl (by decide+kernel) rfl (aN 6 rfl ?_))))
 obtain⟨x92,k92,H⟩:=br H
 refine bE k92.1 (aM (fun _=>rfl) k92.2) ?_;refine aN 3 rfl (bm ?_);refine aE rfl H (fun H=>?_) (fun H=>?_)
 ·refine ao 1 tk rfl ?_;exact aW tk H rfl
 refine ap (ab (aa (af 2 tk rfl ?_)))
 obtain⟨x98,h98,H⟩:=cp H
 have s98:=mH c.value;rw[h98]at s98;refine ak Tryz.call110 (iX.r) s98 ?_;refine ah tk rfl (ac ?_);exact aW tk H rfl
def cr(sA:LSchema)(inst:List LRelation):Option (Int):=
 cond ((inst.length:Int) !=(sA.tables.length:Int))
  (some 3)
  (ag (aG (σ:=Unit) (ρ:=(Int)) (fun(j1:Nat) (x1:LRelation) (_:Unit)=>
   ag (getI sA.tables (j1:Int)) fun(x28:LTable)=>
   cond (!(x1.table==x28.name))
    (some (.ret 3))
    (cond (decide ((x1.rows.length:Int)>(24:Int)))
     (some (.ret 2))
     (ag (aG (σ:=Unit) (ρ:=(Int)) (fun(j3:Nat) (x3:Rq) (_:Unit)=>
      ag (dq x28 x3) fun x49=>
      cond (x49 !=(0:Int))
       (some (.ret x49))
       (cond ((j3:Int)==(0:Int))
        (some (.next ()))
        (ag (getI x1.rows (IntKind.i64.wrap ((j3:Int)-(1:Int)))) fun(x60:Rq)=>
        ag (ck x28 x60) fun x62=>
        ag (ck x28 x3) fun x65=>
        ag (bL x62 x65) fun x66=>
        cond (x66==(0:Int))
         (some (.ret 9))
         (cond (decide (x66>(0:Int)))
          (some (.ret 6))
          (some (.next ())))))) 0 x1.rows ()) fun fl3=>fl3.thenF fun(_:Unit)=>
     some (.next ())))) 0 inst ()) fun fl1=>fl1.thenR fun(_:Unit)=>
  some 0)
theorem iM(sA:LSchema)(inst:List LRelation)(r:Int)(H:cr sA inst=some r):
  aJ Tryz.prog 38 [(.agg (bJ sA)),(.list 86 (inst.map aI))] (al r):=by
 unfold cr at H;refine PH.au Tryz.func38 Tryz.ntmps38 ?_;refine ab (aa (aC ?_));refine ah tk rfl (ac (ab (ab (aa (ah tk rfl (az tk (zl _) ?_))))));refine af 2 tk rfl (az tk (zl _) ?_);refine ah tk rfl (ac ?_);refine aE rfl H (fun H=>?_) (fun H=>?_)
 ·refine ao 1 tk rfl ?_;exact aW tk H rfl
 refine ap (ab (ab (aa (ah tk rfl (az tk (zl _) ?_)))));refine ah tk rfl (ac ?_);refine dS tk 20 19 18 (fun s1 g1=>upd (fun _=>.any) 2 (.ptr (bJ sA))) nB nO () H (fun fl1 Hp1 j1 s1 g1 hz1 hl1 x1 fb1 hx1 H hg1=>?_) (fun s1 g1 H=>?_)
 ·refine ab (aw (ab (aa (ah tk rfl ?_))));refine aR tk (zn j1) (bj (fun _=>rfl) hx1) ?_;refine ah tk rfl ?_;refine ba tk fun b6=>?_
  refine ah tk rfl (aq tk ?_);refine ac (ab (aa (af 3 tk rfl ?_)))
  obtain⟨x28,k28,H⟩:=br H
  refine aR tk k28.1 (aM (fun _=>rfl) k28.2) ?_;refine ah tk rfl ?_;refine ba tk fun b7=>?_
  refine aq tk ?_;refine ac (ab (ab (aa (ah tk rfl (aA tk ?_)))));refine ah tk rfl (aA tk ?_);refine ah tk rfl (ac ?_);refine aE rfl H (fun H=>?_) (fun H=>?_)
  ·refine ao 1 tk rfl ?_;obtain rfl:=ax H;have e1:fl1= .ret _:=hg1;subst e1;obtain rfl:=aQ Hp1;refine aZ tk rfl (ps:=[(al 3)]) ⟨_,_,rfl,rfl,rfl⟩ (PLe.q rfl)
  refine ap (ab (ab (aa (ah tk rfl (aA tk ?_)))));refine az tk (zl _) ?_;refine ah tk rfl (ac ?_);refine aE rfl H (fun H=>?_) (fun H=>?_)
  ·refine ao 1 tk rfl ?_;obtain rfl:=ax H;have e1:fl1= .ret _:=hg1;subst e1;obtain rfl:=aQ Hp1;refine aZ tk rfl (ps:=[(al 2)]) ⟨_,_,rfl,rfl,rfl⟩ (PLe.q rfl)
  refine ap (ab (aa (ah tk rfl (aA tk ?_))));refine az tk (zl _) ?_;refine ah tk rfl (ac ?_)
  obtain⟨fl3,H3,Hp3⟩:=av H
  refine gR tk 40 rfl rfl (fun hz3 _=>?_);rw[zl]at hz3;refine fL (τ:=Unit) (γ:=Unit) (fun s3 g3=>⟨75,upd (upd (upd (upd (fun _=>.any) 20 (al (j1:Int))) 19 (al (inst.length:Int))) 18 (.list 86 (inst.map aI))) 2 (.ptr (bJ sA)),fun _=>none,fun _=>none⟩) (fun t=>fl3= .next t) ?_ (fun s3 g3 hn3=>?_)
  ·refine aw ?_;refine js (fun j3 s3 g3=>⟨75,upd (upd (upd (upd (upd (upd (upd (upd (upd (fun _=>.any) 42 (al (j3:Int))) 41 (al (x1.rows.length:Int))) 40 (.list 54 (x1.rows.map (am 69 ae)))) 20 (al (j1:Int))) 19 (al (inst.length:Int))) 18 (.list 86 (inst.map aI))) 7 (.box 7 b7 0)) 6 (.box 6 b6 0)) 2 (.ptr (bJ sA)),upd (upd (fun _=>none) 7 (some ⟨b7,(bc x28)⟩)) 6 (some ⟨b6,(aI x1)⟩),fun _=>none⟩) () H3 Gh.d (fun j3 s3 g3 hj3 hr3=>?_);refine ao 1 tk rfl (ab ?_);refine bt rfl (fun h=>?_) (fun h=>?_)
   ·have hl3:=pZ h
    obtain⟨x3,fb3,hx3,H,hg3⟩:=rMc hl3 hr3
    refine ap (ab (aw (ab (aa (ah tk rfl ?_)))));refine aR tk (zn j3) (bj (fun _=>rfl) hx3) ?_;refine af 3 tk rfl (ac (ab (ab (aa (aA tk ?_)))));refine ah tk rfl ?_
    obtain⟨x49,h49,H⟩:=av H
    have s49:=qT x28 x3 _ h49;refine ak Tryz.call78 (iX.r) s49 ?_;refine ah tk rfl (ac (ao 2 tk rfl ?_));refine aE rfl H (fun H=>?_) (fun H=>?_)
    ·refine ao 2 tk rfl ?_;obtain rfl:=ax H;have e3:fl3= .ret _:=hg3;subst e3;have q3:=sZ Hp3;subst q3;have e1:fl1= .ret _:=hg1;subst e1;obtain rfl:=aQ Hp1;refine aZ tk rfl (ps:=[(al x49)]) ⟨_,_,rfl,rfl,rfl⟩ (PLe.q rfl)
    refine ap (ab (ao 2 tk rfl ?_));refine aE rfl H (fun H=>?_) (fun H=>?_)
    ·refine bs rfl (be 2 tk rfl ?_);exact bl () H hl3 hg3
    refine ap (ab (bn tk mok ⟨true,false,[61]⟩ [0,1,2,3,4,5,6,8,9,7,10,11,12] rfl (by decide+kernel) rfl (bK ?_)));refine bN rfl (bK ?_);refine aN 2 rfl ?_
    obtain⟨x60,k60,H⟩:=br H
    refine bE k60.1 (aM (fun _=>rfl) k60.2) ?_;refine bN rfl (bK ?_);refine bN rfl ?_
    obtain⟨x62,h62,H⟩:=av H
    have s62:=lZ x28 x60 _ h62;refine aY Tryz.call80 (iX.r) s62 ?_
    obtain⟨x65,h65,H⟩:=av H
    have s65:=lZ x28 x3 _ h65;refine aY Tryz.call80 (iX.r) s65 ?_
    obtain⟨x66,h66,H⟩:=av H
    have s66:=lA x62 x65 _ h66;refine aY Tryz.call79 (iX.r) s66 ?_;refine bN rfl (bm (aw (ao 3 tk rfl ?_)));refine aE rfl H (fun H=>?_) (fun H=>?_)
    ·refine ao 1 tk rfl ?_;obtain rfl:=ax H;have e3:fl3= .ret _:=hg3;subst e3;have q3:=sZ Hp3;subst q3;have e1:fl1= .ret _:=hg1;subst e1;obtain rfl:=aQ Hp1;refine aZ tk rfl (ps:=[(al 9)]) ⟨_,_,rfl,rfl,rfl⟩ (PLe.q rfl)
    refine ao 3 tk rfl ?_;refine aE rfl H (fun H=>?_) (fun H=>?_)
    ·refine ao 1 tk rfl ?_;obtain rfl:=ax H;have e3:fl3= .ret _:=hg3;subst e3;have q3:=sZ Hp3;subst q3;have e1:fl1= .ret _:=hg1;subst e1;obtain rfl:=aQ Hp1;refine aZ tk rfl (ps:=[(al 6)]) ⟨_,_,rfl,rfl,rfl⟩ (PLe.q rfl)
    refine ap (aH (aH (be 2 tk rfl ?_)));exact bl () H hl3 hg3
   have hn3:=rMd (pW h) hr3;refine bs rfl ?_;refine aS s3 g3 hn3 Gh.d
  have H:=thenF_next hn3 Hp3;refine aH (be 2 tk rfl ?_);exact bl () H hl1 hg1
 refine ao 1 tk rfl ?_;exact aW tk H rfl
def eJ(c:LProcedureChecker)(cols:List LCol)(vars:List LCol)(e:LExpr):Option (Int):=
 ag (ep c cols vars e) fun x17=>
 cond (x17.2.2==(0:Int))
  (cond (x17.1 !=(2:Int))
   (cond (x17.1 !=(0:Int))
    (some 7)
    (some x17.2.2))
   (some x17.2.2))
  (some x17.2.2)
theorem nN(c:LProcedureChecker)(cols:List LCol)(vars:List LCol)(e:LExpr)(r:Int)(H:eJ c cols vars e=some r):
  aJ Tryz.prog 119 [(.agg (ce c)),(.list 93 (cols.map aF)),(.list 93 (vars.map aF)),(.agg (fV e))] (al r):=by
 unfold eJ at H;refine PH.au Tryz.func119 Tryz.ntmps119 ?_;refine ab (aa (aC ?_));refine aC ?_;refine ah tk rfl (ac (ab (aa (af 4 tk rfl ?_))))
 obtain⟨x17,h17,H⟩:=av H
 have s17:=lp c cols vars e _ h17;refine ak Tryz.call116 (iX.r) s17 ?_;refine af 7 tk rfl (ac (ab (ab (aa (af 3 tk rfl ?_)))));refine bh rfl rfl rfl H (fun H=>?_) (fun H=>?_)
 ·refine af 4 tk rfl ?_;refine bh rfl rfl rfl H (fun H=>?_) (fun H=>?_)
  ·refine af 3 tk rfl (ac ?_);refine aE rfl H (fun H=>?_) (fun H=>?_)
   ·refine ao 1 tk rfl ?_;exact aW tk H rfl
   refine ap (ao 2 tk rfl ?_);exact aW tk H rfl
  refine af 3 tk rfl (ac (bA rfl (ap (ao 2 tk rfl ?_))));exact aW tk H rfl
 refine af 7 tk rfl (ac (bA rfl (ap (ao 2 tk rfl ?_))));exact aW tk H rfl
def eN(c:LChecker)(q:LQuery)(inA:List LCol):Option ((List LCol)×Int):=
 ag (aG (σ:=List LCol) (ρ:=((List LCol)×Int)) (fun(j1:Nat) (x1:LExpr) (s1:List LCol)=>
  letP (cZ inA c.vars x1) fun x31=>
  ag (getI q.names (j1:Int)) fun(x39:List UInt8)=>
  letP (dG x39) fun x41=>
  cond (!x41)
   (some (.ret ([],3)))
   (cond (x31.2.2 !=(0:Int))
    (some (.ret ([],x31.2.2)))
    (cond (x31.1==(0:Int))
     (some (.ret ([],7)))
     (ag (getI q.names (j1:Int)) fun(x54:List UInt8)=>
     ag (db 32 s1 ([(LCol.mk x54 x31.1 x31.2.1)]:List LCol)) fun(x60:List LCol)=>
     some (.next x60))))) 0 q.exprs []) fun fl1=>fl1.thenR fun(s1:List LCol)=>
 ag (aG (σ:=List LCol) (ρ:=((List LCol)×Int)) (fun(_:Nat) (x2:LAggregateCall) (s2:List LCol)=>
  ag (gz c inA x2) fun x73=>
  cond (x73.2 !=(0:Int))
   (some (.ret ([],x73.2)))
   (ag (db 32 s2 ([(LCol.mk x2.name x73.1 (!(x2.function==([99,111,117,110,116]:List UInt8))))]:List LCol)) fun(x88:List LCol)=>
   some (.next x88))) 0 q.aggregates s1) fun fl2=>fl2.thenR fun(s2:List LCol)=>
 some (s2,0)
theorem oa(c:LChecker)(q:LQuery)(inA:List LCol)(r:(List LCol)×Int)(H:eN c q inA=some r):
  aJ Tryz.prog 237 [(.agg (eA c)),(.agg (aO q)),(.list 93 (inA.map aF))] (.tup [(.list 93 (r.1.map aF)),(al r.2)]):=by
 unfold eN at H;refine PH.au Tryz.func237 Tryz.ntmps237 ?_;refine ab (aa (aC ?_));refine aC ?_;refine af 2 tk rfl (ac (ao 1 tk rfl (ab (ab (aa (af 2 tk rfl (az tk (zl _) ?_)))))));refine ah tk rfl (ac (iw tk 8 60 (e:=93) rfl rfl ?_));refine dS (γ:=OwnRef) tk 21 20 19 (fun s1 g1=>upd (upd (upd (upd (fun _=>.any) 8 (.own 60 g1 (s1.map aF).length)) 4 (.ptr (aO q))) 3 (.ptr (eA c))) 2 (.list 93 (inA.map aF))) nB (fun s1 g1=>upd (fun _=>none) 60 (some ⟨g1,93,(s1.map aF),true⟩)) (⟨none,0⟩) H (fun fl1 Hp1 j1 s1 g1 hz1 hl1 x1 fb1 hx1 H hg1=>?_) (fun s1 g1 H=>?_)
 ·refine ab (aw (ab (aa (ah tk rfl (aR tk (zn j1) (bj cx hx1) ?_)))));refine ah tk rfl ?_;refine ba tk fun b10=>?_
  refine ah tk rfl (aq tk ?_);refine ac (ab (aa (af 3 tk rfl (aA tk ?_))))
  obtain⟨x31,h31,H⟩:=cp H
  have s31:=mi inA c.vars x1;rw[h31]at s31;refine ak Tryz.call122 (iX.r) s31 ?_;refine af 7 tk rfl (ac (ab (aw (ab (aa (af 3 tk rfl ?_))))))
  obtain⟨x39,k39,H⟩:=br H
  refine aR tk k39.1 (aM (fun _=>rfl) k39.2) ?_;refine ah tk rfl ?_
  obtain⟨x41,h41,H⟩:=cp H
  have s41:=nf x39;rw[h41]at s41;refine ak Tryz.call117 (iX.r) s41 ?_;refine af 2 tk rfl (ac ?_);refine aE rfl H (fun H=>?_) (fun H=>?_)
  ·refine ao 2 tk rfl ?_;obtain rfl:=ax H;have e1:fl1= .ret _:=hg1;subst e1;obtain rfl:=aQ Hp1;refine aZ tk rfl (ps:=[(.val (.slice none 0 0)),(al 3)]) ⟨_,_,rfl,rfl,_,_,rfl,rfl,rfl⟩ (PLe.of2 (pj.tup (jg.cons (pj.nil tk rfl) (jg.cons (pj.of_eq rfl) jg.nil))))
  refine ao 3 tk rfl ?_;refine aE rfl H (fun H=>?_) (fun H=>?_)
  ·refine ao 3 tk rfl ?_;obtain rfl:=ax H;have e1:fl1= .ret _:=hg1;subst e1;obtain rfl:=aQ Hp1;refine aZ tk rfl (ps:=[(.val (.slice none 0 0)),(al x31.2.2)]) ⟨_,_,rfl,rfl,_,_,rfl,rfl,rfl⟩ (PLe.of2 (pj.tup (jg.cons (pj.nil tk rfl) (jg.cons (pj.of_eq rfl) jg.nil))))
  refine ao 3 tk rfl ?_;refine aE rfl H (fun H=>?_) (fun H=>?_)
  ·refine ao 2 tk rfl ?_;obtain rfl:=ax H;have e1:fl1= .ret _:=hg1;subst e1;obtain rfl:=aQ Hp1;refine aZ tk rfl (ps:=[(.val (.slice none 0 0)),(al 7)]) ⟨_,_,rfl,rfl,_,_,rfl,rfl,rfl⟩ (PLe.of2 (pj.tup (jg.cons (pj.nil tk rfl) (jg.cons (pj.of_eq rfl) jg.nil))))
  refine ap (aH (aa (af 4 tk rfl ?_)))
  obtain⟨x54,k54,H⟩:=br H
  refine aR tk k54.1 (aM (fun _=>rfl) k54.2) ?_;refine af 4 tk rfl (bX tk (rows':=List.map aF ([(LCol.mk x54 x31.1 x31.2.1)]:List LCol)) (fW.refl _) ?_)
  obtain⟨x60,h60,H⟩:=av H
  have k60:=cf h60;refine cg (rows2':=List.map aF ([(LCol.mk x54 x31.1 x31.2.1)]:List LCol)) (rows':=List.map aF x60) tk rfl rfl rfl rfl rfl rfl rfl rfl rfl rfl rfl rfl rfl (fW.refl _) (dl k60.1) (dg k60.2.1) (dh k60.2.2) fun g60=>?_
  refine ah tk rfl (ac (aH (be 2 tk rfl ?_)));exact bl g60 H hl1 hg1
 refine ab (ab (aa (af 2 tk rfl (az tk (zl _) ?_))));refine ah tk rfl (ac ?_);refine dS (γ:=OwnRef) tk 65 64 63 (fun s2 g2=>upd (upd (upd (fun _=>.any) 8 (.own 60 g2 (s2.map aF).length)) 3 (.ptr (eA c))) 2 (.list 93 (inA.map aF))) nB (fun s2 g2=>upd (fun _=>none) 60 (some ⟨g2,93,(s2.map aF),true⟩)) g1 H (fun fl2 Hp2 j2 s2 g2 hz2 hl2 x2 fb2 hx2 H hg2=>?_) (fun s2 g2 H=>?_)
 ·refine ab (aw (ab (aa ?_)));refine aR tk (zn j2) (bj (fun _=>rfl) hx2) ?_;refine ah tk rfl ?_;refine ba tk fun b15=>?_
  refine aq tk ?_;refine ac (ab (aa (af 2 tk rfl (aA tk ?_))))
  obtain⟨x73,h73,H⟩:=av H
  have s73:=sN c inA x2 _ h73;refine ak Tryz.call261 (iX.r) s73 ?_;refine af 5 tk rfl (ac (ab (ao 2 tk rfl ?_)));refine aE rfl H (fun H=>?_) (fun H=>?_)
  ·refine ao 3 tk rfl ?_;obtain rfl:=ax H;have e2:fl2= .ret _:=hg2;subst e2;obtain rfl:=aQ Hp2;refine aZ tk rfl (ps:=[(.val (.slice none 0 0)),(al x73.2)]) ⟨_,_,rfl,rfl,_,_,rfl,rfl,rfl⟩ (PLe.of2 (pj.tup (jg.cons (pj.nil tk rfl) (jg.cons (pj.of_eq rfl) jg.nil))))
  refine ap (aa (af 2 tk rfl (aA tk ?_)));refine af 2 tk rfl (aA tk ?_);refine af 2 tk rfl ?_;refine bX tk (rows':=List.map aF ([(LCol.mk x2.name x73.1 (!(x2.function==([99,111,117,110,116]:List UInt8))))]:List LCol)) (fW.refl _) ?_
  obtain⟨x88,h88,H⟩:=av H
  have k88:=cf h88;refine cg (rows2':=List.map aF ([(LCol.mk x2.name x73.1 (!(x2.function==([99,111,117,110,116]:List UInt8))))]:List LCol)) (rows':=List.map aF x88) tk rfl rfl rfl rfl rfl rfl rfl rfl rfl rfl rfl rfl rfl (fW.refl _) (dl k88.1) (dg k88.2.1) (dh k88.2.2) fun g88=>?_
  refine ah tk rfl (ac (aH (be 2 tk rfl ?_)));exact bl g88 H hl2 hg2
 refine ao 3 tk rfl (cS 6 rfl rfl rfl ?_);exact aW tk H rfl
def ie(rA:LProcedureRun)(cols:List LCol)(row:Rq)(e:LExpr):Option (LVal×LProcedureRun):=
 ag (aG (σ:=List (List UInt8)) (ρ:=Empty) (fun(_:Nat) (x1:LCol) (s1:List (List UInt8))=>
  ag (db 16 s1 ([x1.name]:List (List UInt8))) fun(x37:List (List UInt8))=>
  some (.next x37)) 0 rA.vars []) fun fl1=>fl1.thenP fun(s1:List (List UInt8))=>
 letP (cn (LEnv.mk cols row rA.args s1 rA.vals) e) fun x42=>
 some (x42,rA)
theorem sk(b_rA:Nat)(g_rA_7:OwnRef)(g_rA_8:OwnRef)(rA:LProcedureRun)(cols:List LCol)(row:Rq)(e:LExpr)(r:LVal×LProcedureRun)(H:ie rA cols row e=some r):
  PH Tryz.prog 124 [(.box 1500 b_rA 0),(.list 93 (cols.map aF)),(.list 69 (row.map ae)),(.agg (fV e))] ⟨upd (fun _=>none) 1500 (some ⟨b_rA,[(.list 95 (rA.s.tables.map bc)),(.list 145 (rA.s.foreignKeys.map ct)),(.list 151 (rA.s.constraints.map cF)),(.list 86 (rA.st.map aI)),(.list 69 (rA.args.map ae)),(.list 93 (rA.vars.map aF)),(.list 69 (rA.vals.map ae)),(.own 1607 g_rA_7 (rA.changes.map aV).length),(.own 1608 g_rA_8 (rA.results.map aU).length),(al rA.left),(aB rA.stopped)]⟩),upd (upd (fun _=>none) 1608 (some ⟨g_rA_8,64,(rA.results.map aU),true⟩)) 1607 (some ⟨g_rA_7,56,(rA.changes.map aV),true⟩)⟩ (fun u H=>∃gz0_7,∃gz0_8,u=(.agg (ae r.1))∧H=⟨upd (fun _=>none) 1500 (some ⟨b_rA,[(.list 95 (r.2.s.tables.map bc)),(.list 145 (r.2.s.foreignKeys.map ct)),(.list 151 (r.2.s.constraints.map cF)),(.list 86 (r.2.st.map aI)),(.list 69 (r.2.args.map ae)),(.list 93 (r.2.vars.map aF)),(.list 69 (r.2.vals.map ae)),(.own 1607 gz0_7 (r.2.changes.map aV).length),(.own 1608 gz0_8 (r.2.results.map aU).length),(al r.2.left),(aB r.2.stopped)]⟩),upd (upd (fun _=>none) 1608 (some ⟨gz0_8,64,(r.2.results.map aU),true⟩)) 1607 (some ⟨gz0_7,56,(r.2.changes.map aV),true⟩)⟩):=by
 unfold ie at H;refine PH.au Tryz.func124 Tryz.ntmps124 ?_;refine ab (aa (aC ?_));refine ba tk fun b8=>?_
 refine ac (ab (bn tk mok ⟨true,false,[]⟩ [0,1,2,3,4,5,6,7,8,9,10,11,12] rfl (by decide+kernel) rfl (aN 5 rfl (bK ?_))));refine aN 3 rfl (bK ?_);refine bN rfl ?_;refine nU rfl rfl rfl rfl rfl rfl rfl rfl fun b9=>?_
 refine jX rfl rfl rfl rfl rfl rfl rfl rfl rfl rfl rfl rfl (bm (ab (ab (aa (af 3 tk rfl (aA tk ?_))))));refine az tk (zl _) ?_;refine ah tk rfl (ac (pR tk 9 3 37 (e:=9) rfl rfl rfl rfl ?_));refine gn (γ:=OwnRef) tk 28 27 26 (fun s1 g1=>upd (upd (upd (upd (fun _=>.any) 9 (.box 9 b9 0)) 8 (.box 8 b8 0)) 7 (.ptr (fV e))) 0 (.box 1500 b_rA 0)) (fun s1 g1=>upd (upd (upd (fun _=>none) 1500 (some ⟨b_rA,[(.list 95 (rA.s.tables.map bc)),(.list 145 (rA.s.foreignKeys.map ct)),(.list 151 (rA.s.constraints.map cF)),(.list 86 (rA.st.map aI)),(.list 69 (rA.args.map ae)),(.list 93 (rA.vars.map aF)),(.list 69 (rA.vals.map ae)),(.own 1607 g_rA_7 (rA.changes.map aV).length),(.own 1608 g_rA_8 (rA.results.map aU).length),(al rA.left),(aB rA.stopped)]⟩)) 9 (some ⟨b9,[(.list 93 (cols.map aF)),(.list 69 (row.map ae)),(.list 69 (rA.args.map ae)),(.own 37 g1 (s1.map lC).length),(.list 69 (rA.vals.map ae))]⟩)) 8 (some ⟨b8,[(al 0),(al 0),(.str [])]⟩)) (fun s1 g1=>upd (upd (upd (fun _=>none) 37 (some ⟨g1,9,(s1.map lC),true⟩)) 1608 (some ⟨g_rA_8,64,(rA.results.map aU),true⟩)) 1607 (some ⟨g_rA_7,56,(rA.changes.map aV),true⟩)) (⟨none,0⟩) H (fun fl1 Hp1 j1 s1 g1 hz1 hl1 x1 fb1 hx1 H hg1=>?_) (fun s1 g1 H=>?_)
 ·refine ab (aw (ab (aa ?_)));refine aR tk (zn j1) (bj (fun _=>rfl) hx1) ?_;refine ah tk rfl ?_;refine ba tk fun b11=>?_
  refine aq tk ?_;refine ac (aa (ah tk rfl (aA tk ?_)));refine ah tk rfl (aA tk ?_);refine bX tk (rows':=List.map lC ([x1.name]:List (List UInt8))) (fW.refl _) ?_
  obtain⟨x37,h37,H⟩:=av H
  have k37:=cf h37;refine cg (rows2':=List.map lC ([x1.name]:List (List UInt8))) (rows':=List.map lC x37) tk rfl rfl rfl rfl rfl rfl rfl rfl rfl rfl rfl rfl rfl (fW.refl _) (dl k37.1) (dg k37.2.1) (dh k37.2.2) fun g37=>?_
  refine ah tk rfl (aq tk ?_);refine ac (aH (be 2 tk rfl ?_));exact bl g37 H hl1 hg1
 refine ab (nA 9 3 rfl rfl rfl rfl rfl (aa (aA tk ?_)));refine ah tk rfl ?_
 obtain⟨x42,h42,H⟩:=cp H
 have s42:=mT (LEnv.mk cols row rA.args s1 rA.vals) e;rw[h42]at s42;refine ak Tryz.call165 (iX.r) s42 ?_;refine aq tk ?_;refine ac ?_;obtain rfl:=ax H;refine eR (st':=⟨43,upd (fun _=>.any) 8 (.box 8 b8 0),upd (upd (fun _=>none) 1500 (some ⟨b_rA,[(.list 95 (rA.s.tables.map bc)),(.list 145 (rA.s.foreignKeys.map ct)),(.list 151 (rA.s.constraints.map cF)),(.list 86 (rA.st.map aI)),(.list 69 (rA.args.map ae)),(.list 93 (rA.vars.map aF)),(.list 69 (rA.vals.map ae)),(.own 1607 g_rA_7 (rA.changes.map aV).length),(.own 1608 g_rA_8 (rA.results.map aU).length),(al rA.left),(aB rA.stopped)]⟩)) 8 (some ⟨b8,(ae x42)⟩),upd (upd (fun _=>none) 1608 (some ⟨g_rA_8,64,(rA.results.map aU),true⟩)) 1607 (some ⟨g_rA_7,56,(rA.changes.map aV),true⟩)⟩) (Gh.le (ay bg) (bi rfl (iX.r) (bi rfl (iX.r) aK)) (bd (bd aL))) ?_;refine vE tk rfl (ps:=[(.agg (ae x42))]) ⟨_,_,rfl,⟨_,_,_,_,_,rfl,rfl,rfl,rfl⟩,rfl⟩ (PLe.q rfl) (HSub.updB rfl) ⟨_,_,rfl,rfl⟩
def qI(t:LTable)(rows:Rz)(key:Rq):Option (Int×Bool):=
 ag (aG (σ:=Unit) (ρ:=(Int×Bool)) (fun(j1:Nat) (x1:Rq) (_:Unit)=>
  ag (ck t x1) fun x20=>
  ag (bL x20 key) fun x22=>
  cond (decide (x22≥(0:Int)))
   (some (.ret ((j1:Int),(x22==(0:Int)))))
   (some (.next ()))) 0 rows ()) fun fl1=>fl1.thenR fun(_:Unit)=>
 some ((rows.length:Int),false)
theorem W_relation_Find(t:LTable)(rows:Rz)(key:Rq)(r:Int×Bool)(H:qI t rows key=some r):
  aJ Tryz.prog 86 [(.agg (bc t)),(.list 54 (rows.map (am 69 ae))),(.list 69 (key.map ae))] (.tup [(al r.1),(aB r.2)]):=by
 unfold qI at H;refine PH.au Tryz.func86 Tryz.ntmps86 ?_;refine ab (aa (aC ?_));refine af 2 tk rfl (ac (ab (ab (aa (ah tk rfl (az tk (zl _) ?_))))));refine ah tk rfl (ac ?_);refine dS tk 13 12 11 (fun s1 g1=>upd (upd (upd (fun _=>.any) 3 (.ptr (bc t))) 2 (.list 69 (key.map ae))) 1 (.list 54 (rows.map (am 69 ae)))) nB nO () H (fun fl1 Hp1 j1 s1 g1 hz1 hl1 x1 fb1 hx1 H hg1=>?_) (fun s1 g1 H=>?_)
 ·refine ab (aw (ab (aa (ah tk rfl ?_))));refine aR tk (zn j1) (bj (fun _=>rfl) hx1) ?_;refine af 3 tk rfl (ac (ab (aa (af 2 tk rfl ?_))))
  obtain⟨x20,h20,H⟩:=av H
  have s20:=lZ t x1 _ h20;refine ak Tryz.call80 (iX.r) s20 ?_;refine ah tk rfl ?_
  obtain⟨x22,h22,H⟩:=av H
  have s22:=lA x20 key _ h22;refine ak Tryz.call79 (iX.r) s22 ?_;refine ah tk rfl (ac (ao 2 tk rfl ?_));refine aE rfl H (fun H=>?_) (fun H=>?_)
  ·refine ao 5 tk rfl ?_;obtain rfl:=ax H;have e1:fl1= .ret _:=hg1;subst e1;obtain rfl:=aQ Hp1;refine aZ tk rfl (ps:=[(al (j1:Int)),(aB (x22==(0:Int)))]) ⟨_,_,rfl,rfl,_,_,rfl,rfl,rfl⟩ (PLe.q rfl)
  refine ap (aH (be 2 tk rfl ?_));exact bl () H hl1 hg1
 refine ab (aa (ah tk rfl (az tk (zl _) ?_)));refine af 2 tk rfl (ac ?_);exact aW tk H rfl
def jv(t:LTable)(rows:Rz)(key:Rq):Option (Int×Bool×Rz):=
 ag (oT (rows.length:Int)) fun(n1:Nat)=>
 ag (aG (σ:=Rz) (ρ:=(Int×Bool×Rz)) (fun(j1:Nat) (_:Nat) (s1:Rz)=>
  ag (getI s1 (j1:Int)) fun(x16:Rq)=>
  ag (ck t x16) fun x20=>
  ag (bL x20 key) fun x22=>
  cond (decide (x22≥(0:Int)))
   (some (.ret ((j1:Int),(x22==(0:Int)),s1)))
   (some (.next s1))) 0 (List.range n1) rows) fun fl1=>fl1.thenR fun(s1:Rz)=>
 some ((s1.length:Int),false,s1)
theorem ug(g_rows:OwnRef)(t:LTable)(rows:Rz)(key:Rq)(r:Int×Bool×Rz)(H:jv t rows key=some r):
  PH Tryz.prog 86 [(.agg (bc t)),(.own 1 g_rows (rows.map (am 69 ae)).length),(.list 69 (key.map ae))] ⟨fun _=>none,upd (fun _=>none) 1 (some ⟨g_rows,54,(rows.map (am 69 ae)),true⟩)⟩ (fun u H=>u=(.tup [(al r.1),(aB r.2.1)])∧H=⟨fun _=>none,upd (fun _=>none) 1 (some ⟨g_rows,54,(r.2.2.map (am 69 ae)),true⟩)⟩):=by
 unfold jv at H;refine PH.au Tryz.func86 Tryz.ntmps86 ?_;refine ab (aa (aC ?_));refine af 2 tk rfl (ac (ab (ab (aa (ah tk rfl (jp tk (zl _) ?_))))));refine ah tk rfl (ac ?_)
 obtain⟨n1,hs1,H⟩:=av H
 have hz1:=oH hs1
 obtain⟨fl1,H1,Hp1⟩:=av H
 refine fL (τ:=Rz) (γ:=Unit) (fun s1 g1=>⟨31,upd (fun _=>.any) 1 (.own 1 g_rows (s1.map (am 69 ae)).length),fun _=>none,upd (fun _=>none) 1 (some ⟨g_rows,54,(s1.map (am 69 ae)),true⟩)⟩) (fun t=>fl1= .next t) ?_ (fun s1 g1 hn1=>?_)
 ·refine aw ?_;refine js (fun j1 s1 g1=>⟨31,upd (upd (upd (upd (upd (upd (fun _=>.any) 13 (al (j1:Int))) 12 (al (rows.length:Int))) 11 (.own 1 g_rows (s1.map (am 69 ae)).length)) 3 (.ptr (bc t))) 2 (.list 69 (key.map ae))) 1 (.own 1 g_rows (s1.map (am 69 ae)).length),fun _=>none,upd (fun _=>none) 1 (some ⟨g_rows,54,(s1.map (am 69 ae)),true⟩)⟩) () H1 Gh.d (fun j1 s1 g1 hj1 hr1=>?_);refine ao 1 tk rfl (ab ?_);refine bt rfl (fun h=>?_) (fun h=>?_)
  ·have hl1:=natLt hz1 h
   obtain⟨x1,fb1,hx1,H,hg1⟩:=rMc hl1 hr1
   obtain rfl:=natX hx1;refine ap (ab (aw (ab (aa (ah tk rfl ?_)))))
   obtain⟨x16,k16,H⟩:=br H
   refine lU (tag:=1) rfl (fun ho1=>?_);refine kZ tk ⟨k16.1,(dB k16.2)⟩ (dK ho1 k16.2) ?_;refine rW tk rfl rfl rfl rfl rfl rfl rfl (aM (fun _=>rfl) k16.2) rfl rfl ?_;refine af 2 tk rfl (ac (ab (aa (af 2 tk rfl ?_))))
   obtain⟨x20,h20,H⟩:=av H
   have s20:=lZ t x16 _ h20;refine ak Tryz.call80 (iX.r) s20 ?_;refine ah tk rfl ?_
   obtain⟨x22,h22,H⟩:=av H
   have s22:=lA x20 key _ h22;refine ak Tryz.call79 (iX.r) s22 ?_;refine ah tk rfl (ac (ao 2 tk rfl ?_));refine aE rfl H (fun H=>?_) (fun H=>?_)
   ·refine ao 5 tk rfl ?_;obtain rfl:=ax H;have e1:fl1= .ret _:=hg1;subst e1;obtain rfl:=aQ Hp1;refine eR (st':=⟨31,upd (upd (fun _=>.any) 7 (aB (x22==(0:Int)))) 6 (al (j1:Int)),fun _=>none,upd (fun _=>none) 1 (some ⟨g_rows,54,(s1.map (am 69 ae)),true⟩)⟩) (Gh.le (ay (ay bg)) aK (bd aL)) ?_;refine gV tk rfl (ps:=[(al (j1:Int)),(aB (x22==(0:Int)))]) ⟨_,_,rfl,rfl,_,_,rfl,rfl,rfl⟩ (PLe.q rfl) ⟨rfl,rfl⟩
   refine ap (aH (be 2 tk rfl ?_));exact bl () H hl1 hg1 (Gh.le (ay (ay (ay (ay (ay (bG (PLe.q (pD hz1 hl1)) bg)))))) aK (bd aL))
  have hn1:=rMd (natGe hz1 h) hr1;refine bs rfl ?_;refine aS s1 g1 hn1 Gh.d
 have H:=nL hn1 Hp1;refine ab (aa (ah tk rfl (jp tk (zl _) ?_)));refine af 2 tk rfl (ac ?_);obtain rfl:=ax H;refine eR (st':=⟨31,upd (upd (fun _=>.any) 7 (aB false)) 6 (al (s1.length:Int)),fun _=>none,upd (fun _=>none) 1 (some ⟨g_rows,54,(s1.map (am 69 ae)),true⟩)⟩) (Gh.le (ay (ay bg)) aK (bd aL)) ?_;refine gV tk rfl (ps:=[(al (s1.length:Int)),(aB false)]) ⟨_,_,rfl,rfl,_,_,rfl,rfl,rfl⟩ (PLe.q rfl) ⟨rfl,rfl⟩
def iV(x:Rq)(c0:LRun)(c1:List LCol)(c2:LQuery):Option (Bool):=
 ag (getI c2.exprs 0) fun(x12:LExpr)=>
 letP (bw c0 c1 x) fun x9=>
 letP (cn x9 x12) fun x14=>
 letP (gU x14) fun x15=>
 some (!x15)
theorem te(x:Rq)(c0:LRun)(c1:List LCol)(c2:LQuery)(r:Bool)(H:iV x c0 c1 c2=some r):
  aJ Tryz.prog 164 [(.list 69 (x.map ae)),(.ptr (dX c0)),(.ptr [(.list 93 (c1.map aF))]),(.ptr (aO c2))] (aB r):=by
 unfold iV at H;refine PH.au Tryz.func164 Tryz.ntmps164 ?_;refine ao 1 tk rfl (ab (bn tk mok ⟨false,false,[]⟩ [0,1,2,4,5,6,7,3,8,9,10,11] rfl (by decide+kernel) rfl (aN 5 rfl ?_)))
 obtain⟨x12,k12,H⟩:=br H
 refine bE k12.1 (aM cx k12.2) ?_;refine bN rfl ?_
 obtain⟨x9,h9,H⟩:=cp H
 have s9:=lF c0 c1 x;rw[h9]at s9;refine aY Tryz.call166 (iX.r) s9 ?_
 obtain⟨x14,h14,H⟩:=cp H
 have s14:=mT x9 x12;rw[h14]at s14;refine aY Tryz.call165 (iX.r) s14 ?_
 obtain⟨x15,h15,H⟩:=cp H
 have s15:=isTS x14;rw[h15]at s15;refine aY Tryz.call125 (iX.r) s15 ?_;refine aN 2 rfl (bm ?_);exact aW tk H rfl
def dJ(rA:LRun)(cols:List LCol)(x:Rq)(l:List LExpr):Option (Rq):=
 ag (aG (σ:=Rq) (ρ:=Empty) (fun(_:Nat) (x1:LExpr) (s1:Rq)=>
  letP (bw rA cols x) fun x22=>
  letP (cn x22 x1) fun x24=>
  ag (db 32 s1 ([x24]:Rq)) fun(x26:Rq)=>
  some (.next x26)) 0 l []) fun fl1=>fl1.thenP fun(s1:Rq)=>
 some s1
theorem kI(rA:LRun)(cols:List LCol)(x:Rq)(l:List LExpr)(r:Rq)(H:dJ rA cols x l=some r):
  aJ Tryz.prog 167 [(.agg (dX rA)),(.list 93 (cols.map aF)),(.list 69 (x.map ae)),(.list 71 (l.map dL))] (.list 69 (r.map ae)):=by
 unfold dJ at H;refine PH.au Tryz.func167 Tryz.ntmps167 ?_;refine ab (aa (aC ?_));refine ah tk rfl (ac (ao 1 tk rfl (ab (ab (aa (ah tk rfl (az tk (zl _) ?_)))))));refine ah tk rfl (ac (iw tk 9 26 (e:=69) rfl rfl ?_));refine gn (γ:=OwnRef) tk 14 13 12 (fun s1 g1=>upd (upd (upd (upd (fun _=>.any) 9 (.own 26 g1 (s1.map ae).length)) 4 (.ptr (dX rA))) 2 (.list 69 (x.map ae))) 1 (.list 93 (cols.map aF))) nB (fun s1 g1=>upd (fun _=>none) 26 (some ⟨g1,69,(s1.map ae),true⟩)) (⟨none,0⟩) H (fun fl1 Hp1 j1 s1 g1 hz1 hl1 x1 fb1 hx1 H hg1=>?_) (fun s1 g1 H=>?_)
 ·refine ab (aw (ab (aa (aR tk (zn j1) (bj cx hx1) ?_))));refine ah tk rfl ?_;refine ba tk fun b11=>?_
  refine aq tk ?_;refine ac (bn tk mok ⟨true,false,[19]⟩ [0,1,2,3,5,4,6,7,8,9] rfl (by decide+kernel) rfl (aN 4 rfl (bK ?_)))
  obtain⟨x22,h22,H⟩:=cp H
  have s22:=lF rA cols x;rw[h22]at s22;refine aY Tryz.call166 (iX.r) s22 ?_
  obtain⟨x24,h24,H⟩:=cp H
  have s24:=mT x22 x1;rw[h24]at s24;refine aY Tryz.call165 (iX.r) s24 ?_;refine bN rfl ?_
  obtain⟨x26,h26,H⟩:=av H
  have k26:=cf h26;refine jz (rows2':=List.map ae ([x24]:Rq)) (rows':=List.map ae x26) tk rfl rfl rfl rfl rfl rfl rfl rfl rfl rfl rfl rfl rfl rfl (fW.refl _) (dl k26.1) (dg k26.2.1) (dh k26.2.2) fun g26=>?_
  refine bN rfl (bm (aH (be 2 tk rfl ?_)));exact bl g26 H hl1 hg1
 refine ao 2 tk rfl (cS 8 rfl rfl rfl ?_);exact aW tk H rfl
def kt(rA:LRun)(a:LAggregateCall)(cols:List LCol)(l:Rz):Option (LVal):=
 cond ((a.args.length:Int)==(0:Int))
  (letP (gp (l.length:Int)) fun x19=>
  some x19)
  (ag (aG (σ:=Rq) (ρ:=Empty) (fun(_:Nat) (x1:Rq) (s1:Rq)=>
   ag (getI a.args 0) fun(x32:LExpr)=>
   letP (bw rA cols x1) fun x29=>
   letP (cn x29 x32) fun x34=>
   cond (x34.kind !=(0:Int))
    (ag (db 32 s1 ([x34]:Rq)) fun(x41:Rq)=>
    some (.next x41))
    (some (.next s1))) 0 l []) fun fl1=>fl1.thenP fun(s1:Rq)=>
  ag (fZ a.function s1) fun x46=>
  some x46)
theorem uY(rA:LRun)(a:LAggregateCall)(cols:List LCol)(l:Rz)(r:LVal)(H:kt rA a cols l=some r):
  aJ Tryz.prog 216 [(.agg (dX rA)),(.agg (po a)),(.list 93 (cols.map aF)),(.list 54 (l.map (am 69 ae)))] (.agg (ae r)):=by
 unfold kt at H;refine PH.au Tryz.func216 Tryz.ntmps216 ?_;refine ab (aa (aC ?_));refine aC ?_;refine ba tk fun b8=>?_
 refine ac (ab (ab (aa (af 2 tk rfl (az tk (zl _) ?_)))));refine ah tk rfl (ac ?_);refine aE rfl H (fun H=>?_) (fun H=>?_)
 ·refine ab (aa (ah tk rfl (az tk (zl _) ?_)))
  obtain⟨x19,h19,H⟩:=cp H
  have s19:=rZ (l.length:Int);rw[h19]at s19;refine ak Tryz.call232 (iX.r) s19 ?_;refine aq tk ?_;refine ac ?_;exact vm tk H rfl rfl rfl rfl rfl
 refine ap (ao 1 tk rfl (ab (ab (aa (ah tk rfl (az tk (zl _) ?_))))));refine ah tk rfl (ac (iw tk 9 41 (e:=69) rfl rfl ?_));refine gn (γ:=OwnRef) tk 22 21 20 (fun s1 g1=>upd (upd (upd (upd (upd (fun _=>.any) 9 (.own 41 g1 (s1.map ae).length)) 8 (.box 8 b8 0)) 5 (.ptr (po a))) 4 (.ptr (dX rA))) 2 (.list 93 (cols.map aF))) (fun s1 g1=>upd (fun _=>none) 8 (some ⟨b8,[(al 0),(al 0),(.str [])]⟩)) (fun s1 g1=>upd (fun _=>none) 41 (some ⟨g1,69,(s1.map ae),true⟩)) (⟨none,0⟩) H (fun fl1 Hp1 j1 s1 g1 hz1 hl1 x1 fb1 hx1 H hg1=>?_) (fun s1 g1 H=>?_)
 ·refine ab (aw (ab (aa ?_)));refine aR tk (zn j1) (bj (fun _=>rfl) hx1) ?_;refine af 2 tk rfl (ac (ab (bn tk mok ⟨false,false,[]⟩ [0,1,2,4,5,6,7,3,8,9,10] rfl (by decide+kernel) rfl (aN 5 rfl ?_))))
  obtain⟨x32,k32,H⟩:=br H
  refine bE k32.1 (aM cx k32.2) ?_;refine bN rfl ?_
  obtain⟨x29,h29,H⟩:=cp H
  have s29:=lF rA cols x1;rw[h29]at s29;refine aY Tryz.call166 (iX.r) s29 ?_
  obtain⟨x34,h34,H⟩:=cp H
  have s34:=mT x29 x32;rw[h34]at s34;refine aY Tryz.call165 (iX.r) s34 ?_;refine nU rfl rfl rfl rfl rfl rfl rfl rfl fun b12=>?_
  refine jX rfl rfl rfl rfl rfl rfl rfl rfl rfl rfl rfl rfl (bm (ab (aa (ah tk rfl (aA tk ?_)))));refine ah tk rfl (ac ?_);refine aE rfl H (fun H=>?_) (fun H=>?_)
  ·refine aa (ah tk rfl (aA tk ?_));refine bX tk (rows':=List.map ae ([x34]:Rq)) (fW.refl _) ?_
   obtain⟨x41,h41,H⟩:=av H
   have k41:=cf h41;refine cg (rows2':=List.map ae ([x34]:Rq)) (rows':=List.map ae x41) tk rfl rfl rfl rfl rfl rfl rfl rfl rfl rfl rfl rfl rfl (fW.refl _) (dl k41.1) (dg k41.2.1) (dh k41.2.2) fun g41=>?_
   refine ah tk rfl (ac (aH (be 2 tk rfl ?_)));exact bl g41 H hl1 hg1
  refine ap (aH (be 2 tk rfl ?_));exact bl g1 H hl1 hg1
 refine ab (cS 9 rfl rfl rfl (aa (af 3 tk rfl ?_)))
 obtain⟨x46,h46,H⟩:=av H
 have s46:=qm a.function s1 _ h46;refine ak Tryz.call244 (iX.r) s46 ?_;refine aq tk ?_;refine ac ?_;exact vm tk H rfl rfl rfl rfl rfl
def cQ(x:Rz)(cmp:Rq→Rq→Option (Int)):Option (Rz):=
 ag (eB x (x.length:Int) cmp) fun x8=>
 ag (eY (x8.length=x.length) ()) fun(_:Unit)=>
 some x8
theorem ld(g_x:OwnRef){g_cmp:FuncId}{caps_cmp:List PV}(x:Rz)(cmp:Rq→Rq→Option (Int))(hg_cmp:∀(vs:Array Value) (w:World),(callFunc g_cmp vs).run Tryz.prog w= .ok (.enter g_cmp vs) w)(hp_cmp:∀a0 a1 r,cmp a0 a1=some r→aJ Tryz.prog g_cmp ((.list 69 (a0.map ae))::(.list 69 (a1.map ae))::caps_cmp) (al r))(r:Rz)(H:cQ x cmp=some r):
  PH Tryz.prog 217 [(.own 0 g_x (x.map (am 69 ae)).length),(.fn g_cmp caps_cmp)] ⟨fun _=>none,upd (fun _=>none) 0 (some ⟨g_x,54,(x.map (am 69 ae)),true⟩)⟩ (fun u H=>u=(.tup [])∧H=⟨fun _=>none,upd (fun _=>none) 0 (some ⟨g_x,54,(r.map (am 69 ae)),true⟩)⟩):=by
 unfold cQ at H;refine PH.au Tryz.func217 Tryz.ntmps217 ?_;refine aa (af 2 tk rfl (jp tk (zl _) ?_));refine ah tk rfl ?_
 obtain⟨x8,h8,H⟩:=av H
 have s8:=nF g_x x (x.length:Int) cmp hg_cmp hp_cmp _ h8
 obtain⟨_,q8_0,H⟩:=av H
 have l8_0:=(dH q8_0).1;have z8_0:(List.map (am 69 ae) x).length=(List.map (am 69 ae) x8).length:=by simpa using(l8_0).symm
 refine dw (g:=245) rfl rfl rfl Tryz.call245 [] [(0,0)] rfl rfl rfl rfl (iX.of2 (jg.cons (pj.own rfl) (jg.cons (pj.of_eq rfl) (jg.cons (pj.of_eq rfl) jg.nil)))) (by rw[cE,bU,cD];rfl) s8 ?_;rintro u8 H8h ⟨rfl,rfl⟩
 refine⟨_,rfl,?_⟩
 refine dc (st':=⟨_,_,fun _=>none,upd (fun _=>none) 0 (some ⟨g_x,54,(x8.map (am 69 ae)),true⟩)⟩) (Gh.le (cj _ _) aK (bd aL)) ?_;refine ac ?_;obtain rfl:=ax H;refine eR (st':=⟨9,fun _=>.any,fun _=>none,upd (fun _=>none) 0 (some ⟨g_x,54,(x8.map (am 69 ae)),true⟩)⟩) (Gh.le bg aK (bd aL)) ?_;refine nG rfl (PLe.q rfl) ⟨rfl,rfl⟩
def jL(a:List LRelation)(b:List LRelation):Option (Bool):=
 ag (bO a b (fun a0 a1=>je a0 a1)) fun x7=>
 some x7
theorem uU(a:List LRelation)(b:List LRelation)(r:Bool)(H:jL a b=some r):
  aJ Tryz.prog 30 [(.list 86 (a.map aI)),(.list 86 (b.map aI))] (aB r):=by
 unfold jL at H;refine PH.au Tryz.func30 Tryz.ntmps30 ?_;refine ao 1 tk rfl (ab (aa (af 2 tk rfl ?_)))
 obtain⟨x7,h7,H⟩:=av H
 have s7:=gk a b (fun a0 a1=>je a0 a1) Tryz.call59 (fun a0 a1 r h=>tw a0 a1 r h) _ h7;refine ak Tryz.call58 (iX.r) s7 ?_;refine ah tk rfl (ac ?_);exact aW tk H rfl
def eg(sA:LSchema):Option (Int):=
 letP (
  cond (decide ((sA.tables.length:Int)>(6:Int)))
   (true)
   (cond (decide ((sA.foreignKeys.length:Int)>(8:Int)))
    (true)
    ((decide ((sA.constraints.length:Int)>(8:Int)))))) fun(t1:Bool)=>
 cond t1
  (some 2)
  (ag (aG (σ:=Unit) (ρ:=(Int)) (fun(j2:Nat) (x2:LTable) (_:Unit)=>
   ag (fC x2) fun x37=>
   cond (x37 !=(0:Int))
    (some (.ret x37))
    (cond (decide ((j2:Int)>(0:Int)))
     (ag (getI sA.tables (IntKind.i64.wrap ((j2:Int)-(1:Int)))) fun(x50:LTable)=>
     cond (Op.bytesLess x2.name x50.name||x2.name==x50.name)
      (some (.ret 6))
      (some (.next ())))
     (some (.next ())))) 0 sA.tables ()) fun fl2=>fl2.thenR fun(_:Unit)=>
  ag (aG (σ:=Unit) (ρ:=(Int)) (fun(j3:Nat) (x3:LForeignKey) (_:Unit)=>
   ag (fe sA x3) fun x66=>
   cond (x66 !=(0:Int))
    (some (.ret x66))
    (ag (mX sA.foreignKeys 0 (j3:Int)) fun(x73:List LForeignKey)=>
    ag (bY x73 (fun a0=>gB a0 x3)) fun x75=>
    cond x75
     (some (.ret 5))
     (some (.next ())))) 0 sA.foreignKeys ()) fun fl3=>fl3.thenR fun(_:Unit)=>
  ag (aG (σ:=Unit) (ρ:=(Int)) (fun(j4:Nat) (x4:LConstraint) (_:Unit)=>
   ag (eZ sA x4) fun x87=>
   cond (x87 !=(0:Int))
    (some (.ret x87))
    (ag (mX sA.constraints 0 (j4:Int)) fun(x94:List LConstraint)=>
    ag (ci x94 x4) fun x96=>
    cond x96
     (some (.ret 5))
     (some (.next ())))) 0 sA.constraints ()) fun fl4=>fl4.thenR fun(_:Unit)=>
  some 0)
theorem mg(sA:LSchema)(r:Int)(H:eg sA=some r):
  aJ Tryz.prog 37 [(.agg (bJ sA))] (al r):=by
 unfold eg at H;refine PH.au Tryz.func37 Tryz.ntmps37 ?_;refine ab (aa (aC ?_));refine ah tk rfl (ac (ab (ab ?_)));refine eM (γ:=Unit) (fun t1 g1=>⟨98,upd (upd (fun _=>.any) 27 (aB t1)) 1 (.ptr (bJ sA)),fun _=>none,fun _=>none⟩) H (fun _ H=>?_) (fun t1 g1 H=>?_)
 ·refine aa (af 2 tk rfl (az tk (zl _) ?_));refine af 2 tk rfl ?_;refine bh rfl rfl rfl H (fun H=>?_) (fun H=>?_)
  ·refine af 11 tk rfl (ac ?_);refine aS _ () H Gh.d
  refine af 2 tk rfl (az tk (zl _) ?_);refine af 3 tk rfl ?_;refine bh rfl rfl rfl H (fun H=>?_) (fun H=>?_)
  ·refine af 5 tk rfl (ac ?_);refine aS _ () H Gh.d
  refine af 2 tk rfl (az tk (zl _) ?_);refine af 2 tk rfl (ac ?_);refine aS _ () H Gh.d
 refine aE rfl H (fun H=>?_) (fun H=>?_)
 ·refine ao 1 tk rfl ?_;exact aW tk H rfl
 refine ap (ab (ab (aa (af 2 tk rfl (az tk (zl _) ?_)))));refine ah tk rfl (ac ?_);refine dS tk 31 30 29 (fun s2 g2=>upd (fun _=>.any) 1 (.ptr (bJ sA))) nB nO () H (fun fl2 Hp2 j2 s2 g2 hz2 hl2 x2 fb2 hx2 H hg2=>?_) (fun s2 g2 H=>?_)
 ·refine ab (aw (ab (aa (ah tk rfl ?_))));refine aR tk (zn j2) (bj (fun _=>rfl) hx2) ?_;refine ah tk rfl ?_;refine ba tk fun b4=>?_
  refine ah tk rfl (aq tk ?_);refine ac (ab (ab (aa (aA tk ?_))))
  obtain⟨x37,h37,H⟩:=av H
  have s37:=qZ x2 _ h37;refine ak Tryz.call71 (iX.r) s37 ?_;refine ah tk rfl (ac (ao 2 tk rfl ?_));refine aE rfl H (fun H=>?_) (fun H=>?_)
  ·refine ao 2 tk rfl ?_;obtain rfl:=ax H;have e2:fl2= .ret _:=hg2;subst e2;obtain rfl:=aQ Hp2;refine aZ tk rfl (ps:=[(al x37)]) ⟨_,_,rfl,rfl,rfl⟩ (PLe.q rfl)
  refine ap (ab (bn tk mok ⟨true,false,[47,52]⟩ [0,1,2,3,4,5,6,7,8,9,10,11,12,13] rfl (by decide+kernel) rfl (aN 3 rfl ?_)));refine ml H (fun H=>?_) (fun H=>?_)
  ·refine bN rfl (bK ?_);refine aN 4 rfl ?_
   obtain⟨x50,k50,H⟩:=br H
   refine bE k50.1 (aM (fun _=>rfl) k50.2) ?_;refine aN 4 rfl (bm ?_);refine aE rfl H (fun H=>?_) (fun H=>?_)
   ·refine ao 1 tk rfl ?_;obtain rfl:=ax H;have e2:fl2= .ret _:=hg2;subst e2;obtain rfl:=aQ Hp2;refine aZ tk rfl (ps:=[(al 6)]) ⟨_,_,rfl,rfl,rfl⟩ (PLe.q rfl)
   refine ap (aH (be 2 tk rfl ?_));exact bl () H hl2 hg2
  refine aN 11 rfl (bm (bA rfl (ap (aH (be 2 tk rfl ?_)))));exact bl () H hl2 hg2
 refine ab (ab (aa (af 2 tk rfl (az tk (zl _) ?_))));refine ah tk rfl (ac ?_);refine dS tk 59 58 57 (fun s3 g3=>upd (fun _=>.any) 1 (.ptr (bJ sA))) nB nO () H (fun fl3 Hp3 j3 s3 g3 hz3 hl3 x3 fb3 hx3 H hg3=>?_) (fun s3 g3 H=>?_)
 ·refine ab (aw (ab (aa (ah tk rfl ?_))));refine aR tk (zn j3) (bj (fun _=>rfl) hx3) ?_;refine ah tk rfl ?_;refine ba tk fun b7=>?_
  refine ah tk rfl (aq tk ?_);refine ac (ab (ab (aa (ah tk rfl (aA tk ?_)))))
  obtain⟨x66,h66,H⟩:=av H
  have s66:=oN sA x3 _ h66;refine ak Tryz.call72 (iX.r) s66 ?_;refine ah tk rfl (ac (ao 2 tk rfl ?_));refine aE rfl H (fun H=>?_) (fun H=>?_)
  ·refine ao 2 tk rfl ?_;obtain rfl:=ax H;have e3:fl3= .ret _:=hg3;subst e3;obtain rfl:=aQ Hp3;refine aZ tk rfl (ps:=[(al x66)]) ⟨_,_,rfl,rfl,rfl⟩ (PLe.q rfl)
  refine ap (ab (aa (af 3 tk rfl ?_)))
  obtain⟨x73,h73,H⟩:=av H
  have k73:=oP h73;refine vk tk rfl rfl rfl rfl rfl (zl _) rfl rfl k73.1 (ql k73.2) rfl (dc (Gh.freezeB 7 rfl rfl rfl rfl) (ah tk rfl ?_))
  obtain⟨x75,h75,H⟩:=av H
  have s75:=jk x73 (fun a0=>gB a0 x3) Tryz.call74 (fun a0 r h=>sI a0 x3 r h) _ h75;refine ak Tryz.call73 (iX.r) s75 ?_;refine ac ?_;refine aE rfl H (fun H=>?_) (fun H=>?_)
  ·refine ao 1 tk rfl ?_;obtain rfl:=ax H;have e3:fl3= .ret _:=hg3;subst e3;obtain rfl:=aQ Hp3;refine aZ tk rfl (ps:=[(al 5)]) ⟨_,_,rfl,rfl,rfl⟩ (PLe.q rfl)
  refine ap (aH (be 2 tk rfl ?_));exact bl () H hl3 hg3
 refine ab (ab (aa (af 2 tk rfl (az tk (zl _) ?_))));refine ah tk rfl (ac ?_);refine dS tk 80 79 78 (fun s4 g4=>upd (fun _=>.any) 1 (.ptr (bJ sA))) nB nO () H (fun fl4 Hp4 j4 s4 g4 hz4 hl4 x4 fb4 hx4 H hg4=>?_) (fun s4 g4 H=>?_)
 ·refine ab (aw (ab (aa (ah tk rfl ?_))));refine aR tk (zn j4) (bj (fun _=>rfl) hx4) ?_;refine ah tk rfl ?_;refine ba tk fun b10=>?_
  refine ah tk rfl (aq tk ?_);refine ac (ab (ab (aa (ah tk rfl (aA tk ?_)))))
  obtain⟨x87,h87,H⟩:=av H
  have s87:=oY sA x4 _ h87;refine ak Tryz.call76 (iX.r) s87 ?_;refine ah tk rfl (ac (ao 2 tk rfl ?_));refine aE rfl H (fun H=>?_) (fun H=>?_)
  ·refine ao 2 tk rfl ?_;obtain rfl:=ax H;have e4:fl4= .ret _:=hg4;subst e4;obtain rfl:=aQ Hp4;refine aZ tk rfl (ps:=[(al x87)]) ⟨_,_,rfl,rfl,rfl⟩ (PLe.q rfl)
  refine ap (ab (bn tk mok ⟨true,false,[92]⟩ [0,1,2,3,4,5] rfl (by decide+kernel) rfl (aN 3 rfl ?_)))
  obtain⟨x94,h94,H⟩:=av H
  have k94:=oP h94;refine vD rfl rfl rfl rfl rfl rfl (zl _) rfl rfl k94.1 (ql k94.2) rfl (bK ?_)
  obtain⟨x96,h96,H⟩:=av H
  have s96:=jP x94 x4 _ h96;refine aY Tryz.call77 (iX.r) s96 ?_;refine bm ?_;refine aE rfl H (fun H=>?_) (fun H=>?_)
  ·refine ao 1 tk rfl ?_;obtain rfl:=ax H;have e4:fl4= .ret _:=hg4;subst e4;obtain rfl:=aQ Hp4;refine aZ tk rfl (ps:=[(al 5)]) ⟨_,_,rfl,rfl,rfl⟩ (PLe.q rfl)
  refine ap (aH (be 2 tk rfl ?_));exact bl () H hl4 hg4
 refine ao 1 tk rfl ?_;exact aW tk H rfl
def iH(c:LChecker)(q:LQuery)(inA:List (List LCol)):Option ((List LCol)×Int):=
 cond (q.kind==(1:Int))
  (ag (bZ c.s.tables (fun a0=>some (eO a0 q))) fun x25=>
  cond (decide (x25<(0:Int)))
   (some ([],4))
   (ag (getI c.s.tables x25) fun(x32:LTable)=>
   some (x32.columns,0)))
  (cond (q.kind==(2:Int))
   (ag (getI inA 0) fun(x39:List LCol)=>
   ag (getI inA 0) fun(x43:List LCol)=>
   ag (getI q.exprs 0) fun(x47:LExpr)=>
   letP (dO c x43 x47) fun x49=>
   some (x39,x49))
   (letP (
    cond (q.kind==(4:Int))
     ((q.kind==(4:Int)))
     ((q.kind==(5:Int)))) fun(t1:Bool)=>
   cond t1
    (ag (getI inA 0) fun(x54:List LCol)=>
    ag (getI inA 1) fun(x58:List LCol)=>
    ag (aG (σ:=List LCol) (ρ:=Empty) (fun(_:Nat) (x2:LCol) (s2:List LCol)=>
     cond x2.nullable
      (ag (db 32 s2 ([(LCol.mk x2.name x2.kind true)]:List LCol)) fun(x76:List LCol)=>
      some (.next x76))
      (ag (db 32 s2 ([(LCol.mk x2.name x2.kind (q.kind==(5:Int)))]:List LCol)) fun(x76:List LCol)=>
      some (.next x76))) 0 x58 x54) fun fl2=>fl2.thenP fun(s2:List LCol)=>
    ag (getI q.exprs 0) fun(x83:LExpr)=>
    letP (dO c s2 x83) fun x85=>
    some (s2,x85))
    (letP (
     cond (q.kind==(6:Int))
      ((q.kind==(6:Int)))
      ((q.kind==(7:Int)))) fun(t3:Bool)=>
    cond t3
     (ag (getI inA 0) fun(x92:List LCol)=>
     ag (getI inA 1) fun(x95:List LCol)=>
     ag (iW q.kind x92 x95) fun x97=>
     some (x97.1,x97.2))
     (letP (
      cond (q.kind==(3:Int))
       ((q.kind==(3:Int)))
       ((q.kind==(8:Int)))) fun(t4:Bool)=>
     cond t4
      (ag (getI inA 0) fun(x106:List LCol)=>
      ag (eN c q x106) fun x108=>
      some (x108.1,x108.2))
      (cond (q.kind==(9:Int))
       (ag (aG (σ:=Unit) (ρ:=((List LCol)×Int)) (fun(_:Nat) (x5:LExpr) (_:Unit)=>
        ag (getI inA 0) fun(x122:List LCol)=>
        letP (cZ x122 c.vars x5) fun x127=>
        cond (x127.2.2 !=(0:Int))
         (some (.ret ([],x127.2.2)))
         (some (.next ()))) 0 q.exprs ()) fun fl5=>fl5.thenR fun(_:Unit)=>
       ag (getI inA 0) fun(x136:List LCol)=>
       some (x136,0))
       (ag (getI inA 0) fun(x136:List LCol)=>
       some (x136,0)))))))
theorem sM(c:LChecker)(q:LQuery)(inA:List (List LCol))(r:(List LCol)×Int)(H:iH c q inA=some r):
  aJ Tryz.prog 207 [(.agg (eA c)),(.agg (aO q)),(.list 61 (inA.map (am 93 aF)))] (.tup [(.list 93 (r.1.map aF)),(al r.2)]):=by
 unfold iH at H;refine PH.au Tryz.func207 Tryz.ntmps207 ?_;refine ab (aa (aC ?_));refine aC ?_;refine af 2 tk rfl (ac (ab (ao 2 tk rfl (aw (ao 2 tk rfl ?_)))));refine aE rfl H (fun H=>?_) (fun H=>?_)
 ·refine ab (aa (af 4 tk rfl ?_))
  obtain⟨x25,h25,H⟩:=av H
  have s25:=dR c.s.tables (fun a0=>some (eO a0 q)) Tryz.call234 (fun a0 r h=>(ax h)▸rh a0 q) _ h25;refine ak Tryz.call55 (iX.r) s25 ?_;refine ah tk rfl (ac (ab (ao 2 tk rfl ?_)));refine aE rfl H (fun H=>?_) (fun H=>?_)
  ·refine ao 2 tk rfl ?_;obtain rfl:=ax H;refine aZ tk rfl (ps:=[(.val (.slice none 0 0)),(al 4)]) ⟨_,_,rfl,rfl,_,_,rfl,rfl,rfl⟩ (PLe.of2 (pj.tup (jg.cons (pj.nil tk rfl) (jg.cons (pj.of_eq rfl) jg.nil))))
  refine ap (ab (aa (af 4 tk rfl ?_)))
  obtain⟨x32,k32,H⟩:=br H
  refine aR tk k32.1 (aM (fun _=>rfl) k32.2) ?_;refine af 2 tk rfl ?_;have s35:=qO (m:=35) x32.columns;refine ak Tryz.call176 (iX.r) (PFun.hX s35) ?_;refine af 2 tk rfl (ac ?_);exact aW tk H rfl
 refine ao 2 tk rfl ?_;refine aE rfl H (fun H=>?_) (fun H=>?_)
 ·refine ab (bn tk mok ⟨false,false,[]⟩ [0,1,2,3,4,5,6,7,8,9,10,11,12,13] rfl (by decide+kernel) rfl (bN rfl ?_))
  obtain⟨x39,k39,H⟩:=br H
  refine bE k39.1 (aM (fun _=>rfl) k39.2) ?_;refine aN 3 rfl ?_
  obtain⟨x43,k43,H⟩:=br H
  refine bE k43.1 (aM (fun _=>rfl) k43.2) ?_;refine aN 3 rfl ?_
  obtain⟨x47,k47,H⟩:=br H
  refine bE k47.1 (aM cx k47.2) ?_;refine bN rfl ?_
  obtain⟨x49,h49,H⟩:=cp H
  have s49:=lD c x43 x47;rw[h49]at s49;refine aY Tryz.call235 (iX.r) s49 ?_;refine aN 2 rfl (bm ?_);exact aW tk H rfl
 refine ab (ao 2 tk rfl ?_);refine eM (γ:=Unit) (fun t1 g1=>⟨138,upd (upd (upd (upd (upd (fun _=>.any) 50 (aB t1)) 18 (al q.kind)) 4 (.ptr (aO q))) 3 (.ptr (eA c))) 2 (.list 61 (inA.map (am 93 aF))),fun _=>none,fun _=>none⟩) H (fun _ H=>?_) (fun t1 g1 H=>?_)
 ·refine aE rfl H (fun H=>?_) (fun H=>?_)
  ·refine ap ?_;refine aS _ () H Gh.d
  refine be 2 tk rfl ?_;refine aS _ () H Gh.d
 refine aE rfl H (fun H=>?_) (fun H=>?_)
 ·refine ab (aa (ah tk rfl ?_))
  obtain⟨x54,k54,H⟩:=br H
  refine aR tk k54.1 (aM (fun _=>rfl) k54.2) ?_;refine ah tk rfl ?_;have s56:=qO (m:=56) x54;refine jG Tryz.call176 (iX.r) s56 (fun g56=>?_);refine ah tk rfl (ac (ab (ab (aa (ah tk rfl ?_)))))
  obtain⟨x58,k58,H⟩:=br H
  refine aR tk k58.1 (aM (fun _=>rfl) k58.2) ?_;refine ah tk rfl (az tk (zl _) ?_);refine ah tk rfl (ac ?_);refine gn (γ:=OwnRef) tk 61 60 59 (fun s2 g2=>upd (upd (upd (fun _=>.any) 9 (.own 56 g2 (s2.map aF).length)) 4 (.ptr (aO q))) 3 (.ptr (eA c))) nB (fun s2 g2=>upd (fun _=>none) 56 (some ⟨g2,93,(s2.map aF),true⟩)) g56 H (fun fl2 Hp2 j2 s2 g2 hz2 hl2 x2 fb2 hx2 H hg2=>?_) (fun s2 g2 H=>?_)
  ·refine ab (aw (ab (aa ?_)));refine aR tk (zn j2) (bj (fun _=>rfl) hx2) ?_;refine ah tk rfl ?_;refine ba tk fun b11=>?_
   refine aq tk ?_;refine ac (ab (aa (ah tk rfl (aA tk ?_))));refine ah tk rfl ?_;refine bh rfl rfl rfl H (fun H=>?_) (fun H=>?_)
   ·refine af 5 tk rfl (aq tk ?_);refine ac (aa (ah tk rfl (aA tk ?_)));refine bX tk (rows':=List.map aF ([(LCol.mk x2.name x2.kind true)]:List LCol)) (fW.refl _) ?_
    obtain⟨x76,h76,H⟩:=av H
    have k76:=cf h76;refine cg (rows2':=List.map aF ([(LCol.mk x2.name x2.kind true)]:List LCol)) (rows':=List.map aF x76) tk rfl rfl rfl rfl rfl rfl rfl rfl rfl rfl rfl rfl rfl (fW.refl _) (dl k76.1) (dg k76.2.1) (dh k76.2.2) fun g76=>?_
    refine ah tk rfl (ac (aH (be 2 tk rfl ?_)));exact bl g76 H hl2 hg2
   refine af 5 tk rfl (aq tk ?_);refine ac (aa (ah tk rfl (aA tk ?_)));refine bX tk (rows':=List.map aF ([(LCol.mk x2.name x2.kind (q.kind==(5:Int)))]:List LCol)) (fW.refl _) ?_
   obtain⟨x76,h76,H⟩:=av H
   have k76:=cf h76;refine cg (rows2':=List.map aF ([(LCol.mk x2.name x2.kind (q.kind==(5:Int)))]:List LCol)) (rows':=List.map aF x76) tk rfl rfl rfl rfl rfl rfl rfl rfl rfl rfl rfl rfl rfl (fW.refl _) (dl k76.1) (dg k76.2.1) (dh k76.2.2) fun g76=>?_
   refine ah tk rfl (ac (aH (be 2 tk rfl ?_)));exact bl g76 H hl2 hg2
  refine ab (cS 9 rfl rfl rfl (bn tk mok ⟨false,false,[]⟩ [0,1,2,3,4,5,6,7,8,9] rfl (by decide+kernel) rfl (aN 5 rfl ?_)))
  obtain⟨x83,k83,H⟩:=br H
  refine bE k83.1 (aM cx k83.2) ?_;refine bN rfl ?_
  obtain⟨x85,h85,H⟩:=cp H
  have s85:=lD c s2 x83;rw[h85]at s85;refine aY Tryz.call235 (iX.r) s85 ?_;refine aN 2 rfl (bm ?_);exact aW tk H rfl
 refine ab (ao 2 tk rfl ?_);refine eM (γ:=Unit) (fun t3 g3=>⟨138,upd (upd (upd (upd (upd (fun _=>.any) 86 (aB t3)) 18 (al q.kind)) 4 (.ptr (aO q))) 3 (.ptr (eA c))) 2 (.list 61 (inA.map (am 93 aF))),fun _=>none,fun _=>none⟩) H (fun _ H=>?_) (fun t3 g3 H=>?_)
 ·refine aE rfl H (fun H=>?_) (fun H=>?_)
  ·refine ap ?_;refine aS _ () H Gh.d
  refine be 2 tk rfl ?_;refine aS _ () H Gh.d
 refine aE rfl H (fun H=>?_) (fun H=>?_)
 ·refine ab (bn tk mok ⟨false,false,[]⟩ [0,1,2,3,4,5,6,7,8,9,10,11,12] rfl (by decide+kernel) rfl (aN 3 rfl ?_))
  obtain⟨x92,k92,H⟩:=br H
  refine bE k92.1 (aM (fun _=>rfl) k92.2) ?_;refine aN 2 rfl ?_
  obtain⟨x95,k95,H⟩:=br H
  refine bE k95.1 (aM (fun _=>rfl) k95.2) ?_;refine bN rfl ?_
  obtain⟨x97,h97,H⟩:=av H
  have s97:=tl q.kind x92 x95 _ h97;refine aY Tryz.call236 (iX.r) s97 ?_;refine aN 4 rfl (bm ?_);exact aW tk H rfl
 refine ab (ao 2 tk rfl ?_);refine eM (γ:=Unit) (fun t4 g4=>⟨138,upd (upd (upd (upd (upd (fun _=>.any) 100 (aB t4)) 18 (al q.kind)) 4 (.ptr (aO q))) 3 (.ptr (eA c))) 2 (.list 61 (inA.map (am 93 aF))),fun _=>none,fun _=>none⟩) H (fun _ H=>?_) (fun t4 g4 H=>?_)
 ·refine aE rfl H (fun H=>?_) (fun H=>?_)
  ·refine ap ?_;refine aS _ () H Gh.d
  refine be 2 tk rfl ?_;refine aS _ () H Gh.d
 refine aE rfl H (fun H=>?_) (fun H=>?_)
 ·refine ab (bn tk mok ⟨false,false,[]⟩ [0,1,2,3,4,5,6,7,8,9] rfl (by decide+kernel) rfl (aN 3 rfl ?_))
  obtain⟨x106,k106,H⟩:=br H
  refine bE k106.1 (aM (fun _=>rfl) k106.2) ?_;refine bN rfl ?_
  obtain⟨x108,h108,H⟩:=av H
  have s108:=oa c q x106 _ h108;refine aY Tryz.call237 (iX.r) s108 ?_;refine aN 4 rfl (bm ?_);exact aW tk H rfl
 refine ao 2 tk rfl ?_;refine aE rfl H (fun H=>?_) (fun H=>?_)
 ·refine ab (aa (af 2 tk rfl (az tk (zl _) ?_)));refine ah tk rfl (ac ?_);refine dS tk 116 115 114 (fun s5 g5=>upd (upd (fun _=>.any) 3 (.ptr (eA c))) 2 (.list 61 (inA.map (am 93 aF)))) nB nO () H (fun fl5 Hp5 j5 s5 g5 hz5 hl5 x5 fb5 hx5 H hg5=>?_) (fun s5 g5 H=>?_)
  ·refine ab (aw (ab (aa (aR tk (zn j5) (bj cx hx5) ?_))));refine ah tk rfl ?_;refine ba tk fun b13=>?_
   refine aq tk ?_;refine ac (ab (bn tk mok ⟨true,false,[123,125]⟩ [0,1,2,3,4,5,6,7,8,9,10,11,12,13] rfl (by decide+kernel) rfl (bN rfl ?_)))
   obtain⟨x122,k122,H⟩:=br H
   refine bE k122.1 (aM (fun _=>rfl) k122.2) ?_;refine aN 3 rfl (bK ?_)
   obtain⟨x127,h127,H⟩:=cp H
   have s127:=mi x122 c.vars x5;rw[h127]at s127;refine aY Tryz.call122 (iX.r) s127 ?_;refine aN 7 rfl (bm (ao 2 tk rfl ?_));refine aE rfl H (fun H=>?_) (fun H=>?_)
   ·refine ao 3 tk rfl ?_;obtain rfl:=ax H;have e5:fl5= .ret _:=hg5;subst e5;obtain rfl:=aQ Hp5;refine aZ tk rfl (ps:=[(.val (.slice none 0 0)),(al x127.2.2)]) ⟨_,_,rfl,rfl,_,_,rfl,rfl,rfl⟩ (PLe.of2 (pj.tup (jg.cons (pj.nil tk rfl) (jg.cons (pj.of_eq rfl) jg.nil))))
   refine ap (aH (be 2 tk rfl ?_));exact bl () H hl5 hg5
  refine aH (ab (aa (ah tk rfl ?_)))
  obtain⟨x136,k136,H⟩:=br H
  refine aR tk k136.1 (aM (fun _=>rfl) k136.2) ?_;refine af 3 tk rfl (ac ?_);exact aW tk H rfl
 refine ap (aH (ab (aa (ah tk rfl ?_))))
 obtain⟨x136,k136,H⟩:=br H
 refine aR tk k136.1 (aM (fun _=>rfl) k136.2) ?_;refine af 3 tk rfl (ac ?_);exact aW tk H rfl
def hM(c:LProcedureChecker)(vars:List LCol)(sA:LProcedureStatement):Option (Int):=
 ag (hJ c sA.table) fun x21=>
 cond (!x21.2)
  (some 4)
  (ag (
   cond (sA.kind !=(4:Int))
    (ag (getI sA.whereF 0) fun(x35:LExpr)=>
    ag (eJ c x21.1.columns vars x35) fun x37=>
    cond (x37 !=(0:Int))
     (some (.ret x37))
     (some (.next ())))
    (some (.next ()))) fun(fl1:Flow (Unit) (Int))=>fl1.thenR fun _=>
  ag (
   cond (sA.kind==(4:Int))
    (none)
    (some ())) fun(_:Unit)=>
  ag (aG (σ:=Unit) (ρ:=(Int)) (fun(j3:Nat) (x3:LExpr) (_:Unit)=>
   cond (sA.kind==(5:Int))
    (none)
    (ag (ep c ([]:List LCol) vars x3) fun x94=>
    cond (x94.2.2 !=(0:Int))
     (some (.ret x94.2.2))
     (cond (x94.1 !=(0:Int))
      (ag (getI x21.1.columns (j3:Int)) fun(x108:LCol)=>
      cond (x94.1 !=x108.kind)
       (some (.ret 7))
       (some (.next ())))
      (some (.next ()))))) 0 sA.exprs ()) fun fl3=>fl3.thenR fun(_:Unit)=>
  some 0)
theorem pK(c:LProcedureChecker)(vars:List LCol)(sA:LProcedureStatement)(r:Int)(H:hM c vars sA=some r):
  aJ Tryz.prog 121 [(.agg (ce c)),(.list 93 (vars.map aF)),(.agg (aP sA))] (al r):=by
 unfold hM at H;refine PH.au Tryz.func121 Tryz.ntmps121 ?_;refine ab (aa (aC ?_));refine aC ?_;refine ah tk rfl (ac (ab (aa (af 3 tk rfl ?_))))
 obtain⟨x21,h21,H⟩:=av H
 have s21:=px c sA.table _ h21;refine ak Tryz.call178 (iX.r) s21 ?_;refine af 3 tk rfl ?_;refine ba tk fun b7=>?_
 refine aq tk ?_;refine ah tk rfl (ac (ab (ao 2 tk rfl ?_)));refine aE rfl H (fun H=>?_) (fun H=>?_)
 ·refine ao 1 tk rfl ?_;exact aW tk H rfl
 refine ap (ab (ao 3 tk rfl ?_));refine V.cutR (γ:=Unit) (fun t1 g1=>⟨114,upd (upd (upd (upd (fun _=>.any) 7 (.box 7 b7 0)) 5 (.ptr (aP sA))) 3 (.ptr (ce c))) 1 (.list 93 (vars.map aF)),upd (fun _=>none) 7 (some ⟨b7,(bc x21.1)⟩),fun _=>none⟩) H (fun _ H Hp1=>?_) (fun t1 g1 H=>?_)
 ·refine aE rfl H (fun H=>?_) (fun H=>?_)
  ·refine ab (bn tk mok ⟨true,false,[29,34,36]⟩ [0,1,2,3,4,5,6,7,8,9] rfl (by decide+kernel) rfl (aN 2 rfl (bK ?_)));refine aN 3 rfl ?_
   obtain⟨x35,k35,H⟩:=br H
   refine bE k35.1 (aM cx k35.2) ?_;refine bN rfl ?_
   obtain⟨x37,h37,H⟩:=av H
   have s37:=nN c x21.1.columns vars x35 _ h37;refine aY Tryz.call119 (iX.r) s37 ?_;refine bN rfl (bm (ao 2 tk rfl ?_));refine aE rfl H (fun H=>?_) (fun H=>?_)
   ·refine ao 2 tk rfl ?_;obtain rfl:=ax H;obtain rfl:=aQ Hp1;refine aZ tk rfl (ps:=[(al x37)]) ⟨_,_,rfl,rfl,rfl⟩ (PLe.q rfl)
   refine ap ?_;refine aS _ () (ax H).symm Gh.d
  refine ap ?_;refine aS _ () (ax H).symm Gh.d
 refine ab (ab ?_);refine ew (γ:=Unit) (fun t2 g2=>⟨114,upd (upd (upd (upd (upd (fun _=>.any) 52 (aB false)) 7 (.box 7 b7 0)) 5 (.ptr (aP sA))) 3 (.ptr (ce c))) 1 (.list 93 (vars.map aF)),upd (fun _=>none) 7 (some ⟨b7,(bc x21.1)⟩),fun _=>none⟩) H (fun _ H=>?_) (fun t2 g2 H=>?_)
 ·refine aa (af 4 tk rfl ?_);refine bh rfl rfl rfl H (fun H=>?_) (fun H=>?_)
  ·cases H
  refine af 8 tk rfl (ac ?_);refine aS _ () (ax H) Gh.d
 refine bA rfl (ap (ab (ab (aa (af 2 tk rfl (az tk (zl _) ?_))))));refine ah tk rfl (ac ?_)
 obtain⟨fl3,H3,Hp3⟩:=av H
 refine gR tk 54 rfl rfl (fun hz3 _=>?_);rw[zl]at hz3;refine fL (τ:=Unit) (γ:=Unit) (fun s3 g3=>⟨114,upd (upd (upd (fun _=>.any) 5 (.ptr (aP sA))) 3 (.ptr (ce c))) 1 (.list 93 (vars.map aF)),fun _=>none,fun _=>none⟩) (fun t=>fl3= .next t) ?_ (fun s3 g3 hn3=>?_)
 ·refine aw ?_;refine js (fun j3 s3 g3=>⟨114,upd (upd (upd (upd (upd (upd (upd (fun _=>.any) 56 (al (j3:Int))) 55 (al (sA.exprs.length:Int))) 54 (.list 71 (sA.exprs.map dL))) 7 (.box 7 b7 0)) 5 (.ptr (aP sA))) 3 (.ptr (ce c))) 1 (.list 93 (vars.map aF)),upd (fun _=>none) 7 (some ⟨b7,(bc x21.1)⟩),fun _=>none⟩) () H3 Gh.d (fun j3 s3 g3 hj3 hr3=>?_);refine ao 1 tk rfl (ab ?_);refine bt rfl (fun h=>?_) (fun h=>?_)
  ·have hl3:=pZ h
   obtain⟨x3,fb3,hx3,H,hg3⟩:=rMc hl3 hr3
   refine ap (ab (aw (ab (aa (ah tk rfl (aR tk (zn j3) (bj cx hx3) ?_))))));refine ah tk rfl ?_;refine ba tk fun b10=>?_
   refine ba tk fun b11=>?_
   refine aq tk ?_;refine aq tk ?_;refine ac (ab (aa (aA tk ?_)));refine af 2 tk rfl (ac (ab (ao 3 tk rfl ?_)));refine aE rfl H (fun H=>?_) (fun H=>?_)
   ·cases H
   refine ap (ab (aa (af 3 tk rfl (aA tk ?_))))
   obtain⟨x94,h94,H⟩:=av H
   have s94:=lp c ([]:List LCol) vars x3 _ h94;refine ak Tryz.call116 (iX.of2 (jg.cons (pj.of_eq rfl) (jg.cons (pj.nil tk rfl) (jg.cons (pj.of_eq rfl) (jg.cons (pj.of_eq rfl) jg.nil))))) s94 ?_;refine af 7 tk rfl (ac (ab (ao 2 tk rfl ?_)));refine aE rfl H (fun H=>?_) (fun H=>?_)
   ·refine ao 2 tk rfl ?_;obtain rfl:=ax H;have e3:fl3= .ret _:=hg3;subst e3;obtain rfl:=aQ Hp3;refine aZ tk rfl (ps:=[(al x94.2.2)]) ⟨_,_,rfl,rfl,rfl⟩ (PLe.q rfl)
   refine ap (ab (aa (af 3 tk rfl ?_)));refine bh rfl rfl rfl H (fun H=>?_) (fun H=>?_)
   ·refine af 2 tk rfl (aA tk ?_);refine ah tk rfl ?_
    obtain⟨x108,k108,H⟩:=br H
    refine aR tk k108.1 (aM (fun _=>rfl) k108.2) ?_;refine af 4 tk rfl (ac ?_);refine aE rfl H (fun H=>?_) (fun H=>?_)
    ·refine ao 1 tk rfl ?_;obtain rfl:=ax H;have e3:fl3= .ret _:=hg3;subst e3;obtain rfl:=aQ Hp3;refine aZ tk rfl (ps:=[(al 7)]) ⟨_,_,rfl,rfl,rfl⟩ (PLe.q rfl)
    refine ap (aH (be 2 tk rfl ?_));exact bl () H hl3 hg3
   refine af 9 tk rfl (ac (bA rfl (ap (aH (be 2 tk rfl ?_)))));exact bl () H hl3 hg3
  have hn3:=rMd (pW h) hr3;refine bs rfl ?_;refine aS s3 g3 hn3 Gh.d
 have H:=nL hn3 Hp3;refine ao 1 tk rfl ?_;exact aW tk H rfl
def iy(t:LTable)(rows:Rz)(key:Rq):Option (Rz×Bool):=
 ag (iR rows) fun x12=>
 ag (jv t x12 key) fun x17=>
 ag (eY (x17.2.2.length=x12.length) ()) fun(_:Unit)=>
 cond (!x17.2.1)
  (some (x17.2.2,false))
  (ag (delI x17.2.2 x17.1 (IntKind.i64.wrap (x17.1+(1:Int)))) fun x27=>
  some (x27,true))
theorem ud(t:LTable)(rows:Rz)(key:Rq)(r:Rz×Bool)(H:iy t rows key=some r):
  aJ Tryz.prog 48 [(.agg (bc t)),(.list 54 (rows.map (am 69 ae))),(.list 69 (key.map ae))] (.tup [(.list 54 (r.1.map (am 69 ae))),(aB r.2)]):=by
 unfold iy at H;refine PH.au Tryz.func48 Tryz.ntmps48 ?_;refine ab (aa (aC ?_));refine af 2 tk rfl (ac (ab (aa (ah tk rfl ?_))))
 obtain⟨x12,h12,H⟩:=av H
 have s12:=qf (m:=12) rows _ h12;refine jG Tryz.call57 (iX.r) s12 (fun g12=>?_);refine ah tk rfl (ac (ab (aa (af 3 tk rfl ?_))))
 obtain⟨x17,h17,H⟩:=av H
 have s17:=ug g12 t x12 key _ h17
 obtain⟨_,q17_0,H⟩:=av H
 have l17_0:=(dH q17_0).1;have z17_0:(List.map (am 69 ae) x12).length=(List.map (am 69 ae) x17.2.2).length:=by simpa using(l17_0).symm
 refine dw (g:=86) rfl rfl rfl Tryz.call86 [] [(12,1)] rfl rfl rfl rfl (iX.of2 (jg.cons (pj.of_eq rfl) (jg.cons (pj.own rfl) (jg.cons (pj.of_eq rfl) jg.nil)))) (by rw[cE,bU,cD];rfl) s17 ?_;rintro u17 H17h ⟨rfl,rfl⟩
 refine⟨_,rfl,?_⟩
 refine dc (st':=⟨_,_,fun _=>none,upd (fun _=>none) 12 (some ⟨g12,54,(x17.2.2.map (am 69 ae)),true⟩)⟩) (Gh.le (cj _ _) aK (bd aL)) ?_;refine af 5 tk rfl (ac (ab (ao 2 tk rfl ?_)));refine aE rfl H (fun H=>?_) (fun H=>?_)
 ·refine ao 3 tk rfl (cS 6 rfl rfl z17_0 ?_);exact aW tk H rfl
 refine ap (ab (aa (af 4 tk rfl ?_)))
 obtain⟨x27,h27,H⟩:=av H
 have s27:=uv g12 x17.2.2 x17.1 (IntKind.i64.wrap (x17.1+(1:Int))) _ h27;refine dw (g:=88) rfl rfl rfl Tryz.call88 [] [(12,0)] rfl rfl rfl rfl (iX.of2 (jg.cons (pj.own z17_0) (jg.cons (pj.of_eq rfl) (jg.cons (pj.of_eq rfl) jg.nil)))) (by rw[cE,bU,cD];rfl) s27 ?_;rintro u27 H27h ⟨rfl,rfl⟩
 refine⟨_,rfl,?_⟩
 refine dc (st':=⟨_,_,fun _=>none,upd (fun _=>none) 12 (some ⟨g12,54,(x27.map (am 69 ae)),true⟩)⟩) (Gh.le (cj _ _) aK (bd aL)) ?_;refine ma 27 (q:=(.own 12 g12 (x27.map (am 69 ae)).length)) rfl (PLe.of2 (pj.own rfl)) (af 2 tk rfl (ac (cS 6 rfl rfl rfl ?_)));exact aW tk H rfl
def jw(rA:LRun)(q:LQuery)(cols:List LCol)(inA:Rz):Option (Rz):=
 letP (
  cond ((q.exprs.length:Int)==(0:Int))
   (([[]],[[]]))
   (([],[]))) fun(t1:Rz×List Rz)=>
 ag (aG (σ:=Rz×List Rz) (ρ:=Empty) (fun(_:Nat) (x2:Rq) (s2:Rz×List Rz)=>
  ag (dJ rA cols x2 q.exprs) fun x38=>
  ag (bI s2.1 (fun a0=>gC a0 x38)) fun x41=>
  ag (eY (x41.2.length=s2.1.length) ()) fun(_:Unit)=>
  ag (
   cond (decide (x41.1<(0:Int)))
    (ag (db 24 x41.2 ([x38]:Rz)) fun(x49:Rz)=>
    ag (db 24 s2.2 ([[]]:List Rz)) fun(x52:List Rz)=>
    some (x49,x52,(x41.2.length:Int)))
    (some (x41.2,s2.2,x41.1))) fun(t7:Rz×List Rz×Int)=>
  ag (getI t7.2.1 t7.2.2) fun(x57:Rz)=>
  ag (db 24 x57 ([x2]:Rz)) fun(x61:Rz)=>
  ag (getI t7.2.1 t7.2.2) fun(_:Rz)=>
  letP (t7.2.1.set t7.2.2.toNat x61) fun(y8:List Rz)=>
  some (.next (t7.1,y8))) 0 inA (t1.1,t1.2)) fun fl2=>fl2.thenP fun(s2:Rz×List Rz)=>
 ag (eY (s2.2.length*24≤2^47) ()) fun(_:Unit)=>
 ag (oT (s2.1.length:Int)) fun(n10:Nat)=>
 ag (aG (σ:=Rz) (ρ:=Empty) (fun(j10:Nat) (_:Nat) (s10:Rz)=>
  ag (getI s2.1 (j10:Int)) fun(x69:Rq)=>
  ag (aG (σ:=Rq) (ρ:=Empty) (fun(_:Nat) (x13:LAggregateCall) (s13:Rq)=>
   ag (getI s2.2 (j10:Int)) fun(x86:Rz)=>
   ag (kt rA x13 cols x86) fun x88=>
   ag (db 32 s13 ([x88]:Rq)) fun(x90:Rq)=>
   some (.next x90)) 0 q.aggregates x69) fun fl13=>fl13.thenP fun(s13:Rq)=>
  ag (db 24 s10 ([s13]:Rz)) fun(x95:Rz)=>
  some (.next x95)) 0 (List.range n10) []) fun fl10=>fl10.thenP fun(s10:Rz)=>
 some s10
theorem uh(rA:LRun)(q:LQuery)(cols:List LCol)(inA:Rz)(r:Rz)(H:jw rA q cols inA=some r):
  aJ Tryz.prog 168 [(.agg (dX rA)),(.agg (aO q)),(.list 93 (cols.map aF)),(.list 54 (inA.map (am 69 ae)))] (.list 54 (r.map (am 69 ae))):=by
 unfold jw at H;refine PH.au Tryz.func168 Tryz.ntmps168 ?_;refine ab (aa (aC ?_));refine aC ?_;refine ah tk rfl (ac (ao 1 tk rfl (ao 1 tk rfl (ab (ab (aa (af 2 tk rfl (az tk (zl _) ?_))))))));refine ah tk rfl (ac ?_);refine eM (γ:=OwnRef×(Nat×Nat×(Nat→OwnRef))) (fun t1 g1=>⟨98,upd (upd (upd (upd (upd (upd (fun _=>.any) 10 (.val (jB g1.2.1 t1.2.length g1.2.2.1))) 9 (.own 25 g1.1 (t1.1.map (am 69 ae)).length)) 5 (.ptr (aO q))) 4 (.ptr (dX rA))) 3 (.list 54 (inA.map (am 69 ae)))) 2 (.list 93 (cols.map aF)),upd (fun _=>none) 990 (jm g1.2.1 g1.2.2.2 (List.map (List.map (am 69 ae)) t1.2) g1.2.2.1),eT 54 g1.2.2.2 (List.map (List.map (am 69 ae)) t1.2) (upd (fun _=>none) 25 (some ⟨g1.1,54,(t1.1.map (am 69 ae)),true⟩))⟩) H (fun _ H=>?_) (fun t1 g1 H=>?_)
 ·refine aE rfl H (fun H=>?_) (fun H=>?_)
  ·refine aa ?_;refine pQ (rows':=List.map (am 69 ae) ([[]]:Rz)) tk rfl rfl rfl rfl rfl rfl rfl rfl rfl (jg.cons (pj.nil tk rfl) jg.nil) fun g25=>?_
   refine vO 990 54 tk rfl rfl rfl rfl rfl rfl rfl rfl fun bf26 cf26=>?_
   refine af 2 tk rfl (ac ?_);refine aS _ (g25,(bf26,cf26,(fun _=>⟨none,0⟩))) H (Gh.le (ay (ay (ay (ay (ay (ay bg)))))) (ls rfl aK) (kL (fun i rs h=>by first|exact eD h|(simp only[mS,gT,iD,Nat.reduceLT];exact eD h)) (bd aL)))
  refine ap (iw tk 9 25 (e:=54) rfl rfl ?_);refine aS _ (⟨none,0⟩,(0,0,fun _=>⟨none,0⟩)) H (Gh.le (ay (ay (ay (ay (ay (ay bg)))))) (vF aK) (vG (bd aL)))
 refine ab (ab (aa (ah tk rfl (az tk (zl _) ?_))));refine ah tk rfl (ac ?_)
 obtain⟨fl2,H2,Hp2⟩:=av H
 refine gR tk 27 rfl rfl (fun hz2 _=>?_);rw[zl]at hz2;refine fL (τ:=Rz×List Rz) (γ:=OwnRef×(Nat×Nat×(Nat→OwnRef))) (fun s2 g2=>⟨98,upd (upd (upd (upd (upd (fun _=>.any) 10 (.val (jB g2.2.1 s2.2.length g2.2.2.1))) 9 (.own 25 g2.1 (s2.1.map (am 69 ae)).length)) 5 (.ptr (aO q))) 4 (.ptr (dX rA))) 2 (.list 93 (cols.map aF)),upd (fun _=>none) 990 (jm g2.2.1 g2.2.2.2 (List.map (List.map (am 69 ae)) s2.2) g2.2.2.1),eT 54 g2.2.2.2 (List.map (List.map (am 69 ae)) s2.2) (upd (fun _=>none) 25 (some ⟨g2.1,54,(s2.1.map (am 69 ae)),true⟩))⟩) (fun t=>fl2= .next t) ?_ (fun s2 g2 hn2=>?_)
 ·refine aw ?_;refine js (fun j2 s2 g2=>⟨98,upd (upd (upd (upd (upd (upd (upd (upd (fun _=>.any) 29 (al (j2:Int))) 28 (al (inA.length:Int))) 27 (.list 54 (inA.map (am 69 ae)))) 10 (.val (jB g2.2.1 s2.2.length g2.2.2.1))) 9 (.own 25 g2.1 (s2.1.map (am 69 ae)).length)) 5 (.ptr (aO q))) 4 (.ptr (dX rA))) 2 (.list 93 (cols.map aF)),upd (fun _=>none) 990 (jm g2.2.1 g2.2.2.2 (List.map (List.map (am 69 ae)) s2.2) g2.2.2.1),eT 54 g2.2.2.2 (List.map (List.map (am 69 ae)) s2.2) (upd (fun _=>none) 25 (some ⟨g2.1,54,(s2.1.map (am 69 ae)),true⟩))⟩) (g1.1,(g1.2.1,g1.2.2.1,g1.2.2.2)) H2 (Gh.le (ay (ay (ay (ay (ay (ay (ay (ay bg)))))))) (ls rfl aK) (kL (fun i rs h=>by first|exact eD h|(simp only[mS,gT,iD,Nat.reduceLT];exact eD h)) (bd aL))) (fun j2 s2 g2 hj2 hr2=>?_);refine ao 1 tk rfl (ab ?_);refine bt rfl (fun h=>?_) (fun h=>?_)
  ·have hl2:=pZ h
   obtain⟨x2,fb2,hx2,H,hg2⟩:=rMc hl2 hr2
   refine ap (ab (aw (ab (aa ?_))));refine aR tk (zn j2) (bj (fun _=>rfl) hx2) ?_;refine af 2 tk rfl (ac (ab (aa (af 5 tk rfl ?_))))
   obtain⟨x38,h38,H⟩:=av H
   have s38:=kI rA cols x2 q.exprs _ h38;refine ak Tryz.call167 (iX.r) s38 ?_;refine ba tk fun b13=>?_
   refine aq tk ?_;refine ac (ab (aa (ah tk rfl (dc (Gh.freezeB 13 rfl rfl rfl rfl) (ah tk rfl ?_)))))
   obtain⟨x41,h41,H⟩:=av H
   have s41:=fM g2.1 s2.1 (fun a0=>gC a0 x38) Tryz.call215 (fun a0 r h=>sJ a0 x38 r h) _ h41
   obtain⟨_,q41_0,H⟩:=av H
   have l41_0:=(dH q41_0).1;have z41_0:(List.map (am 69 ae) s2.1).length=(List.map (am 69 ae) x41.2).length:=by simpa using(l41_0).symm
   refine dw (g:=211) rfl rfl rfl Tryz.call211 [] [(25,0)] rfl rfl rfl rfl (iX.of2 (jg.cons (pj.own rfl) (jg.cons (pj.of_eq rfl) jg.nil))) (by rw[cE,bU,cD];rfl) s41 ?_;rintro u41 H41h ⟨rfl,rfl⟩
   refine⟨_,rfl,?_⟩
   refine dc (st':=⟨_,_,upd (fun _=>none) 990 (jm g2.2.1 g2.2.2.2 (List.map (List.map (am 69 ae)) s2.2) g2.2.2.1),eT 54 g2.2.2.2 (List.map (List.map (am 69 ae)) s2.2) (upd (fun _=>none) 25 (some ⟨g2.1,54,(x41.2.map (am 69 ae)),true⟩))⟩) (Gh.le (cj _ _) (ls rfl aK) (kL (fun i rs h=>by first|exact eD h|(simp only[mS,gT,iD,Nat.reduceLT];exact eD h)) (bd aL))) ?_;refine ah tk rfl (ac (ab (ao 2 tk rfl ?_)));refine ew (γ:=OwnRef×(Nat×Nat×(Nat→OwnRef))) (fun t7 g7=>⟨98,upd (upd (upd (upd (upd (upd (upd (upd (upd (upd (fun _=>.any) 29 (al (j2:Int))) 28 (al (inA.length:Int))) 27 (.list 54 (inA.map (am 69 ae)))) 14 (al t7.2.2)) 12 (.list 69 (x2.map ae))) 10 (.val (jB g7.2.1 t7.2.1.length g7.2.2.1))) 9 (.own 25 g7.1 (t7.1.map (am 69 ae)).length)) 5 (.ptr (aO q))) 4 (.ptr (dX rA))) 2 (.list 93 (cols.map aF)),upd (fun _=>none) 990 (jm g7.2.1 g7.2.2.2 (List.map (List.map (am 69 ae)) t7.2.1) g7.2.2.1),eT 54 g7.2.2.2 (List.map (List.map (am 69 ae)) t7.2.1) (upd (fun _=>none) 25 (some ⟨g7.1,54,(t7.1.map (am 69 ae)),true⟩))⟩) H (fun _ H=>?_) (fun t7 g7 H=>?_)
   ·refine aE rfl H (fun H=>?_) (fun H=>?_)
    ·refine ab (aa (ah tk rfl (jp tk (z41_0.trans (zl _)) ?_)));refine ah tk rfl (ac (aa (af 2 tk rfl (bX tk (rows':=List.map (am 69 ae) ([x38]:Rz)) (fW.refl _) ?_))))
     obtain⟨x49,h49,H⟩:=av H
     have k49:=cf h49;refine cg (rows2':=List.map (am 69 ae) ([x38]:Rz)) (rows':=List.map (am 69 ae) x49) tk rfl rfl rfl rfl rfl rfl rfl rfl rfl rfl rfl z41_0 rfl (fW.refl _) (dl k49.1) (dg k49.2.1) (dh k49.2.2) fun g49=>?_
     refine ah tk rfl (tv tk rfl rfl rfl rfl rfl rfl ?_)
     obtain⟨x52,h52,H⟩:=av H
     have k52:=cf h52;refine dc (st':=⟨_,_,upd (fun _=>none) 990 (jm g2.2.1 g2.2.2.2 (List.map (List.map (am 69 ae)) s2.2) g2.2.2.1),eT 54 g2.2.2.2 (List.map (List.map (am 69 ae)) s2.2) (upd (fun _=>none) 25 (some ⟨g49,54,(x49.map (am 69 ae)),true⟩))⟩) (Gh.le (cj _ _) (ls rfl aK) (kL (fun i rs h=>by first|exact eD h|(simp only[mS,gT,iD,Nat.reduceLT];exact eD h)) (bd aL))) ?_;refine vM 990 54 tk rfl rfl rfl rfl rfl rfl rfl rfl rfl rfl rfl (zl _).symm rfl rfl (by rw[zl];exact k52.1) (by rw[zl];exact k52.2.1) fun bf52 cf52=>?_
     have hz52:List.map (List.map (am 69 ae)) x52=List.map (List.map (am 69 ae)) s2.2++[[]]:=by rw[k52.2.2,List.map_append];rfl
     refine dc (st':=⟨_,_,upd (fun _=>none) 990 (jm bf52 (upd g2.2.2.2 s2.2.length ⟨none,0⟩) (List.map (List.map (am 69 ae)) x52) cf52),eT 54 (upd g2.2.2.2 s2.2.length ⟨none,0⟩) (List.map (List.map (am 69 ae)) x52) (upd (fun _=>none) 25 (some ⟨g49,54,(x49.map (am 69 ae)),true⟩))⟩) (Gh.le (cj _ _) (ls (by rw[hz52];rfl) aK) (kL (fun i rs h=>by rw[hz52]at h;exact eD h) (bd aL))) ?_;refine ma 52 (q:=(.val (jB bf52 x52.length cf52))) rfl (PLe.q (by rw[k52.2.2,List.length_append];rfl)) ?_;refine af 2 tk rfl (ac ?_);refine aS _ (g49,(bf52,cf52,(upd g2.2.2.2 s2.2.length ⟨none,0⟩))) (ax H) (Gh.le (ay (ay (ay (ay (ay (ay (ay (ay (ay (ay bg)))))))))) (ls rfl aK) (kL (fun i rs h=>by first|exact eD h|(simp only[mS,gT,iD,Nat.reduceLT];exact eD h)) (bd aL)))
    refine ap ?_;refine aS _ (g2.1,(g2.2.1,g2.2.2.1,g2.2.2.2)) (ax H) (Gh.le (ay (ay (ay (bG (PLe.of2 (pj.of_eq (congrArg (PV.own 25 g2.1) z41_0))) (ay (ay (ay (ay (ay (ay bg)))))))))) (ls rfl aK) (kL (fun i rs h=>by first|exact eD h|(simp only[mS,gT,iD,Nat.reduceLT];exact eD h)) (bd aL)))
   refine aa (af 4 tk rfl ?_)
   obtain⟨x57,k57,H⟩:=br H
   have wk57:(List.map (List.map (am 69 ae)) t7.2.1)[t7.2.2.toNat]?=some (List.map (am 69 ae) x57):=by rw[List.getElem?_map,k57.2];rfl
   refine vq 990 tk rfl rfl rfl rfl rfl rfl rfl rfl ⟨k57.1,(zg.1 k57.2).1⟩ rfl ?_;refine vT (hok:=ru _ _ _) tk rfl rfl rfl rfl rfl (tK wk57) (famCells_get wk57) rfl (ah tk rfl (bX tk (rows':=List.map (am 69 ae) ([x2]:Rz)) (fW.refl _) ?_))
   obtain⟨x61,h61,H⟩:=av H
   have k61:=cf h61;refine cg (rows2':=List.map (am 69 ae) ([x2]:Rz)) (rows':=List.map (am 69 ae) x61) tk rfl rfl rfl rfl rfl rfl rfl rfl rfl rfl (eD wk57) rfl rfl (fW.refl _) (dl k61.1) (dg k61.2.1) (dh k61.2.2) fun g61=>?_
   obtain⟨x62,k62,H⟩:=br H
   have wk62:(List.map (List.map (am 69 ae)) t7.2.1)[t7.2.2.toNat]?=some (List.map (am 69 ae) x62):=by rw[List.getElem?_map,k62.2];rfl
   refine vq 990 tk rfl rfl rfl rfl rfl rfl rfl rfl ⟨k62.1,(zg.1 k62.2).1⟩ rfl ?_
   obtain⟨y8,hy8,H⟩:=cp H
   have hzy8:List.map (List.map (am 69 ae)) y8=(List.map (List.map (am 69 ae)) t7.2.1).set t7.2.2.toNat (List.map (am 69 ae) x61):=by rw[←hy8,List.map_set]
   have hly8:y8.length=t7.2.1.length:=by rw[←hy8,List.length_set]
   refine vH (hok:=ru _ _ _) tk rfl rfl rfl rfl rfl rfl (tK wk62) rfl rfl (by rw[qe];exact Nat.lt_of_lt_of_le (zg.1 wk62).1 (kw _ _)) (famCells_set wk62 _) ?_;refine dc (st':=⟨_,_,upd (fun _=>none) 990 (jm g7.2.1 (upd g7.2.2.2 t7.2.2.toNat g61) (List.map (List.map (am 69 ae)) y8) g7.2.2.1),eT 54 (upd g7.2.2.2 t7.2.2.toNat g61) (List.map (List.map (am 69 ae)) y8) (upd (fun _=>none) 25 (some ⟨g7.1,54,(t7.1.map (am 69 ae)),true⟩))⟩) (Gh.le (cj _ _) (ls (famB_put wk62 hzy8) aK) (kL (famO_put wk62 hzy8) (vQ (by rw[fu _ _ (by unfold bC;omega)];rfl) aL))) ?_;refine ma 10 (q:=(.val (jB g7.2.1 y8.length g7.2.2.1))) rfl (PLe.q (by rw[hly8];rfl)) ?_;refine ma 53 (q:=(.val (jB g7.2.1 y8.length g7.2.2.1))) rfl (PLe.q (by rw[hly8];rfl)) ?_;refine ma 55 (q:=(.val (jB g7.2.1 y8.length g7.2.2.1))) rfl (PLe.q (by rw[hly8];rfl)) ?_;refine ac (aH (be 2 tk rfl ?_));exact bl (g7.1,(g7.2.1,g7.2.2.1,(upd g7.2.2.2 t7.2.2.toNat g61))) H hl2 hg2 (Gh.le (ay (ay (ay (ay (ay (ay (ay (bG (PLe.q (eV (by omega))) bg)))))))) (ls rfl aK) (kL (fun i rs h=>by first|exact eD h|(simp only[mS,gT,iD,Nat.reduceLT];exact eD h)) (bd aL)))
  have hn2:=rMd (pW h) hr2;refine bs rfl ?_;refine aS s2 g2 hn2 (Gh.le (ay (ay (ay (ay (ay bg))))) (ls rfl aK) (kL (fun i rs h=>by first|exact eD h|(simp only[mS,gT,iD,Nat.reduceLT];exact eD h)) (bd aL)))
 have H:=dM hn2 Hp2;refine ao 1 tk rfl (ab (ab (aa (ah tk rfl (jp tk (zl _) ?_)))));refine ah tk rfl (ac ?_)
 obtain⟨_,hf9,H⟩:=av H
 have kf9:=(dH hf9).1;refine vy 10 990 tk (e:=54) (e':=62) (rows:=List.map (am 54 (am 69 ae)) s2.2) rfl rfl rfl (zl _).symm rfl (by rw[zl];exact kf9) (by rw[zl];unfold maxLen;omega) (by rw[List.map_map];rfl) ?_
 obtain⟨n10,hs10,H⟩:=av H
 have hz10:=oH hs10
 obtain⟨fl10,H10,Hp10⟩:=av H
 refine fL (τ:=Rz) (γ:=OwnRef) (fun s10 g10=>⟨98,upd (fun _=>.any) 15 (.own 95 g10 (s10.map (am 69 ae)).length),fun _=>none,upd (fun _=>none) 95 (some ⟨g10,54,(s10.map (am 69 ae)),true⟩)⟩) (fun t=>fl10= .next t) ?_ (fun s10 g10 hn10=>?_)
 ·refine aw (iw tk 15 95 (e:=54) rfl rfl ?_);refine js (fun j10 s10 g10=>⟨98,upd (upd (upd (upd (upd (upd (upd (upd (fun _=>.any) 66 (al (j10:Int))) 65 (al (s2.1.length:Int))) 64 (.own 25 g2.1 (s2.1.map (am 69 ae)).length)) 15 (.own 95 g10 (s10.map (am 69 ae)).length)) 10 (.list 62 (s2.2.map (am 54 (am 69 ae))))) 5 (.ptr (aO q))) 4 (.ptr (dX rA))) 2 (.list 93 (cols.map aF)),fun _=>none,upd (upd (fun _=>none) 95 (some ⟨g10,54,(s10.map (am 69 ae)),true⟩)) 25 (some ⟨g2.1,54,(s2.1.map (am 69 ae)),true⟩)⟩) (⟨none,0⟩) H10 Gh.d (fun j10 s10 g10 hj10 hr10=>?_);refine ao 1 tk rfl (ab ?_);refine bt rfl (fun h=>?_) (fun h=>?_)
  ·have hl10:=natLt hz10 h
   obtain⟨x10,fb10,hx10,H,hg10⟩:=rMc hl10 hr10
   obtain rfl:=natX hx10;refine ap (ab (aw (ab (aa (ah tk rfl ?_)))))
   obtain⟨x69,k69,H⟩:=br H
   refine lU (tag:=25) rfl (fun ho25=>?_);refine kZ tk ⟨k69.1,(dB k69.2)⟩ (dK ho25 k69.2) ?_;refine rW tk rfl rfl rfl rfl rfl rfl rfl (aM (fun _=>rfl) k69.2) rfl rfl ?_;refine af 2 tk rfl (ac (ab (aa (ah tk rfl ?_))));have s72:=clone_85 (m:=72) x69;refine jG Tryz.call85 (iX.r) s72 (fun g72=>?_);refine ah tk rfl (ac (ab (ab (aa (af 2 tk rfl (az tk (zl _) ?_))))));refine ah tk rfl (ac ?_);refine gn (γ:=OwnRef) tk 76 75 74 (fun s13 g13=>upd (upd (upd (upd (upd (upd (upd (upd (upd (upd (fun _=>.any) 66 (al (j10:Int))) 65 (al (s2.1.length:Int))) 64 (.own 25 g2.1 (s2.1.map (am 69 ae)).length)) 18 (.own 72 g13 (s13.map ae).length)) 16 (al (j10:Int))) 15 (.own 95 g10 (s10.map (am 69 ae)).length)) 10 (.list 62 (s2.2.map (am 54 (am 69 ae))))) 5 (.ptr (aO q))) 4 (.ptr (dX rA))) 2 (.list 93 (cols.map aF))) nB (fun s13 g13=>upd (upd (upd (fun _=>none) 95 (some ⟨g10,54,(s10.map (am 69 ae)),true⟩)) 72 (some ⟨g13,69,(s13.map ae),true⟩)) 25 (some ⟨g2.1,54,(s2.1.map (am 69 ae)),true⟩)) g72 H (fun fl13 Hp13 j13 s13 g13 hz13 hl13 x13 fb13 hx13 H hg13=>?_) (fun s13 g13 H=>?_)
   ·refine ab (aw (ab (aa ?_)));refine aR tk (zn j13) (bj (fun _=>rfl) hx13) ?_;refine ah tk rfl ?_;refine ba tk fun b20=>?_
    refine aq tk ?_;refine ac ?_;refine iL (tag:=25) rfl (fun ho25=>?_);refine iL (tag:=72) rfl (fun ho72=>?_);refine iL (tag:=95) rfl (fun ho95=>?_);refine bn tk mok ⟨true,false,[81,87]⟩ [0,1,2,3,4,5,6,7,8,9,10,11] rfl (by decide+kernel) rfl (aN 2 rfl (bK ?_));refine aN 3 rfl ?_
    obtain⟨x86,k86,H⟩:=br H
    refine bE k86.1 (aM (fun _=>rfl) k86.2) ?_;refine bN rfl ?_
    obtain⟨x88,h88,H⟩:=av H
    have s88:=uY rA x13 cols x86 _ h88;refine aY Tryz.call216 (iX.r) s88 ?_;refine bN rfl ?_
    obtain⟨x90,h90,H⟩:=av H
    have k90:=cf h90;refine jz (rows2':=List.map ae ([x88]:Rq)) (rows':=List.map ae x90) tk rfl rfl rfl rfl rfl rfl rfl rfl rfl rfl rfl rfl rfl rfl (fW.refl _) (dl k90.1) (dg k90.2.1) (dh k90.2.2) fun g90=>?_
    refine bN rfl (bm (aH (be 2 tk rfl ?_)));exact bl g90 H hl13 hg13
   refine cS 18 rfl rfl rfl (aa (af 2 tk rfl (bX tk (rows':=List.map (am 69 ae) ([s13]:Rz)) (fW.refl _) ?_)))
   obtain⟨x95,h95,H⟩:=av H
   have k95:=cf h95;refine cg (rows2':=List.map (am 69 ae) ([s13]:Rz)) (rows':=List.map (am 69 ae) x95) tk rfl rfl rfl rfl rfl rfl rfl rfl rfl rfl rfl rfl rfl (fW.refl _) (dl k95.1) (dg k95.2.1) (dh k95.2.2) fun g95=>?_
   refine ah tk rfl (ac (aH (be 2 tk rfl ?_)));exact bl g95 H hl10 hg10 (Gh.le (ay (ay (ay (ay (ay (ay (ay (bG (PLe.q (pD hz10 hl10)) bg)))))))) aK (bd (bd aL)))
  have hn10:=rMd (natGe hz10 h) hr10;refine bs rfl ?_;refine aS s10 g10 hn10 Gh.d
 have H:=dM hn10 Hp10;refine ao 2 tk rfl (cS 8 rfl rfl rfl ?_);exact aW tk H rfl
def fQ(a:Rq)(b:Rq)(c0:LRun)(c1:List LCol)(c2:LQuery):Option (Int):=
 ag (dJ c0 c1 a c2.exprs) fun x13=>
 ag (dJ c0 c1 b c2.exprs) fun x19=>
 ag (iJ x13 x19 c2.descending) fun x22=>
 some x22
theorem tc(a:Rq)(b:Rq)(c0:LRun)(c1:List LCol)(c2:LQuery)(r:Int)(H:fQ a b c0 c1 c2=some r):
  aJ Tryz.prog 218 [(.list 69 (a.map ae)),(.list 69 (b.map ae)),(.ptr (dX c0)),(.ptr [(.list 93 (c1.map aF))]),(.ptr (aO c2))] (al r):=by
 unfold fQ at H;refine PH.au Tryz.func218 Tryz.ntmps218 ?_;refine ao 1 tk rfl (ab (bn tk mok ⟨false,false,[]⟩ [0,1,2,3,4,6,7,8,9,10,12,13,5,11,14,15] rfl (by decide+kernel) rfl (aN 12 rfl ?_)))
 obtain⟨x13,h13,H⟩:=av H
 have s13:=kI c0 c1 a c2.exprs _ h13;refine aY Tryz.call167 (iX.r) s13 ?_
 obtain⟨x19,h19,H⟩:=av H
 have s19:=kI c0 c1 b c2.exprs _ h19;refine aY Tryz.call167 (iX.r) s19 ?_
 obtain⟨x22,h22,H⟩:=av H
 have s22:=sK x13 x19 c2.descending _ h22;refine aY Tryz.call219 (iX.r) s22 ?_;refine bN rfl (bm ?_);exact aW tk H rfl
end
end Go.Proofs.YtafdcemcgfbhcaaGreatDoor
