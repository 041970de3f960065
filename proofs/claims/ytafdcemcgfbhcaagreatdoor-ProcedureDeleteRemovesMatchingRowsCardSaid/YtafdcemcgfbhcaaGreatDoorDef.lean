/- procedureDeleteRemovesMatchingRows_holds, part 6: the layer, the plain functions and what they compute; conditions as in the statement. -/
import Derived.Test.YtafdcemcgfbhcaaGreatDoorDee
set_option maxHeartbeats 4000000
namespace Go.Proofs.YtafdcemcgfbhcaaGreatDoor
noncomputable section
open Go Go.Ab
attribute [local irreducible] V Ao Do Gh Eff PH IntKind.wrap
set_option maxRecDepth 4000
def fg(rec158:LChecker→LQuery→Option ((List LCol)×Int))(c:LChecker)(q:LQuery):Option ((List LCol)×Int):=
 ag (lq q) fun x16=>
 cond (!x16)
  (some ([],3))
  (ag (aG (σ:=List (List LCol)) (ρ:=((List LCol)×Int)) (fun(_:Nat) (x1:LQuery) (s1:List (List LCol))=>
   ag (rec158 c x1) fun x28=>
   cond (x28.2 !=(0:Int))
    (some (.ret ([],x28.2)))
    (ag (db 24 s1 ([x28.1]:List (List LCol))) fun(x37:List (List LCol))=>
    some (.next x37))) 0 q.inputs []) fun fl1=>fl1.thenR fun(s1:List (List LCol))=>
  ag (iH c q s1) fun x43=>
  cond (x43.2 !=(0:Int))
   (some ([],x43.2))
   (cond (decide ((x43.1.length:Int)>(20:Int)))
    (some ([],2))
    (ag (aG (σ:=Unit) (ρ:=((List LCol)×Int)) (fun(j2:Nat) (x2:LCol) (_:Unit)=>
     ag (mX x43.1 0 (j2:Int)) fun(x61:List LCol)=>
     ag (cd x61 (fun a0=>some (co a0 x2))) fun x63=>
     cond x63
      (some (.ret ([],23)))
      (some (.next ()))) 0 x43.1 ()) fun fl2=>fl2.thenR fun(_:Unit)=>
    some (x43.1,0))))
theorem pT(rec158:LChecker→LQuery→Option ((List LCol)×Int))(hrec158:∀a0 a1 r,rec158 a0 a1=some r→aJ Tryz.prog 158 [(.agg (eA a0)),(.agg (aO a1))] (.tup [(.list 93 (r.1.map aF)),(al r.2)]))(c:LChecker)(q:LQuery)(r:(List LCol)×Int)(H:fg rec158 c q=some r):
  aJ Tryz.prog 158 [(.agg (eA c)),(.agg (aO q))] (.tup [(.list 93 (r.1.map aF)),(al r.2)]):=by
 unfold fg at H;refine PH.au Tryz.func158 Tryz.ntmps158 ?_;refine ab (aa (aC ?_));refine aC ?_;refine af 2 tk rfl (ac (ab (ab (aa (ah tk rfl ?_)))))
 obtain⟨x16,h16,H⟩:=av H
 have s16:=W_query_shape q _ h16;refine ak Tryz.call206 (iX.r) s16 ?_;refine ah tk rfl (ac ?_);refine aE rfl H (fun H=>?_) (fun H=>?_)
 ·refine ao 2 tk rfl ?_;obtain rfl:=ax H;refine aZ tk rfl (ps:=[(.val (.slice none 0 0)),(al 3)]) ⟨_,_,rfl,rfl,_,_,rfl,rfl,rfl⟩ (PLe.of2 (pj.tup (jg.cons (pj.nil tk rfl) (jg.cons (pj.of_eq rfl) jg.nil))))
 refine ap (ao 1 tk rfl (ab (ab (aa (af 2 tk rfl (az tk (zl _) ?_))))));refine ah tk rfl (ac (iw tk 6 37 (e:=61) rfl rfl ?_));refine dS (γ:=OwnRef) tk 21 20 19 (fun s1 g1=>upd (upd (upd (fun _=>.any) 6 (.own 37 g1 (s1.map (am 93 aF)).length)) 3 (.ptr (aO q))) 2 (.ptr (eA c))) nB (fun s1 g1=>upd (fun _=>none) 37 (some ⟨g1,61,(s1.map (am 93 aF)),true⟩)) (⟨none,0⟩) H (fun fl1 Hp1 j1 s1 g1 hz1 hl1 x1 fb1 hx1 H hg1=>?_) (fun s1 g1 H=>?_)
 ·refine ab (aw (ab (aa (aR tk (zn j1) (bj dr hx1) ?_))));refine ah tk rfl ?_;refine ba tk fun b8=>?_
  refine aq tk ?_;refine ac (ab (aa (ah tk rfl (aA tk ?_))))
  obtain⟨x28,h28,H⟩:=av H
  have s28:=hrec158 c x1 _ h28;refine ak Tryz.call158 (iX.r) s28 ?_;refine af 5 tk rfl (ac (ab (ao 2 tk rfl ?_)));refine aE rfl H (fun H=>?_) (fun H=>?_)
  ·refine ao 3 tk rfl ?_;obtain rfl:=ax H;have e1:fl1= .ret _:=hg1;subst e1;obtain rfl:=aQ Hp1;refine aZ tk rfl (ps:=[(.val (.slice none 0 0)),(al x28.2)]) ⟨_,_,rfl,rfl,_,_,rfl,rfl,rfl⟩ (PLe.of2 (pj.tup (jg.cons (pj.nil tk rfl) (jg.cons (pj.of_eq rfl) jg.nil))))
  refine ap (aa (af 2 tk rfl (bX tk (rows':=List.map (am 93 aF) ([x28.1]:List (List LCol))) (fW.refl _) ?_)))
  obtain⟨x37,h37,H⟩:=av H
  have k37:=cf h37;refine cg (rows2':=List.map (am 93 aF) ([x28.1]:List (List LCol))) (rows':=List.map (am 93 aF) x37) tk rfl rfl rfl rfl rfl rfl rfl rfl rfl rfl rfl rfl rfl (fW.refl _) (dl k37.1) (dg k37.2.1) (dh k37.2.2) fun g37=>?_
  refine ah tk rfl (ac (aH (be 2 tk rfl ?_)));exact bl g37 H hl1 hg1
 refine ab (cS 6 rfl rfl rfl (aa (af 3 tk rfl ?_)))
 obtain⟨x43,h43,H⟩:=av H
 have s43:=sM c q s1 _ h43;refine ak Tryz.call207 (iX.r) s43 ?_;refine af 5 tk rfl (ac (ab (ao 2 tk rfl ?_)));refine aE rfl H (fun H=>?_) (fun H=>?_)
 ·refine ao 3 tk rfl ?_;obtain rfl:=ax H;refine aZ tk rfl (ps:=[(.val (.slice none 0 0)),(al x43.2)]) ⟨_,_,rfl,rfl,_,_,rfl,rfl,rfl⟩ (PLe.of2 (pj.tup (jg.cons (pj.nil tk rfl) (jg.cons (pj.of_eq rfl) jg.nil))))
 refine ap (ab (ab (aa (ah tk rfl (az tk (zl _) ?_)))));refine ah tk rfl (ac ?_);refine aE rfl H (fun H=>?_) (fun H=>?_)
 ·refine ao 2 tk rfl ?_;obtain rfl:=ax H;refine aZ tk rfl (ps:=[(.val (.slice none 0 0)),(al 2)]) ⟨_,_,rfl,rfl,_,_,rfl,rfl,rfl⟩ (PLe.of2 (pj.tup (jg.cons (pj.nil tk rfl) (jg.cons (pj.of_eq rfl) jg.nil))))
 refine ap (ab (ab (aa (ah tk rfl (az tk (zl _) ?_)))));refine ah tk rfl (ac ?_);refine dS tk 54 53 52 (fun s2 g2=>upd (fun _=>.any) 11 (.list 93 (x43.1.map aF))) nB nO () H (fun fl2 Hp2 j2 s2 g2 hz2 hl2 x2 fb2 hx2 H hg2=>?_) (fun s2 g2 H=>?_)
 ·refine ab (aw (ab (aa (ah tk rfl ?_))));refine aR tk (zn j2) (bj (fun _=>rfl) hx2) ?_;refine ah tk rfl ?_;refine ba tk fun b14=>?_
  refine ah tk rfl (aq tk ?_);refine ac (ab (aa (af 2 tk rfl ?_)))
  obtain⟨x61,h61,H⟩:=av H
  have k61:=oP h61;refine vk tk rfl rfl rfl rfl rfl (zl _) rfl rfl k61.1 (ql k61.2) rfl (dc (Gh.freezeB 14 rfl rfl rfl rfl) (ah tk rfl ?_))
  obtain⟨x63,h63,H⟩:=av H
  have s63:=kD x61 (fun a0=>some (co a0 x2)) Tryz.call209 (fun a0 r h=>(ax h)▸pq a0 x2) _ h63;refine ak Tryz.call208 (iX.r) s63 ?_;refine ac ?_;refine aE rfl H (fun H=>?_) (fun H=>?_)
  ·refine ao 2 tk rfl ?_;obtain rfl:=ax H;have e2:fl2= .ret _:=hg2;subst e2;obtain rfl:=aQ Hp2;refine aZ tk rfl (ps:=[(.val (.slice none 0 0)),(al 23)]) ⟨_,_,rfl,rfl,_,_,rfl,rfl,rfl⟩ (PLe.of2 (pj.tup (jg.cons (pj.nil tk rfl) (jg.cons (pj.of_eq rfl) jg.nil))))
  refine ap (aH (be 2 tk rfl ?_));exact bl () H hl2 hg2
 refine ao 3 tk rfl ?_;exact aW tk H rfl
def ff:Nat→LChecker→LQuery→Option ((List LCol)×Int)
 |0,_,_=>none
 |n+1,v0,v1=>fg (fun b0 b1=>ff n b0 b1) v0 v1
theorem qg  (n:Nat):(∀a0 a1 r,ff n a0 a1=some r→aJ Tryz.prog 158 [(.agg (eA a0)),(.agg (aO a1))] (.tup [(.list 93 (r.1.map aF)),(al r.2)])):=by
 induction n with
 |zero=>exact(by intros;rename_i h;exact absurd (show(none:Option _)=some _ from h) (by simp))
 |succ n ih=>
  exact(fun v0 v1 r h=>pT (fun b0 b1=>ff n b0 b1) ih v0 v1  r h)
def fh(c:LChecker)(q:LQuery):Option ((List LCol)×Int):=jl fun n=>ff n c q
theorem mf(c:LChecker)(q:LQuery)(r:(List LCol)×Int)(H:fh c q=some r):
  aJ Tryz.prog 158 [(.agg (eA c)),(.agg (aO q))] (.tup [(.list 93 (r.1.map aF)),(al r.2)]):=by
 obtain⟨n,h⟩:=jD H
 exact(qg  n) c q r h
def iP(sA:LSchema)(inst:List LRelation)(changes:List LChange):Option ((List LRelation)×Int):=
 ag (eg sA) fun x19=>
 cond (x19 !=(0:Int))
  (some ([],x19))
  (ag (cr sA inst) fun x25=>
  cond (x25 !=(0:Int))
   (some ([],x25))
   (cond (decide ((changes.length:Int)>(24:Int)))
    (some ([],2))
    (ag (gO inst) fun x33=>
    ag (aG (σ:=List LRelation) (ρ:=((List LRelation)×Int)) (fun(_:Nat) (x1:LChange) (s1:List LRelation)=>
     ag (iA sA x1) fun x42=>
     cond (x42 !=(0:Int))
      (some (.ret ([],x42)))
      (ag (cT sA x1.table) fun x50=>
      ag (getI sA.tables x50.1) fun(x56:LTable)=>
      cond (x1.kind==(1:Int))
       (none)
       (ag (getI s1 x50.1) fun(x87:LRelation)=>
       ag (iy x56 x87.rows x1.key) fun x92=>
       ag (getI s1 x50.1) fun(x95:LRelation)=>
       letP (s1.set x50.1.toNat (LRelation.mk x95.table x92.1)) fun(y4:List LRelation)=>
       cond (!x92.2)
        (some (.ret ([],9)))
        (some (.next y4))))) 0 changes x33) fun fl1=>fl1.thenR fun(s1:List LRelation)=>
    some (s1,0))))
theorem rc(sA:LSchema)(inst:List LRelation)(changes:List LChange)(r:(List LRelation)×Int)(H:iP sA inst changes=some r):
  aJ Tryz.prog 15 [(.agg (bJ sA)),(.list 86 (inst.map aI)),(.list 56 (changes.map aV))] (.tup [(.list 86 (r.1.map aI)),(al r.2)]):=by
 unfold iP at H;refine PH.au Tryz.func15 Tryz.ntmps15 ?_;refine ab (aa (aC ?_));refine af 2 tk rfl (ac (ab (ab (aa (ah tk rfl ?_)))))
 obtain⟨x19,h19,H⟩:=av H
 have s19:=mg sA _ h19;refine ak Tryz.call37 (iX.r) s19 ?_;refine ah tk rfl (ac (ao 2 tk rfl ?_));refine aE rfl H (fun H=>?_) (fun H=>?_)
 ·refine ao 3 tk rfl ?_;obtain rfl:=ax H;refine aZ tk rfl (ps:=[(.val (.slice none 0 0)),(al x19)]) ⟨_,_,rfl,rfl,_,_,rfl,rfl,rfl⟩ (PLe.of2 (pj.tup (jg.cons (pj.nil tk rfl) (jg.cons (pj.of_eq rfl) jg.nil))))
 refine ap (ab (ab (aa (af 2 tk rfl ?_))))
 obtain⟨x25,h25,H⟩:=av H
 have s25:=iM sA inst _ h25;refine ak Tryz.call38 (iX.r) s25 ?_;refine ah tk rfl (ac (ao 2 tk rfl ?_));refine aE rfl H (fun H=>?_) (fun H=>?_)
 ·refine ao 3 tk rfl ?_;obtain rfl:=ax H;refine aZ tk rfl (ps:=[(.val (.slice none 0 0)),(al x25)]) ⟨_,_,rfl,rfl,_,_,rfl,rfl,rfl⟩ (PLe.of2 (pj.tup (jg.cons (pj.nil tk rfl) (jg.cons (pj.of_eq rfl) jg.nil))))
 refine ap (ab (ab (aa (ah tk rfl (az tk (zl _) ?_)))));refine ah tk rfl (ac ?_);refine aE rfl H (fun H=>?_) (fun H=>?_)
 ·refine ao 2 tk rfl ?_;obtain rfl:=ax H;refine aZ tk rfl (ps:=[(.val (.slice none 0 0)),(al 2)]) ⟨_,_,rfl,rfl,_,_,rfl,rfl,rfl⟩ (PLe.of2 (pj.tup (jg.cons (pj.nil tk rfl) (jg.cons (pj.of_eq rfl) jg.nil))))
 refine ap (ab (aa (ah tk rfl ?_)))
 obtain⟨x33,h33,H⟩:=av H
 have s33:=pV (m:=33) inst _ h33;refine jG Tryz.call29 (iX.r) s33 (fun g33=>?_);refine ah tk rfl (ac (ab (ab (aa (ah tk rfl (az tk (zl _) ?_))))));refine ah tk rfl (ac ?_);refine dS (γ:=OwnRef) tk 36 35 34 (fun s1 g1=>upd (upd (fun _=>.any) 10 (.own 33 g1 (s1.map aI).length)) 3 (.ptr (bJ sA))) nB (fun s1 g1=>upd (fun _=>none) 33 (some ⟨g1,86,(s1.map aI),true⟩)) g33 H (fun fl1 Hp1 j1 s1 g1 hz1 hl1 x1 fb1 hx1 H hg1=>?_) (fun s1 g1 H=>?_)
 ·refine ab (aw (ab (aa ?_)));refine aR tk (zn j1) (bj (fun _=>rfl) hx1) ?_;refine ah tk rfl ?_;refine ba tk fun b12=>?_
  refine aq tk ?_;refine ac (ab (ab (aa (ah tk rfl (aA tk ?_)))))
  obtain⟨x42,h42,H⟩:=av H
  have s42:=un sA x1 _ h42;refine ak Tryz.call46 (iX.r) s42 ?_;refine ah tk rfl (ac (ao 2 tk rfl ?_));refine aE rfl H (fun H=>?_) (fun H=>?_)
  ·refine ao 3 tk rfl ?_;obtain rfl:=ax H;have e1:fl1= .ret _:=hg1;subst e1;obtain rfl:=aQ Hp1;refine aZ tk rfl (ps:=[(.val (.slice none 0 0)),(al x42)]) ⟨_,_,rfl,rfl,_,_,rfl,rfl,rfl⟩ (PLe.of2 (pj.tup (jg.cons (pj.nil tk rfl) (jg.cons (pj.of_eq rfl) jg.nil))))
  refine ap (ab (aa (af 2 tk rfl (aA tk ?_))))
  obtain⟨x50,h50,H⟩:=av H
  have s50:=gS sA x1.table _ h50;refine ak Tryz.call28 (iX.r) s50 ?_;refine af 5 tk rfl (ac (ab (aa (af 3 tk rfl ?_))))
  obtain⟨x56,k56,H⟩:=br H
  refine aR tk k56.1 (aM (fun _=>rfl) k56.2) ?_;refine ah tk rfl ?_;refine ba tk fun b16=>?_
  refine aq tk ?_;refine ac (ab (ab (aa (ah tk rfl (aA tk ?_)))));refine ah tk rfl (ac ?_);refine aE rfl H (fun H=>?_) (fun H=>?_)
  ·cases H
  refine ap (ao 1 tk rfl (ab ?_));refine iL (tag:=33) rfl (fun ho33=>?_);refine qJ 12 rfl rfl rfl rfl (qJ 16 rfl rfl rfl rfl (bn tk mok ⟨false,true,[84,91]⟩ [0,1,2,3,4,5,6,7,8,9,10,11,12,13,14,15,16,17] rfl (by decide+kernel) rfl (aN 5 rfl ?_)))
  obtain⟨x87,k87,H⟩:=br H
  refine cU tk ⟨k87.1,(dB k87.2)⟩ (dK ho33 k87.2) ?_;refine bN rfl ?_;refine fG tk rfl rfl rfl rfl rfl rfl rfl rfl rfl (aM (fun _=>rfl) k87.2) rfl rfl ?_;refine aN 2 rfl ?_
  obtain⟨x92,h92,H⟩:=av H
  have s92:=ud x56 x87.rows x1.key _ h92;refine aY Tryz.call48 (iX.r) s92 ?_;refine aN 3 rfl ?_
  obtain⟨x95,k95,H⟩:=br H
  refine cU tk ⟨k95.1,(dB k95.2)⟩ (dK ho33 k95.2) ?_;refine bN rfl ?_
  obtain⟨y4,hy4,H⟩:=cp H
  refine jd tk rfl rfl rfl rfl rfl rfl rfl rfl rfl (by rw[zl];exact(zg.1 k95.2).1) (PLe.refl _ _) rfl rfl rfl rfl (by decide) (fo (fun _=>rfl) k95.2 rfl hy4) ?_;refine bN rfl (bm (ao 2 tk rfl ?_));refine aE rfl H (fun H=>?_) (fun H=>?_)
  ·refine ao 2 tk rfl ?_;obtain rfl:=ax H;have e1:fl1= .ret _:=hg1;subst e1;obtain rfl:=aQ Hp1;refine aZ tk rfl (ps:=[(.val (.slice none 0 0)),(al 9)]) ⟨_,_,rfl,rfl,_,_,rfl,rfl,rfl⟩ (PLe.of2 (pj.tup (jg.cons (pj.nil tk rfl) (jg.cons (pj.of_eq rfl) jg.nil))))
  refine ap (aH (be 2 tk rfl ?_));exact bl g1 H hl1 hg1 (Gh.le (ay (ay (bG (PLe.q (eV (by omega))) (ay (bG (PLe.of2 (pj.of_eq (congrArg (PV.own 33 g1) (eQ (f:=aI) hy4)))) bg))))) aK (bd aL))
 refine ao 3 tk rfl (cS 6 rfl rfl rfl ?_);exact aW tk H rfl
def fR(rA:LRun)(q:LQuery)(cols:List LCol)(inA:Rz):Option (Rz):=
 ag (cQ inA (fun a0 a1=>fQ a0 a1 rA cols q)) fun x14=>
 ag (eY (x14.length=inA.length) ()) fun(_:Unit)=>
 some x14
theorem uM(rA:LRun)(q:LQuery)(cols:List LCol)(inA:Rz)(r:Rz)(H:fR rA q cols inA=some r):
  aJ Tryz.prog 169 [(.agg (dX rA)),(.agg (aO q)),(.list 93 (cols.map aF)),(.list 54 (inA.map (am 69 ae)))] (.list 54 (r.map (am 69 ae))):=by
 unfold fR at H;refine PH.au Tryz.func169 Tryz.ntmps169 ?_;refine ab (aa (aC ?_));refine aC ?_;refine aC ?_;refine ah tk rfl (ac (ab (aa (ah tk rfl ?_))));have s11:=qF (m:=11) inA;refine jG Tryz.call160 (iX.r) s11 (fun g11=>?_);refine ah tk rfl (ac (ab (aa (af 2 tk rfl ?_))))
 obtain⟨x14,h14,H⟩:=av H
 have s14:=ld g11 inA (fun a0 a1=>fQ a0 a1 rA cols q) Tryz.call218 (fun a0 a1 r h=>tc a0 a1 rA cols q r h) _ h14
 obtain⟨_,q14_0,H⟩:=av H
 have l14_0:=(dH q14_0).1;have z14_0:(List.map (am 69 ae) inA).length=(List.map (am 69 ae) x14).length:=by simpa using(l14_0).symm
 refine dw (g:=217) rfl rfl rfl Tryz.call217 [] [(11,0)] rfl rfl rfl rfl (iX.of2 (jg.cons (pj.own rfl) (jg.cons (pj.of_eq rfl) jg.nil))) (by rw[cE,bU,cD];rfl) s14 ?_;rintro u14 H14h ⟨rfl,rfl⟩
 refine⟨_,rfl,?_⟩
 refine dc (st':=⟨_,_,fun _=>none,upd (fun _=>none) 11 (some ⟨g11,54,(x14.map (am 69 ae)),true⟩)⟩) (Gh.le (cj _ _) aK (bd aL)) ?_;refine ac (ao 2 tk rfl (cS 8 rfl rfl z14_0 ?_));exact aW tk H rfl
def gD(sA:LSchema)(vars:List LCol)(q:LQuery):Option ((List LCol)×Int):=
 ag (
  ag (kh q) fun x12=>
  cond (decide ((x12.length:Int)>(24:Int)))
   (some true)
   (ag (ll q) fun x17=>
   cond (decide (x17>(12:Int)))
    (some true)
    (ag (gw q) fun x22=>
    some (decide (x22>(20000:Int)))))) fun(t1:Bool)=>
 cond t1
  (some ([],2))
  (ag (eC q) fun x27=>
  cond (x27.2 !=(0:Int))
   (some ([],x27.2))
   (ag (fh (LChecker.mk sA vars) q) fun x38=>
   some (x38.1,x38.2)))
theorem nQ(sA:LSchema)(vars:List LCol)(q:LQuery)(r:(List LCol)×Int)(H:gD sA vars q=some r):
  aJ Tryz.prog 103 [(.agg (bJ sA)),(.list 93 (vars.map aF)),(.agg (aO q))] (.tup [(.list 93 (r.1.map aF)),(al r.2)]):=by
 unfold gD at H;refine PH.au Tryz.func103 Tryz.ntmps103 ?_;refine ab (aa (aC ?_));refine aC ?_;refine af 2 tk rfl (ac (ab (ab ?_)));refine ew (γ:=Unit) (fun t1 g1=>⟨41,upd (upd (upd (upd (fun _=>.any) 24 (aB t1)) 5 (.ptr (aO q))) 3 (.ptr (bJ sA))) 1 (.list 93 (vars.map aF)),fun _=>none,fun _=>none⟩) H (fun _ H=>?_) (fun t1 g1 H=>?_)
 ·refine aa (ah tk rfl ?_)
  obtain⟨x12,h12,H⟩:=av H
  have s12:=sC (m:=12) q _ h12;refine ak Tryz.call93 (iX.r) (PFun.hX s12) ?_;refine az tk (zl _) ?_;refine af 2 tk rfl ?_;refine bh rfl rfl rfl H (fun H=>?_) (fun H=>?_)
  ·refine af 9 tk rfl (ac ?_);refine aS _ () (ax H) Gh.d
  refine ah tk rfl ?_
  obtain⟨x17,h17,H⟩:=av H
  have s17:=W_query_depth q _ h17;refine ak Tryz.call156 (iX.r) s17 ?_;refine af 3 tk rfl ?_;refine bh rfl rfl rfl H (fun H=>?_) (fun H=>?_)
  ·refine af 4 tk rfl (ac ?_);refine aS _ () (ax H) Gh.d
  refine ah tk rfl ?_
  obtain⟨x22,h22,H⟩:=av H
  have s22:=oM q _ h22;refine ak Tryz.call157 (iX.r) s22 ?_;refine af 2 tk rfl (ac ?_);refine aS _ () (ax H) Gh.d
 refine aE rfl H (fun H=>?_) (fun H=>?_)
 ·refine ao 2 tk rfl ?_;obtain rfl:=ax H;refine aZ tk rfl (ps:=[(.val (.slice none 0 0)),(al 2)]) ⟨_,_,rfl,rfl,_,_,rfl,rfl,rfl⟩ (PLe.of2 (pj.tup (jg.cons (pj.nil tk rfl) (jg.cons (pj.of_eq rfl) jg.nil))))
 refine ap (ab (ab (aa (ah tk rfl ?_))))
 obtain⟨x27,h27,H⟩:=av H
 have s27:=kC q _ h27;refine ak Tryz.call91 (iX.r) s27 ?_;refine af 5 tk rfl (ac (ao 2 tk rfl ?_));refine aE rfl H (fun H=>?_) (fun H=>?_)
 ·refine ao 3 tk rfl ?_;obtain rfl:=ax H;refine aZ tk rfl (ps:=[(.val (.slice none 0 0)),(al x27.2)]) ⟨_,_,rfl,rfl,_,_,rfl,rfl,rfl⟩ (PLe.of2 (pj.tup (jg.cons (pj.nil tk rfl) (jg.cons (pj.of_eq rfl) jg.nil))))
 refine ap (ab (aa (af 3 tk rfl ?_)));refine ba tk fun b10=>?_
 refine aq tk ?_;refine ac (ab (aa (aA tk ?_)));refine ah tk rfl ?_
 obtain⟨x38,h38,H⟩:=av H
 have s38:=mf (LChecker.mk sA vars) q _ h38;refine ak Tryz.call158 (iX.r) s38 ?_;refine af 4 tk rfl (ac ?_);exact aW tk H rfl
def gX(rA:LProcedureRun)(c:LChange):Option (Int×LProcedureRun):=
 cond ((rA.changes.length:Int)==(24:Int))
  (some (2,rA))
  (ag (iP rA.s rA.st ([c]:List LChange)) fun x24=>
  cond (x24.2 !=(0:Int))
   (some (x24.2,rA))
   (ag (db 72 rA.changes ([c]:List LChange)) fun(x39:List LChange)=>
   some (0,(LProcedureRun.mk rA.s x24.1 rA.args rA.vars rA.vals x39 rA.results rA.left rA.stopped))))
theorem rd(b_rA:Nat)(g_rA_7:OwnRef)(g_rA_8:OwnRef)(rA:LProcedureRun)(c:LChange)(r:Int×LProcedureRun)(H:gX rA c=some r):
  PH Tryz.prog 128 [(.box 1500 b_rA 0),(.agg (aV c))] ⟨upd (fun _=>none) 1500 (some ⟨b_rA,[(.list 95 (rA.s.tables.map bc)),(.list 145 (rA.s.foreignKeys.map ct)),(.list 151 (rA.s.constraints.map cF)),(.list 86 (rA.st.map aI)),(.list 69 (rA.args.map ae)),(.list 93 (rA.vars.map aF)),(.list 69 (rA.vals.map ae)),(.own 1607 g_rA_7 (rA.changes.map aV).length),(.own 1608 g_rA_8 (rA.results.map aU).length),(al rA.left),(aB rA.stopped)]⟩),upd (upd (fun _=>none) 1608 (some ⟨g_rA_8,64,(rA.results.map aU),true⟩)) 1607 (some ⟨g_rA_7,56,(rA.changes.map aV),true⟩)⟩ (fun u H=>∃gz0_7,∃gz0_8,u=(al r.1)∧H=⟨upd (fun _=>none) 1500 (some ⟨b_rA,[(.list 95 (r.2.s.tables.map bc)),(.list 145 (r.2.s.foreignKeys.map ct)),(.list 151 (r.2.s.constraints.map cF)),(.list 86 (r.2.st.map aI)),(.list 69 (r.2.args.map ae)),(.list 93 (r.2.vars.map aF)),(.list 69 (r.2.vals.map ae)),(.own 1607 gz0_7 (r.2.changes.map aV).length),(.own 1608 gz0_8 (r.2.results.map aU).length),(al r.2.left),(aB r.2.stopped)]⟩),upd (upd (fun _=>none) 1608 (some ⟨gz0_8,64,(r.2.results.map aU),true⟩)) 1607 (some ⟨gz0_7,56,(r.2.changes.map aV),true⟩)⟩):=by
 unfold gX at H;refine PH.au Tryz.func128 Tryz.ntmps128 ?_;refine ab (aa (aC ?_));refine ah tk rfl (ac (ab (ab (aa (af 3 tk rfl (aA tk ?_))))));refine jp tk (zl _) ?_;refine ah tk rfl (ac ?_);refine aE rfl H (fun H=>?_) (fun H=>?_)
 ·refine ao 1 tk rfl ?_;obtain rfl:=ax H;refine eR (st':=⟨44,upd (fun _=>.any) 4 (al 2),upd (fun _=>none) 1500 (some ⟨b_rA,[(.list 95 (rA.s.tables.map bc)),(.list 145 (rA.s.foreignKeys.map ct)),(.list 151 (rA.s.constraints.map cF)),(.list 86 (rA.st.map aI)),(.list 69 (rA.args.map ae)),(.list 93 (rA.vars.map aF)),(.list 69 (rA.vals.map ae)),(.own 1607 g_rA_7 (rA.changes.map aV).length),(.own 1608 g_rA_8 (rA.results.map aU).length),(al rA.left),(aB rA.stopped)]⟩),upd (upd (fun _=>none) 1608 (some ⟨g_rA_8,64,(rA.results.map aU),true⟩)) 1607 (some ⟨g_rA_7,56,(rA.changes.map aV),true⟩)⟩) (Gh.le (ay bg) (bi rfl (iX.r) aK) (bd (bd aL))) ?_;refine gV tk rfl (ps:=[(al 2)]) ⟨_,_,rfl,rfl,rfl⟩ (PLe.q rfl) ⟨_,_,rfl,rfl⟩
 refine ap (ab (bn tk mok ⟨true,false,[22]⟩ [0,1,2,3,4,5,6,7,8,9,10,11,12,13,14,15] rfl (by decide+kernel) rfl (aN 3 rfl (bK ?_))));refine aN 3 rfl (bK ?_);refine aN 2 rfl ?_
 obtain⟨x24,h24,H⟩:=av H
 have s24:=rc rA.s rA.st ([c]:List LChange) _ h24;refine aY Tryz.call15 (iX.r) s24 ?_;refine aN 5 rfl (bm (ab (ao 2 tk rfl ?_)));refine aE rfl H (fun H=>?_) (fun H=>?_)
 ·refine ao 2 tk rfl ?_;obtain rfl:=ax H;refine eR (st':=⟨44,upd (fun _=>.any) 4 (al x24.2),upd (fun _=>none) 1500 (some ⟨b_rA,[(.list 95 (rA.s.tables.map bc)),(.list 145 (rA.s.foreignKeys.map ct)),(.list 151 (rA.s.constraints.map cF)),(.list 86 (rA.st.map aI)),(.list 69 (rA.args.map ae)),(.list 93 (rA.vars.map aF)),(.list 69 (rA.vals.map ae)),(.own 1607 g_rA_7 (rA.changes.map aV).length),(.own 1608 g_rA_8 (rA.results.map aU).length),(al rA.left),(aB rA.stopped)]⟩),upd (upd (fun _=>none) 1608 (some ⟨g_rA_8,64,(rA.results.map aU),true⟩)) 1607 (some ⟨g_rA_7,56,(rA.changes.map aV),true⟩)⟩) (Gh.le (ay bg) (bi rfl (iX.r) aK) (bd (bd aL))) ?_;refine gV tk rfl (ps:=[(al x24.2)]) ⟨_,_,rfl,rfl,rfl⟩ (PLe.q rfl) ⟨_,_,rfl,rfl⟩
 refine ap (ab (bn tk mok ⟨true,false,[37]⟩ [0,1,2,3,4,5,6,7,8,9,10,11,12,13,14,15] rfl (by decide+kernel) rfl (aN 6 rfl (bK ?_))));refine aN 2 rfl ?_
 obtain⟨x39,h39,H⟩:=av H
 have k39:=cf h39;refine jz (rows2':=List.map aV ([c]:List LChange)) (rows':=List.map aV x39) tk rfl rfl rfl rfl rfl rfl rfl rfl rfl rfl rfl rfl rfl rfl (fW.refl _) (dl k39.1) (dg k39.2.1) (dh k39.2.2) fun g39=>?_
 refine aN 2 rfl (jX rfl rfl rfl rfl rfl rfl rfl rfl rfl rfl rfl rfl (aN 2 rfl (jX rfl rfl rfl rfl rfl rfl rfl rfl rfl rfl rfl rfl (bm (ao 1 tk rfl ?_)))));obtain rfl:=ax H;refine eR (st':=⟨44,upd (fun _=>.any) 4 (al 0),upd (fun _=>none) 1500 (some ⟨b_rA,[(.list 95 ((((LProcedureRun.mk rA.s x24.1 rA.args rA.vars rA.vals x39 rA.results rA.left rA.stopped).s).tables).map bc)),(.list 145 ((((LProcedureRun.mk rA.s x24.1 rA.args rA.vars rA.vals x39 rA.results rA.left rA.stopped).s).foreignKeys).map ct)),(.list 151 ((((LProcedureRun.mk rA.s x24.1 rA.args rA.vars rA.vals x39 rA.results rA.left rA.stopped).s).constraints).map cF)),(.list 86 (((LProcedureRun.mk rA.s x24.1 rA.args rA.vars rA.vals x39 rA.results rA.left rA.stopped).st).map aI)),(.list 69 (((LProcedureRun.mk rA.s x24.1 rA.args rA.vars rA.vals x39 rA.results rA.left rA.stopped).args).map ae)),(.list 93 (((LProcedureRun.mk rA.s x24.1 rA.args rA.vars rA.vals x39 rA.results rA.left rA.stopped).vars).map aF)),(.list 69 (((LProcedureRun.mk rA.s x24.1 rA.args rA.vars rA.vals x39 rA.results rA.left rA.stopped).vals).map ae)),(.own 1607 g39 (x39.map aV).length),(.own 1608 g_rA_8 (rA.results.map aU).length),(al ((LProcedureRun.mk rA.s x24.1 rA.args rA.vars rA.vals x39 rA.results rA.left rA.stopped).left)),(aB ((LProcedureRun.mk rA.s x24.1 rA.args rA.vars rA.vals x39 rA.results rA.left rA.stopped).stopped))]⟩),upd (upd (fun _=>none) 1608 (some ⟨g_rA_8,64,(rA.results.map aU),true⟩)) 1607 (some ⟨g39,56,(x39.map aV),true⟩)⟩) (Gh.le (ay bg) (bi rfl (iX.r) aK) (bd (bd aL))) ?_;refine gV tk rfl (ps:=[(al 0)]) ⟨_,_,rfl,rfl,rfl⟩ (PLe.q rfl) ⟨_,_,rfl,rfl⟩
def gJ(rA:LRun)(q:LQuery):Option ((List LCol)):=
 ag (fh (LChecker.mk rA.s rA.vars) q) fun x14=>
 some x14.1
theorem mL(rA:LRun)(q:LQuery)(r:(List LCol))(H:gJ rA q=some r):
  aJ Tryz.prog 162 [(.agg (dX rA)),(.agg (aO q))] (.list 93 (r.map aF)):=by
 unfold gJ at H;refine PH.au Tryz.func162 Tryz.ntmps162 ?_;refine ab (aa (aC ?_));refine aC ?_;refine ah tk rfl (ac (ab (aa (af 6 tk rfl ?_))))
 obtain⟨x14,h14,H⟩:=av H
 have s14:=mf (LChecker.mk rA.s rA.vars) q _ h14;refine ak Tryz.call158 (iX.r) s14 ?_;refine af 5 tk rfl (ac (ao 2 tk rfl ?_));exact aW tk H rfl
def gc(c:LProcedureChecker)(vars:List LCol)(sA:LProcedureStatement):Option ((List LCol)×Int):=
 cond (sA.kind==(1:Int))
  (none)
  (cond (sA.kind==(2:Int))
   (none)
   (letP (
    cond (sA.kind==(3:Int))
     ((sA.kind==(3:Int)))
     ((sA.kind==(7:Int)))) fun(t1:Bool)=>
   cond t1
    (none)
    (letP (
     cond (sA.kind==(4:Int))
      ((sA.kind==(4:Int)))
      (cond (sA.kind==(5:Int))
       ((sA.kind==(5:Int)))
       ((sA.kind==(6:Int))))) fun(t2:Bool)=>
    cond t2
     (ag (hM c vars sA) fun x144=>
     some (vars,x144))
     (none))))
theorem qj(c:LProcedureChecker)(vars:List LCol)(sA:LProcedureStatement)(r:(List LCol)×Int)(H:gc c vars sA=some r):
  aJ Tryz.prog 82 [(.agg (ce c)),(.list 93 (vars.map aF)),(.agg (aP sA))] (.tup [(.list 93 (r.1.map aF)),(al r.2)]):=by
 unfold gc at H;refine PH.au Tryz.func82 Tryz.ntmps82 ?_;refine ab (aa (aC ?_));refine aC ?_;refine af 2 tk rfl (ac (ab (ao 2 tk rfl (aw (ao 2 tk rfl ?_)))));refine aE rfl H (fun H=>?_) (fun H=>?_)
 ·cases H
 refine ao 2 tk rfl ?_;refine aE rfl H (fun H=>?_) (fun H=>?_)
 ·cases H
 refine ab (ao 2 tk rfl ?_);refine eM (γ:=Unit) (fun t1 g1=>⟨146,upd (upd (upd (upd (upd (fun _=>.any) 89 (aB t1)) 23 (al sA.kind)) 5 (.ptr (aP sA))) 3 (.ptr (ce c))) 1 (.list 93 (vars.map aF)),fun _=>none,fun _=>none⟩) H (fun _ H=>?_) (fun t1 g1 H=>?_)
 ·refine aE rfl H (fun H=>?_) (fun H=>?_)
  ·refine ap ?_;refine aS _ () H Gh.d
  refine be 2 tk rfl ?_;refine aS _ () H Gh.d
 refine aE rfl H (fun H=>?_) (fun H=>?_)
 ·cases H
 refine ab (ao 2 tk rfl ?_);refine eM (γ:=Unit) (fun t2 g2=>⟨146,upd (upd (upd (upd (fun _=>.any) 136 (aB t2)) 5 (.ptr (aP sA))) 3 (.ptr (ce c))) 1 (.list 93 (vars.map aF)),fun _=>none,fun _=>none⟩) H (fun _ H=>?_) (fun t2 g2 H=>?_)
 ·refine aE rfl H (fun H=>?_) (fun H=>?_)
  ·refine ap ?_;refine aS _ () H Gh.d
  refine ao 2 tk rfl ?_;refine aE rfl H (fun H=>?_) (fun H=>?_)
  ·refine ap ?_;refine aS _ () H Gh.d
  refine be 2 tk rfl ?_;refine aS _ () H Gh.d
 refine aE rfl H (fun H=>?_) (fun H=>?_)
 ·refine ab (aa (af 4 tk rfl ?_))
  obtain⟨x144,h144,H⟩:=av H
  have s144:=pK c vars sA _ h144;refine ak Tryz.call121 (iX.r) s144 ?_;refine af 2 tk rfl (ac ?_);exact aW tk H rfl
 cases H
def iu(c:LProcedureChecker)(vars:List LCol)(l:List LProcedureStatement):Option ((List LCol)×Int):=
 ag (aG (σ:=List LCol) (ρ:=((List LCol)×Int)) (fun(_:Nat) (x1:LProcedureStatement) (s1:List LCol)=>
  ag (ju x1) fun x18=>
  cond (!x18)
   (some (.ret ([],3)))
   (ag (gc c s1 x1) fun x24=>
   cond (x24.2 !=(0:Int))
    (some (.ret ([],x24.2)))
    (some (.next x24.1)))) 0 l vars) fun fl1=>fl1.thenR fun(s1:List LCol)=>
 some (s1,0)
theorem qv(c:LProcedureChecker)(vars:List LCol)(l:List LProcedureStatement)(r:(List LCol)×Int)(H:iu c vars l=some r):
  aJ Tryz.prog 42 [(.agg (ce c)),(.list 93 (vars.map aF)),(.list 40 (l.map aT))] (.tup [(.list 93 (r.1.map aF)),(al r.2)]):=by
 unfold iu at H;refine PH.au Tryz.func42 Tryz.ntmps42 ?_;refine ab (aa (aC ?_));refine af 2 tk rfl (ac (ab (ab (aa (ah tk rfl (az tk (zl _) ?_))))));refine ah tk rfl (ac ?_);refine dS tk 13 12 11 (fun s1 g1=>upd (upd (fun _=>.any) 3 (.ptr (ce c))) 1 (.list 93 (s1.map aF))) nB nO () H (fun fl1 Hp1 j1 s1 g1 hz1 hl1 x1 fb1 hx1 H hg1=>?_) (fun s1 g1 H=>?_)
 ·refine ab (aw (ab (aa (aR tk (zn j1) (bj eS hx1) ?_))));refine ah tk rfl ?_;refine ba tk fun b9=>?_
  refine aq tk ?_;refine ac (ab (ab (aa (aA tk ?_))))
  obtain⟨x18,h18,H⟩:=av H
  have s18:=uj x1 _ h18;refine ak Tryz.call81 (iX.r) s18 ?_;refine ah tk rfl (ac ?_);refine aE rfl H (fun H=>?_) (fun H=>?_)
  ·refine ao 2 tk rfl ?_;obtain rfl:=ax H;have e1:fl1= .ret _:=hg1;subst e1;obtain rfl:=aQ Hp1;refine aZ tk rfl (ps:=[(.val (.slice none 0 0)),(al 3)]) ⟨_,_,rfl,rfl,_,_,rfl,rfl,rfl⟩ (PLe.of2 (pj.tup (jg.cons (pj.nil tk rfl) (jg.cons (pj.of_eq rfl) jg.nil))))
  refine ap (ao 1 tk rfl (ab (aa (af 2 tk rfl (aA tk ?_)))))
  obtain⟨x24,h24,H⟩:=av H
  have s24:=qj c s1 x1 _ h24;refine ak Tryz.call82 (iX.r) s24 ?_;refine af 5 tk rfl (ac (ao 2 tk rfl ?_));refine aE rfl H (fun H=>?_) (fun H=>?_)
  ·refine ao 3 tk rfl ?_;obtain rfl:=ax H;have e1:fl1= .ret _:=hg1;subst e1;obtain rfl:=aQ Hp1;refine aZ tk rfl (ps:=[(.val (.slice none 0 0)),(al x24.2)]) ⟨_,_,rfl,rfl,_,_,rfl,rfl,rfl⟩ (PLe.of2 (pj.tup (jg.cons (pj.nil tk rfl) (jg.cons (pj.of_eq rfl) jg.nil))))
  refine ap (aH (be 2 tk rfl ?_));exact bl () H hl1 hg1
 refine ao 3 tk rfl ?_;exact aW tk H rfl
def it(rA:LProcedureRun)(sA:LProcedureStatement):Option (Int×LProcedureRun):=
 ag (bZ rA.s.tables (fun a0=>some (fD a0 sA))) fun x22=>
 ag (getI rA.s.tables x22) fun(x29:LTable)=>
 ag (getI rA.st x22) fun(x36:LRelation)=>
 ag (aG (σ:=LProcedureRun) (ρ:=(Int×LProcedureRun)) (fun(_:Nat) (x1:Rq) (s1:LProcedureRun)=>
  ag (getI sA.whereF 0) fun(x50:LExpr)=>
  ag (ie s1 x29.columns x1 x50) fun x52=>
  letP (gU x52.1) fun x53=>
  cond (!x53)
   (some (.next x52.2))
   (ag (aG (σ:=Rq) (ρ:=Empty) (fun(_:Nat) (x4:Int) (s4:Rq)=>
    ag (getI x1 x4) fun(x69:LVal)=>
    ag (db 32 s4 ([x69]:Rq)) fun(x72:Rq)=>
    some (.next x72)) 0 x29.primaryKey []) fun fl4=>fl4.thenP fun(s4:Rq)=>
   cond (sA.kind==(5:Int))
    (none)
    (ag (gX x52.2 (LChange.mk 2 sA.table s4 [])) fun x108=>
    cond (x108.1 !=(0:Int))
     (some (.ret (x108.1,x108.2)))
     (some (.next x108.2))))) 0 x36.rows rA) fun fl1=>fl1.thenR fun(s1:LProcedureRun)=>
 some (0,s1)
theorem sg(b_rA:Nat)(g_rA_7:OwnRef)(g_rA_8:OwnRef)(rA:LProcedureRun)(sA:LProcedureStatement)(r:Int×LProcedureRun)(H:it rA sA=some r):
  PH Tryz.prog 129 [(.box 1500 b_rA 0),(.agg (aP sA))] ⟨upd (fun _=>none) 1500 (some ⟨b_rA,[(.list 95 (rA.s.tables.map bc)),(.list 145 (rA.s.foreignKeys.map ct)),(.list 151 (rA.s.constraints.map cF)),(.list 86 (rA.st.map aI)),(.list 69 (rA.args.map ae)),(.list 93 (rA.vars.map aF)),(.list 69 (rA.vals.map ae)),(.own 1607 g_rA_7 (rA.changes.map aV).length),(.own 1608 g_rA_8 (rA.results.map aU).length),(al rA.left),(aB rA.stopped)]⟩),upd (upd (fun _=>none) 1608 (some ⟨g_rA_8,64,(rA.results.map aU),true⟩)) 1607 (some ⟨g_rA_7,56,(rA.changes.map aV),true⟩)⟩ (fun u H=>∃gz0_7,∃gz0_8,u=(al r.1)∧H=⟨upd (fun _=>none) 1500 (some ⟨b_rA,[(.list 95 (r.2.s.tables.map bc)),(.list 145 (r.2.s.foreignKeys.map ct)),(.list 151 (r.2.s.constraints.map cF)),(.list 86 (r.2.st.map aI)),(.list 69 (r.2.args.map ae)),(.list 93 (r.2.vars.map aF)),(.list 69 (r.2.vals.map ae)),(.own 1607 gz0_7 (r.2.changes.map aV).length),(.own 1608 gz0_8 (r.2.results.map aU).length),(al r.2.left),(aB r.2.stopped)]⟩),upd (upd (fun _=>none) 1608 (some ⟨gz0_8,64,(r.2.results.map aU),true⟩)) 1607 (some ⟨gz0_7,56,(r.2.changes.map aV),true⟩)⟩):=by
 unfold it at H;refine PH.au Tryz.func129 Tryz.ntmps129 ?_;refine ab (aa (aC ?_));refine ah tk rfl (ac (ab (aa (af 4 tk rfl (aA tk ?_)))));refine ah tk rfl ?_
 obtain⟨x22,h22,H⟩:=av H
 have s22:=dR rA.s.tables (fun a0=>some (fD a0 sA)) Tryz.call185 (fun a0 r h=>(ax h)▸qW a0 sA) _ h22;refine ak Tryz.call55 (iX.r) s22 ?_;refine ah tk rfl (ac (ab (aa (af 4 tk rfl (aA tk ?_)))));refine ah tk rfl ?_
 obtain⟨x29,k29,H⟩:=br H
 refine aR tk k29.1 (aM (fun _=>rfl) k29.2) ?_;refine ah tk rfl ?_;refine ba tk fun b6=>?_
 refine aq tk ?_;refine ac (ab (ab (aa (af 3 tk rfl (aA tk ?_)))));refine ah tk rfl ?_
 obtain⟨x36,k36,H⟩:=br H
 refine aR tk k36.1 (aM (fun _=>rfl) k36.2) ?_;refine af 2 tk rfl (az tk (zl _) ?_);refine ah tk rfl (ac (qJ 6 rfl rfl rfl rfl ?_));refine dS (γ:=OwnRef×OwnRef) tk 40 39 38 (fun s1 g1=>upd (upd (upd (fun _=>.any) 6 (.ptr (bc x29))) 3 (.ptr (aP sA))) 0 (.box 1500 b_rA 0)) (fun s1 g1=>upd (fun _=>none) 1500 (some ⟨b_rA,[(.list 95 (s1.s.tables.map bc)),(.list 145 (s1.s.foreignKeys.map ct)),(.list 151 (s1.s.constraints.map cF)),(.list 86 (s1.st.map aI)),(.list 69 (s1.args.map ae)),(.list 93 (s1.vars.map aF)),(.list 69 (s1.vals.map ae)),(.own 1607 g1.1 (s1.changes.map aV).length),(.own 1608 g1.2 (s1.results.map aU).length),(al s1.left),(aB s1.stopped)]⟩)) (fun s1 g1=>upd (upd (fun _=>none) 1608 (some ⟨g1.2,64,(s1.results.map aU),true⟩)) 1607 (some ⟨g1.1,56,(s1.changes.map aV),true⟩)) (g_rA_7,g_rA_8) H (fun fl1 Hp1 j1 s1 g1 hz1 hl1 x1 fb1 hx1 H hg1=>?_) (fun s1 g1 H=>?_)
 ·refine ab (aw (ab (aa ?_)));refine aR tk (zn j1) (bj (fun _=>rfl) hx1) ?_;refine af 2 tk rfl (ac (ab (ab (bn tk mok ⟨false,false,[999997]⟩ [0,1,2,3,4,5,6,7,8,9,10] rfl (by decide+kernel) rfl (aN 6 rfl ?_)))))
  obtain⟨x50,k50,H⟩:=br H
  refine bE k50.1 (aM cx k50.2) ?_;refine bN rfl ?_
  obtain⟨x52,h52,H⟩:=av H
  have s52:=sk b_rA g1.1 g1.2 s1 x29.columns x1 x50 _ h52;refine vK (g:=124) rfl rfl rfl rfl Tryz.call124 rfl rfl [(1500,1500)] [(1607,1607),(1608,1608)] rfl rfl rfl rfl (iX.of2 (jg.cons pj.boxT (jg.cons (pj.of_eq rfl) (jg.cons (pj.of_eq rfl) (jg.cons (pj.of_eq rfl) jg.nil))))) (by rw[eu,cE,bU,bU,cD];rfl) s52 ?_;rintro u52 H52h ⟨gz52_1607,gz52_1608,rfl,rfl⟩
  refine⟨_,rfl,?_⟩
  obtain⟨x53,h53,H⟩:=cp H
  have s53:=isTS x52.1;rw[h53]at s53;refine aY Tryz.call125 (iX.r) s53 ?_;refine bN rfl (bm ?_);refine eR (st':=⟨_,_,upd (fun _=>none) 1500 (some ⟨b_rA,[(.list 95 (x52.2.s.tables.map bc)),(.list 145 (x52.2.s.foreignKeys.map ct)),(.list 151 (x52.2.s.constraints.map cF)),(.list 86 (x52.2.st.map aI)),(.list 69 (x52.2.args.map ae)),(.list 93 (x52.2.vars.map aF)),(.list 69 (x52.2.vals.map ae)),(.own 1607 gz52_1607 (x52.2.changes.map aV).length),(.own 1608 gz52_1608 (x52.2.results.map aU).length),(al x52.2.left),(aB x52.2.stopped)]⟩),upd (upd (fun _=>none) 1608 (some ⟨gz52_1608,64,(x52.2.results.map aU),true⟩)) 1607 (some ⟨gz52_1607,56,(x52.2.changes.map aV),true⟩)⟩) (Gh.le (cj _ _) (bi rfl (iX.r) aK) (bd (bd aL))) ?_;refine aE rfl H (fun H=>?_) (fun H=>?_)
  ·refine bs rfl (be 2 tk rfl ?_);exact bl (gz52_1607,gz52_1608) H hl1 hg1
  refine ap (ab (aa (af 3 tk rfl ?_)));refine ba tk fun b9=>?_
  refine aq tk ?_;refine ac (ab (ab (aa (af 2 tk rfl (az tk (zl _) ?_)))));refine ah tk rfl (ac (pR tk 9 2 72 (e:=69) rfl rfl rfl rfl ?_));refine gn (γ:=OwnRef) tk 61 60 59 (fun s4 g4=>upd (upd (upd (upd (upd (upd (upd (upd (fun _=>.any) 40 (al (j1:Int))) 39 (al (x36.rows.length:Int))) 38 (.list 54 (x36.rows.map (am 69 ae)))) 9 (.box 9 b9 0)) 8 (.list 69 (x1.map ae))) 6 (.ptr (bc x29))) 3 (.ptr (aP sA))) 0 (.box 1500 b_rA 0)) (fun s4 g4=>upd (upd (fun _=>none) 1500 (some ⟨b_rA,[(.list 95 (x52.2.s.tables.map bc)),(.list 145 (x52.2.s.foreignKeys.map ct)),(.list 151 (x52.2.s.constraints.map cF)),(.list 86 (x52.2.st.map aI)),(.list 69 (x52.2.args.map ae)),(.list 93 (x52.2.vars.map aF)),(.list 69 (x52.2.vals.map ae)),(.own 1607 gz52_1607 (x52.2.changes.map aV).length),(.own 1608 gz52_1608 (x52.2.results.map aU).length),(al x52.2.left),(aB x52.2.stopped)]⟩)) 9 (some ⟨b9,[(al 2),(.str sA.table),(.own 72 g4 (s4.map ae).length),(.val (.slice none 0 0))]⟩)) (fun s4 g4=>upd (upd (upd (fun _=>none) 72 (some ⟨g4,69,(s4.map ae),true⟩)) 1608 (some ⟨gz52_1608,64,(x52.2.results.map aU),true⟩)) 1607 (some ⟨gz52_1607,56,(x52.2.changes.map aV),true⟩)) (⟨none,0⟩) H (fun fl4 Hp4 j4 s4 g4 hz4 hl4 x4 fb4 hx4 H hg4=>?_) (fun s4 g4 H=>?_)
  ·refine ab (aw (ab (aa ?_)));refine aR tk (zn j4) (bj (fun _=>rfl) hx4) ?_;refine af 2 tk rfl (ac ?_);refine iL (tag:=1607) rfl (fun ho1607=>?_);refine iL (tag:=1608) rfl (fun ho1608=>?_);refine iL (tag:=72) rfl (fun ho72=>?_);refine bn tk mok ⟨true,false,[70]⟩ [0,1,2,3,4,5,6,7,8,9] rfl (by decide+kernel) rfl (bN rfl (bK ?_));refine aN 2 rfl ?_
   obtain⟨x69,k69,H⟩:=br H
   refine bE k69.1 (aM (fun _=>rfl) k69.2) ?_;refine aN 2 rfl ?_
   obtain⟨x72,h72,H⟩:=av H
   have k72:=cf h72;refine jz (rows2':=List.map ae ([x69]:Rq)) (rows':=List.map ae x72) tk rfl rfl rfl rfl rfl rfl rfl rfl rfl rfl rfl rfl rfl rfl (fW.refl _) (dl k72.1) (dg k72.2.1) (dh k72.2.2) fun g72=>?_
   refine bN rfl (jX rfl rfl rfl rfl rfl rfl rfl rfl rfl rfl rfl rfl (bm (aH (be 2 tk rfl ?_))));exact bl g72 H hl4 hg4
  refine ab (ao 3 tk rfl ?_);refine aE rfl H (fun H=>?_) (fun H=>?_)
  ·cases H
  refine ap (ab (nA 9 2 rfl rfl rfl rfl rfl (aa (ah tk rfl (aA tk ?_)))))
  obtain⟨x108,h108,H⟩:=av H
  have s108:=rd b_rA gz52_1607 gz52_1608 x52.2 (LChange.mk 2 sA.table s4 []) _ h108;refine dw (g:=128) rfl rfl rfl Tryz.call128 [(1500,1500)] [(1607,1607),(1608,1608)] rfl rfl rfl rfl (iX.of2 (jg.cons pj.boxT (jg.cons (pj.agg (jg.cons (pj.of_eq rfl) (jg.cons (pj.of_eq rfl) (jg.cons (pj.of_eq rfl) (jg.cons (pj.nil tk rfl) jg.nil))))) jg.nil))) (by rw[eu,cE,bU,bU,cD];rfl) s108 ?_;rintro u108 H108h ⟨gz108_1607,gz108_1608,rfl,rfl⟩
  refine⟨_,rfl,?_⟩
  refine dc (st':=⟨_,_,upd (upd (fun _=>none) 1500 (some ⟨b_rA,[(.list 95 (x108.2.s.tables.map bc)),(.list 145 (x108.2.s.foreignKeys.map ct)),(.list 151 (x108.2.s.constraints.map cF)),(.list 86 (x108.2.st.map aI)),(.list 69 (x108.2.args.map ae)),(.list 93 (x108.2.vars.map aF)),(.list 69 (x108.2.vals.map ae)),(.own 1607 gz108_1607 (x108.2.changes.map aV).length),(.own 1608 gz108_1608 (x108.2.results.map aU).length),(al x108.2.left),(aB x108.2.stopped)]⟩)) 9 (some ⟨b9,[(al 2),(.str sA.table),(.list 69 (s4.map ae)),(.val (.slice none 0 0))]⟩),upd (upd (upd (fun _=>none) 72 (some ⟨g4,69,(s4.map ae),false⟩)) 1608 (some ⟨gz108_1608,64,(x108.2.results.map aU),true⟩)) 1607 (some ⟨gz108_1607,56,(x108.2.changes.map aV),true⟩)⟩) (Gh.le (cj _ _) (bi rfl (iX.r) (bi rfl (iX.r) aK)) (bd (bd (bd aL)))) ?_;refine ah tk rfl (ac (ao 2 tk rfl ?_));refine aE rfl H (fun H=>?_) (fun H=>?_)
  ·refine ao 2 tk rfl ?_;obtain rfl:=ax H;have e1:fl1= .ret _:=hg1;subst e1;obtain rfl:=aQ Hp1;refine eR (st':=⟨113,upd (fun _=>.any) 4 (al x108.1),upd (fun _=>none) 1500 (some ⟨b_rA,[(.list 95 (x108.2.s.tables.map bc)),(.list 145 (x108.2.s.foreignKeys.map ct)),(.list 151 (x108.2.s.constraints.map cF)),(.list 86 (x108.2.st.map aI)),(.list 69 (x108.2.args.map ae)),(.list 93 (x108.2.vars.map aF)),(.list 69 (x108.2.vals.map ae)),(.own 1607 gz108_1607 (x108.2.changes.map aV).length),(.own 1608 gz108_1608 (x108.2.results.map aU).length),(al x108.2.left),(aB x108.2.stopped)]⟩),upd (upd (fun _=>none) 1608 (some ⟨gz108_1608,64,(x108.2.results.map aU),true⟩)) 1607 (some ⟨gz108_1607,56,(x108.2.changes.map aV),true⟩)⟩) (Gh.le (ay bg) (bi rfl (iX.r) aK) (bd (bd aL))) ?_;refine gV tk rfl (ps:=[(al x108.1)]) ⟨_,_,rfl,rfl,rfl⟩ (PLe.q rfl) ⟨_,_,rfl,rfl⟩
  refine ap (aH (be 2 tk rfl ?_));exact bl (gz108_1607,gz108_1608) H hl1 hg1
 refine ao 1 tk rfl ?_;obtain rfl:=ax H;refine eR (st':=⟨113,upd (fun _=>.any) 4 (al 0),upd (fun _=>none) 1500 (some ⟨b_rA,[(.list 95 (s1.s.tables.map bc)),(.list 145 (s1.s.foreignKeys.map ct)),(.list 151 (s1.s.constraints.map cF)),(.list 86 (s1.st.map aI)),(.list 69 (s1.args.map ae)),(.list 93 (s1.vars.map aF)),(.list 69 (s1.vals.map ae)),(.own 1607 g1.1 (s1.changes.map aV).length),(.own 1608 g1.2 (s1.results.map aU).length),(al s1.left),(aB s1.stopped)]⟩),upd (upd (fun _=>none) 1608 (some ⟨g1.2,64,(s1.results.map aU),true⟩)) 1607 (some ⟨g1.1,56,(s1.changes.map aV),true⟩)⟩) (Gh.le (ay bg) (bi rfl (iX.r) aK) (bd (bd aL))) ?_;refine gV tk rfl (ps:=[(al 0)]) ⟨_,_,rfl,rfl,rfl⟩ (PLe.q rfl) ⟨_,_,rfl,rfl⟩
def mA(sA:LSchema)(q:LQuery):Option ((List LCol)×Int):=
 ag (gD sA ([]:List LCol) q) fun x8=>
 some (x8.1,x8.2)
theorem W_query_Check(sA:LSchema)(q:LQuery)(r:(List LCol)×Int)(H:mA sA q=some r):
  aJ Tryz.prog 90 [(.agg (bJ sA)),(.agg (aO q))] (.tup [(.list 93 (r.1.map aF)),(al r.2)]):=by
 unfold mA at H;refine PH.au Tryz.func90 Tryz.ntmps90 ?_;refine ab (aa (aC ?_));refine aC ?_;refine af 2 tk rfl (ac (ab (aa (af 2 tk rfl ?_))))
 obtain⟨x8,h8,H⟩:=av H
 have s8:=nQ sA ([]:List LCol) q _ h8;refine ak Tryz.call103 (iX.of2 (jg.cons (pj.of_eq rfl) (jg.cons (pj.nil tk rfl) (jg.cons (pj.of_eq rfl) jg.nil)))) s8 ?_;refine af 4 tk rfl (ac ?_);exact aW tk H rfl
def kY(rec104:LRun→LQuery→Option (Rz))(rec159:LRun→LQuery→Option (Rz))(rA:LRun)(q:LQuery):Option (Rz):=
 cond (q.kind==(1:Int))
  (ag (aG (σ:=Unit) (ρ:=(Rz)) (fun(_:Nat) (x1:LRelation) (_:Unit)=>
   cond (x1.table==q.table)
    (some (.ret x1.rows))
    (some (.next ()))) 0 rA.st ()) fun fl1=>fl1.thenR fun(_:Unit)=>
  some [])
  (letP (
   cond (q.kind==(4:Int))
    ((q.kind==(4:Int)))
    ((q.kind==(5:Int)))) fun(t2:Bool)=>
  cond t2
   (ag (rec159 rA q) fun x37=>
   some x37)
   (cond (q.kind==(6:Int))
    (ag (getI q.inputs 0) fun(x43:LQuery)=>
    ag (getI q.inputs 1) fun(x50:LQuery)=>
    ag (rec104 rA x43) fun x45=>
    ag (rec104 rA x50) fun x52=>
    ag (db 24 x45 x52) fun(x53:Rz)=>
    some x53)
    (cond (q.kind==(7:Int))
     (ag (getI q.inputs 0) fun(x59:LQuery)=>
     ag (getI q.inputs 1) fun(x65:LQuery)=>
     ag (rec104 rA x59) fun x61=>
     ag (rec104 rA x65) fun x67=>
     ag (lG x61 x67) fun x68=>
     some x68)
     (ag (getI q.inputs 0) fun(x72:LQuery)=>
     ag (rec104 rA x72) fun x74=>
     ag (getI q.inputs 0) fun(x78:LQuery)=>
     ag (gJ rA x78) fun x80=>
     cond (q.kind==(2:Int))
      (ag (dv x74 (fun a0=>iV a0 rA x80 q)) fun x88=>
      some x88)
      (cond (q.kind==(3:Int))
       (ag (aG (σ:=Rz) (ρ:=Empty) (fun(_:Nat) (x3:Rq) (s3:Rz)=>
        ag (dJ rA x80 x3 q.exprs) fun x103=>
        ag (db 24 s3 ([x103]:Rz)) fun(x105:Rz)=>
        some (.next x105)) 0 x74 []) fun fl3=>fl3.thenP fun(s3:Rz)=>
       some s3)
       (cond (q.kind==(8:Int))
        (ag (jw rA q x80 x74) fun x114=>
        some x114)
        (cond (q.kind==(9:Int))
         (ag (fR rA q x80 x74) fun x121=>
         some x121)
         (ag (mX x74 (if(x74.length:Int)<q.offset then(x74.length:Int)else q.offset) (IntKind.i64.wrap ((if(x74.length:Int)<q.offset then(x74.length:Int)else q.offset)+(if(IntKind.i64.wrap ((x74.length:Int)-(if(x74.length:Int)<q.offset then(x74.length:Int)else q.offset)))<q.count then(IntKind.i64.wrap ((x74.length:Int)-(if(x74.length:Int)<q.offset then(x74.length:Int)else q.offset)))else q.count)))) fun(x138:Rz)=>
         some x138))))))))
theorem uk(rec104:LRun→LQuery→Option (Rz))(rec159:LRun→LQuery→Option (Rz))(hrec104:∀a0 a1 r,rec104 a0 a1=some r→aJ Tryz.prog 104 [(.agg (dX a0)),(.agg (aO a1))] (.list 54 (r.map (am 69 ae))))(hrec159:∀a0 a1 r,rec159 a0 a1=some r→aJ Tryz.prog 159 [(.agg (dX a0)),(.agg (aO a1))] (.list 54 (r.map (am 69 ae))))(rA:LRun)(q:LQuery)(r:Rz)(H:kY rec104 rec159 rA q=some r):
  aJ Tryz.prog 104 [(.agg (dX rA)),(.agg (aO q))] (.list 54 (r.map (am 69 ae))):=by
 unfold kY at H;refine PH.au Tryz.func104 Tryz.ntmps104 ?_;refine ab (aa (aC ?_));refine aC ?_;refine ah tk rfl (ac (ab (ao 2 tk rfl (aw (ao 2 tk rfl ?_)))));refine aE rfl H (fun H=>?_) (fun H=>?_)
 ·refine ab (ab (aa (af 2 tk rfl (az tk (zl _) ?_))));refine ah tk rfl (ac ?_);refine dS tk 20 19 18 (fun s1 g1=>upd (fun _=>.any) 3 (.ptr (aO q))) nB nO () H (fun fl1 Hp1 j1 s1 g1 hz1 hl1 x1 fb1 hx1 H hg1=>?_) (fun s1 g1 H=>?_)
  ·refine ab (aw (ab (aa ?_)));refine aR tk (zn j1) (bj (fun _=>rfl) hx1) ?_;refine ah tk rfl ?_;refine ba tk fun b6=>?_
   refine aq tk ?_;refine ac (ab (aa (ah tk rfl (aA tk ?_))));refine af 3 tk rfl (ac ?_);refine aE rfl H (fun H=>?_) (fun H=>?_)
   ·refine ab (aa (ah tk rfl (aA tk ?_)));refine ah tk rfl (ac ?_);obtain rfl:=ax H;have e1:fl1= .ret _:=hg1;subst e1;obtain rfl:=aQ Hp1;refine aZ tk rfl (ps:=[(.list 54 (x1.rows.map (am 69 ae)))]) ⟨_,_,rfl,rfl,rfl⟩ (PLe.q rfl)
   refine ap (aH (be 2 tk rfl ?_));exact bl () H hl1 hg1
  refine ao 1 tk rfl ?_;obtain rfl:=ax H;refine aZ tk rfl (ps:=[(.val (.slice none 0 0))]) ⟨_,_,rfl,rfl,rfl⟩ (PLe.of2 (pj.nil tk rfl))
 refine ab (ao 2 tk rfl ?_);refine eM (γ:=Unit) (fun t2 g2=>⟨139,upd (upd (upd (upd (fun _=>.any) 32 (aB t2)) 14 (al q.kind)) 3 (.ptr (aO q))) 2 (.ptr (dX rA)),fun _=>none,fun _=>none⟩) H (fun _ H=>?_) (fun t2 g2 H=>?_)
 ·refine aE rfl H (fun H=>?_) (fun H=>?_)
  ·refine ap ?_;refine aS _ () H Gh.d
  refine be 2 tk rfl ?_;refine aS _ () H Gh.d
 refine aE rfl H (fun H=>?_) (fun H=>?_)
 ·refine ab (aa (af 2 tk rfl ?_))
  obtain⟨x37,h37,H⟩:=av H
  have s37:=hrec159 rA q _ h37;refine ak Tryz.call159 (iX.r) s37 ?_;refine ah tk rfl (ac ?_);exact aW tk H rfl
 refine ao 2 tk rfl ?_;refine aE rfl H (fun H=>?_) (fun H=>?_)
 ·refine ab (bn tk mok ⟨false,false,[]⟩ [0,1,2,3,4,7,8,9,10,11,5,6,12,13,14] rfl (by decide+kernel) rfl (aN 3 rfl ?_))
  obtain⟨x43,k43,H⟩:=br H
  refine bE k43.1 (aM dr k43.2) ?_;refine aN 4 rfl ?_
  obtain⟨x50,k50,H⟩:=br H
  refine bE k50.1 (aM dr k50.2) ?_;refine bN rfl ?_
  obtain⟨x45,h45,H⟩:=av H
  have s45:=hrec104 rA x43 _ h45;refine aY Tryz.call104 (iX.r) s45 ?_;have s46:=qF (m:=46) x45;refine vu (g:=160) rfl rfl rfl rfl Tryz.call160 (iX.r) rfl rfl s46 (fun g46=>?_)
  obtain⟨x52,h52,H⟩:=av H
  have s52:=hrec104 rA x50 _ h52;refine aY Tryz.call104 (iX.r) s52 ?_
  obtain⟨x53,h53,H⟩:=av H
  have k53:=cf h53;refine jz (rows2':=List.map (am 69 ae) x52) (rows':=List.map (am 69 ae) x53) tk rfl rfl rfl rfl rfl rfl rfl rfl rfl rfl rfl rfl rfl rfl (fW.refl _) (dl k53.1) (dg k53.2.1) (dh k53.2.2) fun g53=>?_
  refine bN rfl (bm (cS 4 rfl rfl rfl ?_));exact aW tk H rfl
 refine ao 2 tk rfl ?_;refine aE rfl H (fun H=>?_) (fun H=>?_)
 ·refine ab (bn tk mok ⟨false,false,[]⟩ [0,1,2,3,4,6,7,8,9,10,5,11,12,13] rfl (by decide+kernel) rfl (aN 3 rfl ?_))
  obtain⟨x59,k59,H⟩:=br H
  refine bE k59.1 (aM dr k59.2) ?_;refine aN 4 rfl ?_
  obtain⟨x65,k65,H⟩:=br H
  refine bE k65.1 (aM dr k65.2) ?_;refine bN rfl ?_
  obtain⟨x61,h61,H⟩:=av H
  have s61:=hrec104 rA x59 _ h61;refine aY Tryz.call104 (iX.r) s61 ?_
  obtain⟨x67,h67,H⟩:=av H
  have s67:=hrec104 rA x65 _ h67;refine aY Tryz.call104 (iX.r) s67 ?_
  obtain⟨x68,h68,H⟩:=av H
  have s68:=W_query_less x61 x67 _ h68;refine aY Tryz.call161 (iX.r) s68 ?_;refine bN rfl (bm ?_);exact aW tk H rfl
 refine ap (aH (ab (bn tk mok ⟨false,false,[]⟩ [0,1,2,3,4,5,6] rfl (by decide+kernel) rfl (aN 3 rfl ?_))))
 obtain⟨x72,k72,H⟩:=br H
 refine bE k72.1 (aM dr k72.2) ?_;refine bN rfl ?_
 obtain⟨x74,h74,H⟩:=av H
 have s74:=hrec104 rA x72 _ h74;refine aY Tryz.call104 (iX.r) s74 ?_;refine bN rfl (bm (ab (bn tk mok ⟨false,false,[]⟩ [0,1,2,3,4,5,6,7] rfl (by decide+kernel) rfl (aN 3 rfl ?_))))
 obtain⟨x78,k78,H⟩:=br H
 refine bE k78.1 (aM dr k78.2) ?_;refine bN rfl ?_
 obtain⟨x80,h80,H⟩:=av H
 have s80:=mL rA x78 _ h80;refine aY Tryz.call162 (iX.r) s80 ?_;refine nU rfl rfl rfl rfl rfl rfl rfl rfl fun b8=>?_
 refine jX rfl rfl rfl rfl rfl rfl rfl rfl rfl rfl rfl rfl (bm (ab (ao 2 tk rfl (aw (ao 2 tk rfl ?_)))));refine aE rfl H (fun H=>?_) (fun H=>?_)
 ·refine ab (aa (ah tk rfl ?_));have s86:=qF (m:=86) x74;refine jG Tryz.call160 (iX.r) s86 (fun g86=>?_);refine dc (Gh.freezeB 8 rfl rfl rfl rfl) (ah tk rfl ?_)
  obtain⟨x88,h88,H⟩:=av H
  have s88:=lM g86 x74 (fun a0=>iV a0 rA x80 q) Tryz.call164 (fun a0 r h=>te a0 rA x80 q r h) _ h88;refine dw (g:=163) rfl rfl rfl Tryz.call163 [] [(86,0)] rfl rfl rfl rfl (iX.of2 (jg.cons (pj.own rfl) (jg.cons (pj.of_eq rfl) jg.nil))) (by rw[cE,bU,cD];rfl) s88 ?_;rintro u88 H88h ⟨rfl,rfl⟩
  refine⟨_,rfl,?_⟩
  refine dc (st':=⟨_,_,fun _=>none,upd (fun _=>none) 86 (some ⟨g86,54,(x88.map (am 69 ae)),true⟩)⟩) (Gh.le (cj _ _) aK (bd aL)) ?_;refine ma 88 (q:=(.own 86 g86 (x88.map (am 69 ae)).length)) rfl (PLe.of2 (pj.own rfl)) (ah tk rfl (ac (cS 4 rfl rfl rfl ?_)));exact aW tk H rfl
 refine ao 2 tk rfl ?_;refine aE rfl H (fun H=>?_) (fun H=>?_)
 ·refine ao 1 tk rfl (ab (ab (aa (ah tk rfl (az tk (zl _) ?_)))));refine ah tk rfl (ac ?_)
  obtain⟨fl3,H3,Hp3⟩:=av H
  refine gR tk 91 rfl rfl (fun hz3 _=>?_);rw[zl]at hz3;refine fL (τ:=Rz) (γ:=OwnRef) (fun s3 g3=>⟨139,upd (upd (upd (fun _=>.any) 9 (.own 105 g3 (s3.map (am 69 ae)).length)) 3 (.ptr (aO q))) 2 (.ptr (dX rA)),fun _=>none,upd (fun _=>none) 105 (some ⟨g3,54,(s3.map (am 69 ae)),true⟩)⟩) (fun t=>fl3= .next t) ?_ (fun s3 g3 hn3=>?_)
  ·refine aw (iw tk 9 105 (e:=54) rfl rfl ?_);refine js (fun j3 s3 g3=>⟨139,upd (upd (upd (upd (upd (upd (upd (fun _=>.any) 93 (al (j3:Int))) 92 (al (x74.length:Int))) 91 (.list 54 (x74.map (am 69 ae)))) 9 (.own 105 g3 (s3.map (am 69 ae)).length)) 8 (.box 8 b8 0)) 3 (.ptr (aO q))) 2 (.ptr (dX rA)),upd (fun _=>none) 8 (some ⟨b8,[(.list 93 (x80.map aF))]⟩),upd (fun _=>none) 105 (some ⟨g3,54,(s3.map (am 69 ae)),true⟩)⟩) (⟨none,0⟩) H3 Gh.d (fun j3 s3 g3 hj3 hr3=>?_);refine ao 1 tk rfl (ab ?_);refine bt rfl (fun h=>?_) (fun h=>?_)
   ·have hl3:=pZ h
    obtain⟨x3,fb3,hx3,H,hg3⟩:=rMc hl3 hr3
    refine ap (ab (aw (ab (aa ?_))));refine aR tk (zn j3) (bj (fun _=>rfl) hx3) ?_;refine af 2 tk rfl (ac (aa (af 2 tk rfl (aA tk ?_))));refine af 3 tk rfl ?_
    obtain⟨x103,h103,H⟩:=av H
    have s103:=kI rA x80 x3 q.exprs _ h103;refine ak Tryz.call167 (iX.r) s103 ?_;refine bX tk (rows':=List.map (am 69 ae) ([x103]:Rz)) (fW.refl _) ?_
    obtain⟨x105,h105,H⟩:=av H
    have k105:=cf h105;refine cg (rows2':=List.map (am 69 ae) ([x103]:Rz)) (rows':=List.map (am 69 ae) x105) tk rfl rfl rfl rfl rfl rfl rfl rfl rfl rfl rfl rfl rfl (fW.refl _) (dl k105.1) (dg k105.2.1) (dh k105.2.2) fun g105=>?_
    refine ah tk rfl (ac (aH (be 2 tk rfl ?_)));exact bl g105 H hl3 hg3
   have hn3:=rMd (pW h) hr3;refine bs rfl ?_;refine aS s3 g3 hn3 Gh.d
  have H:=dM hn3 Hp3;refine ao 2 tk rfl (cS 4 rfl rfl rfl ?_);exact aW tk H rfl
 refine ao 2 tk rfl ?_;refine aE rfl H (fun H=>?_) (fun H=>?_)
 ·refine ab (aa (af 2 tk rfl (aA tk ?_)));refine ah tk rfl ?_
  obtain⟨x114,h114,H⟩:=av H
  have s114:=uh rA q x80 x74 _ h114;refine ak Tryz.call168 (iX.r) s114 ?_;refine ah tk rfl (ac ?_);exact aW tk H rfl
 refine ao 2 tk rfl ?_;refine aE rfl H (fun H=>?_) (fun H=>?_)
 ·refine ab (aa (af 2 tk rfl (aA tk ?_)));refine ah tk rfl ?_
  obtain⟨x121,h121,H⟩:=av H
  have s121:=uM rA q x80 x74 _ h121;refine ak Tryz.call169 (iX.r) s121 ?_;refine ah tk rfl (ac ?_);exact aW tk H rfl
 refine ap (aH (ab (aa (af 3 tk rfl (az tk (zl _) ?_)))));refine af 2 tk rfl (ac (ab (aa (af 6 tk rfl (az tk (zl _) ?_)))));refine af 4 tk rfl ?_
 obtain⟨x138,h138,H⟩:=av H
 have k138:=oP h138;refine vk tk rfl rfl rfl rfl rfl (zl _) rfl rfl k138.1 (ql k138.2) rfl (ah tk rfl (ac ?_));exact aW tk H rfl
def jW(rec104:LRun→LQuery→Option (Rz))(_rec159:LRun→LQuery→Option (Rz))(rA:LRun)(q:LQuery):Option (Rz):=
 ag (getI q.inputs 0) fun(x19:LQuery)=>
 ag (getI q.inputs 1) fun(x25:LQuery)=>
 ag (rec104 rA x19) fun x21=>
 ag (rec104 rA x25) fun x27=>
 ag (getI q.inputs 1) fun(x31:LQuery)=>
 ag (gJ rA x31) fun x33=>
 ag (getI q.inputs 0) fun(x37:LQuery)=>
 ag (gJ rA x37) fun x39=>
 ag (db 32 x39 x33) fun(x42:List LCol)=>
 ag (aG (σ:=List LCol×Rz) (ρ:=Empty) (fun(_:Nat) (x1:Rq) (s1:List LCol×Rz)=>
  ag (aG (σ:=Rz×Bool) (ρ:=Empty) (fun(_:Nat) (x6:Rq) (s6:Rz×Bool)=>
   ag (bS ([x1,x6]:Rz)) fun x58=>
   ag (getI q.exprs 0) fun(x65:LExpr)=>
   letP (bw rA s1.1 x58) fun x62=>
   letP (cn x62 x65) fun x67=>
   letP (gU x67) fun x68=>
   cond x68
    (ag (db 24 s6.1 ([x58]:Rz)) fun(x72:Rz)=>
    some (.next (x72,true)))
    (some (.next (s6.1,s6.2)))) 0 x27 (s1.2,false)) fun fl6=>fl6.thenP fun(s6:Rz×Bool)=>
  letP (
   cond (!s6.2)
    ((q.kind==(5:Int)))
    (false)) fun(t7:Bool)=>
  cond t7
   (ag (qL 32 (x33.length:Int)) fun(_:Unit)=>
   ag (bS ([x1,(List.replicate (x33.length:Int).toNat (LVal.mk 0 0 []))]:Rz)) fun x87=>
   ag (db 24 s6.1 ([x87]:Rz)) fun(x89:Rz)=>
   some (.next (s1.1,x89)))
   (some (.next (s1.1,s6.1)))) 0 x21 (x42,[])) fun fl1=>fl1.thenP fun(s1:List LCol×Rz)=>
 some s1.2
theorem us(rec104:LRun→LQuery→Option (Rz))(rec159:LRun→LQuery→Option (Rz))(hrec104:∀a0 a1 r,rec104 a0 a1=some r→aJ Tryz.prog 104 [(.agg (dX a0)),(.agg (aO a1))] (.list 54 (r.map (am 69 ae))))(_hrec159:∀a0 a1 r,rec159 a0 a1=some r→aJ Tryz.prog 159 [(.agg (dX a0)),(.agg (aO a1))] (.list 54 (r.map (am 69 ae))))(rA:LRun)(q:LQuery)(r:Rz)(H:jW rec104 rec159 rA q=some r):
  aJ Tryz.prog 159 [(.agg (dX rA)),(.agg (aO q))] (.list 54 (r.map (am 69 ae))):=by
 unfold jW at H;refine PH.au Tryz.func159 Tryz.ntmps159 ?_;refine ab (aa (aC ?_));refine aC ?_;refine ah tk rfl (ac (ab (bn tk mok ⟨false,false,[]⟩ [0,1,2,3,4,6,7,8,9,10,5,11,12,13] rfl (by decide+kernel) rfl (aN 3 rfl ?_))))
 obtain⟨x19,k19,H⟩:=br H
 refine bE k19.1 (aM dr k19.2) ?_;refine aN 4 rfl ?_
 obtain⟨x25,k25,H⟩:=br H
 refine bE k25.1 (aM dr k25.2) ?_;refine bN rfl ?_
 obtain⟨x21,h21,H⟩:=av H
 have s21:=hrec104 rA x19 _ h21;refine aY Tryz.call104 (iX.r) s21 ?_
 obtain⟨x27,h27,H⟩:=av H
 have s27:=hrec104 rA x25 _ h27;refine aY Tryz.call104 (iX.r) s27 ?_;refine aN 2 rfl (bm (ab (bn tk mok ⟨false,false,[]⟩ [0,1,2,3,4,5,6] rfl (by decide+kernel) rfl (aN 3 rfl ?_))))
 obtain⟨x31,k31,H⟩:=br H
 refine bE k31.1 (aM dr k31.2) ?_;refine bN rfl ?_
 obtain⟨x33,h33,H⟩:=av H
 have s33:=mL rA x31 _ h33;refine aY Tryz.call162 (iX.r) s33 ?_;refine bN rfl (bm (ab (bn tk mok ⟨false,false,[]⟩ [0,1,2,3,4,7,5,6,8,9] rfl (by decide+kernel) rfl (aN 3 rfl ?_))))
 obtain⟨x37,k37,H⟩:=br H
 refine bE k37.1 (aM dr k37.2) ?_;refine aN 2 rfl ?_
 obtain⟨x39,h39,H⟩:=av H
 have s39:=mL rA x37 _ h39;refine aY Tryz.call162 (iX.r) s39 ?_;have s40:=qO (m:=40) x39;refine vu (g:=176) rfl rfl rfl rfl Tryz.call176 (iX.r) rfl rfl s40 (fun g40=>?_)
 obtain⟨x42,h42,H⟩:=av H
 have k42:=cf h42;refine jz (rows2':=List.map aF x33) (rows':=List.map aF x42) tk rfl rfl rfl rfl rfl rfl rfl rfl rfl rfl rfl rfl rfl rfl (fW.refl _) (dl k42.1) (dg k42.2.1) (dh k42.2.2) fun g42=>?_
 refine bN rfl (bm (ao 1 tk rfl (ab (ab (aa (ah tk rfl (az tk (zl _) ?_)))))));refine ah tk rfl (ac (cS 8 rfl rfl rfl (iw tk 9 72 (e:=54) rfl rfl ?_)));refine vv (γ:=OwnRef) tk 43 rfl rfl (fun s1 g1=>upd (upd (upd (upd (upd (fun _=>.any) 9 (.own 72 g1 (s1.2.map (am 69 ae)).length)) 7 (.list 93 (x33.map aF))) 6 (.list 54 (x27.map (am 69 ae)))) 3 (.ptr (aO q))) 2 (.ptr (dX rA))) nB (fun s1 g1=>upd (fun _=>none) 72 (some ⟨g1,54,(s1.2.map (am 69 ae)),true⟩)) (fun e j1 s1 g1=>upd (upd (upd (upd e 45 (al (j1:Int))) 44 (al (x21.length:Int))) 43 (.list 54 (x21.map (am 69 ae)))) 8 (.list 93 (s1.1.map aF))) (⟨none,0⟩) H rfl Gh.d (fun _ _ _=>rfl) (fun _ _ _=>rfl) (fun _ _ _=>Gh.d) (fun fl1 Hp1 j1 s1 g1 hz1 hl1 x1 fb1 hx1 H hg1=>?_) (fun s1 g1 H=>?_)
 ·refine ab (aw (ab (aa ?_)));refine aR tk (zn j1) (bj (fun _=>rfl) hx1) ?_;refine af 2 tk rfl (ac (ao 1 tk rfl (ab (ab (aa (ah tk rfl (az tk (zl _) ?_)))))));refine ah tk rfl (ac ?_);refine gn (γ:=OwnRef) tk 51 50 49 (fun s6 g6=>upd (upd (upd (upd (upd (upd (upd (upd (upd (upd (upd (fun _=>.any) 45 (al (j1:Int))) 44 (al (x21.length:Int))) 43 (.list 54 (x21.map (am 69 ae)))) 12 (aB s6.2)) 11 (.list 69 (x1.map ae))) 9 (.own 72 g6 (s6.1.map (am 69 ae)).length)) 8 (.list 93 (s1.1.map aF))) 7 (.list 93 (x33.map aF))) 6 (.list 54 (x27.map (am 69 ae)))) 3 (.ptr (aO q))) 2 (.ptr (dX rA))) nB (fun s6 g6=>upd (fun _=>none) 72 (some ⟨g6,54,(s6.1.map (am 69 ae)),true⟩)) g1 H (fun fl6 Hp6 j6 s6 g6 hz6 hl6 x6 fb6 hx6 H hg6=>?_) (fun s6 g6 H=>?_)
  ·refine ab (aw (ab (aa ?_)));refine aR tk (zn j6) (bj (fun _=>rfl) hx6) ?_;refine af 2 tk rfl (ac (ab (aa (af 2 tk rfl (bX tk (rows':=List.map (am 69 ae) ([x1,x6]:Rz)) (fW.refl _) ?_)))))
   obtain⟨x58,h58,H⟩:=av H
   have s58:=jC (m:=58) ([x1,x6]:Rz) _ h58;refine ak Tryz.call210 (iX.r) (PFun.hX s58) ?_;refine ah tk rfl (ac (ab (bn tk mok ⟨false,false,[]⟩ [0,1,2,4,5,6,7,3,8,9] rfl (by decide+kernel) rfl (aN 5 rfl ?_))))
   obtain⟨x65,k65,H⟩:=br H
   refine bE k65.1 (aM cx k65.2) ?_;refine bN rfl ?_
   obtain⟨x62,h62,H⟩:=cp H
   have s62:=lF rA s1.1 x58;rw[h62]at s62;refine aY Tryz.call166 (iX.r) s62 ?_
   obtain⟨x67,h67,H⟩:=cp H
   have s67:=mT x62 x65;rw[h67]at s67;refine aY Tryz.call165 (iX.r) s67 ?_
   obtain⟨x68,h68,H⟩:=cp H
   have s68:=isTS x67;rw[h68]at s68;refine aY Tryz.call125 (iX.r) s68 ?_;refine bm ?_;refine aE rfl H (fun H=>?_) (fun H=>?_)
   ·refine ab (aa (af 2 tk rfl (bX tk (rows':=List.map (am 69 ae) ([x58]:Rz)) (fW.refl _) ?_)))
    obtain⟨x72,h72,H⟩:=av H
    have k72:=cf h72;refine cg (rows2':=List.map (am 69 ae) ([x58]:Rz)) (rows':=List.map (am 69 ae) x72) tk rfl rfl rfl rfl rfl rfl rfl rfl rfl rfl rfl rfl rfl (fW.refl _) (dl k72.1) (dg k72.2.1) (dh k72.2.2) fun g72=>?_
    refine ah tk rfl (ac (be 1 tk rfl (aH (be 2 tk rfl ?_))));exact bl g72 H hl6 hg6
   refine ap (aH (be 2 tk rfl ?_));exact bl g6 H hl6 hg6
  refine ab ?_;refine eM (γ:=Unit) (fun t7 g7=>⟨92,upd (upd (upd (upd (upd (upd (upd (upd (upd (upd (upd (fun _=>.any) 80 (aB t7)) 45 (al (j1:Int))) 44 (al (x21.length:Int))) 43 (.list 54 (x21.map (am 69 ae)))) 11 (.list 69 (x1.map ae))) 9 (.own 72 g6 (s6.1.map (am 69 ae)).length)) 8 (.list 93 (s1.1.map aF))) 7 (.list 93 (x33.map aF))) 6 (.list 54 (x27.map (am 69 ae)))) 3 (.ptr (aO q))) 2 (.ptr (dX rA)),fun _=>none,upd (fun _=>none) 72 (some ⟨g6,54,(s6.1.map (am 69 ae)),true⟩)⟩) H (fun _ H=>?_) (fun t7 g7 H=>?_)
  ·refine aa (af 3 tk rfl ?_);refine bh rfl rfl rfl H (fun H=>?_) (fun H=>?_)
   ·refine af 4 tk rfl (ac ?_);refine aS _ () H Gh.d
   refine af 4 tk rfl (ac ?_);refine aS _ () H Gh.d
  refine aE rfl H (fun H=>?_) (fun H=>?_)
  ·refine aa (af 3 tk rfl (az tk (zl _) ?_))
   obtain⟨_,h85,H⟩:=av H
   have k85:=growI_some h85;refine vX (rows:=List.map ae (List.replicate (x33.length:Int).toNat (LVal.mk 0 0 []))) tk rfl rfl rfl rfl rfl rfl rfl rfl rfl rfl k85.1 k85.2.1 k85.2.2 (by rw[List.map_replicate];rfl) fun g85=>?_
   refine dc (Gh.freezeO 85 rfl rfl rfl) (bX tk (rows':=List.map (am 69 ae) ([x1,(List.replicate (x33.length:Int).toNat (LVal.mk 0 0 []))]:Rz)) (fW.refl _) ?_)
   obtain⟨x87,h87,H⟩:=av H
   have s87:=jC (m:=87) ([x1,(List.replicate (x33.length:Int).toNat (LVal.mk 0 0 []))]:Rz) _ h87;refine ak Tryz.call210 (iX.r) (PFun.hX s87) ?_;refine bX tk (rows':=List.map (am 69 ae) ([x87]:Rz)) (fW.refl _) ?_
   obtain⟨x89,h89,H⟩:=av H
   have k89:=cf h89;refine cg (rows2':=List.map (am 69 ae) ([x87]:Rz)) (rows':=List.map (am 69 ae) x89) tk rfl rfl rfl rfl rfl rfl rfl rfl rfl rfl rfl rfl rfl (fW.refl _) (dl k89.1) (dg k89.2.1) (dh k89.2.2) fun g89=>?_
   refine ah tk rfl (ac (aH (be 2 tk rfl ?_)));exact bl g89 H hl1 hg1
  refine ap (aH (be 2 tk rfl ?_));exact bl g6 H hl1 hg1
 refine ao 2 tk rfl (cS 4 rfl rfl rfl ?_);exact aW tk H rfl
mutual
def fp:Nat→LRun→LQuery→Option (Rz)
 |0,_,_=>none
 |n+1,v0,v1=>kY (fun b0 b1=>fp n b0 b1) (fun b0 b1=>gM n b0 b1) v0 v1
def gM:Nat→LRun→LQuery→Option (Rz)
 |0,_,_=>none
 |n+1,v0,v1=>jW (fun b0 b1=>fp n b0 b1) (fun b0 b1=>gM n b0 b1) v0 v1
end
theorem uo  (n:Nat):(∀a0 a1 r,fp n a0 a1=some r→aJ Tryz.prog 104 [(.agg (dX a0)),(.agg (aO a1))] (.list 54 (r.map (am 69 ae))))∧(∀a0 a1 r,gM n a0 a1=some r→aJ Tryz.prog 159 [(.agg (dX a0)),(.agg (aO a1))] (.list 54 (r.map (am 69 ae)))):=by
 induction n with
 |zero=>exact⟨(by intros;rename_i h;exact absurd (show(none:Option _)=some _ from h) (by simp)),(by intros;rename_i h;exact absurd (show(none:Option _)=some _ from h) (by simp))⟩
 |succ n ih=>
  exact⟨(fun v0 v1 r h=>uk (fun b0 b1=>fp n b0 b1) (fun b0 b1=>gM n b0 b1) ih.1 ih.2 v0 v1  r h),(fun v0 v1 r h=>us (fun b0 b1=>fp n b0 b1) (fun b0 b1=>gM n b0 b1) ih.1 ih.2 v0 v1  r h)⟩
def mO(rA:LRun)(q:LQuery):Option (Rz):=jl fun n=>fp n rA q
theorem uT(rA:LRun)(q:LQuery)(r:Rz)(H:mO rA q=some r):
  aJ Tryz.prog 104 [(.agg (dX rA)),(.agg (aO q))] (.list 54 (r.map (am 69 ae))):=by
 obtain⟨n,h⟩:=jD H
 exact(uo  n).1 rA q r h
def fF(sA:LSchema)(p:LProcedureProcedure):Option (Int):=
 ag (
  ag (gF p.body) fun x11=>
  cond (decide ((x11.length:Int)>(40:Int)))
   (some true)
   (ag (kF p.body) fun x17=>
   cond (decide (x17>(6:Int)))
    (some true)
    (some (decide ((p.parameters.length:Int)>(8:Int)))))) fun(t1:Bool)=>
 cond t1
  (some 2)
  (ag (aG (σ:=Unit) (ρ:=(Int)) (fun(_:Nat) (x2:Int) (_:Unit)=>
   cond (decide (x2<(1:Int)))
    (some (.ret 1))
    (cond (decide (x2>(3:Int)))
     (some (.ret 1))
     (some (.next ())))) 0 p.parameters ()) fun fl2=>fl2.thenR fun(_:Unit)=>
  ag (iu (LProcedureChecker.mk sA p.parameters) ([]:List LCol) p.body) fun x47=>
  some x47.2)
theorem pm(sA:LSchema)(p:LProcedureProcedure)(r:Int)(H:fF sA p=some r):
  aJ Tryz.prog 13 [(.agg (bJ sA)),(.agg (fN p))] (al r):=by
 unfold fF at H;refine PH.au Tryz.func13 Tryz.ntmps13 ?_;refine ab (aa (aC ?_));refine aC ?_;refine ah tk rfl (ac (ab (ab ?_)));refine ew (γ:=Unit) (fun t1 g1=>⟨51,upd (upd (upd (fun _=>.any) 25 (aB t1)) 3 (.ptr (fN p))) 2 (.ptr (bJ sA)),fun _=>none,fun _=>none⟩) H (fun _ H=>?_) (fun t1 g1 H=>?_)
 ·refine aa (af 2 tk rfl ?_)
  obtain⟨x11,h11,H⟩:=av H
  have s11:=mw p.body _ h11;refine ak Tryz.call10 (iX.r) s11 ?_;refine az tk (zl _) ?_;refine af 2 tk rfl ?_;refine bh rfl rfl rfl H (fun H=>?_) (fun H=>?_)
  ·refine af 11 tk rfl (ac ?_);refine aS _ () (ax H) Gh.d
  refine af 2 tk rfl ?_
  obtain⟨x17,h17,H⟩:=av H
  have s17:=um p.body _ h17;refine ak Tryz.call41 (iX.r) s17 ?_;refine af 3 tk rfl ?_;refine bh rfl rfl rfl H (fun H=>?_) (fun H=>?_)
  ·refine af 5 tk rfl (ac ?_);refine aS _ () (ax H) Gh.d
  refine af 2 tk rfl (az tk (zl _) ?_);refine af 2 tk rfl (ac ?_);refine aS _ () (ax H) Gh.d
 refine aE rfl H (fun H=>?_) (fun H=>?_)
 ·refine ao 1 tk rfl ?_;exact aW tk H rfl
 refine ap (ab (ab (aa (af 2 tk rfl (az tk (zl _) ?_)))));refine ah tk rfl (ac ?_);refine dS tk 29 28 27 (fun s2 g2=>upd (upd (fun _=>.any) 3 (.ptr (fN p))) 2 (.ptr (bJ sA))) nB nO () H (fun fl2 Hp2 j2 s2 g2 hz2 hl2 x2 fb2 hx2 H hg2=>?_) (fun s2 g2 H=>?_)
 ·refine ab (aw (ab (aa ?_)));refine aR tk (zn j2) (bj (fun _=>rfl) hx2) ?_;refine af 2 tk rfl (ac (ab (aa (af 3 tk rfl ?_))));refine bh rfl rfl rfl H (fun H=>?_) (fun H=>?_)
  ·refine af 3 tk rfl (ac (bR rfl (ao 1 tk rfl ?_)));obtain rfl:=ax H;have e2:fl2= .ret _:=hg2;subst e2;obtain rfl:=aQ Hp2;refine aZ tk rfl (ps:=[(al 1)]) ⟨_,_,rfl,rfl,rfl⟩ (PLe.q rfl)
  refine af 3 tk rfl (ac ?_);refine aE rfl H (fun H=>?_) (fun H=>?_)
  ·refine ao 1 tk rfl ?_;obtain rfl:=ax H;have e2:fl2= .ret _:=hg2;subst e2;obtain rfl:=aQ Hp2;refine aZ tk rfl (ps:=[(al 1)]) ⟨_,_,rfl,rfl,rfl⟩ (PLe.q rfl)
  refine ap (aH (be 2 tk rfl ?_));exact bl () H hl2 hg2
 refine ab (aa (af 6 tk rfl ?_))
 obtain⟨x47,h47,H⟩:=av H
 have s47:=qv (LProcedureChecker.mk sA p.parameters) ([]:List LCol) p.body _ h47;refine ak Tryz.call42 (iX.of2 (jg.cons (pj.of_eq rfl) (jg.cons (pj.nil tk rfl) (jg.cons (pj.of_eq rfl) jg.nil)))) s47 ?_;refine af 5 tk rfl (ac (ao 2 tk rfl ?_));exact aW tk H rfl
def ii(rA:LProcedureRun)(sA:LProcedureStatement):Option (Int×LProcedureRun):=
 cond (sA.kind==(1:Int))
  (none)
  (cond (sA.kind==(2:Int))
   (none)
   (letP (
    cond (sA.kind==(3:Int))
     ((sA.kind==(3:Int)))
     ((sA.kind==(7:Int)))) fun(t1:Bool)=>
   cond t1
    (none)
    (cond (sA.kind==(4:Int))
     (none)
     (letP (
      cond (sA.kind==(5:Int))
       ((sA.kind==(5:Int)))
       ((sA.kind==(6:Int)))) fun(t2:Bool)=>
     cond t2
      (ag (it rA sA) fun x91=>
      some (x91.1,x91.2))
      (none)))))
theorem rO(b_rA:Nat)(g_rA_7:OwnRef)(g_rA_8:OwnRef)(rA:LProcedureRun)(sA:LProcedureStatement)(r:Int×LProcedureRun)(H:ii rA sA=some r):
  PH Tryz.prog 83 [(.box 1500 b_rA 0),(.agg (aP sA))] ⟨upd (fun _=>none) 1500 (some ⟨b_rA,[(.list 95 (rA.s.tables.map bc)),(.list 145 (rA.s.foreignKeys.map ct)),(.list 151 (rA.s.constraints.map cF)),(.list 86 (rA.st.map aI)),(.list 69 (rA.args.map ae)),(.list 93 (rA.vars.map aF)),(.list 69 (rA.vals.map ae)),(.own 1607 g_rA_7 (rA.changes.map aV).length),(.own 1608 g_rA_8 (rA.results.map aU).length),(al rA.left),(aB rA.stopped)]⟩),upd (upd (fun _=>none) 1608 (some ⟨g_rA_8,64,(rA.results.map aU),true⟩)) 1607 (some ⟨g_rA_7,56,(rA.changes.map aV),true⟩)⟩ (fun u H=>∃gz0_7,∃gz0_8,u=(al r.1)∧H=⟨upd (fun _=>none) 1500 (some ⟨b_rA,[(.list 95 (r.2.s.tables.map bc)),(.list 145 (r.2.s.foreignKeys.map ct)),(.list 151 (r.2.s.constraints.map cF)),(.list 86 (r.2.st.map aI)),(.list 69 (r.2.args.map ae)),(.list 93 (r.2.vars.map aF)),(.list 69 (r.2.vals.map ae)),(.own 1607 gz0_7 (r.2.changes.map aV).length),(.own 1608 gz0_8 (r.2.results.map aU).length),(al r.2.left),(aB r.2.stopped)]⟩),upd (upd (fun _=>none) 1608 (some ⟨gz0_8,64,(r.2.results.map aU),true⟩)) 1607 (some ⟨gz0_7,56,(r.2.changes.map aV),true⟩)⟩):=by
 unfold ii at H;refine PH.au Tryz.func83 Tryz.ntmps83 ?_;refine ab (aa (aC ?_));refine ah tk rfl (ac (ab (ao 2 tk rfl (aw (ao 2 tk rfl ?_)))));refine aE rfl H (fun H=>?_) (fun H=>?_)
 ·cases H
 refine ao 2 tk rfl ?_;refine aE rfl H (fun H=>?_) (fun H=>?_)
 ·cases H
 refine ab (ao 2 tk rfl ?_);refine eM (γ:=Unit) (fun t1 g1=>⟨102,upd (upd (upd (upd (fun _=>.any) 58 (aB t1)) 12 (al sA.kind)) 3 (.ptr (aP sA))) 0 (.box 1500 b_rA 0),upd (fun _=>none) 1500 (some ⟨b_rA,[(.list 95 (rA.s.tables.map bc)),(.list 145 (rA.s.foreignKeys.map ct)),(.list 151 (rA.s.constraints.map cF)),(.list 86 (rA.st.map aI)),(.list 69 (rA.args.map ae)),(.list 93 (rA.vars.map aF)),(.list 69 (rA.vals.map ae)),(.own 1607 g_rA_7 (rA.changes.map aV).length),(.own 1608 g_rA_8 (rA.results.map aU).length),(al rA.left),(aB rA.stopped)]⟩),upd (upd (fun _=>none) 1608 (some ⟨g_rA_8,64,(rA.results.map aU),true⟩)) 1607 (some ⟨g_rA_7,56,(rA.changes.map aV),true⟩)⟩) H (fun _ H=>?_) (fun t1 g1 H=>?_)
 ·refine aE rfl H (fun H=>?_) (fun H=>?_)
  ·refine ap ?_;refine aS _ () H Gh.d
  refine be 2 tk rfl ?_;refine aS _ () H Gh.d
 refine aE rfl H (fun H=>?_) (fun H=>?_)
 ·cases H
 refine ao 2 tk rfl ?_;refine aE rfl H (fun H=>?_) (fun H=>?_)
 ·cases H
 refine ab (ao 2 tk rfl ?_);refine eM (γ:=Unit) (fun t2 g2=>⟨102,upd (upd (upd (upd (fun _=>.any) 86 (aB t2)) 12 (al sA.kind)) 3 (.ptr (aP sA))) 0 (.box 1500 b_rA 0),upd (fun _=>none) 1500 (some ⟨b_rA,[(.list 95 (rA.s.tables.map bc)),(.list 145 (rA.s.foreignKeys.map ct)),(.list 151 (rA.s.constraints.map cF)),(.list 86 (rA.st.map aI)),(.list 69 (rA.args.map ae)),(.list 93 (rA.vars.map aF)),(.list 69 (rA.vals.map ae)),(.own 1607 g_rA_7 (rA.changes.map aV).length),(.own 1608 g_rA_8 (rA.results.map aU).length),(al rA.left),(aB rA.stopped)]⟩),upd (upd (fun _=>none) 1608 (some ⟨g_rA_8,64,(rA.results.map aU),true⟩)) 1607 (some ⟨g_rA_7,56,(rA.changes.map aV),true⟩)⟩) H (fun _ H=>?_) (fun t2 g2 H=>?_)
 ·refine aE rfl H (fun H=>?_) (fun H=>?_)
  ·refine ap ?_;refine aS _ () H Gh.d
  refine be 2 tk rfl ?_;refine aS _ () H Gh.d
 refine aE rfl H (fun H=>?_) (fun H=>?_)
 ·refine ab (aa (af 2 tk rfl ?_))
  obtain⟨x91,h91,H⟩:=av H
  have s91:=sg b_rA g_rA_7 g_rA_8 rA sA _ h91;refine dw (g:=129) rfl rfl rfl Tryz.call129 [(1500,1500)] [(1607,1607),(1608,1608)] rfl rfl rfl rfl (iX.of2 (jg.cons pj.boxT (jg.cons (pj.of_eq rfl) jg.nil))) (by rw[eu,cE,bU,bU,cD];rfl) s91 ?_;rintro u91 H91h ⟨gz91_1607,gz91_1608,rfl,rfl⟩
  refine⟨_,rfl,?_⟩
  refine dc (st':=⟨_,_,upd (fun _=>none) 1500 (some ⟨b_rA,[(.list 95 (x91.2.s.tables.map bc)),(.list 145 (x91.2.s.foreignKeys.map ct)),(.list 151 (x91.2.s.constraints.map cF)),(.list 86 (x91.2.st.map aI)),(.list 69 (x91.2.args.map ae)),(.list 93 (x91.2.vars.map aF)),(.list 69 (x91.2.vals.map ae)),(.own 1607 gz91_1607 (x91.2.changes.map aV).length),(.own 1608 gz91_1608 (x91.2.results.map aU).length),(al x91.2.left),(aB x91.2.stopped)]⟩),upd (upd (fun _=>none) 1608 (some ⟨gz91_1608,64,(x91.2.results.map aU),true⟩)) 1607 (some ⟨gz91_1607,56,(x91.2.changes.map aV),true⟩)⟩) (Gh.le (cj _ _) (bi rfl (iX.r) aK) (bd (bd aL))) ?_;refine ah tk rfl (ac ?_);obtain rfl:=ax H;refine eR (st':=⟨102,upd (fun _=>.any) 4 (al x91.1),upd (fun _=>none) 1500 (some ⟨b_rA,[(.list 95 (x91.2.s.tables.map bc)),(.list 145 (x91.2.s.foreignKeys.map ct)),(.list 151 (x91.2.s.constraints.map cF)),(.list 86 (x91.2.st.map aI)),(.list 69 (x91.2.args.map ae)),(.list 93 (x91.2.vars.map aF)),(.list 69 (x91.2.vals.map ae)),(.own 1607 gz91_1607 (x91.2.changes.map aV).length),(.own 1608 gz91_1608 (x91.2.results.map aU).length),(al x91.2.left),(aB x91.2.stopped)]⟩),upd (upd (fun _=>none) 1608 (some ⟨gz91_1608,64,(x91.2.results.map aU),true⟩)) 1607 (some ⟨gz91_1607,56,(x91.2.changes.map aV),true⟩)⟩) (Gh.le (ay bg) (bi rfl (iX.r) aK) (bd (bd aL))) ?_;refine gV tk rfl (ps:=[(al x91.1)]) ⟨_,_,rfl,rfl,rfl⟩ (PLe.q rfl) ⟨_,_,rfl,rfl⟩
 cases H
def kE(sA:LSchema)(q:LQuery):Option (Bool):=
 ag (
  ag (mM q 400) fun x8=>
  cond (decide (x8<(0:Int)))
   (some true)
   (ag (eg sA) fun x12=>
   some (x12 !=(0:Int)))) fun(t1:Bool)=>
 cond t1
  (some false)
  (ag (mA sA q) fun x18=>
  some (x18.2==(0:Int)))
theorem ur(sA:LSchema)(q:LQuery)(r:Bool)(H:kE sA q=some r):
  aJ Tryz.prog 53 [(.agg (bJ sA)),(.agg (aO q))] (aB r):=by
 unfold kE at H;refine PH.au Tryz.func53 Tryz.ntmps53 ?_;refine ab (aa (aC ?_));refine aC ?_;refine ah tk rfl (ac (ab (ab ?_)));refine ew (γ:=Unit) (fun t1 g1=>⟨23,upd (upd (upd (fun _=>.any) 14 (aB t1)) 3 (.ptr (aO q))) 2 (.ptr (bJ sA)),fun _=>none,fun _=>none⟩) H (fun _ H=>?_) (fun t1 g1 H=>?_)
 ·refine aa (ah tk rfl ?_)
  obtain⟨x8,h8,H⟩:=av H
  have s8:=uP q 400 _ h8;refine ak Tryz.call89 (iX.r) s8 ?_;refine af 2 tk rfl ?_;refine bh rfl rfl rfl H (fun H=>?_) (fun H=>?_)
  ·refine af 4 tk rfl (ac ?_);refine aS _ () (ax H) Gh.d
  refine ah tk rfl ?_
  obtain⟨x12,h12,H⟩:=av H
  have s12:=mg sA _ h12;refine ak Tryz.call37 (iX.r) s12 ?_;refine af 2 tk rfl (ac ?_);refine aS _ () (ax H) Gh.d
 refine aE rfl H (fun H=>?_) (fun H=>?_)
 ·refine ao 1 tk rfl ?_;exact aW tk H rfl
 refine ap (ab (aa (af 2 tk rfl ?_)))
 obtain⟨x18,h18,H⟩:=av H
 have s18:=W_query_Check sA q _ h18;refine ak Tryz.call90 (iX.r) s18 ?_;refine af 5 tk rfl (ac (ao 3 tk rfl ?_));exact aW tk H rfl
def iU(sA:LSchema)(st:List LRelation)(q:LQuery)(args:Rq)(vars:List LCol)(vals:Rq):Option (LResult×Int):=
 ag (gD sA vars q) fun x28=>
 cond (x28.2 !=(0:Int))
  (some ((LResult.mk [] []),x28.2))
  (ag (fA q args) fun x37=>
  cond (x37 !=(0:Int))
   (some ((LResult.mk [] []),x37))
   (ag (cr sA st) fun x44=>
   cond (x44 !=(0:Int))
    (some ((LResult.mk [] []),x44))
    (ag (aG (σ:=List (List UInt8)) (ρ:=Empty) (fun(_:Nat) (x1:LCol) (s1:List (List UInt8))=>
     ag (db 16 s1 ([x1.name]:List (List UInt8))) fun(x66:List (List UInt8))=>
     some (.next x66)) 0 vars []) fun fl1=>fl1.thenP fun(s1:List (List UInt8))=>
    ag (mO (LRun.mk sA st args vars s1 vals) q) fun x73=>
    ag (aG (σ:=Rz) (ρ:=Empty) (fun(_:Nat) (x2:Rq) (s2:Rz)=>
     ag (db 24 s2 ([x2]:Rz)) fun(x84:Rz)=>
     some (.next x84)) 0 x73 []) fun fl2=>fl2.thenP fun(s2:Rz)=>
    some ((LResult.mk x28.1 s2),0))))
theorem qY(sA:LSchema)(st:List LRelation)(q:LQuery)(args:Rq)(vars:List LCol)(vals:Rq)(r:LResult×Int)(H:iU sA st q args vars vals=some r):
  aJ Tryz.prog 70 [(.agg (bJ sA)),(.list 86 (st.map aI)),(.agg (aO q)),(.list 69 (args.map ae)),(.list 93 (vars.map aF)),(.list 69 (vals.map ae))] (.tup [(.agg (aU r.1)),(al r.2)]):=by
 unfold iU at H;refine PH.au Tryz.func70 Tryz.ntmps70 ?_;refine ab (aa (aC ?_));refine aC ?_;refine ba tk fun b12=>?_
 refine ah tk rfl (ac (ab (aa (af 3 tk rfl ?_))))
 obtain⟨x28,h28,H⟩:=av H
 have s28:=nQ sA vars q _ h28;refine ak Tryz.call103 (iX.r) s28 ?_;refine af 5 tk rfl (ac (ab (ao 2 tk rfl ?_)));refine aE rfl H (fun H=>?_) (fun H=>?_)
 ·refine ab (aa (af 2 tk rfl (aq tk ?_)));refine ah tk rfl (ac ?_);obtain rfl:=ax H;refine aZ tk rfl (ps:=[(.agg [(.val (.slice none 0 0)),(.val (.slice none 0 0))]),(al x28.2)]) ⟨_,_,rfl,⟨_,_,_,_,_,rfl,rfl,rfl,rfl⟩,_,_,rfl,rfl,rfl⟩ (PLe.of2 (pj.tup (jg.cons (pj.agg (jg.cons (pj.nil tk rfl) (jg.cons (pj.nil tk rfl) jg.nil))) (jg.cons (pj.of_eq rfl) jg.nil))))
 refine ap (ab (ab (aa (af 2 tk rfl ?_))))
 obtain⟨x37,h37,H⟩:=av H
 have s37:=mp q args _ h37;refine ak Tryz.call54 (iX.r) s37 ?_;refine ah tk rfl (ac (ao 2 tk rfl ?_));refine aE rfl H (fun H=>?_) (fun H=>?_)
 ·refine ab (aa (af 2 tk rfl (aq tk ?_)));refine ah tk rfl (ac ?_);obtain rfl:=ax H;refine aZ tk rfl (ps:=[(.agg [(.val (.slice none 0 0)),(.val (.slice none 0 0))]),(al x37)]) ⟨_,_,rfl,⟨_,_,_,_,_,rfl,rfl,rfl,rfl⟩,_,_,rfl,rfl,rfl⟩ (PLe.of2 (pj.tup (jg.cons (pj.agg (jg.cons (pj.nil tk rfl) (jg.cons (pj.nil tk rfl) jg.nil))) (jg.cons (pj.of_eq rfl) jg.nil))))
 refine ap (ab (ab (aa (af 2 tk rfl ?_))))
 obtain⟨x44,h44,H⟩:=av H
 have s44:=iM sA st _ h44;refine ak Tryz.call38 (iX.r) s44 ?_;refine ah tk rfl (ac (ao 2 tk rfl ?_));refine aE rfl H (fun H=>?_) (fun H=>?_)
 ·refine ab (aa (af 2 tk rfl (aq tk ?_)));refine ah tk rfl (ac ?_);obtain rfl:=ax H;refine aZ tk rfl (ps:=[(.agg [(.val (.slice none 0 0)),(.val (.slice none 0 0))]),(al x44)]) ⟨_,_,rfl,⟨_,_,_,_,_,rfl,rfl,rfl,rfl⟩,_,_,rfl,rfl,rfl⟩ (PLe.of2 (pj.tup (jg.cons (pj.agg (jg.cons (pj.nil tk rfl) (jg.cons (pj.nil tk rfl) jg.nil))) (jg.cons (pj.of_eq rfl) jg.nil))))
 refine ap (ab (aa (af 6 tk rfl ?_)));refine ba tk fun b18=>?_
 refine aq tk ?_;refine ac (ab (ab (aa (ah tk rfl (az tk (zl _) ?_)))));refine ah tk rfl (ac (pR tk 18 6 66 (e:=9) rfl rfl rfl rfl ?_));refine gn (γ:=OwnRef) tk 57 56 55 (fun s1 g1=>upd (upd (upd (upd (fun _=>.any) 18 (.box 18 b18 0)) 14 (.list 93 (x28.1.map aF))) 12 (.box 12 b12 0)) 8 (.ptr (aO q))) (fun s1 g1=>upd (upd (fun _=>none) 18 (some ⟨b18,[(.list 95 (sA.tables.map bc)),(.list 145 (sA.foreignKeys.map ct)),(.list 151 (sA.constraints.map cF)),(.list 86 (st.map aI)),(.list 69 (args.map ae)),(.list 93 (vars.map aF)),(.own 66 g1 (s1.map lC).length),(.list 69 (vals.map ae))]⟩)) 12 (some ⟨b12,[(.val (.slice none 0 0)),(.val (.slice none 0 0))]⟩)) (fun s1 g1=>upd (fun _=>none) 66 (some ⟨g1,9,(s1.map lC),true⟩)) (⟨none,0⟩) H (fun fl1 Hp1 j1 s1 g1 hz1 hl1 x1 fb1 hx1 H hg1=>?_) (fun s1 g1 H=>?_)
 ·refine ab (aw (ab (aa ?_)));refine aR tk (zn j1) (bj (fun _=>rfl) hx1) ?_;refine ah tk rfl ?_;refine ba tk fun b20=>?_
  refine aq tk ?_;refine ac (aa (ah tk rfl (aA tk ?_)));refine ah tk rfl (aA tk ?_);refine bX tk (rows':=List.map lC ([x1.name]:List (List UInt8))) (fW.refl _) ?_
  obtain⟨x66,h66,H⟩:=av H
  have k66:=cf h66;refine cg (rows2':=List.map lC ([x1.name]:List (List UInt8))) (rows':=List.map lC x66) tk rfl rfl rfl rfl rfl rfl rfl rfl rfl rfl rfl rfl rfl (fW.refl _) (dl k66.1) (dg k66.2.1) (dh k66.2.2) fun g66=>?_
  refine ah tk rfl (aq tk ?_);refine ac (aH (be 2 tk rfl ?_));exact bl g66 H hl1 hg1
 refine ab (aa (af 2 tk rfl ?_));refine ba tk fun b21=>?_
 refine aq tk ?_;refine ac (ab (ab (nA 18 6 rfl rfl rfl rfl rfl (aa (aA tk ?_)))));refine ah tk rfl ?_
 obtain⟨x73,h73,H⟩:=av H
 have s73:=uT (LRun.mk sA st args vars s1 vals) q _ h73;refine ak Tryz.call104 (iX.r) s73 ?_;refine az tk (zl _) ?_;refine ah tk rfl (ac (pR tk 21 1 84 (e:=54) rfl rfl rfl rfl ?_));refine gn (γ:=OwnRef) tk 75 74 73 (fun s2 g2=>upd (upd (fun _=>.any) 21 (.box 21 b21 0)) 12 (.box 12 b12 0)) (fun s2 g2=>upd (upd (fun _=>none) 21 (some ⟨b21,[(.list 93 (x28.1.map aF)),(.own 84 g2 (s2.map (am 69 ae)).length)]⟩)) 12 (some ⟨b12,[(.val (.slice none 0 0)),(.val (.slice none 0 0))]⟩)) (fun s2 g2=>upd (fun _=>none) 84 (some ⟨g2,54,(s2.map (am 69 ae)),true⟩)) (⟨none,0⟩) H (fun fl2 Hp2 j2 s2 g2 hz2 hl2 x2 fb2 hx2 H hg2=>?_) (fun s2 g2 H=>?_)
 ·refine ab (aw (ab (aa ?_)));refine aR tk (zn j2) (bj (fun _=>rfl) hx2) ?_;refine af 2 tk rfl (ac (bn tk mok ⟨true,false,[]⟩ [0,1,2,3,4,5,6,7] rfl (by decide+kernel) rfl (bN rfl (bK ?_))));refine bN rfl ?_;have s82:=clone_85 (m:=82) x2;refine aY Tryz.call85 (iX.r) (PFun.hX s82) ?_;refine bN rfl ?_
  obtain⟨x84,h84,H⟩:=av H
  have k84:=cf h84;refine jz (rows2':=List.map (am 69 ae) ([x2]:Rz)) (rows':=List.map (am 69 ae) x84) tk rfl rfl rfl rfl rfl rfl rfl rfl rfl rfl rfl rfl rfl rfl (fW.refl _) (dl k84.1) (dg k84.2.1) (dh k84.2.2) fun g84=>?_
  refine bN rfl (jX rfl rfl rfl rfl rfl rfl rfl rfl rfl rfl rfl rfl (bm (aH (be 2 tk rfl ?_))));exact bl g84 H hl2 hg2
 refine ab (aa (aA tk ?_));refine aq tk ?_;refine ah tk rfl (ac ?_);obtain rfl:=ax H;refine nA 12 1 rfl rfl rfl rfl rfl ?_;refine aZ tk rfl (ps:=[(.agg [(.list 93 (x28.1.map aF)),(.list 54 (s2.map (am 69 ae)))]),(al 0)]) ⟨_,_,rfl,⟨_,_,_,_,_,rfl,rfl,rfl,rfl⟩,_,_,rfl,rfl,rfl⟩ (PLe.q rfl)
def ip(sA:LSchema)(st:List LRelation)(p:LProcedureProcedure):Option (Bool):=
 ag (gF p.body) fun x9=>
 cond (decide ((x9.length:Int)≤(40:Int)))
  (ag (eg sA) fun x14=>
  cond (x14==(0:Int))
   (ag (cr sA st) fun x20=>
   cond (x20==(0:Int))
    (ag (fF sA p) fun x26=>
    some (x26==(0:Int)))
    (some false))
   (some false))
  (some false)
theorem rK(sA:LSchema)(st:List LRelation)(p:LProcedureProcedure)(r:Bool)(H:ip sA st p=some r):
  aJ Tryz.prog 8 [(.agg (bJ sA)),(.list 86 (st.map aI)),(.agg (fN p))] (aB r):=by
 unfold ip at H;refine PH.au Tryz.func8 Tryz.ntmps8 ?_;refine ab (aa (aC ?_));refine aC ?_;refine ah tk rfl (ac (ab (aa (af 2 tk rfl ?_))))
 obtain⟨x9,h9,H⟩:=av H
 have s9:=mw p.body _ h9;refine ak Tryz.call10 (iX.r) s9 ?_;refine az tk (zl _) ?_;refine af 2 tk rfl ?_;refine bh rfl rfl rfl H (fun H=>?_) (fun H=>?_)
 ·refine ah tk rfl ?_
  obtain⟨x14,h14,H⟩:=av H
  have s14:=mg sA _ h14;refine ak Tryz.call37 (iX.r) s14 ?_;refine af 3 tk rfl ?_;refine bh rfl rfl rfl H (fun H=>?_) (fun H=>?_)
  ·refine af 2 tk rfl ?_
   obtain⟨x20,h20,H⟩:=av H
   have s20:=iM sA st _ h20;refine ak Tryz.call38 (iX.r) s20 ?_;refine af 3 tk rfl ?_;refine bh rfl rfl rfl H (fun H=>?_) (fun H=>?_)
   ·refine af 2 tk rfl ?_
    obtain⟨x26,h26,H⟩:=av H
    have s26:=pm sA p _ h26;refine ak Tryz.call13 (iX.r) s26 ?_;refine af 3 tk rfl (ac ?_);exact aW tk H rfl
   refine af 6 tk rfl (ac ?_);exact aW tk H rfl
  refine af 12 tk rfl (ac ?_);exact aW tk H rfl
 refine af 17 tk rfl (ac ?_);exact aW tk H rfl
def hZ(rA:LProcedureRun)(l:List LProcedureStatement):Option (Int×LProcedureRun):=
 ag (aG (σ:=LProcedureRun) (ρ:=(Int×LProcedureRun)) (fun(_:Nat) (x1:LProcedureStatement) (s1:LProcedureRun)=>
  cond s1.stopped
   (some (.ret (0,s1)))
   (cond (decide ((IntKind.i64.wrap (s1.left-(1:Int)))<(0:Int)))
    (some (.ret (2,(LProcedureRun.mk s1.s s1.st s1.args s1.vars s1.vals s1.changes s1.results (IntKind.i64.wrap (s1.left-(1:Int))) s1.stopped))))
    (ag (ii (LProcedureRun.mk s1.s s1.st s1.args s1.vars s1.vals s1.changes s1.results (IntKind.i64.wrap (s1.left-(1:Int))) s1.stopped) x1) fun x32=>
    cond (x32.1 !=(0:Int))
     (some (.ret (x32.1,x32.2)))
     (some (.next x32.2))))) 0 l rA) fun fl1=>fl1.thenR fun(s1:LProcedureRun)=>
 some (0,s1)
theorem rU(b_rA:Nat)(g_rA_7:OwnRef)(g_rA_8:OwnRef)(rA:LProcedureRun)(l:List LProcedureStatement)(r:Int×LProcedureRun)(H:hZ rA l=some r):
  PH Tryz.prog 45 [(.box 1500 b_rA 0),(.list 40 (l.map aT))] ⟨upd (fun _=>none) 1500 (some ⟨b_rA,[(.list 95 (rA.s.tables.map bc)),(.list 145 (rA.s.foreignKeys.map ct)),(.list 151 (rA.s.constraints.map cF)),(.list 86 (rA.st.map aI)),(.list 69 (rA.args.map ae)),(.list 93 (rA.vars.map aF)),(.list 69 (rA.vals.map ae)),(.own 1607 g_rA_7 (rA.changes.map aV).length),(.own 1608 g_rA_8 (rA.results.map aU).length),(al rA.left),(aB rA.stopped)]⟩),upd (upd (fun _=>none) 1608 (some ⟨g_rA_8,64,(rA.results.map aU),true⟩)) 1607 (some ⟨g_rA_7,56,(rA.changes.map aV),true⟩)⟩ (fun u H=>∃gz0_7,∃gz0_8,u=(al r.1)∧H=⟨upd (fun _=>none) 1500 (some ⟨b_rA,[(.list 95 (r.2.s.tables.map bc)),(.list 145 (r.2.s.foreignKeys.map ct)),(.list 151 (r.2.s.constraints.map cF)),(.list 86 (r.2.st.map aI)),(.list 69 (r.2.args.map ae)),(.list 93 (r.2.vars.map aF)),(.list 69 (r.2.vals.map ae)),(.own 1607 gz0_7 (r.2.changes.map aV).length),(.own 1608 gz0_8 (r.2.results.map aU).length),(al r.2.left),(aB r.2.stopped)]⟩),upd (upd (fun _=>none) 1608 (some ⟨gz0_8,64,(r.2.results.map aU),true⟩)) 1607 (some ⟨gz0_7,56,(r.2.changes.map aV),true⟩)⟩):=by
 unfold hZ at H;refine PH.au Tryz.func45 Tryz.ntmps45 ?_;refine ao 1 tk rfl (ab (ab (aa (ah tk rfl (az tk (zl _) ?_)))));refine ah tk rfl (ac ?_);refine dS (γ:=OwnRef×OwnRef) tk 10 9 8 (fun s1 g1=>upd (fun _=>.any) 0 (.box 1500 b_rA 0)) (fun s1 g1=>upd (fun _=>none) 1500 (some ⟨b_rA,[(.list 95 (s1.s.tables.map bc)),(.list 145 (s1.s.foreignKeys.map ct)),(.list 151 (s1.s.constraints.map cF)),(.list 86 (s1.st.map aI)),(.list 69 (s1.args.map ae)),(.list 93 (s1.vars.map aF)),(.list 69 (s1.vals.map ae)),(.own 1607 g1.1 (s1.changes.map aV).length),(.own 1608 g1.2 (s1.results.map aU).length),(al s1.left),(aB s1.stopped)]⟩)) (fun s1 g1=>upd (upd (fun _=>none) 1608 (some ⟨g1.2,64,(s1.results.map aU),true⟩)) 1607 (some ⟨g1.1,56,(s1.changes.map aV),true⟩)) (g_rA_7,g_rA_8) H (fun fl1 Hp1 j1 s1 g1 hz1 hl1 x1 fb1 hx1 H hg1=>?_) (fun s1 g1 H=>?_)
 ·refine ab (aw (ab (aa (aR tk (zn j1) (bj eS hx1) ?_))));refine ah tk rfl ?_;refine ba tk fun b6=>?_
  refine aq tk ?_;refine ac (ab (ab (aa (af 3 tk rfl (aA tk ?_)))));refine ac ?_;refine aE rfl H (fun H=>?_) (fun H=>?_)
  ·refine ao 1 tk rfl ?_;obtain rfl:=ax H;have e1:fl1= .ret _:=hg1;subst e1;obtain rfl:=aQ Hp1;refine eR (st':=⟨37,upd (fun _=>.any) 4 (al 0),upd (fun _=>none) 1500 (some ⟨b_rA,[(.list 95 (s1.s.tables.map bc)),(.list 145 (s1.s.foreignKeys.map ct)),(.list 151 (s1.s.constraints.map cF)),(.list 86 (s1.st.map aI)),(.list 69 (s1.args.map ae)),(.list 93 (s1.vars.map aF)),(.list 69 (s1.vals.map ae)),(.own 1607 g1.1 (s1.changes.map aV).length),(.own 1608 g1.2 (s1.results.map aU).length),(al s1.left),(aB s1.stopped)]⟩),upd (upd (fun _=>none) 1608 (some ⟨g1.2,64,(s1.results.map aU),true⟩)) 1607 (some ⟨g1.1,56,(s1.changes.map aV),true⟩)⟩) (Gh.le (ay bg) (bi rfl (iX.r) aK) (bd (bd aL))) ?_;refine gV tk rfl (ps:=[(al 0)]) ⟨_,_,rfl,rfl,rfl⟩ (PLe.q rfl) ⟨_,_,rfl,rfl⟩
  refine ap (ab (ab (aa (af 3 tk rfl (aA tk ?_)))));refine af 3 tk rfl (aq tk ?_);refine ac (ab (aa (af 3 tk rfl (aA tk ?_))));refine ah tk rfl (ac ?_);refine aE rfl H (fun H=>?_) (fun H=>?_)
  ·refine ao 1 tk rfl ?_;obtain rfl:=ax H;have e1:fl1= .ret _:=hg1;subst e1;obtain rfl:=aQ Hp1;refine eR (st':=⟨37,upd (fun _=>.any) 4 (al 2),upd (fun _=>none) 1500 (some ⟨b_rA,[(.list 95 ((((LProcedureRun.mk s1.s s1.st s1.args s1.vars s1.vals s1.changes s1.results (IntKind.i64.wrap (s1.left-(1:Int))) s1.stopped).s).tables).map bc)),(.list 145 ((((LProcedureRun.mk s1.s s1.st s1.args s1.vars s1.vals s1.changes s1.results (IntKind.i64.wrap (s1.left-(1:Int))) s1.stopped).s).foreignKeys).map ct)),(.list 151 ((((LProcedureRun.mk s1.s s1.st s1.args s1.vars s1.vals s1.changes s1.results (IntKind.i64.wrap (s1.left-(1:Int))) s1.stopped).s).constraints).map cF)),(.list 86 (((LProcedureRun.mk s1.s s1.st s1.args s1.vars s1.vals s1.changes s1.results (IntKind.i64.wrap (s1.left-(1:Int))) s1.stopped).st).map aI)),(.list 69 (((LProcedureRun.mk s1.s s1.st s1.args s1.vars s1.vals s1.changes s1.results (IntKind.i64.wrap (s1.left-(1:Int))) s1.stopped).args).map ae)),(.list 93 (((LProcedureRun.mk s1.s s1.st s1.args s1.vars s1.vals s1.changes s1.results (IntKind.i64.wrap (s1.left-(1:Int))) s1.stopped).vars).map aF)),(.list 69 (((LProcedureRun.mk s1.s s1.st s1.args s1.vars s1.vals s1.changes s1.results (IntKind.i64.wrap (s1.left-(1:Int))) s1.stopped).vals).map ae)),(.own 1607 g1.1 (s1.changes.map aV).length),(.own 1608 g1.2 (s1.results.map aU).length),(al ((LProcedureRun.mk s1.s s1.st s1.args s1.vars s1.vals s1.changes s1.results (IntKind.i64.wrap (s1.left-(1:Int))) s1.stopped).left)),(aB ((LProcedureRun.mk s1.s s1.st s1.args s1.vars s1.vals s1.changes s1.results (IntKind.i64.wrap (s1.left-(1:Int))) s1.stopped).stopped))]⟩),upd (upd (fun _=>none) 1608 (some ⟨g1.2,64,(s1.results.map aU),true⟩)) 1607 (some ⟨g1.1,56,(s1.changes.map aV),true⟩)⟩) (Gh.le (ay bg) (bi rfl (iX.r) aK) (bd (bd aL))) ?_;refine gV tk rfl (ps:=[(al 2)]) ⟨_,_,rfl,rfl,rfl⟩ (PLe.q rfl) ⟨_,_,rfl,rfl⟩
  refine ap (ab (aa (ah tk rfl (aA tk ?_))))
  obtain⟨x32,h32,H⟩:=av H
  have s32:=rO b_rA g1.1 g1.2 (LProcedureRun.mk s1.s s1.st s1.args s1.vars s1.vals s1.changes s1.results (IntKind.i64.wrap (s1.left-(1:Int))) s1.stopped) x1 _ h32;refine dw (g:=83) rfl rfl rfl Tryz.call83 [(1500,1500)] [(1607,1607),(1608,1608)] rfl rfl rfl rfl (iX.of2 (jg.cons pj.boxT (jg.cons (pj.of_eq rfl) jg.nil))) (by rw[eu,cE,bU,bU,cD];rfl) s32 ?_;rintro u32 H32h ⟨gz32_1607,gz32_1608,rfl,rfl⟩
  refine⟨_,rfl,?_⟩
  refine dc (st':=⟨_,_,upd (upd (fun _=>none) 1500 (some ⟨b_rA,[(.list 95 (x32.2.s.tables.map bc)),(.list 145 (x32.2.s.foreignKeys.map ct)),(.list 151 (x32.2.s.constraints.map cF)),(.list 86 (x32.2.st.map aI)),(.list 69 (x32.2.args.map ae)),(.list 93 (x32.2.vars.map aF)),(.list 69 (x32.2.vals.map ae)),(.own 1607 gz32_1607 (x32.2.changes.map aV).length),(.own 1608 gz32_1608 (x32.2.results.map aU).length),(al x32.2.left),(aB x32.2.stopped)]⟩)) 6 (some ⟨b6,(aP x1)⟩),upd (upd (fun _=>none) 1608 (some ⟨gz32_1608,64,(x32.2.results.map aU),true⟩)) 1607 (some ⟨gz32_1607,56,(x32.2.changes.map aV),true⟩)⟩) (Gh.le (cj _ _) (bi rfl (iX.r) (bi rfl (iX.r) aK)) (bd (bd aL))) ?_;refine ah tk rfl (ac (ao 2 tk rfl ?_));refine aE rfl H (fun H=>?_) (fun H=>?_)
  ·refine ao 2 tk rfl ?_;obtain rfl:=ax H;have e1:fl1= .ret _:=hg1;subst e1;obtain rfl:=aQ Hp1;refine eR (st':=⟨37,upd (fun _=>.any) 4 (al x32.1),upd (fun _=>none) 1500 (some ⟨b_rA,[(.list 95 (x32.2.s.tables.map bc)),(.list 145 (x32.2.s.foreignKeys.map ct)),(.list 151 (x32.2.s.constraints.map cF)),(.list 86 (x32.2.st.map aI)),(.list 69 (x32.2.args.map ae)),(.list 93 (x32.2.vars.map aF)),(.list 69 (x32.2.vals.map ae)),(.own 1607 gz32_1607 (x32.2.changes.map aV).length),(.own 1608 gz32_1608 (x32.2.results.map aU).length),(al x32.2.left),(aB x32.2.stopped)]⟩),upd (upd (fun _=>none) 1608 (some ⟨gz32_1608,64,(x32.2.results.map aU),true⟩)) 1607 (some ⟨gz32_1607,56,(x32.2.changes.map aV),true⟩)⟩) (Gh.le (ay bg) (bi rfl (iX.r) aK) (bd (bd aL))) ?_;refine gV tk rfl (ps:=[(al x32.1)]) ⟨_,_,rfl,rfl,rfl⟩ (PLe.q rfl) ⟨_,_,rfl,rfl⟩
  refine ap (aH (be 2 tk rfl ?_));exact bl (gz32_1607,gz32_1608) H hl1 hg1
 refine ao 1 tk rfl ?_;obtain rfl:=ax H;refine eR (st':=⟨37,upd (fun _=>.any) 4 (al 0),upd (fun _=>none) 1500 (some ⟨b_rA,[(.list 95 (s1.s.tables.map bc)),(.list 145 (s1.s.foreignKeys.map ct)),(.list 151 (s1.s.constraints.map cF)),(.list 86 (s1.st.map aI)),(.list 69 (s1.args.map ae)),(.list 93 (s1.vars.map aF)),(.list 69 (s1.vals.map ae)),(.own 1607 g1.1 (s1.changes.map aV).length),(.own 1608 g1.2 (s1.results.map aU).length),(al s1.left),(aB s1.stopped)]⟩),upd (upd (fun _=>none) 1608 (some ⟨g1.2,64,(s1.results.map aU),true⟩)) 1607 (some ⟨g1.1,56,(s1.changes.map aV),true⟩)⟩) (Gh.le (ay bg) (bi rfl (iX.r) aK) (bd (bd aL))) ?_;refine gV tk rfl (ps:=[(al 0)]) ⟨_,_,rfl,rfl,rfl⟩ (PLe.q rfl) ⟨_,_,rfl,rfl⟩
def jQ(sA:LSchema)(st:List LRelation)(q:LQuery)(args:Rq):Option (Bool):=
 ag (kE sA q) fun x11=>
 cond x11
  (cond (decide ((args.length:Int)≤(20:Int)))
   (ag (cr sA st) fun x20=>
   cond (x20==(0:Int))
    (ag (fA q args) fun x26=>
    some (x26==(0:Int)))
    (some false))
   (some false))
  (some false)
theorem uQ(sA:LSchema)(st:List LRelation)(q:LQuery)(args:Rq)(r:Bool)(H:jQ sA st q args=some r):
  aJ Tryz.prog 26 [(.agg (bJ sA)),(.list 86 (st.map aI)),(.agg (aO q)),(.list 69 (args.map ae))] (aB r):=by
 unfold jQ at H;refine PH.au Tryz.func26 Tryz.ntmps26 ?_;refine ab (aa (aC ?_));refine aC ?_;refine ah tk rfl (ac (ab (aa (af 2 tk rfl ?_))))
 obtain⟨x11,h11,H⟩:=av H
 have s11:=ur sA q _ h11;refine ak Tryz.call53 (iX.r) s11 ?_;refine ah tk rfl ?_;refine bh rfl rfl rfl H (fun H=>?_) (fun H=>?_)
 ·refine ah tk rfl (az tk (zl _) ?_);refine af 3 tk rfl ?_;refine bh rfl rfl rfl H (fun H=>?_) (fun H=>?_)
  ·refine af 2 tk rfl ?_
   obtain⟨x20,h20,H⟩:=av H
   have s20:=iM sA st _ h20;refine ak Tryz.call38 (iX.r) s20 ?_;refine af 3 tk rfl ?_;refine bh rfl rfl rfl H (fun H=>?_) (fun H=>?_)
   ·refine af 2 tk rfl ?_
    obtain⟨x26,h26,H⟩:=av H
    have s26:=mp q args _ h26;refine ak Tryz.call54 (iX.r) s26 ?_;refine af 3 tk rfl (ac ?_);exact aW tk H rfl
   refine af 6 tk rfl (ac ?_);exact aW tk H rfl
  refine af 12 tk rfl (ac ?_);exact aW tk H rfl
 refine af 17 tk rfl (ac ?_);exact aW tk H rfl
def kS(sA:LSchema)(st:List LRelation)(q:LQuery)(args:Rq):Option (LResult×Int):=
 ag (iU sA st q args ([]:List LCol) ([]:Rq)) fun x14=>
 some (x14.1,x14.2)
theorem uR(sA:LSchema)(st:List LRelation)(q:LQuery)(args:Rq)(r:LResult×Int)(H:kS sA st q args=some r):
  aJ Tryz.prog 36 [(.agg (bJ sA)),(.list 86 (st.map aI)),(.agg (aO q)),(.list 69 (args.map ae))] (.tup [(.agg (aU r.1)),(al r.2)]):=by
 unfold kS at H;refine PH.au Tryz.func36 Tryz.ntmps36 ?_;refine ab (aa (aC ?_));refine aC ?_;refine ba tk fun b8=>?_
 refine ah tk rfl (ac (ab (aa (af 4 tk rfl ?_))))
 obtain⟨x14,h14,H⟩:=av H
 have s14:=qY sA st q args ([]:List LCol) ([]:Rq) _ h14;refine ak Tryz.call70 (iX.of2 (jg.cons (pj.of_eq rfl) (jg.cons (pj.of_eq rfl) (jg.cons (pj.of_eq rfl) (jg.cons (pj.of_eq rfl) (jg.cons (pj.nil tk rfl) (jg.cons (pj.nil tk rfl) jg.nil))))))) s14 ?_;refine af 2 tk rfl (aq tk ?_);refine ah tk rfl (ac ?_);obtain rfl:=ax H;refine aZ tk rfl (ps:=[(.agg (aU x14.1)),(al x14.2)]) ⟨_,_,rfl,⟨_,_,_,_,_,rfl,rfl,rfl,rfl⟩,_,_,rfl,rfl,rfl⟩ (PLe.q rfl)
def kv(sA:LSchema)(st:List LRelation)(p:LProcedureProcedure)(args:Rq):Option ((List LChange)×(List LResult)×Int):=
 ag (fF sA p) fun x19=>
 cond (x19 !=(0:Int))
  (some ([],[],x19))
  (cond (decide ((args.length:Int)<(p.parameters.length:Int)))
   (some ([],[],1))
   (ag (aG (σ:=Unit) (ρ:=((List LChange)×(List LResult)×Int)) (fun(j1:Nat) (x1:Int) (_:Unit)=>
    ag (getI args (j1:Int)) fun(x39:LVal)=>
    letP (et x39) fun x41=>
    cond (!x41)
     (some (.ret ([],[],7)))
     (ag (getI args (j1:Int)) fun(x46:LVal)=>
     cond (x46.kind !=x1)
      (ag (getI args (j1:Int)) fun(x54:LVal)=>
      cond (x54.kind !=(0:Int))
       (some (.ret ([],[],7)))
       (some (.next ())))
      (some (.next ())))) 0 p.parameters ()) fun fl1=>fl1.thenR fun(_:Unit)=>
   ag (cr sA st) fun x63=>
   cond (x63 !=(0:Int))
    (some ([],[],x63))
    (ag (mX args 0 (p.parameters.length:Int)) fun(x73:Rq)=>
    ag (hZ (LProcedureRun.mk sA st x73 [] [] [] [] 400 false) p.body) fun x80=>
    cond (x80.1 !=(0:Int))
     (some ([],[],x80.1))
     (some (x80.2.changes,x80.2.results,0)))))
theorem vc(sA:LSchema)(st:List LRelation)(p:LProcedureProcedure)(args:Rq)(r:(List LChange)×(List LResult)×Int)(H:kv sA st p args=some r):
  aJ Tryz.prog 14 [(.agg (bJ sA)),(.list 86 (st.map aI)),(.agg (fN p)),(.list 69 (args.map ae))] (.tup [(.list 56 (r.1.map aV)),(.list 64 (r.2.1.map aU)),(al r.2.2)]):=by
 unfold kv at H;refine PH.au Tryz.func14 Tryz.ntmps14 ?_;refine ab (aa (aC ?_));refine aC ?_;refine af 3 tk rfl (ac (ab (ab (aa (af 2 tk rfl ?_)))))
 obtain⟨x19,h19,H⟩:=av H
 have s19:=pm sA p _ h19;refine ak Tryz.call13 (iX.r) s19 ?_;refine ah tk rfl (ac (ao 2 tk rfl ?_));refine aE rfl H (fun H=>?_) (fun H=>?_)
 ·refine ao 4 tk rfl ?_;obtain rfl:=ax H;refine aZ tk rfl (ps:=[(.val (.slice none 0 0)),(.val (.slice none 0 0)),(al x19)]) ⟨_,_,rfl,rfl,_,_,rfl,rfl,_,_,rfl,rfl,rfl⟩ (PLe.of2 (pj.tup (jg.cons (pj.nil tk rfl) (jg.cons (pj.nil tk rfl) (jg.cons (pj.of_eq rfl) jg.nil)))))
 refine ap (ab (ab (aa (ah tk rfl (az tk (zl _) ?_)))));refine af 2 tk rfl (az tk (zl _) ?_);refine ah tk rfl (ac ?_);refine aE rfl H (fun H=>?_) (fun H=>?_)
 ·refine ao 3 tk rfl ?_;obtain rfl:=ax H;refine aZ tk rfl (ps:=[(.val (.slice none 0 0)),(.val (.slice none 0 0)),(al 1)]) ⟨_,_,rfl,rfl,_,_,rfl,rfl,_,_,rfl,rfl,rfl⟩ (PLe.of2 (pj.tup (jg.cons (pj.nil tk rfl) (jg.cons (pj.nil tk rfl) (jg.cons (pj.of_eq rfl) jg.nil)))))
 refine ap (ab (ab (aa (af 2 tk rfl (az tk (zl _) ?_)))));refine ah tk rfl (ac ?_);refine dS tk 32 31 30 (fun s1 g1=>upd (upd (upd (upd (fun _=>.any) 6 (.ptr (fN p))) 4 (.ptr (bJ sA))) 3 (.list 69 (args.map ae))) 1 (.list 86 (st.map aI))) nB nO () H (fun fl1 Hp1 j1 s1 g1 hz1 hl1 x1 fb1 hx1 H hg1=>?_) (fun s1 g1 H=>?_)
 ·refine ab (aw (ab (aa (ah tk rfl ?_))));refine aR tk (zn j1) (bj (fun _=>rfl) hx1) ?_;refine af 3 tk rfl (ac (ab (aa (af 2 tk rfl ?_))))
  obtain⟨x39,k39,H⟩:=br H
  refine aR tk k39.1 (aM (fun _=>rfl) k39.2) ?_;refine ah tk rfl ?_
  obtain⟨x41,h41,H⟩:=cp H
  have s41:=qV x39;rw[h41]at s41;refine ak Tryz.call43 (iX.r) s41 ?_;refine af 2 tk rfl ?_;refine bh rfl rfl rfl H (fun H=>?_) (fun H=>?_)
  ·refine af 16 tk rfl (ac (bR rfl (ao 3 tk rfl ?_)));obtain rfl:=ax H;have e1:fl1= .ret _:=hg1;subst e1;obtain rfl:=aQ Hp1;refine aZ tk rfl (ps:=[(.val (.slice none 0 0)),(.val (.slice none 0 0)),(al 7)]) ⟨_,_,rfl,rfl,_,_,rfl,rfl,_,_,rfl,rfl,rfl⟩ (PLe.of2 (pj.tup (jg.cons (pj.nil tk rfl) (jg.cons (pj.nil tk rfl) (jg.cons (pj.of_eq rfl) jg.nil)))))
  refine af 2 tk rfl ?_
  obtain⟨x46,k46,H⟩:=br H
  refine aR tk k46.1 (aM (fun _=>rfl) k46.2) ?_;refine af 5 tk rfl ?_;refine bh rfl rfl rfl H (fun H=>?_) (fun H=>?_)
  ·refine af 2 tk rfl ?_
   obtain⟨x54,k54,H⟩:=br H
   refine aR tk k54.1 (aM (fun _=>rfl) k54.2) ?_;refine af 5 tk rfl (ac ?_);refine aE rfl H (fun H=>?_) (fun H=>?_)
   ·refine ao 3 tk rfl ?_;obtain rfl:=ax H;have e1:fl1= .ret _:=hg1;subst e1;obtain rfl:=aQ Hp1;refine aZ tk rfl (ps:=[(.val (.slice none 0 0)),(.val (.slice none 0 0)),(al 7)]) ⟨_,_,rfl,rfl,_,_,rfl,rfl,_,_,rfl,rfl,rfl⟩ (PLe.of2 (pj.tup (jg.cons (pj.nil tk rfl) (jg.cons (pj.nil tk rfl) (jg.cons (pj.of_eq rfl) jg.nil)))))
   refine ap (aH (be 2 tk rfl ?_));exact bl () H hl1 hg1
  refine af 8 tk rfl (ac (bA rfl (ap (aH (be 2 tk rfl ?_)))));exact bl () H hl1 hg1
 refine ab (ab (aa (af 2 tk rfl ?_)))
 obtain⟨x63,h63,H⟩:=av H
 have s63:=iM sA st _ h63;refine ak Tryz.call38 (iX.r) s63 ?_;refine ah tk rfl (ac (ao 2 tk rfl ?_));refine aE rfl H (fun H=>?_) (fun H=>?_)
 ·refine ao 4 tk rfl ?_;obtain rfl:=ax H;refine aZ tk rfl (ps:=[(.val (.slice none 0 0)),(.val (.slice none 0 0)),(al x63)]) ⟨_,_,rfl,rfl,_,_,rfl,rfl,_,_,rfl,rfl,rfl⟩ (PLe.of2 (pj.tup (jg.cons (pj.nil tk rfl) (jg.cons (pj.nil tk rfl) (jg.cons (pj.of_eq rfl) jg.nil)))))
 refine ap (ab (bn tk mok ⟨false,false,[]⟩ [0,1,2,3,4,5,6,7,8,9,10] rfl (by decide+kernel) rfl (aN 5 rfl (oe rfl rfl rfl rfl rfl rfl (zl _) rfl ?_))))
 obtain⟨x73,h73,H⟩:=av H
 have k73:=oP h73;refine vD rfl rfl rfl rfl rfl rfl (zl _) rfl rfl k73.1 (ql k73.2) rfl ?_;have s74:=clone_44 (m:=74) x73;refine aY Tryz.call44 (iX.r) (PFun.hX s74) ?_;refine bN rfl ?_;refine Do.box (d:=76) rfl rfl rfl rfl rfl rfl fun b76=>?_
 refine bN rfl (bm (ab (ab (aa (af 3 tk rfl (dc (Gh.nilOB tk 76 7 1607 (e:=56) rfl rfl rfl rfl) (dc (Gh.nilOB tk 76 8 1608 (e:=64) rfl rfl rfl rfl) ?_)))))))
 obtain⟨x80,h80,H⟩:=av H
 have s80:=rU b76 (⟨none,0⟩) (⟨none,0⟩) (LProcedureRun.mk sA st x73 [] [] [] [] 400 false) p.body _ h80;refine dc (st':=⟨_,_,upd (fun _=>none) 76 (some ⟨b76,[(.list 95 ((((LProcedureRun.mk sA st x73 [] [] [] [] 400 false).s).tables).map bc)),(.list 145 ((((LProcedureRun.mk sA st x73 [] [] [] [] 400 false).s).foreignKeys).map ct)),(.list 151 ((((LProcedureRun.mk sA st x73 [] [] [] [] 400 false).s).constraints).map cF)),(.list 86 (((LProcedureRun.mk sA st x73 [] [] [] [] 400 false).st).map aI)),(.list 69 (((LProcedureRun.mk sA st x73 [] [] [] [] 400 false).args).map ae)),(.list 93 (((LProcedureRun.mk sA st x73 [] [] [] [] 400 false).vars).map aF)),(.list 69 (((LProcedureRun.mk sA st x73 [] [] [] [] 400 false).vals).map ae)),(.own 1607 ⟨none,0⟩ (([]:List LChange).map aV).length),(.own 1608 ⟨none,0⟩ (([]:List LResult).map aU).length),(al ((LProcedureRun.mk sA st x73 [] [] [] [] 400 false).left)),(aB ((LProcedureRun.mk sA st x73 [] [] [] [] 400 false).stopped))]⟩),upd (upd (fun _=>none) 1608 (some ⟨⟨none,0⟩,64,(([]:List LResult).map aU),true⟩)) 1607 (some ⟨⟨none,0⟩,56,(([]:List LChange).map aV),true⟩)⟩) (Gh.le (cj _ _) (bi rfl (iX.of2 (jg.cons (pj.of_eq rfl) (jg.cons (pj.of_eq rfl) (jg.cons (pj.of_eq rfl) (jg.cons (pj.of_eq rfl) (jg.cons (pj.of_eq rfl) (jg.cons (pj.nil tk rfl) (jg.cons (pj.nil tk rfl) (jg.cons (pj.of_eq rfl) (jg.cons (pj.of_eq rfl) (jg.cons (pj.of_eq rfl) (jg.cons (pj.of_eq rfl) jg.nil)))))))))))) aK) (bd (bd aL))) ?_;refine dw (g:=45) rfl rfl rfl Tryz.call45 [(76,1500)] [(1607,1607),(1608,1608)] rfl rfl rfl rfl (iX.of2 (jg.cons pj.boxT (jg.cons (pj.of_eq rfl) jg.nil))) (by rw[eu,cE,bU,bU,cD];rfl) s80 ?_;rintro u80 H80h ⟨gz80_1607,gz80_1608,rfl,rfl⟩
 refine⟨_,rfl,?_⟩
 refine dc (st':=⟨_,_,upd (fun _=>none) 76 (some ⟨b76,[(.list 95 (x80.2.s.tables.map bc)),(.list 145 (x80.2.s.foreignKeys.map ct)),(.list 151 (x80.2.s.constraints.map cF)),(.list 86 (x80.2.st.map aI)),(.list 69 (x80.2.args.map ae)),(.list 93 (x80.2.vars.map aF)),(.list 69 (x80.2.vals.map ae)),(.own 1607 gz80_1607 (x80.2.changes.map aV).length),(.own 1608 gz80_1608 (x80.2.results.map aU).length),(al x80.2.left),(aB x80.2.stopped)]⟩),upd (upd (fun _=>none) 1608 (some ⟨gz80_1608,64,(x80.2.results.map aU),true⟩)) 1607 (some ⟨gz80_1607,56,(x80.2.changes.map aV),true⟩)⟩) (Gh.le (cj _ _) (bi rfl (iX.r) aK) (bd (bd aL))) ?_;refine ah tk rfl (ac (ao 2 tk rfl ?_));refine aE rfl H (fun H=>?_) (fun H=>?_)
 ·refine ao 4 tk rfl ?_;obtain rfl:=ax H;refine aZ tk rfl (ps:=[(.val (.slice none 0 0)),(.val (.slice none 0 0)),(al x80.1)]) ⟨_,_,rfl,rfl,_,_,rfl,rfl,_,_,rfl,rfl,rfl⟩ (PLe.of2 (pj.tup (jg.cons (pj.nil tk rfl) (jg.cons (pj.nil tk rfl) (jg.cons (pj.of_eq rfl) jg.nil)))))
 refine ap (ab (bn tk mok ⟨true,false,[]⟩ [0,1,2,3,4,5,6,7,8,9,10] rfl (by decide+kernel) rfl (aN 3 rfl (bK ?_))));refine aN 3 rfl (bK ?_);refine aN 3 rfl (bm (cS 8 rfl rfl rfl (cS 9 rfl rfl rfl ?_)));exact aW tk H rfl
def iq(sA:LSchema)(st:List LRelation)(q:LQuery)(args:Rq):Option (LResult×Bool):=
 ag (kS sA st q args) fun x17=>
 some (x17.1,(x17.2==(0:Int)))
theorem rN(sA:LSchema)(st:List LRelation)(q:LQuery)(args:Rq)(r:LResult×Bool)(H:iq sA st q args=some r):
  aJ Tryz.prog 27 [(.agg (bJ sA)),(.list 86 (st.map aI)),(.agg (aO q)),(.list 69 (args.map ae))] (.tup [(.agg (aU r.1)),(aB r.2)]):=by
 unfold iq at H;refine PH.au Tryz.func27 Tryz.ntmps27 ?_;refine ab (aa (aC ?_));refine aC ?_;refine ba tk fun b8=>?_
 refine ah tk rfl (ac (ab (aa (af 4 tk rfl ?_))))
 obtain⟨x17,h17,H⟩:=av H
 have s17:=uR sA st q args _ h17;refine ak Tryz.call36 (iX.r) s17 ?_;refine af 3 tk rfl ?_;refine ba tk fun b10=>?_
 refine aq tk ?_;refine ah tk rfl (ac (ab (aa (aA tk ?_))));refine af 2 tk rfl (aq tk ?_);refine ah tk rfl (ac ?_);obtain rfl:=ax H;refine aZ tk rfl (ps:=[(.agg (aU x17.1)),(aB (x17.2==(0:Int)))]) ⟨_,_,rfl,⟨_,_,_,_,_,rfl,rfl,rfl,rfl⟩,_,_,rfl,rfl,rfl⟩ (PLe.q rfl)
def cX(sA:LSchema)(st:List LRelation)(table:List UInt8)(p:LExpr):Option (Bool):=
 letP (sampleV) fun x21=>
 cond (!x21)
  (some false)
  (ag (
   letP (jc p 100) fun x30=>
   cond (decide (x30<(0:Int)))
    (some true)
    (ag (ip sA st (LProcedureProcedure.mk [] [(LProcedureStatement.mk 6 0 [] table [] [] [p] [] [] [])])) fun x36=>
    some (!x36))) fun(t1:Bool)=>
  cond t1
   (some true)
   (ag (kv sA st (LProcedureProcedure.mk [] [(LProcedureStatement.mk 6 0 [] table [] [] [p] [] [] [])]) ([]:Rq)) fun x43=>
   ag (iP sA st x43.1) fun x51=>
   letP (
    cond (x43.2.2 !=(0:Int))
     (true)
     ((x51.2 !=(0:Int)))) fun(t2:Bool)=>
   cond t2
    (some false)
    (letP (gm false) fun x61=>
    letP (gm true) fun x63=>
    letP (iZ (LExpr.mk 5 [105,102] 0 (LVal.mk 0 0 []) [p,(LExpr.mk 1 [] 0 x61 []),(LExpr.mk 1 [] 0 x63 [])]) (LQuery.mk 1 table [] [] [] [] 0 0 [])) fun x69=>
    ag (jQ sA st x69 ([]:Rq)) fun x73=>
    cond (!x73)
     (some true)
     (ag (iq sA st x69 ([]:Rq)) fun x79=>
     ag (cT sA table) fun x85=>
     letP (
      cond (!x79.2)
       (true)
       ((!x85.2))) fun(t3:Bool)=>
     cond t3
      (some false)
      (ag (gO st) fun x95=>
      ag (getI x95 x85.1) fun(x100:LRelation)=>
      letP (x95.set x85.1.toNat (LRelation.mk x100.table x79.1.rows)) fun(y4:List LRelation)=>
      ag (jL x51.1 y4) fun x104=>
      some x104)))))
theorem ke(sA:LSchema)(st:List LRelation)(table:List UInt8)(p:LExpr)(r:Bool)(H:cX sA st table p=some r):
  aJ Tryz.prog 5 [(.agg (bJ sA)),(.list 86 (st.map aI)),(.str table),(.agg (fV p))] (aB r):=by
 unfold cX at H;refine PH.au Tryz.func5 Tryz.ntmps5 ?_;refine ab (aa (aC ?_));refine aC ?_;refine ah tk rfl (ac (ab (ab (aa ?_))))
 obtain⟨x21,h21,H⟩:=cp H
 have s21:=sampleV_spec;rw[h21]at s21;refine ak Tryz.call7 (iX.r) s21 ?_;refine ah tk rfl (ac ?_);refine aE rfl H (fun H=>?_) (fun H=>?_)
 ·refine ao 1 tk rfl ?_;exact aW tk H rfl
 refine ap (ab (aa (af 2 tk rfl (bX tk (rows':=List.map dL ([p]:List LExpr)) (fW.trans (b:=List.map fV [p]) (fW.refl _) (fW.of_eq (lT cx [p]))) ?_))));refine ah tk rfl (bX tk (rows':=List.map aT ([(LProcedureStatement.mk 6 0 [] table [] [] [p] [] [] [])]:List LProcedureStatement)) (fW.trans (b:=List.map aP [(LProcedureStatement.mk 6 0 [] table [] [] [p] [] [] [])]) (fW.cons (rk.cons (pj.of_eq rfl) (rk.cons (pj.of_eq rfl) (rk.cons (pj.of_eq rfl) (rk.cons (pj.of_eq rfl) (rk.cons (pj.nil tk rfl) (rk.cons (pj.nil tk rfl) (rk.cons (pj.of_eq rfl) (rk.cons (pj.nil tk rfl) (rk.cons (pj.nil tk rfl) (rk.cons (pj.nil tk rfl) rk.nil)))))))))) fW.nil) (fW.of_eq (lT eS [(LProcedureStatement.mk 6 0 [] table [] [] [p] [] [] [])]))) ?_);refine ah tk rfl ?_;refine ba tk fun b9=>?_
 refine aq tk ?_;refine ac (ab (ab ?_));refine ew (γ:=Unit) (fun t1 g1=>⟨105,upd (upd (upd (upd (upd (upd (fun _=>.any) 38 (aB t1)) 9 (.box 9 b9 0)) 7 (.ptr (fV p))) 4 (.ptr (bJ sA))) 2 (.str table)) 1 (.list 86 (st.map aI)),upd (fun _=>none) 9 (some ⟨b9,[(.val (.slice none 0 0)),(.list 40 (([(LProcedureStatement.mk 6 0 [] table [] [] [p] [] [] [])]:List LProcedureStatement).map aT))]⟩),fun _=>none⟩) H (fun _ H=>?_) (fun t1 g1 H=>?_)
 ·refine aa (ah tk rfl ?_)
  obtain⟨x30,h30,H⟩:=cp H
  have s30:=pw p 100;rw[h30]at s30;refine ak Tryz.call23 (iX.r) s30 ?_;refine af 2 tk rfl ?_;refine bh rfl rfl rfl H (fun H=>?_) (fun H=>?_)
  ·refine af 6 tk rfl (ac ?_);refine aS _ () (ax H) Gh.d
  refine af 2 tk rfl (aA tk ?_)
  obtain⟨x36,h36,H⟩:=av H
  have s36:=rK sA st (LProcedureProcedure.mk [] [(LProcedureStatement.mk 6 0 [] table [] [] [p] [] [] [])]) _ h36;refine ak Tryz.call8 (iX.of2 (jg.cons (pj.of_eq rfl) (jg.cons (pj.of_eq rfl) (jg.cons (pj.agg (jg.cons (pj.nil tk rfl) (jg.cons (pj.of_eq rfl) jg.nil))) jg.nil)))) s36 ?_;refine af 2 tk rfl (ac ?_);refine aS _ () (ax H) Gh.d
 refine aE rfl H (fun H=>?_) (fun H=>?_)
 ·refine ao 1 tk rfl ?_;exact aW tk H rfl
 refine ap (ab (aa (af 2 tk rfl (aA tk ?_))))
 obtain⟨x43,h43,H⟩:=av H
 have s43:=vc sA st (LProcedureProcedure.mk [] [(LProcedureStatement.mk 6 0 [] table [] [] [p] [] [] [])]) ([]:Rq) _ h43;refine ak Tryz.call14 (iX.of2 (jg.cons (pj.of_eq rfl) (jg.cons (pj.of_eq rfl) (jg.cons (pj.agg (jg.cons (pj.nil tk rfl) (jg.cons (pj.of_eq rfl) jg.nil))) (jg.cons (pj.nil tk rfl) jg.nil))))) s43 ?_;refine af 7 tk rfl (ac (ab (aa (af 3 tk rfl ?_))))
 obtain⟨x51,h51,H⟩:=av H
 have s51:=rc sA st x43.1 _ h51;refine ak Tryz.call15 (iX.r) s51 ?_;refine af 5 tk rfl (ac (ab (ab ?_)));refine eM (γ:=Unit) (fun t2 g2=>⟨105,upd (upd (upd (upd (upd (upd (fun _=>.any) 59 (aB t2)) 13 (.list 86 (x51.1.map aI))) 7 (.ptr (fV p))) 4 (.ptr (bJ sA))) 2 (.str table)) 1 (.list 86 (st.map aI)),fun _=>none,fun _=>none⟩) H (fun _ H=>?_) (fun t2 g2 H=>?_)
 ·refine aa (af 3 tk rfl ?_);refine bh rfl rfl rfl H (fun H=>?_) (fun H=>?_)
  ·refine af 3 tk rfl (ac ?_);refine aS _ () H Gh.d
  refine af 3 tk rfl (ac ?_);refine aS _ () H Gh.d
 refine aE rfl H (fun H=>?_) (fun H=>?_)
 ·refine ao 1 tk rfl ?_;exact aW tk H rfl
 refine ap (ab (bn tk mok ⟨false,false,[]⟩ [0,7,8,1,2,3,4,5,6,9,10,11] rfl (by decide+kernel) rfl (aN 3 rfl ?_)))
 obtain⟨x61,h61,H⟩:=cp H
 have s61:=kX false;rw[h61]at s61;refine aY Tryz.call25 (iX.r) s61 ?_;refine bN rfl ?_
 obtain⟨x63,h63,H⟩:=cp H
 have s63:=kX true;rw[h63]at s63;refine aY Tryz.call25 (iX.r) s63 ?_;refine aN 3 rfl ?_
 obtain⟨x69,h69,H⟩:=cp H
 have s69:=sX (LExpr.mk 5 [105,102] 0 (LVal.mk 0 0 []) [p,(LExpr.mk 1 [] 0 x61 []),(LExpr.mk 1 [] 0 x63 [])]) (LQuery.mk 1 table [] [] [] [] 0 0 []);rw[h69]at s69;refine aY Tryz.call24 (iX.of2 (jg.cons (pj.agg (jg.cons (pj.of_eq rfl) (jg.cons (pj.of_eq rfl) (jg.cons (pj.of_eq rfl) (jg.cons (pj.of_eq rfl) (jg.cons (pj.of_eq rfl) (jg.cons (pj.of_eq rfl) (jg.cons (pj.list (fW.trans (b:=List.map fV [p,(LExpr.mk 1 [] 0 x61 []),(LExpr.mk 1 [] 0 x63 [])]) (fW.cons (rk.refl _) (fW.cons (rk.cons (pj.of_eq rfl) (rk.cons (pj.of_eq rfl) (rk.cons (pj.of_eq rfl) (rk.cons (pj.of_eq rfl) (rk.cons (pj.of_eq rfl) (rk.cons (pj.of_eq rfl) (rk.cons (pj.nil tk rfl) rk.nil))))))) (fW.cons (rk.cons (pj.of_eq rfl) (rk.cons (pj.of_eq rfl) (rk.cons (pj.of_eq rfl) (rk.cons (pj.of_eq rfl) (rk.cons (pj.of_eq rfl) (rk.cons (pj.of_eq rfl) (rk.cons (pj.nil tk rfl) rk.nil))))))) fW.nil))) (fW.of_eq (lT cx [p,(LExpr.mk 1 [] 0 x61 []),(LExpr.mk 1 [] 0 x63 [])])))) jg.nil)))))))) (jg.cons (pj.agg (jg.cons (pj.of_eq rfl) (jg.cons (pj.of_eq rfl) (jg.cons (pj.nil tk rfl) (jg.cons (pj.nil tk rfl) (jg.cons (pj.nil tk rfl) (jg.cons (pj.nil tk rfl) (jg.cons (pj.of_eq rfl) (jg.cons (pj.of_eq rfl) (jg.cons (pj.nil tk rfl) jg.nil)))))))))) jg.nil))) s69 ?_;refine nU rfl rfl rfl rfl rfl rfl rfl rfl fun b15=>?_
 refine jX rfl rfl rfl rfl rfl rfl rfl rfl rfl rfl rfl rfl (bm (ab (ab (aa (af 2 tk rfl (aA tk ?_))))))
 obtain⟨x73,h73,H⟩:=av H
 have s73:=uQ sA st x69 ([]:Rq) _ h73;refine ak Tryz.call26 (iX.of2 (jg.cons (pj.of_eq rfl) (jg.cons (pj.of_eq rfl) (jg.cons (pj.of_eq rfl) (jg.cons (pj.nil tk rfl) jg.nil))))) s73 ?_;refine ah tk rfl (ac ?_);refine aE rfl H (fun H=>?_) (fun H=>?_)
 ·refine ao 1 tk rfl ?_;exact aW tk H rfl
 refine ap (ab (aa (af 2 tk rfl (aA tk ?_))))
 obtain⟨x79,h79,H⟩:=av H
 have s79:=rN sA st x69 ([]:Rq) _ h79;refine ak Tryz.call27 (iX.of2 (jg.cons (pj.of_eq rfl) (jg.cons (pj.of_eq rfl) (jg.cons (pj.of_eq rfl) (jg.cons (pj.nil tk rfl) jg.nil))))) s79 ?_;refine af 3 tk rfl ?_;refine ba tk fun b16=>?_
 refine aq tk ?_;refine ah tk rfl (ac (ab (aa (af 2 tk rfl ?_))))
 obtain⟨x85,h85,H⟩:=av H
 have s85:=gS sA table _ h85;refine ak Tryz.call28 (iX.r) s85 ?_;refine af 5 tk rfl (ac (ab (ab ?_)));refine eM (γ:=Unit) (fun t3 g3=>⟨105,upd (upd (upd (upd (upd (fun _=>.any) 93 (aB t3)) 18 (al x85.1)) 16 (.box 16 b16 0)) 13 (.list 86 (x51.1.map aI))) 1 (.list 86 (st.map aI)),upd (fun _=>none) 16 (some ⟨b16,(aU x79.1)⟩),fun _=>none⟩) H (fun _ H=>?_) (fun t3 g3 H=>?_)
 ·refine aa (af 3 tk rfl ?_);refine bh rfl rfl rfl H (fun H=>?_) (fun H=>?_)
  ·refine af 3 tk rfl (ac ?_);refine aS _ () H Gh.d
  refine af 3 tk rfl (ac ?_);refine aS _ () H Gh.d
 refine aE rfl H (fun H=>?_) (fun H=>?_)
 ·refine ao 1 tk rfl ?_;exact aW tk H rfl
 refine ap (ab (aa (ah tk rfl ?_)))
 obtain⟨x95,h95,H⟩:=av H
 have s95:=pV (m:=95) st _ h95;refine jG Tryz.call29 (iX.r) s95 (fun g95=>?_);refine ah tk rfl (ac (ab (aa (af 3 tk rfl (aA tk ?_)))))
 obtain⟨x100,k100,H⟩:=br H
 refine lU (tag:=95) rfl (fun ho95=>?_);refine kZ tk ⟨k100.1,(dB k100.2)⟩ (dK ho95 k100.2) ?_;refine ah tk rfl ?_
 obtain⟨y4,hy4,H⟩:=cp H
 refine oS tk rfl rfl rfl rfl rfl rfl rfl rfl (by rw[zl];exact(zg.1 k100.2).1) (PLe.refl _ _) rfl rfl rfl rfl (by decide) (fo (fun _=>rfl) k100.2 rfl hy4) ?_;refine ac (ab (cS 20 rfl rfl (eQ (f:=aI) hy4) (aa (af 2 tk rfl ?_))))
 obtain⟨x104,h104,H⟩:=av H
 have s104:=uU x51.1 y4 _ h104;refine ak Tryz.call30 (iX.r) s104 ?_;refine ah tk rfl (ac ?_);exact aW tk H rfl
end
end Go.Proofs.YtafdcemcgfbhcaaGreatDoor

namespace Go.Proofs.YtafdcemcgfbhcaaGreatDoor
noncomputable section
open Go Go.Ab
theorem LQuery.inputs_lt{q x:LQuery}(h:x∈q.inputs):SizeOf.sizeOf x<SizeOf.sizeOf q:=by
 cases q;simp only[LQuery.inputs]at h
 have:=List.sizeOf_lt_of_mem h
 simp only[LQuery.mk.sizeOf_spec];omega
theorem LQuery.ind{p:LQuery→Prop}(h:∀q:LQuery,(∀x∈q.inputs,p x)→p q):∀q,p q:=by
 intro q;generalize hn:SizeOf.sizeOf q=n;induction n using Nat.strongRecOn generalizing q with
 |_ n ih=>exact h q fun x hx=>ih _ (hn▸LQuery.inputs_lt hx) x rfl
theorem ev_all{α:Type}{p:α→Nat→Prop}:∀(xs:List α),(∀x∈xs,∃N,∀n,N≤n→p x n)→∃N,∀n,N≤n→∀x∈xs,p x n
 |[],_=>⟨0,fun _ _ x hx=>by simp at hx⟩
 |y::xs,h=>by
  obtain⟨N,hN⟩:=h y (by simp)
  obtain⟨N',hN'⟩:=ev_all xs fun x hx=>h x (by simp[hx])
  refine⟨N+N',fun n hn x hx=>?_⟩
  rcases List.mem_cons.1 hx with rfl|hx
  ·exact hN n (by omega)
  ·exact hN' n (by omega) x hx
theorem lP{α σ ρ:Type}{step step':Nat→α→σ→Option (Flow σ ρ)}:∀(xs:List α) (j:Nat) (s:σ),(∀k x s,xs[k]?=some x→step (j+k) x s=step' (j+k) x s)→aG step j xs s=aG step' j xs s
 |[],_,_,_=>rfl
 |x::xs,j,s,h=>by
  have h0:=h 0 x s rfl;rw[Nat.add_zero]at h0;rw[aG,aG,h0];split
  ·rfl
  ·exact lP xs (j+1) _ fun k y t hk=>by
    have:=h (k+1) y t (by simpa using hk)
    rwa [show j+(k+1)=j+1+k from by omega]at this
  ·rfl
  ·rfl
theorem eH{α:Type}{xs:List α}{k:Nat}{x:α}(h:xs[k]?=some x):x∈xs:=List.mem_of_getElem? h
theorem pE{γ β:Type}{F:Nat→γ→LQuery→Option β}{O:(γ→LQuery→Option β)→γ→LQuery→Option β}(hF:∀n,F (n+1)=O (F n))(c:γ)(q:LQuery)
  (hc:∀r r':γ→LQuery→Option β,(∀x∈q.inputs,r c x=r' c x)→O r c q=O r' c q) (hx:∀x∈q.inputs,∃v,jl (fun n=>F n c x)=some v) {r:β} (h:O (fun c q=>jl fun n=>F n c q) c q=some r):
  jl (fun n=>F n c q)=some r:=by
 obtain⟨N,hN⟩:=ev_all (p:=fun x n=>F n c x=jl fun n=>F n c x) q.inputs (fun x hm=>by
  obtain⟨v,hv⟩:=hx x hm
  obtain⟨N,hN⟩:=limN_ev hv
  exact⟨N,fun n hn=>by rw[hN n hn,hv]⟩)
 refine oq (N+1) fun m hm=>?_
 obtain⟨m,rfl⟩:∃k,m=k+1:=⟨m-1,by omega⟩
 rw[hF,hc _ (fun c q=>jl fun n=>F n c q) (hN m (by omega)),h]
def da(q:LQuery):List LQuery:=q::(q.inputs.attach.map fun x=>da x.1).flatten
termination_by SizeOf.sizeOf q
decreasing_by exact LQuery.inputs_lt x.2
theorem kr(q:LQuery):da q=q::(q.inputs.map da).flatten:=by
 rw[da,List.attach_map_val (f:=da)]
theorem flat_le{α β:Type}{f:α→List β}{xs:List α}{x:α}(h:x∈xs):(f x).length≤((xs.map f).flatten).length:=by
 induction xs with
 |nil=>simp at h
 |cons y xs ih=>
  simp only[List.map_cons,List.flatten_cons,List.length_append];rcases List.mem_cons.1 h with rfl|h
  ·omega
  ·have:=ih h;omega
theorem lW{q x:LQuery}(h:x∈q.inputs):(da x).length+1≤(da q).length:=by
 rw[kr q]
 have:=flat_le (f:=da) h
 simp only[List.length_cons];omega
theorem bM{α:Type}{bytes:Nat}{xs ys:List α}(hb:bytes≤200)(h:xs.length+ys.length≤10000000):db bytes xs ys=some (xs++ys):=by
 refine appI_ok ?_ (by unfold maxLen;omega)
 have:(xs.length+ys.length)*bytes≤10000000*200:=Nat.mul_le_mul h hb
 omega
theorem take_flat{α β:Type}{f:α→List β}{xs:List α}{k:Nat}:(((xs.take k).map f).flatten).length≤((xs.map f).flatten).length:=by
 induction xs generalizing k with
 |nil=>simp
 |cons y xs ih=>
  cases k with
  |zero=>simp
  |succ k=>simp only[List.take_succ_cons,List.map_cons,List.flatten_cons,List.length_append];have:=ih (k:=k);omega
theorem nodes_ok:∀q:LQuery,(da q).length≤10000000→kh q=some (da q):=by
 refine LQuery.ind fun q ih hb=>?_
 refine pE (γ:=Unit) (F:=fun n _ q=>kq n q) (O:=fun r _ q=>km (fun x=>r () x) q) (fun n=>rfl) () q ?_ (fun x hx=>⟨_,ih x hx (by have:=lW hx;omega)⟩) ?_
 ·intro r r' h;simp only[km];congr 1;exact lP q.inputs 0 _ fun k x s hk=>by rw[h x (eH hk)]
 ·have hr:=rMa (step:=fun(_:Nat) (x1:LQuery) (s1:List LQuery)=>ag (kh x1) fun x17=>ag (db 160 s1 x17) fun(x18:List LQuery)=>some (Flow.next (ρ:=Empty) x18)) (xs:=q.inputs) (s:=[q])
   (fun k=>q::((q.inputs.take k).map da).flatten) (by simp) (fun k x hk=>by
    have hx:=eH hk;rw[ih x hx (by have:=lW hx;omega),bPs,bM (by decide),bPs]
    ·rw[List.take_add_one,hk];simp
    ·have h1:(((q.inputs.take (k+1)).map da).flatten).length≤((q.inputs.map da).flatten).length:=take_flat;rw[List.take_add_one,hk]at h1;rw[kr]at hb;simp at h1 hb⊢;omega)
  simp only[km];have e:∀x,(jl fun n=>kq n x)=kh x:=fun _=>rfl
  simp only[e];rw[hr,bPs,bT,List.take_length,kr]
def dI(a b:Int):Int:=if b>a then b else a
theorem rp{a b c:Int}(h:a≤c)(h':b≤c):dI a b≤c:=by unfold dI;split<;>assumption
theorem jT(a b:Int):a≤dI a b:=by unfold dI;split<;>omega
theorem pe(a b:Int):b≤dI a b:=by unfold dI;split<;>omega
def ik(q:LQuery):Int:=(q.inputs.attach.map fun x=>ik x.1).foldl dI 0+1
termination_by SizeOf.sizeOf q
decreasing_by exact LQuery.inputs_lt x.2
theorem qG(q:LQuery):ik q=(q.inputs.map ik).foldl dI 0+1:=by
 rw[ik,List.attach_map_val (f:=ik)]
theorem sy:∀{l:List Int} {a c:Int},a≤c→(∀x∈l,x≤c)→l.foldl dI a≤c
 |[],_,_,h,_=>h
 |x::l,a,c,h,hl=>sy (l:=l) (rp h (hl x (by simp))) fun y hy=>hl y (by simp[hy])
theorem pl:∀{l:List Int} {a:Int},a≤l.foldl dI a∧∀x∈l,x≤l.foldl dI a
 |[],a=>⟨Int.le_refl a,by simp⟩
 |x::l,a=>by
  obtain⟨h1,h2⟩:=pl (l:=l) (a:=dI a x)
  simp only[List.foldl_cons]
  refine⟨Int.le_trans (jT a x) h1,fun y hy=>?_⟩
  rcases List.mem_cons.1 hy with rfl|hy
  ·exact Int.le_trans (pe a y) h1
  ·exact h2 y hy
theorem depthQ_nodes:∀q:LQuery,1≤ik q∧ik q≤(da q).length:=by
 refine LQuery.ind fun q ih=>?_
 rw[qG,kr]
 have h1:(q.inputs.map ik).foldl dI 0≤(((q.inputs.map da).flatten).length:Nat):=sy (by omega) fun x hx=>by
  obtain⟨y,hy,rfl⟩:=List.mem_map.1 hx
  have:=(ih y hy).2
  have:=flat_le (f:=da) hy
  omega
 have h2:=(pl (l:=q.inputs.map ik) (a:=0)).1;simp only[List.length_cons];omega
theorem depthQ_sub{q x:LQuery}(h:x∈q.inputs):ik x+1≤ik q:=by
 rw[qG q]
 have:=(pl (l:=q.inputs.map ik) (a:=0)).2 (ik x) (List.mem_map.2 ⟨x,h,rfl⟩)
 omega
theorem depth_ok:∀q:LQuery,(da q).length≤10000000→ll q=some (ik q):=by
 refine LQuery.ind fun q ih hb=>?_
 refine pE (γ:=Unit) (F:=fun n _ q=>kn n q) (O:=fun r _ q=>kp (fun x=>r () x) q) (fun n=>rfl) () q ?_ (fun x hx=>⟨_,ih x hx (by have:=lW hx;omega)⟩) ?_
 ·intro r r' h;simp only[kp];congr 1;exact lP q.inputs 0 _ fun k x s hk=>by rw[h x (eH hk)]
 ·have hr:=rMa (step:=fun(_:Nat) (x1:LQuery) (s1:Int)=>ag (ll x1) fun x15=>some (Flow.next (ρ:=Empty) (if x15>s1 then x15 else s1))) (xs:=q.inputs) (s:=0)
   (fun k=>((q.inputs.take k).map ik).foldl dI 0) (by simp) (fun k x hk=>by
    have hx:=eH hk;rw[ih x hx (by have:=lW hx;omega),bPs,List.take_add_one,hk];simp[dI])
  simp only[kp];have e:∀x,(jl fun n=>kn n x)=ll x:=fun _=>rfl
  simp only[e];rw[hr,bPs,bT,List.take_length,qG];have h:=depthQ_nodes q;rw[qG]at h;rw[bB (by omega) (by omega)]
def nT(n:Int):Int:=if 20001<n then 20001 else n
def jr(kind:Int)(s:Int×Int)(j:Nat)(x:Int×Int):Int×Int:=
 (nT (if j=0 then x.1 else if kind=6 then s.1+x.1 else if kind=4∨kind=5 then s.1*dI 1 x.1 else s.1),dI s.2 x.2)
def eE(kind:Int):Nat→List (Int×Int)→Int×Int→Int×Int
 |_,[],s=>s
 |j,x::l,s=>eE kind (j+1) l (jr kind s j x)
def bF(q:LQuery):Int×Int:=
 let s:=eE q.kind 0 (q.inputs.attach.map fun x=>bF x.1) (0,0)
 if q.kind=1 then(24,dI s.2 24)else(s.1,dI s.2 s.1)
termination_by SizeOf.sizeOf q
decreasing_by exact LQuery.inputs_lt x.2
theorem ow(q:LQuery):bF q=if q.kind=1 then(24,dI (eE q.kind 0 (q.inputs.map bF) (0,0)).2 24)else((eE q.kind 0 (q.inputs.map bF) (0,0)).1,dI (eE q.kind 0 (q.inputs.map bF) (0,0)).2 (eE q.kind 0 (q.inputs.map bF) (0,0)).1):=by
 rw[bF,List.attach_map_val (f:=bF)]
def oK(s:Int×Int):Prop:=0≤s.1∧s.1≤20001∧0≤s.2∧s.2≤20001
theorem capI_b{n:Int}(h:0≤n):0≤nT n∧nT n≤20001:=by unfold nT;split<;>omega
theorem mostStep_r{kind:Int}{s x:Int×Int}{j:Nat}(hs:oK s)(hx:oK x):oK (jr kind s j x):=by
 obtain⟨a1,a2,a3,a4⟩:=hs
 obtain⟨b1,b2,b3,b4⟩:=hx
 unfold jr
 have h1:0≤(if j=0 then x.1 else if kind=6 then s.1+x.1 else if kind=4∨kind=5 then s.1*dI 1 x.1 else s.1):=by
  split
  ·exact b1
  ·split
   ·omega
   ·split
    ·exact Int.mul_nonneg a1 (Int.le_trans (by decide) (jT 1 x.1))
    ·exact a1
 exact⟨(capI_b h1).1,(capI_b h1).2,Int.le_trans a3 (jT _ _),rp a4 b4⟩
theorem rV{kind:Int}:∀{l:List (Int×Int)} {j:Nat} {s:Int×Int},oK s→(∀x∈l,oK x)→oK (eE kind j l s)
 |[],_,_,h,_=>h
 |x::l,j,s,h,hl=>rV (l:=l) (mostStep_r h (hl x (by simp))) fun y hy=>hl y (by simp[hy])
theorem mostQ_r:∀q:LQuery,oK (bF q):=by
 refine LQuery.ind fun q ih=>?_
 rw[ow]
 have h:oK (eE q.kind 0 (q.inputs.map bF) (0,0)):=rV ⟨by decide,by decide,by decide,by decide⟩ fun x hx=>by
  obtain⟨y,hy,rfl⟩:=List.mem_map.1 hx
  exact ih y hy
 obtain⟨a1,a2,a3,a4⟩:=h
 split
 ·exact⟨show(0:Int)≤24 by decide,show(24:Int)≤20001 by decide,Int.le_trans a3 (jT _ _),rp a4 (by decide)⟩
 ·exact⟨a1,a2,Int.le_trans a3 (jT _ _),rp a4 a2⟩
theorem sR(kind:Int):∀(l:List (Int×Int)) (j:Nat) (s x:Int×Int),eE kind j (l++[x]) s=jr kind (eE kind j l s) (j+l.length) x
 |[],j,s,x=>by simp[eE]
 |y::l,j,s,x=>by
  rw[List.cons_append,eE,sR kind l (j+1),eE];congr 1;simp;omega
theorem mostStep_run{kind:Int}{s x:Int×Int}{j:Nat}(hs:oK s)(hx:oK x):
  (cond ((j:Int)==(0:Int))
   (some (Flow.next (ρ:=Empty) ((if(20001:Int)<x.1 then(20001:Int)else x.1),(if x.2>s.2 then x.2 else s.2))))
   (cond (kind==(6:Int))
    (some (.next ((if(20001:Int)<(IntKind.i64.wrap (s.1+x.1))then(20001:Int)else(IntKind.i64.wrap (s.1+x.1))),(if x.2>s.2 then x.2 else s.2))))
    (letP (
     cond (kind==(4:Int))
      (true)
      ((kind==(5:Int)))) fun(t4:Bool)=>
    cond t4
     (some (.next ((if(20001:Int)<(IntKind.i64.wrap (s.1*(if x.1>(1:Int)then x.1 else(1:Int))))then(20001:Int)else(IntKind.i64.wrap (s.1*(if x.1>(1:Int)then x.1 else(1:Int))))),(if x.2>s.2 then x.2 else s.2))))
     (some (.next ((if(20001:Int)<s.1 then(20001:Int)else s.1),(if x.2>s.2 then x.2 else s.2)))))))=some (.next (jr kind s j x)):=by
 obtain⟨a1,a2,a3,a4⟩:=hs
 obtain⟨b1,b2,b3,b4⟩:=hx
 have hm:1≤dI 1 x.1∧dI 1 x.1≤20001:=⟨jT _ _,rp (by decide) b2⟩
 have hp:0≤s.1*dI 1 x.1∧s.1*dI 1 x.1≤20001*20001:=⟨Int.mul_nonneg a1 (by omega),Int.mul_le_mul a2 hm.2 (by omega) (by decide)⟩
 have hw1:IntKind.i64.wrap (s.1+x.1)=s.1+x.1:=bB (by omega) (by omega);have hw2:IntKind.i64.wrap (s.1*(if x.1>(1:Int)then x.1 else(1:Int)))=s.1*dI 1 x.1:=bB (by show _≤s.1*dI 1 x.1;omega) (by show s.1*dI 1 x.1≤_;omega);rw[hw1,hw2];unfold jr nT dI letP;by_cases h0:j=0
 ·subst h0;simp
 ·have:((j:Int)==(0:Int))=false:=by simp;omega
  rw[this];by_cases h6:kind=6
  ·subst h6;simp[h0]
  ·by_cases h4:kind=4
   ·subst h4;simp[h0]
   ·by_cases h5:kind=5
    ·subst h5;simp[h0]
    ·have e6:(kind==(6:Int))=false:=by simpa using h6
     have e4:(kind==(4:Int))=false:=by simpa using h4
     have e5:(kind==(5:Int))=false:=by simpa using h5
     simp[h0,h6,h4,h5,e6,e4,e5]
theorem most_ok:∀q:LQuery,nr q=some (bF q):=by
 refine LQuery.ind fun q ih=>?_
 refine pE (γ:=Unit) (F:=fun n _ q=>kK n q) (O:=fun r _ q=>kN (fun x=>r () x) q) (fun n=>rfl) () q ?_ (fun x hx=>⟨_,ih x hx⟩) ?_
 ·intro r r' h;simp only[kN];congr 1;exact lP q.inputs 0 _ fun k x s hk=>by rw[h x (eH hk)]
 ·simp only[kN];have e:∀x,(jl fun n=>kK n x)=nr x:=fun _=>rfl
  simp only[e]
  rw[rMa (xs:=q.inputs) (s:=(0,0)) (fun k=>eE q.kind 0 ((q.inputs.take k).map bF) (0,0)) (by simp[eE]) (fun k x hk=>by
    have hx:=eH hk
    rw[ih x hx,bPs,mostStep_run (rV ⟨by decide,by decide,by decide,by decide⟩ fun y hy=>by
     obtain⟨z,_,rfl⟩:=List.mem_map.1 hy
     exact mostQ_r z) (mostQ_r x),List.take_add_one,hk]
    have hk':=(zg.1 hk).1;simp only[Option.toList_some,List.map_append,List.map_cons,List.map_nil];rw[sR];congr 3;simp;omega)]
  rw[bPs,bT,List.take_length,ow];by_cases h1:q.kind=1
  ·simp[h1,dI]
  ·have:(q.kind==(1:Int))=false:=by simpa using h1
   simp[h1,this,dI]
def qt:List (Int→Int)→Int→Int
 |[],s=>s
 |f::l,s=>if s<0 then-1 else qt l (f (IntKind.i64.wrap (s-1)))
def sizeHere(q:LQuery)(m:Int):Int:=
 q.aggregates.foldl (fun s a=>a.args.foldl (fun s e=>jc e (IntKind.i64.wrap (s-1))) s) (q.exprs.foldl (fun s e=>jc e (IntKind.i64.wrap (s-1))) m)
def nH(q:LQuery):Int→Int:=fun m=>qt (q.inputs.attach.map fun x=>nH x.1) (sizeHere q m)
termination_by SizeOf.sizeOf q
decreasing_by exact LQuery.inputs_lt x.2
theorem sizeQ_eq(q:LQuery)(m:Int):nH q m=qt (q.inputs.map nH) (sizeHere q m):=by
 rw[nH,List.attach_map_val (f:=nH)]
theorem tz{f:LQuery→Int→Option Int}:∀(l:List LQuery) (j:Nat) (s:Int),(∀x∈l,∀m,f x m=some (nH x m))→
  ag (aG (σ:=Int) (ρ:=Int) (fun(_:Nat) (x6:LQuery) (s6:Int)=>cond (decide (s6<(0:Int))) (some (.ret (-1))) (ag (f x6 (IntKind.i64.wrap (s6-(1:Int)))) fun x57=>some (.next x57))) j l s) (fun fl6=>fl6.thenR fun(s6:Int)=>some s6)=some (qt (l.map nH) s)
 |[],j,s,_=>rfl
 |x::l,j,s,h=>by
  rw[aG,List.map_cons,qt];by_cases hs:s<0
  ·simp[hs]
  ·simp only[hs,decide_false,zd,if_false];rw[h x (by simp),bPs];exact tz l (j+1) _ fun y hy=>h y (by simp[hy])
theorem size_ok:∀(q:LQuery) (m:Int),mM q m=some (nH q m):=by
 have key:∀q:LQuery,∃N,∀n,N≤n→∀m,gP n q m=some (nH q m):=by
  refine LQuery.ind fun q ih=>?_
  obtain⟨N,hN⟩:=ev_all (p:=fun x n=>∀m,gP n x m=some (nH x m)) q.inputs ih
  refine⟨N+1,fun n hn m=>?_⟩
  obtain⟨n,rfl⟩:∃k,n=k+1:=⟨n-1,by omega⟩
  rw[gP];simp only[lg,bp];rw[oG (xs:=q.exprs) (fun s e=>jc e (IntKind.i64.wrap (s-1))) (fun _ _ _=>rfl),bPs,bT]
  rw[oG (xs:=q.aggregates) (fun s a=>a.args.foldl (fun s e=>jc e (IntKind.i64.wrap (s-1))) s) (fun k a _=>by
   rw[oG (xs:=a.args) (fun s e=>jc e (IntKind.i64.wrap (s-1))) (fun _ _ _=>rfl),bPs,bT]),bPs,bT]
  rw[tz q.inputs 0 _ (hN n (by omega)),sizeQ_eq];rfl
 intro q m
 obtain⟨N,hN⟩:=key q
 exact oq N fun n hn=>hN n hn m
theorem LExpr.args_lt{e x:LExpr}(h:x∈e.args):SizeOf.sizeOf x<SizeOf.sizeOf e:=by
 cases e;simp only[LExpr.args]at h
 have:=List.sizeOf_lt_of_mem h
 simp only[LExpr.mk.sizeOf_spec];omega
theorem LExpr.ind{p:LExpr→Prop}(h:∀e:LExpr,(∀x∈e.args,p x)→p e):∀e,p e:=by
 intro e;generalize hn:SizeOf.sizeOf e=n;induction n using Nat.strongRecOn generalizing e with
 |_ n ih=>exact h e fun x hx=>ih _ (hn▸LExpr.args_lt hx) x rfl
def jE(e:LExpr):List (Nat×Int):=if e.kind=3∧0≤e.index∧e.index<8 then [(e.index.toNat,e.value.kind)]else []
def cM(e:LExpr):List (Nat×Int):=jE e++(e.args.attach.map fun x=>cM x.1).flatten
termination_by SizeOf.sizeOf e
decreasing_by exact LExpr.args_lt x.2
theorem nk(e:LExpr):cM e=jE e++(e.args.map cM).flatten:=by
 rw[cM,List.attach_map_val (f:=cM)]
abbrev PSt:=List Int×Bool×List Bool
def jh(out:List Int)(i:Nat):List Int:=out++List.replicate (i+1-out.length) 0
def eU(s:PSt)(p:Nat×Int):PSt:=
 ((jh s.1 p.1).set p.1 p.2,s.2.1||(s.2.2.getD p.1 false&&(jh s.1 p.1).getD p.1 0 !=p.2),s.2.2.set p.1 true)
def POk(s:PSt):Prop:=s.1.length≤8∧s.2.2.length=8
theorem oU(out:List Int)(i:Nat):(jh out i).length=max out.length (i+1):=by simp[jh];omega
theorem pstep_ok{s:PSt}{p:Nat×Int}(h:POk s)(hp:p.1<8):POk (eU s p):=by
 refine⟨?_,by simp[eU,h.2]⟩
 show((jh s.1 p.1).set p.1 p.2).length≤8
 rw[List.length_set,oU]
 have:=h.1
 omega
theorem nM:∀e:LExpr,∀p∈cM e,p.1<8:=by
 refine LExpr.ind fun e ih p hp=>?_
 rw[nk,List.mem_append]at hp;rcases hp with hp|hp
 ·unfold jE at hp;split at hp
  ·rename_i h;simp at hp;subst hp;simp;omega
  ·simp at hp
 ·obtain⟨l,hl,hp⟩:=List.mem_flatten.1 hp
  obtain⟨x,hx,rfl⟩:=List.mem_map.1 hl
  exact ih x hx p hp
theorem mN:∀{l:List (Nat×Int)} {s:PSt},POk s→(∀p∈l,p.1<8)→POk (l.foldl eU s)
 |[],_,h,_=>h
 |p::l,s,h,hl=>mN (l:=l) (pstep_ok h (hl p (by simp))) fun q hq=>hl q (by simp[hq])
theorem pad_while(i:Nat)(hi:i<8):∀(n:Nat) (out:List Int),i+1-out.length=n→out.length≤8→
  fY (σ:=List Int) (ρ:=Empty) (fun(s7:List Int)=>cond (decide ((s7.length:Int)≤(i:Int))) (ag (db 8 s7 ([0]:List Int)) fun(x28:List Int)=>some (.next x28)) (some (.brk s7))) out=some (.next (jh out i))
 |0,out,hn,ho=>by
  refine mu (fl:= .brk out) ?_ ?_
  ·have:¬((out.length:Int)≤(i:Int)):=by omega
   simp[this]
  ·simp[jh,hn]
 |n+1,out,hn,ho=>by
  refine mu (fl:= .next (out++[0])) ?_ ?_
  ·have:(out.length:Int)≤(i:Int):=by omega
   simp only[this,decide_true,zc];rw[bM (by decide) (by simp;omega)];rfl
  ·have:=pad_while i hi n (out++[0]) (by simp;omega) (by simp;omega)
   simp only;rw[this];simp only[jh,List.length_append,List.length_singleton,List.append_assoc,hn];rw[show i+1-(out.length+1)=n from by omega,show(List.replicate (n+1) (0:Int))=[0]++List.replicate n 0 from rfl]
theorem arrI_at{xs:List Bool}{i:Nat}(h:xs.length=8)(hi:i<8):arrI 8 xs (i:Int)=some (xs.getD i false):=by
 have:xs[i]?=some (xs.getD i false):=by rw[List.getD_eq_getElem?_getD,ze (by omega)];rfl
 exact arrI_eq (by omega) (by simpa using this)
theorem getI_at{xs:List Int}{i:Nat}(h:i<xs.length):getI xs (i:Int)=some (xs.getD i 0):=by
 have:xs[i]?=some (xs.getD i 0):=by rw[List.getD_eq_getElem?_getD,ze h];rfl
 exact gK this
theorem look_ok:∀e:LExpr,∃N,∀n,N≤n→∀s:PSt,POk s→dy n e s.1 s.2.1 s.2.2=some ((cM e).foldl eU s):=by
 refine LExpr.ind fun e ih=>?_
 obtain⟨N,hN⟩:=ev_all (p:=fun x n=>∀s:PSt,POk s→dy n x s.1 s.2.1 s.2.2=some ((cM x).foldl eU s)) e.args ih
 refine⟨N+1,fun n hn s hs=>?_⟩
 obtain⟨n,rfl⟩:∃k,n=k+1:=⟨n-1,by omega⟩
 rw[dy];simp only[iv];have h1:POk ((jE e).foldl eU s):=mN hs fun p hp=>nM e p (by rw[nk];simp[hp])
 have hloop:∀s:PSt,POk s→ag (aG (σ:=List Int×Bool×List Bool) (ρ:=Empty) (fun(_:Nat) (x11:LExpr) (s11:List Int×Bool×List Bool)=>
   ag (dy n x11 s11.1 s11.2.1 s11.2.2) fun x66=>some (.next (x66.1,x66.2.1,x66.2.2))) 0 e.args (s.1,s.2.1,s.2.2)) (fun fl11=>fl11.thenP fun(s11:List Int×Bool×List Bool)=>some (s11.1,s11.2.1,s11.2.2))=
   some (((e.args.map cM).flatten).foldl eU s):=by
  intro s hs
  rw[rMa (xs:=e.args) (s:=(s.1,s.2.1,s.2.2)) (fun k=>(((e.args.take k).map cM).flatten).foldl eU s) rfl (fun k x hk=>by
   have hx:=eH hk
   have hok:POk ((((e.args.take k).map cM).flatten).foldl eU s):=mN hs fun p hp=>by
    obtain⟨l,hl,hp⟩:=List.mem_flatten.1 hp
    obtain⟨y,hy,rfl⟩:=List.mem_map.1 hl
    exact nM y p hp
   rw[hN n (by omega) x hx _ hok,bPs,List.take_add_one,hk];simp)]
  rw[bPs,bT,List.take_length]
 have key:(ag (cond (letP (cond (e.kind==(3:Int)) (cond (decide (e.index≥(0:Int))) ((decide (e.index<(8:Int)))) (false)) (false)) fun(t1:Bool)=>t1)
   (ag (fY (σ:=List Int) (ρ:=Empty) (fun(s7:List Int)=>cond (decide ((s7.length:Int)≤e.index)) (ag (db 8 s7 ([0]:List Int)) fun(x28:List Int)=>some (.next x28)) (some (.brk s7))) s.1) fun fl7=>fl7.thenP fun(s7:List Int)=>
   ag (cond s.2.1 (some true) (ag (arrI 8 s.2.2 e.index) fun(x33:Bool)=>cond x33 (ag (getI s7 e.index) fun(x39:Int)=>some (x39 !=e.value.kind)) (some false))) fun(t8:Bool)=>
   ag (getI s7 e.index) fun(_:Int)=>letP (s7.set e.index.toNat e.value.kind) fun(y9:List Int)=>ag (arrI 8 s.2.2 e.index) fun(_:Bool)=>letP (s.2.2.set e.index.toNat true) fun(y10:List Bool)=>some (y9,t8,y10))
   (some (s.1,s.2.1,s.2.2))) fun t=>some t)=some ((jE e).foldl eU s):=by
  unfold letP;by_cases hc:e.kind=3∧0≤e.index∧e.index<8
  ·obtain⟨hk,h0,h8⟩:=hc
   obtain⟨i,hi⟩:∃i:Nat,e.index=i:=⟨e.index.toNat,by omega⟩
   have hi8:i<8:=by omega
   have e0:(e.kind==(3:Int))=true:=by simpa using hk
   have e1:decide (e.index≥(0:Int))=true:=zt h0;have e2:decide (e.index<(8:Int))=true:=zt h8;rw[e0,e1,e2];simp only[zc];rw[hi,pad_while i hi8 _ s.1 rfl hs.1];simp only[bPs,bT];have hl:i<(jh s.1 i).length:=by rw[oU];omega
   rw[arrI_at hs.2 hi8,getI_at hl];simp only[bPs,Int.toNat_natCast];have hh:jE e=[(i,e.value.kind)]:=by unfold jE;rw[zp ⟨hk,h0,h8⟩,hi,Int.toNat_natCast]
   rw[hh];simp only[List.foldl_cons,List.foldl_nil,eU];cases hb:s.2.1<;>cases hc:s.2.2.getD i false<;>simp
  ·have hh:jE e=[]:=by unfold jE;rw[zy hc]
   rw[hh]
   have e0:(cond (e.kind==(3:Int)) (cond (decide (e.index≥(0:Int))) ((decide (e.index<(8:Int)))) (false)) (false))=false:=by
    by_cases a:e.kind=3
    ·by_cases b:0≤e.index
     ·have:¬e.index<8:=fun h=>hc ⟨a,b,h⟩
      simp[this]
     ·have:¬e.index≥0:=b
      simp[this]
    ·have:(e.kind==(3:Int))=false:=by simpa using a
     simp[this]
   rw[e0];rfl
 simp only[bp]at key⊢;rw[nk,List.foldl_append,←hloop _ h1];generalize hg:(cond _ _ _:Option PSt)=o at key;cases o with
 |none=>cases key
 |some t=>
  simp only[bPs,zo]at key;subst key;rfl
theorem look_eq(e:LExpr){s:PSt}(h:POk s):fT e s.1 s.2.1 s.2.2=some ((cM e).foldl eU s):=by
 obtain⟨N,hN⟩:=look_ok e
 exact oq N fun n hn=>hN n hn s h
def jJ(x:LQuery):List (Nat×Int):=(x.exprs.map cM).flatten++(x.aggregates.map fun a=>(a.args.map cM).flatten).flatten
def ji(q:LQuery):List (Nat×Int):=((da q).map jJ).flatten
theorem pA{x:LQuery}:∀p∈jJ x,p.1<8:=by
 intro p hp;rcases List.mem_append.1 hp with hp|hp
 ·obtain⟨l,hl,hp⟩:=List.mem_flatten.1 hp
  obtain⟨e,_,rfl⟩:=List.mem_map.1 hl
  exact nM e p hp
 ·obtain⟨l,hl,hp⟩:=List.mem_flatten.1 hp
  obtain⟨a,_,rfl⟩:=List.mem_map.1 hl
  obtain⟨l,hl,hp⟩:=List.mem_flatten.1 hp
  obtain⟨e,_,rfl⟩:=List.mem_map.1 hl
  exact nM e p hp
theorem paramsQ_lt{q:LQuery}:∀p∈ji q,p.1<8:=by
 intro p hp
 obtain⟨l,hl,hp⟩:=List.mem_flatten.1 hp
 obtain⟨x,_,rfl⟩:=List.mem_map.1 hl
 exact pA p hp
theorem lookAll{l:List LExpr}{s:PSt}(h:POk s):aG (σ:=PSt) (ρ:=Empty) (fun(_:Nat) (x12:LExpr) (s12:PSt)=>
   ag (fT x12 s12.1 s12.2.1 s12.2.2) fun x33=>some (.next (x33.1,x33.2.1,x33.2.2))) 0 l (s.1,s.2.1,s.2.2)=some (.next (((l.map cM).flatten).foldl eU s)):=by
 rw[rMa (xs:=l) (s:=(s.1,s.2.1,s.2.2)) (fun k=>(((l.take k).map cM).flatten).foldl eU s) rfl (fun k x hk=>by
  have hok:POk ((((l.take k).map cM).flatten).foldl eU s):=mN h fun p hp=>by
   obtain⟨m,hm,hp⟩:=List.mem_flatten.1 hp
   obtain⟨y,hy,rfl⟩:=List.mem_map.1 hm
   exact nM y p hp
  rw[look_eq x hok,bPs,List.take_add_one,hk];simp),List.take_length]
def ec(q:LQuery):PSt:=(ji q).foldl eU ([],false,List.replicate 8 false)
theorem kinds_ok{q:LQuery}(hb:(da q).length≤10000000):eC q=some (cond (ec q).2.1 ([],13) ((ec q).1,0)):=by
 unfold eC;rw[nodes_ok q hb,bPs]
 rw[rMa (xs:=da q) (s:=([],false,List.replicate 8 false)) (fun k=>((((da q).take k).map jJ).flatten).foldl eU ([],false,List.replicate 8 false)) rfl (fun k x hk=>by
  have hok:POk (((((da q).take k).map jJ).flatten).foldl eU ([],false,List.replicate 8 false)):=mN ⟨by simp,by simp⟩ fun p hp=>by
   obtain⟨m,hm,hp⟩:=List.mem_flatten.1 hp
   obtain⟨y,hy,rfl⟩:=List.mem_map.1 hm
   exact pA p hp
  rw[lookAll hok,bPs,bT]
  rw[show((((da q).take (k+1)).map jJ).flatten).foldl eU ([],false,List.replicate 8 false)=(jJ x).foldl eU (((((da q).take k).map jJ).flatten).foldl eU ([],false,List.replicate 8 false))from by
   rw[List.take_add_one,hk];simp only[Option.toList_some,List.map_append,List.map_cons,List.map_nil,List.flatten_append,List.flatten_cons,List.flatten_nil,List.append_nil,List.foldl_append]]
  generalize(((((da q).take k).map jJ).flatten).foldl eU ([],false,List.replicate 8 false))=s at hok⊢
  have hok2:POk (((x.exprs.map cM).flatten).foldl eU s):=mN hok fun p hp=>pA (x:=x) p (by unfold jJ;simp only[List.mem_append];exact .inl hp)
  rw[rMa (xs:=x.aggregates) (s:=((((x.exprs.map cM).flatten).foldl eU s).1,(((x.exprs.map cM).flatten).foldl eU s).2.1,(((x.exprs.map cM).flatten).foldl eU s).2.2))
   (fun k=>((((x.aggregates.take k).map fun a=>(a.args.map cM).flatten).flatten).foldl eU (((x.exprs.map cM).flatten).foldl eU s))) rfl (fun k a ha=>by
    have hok3:POk ((((x.aggregates.take k).map fun a=>(a.args.map cM).flatten).flatten).foldl eU (((x.exprs.map cM).flatten).foldl eU s)):=mN hok2 fun p hp=>pA (x:=x) p (by
     unfold jJ;simp only[List.mem_append]
     obtain⟨m,hm,hp⟩:=List.mem_flatten.1 hp
     obtain⟨y,hy,rfl⟩:=List.mem_map.1 hm
     exact .inr (List.mem_flatten.2 ⟨_,List.mem_map.2 ⟨y,List.mem_of_mem_take hy,rfl⟩,hp⟩))
    rw[lookAll hok3,bPs,bT,List.take_add_one,ha];simp)]
  rw[bPs,bT,List.take_length];unfold jJ;rw[List.foldl_append])]
 rw[bPs,bT,List.take_length]
 show(cond (ec q).2.1 (some ([],13)) (some ((ec q).1,0)))=_
 cases(ec q).2.1<;>rfl
def pO(l:List (Nat×Int)):Prop:=∀i k k',(i,k)∈l→(i,k')∈l→k=k'
structure PInv(l:List (Nat×Int))(s:PSt):Prop where
 ok:POk s
 seen:∀i,i<8→(s.2.2.getD i false=true↔∃k,(i,k)∈l)
 len:∀i k,(i,k)∈l→i<s.1.length
 last:s.1.length=0∨∃k,(s.1.length-1,k)∈l
 zero:∀i,(∀k,(i,k)∉l)→s.1.getD i 0=0
 good:s.2.1=false→∀i k,(i,k)∈l→s.1.getD i 0=k
 bad:pO l→s.2.1=false
theorem qD(out:List Int)(i j:Nat):(jh out i).getD j 0=out.getD j 0:=by
 simp only[jh,List.getD_eq_getElem?_getD];by_cases h:j<out.length
 ·rw[List.getElem?_append_left h]
 ·rw[List.getElem?_append_right (by omega),List.getElem?_eq_none (l:=out) (by omega),List.getElem?_replicate];split<;>rfl
theorem PInv.init:PInv [] ([],false,List.replicate 8 false):=
 ⟨⟨by simp,by simp⟩,fun i hi=>by
  have:(List.replicate 8 false).getD i false=false:=by rw[List.getD_eq_getElem?_getD,List.getElem?_replicate];split<;>rfl
  exact⟨fun h=>(by rw[show(([],false,List.replicate 8 false):PSt).2.2=List.replicate 8 false from rfl,this]at h;cases h),fun⟨k,hk⟩=>(by simp at hk)⟩,fun i k h=>by simp at h,.inl rfl,fun i _=>by simp,fun _ i k h=>by simp at h,fun _=>rfl⟩
theorem PInv.step{l:List (Nat×Int)}{s:PSt}(h:PInv l s){p:Nat×Int}(hp:p.1<8):PInv (l++[p]) (eU s p):=by
 obtain⟨i,k⟩:=p
 simp only at hp
 have hset:∀(xs:List Int) (j:Nat) (v:Int),i<xs.length→(xs.set i v).getD j 0=if j=i then v else xs.getD j 0:=by
  intro xs j v hl;rw[List.getD_eq_getElem?_getD,List.getD_eq_getElem?_getD,List.getElem?_set];by_cases hji:i=j
  ·subst hji;simp[hl]
  ·have:j≠i:=fun h=>hji h.symm
   simp[hji,this]
 have hl1:i<(jh s.1 i).length:=by rw[oU];omega
 refine⟨pstep_ok h.ok hp,fun j hj=>?_,fun j k' hm=>?_,?_,fun j hno=>?_,fun hb j k' hm=>?_,fun hk=>?_⟩
 ·show(s.2.2.set i true).getD j false=true↔_
  rw[List.getD_eq_getElem?_getD,List.getElem?_set];by_cases hji:i=j
  ·subst hji
   have:i<s.2.2.length:=by rw[h.ok.2];exact hp
   simp[this]
  ·have h1:=h.seen j hj;rw[List.getD_eq_getElem?_getD]at h1;have hji':j≠i:=fun h=>hji h.symm
   simp only[hji,if_false,h1,List.mem_append,List.mem_singleton,Prod.mk.injEq,hji',false_and,or_false]
 ·show j<((jh s.1 i).set i k).length;rw[List.length_set,oU];rcases List.mem_append.1 hm with hm|hm
  ·have:=h.len j k' hm;omega
  ·simp at hm;omega
 ·show((jh s.1 i).set i k).length=0∨∃k',(((jh s.1 i).set i k).length-1,k')∈l++[(i,k)]
  rw[List.length_set,oU];by_cases hle:s.1.length≤i+1
  ·right
   exact⟨k,by rw[show max s.1.length (i+1)-1=i from by omega];simp⟩
  ·rcases h.last with h0|⟨k',hk'⟩
   ·omega
   ·right
    exact⟨k',by rw[show max s.1.length (i+1)-1=s.1.length-1 from by omega];simp[hk']⟩
 ·show((jh s.1 i).set i k).getD j 0=0
  have hji:j≠i:=fun e=>hno k (by simp[e])
  rw[hset _ _ _ hl1,zy hji,qD];exact h.zero j fun k' hm=>hno k' (by simp[hm])
 ·have hb':s.2.1=false∧(s.2.2.getD i false&&(jh s.1 i).getD i 0 !=k)=false:=by
   have:(s.2.1||(s.2.2.getD i false&&(jh s.1 i).getD i 0 !=k))=false:=hb
   simpa using this
  show((jh s.1 i).set i k).getD j 0=k'
  rw[hset _ _ _ hl1];have hold:=h.good hb'.1;rcases List.mem_append.1 hm with hm1|hm
  ·by_cases hji:j=i
   ·subst hji;rw[zp rfl];have hs:=(h.seen j hp).2 ⟨k',hm1⟩
    have:=hb'.2
    rw[hs,qD,hold j k' hm1]at this;simp at this;exact this.symm
   ·rw[zy hji,qD];exact hold j k' hm1
  ·simp at hm;rw[zp hm.1,hm.2]
 ·have h1:=h.bad fun i k k' a b=>hk i k k' (by simp[a]) (by simp[b])
  show(s.2.1||(s.2.2.getD i false&&(jh s.1 i).getD i 0 !=k))=false
  rw[h1,Bool.false_or,qD];cases hs:s.2.2.getD i false with
  |false=>rfl
  |true=>
   obtain⟨k',hk'⟩:=(h.seen i hp).1 hs
   rw[h.good h1 i k' hk',hk i k' k (by simp[hk']) (by simp)];simp
theorem PInv.fold:∀{r l:List (Nat×Int)} {s:PSt},PInv l s→(∀p∈r,p.1<8)→PInv (l++r) (r.foldl eU s)
 |[],l,s,h,_=>by simpa using h
 |p::r,l,s,h,hr=>by
  have:=PInv.fold (r:=r) (h.step (hr p (by simp))) fun q hq=>hr q (by simp[hq])
  simpa using this
theorem kinds_inv(q:LQuery):PInv (ji q) (ec q):=by
 have:=PInv.fold (r:=ji q) PInv.init paramsQ_lt
 rw[List.nil_append]at this;exact this
theorem kinds_bad{q:LQuery}:(ec q).2.1=false↔pO (ji q):=by
 have h:=kinds_inv q
 refine⟨fun hb i k k' a b=>?_,h.bad⟩
 rw[←h.good hb i k a,←h.good hb i k' b]
structure ArgsOk(l:List (Nat×Int))(args:Rq):Prop where
 kinds:pO l
 args:∀i k,(i,k)∈l→i<args.length∧(∀j x,j≤i→args[j]?=some x→et x=true)∧(∀x,args[i]?=some x→k=0∨x.kind=k∨x.kind=0)
theorem ArgsOk.sub{l l':List (Nat×Int)}{args:Rq}(h:ArgsOk l args)(hs:∀p∈l',p∈l):ArgsOk l' args:=
 ⟨fun i k k' a b=>h.kinds i k k' (hs _ a) (hs _ b),fun i k a=>h.args i k (hs _ a)⟩
theorem args_ok{q:LQuery}(hb:(da q).length≤10000000)(args:Rq):∃e,fA q args=some e∧(e=0↔ArgsOk (ji q) args):=by
 unfold fA;rw[kinds_ok hb,bPs];have h:=kinds_inv q;cases hbad:(ec q).2.1 with
 |true=>
  refine⟨13,by simp,?_⟩
  have:¬pO (ji q):=fun hk=>by rw[kinds_bad.2 hk]at hbad;cases hbad
  exact⟨fun h=>by omega,fun h=>absurd h.kinds this⟩
 |false=>
  simp only[zd];have hk:=kinds_bad.1 hbad;by_cases hl:args.length<(ec q).1.length
  ·refine⟨1,by simp[hl],fun h=>by omega,fun ha=>?_⟩
   rcases h.last with h0|⟨k,hm⟩
   ·omega
   ·have:=(ha.args _ _ hm).1;omega
  ·have hge:(ec q).1.length≤args.length:=by omega
   have hstep:∀k x,(ec q).1[k]?=some x→∃y,args[k]?=some y:=fun k x hx=>by
    have:=(zg.1 hx).1
    exact⟨args[k],ze (by omega)⟩
   let okAt:Nat→Int→Prop:=fun k x=>∀y,args[k]?=some y→et y=true∧(x=0∨y.kind=x∨y.kind=0)
   obtain⟨fl,hfl,hres⟩:=eX (step:=fun(j1:Nat) (x1:Int) (_:Unit)=>ag (getI args (j1:Int)) fun(x31:LVal)=>letP (et x31) fun x33=>cond (!x33) (some (Flow.ret (σ:=Unit) (7:Int)))
     (cond (x1 !=(0:Int)) (ag (getI args (j1:Int)) fun(x41:LVal)=>cond (x41.kind !=x1) (ag (getI args (j1:Int)) fun(x50:LVal)=>cond (x50.kind !=(0:Int)) (some (.ret 7)) (some (.next ()))) (some (.next ()))) (some (.next ()))))
    (fun j _=>∀k x,k<j→(ec q).1[k]?=some x→okAt k x) (fun r=>r=7∧∃k x,(ec q).1[k]?=some x∧¬okAt k x) (ec q).1 0 () (fun k x hk=>by omega) (fun k x s hk hI=>by
     obtain⟨y,hy⟩:=hstep k x hk
     simp only[Nat.zero_add]at hI⊢;rw[gK hy];simp only[bPs,bp]
     have next:okAt k x→∀k' x',k'<k+1→(ec q).1[k']?=some x'→okAt k' x':=fun ho k' x' hk' hx'=>by
      by_cases he:k'=k
      ·subst he;rw[hk]at hx';cases hx';exact ho
      ·exact hI k' x' (by omega) hx'
     cases hv:et y with
     |false=>exact⟨_,rfl,rfl,k,x,hk,fun ho=>by have:=(ho y hy).1;rw[hv]at this;cases this⟩
     |true=>
      simp only[Bool.not_true,zd];by_cases hx0:x=0
      ·refine⟨.next (),by simp[hx0],next fun z hz=>?_⟩
       rw[hy]at hz;cases hz;exact⟨hv,.inl hx0⟩
      ·have e0:(x !=(0:Int))=true:=by simpa using hx0
       rw[e0,zc];by_cases hyx:y.kind=x
       ·refine⟨.next (),by simp[hyx],next fun z hz=>?_⟩
        rw[hy]at hz;cases hz;exact⟨hv,.inr (.inl hyx)⟩
       ·have e1:(y.kind !=x)=true:=by simpa using hyx
        rw[e1,zc];by_cases hy0:y.kind=0
        ·refine⟨.next (),by simp[hy0],next fun z hz=>?_⟩
         rw[hy]at hz;cases hz;exact⟨hv,.inr (.inr hy0)⟩
        ·have e2:(y.kind !=(0:Int))=true:=by simpa using hy0
         refine⟨.ret 7,by simp[e2],rfl,k,x,hk,fun ho=>?_⟩
         rcases(ho y hy).2 with a|a|a
         ·exact hx0 a
         ·exact hyx a
         ·exact hy0 a)
   have e0:decide ((args.length:Int)<((ec q).1.length:Int))=false:=zf (by omega);simp only[bne_self_eq_false,zd,e0];rw[hfl,bPs]
   have hget:∀k,k<(ec q).1.length→(ec q).1[k]?=some ((ec q).1.getD k 0):=fun k hk=>by
    rw[List.getD_eq_getElem?_getD,ze hk];rfl
   cases fl with
   |brk s=>exact absurd hres (by simp)
   |next s=>
    refine⟨0,rfl,fun _=>⟨hk,fun i k hm=>?_⟩,fun _=>rfl⟩
    have hi:=h.len i k hm;simp only[Nat.zero_add]at hres
    refine⟨by omega,fun j x hj hx=>?_,fun x hx=>?_⟩
    ·exact((hres j _ (by omega) (hget j (by omega))) x hx).1
    ·have:=((hres i _ (by omega) (hget i (by omega))) x hx).2
     rwa [h.good hbad i k hm]at this
   |ret r=>
    obtain⟨rfl,k,x,hx,hno⟩:=hres
    refine⟨7,rfl,fun h=>by omega,fun ha=>absurd ?_ hno⟩
    intro y hy;have hkl:=(zg.1 hx).1;rcases h.last with h0|⟨k',hm⟩
    ·omega
    ·have hv:=(ha.args _ _ hm).2.1 k y (by omega) hy
     refine⟨hv,?_⟩
     by_cases hex:∃k2,(k,k2)∈ji q
     ·obtain⟨k2,hm2⟩:=hex
      have hg:=h.good hbad k k2 hm2
      have hxx:x=k2:=by
       rw[hget k hkl]at hx;rw[←hg]
       exact(Option.some.inj hx).symm
      rw[hxx]
      exact(ha.args k k2 hm2).2.2 y hy
     ·left
      have:=h.zero k fun k2 hm2=>hex ⟨k2,hm2⟩
      rw[hget k hkl]at hx;rw[←this]
      exact(Option.some.inj hx).symm
def Tot{α:Type}(o:Option α):Prop:=∃v,o=some v
theorem Tot.mk{α:Type}{v:α}:Tot (Option.some v):=⟨v,rfl⟩
theorem Tot.bind{α β:Type}{o:Option α}{k:α→Option β}(h:Tot o)(hk:∀v,o=some v→Tot (k v)):Tot (ag o k):=by
 obtain⟨v,hv⟩:=h
 rw[hv];exact hk v hv
theorem Tot.cond{α:Type}{b:Bool}{x y:Option α}(hx:b=true→Tot x)(hy:b=false→Tot y):Tot (cond b x y):=by
 cases b
 ·exact hy rfl
 ·exact hx rfl
theorem Tot.letP{α β:Type}{a:α}{k:α→Option β}(h:Tot (k a)):Tot (letP a k):=h
theorem Tot.get{α:Type}{xs:List α}{i:Int}(h0:0≤i)(h:i<xs.length):Tot (getI xs i):=by
 have:i.toNat<xs.length:=by omega
 exact⟨xs[i.toNat],kP h0 (ze this)⟩
theorem Tot.sub{α:Type}{xs:List α}{a b:Int}(h:0≤a∧a≤b∧b≤xs.length):Tot (mX xs a b):=⟨_,rD h⟩
theorem Tot.range{α σ ρ:Type}{step:Nat→α→σ→Option (Flow σ ρ)}:∀(xs:List α) (j:Nat) (s:σ),(∀k x s,xs[k]?=some x→Tot (step (j+k) x s))→Tot (aG step j xs s)
 |[],_,s,_=>⟨.next s,rfl⟩
 |x::xs,j,s,h=>by
  obtain⟨fl,hfl⟩:=h 0 x s rfl
  rw[Nat.add_zero]at hfl;rw[aG,hfl];cases fl with
  |next s'=>
   exact Tot.range xs (j+1) s' fun k y t hk=>by
    have:=h (k+1) y t (by simpa using hk)
    rwa [show j+(k+1)=j+1+k from by omega]at this
  |brk s'=>exact⟨_,rfl⟩
  |ret r=>exact⟨_,rfl⟩
theorem Tot.thenR{σ ρ:Type}{fl:Flow σ ρ}{k:σ→Option ρ}(h:∀s,(fl= .next s∨fl= .brk s)→Tot (k s)):Tot (fl.thenR k):=by
 cases fl with
 |next s=>exact h s (.inl rfl)
 |brk s=>exact h s (.inr rfl)
 |ret r=>exact⟨r,rfl⟩
theorem kf{a b:Int}(h:a≠b):(a !=b)=true:=by simpa using h
theorem gv{a b:Int}(h:a=b):(a !=b)=false:=by simp[h]
theorem cP{a b:Int}(h:a≠b):(a==b)=false:=by simpa using h
theorem kT{a b:Int}(h:a=b):(a==b)=true:=by simp[h]
theorem idxF{α:Type}{l:List α}{f:α→Option Bool}{p:α→Bool}(h:∀x∈l,f x=some (p x)):
  ag (aG (σ:=Unit) (ρ:=Int) (fun(j1:Nat) (x1:α) (_:Unit)=>ag (f x1) fun x16=>cond x16 (some (.ret (j1:Int))) (some (.next ()))) 0 l ()) (fun fl1=>fl1.thenR fun(_:Unit)=>some (-1))=some (bf p l):=by
 rw[qX p (fun j _=>(j:Int)) l 0 (fun k x hk=>by
  rw[h x (eH hk),bPs];cases p x<;>simp)]
 unfold bf;cases hf:l.findIdx? p with
 |none=>rfl
 |some i=>
  have hi:=(List.findIdx?_eq_some_iff_getElem.1 hf).1;simp only[ze hi];simp
theorem idxF2{α:Type}{l:List α}{p:α→Bool}:
  ag (aG (σ:=Unit) (ρ:=Int) (fun(j1:Nat) (x1:α) (_:Unit)=>cond (p x1) (some (.ret (j1:Int))) (some (.next ()))) 0 l ()) (fun fl1=>fl1.thenR fun(_:Unit)=>some (-1))=some (bf p l):=idxF (f:=fun x=>some (p x)) fun _ _=>rfl
theorem idxOf_neg{α:Type}{p:α→Bool}{l:List α}:bf p l=-1∨0≤bf p l:=by
 unfold bf;cases l.findIdx? p with
 |none=>exact .inl rfl
 |some i=>exact .inr (by simp)
theorem lK{α:Type}{p:α→Bool}{l:List α}(h:0≤bf p l):∃x,l[(bf p l).toNat]?=some x∧p x=true:=by
 unfold bf at h⊢;cases hf:l.findIdx? p with
 |none=>rw[hf]at h;simp at h
 |some i=>
  obtain⟨hi,hp,_⟩:=List.findIdx?_eq_some_iff_getElem.1 hf
  exact⟨l[i],by simp[hi],hp⟩
theorem qM(l:List LTable)(p:LTable→Bool):bZ l (fun a=>some (p a))=some (bf p l):=idxF fun _ _=>rfl
theorem idx_column(l:List LCol)(p:LCol→Bool):cK l (fun a=>some (p a))=some (bf p l):=idxF fun _ _=>rfl
theorem mZ(s:LSchema)(name:List UInt8):cT s name=some (dI 0 (bf (fun t=>cN t name) s.tables),decide (bf (fun t=>cN t name) s.tables≥0)):=by
 unfold cT;rw[qM,bPs];congr 2;unfold dI;split<;>split<;>omega
theorem findColumn_eq(t:LTable)(name:List UInt8):gA t name=some (dI 0 (bf (fun c=>ed c name) t.columns),decide (bf (fun c=>ed c name) t.columns≥0)):=by
 unfold gA;rw[idx_column,bPs];congr 2;unfold dI;split<;>split<;>omega
theorem oI{n:Int}(h:0≤n):dI 0 n=n:=by unfold dI;split<;>omega
theorem sE(s:List UInt8):Tot (fS s):=by
 unfold fS;refine Tot.bind ?_ fun b hb=>?_
 ·refine Tot.cond (fun _=>Tot.mk) fun h1=>?_
  refine Tot.cond (fun _=>Tot.mk) fun h2=>?_
  have h1:=of_decide_eq_false h1;refine Tot.bind (Tot.get (by decide) (by omega)) fun x _=>?_
  refine Tot.cond (fun _=>?_) fun _=>Tot.mk
  exact Tot.bind (Tot.get (by decide) (by omega)) fun x _=>Tot.mk
 ·refine Tot.cond (fun _=>Tot.mk) fun h=>?_
  subst h
  have hl:(s.length:Int)≤12:=by
   by_cases h1:(s.length:Int)<1
   ·omega
   ·by_cases h2:(s.length:Int)>12
    ·rw[zf h1,zt h2]at hb;simp at hb
    ·omega
  refine Tot.bind ⟨(),dY (by omega)⟩ fun _ _=>?_
  refine Tot.bind (Tot.range _ _ _ fun k x _ _=>?_) fun fl _=>Tot.thenR fun _ _=>Tot.mk
  repeat' first|exact Tot.mk|refine Tot.cond (fun _=>?_) (fun _=>?_)
structure TableOk(t:LTable):Prop where
 pk:∀x∈t.primaryKey,0≤x∧x<t.columns.length
 six:t.columns.length≤6
 nn:∀(k:Nat) (x:Int),t.primaryKey[k]?=some x→(k:Int)≤x∧∀c,t.columns[x.toNat]?=some c→c.nullable=false
theorem TableOk.few{t:LTable}(h:TableOk t):t.primaryKey.length≤6:=by
 by_cases hc:t.primaryKey.length≤6
 ·exact hc
 ·have h6:t.primaryKey[6]?=some t.primaryKey[6]:=ze (by omega);have h1:=(h.nn 6 _ h6).1;have h2:=h.pk _ (List.mem_of_getElem? h6);have h3:=h.six;omega
theorem validTable(t:LTable)(hsm:t.primaryKey.length≤2^60):∃e,fC t=some e∧(e=0→TableOk t):=by
 unfold fC
 obtain⟨b,hb⟩:=sE t.name
 rw[hb,bPs];cases b with
 |false=>exact⟨23,rfl,fun h=>by omega⟩
 |true=>
  simp only[Bool.not_true,zd];by_cases h0:(t.columns.length:Int)=0
  ·exact⟨3,by simp[h0],fun h=>by omega⟩
  by_cases h6:(t.columns.length:Int)>6
  ·have:((t.columns.length:Int)==0)=false:=by simpa using h0
   exact⟨2,by rw[this];simp[h6],fun h=>by omega⟩
  have e0:((t.columns.length:Int)==0)=false:=by simpa using h0
  rw[e0,zf h6];simp only[zd]
  obtain⟨fl,hfl,hr⟩:=eX (step:=fun(j1:Nat) (x1:LCol) (_:Unit)=>
    ag (fS x1.name) fun x31=>cond (!x31) (some (Flow.ret (σ:=Unit) (23:Int)))
     (ag (gA t x1.name) fun x37=>cond (decide (x37.1<(j1:Int))) (some (.ret 5)) (cond (decide (x1.kind<(1:Int))) (some (.ret 7)) (cond (decide (x1.kind>(3:Int))) (some (.ret 7)) (some (.next ())))))) (fun _ _=>True) (fun r=>r≠0) t.columns 0 () trivial (fun k x s hk _=>by
    obtain⟨b,hb⟩:=sE x.name
    rw[hb,bPs,findColumn_eq,bPs];cases b with
    |false=>exact⟨_,rfl,by simp⟩
    |true=>
     simp only[Bool.not_true,zd];by_cases a1:dI 0 (bf (fun c=>ed c x.name) t.columns)<((0+k:Nat):Int)
     ·exact⟨.ret 5,by rw[zt a1];rfl,by simp⟩
     ·rw[zf a1];by_cases a2:x.kind<1
      ·exact⟨.ret 7,by rw[zt a2];rfl,by simp⟩
      ·rw[zf a2];by_cases a3:x.kind>3
       ·exact⟨.ret 7,by rw[zt a3];rfl,by simp⟩
       ·exact⟨.next (),by rw[zf a3];rfl,trivial⟩)
  rw[hfl,bPs];cases fl with
  |brk s=>exact absurd hr (by simp)
  |ret r=>exact⟨r,rfl,fun h=>absurd h hr⟩
  |next s=>
   rw[cV]
   obtain⟨fl,hfl,hr⟩:=eX (step:=fun(j2:Nat) (x2:Int) (_:Unit)=>
     cond (decide (x2<(0:Int))) (some (Flow.ret (σ:=Unit) (9:Int))) (cond (decide (x2≥(t.columns.length:Int))) (some (.ret 9))
      (ag (getI t.columns x2) fun(x73:LCol)=>cond x73.nullable (some (.ret 9)) (cond (decide ((j2:Int)>(0:Int)))
       (ag (getI t.primaryKey (IntKind.i64.wrap ((j2:Int)-(1:Int)))) fun(x86:Int)=>cond (decide (x2≤x86)) (some (.ret 9)) (some (.next ()))) (some (.next ())))))) (fun j _=>∀(k:Nat) (x:Int),k<j→t.primaryKey[k]?=some x→(0≤x∧x<t.columns.length)∧(k:Int)≤x∧∀c,t.columns[x.toNat]?=some c→c.nullable=false) (fun r=>r≠0) t.primaryKey 0 () (fun k x h=>by omega) (fun k x s hk hI=>by
     simp only[Nat.zero_add]at hI⊢;by_cases a1:x<0
     ·exact⟨.ret 9,by rw[zt a1];rfl,by simp⟩
     rw[zf a1];by_cases a2:x≥(t.columns.length:Int)
     ·exact⟨.ret 9,by rw[zt a2];rfl,by simp⟩
     rw[zf a2];simp only[zd]
     obtain⟨c,hc⟩:=Tot.get (xs:=t.columns) (i:=x) (by omega) (by omega)
     rw[hc,bPs]
     have next:c.nullable=false→(k:Int)≤x→∀(k':Nat) (x':Int),k'<k+1→t.primaryKey[k']?=some x'→(0≤x'∧x'<t.columns.length)∧(k':Int)≤x'∧∀c,t.columns[x'.toNat]?=some c→c.nullable=false:=fun hn hkx k' x' h1 h2=>by
      by_cases he:k'=k
      ·subst he;rw[hk]at h2;cases h2;exact⟨by omega,hkx,fun c' hc'=>by rw[(gIs hc).2]at hc';cases hc';exact hn⟩
      ·exact hI k' x' (by omega) h2
     cases hn:c.nullable with
     |true=>exact⟨_,rfl,by simp⟩
     |false=>
      simp only[zd];by_cases a3:(k:Int)>0
      ·rw[zt a3];have hkl:=(zg.1 hk).1;rw[bB (by omega) (by omega)]
       obtain⟨y,hy⟩:=Tot.get (xs:=t.primaryKey) (i:=(k:Int)-1) (by omega) (by omega)
       rw[zc,hy,bPs];by_cases a4:x≤y
       ·exact⟨.ret 9,by rw[zt a4];rfl,by simp⟩
       ·refine⟨.next (),by rw[zf a4];rfl,next hn ?_⟩
        have hy2:=(gIs hy).2;rw[show((k:Int)-1).toNat=k-1 from by omega]at hy2
        have:=(hI (k-1) y (by omega) hy2).2.1
        omega
      ·exact⟨.next (),by rw[zf a3];rfl,next hn (by omega)⟩)
   rw[hfl,bPs];cases fl with
   |brk s=>exact absurd hr (by simp)
   |ret r=>exact⟨r,rfl,fun h=>absurd h hr⟩
   |next s=>
    rw[cV];simp only[Nat.zero_add]at hr;by_cases hp:(t.primaryKey.length:Int)=0
    ·exact⟨9,by simp[hp],fun h=>by omega⟩
    ·have:((t.primaryKey.length:Int)==0)=false:=by simpa using hp
     refine⟨0,by rw[this];rfl,fun _=>⟨fun x hx=>?_,by omega,fun k x hk=>(hr k x (zg.1 hk).1 hk).2⟩⟩
     obtain⟨k,hk,rfl⟩:=List.mem_iff_getElem.1 hx
     exact(hr k _ hk (ze hk)).1
theorem eP{α:Type}{xs:List α}{k:Nat}(h:k<xs.length):getI xs (k:Int)=some xs[k]:=gK (ze h)
theorem foreignKey_tot{s:LSchema}(hs:∀t∈s.tables,TableOk t)(fk:LForeignKey):Tot (fe s fk):=by
 unfold fe;rw[mZ,mZ];simp only[bPs,bp];generalize hi:bf (fun t=>cN t fk.table) s.tables=i;generalize hj:bf (fun t=>cN t fk.refTable) s.tables=j;by_cases h1:i≥0
 ·by_cases h2:j≥0
  ·rw[zt h1,zt h2];simp only[Bool.not_true,zd];rw[oI h1,oI h2]
   obtain⟨t,ht,_⟩:=lK (hi▸h1)
   obtain⟨u,hu,_⟩:=lK (hj▸h2)
   rw[hi]at ht;rw[hj]at hu;rw[kP h1 ht,kP h2 hu];simp only[bPs];refine Tot.cond (fun _=>Tot.mk) fun hl=>?_
   have hl:fk.columns.length=u.primaryKey.length:=by
    by_cases h:(fk.columns.length:Int)=(u.primaryKey.length:Int)
    ·omega
    ·simp[h]at hl
   refine Tot.bind (Tot.range _ _ _ fun k x st hk=>?_) fun fl _=>Tot.thenR fun _ _=>Tot.mk
   have hkl:=(zg.1 hk).1;by_cases a1:x<0
   ·rw[zt a1];exact Tot.mk
   ·rw[zf a1];by_cases a2:x≥(t.columns.length:Int)
    ·rw[zt a2];exact Tot.mk
    ·rw[zf a2];simp only[zd]
     obtain⟨c,hc⟩:=Tot.get (xs:=t.columns) (i:=x) (by omega) (by omega)
     rw[hc,bPs,Nat.zero_add,eP (by omega),bPs];have hp:=(hs u (eH hu)).pk u.primaryKey[k] (List.getElem_mem _)
     obtain⟨d,hd⟩:=Tot.get (xs:=u.columns) (i:=u.primaryKey[k]) hp.1 hp.2
     rw[hd,bPs];exact Tot.cond (fun _=>Tot.mk) fun _=>Tot.mk
  ·rw[zf h2];simp only[Bool.not_false];cases decide (i≥0)<;>exact Tot.mk
 ·rw[zf h1];exact Tot.mk
theorem constraint_tot(s:LSchema)(c:LConstraint):Tot (eZ s c):=by
 unfold eZ;rw[mZ];simp only[bPs,bp];generalize hi:bf (fun t=>cN t c.table) s.tables=i;by_cases h1:i≥0
 ·rw[zt h1];simp only[Bool.not_true,zd];rw[oI h1]
  obtain⟨t,ht,_⟩:=lK (hi▸h1)
  rw[hi]at ht;rw[kP h1 ht,bPs];refine Tot.cond (fun _=>Tot.mk) fun hl=>?_
  by_cases a1:c.left<0
  ·rw[zt a1]at hl;cases hl
  rw[zf a1,zd]at hl;by_cases a2:c.left≥(t.columns.length:Int)
  ·rw[zt a2]at hl;cases hl
  rw[zf a2,zd]at hl
  obtain⟨x,hx⟩:=Tot.get (xs:=t.columns) (i:=c.left) (by omega) (by omega)
  rw[hx];refine Tot.cond (fun a3=>?_) fun _=>?_
  ·have a3:=of_decide_eq_true a3
   have a4:c.right<(t.columns.length:Int):=by
    rcases Int.lt_or_le c.right (t.columns.length:Int)with h|h
    ·exact h
    ·have e:decide (c.right≥(t.columns.length:Int))=true:=zt h;rw[e]at hl;revert hl
     cases((iB (LVal.mk 0 0 []) c.op (LVal.mk 0 0 [])).2 !=0)<;>cases decide (c.right< -1)<;>simp
   obtain⟨y,hy⟩:=Tot.get (xs:=t.columns) (i:=c.right) a3 a4
   rw[hy];simp only[bPs];exact Tot.cond (fun _=>Tot.mk) fun _=>Tot.mk
  ·rw[bPs];exact Tot.cond (fun _=>Tot.mk) fun _=>Tot.mk
 ·rw[zf h1];exact Tot.mk
theorem equalInts_tot(a b:List Int):Tot (gr a b):=by
 unfold gr;refine Tot.cond (fun _=>Tot.mk) fun h=>?_
 have h:a.length=b.length:=by
  by_cases h':(a.length:Int)=(b.length:Int)
  ·omega
  ·simp[h']at h
 refine Tot.bind (Tot.range _ _ _ fun k x s hk=>?_) fun fl _=>Tot.thenR fun _ _=>Tot.mk
 have hkl:=(zg.1 hk).1;rw[Nat.zero_add,eP (by omega),bPs];exact Tot.cond (fun _=>Tot.mk) fun _=>Tot.mk
theorem fkIn_tot(l:List LForeignKey)(x:LForeignKey):Tot (bY l (fun a0=>gB a0 x)):=by
 unfold bY cL;refine Tot.bind (Tot.bind (Tot.range _ _ _ fun k y s hk=>?_) fun fl _=>Tot.thenR fun _ _=>Tot.mk) fun _ _=>Tot.mk
 refine Tot.bind ?_ fun _ _=>Tot.cond (fun _=>Tot.mk) fun _=>Tot.mk
 unfold gB;refine Tot.bind ?_ fun _ _=>Tot.mk
 unfold hO;refine Tot.cond (fun _=>Tot.bind (equalInts_tot _ _) fun _ _=>Tot.cond (fun _=>Tot.mk) fun _=>Tot.mk) fun _=>Tot.mk
theorem csIn_tot(l:List LConstraint)(x:LConstraint):Tot (ci l x):=by
 unfold ci de;refine Tot.bind (Tot.bind (Tot.range _ _ _ fun k y s hk=>?_) fun fl _=>Tot.thenR fun _ _=>Tot.mk) fun _ _=>Tot.mk
 exact Tot.cond (fun _=>Tot.mk) fun _=>Tot.mk
def nI(s:LSchema):Prop:=∀t∈s.tables,t.primaryKey.length≤10000000
theorem sP{s:LSchema}(hsm:∀t∈s.tables,t.primaryKey.length≤2^60):∃e,eg s=some e∧(e=0→s.tables.length≤6∧∀t∈s.tables,TableOk t):=by
 unfold eg;rw[bp];cases ht:(cond (decide ((s.tables.length:Int)>(6:Int))) true (cond (decide ((s.foreignKeys.length:Int)>(8:Int))) true (decide ((s.constraints.length:Int)>(8:Int)))))with
 |true=>exact⟨2,rfl,fun h=>by omega⟩
 |false=>
 rw[zd]
 have h6:s.tables.length≤6:=by
  by_cases h:(s.tables.length:Int)>6
  ·rw[zt h]at ht;cases ht
  ·omega
 obtain⟨fl,hfl,hr⟩:=eX (step:=fun(j2:Nat) (x2:LTable) (_:Unit)=>
   ag (fC x2) fun x37=>cond (x37 !=(0:Int)) (some (Flow.ret (σ:=Unit) x37)) (cond (decide ((j2:Int)>(0:Int)))
     (ag (getI s.tables (IntKind.i64.wrap ((j2:Int)-(1:Int)))) fun(x50:LTable)=>cond (Op.bytesLess x2.name x50.name||x2.name==x50.name) (some (.ret 6)) (some (.next ()))) (some (.next ())))) (fun j _=>∀k x,k<j→s.tables[k]?=some x→TableOk x) (fun r=>r≠0) s.tables 0 () (fun k x h=>by omega) (fun k x st hk hI=>by
    simp only[Nat.zero_add]at hI⊢
    obtain⟨e,he,hok⟩:=validTable x (hsm x (eH hk))
    rw[he,bPs];by_cases h0:e=0
    ·have next:∀k' x',k'<k+1→s.tables[k']?=some x'→TableOk x':=fun k' x' h1 h2=>by
      by_cases heq:k'=k
      ·subst heq;rw[hk]at h2;cases h2;exact hok h0
      ·exact hI k' x' (by omega) h2
     rw[show(e !=(0:Int))=false from by simp[h0],zd];by_cases a3:(k:Int)>0
     ·have hkl:=(zg.1 hk).1;rw[zt a3,bB (by omega) (by omega)]
      obtain⟨y,hy⟩:=Tot.get (xs:=s.tables) (i:=(k:Int)-1) (by omega) (by omega)
      rw[zc,hy,bPs]
      cases(Op.bytesLess x.name y.name||x.name==y.name)with
      |true=>exact⟨.ret 6,rfl,by simp⟩
      |false=>exact⟨.next (),rfl,next⟩
     ·exact⟨.next (),by rw[zf a3];rfl,next⟩
    ·exact⟨.ret e,by rw[show(e !=(0:Int))=true from by simp[h0]];rfl,h0⟩)
 rw[hfl,bPs];cases fl with
 |brk s=>exact absurd hr (by simp)
 |ret r=>exact⟨r,rfl,fun h=>absurd h hr⟩
 |next u=>
  rw[cV];simp only[Nat.zero_add]at hr
  have hok:∀t∈s.tables,TableOk t:=fun t ht=>by
   obtain⟨k,hk,rfl⟩:=List.mem_iff_getElem.1 ht
   exact hr k _ hk (ze hk)
  refine(show∀{o:Option Int},Tot o→∃e,o=some e∧(e=0→s.tables.length≤6∧∀t∈s.tables,TableOk t)from fun⟨e,h⟩=>⟨e,h,fun _=>⟨h6,hok⟩⟩) ?_
  refine Tot.bind (Tot.range _ _ _ fun k x st hk=>?_) fun fl _=>Tot.thenR fun _ _=>?_
  ·refine Tot.bind (foreignKey_tot hok x) fun e _=>Tot.cond (fun _=>Tot.mk) fun _=>?_
   have hkl:=(zg.1 hk).1;refine Tot.bind (Tot.sub ⟨by omega,by omega,by omega⟩) fun l _=>?_
   exact Tot.bind (fkIn_tot l x) fun _ _=>Tot.cond (fun _=>Tot.mk) fun _=>Tot.mk
  ·refine Tot.bind (Tot.range _ _ _ fun k x st hk=>?_) fun fl _=>Tot.thenR fun _ _=>Tot.mk
   refine Tot.bind (constraint_tot s x) fun e _=>Tot.cond (fun _=>Tot.mk) fun _=>?_
   have hkl:=(zg.1 hk).1;refine Tot.bind (Tot.sub ⟨by omega,by omega,by omega⟩) fun l _=>?_
   exact Tot.bind (csIn_tot l x) fun _ _=>Tot.cond (fun _=>Tot.mk) fun _=>Tot.mk
theorem validate_tot{s:LSchema}(hsm:nI s):Tot (eg s):=by
 obtain⟨e,h,_⟩:=sP (s:=s) fun t ht=>by have:=hsm t ht;omega
 exact⟨e,h⟩
def dQ(cols:List LCol)(row:Rq):Prop:=row.length=cols.length∧∀(i:Nat) (c:LCol) (x:LVal),cols[i]?=some c→row[i]?=some x→fO x c.kind c.nullable
theorem validate_valid{v:LVal}(h:cA v=0):et v=true:=by
 obtain⟨k,n,t⟩:=v
 unfold cA letP at h;unfold et;by_cases k0:k=0
 ·subst k0;by_cases hn:n=0
  ·subst hn;cases t with
   |nil=>rfl
   |cons c t=>simp at h
  ·simp[kf hn]at h
 ·have e0:(k==(0:Int))=false:=by simpa using k0
  simp only[e0,zd]at h;by_cases k1:k=1
  ·subst k1;cases t with
   |cons c t=>simp at h
   |nil=>
    by_cases a:n< -1000000000000
    ·simp[a]at h
    ·by_cases b:n>1000000000000
     ·simp[a,b]at h
     ·simp;omega
  ·by_cases k2:k=2
   ·subst k2;cases t with
    |cons c t=>simp at h
    |nil=>
     by_cases a:n=0
     ·simp[a]
     ·by_cases b:n=1
      ·simp[b]
      ·simp[kf a,kf b]at h
   ·by_cases k3:k=3
    ·subst k3;by_cases a:n=0
     ·subst a;by_cases b:(t.length:Int)>24
      ·simp[b]at h
      ·simp;omega
     ·simp[kf a]at h
    ·have e1:(k==(1:Int))=false:=by simpa using k1
     have e2:(k==(2:Int))=false:=by simpa using k2
     have e3:(k==(3:Int))=false:=by simpa using k3
     simp[e1,e2,e3]at h
theorem conformsRow(t:LTable)(row:Rq):∃e,dq t row=some e∧(e=0→dQ t.columns row):=by
 unfold dq;by_cases hl:(row.length:Int)=(t.columns.length:Int)
 ·have hl':row.length=t.columns.length:=by omega
  rw[show((row.length:Int) !=(t.columns.length:Int))=false from by simp[hl],zd]
  obtain⟨fl,hfl,hr⟩:=eX (step:=fun(j1:Nat) (x1:LVal) (_:Unit)=>letP (cA x1) fun x22=>cond (x22 !=(0:Int)) (some (Flow.ret (σ:=Unit) x22))
    (ag (cond (x1.kind==(0:Int)) (ag (getI t.columns (j1:Int)) fun(x33:LCol)=>some (!x33.nullable)) (some false)) fun(t3:Bool)=>cond t3 (some (.ret 8))
     (cond (x1.kind !=(0:Int)) (ag (getI t.columns (j1:Int)) fun(x47:LCol)=>cond (x1.kind !=x47.kind) (some (.ret 7)) (some (.next ()))) (some (.next ())))))
   (fun j _=>∀(k:Nat) (c:LCol) (x:LVal),k<j→t.columns[k]?=some c→row[k]?=some x→fO x c.kind c.nullable) (fun r=>r≠0) row 0 () (fun k c x h=>by omega) (fun k x st hk hI=>by
    simp only[Nat.zero_add]at hI⊢;have hkl:=(zg.1 hk).1;rw[bp,eP (xs:=t.columns) (by omega)];by_cases hv:cA x=0
    ·rw[show(cA x !=(0:Int))=false from by simp[hv],zd];have hvv:=validate_valid hv
     have next:fO x t.columns[k].kind t.columns[k].nullable→∀(k':Nat) (c:LCol) (x':LVal),k'<k+1→t.columns[k']?=some c→row[k']?=some x'→fO x' c.kind c.nullable:=fun hf k' c x' h1 h2 h3=>by
      by_cases heq:k'=k
      ·subst heq;rw[hk]at h3;rw[ze (by omega)]at h2;cases h2;cases h3;exact hf
      ·exact hI k' c x' (by omega) h2 h3
     by_cases hx:x.kind=0
     ·rw[show(x.kind==(0:Int))=true from by simp[hx],zc,bPs,bPs];cases hn:t.columns[k].nullable with
      |false=>exact⟨.ret 8,rfl,by simp⟩
      |true=>exact⟨.next (),by simp[hx],next ⟨hvv,.inr hx,fun _=>hn⟩⟩
     ·rw[show(x.kind==(0:Int))=false from by simp[hx],zd,bPs,zd,show(x.kind !=(0:Int))=true from by simp[hx],zc,bPs];by_cases hk':x.kind=t.columns[k].kind
      ·exact⟨.next (),by rw[gv hk'];rfl,next ⟨hvv,.inl hk',fun h=>absurd h hx⟩⟩
      ·exact⟨.ret 7,by rw[kf hk'];rfl,by simp⟩
    ·exact⟨.ret (cA x),by rw[show(cA x !=(0:Int))=true from by simp[hv]];rfl,hv⟩)
  rw[hfl,bPs];cases fl with
  |brk s=>exact absurd hr (by simp)
  |ret r=>exact⟨r,rfl,fun h=>absurd h hr⟩
  |next s=>
   simp only[Nat.zero_add]at hr
   exact⟨0,rfl,fun _=>⟨hl',fun i c x hc hx=>hr i c x (zg.1 hx).1 hc hx⟩⟩
 ·exact⟨3,by rw[show((row.length:Int) !=(t.columns.length:Int))=true from by simp[hl]];rfl,fun h=>by omega⟩
theorem key_tot(t:LTable)(row:Rq)(hsm:t.primaryKey.length≤10000000):∃k,ck t row=some k∧k.length=t.primaryKey.length:=by
 unfold ck
 obtain⟨fl,hfl,hr⟩:=eX (step:=fun(_:Nat) (x1:Int) (s1:Rq)=>
  letP (cond (decide (x1≥(0:Int))) ((decide (x1<(row.length:Int)))) (false)) fun(t6:Bool)=>
  ag (cond t6 (ag (getI row x1) fun(x27:LVal)=>some x27) (some (LVal.mk 0 0 []))) fun(t7:LVal)=>
  ag (db 32 s1 ([t7]:Rq)) fun(x32:Rq)=>some (Flow.next (ρ:=Empty) x32)) (fun j s=>s.length=j) (fun _=>False) t.primaryKey 0 ([]:Rq) rfl (fun k x s hk hI=>by
   have hI:s.length=k:=by simpa using hI
   have hkl:=(zg.1 hk).1;rw[bp]
   have ht:∃v,(cond (cond (decide (x≥(0:Int))) ((decide (x<(row.length:Int)))) (false)) (ag (getI row x) fun(x27:LVal)=>some x27) (some (LVal.mk 0 0 [])))=some v:=by
    refine Tot.cond (fun h=>?_) fun _=>Tot.mk
    by_cases h0:x≥0
    ·rw[zt h0]at h;exact Tot.bind (Tot.get h0 (of_decide_eq_true h)) fun _ _=>Tot.mk
    ·rw[zf h0]at h;cases h
   obtain⟨v,hv⟩:=ht
   rw[hv,bPs,bM (by decide) (by simp;omega),bPs]
   exact⟨_,rfl,by simp[hI]⟩)
 rw[hfl,bPs];cases fl with
 |brk s=>exact absurd hr (by simp)
 |ret r=>exact r.elim
 |next s=>exact⟨s,rfl,by simpa using hr⟩
theorem vf(a b:Rq)(ha:a.length≤10000000):Tot (bL a b):=by
 unfold bL
 have hm:∃n:Nat,(if(b.length:Int)<(a.length:Int)then(b.length:Int)else(a.length:Int))=(n:Int)∧n≤a.length∧n≤b.length:=by
  split
  ·exact⟨b.length,rfl,by omega,by omega⟩
  ·exact⟨a.length,rfl,by omega,by omega⟩
 obtain⟨n,hn,h1,h2⟩:=hm
 rw[hn,lL (by omega),bPs];refine Tot.bind (Tot.range _ _ _ fun k x s hk=>?_) fun fl _=>Tot.thenR fun _ _=>Tot.mk
 have hkl:=(zg.1 hk).1;simp at hkl;rw[Nat.zero_add,eP (by omega),eP (by omega)];simp only[bPs,bp];exact Tot.cond (fun _=>Tot.mk) fun _=>Tot.mk
def KeyOrd(t:LTable)(rows:Rz):Prop:=∀(i:Nat) (p row:Rq),rows[i]?=some p→rows[i+1]?=some row→∃k1 k2 z,ck t p=some k1∧ck t row=some k2∧bL k1 k2=some z∧z<0
structure InstOk(s:LSchema)(st:List LRelation):Prop where
 len:st.length=s.tables.length
 ord:∀(i:Nat) (r:LRelation) (t:LTable),st[i]?=some r→s.tables[i]?=some t→KeyOrd t r.rows
 tab:∀(i:Nat) (r:LRelation) (t:LTable),st[i]?=some r→s.tables[i]?=some t→r.table=t.name∧r.rows.length≤24∧∀row∈r.rows,dQ t.columns row
theorem conforms{s:LSchema}(hsm:nI s)(st:List LRelation):∃e,cr s st=some e∧(e=0→InstOk s st):=by
 unfold cr;by_cases hl:(st.length:Int)=(s.tables.length:Int)
 ·have hl':st.length=s.tables.length:=by omega
  rw[show((st.length:Int) !=(s.tables.length:Int))=false from by simp[hl],zd]
  let good:LRelation→LTable→Prop:=fun r t=>(r.table=t.name∧r.rows.length≤24∧∀row∈r.rows,dQ t.columns row)∧KeyOrd t r.rows
  obtain⟨fl,hfl,hr⟩:=eX (step:=fun(j1:Nat) (x1:LRelation) (_:Unit)=>
   ag (getI s.tables (j1:Int)) fun(x28:LTable)=>
   cond (!(x1.table==x28.name)) (some (Flow.ret (σ:=Unit) (3:Int))) (cond (decide ((x1.rows.length:Int)>(24:Int))) (some (.ret 2))
     (ag (aG (σ:=Unit) (ρ:=(Int)) (fun(j3:Nat) (x3:Rq) (_:Unit)=>
      ag (dq x28 x3) fun x49=>cond (x49 !=(0:Int)) (some (.ret x49)) (cond ((j3:Int)==(0:Int)) (some (.next ()))
        (ag (getI x1.rows (IntKind.i64.wrap ((j3:Int)-(1:Int)))) fun(x60:Rq)=>ag (ck x28 x60) fun x62=>ag (ck x28 x3) fun x65=>ag (bL x62 x65) fun x66=>
        cond (x66==(0:Int)) (some (.ret 9)) (cond (decide (x66>(0:Int))) (some (.ret 6)) (some (.next ())))))) 0 x1.rows ()) fun fl3=>fl3.thenF fun(_:Unit)=>some (.next ()))))
   (fun j _=>∀(k:Nat) (r:LRelation) (t:LTable),k<j→st[k]?=some r→s.tables[k]?=some t→good r t) (fun r=>r≠0) st 0 () (fun k r t h=>by omega) (fun k r u hk hI=>by
    simp only[Nat.zero_add]at hI⊢;have hkl:=(zg.1 hk).1;have hkt:k<s.tables.length:=by omega
    rw[eP hkt,bPs];by_cases hn:r.table=s.tables[k].name
    ·rw[show(!(r.table==s.tables[k].name))=false from by simp[hn],zd];by_cases h24:(r.rows.length:Int)>24
     ·exact⟨.ret 2,by rw[zt h24];rfl,by simp⟩
     ·rw[zf h24,zd];have hsk:=hsm s.tables[k] (List.getElem_mem _)
      obtain⟨fl,hfl,hr⟩:=eX (step:=fun(j3:Nat) (x3:Rq) (_:Unit)=>
       ag (dq s.tables[k] x3) fun x49=>cond (x49 !=(0:Int)) (some (Flow.ret (σ:=Unit) x49)) (cond ((j3:Int)==(0:Int)) (some (.next ()))
        (ag (getI r.rows (IntKind.i64.wrap ((j3:Int)-(1:Int)))) fun(x60:Rq)=>ag (ck s.tables[k] x60) fun x62=>ag (ck s.tables[k] x3) fun x65=>ag (bL x62 x65) fun x66=>
        cond (x66==(0:Int)) (some (.ret 9)) (cond (decide (x66>(0:Int))) (some (.ret 6)) (some (.next ())))))) (fun j _=>(∀i row,i<j→r.rows[i]?=some row→dQ s.tables[k].columns row)∧∀(i:Nat) (p row:Rq),i+1<j→r.rows[i]?=some p→r.rows[i+1]?=some row→∃k1 k2 z,ck s.tables[k] p=some k1∧ck s.tables[k] row=some k2∧bL k1 k2=some z∧z<0) (fun r=>r≠0) r.rows 0 () ⟨fun i row h=>by omega,fun i p row h=>by omega⟩ (fun i row u hi hI2=>by
        simp only[Nat.zero_add]at hI2⊢;have hil:=(zg.1 hi).1
        obtain⟨e,he,hok⟩:=conformsRow s.tables[k] row
        rw[he,bPs];by_cases h0:e=0
        ·rw[show(e !=(0:Int))=false from by simp[h0],zd]
         have next:∀i' row',i'<i+1→r.rows[i']?=some row'→dQ s.tables[k].columns row':=fun i' row' h1 h2=>by
          by_cases heq:i'=i
          ·subst heq;rw[hi]at h2;cases h2;exact hok h0
          ·exact hI2.1 i' row' (by omega) h2
         by_cases hi0:i=0
         ·exact⟨.next (),by simp[hi0],next,fun i' p row' h1=>by omega⟩
         ·rw[show((i:Int)==(0:Int))=false from by simp;omega,zd,bB (by omega) (by omega)]
          obtain⟨p,hp⟩:=Tot.get (xs:=r.rows) (i:=(i:Int)-1) (by omega) (by omega)
          obtain⟨k1,hk1,hl1⟩:=key_tot s.tables[k] p hsk
          obtain⟨k2,hk2,_⟩:=key_tot s.tables[k] row hsk
          obtain⟨z,hz⟩:=vf k1 k2 (by omega)
          rw[hp,bPs,hk1,bPs,hk2,bPs,hz,bPs];by_cases z0:z=0
          ·exact⟨.ret 9,by rw[kT z0];rfl,by simp⟩
          ·by_cases z1:z>0
           ·exact⟨.ret 6,by rw[cP z0,zt z1];rfl,by simp⟩
           ·refine⟨.next (),by rw[cP z0,zf z1];rfl,next,fun i' p' row' h1 h2 h3=>?_⟩
            by_cases heq:i'+1=i
            ·subst heq;rw[hi]at h3;cases h3;have hp':=(gIs hp).2;rw[show(((i'+1:Nat):Int)-1).toNat=i' from by omega,h2]at hp';cases hp'
             exact⟨k1,k2,z,hk1,hk2,hz,by omega⟩
            ·exact hI2.2 i' p' row' (by omega) h2 h3
        ·exact⟨.ret e,by rw[show(e !=(0:Int))=true from by simp[h0]];rfl,h0⟩)
      rw[hfl,bPs];cases fl with
      |brk s=>exact absurd hr (by simp)
      |ret e=>exact⟨.ret e,rfl,hr⟩
      |next s'=>
       simp only[Nat.zero_add]at hr
       refine⟨.next (),rfl,fun k' r' t' h1 h2 h3=>?_⟩
       by_cases heq:k'=k
       ·subst heq;rw[hk]at h2;rw[ze hkt]at h3;cases h2;cases h3
        refine⟨⟨hn,by omega,fun row hrow=>?_⟩,fun i p row h2 h3=>hr.2 i p row (zg.1 h3).1 h2 h3⟩
        obtain⟨i,hi,rfl⟩:=List.mem_iff_getElem.1 hrow
        exact hr.1 i _ hi (ze hi)
       ·exact hI k' r' t' (by omega) h2 h3
    ·exact⟨.ret 3,by rw[show(!(r.table==s.tables[k].name))=true from by simp[hn]];rfl,by simp⟩)
  rw[hfl,bPs];cases fl with
  |brk s=>exact absurd hr (by simp)
  |ret r=>exact⟨r,rfl,fun h=>absurd h hr⟩
  |next u=>
   simp only[Nat.zero_add]at hr
   exact⟨0,rfl,fun _=>⟨hl',fun i r t h1 h2=>(hr i r t (zg.1 h1).1 h1 h2).2,fun i r t h1 h2=>(hr i r t (zg.1 h1).1 h1 h2).1⟩⟩
 ·exact⟨3,by rw[show((st.length:Int) !=(s.tables.length:Int))=true from by simp[hl]];rfl,fun h=>by omega⟩
theorem containsI(l:List Int)(v:Int):eo l v=some (l.any fun x=>v==x):=by
 unfold eo iF;rw[idxF2 (p:=fun x=>v==x),bPs,jF]
theorem shape1(l:List Int)(q:LQuery):dC l q=some (l.any fun x=>q.kind==x):=by
 unfold dC;rw[containsI,bPs]
def qr(k:Int):Nat:=if k=1 then 0 else if k=4∨k=5∨k=6∨k=7 then 2 else 1
def mh(q:LQuery):Bool:=
 decide (1≤q.kind)&&decide (q.kind≤10)&&decide (q.inputs.length=qr q.kind)&&(q.kind==1||q.table==[])&&(q.kind==3||q.kind==8||decide (q.names.length=0))&&
 (q.kind==8||decide (q.aggregates.length=0))&&(q.kind==9||decide (q.descending.length=0))&&(q.kind==10||(q.count==0&&q.offset==0))&&
 (if q.kind=2∨q.kind=4∨q.kind=5 then decide (q.exprs.length=1)
  else if q.kind=3∨q.kind=8 then decide (q.exprs.length=q.names.length)&&decide (0<q.exprs.length+q.aggregates.length)
  else if q.kind=9 then decide (q.exprs.length=q.descending.length)&&decide (0<q.exprs.length)
  else if q.kind=10 then decide (q.exprs.length=0)&&decide (q.count≥0)&&decide (q.offset≥0)
  else decide (q.exprs.length=0))
theorem natE(a b:Nat):((a:Int)==(b:Int))=decide (a=b):=by
 by_cases h:a=b
 ·simp[h]
 ·rw[zf h];exact cP (by omega)
theorem natNE(a b:Nat):((a:Int) !=(b:Int))= !decide (a=b):=by rw[bne,natE]
theorem natPos(a:Nat):decide ((a:Int)>0)= !decide (a=0):=by
 by_cases h:a=0
 ·simp[h]
 ·rw[zf h,zt (by omega)];rfl
theorem condSome{α:Type}(b:Bool)(x y:α):(cond b (some x) (some y))=some (cond b x y):=by cases b<;>rfl
theorem shape_eq(q:LQuery)(hs:q.exprs.length≤10000000∧q.aggregates.length≤10000000):lq q=some (mh q):=by
 unfold lq;simp only[shape1,bPs];by_cases k0:q.kind<1
 ·rw[zt k0];simp[mh,show ¬(1≤q.kind)from by omega]
 rw[zf k0];by_cases k10:q.kind>10
 ·rw[zt k10];simp[mh,show ¬(q.kind≤10)from by omega]
 rw[zf k10];have hw:IntKind.i64.wrap ((q.exprs.length:Int)+(q.aggregates.length:Int))=((q.exprs.length+q.aggregates.length:Nat):Int):=by rw[bB (by omega) (by omega)];simp
 rw[hw];have hk:q.kind=1∨q.kind=2∨q.kind=3∨q.kind=4∨q.kind=5∨q.kind=6∨q.kind=7∨q.kind=8∨q.kind=9∨q.kind=10:=by omega
 unfold mh;have e0:∀n:Nat,((n:Int)==0)=decide (n=0):=fun n=>natE n 0
 have e1:∀n:Nat,((n:Int)==1)=decide (n=1):=fun n=>natE n 1
 have n0:∀n:Nat,((n:Int) !=0)= !decide (n=0):=fun n=>natNE n 0
 have n1:∀n:Nat,((n:Int) !=1)= !decide (n=1):=fun n=>natNE n 1
 have n2:∀n:Nat,((n:Int) !=2)= !decide (n=2):=fun n=>natNE n 2
 have c0:(q.count !=0)= !(q.count==0):=rfl;have o0:(q.offset !=0)= !(q.offset==0):=rfl;have p0:decide (0<q.exprs.length)= !decide (q.exprs.length=0):=by rw[←natPos];simp
 have p1:decide (0<q.exprs.length+q.aggregates.length)= !decide (q.exprs.length+q.aggregates.length=0):=by rw[←natPos];simp;omega
 simp only[natPos,natE,e0,e1,c0,o0,p0,p1]
 generalize(q.table==[])=b1
 generalize decide (q.names.length=0)=b2;generalize decide (q.aggregates.length=0)=b3;generalize decide (q.descending.length=0)=b4
 generalize(q.count==0)=b5
 generalize(q.offset==0)=b6
 generalize decide (q.exprs.length=1)=b7;generalize decide (q.exprs.length=q.names.length)=b8;generalize decide (q.exprs.length+q.aggregates.length=0)=b9;generalize decide (q.exprs.length=q.descending.length)=b10;generalize decide (q.exprs.length=0)=b11;generalize decide (q.count≥0)=b12;generalize decide (q.offset≥0)=b13;generalize hL:q.inputs.length=L;rcases hk with h|h|h|h|h|h|h|h|h|h<;>rw[h]
 all_goals simp only[qr,getI,n0,n1,n2]
 all_goals simp[n0,n1,n2,condSome,Bool.and_assoc]
def e0Q(q:LQuery):LExpr:=q.exprs.headD (.mk 1 [] 0 .nul [])
def jR(a b:List LCol)(left:Bool):List LCol:=a++b.map fun x=>⟨x.name,x.kind,x.nullable||left⟩
def lu(kind:Int)(a b:List LCol):List LCol×Int:=
 if a.length=b.length∧a.map LCol.kind=b.map LCol.kind then(List.zipWith (fun x y=>⟨x.name,x.kind,x.nullable||(kind==6&&y.nullable)⟩) a b,0)else([],7)
def cw(vars cols:List LCol):List LExpr→List (List UInt8)→List LCol×Int
 |e::es,n::ns=>if dG n=false then([],3)else if(cZ cols vars e).2.2≠0 then([],(cZ cols vars e).2.2)else if(cZ cols vars e).1=0 then([],7)
  else if(cw vars cols es ns).2≠0 then([],(cw vars cols es ns).2)else(⟨n,(cZ cols vars e).1,(cZ cols vars e).2.1⟩::(cw vars cols es ns).1,0)
 |_,_=>([],0)
abbrev iI:List UInt8:=[99,111,117,110,116]
abbrev sSum:List UInt8:=[115,117,109]
abbrev sMin:List UInt8:=[109,105,110]
abbrev sMax:List UInt8:=[109,97,120]
def pg(vars cols:List LCol)(a:LAggregateCall):Int×Int:=
 if dG a.name=false∨¬a.function∈[iI,sSum,sMin,sMax]∨1<a.args.length∨(a.args.length<1∧a.function≠iI)then(0,3)
 else match a.args with
  |[]=>(1,0)
  |e::_=>if(cZ cols vars e).2.2≠0 then(0,(cZ cols vars e).2.2)else if(cZ cols vars e).1=0∨(a.function=sSum∧(cZ cols vars e).1≠1)then(0,7)
   else if a.function=iI then(1,0)else((cZ cols vars e).1,0)
def ee(vars cols:List LCol):List LAggregateCall→List LCol×Int
 |[]=>([],0)
 |a::l=>if(pg vars cols a).2≠0 then([],(pg vars cols a).2)else if(ee vars cols l).2≠0 then([],(ee vars cols l).2)
  else(⟨a.name,(pg vars cols a).1,!(a.function==iI)⟩::(ee vars cols l).1,0)
def np(vars cols:List LCol)(q:LQuery):List LCol×Int:=
 if(cw vars cols q.exprs q.names).2≠0 then([],(cw vars cols q.exprs q.names).2)
 else if(ee vars cols q.aggregates).2≠0 then([],(ee vars cols q.aggregates).2)
 else((cw vars cols q.exprs q.names).1++(ee vars cols q.aggregates).1,0)
def kl(vars cols:List LCol):List LExpr→Int
 |[]=>0
 |e::l=>if(cZ cols vars e).2.2≠0 then(cZ cols vars e).2.2 else kl vars cols l
def ja(c:LChecker)(q:LQuery)(ins:List (List LCol)):List LCol×Int:=
 if q.kind=1 then(match c.s.tables.find? fun t=>t.name==q.table with|some t=>(t.columns,0)|none=>([],4))
 else if q.kind=2 then(ins.getD 0 [],dO c (ins.getD 0 []) (e0Q q))
 else if q.kind=4∨q.kind=5 then(jR (ins.getD 0 []) (ins.getD 1 []) (q.kind==5),dO c (jR (ins.getD 0 []) (ins.getD 1 []) (q.kind==5)) (e0Q q))
 else if q.kind=6∨q.kind=7 then lu q.kind (ins.getD 0 []) (ins.getD 1 [])
 else if q.kind=3∨q.kind=8 then np c.vars (ins.getD 0 []) q
 else if q.kind=9 then(if kl c.vars (ins.getD 0 []) q.exprs≠0 then([],kl c.vars (ins.getD 0 []) q.exprs)else(ins.getD 0 [],0))
 else(ins.getD 0 [],0)
theorem find_idx{α:Type}(p:α→Bool)(l:List α):(l.find? p=none∧bf p l=-1)∨∃x,l.find? p=some x∧0≤bf p l∧l[(bf p l).toNat]?=some x:=by
 induction l with
 |nil=>exact .inl ⟨rfl,rfl⟩
 |cons a l ih=>
  by_cases h:p a=true
  ·right
   exact⟨a,by simp[List.find?_cons,h],by unfold bf;simp[List.findIdx?_cons,h],by unfold bf;simp[List.findIdx?_cons,h]⟩
  ·have h:p a=false:=by simpa using h
   have hi:bf p (a::l)=if bf p l<0 then-1 else bf p l+1:=by
    unfold bf;simp only[List.findIdx?_cons,h,Bool.false_eq_true,if_false];cases l.findIdx? p with
    |none=>rfl
    |some i=>rw[zy (by simp only;omega)];simp
   rw[List.find?_cons,h,hi];rcases ih with⟨h1,h2⟩|⟨x,h1,h2,h3⟩
   ·left;exact⟨h1,by rw[h2];rfl⟩
   ·right
    refine⟨x,h1,by split<;>omega,?_⟩
    rw[zy (by omega),show(bf p l+1).toNat=(bf p l).toNat+1 from by omega,List.getElem?_cons_succ,h3]
theorem set_ok(kind:Int)(a b:List LCol):iW kind a b=some (lu kind a b):=by
 unfold iW lu;by_cases hl:a.length=b.length
 ·rw[natNE,zt hl];simp only[Bool.not_true,zd]
  let z:LCol→LCol→LCol:=fun x y=>⟨x.name,x.kind,x.nullable||(kind==6&&y.nullable)⟩
  obtain⟨fl,hfl,hr⟩:=eX (step:=fun(j1:Nat) (x1:LCol) (s1:List LCol)=>
   ag (getI b (j1:Int)) fun(x29:LCol)=>cond (x1.kind !=x29.kind) (some (Flow.ret (([],7):List LCol×Int)))
    (cond x1.nullable (ag (getI s1 (j1:Int)) fun(x51:LCol)=>letP (s1.set ((j1:Int).toNat) (LCol.mk x51.name x51.kind true)) fun(y8:List LCol)=>some (.next y8))
     (cond (kind==(6:Int)) (ag (getI b (j1:Int)) fun(x46:LCol)=>ag (getI s1 (j1:Int)) fun(x51:LCol)=>letP (s1.set ((j1:Int).toNat) (LCol.mk x51.name x51.kind x46.nullable)) fun(y9:List LCol)=>some (.next y9))
      (ag (getI s1 (j1:Int)) fun(x51:LCol)=>letP (s1.set ((j1:Int).toNat) (LCol.mk x51.name x51.kind false)) fun(y10:List LCol)=>some (.next y10)))))
   (fun j s=>s=(List.zipWith z a b).take j++a.drop j∧(a.take j).map LCol.kind=(b.take j).map LCol.kind) (fun r=>r=([],7)∧a.map LCol.kind≠b.map LCol.kind) a 0 a ⟨by simp,rfl⟩ (fun k x s hk hI=>by
    simp only[Nat.zero_add]at hI⊢;have hka:=(zg.1 hk).1;have hxe:=(zg.1 hk).2;have hkb:k<b.length:=by omega
    rw[eP hkb,bPs,bPs];by_cases hkk:x.kind=b[k].kind
    ·have hzl:((List.zipWith z a b).take k).length=k:=by simp;omega
     have hs:s[k]?=some x:=by
      rw[hI.1,List.getElem?_append_right (by omega),hzl,Nat.sub_self,List.getElem?_drop,Nat.add_zero,hk]
     have hkinds:(a.take (k+1)).map LCol.kind=(b.take (k+1)).map LCol.kind:=by
      rw[List.take_add_one,List.take_add_one,hk,ze hkb,List.map_append,List.map_append,hI.2];congr 1;show [x.kind]=[b[k].kind];rw[hkk]
     have hset:∀v:LCol,v=z x b[k]→s.set k v=(List.zipWith z a b).take (k+1)++a.drop (k+1):=by
      intro v hv;rw[hI.1,List.set_append_right _ _ (by omega),hzl,Nat.sub_self];rw[List.drop_eq_getElem_cons hka,List.set_cons_zero,List.take_add_one,List.append_assoc];congr 1;rw[List.getElem?_zipWith,hk,ze hkb];simp[hv]
     rw[gv hkk,zd,gK hs];simp only[bPs,bp,Int.toNat_natCast];cases hx:x.nullable with
     |true=>exact⟨_,rfl,hset _ (by simp[z,hx]),hkinds⟩
     |false=>
      by_cases h6:kind=6
      ·exact⟨.next _,by rw[kT h6];rfl,hset _ (by simp[z,hx,h6]),hkinds⟩
      ·exact⟨.next _,by rw[cP h6];rfl,hset _ (by simp[z,hx,h6]),hkinds⟩
    ·refine⟨.ret ([],7),by rw[kf hkk];rfl,rfl,fun he=>hkk ?_⟩
     have:=congrArg (fun l=>l[k]?) he
     simp only[List.getElem?_map,hk,ze hkb,Option.map_some,zo]at this;exact this)
  rw[hfl,bPs];cases fl with
  |brk s=>exact absurd hr (by simp)
  |ret r=>rw[hr.1,zy (fun h=>hr.2 h.2)];rfl
  |next s=>
   simp only[Nat.zero_add]at hr;rw[cV,hr.1,zp ⟨hl,by have:=hr.2;rwa [List.take_length,hl,List.take_length]at this⟩]
   have:(List.zipWith z a b).take a.length=List.zipWith z a b:=List.take_of_length_le (by simp;omega)
   rw[this,List.drop_length,List.append_nil]
 ·rw[natNE,zf hl,zy (fun h=>hl h.1)];rfl
theorem pM{α:Type}{l:List α}{d:α}(h:0<l.length):getI l 0=some (l.getD 0 d):=by
 cases l with
 |nil=>simp at h
 |cons a l=>rfl
theorem getD1{α:Type}{l:List α}{d:α}(h:1<l.length):getI l 1=some (l.getD 1 d):=by
 match l with
 |[]=>simp at h
 |[_]=>simp at h
 |a::b::l=>rfl
theorem e0_get{q:LQuery}(h:0<q.exprs.length):getI q.exprs 0=some (e0Q q):=by
 unfold e0Q;cases hq:q.exprs with
 |nil=>rw[hq]at h;simp at h
 |cons a l=>rfl
theorem containsS(l:List (List UInt8))(v:List UInt8):dU l v=some (decide (v∈l)):=by
 unfold dU fP;rw[idxF2 (p:=fun x=>v==x),bPs,jF];congr 1;by_cases h:v∈l
 ·rw[zt h,List.any_eq_true];exact⟨v,h,by simp⟩
 ·rw[zf h,List.any_eq_false];intro x hx he;exact h (by simp at he;rwa [he])
theorem agg_eq(c:LChecker)(cols:List LCol)(a:LAggregateCall):gz c cols a=some (pg c.vars cols a):=by
 unfold gz pg;simp only[bp,containsS,bPs];by_cases h1:dG a.name=false
 ·simp[h1]
 have h1':dG a.name=true:=by simpa using h1
 by_cases h2:a.function∈[iI,sSum,sMin,sMax]
 ·rw[zt (show a.function∈([[99,111,117,110,116],[115,117,109],[109,105,110],[109,97,120]]:List (List UInt8))from h2)];cases ha:a.args with
  |nil=>
   by_cases h3:a.function=iI
   ·simp[h1',h3]
   ·have h3':(a.function==([99,111,117,110,116]:List UInt8))=false:=by simpa using h3
    simp[h1',h3,h2,h3']
  |cons e l=>
   cases l with
   |cons e2 l=>
    have:(1:Int)<(l.length:Int)+1+1:=by omega
    simp[h1',h2,this]
   |nil=>
    simp only[h1',Bool.not_true,zd,List.length_singleton];have hno:¬(True=False∨¬a.function∈[iI,sSum,sMin,sMax]∨1<1∨(1<1∧a.function≠iI)):=by simp[h2]
    simp only[getI];by_cases h4:(cZ cols c.vars e).2.2=0
    ·by_cases h5:(cZ cols c.vars e).1=0
     ·simp[h2,h4,h5]
     ·by_cases h6:a.function=sSum
      ·by_cases h7:(cZ cols c.vars e).1=1
       ·simp[h2,h4,h6,h7]
       ·simp[h2,h4,h5,h6,h7,kf h7]
      ·have h6':(a.function==([115,117,109]:List UInt8))=false:=by simpa using h6
       by_cases h8:a.function=iI
       ·simp[h2,h4,h5,h8,cP h5]
       ·have h8':(a.function==([99,111,117,110,116]:List UInt8))=false:=by simpa using h8
        simp[h2,h4,h5,h6,h8,h6',h8',cP h5]
    ·simp[h2,h4,kf h4]
 ·rw[zf (show ¬a.function∈([[99,111,117,110,116],[115,117,109],[109,105,110],[109,97,120]]:List (List UInt8))from h2)];simp[h1',h2]
theorem namedE_run(vars cols:List LCol)(names:List (List UInt8)):∀(es:List LExpr) (j:Nat) (s:List LCol),es.length+j=names.length→s.length+es.length≤10000000→
  ∀k:List LCol→Option (List LCol×Int),ag (aG (σ:=List LCol) (ρ:=((List LCol)×Int)) (fun(j1:Nat) (x1:LExpr) (s1:List LCol)=>
  letP (cZ cols vars x1) fun x31=>
  ag (getI names (j1:Int)) fun(x39:List UInt8)=>
  letP (dG x39) fun x41=>
  cond (!x41)
   (some (.ret ([],3)))
   (cond (x31.2.2 !=(0:Int))
    (some (.ret ([],x31.2.2)))
    (cond (x31.1==(0:Int))
     (some (.ret ([],7)))
     (ag (getI names (j1:Int)) fun(x54:List UInt8)=>
     ag (db 32 s1 ([(LCol.mk x54 x31.1 x31.2.1)]:List LCol)) fun(x60:List LCol)=>
     some (.next x60))))) j es s) (fun fl1=>fl1.thenR k)=if(cw vars cols es (names.drop j)).2≠0 then some ([],(cw vars cols es (names.drop j)).2)else k (s++(cw vars cols es (names.drop j)).1)
 |[],j,s,_,_,k=>by simp[aG,cw]
 |e::es,j,s,hl,hb,k=>by
  have hj:j<names.length:=by simp at hl;omega
  rw[aG,List.drop_eq_getElem_cons hj,cw,bp,eP hj,bPs,bp];cases h1:dG names[j]with
  |false=>simp
  |true=>
   simp only[Bool.not_true,zd,Bool.true_eq_false,if_false];by_cases h2:(cZ cols vars e).2.2=0
   ·rw[gv h2,zd];simp only[h2,ne_eq,not_true_eq_false,if_false];by_cases h3:(cZ cols vars e).1=0
    ·rw[kT h3];simp[h3]
    ·rw[cP h3,zd,bPs,bM (by decide) (by simp at hb⊢;omega),bPs];simp only[h3,if_false];rw[namedE_run vars cols names es (j+1) _ (by simp at hl;omega) (by simp at hb⊢;omega) k];by_cases h4:(cw vars cols es (names.drop (j+1))).2=0
     ·simp[h4]
     ·simp[h4]
   ·rw[kf h2];simp[h2]
theorem namedA_run(c:LChecker)(cols:List LCol):∀(l:List LAggregateCall) (j:Nat) (s:List LCol),s.length+l.length≤10000000→
  ag (aG (σ:=List LCol) (ρ:=((List LCol)×Int)) (fun(_:Nat) (x2:LAggregateCall) (s2:List LCol)=>
  ag (gz c cols x2) fun x73=>
  cond (x73.2 !=(0:Int))
   (some (.ret ([],x73.2)))
   (ag (db 32 s2 ([(LCol.mk x2.name x73.1 (!(x2.function==([99,111,117,110,116]:List UInt8))))]:List LCol)) fun(x88:List LCol)=>
   some (.next x88))) j l s) (fun fl2=>fl2.thenR fun(s2:List LCol)=>some (s2,0))=some (if(ee c.vars cols l).2≠0 then([],(ee c.vars cols l).2)else(s++(ee c.vars cols l).1,0))
 |[],j,s,_=>by simp[aG,ee]
 |a::l,j,s,hb=>by
  rw[aG,ee,agg_eq,bPs];by_cases h1:(pg c.vars cols a).2=0
  ·rw[gv h1,zd,bM (by decide) (by simp at hb⊢;omega),bPs];simp only[h1,ne_eq,not_true_eq_false,if_false];rw[namedA_run c cols l (j+1) _ (by simp at hb⊢;omega)];by_cases h4:(ee c.vars cols l).2=0
   ·simp[h4]
   ·simp[h4]
  ·rw[kf h1];simp[h1]
theorem named_eq(c:LChecker)(q:LQuery)(cols:List LCol)(hl:q.exprs.length=q.names.length)(hb:q.exprs.length≤1000000∧q.aggregates.length≤1000000):eN c q cols=some (np c.vars cols q):=by
 unfold eN np;rw[namedE_run c.vars cols q.names q.exprs 0 [] (by omega) (by simp;omega),List.drop_zero];by_cases h:(cw c.vars cols q.exprs q.names).2=0
 ·have hlen:∀(es:List LExpr) (ns:List (List UInt8)),(cw c.vars cols es ns).1.length≤es.length:=by
   intro es;induction es with
   |nil=>intro ns;simp[cw]
   |cons e es ih=>
    intro ns;cases ns with
    |nil=>simp[cw]
    |cons n ns=>
     simp only[cw];split
     ·simp
     ·split
      ·simp
      ·split
       ·simp
       ·split
        ·simp
        ·have:=ih ns;simp;omega
  simp only[h,ne_eq,not_true_eq_false,if_false,List.nil_append];rw[namedA_run c cols q.aggregates 0 _ (by have:=hlen q.exprs q.names;omega)]
 ·simp[h]
structure SmallQ(q:LQuery):Prop where
 nodes:(da q).length≤10000000
 here:∀x∈da q,x.exprs.length≤1000000∧x.aggregates.length≤1000000
theorem mem_nodes{q x y:LQuery}(h:x∈q.inputs)(hy:y∈da x):y∈da q:=by
 rw[kr];exact List.mem_cons_of_mem _ (List.mem_flatten.2 ⟨_,List.mem_map.2 ⟨x,h,rfl⟩,hy⟩)
theorem rQ(q:LQuery):q∈da q:=by rw[kr];exact List.mem_cons_self
theorem SmallQ.sub{q x:LQuery}(h:SmallQ q)(hx:x∈q.inputs):SmallQ x:=
 ⟨by have:=lW hx;have:=h.nodes;omega,fun y hy=>h.here y (mem_nodes hx hy)⟩
theorem SmallQ.self{q:LQuery}(h:SmallQ q):q.exprs.length≤1000000∧q.aggregates.length≤1000000:=h.here q (rQ q)
structure ShapeOk(q:LQuery):Prop where
 kind:1≤q.kind∧q.kind≤10
 arity:q.inputs.length=qr q.kind
 one:q.kind=2∨q.kind=4∨q.kind=5→q.exprs.length=1
 named:q.kind=3∨q.kind=8→q.exprs.length=q.names.length
 aggs:q.kind≠8→q.aggregates=[]
 sorted:q.kind=9→q.exprs.length=q.descending.length
 limit:q.kind=10→0≤q.count∧0≤q.offset
theorem shape_ok{q:LQuery}(h:mh q=true):ShapeOk q:=by
 unfold mh at h;simp only[Bool.and_eq_true,decide_eq_true_eq]at h
 obtain⟨⟨⟨⟨⟨⟨⟨⟨h1,h2⟩,h3⟩,h4⟩,h5⟩,h6⟩,h7⟩,h8⟩,h9⟩:=h
 refine⟨⟨h1,h2⟩,h3,fun hk=>?_,fun hk=>?_,fun hk=>?_,fun hk=>?_,fun hk=>?_⟩
 ·rw[zp hk]at h9;simpa using h9
 ·rw[zy (by omega),zp hk]at h9;simp at h9;exact h9.1
 ·have:(q.kind==8)=false:=cP hk
  rw[this]at h6;simp at h6;exact h6
 ·rw[zy (by omega),zy (by omega),zp hk]at h9;simp at h9;exact h9.1
 ·rw[zy (by omega),zy (by omega),zy (by omega),zp hk]at h9;simp at h9;omega
theorem join_run(left:Bool):∀(b:List LCol) (j:Nat) (a:List LCol),a.length+b.length≤10000000→
  aG (σ:=List LCol) (ρ:=Empty) (fun(_:Nat) (x2:LCol) (s2:List LCol)=>cond x2.nullable
          (ag (db 32 s2 ([(LCol.mk x2.name x2.kind true)]:List LCol)) fun(x76:List LCol)=>some (.next x76))
          (ag (db 32 s2 ([(LCol.mk x2.name x2.kind left)]:List LCol)) fun(x76:List LCol)=>some (.next x76))) j b a=some (.next (jR a b left))
 |[],j,a,_=>by simp[aG,jR]
 |x::b,j,a,h=>by
  have step:(cond x.nullable (ag (db 32 a ([(LCol.mk x.name x.kind true)]:List LCol)) fun(x76:List LCol)=>some (Flow.next (ρ:=Empty) x76))
    (ag (db 32 a ([(LCol.mk x.name x.kind left)]:List LCol)) fun(x76:List LCol)=>some (.next x76)))=some (.next (a++[⟨x.name,x.kind,x.nullable||left⟩])):=by
   rw[bM (by decide) (by simp at h⊢;omega),bM (by decide) (by simp at h⊢;omega)];cases x.nullable<;>simp
  rw[aG,step];simp only;rw[join_run left b (j+1) _ (by simp at h⊢;omega)];simp[jR]
theorem sort_run(vars cols:List LCol)(ins:List (List LCol))(h0:getI ins 0=some cols):∀(es:List LExpr) (j:Nat) (k:Unit→Option (List LCol×Int)),
  ag (aG (σ:=Unit) (ρ:=((List LCol)×Int)) (fun(_:Nat) (x5:LExpr) (_:Unit)=>ag (getI ins 0) fun(x122:List LCol)=>letP (cZ x122 vars x5) fun x127=>cond (x127.2.2 !=(0:Int)) (some (.ret ([],x127.2.2))) (some (.next ()))) j es ()) (fun fl5=>fl5.thenR k)=
   if kl vars cols es≠0 then some ([],kl vars cols es)else k ()
 |[],j,k=>by simp[aG,kl]
 |e::es,j,k=>by
  rw[aG,kl,h0,bPs,bp];by_cases h:(cZ cols vars e).2.2=0
  ·rw[gv h,zd];simp only[h,ne_eq,not_true_eq_false,if_false];rw[←h0];exact sort_run vars cols ins h0 es (j+1) k
  ·rw[kf h];simp[h]
theorem out_eq{c:LChecker}{q:LQuery}{ins:List (List LCol)}(hs:ShapeOk q)(hsm:SmallQ q)(hl:ins.length=q.inputs.length)(hb:∀l∈ins,l.length≤20):iH c q ins=some (ja c q ins):=by
 obtain⟨hk,ha,h1,hn,_,_,_⟩:=hs
 have hself:=hsm.self
 have hi:∀i,i<ins.length→(ins.getD i []).length≤20:=fun i hi=>by
  rw[List.getD_eq_getElem?_getD,ze hi];exact hb _ (List.getElem_mem hi)
 have e0:q.exprs.length=1→getI q.exprs 0=some (e0Q q):=fun h=>e0_get (by omega)
 unfold iH ja;have kk:q.kind=1∨q.kind=2∨q.kind=3∨q.kind=4∨q.kind=5∨q.kind=6∨q.kind=7∨q.kind=8∨q.kind=9∨q.kind=10:=by omega
 rcases kk with h|h|h|h|h|h|h|h|h|h
 ·rw[h,qM];simp only[bPs];rcases find_idx (fun a0=>eO a0 q) c.s.tables with⟨f1,f2⟩|⟨t,f1,f2,f3⟩
  ·have f1':c.s.tables.find? (fun t=>t.name==q.table)=none:=f1;rw[f2,f1'];rfl
  ·have f1':c.s.tables.find? (fun t=>t.name==q.table)=some t:=f1;rw[f1',zf (show ¬bf (fun a0=>eO a0 q) c.s.tables<0 from by omega),kP f2 f3];rfl
 all_goals rw[h]at ha
 all_goals simp only[qr]at ha
 ·have g0:getI ins 0=some (ins.getD 0 []):=pM (by simp at ha;omega);rw[h,g0,e0 (h1 (.inl h))];simp[bp]
 ·have g0:getI ins 0=some (ins.getD 0 []):=pM (by simp at ha;omega);rw[h,g0];simp only[bPs];rw[named_eq c q _ (hn (.inl h)) hself];simp[bp]
 ·have g0:getI ins 0=some (ins.getD 0 []):=pM (by simp at ha;omega);have g1:getI ins 1=some (ins.getD 1 []):=getD1 (by simp at ha;omega);rw[h,g0,g1,e0 (h1 (.inr (.inl h)))];simp only[bPs];rw[join_run ((4:Int)==5) _ 0 _ (by have:=hi 0 (by simp at ha;omega);have:=hi 1 (by simp at ha;omega);omega)];simp[bp]
 ·have g0:getI ins 0=some (ins.getD 0 []):=pM (by simp at ha;omega);have g1:getI ins 1=some (ins.getD 1 []):=getD1 (by simp at ha;omega);rw[h,g0,g1,e0 (h1 (.inr (.inr h)))];simp only[bPs];rw[join_run ((5:Int)==5) _ 0 _ (by have:=hi 0 (by simp at ha;omega);have:=hi 1 (by simp at ha;omega);omega)];simp[bp]
 ·have g0:getI ins 0=some (ins.getD 0 []):=pM (by simp at ha;omega);have g1:getI ins 1=some (ins.getD 1 []):=getD1 (by simp at ha;omega);rw[h,g0,g1];simp only[bPs,set_ok];simp[bp]
 ·have g0:getI ins 0=some (ins.getD 0 []):=pM (by simp at ha;omega);have g1:getI ins 1=some (ins.getD 1 []):=getD1 (by simp at ha;omega);rw[h,g0,g1];simp only[bPs,set_ok];simp[bp]
 ·have g0:getI ins 0=some (ins.getD 0 []):=pM (by simp at ha;omega);rw[h,g0];simp only[bPs];rw[named_eq c q _ (hn (.inr h)) hself];simp[bp]
 ·have g0:getI ins 0=some (ins.getD 0 []):=pM (by simp at ha;omega);rw[h,sort_run c.vars _ ins g0,g0];simp only[bp,bPs];by_cases hse:kl c.vars (ins.getD 0 []) q.exprs=0
  ·simp only[hse,ne_eq,not_true_eq_false,if_false];rfl
  ·simp only[hse,ne_eq,not_false_eq_true,if_true];rfl
 ·have g0:getI ins 0=some (ins.getD 0 []):=pM (by simp at ha;omega);rw[h,g0];simp[bp]
def dV:List (List LCol×Int)→List (List LCol)×Int
 |[]=>([],0)
 |r::l=>if r.2≠0 then([],r.2)else if(dV l).2≠0 then([],(dV l).2)else(r.1::(dV l).1,0)
def qh(c:LChecker)(q:LQuery)(ins:List (List LCol×Int)):List LCol×Int:=
 if mh q=false then([],3)else if(dV ins).2≠0 then([],(dV ins).2)
 else if(ja c q (dV ins).1).2≠0 then([],(ja c q (dV ins).1).2)
 else if 20<(ja c q (dV ins).1).1.length then([],2)
 else if((ja c q (dV ins).1).1.map LCol.name).Nodup then((ja c q (dV ins).1).1,0)else([],23)
def fq(c:LChecker)(q:LQuery):List LCol×Int:=qh c q (q.inputs.attach.map fun x=>fq c x.1)
termination_by SizeOf.sizeOf q
decreasing_by exact LQuery.inputs_lt x.2
theorem colsQ_eq(c:LChecker)(q:LQuery):fq c q=qh c q (q.inputs.map (fq c)):=by
 rw[fq,List.attach_map_val (f:=fq c)]
theorem uJ(f:LQuery→Option (List LCol×Int))(g:LQuery→List LCol×Int):∀(l:List LQuery) (j:Nat) (s:List (List LCol)),(∀x∈l,f x=some (g x))→s.length+l.length≤10000000→∀k:List (List LCol)→Option (List LCol×Int),
  ag (aG (σ:=List (List LCol)) (ρ:=((List LCol)×Int)) (fun(_:Nat) (x1:LQuery) (s1:List (List LCol))=>ag (f x1) fun x28=>cond (x28.2 !=(0:Int)) (some (.ret ([],x28.2)))
    (ag (db 24 s1 ([x28.1]:List (List LCol))) fun(x37:List (List LCol))=>some (.next x37))) j l s) (fun fl1=>fl1.thenR k)=
   if(dV (l.map g)).2≠0 then some ([],(dV (l.map g)).2)else k (s++(dV (l.map g)).1)
 |[],j,s,_,_,k=>by simp[aG,dV]
 |x::l,j,s,h,hb,k=>by
  rw[aG,h x (by simp),bPs,List.map_cons,dV];by_cases h1:(g x).2=0
  ·rw[gv h1,zd,bM (by decide) (by simp at hb⊢;omega),bPs];simp only[h1,ne_eq,not_true_eq_false,if_false];rw[uJ f g l (j+1) _ (fun y hy=>h y (by simp[hy])) (by simp at hb⊢;omega) k];by_cases h2:(dV (l.map g)).2=0
   ·simp[h2]
   ·simp[h2]
  ·rw[kf h1];simp[h1]
theorem rH:∀{l:List (List LCol×Int)},(dV l).2=0→(∀r∈l,r.2=0)∧(dV l).1=l.map (·.1)
 |[],_=>⟨by simp,rfl⟩
 |r::l,h=>by
  simp only[dV]at h⊢;by_cases h1:r.2=0
  ·by_cases h2:(dV l).2=0
   ·obtain⟨a,b⟩:=rH h2
    refine⟨fun x hx=>?_,by simp[h1,h2,b]⟩
    rcases List.mem_cons.1 hx with rfl|hx
    ·exact h1
    ·exact a x hx
   ·simp[h1,h2]at h
  ·simp[h1]at h
theorem dup_run(out:List LCol):ag (aG (σ:=Unit) (ρ:=((List LCol)×Int)) (fun(j2:Nat) (x2:LCol) (_:Unit)=>
     ag (mX out 0 (j2:Int)) fun(x61:List LCol)=>
     ag (cd x61 (fun a0=>some (co a0 x2))) fun x63=>
     cond x63 (some (.ret ([],23))) (some (.next ()))) 0 out ()) (fun fl2=>fl2.thenR fun(_:Unit)=>some (out,0))=some (if(out.map LCol.name).Nodup then(out,0)else([],23)):=by
 obtain⟨fl,hfl,hr⟩:=eX (step:=fun(j2:Nat) (x2:LCol) (_:Unit)=>
     ag (mX out 0 (j2:Int)) fun(x61:List LCol)=>
     ag (cd x61 (fun a0=>some (co a0 x2))) fun x63=>
     cond x63 (some (Flow.ret (([],23):List LCol×Int))) (some (.next ())))
  (fun j _=>((out.take j).map LCol.name).Nodup) (fun r=>r=([],23)∧¬(out.map LCol.name).Nodup) out 0 () (by simp) (fun k x s hk hI=>by
   simp only[Nat.zero_add]at hI⊢;have hkl:=(zg.1 hk).1;rw[rD ⟨by omega,by omega,by omega⟩,bPs];unfold cd;rw[idx_column,bPs,bPs,jF];simp only[Int.toNat_natCast,Int.toNat_zero,List.drop_zero];cases ha:(out.take k).any fun a0=>co a0 x with
   |true=>
    refine⟨_,rfl,rfl,fun hnd=>?_⟩
    obtain⟨y,hy,he⟩:=List.any_eq_true.1 ha
    have he:y.name=x.name:=by simpa[co]using he
    obtain⟨i,hi,hyi⟩:=List.mem_take_iff_getElem.1 hy
    have hii:i<k:=by omega
    rw[List.nodup_iff_pairwise_ne,List.pairwise_iff_getElem]at hnd;refine hnd i k (by simp;omega) (by simpa using hkl) hii ?_;simp only[List.getElem_map];rw[(zg.1 hk).2,hyi,he]
   |false=>
    refine⟨_,rfl,?_⟩
    simp only;rw[List.take_add_one,hk,List.map_append,List.nodup_append]
    refine⟨hI,by simp,fun a ha' b hb hab=>?_⟩
    simp at hb;subst hb;subst hab
    obtain⟨y,hy,he⟩:=List.mem_map.1 ha'
    have:=List.any_eq_false.1 ha y hy
    exact this (by simpa[co]using he))
 rw[hfl,bPs];cases fl with
 |brk s=>exact absurd hr (by simp)
 |ret r=>rw[ss,hr.1,zy hr.2]
 |next s=>
  simp only[Nat.zero_add,List.take_length]at hr;rw[cV,zp hr]
theorem kQ(c:LChecker)(q:LQuery):(fq c q).1.length≤20:=by
 rw[colsQ_eq];unfold qh
 repeat' split
 all_goals first|(simp;done)|(simp only;omega)
theorem cols_ok(c:LChecker):∀q:LQuery,SmallQ q→fh c q=some (fq c q):=by
 refine LQuery.ind fun q ih hsm=>?_
 refine pE (γ:=LChecker) (F:=fun n c q=>ff n c q) (O:=fun r c q=>fg r c q) (fun n=>rfl) c q ?_ (fun x hx=>⟨_,ih x hx (hsm.sub hx)⟩) ?_
 ·intro r r' h;simp only[fg];congr 1;funext b;congr 2;exact lP q.inputs 0 _ fun k x s hk=>by rw[h x (eH hk)]
 ·have e:∀c x,(jl fun n=>ff n c x)=fh c x:=fun _ _=>rfl
  simp only[fg,e];have hself:=hsm.self;rw[shape_eq q ⟨by omega,by omega⟩,bPs,colsQ_eq];unfold qh;cases hs:mh q with
  |false=>rfl
  |true=>
   have hok:=shape_ok hs;have hin:q.inputs.length≤2:=by rw[hok.arity];unfold qr;split<;>(try split)<;>omega
   simp only[Bool.not_true,zd,Bool.true_eq_false,if_false];rw[uJ (fh c) (fq c) q.inputs 0 [] (fun x hx=>ih x hx (hsm.sub hx)) (by simp;omega),List.nil_append];by_cases h1:(dV (q.inputs.map (fq c))).2=0
   ·obtain⟨a,b⟩:=rH h1
    simp only[h1,ne_eq,not_true_eq_false,if_false]
    rw[out_eq hok hsm (by rw[b];simp) (fun l hl=>by
     rw[b]at hl
     obtain⟨r,hr,rfl⟩:=List.mem_map.1 hl
     obtain⟨x,_,rfl⟩:=List.mem_map.1 hr
     exact kQ c x),bPs]
    generalize ja c q (dV (q.inputs.map (fq c))).1=o;by_cases h2:o.2=0
    ·rw[gv h2,zd];simp only[h2,not_true_eq_false,if_false];by_cases h3:20<o.1.length
     ·rw[zt (show(o.1.length:Int)>20 from by omega),zp h3];rfl
     ·rw[zf (show ¬(o.1.length:Int)>20 from by omega),zy h3,zd];exact dup_run o.1
    ·rw[kf h2];simp[h2]
   ·simp[h1]
theorem whileM_by{σ ρ:Type}{step:σ→Option (Flow σ ρ)}(I:σ→Prop)(μ:σ→Nat)(Q:σ→Prop)(R:ρ→Prop)(hs:∀s,I s→∃fl,step s=some fl∧(match fl with| .next s'=>I s'∧μ s'<μ s| .brk s'=>Q s'| .ret r=>R r)):
  ∀s,I s→∃fl,fY step s=some fl∧(match fl with| .next s'=>Q s'| .brk _=>False| .ret r=>R r):=by
 intro s;generalize hn:μ s=n;induction n using Nat.strongRecOn generalizing s with
 |_ n ih=>
  intro hI
  obtain⟨fl,h1,h2⟩:=hs s hI
  cases fl with
  |next s'=>
   obtain⟨fl,h3,h4⟩:=ih (μ s') (hn▸h2.2) s' rfl h2.1
   exact⟨fl,mu h1 h3,h4⟩
  |brk s'=>exact⟨.next s',mu h1 rfl,h2⟩
  |ret r=>exact⟨.ret r,mu h1 rfl,h2⟩
theorem hC{σ β:Type}{step:σ→Option (Flow σ Empty)}{k:σ→Option β}{R:β→Prop}{s:σ}(I:σ→Prop)(μ:σ→Nat)(Q:σ→Prop)(h0:I s)
  (hs:∀s,I s→∃fl,step s=some fl∧(match fl with| .next s'=>I s'∧μ s'<μ s| .brk s'=>Q s'| .ret _=>False)) (hk:∀s',Q s'→∃r,k s'=some r∧R r):
  ∃r,ag (fY step s) (fun fl=>fl.thenP k)=some r∧R r:=by
 obtain⟨fl,h1,h2⟩:=whileM_by (step:=step) I μ Q (fun _=>False) (fun s hI=>by
  obtain⟨fl,h1,h2⟩:=hs s hI
  refine⟨fl,h1,?_⟩
  cases fl with
  |next s'=>exact h2
  |brk s'=>exact h2
  |ret r=>exact r.elim) s h0
 cases fl with
 |next s'=>rw[h1];exact hk s' h2
 |brk s'=>exact absurd h2 (by simp)
 |ret r=>exact r.elim
theorem mid_eq{n:Int}(h0:0≤n)(h1:n≤4611686018427387904):IntKind.i64.wrap (Int.fdiv (IntKind.u64.wrap (IntKind.i64.wrap n)) (2^1))=n/2:=by
 have h3:IntKind.i64.wrap n=n:=bB (by omega) (by omega)
 have h2:IntKind.u64.wrap n=n:=by
  simp only[IntKind.wrap,IntKind.bits,IntKind.signed];simp;omega
 rw[h3,h2,show(2:Int)^1=2 from rfl,Int.fdiv_eq_ediv_of_nonneg _ (by decide)];exact bB (by omega) (by omega)
section
variable{α:Type}
theorem swap_perm{l:List α}{i j:Nat}{x y:α}(hi:l[i]?=some x)(hj:l[j]?=some y):((l.set i y).set j x).Perm l:=by
 have hil:=(zg.1 hi).1;have hjl:=(zg.1 hj).1;have hx:=(zg.1 hi).2;have hy:=(zg.1 hj).2;rw[←hx,←hy];exact List.set_set_perm hil hjl
end
section
abbrev Rows:=Rz
abbrev Cmp:=Rq→Rq→Option Int
structure SrtOk(cmp:Cmp)(d0 d:Rows):Prop where
 perm:d.Perm d0
 small:d0.length≤1000000
 tot:∀x∈d0,∀y∈d0,Tot (cmp x y)
variable{cmp:Cmp}{d0:Rows}
theorem SrtOk.len{d:Rows}(h:SrtOk cmp d0 d):d.length=d0.length:=h.perm.length_eq
theorem SrtOk.cm{d:Rows}(h:SrtOk cmp d0 d){x y:Rq}(hx:x∈d)(hy:y∈d):Tot (cmp x y):=h.tot x (h.perm.mem_iff.1 hx) y (h.perm.mem_iff.1 hy)
theorem SrtOk.swap{d:Rows}(h:SrtOk cmp d0 d){i j:Nat}{x y:Rq}(hi:d[i]?=some x)(hj:d[j]?=some y):SrtOk cmp d0 ((d.set i y).set j x):=⟨(swap_perm hi hj).trans h.perm,h.small,h.tot⟩
theorem SrtOk.get{d:Rows}(h:SrtOk cmp d0 d){i:Int}(h0:0≤i)(h1:i<d0.length):∃x,getI d i=some x∧d[i.toNat]?=some x∧x∈d:=by
 have hl:=h.len
 have:i.toNat<d.length:=by omega
 exact⟨d[i.toNat],kP h0 (ze this),ze this,List.getElem_mem _⟩
theorem getI_set{α:Type}{l:List α}{i j:Int}{x y:α}(h0:0≤j)(hj:l[j.toNat]?=some y):∃z,getI (l.set i.toNat x) j=some z:=by
 have hl:=(zg.1 hj).1
 exact⟨_,kP h0 (ze (by simpa using hl))⟩
theorem tV{β:Type}{d:Rows}(h:SrtOk cmp d0 d){i j:Int}(hi0:0≤i)(hi1:i<d0.length)(hj0:0≤j)(hj1:j<d0.length):∃d',SrtOk cmp d0 d'∧∀k:Rows→Option β,
  (ag (getI d j) fun(x28:Rq)=>ag (getI d i) fun(x34:Rq)=>ag (getI d i) fun(_:Rq)=>letP (d.set i.toNat x28) fun(y6:Rows)=>ag (getI y6 j) fun(_:Rq)=>letP (y6.set j.toNat x34) fun(y7:Rows)=>k y7)=k d':=by
 obtain⟨y,hy,hy',_⟩:=h.get hj0 hj1
 obtain⟨x,hx,hx',_⟩:=h.get hi0 hi1
 obtain⟨z,hz⟩:=getI_set (i:=i) (x:=y) hj0 hy'
 refine⟨_,h.swap hx' hy',fun k=>?_⟩
 rw[hy,hx];simp only[bPs,bp];rw[hz,bPs]
theorem tm{d:Rows}(h:SrtOk cmp d0 d){a b:Int}(ha:0≤a∧a≤d0.length)(hb:b≤d0.length):∃d',cz d a b cmp=some d'∧SrtOk cmp d0 d':=by
 have hs:=h.small;unfold cz;rw[bB (by omega) (by omega)];refine hC (fun s=>SrtOk cmp d0 s.1∧a<s.2) (fun s=>(b-s.2).toNat) (fun s=>SrtOk cmp d0 s.1) ⟨h,by show a<a+1;omega⟩ (fun s hI=>?_) (fun s hq=>⟨_,rfl,hq⟩)
 obtain⟨h1,h2⟩:=hI
 by_cases hlt:s.2<b
 ·rw[zt hlt,zc];refine hC (fun t=>SrtOk cmp d0 t.1∧a≤t.2∧t.2<b) (fun t=>(t.2-a).toNat) (fun t=>SrtOk cmp d0 t.1) ⟨h1,by show a≤s.2;omega,hlt⟩ (fun t hI=>?_) (fun t hq=>⟨_,rfl,?_⟩)
  ·obtain⟨g1,g2,g3⟩:=hI
   by_cases hgt:t.2>a
   ·rw[zt hgt,zc,bB (by omega) (by omega)]
    obtain⟨x,hx,hx',hxm⟩:=g1.get (i:=t.2) (by omega) (by omega)
    obtain⟨y,hy,hy',hym⟩:=g1.get (i:=t.2-1) (by omega) (by omega)
    obtain⟨c,hc⟩:=g1.cm hxm hym
    obtain⟨d',hd',hsw⟩:=tV (β:=Flow (Rows×Int) Empty) g1 (i:=t.2) (j:=t.2-1) (by omega) (by omega) (by omega) (by omega)
    rw[hx,bPs,hy,bPs,hc,bPs,bPs];by_cases hneg:c<0
    ·rw[zt hneg]
     have:=hsw (fun y31=>some (.next (y31,t.2-1)))
     rw[hx,hy]at this
     refine⟨.next (d',t.2-1),?_,⟨hd',by show a≤t.2-1;omega,by show t.2-1<b;omega⟩,by show(t.2-1-a).toNat<(t.2-a).toNat;omega⟩
     rw[zc];simp only;rw[hy,hx];exact this
    ·rw[zf hneg]
     exact⟨_,rfl,g1⟩
   ·rw[zf hgt]
    exact⟨_,rfl,g1⟩
  ·show(SrtOk cmp d0 t.1∧a<IntKind.i64.wrap (s.2+1))∧(b-IntKind.i64.wrap (s.2+1)).toNat<(b-s.2).toNat
   rw[bB (by omega) (by omega)]
   exact⟨⟨hq,by omega⟩,by omega⟩
 ·rw[zf hlt]
  exact⟨_,rfl,h1⟩
theorem qd{d:Rows}(h:SrtOk cmp d0 d){a b n:Int}(ha:0≤a)(hb:0≤b)(hn:n≤d0.length)(ha':a+n≤d0.length)(hb':b+n≤d0.length):∃d',cu d a b n cmp=some d'∧SrtOk cmp d0 d':=by
 have hs:=h.small;unfold cu;refine hC (fun s=>SrtOk cmp d0 s.1∧0≤s.2) (fun s=>(n-s.2).toNat) (fun s=>SrtOk cmp d0 s.1) ⟨h,by show(0:Int)≤0;omega⟩ (fun s hI=>?_) (fun s hq=>⟨_,rfl,hq⟩)
 obtain⟨h1,h2⟩:=hI
 by_cases hlt:s.2<n
 ·rw[zt hlt,zc,bB (n:=b+s.2) (by omega) (by omega),bB (n:=a+s.2) (by omega) (by omega),bB (n:=s.2+1) (by omega) (by omega)]
  obtain⟨d',hd',hsw⟩:=tV (β:=Flow (Rows×Int) Empty) h1 (i:=a+s.2) (j:=b+s.2) (by omega) (by omega) (by omega) (by omega)
  exact⟨_,hsw _,⟨hd',by show 0≤s.2+1;omega⟩,by show(n-(s.2+1)).toNat<(n-s.2).toNat;omega⟩
 ·rw[zf hlt]
  exact⟨_,rfl,h1⟩
theorem rotate_ok{d:Rows}(h:SrtOk cmp d0 d){a m b:Int}(ha:0≤a)(hm:a<m)(hb:m<b)(hb':b≤d0.length):∃d',dD d a m b cmp=some d'∧SrtOk cmp d0 d':=by
 have hs:=h.small;unfold dD;rw[bB (n:=m-a) (by omega) (by omega),bB (n:=b-m) (by omega) (by omega)];refine hC (fun s=>SrtOk cmp d0 s.1∧0<s.2.1∧0<s.2.2∧s.2.1≤m-a∧s.2.2≤b-m) (fun s=>(s.2.1+s.2.2).toNat) (fun s=>SrtOk cmp d0 s.1∧0<s.2.1∧s.2.1≤m-a∧s.2.1≤b-m) ⟨h,by show 0<m-a;omega,by show 0<b-m;omega,Int.le_refl _,Int.le_refl _⟩ (fun s hI=>?_) (fun s hq=>?_)
 ·obtain⟨h1,h2,h3,h4,h5⟩:=hI
  by_cases hne:s.2.1=s.2.2
  ·rw[gv hne]
   exact⟨_,rfl,h1,h2,h4,by show s.2.1≤b-m;omega⟩
  ·rw[kf hne,zc,bB (n:=m-s.2.1) (by omega) (by omega)];by_cases hgt:s.2.1>s.2.2
   ·rw[zt hgt,zc]
    obtain⟨d',e,hd'⟩:=qd h1 (a:=m-s.2.1) (b:=m) (n:=s.2.2) (by omega) (by omega) (by omega) (by omega) (by omega)
    rw[e,bPs,dY (by rw[hd'.len,h1.len]),bPs,bB (by omega) (by omega)]
    exact⟨_,rfl,⟨hd',by show 0<s.2.1-s.2.2;omega,h3,by show s.2.1-s.2.2≤m-a;omega,h5⟩,by show(s.2.1-s.2.2+s.2.2).toNat<(s.2.1+s.2.2).toNat;omega⟩
   ·rw[zf hgt,zd,bB (n:=m+s.2.2) (by omega) (by omega),bB (n:=m+s.2.2-s.2.1) (by omega) (by omega)]
    obtain⟨d',e,hd'⟩:=qd h1 (a:=m-s.2.1) (b:=m+s.2.2-s.2.1) (n:=s.2.1) (by omega) (by omega) (by omega) (by omega) (by omega)
    rw[e,bPs,dY (by rw[hd'.len,h1.len]),bPs,bB (by omega) (by omega)]
    exact⟨_,rfl,⟨hd',h2,by show 0<s.2.2-s.2.1;omega,h4,by show s.2.2-s.2.1≤b-m;omega⟩,by show(s.2.1+(s.2.2-s.2.1)).toNat<(s.2.1+s.2.2).toNat;omega⟩
 ·obtain⟨h1,h2,h3,h4⟩:=hq
  rw[bB (n:=m-s.2.1) (by omega) (by omega)]
  obtain⟨d',e,hd'⟩:=qd h1 (a:=m-s.2.1) (b:=m) (n:=s.2.1) (by omega) (by omega) (by omega) (by omega) (by omega)
  rw[e,bPs,dY (by rw[hd'.len,h1.len]),bPs]
  exact⟨_,rfl,hd'⟩
def LeO{β:Type}(o o':Option β):Prop:=∀r,o=some r→o'=some r
theorem LeO.refl{β:Type}(o:Option β):LeO o o:=fun _ h=>h
theorem LeO.bind{β γ:Type}{o o':Option β}{k k':β→Option γ}(h:LeO o o')(hk:∀v,LeO (k v) (k' v)):LeO (ag o k) (ag o' k'):=by
 intro r hr;cases o with
 |none=>cases hr
 |some v=>rw[h v rfl];exact hk v r hr
theorem LeO.cond{β:Type}{b:Bool}{x x' y y':Option β}(hx:LeO x x')(hy:LeO y y'):LeO (cond b x y) (cond b x' y'):=by
 cases b
 ·exact hy
 ·exact hx
theorem LeO.thenP{σ β:Type}{fl:Flow σ Empty}{k k':σ→Option β}(hk:∀s,LeO (k s) (k' s)):LeO (fl.thenP k) (fl.thenP k'):=by
 cases fl with
 |next s=>exact hk s
 |brk s=>exact hk s
 |ret r=>exact r.elim
theorem symMerge_mono{r r':Rows→Int→Int→Int→Option Rows}(h:∀d a m b,LeO (r d a m b) (r' d a m b))(d:Rows)(a m b:Int):LeO (cB r d a m b cmp) (cB r' d a m b cmp):=by
 unfold cB;simp only[bp];refine LeO.cond (LeO.refl _) (LeO.cond (LeO.refl _) (LeO.bind (LeO.refl _) fun fl=>LeO.thenP fun s=>LeO.bind (LeO.refl _) fun t=>LeO.bind (LeO.cond (LeO.bind (h _ _ _ _) fun _=>LeO.refl _) (LeO.refl _)) fun u=>LeO.cond (LeO.cond (LeO.bind (h _ _ _ _) fun _=>LeO.refl _) (LeO.refl _)) (LeO.refl _)))
theorem su:∀(n:Nat) (d:Rows) (a m b:Int),LeO (bv n d a m b cmp) (bv (n+1) d a m b cmp)
 |0,d,a,m,b=>fun r h=>by simp[bv]at h
 |n+1,d,a,m,b=>by
  rw[bv,bv];exact symMerge_mono (fun d a m b=>su n d a m b) d a m b
theorem tu{n:Nat}{d:Rows}{a m b:Int}{r:Rows}(h:bv n d a m b cmp=some r):fm d a m b cmp=some r:=by
 refine oq n fun k hk=>?_
 obtain⟨j,rfl⟩:∃j,k=n+j:=⟨k-n,by omega⟩
 clear hk;induction j with
 |zero=>exact h
 |succ j ih=>exact su (n+j) d a m b r ih
theorem oF:∀(n:Nat) {d:Rows} (_:SrtOk cmp d0 d) {a m b:Int},0≤a→a<m→m<b→b≤d0.length→(b-a).toNat<n→∃d',bv n d a m b cmp=some d'∧SrtOk cmp d0 d'
 |0,_,_,_,_,_,_,_,_,_,hn=>by omega
 |n+1,d,h,a,m,b,ha,hm,hb,hb',hn=>by
  have hs:=h.small;rw[bv];unfold cB;rw[bB (n:=m-a) (by omega) (by omega),bB (n:=b-m) (by omega) (by omega)];by_cases h1:m-a=1
  ·rw[kT h1,zc];refine hC (fun s=>SrtOk cmp d0 s.1∧m≤s.2.1∧s.2.1≤s.2.2∧s.2.2≤b) (fun s=>(s.2.2-s.2.1).toNat) (fun s=>SrtOk cmp d0 s.1∧m≤s.2.1∧s.2.1≤b) ⟨h,Int.le_refl _,by show m≤b;omega,Int.le_refl _⟩ (fun s hI=>?_) (fun s hq=>?_)
   ·obtain⟨g1,g2,g3,g4⟩:=hI
    by_cases hlt:s.2.1<s.2.2
    ·rw[zt hlt,zc,mid_eq (n:=s.2.1+s.2.2) (by omega) (by omega)]
     obtain⟨x,hx,_,hxm⟩:=g1.get (i:=(s.2.1+s.2.2)/2) (by omega) (by omega)
     obtain⟨y,hy,_,hym⟩:=g1.get (i:=a) (by omega) (by omega)
     obtain⟨c,hc⟩:=g1.cm hxm hym
     rw[hx,bPs,hy,bPs,hc,bPs];by_cases hneg:c<0
     ·rw[zt hneg,zc,bB (by omega) (by omega)]
      exact⟨_,rfl,⟨g1,by show m≤(s.2.1+s.2.2)/2+1;omega,by show(s.2.1+s.2.2)/2+1≤s.2.2;omega,g4⟩,by show(s.2.2-((s.2.1+s.2.2)/2+1)).toNat<(s.2.2-s.2.1).toNat;omega⟩
     ·rw[zf hneg,zd]
      exact⟨_,rfl,⟨g1,g2,by show s.2.1≤(s.2.1+s.2.2)/2;omega,by show(s.2.1+s.2.2)/2≤b;omega⟩,by show((s.2.1+s.2.2)/2-s.2.1).toNat<(s.2.2-s.2.1).toNat;omega⟩
    ·rw[zf hlt]
     exact⟨_,rfl,g1,g2,by show s.2.1≤b;omega⟩
   ·obtain⟨g1,g2,g3⟩:=hq
    rw[bB (n:=s.2.1-1) (by omega) (by omega)];refine hC (fun t=>SrtOk cmp d0 t.1∧a≤t.2) (fun t=>(s.2.1-t.2).toNat) (fun t=>SrtOk cmp d0 t.1) ⟨g1,Int.le_refl _⟩ (fun t hI=>?_) (fun t hq=>⟨_,rfl,hq⟩)
    obtain⟨k1,k2⟩:=hI
    by_cases hlt:t.2<s.2.1-1
    ·rw[zt hlt,zc,bB (n:=t.2+1) (by omega) (by omega)]
     obtain⟨d',hd',hsw⟩:=tV (β:=Flow (Rows×Int) Empty) k1 (i:=t.2) (j:=t.2+1) (by omega) (by omega) (by omega) (by omega)
     exact⟨_,hsw _,⟨hd',by show a≤t.2+1;omega⟩,by show(s.2.1-(t.2+1)).toNat<(s.2.1-t.2).toNat;omega⟩
    ·rw[zf hlt]
     exact⟨_,rfl,k1⟩
  ·rw[cP h1,zd];by_cases h2:b-m=1
   ·rw[kT h2,zc];refine hC (fun s=>SrtOk cmp d0 s.1∧a≤s.2.1∧s.2.1≤s.2.2∧s.2.2≤m) (fun s=>(s.2.2-s.2.1).toNat) (fun s=>SrtOk cmp d0 s.1∧a≤s.2.1∧s.2.1≤m) ⟨h,Int.le_refl _,by show a≤m;omega,Int.le_refl _⟩ (fun s hI=>?_) (fun s hq=>?_)
    ·obtain⟨g1,g2,g3,g4⟩:=hI
     by_cases hlt:s.2.1<s.2.2
     ·rw[zt hlt,zc,mid_eq (n:=s.2.1+s.2.2) (by omega) (by omega)]
      obtain⟨x,hx,_,hxm⟩:=g1.get (i:=m) (by omega) (by omega)
      obtain⟨y,hy,_,hym⟩:=g1.get (i:=(s.2.1+s.2.2)/2) (by omega) (by omega)
      obtain⟨c,hc⟩:=g1.cm hxm hym
      rw[hx,bPs,hy,bPs,hc,bPs];by_cases hneg:c<0
      ·rw[zt hneg]
       exact⟨_,rfl,⟨g1,g2,by show s.2.1≤(s.2.1+s.2.2)/2;omega,by show(s.2.1+s.2.2)/2≤m;omega⟩,by show((s.2.1+s.2.2)/2-s.2.1).toNat<(s.2.2-s.2.1).toNat;omega⟩
      ·rw[zf hneg,Bool.not_false,zc,bB (by omega) (by omega)]
       exact⟨_,rfl,⟨g1,by show a≤(s.2.1+s.2.2)/2+1;omega,by show(s.2.1+s.2.2)/2+1≤s.2.2;omega,g4⟩,by show(s.2.2-((s.2.1+s.2.2)/2+1)).toNat<(s.2.2-s.2.1).toNat;omega⟩
     ·rw[zf hlt]
      exact⟨_,rfl,g1,g2,by show s.2.1≤m;omega⟩
    ·obtain⟨g1,g2,g3⟩:=hq
     refine hC (fun t=>SrtOk cmp d0 t.1∧a≤t.2∧t.2≤m) (fun t=>(t.2-a).toNat) (fun t=>SrtOk cmp d0 t.1) ⟨g1,by show a≤m;omega,Int.le_refl _⟩ (fun t hI=>?_) (fun t hq=>⟨_,rfl,hq⟩)
     obtain⟨k1,k2,k3⟩:=hI
     by_cases hlt:t.2>s.2.1
     ·rw[zt hlt,zc,bB (n:=t.2-1) (by omega) (by omega)]
      obtain⟨d',hd',hsw⟩:=tV (β:=Flow (Rows×Int) Empty) k1 (i:=t.2) (j:=t.2-1) (by omega) (by omega) (by omega) (by omega)
      exact⟨_,hsw _,⟨hd',by show a≤t.2-1;omega,by show t.2-1≤m;omega⟩,by show(t.2-1-a).toNat<(t.2-a).toNat;omega⟩
     ·rw[zf hlt]
      exact⟨_,rfl,k1⟩
   ·rw[cP h2,zd];simp only[bp];rw[mid_eq (n:=a+b) (by omega) (by omega)];generalize hmid:(a+b)/2=mid;have b1:2*mid≤a+b∧a+b≤2*mid+1:=by omega
    rw[bB (n:=mid+m) (by omega) (by omega),bB (n:=mid+m-b) (by omega) (by omega),bB (n:=mid+m-1) (by omega) (by omega)]
    obtain⟨lo,hi,e1,l1,l2,l3,l4,l5,l6⟩:∃lo hi:Int,(cond (decide (m>mid)) ((d,mid+m-b,mid)) ((d,a,m)):Rows×Int×Int)=(d,lo,hi)∧a≤lo∧lo≤hi∧hi≤m∧mid+m-lo≤b∧m≤mid+m-hi∧hi≤mid:=by
     by_cases hgt:m>mid
     ·exact⟨mid+m-b,mid,by rw[zt hgt];rfl,by omega,by omega,by omega,by omega,by omega,by omega⟩
     ·exact⟨a,m,by rw[zf hgt];rfl,by omega,by omega,by omega,by omega,by omega,by omega⟩
    rw[e1];refine hC (fun s=>SrtOk cmp d0 s.1∧lo≤s.2.1∧s.2.1≤s.2.2∧s.2.2≤hi) (fun s=>(s.2.2-s.2.1).toNat) (fun s=>SrtOk cmp d0 s.1∧lo≤s.2.1∧s.2.1≤hi) ⟨h,Int.le_refl _,l2,Int.le_refl _⟩ (fun s hI=>?_) (fun s hq=>?_)
    ·obtain⟨g1,g2,g3,g4⟩:=hI
     by_cases hlt:s.2.1<s.2.2
     ·rw[zt hlt,zc,mid_eq (n:=s.2.1+s.2.2) (by omega) (by omega)];generalize hc:(s.2.1+s.2.2)/2=c;have c1:s.2.1≤c∧c<s.2.2:=by omega
      rw[bB (n:=mid+m-1-c) (by omega) (by omega)]
      obtain⟨x,hx,_,hxm⟩:=g1.get (i:=mid+m-1-c) (by omega) (by omega)
      obtain⟨y,hy,_,hym⟩:=g1.get (i:=c) (by omega) (by omega)
      obtain⟨v,hv⟩:=g1.cm hxm hym
      rw[hx,bPs,hy,bPs,hv,bPs];by_cases hneg:v<0
      ·rw[zt hneg]
       exact⟨_,rfl,⟨g1,g2,by show s.2.1≤c;omega,by show c≤hi;omega⟩,by show(c-s.2.1).toNat<(s.2.2-s.2.1).toNat;omega⟩
      ·rw[zf hneg,Bool.not_false,zc,bB (by omega) (by omega)]
       exact⟨_,rfl,⟨g1,by show lo≤c+1;omega,by show c+1≤s.2.2;omega,g4⟩,by show(s.2.2-(c+1)).toNat<(s.2.2-s.2.1).toNat;omega⟩
     ·rw[zf hlt]
      exact⟨_,rfl,g1,g2,by show s.2.1≤hi;omega⟩
    ·obtain⟨g1,g2,g3⟩:=hq
     rw[bB (n:=mid+m-s.2.1) (by omega) (by omega)]
     -- the rotation
     obtain⟨t,ht,hto⟩:∃t,(ag (cond ((cond (decide (s.2.1<m)) ((s.1,decide (m<mid+m-s.2.1))) ((s.1,false)):Rows×Bool)).2
       (ag (dD ((cond (decide (s.2.1<m)) ((s.1,decide (m<mid+m-s.2.1))) ((s.1,false)):Rows×Bool)).1 s.2.1 m (mid+m-s.2.1) cmp) fun x191=>ag (eY (x191.length=((cond (decide (s.2.1<m)) ((s.1,decide (m<mid+m-s.2.1))) ((s.1,false)):Rows×Bool)).1.length) ()) fun(_:Unit)=>some x191)
       (some ((cond (decide (s.2.1<m)) ((s.1,decide (m<mid+m-s.2.1))) ((s.1,false)):Rows×Bool)).1)) some)=some t∧SrtOk cmp d0 t:=by
      by_cases c1:s.2.1<m
      ·by_cases c2:m<mid+m-s.2.1
       ·rw[zt c1,zt c2];simp only[zc]
        obtain⟨d',e,hd'⟩:=rotate_ok g1 (a:=s.2.1) (m:=m) (b:=mid+m-s.2.1) (by omega) c1 c2 (by omega)
        rw[e,bPs,dY (by rw[hd'.len,g1.len])]
        exact⟨_,rfl,hd'⟩
       ·rw[zt c1,zf c2]
        exact⟨_,rfl,g1⟩
      ·rw[zf c1]
       exact⟨_,rfl,g1⟩
     have ht':=ht;generalize hcc:(cond ((cond (decide (s.2.1<m)) ((s.1,decide (m<mid+m-s.2.1))) ((s.1,false)):Rows×Bool)).2 _ _:Option Rows)=o at ht⊢;cases o with
     |none=>cases ht
     |some t0=>
      simp only[bPs,zo]at ht;subst ht;rw[bPs];clear hcc ht'
      obtain⟨u,hu,huo⟩:∃u,(ag (cond ((cond (decide (a<s.2.1)) ((t0,decide (s.2.1<mid))) ((t0,false)):Rows×Bool)).2
        (ag (bv n ((cond (decide (a<s.2.1)) ((t0,decide (s.2.1<mid))) ((t0,false)):Rows×Bool)).1 a s.2.1 mid cmp) fun x205=>ag (eY (x205.length=((cond (decide (a<s.2.1)) ((t0,decide (s.2.1<mid))) ((t0,false)):Rows×Bool)).1.length) ()) fun(_:Unit)=>some x205)
        (some ((cond (decide (a<s.2.1)) ((t0,decide (s.2.1<mid))) ((t0,false)):Rows×Bool)).1)) some)=some u∧SrtOk cmp d0 u:=by
       by_cases c1:a<s.2.1
       ·by_cases c2:s.2.1<mid
        ·rw[zt c1,zt c2];simp only[zc]
         obtain⟨d',e,hd'⟩:=oF n hto (a:=a) (m:=s.2.1) (b:=mid) ha c1 c2 (by omega) (by omega)
         rw[e,bPs,dY (by rw[hd'.len,hto.len])]
         exact⟨_,rfl,hd'⟩
        ·rw[zt c1,zf c2]
         exact⟨_,rfl,hto⟩
       ·rw[zf c1]
        exact⟨_,rfl,hto⟩
      generalize hcc:(cond ((cond (decide (a<s.2.1)) ((t0,decide (s.2.1<mid))) ((t0,false)):Rows×Bool)).2 _ _:Option Rows)=o at hu⊢;cases o with
      |none=>cases hu
      |some u0=>
       simp only[bPs,zo]at hu;subst hu;rw[bPs];by_cases c1:mid<mid+m-s.2.1
       ·rw[zt c1,zc];by_cases c2:mid+m-s.2.1<b
        ·rw[zt c2,zc]
         obtain⟨d',e,hd'⟩:=oF n huo (a:=mid) (m:=mid+m-s.2.1) (b:=b) (by omega) c1 c2 hb' (by omega)
         rw[e,bPs,dY (by rw[hd'.len,huo.len])]
         exact⟨_,rfl,hd'⟩
        ·rw[zf c2]
         exact⟨_,rfl,huo⟩
       ·rw[zf c1]
        exact⟨_,rfl,huo⟩
theorem stable_ok{d:Rows}(h:SrtOk cmp d0 d):∃d',eB d (d0.length:Int) cmp=some d'∧SrtOk cmp d0 d':=by
 have hs:=h.small;unfold eB;refine hC (fun s=>SrtOk cmp d0 s.1∧0≤s.2.1∧s.2.1≤s.2.2∧s.2.2≤s.2.1+20∧s.2.1≤d0.length) (fun s=>(d0.length+20-s.2.2).toNat) (fun s=>SrtOk cmp d0 s.1∧0≤s.2.1∧s.2.1≤d0.length) ⟨h,by show(0:Int)≤0;omega,by show(0:Int)≤20;omega,by show(20:Int)≤0+20;omega,by show(0:Int)≤d0.length;omega⟩ (fun s hI=>?_) (fun s hq=>?_)
 ·obtain⟨g1,g2,g3,g4,g5⟩:=hI
  by_cases hle:s.2.2≤(d0.length:Int)
  ·rw[zt hle,zc]
   obtain⟨d',e,hd'⟩:=tm g1 (a:=s.2.1) (b:=s.2.2) ⟨g2,by omega⟩ hle
   rw[e,bPs,dY (by rw[hd'.len,g1.len]),bPs,bB (by omega) (by omega)]
   exact⟨_,rfl,⟨hd',by show 0≤s.2.2;omega,by show s.2.2≤s.2.2+20;omega,by show s.2.2+20≤s.2.2+20;omega,hle⟩,by show((d0.length:Int)+20-(s.2.2+20)).toNat<((d0.length:Int)+20-s.2.2).toNat;omega⟩
  ·rw[zf hle]
   exact⟨_,rfl,g1,g2,g5⟩
 ·obtain⟨g1,g2,g3⟩:=hq
  obtain⟨d',e,hd'⟩:=tm g1 (a:=s.2.1) (b:=(d0.length:Int)) ⟨g2,by omega⟩ (Int.le_refl _)
  rw[e,bPs,dY (by rw[hd'.len,g1.len]),bPs];clear e g1 g2 g3 s h;refine hC (fun s=>SrtOk cmp d0 s.1∧20≤s.2) (fun s=>(d0.length-s.2).toNat) (fun s=>SrtOk cmp d0 s.1) ⟨hd',by show(20:Int)≤20;omega⟩ (fun s hI=>?_) (fun s hq=>⟨_,rfl,hq⟩)
  obtain⟨g1,g2⟩:=hI
  by_cases hlt:s.2<(d0.length:Int)
  ·rw[zt hlt,zc,bB (n:=2*s.2) (by omega) (by omega)];refine hC (fun t=>SrtOk cmp d0 t.1∧0≤t.2.1∧t.2.2=t.2.1+2*s.2∧t.2.1≤d0.length) (fun t=>(d0.length+2*s.2-t.2.2).toNat) (fun t=>SrtOk cmp d0 t.1∧0≤t.2.1∧t.2.1≤d0.length) ⟨g1,by show(0:Int)≤0;omega,by show 2*s.2=0+2*s.2;omega,by show(0:Int)≤d0.length;omega⟩ (fun t hI=>?_) (fun t hq=>?_)
   ·obtain⟨k1,k2,k3,k4⟩:=hI
    by_cases hle:t.2.2≤(d0.length:Int)
    ·rw[zt hle,zc,bB (n:=t.2.1+s.2) (by omega) (by omega)]
     obtain⟨d'',e,hd''⟩:=oF ((t.2.2-t.2.1).toNat+1) k1 (a:=t.2.1) (m:=t.2.1+s.2) (b:=t.2.2) k2 (by omega) (by omega) hle (by omega)
     rw[tu e,bPs,dY (by rw[hd''.len,k1.len]),bPs,bB (by omega) (by omega)]
     exact⟨_,rfl,⟨hd'',by show 0≤t.2.2;omega,by show t.2.2+2*s.2=t.2.2+2*s.2;omega,hle⟩,by show((d0.length:Int)+2*s.2-(t.2.2+2*s.2)).toNat<((d0.length:Int)+2*s.2-t.2.2).toNat;omega⟩
    ·rw[zf hle]
     exact⟨_,rfl,k1,k2,k4⟩
   ·obtain⟨k1,k2,k3⟩:=hq
    rw[bB (n:=t.2.1+s.2) (by omega) (by omega),bB (n:=s.2*2) (by omega) (by omega)];by_cases hm:t.2.1+s.2<(d0.length:Int)
    ·rw[zt hm,zc]
     obtain⟨d'',e,hd''⟩:=oF ((d0.length-t.2.1).toNat+1) k1 (a:=t.2.1) (m:=t.2.1+s.2) (b:=(d0.length:Int)) k2 (by omega) (by omega) (Int.le_refl _) (by omega)
     rw[tu e,bPs,dY (by rw[hd''.len,k1.len]),bPs]
     exact⟨_,rfl,⟨hd'',by show 20≤s.2*2;omega⟩,by show((d0.length:Int)-s.2*2).toNat<((d0.length:Int)-s.2).toNat;omega⟩
    ·rw[zf hm,zd]
     exact⟨_,rfl,⟨k1,by show 20≤s.2*2;omega⟩,by show((d0.length:Int)-s.2*2).toNat<((d0.length:Int)-s.2).toNat;omega⟩
  ·rw[zf hlt]
   exact⟨_,rfl,g1⟩
theorem sortStable_ok{d:Rows}(hs:d.length≤1000000)(ht:∀x∈d,∀y∈d,Tot (cmp x y)):∃d',cQ d cmp=some d'∧d'.Perm d:=by
 unfold cQ
 obtain⟨d',e,hd'⟩:=stable_ok (cmp:=cmp) (d0:=d) (d:=d) ⟨List.Perm.refl _,hs,ht⟩
 rw[e,bPs,dY hd'.len,bPs]
 exact⟨d',rfl,hd'.perm⟩
end
theorem rF(r:LRun)(cols:List LCol)(x:Rq)(l:List LExpr)(hl:l.length≤10000000):dJ r cols x l=some (l.map fun e=>cn (bw r cols x) e):=by
 unfold dJ
 rw[mY (xs:=l) (fun e=>cn (bw r cols x) e) (fun k e hk=>by
  have:=(zg.1 hk).1
  rw[bp,bp,bM (by decide) (by simp;omega),bPs])]
 rfl
theorem compare_tot(a b:Rq)(ds:List Bool):Tot (iJ a b ds):=by
 unfold iJ;refine Tot.bind (Tot.range _ _ _ fun k x s hk=>?_) fun fl _=>Tot.thenR fun _ _=>Tot.mk
 rw[Nat.zero_add];by_cases h1:(k:Int)≥(b.length:Int)
 ·rw[zt h1];exact Tot.mk
 ·rw[zf h1,zd,eP (by omega)];simp only[bPs,bp];refine Tot.cond (fun _=>Tot.mk) fun _=>?_
  refine Tot.cond (fun h=>?_) fun _=>Tot.cond (fun _=>Tot.mk) fun _=>Tot.mk
  have h:=of_decide_eq_true h;rw[eP (by omega),bPs];exact Tot.cond (fun _=>Tot.cond (fun _=>Tot.mk) fun _=>Tot.mk) fun _=>Tot.cond (fun _=>Tot.mk) fun _=>Tot.mk
theorem sort_ok(r:LRun)(q:LQuery)(cols:List LCol)(l:Rows)(hs:l.length≤1000000)(he:q.exprs.length≤1000000):∃l',fR r q cols l=some l'∧l'.Perm l:=by
 unfold fR
 obtain⟨l',e,hp⟩:=sortStable_ok (cmp:=fun a0 a1=>fQ a0 a1 r cols q) hs (fun x _ y _=>by
  show Tot (fQ x y r cols q);unfold fQ;rw[rF r cols x q.exprs (by omega),rF r cols y q.exprs (by omega),bPs,bPs];exact Tot.bind (compare_tot _ _ _) fun _ _=>Tot.mk)
 rw[e,bPs,dY hp.length_eq,bPs]
 exact⟨l',rfl,hp⟩
end
end Go.Proofs.YtafdcemcgfbhcaaGreatDoor
