/- querySortOrdersRowsUpto_holds, part 5: the layer, the plain functions and what they compute; conditions as in the statement. -/
import Derived.Test.YtgaggbdcedpapaaGreatSsd
set_option maxHeartbeats 4000000
namespace Go.Proofs.YtgaggbdcedpapaaGreat
open Go.IntKind (i64)
noncomputable section
open Go Go.Ab
attribute [local irreducible] V Ao Do Gh Eff PH IntKind.wrap
set_option maxRecDepth 4000
def eL (c : LChecker) (q : LQuery) (inA : List LCol) : Option ((List LCol) × Int) :=
 aj (ba (σ := List LCol) (ρ := ((List LCol) × Int)) (fun (j1 : Nat) (x1 : LExpr) (s1 : List LCol) =>
  bo (dk inA c.vars x1) fun x31 =>
  aj (aF q.names (j1 : Int)) fun (x39 : List UInt8) =>
  bo (dR x39) fun x41 =>
  cond (!x41)
   (some (.ret ([],3)))
   (cond (x31.2.2 != (0 : Int))
    (some (.ret ([],x31.2.2)))
    (cond (x31.1 == (0 : Int))
     (some (.ret ([],7)))
     (aj (aF q.names (j1 : Int)) fun (x54 : List UInt8) =>
     aj (ee 32 s1 ([(LCol.mk x54 x31.1 x31.2.1)] : List LCol)) fun (x60 : List LCol) =>
     some (.next x60))))) 0 q.exprs []) fun fl1=>fl1.thenR fun (s1 : List LCol) =>
 aj (ba (σ := List LCol) (ρ := ((List LCol) × Int)) (fun (_ : Nat) (x2 : LAggregateCall) (s2 : List LCol) =>
  aj (gu c inA x2) fun x73 =>
  cond (x73.2 != (0 : Int))
   (some (.ret ([],x73.2)))
   (aj (ee 32 s2 ([(LCol.mk x2.name x73.1 (!(x2.function == ([99,111,117,110,116] : List UInt8))))] : List LCol)) fun (x88 : List LCol) =>
   some (.next x88))) 0 q.aggregates s1) fun fl2=>fl2.thenR fun (s2 : List LCol) =>
 some (s2,0)
theorem mA (c : LChecker) (q : LQuery) (inA : List LCol) (r : (List LCol) × Int) (H : eL c q inA = some r) :
  aV Tryz.prog 158 [(.agg (jv c)),(.agg (bD q)),(.list 50 (inA.map aG))] (.tup [(.list 50 (r.1.map aG)),(ae r.2)]) := by
 unfold eL at H
 refine PH.aC Tryz.func158 Tryz.ntmps158 ?_
 refine ac (af (aT ?_))
 refine aT ?_
 refine am 2 tk rfl (ag (aw 1 tk rfl (ac (ac (af (am 2 tk rfl (aN tk (zl _) ?_)))))))
 refine aq tk rfl (ag ?_)
 obtain ⟨fl1,H1,Hp1⟩ := ax H
 refine bU tk 19 rfl rfl (fun hz1 _=>?_)
 rw [zl] at hz1
 refine aZ (τ := List LCol) (γ := OwnRef) (fun s1 g1=>⟨91,upd (upd (upd (upd (fun _=>.any) 8 (.own 60 g1 (s1.map aG).length)) 4 (.ptr [(ae q.kind),(.str q.table),(.list 9 (q.names.map co)),(.list 56 (q.exprs.map bc)),(.list 66 (q.aggregates.map cl)),(.list 4 (q.descending.map cB)),(ae q.count),(ae q.offset),(.list 35 (q.inputs.map aX))])) 3 (.ptr [(.list 91 (c.s.tables.map bA)),(.list 142 (c.s.foreignKeys.map cD)),(.list 148 (c.s.constraints.map cN)),(.list 50 (c.vars.map aG))])) 2 (.list 50 (inA.map aG)),fun _=>none,upd (fun _=>none) 60 (some ⟨g1,50,(s1.map aG),true⟩)⟩) (fun t=>fl1 = .next t) ?_ (fun s1 g1 hn1=>?_)
 ·refine az (jb tk 8 60 (e := 50) rfl rfl ?_)
  refine bF (fun j1 s1 g1=>⟨91,upd (upd (upd (upd (upd (upd (upd (fun _=>.any) 21 (ae (j1 : Int))) 20 (ae (q.exprs.length : Int))) 19 (.list 56 (q.exprs.map bc))) 8 (.own 60 g1 (s1.map aG).length)) 4 (.ptr [(ae q.kind),(.str q.table),(.list 9 (q.names.map co)),(.list 56 (q.exprs.map bc)),(.list 66 (q.aggregates.map cl)),(.list 4 (q.descending.map cB)),(ae q.count),(ae q.offset),(.list 35 (q.inputs.map aX))])) 3 (.ptr [(.list 91 (c.s.tables.map bA)),(.list 142 (c.s.foreignKeys.map cD)),(.list 148 (c.s.constraints.map cN)),(.list 50 (c.vars.map aG))])) 2 (.list 50 (inA.map aG)),fun _=>none,upd (fun _=>none) 60 (some ⟨g1,50,(s1.map aG),true⟩)⟩) (⟨none,0⟩) H1 (Gh.le (aa (aa (aa (aa (aa (aa (aa ak))))))) ah (aA ai)) (fun j1 s1 g1 hj1 hr1=>?_)
  refine aw 1 tk rfl (ac ?_)
  refine aY rfl (fun h=>?_) (fun h=>?_)
  ·have hl1 := cp h
   obtain ⟨x1,fb1,hx1,H,hg1⟩ := rMc hl1 hr1
   refine av (ac (az (ac (af (aq tk rfl (bt tk (zn j1) (bQ eF hx1) ?_))))))
   refine aq tk rfl ?_
   refine bv tk fun b10=>?_
   refine aq tk rfl (aD tk ?_)
   refine ag (ac (af (am 3 tk rfl (aM tk ?_))))
   obtain ⟨x31,h31,H⟩ := bK H
   have s31 := mO inA c.vars x1
   rw [h31] at s31
   refine au Tryz.call159 (jc.r) s31 ?_
   refine am 7 tk rfl (ag (ac (az (ac (af (am 3 tk rfl ?_))))))
   obtain ⟨x39,k39,H⟩ := aW H
   refine bt tk k39.1 (aH (fun _=>rfl) k39.2) ?_
   refine aq tk rfl ?_
   obtain ⟨x41,h41,H⟩ := bK H
   have s41 := lW x39
   rw [h41] at s41
   refine au Tryz.call180 (jc.r) s41 ?_
   refine am 2 tk rfl (ag ?_)
   refine aP rfl H (fun H=>?_) (fun H=>?_)
   ·refine aw 2 tk rfl ?_
    obtain rfl := ao H
    have e1 : fl1 = .ret _ := hg1
    subst e1
    obtain rfl := bj Hp1
    refine aB tk rfl (ps := [(.val (.slice none 0 0)),(ae 3)]) ⟨_,_,rfl,rfl,_,_,rfl,rfl,rfl⟩ (PLe.of2 (np.tup (iw.cons (np.nil tk rfl) (iw.cons (np.of_eq rfl) iw.nil))))
   refine aw 3 tk rfl ?_
   refine aP rfl H (fun H=>?_) (fun H=>?_)
   ·refine aw 3 tk rfl ?_
    obtain rfl := ao H
    have e1 : fl1 = .ret _ := hg1
    subst e1
    obtain rfl := bj Hp1
    refine aB tk rfl (ps := [(.val (.slice none 0 0)),(ae x31.2.2)]) ⟨_,_,rfl,rfl,_,_,rfl,rfl,rfl⟩ (PLe.of2 (np.tup (iw.cons (np.nil tk rfl) (iw.cons (np.of_eq rfl) iw.nil))))
   refine aw 3 tk rfl ?_
   refine aP rfl H (fun H=>?_) (fun H=>?_)
   ·refine aw 2 tk rfl ?_
    obtain rfl := ao H
    have e1 : fl1 = .ret _ := hg1
    subst e1
    obtain rfl := bj Hp1
    refine aB tk rfl (ps := [(.val (.slice none 0 0)),(ae 7)]) ⟨_,_,rfl,rfl,_,_,rfl,rfl,rfl⟩ (PLe.of2 (np.tup (iw.cons (np.nil tk rfl) (iw.cons (np.of_eq rfl) iw.nil))))
   refine av (aQ (af (am 4 tk rfl ?_)))
   obtain ⟨x54,k54,H⟩ := aW H
   refine bt tk k54.1 (aH (fun _=>rfl) k54.2) ?_
   refine am 4 tk rfl (cO tk (rows' := List.map aG ([(LCol.mk x54 x31.1 x31.2.1)] : List LCol)) (gk.refl _) ?_)
   obtain ⟨x60,h60,H⟩ := ax H
   have k60 := dw h60
   refine dr (rows2' := List.map aG ([(LCol.mk x54 x31.1 x31.2.1)] : List LCol)) (rows' := List.map aG x60) tk rfl rfl rfl rfl rfl rfl rfl rfl rfl rfl rfl rfl rfl (gk.refl _) (eK k60.1) (eN k60.2.1) (eR k60.2.2) fun g60=>?_
   refine aq tk rfl (ag (aQ (bh 2 tk rfl ?_)))
   obtain rfl := ao H
   refine aK x60 g60 ⟨hl1,hg1⟩ (Gh.le (aa (aa (aa (aa (aa (aa (aI (PLe.q (aU (by omega))) ak))))))) ah (aA ai))
  have hn1 := rMd (cq h) hr1
  refine aR rfl ?_
  refine aO s1 g1 hn1 (Gh.le (aa (aa (aa (aa ak)))) ah (aA ai))
 have H := ck hn1 Hp1
 refine ac (ac (af (am 2 tk rfl (aN tk (zl _) ?_))))
 refine aq tk rfl (ag ?_)
 obtain ⟨fl2,H2,Hp2⟩ := ax H
 refine bU tk 63 rfl rfl (fun hz2 _=>?_)
 rw [zl] at hz2
 refine aZ (τ := List LCol) (γ := OwnRef) (fun s2 g2=>⟨91,upd (fun _=>.any) 8 (.own 60 g2 (s2.map aG).length),fun _=>none,upd (fun _=>none) 60 (some ⟨g2,50,(s2.map aG),true⟩)⟩) (fun t=>fl2 = .next t) ?_ (fun s2 g2 hn2=>?_)
 ·refine az ?_
  refine bF (fun j2 s2 g2=>⟨91,upd (upd (upd (upd (upd (upd (fun _=>.any) 65 (ae (j2 : Int))) 64 (ae (q.aggregates.length : Int))) 63 (.list 66 (q.aggregates.map cl))) 8 (.own 60 g2 (s2.map aG).length)) 3 (.ptr [(.list 91 (c.s.tables.map bA)),(.list 142 (c.s.foreignKeys.map cD)),(.list 148 (c.s.constraints.map cN)),(.list 50 (c.vars.map aG))])) 2 (.list 50 (inA.map aG)),fun _=>none,upd (fun _=>none) 60 (some ⟨g2,50,(s2.map aG),true⟩)⟩) g1 H2 (Gh.le (aa (aa (aa (aa (aa (aa ak)))))) ah (aA ai)) (fun j2 s2 g2 hj2 hr2=>?_)
  refine aw 1 tk rfl (ac ?_)
  refine aY rfl (fun h=>?_) (fun h=>?_)
  ·have hl2 := cp h
   obtain ⟨x2,fb2,hx2,H,hg2⟩ := rMc hl2 hr2
   refine av (ac (az (ac (af ?_))))
   refine bt tk (zn j2) (bQ (fun _=>rfl) hx2) ?_
   refine aq tk rfl ?_
   refine bv tk fun b15=>?_
   refine aD tk ?_
   refine ag (ac (af (am 2 tk rfl (aM tk ?_))))
   obtain ⟨x73,h73,H⟩ := ax H
   have s73 := qu c inA x2 _ h73
   refine au Tryz.call181 (jc.r) s73 ?_
   refine am 5 tk rfl (ag (ac (aw 2 tk rfl ?_)))
   refine aP rfl H (fun H=>?_) (fun H=>?_)
   ·refine aw 3 tk rfl ?_
    obtain rfl := ao H
    have e2 : fl2 = .ret _ := hg2
    subst e2
    obtain rfl := bj Hp2
    refine aB tk rfl (ps := [(.val (.slice none 0 0)),(ae x73.2)]) ⟨_,_,rfl,rfl,_,_,rfl,rfl,rfl⟩ (PLe.of2 (np.tup (iw.cons (np.nil tk rfl) (iw.cons (np.of_eq rfl) iw.nil))))
   refine av (af (am 2 tk rfl (aM tk ?_)))
   refine am 2 tk rfl (aM tk ?_)
   refine am 2 tk rfl ?_
   refine cO tk (rows' := List.map aG ([(LCol.mk x2.name x73.1 (!(x2.function == ([99,111,117,110,116] : List UInt8))))] : List LCol)) (gk.refl _) ?_
   obtain ⟨x88,h88,H⟩ := ax H
   have k88 := dw h88
   refine dr (rows2' := List.map aG ([(LCol.mk x2.name x73.1 (!(x2.function == ([99,111,117,110,116] : List UInt8))))] : List LCol)) (rows' := List.map aG x88) tk rfl rfl rfl rfl rfl rfl rfl rfl rfl rfl rfl rfl rfl (gk.refl _) (eK k88.1) (eN k88.2.1) (eR k88.2.2) fun g88=>?_
   refine aq tk rfl (ag (aQ (bh 2 tk rfl ?_)))
   obtain rfl := ao H
   refine aK x88 g88 ⟨hl2,hg2⟩ (Gh.le (aa (aa (aa (aa (aa (aI (PLe.q (aU (by omega))) ak)))))) ah (aA ai))
  have hn2 := rMd (cq h) hr2
  refine aR rfl ?_
  refine aO s2 g2 hn2 (Gh.le (aa ak) ah (aA ai))
 have H := ck hn2 Hp2
 refine aw 3 tk rfl ?_
 obtain rfl := ao H
 refine el 6 rfl rfl rfl ?_
 refine aB tk rfl (ps := [(.list 50 (s2.map aG)),(ae 0)]) ⟨_,_,rfl,rfl,_,_,rfl,rfl,rfl⟩ (PLe.q rfl)
def fI (sA : LSchema) (inst : List LRelation) : Option (Int) :=
 cond ((inst.length : Int) != (sA.tables.length : Int))
  (some 3)
  (aj (ba (σ := Unit) (ρ := (Int)) (fun (j1 : Nat) (x1 : LRelation) (_ : Unit) =>
   aj (aF sA.tables (j1 : Int)) fun (x28 : LTable) =>
   cond (!(x1.table == x28.name))
    (some (.ret 3))
    (cond (decide ((x1.rows.length : Int) > (24 : Int)))
     (some (.ret 2))
     (aj (ba (σ := Unit) (ρ := (Int)) (fun (j3 : Nat) (x3 : Rq) (_ : Unit) =>
      aj (eJ x28 x3) fun x49 =>
      cond (x49 != (0 : Int))
       (some (.ret x49))
       (cond ((j3 : Int) == (0 : Int))
        (some (.next ()))
        (aj (aF x1.rows (i64.wrap ((j3 : Int) - (1 : Int)))) fun (x60 : Rq) =>
        aj (fC x28 x60) fun x62 =>
        aj (fC x28 x3) fun x65 =>
        aj (fG x62 x65) fun x66 =>
        cond (x66 == (0 : Int))
         (some (.ret 9))
         (cond (decide (x66 > (0 : Int)))
          (some (.ret 6))
          (some (.next ())))))) 0 x1.rows ()) fun fl3=>fl3.thenF fun (_ : Unit) =>
     some (.next ())))) 0 inst ()) fun fl1=>fl1.thenR fun (_ : Unit) =>
  some 0)
theorem mj (sA : LSchema) (inst : List LRelation) (r : Int) (H : fI sA inst = some r) :
  aV Tryz.prog 52 [(.agg (eA sA)),(.list 87 (inst.map bV))] (ae r) := by
 unfold fI at H
 refine PH.aC Tryz.func52 Tryz.ntmps52 ?_
 refine ac (af (aT ?_))
 refine aq tk rfl (ag (ac (ac (af (aq tk rfl (aN tk (zl _) ?_))))))
 refine am 2 tk rfl (aN tk (zl _) ?_)
 refine aq tk rfl (ag ?_)
 refine aP rfl H (fun H=>?_) (fun H=>?_)
 ·refine aw 1 tk rfl ?_
  obtain rfl := ao H
  refine aB tk rfl (ps := [(ae 3)]) ⟨_,_,rfl,rfl,rfl⟩ (PLe.q rfl)
 refine av (ac (ac (af (aq tk rfl (aN tk (zl _) ?_)))))
 refine aq tk rfl (ag ?_)
 obtain ⟨fl1,H1,Hp1⟩ := ax H
 refine bU tk 18 rfl rfl (fun hz1 _=>?_)
 rw [zl] at hz1
 refine aZ (τ := Unit) (γ := Unit) (fun s1 g1=>⟨75,fun _=>.any,fun _=>none,fun _=>none⟩) (fun t=>fl1 = .next t) ?_ (fun s1 g1 hn1=>?_)
 ·refine az ?_
  refine bF (fun j1 s1 g1=>⟨75,upd (upd (upd (upd (fun _=>.any) 20 (ae (j1 : Int))) 19 (ae (inst.length : Int))) 18 (.list 87 (inst.map bV))) 2 (.ptr [(.list 91 (sA.tables.map bA)),(.list 142 (sA.foreignKeys.map cD)),(.list 148 (sA.constraints.map cN))]),fun _=>none,fun _=>none⟩) () H1 (Gh.le (aa (aa (aa (aa ak)))) ah ai) (fun j1 s1 g1 hj1 hr1=>?_)
  refine aw 1 tk rfl (ac ?_)
  refine aY rfl (fun h=>?_) (fun h=>?_)
  ·have hl1 := cp h
   obtain ⟨x1,fb1,hx1,H,hg1⟩ := rMc hl1 hr1
   refine av (ac (az (ac (af (aq tk rfl ?_)))))
   refine bt tk (zn j1) (bQ (fun _=>rfl) hx1) ?_
   refine aq tk rfl ?_
   refine bv tk fun b6=>?_
   refine aq tk rfl (aD tk ?_)
   refine ag (ac (af (am 3 tk rfl ?_)))
   obtain ⟨x28,k28,H⟩ := aW H
   refine bt tk k28.1 (aH (fun _=>rfl) k28.2) ?_
   refine aq tk rfl ?_
   refine bv tk fun b7=>?_
   refine aD tk ?_
   refine ag (ac (ac (af (aq tk rfl (aM tk ?_)))))
   refine aq tk rfl (aM tk ?_)
   refine aq tk rfl (ag ?_)
   refine aP rfl H (fun H=>?_) (fun H=>?_)
   ·refine aw 1 tk rfl ?_
    obtain rfl := ao H
    have e1 : fl1 = .ret _ := hg1
    subst e1
    obtain rfl := bj Hp1
    refine aB tk rfl (ps := [(ae 3)]) ⟨_,_,rfl,rfl,rfl⟩ (PLe.q rfl)
   refine av (ac (ac (af (aq tk rfl (aM tk ?_)))))
   refine aN tk (zl _) ?_
   refine aq tk rfl (ag ?_)
   refine aP rfl H (fun H=>?_) (fun H=>?_)
   ·refine aw 1 tk rfl ?_
    obtain rfl := ao H
    have e1 : fl1 = .ret _ := hg1
    subst e1
    obtain rfl := bj Hp1
    refine aB tk rfl (ps := [(ae 2)]) ⟨_,_,rfl,rfl,rfl⟩ (PLe.q rfl)
   refine av (ac (af (aq tk rfl (aM tk ?_))))
   refine aN tk (zl _) ?_
   refine aq tk rfl (ag ?_)
   obtain ⟨fl3,H3,Hp3⟩ := ax H
   refine bU tk 40 rfl rfl (fun hz3 _=>?_)
   rw [zl] at hz3
   refine aZ (τ := Unit) (γ := Unit) (fun s3 g3=>⟨75,upd (upd (upd (upd (fun _=>.any) 20 (ae (j1 : Int))) 19 (ae (inst.length : Int))) 18 (.list 87 (inst.map bV))) 2 (.ptr [(.list 91 (sA.tables.map bA)),(.list 142 (sA.foreignKeys.map cD)),(.list 148 (sA.constraints.map cN))]),fun _=>none,fun _=>none⟩) (fun t=>fl3 = .next t) ?_ (fun s3 g3 hn3=>?_)
   ·refine az ?_
    refine bF (fun j3 s3 g3=>⟨75,upd (upd (upd (upd (upd (upd (upd (upd (upd (fun _=>.any) 42 (ae (j3 : Int))) 41 (ae (x1.rows.length : Int))) 40 (.list 51 (x1.rows.map (al 53 ab)))) 20 (ae (j1 : Int))) 19 (ae (inst.length : Int))) 18 (.list 87 (inst.map bV))) 7 (.box 7 b7 0)) 6 (.box 6 b6 0)) 2 (.ptr [(.list 91 (sA.tables.map bA)),(.list 142 (sA.foreignKeys.map cD)),(.list 148 (sA.constraints.map cN))]),upd (upd (fun _=>none) 7 (some ⟨b7,[(.str x28.name),(.list 50 (x28.columns.map aG)),(.list 3 (x28.primaryKey.map bJ))]⟩)) 6 (some ⟨b6,[(.str x1.table),(.list 51 (x1.rows.map (al 53 ab)))]⟩),fun _=>none⟩) () H3 (Gh.le (aa (aa (aa (aa (aa (aa (aa (aa (aa ak))))))))) (ay rfl (jc.r) (ay rfl (jc.r) ah)) ai) (fun j3 s3 g3 hj3 hr3=>?_)
    refine aw 1 tk rfl (ac ?_)
    refine aY rfl (fun h=>?_) (fun h=>?_)
    ·have hl3 := cp h
     obtain ⟨x3,fb3,hx3,H,hg3⟩ := rMc hl3 hr3
     refine av (ac (az (ac (af (aq tk rfl ?_)))))
     refine bt tk (zn j3) (bQ (fun _=>rfl) hx3) ?_
     refine am 3 tk rfl (ag (ac (ac (af (aM tk ?_)))))
     refine aq tk rfl ?_
     obtain ⟨x49,h49,H⟩ := ax H
     have s49 := ph x28 x3 _ h49
     refine au Tryz.call84 (jc.r) s49 ?_
     refine aq tk rfl (ag (aw 2 tk rfl ?_))
     refine aP rfl H (fun H=>?_) (fun H=>?_)
     ·refine aw 2 tk rfl ?_
      obtain rfl := ao H
      have e3 : fl3 = .ret _ := hg3
      subst e3
      have q3 := oS Hp3
      subst q3
      have e1 : fl1 = .ret _ := hg1
      subst e1
      obtain rfl := bj Hp1
      refine aB tk rfl (ps := [(ae x49)]) ⟨_,_,rfl,rfl,rfl⟩ (PLe.q rfl)
     refine av (ac (aw 2 tk rfl ?_))
     refine aP rfl H (fun H=>?_) (fun H=>?_)
     ·refine aR rfl (bh 2 tk rfl ?_)
      obtain rfl := ao H
      refine aK () () ⟨hl3,hg3⟩ (Gh.le (aa (aa (aa (aa (aa (aa (aa (aa (aI (PLe.q (aU (by omega))) ak))))))))) (ay rfl (jc.r) (ay rfl (jc.r) ah)) ai)
     refine av (ac (bl tk mok ⟨true,false,[61]⟩ [0,1,2,3,4,5,6,8,9,7,10,11,12] rfl (by decide +kernel) rfl (cM ?_)))
     refine cC rfl (cM ?_)
     refine aJ 2 rfl ?_
     obtain ⟨x60,k60,H⟩ := aW H
     refine bX k60.1 (aH (fun _=>rfl) k60.2) ?_
     refine cC rfl (cM ?_)
     refine cC rfl ?_
     obtain ⟨x62,h62,H⟩ := ax H
     have s62 := pw x28 x60 _ h62
     refine bg Tryz.call86 (jc.r) s62 ?_
     obtain ⟨x65,h65,H⟩ := ax H
     have s65 := pw x28 x3 _ h65
     refine bg Tryz.call86 (jc.r) s65 ?_
     obtain ⟨x66,h66,H⟩ := ax H
     have s66 := qt x62 x65 _ h66
     refine bg Tryz.call85 (jc.r) s66 ?_
     refine cC rfl (be (az (aw 3 tk rfl ?_)))
     refine aP rfl H (fun H=>?_) (fun H=>?_)
     ·refine aw 1 tk rfl ?_
      obtain rfl := ao H
      have e3 : fl3 = .ret _ := hg3
      subst e3
      have q3 := oS Hp3
      subst q3
      have e1 : fl1 = .ret _ := hg1
      subst e1
      obtain rfl := bj Hp1
      refine aB tk rfl (ps := [(ae 9)]) ⟨_,_,rfl,rfl,rfl⟩ (PLe.q rfl)
     refine aw 3 tk rfl ?_
     refine aP rfl H (fun H=>?_) (fun H=>?_)
     ·refine aw 1 tk rfl ?_
      obtain rfl := ao H
      have e3 : fl3 = .ret _ := hg3
      subst e3
      have q3 := oS Hp3
      subst q3
      have e1 : fl1 = .ret _ := hg1
      subst e1
      obtain rfl := bj Hp1
      refine aB tk rfl (ps := [(ae 6)]) ⟨_,_,rfl,rfl,rfl⟩ (PLe.q rfl)
     refine av (aQ (aQ (bh 2 tk rfl ?_)))
     obtain rfl := ao H
     refine aK () () ⟨hl3,hg3⟩ (Gh.le (aa (aa (aa (aa (aa (aa (aa (aa (aI (PLe.q (aU (by omega))) ak))))))))) (ay rfl (jc.r) (ay rfl (jc.r) ah)) ai)
    have hn3 := rMd (cq h) hr3
    refine aR rfl ?_
    refine aO s3 g3 hn3 (Gh.le (aa (aa (aa (aa ak)))) ah ai)
   have H := thenF_next hn3 Hp3
   refine aQ (bh 2 tk rfl ?_)
   obtain rfl := ao H
   refine aK () () ⟨hl1,hg1⟩ (Gh.le (aa (aa (aa (aI (PLe.q (aU (by omega))) ak)))) ah ai)
  have hn1 := rMd (cq h) hr1
  refine aR rfl ?_
  refine aO s1 g1 hn1 (Gh.le ak ah ai)
 have H := ck hn1 Hp1
 refine aw 1 tk rfl ?_
 obtain rfl := ao H
 refine aB tk rfl (ps := [(ae 0)]) ⟨_,_,rfl,rfl,rfl⟩ (PLe.q rfl)
def ir (x : Rq) (c0 : LRun) (c1 : List LCol) (c2 : LQuery) : Option (Bool) :=
 aj (aF c2.exprs 0) fun (x12 : LExpr) =>
 bo (bE c0 c1 x) fun x9 =>
 bo (dg x9 x12) fun x14 =>
 bo (kV x14) fun x15 =>
 some (!x15)
theorem qL (x : Rq) (c0 : LRun) (c1 : List LCol) (c2 : LQuery) (r : Bool) (H : ir x c0 c1 c2 = some r) :
  aV Tryz.prog 136 [(.list 53 (x.map ab)),(.ptr (it c0)),(.ptr [(.list 50 (c1.map aG))]),(.ptr (bD c2))] (aE r) := by
 unfold ir at H
 refine PH.aC Tryz.func136 Tryz.ntmps136 ?_
 refine aw 1 tk rfl (ac (bl tk mok ⟨false,false,[]⟩ [0,1,2,4,5,6,7,3,8,9,10,11] rfl (by decide +kernel) rfl (aJ 5 rfl ?_)))
 obtain ⟨x12,k12,H⟩ := aW H
 refine bX k12.1 (aH eF k12.2) ?_
 refine cC rfl ?_
 obtain ⟨x9,h9,H⟩ := bK H
 have s9 := kw c0 c1 x
 rw [h9] at s9
 refine bg Tryz.call139 (jc.r) s9 ?_
 obtain ⟨x14,h14,H⟩ := bK H
 have s14 := mP x9 x12
 rw [h14] at s14
 refine bg Tryz.call138 (jc.r) s14 ?_
 obtain ⟨x15,h15,H⟩ := bK H
 have s15 := isTS x14
 rw [h15] at s15
 refine bg Tryz.call137 (jc.r) s15 ?_
 refine aJ 2 rfl (be ?_)
 obtain rfl := ao H
 refine aB tk rfl (ps := [(aE (!x15))]) ⟨_,_,rfl,rfl,rfl⟩ (PLe.q rfl)
def dU (rA : LRun) (cols : List LCol) (x : Rq) (l : List LExpr) : Option (Rq) :=
 aj (ba (σ := Rq) (ρ := Empty) (fun (_ : Nat) (x1 : LExpr) (s1 : Rq) =>
  bo (bE rA cols x) fun x22 =>
  bo (dg x22 x1) fun x24 =>
  aj (ee 32 s1 ([x24] : Rq)) fun (x26 : Rq) =>
  some (.next x26)) 0 l []) fun fl1=>fl1.thenP fun (s1 : Rq) =>
 some s1
theorem jR (rA : LRun) (cols : List LCol) (x : Rq) (l : List LExpr) (r : Rq) (H : dU rA cols x l = some r) :
  aV Tryz.prog 140 [(.agg (it rA)),(.list 50 (cols.map aG)),(.list 53 (x.map ab)),(.list 56 (l.map bc))] (.list 53 (r.map ab)) := by
 unfold dU at H
 refine PH.aC Tryz.func140 Tryz.ntmps140 ?_
 refine ac (af (aT ?_))
 refine aq tk rfl (ag (aw 1 tk rfl (ac (ac (af (aq tk rfl (aN tk (zl _) ?_)))))))
 refine aq tk rfl (ag ?_)
 obtain ⟨fl1,H1,Hp1⟩ := ax H
 refine bU tk 12 rfl rfl (fun hz1 _=>?_)
 rw [zl] at hz1
 refine aZ (τ := Rq) (γ := OwnRef) (fun s1 g1=>⟨29,upd (fun _=>.any) 9 (.own 26 g1 (s1.map ab).length),fun _=>none,upd (fun _=>none) 26 (some ⟨g1,53,(s1.map ab),true⟩)⟩) (fun t=>fl1 = .next t) ?_ (fun s1 g1 hn1=>?_)
 ·refine az (jb tk 9 26 (e := 53) rfl rfl ?_)
  refine bF (fun j1 s1 g1=>⟨29,upd (upd (upd (upd (upd (upd (upd (fun _=>.any) 14 (ae (j1 : Int))) 13 (ae (l.length : Int))) 12 (.list 56 (l.map bc))) 9 (.own 26 g1 (s1.map ab).length)) 4 (.ptr [(.list 91 (rA.s.tables.map bA)),(.list 142 (rA.s.foreignKeys.map cD)),(.list 148 (rA.s.constraints.map cN)),(.list 87 (rA.st.map bV)),(.list 53 (rA.args.map ab)),(.list 50 (rA.vars.map aG)),(.list 9 (rA.names.map co)),(.list 53 (rA.vals.map ab))])) 2 (.list 53 (x.map ab))) 1 (.list 50 (cols.map aG)),fun _=>none,upd (fun _=>none) 26 (some ⟨g1,53,(s1.map ab),true⟩)⟩) (⟨none,0⟩) H1 (Gh.le (aa (aa (aa (aa (aa (aa (aa ak))))))) ah (aA ai)) (fun j1 s1 g1 hj1 hr1=>?_)
  refine aw 1 tk rfl (ac ?_)
  refine aY rfl (fun h=>?_) (fun h=>?_)
  ·have hl1 := cp h
   obtain ⟨x1,fb1,hx1,H,hg1⟩ := rMc hl1 hr1
   refine av (ac (az (ac (af (bt tk (zn j1) (bQ eF hx1) ?_)))))
   refine aq tk rfl ?_
   refine bv tk fun b11=>?_
   refine aD tk ?_
   refine ag (bl tk mok ⟨true,false,[19]⟩ [0,1,2,3,5,4,6,7,8,9] rfl (by decide +kernel) rfl (aJ 4 rfl (cM ?_)))
   obtain ⟨x22,h22,H⟩ := bK H
   have s22 := kw rA cols x
   rw [h22] at s22
   refine bg Tryz.call139 (jc.r) s22 ?_
   obtain ⟨x24,h24,H⟩ := bK H
   have s24 := mP x22 x1
   rw [h24] at s24
   refine bg Tryz.call138 (jc.r) s24 ?_
   refine cC rfl ?_
   obtain ⟨x26,h26,H⟩ := ax H
   have k26 := dw h26
   refine me (rows2' := List.map ab ([x24] : Rq)) (rows' := List.map ab x26) tk rfl rfl rfl rfl rfl rfl rfl rfl rfl rfl rfl rfl rfl rfl (gk.refl _) (eK k26.1) (eN k26.2.1) (eR k26.2.2) fun g26=>?_
   refine cC rfl (be (aQ (bh 2 tk rfl ?_)))
   obtain rfl := ao H
   refine aK x26 g26 ⟨hl1,hg1⟩ (Gh.le (aa (aa (aa (aa (aa (aa (aI (PLe.q (aU (by omega))) ak))))))) ah (aA ai))
  have hn1 := rMd (cq h) hr1
  refine aR rfl ?_
  refine aO s1 g1 hn1 (Gh.le (aa ak) ah (aA ai))
 have H := bq hn1 Hp1
 refine aw 2 tk rfl ?_
 obtain rfl := ao H
 refine el 8 rfl rfl rfl ?_
 refine aB tk rfl (ps := [(.list 53 (s1.map ab))]) ⟨_,_,rfl,rfl,rfl⟩ (PLe.q rfl)
def jB (rA : LRun) (a : LAggregateCall) (cols : List LCol) (l : Rz) : Option (LVal) :=
 cond ((a.args.length : Int) == (0 : Int))
  (bo (fZ (l.length : Int)) fun x19 =>
  some x19)
  (aj (ba (σ := Rq) (ρ := Empty) (fun (_ : Nat) (x1 : Rq) (s1 : Rq) =>
   aj (aF a.args 0) fun (x32 : LExpr) =>
   bo (bE rA cols x1) fun x29 =>
   bo (dg x29 x32) fun x34 =>
   cond (x34.kind != (0 : Int))
    (aj (ee 32 s1 ([x34] : Rq)) fun (x41 : Rq) =>
    some (.next x41))
    (some (.next s1))) 0 l []) fun fl1=>fl1.thenP fun (s1 : Rq) =>
  aj (fT a.function s1) fun x46 =>
  some x46)
theorem rW (rA : LRun) (a : LAggregateCall) (cols : List LCol) (l : Rz) (r : LVal) (H : jB rA a cols l = some r) :
  aV Tryz.prog 173 [(.agg (it rA)),(.agg (cl a)),(.list 50 (cols.map aG)),(.list 51 (l.map (al 53 ab)))] (.agg (ab r)) := by
 unfold jB at H
 refine PH.aC Tryz.func173 Tryz.ntmps173 ?_
 refine ac (af (aT ?_))
 refine aT ?_
 refine bv tk fun b8=>?_
 refine ag (ac (ac (af (am 2 tk rfl (aN tk (zl _) ?_)))))
 refine aq tk rfl (ag ?_)
 refine aP rfl H (fun H=>?_) (fun H=>?_)
 ·refine ac (af (aq tk rfl (aN tk (zl _) ?_)))
  obtain ⟨x19,h19,H⟩ := bK H
  have s19 := pP (l.length : Int)
  rw [h19] at s19
  refine au Tryz.call192 (jc.r) s19 ?_
  refine aD tk ?_
  refine ag ?_
  obtain rfl := ao H
  refine aB tk rfl (ps := [(.agg [(ae x19.kind),(ae x19.int),(.str x19.text)])]) ⟨_,_,rfl,⟨_,_,_,_,_,rfl,rfl,rfl,rfl⟩,rfl⟩ (PLe.q rfl)
 refine av (aw 1 tk rfl (ac (ac (af (aq tk rfl (aN tk (zl _) ?_))))))
 refine aq tk rfl (ag ?_)
 obtain ⟨fl1,H1,Hp1⟩ := ax H
 refine bU tk 20 rfl rfl (fun hz1 _=>?_)
 rw [zl] at hz1
 refine aZ (τ := Rq) (γ := OwnRef) (fun s1 g1=>⟨47,upd (upd (upd (fun _=>.any) 9 (.own 41 g1 (s1.map ab).length)) 8 (.box 8 b8 0)) 5 (.ptr [(.str a.name),(.str a.function),(.list 56 (a.args.map bc))]),upd (fun _=>none) 8 (some ⟨b8,[(ae 0),(ae 0),(.str [])]⟩),upd (fun _=>none) 41 (some ⟨g1,53,(s1.map ab),true⟩)⟩) (fun t=>fl1 = .next t) ?_ (fun s1 g1 hn1=>?_)
 ·refine az (jb tk 9 41 (e := 53) rfl rfl ?_)
  refine bF (fun j1 s1 g1=>⟨47,upd (upd (upd (upd (upd (upd (upd (upd (fun _=>.any) 22 (ae (j1 : Int))) 21 (ae (l.length : Int))) 20 (.list 51 (l.map (al 53 ab)))) 9 (.own 41 g1 (s1.map ab).length)) 8 (.box 8 b8 0)) 5 (.ptr [(.str a.name),(.str a.function),(.list 56 (a.args.map bc))])) 4 (.ptr [(.list 91 (rA.s.tables.map bA)),(.list 142 (rA.s.foreignKeys.map cD)),(.list 148 (rA.s.constraints.map cN)),(.list 87 (rA.st.map bV)),(.list 53 (rA.args.map ab)),(.list 50 (rA.vars.map aG)),(.list 9 (rA.names.map co)),(.list 53 (rA.vals.map ab))])) 2 (.list 50 (cols.map aG)),upd (fun _=>none) 8 (some ⟨b8,[(ae 0),(ae 0),(.str [])]⟩),upd (fun _=>none) 41 (some ⟨g1,53,(s1.map ab),true⟩)⟩) (⟨none,0⟩) H1 (Gh.le (aa (aa (aa (aa (aa (aa (aa (aa ak)))))))) (ay rfl (jc.r) ah) (aA ai)) (fun j1 s1 g1 hj1 hr1=>?_)
  refine aw 1 tk rfl (ac ?_)
  refine aY rfl (fun h=>?_) (fun h=>?_)
  ·have hl1 := cp h
   obtain ⟨x1,fb1,hx1,H,hg1⟩ := rMc hl1 hr1
   refine av (ac (az (ac (af ?_))))
   refine bt tk (zn j1) (bQ (fun _=>rfl) hx1) ?_
   refine am 2 tk rfl (ag (ac (bl tk mok ⟨false,false,[]⟩ [0,1,2,4,5,6,7,3,8,9,10] rfl (by decide +kernel) rfl (aJ 5 rfl ?_))))
   obtain ⟨x32,k32,H⟩ := aW H
   refine bX k32.1 (aH eF k32.2) ?_
   refine cC rfl ?_
   obtain ⟨x29,h29,H⟩ := bK H
   have s29 := kw rA cols x1
   rw [h29] at s29
   refine bg Tryz.call139 (jc.r) s29 ?_
   obtain ⟨x34,h34,H⟩ := bK H
   have s34 := mP x29 x32
   rw [h34] at s34
   refine bg Tryz.call138 (jc.r) s34 ?_
   refine mt rfl rfl rfl rfl rfl rfl rfl rfl fun b12=>?_
   refine dK ?_
   refine be (ac (af (aq tk rfl (aM tk ?_))))
   refine aq tk rfl (ag ?_)
   refine aP rfl H (fun H=>?_) (fun H=>?_)
   ·refine af (aq tk rfl (aM tk ?_))
    refine cO tk (rows' := List.map ab ([x34] : Rq)) (gk.refl _) ?_
    obtain ⟨x41,h41,H⟩ := ax H
    have k41 := dw h41
    refine dr (rows2' := List.map ab ([x34] : Rq)) (rows' := List.map ab x41) tk rfl rfl rfl rfl rfl rfl rfl rfl rfl rfl rfl rfl rfl (gk.refl _) (eK k41.1) (eN k41.2.1) (eR k41.2.2) fun g41=>?_
    refine aq tk rfl (ag (aQ (bh 2 tk rfl ?_)))
    obtain rfl := ao H
    refine aK x41 g41 ⟨hl1,hg1⟩ (Gh.le (aa (aa (aa (aa (aa (aa (aa (aI (PLe.q (aU (by omega))) ak)))))))) (ay rfl (jc.r) ah) (aA ai))
   refine av (aQ (bh 2 tk rfl ?_))
   obtain rfl := ao H
   refine aK s1 g1 ⟨hl1,hg1⟩ (Gh.le (aa (aa (aa (aa (aa (aa (aa (aI (PLe.q (aU (by omega))) ak)))))))) (ay rfl (jc.r) ah) (aA ai))
  have hn1 := rMd (cq h) hr1
  refine aR rfl ?_
  refine aO s1 g1 hn1 (Gh.le (aa (aa (aa ak))) (ay rfl (jc.r) ah) (aA ai))
 have H := bq hn1 Hp1
 refine ac (el 9 rfl rfl rfl (af (am 3 tk rfl ?_)))
 obtain ⟨x46,h46,H⟩ := ax H
 have s46 := oB a.function s1 _ h46
 refine au Tryz.call193 (jc.r) s46 ?_
 refine aD tk ?_
 refine ag ?_
 obtain rfl := ao H
 refine aB tk rfl (ps := [(.agg [(ae x46.kind),(ae x46.int),(.str x46.text)])]) ⟨_,_,rfl,⟨_,_,_,_,_,rfl,rfl,rfl,rfl⟩,rfl⟩ (PLe.q rfl)
def cJ (x : Rz) (cmp : Rq → Rq → Option (Int)) : Option (Rz) :=
 aj (dj x (x.length : Int) cmp) fun x8 =>
 aj (cF (x8.length = x.length) ()) fun (_ : Unit) =>
 some x8
theorem kj (g_x : OwnRef) {g_cmp : FuncId} {caps_cmp : List PV} (x : Rz) (cmp : Rq → Rq → Option (Int)) (hg_cmp : ∀ (vs : Array Value) (w : World),(callFunc g_cmp vs).run Tryz.prog w = .ok (.enter g_cmp vs) w) (hp_cmp : ∀ a0 a1 r,cmp a0 a1 = some r → aV Tryz.prog g_cmp ((.list 53 (a0.map ab)) :: (.list 53 (a1.map ab)) :: caps_cmp) (ae r)) (r : Rz) (H : cJ x cmp = some r) :
  PH Tryz.prog 174 [(.own 0 g_x (x.map (al 53 ab)).length),(.fn g_cmp caps_cmp)] ⟨fun _=>none,upd (fun _=>none) 0 (some ⟨g_x,51,(x.map (al 53 ab)),true⟩)⟩ (fun u H=>u = (.tup []) ∧ H = ⟨fun _=>none,upd (fun _=>none) 0 (some ⟨g_x,51,(r.map (al 53 ab)),true⟩)⟩) := by
 unfold cJ at H
 refine PH.aC Tryz.func174 Tryz.ntmps174 ?_
 refine af (am 2 tk rfl (jG tk (zl _) ?_))
 refine aq tk rfl ?_
 obtain ⟨x8,h8,H⟩ := ax H
 have s8 := lZ g_x x (x.length : Int) cmp hg_cmp hp_cmp _ h8
 obtain ⟨_,q8_0,H⟩ := ax H
 have l8_0 := (bI q8_0).1
 have z8_0 : (List.map (al 53 ab) x).length = (List.map (al 53 ab) x8).length := by simpa using (l8_0).symm
 refine cf (g := 194) rfl rfl rfl Tryz.call194 [] [(0,0)] rfl rfl rfl rfl (jc.of2 (iw.cons (np.own rfl) (iw.cons (np.of_eq rfl) (iw.cons (np.of_eq rfl) iw.nil)))) (by rw [bR,bL,bS]; rfl) s8 ?_
 rintro u8 H8h ⟨rfl,rfl⟩
 refine ⟨_,rfl,?_⟩
 refine cA (st' := ⟨_,_,fun _=>none,upd (fun _=>none) 0 (some ⟨g_x,51,(x8.map (al 53 ab)),true⟩)⟩) (Gh.le (bO _ _) ah (aA ai)) ?_
 refine ag ?_
 obtain rfl := ao H
 refine dN (st' := ⟨9,fun _=>.any,fun _=>none,upd (fun _=>none) 0 (some ⟨g_x,51,(x8.map (al 53 ab)),true⟩)⟩) (Gh.le ak ah (aA ai)) ?_
 refine iI rfl (PLe.q rfl) ⟨rfl,rfl⟩
def eY (sA : LSchema) (c : LConstraint) : Option (Int) :=
 aj (fX sA c.table) fun x14 =>
 cond (!x14.2)
  (some 4)
  (aj (aF sA.tables x14.1) fun (x22 : LTable) =>
  bo (gT (LVal.mk 0 0 []) c.op (LVal.mk 0 0 [])) fun x30 =>
  bo (
   cond (decide (c.left < (0 : Int)))
    (true)
    (cond (decide (c.left ≥ (x22.columns.length : Int)))
     (true)
     (cond (x30.2 != (0 : Int))
      (true)
      (cond (decide (c.right < (-1)))
       (true)
       (cond (decide (c.right ≥ (x22.columns.length : Int)))
        (true)
        (cond (decide (c.right ≥ (0 : Int)))
         ((!(c.value.kind == (0 : Int) && (c.value.int == (0 : Int) && (c.value.text == ([] : List UInt8) && true)))))
         (false))))))) fun (t1 : Bool) =>
  cond t1
   (some 3)
   (cond (decide (c.right ≥ (0 : Int)))
    (aj (aF x22.columns c.left) fun (x76 : LCol) =>
    aj (aF x22.columns c.right) fun (x82 : LCol) =>
    cond (x76.kind != x82.kind)
     (some 7)
     (some 0))
    (aj (aF x22.columns c.left) fun (x92 : LCol) =>
    cond (c.value.kind != x92.kind)
     (some 7)
     (bo (dS c.value) fun x98 =>
     some x98))))
theorem mQ (sA : LSchema) (c : LConstraint) (r : Int) (H : eY sA c = some r) :
  aV Tryz.prog 103 [(.agg (eA sA)),(.agg (cN c))] (ae r) := by
 unfold eY at H
 refine PH.aC Tryz.func103 Tryz.ntmps103 ?_
 refine ac (af (aT ?_))
 refine aT ?_
 refine aq tk rfl (ag (ac (af (am 3 tk rfl ?_))))
 obtain ⟨x14,h14,H⟩ := ax H
 have s14 := kB sA c.table _ h14
 refine au Tryz.call145 (jc.r) s14 ?_
 refine am 5 tk rfl (ag (ac (aw 2 tk rfl ?_)))
 refine aP rfl H (fun H=>?_) (fun H=>?_)
 ·refine aw 1 tk rfl ?_
  obtain rfl := ao H
  refine aB tk rfl (ps := [(ae 4)]) ⟨_,_,rfl,rfl,rfl⟩ (PLe.q rfl)
 refine av (ac (af (am 3 tk rfl ?_)))
 obtain ⟨x22,k22,H⟩ := aW H
 refine bt tk k22.1 (aH (fun _=>rfl) k22.2) ?_
 refine am 3 tk rfl (ag (ac (af (am 4 tk rfl ?_))))
 obtain ⟨x30,h30,H⟩ := bK H
 have s30 := rj (LVal.mk 0 0 []) c.op (LVal.mk 0 0 [])
 rw [h30] at s30
 refine au Tryz.call148 (jc.r) s30 ?_
 refine am 5 tk rfl (ag (ac (ac ?_)))
 obtain ⟨fl1,H1,Hp1⟩ := bK H
 refine aZ (τ := Bool) (γ := Unit) (fun t1 g1=>⟨99,upd (upd (upd (fun _=>.any) 69 (aE t1)) 7 (.list 50 (x22.columns.map aG))) 3 (.ptr [(.str c.table),(ae c.left),(.str c.op),(ae c.right),(ae c.value.kind),(ae c.value.int),(.str c.value.text)]),fun _=>none,fun _=>none⟩) (fun t=>t = fl1) ?_ (fun t1 g1 hn1=>?_)
 ·have H := H1
  refine af (am 4 tk rfl ?_)
  refine bG rfl rfl rfl H (fun H=>?_) (fun H=>?_)
  ·refine am 33 tk rfl (ag ?_)
   subst H
   refine aO true () rfl (Gh.le (aa (aa (aa ak))) ah ai)
  refine am 3 tk rfl (aN tk (zl _) ?_)
  refine am 3 tk rfl ?_
  refine bG rfl rfl rfl H (fun H=>?_) (fun H=>?_)
  ·refine am 26 tk rfl (ag ?_)
   subst H
   refine aO true () rfl (Gh.le (aa (aa (aa ak))) ah ai)
  refine am 4 tk rfl ?_
  refine bG rfl rfl rfl H (fun H=>?_) (fun H=>?_)
  ·refine am 22 tk rfl (ag ?_)
   subst H
   refine aO true () rfl (Gh.le (aa (aa (aa ak))) ah ai)
  refine am 5 tk rfl ?_
  refine bG rfl rfl rfl H (fun H=>?_) (fun H=>?_)
  ·refine am 17 tk rfl (ag ?_)
   subst H
   refine aO true () rfl (Gh.le (aa (aa (aa ak))) ah ai)
  refine am 3 tk rfl (aN tk (zl _) ?_)
  refine am 3 tk rfl ?_
  refine bG rfl rfl rfl H (fun H=>?_) (fun H=>?_)
  ·refine am 10 tk rfl (ag ?_)
   subst H
   refine aO true () rfl (Gh.le (aa (aa (aa ak))) ah ai)
  refine am 4 tk rfl ?_
  refine bG rfl rfl rfl H (fun H=>?_) (fun H=>?_)
  ·refine am 6 tk rfl (ag ?_)
   subst H
   refine aO (!(c.value.kind == (0 : Int) && (c.value.int == (0 : Int) && (c.value.text == ([] : List UInt8) && true)))) () rfl (Gh.le (aa (aa (aa ak))) ah ai)
  refine am 6 tk rfl (ag ?_)
  subst H
  refine aO false () rfl (Gh.le (aa (aa (aa ak))) ah ai)
 subst hn1
 have H := Hp1
 refine aP rfl H (fun H=>?_) (fun H=>?_)
 ·refine aw 1 tk rfl ?_
  obtain rfl := ao H
  refine aB tk rfl (ps := [(ae 3)]) ⟨_,_,rfl,rfl,rfl⟩ (PLe.q rfl)
 refine av (ac (aw 3 tk rfl ?_))
 refine aP rfl H (fun H=>?_) (fun H=>?_)
 ·refine ac (ac (bl tk mok ⟨false,false,[]⟩ [0,1,2,3,4,5,6,7,8,9,10,11,12] rfl (by decide +kernel) rfl (aJ 3 rfl ?_)))
  obtain ⟨x76,k76,H⟩ := aW H
  refine bX k76.1 (aH (fun _=>rfl) k76.2) ?_
  refine aJ 5 rfl ?_
  obtain ⟨x82,k82,H⟩ := aW H
  refine bX k82.1 (aH (fun _=>rfl) k82.2) ?_
  refine aJ 3 rfl (be ?_)
  refine aP rfl H (fun H=>?_) (fun H=>?_)
  ·refine aw 1 tk rfl ?_
   obtain rfl := ao H
   refine aB tk rfl (ps := [(ae 7)]) ⟨_,_,rfl,rfl,rfl⟩ (PLe.q rfl)
  refine av (aw 1 tk rfl ?_)
  obtain rfl := ao H
  refine aB tk rfl (ps := [(ae 0)]) ⟨_,_,rfl,rfl,rfl⟩ (PLe.q rfl)
 refine av (ac (ac (bl tk mok ⟨false,false,[]⟩ [0,1,2,3,4,5,6,7,8,9] rfl (by decide +kernel) rfl (aJ 6 rfl ?_))))
 obtain ⟨x92,k92,H⟩ := aW H
 refine bX k92.1 (aH (fun _=>rfl) k92.2) ?_
 refine aJ 3 rfl (be ?_)
 refine aP rfl H (fun H=>?_) (fun H=>?_)
 ·refine aw 1 tk rfl ?_
  obtain rfl := ao H
  refine aB tk rfl (ps := [(ae 7)]) ⟨_,_,rfl,rfl,rfl⟩ (PLe.q rfl)
 refine av (ac (af (am 2 tk rfl ?_)))
 obtain ⟨x98,h98,H⟩ := bK H
 have s98 := nX c.value
 rw [h98] at s98
 refine au Tryz.call105 (jc.r) s98 ?_
 refine aq tk rfl (ag ?_)
 obtain rfl := ao H
 refine aB tk rfl (ps := [(ae x98)]) ⟨_,_,rfl,rfl,rfl⟩ (PLe.q rfl)
def da (rec92 : Rz → Int → Int → Int → Option (Rz)) (data : Rz) (a : Int) (b : Int) (limit : Int) (cmp : Rq → Rq → Option (Int)) : Option (Rz) :=
 aj (whileM (σ := Rz × Int × Int × Int × Bool × Bool) (ρ := (Rz)) (fun (s1 : Rz × Int × Int × Int × Bool × Bool) =>
  cond (decide ((i64.wrap (s1.2.2.1 - s1.2.1)) ≤ (12 : Int)))
   (aj (bZ s1.1 s1.2.1 s1.2.2.1 cmp) fun x30 =>
   aj (cF (x30.length = s1.1.length) ()) fun (_ : Unit) =>
   some (.ret x30))
   (cond (s1.2.2.2.1 == (0 : Int))
    (aj (ef s1.1 s1.2.1 s1.2.2.1 cmp) fun x37 =>
    aj (cF (x37.length = s1.1.length) ()) fun (_ : Unit) =>
    some (.ret x37))
    (aj (
     cond (!s1.2.2.2.2.1)
      (aj (dC s1.1 s1.2.1 s1.2.2.1 cmp) fun x44 =>
      aj (cF (x44.length = s1.1.length) ()) fun (_ : Unit) =>
      some (x44,(i64.wrap (s1.2.2.2.1 - (1 : Int)))))
      (some (s1.1,s1.2.2.2.1))) fun (t15 : Rz × Int) =>
    aj (dP t15.1 s1.2.1 s1.2.2.1 cmp) fun x52 =>
    aj (cF (x52.2.2.length = t15.1.length) ()) fun (_ : Unit) =>
    aj (
     cond (x52.2.1 == (2 : Int))
      (aj (dH x52.2.2 s1.2.1 s1.2.2.1 cmp) fun x61 =>
      aj (cF (x61.length = x52.2.2.length) ()) fun (_ : Unit) =>
      some (x61,(i64.wrap ((i64.wrap (s1.2.2.1 - (1 : Int))) - (i64.wrap (x52.1 - s1.2.1)))),1))
      (some (x52.2.2,x52.1,x52.2.1))) fun (t16 : Rz × Int × Int) =>
    bo (
     cond s1.2.2.2.2.1
      (cond s1.2.2.2.2.2
       ((t16.1,(t16.2.2 == (1 : Int))))
       ((t16.1,false)))
      ((t16.1,false))) fun (t17 : Rz × Bool) =>
    aj (
     cond t17.2
      (aj (cV t17.1 s1.2.1 s1.2.2.1 cmp) fun x80 =>
      aj (cF (x80.2.length = t17.1.length) ()) fun (_ : Unit) =>
      cond x80.1
       (some (.ret x80.2))
       (some (.next x80.2)))
      (some (.next t17.1))) fun (fl18 : Flow Rz (Rz))=>fl18.thenF fun t18 =>
    aj (
     cond (decide (s1.2.1 > (0 : Int)))
      (aj (aF t18 (i64.wrap (s1.2.1 - (1 : Int)))) fun (x88 : Rq) =>
      aj (aF t18 t16.2.1) fun (x92 : Rq) =>
      aj (cmp x88 x92) fun x94 =>
      some (t18,(!(decide (x94 < (0 : Int))))))
      (some (t18,false))) fun (t19 : Rz × Bool) =>
    cond t19.2
     (aj (du t19.1 s1.2.1 s1.2.2.1 t16.2.1 cmp) fun x103 =>
     aj (cF (x103.2.length = t19.1.length) ()) fun (_ : Unit) =>
     some (.next (x103.2,x103.1,s1.2.2.1,t15.2,s1.2.2.2.2.1,s1.2.2.2.2.2)))
     (aj (dX t19.1 s1.2.1 s1.2.2.1 t16.2.1 cmp) fun x111 =>
     aj (cF (x111.2.2.length = t19.1.length) ()) fun (_ : Unit) =>
     cond (decide ((i64.wrap (x111.1 - s1.2.1)) < (i64.wrap (s1.2.2.1 - x111.1))))
      (aj (rec92 x111.2.2 s1.2.1 x111.1 t15.2) fun x134 =>
      aj (cF (x134.length = x111.2.2.length) ()) fun (_ : Unit) =>
      some (.next (x134,(i64.wrap (x111.1 + (1 : Int))),s1.2.2.1,t15.2,(decide ((i64.wrap (x111.1 - s1.2.1)) ≥ (i64.wrap (Int.tdiv (i64.wrap (s1.2.2.1 - s1.2.1)) (8 : Int))))),x111.2.1)))
      (aj (rec92 x111.2.2 (i64.wrap (x111.1 + (1 : Int))) s1.2.2.1 t15.2) fun x146 =>
      aj (cF (x146.length = x111.2.2.length) ()) fun (_ : Unit) =>
      some (.next (x146,s1.2.1,x111.1,t15.2,(decide ((i64.wrap (s1.2.2.1 - x111.1)) ≥ (i64.wrap (Int.tdiv (i64.wrap (s1.2.2.1 - s1.2.1)) (8 : Int))))),x111.2.1))))))) (data,a,b,limit,true,true)) fun fl1=>fl1.thenR fun (s1 : Rz × Int × Int × Int × Bool × Bool) =>
 some s1.1
theorem ln (g_data : OwnRef) {g_cmp : FuncId} {caps_cmp : List PV} (rec92 : Rz → Int → Int → Int → Option (Rz)) (hrec92 : ∀ g0 a0 a1 a2 a3 r,rec92 a0 a1 a2 a3 = some r → PH Tryz.prog 92 [(.own 0 g0 (a0.map (al 53 ab)).length),(ae a1),(ae a2),(ae a3),(.fn g_cmp caps_cmp)] ⟨fun _=>none,upd (fun _=>none) 0 (some ⟨g0,51,(a0.map (al 53 ab)),true⟩)⟩ (fun u H=>u = (.tup []) ∧ H = ⟨fun _=>none,upd (fun _=>none) 0 (some ⟨g0,51,(r.map (al 53 ab)),true⟩)⟩)) (data : Rz) (a : Int) (b : Int) (limit : Int) (cmp : Rq → Rq → Option (Int)) (hg_cmp : ∀ (vs : Array Value) (w : World),(callFunc g_cmp vs).run Tryz.prog w = .ok (.enter g_cmp vs) w) (hp_cmp : ∀ a0 a1 r,cmp a0 a1 = some r → aV Tryz.prog g_cmp ((.list 53 (a0.map ab)) :: (.list 53 (a1.map ab)) :: caps_cmp) (ae r)) (r : Rz) (H : da rec92 data a b limit cmp = some r) :
  PH Tryz.prog 92 [(.own 0 g_data (data.map (al 53 ab)).length),(ae a),(ae b),(ae limit),(.fn g_cmp caps_cmp)] ⟨fun _=>none,upd (fun _=>none) 0 (some ⟨g_data,51,(data.map (al 53 ab)),true⟩)⟩ (fun u H=>u = (.tup []) ∧ H = ⟨fun _=>none,upd (fun _=>none) 0 (some ⟨g_data,51,(r.map (al 53 ab)),true⟩)⟩) := by
 unfold da at H
 refine PH.aC Tryz.func92 Tryz.ntmps92 ?_
 refine aw 1 tk rfl (aw 1 tk rfl ?_)
 obtain ⟨fl1,H1,Hp1⟩ := ax H
 refine aZ (τ := Rz × Int × Int × Int × Bool × Bool) (γ := Unit) (fun s1 g1=>⟨148,upd (fun _=>.any) 0 (.own 0 g_data (s1.1.map (al 53 ab)).length),fun _=>none,upd (fun _=>none) 0 (some ⟨g_data,51,(s1.1.map (al 53 ab)),true⟩)⟩) (fun t=>fl1 = .next t) ?_ (fun s1 g1 hn1=>?_)
 ·refine az ?_
  refine cP (fun s1 g1=>⟨148,upd (upd (upd (upd (upd (upd (upd (fun _=>.any) 11 (aE s1.2.2.2.2.2)) 10 (aE s1.2.2.2.2.1)) 4 (.fn g_cmp caps_cmp)) 3 (ae s1.2.2.2.1)) 2 (ae s1.2.2.1)) 1 (ae s1.2.1)) 0 (.own 0 g_data (s1.1.map (al 53 ab)).length),fun _=>none,upd (fun _=>none) 0 (some ⟨g_data,51,(s1.1.map (al 53 ab)),true⟩)⟩) () H1 (Gh.le (aa (aa (aa (aa (aa (aa (aa ak))))))) ah (aA ai)) (fun m1 s1 g1 hr1=>?_)
  obtain ⟨fb1,H,hg1⟩ := cn hr1
  refine az (aw 4 tk rfl (ac (aw 2 tk rfl ?_)))
  refine aP rfl H (fun H=>?_) (fun H=>?_)
  ·refine ac (af (am 4 tk rfl ?_))
   obtain ⟨x30,h30,H⟩ := ax H
   have s30 := fN g_data s1.1 s1.2.1 s1.2.2.1 cmp hg_cmp hp_cmp _ h30
   obtain ⟨_,q30_0,H⟩ := ax H
   have l30_0 := (bI q30_0).1
   have z30_0 : (List.map (al 53 ab) s1.1).length = (List.map (al 53 ab) x30).length := by simpa using (l30_0).symm
   refine cf (g := 114) rfl rfl rfl Tryz.call114 [] [(0,0)] rfl rfl rfl rfl (jc.of2 (iw.cons (np.own rfl) (iw.cons (np.of_eq rfl) (iw.cons (np.of_eq rfl) (iw.cons (np.of_eq rfl) iw.nil))))) (by rw [bR,bL,bS]; rfl) s30 ?_
   rintro u30 H30h ⟨rfl,rfl⟩
   refine ⟨_,rfl,?_⟩
   refine cA (st' := ⟨_,_,fun _=>none,upd (fun _=>none) 0 (some ⟨g_data,51,(x30.map (al 53 ab)),true⟩)⟩) (Gh.le (bO _ _) ah (aA ai)) ?_
   refine ag ?_
   obtain rfl := ao H
   have e1 : fl1 = .ret _ := hg1
   subst e1
   obtain rfl := bj Hp1
   refine dN (st' := ⟨148,fun _=>.any,fun _=>none,upd (fun _=>none) 0 (some ⟨g_data,51,(x30.map (al 53 ab)),true⟩)⟩) (Gh.le ak ah (aA ai)) ?_
   refine eZ tk rfl (ps := []) rfl (PLe.q rfl) ⟨rfl,rfl⟩
  refine av (ac (aw 2 tk rfl ?_))
  refine aP rfl H (fun H=>?_) (fun H=>?_)
  ·refine ac (af (am 4 tk rfl ?_))
   obtain ⟨x37,h37,H⟩ := ax H
   have s37 := lw g_data s1.1 s1.2.1 s1.2.2.1 cmp hg_cmp hp_cmp _ h37
   obtain ⟨_,q37_0,H⟩ := ax H
   have l37_0 := (bI q37_0).1
   have z37_0 : (List.map (al 53 ab) s1.1).length = (List.map (al 53 ab) x37).length := by simpa using (l37_0).symm
   refine cf (g := 115) rfl rfl rfl Tryz.call115 [] [(0,0)] rfl rfl rfl rfl (jc.of2 (iw.cons (np.own rfl) (iw.cons (np.of_eq rfl) (iw.cons (np.of_eq rfl) (iw.cons (np.of_eq rfl) iw.nil))))) (by rw [bR,bL,bS]; rfl) s37 ?_
   rintro u37 H37h ⟨rfl,rfl⟩
   refine ⟨_,rfl,?_⟩
   refine cA (st' := ⟨_,_,fun _=>none,upd (fun _=>none) 0 (some ⟨g_data,51,(x37.map (al 53 ab)),true⟩)⟩) (Gh.le (bO _ _) ah (aA ai)) ?_
   refine ag ?_
   obtain rfl := ao H
   have e1 : fl1 = .ret _ := hg1
   subst e1
   obtain rfl := bj Hp1
   refine dN (st' := ⟨148,fun _=>.any,fun _=>none,upd (fun _=>none) 0 (some ⟨g_data,51,(x37.map (al 53 ab)),true⟩)⟩) (Gh.le ak ah (aA ai)) ?_
   refine eZ tk rfl (ps := []) rfl (PLe.q rfl) ⟨rfl,rfl⟩
  refine av (ac (aw 2 tk rfl ?_))
  obtain ⟨fl15,H15,Hp15⟩ := ax H
  refine aZ (τ := Rz × Int) (γ := Unit) (fun t15 g15=>⟨148,upd (upd (upd (upd (upd (upd (upd (upd (fun _=>.any) 12 (ae (i64.wrap (s1.2.2.1 - s1.2.1)))) 11 (aE s1.2.2.2.2.2)) 10 (aE s1.2.2.2.2.1)) 4 (.fn g_cmp caps_cmp)) 3 (ae t15.2)) 2 (ae s1.2.2.1)) 1 (ae s1.2.1)) 0 (.own 0 g_data (t15.1.map (al 53 ab)).length),fun _=>none,upd (fun _=>none) 0 (some ⟨g_data,51,(t15.1.map (al 53 ab)),true⟩)⟩) (fun t=>t = fl15) ?_ (fun t15 g15 hn15=>?_)
  ·have H := H15
   refine aP rfl H (fun H=>?_) (fun H=>?_)
   ·refine ac (af (am 4 tk rfl ?_))
    obtain ⟨x44,h44,H⟩ := ax H
    have s44 := ky g_data s1.1 s1.2.1 s1.2.2.1 cmp hg_cmp hp_cmp _ h44
    obtain ⟨_,q44_0,H⟩ := ax H
    have l44_0 := (bI q44_0).1
    have z44_0 : (List.map (al 53 ab) s1.1).length = (List.map (al 53 ab) x44).length := by simpa using (l44_0).symm
    refine cf (g := 116) rfl rfl rfl Tryz.call116 [] [(0,0)] rfl rfl rfl rfl (jc.of2 (iw.cons (np.own rfl) (iw.cons (np.of_eq rfl) (iw.cons (np.of_eq rfl) (iw.cons (np.of_eq rfl) iw.nil))))) (by rw [bR,bL,bS]; rfl) s44 ?_
    rintro u44 H44h ⟨rfl,rfl⟩
    refine ⟨_,rfl,?_⟩
    refine cA (st' := ⟨_,_,fun _=>none,upd (fun _=>none) 0 (some ⟨g_data,51,(x44.map (al 53 ab)),true⟩)⟩) (Gh.le (bO _ _) ah (aA ai)) ?_
    refine ag (bh 3 tk rfl ?_)
    obtain rfl := ao H
    refine aO (x44,(i64.wrap (s1.2.2.2.1 - (1 : Int)))) () rfl (Gh.le (aI (PLe.of2 (np.of_eq (congrArg (PV.own 0 g_data) z44_0))) (aa (aa (aa (aa (aa (aa (aa ak)))))))) ah (aA ai))
   refine av ?_
   obtain rfl := ao H
   refine aO (s1.1,s1.2.2.2.1) () rfl (Gh.le (aa (aa (aa (aa (aa (aa (aa (aa ak)))))))) ah (aA ai))
  subst hn15
  have H := Hp15
  refine ac (af (am 4 tk rfl ?_))
  obtain ⟨x52,h52,H⟩ := ax H
  have s52 := kU g_data t15.1 s1.2.1 s1.2.2.1 cmp hg_cmp hp_cmp _ h52
  obtain ⟨_,q52_0,H⟩ := ax H
  have l52_0 := (bI q52_0).1
  have z52_0 : (List.map (al 53 ab) t15.1).length = (List.map (al 53 ab) x52.2.2).length := by simpa using (l52_0).symm
  refine cf (g := 117) rfl rfl rfl Tryz.call117 [] [(0,0)] rfl rfl rfl rfl (jc.of2 (iw.cons (np.own rfl) (iw.cons (np.of_eq rfl) (iw.cons (np.of_eq rfl) (iw.cons (np.of_eq rfl) iw.nil))))) (by rw [bR,bL,bS]; rfl) s52 ?_
  rintro u52 H52h ⟨rfl,rfl⟩
  refine ⟨_,rfl,?_⟩
  refine cA (st' := ⟨_,_,fun _=>none,upd (fun _=>none) 0 (some ⟨g_data,51,(x52.2.2.map (al 53 ab)),true⟩)⟩) (Gh.le (bO _ _) ah (aA ai)) ?_
  refine am 5 tk rfl (ag (ac (aw 2 tk rfl ?_)))
  obtain ⟨fl16,H16,Hp16⟩ := ax H
  refine aZ (τ := Rz × Int × Int) (γ := Unit) (fun t16 g16=>⟨148,upd (upd (upd (upd (upd (upd (upd (upd (upd (upd (fun _=>.any) 14 (ae t16.2.2)) 13 (ae t16.2.1)) 12 (ae (i64.wrap (s1.2.2.1 - s1.2.1)))) 11 (aE s1.2.2.2.2.2)) 10 (aE s1.2.2.2.2.1)) 4 (.fn g_cmp caps_cmp)) 3 (ae t15.2)) 2 (ae s1.2.2.1)) 1 (ae s1.2.1)) 0 (.own 0 g_data (t16.1.map (al 53 ab)).length),fun _=>none,upd (fun _=>none) 0 (some ⟨g_data,51,(t16.1.map (al 53 ab)),true⟩)⟩) (fun t=>t = fl16) ?_ (fun t16 g16 hn16=>?_)
  ·have H := H16
   refine aP rfl H (fun H=>?_) (fun H=>?_)
   ·refine ac (af (am 4 tk rfl ?_))
    obtain ⟨x61,h61,H⟩ := ax H
    have s61 := kE g_data x52.2.2 s1.2.1 s1.2.2.1 cmp hg_cmp hp_cmp _ h61
    obtain ⟨_,q61_0,H⟩ := ax H
    have l61_0 := (bI q61_0).1
    have z61_0 : (List.map (al 53 ab) x52.2.2).length = (List.map (al 53 ab) x61).length := by simpa using (l61_0).symm
    refine cf (g := 118) rfl rfl rfl Tryz.call118 [] [(0,0)] rfl rfl rfl rfl (jc.of2 (iw.cons (np.own z52_0) (iw.cons (np.of_eq rfl) (iw.cons (np.of_eq rfl) (iw.cons (np.of_eq rfl) iw.nil))))) (by rw [bR,bL,bS]; rfl) s61 ?_
    rintro u61 H61h ⟨rfl,rfl⟩
    refine ⟨_,rfl,?_⟩
    refine cA (st' := ⟨_,_,fun _=>none,upd (fun _=>none) 0 (some ⟨g_data,51,(x61.map (al 53 ab)),true⟩)⟩) (Gh.le (bO _ _) ah (aA ai)) ?_
    refine ag (aw 7 tk rfl (bh 1 tk rfl ?_))
    obtain rfl := ao H
    refine aO (x61,(i64.wrap ((i64.wrap (s1.2.2.1 - (1 : Int))) - (i64.wrap (x52.1 - s1.2.1)))),1) () rfl (Gh.le (aI (PLe.of2 (np.of_eq (congrArg (PV.own 0 g_data) (z52_0.trans z61_0)))) (aa (aa (aa (aa (aa (aa (aa (aa (aa ak)))))))))) ah (aA ai))
   refine av ?_
   obtain rfl := ao H
   refine aO (x52.2.2,x52.1,x52.2.1) () rfl (Gh.le (aI (PLe.of2 (np.of_eq (congrArg (PV.own 0 g_data) z52_0))) (aa (aa (aa (aa (aa (aa (aa (aa (aa ak)))))))))) ah (aA ai))
  subst hn16
  have H := Hp16
  refine ac (ac ?_)
  obtain ⟨fl17,H17,Hp17⟩ := bK H
  refine aZ (τ := Rz × Bool) (γ := Unit) (fun t17 g17=>⟨148,upd (upd (upd (upd (upd (upd (upd (upd (upd (upd (fun _=>.any) 75 (aE t17.2)) 13 (ae t16.2.1)) 12 (ae (i64.wrap (s1.2.2.1 - s1.2.1)))) 11 (aE s1.2.2.2.2.2)) 10 (aE s1.2.2.2.2.1)) 4 (.fn g_cmp caps_cmp)) 3 (ae t15.2)) 2 (ae s1.2.2.1)) 1 (ae s1.2.1)) 0 (.own 0 g_data (t17.1.map (al 53 ab)).length),fun _=>none,upd (fun _=>none) 0 (some ⟨g_data,51,(t17.1.map (al 53 ab)),true⟩)⟩) (fun t=>t = fl17) ?_ (fun t17 g17 hn17=>?_)
  ·have H := H17
   refine af (am 2 tk rfl ?_)
   refine bG rfl rfl rfl H (fun H=>?_) (fun H=>?_)
   ·refine am 3 tk rfl ?_
    refine bG rfl rfl rfl H (fun H=>?_) (fun H=>?_)
    ·refine am 3 tk rfl (ag ?_)
     subst H
     refine aO (t16.1,(t16.2.2 == (1 : Int))) () rfl (Gh.le (aa (aa (aa (aa (aa (aa (aa (aa (aa (aa ak)))))))))) ah (aA ai))
    refine am 3 tk rfl (ag ?_)
    subst H
    refine aO (t16.1,false) () rfl (Gh.le (aa (aa (aa (aa (aa (aa (aa (aa (aa (aa ak)))))))))) ah (aA ai))
   refine am 6 tk rfl (ag ?_)
   subst H
   refine aO (t16.1,false) () rfl (Gh.le (aa (aa (aa (aa (aa (aa (aa (aa (aa (aa ak)))))))))) ah (aA ai))
  subst hn17
  have H := Hp17
  obtain ⟨fl18,H18,Hp18⟩ := ax H
  refine aZ (τ := Rz) (γ := Unit) (fun t18 g18=>⟨148,upd (upd (upd (upd (upd (upd (upd (upd (upd (fun _=>.any) 13 (ae t16.2.1)) 12 (ae (i64.wrap (s1.2.2.1 - s1.2.1)))) 11 (aE s1.2.2.2.2.2)) 10 (aE s1.2.2.2.2.1)) 4 (.fn g_cmp caps_cmp)) 3 (ae t15.2)) 2 (ae s1.2.2.1)) 1 (ae s1.2.1)) 0 (.own 0 g_data (t18.map (al 53 ab)).length),fun _=>none,upd (fun _=>none) 0 (some ⟨g_data,51,(t18.map (al 53 ab)),true⟩)⟩) (fun t=>fl18 = .next t) ?_ (fun t18 g18 hn18=>?_)
  ·have H := H18
   refine aP rfl H (fun H=>?_) (fun H=>?_)
   ·refine ac (af (am 4 tk rfl ?_))
    obtain ⟨x80,h80,H⟩ := ax H
    have s80 := jJ g_data t17.1 s1.2.1 s1.2.2.1 cmp hg_cmp hp_cmp _ h80
    obtain ⟨_,q80_0,H⟩ := ax H
    have l80_0 := (bI q80_0).1
    have z80_0 : (List.map (al 53 ab) t17.1).length = (List.map (al 53 ab) x80.2).length := by simpa using (l80_0).symm
    refine cf (g := 119) rfl rfl rfl Tryz.call119 [] [(0,0)] rfl rfl rfl rfl (jc.of2 (iw.cons (np.own rfl) (iw.cons (np.of_eq rfl) (iw.cons (np.of_eq rfl) (iw.cons (np.of_eq rfl) iw.nil))))) (by rw [bR,bL,bS]; rfl) s80 ?_
    rintro u80 H80h ⟨rfl,rfl⟩
    refine ⟨_,rfl,?_⟩
    refine cA (st' := ⟨_,_,fun _=>none,upd (fun _=>none) 0 (some ⟨g_data,51,(x80.2.map (al 53 ab)),true⟩)⟩) (Gh.le (bO _ _) ah (aA ai)) ?_
    refine ag ?_
    refine aP rfl H (fun H=>?_) (fun H=>?_)
    ·obtain rfl := ao H
     have q18 := oS Hp18
     subst q18
     have e1 : fl1 = .ret _ := hg1
     subst e1
     obtain rfl := bj Hp1
     refine dN (st' := ⟨148,fun _=>.any,fun _=>none,upd (fun _=>none) 0 (some ⟨g_data,51,(x80.2.map (al 53 ab)),true⟩)⟩) (Gh.le ak ah (aA ai)) ?_
     refine eZ tk rfl (ps := []) rfl (PLe.q rfl) ⟨rfl,rfl⟩
    refine av ?_
    obtain rfl := ao H
    refine aO x80.2 () rfl (Gh.le (aI (PLe.of2 (np.of_eq (congrArg (PV.own 0 g_data) z80_0))) (aa (aa (aa (aa (aa (aa (aa (aa ak))))))))) ah (aA ai))
   refine av ?_
   obtain rfl := ao H
   refine aO t17.1 () rfl (Gh.le (aa (aa (aa (aa (aa (aa (aa (aa (aa ak))))))))) ah (aA ai))
  have H := thenF_next hn18 Hp18
  refine ac (ac ?_)
  obtain ⟨fl19,H19,Hp19⟩ := ax H
  refine aZ (τ := Rz × Bool) (γ := Unit) (fun t19 g19=>⟨148,upd (upd (upd (upd (upd (upd (upd (upd (upd (upd (fun _=>.any) 97 (aE t19.2)) 13 (ae t16.2.1)) 12 (ae (i64.wrap (s1.2.2.1 - s1.2.1)))) 11 (aE s1.2.2.2.2.2)) 10 (aE s1.2.2.2.2.1)) 4 (.fn g_cmp caps_cmp)) 3 (ae t15.2)) 2 (ae s1.2.2.1)) 1 (ae s1.2.1)) 0 (.own 0 g_data (t19.1.map (al 53 ab)).length),fun _=>none,upd (fun _=>none) 0 (some ⟨g_data,51,(t19.1.map (al 53 ab)),true⟩)⟩) (fun t=>t = fl19) ?_ (fun t19 g19 hn19=>?_)
  ·have H := H19
   refine cZ (tag := 0) rfl (fun ho0=>?_)
   refine bl tk mok ⟨false,true,[]⟩ [0,1,2,3,4,5,6,7,8,9,10,11,12,13,14,15,16] rfl (by decide +kernel) rfl (aJ 3 rfl ?_)
   refine im H (fun H=>?_) (fun H=>?_)
   ·refine aJ 4 rfl ?_
    obtain ⟨x88,k88,H⟩ := aW H
    refine aS tk ⟨k88.1,(bm k88.2)⟩ (bn ho0 k88.2) ?_
    refine bf tk (aH (fun _=>rfl) k88.2) ?_
    refine aJ 2 rfl ?_
    obtain ⟨x92,k92,H⟩ := aW H
    refine aS tk ⟨k92.1,(bm k92.2)⟩ (bn ho0 k92.2) ?_
    refine bf tk (aH (fun _=>rfl) k92.2) ?_
    obtain ⟨x94,h94,H⟩ := ax H
    refine bg hg_cmp (jc.r) (hp_cmp _ _ _ h94) ?_
    refine aJ 3 rfl (be ?_)
    obtain rfl := ao H
    refine aO (t18,(!(decide (x94 < (0 : Int))))) () rfl (Gh.le (aa (aa (aa (aa (aa (aa (aa (aa (aa (aa ak)))))))))) ah (aA ai))
   refine aJ 14 rfl (be ?_)
   obtain rfl := ao H
   refine aO (t18,false) () rfl (Gh.le (aa (aa (aa (aa (aa (aa (aa (aa (aa (aa ak)))))))))) ah (aA ai))
  subst hn19
  have H := Hp19
  refine aP rfl H (fun H=>?_) (fun H=>?_)
  ·refine ac (af (am 5 tk rfl ?_))
   obtain ⟨x103,h103,H⟩ := ax H
   have s103 := kv g_data t19.1 s1.2.1 s1.2.2.1 t16.2.1 cmp hg_cmp hp_cmp _ h103
   obtain ⟨_,q103_0,H⟩ := ax H
   have l103_0 := (bI q103_0).1
   have z103_0 : (List.map (al 53 ab) t19.1).length = (List.map (al 53 ab) x103.2).length := by simpa using (l103_0).symm
   refine cf (g := 120) rfl rfl rfl Tryz.call120 [] [(0,0)] rfl rfl rfl rfl (jc.of2 (iw.cons (np.own rfl) (iw.cons (np.of_eq rfl) (iw.cons (np.of_eq rfl) (iw.cons (np.of_eq rfl) (iw.cons (np.of_eq rfl) iw.nil)))))) (by rw [bR,bL,bS]; rfl) s103 ?_
   rintro u103 H103h ⟨rfl,rfl⟩
   refine ⟨_,rfl,?_⟩
   refine cA (st' := ⟨_,_,fun _=>none,upd (fun _=>none) 0 (some ⟨g_data,51,(x103.2.map (al 53 ab)),true⟩)⟩) (Gh.le (bO _ _) ah (aA ai)) ?_
   refine aq tk rfl (ag (aw 2 tk rfl (aR rfl ?_)))
   obtain rfl := ao H
   refine aK (x103.2,x103.1,s1.2.2.1,t15.2,s1.2.2.2.2.1,s1.2.2.2.2.2) () hg1 (Gh.le (aI (PLe.of2 (np.of_eq (congrArg (PV.own 0 g_data) z103_0))) (aa (aa (aa (aa (aa (aa ak))))))) ah (aA ai))
  refine av (ac (af (am 5 tk rfl ?_)))
  obtain ⟨x111,h111,H⟩ := ax H
  have s111 := lh g_data t19.1 s1.2.1 s1.2.2.1 t16.2.1 cmp hg_cmp hp_cmp _ h111
  obtain ⟨_,q111_0,H⟩ := ax H
  have l111_0 := (bI q111_0).1
  have z111_0 : (List.map (al 53 ab) t19.1).length = (List.map (al 53 ab) x111.2.2).length := by simpa using (l111_0).symm
  refine cf (g := 121) rfl rfl rfl Tryz.call121 [] [(0,0)] rfl rfl rfl rfl (jc.of2 (iw.cons (np.own rfl) (iw.cons (np.of_eq rfl) (iw.cons (np.of_eq rfl) (iw.cons (np.of_eq rfl) (iw.cons (np.of_eq rfl) iw.nil)))))) (by rw [bR,bL,bS]; rfl) s111 ?_
  rintro u111 H111h ⟨rfl,rfl⟩
  refine ⟨_,rfl,?_⟩
  refine cA (st' := ⟨_,_,fun _=>none,upd (fun _=>none) 0 (some ⟨g_data,51,(x111.2.2.map (al 53 ab)),true⟩)⟩) (Gh.le (bO _ _) ah (aA ai)) ?_
  refine am 5 tk rfl (ag (aw 2 tk rfl (aw 8 tk rfl (aw 3 tk rfl (aw 3 tk rfl ?_)))))
  refine aP rfl H (fun H=>?_) (fun H=>?_)
  ·refine aw 4 tk rfl (ac (af (am 5 tk rfl ?_)))
   obtain ⟨x134,h134,H⟩ := ax H
   have s134 := hrec92 g_data x111.2.2 s1.2.1 x111.1 t15.2 _ h134
   obtain ⟨_,q134_0,H⟩ := ax H
   have l134_0 := (bI q134_0).1
   have z134_0 : (List.map (al 53 ab) x111.2.2).length = (List.map (al 53 ab) x134).length := by simpa using (l134_0).symm
   refine cf (g := 92) rfl rfl rfl Tryz.call92 [] [(0,0)] rfl rfl rfl rfl (jc.of2 (iw.cons (np.own z111_0) (iw.cons (np.of_eq rfl) (iw.cons (np.of_eq rfl) (iw.cons (np.of_eq rfl) (iw.cons (np.of_eq rfl) iw.nil)))))) (by rw [bR,bL,bS]; rfl) s134 ?_
   rintro u134 H134h ⟨rfl,rfl⟩
   refine ⟨_,rfl,?_⟩
   refine cA (st' := ⟨_,_,fun _=>none,upd (fun _=>none) 0 (some ⟨g_data,51,(x134.map (al 53 ab)),true⟩)⟩) (Gh.le (bO _ _) ah (aA ai)) ?_
   refine ag (bh 3 tk rfl (aQ ?_))
   obtain rfl := ao H
   refine aK (x134,(i64.wrap (x111.1 + (1 : Int))),s1.2.2.1,t15.2,(decide ((i64.wrap (x111.1 - s1.2.1)) ≥ (i64.wrap (Int.tdiv (i64.wrap (s1.2.2.1 - s1.2.1)) (8 : Int))))),x111.2.1) () hg1 (Gh.le (aI (PLe.of2 (np.of_eq (congrArg (PV.own 0 g_data) (z111_0.trans z134_0)))) (aa (aa (aa (aa (aa (aa ak))))))) ah (aA ai))
  refine aw 4 tk rfl (ac (af (am 6 tk rfl ?_)))
  obtain ⟨x146,h146,H⟩ := ax H
  have s146 := hrec92 g_data x111.2.2 (i64.wrap (x111.1 + (1 : Int))) s1.2.2.1 t15.2 _ h146
  obtain ⟨_,q146_0,H⟩ := ax H
  have l146_0 := (bI q146_0).1
  have z146_0 : (List.map (al 53 ab) x111.2.2).length = (List.map (al 53 ab) x146).length := by simpa using (l146_0).symm
  refine cf (g := 92) rfl rfl rfl Tryz.call92 [] [(0,0)] rfl rfl rfl rfl (jc.of2 (iw.cons (np.own z111_0) (iw.cons (np.of_eq rfl) (iw.cons (np.of_eq rfl) (iw.cons (np.of_eq rfl) (iw.cons (np.of_eq rfl) iw.nil)))))) (by rw [bR,bL,bS]; rfl) s146 ?_
  rintro u146 H146h ⟨rfl,rfl⟩
  refine ⟨_,rfl,?_⟩
  refine cA (st' := ⟨_,_,fun _=>none,upd (fun _=>none) 0 (some ⟨g_data,51,(x146.map (al 53 ab)),true⟩)⟩) (Gh.le (bO _ _) ah (aA ai)) ?_
  refine ag (bh 2 tk rfl (aQ ?_))
  obtain rfl := ao H
  refine aK (x146,s1.2.1,x111.1,t15.2,(decide ((i64.wrap (s1.2.2.1 - x111.1)) ≥ (i64.wrap (Int.tdiv (i64.wrap (s1.2.2.1 - s1.2.1)) (8 : Int))))),x111.2.1) () hg1 (Gh.le (aI (PLe.of2 (np.of_eq (congrArg (PV.own 0 g_data) (z111_0.trans z146_0)))) (aa (aa (aa (aa (aa (aa ak))))))) ah (aA ai))
 have H := ck hn1 Hp1
 obtain rfl := ao H
 refine dN (st' := ⟨148,fun _=>.any,fun _=>none,upd (fun _=>none) 0 (some ⟨g_data,51,(s1.1.map (al 53 ab)),true⟩)⟩) (Gh.le ak ah (aA ai)) ?_
 refine iI rfl (PLe.q rfl) ⟨rfl,rfl⟩
def bT : Nat → Rz → Int → Int → Int → (Rq → Rq → Option (Int)) → Option (Rz)
 | 0,_,_,_,_,_=>none
 | n + 1,v0,v1,v2,v3,v4=>da (fun b0 b1 b2 b3=>bT n b0 b1 b2 b3 v4) v0 v1 v2 v3 v4
theorem lC {g_cmp : FuncId} {caps_cmp : List PV} (cmp : Rq → Rq → Option (Int)) (hg_cmp : ∀ (vs : Array Value) (w : World),(callFunc g_cmp vs).run Tryz.prog w = .ok (.enter g_cmp vs) w) (hp_cmp : ∀ a0 a1 r,cmp a0 a1 = some r → aV Tryz.prog g_cmp ((.list 53 (a0.map ab)) :: (.list 53 (a1.map ab)) :: caps_cmp) (ae r)) (n : Nat) : (∀ g0 a0 a1 a2 a3 r,bT n a0 a1 a2 a3 cmp = some r → PH Tryz.prog 92 [(.own 0 g0 (a0.map (al 53 ab)).length),(ae a1),(ae a2),(ae a3),(.fn g_cmp caps_cmp)] ⟨fun _=>none,upd (fun _=>none) 0 (some ⟨g0,51,(a0.map (al 53 ab)),true⟩)⟩ (fun u H=>u = (.tup []) ∧ H = ⟨fun _=>none,upd (fun _=>none) 0 (some ⟨g0,51,(r.map (al 53 ab)),true⟩)⟩)) := by
 induction n with
 | zero=>exact (by intros; rename_i h; exact absurd (show (none : Option _) = some _ from h) (by simp))
 | succ n ih =>
  exact (fun g0 v0 v1 v2 v3 r h=>ln g0 (fun b0 b1 b2 b3=>bT n b0 b1 b2 b3 cmp) ih v0 v1 v2 v3 cmp hg_cmp hp_cmp r h)
def gO (data : Rz) (a : Int) (b : Int) (limit : Int) (cmp : Rq → Rq → Option (Int)) : Option (Rz) := iQ fun n=>bT n data a b limit cmp
theorem lH (g_data : OwnRef) {g_cmp : FuncId} {caps_cmp : List PV} (data : Rz) (a : Int) (b : Int) (limit : Int) (cmp : Rq → Rq → Option (Int)) (hg_cmp : ∀ (vs : Array Value) (w : World),(callFunc g_cmp vs).run Tryz.prog w = .ok (.enter g_cmp vs) w) (hp_cmp : ∀ a0 a1 r,cmp a0 a1 = some r → aV Tryz.prog g_cmp ((.list 53 (a0.map ab)) :: (.list 53 (a1.map ab)) :: caps_cmp) (ae r)) (r : Rz) (H : gO data a b limit cmp = some r) :
  PH Tryz.prog 92 [(.own 0 g_data (data.map (al 53 ab)).length),(ae a),(ae b),(ae limit),(.fn g_cmp caps_cmp)] ⟨fun _=>none,upd (fun _=>none) 0 (some ⟨g_data,51,(data.map (al 53 ab)),true⟩)⟩ (fun u H=>u = (.tup []) ∧ H = ⟨fun _=>none,upd (fun _=>none) 0 (some ⟨g_data,51,(r.map (al 53 ab)),true⟩)⟩) := by
 obtain ⟨n,h⟩ := jy H
 exact (lC cmp hg_cmp hp_cmp n) g_data data a b limit r h
def hJ (c : LChecker) (q : LQuery) (inA : List (List LCol)) : Option ((List LCol) × Int) :=
 cond (q.kind == (1 : Int))
  (aj (dm c.s.tables (fun a0=>some (eQ a0 q))) fun x25 =>
  cond (decide (x25 < (0 : Int)))
   (some ([],4))
   (aj (aF c.s.tables x25) fun (x32 : LTable) =>
   some (x32.columns,0)))
  (cond (q.kind == (2 : Int))
   (aj (aF inA 0) fun (x39 : List LCol) =>
   aj (aF inA 0) fun (x43 : List LCol) =>
   aj (aF q.exprs 0) fun (x47 : LExpr) =>
   bo (dV c x43 x47) fun x49 =>
   some (x39,x49))
   (bo (
    cond (q.kind == (4 : Int))
     ((q.kind == (4 : Int)))
     ((q.kind == (5 : Int)))) fun (t1 : Bool) =>
   cond t1
    (aj (aF inA 0) fun (x54 : List LCol) =>
    aj (aF inA 1) fun (x58 : List LCol) =>
    aj (ba (σ := List LCol) (ρ := Empty) (fun (_ : Nat) (x2 : LCol) (s2 : List LCol) =>
     cond x2.nullable
      (aj (ee 32 s2 ([(LCol.mk x2.name x2.kind true)] : List LCol)) fun (x76 : List LCol) =>
      some (.next x76))
      (aj (ee 32 s2 ([(LCol.mk x2.name x2.kind (q.kind == (5 : Int)))] : List LCol)) fun (x76 : List LCol) =>
      some (.next x76))) 0 x58 x54) fun fl2=>fl2.thenP fun (s2 : List LCol) =>
    aj (aF q.exprs 0) fun (x83 : LExpr) =>
    bo (dV c s2 x83) fun x85 =>
    some (s2,x85))
    (bo (
     cond (q.kind == (6 : Int))
      ((q.kind == (6 : Int)))
      ((q.kind == (7 : Int)))) fun (t3 : Bool) =>
    cond t3
     (aj (aF inA 0) fun (x92 : List LCol) =>
     aj (aF inA 1) fun (x95 : List LCol) =>
     aj (iq q.kind x92 x95) fun x97 =>
     some (x97.1,x97.2))
     (bo (
      cond (q.kind == (3 : Int))
       ((q.kind == (3 : Int)))
       ((q.kind == (8 : Int)))) fun (t4 : Bool) =>
     cond t4
      (aj (aF inA 0) fun (x106 : List LCol) =>
      aj (eL c q x106) fun x108 =>
      some (x108.1,x108.2))
      (cond (q.kind == (9 : Int))
       (aj (ba (σ := Unit) (ρ := ((List LCol) × Int)) (fun (_ : Nat) (x5 : LExpr) (_ : Unit) =>
        aj (aF inA 0) fun (x122 : List LCol) =>
        bo (dk x122 c.vars x5) fun x127 =>
        cond (x127.2.2 != (0 : Int))
         (some (.ret ([],x127.2.2)))
         (some (.next ()))) 0 q.exprs ()) fun fl5=>fl5.thenR fun (_ : Unit) =>
       aj (aF inA 0) fun (x136 : List LCol) =>
       some (x136,0))
       (aj (aF inA 0) fun (x136 : List LCol) =>
       some (x136,0)))))))
theorem qo (c : LChecker) (q : LQuery) (inA : List (List LCol)) (r : (List LCol) × Int) (H : hJ c q inA = some r) :
  aV Tryz.prog 111 [(.agg (jv c)),(.agg (bD q)),(.list 39 (inA.map (al 50 aG)))] (.tup [(.list 50 (r.1.map aG)),(ae r.2)]) := by
 unfold hJ at H
 refine PH.aC Tryz.func111 Tryz.ntmps111 ?_
 refine ac (af (aT ?_))
 refine aT ?_
 refine am 2 tk rfl (ag (ac (aw 2 tk rfl (az (aw 2 tk rfl ?_)))))
 refine aP rfl H (fun H=>?_) (fun H=>?_)
 ·refine ac (af (am 4 tk rfl ?_))
  obtain ⟨x25,h25,H⟩ := ax H
  have s25 := gV c.s.tables (fun a0=>some (eQ a0 q)) Tryz.call154 (fun a0 r h=>(ao h) ▸ pm a0 q) _ h25
  refine au Tryz.call153 (jc.r) s25 ?_
  refine aq tk rfl (ag (ac (aw 2 tk rfl ?_)))
  refine aP rfl H (fun H=>?_) (fun H=>?_)
  ·refine aw 2 tk rfl ?_
   obtain rfl := ao H
   refine aB tk rfl (ps := [(.val (.slice none 0 0)),(ae 4)]) ⟨_,_,rfl,rfl,_,_,rfl,rfl,rfl⟩ (PLe.of2 (np.tup (iw.cons (np.nil tk rfl) (iw.cons (np.of_eq rfl) iw.nil))))
  refine av (ac (af (am 4 tk rfl ?_)))
  obtain ⟨x32,k32,H⟩ := aW H
  refine bt tk k32.1 (aH (fun _=>rfl) k32.2) ?_
  refine am 2 tk rfl ?_
  have s35 := oG (m := 35) x32.columns
  refine au Tryz.call155 (jc.r) (PFun.jI s35) ?_
  refine am 2 tk rfl (ag ?_)
  obtain rfl := ao H
  refine aB tk rfl (ps := [(.list 50 (x32.columns.map aG)),(ae 0)]) ⟨_,_,rfl,rfl,_,_,rfl,rfl,rfl⟩ (PLe.q rfl)
 refine aw 2 tk rfl ?_
 refine aP rfl H (fun H=>?_) (fun H=>?_)
 ·refine ac (bl tk mok ⟨false,false,[]⟩ [0,1,2,3,4,5,6,7,8,9,10,11,12,13] rfl (by decide +kernel) rfl (cC rfl ?_))
  obtain ⟨x39,k39,H⟩ := aW H
  refine bX k39.1 (aH (fun _=>rfl) k39.2) ?_
  refine aJ 3 rfl ?_
  obtain ⟨x43,k43,H⟩ := aW H
  refine bX k43.1 (aH (fun _=>rfl) k43.2) ?_
  refine aJ 3 rfl ?_
  obtain ⟨x47,k47,H⟩ := aW H
  refine bX k47.1 (aH eF k47.2) ?_
  refine cC rfl ?_
  obtain ⟨x49,h49,H⟩ := bK H
  have s49 := kx c x43 x47
  rw [h49] at s49
  refine bg Tryz.call156 (jc.r) s49 ?_
  refine aJ 2 rfl (be ?_)
  obtain rfl := ao H
  refine aB tk rfl (ps := [(.list 50 (x39.map aG)),(ae x49)]) ⟨_,_,rfl,rfl,_,_,rfl,rfl,rfl⟩ (PLe.q rfl)
 refine ac (aw 2 tk rfl ?_)
 obtain ⟨fl1,H1,Hp1⟩ := bK H
 refine aZ (τ := Bool) (γ := Unit) (fun t1 g1=>⟨138,upd (upd (upd (upd (upd (fun _=>.any) 50 (aE t1)) 18 (ae q.kind)) 4 (.ptr [(ae q.kind),(.str q.table),(.list 9 (q.names.map co)),(.list 56 (q.exprs.map bc)),(.list 66 (q.aggregates.map cl)),(.list 4 (q.descending.map cB)),(ae q.count),(ae q.offset),(.list 35 (q.inputs.map aX))])) 3 (.ptr [(.list 91 (c.s.tables.map bA)),(.list 142 (c.s.foreignKeys.map cD)),(.list 148 (c.s.constraints.map cN)),(.list 50 (c.vars.map aG))])) 2 (.list 39 (inA.map (al 50 aG))),fun _=>none,fun _=>none⟩) (fun t=>t = fl1) ?_ (fun t1 g1 hn1=>?_)
 ·have H := H1
  refine aP rfl H (fun H=>?_) (fun H=>?_)
  ·refine av ?_
   subst H
   refine aO (q.kind == (4 : Int)) () rfl (Gh.le (aa (aa (aa (aa (aa ak))))) ah ai)
  refine bh 2 tk rfl ?_
  subst H
  refine aO (q.kind == (5 : Int)) () rfl (Gh.le (aa (aa (aa (aa (aa ak))))) ah ai)
 subst hn1
 have H := Hp1
 refine aP rfl H (fun H=>?_) (fun H=>?_)
 ·refine ac (af (aq tk rfl ?_))
  obtain ⟨x54,k54,H⟩ := aW H
  refine bt tk k54.1 (aH (fun _=>rfl) k54.2) ?_
  refine aq tk rfl ?_
  have s56 := oG (m := 56) x54
  refine lz (g := 155) rfl rfl rfl Tryz.call155 (jc.r) rfl rfl s56 (fun g56=>?_)
  refine aq tk rfl (ag (ac (ac (af (aq tk rfl ?_)))))
  obtain ⟨x58,k58,H⟩ := aW H
  refine bt tk k58.1 (aH (fun _=>rfl) k58.2) ?_
  refine aq tk rfl (aN tk (zl _) ?_)
  refine aq tk rfl (ag ?_)
  obtain ⟨fl2,H2,Hp2⟩ := ax H
  refine bU tk 59 rfl rfl (fun hz2 _=>?_)
  rw [zl] at hz2
  refine aZ (τ := List LCol) (γ := OwnRef) (fun s2 g2=>⟨138,upd (upd (upd (fun _=>.any) 9 (.own 56 g2 (s2.map aG).length)) 4 (.ptr [(ae q.kind),(.str q.table),(.list 9 (q.names.map co)),(.list 56 (q.exprs.map bc)),(.list 66 (q.aggregates.map cl)),(.list 4 (q.descending.map cB)),(ae q.count),(ae q.offset),(.list 35 (q.inputs.map aX))])) 3 (.ptr [(.list 91 (c.s.tables.map bA)),(.list 142 (c.s.foreignKeys.map cD)),(.list 148 (c.s.constraints.map cN)),(.list 50 (c.vars.map aG))]),fun _=>none,upd (fun _=>none) 56 (some ⟨g2,50,(s2.map aG),true⟩)⟩) (fun t=>fl2 = .next t) ?_ (fun s2 g2 hn2=>?_)
  ·refine az ?_
   refine bF (fun j2 s2 g2=>⟨138,upd (upd (upd (upd (upd (upd (fun _=>.any) 61 (ae (j2 : Int))) 60 (ae (x58.length : Int))) 59 (.list 50 (x58.map aG))) 9 (.own 56 g2 (s2.map aG).length)) 4 (.ptr [(ae q.kind),(.str q.table),(.list 9 (q.names.map co)),(.list 56 (q.exprs.map bc)),(.list 66 (q.aggregates.map cl)),(.list 4 (q.descending.map cB)),(ae q.count),(ae q.offset),(.list 35 (q.inputs.map aX))])) 3 (.ptr [(.list 91 (c.s.tables.map bA)),(.list 142 (c.s.foreignKeys.map cD)),(.list 148 (c.s.constraints.map cN)),(.list 50 (c.vars.map aG))]),fun _=>none,upd (fun _=>none) 56 (some ⟨g2,50,(s2.map aG),true⟩)⟩) g56 H2 (Gh.le (aa (aa (aa (aa (aa (aa ak)))))) ah (aA ai)) (fun j2 s2 g2 hj2 hr2=>?_)
   refine aw 1 tk rfl (ac ?_)
   refine aY rfl (fun h=>?_) (fun h=>?_)
   ·have hl2 := cp h
    obtain ⟨x2,fb2,hx2,H,hg2⟩ := rMc hl2 hr2
    refine av (ac (az (ac (af ?_))))
    refine bt tk (zn j2) (bQ (fun _=>rfl) hx2) ?_
    refine aq tk rfl ?_
    refine bv tk fun b11=>?_
    refine aD tk ?_
    refine ag (ac (af (aq tk rfl (aM tk ?_))))
    refine aq tk rfl ?_
    refine bG rfl rfl rfl H (fun H=>?_) (fun H=>?_)
    ·refine am 5 tk rfl (aD tk ?_)
     refine ag (af (aq tk rfl (aM tk ?_)))
     refine cO tk (rows' := List.map aG ([(LCol.mk x2.name x2.kind true)] : List LCol)) (gk.refl _) ?_
     obtain ⟨x76,h76,H⟩ := ax H
     have k76 := dw h76
     refine dr (rows2' := List.map aG ([(LCol.mk x2.name x2.kind true)] : List LCol)) (rows' := List.map aG x76) tk rfl rfl rfl rfl rfl rfl rfl rfl rfl rfl rfl rfl rfl (gk.refl _) (eK k76.1) (eN k76.2.1) (eR k76.2.2) fun g76=>?_
     refine aq tk rfl (ag (aQ (bh 2 tk rfl ?_)))
     obtain rfl := ao H
     refine aK x76 g76 ⟨hl2,hg2⟩ (Gh.le (aa (aa (aa (aa (aa (aI (PLe.q (aU (by omega))) ak)))))) ah (aA ai))
    refine am 5 tk rfl (aD tk ?_)
    refine ag (af (aq tk rfl (aM tk ?_)))
    refine cO tk (rows' := List.map aG ([(LCol.mk x2.name x2.kind (q.kind == (5 : Int)))] : List LCol)) (gk.refl _) ?_
    obtain ⟨x76,h76,H⟩ := ax H
    have k76 := dw h76
    refine dr (rows2' := List.map aG ([(LCol.mk x2.name x2.kind (q.kind == (5 : Int)))] : List LCol)) (rows' := List.map aG x76) tk rfl rfl rfl rfl rfl rfl rfl rfl rfl rfl rfl rfl rfl (gk.refl _) (eK k76.1) (eN k76.2.1) (eR k76.2.2) fun g76=>?_
    refine aq tk rfl (ag (aQ (bh 2 tk rfl ?_)))
    obtain rfl := ao H
    refine aK x76 g76 ⟨hl2,hg2⟩ (Gh.le (aa (aa (aa (aa (aa (aI (PLe.q (aU (by omega))) ak)))))) ah (aA ai))
   have hn2 := rMd (cq h) hr2
   refine aR rfl ?_
   refine aO s2 g2 hn2 (Gh.le (aa (aa (aa ak))) ah (aA ai))
  have H := bq hn2 Hp2
  refine ac (el 9 rfl rfl rfl (bl tk mok ⟨false,false,[]⟩ [0,1,2,3,4,5,6,7,8,9] rfl (by decide +kernel) rfl (aJ 5 rfl ?_)))
  obtain ⟨x83,k83,H⟩ := aW H
  refine bX k83.1 (aH eF k83.2) ?_
  refine cC rfl ?_
  obtain ⟨x85,h85,H⟩ := bK H
  have s85 := kx c s2 x83
  rw [h85] at s85
  refine bg Tryz.call156 (jc.r) s85 ?_
  refine aJ 2 rfl (be ?_)
  obtain rfl := ao H
  refine aB tk rfl (ps := [(.list 50 (s2.map aG)),(ae x85)]) ⟨_,_,rfl,rfl,_,_,rfl,rfl,rfl⟩ (PLe.q rfl)
 refine ac (aw 2 tk rfl ?_)
 obtain ⟨fl3,H3,Hp3⟩ := bK H
 refine aZ (τ := Bool) (γ := Unit) (fun t3 g3=>⟨138,upd (upd (upd (upd (upd (fun _=>.any) 86 (aE t3)) 18 (ae q.kind)) 4 (.ptr [(ae q.kind),(.str q.table),(.list 9 (q.names.map co)),(.list 56 (q.exprs.map bc)),(.list 66 (q.aggregates.map cl)),(.list 4 (q.descending.map cB)),(ae q.count),(ae q.offset),(.list 35 (q.inputs.map aX))])) 3 (.ptr [(.list 91 (c.s.tables.map bA)),(.list 142 (c.s.foreignKeys.map cD)),(.list 148 (c.s.constraints.map cN)),(.list 50 (c.vars.map aG))])) 2 (.list 39 (inA.map (al 50 aG))),fun _=>none,fun _=>none⟩) (fun t=>t = fl3) ?_ (fun t3 g3 hn3=>?_)
 ·have H := H3
  refine aP rfl H (fun H=>?_) (fun H=>?_)
  ·refine av ?_
   subst H
   refine aO (q.kind == (6 : Int)) () rfl (Gh.le (aa (aa (aa (aa (aa ak))))) ah ai)
  refine bh 2 tk rfl ?_
  subst H
  refine aO (q.kind == (7 : Int)) () rfl (Gh.le (aa (aa (aa (aa (aa ak))))) ah ai)
 subst hn3
 have H := Hp3
 refine aP rfl H (fun H=>?_) (fun H=>?_)
 ·refine ac (bl tk mok ⟨false,false,[]⟩ [0,1,2,3,4,5,6,7,8,9,10,11,12] rfl (by decide +kernel) rfl (aJ 3 rfl ?_))
  obtain ⟨x92,k92,H⟩ := aW H
  refine bX k92.1 (aH (fun _=>rfl) k92.2) ?_
  refine aJ 2 rfl ?_
  obtain ⟨x95,k95,H⟩ := aW H
  refine bX k95.1 (aH (fun _=>rfl) k95.2) ?_
  refine cC rfl ?_
  obtain ⟨x97,h97,H⟩ := ax H
  have s97 := qN q.kind x92 x95 _ h97
  refine bg Tryz.call157 (jc.r) s97 ?_
  refine aJ 4 rfl (be ?_)
  obtain rfl := ao H
  refine aB tk rfl (ps := [(.list 50 (x97.1.map aG)),(ae x97.2)]) ⟨_,_,rfl,rfl,_,_,rfl,rfl,rfl⟩ (PLe.q rfl)
 refine ac (aw 2 tk rfl ?_)
 obtain ⟨fl4,H4,Hp4⟩ := bK H
 refine aZ (τ := Bool) (γ := Unit) (fun t4 g4=>⟨138,upd (upd (upd (upd (upd (fun _=>.any) 100 (aE t4)) 18 (ae q.kind)) 4 (.ptr [(ae q.kind),(.str q.table),(.list 9 (q.names.map co)),(.list 56 (q.exprs.map bc)),(.list 66 (q.aggregates.map cl)),(.list 4 (q.descending.map cB)),(ae q.count),(ae q.offset),(.list 35 (q.inputs.map aX))])) 3 (.ptr [(.list 91 (c.s.tables.map bA)),(.list 142 (c.s.foreignKeys.map cD)),(.list 148 (c.s.constraints.map cN)),(.list 50 (c.vars.map aG))])) 2 (.list 39 (inA.map (al 50 aG))),fun _=>none,fun _=>none⟩) (fun t=>t = fl4) ?_ (fun t4 g4 hn4=>?_)
 ·have H := H4
  refine aP rfl H (fun H=>?_) (fun H=>?_)
  ·refine av ?_
   subst H
   refine aO (q.kind == (3 : Int)) () rfl (Gh.le (aa (aa (aa (aa (aa ak))))) ah ai)
  refine bh 2 tk rfl ?_
  subst H
  refine aO (q.kind == (8 : Int)) () rfl (Gh.le (aa (aa (aa (aa (aa ak))))) ah ai)
 subst hn4
 have H := Hp4
 refine aP rfl H (fun H=>?_) (fun H=>?_)
 ·refine ac (bl tk mok ⟨false,false,[]⟩ [0,1,2,3,4,5,6,7,8,9] rfl (by decide +kernel) rfl (aJ 3 rfl ?_))
  obtain ⟨x106,k106,H⟩ := aW H
  refine bX k106.1 (aH (fun _=>rfl) k106.2) ?_
  refine cC rfl ?_
  obtain ⟨x108,h108,H⟩ := ax H
  have s108 := mA c q x106 _ h108
  refine bg Tryz.call158 (jc.r) s108 ?_
  refine aJ 4 rfl (be ?_)
  obtain rfl := ao H
  refine aB tk rfl (ps := [(.list 50 (x108.1.map aG)),(ae x108.2)]) ⟨_,_,rfl,rfl,_,_,rfl,rfl,rfl⟩ (PLe.q rfl)
 refine aw 2 tk rfl ?_
 refine aP rfl H (fun H=>?_) (fun H=>?_)
 ·refine ac (af (am 2 tk rfl (aN tk (zl _) ?_)))
  refine aq tk rfl (ag ?_)
  obtain ⟨fl5,H5,Hp5⟩ := ax H
  refine bU tk 114 rfl rfl (fun hz5 _=>?_)
  rw [zl] at hz5
  refine aZ (τ := Unit) (γ := Unit) (fun s5 g5=>⟨138,upd (fun _=>.any) 2 (.list 39 (inA.map (al 50 aG))),fun _=>none,fun _=>none⟩) (fun t=>fl5 = .next t) ?_ (fun s5 g5 hn5=>?_)
  ·refine az ?_
   refine bF (fun j5 s5 g5=>⟨138,upd (upd (upd (upd (upd (fun _=>.any) 116 (ae (j5 : Int))) 115 (ae (q.exprs.length : Int))) 114 (.list 56 (q.exprs.map bc))) 3 (.ptr [(.list 91 (c.s.tables.map bA)),(.list 142 (c.s.foreignKeys.map cD)),(.list 148 (c.s.constraints.map cN)),(.list 50 (c.vars.map aG))])) 2 (.list 39 (inA.map (al 50 aG))),fun _=>none,fun _=>none⟩) () H5 (Gh.le (aa (aa (aa (aa (aa ak))))) ah ai) (fun j5 s5 g5 hj5 hr5=>?_)
   refine aw 1 tk rfl (ac ?_)
   refine aY rfl (fun h=>?_) (fun h=>?_)
   ·have hl5 := cp h
    obtain ⟨x5,fb5,hx5,H,hg5⟩ := rMc hl5 hr5
    refine av (ac (az (ac (af (bt tk (zn j5) (bQ eF hx5) ?_)))))
    refine aq tk rfl ?_
    refine bv tk fun b13=>?_
    refine aD tk ?_
    refine ag (ac (bl tk mok ⟨true,false,[123,125]⟩ [0,1,2,3,4,5,6,7,8,9,10,11,12,13] rfl (by decide +kernel) rfl (cC rfl ?_)))
    obtain ⟨x122,k122,H⟩ := aW H
    refine bX k122.1 (aH (fun _=>rfl) k122.2) ?_
    refine aJ 3 rfl (cM ?_)
    obtain ⟨x127,h127,H⟩ := bK H
    have s127 := mO x122 c.vars x5
    rw [h127] at s127
    refine bg Tryz.call159 (jc.r) s127 ?_
    refine aJ 7 rfl (be (aw 2 tk rfl ?_))
    refine aP rfl H (fun H=>?_) (fun H=>?_)
    ·refine aw 3 tk rfl ?_
     obtain rfl := ao H
     have e5 : fl5 = .ret _ := hg5
     subst e5
     obtain rfl := bj Hp5
     refine aB tk rfl (ps := [(.val (.slice none 0 0)),(ae x127.2.2)]) ⟨_,_,rfl,rfl,_,_,rfl,rfl,rfl⟩ (PLe.of2 (np.tup (iw.cons (np.nil tk rfl) (iw.cons (np.of_eq rfl) iw.nil))))
    refine av (aQ (bh 2 tk rfl ?_))
    obtain rfl := ao H
    refine aK () () ⟨hl5,hg5⟩ (Gh.le (aa (aa (aa (aa (aI (PLe.q (aU (by omega))) ak))))) ah ai)
   have hn5 := rMd (cq h) hr5
   refine aR rfl ?_
   refine aO s5 g5 hn5 (Gh.le (aa ak) ah ai)
  have H := ck hn5 Hp5
  refine aQ (ac (af (aq tk rfl ?_)))
  obtain ⟨x136,k136,H⟩ := aW H
  refine bt tk k136.1 (aH (fun _=>rfl) k136.2) ?_
  refine am 3 tk rfl (ag ?_)
  obtain rfl := ao H
  refine aB tk rfl (ps := [(.list 50 (x136.map aG)),(ae 0)]) ⟨_,_,rfl,rfl,_,_,rfl,rfl,rfl⟩ (PLe.q rfl)
 refine av (aQ (ac (af (aq tk rfl ?_))))
 obtain ⟨x136,k136,H⟩ := aW H
 refine bt tk k136.1 (aH (fun _=>rfl) k136.2) ?_
 refine am 3 tk rfl (ag ?_)
 obtain rfl := ao H
 refine aB tk rfl (ps := [(.list 50 (x136.map aG)),(ae 0)]) ⟨_,_,rfl,rfl,_,_,rfl,rfl,rfl⟩ (PLe.q rfl)
def iH (rA : LRun) (q : LQuery) (cols : List LCol) (inA : Rz) : Option (Rz) :=
 bo (
  cond ((q.exprs.length : Int) == (0 : Int))
   (([[]],[[]]))
   (([],[]))) fun (t1 : Rz × List Rz) =>
 aj (ba (σ := Rz × List Rz) (ρ := Empty) (fun (_ : Nat) (x2 : Rq) (s2 : Rz × List Rz) =>
  aj (dU rA cols x2 q.exprs) fun x38 =>
  aj (cd s2.1 (fun a0=>gp a0 x38)) fun x41 =>
  aj (cF (x41.2.length = s2.1.length) ()) fun (_ : Unit) =>
  aj (
   cond (decide (x41.1 < (0 : Int)))
    (aj (ee 24 x41.2 ([x38] : Rz)) fun (x49 : Rz) =>
    aj (ee 24 s2.2 ([[]] : List Rz)) fun (x52 : List Rz) =>
    some (x49,x52,(x41.2.length : Int)))
    (some (x41.2,s2.2,x41.1))) fun (t7 : Rz × List Rz × Int) =>
  aj (aF t7.2.1 t7.2.2) fun (x57 : Rz) =>
  aj (ee 24 x57 ([x2] : Rz)) fun (x61 : Rz) =>
  aj (aF t7.2.1 t7.2.2) fun (_ : Rz) =>
  bo (t7.2.1.set t7.2.2.toNat x61) fun (y8 : List Rz) =>
  some (.next (t7.1,y8))) 0 inA (t1.1,t1.2)) fun fl2=>fl2.thenP fun (s2 : Rz × List Rz) =>
 aj (cF (s2.2.length * 24 ≤ 2 ^ 47) ()) fun (_ : Unit) =>
 aj (oy (s2.1.length : Int)) fun (n10 : Nat) =>
 aj (ba (σ := Rz) (ρ := Empty) (fun (j10 : Nat) (_ : Nat) (s10 : Rz) =>
  aj (aF s2.1 (j10 : Int)) fun (x69 : Rq) =>
  aj (ba (σ := Rq) (ρ := Empty) (fun (_ : Nat) (x13 : LAggregateCall) (s13 : Rq) =>
   aj (aF s2.2 (j10 : Int)) fun (x86 : Rz) =>
   aj (jB rA x13 cols x86) fun x88 =>
   aj (ee 32 s13 ([x88] : Rq)) fun (x90 : Rq) =>
   some (.next x90)) 0 q.aggregates x69) fun fl13=>fl13.thenP fun (s13 : Rq) =>
  aj (ee 24 s10 ([s13] : Rz)) fun (x95 : Rz) =>
  some (.next x95)) 0 (List.range n10) []) fun fl10=>fl10.thenP fun (s10 : Rz) =>
 some s10
theorem rf (rA : LRun) (q : LQuery) (cols : List LCol) (inA : Rz) (r : Rz) (H : iH rA q cols inA = some r) :
  aV Tryz.prog 141 [(.agg (it rA)),(.agg (bD q)),(.list 50 (cols.map aG)),(.list 51 (inA.map (al 53 ab)))] (.list 51 (r.map (al 53 ab))) := by
 unfold iH at H
 refine PH.aC Tryz.func141 Tryz.ntmps141 ?_
 refine ac (af (aT ?_))
 refine aT ?_
 refine aq tk rfl (ag (aw 1 tk rfl (aw 1 tk rfl (ac (ac (af (am 2 tk rfl (aN tk (zl _) ?_))))))))
 refine aq tk rfl (ag ?_)
 obtain ⟨fl1,H1,Hp1⟩ := bK H
 refine aZ (τ := Rz × List Rz) (γ := OwnRef × (Nat × Nat × (Nat → OwnRef))) (fun t1 g1=>⟨98,upd (upd (upd (upd (upd (upd (fun _=>.any) 10 (.val (iP g1.2.1 t1.2.length g1.2.2.1))) 9 (.own 25 g1.1 (t1.1.map (al 53 ab)).length)) 5 (.ptr [(ae q.kind),(.str q.table),(.list 9 (q.names.map co)),(.list 56 (q.exprs.map bc)),(.list 66 (q.aggregates.map cl)),(.list 4 (q.descending.map cB)),(ae q.count),(ae q.offset),(.list 35 (q.inputs.map aX))])) 4 (.ptr [(.list 91 (rA.s.tables.map bA)),(.list 142 (rA.s.foreignKeys.map cD)),(.list 148 (rA.s.constraints.map cN)),(.list 87 (rA.st.map bV)),(.list 53 (rA.args.map ab)),(.list 50 (rA.vars.map aG)),(.list 9 (rA.names.map co)),(.list 53 (rA.vals.map ab))])) 3 (.list 51 (inA.map (al 53 ab)))) 2 (.list 50 (cols.map aG)),upd (fun _=>none) 990 (iC g1.2.1 g1.2.2.2 (List.map (List.map (al 53 ab)) t1.2) g1.2.2.1),eO 51 g1.2.2.2 (List.map (List.map (al 53 ab)) t1.2) (upd (fun _=>none) 25 (some ⟨g1.1,51,(t1.1.map (al 53 ab)),true⟩))⟩) (fun t=>t = fl1) ?_ (fun t1 g1 hn1=>?_)
 ·have H := H1
  refine aP rfl H (fun H=>?_) (fun H=>?_)
  ·refine af ?_
   refine pr (rows' := List.map (al 53 ab) ([[]] : Rz)) tk rfl rfl rfl rfl rfl rfl rfl rfl rfl (iw.cons (np.nil tk rfl) iw.nil) fun g25=>?_
   refine su 990 51 tk rfl rfl rfl rfl rfl rfl rfl rfl fun bf26 cf26=>?_
   refine am 2 tk rfl (ag ?_)
   subst H
   refine aO ([[]],[[]]) (g25,(bf26,cf26,(fun _=>⟨none,0⟩))) rfl (Gh.le (aa (aa (aa (aa (aa (aa ak)))))) (kp rfl ah) (jU (fun i rs h=>by first | exact eH h | (simp only [lE,gM,gW,Nat.reduceLT]; exact eH h)) (aA ai)))
  refine av ?_
  subst H
  refine jb tk 9 25 (e := 51) rfl rfl ?_
  refine aO ([],[]) (⟨none,0⟩,(0,0,fun _=>⟨none,0⟩)) rfl (Gh.le (aa (aa (aa (aa (aa (aa ak)))))) (sq ah) (ss (aA ai)))
 subst hn1
 have H := Hp1
 refine ac (ac (af (aq tk rfl (aN tk (zl _) ?_))))
 refine aq tk rfl (ag ?_)
 obtain ⟨fl2,H2,Hp2⟩ := ax H
 refine bU tk 27 rfl rfl (fun hz2 _=>?_)
 rw [zl] at hz2
 refine aZ (τ := Rz × List Rz) (γ := OwnRef × (Nat × Nat × (Nat → OwnRef))) (fun s2 g2=>⟨98,upd (upd (upd (upd (upd (fun _=>.any) 10 (.val (iP g2.2.1 s2.2.length g2.2.2.1))) 9 (.own 25 g2.1 (s2.1.map (al 53 ab)).length)) 5 (.ptr [(ae q.kind),(.str q.table),(.list 9 (q.names.map co)),(.list 56 (q.exprs.map bc)),(.list 66 (q.aggregates.map cl)),(.list 4 (q.descending.map cB)),(ae q.count),(ae q.offset),(.list 35 (q.inputs.map aX))])) 4 (.ptr [(.list 91 (rA.s.tables.map bA)),(.list 142 (rA.s.foreignKeys.map cD)),(.list 148 (rA.s.constraints.map cN)),(.list 87 (rA.st.map bV)),(.list 53 (rA.args.map ab)),(.list 50 (rA.vars.map aG)),(.list 9 (rA.names.map co)),(.list 53 (rA.vals.map ab))])) 2 (.list 50 (cols.map aG)),upd (fun _=>none) 990 (iC g2.2.1 g2.2.2.2 (List.map (List.map (al 53 ab)) s2.2) g2.2.2.1),eO 51 g2.2.2.2 (List.map (List.map (al 53 ab)) s2.2) (upd (fun _=>none) 25 (some ⟨g2.1,51,(s2.1.map (al 53 ab)),true⟩))⟩) (fun t=>fl2 = .next t) ?_ (fun s2 g2 hn2=>?_)
 ·refine az ?_
  refine bF (fun j2 s2 g2=>⟨98,upd (upd (upd (upd (upd (upd (upd (upd (fun _=>.any) 29 (ae (j2 : Int))) 28 (ae (inA.length : Int))) 27 (.list 51 (inA.map (al 53 ab)))) 10 (.val (iP g2.2.1 s2.2.length g2.2.2.1))) 9 (.own 25 g2.1 (s2.1.map (al 53 ab)).length)) 5 (.ptr [(ae q.kind),(.str q.table),(.list 9 (q.names.map co)),(.list 56 (q.exprs.map bc)),(.list 66 (q.aggregates.map cl)),(.list 4 (q.descending.map cB)),(ae q.count),(ae q.offset),(.list 35 (q.inputs.map aX))])) 4 (.ptr [(.list 91 (rA.s.tables.map bA)),(.list 142 (rA.s.foreignKeys.map cD)),(.list 148 (rA.s.constraints.map cN)),(.list 87 (rA.st.map bV)),(.list 53 (rA.args.map ab)),(.list 50 (rA.vars.map aG)),(.list 9 (rA.names.map co)),(.list 53 (rA.vals.map ab))])) 2 (.list 50 (cols.map aG)),upd (fun _=>none) 990 (iC g2.2.1 g2.2.2.2 (List.map (List.map (al 53 ab)) s2.2) g2.2.2.1),eO 51 g2.2.2.2 (List.map (List.map (al 53 ab)) s2.2) (upd (fun _=>none) 25 (some ⟨g2.1,51,(s2.1.map (al 53 ab)),true⟩))⟩) (g1.1,(g1.2.1,g1.2.2.1,g1.2.2.2)) H2 (Gh.le (aa (aa (aa (aa (aa (aa (aa (aa ak)))))))) (kp rfl ah) (jU (fun i rs h=>by first | exact eH h | (simp only [lE,gM,gW,Nat.reduceLT]; exact eH h)) (aA ai))) (fun j2 s2 g2 hj2 hr2=>?_)
  refine aw 1 tk rfl (ac ?_)
  refine aY rfl (fun h=>?_) (fun h=>?_)
  ·have hl2 := cp h
   obtain ⟨x2,fb2,hx2,H,hg2⟩ := rMc hl2 hr2
   refine av (ac (az (ac (af ?_))))
   refine bt tk (zn j2) (bQ (fun _=>rfl) hx2) ?_
   refine am 2 tk rfl (ag (ac (af (am 5 tk rfl ?_))))
   obtain ⟨x38,h38,H⟩ := ax H
   have s38 := jR rA cols x2 q.exprs _ h38
   refine au Tryz.call140 (jc.r) s38 ?_
   refine bv tk fun b13=>?_
   refine aD tk ?_
   refine ag (ac (af (aq tk rfl (cA (Gh.freezeB 13 rfl rfl rfl rfl) (aq tk rfl ?_)))))
   obtain ⟨x41,h41,H⟩ := ax H
   have s41 := fM g2.1 s2.1 (fun a0=>gp a0 x38) Tryz.call172 (fun a0 r h=>qr a0 x38 r h) _ h41
   obtain ⟨_,q41_0,H⟩ := ax H
   have l41_0 := (bI q41_0).1
   have z41_0 : (List.map (al 53 ab) s2.1).length = (List.map (al 53 ab) x41.2).length := by simpa using (l41_0).symm
   refine cf (g := 22) rfl rfl rfl Tryz.call22 [] [(25,0)] rfl rfl rfl rfl (jc.of2 (iw.cons (np.own rfl) (iw.cons (np.of_eq rfl) iw.nil))) (by rw [bR,bL,bS]; rfl) s41 ?_
   rintro u41 H41h ⟨rfl,rfl⟩
   refine ⟨_,rfl,?_⟩
   refine cA (st' := ⟨_,_,upd (fun _=>none) 990 (iC g2.2.1 g2.2.2.2 (List.map (List.map (al 53 ab)) s2.2) g2.2.2.1),eO 51 g2.2.2.2 (List.map (List.map (al 53 ab)) s2.2) (upd (fun _=>none) 25 (some ⟨g2.1,51,(x41.2.map (al 53 ab)),true⟩))⟩) (Gh.le (bO _ _) (kp rfl ah) (jU (fun i rs h=>by first | exact eH h | (simp only [gM,gW,Nat.reduceLT]; exact eH h)) (aA ai))) ?_
   refine aq tk rfl (ag (ac (aw 2 tk rfl ?_)))
   obtain ⟨fl7,H7,Hp7⟩ := ax H
   refine aZ (τ := Rz × List Rz × Int) (γ := OwnRef × (Nat × Nat × (Nat → OwnRef))) (fun t7 g7=>⟨98,upd (upd (upd (upd (upd (upd (upd (upd (upd (upd (fun _=>.any) 29 (ae (j2 : Int))) 28 (ae (inA.length : Int))) 27 (.list 51 (inA.map (al 53 ab)))) 14 (ae t7.2.2)) 12 (.list 53 (x2.map ab))) 10 (.val (iP g7.2.1 t7.2.1.length g7.2.2.1))) 9 (.own 25 g7.1 (t7.1.map (al 53 ab)).length)) 5 (.ptr [(ae q.kind),(.str q.table),(.list 9 (q.names.map co)),(.list 56 (q.exprs.map bc)),(.list 66 (q.aggregates.map cl)),(.list 4 (q.descending.map cB)),(ae q.count),(ae q.offset),(.list 35 (q.inputs.map aX))])) 4 (.ptr [(.list 91 (rA.s.tables.map bA)),(.list 142 (rA.s.foreignKeys.map cD)),(.list 148 (rA.s.constraints.map cN)),(.list 87 (rA.st.map bV)),(.list 53 (rA.args.map ab)),(.list 50 (rA.vars.map aG)),(.list 9 (rA.names.map co)),(.list 53 (rA.vals.map ab))])) 2 (.list 50 (cols.map aG)),upd (fun _=>none) 990 (iC g7.2.1 g7.2.2.2 (List.map (List.map (al 53 ab)) t7.2.1) g7.2.2.1),eO 51 g7.2.2.2 (List.map (List.map (al 53 ab)) t7.2.1) (upd (fun _=>none) 25 (some ⟨g7.1,51,(t7.1.map (al 53 ab)),true⟩))⟩) (fun t=>t = fl7) ?_ (fun t7 g7 hn7=>?_)
   ·have H := H7
    refine aP rfl H (fun H=>?_) (fun H=>?_)
    ·refine ac (af (aq tk rfl (jG tk (z41_0.trans (zl _)) ?_)))
     refine aq tk rfl (ag (af (am 2 tk rfl (cO tk (rows' := List.map (al 53 ab) ([x38] : Rz)) (gk.refl _) ?_))))
     obtain ⟨x49,h49,H⟩ := ax H
     have k49 := dw h49
     refine dr (rows2' := List.map (al 53 ab) ([x38] : Rz)) (rows' := List.map (al 53 ab) x49) tk rfl rfl rfl rfl rfl rfl rfl rfl rfl rfl rfl z41_0 rfl (gk.refl _) (eK k49.1) (eN k49.2.1) (eR k49.2.2) fun g49=>?_
     refine aq tk rfl (qH tk rfl rfl rfl rfl rfl rfl ?_)
     obtain ⟨x52,h52,H⟩ := ax H
     have k52 := dw h52
     refine cA (st' := ⟨_,_,upd (fun _=>none) 990 (iC g2.2.1 g2.2.2.2 (List.map (List.map (al 53 ab)) s2.2) g2.2.2.1),eO 51 g2.2.2.2 (List.map (List.map (al 53 ab)) s2.2) (upd (fun _=>none) 25 (some ⟨g49,51,(x49.map (al 53 ab)),true⟩))⟩) (Gh.le (bO _ _) (kp rfl ah) (jU (fun i rs h=>by first | exact eH h | (simp only [lE,Nat.reduceLT]; exact eH h)) (aA ai))) ?_
     refine sD 990 51 tk rfl rfl rfl rfl rfl rfl rfl rfl rfl rfl rfl (zl _).symm rfl rfl (by rw [zl]; exact k52.1) (by rw [zl]; exact k52.2.1) fun bf52 cf52=>?_
     have hz52 : List.map (List.map (al 53 ab)) x52 = List.map (List.map (al 53 ab)) s2.2 ++ [[]] := by rw [k52.2.2,List.map_append]; rfl
     refine cA (st' := ⟨_,_,upd (fun _=>none) 990 (iC bf52 (upd g2.2.2.2 s2.2.length ⟨none,0⟩) (List.map (List.map (al 53 ab)) x52) cf52),eO 51 (upd g2.2.2.2 s2.2.length ⟨none,0⟩) (List.map (List.map (al 53 ab)) x52) (upd (fun _=>none) 25 (some ⟨g49,51,(x49.map (al 53 ab)),true⟩))⟩) (Gh.le (bO _ _) (kp (by rw [hz52]; rfl) ah) (jU (fun i rs h=>by rw [hz52] at h; exact eH h) (aA ai))) ?_
     refine lF 52 (q := (.val (iP bf52 x52.length cf52))) rfl (PLe.q (by rw [k52.2.2,List.length_append]; rfl)) ?_
     refine am 2 tk rfl (ag ?_)
     obtain rfl := ao H
     refine aO (x49,x52,(x41.2.length : Int)) (g49,(bf52,cf52,(upd g2.2.2.2 s2.2.length ⟨none,0⟩))) rfl (Gh.le (aa (aa (aa (aa (aa (aa (aa (aa (aa (aa ak)))))))))) (kp rfl ah) (jU (fun i rs h=>by first | exact eH h | (simp only [lE,gM,gW,Nat.reduceLT]; exact eH h)) (aA ai)))
    refine av ?_
    obtain rfl := ao H
    refine aO (x41.2,s2.2,x41.1) (g2.1,(g2.2.1,g2.2.2.1,g2.2.2.2)) rfl (Gh.le (aa (aa (aa (aI (PLe.of2 (np.of_eq (congrArg (PV.own 25 g2.1) z41_0))) (aa (aa (aa (aa (aa (aa ak)))))))))) (kp rfl ah) (jU (fun i rs h=>by first | exact eH h | (simp only [lE,gM,gW,Nat.reduceLT]; exact eH h)) (aA ai)))
   subst hn7
   have H := Hp7
   refine af (am 4 tk rfl ?_)
   obtain ⟨x57,k57,H⟩ := aW H
   have wk57 : (List.map (List.map (al 53 ab)) t7.2.1)[t7.2.2.toNat]? = some (List.map (al 53 ab) x57) := by rw [List.getElem?_map,k57.2]; rfl
   refine sc 990 tk rfl rfl rfl rfl rfl rfl rfl rfl ⟨k57.1,(zg.1 k57.2).1⟩ rfl ?_
   refine sL tk rfl rfl rfl rfl rfl (qR wk57) (famCells_get wk57) rfl (aq tk rfl (cO tk (rows' := List.map (al 53 ab) ([x2] : Rz)) (gk.refl _) ?_))
   obtain ⟨x61,h61,H⟩ := ax H
   have k61 := dw h61
   refine dr (rows2' := List.map (al 53 ab) ([x2] : Rz)) (rows' := List.map (al 53 ab) x61) tk rfl rfl rfl rfl rfl rfl rfl rfl rfl rfl (eH wk57) rfl rfl (gk.refl _) (eK k61.1) (eN k61.2.1) (eR k61.2.2) fun g61=>?_
   obtain ⟨x62,k62,H⟩ := aW H
   have wk62 : (List.map (List.map (al 53 ab)) t7.2.1)[t7.2.2.toNat]? = some (List.map (al 53 ab) x62) := by rw [List.getElem?_map,k62.2]; rfl
   refine sc 990 tk rfl rfl rfl rfl rfl rfl rfl rfl ⟨k62.1,(zg.1 k62.2).1⟩ rfl ?_
   obtain ⟨y8,hy8,H⟩ := bK H
   have hzy8 : List.map (List.map (al 53 ab)) y8 = (List.map (List.map (al 53 ab)) t7.2.1).set t7.2.2.toNat (List.map (al 53 ab) x61) := by rw [← hy8,List.map_set]
   have hly8 : y8.length = t7.2.1.length := by rw [← hy8,List.length_set]
   refine sE tk rfl rfl rfl rfl rfl rfl (qR wk62) rfl rfl (by rw [ow]; exact Nat.lt_of_lt_of_le (zg.1 wk62).1 (jx _ _)) (famCells_set wk62 _) ?_
   refine cA (st' := ⟨_,_,upd (fun _=>none) 990 (iC g7.2.1 (upd g7.2.2.2 t7.2.2.toNat g61) (List.map (List.map (al 53 ab)) y8) g7.2.2.1),eO 51 (upd g7.2.2.2 t7.2.2.toNat g61) (List.map (List.map (al 53 ab)) y8) (upd (fun _=>none) 25 (some ⟨g7.1,51,(t7.1.map (al 53 ab)),true⟩))⟩) (Gh.le (bO _ _) (kp (famB_put wk62 hzy8) ah) (jU (famO_put wk62 hzy8) (sI (by rw [fJ _ _ (by unfold bP; omega)]; rfl) ai))) ?_
   refine lF 10 (q := (.val (iP g7.2.1 y8.length g7.2.2.1))) rfl (PLe.q (by rw [hly8]; rfl)) ?_
   refine lF 53 (q := (.val (iP g7.2.1 y8.length g7.2.2.1))) rfl (PLe.q (by rw [hly8]; rfl)) ?_
   refine lF 55 (q := (.val (iP g7.2.1 y8.length g7.2.2.1))) rfl (PLe.q (by rw [hly8]; rfl)) ?_
   refine ag (aQ (bh 2 tk rfl ?_))
   obtain rfl := ao H
   refine aK (t7.1,y8) (g7.1,(g7.2.1,g7.2.2.1,(upd g7.2.2.2 t7.2.2.toNat g61))) ⟨hl2,hg2⟩ (Gh.le (aa (aa (aa (aa (aa (aa (aa (aI (PLe.q (aU (by omega))) ak)))))))) (kp rfl ah) (jU (fun i rs h=>by first | exact eH h | (simp only [lE,gM,gW,Nat.reduceLT]; exact eH h)) (aA ai)))
  have hn2 := rMd (cq h) hr2
  refine aR rfl ?_
  refine aO s2 g2 hn2 (Gh.le (aa (aa (aa (aa (aa ak))))) (kp rfl ah) (jU (fun i rs h=>by first | exact eH h | (simp only [lE,gM,gW,Nat.reduceLT]; exact eH h)) (aA ai)))
 have H := bq hn2 Hp2
 refine aw 1 tk rfl (ac (ac (af (aq tk rfl (jG tk (zl _) ?_)))))
 refine aq tk rfl (ag ?_)
 obtain ⟨_,hf9,H⟩ := ax H
 have kf9 := (bI hf9).1
 refine sj 10 990 tk (e := 51) (e' := 40) (rows := List.map (al 51 (al 53 ab)) s2.2) rfl rfl rfl (zl _).symm rfl (by rw [zl]; exact kf9) (by rw [zl]; unfold maxLen; omega) (by rw [List.map_map]; rfl) ?_
 obtain ⟨n10,hs10,H⟩ := ax H
 have hz10 := pl hs10
 obtain ⟨fl10,H10,Hp10⟩ := ax H
 refine aZ (τ := Rz) (γ := OwnRef) (fun s10 g10=>⟨98,upd (fun _=>.any) 15 (.own 95 g10 (s10.map (al 53 ab)).length),fun _=>none,upd (fun _=>none) 95 (some ⟨g10,51,(s10.map (al 53 ab)),true⟩)⟩) (fun t=>fl10 = .next t) ?_ (fun s10 g10 hn10=>?_)
 ·refine az (jb tk 15 95 (e := 51) rfl rfl ?_)
  refine bF (fun j10 s10 g10=>⟨98,upd (upd (upd (upd (upd (upd (upd (upd (fun _=>.any) 66 (ae (j10 : Int))) 65 (ae (s2.1.length : Int))) 64 (.own 25 g2.1 (s2.1.map (al 53 ab)).length)) 15 (.own 95 g10 (s10.map (al 53 ab)).length)) 10 (.list 40 (s2.2.map (al 51 (al 53 ab))))) 5 (.ptr [(ae q.kind),(.str q.table),(.list 9 (q.names.map co)),(.list 56 (q.exprs.map bc)),(.list 66 (q.aggregates.map cl)),(.list 4 (q.descending.map cB)),(ae q.count),(ae q.offset),(.list 35 (q.inputs.map aX))])) 4 (.ptr [(.list 91 (rA.s.tables.map bA)),(.list 142 (rA.s.foreignKeys.map cD)),(.list 148 (rA.s.constraints.map cN)),(.list 87 (rA.st.map bV)),(.list 53 (rA.args.map ab)),(.list 50 (rA.vars.map aG)),(.list 9 (rA.names.map co)),(.list 53 (rA.vals.map ab))])) 2 (.list 50 (cols.map aG)),fun _=>none,upd (upd (fun _=>none) 95 (some ⟨g10,51,(s10.map (al 53 ab)),true⟩)) 25 (some ⟨g2.1,51,(s2.1.map (al 53 ab)),true⟩)⟩) (⟨none,0⟩) H10 (Gh.le (aa (aa (aa (aa (aa (aa (aa (aa ak)))))))) ah (aA (aA ai))) (fun j10 s10 g10 hj10 hr10=>?_)
  refine aw 1 tk rfl (ac ?_)
  refine aY rfl (fun h=>?_) (fun h=>?_)
  ·have hl10 := natLt hz10 h
   obtain ⟨x10,fb10,hx10,H,hg10⟩ := rMc hl10 hr10
   obtain rfl := natX hx10
   refine av (ac (az (ac (af (aq tk rfl ?_)))))
   obtain ⟨x69,k69,H⟩ := aW H
   refine mI (tag := 25) rfl (fun ho25=>?_)
   refine mr tk rfl rfl rfl rfl rfl rfl rfl ⟨k69.1,(bm k69.2)⟩ (bn ho25 k69.2) rfl ?_
   refine rH tk rfl rfl rfl rfl rfl rfl rfl (aH (fun _=>rfl) k69.2) rfl rfl ?_
   refine am 2 tk rfl (ag (ac (af (aq tk rfl ?_))))
   have s72 := clone_94 (m := 72) x69
   refine lz (g := 94) rfl rfl rfl Tryz.call94 (jc.r) rfl rfl s72 (fun g72=>?_)
   refine aq tk rfl (ag (ac (ac (af (am 2 tk rfl (aN tk (zl _) ?_))))))
   refine aq tk rfl (ag ?_)
   obtain ⟨fl13,H13,Hp13⟩ := ax H
   refine bU tk 74 rfl rfl (fun hz13 _=>?_)
   rw [zl] at hz13
   refine aZ (τ := Rq) (γ := OwnRef) (fun s13 g13=>⟨98,upd (upd (upd (upd (upd (upd (upd (upd (upd (fun _=>.any) 66 (ae (j10 : Int))) 65 (ae (s2.1.length : Int))) 64 (.own 25 g2.1 (s2.1.map (al 53 ab)).length)) 18 (.own 72 g13 (s13.map ab).length)) 15 (.own 95 g10 (s10.map (al 53 ab)).length)) 10 (.list 40 (s2.2.map (al 51 (al 53 ab))))) 5 (.ptr [(ae q.kind),(.str q.table),(.list 9 (q.names.map co)),(.list 56 (q.exprs.map bc)),(.list 66 (q.aggregates.map cl)),(.list 4 (q.descending.map cB)),(ae q.count),(ae q.offset),(.list 35 (q.inputs.map aX))])) 4 (.ptr [(.list 91 (rA.s.tables.map bA)),(.list 142 (rA.s.foreignKeys.map cD)),(.list 148 (rA.s.constraints.map cN)),(.list 87 (rA.st.map bV)),(.list 53 (rA.args.map ab)),(.list 50 (rA.vars.map aG)),(.list 9 (rA.names.map co)),(.list 53 (rA.vals.map ab))])) 2 (.list 50 (cols.map aG)),fun _=>none,upd (upd (upd (fun _=>none) 95 (some ⟨g10,51,(s10.map (al 53 ab)),true⟩)) 72 (some ⟨g13,53,(s13.map ab),true⟩)) 25 (some ⟨g2.1,51,(s2.1.map (al 53 ab)),true⟩)⟩) (fun t=>fl13 = .next t) ?_ (fun s13 g13 hn13=>?_)
   ·refine az ?_
    refine bF (fun j13 s13 g13=>⟨98,upd (upd (upd (upd (upd (upd (upd (upd (upd (upd (upd (upd (upd (fun _=>.any) 76 (ae (j13 : Int))) 75 (ae (q.aggregates.length : Int))) 74 (.list 66 (q.aggregates.map cl))) 66 (ae (j10 : Int))) 65 (ae (s2.1.length : Int))) 64 (.own 25 g2.1 (s2.1.map (al 53 ab)).length)) 18 (.own 72 g13 (s13.map ab).length)) 16 (ae (j10 : Int))) 15 (.own 95 g10 (s10.map (al 53 ab)).length)) 10 (.list 40 (s2.2.map (al 51 (al 53 ab))))) 5 (.ptr [(ae q.kind),(.str q.table),(.list 9 (q.names.map co)),(.list 56 (q.exprs.map bc)),(.list 66 (q.aggregates.map cl)),(.list 4 (q.descending.map cB)),(ae q.count),(ae q.offset),(.list 35 (q.inputs.map aX))])) 4 (.ptr [(.list 91 (rA.s.tables.map bA)),(.list 142 (rA.s.foreignKeys.map cD)),(.list 148 (rA.s.constraints.map cN)),(.list 87 (rA.st.map bV)),(.list 53 (rA.args.map ab)),(.list 50 (rA.vars.map aG)),(.list 9 (rA.names.map co)),(.list 53 (rA.vals.map ab))])) 2 (.list 50 (cols.map aG)),fun _=>none,upd (upd (upd (fun _=>none) 95 (some ⟨g10,51,(s10.map (al 53 ab)),true⟩)) 72 (some ⟨g13,53,(s13.map ab),true⟩)) 25 (some ⟨g2.1,51,(s2.1.map (al 53 ab)),true⟩)⟩) g72 H13 (Gh.le (aa (aa (aa (aa (aa (aa (aa (aa (aa (aa (aa (aa (aa ak))))))))))))) ah (aA (aA (aA ai)))) (fun j13 s13 g13 hj13 hr13=>?_)
    refine aw 1 tk rfl (ac ?_)
    refine aY rfl (fun h=>?_) (fun h=>?_)
    ·have hl13 := cp h
     obtain ⟨x13,fb13,hx13,H,hg13⟩ := rMc hl13 hr13
     refine av (ac (az (ac (af ?_))))
     refine bt tk (zn j13) (bQ (fun _=>rfl) hx13) ?_
     refine aq tk rfl ?_
     refine bv tk fun b20=>?_
     refine aD tk ?_
     refine ag ?_
     refine cZ (tag := 25) rfl (fun ho25=>?_)
     refine cZ (tag := 72) rfl (fun ho72=>?_)
     refine cZ (tag := 95) rfl (fun ho95=>?_)
     refine bl tk mok ⟨true,false,[81,87]⟩ [0,1,2,3,4,5,6,7,8,9,10,11] rfl (by decide +kernel) rfl (aJ 2 rfl (cM ?_))
     refine aJ 3 rfl ?_
     obtain ⟨x86,k86,H⟩ := aW H
     refine bX k86.1 (aH (fun _=>rfl) k86.2) ?_
     refine cC rfl ?_
     obtain ⟨x88,h88,H⟩ := ax H
     have s88 := rW rA x13 cols x86 _ h88
     refine bg Tryz.call173 (jc.r) s88 ?_
     refine cC rfl ?_
     obtain ⟨x90,h90,H⟩ := ax H
     have k90 := dw h90
     refine me (rows2' := List.map ab ([x88] : Rq)) (rows' := List.map ab x90) tk rfl rfl rfl rfl rfl rfl rfl rfl rfl rfl rfl rfl rfl rfl (gk.refl _) (eK k90.1) (eN k90.2.1) (eR k90.2.2) fun g90=>?_
     refine cC rfl (be (aQ (bh 2 tk rfl ?_)))
     obtain rfl := ao H
     refine aK x90 g90 ⟨hl13,hg13⟩ (Gh.le (aa (aa (aa (aa (aa (aa (aa (aa (aa (aa (aa (aa (aI (PLe.q (aU (by omega))) ak))))))))))))) ah (aA (aA (aA ai))))
    have hn13 := rMd (cq h) hr13
    refine aR rfl ?_
    refine aO s13 g13 hn13 (Gh.le (aa (aa (aa (aa (aa (aa (aa (aa (aa ak))))))))) ah (aA (aA (aA ai))))
   have H := bq hn13 Hp13
   refine el 18 rfl rfl rfl (af (am 2 tk rfl (cO tk (rows' := List.map (al 53 ab) ([s13] : Rz)) (gk.refl _) ?_)))
   obtain ⟨x95,h95,H⟩ := ax H
   have k95 := dw h95
   refine dr (rows2' := List.map (al 53 ab) ([s13] : Rz)) (rows' := List.map (al 53 ab) x95) tk rfl rfl rfl rfl rfl rfl rfl rfl rfl rfl rfl rfl rfl (gk.refl _) (eK k95.1) (eN k95.2.1) (eR k95.2.2) fun g95=>?_
   refine aq tk rfl (ag (aQ (bh 2 tk rfl ?_)))
   obtain rfl := ao H
   refine aK x95 g95 ⟨hl10,hg10⟩ (Gh.le (aa (aa (aa (aa (aa (aa (aa (aI (PLe.q (pS hz10 hl10)) ak)))))))) ah (aA (aA ai)))
  have hn10 := rMd (natGe hz10 h) hr10
  refine aR rfl ?_
  refine aO s10 g10 hn10 (Gh.le (aa ak) ah (aA ai))
 have H := bq hn10 Hp10
 refine aw 2 tk rfl ?_
 obtain rfl := ao H
 refine el 8 rfl rfl rfl ?_
 refine aB tk rfl (ps := [(.list 51 (s10.map (al 53 ab)))]) ⟨_,_,rfl,rfl,rfl⟩ (PLe.q rfl)
def eB (a : Rq) (b : Rq) (c0 : LRun) (c1 : List LCol) (c2 : LQuery) : Option (Int) :=
 aj (dU c0 c1 a c2.exprs) fun x13 =>
 aj (dU c0 c1 b c2.exprs) fun x19 =>
 aj (dv x13 x19 c2.descending) fun x22 =>
 some x22
theorem qA (a : Rq) (b : Rq) (c0 : LRun) (c1 : List LCol) (c2 : LQuery) (r : Int) (H : eB a b c0 c1 c2 = some r) :
  aV Tryz.prog 175 [(.list 53 (a.map ab)),(.list 53 (b.map ab)),(.ptr (it c0)),(.ptr [(.list 50 (c1.map aG))]),(.ptr (bD c2))] (ae r) := by
 unfold eB at H
 refine PH.aC Tryz.func175 Tryz.ntmps175 ?_
 refine aw 1 tk rfl (ac (bl tk mok ⟨false,false,[]⟩ [0,1,2,3,4,6,7,8,9,10,12,13,5,11,14,15] rfl (by decide +kernel) rfl (aJ 12 rfl ?_)))
 obtain ⟨x13,h13,H⟩ := ax H
 have s13 := jR c0 c1 a c2.exprs _ h13
 refine bg Tryz.call140 (jc.r) s13 ?_
 obtain ⟨x19,h19,H⟩ := ax H
 have s19 := jR c0 c1 b c2.exprs _ h19
 refine bg Tryz.call140 (jc.r) s19 ?_
 obtain ⟨x22,h22,H⟩ := ax H
 have s22 := mh x13 x19 c2.descending _ h22
 refine bg Tryz.call72 (jc.r) s22 ?_
 refine cC rfl (be ?_)
 obtain rfl := ao H
 refine aB tk rfl (ps := [(ae x22)]) ⟨_,_,rfl,rfl,rfl⟩ (PLe.q rfl)
def iM (sA : LSchema) : Option (Int) :=
 bo (
  cond (decide ((sA.tables.length : Int) > (6 : Int)))
   (true)
   (cond (decide ((sA.foreignKeys.length : Int) > (8 : Int)))
    (true)
    ((decide ((sA.constraints.length : Int) > (8 : Int)))))) fun (t1 : Bool) =>
 cond t1
  (some 2)
  (aj (ba (σ := Unit) (ρ := (Int)) (fun (j2 : Nat) (x2 : LTable) (_ : Unit) =>
   aj (fy x2) fun x37 =>
   cond (x37 != (0 : Int))
    (some (.ret x37))
    (cond (decide ((j2 : Int) > (0 : Int)))
     (aj (aF sA.tables (i64.wrap ((j2 : Int) - (1 : Int)))) fun (x50 : LTable) =>
     cond (Op.bytesLess x2.name x50.name || x2.name == x50.name)
      (some (.ret 6))
      (some (.next ())))
     (some (.next ())))) 0 sA.tables ()) fun fl2=>fl2.thenR fun (_ : Unit) =>
  aj (ba (σ := Unit) (ρ := (Int)) (fun (j3 : Nat) (x3 : LForeignKey) (_ : Unit) =>
   aj (eU sA x3) fun x66 =>
   cond (x66 != (0 : Int))
    (some (.ret x66))
    (aj (nj sA.foreignKeys 0 (j3 : Int)) fun (x73 : List LForeignKey) =>
    aj (cw x73 (fun a0=>go a0 x3)) fun x75 =>
    cond x75
     (some (.ret 5))
     (some (.next ())))) 0 sA.foreignKeys ()) fun fl3=>fl3.thenR fun (_ : Unit) =>
  aj (ba (σ := Unit) (ρ := (Int)) (fun (j4 : Nat) (x4 : LConstraint) (_ : Unit) =>
   aj (eY sA x4) fun x87 =>
   cond (x87 != (0 : Int))
    (some (.ret x87))
    (aj (nj sA.constraints 0 (j4 : Int)) fun (x94 : List LConstraint) =>
    aj (cI x94 x4) fun x96 =>
    cond x96
     (some (.ret 5))
     (some (.next ())))) 0 sA.constraints ()) fun fl4=>fl4.thenR fun (_ : Unit) =>
  some 0)
theorem rm (sA : LSchema) (r : Int) (H : iM sA = some r) :
  aV Tryz.prog 83 [(.agg (eA sA))] (ae r) := by
 unfold iM at H
 refine PH.aC Tryz.func83 Tryz.ntmps83 ?_
 refine ac (af (aT ?_))
 refine aq tk rfl (ag (ac (ac ?_)))
 obtain ⟨fl1,H1,Hp1⟩ := bK H
 refine aZ (τ := Bool) (γ := Unit) (fun t1 g1=>⟨98,upd (upd (fun _=>.any) 27 (aE t1)) 1 (.ptr [(.list 91 (sA.tables.map bA)),(.list 142 (sA.foreignKeys.map cD)),(.list 148 (sA.constraints.map cN))]),fun _=>none,fun _=>none⟩) (fun t=>t = fl1) ?_ (fun t1 g1 hn1=>?_)
 ·have H := H1
  refine af (am 2 tk rfl (aN tk (zl _) ?_))
  refine am 2 tk rfl ?_
  refine bG rfl rfl rfl H (fun H=>?_) (fun H=>?_)
  ·refine am 11 tk rfl (ag ?_)
   subst H
   refine aO true () rfl (Gh.le (aa (aa ak)) ah ai)
  refine am 2 tk rfl (aN tk (zl _) ?_)
  refine am 3 tk rfl ?_
  refine bG rfl rfl rfl H (fun H=>?_) (fun H=>?_)
  ·refine am 5 tk rfl (ag ?_)
   subst H
   refine aO true () rfl (Gh.le (aa (aa ak)) ah ai)
  refine am 2 tk rfl (aN tk (zl _) ?_)
  refine am 2 tk rfl (ag ?_)
  subst H
  refine aO (decide ((sA.constraints.length : Int) > (8 : Int))) () rfl (Gh.le (aa (aa ak)) ah ai)
 subst hn1
 have H := Hp1
 refine aP rfl H (fun H=>?_) (fun H=>?_)
 ·refine aw 1 tk rfl ?_
  obtain rfl := ao H
  refine aB tk rfl (ps := [(ae 2)]) ⟨_,_,rfl,rfl,rfl⟩ (PLe.q rfl)
 refine av (ac (ac (af (am 2 tk rfl (aN tk (zl _) ?_)))))
 refine aq tk rfl (ag ?_)
 obtain ⟨fl2,H2,Hp2⟩ := ax H
 refine bU tk 29 rfl rfl (fun hz2 _=>?_)
 rw [zl] at hz2
 refine aZ (τ := Unit) (γ := Unit) (fun s2 g2=>⟨98,upd (fun _=>.any) 1 (.ptr [(.list 91 (sA.tables.map bA)),(.list 142 (sA.foreignKeys.map cD)),(.list 148 (sA.constraints.map cN))]),fun _=>none,fun _=>none⟩) (fun t=>fl2 = .next t) ?_ (fun s2 g2 hn2=>?_)
 ·refine az ?_
  refine bF (fun j2 s2 g2=>⟨98,upd (upd (upd (upd (fun _=>.any) 31 (ae (j2 : Int))) 30 (ae (sA.tables.length : Int))) 29 (.list 91 (sA.tables.map bA))) 1 (.ptr [(.list 91 (sA.tables.map bA)),(.list 142 (sA.foreignKeys.map cD)),(.list 148 (sA.constraints.map cN))]),fun _=>none,fun _=>none⟩) () H2 (Gh.le (aa (aa (aa (aa ak)))) ah ai) (fun j2 s2 g2 hj2 hr2=>?_)
  refine aw 1 tk rfl (ac ?_)
  refine aY rfl (fun h=>?_) (fun h=>?_)
  ·have hl2 := cp h
   obtain ⟨x2,fb2,hx2,H,hg2⟩ := rMc hl2 hr2
   refine av (ac (az (ac (af (aq tk rfl ?_)))))
   refine bt tk (zn j2) (bQ (fun _=>rfl) hx2) ?_
   refine aq tk rfl ?_
   refine bv tk fun b4=>?_
   refine aq tk rfl (aD tk ?_)
   refine ag (ac (ac (af (aM tk ?_))))
   obtain ⟨x37,h37,H⟩ := ax H
   have s37 := pf x2 _ h37
   refine au Tryz.call98 (jc.r) s37 ?_
   refine aq tk rfl (ag (aw 2 tk rfl ?_))
   refine aP rfl H (fun H=>?_) (fun H=>?_)
   ·refine aw 2 tk rfl ?_
    obtain rfl := ao H
    have e2 : fl2 = .ret _ := hg2
    subst e2
    obtain rfl := bj Hp2
    refine aB tk rfl (ps := [(ae x37)]) ⟨_,_,rfl,rfl,rfl⟩ (PLe.q rfl)
   refine av (ac (bl tk mok ⟨true,false,[47,52]⟩ [0,1,2,3,4,5,6,7,8,9,10,11,12,13] rfl (by decide +kernel) rfl (aJ 3 rfl ?_)))
   refine im H (fun H=>?_) (fun H=>?_)
   ·refine cC rfl (cM ?_)
    refine aJ 4 rfl ?_
    obtain ⟨x50,k50,H⟩ := aW H
    refine bX k50.1 (aH (fun _=>rfl) k50.2) ?_
    refine aJ 4 rfl (be ?_)
    refine aP rfl H (fun H=>?_) (fun H=>?_)
    ·refine aw 1 tk rfl ?_
     obtain rfl := ao H
     have e2 : fl2 = .ret _ := hg2
     subst e2
     obtain rfl := bj Hp2
     refine aB tk rfl (ps := [(ae 6)]) ⟨_,_,rfl,rfl,rfl⟩ (PLe.q rfl)
    refine av (aQ (bh 2 tk rfl ?_))
    obtain rfl := ao H
    refine aK () () ⟨hl2,hg2⟩ (Gh.le (aa (aa (aa (aI (PLe.q (aU (by omega))) ak)))) ah ai)
   refine aJ 11 rfl (be (bH rfl (av (aQ (bh 2 tk rfl ?_)))))
   obtain rfl := ao H
   refine aK () () ⟨hl2,hg2⟩ (Gh.le (aa (aa (aa (aI (PLe.q (aU (by omega))) ak)))) ah ai)
  have hn2 := rMd (cq h) hr2
  refine aR rfl ?_
  refine aO s2 g2 hn2 (Gh.le (aa ak) ah ai)
 have H := ck hn2 Hp2
 refine ac (ac (af (am 2 tk rfl (aN tk (zl _) ?_))))
 refine aq tk rfl (ag ?_)
 obtain ⟨fl3,H3,Hp3⟩ := ax H
 refine bU tk 57 rfl rfl (fun hz3 _=>?_)
 rw [zl] at hz3
 refine aZ (τ := Unit) (γ := Unit) (fun s3 g3=>⟨98,upd (fun _=>.any) 1 (.ptr [(.list 91 (sA.tables.map bA)),(.list 142 (sA.foreignKeys.map cD)),(.list 148 (sA.constraints.map cN))]),fun _=>none,fun _=>none⟩) (fun t=>fl3 = .next t) ?_ (fun s3 g3 hn3=>?_)
 ·refine az ?_
  refine bF (fun j3 s3 g3=>⟨98,upd (upd (upd (upd (fun _=>.any) 59 (ae (j3 : Int))) 58 (ae (sA.foreignKeys.length : Int))) 57 (.list 142 (sA.foreignKeys.map cD))) 1 (.ptr [(.list 91 (sA.tables.map bA)),(.list 142 (sA.foreignKeys.map cD)),(.list 148 (sA.constraints.map cN))]),fun _=>none,fun _=>none⟩) () H3 (Gh.le (aa (aa (aa (aa ak)))) ah ai) (fun j3 s3 g3 hj3 hr3=>?_)
  refine aw 1 tk rfl (ac ?_)
  refine aY rfl (fun h=>?_) (fun h=>?_)
  ·have hl3 := cp h
   obtain ⟨x3,fb3,hx3,H,hg3⟩ := rMc hl3 hr3
   refine av (ac (az (ac (af (aq tk rfl ?_)))))
   refine bt tk (zn j3) (bQ (fun _=>rfl) hx3) ?_
   refine aq tk rfl ?_
   refine bv tk fun b7=>?_
   refine aq tk rfl (aD tk ?_)
   refine ag (ac (ac (af (aq tk rfl (aM tk ?_)))))
   obtain ⟨x66,h66,H⟩ := ax H
   have s66 := mW sA x3 _ h66
   refine au Tryz.call99 (jc.r) s66 ?_
   refine aq tk rfl (ag (aw 2 tk rfl ?_))
   refine aP rfl H (fun H=>?_) (fun H=>?_)
   ·refine aw 2 tk rfl ?_
    obtain rfl := ao H
    have e3 : fl3 = .ret _ := hg3
    subst e3
    obtain rfl := bj Hp3
    refine aB tk rfl (ps := [(ae x66)]) ⟨_,_,rfl,rfl,rfl⟩ (PLe.q rfl)
   refine av (ac (af (am 3 tk rfl ?_)))
   obtain ⟨x73,h73,H⟩ := ax H
   have k73 := oO h73
   refine rX tk rfl rfl rfl rfl rfl (zl _) rfl rfl k73.1 (pZ k73.2) rfl (cA (Gh.freezeB 7 rfl rfl rfl rfl) (aq tk rfl ?_))
   obtain ⟨x75,h75,H⟩ := ax H
   have s75 := iF x73 (fun a0=>go a0 x3) Tryz.call101 (fun a0 r h=>qp a0 x3 r h) _ h75
   refine au Tryz.call100 (jc.r) s75 ?_
   refine ag ?_
   refine aP rfl H (fun H=>?_) (fun H=>?_)
   ·refine aw 1 tk rfl ?_
    obtain rfl := ao H
    have e3 : fl3 = .ret _ := hg3
    subst e3
    obtain rfl := bj Hp3
    refine aB tk rfl (ps := [(ae 5)]) ⟨_,_,rfl,rfl,rfl⟩ (PLe.q rfl)
   refine av (aQ (bh 2 tk rfl ?_))
   obtain rfl := ao H
   refine aK () () ⟨hl3,hg3⟩ (Gh.le (aa (aa (aa (aI (PLe.q (aU (by omega))) ak)))) ah ai)
  have hn3 := rMd (cq h) hr3
  refine aR rfl ?_
  refine aO s3 g3 hn3 (Gh.le (aa ak) ah ai)
 have H := ck hn3 Hp3
 refine ac (ac (af (am 2 tk rfl (aN tk (zl _) ?_))))
 refine aq tk rfl (ag ?_)
 obtain ⟨fl4,H4,Hp4⟩ := ax H
 refine bU tk 78 rfl rfl (fun hz4 _=>?_)
 rw [zl] at hz4
 refine aZ (τ := Unit) (γ := Unit) (fun s4 g4=>⟨98,fun _=>.any,fun _=>none,fun _=>none⟩) (fun t=>fl4 = .next t) ?_ (fun s4 g4 hn4=>?_)
 ·refine az ?_
  refine bF (fun j4 s4 g4=>⟨98,upd (upd (upd (upd (fun _=>.any) 80 (ae (j4 : Int))) 79 (ae (sA.constraints.length : Int))) 78 (.list 148 (sA.constraints.map cN))) 1 (.ptr [(.list 91 (sA.tables.map bA)),(.list 142 (sA.foreignKeys.map cD)),(.list 148 (sA.constraints.map cN))]),fun _=>none,fun _=>none⟩) () H4 (Gh.le (aa (aa (aa (aa ak)))) ah ai) (fun j4 s4 g4 hj4 hr4=>?_)
  refine aw 1 tk rfl (ac ?_)
  refine aY rfl (fun h=>?_) (fun h=>?_)
  ·have hl4 := cp h
   obtain ⟨x4,fb4,hx4,H,hg4⟩ := rMc hl4 hr4
   refine av (ac (az (ac (af (aq tk rfl ?_)))))
   refine bt tk (zn j4) (bQ (fun _=>rfl) hx4) ?_
   refine aq tk rfl ?_
   refine bv tk fun b10=>?_
   refine aq tk rfl (aD tk ?_)
   refine ag (ac (ac (af (aq tk rfl (aM tk ?_)))))
   obtain ⟨x87,h87,H⟩ := ax H
   have s87 := mQ sA x4 _ h87
   refine au Tryz.call103 (jc.r) s87 ?_
   refine aq tk rfl (ag (aw 2 tk rfl ?_))
   refine aP rfl H (fun H=>?_) (fun H=>?_)
   ·refine aw 2 tk rfl ?_
    obtain rfl := ao H
    have e4 : fl4 = .ret _ := hg4
    subst e4
    obtain rfl := bj Hp4
    refine aB tk rfl (ps := [(ae x87)]) ⟨_,_,rfl,rfl,rfl⟩ (PLe.q rfl)
   refine av (ac (bl tk mok ⟨true,false,[92]⟩ [0,1,2,3,4,5] rfl (by decide +kernel) rfl (aJ 3 rfl ?_)))
   obtain ⟨x94,h94,H⟩ := ax H
   have k94 := oO h94
   refine Do.subL rfl rfl rfl rfl rfl rfl (zl _) rfl rfl k94.1 (pZ k94.2) rfl (cM ?_)
   obtain ⟨x96,h96,H⟩ := ax H
   have s96 := jk x94 x4 _ h96
   refine bg Tryz.call104 (jc.r) s96 ?_
   refine be ?_
   refine aP rfl H (fun H=>?_) (fun H=>?_)
   ·refine aw 1 tk rfl ?_
    obtain rfl := ao H
    have e4 : fl4 = .ret _ := hg4
    subst e4
    obtain rfl := bj Hp4
    refine aB tk rfl (ps := [(ae 5)]) ⟨_,_,rfl,rfl,rfl⟩ (PLe.q rfl)
   refine av (aQ (bh 2 tk rfl ?_))
   obtain rfl := ao H
   refine aK () () ⟨hl4,hg4⟩ (Gh.le (aa (aa (aa (aI (PLe.q (aU (by omega))) ak)))) ah ai)
  have hn4 := rMd (cq h) hr4
  refine aR rfl ?_
  refine aO s4 g4 hn4 (Gh.le ak ah ai)
 have H := ck hn4 Hp4
 refine aw 1 tk rfl ?_
 obtain rfl := ao H
 refine aB tk rfl (ps := [(ae 0)]) ⟨_,_,rfl,rfl,rfl⟩ (PLe.q rfl)
def dl (x : Rz) (cmp : Rq → Rq → Option (Int)) : Option (Rz) :=
 aj (iy (IntKind.u64.wrap (x.length : Int))) fun x11 =>
 aj (gO x 0 (x.length : Int) x11 cmp) fun x13 =>
 aj (cF (x13.length = x.length) ()) fun (_ : Unit) =>
 some x13
theorem iJ (g_x : OwnRef) {g_cmp : FuncId} {caps_cmp : List PV} (x : Rz) (cmp : Rq → Rq → Option (Int)) (hg_cmp : ∀ (vs : Array Value) (w : World),(callFunc g_cmp vs).run Tryz.prog w = .ok (.enter g_cmp vs) w) (hp_cmp : ∀ a0 a1 r,cmp a0 a1 = some r → aV Tryz.prog g_cmp ((.list 53 (a0.map ab)) :: (.list 53 (a1.map ab)) :: caps_cmp) (ae r)) (r : Rz) (H : dl x cmp = some r) :
  PH Tryz.prog 73 [(.own 0 g_x (x.map (al 53 ab)).length),(.fn g_cmp caps_cmp)] ⟨fun _=>none,upd (fun _=>none) 0 (some ⟨g_x,51,(x.map (al 53 ab)),true⟩)⟩ (fun u H=>u = (.tup []) ∧ H = ⟨fun _=>none,upd (fun _=>none) 0 (some ⟨g_x,51,(r.map (al 53 ab)),true⟩)⟩) := by
 unfold dl at H
 refine PH.aC Tryz.func73 Tryz.ntmps73 ?_
 refine ac (af (aq tk rfl (jG tk (zl _) ?_)))
 refine aq tk rfl (ag (af (am 4 tk rfl ?_)))
 obtain ⟨x11,h11,H⟩ := ax H
 have s11 := oL (IntKind.u64.wrap (x.length : Int)) _ h11
 refine au Tryz.call93 (jc.r) s11 ?_
 refine aq tk rfl ?_
 obtain ⟨x13,h13,H⟩ := ax H
 have s13 := lH g_x x 0 (x.length : Int) x11 cmp hg_cmp hp_cmp _ h13
 obtain ⟨_,q13_0,H⟩ := ax H
 have l13_0 := (bI q13_0).1
 have z13_0 : (List.map (al 53 ab) x).length = (List.map (al 53 ab) x13).length := by simpa using (l13_0).symm
 refine cf (g := 92) rfl rfl rfl Tryz.call92 [] [(0,0)] rfl rfl rfl rfl (jc.of2 (iw.cons (np.own rfl) (iw.cons (np.of_eq rfl) (iw.cons (np.of_eq rfl) (iw.cons (np.of_eq rfl) (iw.cons (np.of_eq rfl) iw.nil)))))) (by rw [bR,bL,bS]; rfl) s13 ?_
 rintro u13 H13h ⟨rfl,rfl⟩
 refine ⟨_,rfl,?_⟩
 refine cA (st' := ⟨_,_,fun _=>none,upd (fun _=>none) 0 (some ⟨g_x,51,(x13.map (al 53 ab)),true⟩)⟩) (Gh.le (bO _ _) ah (aA ai)) ?_
 refine ag ?_
 obtain rfl := ao H
 refine dN (st' := ⟨14,fun _=>.any,fun _=>none,upd (fun _=>none) 0 (some ⟨g_x,51,(x13.map (al 53 ab)),true⟩)⟩) (Gh.le ak ah (aA ai)) ?_
 refine iI rfl (PLe.q rfl) ⟨rfl,rfl⟩
def ff (rec90 : LChecker → LQuery → Option ((List LCol) × Int)) (c : LChecker) (q : LQuery) : Option ((List LCol) × Int) :=
 aj (kn q) fun x16 =>
 cond (!x16)
  (some ([],3))
  (aj (ba (σ := List (List LCol)) (ρ := ((List LCol) × Int)) (fun (_ : Nat) (x1 : LQuery) (s1 : List (List LCol)) =>
   aj (rec90 c x1) fun x28 =>
   cond (x28.2 != (0 : Int))
    (some (.ret ([],x28.2)))
    (aj (ee 24 s1 ([x28.1] : List (List LCol))) fun (x37 : List (List LCol)) =>
    some (.next x37))) 0 q.inputs []) fun fl1=>fl1.thenR fun (s1 : List (List LCol)) =>
  aj (hJ c q s1) fun x43 =>
  cond (x43.2 != (0 : Int))
   (some ([],x43.2))
   (cond (decide ((x43.1.length : Int) > (20 : Int)))
    (some ([],2))
    (aj (ba (σ := Unit) (ρ := ((List LCol) × Int)) (fun (j2 : Nat) (x2 : LCol) (_ : Unit) =>
     aj (nj x43.1 0 (j2 : Int)) fun (x61 : List LCol) =>
     aj (cx x61 (fun a0=>some (cL a0 x2))) fun x63 =>
     cond x63
      (some (.ret ([],23)))
      (some (.next ()))) 0 x43.1 ()) fun fl2=>fl2.thenR fun (_ : Unit) =>
    some (x43.1,0))))
theorem nW (rec90 : LChecker → LQuery → Option ((List LCol) × Int)) (hrec90 : ∀ a0 a1 r,rec90 a0 a1 = some r → aV Tryz.prog 90 [(.agg (jv a0)),(.agg (bD a1))] (.tup [(.list 50 (r.1.map aG)),(ae r.2)])) (c : LChecker) (q : LQuery) (r : (List LCol) × Int) (H : ff rec90 c q = some r) :
  aV Tryz.prog 90 [(.agg (jv c)),(.agg (bD q))] (.tup [(.list 50 (r.1.map aG)),(ae r.2)]) := by
 unfold ff at H
 refine PH.aC Tryz.func90 Tryz.ntmps90 ?_
 refine ac (af (aT ?_))
 refine aT ?_
 refine am 2 tk rfl (ag (ac (ac (af (aq tk rfl ?_)))))
 obtain ⟨x16,h16,H⟩ := ax H
 have s16 := W_query_shape q _ h16
 refine au Tryz.call110 (jc.r) s16 ?_
 refine aq tk rfl (ag ?_)
 refine aP rfl H (fun H=>?_) (fun H=>?_)
 ·refine aw 2 tk rfl ?_
  obtain rfl := ao H
  refine aB tk rfl (ps := [(.val (.slice none 0 0)),(ae 3)]) ⟨_,_,rfl,rfl,_,_,rfl,rfl,rfl⟩ (PLe.of2 (np.tup (iw.cons (np.nil tk rfl) (iw.cons (np.of_eq rfl) iw.nil))))
 refine av (aw 1 tk rfl (ac (ac (af (am 2 tk rfl (aN tk (zl _) ?_))))))
 refine aq tk rfl (ag ?_)
 obtain ⟨fl1,H1,Hp1⟩ := ax H
 refine bU tk 19 rfl rfl (fun hz1 _=>?_)
 rw [zl] at hz1
 refine aZ (τ := List (List LCol)) (γ := OwnRef) (fun s1 g1=>⟨66,upd (upd (upd (fun _=>.any) 6 (.own 37 g1 (s1.map (al 50 aG)).length)) 3 (.ptr [(ae q.kind),(.str q.table),(.list 9 (q.names.map co)),(.list 56 (q.exprs.map bc)),(.list 66 (q.aggregates.map cl)),(.list 4 (q.descending.map cB)),(ae q.count),(ae q.offset),(.list 35 (q.inputs.map aX))])) 2 (.ptr [(.list 91 (c.s.tables.map bA)),(.list 142 (c.s.foreignKeys.map cD)),(.list 148 (c.s.constraints.map cN)),(.list 50 (c.vars.map aG))]),fun _=>none,upd (fun _=>none) 37 (some ⟨g1,39,(s1.map (al 50 aG)),true⟩)⟩) (fun t=>fl1 = .next t) ?_ (fun s1 g1 hn1=>?_)
 ·refine az (jb tk 6 37 (e := 39) rfl rfl ?_)
  refine bF (fun j1 s1 g1=>⟨66,upd (upd (upd (upd (upd (upd (fun _=>.any) 21 (ae (j1 : Int))) 20 (ae (q.inputs.length : Int))) 19 (.list 35 (q.inputs.map aX))) 6 (.own 37 g1 (s1.map (al 50 aG)).length)) 3 (.ptr [(ae q.kind),(.str q.table),(.list 9 (q.names.map co)),(.list 56 (q.exprs.map bc)),(.list 66 (q.aggregates.map cl)),(.list 4 (q.descending.map cB)),(ae q.count),(ae q.offset),(.list 35 (q.inputs.map aX))])) 2 (.ptr [(.list 91 (c.s.tables.map bA)),(.list 142 (c.s.foreignKeys.map cD)),(.list 148 (c.s.constraints.map cN)),(.list 50 (c.vars.map aG))]),fun _=>none,upd (fun _=>none) 37 (some ⟨g1,39,(s1.map (al 50 aG)),true⟩)⟩) (⟨none,0⟩) H1 (Gh.le (aa (aa (aa (aa (aa (aa ak)))))) ah (aA ai)) (fun j1 s1 g1 hj1 hr1=>?_)
  refine aw 1 tk rfl (ac ?_)
  refine aY rfl (fun h=>?_) (fun h=>?_)
  ·have hl1 := cp h
   obtain ⟨x1,fb1,hx1,H,hg1⟩ := rMc hl1 hr1
   refine av (ac (az (ac (af (bt tk (zn j1) (bQ cK hx1) ?_)))))
   refine aq tk rfl ?_
   refine bv tk fun b8=>?_
   refine aD tk ?_
   refine ag (ac (af (aq tk rfl (aM tk ?_))))
   obtain ⟨x28,h28,H⟩ := ax H
   have s28 := hrec90 c x1 _ h28
   refine au Tryz.call90 (jc.r) s28 ?_
   refine am 5 tk rfl (ag (ac (aw 2 tk rfl ?_)))
   refine aP rfl H (fun H=>?_) (fun H=>?_)
   ·refine aw 3 tk rfl ?_
    obtain rfl := ao H
    have e1 : fl1 = .ret _ := hg1
    subst e1
    obtain rfl := bj Hp1
    refine aB tk rfl (ps := [(.val (.slice none 0 0)),(ae x28.2)]) ⟨_,_,rfl,rfl,_,_,rfl,rfl,rfl⟩ (PLe.of2 (np.tup (iw.cons (np.nil tk rfl) (iw.cons (np.of_eq rfl) iw.nil))))
   refine av (af (am 2 tk rfl (cO tk (rows' := List.map (al 50 aG) ([x28.1] : List (List LCol))) (gk.refl _) ?_)))
   obtain ⟨x37,h37,H⟩ := ax H
   have k37 := dw h37
   refine dr (rows2' := List.map (al 50 aG) ([x28.1] : List (List LCol))) (rows' := List.map (al 50 aG) x37) tk rfl rfl rfl rfl rfl rfl rfl rfl rfl rfl rfl rfl rfl (gk.refl _) (eK k37.1) (eN k37.2.1) (eR k37.2.2) fun g37=>?_
   refine aq tk rfl (ag (aQ (bh 2 tk rfl ?_)))
   obtain rfl := ao H
   refine aK x37 g37 ⟨hl1,hg1⟩ (Gh.le (aa (aa (aa (aa (aa (aI (PLe.q (aU (by omega))) ak)))))) ah (aA ai))
  have hn1 := rMd (cq h) hr1
  refine aR rfl ?_
  refine aO s1 g1 hn1 (Gh.le (aa (aa (aa ak))) ah (aA ai))
 have H := ck hn1 Hp1
 refine ac (el 6 rfl rfl rfl (af (am 3 tk rfl ?_)))
 obtain ⟨x43,h43,H⟩ := ax H
 have s43 := qo c q s1 _ h43
 refine au Tryz.call111 (jc.r) s43 ?_
 refine am 5 tk rfl (ag (ac (aw 2 tk rfl ?_)))
 refine aP rfl H (fun H=>?_) (fun H=>?_)
 ·refine aw 3 tk rfl ?_
  obtain rfl := ao H
  refine aB tk rfl (ps := [(.val (.slice none 0 0)),(ae x43.2)]) ⟨_,_,rfl,rfl,_,_,rfl,rfl,rfl⟩ (PLe.of2 (np.tup (iw.cons (np.nil tk rfl) (iw.cons (np.of_eq rfl) iw.nil))))
 refine av (ac (ac (af (aq tk rfl (aN tk (zl _) ?_)))))
 refine aq tk rfl (ag ?_)
 refine aP rfl H (fun H=>?_) (fun H=>?_)
 ·refine aw 2 tk rfl ?_
  obtain rfl := ao H
  refine aB tk rfl (ps := [(.val (.slice none 0 0)),(ae 2)]) ⟨_,_,rfl,rfl,_,_,rfl,rfl,rfl⟩ (PLe.of2 (np.tup (iw.cons (np.nil tk rfl) (iw.cons (np.of_eq rfl) iw.nil))))
 refine av (ac (ac (af (aq tk rfl (aN tk (zl _) ?_)))))
 refine aq tk rfl (ag ?_)
 obtain ⟨fl2,H2,Hp2⟩ := ax H
 refine bU tk 52 rfl rfl (fun hz2 _=>?_)
 rw [zl] at hz2
 refine aZ (τ := Unit) (γ := Unit) (fun s2 g2=>⟨66,upd (fun _=>.any) 11 (.list 50 (x43.1.map aG)),fun _=>none,fun _=>none⟩) (fun t=>fl2 = .next t) ?_ (fun s2 g2 hn2=>?_)
 ·refine az ?_
  refine bF (fun j2 s2 g2=>⟨66,upd (upd (upd (upd (fun _=>.any) 54 (ae (j2 : Int))) 53 (ae (x43.1.length : Int))) 52 (.list 50 (x43.1.map aG))) 11 (.list 50 (x43.1.map aG)),fun _=>none,fun _=>none⟩) () H2 (Gh.le (aa (aa (aa (aa ak)))) ah ai) (fun j2 s2 g2 hj2 hr2=>?_)
  refine aw 1 tk rfl (ac ?_)
  refine aY rfl (fun h=>?_) (fun h=>?_)
  ·have hl2 := cp h
   obtain ⟨x2,fb2,hx2,H,hg2⟩ := rMc hl2 hr2
   refine av (ac (az (ac (af (aq tk rfl ?_)))))
   refine bt tk (zn j2) (bQ (fun _=>rfl) hx2) ?_
   refine aq tk rfl ?_
   refine bv tk fun b14=>?_
   refine aq tk rfl (aD tk ?_)
   refine ag (ac (af (am 2 tk rfl ?_)))
   obtain ⟨x61,h61,H⟩ := ax H
   have k61 := oO h61
   refine rX tk rfl rfl rfl rfl rfl (zl _) rfl rfl k61.1 (pZ k61.2) rfl (cA (Gh.freezeB 14 rfl rfl rfl rfl) (aq tk rfl ?_))
   obtain ⟨x63,h63,H⟩ := ax H
   have s63 := jK x61 (fun a0=>some (cL a0 x2)) Tryz.call113 (fun a0 r h=>(ao h) ▸ nH a0 x2) _ h63
   refine au Tryz.call112 (jc.r) s63 ?_
   refine ag ?_
   refine aP rfl H (fun H=>?_) (fun H=>?_)
   ·refine aw 2 tk rfl ?_
    obtain rfl := ao H
    have e2 : fl2 = .ret _ := hg2
    subst e2
    obtain rfl := bj Hp2
    refine aB tk rfl (ps := [(.val (.slice none 0 0)),(ae 23)]) ⟨_,_,rfl,rfl,_,_,rfl,rfl,rfl⟩ (PLe.of2 (np.tup (iw.cons (np.nil tk rfl) (iw.cons (np.of_eq rfl) iw.nil))))
   refine av (aQ (bh 2 tk rfl ?_))
   obtain rfl := ao H
   refine aK () () ⟨hl2,hg2⟩ (Gh.le (aa (aa (aa (aI (PLe.q (aU (by omega))) ak)))) ah ai)
  have hn2 := rMd (cq h) hr2
  refine aR rfl ?_
  refine aO s2 g2 hn2 (Gh.le (aa ak) ah ai)
 have H := ck hn2 Hp2
 refine aw 3 tk rfl ?_
 obtain rfl := ao H
 refine aB tk rfl (ps := [(.list 50 (x43.1.map aG)),(ae 0)]) ⟨_,_,rfl,rfl,_,_,rfl,rfl,rfl⟩ (PLe.q rfl)
def fg : Nat → LChecker → LQuery → Option ((List LCol) × Int)
 | 0,_,_=>none
 | n + 1,v0,v1=>ff (fun b0 b1=>fg n b0 b1) v0 v1
theorem oa  (n : Nat) : (∀ a0 a1 r,fg n a0 a1 = some r → aV Tryz.prog 90 [(.agg (jv a0)),(.agg (bD a1))] (.tup [(.list 50 (r.1.map aG)),(ae r.2)])) := by
 induction n with
 | zero=>exact (by intros; rename_i h; exact absurd (show (none : Option _) = some _ from h) (by simp))
 | succ n ih =>
  exact (fun v0 v1 r h=>nW (fun b0 b1=>fg n b0 b1) ih v0 v1  r h)
def fh (c : LChecker) (q : LQuery) : Option ((List LCol) × Int) := iQ fun n=>fg n c q
theorem kW (c : LChecker) (q : LQuery) (r : (List LCol) × Int) (H : fh c q = some r) :
  aV Tryz.prog 90 [(.agg (jv c)),(.agg (bD q))] (.tup [(.list 50 (r.1.map aG)),(ae r.2)]) := by
 obtain ⟨n,h⟩ := jy H
 exact (oa  n) c q r h
def ec (rA : LRun) (q : LQuery) (cols : List LCol) (inA : Rz) : Option (Rz) :=
 aj (cJ inA (fun a0 a1=>eB a0 a1 rA cols q)) fun x14 =>
 aj (cF (x14.length = inA.length) ()) fun (_ : Unit) =>
 some x14
theorem rO (rA : LRun) (q : LQuery) (cols : List LCol) (inA : Rz) (r : Rz) (H : ec rA q cols inA = some r) :
  aV Tryz.prog 142 [(.agg (it rA)),(.agg (bD q)),(.list 50 (cols.map aG)),(.list 51 (inA.map (al 53 ab)))] (.list 51 (r.map (al 53 ab))) := by
 unfold ec at H
 refine PH.aC Tryz.func142 Tryz.ntmps142 ?_
 refine ac (af (aT ?_))
 refine aT ?_
 refine aT ?_
 refine aq tk rfl (ag (ac (af (aq tk rfl ?_))))
 have s11 := mE (m := 11) inA
 refine lz (g := 21) rfl rfl rfl Tryz.call21 (jc.r) rfl rfl s11 (fun g11=>?_)
 refine aq tk rfl (ag (ac (af (am 2 tk rfl ?_))))
 obtain ⟨x14,h14,H⟩ := ax H
 have s14 := kj g11 inA (fun a0 a1=>eB a0 a1 rA cols q) Tryz.call175 (fun a0 a1 r h=>qA a0 a1 rA cols q r h) _ h14
 obtain ⟨_,q14_0,H⟩ := ax H
 have l14_0 := (bI q14_0).1
 have z14_0 : (List.map (al 53 ab) inA).length = (List.map (al 53 ab) x14).length := by simpa using (l14_0).symm
 refine cf (g := 174) rfl rfl rfl Tryz.call174 [] [(11,0)] rfl rfl rfl rfl (jc.of2 (iw.cons (np.own rfl) (iw.cons (np.of_eq rfl) iw.nil))) (by rw [bR,bL,bS]; rfl) s14 ?_
 rintro u14 H14h ⟨rfl,rfl⟩
 refine ⟨_,rfl,?_⟩
 refine cA (st' := ⟨_,_,fun _=>none,upd (fun _=>none) 11 (some ⟨g11,51,(x14.map (al 53 ab)),true⟩)⟩) (Gh.le (bO _ _) ah (aA ai)) ?_
 refine ag (aw 2 tk rfl ?_)
 obtain rfl := ao H
 refine el 8 rfl rfl z14_0 ?_
 refine aB tk rfl (ps := [(.list 51 (x14.map (al 53 ab)))]) ⟨_,_,rfl,rfl,rfl⟩ (PLe.q rfl)
def je (a : LResult) (b : LResult) : Option (Bool) :=
 cond ((a.rows.length : Int) != (b.rows.length : Int))
  (some false)
  (aj (dl a.rows (fun a0 a1=>eX a0 a1)) fun x23 =>
  aj (cF (x23.length = a.rows.length) ()) fun (_ : Unit) =>
  aj (dl b.rows (fun a0 a1=>eX a0 a1)) fun x26 =>
  aj (cF (x26.length = b.rows.length) ()) fun (_ : Unit) =>
  aj (cW x23 x26 (fun a0 a1=>il a0 a1)) fun x29 =>
  some x29)
theorem rQ (a : LResult) (b : LResult) (r : Bool) (H : je a b = some r) :
  aV Tryz.prog 42 [(.agg (nh a)),(.agg (nh b))] (aE r) := by
 unfold je at H
 refine PH.aC Tryz.func42 Tryz.ntmps42 ?_
 refine ac (af (aT ?_))
 refine aT ?_
 refine aq tk rfl (ag (ac (ac (af (am 2 tk rfl (aN tk (zl _) ?_))))))
 refine am 2 tk rfl (aN tk (zl _) ?_)
 refine aq tk rfl (ag ?_)
 refine aP rfl H (fun H=>?_) (fun H=>?_)
 ·refine aw 1 tk rfl ?_
  obtain rfl := ao H
  refine aB tk rfl (ps := [(aE false)]) ⟨_,_,rfl,rfl,rfl⟩ (PLe.q rfl)
 refine av (aw 1 tk rfl (ac (bl tk mok ⟨false,false,[]⟩ [0,1,3,4,2,5,6,7] rfl (by decide +kernel) rfl (aJ 4 rfl ?_))))
 have s17 := mE (m := 17) a.rows
 refine pO (g := 21) rfl rfl rfl rfl Tryz.call21 (jc.r) rfl rfl s17 (fun g17=>?_)
 have s20 := mE (m := 20) b.rows
 refine pO (g := 21) rfl rfl rfl rfl Tryz.call21 (jc.r) rfl rfl s20 (fun g20=>?_)
 refine aJ 2 rfl (be (ac (af (am 2 tk rfl ?_))))
 obtain ⟨x23,h23,H⟩ := ax H
 have s23 := iJ g17 a.rows (fun a0 a1=>eX a0 a1) Tryz.call71 (fun a0 a1 r h=>mT a0 a1 r h) _ h23
 obtain ⟨_,q23_0,H⟩ := ax H
 have l23_0 := (bI q23_0).1
 have z23_0 : (List.map (al 53 ab) a.rows).length = (List.map (al 53 ab) x23).length := by simpa using (l23_0).symm
 refine cf (g := 73) rfl rfl rfl Tryz.call73 [] [(17,0)] rfl rfl rfl rfl (jc.of2 (iw.cons (np.own rfl) (iw.cons (np.of_eq rfl) iw.nil))) (by rw [bR,bL,bS]; rfl) s23 ?_
 rintro u23 H23h ⟨rfl,rfl⟩
 refine ⟨_,rfl,?_⟩
 refine cA (st' := ⟨_,_,fun _=>none,upd (upd (fun _=>none) 20 (some ⟨g20,51,(b.rows.map (al 53 ab)),true⟩)) 17 (some ⟨g17,51,(x23.map (al 53 ab)),true⟩)⟩) (Gh.le (bO _ _) ah (aA (aA ai))) ?_
 refine ag (ac (af (am 2 tk rfl ?_)))
 obtain ⟨x26,h26,H⟩ := ax H
 have s26 := iJ g20 b.rows (fun a0 a1=>eX a0 a1) Tryz.call71 (fun a0 a1 r h=>mT a0 a1 r h) _ h26
 obtain ⟨_,q26_0,H⟩ := ax H
 have l26_0 := (bI q26_0).1
 have z26_0 : (List.map (al 53 ab) b.rows).length = (List.map (al 53 ab) x26).length := by simpa using (l26_0).symm
 refine cf (g := 73) rfl rfl rfl Tryz.call73 [] [(20,0)] rfl rfl rfl rfl (jc.of2 (iw.cons (np.own rfl) (iw.cons (np.of_eq rfl) iw.nil))) (by rw [bR,bL,bS]; rfl) s26 ?_
 rintro u26 H26h ⟨rfl,rfl⟩
 refine ⟨_,rfl,?_⟩
 refine cA (st' := ⟨_,_,fun _=>none,upd (upd (fun _=>none) 20 (some ⟨g20,51,(x26.map (al 53 ab)),true⟩)) 17 (some ⟨g17,51,(x23.map (al 53 ab)),true⟩)⟩) (Gh.le (bO _ _) ah (aA (aA ai))) ?_
 refine ag (ac (el 6 rfl rfl z23_0 (el 7 rfl rfl z26_0 (af (am 2 tk rfl ?_)))))
 obtain ⟨x29,h29,H⟩ := ax H
 have s29 := iG x23 x26 (fun a0 a1=>il a0 a1) Tryz.call74 (fun a0 a1 r h=>qB a0 a1 r h) _ h29
 refine au Tryz.call56 (jc.r) s29 ?_
 refine aq tk rfl (ag ?_)
 obtain rfl := ao H
 refine aB tk rfl (ps := [(aE x29)]) ⟨_,_,rfl,rfl,rfl⟩ (PLe.q rfl)
def gr (sA : LSchema) (vars : List LCol) (q : LQuery) : Option ((List LCol) × Int) :=
 aj (
  aj (jn q) fun x12 =>
  cond (decide ((x12.length : Int) > (24 : Int)))
   (some true)
   (aj (km q) fun x17 =>
   cond (decide (x17 > (12 : Int)))
    (some true)
    (aj (gm q) fun x22 =>
    some (decide (x22 > (20000 : Int)))))) fun (t1 : Bool) =>
 cond t1
  (some ([],2))
  (aj (fE q) fun x27 =>
  cond (x27.2 != (0 : Int))
   (some ([],x27.2))
   (aj (fh (LChecker.mk sA vars) q) fun x38 =>
   some (x38.1,x38.2)))
theorem mi (sA : LSchema) (vars : List LCol) (q : LQuery) (r : (List LCol) × Int) (H : gr sA vars q = some r) :
  aV Tryz.prog 54 [(.agg (eA sA)),(.list 50 (vars.map aG)),(.agg (bD q))] (.tup [(.list 50 (r.1.map aG)),(ae r.2)]) := by
 unfold gr at H
 refine PH.aC Tryz.func54 Tryz.ntmps54 ?_
 refine ac (af (aT ?_))
 refine aT ?_
 refine am 2 tk rfl (ag (ac (ac ?_)))
 obtain ⟨fl1,H1,Hp1⟩ := ax H
 refine aZ (τ := Bool) (γ := Unit) (fun t1 g1=>⟨41,upd (upd (upd (upd (fun _=>.any) 24 (aE t1)) 5 (.ptr [(ae q.kind),(.str q.table),(.list 9 (q.names.map co)),(.list 56 (q.exprs.map bc)),(.list 66 (q.aggregates.map cl)),(.list 4 (q.descending.map cB)),(ae q.count),(ae q.offset),(.list 35 (q.inputs.map aX))])) 3 (.ptr [(.list 91 (sA.tables.map bA)),(.list 142 (sA.foreignKeys.map cD)),(.list 148 (sA.constraints.map cN))])) 1 (.list 50 (vars.map aG)),fun _=>none,fun _=>none⟩) (fun t=>t = fl1) ?_ (fun t1 g1 hn1=>?_)
 ·have H := H1
  refine af (aq tk rfl ?_)
  obtain ⟨x12,h12,H⟩ := ax H
  have s12 := qm (m := 12) q _ h12
  refine au Tryz.call76 (jc.r) (PFun.jI s12) ?_
  refine aN tk (zl _) ?_
  refine am 2 tk rfl ?_
  refine bG rfl rfl rfl H (fun H=>?_) (fun H=>?_)
  ·refine am 9 tk rfl (ag ?_)
   obtain rfl := ao H
   refine aO true () rfl (Gh.le (aa (aa (aa (aa ak)))) ah ai)
  refine aq tk rfl ?_
  obtain ⟨x17,h17,H⟩ := ax H
  have s17 := W_query_depth q _ h17
  refine au Tryz.call88 (jc.r) s17 ?_
  refine am 3 tk rfl ?_
  refine bG rfl rfl rfl H (fun H=>?_) (fun H=>?_)
  ·refine am 4 tk rfl (ag ?_)
   obtain rfl := ao H
   refine aO true () rfl (Gh.le (aa (aa (aa (aa ak)))) ah ai)
  refine aq tk rfl ?_
  obtain ⟨x22,h22,H⟩ := ax H
  have s22 := mZ q _ h22
  refine au Tryz.call89 (jc.r) s22 ?_
  refine am 2 tk rfl (ag ?_)
  obtain rfl := ao H
  refine aO (decide (x22 > (20000 : Int))) () rfl (Gh.le (aa (aa (aa (aa ak)))) ah ai)
 subst hn1
 have H := Hp1
 refine aP rfl H (fun H=>?_) (fun H=>?_)
 ·refine aw 2 tk rfl ?_
  obtain rfl := ao H
  refine aB tk rfl (ps := [(.val (.slice none 0 0)),(ae 2)]) ⟨_,_,rfl,rfl,_,_,rfl,rfl,rfl⟩ (PLe.of2 (np.tup (iw.cons (np.nil tk rfl) (iw.cons (np.of_eq rfl) iw.nil))))
 refine av (ac (ac (af (aq tk rfl ?_))))
 obtain ⟨x27,h27,H⟩ := ax H
 have s27 := lf q _ h27
 refine au Tryz.call87 (jc.r) s27 ?_
 refine am 5 tk rfl (ag (aw 2 tk rfl ?_))
 refine aP rfl H (fun H=>?_) (fun H=>?_)
 ·refine aw 3 tk rfl ?_
  obtain rfl := ao H
  refine aB tk rfl (ps := [(.val (.slice none 0 0)),(ae x27.2)]) ⟨_,_,rfl,rfl,_,_,rfl,rfl,rfl⟩ (PLe.of2 (np.tup (iw.cons (np.nil tk rfl) (iw.cons (np.of_eq rfl) iw.nil))))
 refine av (ac (af (am 3 tk rfl ?_)))
 refine bv tk fun b10=>?_
 refine aD tk ?_
 refine ag (ac (af (aM tk ?_)))
 refine aq tk rfl ?_
 obtain ⟨x38,h38,H⟩ := ax H
 have s38 := kW (LChecker.mk sA vars) q _ h38
 refine au Tryz.call90 (jc.r) s38 ?_
 refine am 4 tk rfl (ag ?_)
 obtain rfl := ao H
 refine aB tk rfl (ps := [(.list 50 (x38.1.map aG)),(ae x38.2)]) ⟨_,_,rfl,rfl,_,_,rfl,rfl,rfl⟩ (PLe.q rfl)
def gH (rA : LRun) (q : LQuery) : Option ((List LCol)) :=
 aj (fh (LChecker.mk rA.s rA.vars) q) fun x14 =>
 some x14.1
theorem lp (rA : LRun) (q : LQuery) (r : (List LCol)) (H : gH rA q = some r) :
  aV Tryz.prog 134 [(.agg (it rA)),(.agg (bD q))] (.list 50 (r.map aG)) := by
 unfold gH at H
 refine PH.aC Tryz.func134 Tryz.ntmps134 ?_
 refine ac (af (aT ?_))
 refine aT ?_
 refine aq tk rfl (ag (ac (af (am 6 tk rfl ?_))))
 obtain ⟨x14,h14,H⟩ := ax H
 have s14 := kW (LChecker.mk rA.s rA.vars) q _ h14
 refine au Tryz.call90 (jc.r) s14 ?_
 refine am 5 tk rfl (ag (aw 2 tk rfl ?_))
 obtain rfl := ao H
 refine aB tk rfl (ps := [(.list 50 (x14.1.map aG))]) ⟨_,_,rfl,rfl,rfl⟩ (PLe.q rfl)
def kg (rec97 : LRun → LQuery → Option (Rz)) (rec132 : LRun → LQuery → Option (Rz)) (rA : LRun) (q : LQuery) : Option (Rz) :=
 cond (q.kind == (1 : Int))
  (aj (ba (σ := Unit) (ρ := (Rz)) (fun (_ : Nat) (x1 : LRelation) (_ : Unit) =>
   cond (x1.table == q.table)
    (some (.ret x1.rows))
    (some (.next ()))) 0 rA.st ()) fun fl1=>fl1.thenR fun (_ : Unit) =>
  some [])
  (bo (
   cond (q.kind == (4 : Int))
    ((q.kind == (4 : Int)))
    ((q.kind == (5 : Int)))) fun (t2 : Bool) =>
  cond t2
   (aj (rec132 rA q) fun x37 =>
   some x37)
   (cond (q.kind == (6 : Int))
    (aj (aF q.inputs 0) fun (x43 : LQuery) =>
    aj (aF q.inputs 1) fun (x50 : LQuery) =>
    aj (rec97 rA x43) fun x45 =>
    aj (rec97 rA x50) fun x52 =>
    aj (ee 24 x45 x52) fun (x53 : Rz) =>
    some x53)
    (cond (q.kind == (7 : Int))
     (aj (aF q.inputs 0) fun (x59 : LQuery) =>
     aj (aF q.inputs 1) fun (x65 : LQuery) =>
     aj (rec97 rA x59) fun x61 =>
     aj (rec97 rA x65) fun x67 =>
     aj (kL x61 x67) fun x68 =>
     some x68)
     (aj (aF q.inputs 0) fun (x72 : LQuery) =>
     aj (rec97 rA x72) fun x74 =>
     aj (aF q.inputs 0) fun (x78 : LQuery) =>
     aj (gH rA x78) fun x80 =>
     cond (q.kind == (2 : Int))
      (aj (dJ x74 (fun a0=>ir a0 rA x80 q)) fun x88 =>
      some x88)
      (cond (q.kind == (3 : Int))
       (aj (ba (σ := Rz) (ρ := Empty) (fun (_ : Nat) (x3 : Rq) (s3 : Rz) =>
        aj (dU rA x80 x3 q.exprs) fun x103 =>
        aj (ee 24 s3 ([x103] : Rz)) fun (x105 : Rz) =>
        some (.next x105)) 0 x74 []) fun fl3=>fl3.thenP fun (s3 : Rz) =>
       some s3)
       (cond (q.kind == (8 : Int))
        (aj (iH rA q x80 x74) fun x114 =>
        some x114)
        (cond (q.kind == (9 : Int))
         (aj (ec rA q x80 x74) fun x121 =>
         some x121)
         (aj (nj x74 (if (x74.length : Int) < q.offset then (x74.length : Int) else q.offset) (i64.wrap ((if (x74.length : Int) < q.offset then (x74.length : Int) else q.offset) + (if (i64.wrap ((x74.length : Int) - (if (x74.length : Int) < q.offset then (x74.length : Int) else q.offset))) < q.count then (i64.wrap ((x74.length : Int) - (if (x74.length : Int) < q.offset then (x74.length : Int) else q.offset))) else q.count)))) fun (x138 : Rz) =>
         some x138))))))))
theorem rl (rec97 : LRun → LQuery → Option (Rz)) (rec132 : LRun → LQuery → Option (Rz)) (hrec97 : ∀ a0 a1 r,rec97 a0 a1 = some r → aV Tryz.prog 97 [(.agg (it a0)),(.agg (bD a1))] (.list 51 (r.map (al 53 ab)))) (hrec132 : ∀ a0 a1 r,rec132 a0 a1 = some r → aV Tryz.prog 132 [(.agg (it a0)),(.agg (bD a1))] (.list 51 (r.map (al 53 ab)))) (rA : LRun) (q : LQuery) (r : Rz) (H : kg rec97 rec132 rA q = some r) :
  aV Tryz.prog 97 [(.agg (it rA)),(.agg (bD q))] (.list 51 (r.map (al 53 ab))) := by
 unfold kg at H
 refine PH.aC Tryz.func97 Tryz.ntmps97 ?_
 refine ac (af (aT ?_))
 refine aT ?_
 refine aq tk rfl (ag (ac (aw 2 tk rfl (az (aw 2 tk rfl ?_)))))
 refine aP rfl H (fun H=>?_) (fun H=>?_)
 ·refine ac (ac (af (am 2 tk rfl (aN tk (zl _) ?_))))
  refine aq tk rfl (ag ?_)
  obtain ⟨fl1,H1,Hp1⟩ := ax H
  refine bU tk 18 rfl rfl (fun hz1 _=>?_)
  rw [zl] at hz1
  refine aZ (τ := Unit) (γ := Unit) (fun s1 g1=>⟨139,fun _=>.any,fun _=>none,fun _=>none⟩) (fun t=>fl1 = .next t) ?_ (fun s1 g1 hn1=>?_)
  ·refine az ?_
   refine bF (fun j1 s1 g1=>⟨139,upd (upd (upd (upd (fun _=>.any) 20 (ae (j1 : Int))) 19 (ae (rA.st.length : Int))) 18 (.list 87 (rA.st.map bV))) 3 (.ptr [(ae q.kind),(.str q.table),(.list 9 (q.names.map co)),(.list 56 (q.exprs.map bc)),(.list 66 (q.aggregates.map cl)),(.list 4 (q.descending.map cB)),(ae q.count),(ae q.offset),(.list 35 (q.inputs.map aX))]),fun _=>none,fun _=>none⟩) () H1 (Gh.le (aa (aa (aa (aa ak)))) ah ai) (fun j1 s1 g1 hj1 hr1=>?_)
   refine aw 1 tk rfl (ac ?_)
   refine aY rfl (fun h=>?_) (fun h=>?_)
   ·have hl1 := cp h
    obtain ⟨x1,fb1,hx1,H,hg1⟩ := rMc hl1 hr1
    refine av (ac (az (ac (af ?_))))
    refine bt tk (zn j1) (bQ (fun _=>rfl) hx1) ?_
    refine aq tk rfl ?_
    refine bv tk fun b6=>?_
    refine aD tk ?_
    refine ag (ac (af (aq tk rfl (aM tk ?_))))
    refine am 3 tk rfl (ag ?_)
    refine aP rfl H (fun H=>?_) (fun H=>?_)
    ·refine ac (af (aq tk rfl (aM tk ?_)))
     refine aq tk rfl (ag ?_)
     obtain rfl := ao H
     have e1 : fl1 = .ret _ := hg1
     subst e1
     obtain rfl := bj Hp1
     refine aB tk rfl (ps := [(.list 51 (x1.rows.map (al 53 ab)))]) ⟨_,_,rfl,rfl,rfl⟩ (PLe.q rfl)
    refine av (aQ (bh 2 tk rfl ?_))
    obtain rfl := ao H
    refine aK () () ⟨hl1,hg1⟩ (Gh.le (aa (aa (aa (aI (PLe.q (aU (by omega))) ak)))) ah ai)
   have hn1 := rMd (cq h) hr1
   refine aR rfl ?_
   refine aO s1 g1 hn1 (Gh.le ak ah ai)
  have H := ck hn1 Hp1
  refine aw 1 tk rfl ?_
  obtain rfl := ao H
  refine aB tk rfl (ps := [(.val (.slice none 0 0))]) ⟨_,_,rfl,rfl,rfl⟩ (PLe.of2 (np.nil tk rfl))
 refine ac (aw 2 tk rfl ?_)
 obtain ⟨fl2,H2,Hp2⟩ := bK H
 refine aZ (τ := Bool) (γ := Unit) (fun t2 g2=>⟨139,upd (upd (upd (upd (fun _=>.any) 32 (aE t2)) 14 (ae q.kind)) 3 (.ptr [(ae q.kind),(.str q.table),(.list 9 (q.names.map co)),(.list 56 (q.exprs.map bc)),(.list 66 (q.aggregates.map cl)),(.list 4 (q.descending.map cB)),(ae q.count),(ae q.offset),(.list 35 (q.inputs.map aX))])) 2 (.ptr [(.list 91 (rA.s.tables.map bA)),(.list 142 (rA.s.foreignKeys.map cD)),(.list 148 (rA.s.constraints.map cN)),(.list 87 (rA.st.map bV)),(.list 53 (rA.args.map ab)),(.list 50 (rA.vars.map aG)),(.list 9 (rA.names.map co)),(.list 53 (rA.vals.map ab))]),fun _=>none,fun _=>none⟩) (fun t=>t = fl2) ?_ (fun t2 g2 hn2=>?_)
 ·have H := H2
  refine aP rfl H (fun H=>?_) (fun H=>?_)
  ·refine av ?_
   subst H
   refine aO (q.kind == (4 : Int)) () rfl (Gh.le (aa (aa (aa (aa ak)))) ah ai)
  refine bh 2 tk rfl ?_
  subst H
  refine aO (q.kind == (5 : Int)) () rfl (Gh.le (aa (aa (aa (aa ak)))) ah ai)
 subst hn2
 have H := Hp2
 refine aP rfl H (fun H=>?_) (fun H=>?_)
 ·refine ac (af (am 2 tk rfl ?_))
  obtain ⟨x37,h37,H⟩ := ax H
  have s37 := hrec132 rA q _ h37
  refine au Tryz.call132 (jc.r) s37 ?_
  refine aq tk rfl (ag ?_)
  obtain rfl := ao H
  refine aB tk rfl (ps := [(.list 51 (x37.map (al 53 ab)))]) ⟨_,_,rfl,rfl,rfl⟩ (PLe.q rfl)
 refine aw 2 tk rfl ?_
 refine aP rfl H (fun H=>?_) (fun H=>?_)
 ·refine ac (bl tk mok ⟨false,false,[]⟩ [0,1,2,3,4,7,8,9,10,11,5,6,12,13,14] rfl (by decide +kernel) rfl (aJ 3 rfl ?_))
  obtain ⟨x43,k43,H⟩ := aW H
  refine bX k43.1 (aH cK k43.2) ?_
  refine aJ 4 rfl ?_
  obtain ⟨x50,k50,H⟩ := aW H
  refine bX k50.1 (aH cK k50.2) ?_
  refine cC rfl ?_
  obtain ⟨x45,h45,H⟩ := ax H
  have s45 := hrec97 rA x43 _ h45
  refine bg Tryz.call97 (jc.r) s45 ?_
  have s46 := mE (m := 46) x45
  refine pO (g := 21) rfl rfl rfl rfl Tryz.call21 (jc.r) rfl rfl s46 (fun g46=>?_)
  obtain ⟨x52,h52,H⟩ := ax H
  have s52 := hrec97 rA x50 _ h52
  refine bg Tryz.call97 (jc.r) s52 ?_
  obtain ⟨x53,h53,H⟩ := ax H
  have k53 := dw h53
  refine me (rows2' := List.map (al 53 ab) x52) (rows' := List.map (al 53 ab) x53) tk rfl rfl rfl rfl rfl rfl rfl rfl rfl rfl rfl rfl rfl rfl (gk.refl _) (eK k53.1) (eN k53.2.1) (eR k53.2.2) fun g53=>?_
  refine cC rfl (be ?_)
  obtain rfl := ao H
  refine el 4 rfl rfl rfl ?_
  refine aB tk rfl (ps := [(.list 51 (x53.map (al 53 ab)))]) ⟨_,_,rfl,rfl,rfl⟩ (PLe.q rfl)
 refine aw 2 tk rfl ?_
 refine aP rfl H (fun H=>?_) (fun H=>?_)
 ·refine ac (bl tk mok ⟨false,false,[]⟩ [0,1,2,3,4,6,7,8,9,10,5,11,12,13] rfl (by decide +kernel) rfl (aJ 3 rfl ?_))
  obtain ⟨x59,k59,H⟩ := aW H
  refine bX k59.1 (aH cK k59.2) ?_
  refine aJ 4 rfl ?_
  obtain ⟨x65,k65,H⟩ := aW H
  refine bX k65.1 (aH cK k65.2) ?_
  refine cC rfl ?_
  obtain ⟨x61,h61,H⟩ := ax H
  have s61 := hrec97 rA x59 _ h61
  refine bg Tryz.call97 (jc.r) s61 ?_
  obtain ⟨x67,h67,H⟩ := ax H
  have s67 := hrec97 rA x65 _ h67
  refine bg Tryz.call97 (jc.r) s67 ?_
  obtain ⟨x68,h68,H⟩ := ax H
  have s68 := W_query_less x61 x67 _ h68
  refine bg Tryz.call133 (jc.r) s68 ?_
  refine cC rfl (be ?_)
  obtain rfl := ao H
  refine aB tk rfl (ps := [(.list 51 (x68.map (al 53 ab)))]) ⟨_,_,rfl,rfl,rfl⟩ (PLe.q rfl)
 refine av (aQ (ac (bl tk mok ⟨false,false,[]⟩ [0,1,2,3,4,5,6] rfl (by decide +kernel) rfl (aJ 3 rfl ?_))))
 obtain ⟨x72,k72,H⟩ := aW H
 refine bX k72.1 (aH cK k72.2) ?_
 refine cC rfl ?_
 obtain ⟨x74,h74,H⟩ := ax H
 have s74 := hrec97 rA x72 _ h74
 refine bg Tryz.call97 (jc.r) s74 ?_
 refine cC rfl (be (ac (bl tk mok ⟨false,false,[]⟩ [0,1,2,3,4,5,6,7] rfl (by decide +kernel) rfl (aJ 3 rfl ?_))))
 obtain ⟨x78,k78,H⟩ := aW H
 refine bX k78.1 (aH cK k78.2) ?_
 refine cC rfl ?_
 obtain ⟨x80,h80,H⟩ := ax H
 have s80 := lp rA x78 _ h80
 refine bg Tryz.call134 (jc.r) s80 ?_
 refine mt rfl rfl rfl rfl rfl rfl rfl rfl fun b8=>?_
 refine dK ?_
 refine be (ac (aw 2 tk rfl (az (aw 2 tk rfl ?_))))
 refine aP rfl H (fun H=>?_) (fun H=>?_)
 ·refine ac (af (aq tk rfl ?_))
  have s86 := mE (m := 86) x74
  refine lz (g := 21) rfl rfl rfl Tryz.call21 (jc.r) rfl rfl s86 (fun g86=>?_)
  refine cA (Gh.freezeB 8 rfl rfl rfl rfl) (aq tk rfl ?_)
  obtain ⟨x88,h88,H⟩ := ax H
  have s88 := kF g86 x74 (fun a0=>ir a0 rA x80 q) Tryz.call136 (fun a0 r h=>qL a0 rA x80 q r h) _ h88
  refine cf (g := 135) rfl rfl rfl Tryz.call135 [] [(86,0)] rfl rfl rfl rfl (jc.of2 (iw.cons (np.own rfl) (iw.cons (np.of_eq rfl) iw.nil))) (by rw [bR,bL,bS]; rfl) s88 ?_
  rintro u88 H88h ⟨rfl,rfl⟩
  refine ⟨_,rfl,?_⟩
  refine cA (st' := ⟨_,_,fun _=>none,upd (fun _=>none) 86 (some ⟨g86,51,(x88.map (al 53 ab)),true⟩)⟩) (Gh.le (bO _ _) ah (aA ai)) ?_
  refine lF 88 (q := (.own 86 g86 (x88.map (al 53 ab)).length)) rfl (PLe.of2 (np.own rfl)) (aq tk rfl (ag ?_))
  obtain rfl := ao H
  refine el 4 rfl rfl rfl ?_
  refine aB tk rfl (ps := [(.list 51 (x88.map (al 53 ab)))]) ⟨_,_,rfl,rfl,rfl⟩ (PLe.q rfl)
 refine aw 2 tk rfl ?_
 refine aP rfl H (fun H=>?_) (fun H=>?_)
 ·refine aw 1 tk rfl (ac (ac (af (aq tk rfl (aN tk (zl _) ?_)))))
  refine aq tk rfl (ag ?_)
  obtain ⟨fl3,H3,Hp3⟩ := ax H
  refine bU tk 91 rfl rfl (fun hz3 _=>?_)
  rw [zl] at hz3
  refine aZ (τ := Rz) (γ := OwnRef) (fun s3 g3=>⟨139,upd (fun _=>.any) 9 (.own 105 g3 (s3.map (al 53 ab)).length),fun _=>none,upd (fun _=>none) 105 (some ⟨g3,51,(s3.map (al 53 ab)),true⟩)⟩) (fun t=>fl3 = .next t) ?_ (fun s3 g3 hn3=>?_)
  ·refine az (jb tk 9 105 (e := 51) rfl rfl ?_)
   refine bF (fun j3 s3 g3=>⟨139,upd (upd (upd (upd (upd (upd (upd (fun _=>.any) 93 (ae (j3 : Int))) 92 (ae (x74.length : Int))) 91 (.list 51 (x74.map (al 53 ab)))) 9 (.own 105 g3 (s3.map (al 53 ab)).length)) 8 (.box 8 b8 0)) 3 (.ptr [(ae q.kind),(.str q.table),(.list 9 (q.names.map co)),(.list 56 (q.exprs.map bc)),(.list 66 (q.aggregates.map cl)),(.list 4 (q.descending.map cB)),(ae q.count),(ae q.offset),(.list 35 (q.inputs.map aX))])) 2 (.ptr [(.list 91 (rA.s.tables.map bA)),(.list 142 (rA.s.foreignKeys.map cD)),(.list 148 (rA.s.constraints.map cN)),(.list 87 (rA.st.map bV)),(.list 53 (rA.args.map ab)),(.list 50 (rA.vars.map aG)),(.list 9 (rA.names.map co)),(.list 53 (rA.vals.map ab))]),upd (fun _=>none) 8 (some ⟨b8,[(.list 50 (x80.map aG))]⟩),upd (fun _=>none) 105 (some ⟨g3,51,(s3.map (al 53 ab)),true⟩)⟩) (⟨none,0⟩) H3 (Gh.le (aa (aa (aa (aa (aa (aa (aa ak))))))) (ay rfl (jc.r) ah) (aA ai)) (fun j3 s3 g3 hj3 hr3=>?_)
   refine aw 1 tk rfl (ac ?_)
   refine aY rfl (fun h=>?_) (fun h=>?_)
   ·have hl3 := cp h
    obtain ⟨x3,fb3,hx3,H,hg3⟩ := rMc hl3 hr3
    refine av (ac (az (ac (af ?_))))
    refine bt tk (zn j3) (bQ (fun _=>rfl) hx3) ?_
    refine am 2 tk rfl (ag (af (am 2 tk rfl (aM tk ?_))))
    refine am 3 tk rfl ?_
    obtain ⟨x103,h103,H⟩ := ax H
    have s103 := jR rA x80 x3 q.exprs _ h103
    refine au Tryz.call140 (jc.r) s103 ?_
    refine cO tk (rows' := List.map (al 53 ab) ([x103] : Rz)) (gk.refl _) ?_
    obtain ⟨x105,h105,H⟩ := ax H
    have k105 := dw h105
    refine dr (rows2' := List.map (al 53 ab) ([x103] : Rz)) (rows' := List.map (al 53 ab) x105) tk rfl rfl rfl rfl rfl rfl rfl rfl rfl rfl rfl rfl rfl (gk.refl _) (eK k105.1) (eN k105.2.1) (eR k105.2.2) fun g105=>?_
    refine aq tk rfl (ag (aQ (bh 2 tk rfl ?_)))
    obtain rfl := ao H
    refine aK x105 g105 ⟨hl3,hg3⟩ (Gh.le (aa (aa (aa (aa (aa (aa (aI (PLe.q (aU (by omega))) ak))))))) (ay rfl (jc.r) ah) (aA ai))
   have hn3 := rMd (cq h) hr3
   refine aR rfl ?_
   refine aO s3 g3 hn3 (Gh.le (aa ak) ah (aA ai))
  have H := bq hn3 Hp3
  refine aw 2 tk rfl ?_
  obtain rfl := ao H
  refine el 4 rfl rfl rfl ?_
  refine aB tk rfl (ps := [(.list 51 (s3.map (al 53 ab)))]) ⟨_,_,rfl,rfl,rfl⟩ (PLe.q rfl)
 refine aw 2 tk rfl ?_
 refine aP rfl H (fun H=>?_) (fun H=>?_)
 ·refine ac (af (am 2 tk rfl (aM tk ?_)))
  refine aq tk rfl ?_
  obtain ⟨x114,h114,H⟩ := ax H
  have s114 := rf rA q x80 x74 _ h114
  refine au Tryz.call141 (jc.r) s114 ?_
  refine aq tk rfl (ag ?_)
  obtain rfl := ao H
  refine aB tk rfl (ps := [(.list 51 (x114.map (al 53 ab)))]) ⟨_,_,rfl,rfl,rfl⟩ (PLe.q rfl)
 refine aw 2 tk rfl ?_
 refine aP rfl H (fun H=>?_) (fun H=>?_)
 ·refine ac (af (am 2 tk rfl (aM tk ?_)))
  refine aq tk rfl ?_
  obtain ⟨x121,h121,H⟩ := ax H
  have s121 := rO rA q x80 x74 _ h121
  refine au Tryz.call142 (jc.r) s121 ?_
  refine aq tk rfl (ag ?_)
  obtain rfl := ao H
  refine aB tk rfl (ps := [(.list 51 (x121.map (al 53 ab)))]) ⟨_,_,rfl,rfl,rfl⟩ (PLe.q rfl)
 refine av (aQ (ac (af (am 3 tk rfl (aN tk (zl _) ?_)))))
 refine am 2 tk rfl (ag (ac (af (am 6 tk rfl (aN tk (zl _) ?_)))))
 refine am 4 tk rfl ?_
 obtain ⟨x138,h138,H⟩ := ax H
 have k138 := oO h138
 refine rX tk rfl rfl rfl rfl rfl (zl _) rfl rfl k138.1 (pZ k138.2) rfl (aq tk rfl (ag ?_))
 obtain rfl := ao H
 refine aB tk rfl (ps := [(.list 51 (x138.map (al 53 ab)))]) ⟨_,_,rfl,rfl,rfl⟩ (PLe.q rfl)
def jg (rec97 : LRun → LQuery → Option (Rz)) (_rec132 : LRun → LQuery → Option (Rz)) (rA : LRun) (q : LQuery) : Option (Rz) :=
 aj (aF q.inputs 0) fun (x19 : LQuery) =>
 aj (aF q.inputs 1) fun (x25 : LQuery) =>
 aj (rec97 rA x19) fun x21 =>
 aj (rec97 rA x25) fun x27 =>
 aj (aF q.inputs 1) fun (x31 : LQuery) =>
 aj (gH rA x31) fun x33 =>
 aj (aF q.inputs 0) fun (x37 : LQuery) =>
 aj (gH rA x37) fun x39 =>
 aj (ee 32 x39 x33) fun (x42 : List LCol) =>
 aj (ba (σ := List LCol × Rz) (ρ := Empty) (fun (_ : Nat) (x1 : Rq) (s1 : List LCol × Rz) =>
  aj (ba (σ := Rz × Bool) (ρ := Empty) (fun (_ : Nat) (x6 : Rq) (s6 : Rz × Bool) =>
   aj (ct ([x1,x6] : Rz)) fun x58 =>
   aj (aF q.exprs 0) fun (x65 : LExpr) =>
   bo (bE rA s1.1 x58) fun x62 =>
   bo (dg x62 x65) fun x67 =>
   bo (kV x67) fun x68 =>
   cond x68
    (aj (ee 24 s6.1 ([x58] : Rz)) fun (x72 : Rz) =>
    some (.next (x72,true)))
    (some (.next (s6.1,s6.2)))) 0 x27 (s1.2,false)) fun fl6=>fl6.thenP fun (s6 : Rz × Bool) =>
  bo (
   cond (!s6.2)
    ((q.kind == (5 : Int)))
    (false)) fun (t7 : Bool) =>
  cond t7
   (aj (oJ 32 (x33.length : Int)) fun (_ : Unit) =>
   aj (ct ([x1,(List.replicate (x33.length : Int).toNat (LVal.mk 0 0 []))] : Rz)) fun x87 =>
   aj (ee 24 s6.1 ([x87] : Rz)) fun (x89 : Rz) =>
   some (.next (s1.1,x89)))
   (some (.next (s1.1,s6.1)))) 0 x21 (x42,[])) fun fl1=>fl1.thenP fun (s1 : List LCol × Rz) =>
 some s1.2
theorem rc (rec97 : LRun → LQuery → Option (Rz)) (rec132 : LRun → LQuery → Option (Rz)) (hrec97 : ∀ a0 a1 r,rec97 a0 a1 = some r → aV Tryz.prog 97 [(.agg (it a0)),(.agg (bD a1))] (.list 51 (r.map (al 53 ab)))) (_hrec132 : ∀ a0 a1 r,rec132 a0 a1 = some r → aV Tryz.prog 132 [(.agg (it a0)),(.agg (bD a1))] (.list 51 (r.map (al 53 ab)))) (rA : LRun) (q : LQuery) (r : Rz) (H : jg rec97 rec132 rA q = some r) :
  aV Tryz.prog 132 [(.agg (it rA)),(.agg (bD q))] (.list 51 (r.map (al 53 ab))) := by
 unfold jg at H
 refine PH.aC Tryz.func132 Tryz.ntmps132 ?_
 refine ac (af (aT ?_))
 refine aT ?_
 refine aq tk rfl (ag (ac (bl tk mok ⟨false,false,[]⟩ [0,1,2,3,4,6,7,8,9,10,5,11,12,13] rfl (by decide +kernel) rfl (aJ 3 rfl ?_))))
 obtain ⟨x19,k19,H⟩ := aW H
 refine bX k19.1 (aH cK k19.2) ?_
 refine aJ 4 rfl ?_
 obtain ⟨x25,k25,H⟩ := aW H
 refine bX k25.1 (aH cK k25.2) ?_
 refine cC rfl ?_
 obtain ⟨x21,h21,H⟩ := ax H
 have s21 := hrec97 rA x19 _ h21
 refine bg Tryz.call97 (jc.r) s21 ?_
 obtain ⟨x27,h27,H⟩ := ax H
 have s27 := hrec97 rA x25 _ h27
 refine bg Tryz.call97 (jc.r) s27 ?_
 refine aJ 2 rfl (be (ac (bl tk mok ⟨false,false,[]⟩ [0,1,2,3,4,5,6] rfl (by decide +kernel) rfl (aJ 3 rfl ?_))))
 obtain ⟨x31,k31,H⟩ := aW H
 refine bX k31.1 (aH cK k31.2) ?_
 refine cC rfl ?_
 obtain ⟨x33,h33,H⟩ := ax H
 have s33 := lp rA x31 _ h33
 refine bg Tryz.call134 (jc.r) s33 ?_
 refine cC rfl (be (ac (bl tk mok ⟨false,false,[]⟩ [0,1,2,3,4,7,5,6,8,9] rfl (by decide +kernel) rfl (aJ 3 rfl ?_))))
 obtain ⟨x37,k37,H⟩ := aW H
 refine bX k37.1 (aH cK k37.2) ?_
 refine aJ 2 rfl ?_
 obtain ⟨x39,h39,H⟩ := ax H
 have s39 := lp rA x37 _ h39
 refine bg Tryz.call134 (jc.r) s39 ?_
 have s40 := oG (m := 40) x39
 refine pO (g := 155) rfl rfl rfl rfl Tryz.call155 (jc.r) rfl rfl s40 (fun g40=>?_)
 obtain ⟨x42,h42,H⟩ := ax H
 have k42 := dw h42
 refine me (rows2' := List.map aG x33) (rows' := List.map aG x42) tk rfl rfl rfl rfl rfl rfl rfl rfl rfl rfl rfl rfl rfl rfl (gk.refl _) (eK k42.1) (eN k42.2.1) (eR k42.2.2) fun g42=>?_
 refine cC rfl (be (aw 1 tk rfl (ac (ac (af (aq tk rfl (aN tk (zl _) ?_)))))))
 refine aq tk rfl (ag ?_)
 obtain ⟨fl1,H1,Hp1⟩ := ax H
 refine bU tk 43 rfl rfl (fun hz1 _=>?_)
 rw [zl] at hz1
 refine aZ (τ := List LCol × Rz) (γ := OwnRef) (fun s1 g1=>⟨92,upd (fun _=>.any) 9 (.own 72 g1 (s1.2.map (al 53 ab)).length),fun _=>none,upd (fun _=>none) 72 (some ⟨g1,51,(s1.2.map (al 53 ab)),true⟩)⟩) (fun t=>fl1 = .next t) ?_ (fun s1 g1 hn1=>?_)
 ·refine az (el 8 rfl rfl rfl (jb tk 9 72 (e := 51) rfl rfl ?_))
  refine bF (fun j1 s1 g1=>⟨92,upd (upd (upd (upd (upd (upd (upd (upd (upd (fun _=>.any) 45 (ae (j1 : Int))) 44 (ae (x21.length : Int))) 43 (.list 51 (x21.map (al 53 ab)))) 9 (.own 72 g1 (s1.2.map (al 53 ab)).length)) 8 (.list 50 (s1.1.map aG))) 7 (.list 50 (x33.map aG))) 6 (.list 51 (x27.map (al 53 ab)))) 3 (.ptr [(ae q.kind),(.str q.table),(.list 9 (q.names.map co)),(.list 56 (q.exprs.map bc)),(.list 66 (q.aggregates.map cl)),(.list 4 (q.descending.map cB)),(ae q.count),(ae q.offset),(.list 35 (q.inputs.map aX))])) 2 (.ptr [(.list 91 (rA.s.tables.map bA)),(.list 142 (rA.s.foreignKeys.map cD)),(.list 148 (rA.s.constraints.map cN)),(.list 87 (rA.st.map bV)),(.list 53 (rA.args.map ab)),(.list 50 (rA.vars.map aG)),(.list 9 (rA.names.map co)),(.list 53 (rA.vals.map ab))]),fun _=>none,upd (fun _=>none) 72 (some ⟨g1,51,(s1.2.map (al 53 ab)),true⟩)⟩) (⟨none,0⟩) H1 (Gh.le (aa (aa (aa (aa (aa (aa (aa (aa (aa ak))))))))) ah (aA ai)) (fun j1 s1 g1 hj1 hr1=>?_)
  refine aw 1 tk rfl (ac ?_)
  refine aY rfl (fun h=>?_) (fun h=>?_)
  ·have hl1 := cp h
   obtain ⟨x1,fb1,hx1,H,hg1⟩ := rMc hl1 hr1
   refine av (ac (az (ac (af ?_))))
   refine bt tk (zn j1) (bQ (fun _=>rfl) hx1) ?_
   refine am 2 tk rfl (ag (aw 1 tk rfl (ac (ac (af (aq tk rfl (aN tk (zl _) ?_)))))))
   refine aq tk rfl (ag ?_)
   obtain ⟨fl6,H6,Hp6⟩ := ax H
   refine bU tk 49 rfl rfl (fun hz6 _=>?_)
   rw [zl] at hz6
   refine aZ (τ := Rz × Bool) (γ := OwnRef) (fun s6 g6=>⟨92,upd (upd (upd (upd (upd (upd (upd (upd (upd (upd (upd (fun _=>.any) 45 (ae (j1 : Int))) 44 (ae (x21.length : Int))) 43 (.list 51 (x21.map (al 53 ab)))) 12 (aE s6.2)) 11 (.list 53 (x1.map ab))) 9 (.own 72 g6 (s6.1.map (al 53 ab)).length)) 8 (.list 50 (s1.1.map aG))) 7 (.list 50 (x33.map aG))) 6 (.list 51 (x27.map (al 53 ab)))) 3 (.ptr [(ae q.kind),(.str q.table),(.list 9 (q.names.map co)),(.list 56 (q.exprs.map bc)),(.list 66 (q.aggregates.map cl)),(.list 4 (q.descending.map cB)),(ae q.count),(ae q.offset),(.list 35 (q.inputs.map aX))])) 2 (.ptr [(.list 91 (rA.s.tables.map bA)),(.list 142 (rA.s.foreignKeys.map cD)),(.list 148 (rA.s.constraints.map cN)),(.list 87 (rA.st.map bV)),(.list 53 (rA.args.map ab)),(.list 50 (rA.vars.map aG)),(.list 9 (rA.names.map co)),(.list 53 (rA.vals.map ab))]),fun _=>none,upd (fun _=>none) 72 (some ⟨g6,51,(s6.1.map (al 53 ab)),true⟩)⟩) (fun t=>fl6 = .next t) ?_ (fun s6 g6 hn6=>?_)
   ·refine az ?_
    refine bF (fun j6 s6 g6=>⟨92,upd (upd (upd (upd (upd (upd (upd (upd (upd (upd (upd (upd (upd (upd (fun _=>.any) 51 (ae (j6 : Int))) 50 (ae (x27.length : Int))) 49 (.list 51 (x27.map (al 53 ab)))) 45 (ae (j1 : Int))) 44 (ae (x21.length : Int))) 43 (.list 51 (x21.map (al 53 ab)))) 12 (aE s6.2)) 11 (.list 53 (x1.map ab))) 9 (.own 72 g6 (s6.1.map (al 53 ab)).length)) 8 (.list 50 (s1.1.map aG))) 7 (.list 50 (x33.map aG))) 6 (.list 51 (x27.map (al 53 ab)))) 3 (.ptr [(ae q.kind),(.str q.table),(.list 9 (q.names.map co)),(.list 56 (q.exprs.map bc)),(.list 66 (q.aggregates.map cl)),(.list 4 (q.descending.map cB)),(ae q.count),(ae q.offset),(.list 35 (q.inputs.map aX))])) 2 (.ptr [(.list 91 (rA.s.tables.map bA)),(.list 142 (rA.s.foreignKeys.map cD)),(.list 148 (rA.s.constraints.map cN)),(.list 87 (rA.st.map bV)),(.list 53 (rA.args.map ab)),(.list 50 (rA.vars.map aG)),(.list 9 (rA.names.map co)),(.list 53 (rA.vals.map ab))]),fun _=>none,upd (fun _=>none) 72 (some ⟨g6,51,(s6.1.map (al 53 ab)),true⟩)⟩) g1 H6 (Gh.le (aa (aa (aa (aa (aa (aa (aa (aa (aa (aa (aa (aa (aa (aa ak)))))))))))))) ah (aA ai)) (fun j6 s6 g6 hj6 hr6=>?_)
    refine aw 1 tk rfl (ac ?_)
    refine aY rfl (fun h=>?_) (fun h=>?_)
    ·have hl6 := cp h
     obtain ⟨x6,fb6,hx6,H,hg6⟩ := rMc hl6 hr6
     refine av (ac (az (ac (af ?_))))
     refine bt tk (zn j6) (bQ (fun _=>rfl) hx6) ?_
     refine am 2 tk rfl (ag (ac (af (am 2 tk rfl (cO tk (rows' := List.map (al 53 ab) ([x1,x6] : Rz)) (gk.refl _) ?_)))))
     obtain ⟨x58,h58,H⟩ := ax H
     have s58 := iR (m := 58) ([x1,x6] : Rz) _ h58
     refine au Tryz.call168 (jc.r) (PFun.jI s58) ?_
     refine aq tk rfl (ag (ac (bl tk mok ⟨false,false,[]⟩ [0,1,2,4,5,6,7,3,8,9] rfl (by decide +kernel) rfl (aJ 5 rfl ?_))))
     obtain ⟨x65,k65,H⟩ := aW H
     refine bX k65.1 (aH eF k65.2) ?_
     refine cC rfl ?_
     obtain ⟨x62,h62,H⟩ := bK H
     have s62 := kw rA s1.1 x58
     rw [h62] at s62
     refine bg Tryz.call139 (jc.r) s62 ?_
     obtain ⟨x67,h67,H⟩ := bK H
     have s67 := mP x62 x65
     rw [h67] at s67
     refine bg Tryz.call138 (jc.r) s67 ?_
     obtain ⟨x68,h68,H⟩ := bK H
     have s68 := isTS x67
     rw [h68] at s68
     refine bg Tryz.call137 (jc.r) s68 ?_
     refine be ?_
     refine aP rfl H (fun H=>?_) (fun H=>?_)
     ·refine ac (af (am 2 tk rfl (cO tk (rows' := List.map (al 53 ab) ([x58] : Rz)) (gk.refl _) ?_)))
      obtain ⟨x72,h72,H⟩ := ax H
      have k72 := dw h72
      refine dr (rows2' := List.map (al 53 ab) ([x58] : Rz)) (rows' := List.map (al 53 ab) x72) tk rfl rfl rfl rfl rfl rfl rfl rfl rfl rfl rfl rfl rfl (gk.refl _) (eK k72.1) (eN k72.2.1) (eR k72.2.2) fun g72=>?_
      refine aq tk rfl (ag (bh 1 tk rfl (aQ (bh 2 tk rfl ?_))))
      obtain rfl := ao H
      refine aK (x72,true) g72 ⟨hl6,hg6⟩ (Gh.le (aa (aa (aa (aa (aa (aa (aa (aa (aa (aa (aa (aa (aa (aI (PLe.q (aU (by omega))) ak)))))))))))))) ah (aA ai))
     refine av (aQ (bh 2 tk rfl ?_))
     obtain rfl := ao H
     refine aK (s6.1,s6.2) g6 ⟨hl6,hg6⟩ (Gh.le (aa (aa (aa (aa (aa (aa (aa (aa (aa (aa (aa (aa (aa (aI (PLe.q (aU (by omega))) ak)))))))))))))) ah (aA ai))
    have hn6 := rMd (cq h) hr6
    refine aR rfl ?_
    refine aO s6 g6 hn6 (Gh.le (aa (aa (aa (aa (aa (aa (aa (aa (aa (aa (aa ak))))))))))) ah (aA ai))
   have H := bq hn6 Hp6
   refine ac ?_
   obtain ⟨fl7,H7,Hp7⟩ := bK H
   refine aZ (τ := Bool) (γ := Unit) (fun t7 g7=>⟨92,upd (upd (upd (upd (upd (upd (upd (upd (upd (upd (upd (fun _=>.any) 80 (aE t7)) 45 (ae (j1 : Int))) 44 (ae (x21.length : Int))) 43 (.list 51 (x21.map (al 53 ab)))) 11 (.list 53 (x1.map ab))) 9 (.own 72 g6 (s6.1.map (al 53 ab)).length)) 8 (.list 50 (s1.1.map aG))) 7 (.list 50 (x33.map aG))) 6 (.list 51 (x27.map (al 53 ab)))) 3 (.ptr [(ae q.kind),(.str q.table),(.list 9 (q.names.map co)),(.list 56 (q.exprs.map bc)),(.list 66 (q.aggregates.map cl)),(.list 4 (q.descending.map cB)),(ae q.count),(ae q.offset),(.list 35 (q.inputs.map aX))])) 2 (.ptr [(.list 91 (rA.s.tables.map bA)),(.list 142 (rA.s.foreignKeys.map cD)),(.list 148 (rA.s.constraints.map cN)),(.list 87 (rA.st.map bV)),(.list 53 (rA.args.map ab)),(.list 50 (rA.vars.map aG)),(.list 9 (rA.names.map co)),(.list 53 (rA.vals.map ab))]),fun _=>none,upd (fun _=>none) 72 (some ⟨g6,51,(s6.1.map (al 53 ab)),true⟩)⟩) (fun t=>t = fl7) ?_ (fun t7 g7 hn7=>?_)
   ·have H := H7
    refine af (am 3 tk rfl ?_)
    refine bG rfl rfl rfl H (fun H=>?_) (fun H=>?_)
    ·refine am 4 tk rfl (ag ?_)
     subst H
     refine aO (q.kind == (5 : Int)) () rfl (Gh.le (aa (aa (aa (aa (aa (aa (aa (aa (aa (aa (aa ak))))))))))) ah (aA ai))
    refine am 4 tk rfl (ag ?_)
    subst H
    refine aO false () rfl (Gh.le (aa (aa (aa (aa (aa (aa (aa (aa (aa (aa (aa ak))))))))))) ah (aA ai))
   subst hn7
   have H := Hp7
   refine aP rfl H (fun H=>?_) (fun H=>?_)
   ·refine af (am 3 tk rfl (aN tk (zl _) ?_))
    obtain ⟨_,h85,H⟩ := ax H
    have k85 := growI_some h85
    refine sK (rows := List.map ab (List.replicate (x33.length : Int).toNat (LVal.mk 0 0 []))) tk rfl rfl rfl rfl rfl rfl rfl rfl rfl rfl k85.1 k85.2.1 k85.2.2 (by rw [List.map_replicate]; rfl) fun g85=>?_
    refine cA (Gh.freezeO 85 rfl rfl rfl) (cO tk (rows' := List.map (al 53 ab) ([x1,(List.replicate (x33.length : Int).toNat (LVal.mk 0 0 []))] : Rz)) (gk.refl _) ?_)
    obtain ⟨x87,h87,H⟩ := ax H
    have s87 := iR (m := 87) ([x1,(List.replicate (x33.length : Int).toNat (LVal.mk 0 0 []))] : Rz) _ h87
    refine au Tryz.call168 (jc.r) (PFun.jI s87) ?_
    refine cO tk (rows' := List.map (al 53 ab) ([x87] : Rz)) (gk.refl _) ?_
    obtain ⟨x89,h89,H⟩ := ax H
    have k89 := dw h89
    refine dr (rows2' := List.map (al 53 ab) ([x87] : Rz)) (rows' := List.map (al 53 ab) x89) tk rfl rfl rfl rfl rfl rfl rfl rfl rfl rfl rfl rfl rfl (gk.refl _) (eK k89.1) (eN k89.2.1) (eR k89.2.2) fun g89=>?_
    refine aq tk rfl (ag (aQ (bh 2 tk rfl ?_)))
    obtain rfl := ao H
    refine aK (s1.1,x89) g89 ⟨hl1,hg1⟩ (Gh.le (aa (aa (aa (aa (aa (aa (aa (aa (aI (PLe.q (aU (by omega))) ak))))))))) ah (aA ai))
   refine av (aQ (bh 2 tk rfl ?_))
   obtain rfl := ao H
   refine aK (s1.1,s6.1) g6 ⟨hl1,hg1⟩ (Gh.le (aa (aa (aa (aa (aa (aa (aa (aa (aI (PLe.q (aU (by omega))) ak))))))))) ah (aA ai))
  have hn1 := rMd (cq h) hr1
  refine aR rfl ?_
  refine aO s1 g1 hn1 (Gh.le (aa ak) ah (aA ai))
 have H := bq hn1 Hp1
 refine aw 2 tk rfl ?_
 obtain rfl := ao H
 refine el 4 rfl rfl rfl ?_
 refine aB tk rfl (ps := [(.list 51 (s1.2.map (al 53 ab)))]) ⟨_,_,rfl,rfl,rfl⟩ (PLe.q rfl)
mutual
def fo : Nat → LRun → LQuery → Option (Rz)
 | 0,_,_=>none
 | n + 1,v0,v1=>kg (fun b0 b1=>fo n b0 b1) (fun b0 b1=>gD n b0 b1) v0 v1
def gD : Nat → LRun → LQuery → Option (Rz)
 | 0,_,_=>none
 | n + 1,v0,v1=>jg (fun b0 b1=>fo n b0 b1) (fun b0 b1=>gD n b0 b1) v0 v1
end
theorem rg  (n : Nat) : (∀ a0 a1 r,fo n a0 a1 = some r → aV Tryz.prog 97 [(.agg (it a0)),(.agg (bD a1))] (.list 51 (r.map (al 53 ab)))) ∧ (∀ a0 a1 r,gD n a0 a1 = some r → aV Tryz.prog 132 [(.agg (it a0)),(.agg (bD a1))] (.list 51 (r.map (al 53 ab)))) := by
 induction n with
 | zero=>exact ⟨(by intros; rename_i h; exact absurd (show (none : Option _) = some _ from h) (by simp)),(by intros; rename_i h; exact absurd (show (none : Option _) = some _ from h) (by simp))⟩
 | succ n ih =>
  exact ⟨(fun v0 v1 r h=>rl (fun b0 b1=>fo n b0 b1) (fun b0 b1=>gD n b0 b1) ih.1 ih.2 v0 v1  r h),(fun v0 v1 r h=>rc (fun b0 b1=>fo n b0 b1) (fun b0 b1=>gD n b0 b1) ih.1 ih.2 v0 v1  r h)⟩
def lq (rA : LRun) (q : LQuery) : Option (Rz) := iQ fun n=>fo n rA q
theorem rP (rA : LRun) (q : LQuery) (r : Rz) (H : lq rA q = some r) :
  aV Tryz.prog 97 [(.agg (it rA)),(.agg (bD q))] (.list 51 (r.map (al 53 ab))) := by
 obtain ⟨n,h⟩ := jy H
 exact (rg  n).1 rA q r h
def lm (sA : LSchema) (q : LQuery) : Option ((List LCol) × Int) :=
 aj (gr sA ([] : List LCol) q) fun x8 =>
 some (x8.1,x8.2)
theorem W_query_Check (sA : LSchema) (q : LQuery) (r : (List LCol) × Int) (H : lm sA q = some r) :
  aV Tryz.prog 18 [(.agg (eA sA)),(.agg (bD q))] (.tup [(.list 50 (r.1.map aG)),(ae r.2)]) := by
 unfold lm at H
 refine PH.aC Tryz.func18 Tryz.ntmps18 ?_
 refine ac (af (aT ?_))
 refine aT ?_
 refine am 2 tk rfl (ag (ac (af (am 2 tk rfl ?_))))
 obtain ⟨x8,h8,H⟩ := ax H
 have s8 := mi sA ([] : List LCol) q _ h8
 refine au Tryz.call54 (jc.of2 (iw.cons (np.of_eq rfl) (iw.cons (np.nil tk rfl) (iw.cons (np.of_eq rfl) iw.nil)))) s8 ?_
 refine am 4 tk rfl (ag ?_)
 obtain rfl := ao H
 refine aB tk rfl (ps := [(.list 50 (x8.1.map aG)),(ae x8.2)]) ⟨_,_,rfl,rfl,_,_,rfl,rfl,rfl⟩ (PLe.q rfl)
def ik (sA : LSchema) (st : List LRelation) (q : LQuery) (args : Rq) (vars : List LCol) (vals : Rq) : Option (LResult × Int) :=
 aj (gr sA vars q) fun x28 =>
 cond (x28.2 != (0 : Int))
  (some ((LResult.mk [] []),x28.2))
  (aj (fB q args) fun x37 =>
  cond (x37 != (0 : Int))
   (some ((LResult.mk [] []),x37))
   (aj (fI sA st) fun x44 =>
   cond (x44 != (0 : Int))
    (some ((LResult.mk [] []),x44))
    (aj (ba (σ := List (List UInt8)) (ρ := Empty) (fun (_ : Nat) (x1 : LCol) (s1 : List (List UInt8)) =>
     aj (ee 16 s1 ([x1.name] : List (List UInt8))) fun (x66 : List (List UInt8)) =>
     some (.next x66)) 0 vars []) fun fl1=>fl1.thenP fun (s1 : List (List UInt8)) =>
    aj (lq (LRun.mk sA st args vars s1 vals) q) fun x73 =>
    aj (ba (σ := Rz) (ρ := Empty) (fun (_ : Nat) (x2 : Rq) (s2 : Rz) =>
     aj (ee 24 s2 ([x2] : Rz)) fun (x84 : Rz) =>
     some (.next x84)) 0 x73 []) fun fl2=>fl2.thenP fun (s2 : Rz) =>
    some ((LResult.mk x28.1 s2),0))))
theorem pe (sA : LSchema) (st : List LRelation) (q : LQuery) (args : Rq) (vars : List LCol) (vals : Rq) (r : LResult × Int) (H : ik sA st q args vars vals = some r) :
  aV Tryz.prog 81 [(.agg (eA sA)),(.list 87 (st.map bV)),(.agg (bD q)),(.list 53 (args.map ab)),(.list 50 (vars.map aG)),(.list 53 (vals.map ab))] (.tup [(.agg (nh r.1)),(ae r.2)]) := by
 unfold ik at H
 refine PH.aC Tryz.func81 Tryz.ntmps81 ?_
 refine ac (af (aT ?_))
 refine aT ?_
 refine bv tk fun b12=>?_
 refine aq tk rfl (ag (ac (af (am 3 tk rfl ?_))))
 obtain ⟨x28,h28,H⟩ := ax H
 have s28 := mi sA vars q _ h28
 refine au Tryz.call54 (jc.r) s28 ?_
 refine am 5 tk rfl (ag (ac (aw 2 tk rfl ?_)))
 refine aP rfl H (fun H=>?_) (fun H=>?_)
 ·refine ac (af (am 2 tk rfl (aD tk ?_)))
  refine aq tk rfl (ag ?_)
  obtain rfl := ao H
  refine aB tk rfl (ps := [(.agg [(.val (.slice none 0 0)),(.val (.slice none 0 0))]),(ae x28.2)]) ⟨_,_,rfl,⟨_,_,_,_,_,rfl,rfl,rfl,rfl⟩,_,_,rfl,rfl,rfl⟩ (PLe.of2 (np.tup (iw.cons (np.agg (iw.cons (np.nil tk rfl) (iw.cons (np.nil tk rfl) iw.nil))) (iw.cons (np.of_eq rfl) iw.nil))))
 refine av (ac (ac (af (am 2 tk rfl ?_))))
 obtain ⟨x37,h37,H⟩ := ax H
 have s37 := lc q args _ h37
 refine au Tryz.call53 (jc.r) s37 ?_
 refine aq tk rfl (ag (aw 2 tk rfl ?_))
 refine aP rfl H (fun H=>?_) (fun H=>?_)
 ·refine ac (af (am 2 tk rfl (aD tk ?_)))
  refine aq tk rfl (ag ?_)
  obtain rfl := ao H
  refine aB tk rfl (ps := [(.agg [(.val (.slice none 0 0)),(.val (.slice none 0 0))]),(ae x37)]) ⟨_,_,rfl,⟨_,_,_,_,_,rfl,rfl,rfl,rfl⟩,_,_,rfl,rfl,rfl⟩ (PLe.of2 (np.tup (iw.cons (np.agg (iw.cons (np.nil tk rfl) (iw.cons (np.nil tk rfl) iw.nil))) (iw.cons (np.of_eq rfl) iw.nil))))
 refine av (ac (ac (af (am 2 tk rfl ?_))))
 obtain ⟨x44,h44,H⟩ := ax H
 have s44 := mj sA st _ h44
 refine au Tryz.call52 (jc.r) s44 ?_
 refine aq tk rfl (ag (aw 2 tk rfl ?_))
 refine aP rfl H (fun H=>?_) (fun H=>?_)
 ·refine ac (af (am 2 tk rfl (aD tk ?_)))
  refine aq tk rfl (ag ?_)
  obtain rfl := ao H
  refine aB tk rfl (ps := [(.agg [(.val (.slice none 0 0)),(.val (.slice none 0 0))]),(ae x44)]) ⟨_,_,rfl,⟨_,_,_,_,_,rfl,rfl,rfl,rfl⟩,_,_,rfl,rfl,rfl⟩ (PLe.of2 (np.tup (iw.cons (np.agg (iw.cons (np.nil tk rfl) (iw.cons (np.nil tk rfl) iw.nil))) (iw.cons (np.of_eq rfl) iw.nil))))
 refine av (ac (af (am 6 tk rfl ?_)))
 refine bv tk fun b18=>?_
 refine aD tk ?_
 refine ag (ac (ac (af (aq tk rfl (aN tk (zl _) ?_)))))
 refine aq tk rfl (ag ?_)
 obtain ⟨fl1,H1,Hp1⟩ := ax H
 refine bU tk 55 rfl rfl (fun hz1 _=>?_)
 rw [zl] at hz1
 refine aZ (τ := List (List UInt8)) (γ := OwnRef) (fun s1 g1=>⟨88,upd (upd (upd (upd (fun _=>.any) 18 (.box 18 b18 0)) 14 (.list 50 (x28.1.map aG))) 12 (.box 12 b12 0)) 8 (.ptr [(ae q.kind),(.str q.table),(.list 9 (q.names.map co)),(.list 56 (q.exprs.map bc)),(.list 66 (q.aggregates.map cl)),(.list 4 (q.descending.map cB)),(ae q.count),(ae q.offset),(.list 35 (q.inputs.map aX))]),upd (upd (fun _=>none) 18 (some ⟨b18,[(.list 91 (sA.tables.map bA)),(.list 142 (sA.foreignKeys.map cD)),(.list 148 (sA.constraints.map cN)),(.list 87 (st.map bV)),(.list 53 (args.map ab)),(.list 50 (vars.map aG)),(.own 66 g1 (s1.map co).length),(.list 53 (vals.map ab))]⟩)) 12 (some ⟨b12,[(.val (.slice none 0 0)),(.val (.slice none 0 0))]⟩),upd (fun _=>none) 66 (some ⟨g1,9,(s1.map co),true⟩)⟩) (fun t=>fl1 = .next t) ?_ (fun s1 g1 hn1=>?_)
 ·refine az (qU tk 18 6 66 (e := 9) rfl rfl rfl rfl ?_)
  refine bF (fun j1 s1 g1=>⟨88,upd (upd (upd (upd (upd (upd (upd (fun _=>.any) 57 (ae (j1 : Int))) 56 (ae (vars.length : Int))) 55 (.list 50 (vars.map aG))) 18 (.box 18 b18 0)) 14 (.list 50 (x28.1.map aG))) 12 (.box 12 b12 0)) 8 (.ptr [(ae q.kind),(.str q.table),(.list 9 (q.names.map co)),(.list 56 (q.exprs.map bc)),(.list 66 (q.aggregates.map cl)),(.list 4 (q.descending.map cB)),(ae q.count),(ae q.offset),(.list 35 (q.inputs.map aX))]),upd (upd (fun _=>none) 18 (some ⟨b18,[(.list 91 (sA.tables.map bA)),(.list 142 (sA.foreignKeys.map cD)),(.list 148 (sA.constraints.map cN)),(.list 87 (st.map bV)),(.list 53 (args.map ab)),(.list 50 (vars.map aG)),(.own 66 g1 (s1.map co).length),(.list 53 (vals.map ab))]⟩)) 12 (some ⟨b12,[(.val (.slice none 0 0)),(.val (.slice none 0 0))]⟩),upd (fun _=>none) 66 (some ⟨g1,9,(s1.map co),true⟩)⟩) (⟨none,0⟩) H1 (Gh.le (aa (aa (aa (aa (aa (aa (aa ak))))))) (ay rfl (jc.r) (ay rfl (jc.r) ah)) (aA ai)) (fun j1 s1 g1 hj1 hr1=>?_)
  refine aw 1 tk rfl (ac ?_)
  refine aY rfl (fun h=>?_) (fun h=>?_)
  ·have hl1 := cp h
   obtain ⟨x1,fb1,hx1,H,hg1⟩ := rMc hl1 hr1
   refine av (ac (az (ac (af ?_))))
   refine bt tk (zn j1) (bQ (fun _=>rfl) hx1) ?_
   refine aq tk rfl ?_
   refine bv tk fun b20=>?_
   refine aD tk ?_
   refine ag (af (aq tk rfl (aM tk ?_)))
   refine aq tk rfl (aM tk ?_)
   refine cO tk (rows' := List.map co ([x1.name] : List (List UInt8))) (gk.refl _) ?_
   obtain ⟨x66,h66,H⟩ := ax H
   have k66 := dw h66
   refine dr (rows2' := List.map co ([x1.name] : List (List UInt8))) (rows' := List.map co x66) tk rfl rfl rfl rfl rfl rfl rfl rfl rfl rfl rfl rfl rfl (gk.refl _) (eK k66.1) (eN k66.2.1) (eR k66.2.2) fun g66=>?_
   refine aq tk rfl (aD tk ?_)
   refine ag (aQ (bh 2 tk rfl ?_))
   obtain rfl := ao H
   refine aK x66 g66 ⟨hl1,hg1⟩ (Gh.le (aa (aa (aa (aa (aa (aa (aI (PLe.q (aU (by omega))) ak))))))) (ay rfl (jc.r) (ay rfl (jc.r) ah)) (aA ai))
  have hn1 := rMd (cq h) hr1
  refine aR rfl ?_
  refine aO s1 g1 hn1 (Gh.le (aa (aa (aa (aa ak)))) (ay rfl (jc.r) (ay rfl (jc.r) ah)) (aA ai))
 have H := bq hn1 Hp1
 refine ac (af (am 2 tk rfl ?_))
 refine bv tk fun b21=>?_
 refine aD tk ?_
 refine ag (ac (ac (pU 18 6 rfl rfl rfl rfl rfl (af (aM tk ?_)))))
 refine aq tk rfl ?_
 obtain ⟨x73,h73,H⟩ := ax H
 have s73 := rP (LRun.mk sA st args vars s1 vals) q _ h73
 refine au Tryz.call97 (jc.r) s73 ?_
 refine aN tk (zl _) ?_
 refine aq tk rfl (ag ?_)
 obtain ⟨fl2,H2,Hp2⟩ := ax H
 refine bU tk 73 rfl rfl (fun hz2 _=>?_)
 rw [zl] at hz2
 refine aZ (τ := Rz) (γ := OwnRef) (fun s2 g2=>⟨88,upd (upd (fun _=>.any) 21 (.box 21 b21 0)) 12 (.box 12 b12 0),upd (upd (fun _=>none) 21 (some ⟨b21,[(.list 50 (x28.1.map aG)),(.own 84 g2 (s2.map (al 53 ab)).length)]⟩)) 12 (some ⟨b12,[(.val (.slice none 0 0)),(.val (.slice none 0 0))]⟩),upd (fun _=>none) 84 (some ⟨g2,51,(s2.map (al 53 ab)),true⟩)⟩) (fun t=>fl2 = .next t) ?_ (fun s2 g2 hn2=>?_)
 ·refine az (qU tk 21 1 84 (e := 51) rfl rfl rfl rfl ?_)
  refine bF (fun j2 s2 g2=>⟨88,upd (upd (upd (upd (upd (fun _=>.any) 75 (ae (j2 : Int))) 74 (ae (x73.length : Int))) 73 (.list 51 (x73.map (al 53 ab)))) 21 (.box 21 b21 0)) 12 (.box 12 b12 0),upd (upd (fun _=>none) 21 (some ⟨b21,[(.list 50 (x28.1.map aG)),(.own 84 g2 (s2.map (al 53 ab)).length)]⟩)) 12 (some ⟨b12,[(.val (.slice none 0 0)),(.val (.slice none 0 0))]⟩),upd (fun _=>none) 84 (some ⟨g2,51,(s2.map (al 53 ab)),true⟩)⟩) (⟨none,0⟩) H2 (Gh.le (aa (aa (aa (aa (aa ak))))) (ay rfl (jc.r) (ay rfl (jc.r) ah)) (aA ai)) (fun j2 s2 g2 hj2 hr2=>?_)
  refine aw 1 tk rfl (ac ?_)
  refine aY rfl (fun h=>?_) (fun h=>?_)
  ·have hl2 := cp h
   obtain ⟨x2,fb2,hx2,H,hg2⟩ := rMc hl2 hr2
   refine av (ac (az (ac (af ?_))))
   refine bt tk (zn j2) (bQ (fun _=>rfl) hx2) ?_
   refine am 2 tk rfl (ag (bl tk mok ⟨true,false,[]⟩ [0,1,2,3,4,5,6,7] rfl (by decide +kernel) rfl (cC rfl (cM ?_))))
   refine cC rfl ?_
   have s82 := clone_94 (m := 82) x2
   refine bg Tryz.call94 (jc.r) (PFun.jI s82) ?_
   refine cC rfl ?_
   obtain ⟨x84,h84,H⟩ := ax H
   have k84 := dw h84
   refine me (rows2' := List.map (al 53 ab) ([x2] : Rz)) (rows' := List.map (al 53 ab) x84) tk rfl rfl rfl rfl rfl rfl rfl rfl rfl rfl rfl rfl rfl rfl (gk.refl _) (eK k84.1) (eN k84.2.1) (eR k84.2.2) fun g84=>?_
   refine cC rfl (dK ?_)
   refine be (aQ (bh 2 tk rfl ?_))
   obtain rfl := ao H
   refine aK x84 g84 ⟨hl2,hg2⟩ (Gh.le (aa (aa (aa (aa (aI (PLe.q (aU (by omega))) ak))))) (ay rfl (jc.r) (ay rfl (jc.r) ah)) (aA ai))
  have hn2 := rMd (cq h) hr2
  refine aR rfl ?_
  refine aO s2 g2 hn2 (Gh.le (aa (aa ak)) (ay rfl (jc.r) (ay rfl (jc.r) ah)) (aA ai))
 have H := bq hn2 Hp2
 refine ac (af (aM tk ?_))
 refine aD tk ?_
 refine aq tk rfl (ag ?_)
 obtain rfl := ao H
 refine pU 12 1 rfl rfl rfl rfl rfl ?_
 refine aB tk rfl (ps := [(.agg [(.list 50 (x28.1.map aG)),(.list 51 (s2.map (al 53 ab)))]),(ae 0)]) ⟨_,_,rfl,⟨_,_,_,_,_,rfl,rfl,rfl,rfl⟩,_,_,rfl,rfl,rfl⟩ (PLe.q rfl)
def jN (sA : LSchema) (q : LQuery) : Option (Bool) :=
 aj (
  aj (ls q 400) fun x8 =>
  cond (decide (x8 < (0 : Int)))
   (some true)
   (aj (iM sA) fun x12 =>
   some (x12 != (0 : Int)))) fun (t1 : Bool) =>
 cond t1
  (some false)
  (aj (lm sA q) fun x18 =>
  some (x18.2 == (0 : Int)))
theorem rd (sA : LSchema) (q : LQuery) (r : Bool) (H : jN sA q = some r) :
  aV Tryz.prog 51 [(.agg (eA sA)),(.agg (bD q))] (aE r) := by
 unfold jN at H
 refine PH.aC Tryz.func51 Tryz.ntmps51 ?_
 refine ac (af (aT ?_))
 refine aT ?_
 refine aq tk rfl (ag (ac (ac ?_)))
 obtain ⟨fl1,H1,Hp1⟩ := ax H
 refine aZ (τ := Bool) (γ := Unit) (fun t1 g1=>⟨23,upd (upd (upd (fun _=>.any) 14 (aE t1)) 3 (.ptr [(ae q.kind),(.str q.table),(.list 9 (q.names.map co)),(.list 56 (q.exprs.map bc)),(.list 66 (q.aggregates.map cl)),(.list 4 (q.descending.map cB)),(ae q.count),(ae q.offset),(.list 35 (q.inputs.map aX))])) 2 (.ptr [(.list 91 (sA.tables.map bA)),(.list 142 (sA.foreignKeys.map cD)),(.list 148 (sA.constraints.map cN))]),fun _=>none,fun _=>none⟩) (fun t=>t = fl1) ?_ (fun t1 g1 hn1=>?_)
 ·have H := H1
  refine af (aq tk rfl ?_)
  obtain ⟨x8,h8,H⟩ := ax H
  have s8 := rJ q 400 _ h8
  refine au Tryz.call82 (jc.r) s8 ?_
  refine am 2 tk rfl ?_
  refine bG rfl rfl rfl H (fun H=>?_) (fun H=>?_)
  ·refine am 4 tk rfl (ag ?_)
   obtain rfl := ao H
   refine aO true () rfl (Gh.le (aa (aa (aa ak))) ah ai)
  refine aq tk rfl ?_
  obtain ⟨x12,h12,H⟩ := ax H
  have s12 := rm sA _ h12
  refine au Tryz.call83 (jc.r) s12 ?_
  refine am 2 tk rfl (ag ?_)
  obtain rfl := ao H
  refine aO (x12 != (0 : Int)) () rfl (Gh.le (aa (aa (aa ak))) ah ai)
 subst hn1
 have H := Hp1
 refine aP rfl H (fun H=>?_) (fun H=>?_)
 ·refine aw 1 tk rfl ?_
  obtain rfl := ao H
  refine aB tk rfl (ps := [(aE false)]) ⟨_,_,rfl,rfl,rfl⟩ (PLe.q rfl)
 refine av (ac (af (am 2 tk rfl ?_)))
 obtain ⟨x18,h18,H⟩ := ax H
 have s18 := W_query_Check sA q _ h18
 refine au Tryz.call18 (jc.r) s18 ?_
 refine am 5 tk rfl (ag (aw 3 tk rfl ?_))
 obtain rfl := ao H
 refine aB tk rfl (ps := [(aE (x18.2 == (0 : Int)))]) ⟨_,_,rfl,rfl,rfl⟩ (PLe.q rfl)
def ic (sA : LSchema) (st : List LRelation) (q : LQuery) (args : Rq) : Option (LResult × Int) :=
 aj (ik sA st q args ([] : List LCol) ([] : Rq)) fun x14 =>
 some (x14.1,x14.2)
theorem og (sA : LSchema) (st : List LRelation) (q : LQuery) (args : Rq) (r : LResult × Int) (H : ic sA st q args = some r) :
  aV Tryz.prog 50 [(.agg (eA sA)),(.list 87 (st.map bV)),(.agg (bD q)),(.list 53 (args.map ab))] (.tup [(.agg (nh r.1)),(ae r.2)]) := by
 unfold ic at H
 refine PH.aC Tryz.func50 Tryz.ntmps50 ?_
 refine ac (af (aT ?_))
 refine aT ?_
 refine bv tk fun b8=>?_
 refine aq tk rfl (ag (ac (af (am 4 tk rfl ?_))))
 obtain ⟨x14,h14,H⟩ := ax H
 have s14 := pe sA st q args ([] : List LCol) ([] : Rq) _ h14
 refine au Tryz.call81 (jc.of2 (iw.cons (np.of_eq rfl) (iw.cons (np.of_eq rfl) (iw.cons (np.of_eq rfl) (iw.cons (np.of_eq rfl) (iw.cons (np.nil tk rfl) (iw.cons (np.nil tk rfl) iw.nil))))))) s14 ?_
 refine am 2 tk rfl (aD tk ?_)
 refine aq tk rfl (ag ?_)
 obtain rfl := ao H
 refine aB tk rfl (ps := [(.agg [(.list 50 (x14.1.columns.map aG)),(.list 51 (x14.1.rows.map (al 53 ab)))]),(ae x14.2)]) ⟨_,_,rfl,⟨_,_,_,_,_,rfl,rfl,rfl,rfl⟩,_,_,rfl,rfl,rfl⟩ (PLe.q rfl)
def jh (sA : LSchema) (st : List LRelation) (q : LQuery) (args : Rq) : Option (Bool) :=
 aj (jN sA q) fun x11 =>
 cond x11
  (cond (decide ((args.length : Int) ≤ (20 : Int)))
   (aj (fI sA st) fun x20 =>
   cond (x20 == (0 : Int))
    (aj (fB q args) fun x26 =>
    some (x26 == (0 : Int)))
    (some false))
   (some false))
  (some false)
theorem rM (sA : LSchema) (st : List LRelation) (q : LQuery) (args : Rq) (r : Bool) (H : jh sA st q args = some r) :
  aV Tryz.prog 16 [(.agg (eA sA)),(.list 87 (st.map bV)),(.agg (bD q)),(.list 53 (args.map ab))] (aE r) := by
 unfold jh at H
 refine PH.aC Tryz.func16 Tryz.ntmps16 ?_
 refine ac (af (aT ?_))
 refine aT ?_
 refine aq tk rfl (ag (ac (af (am 2 tk rfl ?_))))
 obtain ⟨x11,h11,H⟩ := ax H
 have s11 := rd sA q _ h11
 refine au Tryz.call51 (jc.r) s11 ?_
 refine aq tk rfl ?_
 refine bG rfl rfl rfl H (fun H=>?_) (fun H=>?_)
 ·refine aq tk rfl (aN tk (zl _) ?_)
  refine am 3 tk rfl ?_
  refine bG rfl rfl rfl H (fun H=>?_) (fun H=>?_)
  ·refine am 2 tk rfl ?_
   obtain ⟨x20,h20,H⟩ := ax H
   have s20 := mj sA st _ h20
   refine au Tryz.call52 (jc.r) s20 ?_
   refine am 3 tk rfl ?_
   refine bG rfl rfl rfl H (fun H=>?_) (fun H=>?_)
   ·refine am 2 tk rfl ?_
    obtain ⟨x26,h26,H⟩ := ax H
    have s26 := lc q args _ h26
    refine au Tryz.call53 (jc.r) s26 ?_
    refine am 3 tk rfl (ag ?_)
    obtain rfl := ao H
    refine aB tk rfl (ps := [(aE (x26 == (0 : Int)))]) ⟨_,_,rfl,rfl,rfl⟩ (PLe.q rfl)
   refine am 6 tk rfl (ag ?_)
   obtain rfl := ao H
   refine aB tk rfl (ps := [(aE false)]) ⟨_,_,rfl,rfl,rfl⟩ (PLe.q rfl)
  refine am 12 tk rfl (ag ?_)
  obtain rfl := ao H
  refine aB tk rfl (ps := [(aE false)]) ⟨_,_,rfl,rfl,rfl⟩ (PLe.q rfl)
 refine am 17 tk rfl (ag ?_)
 obtain rfl := ao H
 refine aB tk rfl (ps := [(aE false)]) ⟨_,_,rfl,rfl,rfl⟩ (PLe.q rfl)
def iL : Option (Bool) :=
 aj (ic (LSchema.mk [(LTable.mk [116] [(LCol.mk [97] 1 false)] [0])] [] []) ([(LRelation.mk [116] [[(LVal.mk 1 1 [])],[(LVal.mk 1 2 [])]])] : List LRelation) (LQuery.mk 1 [116] [] [] [] [] 0 0 []) ([] : Rq)) fun x22 =>
 cond (x22.2 == (0 : Int))
  (some ((x22.1.rows.length : Int) == (2 : Int)))
  (some false)
theorem re (r : Bool) (H : iL = some r) :
  aV Tryz.prog 15 [] (aE r) := by
 unfold iL at H
 refine PH.aC Tryz.func15 Tryz.ntmps15 ?_
 refine aw 1 tk rfl (ac (af (aq tk rfl (cO tk (rows' := List.map aG ([(LCol.mk [97] 1 false)] : List LCol)) (gk.refl _) ?_))))
 refine cO tk (rows' := List.map bJ ([0] : List Int)) (gk.refl _) ?_
 refine aq tk rfl (cO tk (rows' := List.map bA ([(LTable.mk [116] [(LCol.mk [97] 1 false)] [0])] : List LTable)) (gk.refl _) ?_)
 refine aq tk rfl ?_
 refine bv tk fun b1=>?_
 refine aD tk ?_
 refine ag (ac (af (aq tk rfl (cO tk (rows' := List.map ab ([(LVal.mk 1 1 [])] : Rq)) (gk.refl _) ?_))))
 refine aq tk rfl (cO tk (rows' := List.map ab ([(LVal.mk 1 2 [])] : Rq)) (gk.refl _) ?_)
 refine cO tk (rows' := List.map (al 53 ab) ([[(LVal.mk 1 1 [])],[(LVal.mk 1 2 [])]] : Rz)) (gk.refl _) ?_
 refine aq tk rfl (cO tk (rows' := List.map bV ([(LRelation.mk [116] [[(LVal.mk 1 1 [])],[(LVal.mk 1 2 [])]])] : List LRelation)) (gk.refl _) ?_)
 refine aq tk rfl (ag (ac (af (aM tk ?_))))
 refine am 2 tk rfl ?_
 obtain ⟨x22,h22,H⟩ := ax H
 have s22 := og (LSchema.mk [(LTable.mk [116] [(LCol.mk [97] 1 false)] [0])] [] []) ([(LRelation.mk [116] [[(LVal.mk 1 1 [])],[(LVal.mk 1 2 [])]])] : List LRelation) (LQuery.mk 1 [116] [] [] [] [] 0 0 []) ([] : Rq) _ h22
 refine au Tryz.call50 (jc.of2 (iw.cons (np.agg (iw.cons (np.of_eq rfl) (iw.cons (np.nil tk rfl) (iw.cons (np.nil tk rfl) iw.nil)))) (iw.cons (np.of_eq rfl) (iw.cons (np.agg (iw.cons (np.of_eq rfl) (iw.cons (np.of_eq rfl) (iw.cons (np.nil tk rfl) (iw.cons (np.nil tk rfl) (iw.cons (np.nil tk rfl) (iw.cons (np.nil tk rfl) (iw.cons (np.of_eq rfl) (iw.cons (np.of_eq rfl) (iw.cons (np.nil tk rfl) iw.nil)))))))))) (iw.cons (np.nil tk rfl) iw.nil))))) s22 ?_
 refine am 3 tk rfl ?_
 refine bv tk fun b3=>?_
 refine aD tk ?_
 refine aq tk rfl (ag (ac (af (am 3 tk rfl ?_))))
 refine bG rfl rfl rfl H (fun H=>?_) (fun H=>?_)
 ·refine aq tk rfl (aM tk ?_)
  refine aN tk (zl _) ?_
  refine am 3 tk rfl (ag ?_)
  obtain rfl := ao H
  refine aB tk rfl (ps := [(aE ((x22.1.rows.length : Int) == (2 : Int)))]) ⟨_,_,rfl,rfl,rfl⟩ (PLe.q rfl)
 refine am 6 tk rfl (ag ?_)
 obtain rfl := ao H
 refine aB tk rfl (ps := [(aE false)]) ⟨_,_,rfl,rfl,rfl⟩ (PLe.q rfl)
def fj (sA : LSchema) (st : List LRelation) (q : LQuery) (args : Rq) : Option (LResult × Bool) :=
 aj (ic sA st q args) fun x17 =>
 some (x17.1,(x17.2 == (0 : Int)))
theorem lN (sA : LSchema) (st : List LRelation) (q : LQuery) (args : Rq) (r : LResult × Bool) (H : fj sA st q args = some r) :
  aV Tryz.prog 17 [(.agg (eA sA)),(.list 87 (st.map bV)),(.agg (bD q)),(.list 53 (args.map ab))] (.tup [(.agg (nh r.1)),(aE r.2)]) := by
 unfold fj at H
 refine PH.aC Tryz.func17 Tryz.ntmps17 ?_
 refine ac (af (aT ?_))
 refine aT ?_
 refine bv tk fun b8=>?_
 refine aq tk rfl (ag (ac (af (am 4 tk rfl ?_))))
 obtain ⟨x17,h17,H⟩ := ax H
 have s17 := og sA st q args _ h17
 refine au Tryz.call50 (jc.r) s17 ?_
 refine am 3 tk rfl ?_
 refine bv tk fun b10=>?_
 refine aD tk ?_
 refine aq tk rfl (ag (ac (af (aM tk ?_))))
 refine am 2 tk rfl (aD tk ?_)
 refine aq tk rfl (ag ?_)
 obtain rfl := ao H
 refine aB tk rfl (ps := [(.agg [(.list 50 (x17.1.columns.map aG)),(.list 51 (x17.1.rows.map (al 53 ab)))]),(aE (x17.2 == (0 : Int)))]) ⟨_,_,rfl,⟨_,_,_,_,_,rfl,rfl,rfl,rfl⟩,_,_,rfl,rfl,rfl⟩ (PLe.q rfl)
def fw (sA : LSchema) (st : List LRelation) (q : LQuery) (name : List UInt8) (down : Bool) (args : Rq) : Option (Bool) :=
 aj (iL) fun x22 =>
 cond (!x22)
  (some false)
  (aj (jh sA st (LQuery.mk 9 [] [] [(LExpr.mk 2 name 0 (LVal.mk 0 0 []) [])] [] [down] 0 0 [q]) args) fun x36 =>
  cond (!x36)
   (some true)
   (aj (fj sA st (LQuery.mk 9 [] [] [(LExpr.mk 2 name 0 (LVal.mk 0 0 []) [])] [] [down] 0 0 [q]) args) fun x43 =>
   aj (fj sA st q args) fun x51 =>
   aj (ce x43.1.columns (fun a0=>some (dp a0 name))) fun x57 =>
   aj (
    cond (!x43.2)
     (some true)
     (cond (!x51.2)
      (some true)
      (cond (decide (x57 < (0 : Int)))
       (some true)
       (aj (je x43.1 x51.1) fun x71 =>
       some (!x71))))) fun (t1 : Bool) =>
   cond t1
    (some false)
    (aj (whileM (σ := Int) (ρ := (Bool)) (fun (s2 : Int) =>
     cond (decide (s2 < (x43.1.rows.length : Int)))
      (aj (aF x43.1.rows (i64.wrap (s2 - (1 : Int)))) fun (x85 : Rq) =>
      aj (aF x85 x57) fun (x88 : LVal) =>
      aj (aF x43.1.rows s2) fun (x93 : Rq) =>
      aj (aF x93 x57) fun (x96 : LVal) =>
      cond down
       (bo (er x88 x96) fun x102 =>
       cond x102
        (some (.ret false))
        (cond (!down)
         (bo (er x96 x88) fun x110 =>
         cond x110
          (some (.ret false))
          (some (.next (i64.wrap (s2 + (1 : Int))))))
         (some (.next (i64.wrap (s2 + (1 : Int)))))))
       (cond (!down)
        (bo (er x96 x88) fun x110 =>
        cond x110
         (some (.ret false))
         (some (.next (i64.wrap (s2 + (1 : Int))))))
        (some (.next (i64.wrap (s2 + (1 : Int)))))))
      (some (.brk s2))) 1) fun fl2=>fl2.thenR fun (_s2 : Int) =>
    some true)))
theorem lG (sA : LSchema) (st : List LRelation) (q : LQuery) (name : List UInt8) (down : Bool) (args : Rq) (r : Bool) (H : fw sA st q name down args = some r) :
  aV Tryz.prog 13 [(.agg (eA sA)),(.list 87 (st.map bV)),(.agg (bD q)),(.str name),(aE down),(.list 53 (args.map ab))] (aE r) := by
 unfold fw at H
 refine PH.aC Tryz.func13 Tryz.ntmps13 ?_
 refine ac (af (aT ?_))
 refine aT ?_
 refine aT ?_
 refine aq tk rfl (ag (ac (ac (af ?_))))
 obtain ⟨x22,h22,H⟩ := ax H
 have s22 := re _ h22
 refine au Tryz.call15 (jc.r) s22 ?_
 refine aq tk rfl (ag ?_)
 refine aP rfl H (fun H=>?_) (fun H=>?_)
 ·refine aw 1 tk rfl ?_
  obtain rfl := ao H
  refine aB tk rfl (ps := [(aE false)]) ⟨_,_,rfl,rfl,rfl⟩ (PLe.q rfl)
 refine av (ac (af (am 2 tk rfl (cO tk (rows' := List.map bc ([(LExpr.mk 2 name 0 (LVal.mk 0 0 []) [])] : List LExpr)) (gk.trans (b := List.map mm [(LExpr.mk 2 name 0 (LVal.mk 0 0 []) [])]) (gk.cons (qY.cons (np.of_eq rfl) (qY.cons (np.of_eq rfl) (qY.cons (np.of_eq rfl) (qY.cons (np.of_eq rfl) (qY.cons (np.of_eq rfl) (qY.cons (np.of_eq rfl) (qY.cons (np.nil tk rfl) qY.nil))))))) gk.nil) (gk.of_eq (qV eF [(LExpr.mk 2 name 0 (LVal.mk 0 0 []) [])]))) ?_))))
 refine aq tk rfl (cO tk (rows' := List.map cB ([down] : List Bool)) (gk.refl _) ?_)
 refine aq tk rfl (cO tk (rows' := List.map aX ([q] : List LQuery)) (gk.trans (b := List.map bD [q]) (gk.refl _) (gk.of_eq (qV cK [q]))) ?_)
 refine aq tk rfl ?_
 refine bv tk fun b13=>?_
 refine aD tk ?_
 refine ag (ac (ac (af (am 2 tk rfl (aM tk ?_)))))
 refine aq tk rfl ?_
 obtain ⟨x36,h36,H⟩ := ax H
 have s36 := rM sA st (LQuery.mk 9 [] [] [(LExpr.mk 2 name 0 (LVal.mk 0 0 []) [])] [] [down] 0 0 [q]) args _ h36
 refine au Tryz.call16 (jc.of2 (iw.cons (np.of_eq rfl) (iw.cons (np.of_eq rfl) (iw.cons (np.agg (iw.cons (np.of_eq rfl) (iw.cons (np.of_eq rfl) (iw.cons (np.nil tk rfl) (iw.cons (np.of_eq rfl) (iw.cons (np.nil tk rfl) (iw.cons (np.of_eq rfl) (iw.cons (np.of_eq rfl) (iw.cons (np.of_eq rfl) (iw.cons (np.of_eq rfl) iw.nil)))))))))) (iw.cons (np.of_eq rfl) iw.nil))))) s36 ?_
 refine aq tk rfl (ag ?_)
 refine aP rfl H (fun H=>?_) (fun H=>?_)
 ·refine aw 1 tk rfl ?_
  obtain rfl := ao H
  refine aB tk rfl (ps := [(aE true)]) ⟨_,_,rfl,rfl,rfl⟩ (PLe.q rfl)
 refine av (ac (af (am 2 tk rfl (aM tk ?_))))
 refine aq tk rfl ?_
 obtain ⟨x43,h43,H⟩ := ax H
 have s43 := lN sA st (LQuery.mk 9 [] [] [(LExpr.mk 2 name 0 (LVal.mk 0 0 []) [])] [] [down] 0 0 [q]) args _ h43
 refine au Tryz.call17 (jc.of2 (iw.cons (np.of_eq rfl) (iw.cons (np.of_eq rfl) (iw.cons (np.agg (iw.cons (np.of_eq rfl) (iw.cons (np.of_eq rfl) (iw.cons (np.nil tk rfl) (iw.cons (np.of_eq rfl) (iw.cons (np.nil tk rfl) (iw.cons (np.of_eq rfl) (iw.cons (np.of_eq rfl) (iw.cons (np.of_eq rfl) (iw.cons (np.of_eq rfl) iw.nil)))))))))) (iw.cons (np.of_eq rfl) iw.nil))))) s43 ?_
 refine am 3 tk rfl ?_
 refine bv tk fun b14=>?_
 refine aD tk ?_
 refine aq tk rfl (ag (ac (af (am 4 tk rfl ?_))))
 obtain ⟨x51,h51,H⟩ := ax H
 have s51 := lN sA st q args _ h51
 refine au Tryz.call17 (jc.r) s51 ?_
 refine am 3 tk rfl ?_
 refine bv tk fun b16=>?_
 refine aD tk ?_
 refine aq tk rfl (ag (ac (af (aq tk rfl (aM tk ?_)))))
 refine aq tk rfl ?_
 obtain ⟨x57,h57,H⟩ := ax H
 have s57 := eT x43.1.columns (fun a0=>some (dp a0 name)) Tryz.call44 (fun a0 r h=>(ao h) ▸ li a0 name) _ h57
 refine au Tryz.call43 (jc.r) s57 ?_
 refine aq tk rfl (ag (ac (ac ?_)))
 obtain ⟨fl1,H1,Hp1⟩ := ax H
 refine aZ (τ := Bool) (γ := Unit) (fun t1 g1=>⟨113,upd (upd (upd (upd (fun _=>.any) 73 (aE t1)) 18 (ae x57)) 14 (.box 14 b14 0)) 4 (aE down),upd (fun _=>none) 14 (some ⟨b14,[(.list 50 (x43.1.columns.map aG)),(.list 51 (x43.1.rows.map (al 53 ab)))]⟩),fun _=>none⟩) (fun t=>t = fl1) ?_ (fun t1 g1 hn1=>?_)
 ·have H := H1
  refine af (am 3 tk rfl ?_)
  refine bG rfl rfl rfl H (fun H=>?_) (fun H=>?_)
  ·refine am 13 tk rfl (ag ?_)
   obtain rfl := ao H
   refine aO true () rfl (Gh.le (aa (aa (aa (aa ak)))) (ay rfl (jc.r) ah) ai)
  refine am 4 tk rfl ?_
  refine bG rfl rfl rfl H (fun H=>?_) (fun H=>?_)
  ·refine am 9 tk rfl (ag ?_)
   obtain rfl := ao H
   refine aO true () rfl (Gh.le (aa (aa (aa (aa ak)))) (ay rfl (jc.r) ah) ai)
  refine am 4 tk rfl ?_
  refine bG rfl rfl rfl H (fun H=>?_) (fun H=>?_)
  ·refine am 5 tk rfl (ag ?_)
   obtain rfl := ao H
   refine aO true () rfl (Gh.le (aa (aa (aa (aa ak)))) (ay rfl (jc.r) ah) ai)
  refine aM tk ?_
  refine aM tk ?_
  obtain ⟨x71,h71,H⟩ := ax H
  have s71 := rQ x43.1 x51.1 _ h71
  refine au Tryz.call42 (jc.r) s71 ?_
  refine am 2 tk rfl (ag ?_)
  obtain rfl := ao H
  refine aO (!x71) () rfl (Gh.le (aa (aa (aa (aa ak)))) (ay rfl (jc.r) ah) ai)
 subst hn1
 have H := Hp1
 refine aP rfl H (fun H=>?_) (fun H=>?_)
 ·refine aw 1 tk rfl ?_
  obtain rfl := ao H
  refine aB tk rfl (ps := [(aE false)]) ⟨_,_,rfl,rfl,rfl⟩ (PLe.q rfl)
 refine av (ac (aw 1 tk rfl (sd 14 rfl rfl rfl rfl ?_)))
 obtain ⟨fl2,H2,Hp2⟩ := ax H
 refine aZ (τ := Int) (γ := Unit) (fun s2 g2=>⟨113,fun _=>.any,fun _=>none,fun _=>none⟩) (fun t=>fl2 = .next t) ?_ (fun s2 g2 hn2=>?_)
 ·refine az ?_
  refine cP (fun s2 g2=>⟨113,upd (upd (upd (upd (fun _=>.any) 19 (ae s2)) 18 (ae x57)) 14 (.ptr [(.list 50 (x43.1.columns.map aG)),(.list 51 (x43.1.rows.map (al 53 ab)))])) 4 (aE down),fun _=>none,fun _=>none⟩) () H2 (Gh.le (aa (aa (aa (aa ak)))) ah ai) (fun m2 s2 g2 hr2=>?_)
  obtain ⟨fb2,H,hg2⟩ := cn hr2
  refine ac (ac (af (am 3 tk rfl (aN tk (zl _) ?_))))
  refine aq tk rfl (ag ?_)
  refine aP rfl H (fun H=>?_) (fun H=>?_)
  ·refine av (ac (az (ac (bl tk mok ⟨false,false,[]⟩ [0,1,2,3,4,5,6,7,8,9,10,11,12,13,14,15,16,17,18,19,20] rfl (by decide +kernel) rfl (aJ 4 rfl ?_)))))
   obtain ⟨x85,k85,H⟩ := aW H
   refine bX k85.1 (aH (fun _=>rfl) k85.2) ?_
   refine aJ 2 rfl ?_
   obtain ⟨x88,k88,H⟩ := aW H
   refine bX k88.1 (aH (fun _=>rfl) k88.2) ?_
   refine aJ 4 rfl ?_
   obtain ⟨x93,k93,H⟩ := aW H
   refine bX k93.1 (aH (fun _=>rfl) k93.2) ?_
   refine aJ 2 rfl ?_
   obtain ⟨x96,k96,H⟩ := aW H
   refine bX k96.1 (aH (fun _=>rfl) k96.2) ?_
   refine cC rfl ?_
   refine mt rfl rfl rfl rfl rfl rfl rfl rfl fun b20=>?_
   refine mt rfl rfl rfl rfl rfl rfl rfl rfl fun b21=>?_
   refine dK ?_
   refine dK ?_
   refine be (ac (af (am 2 tk rfl ?_)))
   refine bG rfl rfl rfl H (fun H=>?_) (fun H=>?_)
   ·refine aM tk ?_
    refine aM tk ?_
    obtain ⟨x102,h102,H⟩ := bK H
    have s102 := jF x88 x96
    rw [h102] at s102
    refine au Tryz.call45 (jc.r) s102 ?_
    refine am 2 tk rfl ?_
    refine bG rfl rfl rfl H (fun H=>?_) (fun H=>?_)
    ·refine am 8 tk rfl (ag (cv rfl (aw 1 tk rfl ?_)))
     obtain rfl := ao H
     have e2 : fl2 = .ret _ := hg2
     subst e2
     obtain rfl := bj Hp2
     refine aB tk rfl (ps := [(aE false)]) ⟨_,_,rfl,rfl,rfl⟩ (PLe.q rfl)
    refine am 3 tk rfl ?_
    refine bG rfl rfl rfl H (fun H=>?_) (fun H=>?_)
    ·refine aM tk ?_
     refine aM tk ?_
     obtain ⟨x110,h110,H⟩ := bK H
     have s110 := jF x96 x88
     rw [h110] at s110
     refine au Tryz.call45 (jc.r) s110 ?_
     refine am 2 tk rfl (ag ?_)
     refine aP rfl H (fun H=>?_) (fun H=>?_)
     ·refine aw 1 tk rfl ?_
      obtain rfl := ao H
      have e2 : fl2 = .ret _ := hg2
      subst e2
      obtain rfl := bj Hp2
      refine aB tk rfl (ps := [(aE false)]) ⟨_,_,rfl,rfl,rfl⟩ (PLe.q rfl)
     refine av (aQ (bh 3 tk rfl ?_))
     obtain rfl := ao H
     refine aK (i64.wrap (s2 + (1 : Int))) () hg2 (Gh.le (aa (aa (aa (aa ak)))) ah ai)
    refine am 5 tk rfl (ag (bH rfl (av (aQ (bh 3 tk rfl ?_)))))
    obtain rfl := ao H
    refine aK (i64.wrap (s2 + (1 : Int))) () hg2 (Gh.le (aa (aa (aa (aa ak)))) ah ai)
   refine am 8 tk rfl ?_
   refine bG rfl rfl rfl H (fun H=>?_) (fun H=>?_)
   ·refine aM tk ?_
    refine aM tk ?_
    obtain ⟨x110,h110,H⟩ := bK H
    have s110 := jF x96 x88
    rw [h110] at s110
    refine au Tryz.call45 (jc.r) s110 ?_
    refine am 2 tk rfl (ag ?_)
    refine aP rfl H (fun H=>?_) (fun H=>?_)
    ·refine aw 1 tk rfl ?_
     obtain rfl := ao H
     have e2 : fl2 = .ret _ := hg2
     subst e2
     obtain rfl := bj Hp2
     refine aB tk rfl (ps := [(aE false)]) ⟨_,_,rfl,rfl,rfl⟩ (PLe.q rfl)
    refine av (aQ (bh 3 tk rfl ?_))
    obtain rfl := ao H
    refine aK (i64.wrap (s2 + (1 : Int))) () hg2 (Gh.le (aa (aa (aa (aa ak)))) ah ai)
   refine am 5 tk rfl (ag (bH rfl (av (aQ (bh 3 tk rfl ?_)))))
   obtain rfl := ao H
   refine aK (i64.wrap (s2 + (1 : Int))) () hg2 (Gh.le (aa (aa (aa (aa ak)))) ah ai)
  refine aR rfl ?_
  obtain rfl := ao H
  refine aO s2 () hg2 (Gh.le ak ah ai)
 have H := ck hn2 Hp2
 refine aw 1 tk rfl ?_
 obtain rfl := ao H
 refine aB tk rfl (ps := [(aE true)]) ⟨_,_,rfl,rfl,rfl⟩ (PLe.q rfl)
end
end Go.Proofs.YtgaggbdcedpapaaGreat

namespace Go.Proofs.YtgaggbdcedpapaaGreat
open Go.IntKind (i64)
noncomputable section
open Go Go.Ab
theorem LQuery.inputs_lt {q x : LQuery} (h : x ∈ q.inputs) : SizeOf.sizeOf x < SizeOf.sizeOf q := by
 cases q
 simp only [LQuery.inputs] at h
 have := List.sizeOf_lt_of_mem h
 simp only [LQuery.mk.sizeOf_spec]
 omega
theorem LQuery.ind {p : LQuery → Prop} (h : ∀ q : LQuery,(∀ x ∈ q.inputs,p x) → p q) : ∀ q,p q := by
 intro q
 generalize hn : SizeOf.sizeOf q = n
 induction n using Nat.strongRecOn generalizing q with
 | _ n ih=>exact h q fun x hx=>ih _ (hn ▸ LQuery.inputs_lt hx) x rfl
theorem ev_all {α : Type} {p : α → Nat → Prop} : ∀ (xs : List α),(∀ x ∈ xs,∃ N,∀ n,N ≤ n → p x n) → ∃ N,∀ n,N ≤ n → ∀ x ∈ xs,p x n
 | [],_=>⟨0,fun _ _ x hx=>by simp at hx⟩
 | y :: xs,h=>by
  obtain ⟨N,hN⟩ := h y (by simp)
  obtain ⟨N',hN'⟩ := ev_all xs fun x hx=>h x (by simp [hx])
  refine ⟨N + N',fun n hn x hx=>?_⟩
  rcases List.mem_cons.1 hx with rfl | hx
  ·exact hN n (by omega)
  ·exact hN' n (by omega) x hx
theorem kG {α σ ρ : Type} {step step' : Nat → α → σ → Option (Flow σ ρ)} : ∀ (xs : List α) (j : Nat) (s : σ),(∀ k x s,xs[k]? = some x → step (j + k) x s = step' (j + k) x s) → ba step j xs s = ba step' j xs s
 | [],_,_,_=>rfl
 | x :: xs,j,s,h=>by
  have h0 := h 0 x s rfl
  rw [Nat.add_zero] at h0
  rw [ba,ba,h0]
  split
  ·rfl
  ·exact kG xs (j + 1) _ fun k y t hk=>by
    have := h (k + 1) y t (by simpa using hk)
    rwa [show j + (k + 1) = j + 1 + k from by omega] at this
  ·rfl
  ·rfl
theorem gK {α : Type} {xs : List α} {k : Nat} {x : α} (h : xs[k]? = some x) : x ∈ xs := List.mem_of_getElem? h
theorem nC {γ β : Type} {F : Nat → γ → LQuery → Option β} {O : (γ → LQuery → Option β) → γ → LQuery → Option β} (hF : ∀ n,F (n + 1) = O (F n)) (c : γ) (q : LQuery)
  (hc : ∀ r r' : γ → LQuery → Option β,(∀ x ∈ q.inputs,r c x = r' c x) → O r c q = O r' c q) (hx : ∀ x ∈ q.inputs,∃ v,iQ (fun n=>F n c x) = some v) {r : β} (h : O (fun c q=>iQ fun n=>F n c q) c q = some r) :
  iQ (fun n=>F n c q) = some r := by
 obtain ⟨N,hN⟩ := ev_all (p := fun x n=>F n c x = iQ fun n=>F n c x) q.inputs (fun x hm=>by
  obtain ⟨v,hv⟩ := hx x hm
  obtain ⟨N,hN⟩ := limN_ev hv
  exact ⟨N,fun n hn=>by rw [hN n hn,hv]⟩)
 refine nP (N + 1) fun m hm=>?_
 obtain ⟨m,rfl⟩ : ∃ k,m = k + 1 := ⟨m - 1,by omega⟩
 rw [hF,hc _ (fun c q=>iQ fun n=>F n c q) (hN m (by omega)),h]
def cU (q : LQuery) : List LQuery := q :: (q.inputs.attach.map fun x=>cU x.1).flatten
termination_by SizeOf.sizeOf q
decreasing_by exact LQuery.inputs_lt x.2
theorem io (q : LQuery) : cU q = q :: (q.inputs.map cU).flatten := by
 rw [cU,List.attach_map_val (f := cU)]
theorem flat_le {α β : Type} {f : α → List β} {xs : List α} {x : α} (h : x ∈ xs) : (f x).length ≤ ((xs.map f).flatten).length := by
 induction xs with
 | nil=>simp at h
 | cons y xs ih =>
  simp only [List.map_cons,List.flatten_cons,List.length_append]
  rcases List.mem_cons.1 h with rfl | h
  ·omega
  ·have := ih h; omega
theorem kN {q x : LQuery} (h : x ∈ q.inputs) : (cU x).length + 1 ≤ (cU q).length := by
 rw [io q]
 have := flat_le (f := cU) h
 simp only [List.length_cons]
 omega
theorem cR {α : Type} {bytes : Nat} {xs ys : List α} (hb : bytes ≤ 200) (h : xs.length + ys.length ≤ 10000000) : ee bytes xs ys = some (xs ++ ys) := by
 refine appI_ok ?_ (by unfold maxLen; omega)
 have : (xs.length + ys.length) * bytes ≤ 10000000 * 200 := Nat.mul_le_mul h hb
 omega
theorem take_flat {α β : Type} {f : α → List β} {xs : List α} {k : Nat} : (((xs.take k).map f).flatten).length ≤ ((xs.map f).flatten).length := by
 induction xs generalizing k with
 | nil=>simp
 | cons y xs ih =>
  cases k with
  | zero=>simp
  | succ k=>simp only [List.take_succ_cons,List.map_cons,List.flatten_cons,List.length_append]; have := ih (k := k); omega
theorem nodes_ok : ∀ q : LQuery,(cU q).length ≤ 10000000 → jn q = some (cU q) := by
 refine LQuery.ind fun q ih hb=>?_
 refine nC (γ := Unit) (F := fun n _ q=>jq n q) (O := fun r _ q=>jo (fun x=>r () x) q) (fun n=>rfl) () q ?_ (fun x hx=>⟨_,ih x hx (by have := kN hx; omega)⟩) ?_
 ·intro r r' h
  simp only [jo]
  congr 1
  exact kG q.inputs 0 _ fun k x s hk=>by rw [h x (gK hk)]
 ·have hr := rMa (step := fun (_ : Nat) (x1 : LQuery) (s1 : List LQuery)=>aj (jn x1) fun x17=>aj (ee 160 s1 x17) fun (x18 : List LQuery)=>some (Flow.next (ρ := Empty) x18)) (xs := q.inputs) (s := [q])
   (fun k=>q :: ((q.inputs.take k).map cU).flatten) (by simp) (fun k x hk=>by
    have hx := gK hk
    rw [ih x hx (by have := kN hx; omega),bPs,cR (by decide),bPs]
    ·rw [List.take_add_one,hk]; simp
    ·have h1 : (((q.inputs.take (k + 1)).map cU).flatten).length ≤ ((q.inputs.map cU).flatten).length := take_flat
     rw [List.take_add_one,hk] at h1
     rw [io] at hb
     simp at h1 hb ⊢
     omega)
  simp only [jo]
  have e : ∀ x,(iQ fun n=>jq n x) = jn x := fun _=>rfl
  simp only [e]
  rw [hr,bPs,ci,List.take_length,io]
def dT (a b : Int) : Int := if b > a then b else a
theorem pH {a b c : Int} (h : a ≤ c) (h' : b ≤ c) : dT a b ≤ c := by unfold dT; split <;> assumption
theorem jd (a b : Int) : a ≤ dT a b := by unfold dT; split <;> omega
theorem mS (a b : Int) : b ≤ dT a b := by unfold dT; split <;> omega
def gR (q : LQuery) : Int := (q.inputs.attach.map fun x=>gR x.1).foldl dT 0 + 1
termination_by SizeOf.sizeOf q
decreasing_by exact LQuery.inputs_lt x.2
theorem mR (q : LQuery) : gR q = (q.inputs.map gR).foldl dT 0 + 1 := by
 rw [gR,List.attach_map_val (f := gR)]
theorem qk : ∀ {l : List Int} {a c : Int},a ≤ c → (∀ x ∈ l,x ≤ c) → l.foldl dT a ≤ c
 | [],_,_,h,_=>h
 | x :: l,a,c,h,hl=>qk (l := l) (pH h (hl x (by simp))) fun y hy=>hl y (by simp [hy])
theorem nk : ∀ {l : List Int} {a : Int},a ≤ l.foldl dT a ∧ ∀ x ∈ l,x ≤ l.foldl dT a
 | [],a=>⟨Int.le_refl a,by simp⟩
 | x :: l,a=>by
  obtain ⟨h1,h2⟩ := nk (l := l) (a := dT a x)
  simp only [List.foldl_cons]
  refine ⟨Int.le_trans (jd a x) h1,fun y hy=>?_⟩
  rcases List.mem_cons.1 hy with rfl | hy
  ·exact Int.le_trans (mS a y) h1
  ·exact h2 y hy
theorem depthQ_nodes : ∀ q : LQuery,1 ≤ gR q ∧ gR q ≤ (cU q).length := by
 refine LQuery.ind fun q ih=>?_
 rw [mR,io]
 have h1 : (q.inputs.map gR).foldl dT 0 ≤ (((q.inputs.map cU).flatten).length : Nat) := qk (by omega) fun x hx=>by
  obtain ⟨y,hy,rfl⟩ := List.mem_map.1 hx
  have := (ih y hy).2
  have := flat_le (f := cU) hy
  omega
 have h2 := (nk (l := q.inputs.map gR) (a := 0)).1
 simp only [List.length_cons]
 omega
theorem depthQ_sub {q x : LQuery} (h : x ∈ q.inputs) : gR x + 1 ≤ gR q := by
 rw [mR q]
 have := (nk (l := q.inputs.map gR) (a := 0)).2 (gR x) (List.mem_map.2 ⟨x,h,rfl⟩)
 omega
theorem depth_ok : ∀ q : LQuery,(cU q).length ≤ 10000000 → km q = some (gR q) := by
 refine LQuery.ind fun q ih hb=>?_
 refine nC (γ := Unit) (F := fun n _ q=>jt n q) (O := fun r _ q=>jr (fun x=>r () x) q) (fun n=>rfl) () q ?_ (fun x hx=>⟨_,ih x hx (by have := kN hx; omega)⟩) ?_
 ·intro r r' h
  simp only [jr]
  congr 1
  exact kG q.inputs 0 _ fun k x s hk=>by rw [h x (gK hk)]
 ·have hr := rMa (step := fun (_ : Nat) (x1 : LQuery) (s1 : Int)=>aj (km x1) fun x15=>some (Flow.next (ρ := Empty) (if x15 > s1 then x15 else s1))) (xs := q.inputs) (s := 0)
   (fun k=>((q.inputs.take k).map gR).foldl dT 0) (by simp) (fun k x hk=>by
    have hx := gK hk
    rw [ih x hx (by have := kN hx; omega),bPs,List.take_add_one,hk]
    simp [dT])
  simp only [jr]
  have e : ∀ x,(iQ fun n=>jt n x) = km x := fun _=>rfl
  simp only [e]
  rw [hr,bPs,ci,List.take_length,mR]
  have h := depthQ_nodes q
  rw [mR] at h
  rw [bC (by omega) (by omega)]
def mG (n : Int) : Int := if 20001 < n then 20001 else n
def iB (kind : Int) (s : Int × Int) (j : Nat) (x : Int × Int) : Int × Int :=
 (mG (if j = 0 then x.1 else if kind = 6 then s.1 + x.1 else if kind = 4 ∨ kind = 5 then s.1 * dT 1 x.1 else s.1),dT s.2 x.2)
def eG (kind : Int) : Nat → List (Int × Int) → Int × Int → Int × Int
 | _,[],s=>s
 | j,x :: l,s=>eG kind (j + 1) l (iB kind s j x)
def bW (q : LQuery) : Int × Int :=
 let s := eG q.kind 0 (q.inputs.attach.map fun x=>bW x.1) (0,0)
 if q.kind = 1 then (24,dT s.2 24) else (s.1,dT s.2 s.1)
termination_by SizeOf.sizeOf q
decreasing_by exact LQuery.inputs_lt x.2
theorem ly (q : LQuery) : bW q = if q.kind = 1 then (24,dT (eG q.kind 0 (q.inputs.map bW) (0,0)).2 24) else ((eG q.kind 0 (q.inputs.map bW) (0,0)).1,dT (eG q.kind 0 (q.inputs.map bW) (0,0)).2 (eG q.kind 0 (q.inputs.map bW) (0,0)).1) := by
 rw [bW,List.attach_map_val (f := bW)]
def mK (s : Int × Int) : Prop := 0 ≤ s.1 ∧ s.1 ≤ 20001 ∧ 0 ≤ s.2 ∧ s.2 ≤ 20001
theorem capI_b {n : Int} (h : 0 ≤ n) : 0 ≤ mG n ∧ mG n ≤ 20001 := by unfold mG; split <;> omega
theorem mostStep_r {kind : Int} {s x : Int × Int} {j : Nat} (hs : mK s) (hx : mK x) : mK (iB kind s j x) := by
 obtain ⟨a1,a2,a3,a4⟩ := hs
 obtain ⟨b1,b2,b3,b4⟩ := hx
 unfold iB
 have h1 : 0 ≤ (if j = 0 then x.1 else if kind = 6 then s.1 + x.1 else if kind = 4 ∨ kind = 5 then s.1 * dT 1 x.1 else s.1) := by
  split
  ·exact b1
  ·split
   ·omega
   ·split
    ·exact Int.mul_nonneg a1 (Int.le_trans (by decide) (jd 1 x.1))
    ·exact a1
 exact ⟨(capI_b h1).1,(capI_b h1).2,Int.le_trans a3 (jd _ _),pH a4 b4⟩
theorem pV {kind : Int} : ∀ {l : List (Int × Int)} {j : Nat} {s : Int × Int},mK s → (∀ x ∈ l,mK x) → mK (eG kind j l s)
 | [],_,_,h,_=>h
 | x :: l,j,s,h,hl=>pV (l := l) (mostStep_r h (hl x (by simp))) fun y hy=>hl y (by simp [hy])
theorem mostQ_r : ∀ q : LQuery,mK (bW q) := by
 refine LQuery.ind fun q ih=>?_
 rw [ly]
 have h : mK (eG q.kind 0 (q.inputs.map bW) (0,0)) := pV ⟨by decide,by decide,by decide,by decide⟩ fun x hx=>by
  obtain ⟨y,hy,rfl⟩ := List.mem_map.1 hx
  exact ih y hy
 obtain ⟨a1,a2,a3,a4⟩ := h
 split
 ·exact ⟨show (0 : Int) ≤ 24 by decide,show (24 : Int) ≤ 20001 by decide,Int.le_trans a3 (jd _ _),pH a4 (by decide)⟩
 ·exact ⟨a1,a2,Int.le_trans a3 (jd _ _),pH a4 a2⟩
theorem qy (kind : Int) : ∀ (l : List (Int × Int)) (j : Nat) (s x : Int × Int),eG kind j (l ++ [x]) s = iB kind (eG kind j l s) (j + l.length) x
 | [],j,s,x=>by simp [eG]
 | y :: l,j,s,x=>by
  rw [List.cons_append,eG,qy kind l (j + 1),eG]
  congr 1
  simp
  omega
theorem mostStep_run {kind : Int} {s x : Int × Int} {j : Nat} (hs : mK s) (hx : mK x) :
  (cond ((j : Int) == (0 : Int))
   (some (Flow.next (ρ := Empty) ((if (20001 : Int) < x.1 then (20001 : Int) else x.1),(if x.2 > s.2 then x.2 else s.2))))
   (cond (kind == (6 : Int))
    (some (.next ((if (20001 : Int) < (i64.wrap (s.1 + x.1)) then (20001 : Int) else (i64.wrap (s.1 + x.1))),(if x.2 > s.2 then x.2 else s.2))))
    (bo (
     cond (kind == (4 : Int))
      (true)
      ((kind == (5 : Int)))) fun (t4 : Bool) =>
    cond t4
     (some (.next ((if (20001 : Int) < (i64.wrap (s.1 * (if x.1 > (1 : Int) then x.1 else (1 : Int)))) then (20001 : Int) else (i64.wrap (s.1 * (if x.1 > (1 : Int) then x.1 else (1 : Int))))),(if x.2 > s.2 then x.2 else s.2))))
     (some (.next ((if (20001 : Int) < s.1 then (20001 : Int) else s.1),(if x.2 > s.2 then x.2 else s.2))))))) = some (.next (iB kind s j x)) := by
 obtain ⟨a1,a2,a3,a4⟩ := hs
 obtain ⟨b1,b2,b3,b4⟩ := hx
 have hm : 1 ≤ dT 1 x.1 ∧ dT 1 x.1 ≤ 20001 := ⟨jd _ _,pH (by decide) b2⟩
 have hp : 0 ≤ s.1 * dT 1 x.1 ∧ s.1 * dT 1 x.1 ≤ 20001 * 20001 := ⟨Int.mul_nonneg a1 (by omega),Int.mul_le_mul a2 hm.2 (by omega) (by decide)⟩
 have hw1 : i64.wrap (s.1 + x.1) = s.1 + x.1 := bC (by omega) (by omega)
 have hw2 : i64.wrap (s.1 * (if x.1 > (1 : Int) then x.1 else (1 : Int))) = s.1 * dT 1 x.1 := bC (by show _ ≤ s.1 * dT 1 x.1; omega) (by show s.1 * dT 1 x.1 ≤ _; omega)
 rw [hw1,hw2]
 unfold iB mG dT bo
 by_cases h0 : j = 0
 ·subst h0; simp
 ·have : ((j : Int) == (0 : Int)) = false := by simp; omega
  rw [this]
  by_cases h6 : kind = 6
  ·subst h6; simp [h0]
  ·by_cases h4 : kind = 4
   ·subst h4; simp [h0]
   ·by_cases h5 : kind = 5
    ·subst h5; simp [h0]
    ·have e6 : (kind == (6 : Int)) = false := by simpa using h6
     have e4 : (kind == (4 : Int)) = false := by simpa using h4
     have e5 : (kind == (5 : Int)) = false := by simpa using h5
     simp [h0,h6,h4,h5,e6,e4,e5]
theorem most_ok : ∀ q : LQuery,mc q = some (bW q) := by
 refine LQuery.ind fun q ih=>?_
 refine nC (γ := Unit) (F := fun n _ q=>jS n q) (O := fun r _ q=>jV (fun x=>r () x) q) (fun n=>rfl) () q ?_ (fun x hx=>⟨_,ih x hx⟩) ?_
 ·intro r r' h
  simp only [jV]
  congr 1
  exact kG q.inputs 0 _ fun k x s hk=>by rw [h x (gK hk)]
 ·simp only [jV]
  have e : ∀ x,(iQ fun n=>jS n x) = mc x := fun _=>rfl
  simp only [e]
  rw [rMa (xs := q.inputs) (s := (0,0)) (fun k=>eG q.kind 0 ((q.inputs.take k).map bW) (0,0)) (by simp [eG]) (fun k x hk=>by
    have hx := gK hk
    rw [ih x hx,bPs,mostStep_run (pV ⟨by decide,by decide,by decide,by decide⟩ fun y hy=>by
     obtain ⟨z,_,rfl⟩ := List.mem_map.1 hy
     exact mostQ_r z) (mostQ_r x),List.take_add_one,hk]
    have hk' := (zg.1 hk).1
    simp only [Option.toList_some,List.map_append,List.map_cons,List.map_nil]
    rw [qy]
    congr 3
    simp
    omega)]
  rw [bPs,ci,List.take_length,ly]
  by_cases h1 : q.kind = 1
  ·simp [h1,dT]
  ·have : (q.kind == (1 : Int)) = false := by simpa using h1
   simp [h1,this,dT]
def oA : List (Int → Int) → Int → Int
 | [],s=>s
 | f :: l,s=>if s < 0 then -1 else oA l (f (i64.wrap (s - 1)))
def sizeHere (q : LQuery) (m : Int) : Int :=
 q.aggregates.foldl (fun s a=>a.args.foldl (fun s e=>iY e (i64.wrap (s - 1))) s) (q.exprs.foldl (fun s e=>iY e (i64.wrap (s - 1))) m)
def lM (q : LQuery) : Int → Int := fun m=>oA (q.inputs.attach.map fun x=>lM x.1) (sizeHere q m)
termination_by SizeOf.sizeOf q
decreasing_by exact LQuery.inputs_lt x.2
theorem sizeQ_eq (q : LQuery) (m : Int) : lM q m = oA (q.inputs.map lM) (sizeHere q m) := by
 rw [lM,List.attach_map_val (f := lM)]
theorem qE {f : LQuery → Int → Option Int} : ∀ (l : List LQuery) (j : Nat) (s : Int),(∀ x ∈ l,∀ m,f x m = some (lM x m)) →
  aj (ba (σ := Int) (ρ := Int) (fun (_ : Nat) (x6 : LQuery) (s6 : Int)=>cond (decide (s6 < (0 : Int))) (some (.ret (-1))) (aj (f x6 (i64.wrap (s6 - (1 : Int)))) fun x57=>some (.next x57))) j l s) (fun fl6=>fl6.thenR fun (s6 : Int)=>some s6) = some (oA (l.map lM) s)
 | [],j,s,_=>rfl
 | x :: l,j,s,h=>by
  rw [ba,List.map_cons,oA]
  by_cases hs : s < 0
  ·simp [hs]
  ·simp only [hs,decide_false,zd,if_false]
   rw [h x (by simp),bPs]
   exact qE l (j + 1) _ fun y hy=>h y (by simp [hy])
theorem size_ok : ∀ (q : LQuery) (m : Int),ls q m = some (lM q m) := by
 have key : ∀ q : LQuery,∃ N,∀ n,N ≤ n → ∀ m,gF n q m = some (lM q m) := by
  refine LQuery.ind fun q ih=>?_
  obtain ⟨N,hN⟩ := ev_all (p := fun x n=>∀ m,gF n x m = some (lM x m)) q.inputs ih
  refine ⟨N + 1,fun n hn m=>?_⟩
  obtain ⟨n,rfl⟩ : ∃ k,n = k + 1 := ⟨n - 1,by omega⟩
  rw [gF]
  simp only [ki,bN]
  rw [mN (xs := q.exprs) (fun s e=>iY e (i64.wrap (s - 1))) (fun _ _ _=>rfl),bPs,ci]
  rw [mN (xs := q.aggregates) (fun s a=>a.args.foldl (fun s e=>iY e (i64.wrap (s - 1))) s) (fun k a _=>by
   rw [mN (xs := a.args) (fun s e=>iY e (i64.wrap (s - 1))) (fun _ _ _=>rfl),bPs,ci]),bPs,ci]
  rw [qE q.inputs 0 _ (hN n (by omega)),sizeQ_eq]
  rfl
 intro q m
 obtain ⟨N,hN⟩ := key q
 exact nP N fun n hn=>hN n hn m
theorem LExpr.args_lt {e x : LExpr} (h : x ∈ e.args) : SizeOf.sizeOf x < SizeOf.sizeOf e := by
 cases e
 simp only [LExpr.args] at h
 have := List.sizeOf_lt_of_mem h
 simp only [LExpr.mk.sizeOf_spec]
 omega
theorem LExpr.ind {p : LExpr → Prop} (h : ∀ e : LExpr,(∀ x ∈ e.args,p x) → p e) : ∀ e,p e := by
 intro e
 generalize hn : SizeOf.sizeOf e = n
 induction n using Nat.strongRecOn generalizing e with
 | _ n ih=>exact h e fun x hx=>ih _ (hn ▸ LExpr.args_lt hx) x rfl
def iS (e : LExpr) : List (Nat × Int) := if e.kind = 3 ∧ 0 ≤ e.index ∧ e.index < 8 then [(e.index.toNat,e.value.kind)] else []
def de (e : LExpr) : List (Nat × Int) := iS e ++ (e.args.attach.map fun x=>de x.1).flatten
termination_by SizeOf.sizeOf e
decreasing_by exact LExpr.args_lt x.2
theorem lT (e : LExpr) : de e = iS e ++ (e.args.map de).flatten := by
 rw [de,List.attach_map_val (f := de)]
abbrev PSt := List Int × Bool × List Bool
def iz (out : List Int) (i : Nat) : List Int := out ++ List.replicate (i + 1 - out.length) 0
def eS (s : PSt) (p : Nat × Int) : PSt :=
 ((iz s.1 p.1).set p.1 p.2,s.2.1 || (s.2.2.getD p.1 false && (iz s.1 p.1).getD p.1 0 != p.2),s.2.2.set p.1 true)
def POk (s : PSt) : Prop := s.1.length ≤ 8 ∧ s.2.2.length = 8
theorem mU (out : List Int) (i : Nat) : (iz out i).length = max out.length (i + 1) := by simp [iz]; omega
theorem pstep_ok {s : PSt} {p : Nat × Int} (h : POk s) (hp : p.1 < 8) : POk (eS s p) := by
 refine ⟨?_,by simp [eS,h.2]⟩
 show ((iz s.1 p.1).set p.1 p.2).length ≤ 8
 rw [List.length_set,mU]
 have := h.1
 omega
theorem lI : ∀ e : LExpr,∀ p ∈ de e,p.1 < 8 := by
 refine LExpr.ind fun e ih p hp=>?_
 rw [lT,List.mem_append] at hp
 rcases hp with hp | hp
 ·unfold iS at hp
  split at hp
  ·rename_i h; simp at hp; subst hp; simp; omega
  ·simp at hp
 ·obtain ⟨l,hl,hp⟩ := List.mem_flatten.1 hp
  obtain ⟨x,hx,rfl⟩ := List.mem_map.1 hl
  exact ih x hx p hp
theorem lx : ∀ {l : List (Nat × Int)} {s : PSt},POk s → (∀ p ∈ l,p.1 < 8) → POk (l.foldl eS s)
 | [],_,h,_=>h
 | p :: l,s,h,hl=>lx (l := l) (pstep_ok h (hl p (by simp))) fun q hq=>hl q (by simp [hq])
theorem pad_while (i : Nat) (hi : i < 8) : ∀ (n : Nat) (out : List Int),i + 1 - out.length = n → out.length ≤ 8 →
  whileM (σ := List Int) (ρ := Empty) (fun (s7 : List Int)=>cond (decide ((s7.length : Int) ≤ (i : Int))) (aj (ee 8 s7 ([0] : List Int)) fun (x28 : List Int)=>some (.next x28)) (some (.brk s7))) out = some (.next (iz out i))
 | 0,out,hn,ho=>by
  refine eI (fl := .brk out) ?_ ?_
  ·have : ¬ ((out.length : Int) ≤ (i : Int)) := by omega
   simp [this]
  ·simp [iz,hn]
 | n + 1,out,hn,ho=>by
  refine eI (fl := .next (out ++ [0])) ?_ ?_
  ·have : (out.length : Int) ≤ (i : Int) := by omega
   simp only [this,decide_true,zc]
   rw [cR (by decide) (by simp; omega)]
   rfl
  ·have := pad_while i hi n (out ++ [0]) (by simp; omega) (by simp; omega)
   simp only
   rw [this]
   simp only [iz,List.length_append,List.length_singleton,List.append_assoc,hn]
   rw [show i + 1 - (out.length + 1) = n from by omega,show (List.replicate (n + 1) (0 : Int)) = [0] ++ List.replicate n 0 from rfl]
theorem arrI_at {xs : List Bool} {i : Nat} (h : xs.length = 8) (hi : i < 8) : arrI 8 xs (i : Int) = some (xs.getD i false) := by
 have : xs[i]? = some (xs.getD i false) := by rw [List.getD_eq_getElem?_getD,ze (by omega)]; rfl
 exact arrI_eq (by omega) (by simpa using this)
theorem getI_at {xs : List Int} {i : Nat} (h : i < xs.length) : aF xs (i : Int) = some (xs.getD i 0) := by
 have : xs[i]? = some (xs.getD i 0) := by rw [List.getD_eq_getElem?_getD,ze h]; rfl
 exact kI this
theorem look_ok : ∀ e : LExpr,∃ N,∀ n,N ≤ n → ∀ s : PSt,POk s → dI n e s.1 s.2.1 s.2.2 = some ((de e).foldl eS s) := by
 refine LExpr.ind fun e ih=>?_
 obtain ⟨N,hN⟩ := ev_all (p := fun x n=>∀ s : PSt,POk s → dI n x s.1 s.2.1 s.2.2 = some ((de x).foldl eS s)) e.args ih
 refine ⟨N + 1,fun n hn s hs=>?_⟩
 obtain ⟨n,rfl⟩ : ∃ k,n = k + 1 := ⟨n - 1,by omega⟩
 rw [dI]
 simp only [gS]
 have h1 : POk ((iS e).foldl eS s) := lx hs fun p hp=>lI e p (by rw [lT]; simp [hp])
 have hloop : ∀ s : PSt,POk s → aj (ba (σ := List Int × Bool × List Bool) (ρ := Empty) (fun (_ : Nat) (x11 : LExpr) (s11 : List Int × Bool × List Bool) =>
   aj (dI n x11 s11.1 s11.2.1 s11.2.2) fun x66=>some (.next (x66.1,x66.2.1,x66.2.2))) 0 e.args (s.1,s.2.1,s.2.2)) (fun fl11=>fl11.thenP fun (s11 : List Int × Bool × List Bool)=>some (s11.1,s11.2.1,s11.2.2)) =
   some (((e.args.map de).flatten).foldl eS s) := by
  intro s hs
  rw [rMa (xs := e.args) (s := (s.1,s.2.1,s.2.2)) (fun k=>(((e.args.take k).map de).flatten).foldl eS s) rfl (fun k x hk=>by
   have hx := gK hk
   have hok : POk ((((e.args.take k).map de).flatten).foldl eS s) := lx hs fun p hp=>by
    obtain ⟨l,hl,hp⟩ := List.mem_flatten.1 hp
    obtain ⟨y,hy,rfl⟩ := List.mem_map.1 hl
    exact lI y p hp
   rw [hN n (by omega) x hx _ hok,bPs,List.take_add_one,hk]
   simp)]
  rw [bPs,ci,List.take_length]
 have key : (aj (cond (bo (cond (e.kind == (3 : Int)) (cond (decide (e.index ≥ (0 : Int))) ((decide (e.index < (8 : Int)))) (false)) (false)) fun (t1 : Bool)=>t1)
   (aj (whileM (σ := List Int) (ρ := Empty) (fun (s7 : List Int)=>cond (decide ((s7.length : Int) ≤ e.index)) (aj (ee 8 s7 ([0] : List Int)) fun (x28 : List Int)=>some (.next x28)) (some (.brk s7))) s.1) fun fl7=>fl7.thenP fun (s7 : List Int) =>
   aj (cond s.2.1 (some true) (aj (arrI 8 s.2.2 e.index) fun (x33 : Bool)=>cond x33 (aj (aF s7 e.index) fun (x39 : Int)=>some (x39 != e.value.kind)) (some false))) fun (t8 : Bool) =>
   aj (aF s7 e.index) fun (_ : Int)=>bo (s7.set e.index.toNat e.value.kind) fun (y9 : List Int)=>aj (arrI 8 s.2.2 e.index) fun (_ : Bool)=>bo (s.2.2.set e.index.toNat true) fun (y10 : List Bool)=>some (y9,t8,y10))
   (some (s.1,s.2.1,s.2.2))) fun t=>some t) = some ((iS e).foldl eS s) := by
  unfold bo
  by_cases hc : e.kind = 3 ∧ 0 ≤ e.index ∧ e.index < 8
  ·obtain ⟨hk,h0,h8⟩ := hc
   obtain ⟨i,hi⟩ : ∃ i : Nat,e.index = i := ⟨e.index.toNat,by omega⟩
   have hi8 : i < 8 := by omega
   have e0 : (e.kind == (3 : Int)) = true := by simpa using hk
   have e1 : decide (e.index ≥ (0 : Int)) = true := zt h0
   have e2 : decide (e.index < (8 : Int)) = true := zt h8
   rw [e0,e1,e2]
   simp only [zc]
   rw [hi,pad_while i hi8 _ s.1 rfl hs.1]
   simp only [bPs,ci]
   have hl : i < (iz s.1 i).length := by rw [mU]; omega
   rw [arrI_at hs.2 hi8,getI_at hl]
   simp only [bPs,Int.toNat_natCast]
   have hh : iS e = [(i,e.value.kind)] := by unfold iS; rw [zp ⟨hk,h0,h8⟩,hi,Int.toNat_natCast]
   rw [hh]
   simp only [List.foldl_cons,List.foldl_nil,eS]
   cases hb : s.2.1 <;> cases hc : s.2.2.getD i false <;> simp
  ·have hh : iS e = [] := by unfold iS; rw [zy hc]
   rw [hh]
   have e0 : (cond (e.kind == (3 : Int)) (cond (decide (e.index ≥ (0 : Int))) ((decide (e.index < (8 : Int)))) (false)) (false)) = false := by
    by_cases a : e.kind = 3
    ·by_cases b : 0 ≤ e.index
     ·have : ¬ e.index < 8 := fun h=>hc ⟨a,b,h⟩
      simp [this]
     ·have : ¬ e.index ≥ 0 := b
      simp [this]
    ·have : (e.kind == (3 : Int)) = false := by simpa using a
     simp [this]
   rw [e0]
   rfl
 simp only [bN] at key ⊢
 rw [lT,List.foldl_append,← hloop _ h1]
 generalize hg : (cond _ _ _ : Option PSt) = o at key
 cases o with
 | none=>cases key
 | some t =>
  simp only [bPs,zo] at key
  subst key
  rfl
theorem look_eq (e : LExpr) {s : PSt} (h : POk s) : fV e s.1 s.2.1 s.2.2 = some ((de e).foldl eS s) := by
 obtain ⟨N,hN⟩ := look_ok e
 exact nP N fun n hn=>hN n hn s h
def iU (x : LQuery) : List (Nat × Int) := (x.exprs.map de).flatten ++ (x.aggregates.map fun a=>(a.args.map de).flatten).flatten
def gU (q : LQuery) : List (Nat × Int) := ((cU q).map iU).flatten
theorem nL {x : LQuery} : ∀ p ∈ iU x,p.1 < 8 := by
 intro p hp
 rcases List.mem_append.1 hp with hp | hp
 ·obtain ⟨l,hl,hp⟩ := List.mem_flatten.1 hp
  obtain ⟨e,_,rfl⟩ := List.mem_map.1 hl
  exact lI e p hp
 ·obtain ⟨l,hl,hp⟩ := List.mem_flatten.1 hp
  obtain ⟨a,_,rfl⟩ := List.mem_map.1 hl
  obtain ⟨l,hl,hp⟩ := List.mem_flatten.1 hp
  obtain ⟨e,_,rfl⟩ := List.mem_map.1 hl
  exact lI e p hp
theorem paramsQ_lt {q : LQuery} : ∀ p ∈ gU q,p.1 < 8 := by
 intro p hp
 obtain ⟨l,hl,hp⟩ := List.mem_flatten.1 hp
 obtain ⟨x,_,rfl⟩ := List.mem_map.1 hl
 exact nL p hp
theorem lookAll {l : List LExpr} {s : PSt} (h : POk s) : ba (σ := PSt) (ρ := Empty) (fun (_ : Nat) (x12 : LExpr) (s12 : PSt) =>
   aj (fV x12 s12.1 s12.2.1 s12.2.2) fun x33=>some (.next (x33.1,x33.2.1,x33.2.2))) 0 l (s.1,s.2.1,s.2.2) = some (.next (((l.map de).flatten).foldl eS s)) := by
 rw [rMa (xs := l) (s := (s.1,s.2.1,s.2.2)) (fun k=>(((l.take k).map de).flatten).foldl eS s) rfl (fun k x hk=>by
  have hok : POk ((((l.take k).map de).flatten).foldl eS s) := lx h fun p hp=>by
   obtain ⟨m,hm,hp⟩ := List.mem_flatten.1 hp
   obtain ⟨y,hy,rfl⟩ := List.mem_map.1 hm
   exact lI y p hp
  rw [look_eq x hok,bPs,List.take_add_one,hk]
  simp),List.take_length]
def eh (q : LQuery) : PSt := (gU q).foldl eS ([],false,List.replicate 8 false)
theorem kinds_ok {q : LQuery} (hb : (cU q).length ≤ 10000000) : fE q = some (cond (eh q).2.1 ([],13) ((eh q).1,0)) := by
 unfold fE
 rw [nodes_ok q hb,bPs]
 rw [rMa (xs := cU q) (s := ([],false,List.replicate 8 false)) (fun k=>((((cU q).take k).map iU).flatten).foldl eS ([],false,List.replicate 8 false)) rfl (fun k x hk=>by
  have hok : POk (((((cU q).take k).map iU).flatten).foldl eS ([],false,List.replicate 8 false)) := lx ⟨by simp,by simp⟩ fun p hp=>by
   obtain ⟨m,hm,hp⟩ := List.mem_flatten.1 hp
   obtain ⟨y,hy,rfl⟩ := List.mem_map.1 hm
   exact nL p hp
  rw [lookAll hok,bPs,ci]
  rw [show ((((cU q).take (k + 1)).map iU).flatten).foldl eS ([],false,List.replicate 8 false) = (iU x).foldl eS (((((cU q).take k).map iU).flatten).foldl eS ([],false,List.replicate 8 false)) from by
   rw [List.take_add_one,hk]
   simp only [Option.toList_some,List.map_append,List.map_cons,List.map_nil,List.flatten_append,List.flatten_cons,List.flatten_nil,List.append_nil,List.foldl_append]]
  generalize (((((cU q).take k).map iU).flatten).foldl eS ([],false,List.replicate 8 false)) = s at hok ⊢
  have hok2 : POk (((x.exprs.map de).flatten).foldl eS s) := lx hok fun p hp=>nL (x := x) p (by unfold iU; simp only [List.mem_append]; exact .inl hp)
  rw [rMa (xs := x.aggregates) (s := ((((x.exprs.map de).flatten).foldl eS s).1,(((x.exprs.map de).flatten).foldl eS s).2.1,(((x.exprs.map de).flatten).foldl eS s).2.2))
   (fun k=>((((x.aggregates.take k).map fun a=>(a.args.map de).flatten).flatten).foldl eS (((x.exprs.map de).flatten).foldl eS s))) rfl (fun k a ha=>by
    have hok3 : POk ((((x.aggregates.take k).map fun a=>(a.args.map de).flatten).flatten).foldl eS (((x.exprs.map de).flatten).foldl eS s)) := lx hok2 fun p hp=>nL (x := x) p (by
     unfold iU
     simp only [List.mem_append]
     obtain ⟨m,hm,hp⟩ := List.mem_flatten.1 hp
     obtain ⟨y,hy,rfl⟩ := List.mem_map.1 hm
     exact .inr (List.mem_flatten.2 ⟨_,List.mem_map.2 ⟨y,List.mem_of_mem_take hy,rfl⟩,hp⟩))
    rw [lookAll hok3,bPs,ci,List.take_add_one,ha]
    simp)]
  rw [bPs,ci,List.take_length]
  unfold iU
  rw [List.foldl_append])]
 rw [bPs,ci,List.take_length]
 show (cond (eh q).2.1 (some ([],13)) (some ((eh q).1,0))) = _
 cases (eh q).2.1 <;> rfl
def nO (l : List (Nat × Int)) : Prop := ∀ i k k',(i,k) ∈ l → (i,k') ∈ l → k = k'
structure PInv (l : List (Nat × Int)) (s : PSt) : Prop where
 ok : POk s
 seen : ∀ i,i < 8 → (s.2.2.getD i false = true ↔ ∃ k,(i,k) ∈ l)
 len : ∀ i k,(i,k) ∈ l → i < s.1.length
 last : s.1.length = 0 ∨ ∃ k,(s.1.length - 1,k) ∈ l
 zero : ∀ i,(∀ k,(i,k) ∉ l) → s.1.getD i 0 = 0
 good : s.2.1 = false → ∀ i k,(i,k) ∈ l → s.1.getD i 0 = k
 bad : nO l → s.2.1 = false
theorem oN (out : List Int) (i j : Nat) : (iz out i).getD j 0 = out.getD j 0 := by
 simp only [iz,List.getD_eq_getElem?_getD]
 by_cases h : j < out.length
 ·rw [List.getElem?_append_left h]
 ·rw [List.getElem?_append_right (by omega),List.getElem?_eq_none (l := out) (by omega),List.getElem?_replicate]
  split <;> rfl
theorem PInv.init : PInv [] ([],false,List.replicate 8 false) :=
 ⟨⟨by simp,by simp⟩,fun i hi=>by
  have : (List.replicate 8 false).getD i false = false := by rw [List.getD_eq_getElem?_getD,List.getElem?_replicate]; split <;> rfl
  exact ⟨fun h=>(by rw [show (([],false,List.replicate 8 false) : PSt).2.2 = List.replicate 8 false from rfl,this] at h; cases h),fun ⟨k,hk⟩=>(by simp at hk)⟩,fun i k h=>by simp at h,.inl rfl,fun i _=>by simp,fun _ i k h=>by simp at h,fun _=>rfl⟩
theorem PInv.step {l : List (Nat × Int)} {s : PSt} (h : PInv l s) {p : Nat × Int} (hp : p.1 < 8) : PInv (l ++ [p]) (eS s p) := by
 obtain ⟨i,k⟩ := p
 simp only at hp
 have hset : ∀ (xs : List Int) (j : Nat) (v : Int),i < xs.length → (xs.set i v).getD j 0 = if j = i then v else xs.getD j 0 := by
  intro xs j v hl
  rw [List.getD_eq_getElem?_getD,List.getD_eq_getElem?_getD,List.getElem?_set]
  by_cases hji : i = j
  ·subst hji; simp [hl]
  ·have : j ≠ i := fun h=>hji h.symm
   simp [hji,this]
 have hl1 : i < (iz s.1 i).length := by rw [mU]; omega
 refine ⟨pstep_ok h.ok hp,fun j hj=>?_,fun j k' hm=>?_,?_,fun j hno=>?_,fun hb j k' hm=>?_,fun hk=>?_⟩
 ·show (s.2.2.set i true).getD j false = true ↔ _
  rw [List.getD_eq_getElem?_getD,List.getElem?_set]
  by_cases hji : i = j
  ·subst hji
   have : i < s.2.2.length := by rw [h.ok.2]; exact hp
   simp [this]
  ·have h1 := h.seen j hj
   rw [List.getD_eq_getElem?_getD] at h1
   have hji' : j ≠ i := fun h=>hji h.symm
   simp only [hji,if_false,h1,List.mem_append,List.mem_singleton,Prod.mk.injEq,hji',false_and,or_false]
 ·show j < ((iz s.1 i).set i k).length
  rw [List.length_set,mU]
  rcases List.mem_append.1 hm with hm | hm
  ·have := h.len j k' hm; omega
  ·simp at hm; omega
 ·show ((iz s.1 i).set i k).length = 0 ∨ ∃ k',(((iz s.1 i).set i k).length - 1,k') ∈ l ++ [(i,k)]
  rw [List.length_set,mU]
  by_cases hle : s.1.length ≤ i + 1
  ·right
   exact ⟨k,by rw [show max s.1.length (i + 1) - 1 = i from by omega]; simp⟩
  ·rcases h.last with h0 | ⟨k',hk'⟩
   ·omega
   ·right
    exact ⟨k',by rw [show max s.1.length (i + 1) - 1 = s.1.length - 1 from by omega]; simp [hk']⟩
 ·show ((iz s.1 i).set i k).getD j 0 = 0
  have hji : j ≠ i := fun e=>hno k (by simp [e])
  rw [hset _ _ _ hl1,zy hji,oN]
  exact h.zero j fun k' hm=>hno k' (by simp [hm])
 ·have hb' : s.2.1 = false ∧ (s.2.2.getD i false && (iz s.1 i).getD i 0 != k) = false := by
   have : (s.2.1 || (s.2.2.getD i false && (iz s.1 i).getD i 0 != k)) = false := hb
   simpa using this
  show ((iz s.1 i).set i k).getD j 0 = k'
  rw [hset _ _ _ hl1]
  have hold := h.good hb'.1
  rcases List.mem_append.1 hm with hm1 | hm
  ·by_cases hji : j = i
   ·subst hji
    rw [zp rfl]
    have hs := (h.seen j hp).2 ⟨k',hm1⟩
    have := hb'.2
    rw [hs,oN,hold j k' hm1] at this
    simp at this
    exact this.symm
   ·rw [zy hji,oN]
    exact hold j k' hm1
  ·simp at hm
   rw [zp hm.1,hm.2]
 ·have h1 := h.bad fun i k k' a b=>hk i k k' (by simp [a]) (by simp [b])
  show (s.2.1 || (s.2.2.getD i false && (iz s.1 i).getD i 0 != k)) = false
  rw [h1,Bool.false_or,oN]
  cases hs : s.2.2.getD i false with
  | false=>rfl
  | true =>
   obtain ⟨k',hk'⟩ := (h.seen i hp).1 hs
   rw [h.good h1 i k' hk',hk i k' k (by simp [hk']) (by simp)]
   simp
theorem PInv.fold : ∀ {r l : List (Nat × Int)} {s : PSt},PInv l s → (∀ p ∈ r,p.1 < 8) → PInv (l ++ r) (r.foldl eS s)
 | [],l,s,h,_=>by simpa using h
 | p :: r,l,s,h,hr=>by
  have := PInv.fold (r := r) (h.step (hr p (by simp))) fun q hq=>hr q (by simp [hq])
  simpa using this
theorem kinds_inv (q : LQuery) : PInv (gU q) (eh q) := by
 have := PInv.fold (r := gU q) PInv.init paramsQ_lt
 rw [List.nil_append] at this
 exact this
theorem kinds_bad {q : LQuery} : (eh q).2.1 = false ↔ nO (gU q) := by
 have h := kinds_inv q
 refine ⟨fun hb i k k' a b=>?_,h.bad⟩
 rw [← h.good hb i k a,← h.good hb i k' b]
structure ArgsOk (l : List (Nat × Int)) (args : Rq) : Prop where
 kinds : nO l
 args : ∀ i k,(i,k) ∈ l → i < args.length ∧ (∀ j x,j ≤ i → args[j]? = some x → eW x = true) ∧ (∀ x,args[i]? = some x → k = 0 ∨ x.kind = k ∨ x.kind = 0)
theorem ArgsOk.sub {l l' : List (Nat × Int)} {args : Rq} (h : ArgsOk l args) (hs : ∀ p ∈ l',p ∈ l) : ArgsOk l' args :=
 ⟨fun i k k' a b=>h.kinds i k k' (hs _ a) (hs _ b),fun i k a=>h.args i k (hs _ a)⟩
theorem args_ok {q : LQuery} (hb : (cU q).length ≤ 10000000) (args : Rq) : ∃ e,fB q args = some e ∧ (e = 0 ↔ ArgsOk (gU q) args) := by
 unfold fB
 rw [kinds_ok hb,bPs]
 have h := kinds_inv q
 cases hbad : (eh q).2.1 with
 | true =>
  refine ⟨13,by simp,?_⟩
  have : ¬ nO (gU q) := fun hk=>by rw [kinds_bad.2 hk] at hbad; cases hbad
  exact ⟨fun h=>by omega,fun h=>absurd h.kinds this⟩
 | false =>
  simp only [zd]
  have hk := kinds_bad.1 hbad
  by_cases hl : args.length < (eh q).1.length
  ·refine ⟨1,by simp [hl],fun h=>by omega,fun ha=>?_⟩
   rcases h.last with h0 | ⟨k,hm⟩
   ·omega
   ·have := (ha.args _ _ hm).1; omega
  ·have hge : (eh q).1.length ≤ args.length := by omega
   have hstep : ∀ k x,(eh q).1[k]? = some x → ∃ y,args[k]? = some y := fun k x hx=>by
    have := (zg.1 hx).1
    exact ⟨args[k],ze (by omega)⟩
   let okAt : Nat → Int → Prop := fun k x=>∀ y,args[k]? = some y → eW y = true ∧ (x = 0 ∨ y.kind = x ∨ y.kind = 0)
   obtain ⟨fl,hfl,hres⟩ := fF (step := fun (j1 : Nat) (x1 : Int) (_ : Unit)=>aj (aF args (j1 : Int)) fun (x31 : LVal)=>bo (eW x31) fun x33=>cond (!x33) (some (Flow.ret (σ := Unit) (7 : Int)))
     (cond (x1 != (0 : Int)) (aj (aF args (j1 : Int)) fun (x41 : LVal)=>cond (x41.kind != x1) (aj (aF args (j1 : Int)) fun (x50 : LVal)=>cond (x50.kind != (0 : Int)) (some (.ret 7)) (some (.next ()))) (some (.next ()))) (some (.next ()))))
    (fun j _=>∀ k x,k < j → (eh q).1[k]? = some x → okAt k x) (fun r=>r = 7 ∧ ∃ k x,(eh q).1[k]? = some x ∧ ¬ okAt k x) (eh q).1 0 () (fun k x hk=>by omega) (fun k x s hk hI=>by
     obtain ⟨y,hy⟩ := hstep k x hk
     simp only [Nat.zero_add] at hI ⊢
     rw [kI hy]
     simp only [bPs,bN]
     have next : okAt k x → ∀ k' x',k' < k + 1 → (eh q).1[k']? = some x' → okAt k' x' := fun ho k' x' hk' hx'=>by
      by_cases he : k' = k
      ·subst he; rw [hk] at hx'; cases hx'; exact ho
      ·exact hI k' x' (by omega) hx'
     cases hv : eW y with
     | false=>exact ⟨_,rfl,rfl,k,x,hk,fun ho=>by have := (ho y hy).1; rw [hv] at this; cases this⟩
     | true =>
      simp only [Bool.not_true,zd]
      by_cases hx0 : x = 0
      ·refine ⟨.next (),by simp [hx0],next fun z hz=>?_⟩
       rw [hy] at hz; cases hz; exact ⟨hv,.inl hx0⟩
      ·have e0 : (x != (0 : Int)) = true := by simpa using hx0
       rw [e0,zc]
       by_cases hyx : y.kind = x
       ·refine ⟨.next (),by simp [hyx],next fun z hz=>?_⟩
        rw [hy] at hz; cases hz; exact ⟨hv,.inr (.inl hyx)⟩
       ·have e1 : (y.kind != x) = true := by simpa using hyx
        rw [e1,zc]
        by_cases hy0 : y.kind = 0
        ·refine ⟨.next (),by simp [hy0],next fun z hz=>?_⟩
         rw [hy] at hz; cases hz; exact ⟨hv,.inr (.inr hy0)⟩
        ·have e2 : (y.kind != (0 : Int)) = true := by simpa using hy0
         refine ⟨.ret 7,by simp [e2],rfl,k,x,hk,fun ho=>?_⟩
         rcases (ho y hy).2 with a | a | a
         ·exact hx0 a
         ·exact hyx a
         ·exact hy0 a)
   have e0 : decide ((args.length : Int) < ((eh q).1.length : Int)) = false := zf (by omega)
   simp only [bne_self_eq_false,zd,e0]
   rw [hfl,bPs]
   have hget : ∀ k,k < (eh q).1.length → (eh q).1[k]? = some ((eh q).1.getD k 0) := fun k hk=>by
    rw [List.getD_eq_getElem?_getD,ze hk]; rfl
   cases fl with
   | brk s=>exact absurd hres (by simp)
   | next s =>
    refine ⟨0,rfl,fun _=>⟨hk,fun i k hm=>?_⟩,fun _=>rfl⟩
    have hi := h.len i k hm
    simp only [Nat.zero_add] at hres
    refine ⟨by omega,fun j x hj hx=>?_,fun x hx=>?_⟩
    ·exact ((hres j _ (by omega) (hget j (by omega))) x hx).1
    ·have := ((hres i _ (by omega) (hget i (by omega))) x hx).2
     rwa [h.good hbad i k hm] at this
   | ret r =>
    obtain ⟨rfl,k,x,hx,hno⟩ := hres
    refine ⟨7,rfl,fun h=>by omega,fun ha=>absurd ?_ hno⟩
    intro y hy
    have hkl := (zg.1 hx).1
    rcases h.last with h0 | ⟨k',hm⟩
    ·omega
    ·have hv := (ha.args _ _ hm).2.1 k y (by omega) hy
     refine ⟨hv,?_⟩
     by_cases hex : ∃ k2,(k,k2) ∈ gU q
     ·obtain ⟨k2,hm2⟩ := hex
      have hg := h.good hbad k k2 hm2
      have hxx : x = k2 := by
       rw [hget k hkl] at hx
       rw [← hg]
       exact (Option.some.inj hx).symm
      rw [hxx]
      exact (ha.args k k2 hm2).2.2 y hy
     ·left
      have := h.zero k fun k2 hm2=>hex ⟨k2,hm2⟩
      rw [hget k hkl] at hx
      rw [← this]
      exact (Option.some.inj hx).symm
end
end Go.Proofs.YtgaggbdcedpapaaGreat
