/- queryUnionExceptCancelUpto_holds, part 5: the layer, the plain functions and what they compute; conditions as in the statement. -/
import Derived.Test.YtgaggbdcedpapaaGreatUsd
set_option maxHeartbeats 4000000
namespace Go.Proofs.YtgaggbdcedpapaaGreat
noncomputable section
open Go Go.Ab
attribute [local irreducible] V Ao Do Gh Eff PH IntKind.wrap
set_option maxRecDepth 4000
def eJ (c : LChecker) (q : LQuery) (inA : List LCol) : Option ((List LCol) × Int) :=
 aj (ba (σ := List LCol) (ρ := ((List LCol) × Int)) (fun (j1 : Nat) (x1 : LExpr) (s1 : List LCol) =>
  bn (dn inA c.vars x1) fun x31 =>
  aj (aF q.names (j1 : Int)) fun (x39 : List UInt8) =>
  bn (dL x39) fun x41 =>
  cond (!x41)
   (some (.ret ([],3)))
   (cond (x31.2.2 != (0 : Int))
    (some (.ret ([],x31.2.2)))
    (cond (x31.1 == (0 : Int))
     (some (.ret ([],7)))
     (aj (aF q.names (j1 : Int)) fun (x54 : List UInt8) =>
     aj (dW 32 s1 ([(LCol.mk x54 x31.1 x31.2.1)] : List LCol)) fun (x60 : List LCol) =>
     some (.next x60))))) 0 q.exprs []) fun fl1=>fl1.thenR fun (s1 : List LCol) =>
 aj (ba (σ := List LCol) (ρ := ((List LCol) × Int)) (fun (_ : Nat) (x2 : LAggregateCall) (s2 : List LCol) =>
  aj (gj c inA x2) fun x73 =>
  cond (x73.2 != (0 : Int))
   (some (.ret ([],x73.2)))
   (aj (dW 32 s2 ([(LCol.mk x2.name x73.1 (!(x2.function == ([99,111,117,110,116] : List UInt8))))] : List LCol)) fun (x88 : List LCol) =>
   some (.next x88))) 0 q.aggregates s1) fun fl2=>fl2.thenR fun (s2 : List LCol) =>
 some (s2,0)
theorem md (c : LChecker) (q : LQuery) (inA : List LCol) (r : (List LCol) × Int) (H : eJ c q inA = some r) :
  aV Tryz.prog 158 [(.agg (js c)),(.agg (bv q)),(.list 50 (inA.map aG))] (.tup [(.list 50 (r.1.map aG)),(ae r.2)]) := by
 unfold eJ at H
 refine PH.aC Tryz.func158 Tryz.ntmps158 ?_
 refine ac (af (aT ?_))
 refine aT ?_
 refine am 2 tk rfl (ag (aw 1 tk rfl (ac (ac (af (am 2 tk rfl (aM tk (zl _) ?_)))))))
 refine aq tk rfl (ag ?_)
 obtain ⟨fl1,H1,Hp1⟩ := ax H
 refine bS tk 19 rfl rfl (fun hz1 _=>?_)
 rw [zl] at hz1
 refine aZ (τ := List LCol) (γ := OwnRef) (fun s1 g1=>⟨91,upd (upd (upd (upd (fun _=>.any) 8 (.own 60 g1 (s1.map aG).length)) 4 (.ptr [(ae q.kind),(.str q.table),(.list 9 (q.names.map cl)),(.list 56 (q.exprs.map bd)),(.list 66 (q.aggregates.map cj)),(.list 4 (q.descending.map cA)),(ae q.count),(ae q.offset),(.list 35 (q.inputs.map aW))])) 3 (.ptr [(.list 91 (c.s.tables.map bu)),(.list 142 (c.s.foreignKeys.map cz)),(.list 148 (c.s.constraints.map cG)),(.list 50 (c.vars.map aG))])) 2 (.list 50 (inA.map aG)),fun _=>none,upd (fun _=>none) 60 (some ⟨g1,50,(s1.map aG),true⟩)⟩) (fun t=>fl1 = .next t) ?_ (fun s1 g1 hn1=>?_)
 ·refine az (iW tk 8 60 (e := 50) rfl rfl ?_)
  refine bA (fun j1 s1 g1=>⟨91,upd (upd (upd (upd (upd (upd (upd (fun _=>.any) 21 (ae (j1 : Int))) 20 (ae (q.exprs.length : Int))) 19 (.list 56 (q.exprs.map bd))) 8 (.own 60 g1 (s1.map aG).length)) 4 (.ptr [(ae q.kind),(.str q.table),(.list 9 (q.names.map cl)),(.list 56 (q.exprs.map bd)),(.list 66 (q.aggregates.map cj)),(.list 4 (q.descending.map cA)),(ae q.count),(ae q.offset),(.list 35 (q.inputs.map aW))])) 3 (.ptr [(.list 91 (c.s.tables.map bu)),(.list 142 (c.s.foreignKeys.map cz)),(.list 148 (c.s.constraints.map cG)),(.list 50 (c.vars.map aG))])) 2 (.list 50 (inA.map aG)),fun _=>none,upd (fun _=>none) 60 (some ⟨g1,50,(s1.map aG),true⟩)⟩) (⟨none,0⟩) H1 (Gh.le (aa (aa (aa (aa (aa (aa (aa al))))))) ai (aA ah)) (fun j1 s1 g1 hj1 hr1=>?_)
  refine aw 1 tk rfl (ac ?_)
  refine aX rfl (fun h=>?_) (fun h=>?_)
  ·have hl1 := cn h
   obtain ⟨x1,fb1,hx1,H,hg1⟩ := rMc hl1 hr1
   refine av (ac (az (ac (af (aq tk rfl (bs tk (zn j1) (bO eC hx1) ?_))))))
   refine aq tk rfl ?_
   refine bt tk fun b10=>?_
   refine aq tk rfl (aD tk ?_)
   refine ag (ac (af (am 3 tk rfl (aN tk ?_))))
   obtain ⟨x31,h31,H⟩ := bJ H
   have s31 := mA inA c.vars x1
   rw [h31] at s31
   refine au Tryz.call159 (iX.r) s31 ?_
   refine am 7 tk rfl (ag (ac (az (ac (af (am 3 tk rfl ?_))))))
   obtain ⟨x39,k39,H⟩ := aY H
   refine bs tk k39.1 (aI (fun _=>rfl) k39.2) ?_
   refine aq tk rfl ?_
   obtain ⟨x41,h41,H⟩ := bJ H
   have s41 := lI x39
   rw [h41] at s41
   refine au Tryz.call180 (iX.r) s41 ?_
   refine am 2 tk rfl (ag ?_)
   refine aP rfl H (fun H=>?_) (fun H=>?_)
   ·refine aw 2 tk rfl ?_
    obtain rfl := ao H
    have e1 : fl1 = .ret _ := hg1
    subst e1
    obtain rfl := bm Hp1
    refine aB tk rfl (ps := [(.val (.slice none 0 0)),(ae 3)]) ⟨_,_,rfl,rfl,_,_,rfl,rfl,rfl⟩ (PLe.of2 (mV.tup (ir.cons (mV.nil tk rfl) (ir.cons (mV.of_eq rfl) ir.nil))))
   refine aw 3 tk rfl ?_
   refine aP rfl H (fun H=>?_) (fun H=>?_)
   ·refine aw 3 tk rfl ?_
    obtain rfl := ao H
    have e1 : fl1 = .ret _ := hg1
    subst e1
    obtain rfl := bm Hp1
    refine aB tk rfl (ps := [(.val (.slice none 0 0)),(ae x31.2.2)]) ⟨_,_,rfl,rfl,_,_,rfl,rfl,rfl⟩ (PLe.of2 (mV.tup (ir.cons (mV.nil tk rfl) (ir.cons (mV.of_eq rfl) ir.nil))))
   refine aw 3 tk rfl ?_
   refine aP rfl H (fun H=>?_) (fun H=>?_)
   ·refine aw 2 tk rfl ?_
    obtain rfl := ao H
    have e1 : fl1 = .ret _ := hg1
    subst e1
    obtain rfl := bm Hp1
    refine aB tk rfl (ps := [(.val (.slice none 0 0)),(ae 7)]) ⟨_,_,rfl,rfl,_,_,rfl,rfl,rfl⟩ (PLe.of2 (mV.tup (ir.cons (mV.nil tk rfl) (ir.cons (mV.of_eq rfl) ir.nil))))
   refine av (aR (af (am 4 tk rfl ?_)))
   obtain ⟨x54,k54,H⟩ := aY H
   refine bs tk k54.1 (aI (fun _=>rfl) k54.2) ?_
   refine am 4 tk rfl (cK tk (rows' := List.map aG ([(LCol.mk x54 x31.1 x31.2.1)] : List LCol)) (gc.refl _) ?_)
   obtain ⟨x60,h60,H⟩ := ax H
   have k60 := dp h60
   refine dk (rows2' := List.map aG ([(LCol.mk x54 x31.1 x31.2.1)] : List LCol)) (rows' := List.map aG x60) tk rfl rfl rfl rfl rfl rfl rfl rfl rfl rfl rfl rfl rfl (gc.refl _) (eL k60.1) (eG k60.2.1) (eK k60.2.2) fun g60=>?_
   refine aq tk rfl (ag (aR (bi 2 tk rfl ?_)))
   obtain rfl := ao H
   refine aL x60 g60 ⟨hl1,hg1⟩ (Gh.le (aa (aa (aa (aa (aa (aa (aH (PLe.q (aU (by omega))) al))))))) ai (aA ah))
  have hn1 := rMd (co h) hr1
  refine aQ rfl ?_
  refine aO s1 g1 hn1 (Gh.le (aa (aa (aa (aa al)))) ai (aA ah))
 have H := ck hn1 Hp1
 refine ac (ac (af (am 2 tk rfl (aM tk (zl _) ?_))))
 refine aq tk rfl (ag ?_)
 obtain ⟨fl2,H2,Hp2⟩ := ax H
 refine bS tk 63 rfl rfl (fun hz2 _=>?_)
 rw [zl] at hz2
 refine aZ (τ := List LCol) (γ := OwnRef) (fun s2 g2=>⟨91,upd (fun _=>.any) 8 (.own 60 g2 (s2.map aG).length),fun _=>none,upd (fun _=>none) 60 (some ⟨g2,50,(s2.map aG),true⟩)⟩) (fun t=>fl2 = .next t) ?_ (fun s2 g2 hn2=>?_)
 ·refine az ?_
  refine bA (fun j2 s2 g2=>⟨91,upd (upd (upd (upd (upd (upd (fun _=>.any) 65 (ae (j2 : Int))) 64 (ae (q.aggregates.length : Int))) 63 (.list 66 (q.aggregates.map cj))) 8 (.own 60 g2 (s2.map aG).length)) 3 (.ptr [(.list 91 (c.s.tables.map bu)),(.list 142 (c.s.foreignKeys.map cz)),(.list 148 (c.s.constraints.map cG)),(.list 50 (c.vars.map aG))])) 2 (.list 50 (inA.map aG)),fun _=>none,upd (fun _=>none) 60 (some ⟨g2,50,(s2.map aG),true⟩)⟩) g1 H2 (Gh.le (aa (aa (aa (aa (aa (aa al)))))) ai (aA ah)) (fun j2 s2 g2 hj2 hr2=>?_)
  refine aw 1 tk rfl (ac ?_)
  refine aX rfl (fun h=>?_) (fun h=>?_)
  ·have hl2 := cn h
   obtain ⟨x2,fb2,hx2,H,hg2⟩ := rMc hl2 hr2
   refine av (ac (az (ac (af ?_))))
   refine bs tk (zn j2) (bO (fun _=>rfl) hx2) ?_
   refine aq tk rfl ?_
   refine bt tk fun b15=>?_
   refine aD tk ?_
   refine ag (ac (af (am 2 tk rfl (aN tk ?_))))
   obtain ⟨x73,h73,H⟩ := ax H
   have s73 := qi c inA x2 _ h73
   refine au Tryz.call181 (iX.r) s73 ?_
   refine am 5 tk rfl (ag (ac (aw 2 tk rfl ?_)))
   refine aP rfl H (fun H=>?_) (fun H=>?_)
   ·refine aw 3 tk rfl ?_
    obtain rfl := ao H
    have e2 : fl2 = .ret _ := hg2
    subst e2
    obtain rfl := bm Hp2
    refine aB tk rfl (ps := [(.val (.slice none 0 0)),(ae x73.2)]) ⟨_,_,rfl,rfl,_,_,rfl,rfl,rfl⟩ (PLe.of2 (mV.tup (ir.cons (mV.nil tk rfl) (ir.cons (mV.of_eq rfl) ir.nil))))
   refine av (af (am 2 tk rfl (aN tk ?_)))
   refine am 2 tk rfl (aN tk ?_)
   refine am 2 tk rfl ?_
   refine cK tk (rows' := List.map aG ([(LCol.mk x2.name x73.1 (!(x2.function == ([99,111,117,110,116] : List UInt8))))] : List LCol)) (gc.refl _) ?_
   obtain ⟨x88,h88,H⟩ := ax H
   have k88 := dp h88
   refine dk (rows2' := List.map aG ([(LCol.mk x2.name x73.1 (!(x2.function == ([99,111,117,110,116] : List UInt8))))] : List LCol)) (rows' := List.map aG x88) tk rfl rfl rfl rfl rfl rfl rfl rfl rfl rfl rfl rfl rfl (gc.refl _) (eL k88.1) (eG k88.2.1) (eK k88.2.2) fun g88=>?_
   refine aq tk rfl (ag (aR (bi 2 tk rfl ?_)))
   obtain rfl := ao H
   refine aL x88 g88 ⟨hl2,hg2⟩ (Gh.le (aa (aa (aa (aa (aa (aH (PLe.q (aU (by omega))) al)))))) ai (aA ah))
  have hn2 := rMd (co h) hr2
  refine aQ rfl ?_
  refine aO s2 g2 hn2 (Gh.le (aa al) ai (aA ah))
 have H := ck hn2 Hp2
 refine aw 3 tk rfl ?_
 obtain rfl := ao H
 refine ec 6 rfl rfl rfl ?_
 refine aB tk rfl (ps := [(.list 50 (s2.map aG)),(ae 0)]) ⟨_,_,rfl,rfl,_,_,rfl,rfl,rfl⟩ (PLe.q rfl)
def fC (sA : LSchema) (inst : List LRelation) : Option (Int) :=
 cond ((inst.length : Int) != (sA.tables.length : Int))
  (some 3)
  (aj (ba (σ := Unit) (ρ := (Int)) (fun (j1 : Nat) (x1 : LRelation) (_ : Unit) =>
   aj (aF sA.tables (j1 : Int)) fun (x28 : LTable) =>
   cond (!(x1.table == x28.name))
    (some (.ret 3))
    (cond (decide ((x1.rows.length : Int) > (24 : Int)))
     (some (.ret 2))
     (aj (ba (σ := Unit) (ρ := (Int)) (fun (j3 : Nat) (x3 : Rq) (_ : Unit) =>
      aj (eu x28 x3) fun x49 =>
      cond (x49 != (0 : Int))
       (some (.ret x49))
       (cond ((j3 : Int) == (0 : Int))
        (some (.next ()))
        (aj (aF x1.rows (IntKind.i64.wrap ((j3 : Int) - (1 : Int)))) fun (x60 : Rq) =>
        aj (fv x28 x60) fun x62 =>
        aj (fv x28 x3) fun x65 =>
        aj (fA x62 x65) fun x66 =>
        cond (x66 == (0 : Int))
         (some (.ret 9))
         (cond (decide (x66 > (0 : Int)))
          (some (.ret 6))
          (some (.next ())))))) 0 x1.rows ()) fun fl3=>fl3.thenF fun (_ : Unit) =>
     some (.next ())))) 0 inst ()) fun fl1=>fl1.thenR fun (_ : Unit) =>
  some 0)
theorem ma (sA : LSchema) (inst : List LRelation) (r : Int) (H : fC sA inst = some r) :
  aV Tryz.prog 52 [(.agg (eh sA)),(.list 87 (inst.map bV))] (ae r) := by
 unfold fC at H
 refine PH.aC Tryz.func52 Tryz.ntmps52 ?_
 refine ac (af (aT ?_))
 refine aq tk rfl (ag (ac (ac (af (aq tk rfl (aM tk (zl _) ?_))))))
 refine am 2 tk rfl (aM tk (zl _) ?_)
 refine aq tk rfl (ag ?_)
 refine aP rfl H (fun H=>?_) (fun H=>?_)
 ·refine aw 1 tk rfl ?_
  obtain rfl := ao H
  refine aB tk rfl (ps := [(ae 3)]) ⟨_,_,rfl,rfl,rfl⟩ (PLe.q rfl)
 refine av (ac (ac (af (aq tk rfl (aM tk (zl _) ?_)))))
 refine aq tk rfl (ag ?_)
 obtain ⟨fl1,H1,Hp1⟩ := ax H
 refine bS tk 18 rfl rfl (fun hz1 _=>?_)
 rw [zl] at hz1
 refine aZ (τ := Unit) (γ := Unit) (fun s1 g1=>⟨75,fun _=>.any,fun _=>none,fun _=>none⟩) (fun t=>fl1 = .next t) ?_ (fun s1 g1 hn1=>?_)
 ·refine az ?_
  refine bA (fun j1 s1 g1=>⟨75,upd (upd (upd (upd (fun _=>.any) 20 (ae (j1 : Int))) 19 (ae (inst.length : Int))) 18 (.list 87 (inst.map bV))) 2 (.ptr [(.list 91 (sA.tables.map bu)),(.list 142 (sA.foreignKeys.map cz)),(.list 148 (sA.constraints.map cG))]),fun _=>none,fun _=>none⟩) () H1 (Gh.le (aa (aa (aa (aa al)))) ai ah) (fun j1 s1 g1 hj1 hr1=>?_)
  refine aw 1 tk rfl (ac ?_)
  refine aX rfl (fun h=>?_) (fun h=>?_)
  ·have hl1 := cn h
   obtain ⟨x1,fb1,hx1,H,hg1⟩ := rMc hl1 hr1
   refine av (ac (az (ac (af (aq tk rfl ?_)))))
   refine bs tk (zn j1) (bO (fun _=>rfl) hx1) ?_
   refine aq tk rfl ?_
   refine bt tk fun b6=>?_
   refine aq tk rfl (aD tk ?_)
   refine ag (ac (af (am 3 tk rfl ?_)))
   obtain ⟨x28,k28,H⟩ := aY H
   refine bs tk k28.1 (aI (fun _=>rfl) k28.2) ?_
   refine aq tk rfl ?_
   refine bt tk fun b7=>?_
   refine aD tk ?_
   refine ag (ac (ac (af (aq tk rfl (aN tk ?_)))))
   refine aq tk rfl (aN tk ?_)
   refine aq tk rfl (ag ?_)
   refine aP rfl H (fun H=>?_) (fun H=>?_)
   ·refine aw 1 tk rfl ?_
    obtain rfl := ao H
    have e1 : fl1 = .ret _ := hg1
    subst e1
    obtain rfl := bm Hp1
    refine aB tk rfl (ps := [(ae 3)]) ⟨_,_,rfl,rfl,rfl⟩ (PLe.q rfl)
   refine av (ac (ac (af (aq tk rfl (aN tk ?_)))))
   refine aM tk (zl _) ?_
   refine aq tk rfl (ag ?_)
   refine aP rfl H (fun H=>?_) (fun H=>?_)
   ·refine aw 1 tk rfl ?_
    obtain rfl := ao H
    have e1 : fl1 = .ret _ := hg1
    subst e1
    obtain rfl := bm Hp1
    refine aB tk rfl (ps := [(ae 2)]) ⟨_,_,rfl,rfl,rfl⟩ (PLe.q rfl)
   refine av (ac (af (aq tk rfl (aN tk ?_))))
   refine aM tk (zl _) ?_
   refine aq tk rfl (ag ?_)
   obtain ⟨fl3,H3,Hp3⟩ := ax H
   refine bS tk 40 rfl rfl (fun hz3 _=>?_)
   rw [zl] at hz3
   refine aZ (τ := Unit) (γ := Unit) (fun s3 g3=>⟨75,upd (upd (upd (upd (fun _=>.any) 20 (ae (j1 : Int))) 19 (ae (inst.length : Int))) 18 (.list 87 (inst.map bV))) 2 (.ptr [(.list 91 (sA.tables.map bu)),(.list 142 (sA.foreignKeys.map cz)),(.list 148 (sA.constraints.map cG))]),fun _=>none,fun _=>none⟩) (fun t=>fl3 = .next t) ?_ (fun s3 g3 hn3=>?_)
   ·refine az ?_
    refine bA (fun j3 s3 g3=>⟨75,upd (upd (upd (upd (upd (upd (upd (upd (upd (fun _=>.any) 42 (ae (j3 : Int))) 41 (ae (x1.rows.length : Int))) 40 (.list 51 (x1.rows.map (ak 53 ab)))) 20 (ae (j1 : Int))) 19 (ae (inst.length : Int))) 18 (.list 87 (inst.map bV))) 7 (.box 7 b7 0)) 6 (.box 6 b6 0)) 2 (.ptr [(.list 91 (sA.tables.map bu)),(.list 142 (sA.foreignKeys.map cz)),(.list 148 (sA.constraints.map cG))]),upd (upd (fun _=>none) 7 (some ⟨b7,[(.str x28.name),(.list 50 (x28.columns.map aG)),(.list 3 (x28.primaryKey.map bG))]⟩)) 6 (some ⟨b6,[(.str x1.table),(.list 51 (x1.rows.map (ak 53 ab)))]⟩),fun _=>none⟩) () H3 (Gh.le (aa (aa (aa (aa (aa (aa (aa (aa (aa al))))))))) (ay rfl (iX.r) (ay rfl (iX.r) ai)) ah) (fun j3 s3 g3 hj3 hr3=>?_)
    refine aw 1 tk rfl (ac ?_)
    refine aX rfl (fun h=>?_) (fun h=>?_)
    ·have hl3 := cn h
     obtain ⟨x3,fb3,hx3,H,hg3⟩ := rMc hl3 hr3
     refine av (ac (az (ac (af (aq tk rfl ?_)))))
     refine bs tk (zn j3) (bO (fun _=>rfl) hx3) ?_
     refine am 3 tk rfl (ag (ac (ac (af (aN tk ?_)))))
     refine aq tk rfl ?_
     obtain ⟨x49,h49,H⟩ := ax H
     have s49 := oK x28 x3 _ h49
     refine au Tryz.call84 (iX.r) s49 ?_
     refine aq tk rfl (ag (aw 2 tk rfl ?_))
     refine aP rfl H (fun H=>?_) (fun H=>?_)
     ·refine aw 2 tk rfl ?_
      obtain rfl := ao H
      have e3 : fl3 = .ret _ := hg3
      subst e3
      have q3 := om Hp3
      subst q3
      have e1 : fl1 = .ret _ := hg1
      subst e1
      obtain rfl := bm Hp1
      refine aB tk rfl (ps := [(ae x49)]) ⟨_,_,rfl,rfl,rfl⟩ (PLe.q rfl)
     refine av (ac (aw 2 tk rfl ?_))
     refine aP rfl H (fun H=>?_) (fun H=>?_)
     ·refine aQ rfl (bi 2 tk rfl ?_)
      obtain rfl := ao H
      refine aL () () ⟨hl3,hg3⟩ (Gh.le (aa (aa (aa (aa (aa (aa (aa (aa (aH (PLe.q (aU (by omega))) al))))))))) (ay rfl (iX.r) (ay rfl (iX.r) ai)) ah)
     refine av (ac (bj tk mok ⟨true,false,[61]⟩ [0,1,2,3,4,5,6,8,9,7,10,11,12] rfl (by decide +kernel) rfl (cF ?_)))
     refine cC rfl (cF ?_)
     refine aK 2 rfl ?_
     obtain ⟨x60,k60,H⟩ := aY H
     refine cg k60.1 (aI (fun _=>rfl) k60.2) ?_
     refine cC rfl (cF ?_)
     refine cC rfl ?_
     obtain ⟨x62,h62,H⟩ := ax H
     have s62 := pg x28 x60 _ h62
     refine bg Tryz.call86 (iX.r) s62 ?_
     obtain ⟨x65,h65,H⟩ := ax H
     have s65 := pg x28 x3 _ h65
     refine bg Tryz.call86 (iX.r) s65 ?_
     obtain ⟨x66,h66,H⟩ := ax H
     have s66 := qh x62 x65 _ h66
     refine bg Tryz.call85 (iX.r) s66 ?_
     refine cC rfl (bf (az (aw 3 tk rfl ?_)))
     refine aP rfl H (fun H=>?_) (fun H=>?_)
     ·refine aw 1 tk rfl ?_
      obtain rfl := ao H
      have e3 : fl3 = .ret _ := hg3
      subst e3
      have q3 := om Hp3
      subst q3
      have e1 : fl1 = .ret _ := hg1
      subst e1
      obtain rfl := bm Hp1
      refine aB tk rfl (ps := [(ae 9)]) ⟨_,_,rfl,rfl,rfl⟩ (PLe.q rfl)
     refine aw 3 tk rfl ?_
     refine aP rfl H (fun H=>?_) (fun H=>?_)
     ·refine aw 1 tk rfl ?_
      obtain rfl := ao H
      have e3 : fl3 = .ret _ := hg3
      subst e3
      have q3 := om Hp3
      subst q3
      have e1 : fl1 = .ret _ := hg1
      subst e1
      obtain rfl := bm Hp1
      refine aB tk rfl (ps := [(ae 6)]) ⟨_,_,rfl,rfl,rfl⟩ (PLe.q rfl)
     refine av (aR (aR (bi 2 tk rfl ?_)))
     obtain rfl := ao H
     refine aL () () ⟨hl3,hg3⟩ (Gh.le (aa (aa (aa (aa (aa (aa (aa (aa (aH (PLe.q (aU (by omega))) al))))))))) (ay rfl (iX.r) (ay rfl (iX.r) ai)) ah)
    have hn3 := rMd (co h) hr3
    refine aQ rfl ?_
    refine aO s3 g3 hn3 (Gh.le (aa (aa (aa (aa al)))) ai ah)
   have H := thenF_next hn3 Hp3
   refine aR (bi 2 tk rfl ?_)
   obtain rfl := ao H
   refine aL () () ⟨hl1,hg1⟩ (Gh.le (aa (aa (aa (aH (PLe.q (aU (by omega))) al)))) ai ah)
  have hn1 := rMd (co h) hr1
  refine aQ rfl ?_
  refine aO s1 g1 hn1 (Gh.le al ai ah)
 have H := ck hn1 Hp1
 refine aw 1 tk rfl ?_
 obtain rfl := ao H
 refine aB tk rfl (ps := [(ae 0)]) ⟨_,_,rfl,rfl,rfl⟩ (PLe.q rfl)
def io (x : Rq) (c0 : LRun) (c1 : List LCol) (c2 : LQuery) : Option (Bool) :=
 aj (aF c2.exprs 0) fun (x12 : LExpr) =>
 bn (bI c0 c1 x) fun x9 =>
 bn (dd x9 x12) fun x14 =>
 bn (kM x14) fun x15 =>
 some (!x15)
theorem qH (x : Rq) (c0 : LRun) (c1 : List LCol) (c2 : LQuery) (r : Bool) (H : io x c0 c1 c2 = some r) :
  aV Tryz.prog 136 [(.list 53 (x.map ab)),(.ptr (il c0)),(.ptr [(.list 50 (c1.map aG))]),(.ptr (bv c2))] (aE r) := by
 unfold io at H
 refine PH.aC Tryz.func136 Tryz.ntmps136 ?_
 refine aw 1 tk rfl (ac (bj tk mok ⟨false,false,[]⟩ [0,1,2,4,5,6,7,3,8,9,10,11] rfl (by decide +kernel) rfl (aK 5 rfl ?_)))
 obtain ⟨x12,k12,H⟩ := aY H
 refine cg k12.1 (aI eC k12.2) ?_
 refine cC rfl ?_
 obtain ⟨x9,h9,H⟩ := bJ H
 have s9 := kq c0 c1 x
 rw [h9] at s9
 refine bg Tryz.call139 (iX.r) s9 ?_
 obtain ⟨x14,h14,H⟩ := bJ H
 have s14 := mD x9 x12
 rw [h14] at s14
 refine bg Tryz.call138 (iX.r) s14 ?_
 obtain ⟨x15,h15,H⟩ := bJ H
 have s15 := isTS x14
 rw [h15] at s15
 refine bg Tryz.call137 (iX.r) s15 ?_
 refine aK 2 rfl (bf ?_)
 obtain rfl := ao H
 refine aB tk rfl (ps := [(aE (!x15))]) ⟨_,_,rfl,rfl,rfl⟩ (PLe.q rfl)
def dO (rA : LRun) (cols : List LCol) (x : Rq) (l : List LExpr) : Option (Rq) :=
 aj (ba (σ := Rq) (ρ := Empty) (fun (_ : Nat) (x1 : LExpr) (s1 : Rq) =>
  bn (bI rA cols x) fun x22 =>
  bn (dd x22 x1) fun x24 =>
  aj (dW 32 s1 ([x24] : Rq)) fun (x26 : Rq) =>
  some (.next x26)) 0 l []) fun fl1=>fl1.thenP fun (s1 : Rq) =>
 some s1
theorem jN (rA : LRun) (cols : List LCol) (x : Rq) (l : List LExpr) (r : Rq) (H : dO rA cols x l = some r) :
  aV Tryz.prog 140 [(.agg (il rA)),(.list 50 (cols.map aG)),(.list 53 (x.map ab)),(.list 56 (l.map bd))] (.list 53 (r.map ab)) := by
 unfold dO at H
 refine PH.aC Tryz.func140 Tryz.ntmps140 ?_
 refine ac (af (aT ?_))
 refine aq tk rfl (ag (aw 1 tk rfl (ac (ac (af (aq tk rfl (aM tk (zl _) ?_)))))))
 refine aq tk rfl (ag ?_)
 obtain ⟨fl1,H1,Hp1⟩ := ax H
 refine bS tk 12 rfl rfl (fun hz1 _=>?_)
 rw [zl] at hz1
 refine aZ (τ := Rq) (γ := OwnRef) (fun s1 g1=>⟨29,upd (fun _=>.any) 9 (.own 26 g1 (s1.map ab).length),fun _=>none,upd (fun _=>none) 26 (some ⟨g1,53,(s1.map ab),true⟩)⟩) (fun t=>fl1 = .next t) ?_ (fun s1 g1 hn1=>?_)
 ·refine az (iW tk 9 26 (e := 53) rfl rfl ?_)
  refine bA (fun j1 s1 g1=>⟨29,upd (upd (upd (upd (upd (upd (upd (fun _=>.any) 14 (ae (j1 : Int))) 13 (ae (l.length : Int))) 12 (.list 56 (l.map bd))) 9 (.own 26 g1 (s1.map ab).length)) 4 (.ptr [(.list 91 (rA.s.tables.map bu)),(.list 142 (rA.s.foreignKeys.map cz)),(.list 148 (rA.s.constraints.map cG)),(.list 87 (rA.st.map bV)),(.list 53 (rA.args.map ab)),(.list 50 (rA.vars.map aG)),(.list 9 (rA.names.map cl)),(.list 53 (rA.vals.map ab))])) 2 (.list 53 (x.map ab))) 1 (.list 50 (cols.map aG)),fun _=>none,upd (fun _=>none) 26 (some ⟨g1,53,(s1.map ab),true⟩)⟩) (⟨none,0⟩) H1 (Gh.le (aa (aa (aa (aa (aa (aa (aa al))))))) ai (aA ah)) (fun j1 s1 g1 hj1 hr1=>?_)
  refine aw 1 tk rfl (ac ?_)
  refine aX rfl (fun h=>?_) (fun h=>?_)
  ·have hl1 := cn h
   obtain ⟨x1,fb1,hx1,H,hg1⟩ := rMc hl1 hr1
   refine av (ac (az (ac (af (bs tk (zn j1) (bO eC hx1) ?_)))))
   refine aq tk rfl ?_
   refine bt tk fun b11=>?_
   refine aD tk ?_
   refine ag (bj tk mok ⟨true,false,[19]⟩ [0,1,2,3,5,4,6,7,8,9] rfl (by decide +kernel) rfl (aK 4 rfl (cF ?_)))
   obtain ⟨x22,h22,H⟩ := bJ H
   have s22 := kq rA cols x
   rw [h22] at s22
   refine bg Tryz.call139 (iX.r) s22 ?_
   obtain ⟨x24,h24,H⟩ := bJ H
   have s24 := mD x22 x1
   rw [h24] at s24
   refine bg Tryz.call138 (iX.r) s24 ?_
   refine cC rfl ?_
   obtain ⟨x26,h26,H⟩ := ax H
   have k26 := dp h26
   refine lN (rows2' := List.map ab ([x24] : Rq)) (rows' := List.map ab x26) tk rfl rfl rfl rfl rfl rfl rfl rfl rfl rfl rfl rfl rfl rfl (gc.refl _) (eL k26.1) (eG k26.2.1) (eK k26.2.2) fun g26=>?_
   refine cC rfl (bf (aR (bi 2 tk rfl ?_)))
   obtain rfl := ao H
   refine aL x26 g26 ⟨hl1,hg1⟩ (Gh.le (aa (aa (aa (aa (aa (aa (aH (PLe.q (aU (by omega))) al))))))) ai (aA ah))
  have hn1 := rMd (co h) hr1
  refine aQ rfl ?_
  refine aO s1 g1 hn1 (Gh.le (aa al) ai (aA ah))
 have H := bo hn1 Hp1
 refine aw 2 tk rfl ?_
 obtain rfl := ao H
 refine ec 8 rfl rfl rfl ?_
 refine aB tk rfl (ps := [(.list 53 (s1.map ab))]) ⟨_,_,rfl,rfl,rfl⟩ (PLe.q rfl)
def jr (rA : LRun) (a : LAggregateCall) (cols : List LCol) (l : Rz) : Option (LVal) :=
 cond ((a.args.length : Int) == (0 : Int))
  (bn (fU (l.length : Int)) fun x19 =>
  some x19)
  (aj (ba (σ := Rq) (ρ := Empty) (fun (_ : Nat) (x1 : Rq) (s1 : Rq) =>
   aj (aF a.args 0) fun (x32 : LExpr) =>
   bn (bI rA cols x1) fun x29 =>
   bn (dd x29 x32) fun x34 =>
   cond (x34.kind != (0 : Int))
    (aj (dW 32 s1 ([x34] : Rq)) fun (x41 : Rq) =>
    some (.next x41))
    (some (.next s1))) 0 l []) fun fl1=>fl1.thenP fun (s1 : Rq) =>
  aj (fN a.function s1) fun x46 =>
  some x46)
theorem rO (rA : LRun) (a : LAggregateCall) (cols : List LCol) (l : Rz) (r : LVal) (H : jr rA a cols l = some r) :
  aV Tryz.prog 173 [(.agg (il rA)),(.agg (cj a)),(.list 50 (cols.map aG)),(.list 51 (l.map (ak 53 ab)))] (.agg (ab r)) := by
 unfold jr at H
 refine PH.aC Tryz.func173 Tryz.ntmps173 ?_
 refine ac (af (aT ?_))
 refine aT ?_
 refine bt tk fun b8=>?_
 refine ag (ac (ac (af (am 2 tk rfl (aM tk (zl _) ?_)))))
 refine aq tk rfl (ag ?_)
 refine aP rfl H (fun H=>?_) (fun H=>?_)
 ·refine ac (af (aq tk rfl (aM tk (zl _) ?_)))
  obtain ⟨x19,h19,H⟩ := bJ H
  have s19 := pw (l.length : Int)
  rw [h19] at s19
  refine au Tryz.call192 (iX.r) s19 ?_
  refine aD tk ?_
  refine ag ?_
  obtain rfl := ao H
  refine aB tk rfl (ps := [(.agg [(ae x19.kind),(ae x19.int),(.str x19.text)])]) ⟨_,_,rfl,⟨_,_,_,_,_,rfl,rfl,rfl,rfl⟩,rfl⟩ (PLe.q rfl)
 refine av (aw 1 tk rfl (ac (ac (af (aq tk rfl (aM tk (zl _) ?_))))))
 refine aq tk rfl (ag ?_)
 obtain ⟨fl1,H1,Hp1⟩ := ax H
 refine bS tk 20 rfl rfl (fun hz1 _=>?_)
 rw [zl] at hz1
 refine aZ (τ := Rq) (γ := OwnRef) (fun s1 g1=>⟨47,upd (upd (upd (fun _=>.any) 9 (.own 41 g1 (s1.map ab).length)) 8 (.box 8 b8 0)) 5 (.ptr [(.str a.name),(.str a.function),(.list 56 (a.args.map bd))]),upd (fun _=>none) 8 (some ⟨b8,[(ae 0),(ae 0),(.str [])]⟩),upd (fun _=>none) 41 (some ⟨g1,53,(s1.map ab),true⟩)⟩) (fun t=>fl1 = .next t) ?_ (fun s1 g1 hn1=>?_)
 ·refine az (iW tk 9 41 (e := 53) rfl rfl ?_)
  refine bA (fun j1 s1 g1=>⟨47,upd (upd (upd (upd (upd (upd (upd (upd (fun _=>.any) 22 (ae (j1 : Int))) 21 (ae (l.length : Int))) 20 (.list 51 (l.map (ak 53 ab)))) 9 (.own 41 g1 (s1.map ab).length)) 8 (.box 8 b8 0)) 5 (.ptr [(.str a.name),(.str a.function),(.list 56 (a.args.map bd))])) 4 (.ptr [(.list 91 (rA.s.tables.map bu)),(.list 142 (rA.s.foreignKeys.map cz)),(.list 148 (rA.s.constraints.map cG)),(.list 87 (rA.st.map bV)),(.list 53 (rA.args.map ab)),(.list 50 (rA.vars.map aG)),(.list 9 (rA.names.map cl)),(.list 53 (rA.vals.map ab))])) 2 (.list 50 (cols.map aG)),upd (fun _=>none) 8 (some ⟨b8,[(ae 0),(ae 0),(.str [])]⟩),upd (fun _=>none) 41 (some ⟨g1,53,(s1.map ab),true⟩)⟩) (⟨none,0⟩) H1 (Gh.le (aa (aa (aa (aa (aa (aa (aa (aa al)))))))) (ay rfl (iX.r) ai) (aA ah)) (fun j1 s1 g1 hj1 hr1=>?_)
  refine aw 1 tk rfl (ac ?_)
  refine aX rfl (fun h=>?_) (fun h=>?_)
  ·have hl1 := cn h
   obtain ⟨x1,fb1,hx1,H,hg1⟩ := rMc hl1 hr1
   refine av (ac (az (ac (af ?_))))
   refine bs tk (zn j1) (bO (fun _=>rfl) hx1) ?_
   refine am 2 tk rfl (ag (ac (bj tk mok ⟨false,false,[]⟩ [0,1,2,4,5,6,7,3,8,9,10] rfl (by decide +kernel) rfl (aK 5 rfl ?_))))
   obtain ⟨x32,k32,H⟩ := aY H
   refine cg k32.1 (aI eC k32.2) ?_
   refine cC rfl ?_
   obtain ⟨x29,h29,H⟩ := bJ H
   have s29 := kq rA cols x1
   rw [h29] at s29
   refine bg Tryz.call139 (iX.r) s29 ?_
   obtain ⟨x34,h34,H⟩ := bJ H
   have s34 := mD x29 x32
   rw [h34] at s34
   refine bg Tryz.call138 (iX.r) s34 ?_
   refine pM rfl rfl rfl rfl rfl rfl rfl rfl fun b12=>?_
   refine dX ?_
   refine bf (ac (af (aq tk rfl (aN tk ?_))))
   refine aq tk rfl (ag ?_)
   refine aP rfl H (fun H=>?_) (fun H=>?_)
   ·refine af (aq tk rfl (aN tk ?_))
    refine cK tk (rows' := List.map ab ([x34] : Rq)) (gc.refl _) ?_
    obtain ⟨x41,h41,H⟩ := ax H
    have k41 := dp h41
    refine dk (rows2' := List.map ab ([x34] : Rq)) (rows' := List.map ab x41) tk rfl rfl rfl rfl rfl rfl rfl rfl rfl rfl rfl rfl rfl (gc.refl _) (eL k41.1) (eG k41.2.1) (eK k41.2.2) fun g41=>?_
    refine aq tk rfl (ag (aR (bi 2 tk rfl ?_)))
    obtain rfl := ao H
    refine aL x41 g41 ⟨hl1,hg1⟩ (Gh.le (aa (aa (aa (aa (aa (aa (aa (aH (PLe.q (aU (by omega))) al)))))))) (ay rfl (iX.r) ai) (aA ah))
   refine av (aR (bi 2 tk rfl ?_))
   obtain rfl := ao H
   refine aL s1 g1 ⟨hl1,hg1⟩ (Gh.le (aa (aa (aa (aa (aa (aa (aa (aH (PLe.q (aU (by omega))) al)))))))) (ay rfl (iX.r) ai) (aA ah))
  have hn1 := rMd (co h) hr1
  refine aQ rfl ?_
  refine aO s1 g1 hn1 (Gh.le (aa (aa (aa al))) (ay rfl (iX.r) ai) (aA ah))
 have H := bo hn1 Hp1
 refine ac (ec 9 rfl rfl rfl (af (am 3 tk rfl ?_)))
 obtain ⟨x46,h46,H⟩ := ax H
 have s46 := nP a.function s1 _ h46
 refine au Tryz.call193 (iX.r) s46 ?_
 refine aD tk ?_
 refine ag ?_
 obtain rfl := ao H
 refine aB tk rfl (ps := [(.agg [(ae x46.kind),(ae x46.int),(.str x46.text)])]) ⟨_,_,rfl,⟨_,_,_,_,_,rfl,rfl,rfl,rfl⟩,rfl⟩ (PLe.q rfl)
def db (x : Rz) (cmp : Rq → Rq → Option (Int)) : Option (Rz) :=
 aj (ep x (x.length : Int) cmp) fun x8 =>
 aj (cB (x8.length = x.length) ()) fun (_ : Unit) =>
 some x8
theorem jV (g_x : OwnRef) {g_cmp : FuncId} {caps_cmp : List PV} (x : Rz) (cmp : Rq → Rq → Option (Int)) (hg_cmp : ∀ (vs : Array Value) (w : World),(callFunc g_cmp vs).run Tryz.prog w = .ok (.enter g_cmp vs) w) (hp_cmp : ∀ a0 a1 r,cmp a0 a1 = some r → aV Tryz.prog g_cmp ((.list 53 (a0.map ab)) :: (.list 53 (a1.map ab)) :: caps_cmp) (ae r)) (r : Rz) (H : db x cmp = some r) :
  PH Tryz.prog 174 [(.own 0 g_x (x.map (ak 53 ab)).length),(.fn g_cmp caps_cmp)] ⟨fun _=>none,upd (fun _=>none) 0 (some ⟨g_x,51,(x.map (ak 53 ab)),true⟩)⟩ (fun u H=>u = (.tup []) ∧ H = ⟨fun _=>none,upd (fun _=>none) 0 (some ⟨g_x,51,(r.map (ak 53 ab)),true⟩)⟩) := by
 unfold db at H
 refine PH.aC Tryz.func174 Tryz.ntmps174 ?_
 refine af (am 2 tk rfl (jG tk (zl _) ?_))
 refine aq tk rfl ?_
 obtain ⟨x8,h8,H⟩ := ax H
 have s8 := lO g_x x (x.length : Int) cmp hg_cmp hp_cmp _ h8
 obtain ⟨_,q8_0,H⟩ := ax H
 have l8_0 := (bB q8_0).1
 have z8_0 : (List.map (ak 53 ab) x).length = (List.map (ak 53 ab) x8).length := by simpa using (l8_0).symm
 refine bZ (g := 194) rfl rfl rfl Tryz.call194 [] [(0,0)] rfl rfl rfl rfl (iX.of2 (ir.cons (mV.own rfl) (ir.cons (mV.of_eq rfl) (ir.cons (mV.of_eq rfl) ir.nil)))) (by rw [bQ,bH,bP]; rfl) s8 ?_
 rintro u8 H8h ⟨rfl,rfl⟩
 refine ⟨_,rfl,?_⟩
 refine cy (st' := ⟨_,_,fun _=>none,upd (fun _=>none) 0 (some ⟨g_x,51,(x8.map (ak 53 ab)),true⟩)⟩) (Gh.le (bM _ _) ai (aA ah)) ?_
 refine ag ?_
 obtain rfl := ao H
 refine dG (st' := ⟨9,fun _=>.any,fun _=>none,upd (fun _=>none) 0 (some ⟨g_x,51,(x8.map (ak 53 ab)),true⟩)⟩) (Gh.le al ai (aA ah)) ?_
 refine iG rfl (PLe.q rfl) ⟨rfl,rfl⟩
def eS (sA : LSchema) (c : LConstraint) : Option (Int) :=
 aj (fS sA c.table) fun x14 =>
 cond (!x14.2)
  (some 4)
  (aj (aF sA.tables x14.1) fun (x22 : LTable) =>
  bn (gQ (LVal.mk 0 0 []) c.op (LVal.mk 0 0 [])) fun x30 =>
  bn (
   cond (decide (c.left < (0 : Int)))
    (true)
    (cond (decide (c.left ≥ (x22.columns.length : Int)))
     (true)
     (cond (x30.2 != (0 : Int))
      (true)
      (cond (decide (c.right < (-1)))
       (true)
       (cond (decide (c.right ≥ (x22.columns.length : Int)))
        (true)
        (cond (decide (c.right ≥ (0 : Int)))
         ((!(c.value.kind == (0 : Int) && (c.value.int == (0 : Int) && (c.value.text == ([] : List UInt8) && true)))))
         (false))))))) fun (t1 : Bool) =>
  cond t1
   (some 3)
   (cond (decide (c.right ≥ (0 : Int)))
    (aj (aF x22.columns c.left) fun (x76 : LCol) =>
    aj (aF x22.columns c.right) fun (x82 : LCol) =>
    cond (x76.kind != x82.kind)
     (some 7)
     (some 0))
    (aj (aF x22.columns c.left) fun (x92 : LCol) =>
    cond (c.value.kind != x92.kind)
     (some 7)
     (bn (dM c.value) fun x98 =>
     some x98))))
theorem mO (sA : LSchema) (c : LConstraint) (r : Int) (H : eS sA c = some r) :
  aV Tryz.prog 103 [(.agg (eh sA)),(.agg (cG c))] (ae r) := by
 unfold eS at H
 refine PH.aC Tryz.func103 Tryz.ntmps103 ?_
 refine ac (af (aT ?_))
 refine aT ?_
 refine aq tk rfl (ag (ac (af (am 3 tk rfl ?_))))
 obtain ⟨x14,h14,H⟩ := ax H
 have s14 := kC sA c.table _ h14
 refine au Tryz.call145 (iX.r) s14 ?_
 refine am 5 tk rfl (ag (ac (aw 2 tk rfl ?_)))
 refine aP rfl H (fun H=>?_) (fun H=>?_)
 ·refine aw 1 tk rfl ?_
  obtain rfl := ao H
  refine aB tk rfl (ps := [(ae 4)]) ⟨_,_,rfl,rfl,rfl⟩ (PLe.q rfl)
 refine av (ac (af (am 3 tk rfl ?_)))
 obtain ⟨x22,k22,H⟩ := aY H
 refine bs tk k22.1 (aI (fun _=>rfl) k22.2) ?_
 refine am 3 tk rfl (ag (ac (af (am 4 tk rfl ?_))))
 obtain ⟨x30,h30,H⟩ := bJ H
 have s30 := ra (LVal.mk 0 0 []) c.op (LVal.mk 0 0 [])
 rw [h30] at s30
 refine au Tryz.call148 (iX.r) s30 ?_
 refine am 5 tk rfl (ag (ac (ac ?_)))
 obtain ⟨fl1,H1,Hp1⟩ := bJ H
 refine aZ (τ := Bool) (γ := Unit) (fun t1 g1=>⟨99,upd (upd (upd (fun _=>.any) 69 (aE t1)) 7 (.list 50 (x22.columns.map aG))) 3 (.ptr [(.str c.table),(ae c.left),(.str c.op),(ae c.right),(ae c.value.kind),(ae c.value.int),(.str c.value.text)]),fun _=>none,fun _=>none⟩) (fun t=>t = fl1) ?_ (fun t1 g1 hn1=>?_)
 ·have H := H1
  refine af (am 4 tk rfl ?_)
  refine bF rfl rfl rfl H (fun H=>?_) (fun H=>?_)
  ·refine am 33 tk rfl (ag ?_)
   subst H
   refine aO true () rfl (Gh.le (aa (aa (aa al))) ai ah)
  refine am 3 tk rfl (aM tk (zl _) ?_)
  refine am 3 tk rfl ?_
  refine bF rfl rfl rfl H (fun H=>?_) (fun H=>?_)
  ·refine am 26 tk rfl (ag ?_)
   subst H
   refine aO true () rfl (Gh.le (aa (aa (aa al))) ai ah)
  refine am 4 tk rfl ?_
  refine bF rfl rfl rfl H (fun H=>?_) (fun H=>?_)
  ·refine am 22 tk rfl (ag ?_)
   subst H
   refine aO true () rfl (Gh.le (aa (aa (aa al))) ai ah)
  refine am 5 tk rfl ?_
  refine bF rfl rfl rfl H (fun H=>?_) (fun H=>?_)
  ·refine am 17 tk rfl (ag ?_)
   subst H
   refine aO true () rfl (Gh.le (aa (aa (aa al))) ai ah)
  refine am 3 tk rfl (aM tk (zl _) ?_)
  refine am 3 tk rfl ?_
  refine bF rfl rfl rfl H (fun H=>?_) (fun H=>?_)
  ·refine am 10 tk rfl (ag ?_)
   subst H
   refine aO true () rfl (Gh.le (aa (aa (aa al))) ai ah)
  refine am 4 tk rfl ?_
  refine bF rfl rfl rfl H (fun H=>?_) (fun H=>?_)
  ·refine am 6 tk rfl (ag ?_)
   subst H
   refine aO (!(c.value.kind == (0 : Int) && (c.value.int == (0 : Int) && (c.value.text == ([] : List UInt8) && true)))) () rfl (Gh.le (aa (aa (aa al))) ai ah)
  refine am 6 tk rfl (ag ?_)
  subst H
  refine aO false () rfl (Gh.le (aa (aa (aa al))) ai ah)
 subst hn1
 have H := Hp1
 refine aP rfl H (fun H=>?_) (fun H=>?_)
 ·refine aw 1 tk rfl ?_
  obtain rfl := ao H
  refine aB tk rfl (ps := [(ae 3)]) ⟨_,_,rfl,rfl,rfl⟩ (PLe.q rfl)
 refine av (ac (aw 3 tk rfl ?_))
 refine aP rfl H (fun H=>?_) (fun H=>?_)
 ·refine ac (ac (bj tk mok ⟨false,false,[]⟩ [0,1,2,3,4,5,6,7,8,9,10,11,12] rfl (by decide +kernel) rfl (aK 3 rfl ?_)))
  obtain ⟨x76,k76,H⟩ := aY H
  refine cg k76.1 (aI (fun _=>rfl) k76.2) ?_
  refine aK 5 rfl ?_
  obtain ⟨x82,k82,H⟩ := aY H
  refine cg k82.1 (aI (fun _=>rfl) k82.2) ?_
  refine aK 3 rfl (bf ?_)
  refine aP rfl H (fun H=>?_) (fun H=>?_)
  ·refine aw 1 tk rfl ?_
   obtain rfl := ao H
   refine aB tk rfl (ps := [(ae 7)]) ⟨_,_,rfl,rfl,rfl⟩ (PLe.q rfl)
  refine av (aw 1 tk rfl ?_)
  obtain rfl := ao H
  refine aB tk rfl (ps := [(ae 0)]) ⟨_,_,rfl,rfl,rfl⟩ (PLe.q rfl)
 refine av (ac (ac (bj tk mok ⟨false,false,[]⟩ [0,1,2,3,4,5,6,7,8,9] rfl (by decide +kernel) rfl (aK 6 rfl ?_))))
 obtain ⟨x92,k92,H⟩ := aY H
 refine cg k92.1 (aI (fun _=>rfl) k92.2) ?_
 refine aK 3 rfl (bf ?_)
 refine aP rfl H (fun H=>?_) (fun H=>?_)
 ·refine aw 1 tk rfl ?_
  obtain rfl := ao H
  refine aB tk rfl (ps := [(ae 7)]) ⟨_,_,rfl,rfl,rfl⟩ (PLe.q rfl)
 refine av (ac (af (am 2 tk rfl ?_)))
 obtain ⟨x98,h98,H⟩ := bJ H
 have s98 := nZ c.value
 rw [h98] at s98
 refine au Tryz.call105 (iX.r) s98 ?_
 refine aq tk rfl (ag ?_)
 obtain rfl := ao H
 refine aB tk rfl (ps := [(ae x98)]) ⟨_,_,rfl,rfl,rfl⟩ (PLe.q rfl)
def cV (rec92 : Rz → Int → Int → Int → Option (Rz)) (data : Rz) (a : Int) (b : Int) (limit : Int) (cmp : Rq → Rq → Option (Int)) : Option (Rz) :=
 aj (whileM (σ := Rz × Int × Int × Int × Bool × Bool) (ρ := (Rz)) (fun (s1 : Rz × Int × Int × Int × Bool × Bool) =>
  cond (decide ((IntKind.i64.wrap (s1.2.2.1 - s1.2.1)) ≤ (12 : Int)))
   (aj (bX s1.1 s1.2.1 s1.2.2.1 cmp) fun x30 =>
   aj (cB (x30.length = s1.1.length) ()) fun (_ : Unit) =>
   some (.ret x30))
   (cond (s1.2.2.2.1 == (0 : Int))
    (aj (dV s1.1 s1.2.1 s1.2.2.1 cmp) fun x37 =>
    aj (cB (x37.length = s1.1.length) ()) fun (_ : Unit) =>
    some (.ret x37))
    (aj (
     cond (!s1.2.2.2.2.1)
      (aj (du s1.1 s1.2.1 s1.2.2.1 cmp) fun x44 =>
      aj (cB (x44.length = s1.1.length) ()) fun (_ : Unit) =>
      some (x44,(IntKind.i64.wrap (s1.2.2.2.1 - (1 : Int)))))
      (some (s1.1,s1.2.2.2.1))) fun (t15 : Rz × Int) =>
    aj (dJ t15.1 s1.2.1 s1.2.2.1 cmp) fun x52 =>
    aj (cB (x52.2.2.length = t15.1.length) ()) fun (_ : Unit) =>
    aj (
     cond (x52.2.1 == (2 : Int))
      (aj (dE x52.2.2 s1.2.1 s1.2.2.1 cmp) fun x61 =>
      aj (cB (x61.length = x52.2.2.length) ()) fun (_ : Unit) =>
      some (x61,(IntKind.i64.wrap ((IntKind.i64.wrap (s1.2.2.1 - (1 : Int))) - (IntKind.i64.wrap (x52.1 - s1.2.1)))),1))
      (some (x52.2.2,x52.1,x52.2.1))) fun (t16 : Rz × Int × Int) =>
    bn (
     cond s1.2.2.2.2.1
      (cond s1.2.2.2.2.2
       ((t16.1,(t16.2.2 == (1 : Int))))
       ((t16.1,false)))
      ((t16.1,false))) fun (t17 : Rz × Bool) =>
    aj (
     cond t17.2
      (aj (cO t17.1 s1.2.1 s1.2.2.1 cmp) fun x80 =>
      aj (cB (x80.2.length = t17.1.length) ()) fun (_ : Unit) =>
      cond x80.1
       (some (.ret x80.2))
       (some (.next x80.2)))
      (some (.next t17.1))) fun (fl18 : Flow Rz (Rz))=>fl18.thenF fun t18 =>
    aj (
     cond (decide (s1.2.1 > (0 : Int)))
      (aj (aF t18 (IntKind.i64.wrap (s1.2.1 - (1 : Int)))) fun (x88 : Rq) =>
      aj (aF t18 t16.2.1) fun (x92 : Rq) =>
      aj (cmp x88 x92) fun x94 =>
      some (t18,(!(decide (x94 < (0 : Int))))))
      (some (t18,false))) fun (t19 : Rz × Bool) =>
    cond t19.2
     (aj (dl t19.1 s1.2.1 s1.2.2.1 t16.2.1 cmp) fun x103 =>
     aj (cB (x103.2.length = t19.1.length) ()) fun (_ : Unit) =>
     some (.next (x103.2,x103.1,s1.2.2.1,t15.2,s1.2.2.2.2.1,s1.2.2.2.2.2)))
     (aj (dQ t19.1 s1.2.1 s1.2.2.1 t16.2.1 cmp) fun x111 =>
     aj (cB (x111.2.2.length = t19.1.length) ()) fun (_ : Unit) =>
     cond (decide ((IntKind.i64.wrap (x111.1 - s1.2.1)) < (IntKind.i64.wrap (s1.2.2.1 - x111.1))))
      (aj (rec92 x111.2.2 s1.2.1 x111.1 t15.2) fun x134 =>
      aj (cB (x134.length = x111.2.2.length) ()) fun (_ : Unit) =>
      some (.next (x134,(IntKind.i64.wrap (x111.1 + (1 : Int))),s1.2.2.1,t15.2,(decide ((IntKind.i64.wrap (x111.1 - s1.2.1)) ≥ (IntKind.i64.wrap (Int.tdiv (IntKind.i64.wrap (s1.2.2.1 - s1.2.1)) (8 : Int))))),x111.2.1)))
      (aj (rec92 x111.2.2 (IntKind.i64.wrap (x111.1 + (1 : Int))) s1.2.2.1 t15.2) fun x146 =>
      aj (cB (x146.length = x111.2.2.length) ()) fun (_ : Unit) =>
      some (.next (x146,s1.2.1,x111.1,t15.2,(decide ((IntKind.i64.wrap (s1.2.2.1 - x111.1)) ≥ (IntKind.i64.wrap (Int.tdiv (IntKind.i64.wrap (s1.2.2.1 - s1.2.1)) (8 : Int))))),x111.2.1))))))) (data,a,b,limit,true,true)) fun fl1=>fl1.thenR fun (s1 : Rz × Int × Int × Int × Bool × Bool) =>
 some s1.1
theorem lm (g_data : OwnRef) {g_cmp : FuncId} {caps_cmp : List PV} (rec92 : Rz → Int → Int → Int → Option (Rz)) (hrec92 : ∀ g0 a0 a1 a2 a3 r,rec92 a0 a1 a2 a3 = some r → PH Tryz.prog 92 [(.own 0 g0 (a0.map (ak 53 ab)).length),(ae a1),(ae a2),(ae a3),(.fn g_cmp caps_cmp)] ⟨fun _=>none,upd (fun _=>none) 0 (some ⟨g0,51,(a0.map (ak 53 ab)),true⟩)⟩ (fun u H=>u = (.tup []) ∧ H = ⟨fun _=>none,upd (fun _=>none) 0 (some ⟨g0,51,(r.map (ak 53 ab)),true⟩)⟩)) (data : Rz) (a : Int) (b : Int) (limit : Int) (cmp : Rq → Rq → Option (Int)) (hg_cmp : ∀ (vs : Array Value) (w : World),(callFunc g_cmp vs).run Tryz.prog w = .ok (.enter g_cmp vs) w) (hp_cmp : ∀ a0 a1 r,cmp a0 a1 = some r → aV Tryz.prog g_cmp ((.list 53 (a0.map ab)) :: (.list 53 (a1.map ab)) :: caps_cmp) (ae r)) (r : Rz) (H : cV rec92 data a b limit cmp = some r) :
  PH Tryz.prog 92 [(.own 0 g_data (data.map (ak 53 ab)).length),(ae a),(ae b),(ae limit),(.fn g_cmp caps_cmp)] ⟨fun _=>none,upd (fun _=>none) 0 (some ⟨g_data,51,(data.map (ak 53 ab)),true⟩)⟩ (fun u H=>u = (.tup []) ∧ H = ⟨fun _=>none,upd (fun _=>none) 0 (some ⟨g_data,51,(r.map (ak 53 ab)),true⟩)⟩) := by
 unfold cV at H
 refine PH.aC Tryz.func92 Tryz.ntmps92 ?_
 refine aw 1 tk rfl (aw 1 tk rfl ?_)
 obtain ⟨fl1,H1,Hp1⟩ := ax H
 refine aZ (τ := Rz × Int × Int × Int × Bool × Bool) (γ := Unit) (fun s1 g1=>⟨148,upd (fun _=>.any) 0 (.own 0 g_data (s1.1.map (ak 53 ab)).length),fun _=>none,upd (fun _=>none) 0 (some ⟨g_data,51,(s1.1.map (ak 53 ab)),true⟩)⟩) (fun t=>fl1 = .next t) ?_ (fun s1 g1 hn1=>?_)
 ·refine az ?_
  refine cM (fun s1 g1=>⟨148,upd (upd (upd (upd (upd (upd (upd (fun _=>.any) 11 (aE s1.2.2.2.2.2)) 10 (aE s1.2.2.2.2.1)) 4 (.fn g_cmp caps_cmp)) 3 (ae s1.2.2.2.1)) 2 (ae s1.2.2.1)) 1 (ae s1.2.1)) 0 (.own 0 g_data (s1.1.map (ak 53 ab)).length),fun _=>none,upd (fun _=>none) 0 (some ⟨g_data,51,(s1.1.map (ak 53 ab)),true⟩)⟩) () H1 (Gh.le (aa (aa (aa (aa (aa (aa (aa al))))))) ai (aA ah)) (fun m1 s1 g1 hr1=>?_)
  obtain ⟨fb1,H,hg1⟩ := cq hr1
  refine az (aw 4 tk rfl (ac (aw 2 tk rfl ?_)))
  refine aP rfl H (fun H=>?_) (fun H=>?_)
  ·refine ac (af (am 4 tk rfl ?_))
   obtain ⟨x30,h30,H⟩ := ax H
   have s30 := fG g_data s1.1 s1.2.1 s1.2.2.1 cmp hg_cmp hp_cmp _ h30
   obtain ⟨_,q30_0,H⟩ := ax H
   have l30_0 := (bB q30_0).1
   have z30_0 : (List.map (ak 53 ab) s1.1).length = (List.map (ak 53 ab) x30).length := by simpa using (l30_0).symm
   refine bZ (g := 114) rfl rfl rfl Tryz.call114 [] [(0,0)] rfl rfl rfl rfl (iX.of2 (ir.cons (mV.own rfl) (ir.cons (mV.of_eq rfl) (ir.cons (mV.of_eq rfl) (ir.cons (mV.of_eq rfl) ir.nil))))) (by rw [bQ,bH,bP]; rfl) s30 ?_
   rintro u30 H30h ⟨rfl,rfl⟩
   refine ⟨_,rfl,?_⟩
   refine cy (st' := ⟨_,_,fun _=>none,upd (fun _=>none) 0 (some ⟨g_data,51,(x30.map (ak 53 ab)),true⟩)⟩) (Gh.le (bM _ _) ai (aA ah)) ?_
   refine ag ?_
   obtain rfl := ao H
   have e1 : fl1 = .ret _ := hg1
   subst e1
   obtain rfl := bm Hp1
   refine dG (st' := ⟨148,fun _=>.any,fun _=>none,upd (fun _=>none) 0 (some ⟨g_data,51,(x30.map (ak 53 ab)),true⟩)⟩) (Gh.le al ai (aA ah)) ?_
   refine eP tk rfl (ps := []) rfl (PLe.q rfl) ⟨rfl,rfl⟩
  refine av (ac (aw 2 tk rfl ?_))
  refine aP rfl H (fun H=>?_) (fun H=>?_)
  ·refine ac (af (am 4 tk rfl ?_))
   obtain ⟨x37,h37,H⟩ := ax H
   have s37 := lf g_data s1.1 s1.2.1 s1.2.2.1 cmp hg_cmp hp_cmp _ h37
   obtain ⟨_,q37_0,H⟩ := ax H
   have l37_0 := (bB q37_0).1
   have z37_0 : (List.map (ak 53 ab) s1.1).length = (List.map (ak 53 ab) x37).length := by simpa using (l37_0).symm
   refine bZ (g := 115) rfl rfl rfl Tryz.call115 [] [(0,0)] rfl rfl rfl rfl (iX.of2 (ir.cons (mV.own rfl) (ir.cons (mV.of_eq rfl) (ir.cons (mV.of_eq rfl) (ir.cons (mV.of_eq rfl) ir.nil))))) (by rw [bQ,bH,bP]; rfl) s37 ?_
   rintro u37 H37h ⟨rfl,rfl⟩
   refine ⟨_,rfl,?_⟩
   refine cy (st' := ⟨_,_,fun _=>none,upd (fun _=>none) 0 (some ⟨g_data,51,(x37.map (ak 53 ab)),true⟩)⟩) (Gh.le (bM _ _) ai (aA ah)) ?_
   refine ag ?_
   obtain rfl := ao H
   have e1 : fl1 = .ret _ := hg1
   subst e1
   obtain rfl := bm Hp1
   refine dG (st' := ⟨148,fun _=>.any,fun _=>none,upd (fun _=>none) 0 (some ⟨g_data,51,(x37.map (ak 53 ab)),true⟩)⟩) (Gh.le al ai (aA ah)) ?_
   refine eP tk rfl (ps := []) rfl (PLe.q rfl) ⟨rfl,rfl⟩
  refine av (ac (aw 2 tk rfl ?_))
  obtain ⟨fl15,H15,Hp15⟩ := ax H
  refine aZ (τ := Rz × Int) (γ := Unit) (fun t15 g15=>⟨148,upd (upd (upd (upd (upd (upd (upd (upd (fun _=>.any) 12 (ae (IntKind.i64.wrap (s1.2.2.1 - s1.2.1)))) 11 (aE s1.2.2.2.2.2)) 10 (aE s1.2.2.2.2.1)) 4 (.fn g_cmp caps_cmp)) 3 (ae t15.2)) 2 (ae s1.2.2.1)) 1 (ae s1.2.1)) 0 (.own 0 g_data (t15.1.map (ak 53 ab)).length),fun _=>none,upd (fun _=>none) 0 (some ⟨g_data,51,(t15.1.map (ak 53 ab)),true⟩)⟩) (fun t=>t = fl15) ?_ (fun t15 g15 hn15=>?_)
  ·have H := H15
   refine aP rfl H (fun H=>?_) (fun H=>?_)
   ·refine ac (af (am 4 tk rfl ?_))
    obtain ⟨x44,h44,H⟩ := ax H
    have s44 := ku g_data s1.1 s1.2.1 s1.2.2.1 cmp hg_cmp hp_cmp _ h44
    obtain ⟨_,q44_0,H⟩ := ax H
    have l44_0 := (bB q44_0).1
    have z44_0 : (List.map (ak 53 ab) s1.1).length = (List.map (ak 53 ab) x44).length := by simpa using (l44_0).symm
    refine bZ (g := 116) rfl rfl rfl Tryz.call116 [] [(0,0)] rfl rfl rfl rfl (iX.of2 (ir.cons (mV.own rfl) (ir.cons (mV.of_eq rfl) (ir.cons (mV.of_eq rfl) (ir.cons (mV.of_eq rfl) ir.nil))))) (by rw [bQ,bH,bP]; rfl) s44 ?_
    rintro u44 H44h ⟨rfl,rfl⟩
    refine ⟨_,rfl,?_⟩
    refine cy (st' := ⟨_,_,fun _=>none,upd (fun _=>none) 0 (some ⟨g_data,51,(x44.map (ak 53 ab)),true⟩)⟩) (Gh.le (bM _ _) ai (aA ah)) ?_
    refine ag (bi 3 tk rfl ?_)
    obtain rfl := ao H
    refine aO (x44,(IntKind.i64.wrap (s1.2.2.2.1 - (1 : Int)))) () rfl (Gh.le (aH (PLe.of2 (mV.of_eq (congrArg (PV.own 0 g_data) z44_0))) (aa (aa (aa (aa (aa (aa (aa al)))))))) ai (aA ah))
   refine av ?_
   obtain rfl := ao H
   refine aO (s1.1,s1.2.2.2.1) () rfl (Gh.le (aa (aa (aa (aa (aa (aa (aa (aa al)))))))) ai (aA ah))
  subst hn15
  have H := Hp15
  refine ac (af (am 4 tk rfl ?_))
  obtain ⟨x52,h52,H⟩ := ax H
  have s52 := kJ g_data t15.1 s1.2.1 s1.2.2.1 cmp hg_cmp hp_cmp _ h52
  obtain ⟨_,q52_0,H⟩ := ax H
  have l52_0 := (bB q52_0).1
  have z52_0 : (List.map (ak 53 ab) t15.1).length = (List.map (ak 53 ab) x52.2.2).length := by simpa using (l52_0).symm
  refine bZ (g := 117) rfl rfl rfl Tryz.call117 [] [(0,0)] rfl rfl rfl rfl (iX.of2 (ir.cons (mV.own rfl) (ir.cons (mV.of_eq rfl) (ir.cons (mV.of_eq rfl) (ir.cons (mV.of_eq rfl) ir.nil))))) (by rw [bQ,bH,bP]; rfl) s52 ?_
  rintro u52 H52h ⟨rfl,rfl⟩
  refine ⟨_,rfl,?_⟩
  refine cy (st' := ⟨_,_,fun _=>none,upd (fun _=>none) 0 (some ⟨g_data,51,(x52.2.2.map (ak 53 ab)),true⟩)⟩) (Gh.le (bM _ _) ai (aA ah)) ?_
  refine am 5 tk rfl (ag (ac (aw 2 tk rfl ?_)))
  obtain ⟨fl16,H16,Hp16⟩ := ax H
  refine aZ (τ := Rz × Int × Int) (γ := Unit) (fun t16 g16=>⟨148,upd (upd (upd (upd (upd (upd (upd (upd (upd (upd (fun _=>.any) 14 (ae t16.2.2)) 13 (ae t16.2.1)) 12 (ae (IntKind.i64.wrap (s1.2.2.1 - s1.2.1)))) 11 (aE s1.2.2.2.2.2)) 10 (aE s1.2.2.2.2.1)) 4 (.fn g_cmp caps_cmp)) 3 (ae t15.2)) 2 (ae s1.2.2.1)) 1 (ae s1.2.1)) 0 (.own 0 g_data (t16.1.map (ak 53 ab)).length),fun _=>none,upd (fun _=>none) 0 (some ⟨g_data,51,(t16.1.map (ak 53 ab)),true⟩)⟩) (fun t=>t = fl16) ?_ (fun t16 g16 hn16=>?_)
  ·have H := H16
   refine aP rfl H (fun H=>?_) (fun H=>?_)
   ·refine ac (af (am 4 tk rfl ?_))
    obtain ⟨x61,h61,H⟩ := ax H
    have s61 := kG g_data x52.2.2 s1.2.1 s1.2.2.1 cmp hg_cmp hp_cmp _ h61
    obtain ⟨_,q61_0,H⟩ := ax H
    have l61_0 := (bB q61_0).1
    have z61_0 : (List.map (ak 53 ab) x52.2.2).length = (List.map (ak 53 ab) x61).length := by simpa using (l61_0).symm
    refine bZ (g := 118) rfl rfl rfl Tryz.call118 [] [(0,0)] rfl rfl rfl rfl (iX.of2 (ir.cons (mV.own z52_0) (ir.cons (mV.of_eq rfl) (ir.cons (mV.of_eq rfl) (ir.cons (mV.of_eq rfl) ir.nil))))) (by rw [bQ,bH,bP]; rfl) s61 ?_
    rintro u61 H61h ⟨rfl,rfl⟩
    refine ⟨_,rfl,?_⟩
    refine cy (st' := ⟨_,_,fun _=>none,upd (fun _=>none) 0 (some ⟨g_data,51,(x61.map (ak 53 ab)),true⟩)⟩) (Gh.le (bM _ _) ai (aA ah)) ?_
    refine ag (aw 7 tk rfl (bi 1 tk rfl ?_))
    obtain rfl := ao H
    refine aO (x61,(IntKind.i64.wrap ((IntKind.i64.wrap (s1.2.2.1 - (1 : Int))) - (IntKind.i64.wrap (x52.1 - s1.2.1)))),1) () rfl (Gh.le (aH (PLe.of2 (mV.of_eq (congrArg (PV.own 0 g_data) (z52_0.trans z61_0)))) (aa (aa (aa (aa (aa (aa (aa (aa (aa al)))))))))) ai (aA ah))
   refine av ?_
   obtain rfl := ao H
   refine aO (x52.2.2,x52.1,x52.2.1) () rfl (Gh.le (aH (PLe.of2 (mV.of_eq (congrArg (PV.own 0 g_data) z52_0))) (aa (aa (aa (aa (aa (aa (aa (aa (aa al)))))))))) ai (aA ah))
  subst hn16
  have H := Hp16
  refine ac (ac ?_)
  obtain ⟨fl17,H17,Hp17⟩ := bJ H
  refine aZ (τ := Rz × Bool) (γ := Unit) (fun t17 g17=>⟨148,upd (upd (upd (upd (upd (upd (upd (upd (upd (upd (fun _=>.any) 75 (aE t17.2)) 13 (ae t16.2.1)) 12 (ae (IntKind.i64.wrap (s1.2.2.1 - s1.2.1)))) 11 (aE s1.2.2.2.2.2)) 10 (aE s1.2.2.2.2.1)) 4 (.fn g_cmp caps_cmp)) 3 (ae t15.2)) 2 (ae s1.2.2.1)) 1 (ae s1.2.1)) 0 (.own 0 g_data (t17.1.map (ak 53 ab)).length),fun _=>none,upd (fun _=>none) 0 (some ⟨g_data,51,(t17.1.map (ak 53 ab)),true⟩)⟩) (fun t=>t = fl17) ?_ (fun t17 g17 hn17=>?_)
  ·have H := H17
   refine af (am 2 tk rfl ?_)
   refine bF rfl rfl rfl H (fun H=>?_) (fun H=>?_)
   ·refine am 3 tk rfl ?_
    refine bF rfl rfl rfl H (fun H=>?_) (fun H=>?_)
    ·refine am 3 tk rfl (ag ?_)
     subst H
     refine aO (t16.1,(t16.2.2 == (1 : Int))) () rfl (Gh.le (aa (aa (aa (aa (aa (aa (aa (aa (aa (aa al)))))))))) ai (aA ah))
    refine am 3 tk rfl (ag ?_)
    subst H
    refine aO (t16.1,false) () rfl (Gh.le (aa (aa (aa (aa (aa (aa (aa (aa (aa (aa al)))))))))) ai (aA ah))
   refine am 6 tk rfl (ag ?_)
   subst H
   refine aO (t16.1,false) () rfl (Gh.le (aa (aa (aa (aa (aa (aa (aa (aa (aa (aa al)))))))))) ai (aA ah))
  subst hn17
  have H := Hp17
  obtain ⟨fl18,H18,Hp18⟩ := ax H
  refine aZ (τ := Rz) (γ := Unit) (fun t18 g18=>⟨148,upd (upd (upd (upd (upd (upd (upd (upd (upd (fun _=>.any) 13 (ae t16.2.1)) 12 (ae (IntKind.i64.wrap (s1.2.2.1 - s1.2.1)))) 11 (aE s1.2.2.2.2.2)) 10 (aE s1.2.2.2.2.1)) 4 (.fn g_cmp caps_cmp)) 3 (ae t15.2)) 2 (ae s1.2.2.1)) 1 (ae s1.2.1)) 0 (.own 0 g_data (t18.map (ak 53 ab)).length),fun _=>none,upd (fun _=>none) 0 (some ⟨g_data,51,(t18.map (ak 53 ab)),true⟩)⟩) (fun t=>fl18 = .next t) ?_ (fun t18 g18 hn18=>?_)
  ·have H := H18
   refine aP rfl H (fun H=>?_) (fun H=>?_)
   ·refine ac (af (am 4 tk rfl ?_))
    obtain ⟨x80,h80,H⟩ := ax H
    have s80 := jI g_data t17.1 s1.2.1 s1.2.2.1 cmp hg_cmp hp_cmp _ h80
    obtain ⟨_,q80_0,H⟩ := ax H
    have l80_0 := (bB q80_0).1
    have z80_0 : (List.map (ak 53 ab) t17.1).length = (List.map (ak 53 ab) x80.2).length := by simpa using (l80_0).symm
    refine bZ (g := 119) rfl rfl rfl Tryz.call119 [] [(0,0)] rfl rfl rfl rfl (iX.of2 (ir.cons (mV.own rfl) (ir.cons (mV.of_eq rfl) (ir.cons (mV.of_eq rfl) (ir.cons (mV.of_eq rfl) ir.nil))))) (by rw [bQ,bH,bP]; rfl) s80 ?_
    rintro u80 H80h ⟨rfl,rfl⟩
    refine ⟨_,rfl,?_⟩
    refine cy (st' := ⟨_,_,fun _=>none,upd (fun _=>none) 0 (some ⟨g_data,51,(x80.2.map (ak 53 ab)),true⟩)⟩) (Gh.le (bM _ _) ai (aA ah)) ?_
    refine ag ?_
    refine aP rfl H (fun H=>?_) (fun H=>?_)
    ·obtain rfl := ao H
     have q18 := om Hp18
     subst q18
     have e1 : fl1 = .ret _ := hg1
     subst e1
     obtain rfl := bm Hp1
     refine dG (st' := ⟨148,fun _=>.any,fun _=>none,upd (fun _=>none) 0 (some ⟨g_data,51,(x80.2.map (ak 53 ab)),true⟩)⟩) (Gh.le al ai (aA ah)) ?_
     refine eP tk rfl (ps := []) rfl (PLe.q rfl) ⟨rfl,rfl⟩
    refine av ?_
    obtain rfl := ao H
    refine aO x80.2 () rfl (Gh.le (aH (PLe.of2 (mV.of_eq (congrArg (PV.own 0 g_data) z80_0))) (aa (aa (aa (aa (aa (aa (aa (aa al))))))))) ai (aA ah))
   refine av ?_
   obtain rfl := ao H
   refine aO t17.1 () rfl (Gh.le (aa (aa (aa (aa (aa (aa (aa (aa (aa al))))))))) ai (aA ah))
  have H := thenF_next hn18 Hp18
  refine ac (ac ?_)
  obtain ⟨fl19,H19,Hp19⟩ := ax H
  refine aZ (τ := Rz × Bool) (γ := Unit) (fun t19 g19=>⟨148,upd (upd (upd (upd (upd (upd (upd (upd (upd (upd (fun _=>.any) 97 (aE t19.2)) 13 (ae t16.2.1)) 12 (ae (IntKind.i64.wrap (s1.2.2.1 - s1.2.1)))) 11 (aE s1.2.2.2.2.2)) 10 (aE s1.2.2.2.2.1)) 4 (.fn g_cmp caps_cmp)) 3 (ae t15.2)) 2 (ae s1.2.2.1)) 1 (ae s1.2.1)) 0 (.own 0 g_data (t19.1.map (ak 53 ab)).length),fun _=>none,upd (fun _=>none) 0 (some ⟨g_data,51,(t19.1.map (ak 53 ab)),true⟩)⟩) (fun t=>t = fl19) ?_ (fun t19 g19 hn19=>?_)
  ·have H := H19
   refine cU (tag := 0) rfl (fun ho0=>?_)
   refine bj tk mok ⟨false,true,[]⟩ [0,1,2,3,4,5,6,7,8,9,10,11,12,13,14,15,16] rfl (by decide +kernel) rfl (aK 3 rfl ?_)
   refine iq H (fun H=>?_) (fun H=>?_)
   ·refine aK 4 rfl ?_
    obtain ⟨x88,k88,H⟩ := aY H
    refine aS tk ⟨k88.1,(bh k88.2)⟩ (bl ho0 k88.2) ?_
    refine be tk (aI (fun _=>rfl) k88.2) ?_
    refine aK 2 rfl ?_
    obtain ⟨x92,k92,H⟩ := aY H
    refine aS tk ⟨k92.1,(bh k92.2)⟩ (bl ho0 k92.2) ?_
    refine be tk (aI (fun _=>rfl) k92.2) ?_
    obtain ⟨x94,h94,H⟩ := ax H
    refine bg hg_cmp (iX.r) (hp_cmp _ _ _ h94) ?_
    refine aK 3 rfl (bf ?_)
    obtain rfl := ao H
    refine aO (t18,(!(decide (x94 < (0 : Int))))) () rfl (Gh.le (aa (aa (aa (aa (aa (aa (aa (aa (aa (aa al)))))))))) ai (aA ah))
   refine aK 14 rfl (bf ?_)
   obtain rfl := ao H
   refine aO (t18,false) () rfl (Gh.le (aa (aa (aa (aa (aa (aa (aa (aa (aa (aa al)))))))))) ai (aA ah))
  subst hn19
  have H := Hp19
  refine aP rfl H (fun H=>?_) (fun H=>?_)
  ·refine ac (af (am 5 tk rfl ?_))
   obtain ⟨x103,h103,H⟩ := ax H
   have s103 := kn g_data t19.1 s1.2.1 s1.2.2.1 t16.2.1 cmp hg_cmp hp_cmp _ h103
   obtain ⟨_,q103_0,H⟩ := ax H
   have l103_0 := (bB q103_0).1
   have z103_0 : (List.map (ak 53 ab) t19.1).length = (List.map (ak 53 ab) x103.2).length := by simpa using (l103_0).symm
   refine bZ (g := 120) rfl rfl rfl Tryz.call120 [] [(0,0)] rfl rfl rfl rfl (iX.of2 (ir.cons (mV.own rfl) (ir.cons (mV.of_eq rfl) (ir.cons (mV.of_eq rfl) (ir.cons (mV.of_eq rfl) (ir.cons (mV.of_eq rfl) ir.nil)))))) (by rw [bQ,bH,bP]; rfl) s103 ?_
   rintro u103 H103h ⟨rfl,rfl⟩
   refine ⟨_,rfl,?_⟩
   refine cy (st' := ⟨_,_,fun _=>none,upd (fun _=>none) 0 (some ⟨g_data,51,(x103.2.map (ak 53 ab)),true⟩)⟩) (Gh.le (bM _ _) ai (aA ah)) ?_
   refine aq tk rfl (ag (aw 2 tk rfl (aQ rfl ?_)))
   obtain rfl := ao H
   refine aL (x103.2,x103.1,s1.2.2.1,t15.2,s1.2.2.2.2.1,s1.2.2.2.2.2) () hg1 (Gh.le (aH (PLe.of2 (mV.of_eq (congrArg (PV.own 0 g_data) z103_0))) (aa (aa (aa (aa (aa (aa al))))))) ai (aA ah))
  refine av (ac (af (am 5 tk rfl ?_)))
  obtain ⟨x111,h111,H⟩ := ax H
  have s111 := la g_data t19.1 s1.2.1 s1.2.2.1 t16.2.1 cmp hg_cmp hp_cmp _ h111
  obtain ⟨_,q111_0,H⟩ := ax H
  have l111_0 := (bB q111_0).1
  have z111_0 : (List.map (ak 53 ab) t19.1).length = (List.map (ak 53 ab) x111.2.2).length := by simpa using (l111_0).symm
  refine bZ (g := 121) rfl rfl rfl Tryz.call121 [] [(0,0)] rfl rfl rfl rfl (iX.of2 (ir.cons (mV.own rfl) (ir.cons (mV.of_eq rfl) (ir.cons (mV.of_eq rfl) (ir.cons (mV.of_eq rfl) (ir.cons (mV.of_eq rfl) ir.nil)))))) (by rw [bQ,bH,bP]; rfl) s111 ?_
  rintro u111 H111h ⟨rfl,rfl⟩
  refine ⟨_,rfl,?_⟩
  refine cy (st' := ⟨_,_,fun _=>none,upd (fun _=>none) 0 (some ⟨g_data,51,(x111.2.2.map (ak 53 ab)),true⟩)⟩) (Gh.le (bM _ _) ai (aA ah)) ?_
  refine am 5 tk rfl (ag (aw 2 tk rfl (aw 8 tk rfl (aw 3 tk rfl (aw 3 tk rfl ?_)))))
  refine aP rfl H (fun H=>?_) (fun H=>?_)
  ·refine aw 4 tk rfl (ac (af (am 5 tk rfl ?_)))
   obtain ⟨x134,h134,H⟩ := ax H
   have s134 := hrec92 g_data x111.2.2 s1.2.1 x111.1 t15.2 _ h134
   obtain ⟨_,q134_0,H⟩ := ax H
   have l134_0 := (bB q134_0).1
   have z134_0 : (List.map (ak 53 ab) x111.2.2).length = (List.map (ak 53 ab) x134).length := by simpa using (l134_0).symm
   refine bZ (g := 92) rfl rfl rfl Tryz.call92 [] [(0,0)] rfl rfl rfl rfl (iX.of2 (ir.cons (mV.own z111_0) (ir.cons (mV.of_eq rfl) (ir.cons (mV.of_eq rfl) (ir.cons (mV.of_eq rfl) (ir.cons (mV.of_eq rfl) ir.nil)))))) (by rw [bQ,bH,bP]; rfl) s134 ?_
   rintro u134 H134h ⟨rfl,rfl⟩
   refine ⟨_,rfl,?_⟩
   refine cy (st' := ⟨_,_,fun _=>none,upd (fun _=>none) 0 (some ⟨g_data,51,(x134.map (ak 53 ab)),true⟩)⟩) (Gh.le (bM _ _) ai (aA ah)) ?_
   refine ag (bi 3 tk rfl (aR ?_))
   obtain rfl := ao H
   refine aL (x134,(IntKind.i64.wrap (x111.1 + (1 : Int))),s1.2.2.1,t15.2,(decide ((IntKind.i64.wrap (x111.1 - s1.2.1)) ≥ (IntKind.i64.wrap (Int.tdiv (IntKind.i64.wrap (s1.2.2.1 - s1.2.1)) (8 : Int))))),x111.2.1) () hg1 (Gh.le (aH (PLe.of2 (mV.of_eq (congrArg (PV.own 0 g_data) (z111_0.trans z134_0)))) (aa (aa (aa (aa (aa (aa al))))))) ai (aA ah))
  refine aw 4 tk rfl (ac (af (am 6 tk rfl ?_)))
  obtain ⟨x146,h146,H⟩ := ax H
  have s146 := hrec92 g_data x111.2.2 (IntKind.i64.wrap (x111.1 + (1 : Int))) s1.2.2.1 t15.2 _ h146
  obtain ⟨_,q146_0,H⟩ := ax H
  have l146_0 := (bB q146_0).1
  have z146_0 : (List.map (ak 53 ab) x111.2.2).length = (List.map (ak 53 ab) x146).length := by simpa using (l146_0).symm
  refine bZ (g := 92) rfl rfl rfl Tryz.call92 [] [(0,0)] rfl rfl rfl rfl (iX.of2 (ir.cons (mV.own z111_0) (ir.cons (mV.of_eq rfl) (ir.cons (mV.of_eq rfl) (ir.cons (mV.of_eq rfl) (ir.cons (mV.of_eq rfl) ir.nil)))))) (by rw [bQ,bH,bP]; rfl) s146 ?_
  rintro u146 H146h ⟨rfl,rfl⟩
  refine ⟨_,rfl,?_⟩
  refine cy (st' := ⟨_,_,fun _=>none,upd (fun _=>none) 0 (some ⟨g_data,51,(x146.map (ak 53 ab)),true⟩)⟩) (Gh.le (bM _ _) ai (aA ah)) ?_
  refine ag (bi 2 tk rfl (aR ?_))
  obtain rfl := ao H
  refine aL (x146,s1.2.1,x111.1,t15.2,(decide ((IntKind.i64.wrap (s1.2.2.1 - x111.1)) ≥ (IntKind.i64.wrap (Int.tdiv (IntKind.i64.wrap (s1.2.2.1 - s1.2.1)) (8 : Int))))),x111.2.1) () hg1 (Gh.le (aH (PLe.of2 (mV.of_eq (congrArg (PV.own 0 g_data) (z111_0.trans z146_0)))) (aa (aa (aa (aa (aa (aa al))))))) ai (aA ah))
 have H := ck hn1 Hp1
 obtain rfl := ao H
 refine dG (st' := ⟨148,fun _=>.any,fun _=>none,upd (fun _=>none) 0 (some ⟨g_data,51,(s1.1.map (ak 53 ab)),true⟩)⟩) (Gh.le al ai (aA ah)) ?_
 refine iG rfl (PLe.q rfl) ⟨rfl,rfl⟩
def bR : Nat → Rz → Int → Int → Int → (Rq → Rq → Option (Int)) → Option (Rz)
 | 0,_,_,_,_,_=>none
 | n + 1,v0,v1,v2,v3,v4=>cV (fun b0 b1 b2 b3=>bR n b0 b1 b2 b3 v4) v0 v1 v2 v3 v4
theorem ll {g_cmp : FuncId} {caps_cmp : List PV} (cmp : Rq → Rq → Option (Int)) (hg_cmp : ∀ (vs : Array Value) (w : World),(callFunc g_cmp vs).run Tryz.prog w = .ok (.enter g_cmp vs) w) (hp_cmp : ∀ a0 a1 r,cmp a0 a1 = some r → aV Tryz.prog g_cmp ((.list 53 (a0.map ab)) :: (.list 53 (a1.map ab)) :: caps_cmp) (ae r)) (n : Nat) : (∀ g0 a0 a1 a2 a3 r,bR n a0 a1 a2 a3 cmp = some r → PH Tryz.prog 92 [(.own 0 g0 (a0.map (ak 53 ab)).length),(ae a1),(ae a2),(ae a3),(.fn g_cmp caps_cmp)] ⟨fun _=>none,upd (fun _=>none) 0 (some ⟨g0,51,(a0.map (ak 53 ab)),true⟩)⟩ (fun u H=>u = (.tup []) ∧ H = ⟨fun _=>none,upd (fun _=>none) 0 (some ⟨g0,51,(r.map (ak 53 ab)),true⟩)⟩)) := by
 induction n with
 | zero=>exact (by intros; rename_i h; exact absurd (show (none : Option _) = some _ from h) (by simp))
 | succ n ih =>
  exact (fun g0 v0 v1 v2 v3 r h=>lm g0 (fun b0 b1 b2 b3=>bR n b0 b1 b2 b3 cmp) ih v0 v1 v2 v3 cmp hg_cmp hp_cmp r h)
def gJ (data : Rz) (a : Int) (b : Int) (limit : Int) (cmp : Rq → Rq → Option (Int)) : Option (Rz) := iK fun n=>bR n data a b limit cmp
theorem lz (g_data : OwnRef) {g_cmp : FuncId} {caps_cmp : List PV} (data : Rz) (a : Int) (b : Int) (limit : Int) (cmp : Rq → Rq → Option (Int)) (hg_cmp : ∀ (vs : Array Value) (w : World),(callFunc g_cmp vs).run Tryz.prog w = .ok (.enter g_cmp vs) w) (hp_cmp : ∀ a0 a1 r,cmp a0 a1 = some r → aV Tryz.prog g_cmp ((.list 53 (a0.map ab)) :: (.list 53 (a1.map ab)) :: caps_cmp) (ae r)) (r : Rz) (H : gJ data a b limit cmp = some r) :
  PH Tryz.prog 92 [(.own 0 g_data (data.map (ak 53 ab)).length),(ae a),(ae b),(ae limit),(.fn g_cmp caps_cmp)] ⟨fun _=>none,upd (fun _=>none) 0 (some ⟨g_data,51,(data.map (ak 53 ab)),true⟩)⟩ (fun u H=>u = (.tup []) ∧ H = ⟨fun _=>none,upd (fun _=>none) 0 (some ⟨g_data,51,(r.map (ak 53 ab)),true⟩)⟩) := by
 obtain ⟨n,h⟩ := jv H
 exact (ll cmp hg_cmp hp_cmp n) g_data data a b limit r h
def gX (c : LChecker) (q : LQuery) (inA : List (List LCol)) : Option ((List LCol) × Int) :=
 cond (q.kind == (1 : Int))
  (aj (dg c.s.tables (fun a0=>some (eF a0 q))) fun x25 =>
  cond (decide (x25 < (0 : Int)))
   (some ([],4))
   (aj (aF c.s.tables x25) fun (x32 : LTable) =>
   some (x32.columns,0)))
  (cond (q.kind == (2 : Int))
   (aj (aF inA 0) fun (x39 : List LCol) =>
   aj (aF inA 0) fun (x43 : List LCol) =>
   aj (aF q.exprs 0) fun (x47 : LExpr) =>
   bn (dP c x43 x47) fun x49 =>
   some (x39,x49))
   (bn (
    cond (q.kind == (4 : Int))
     ((q.kind == (4 : Int)))
     ((q.kind == (5 : Int)))) fun (t1 : Bool) =>
   cond t1
    (aj (aF inA 0) fun (x54 : List LCol) =>
    aj (aF inA 1) fun (x58 : List LCol) =>
    aj (ba (σ := List LCol) (ρ := Empty) (fun (_ : Nat) (x2 : LCol) (s2 : List LCol) =>
     cond x2.nullable
      (aj (dW 32 s2 ([(LCol.mk x2.name x2.kind true)] : List LCol)) fun (x76 : List LCol) =>
      some (.next x76))
      (aj (dW 32 s2 ([(LCol.mk x2.name x2.kind (q.kind == (5 : Int)))] : List LCol)) fun (x76 : List LCol) =>
      some (.next x76))) 0 x58 x54) fun fl2=>fl2.thenP fun (s2 : List LCol) =>
    aj (aF q.exprs 0) fun (x83 : LExpr) =>
    bn (dP c s2 x83) fun x85 =>
    some (s2,x85))
    (bn (
     cond (q.kind == (6 : Int))
      ((q.kind == (6 : Int)))
      ((q.kind == (7 : Int)))) fun (t3 : Bool) =>
    cond t3
     (aj (aF inA 0) fun (x92 : List LCol) =>
     aj (aF inA 1) fun (x95 : List LCol) =>
     aj (ij q.kind x92 x95) fun x97 =>
     some (x97.1,x97.2))
     (bn (
      cond (q.kind == (3 : Int))
       ((q.kind == (3 : Int)))
       ((q.kind == (8 : Int)))) fun (t4 : Bool) =>
     cond t4
      (aj (aF inA 0) fun (x106 : List LCol) =>
      aj (eJ c q x106) fun x108 =>
      some (x108.1,x108.2))
      (cond (q.kind == (9 : Int))
       (aj (ba (σ := Unit) (ρ := ((List LCol) × Int)) (fun (_ : Nat) (x5 : LExpr) (_ : Unit) =>
        aj (aF inA 0) fun (x122 : List LCol) =>
        bn (dn x122 c.vars x5) fun x127 =>
        cond (x127.2.2 != (0 : Int))
         (some (.ret ([],x127.2.2)))
         (some (.next ()))) 0 q.exprs ()) fun fl5=>fl5.thenR fun (_ : Unit) =>
       aj (aF inA 0) fun (x136 : List LCol) =>
       some (x136,0))
       (aj (aF inA 0) fun (x136 : List LCol) =>
       some (x136,0)))))))
theorem qj (c : LChecker) (q : LQuery) (inA : List (List LCol)) (r : (List LCol) × Int) (H : gX c q inA = some r) :
  aV Tryz.prog 111 [(.agg (js c)),(.agg (bv q)),(.list 39 (inA.map (ak 50 aG)))] (.tup [(.list 50 (r.1.map aG)),(ae r.2)]) := by
 unfold gX at H
 refine PH.aC Tryz.func111 Tryz.ntmps111 ?_
 refine ac (af (aT ?_))
 refine aT ?_
 refine am 2 tk rfl (ag (ac (aw 2 tk rfl (az (aw 2 tk rfl ?_)))))
 refine aP rfl H (fun H=>?_) (fun H=>?_)
 ·refine ac (af (am 4 tk rfl ?_))
  obtain ⟨x25,h25,H⟩ := ax H
  have s25 := gR c.s.tables (fun a0=>some (eF a0 q)) Tryz.call154 (fun a0 r h=>(ao h) ▸ pq a0 q) _ h25
  refine au Tryz.call153 (iX.r) s25 ?_
  refine aq tk rfl (ag (ac (aw 2 tk rfl ?_)))
  refine aP rfl H (fun H=>?_) (fun H=>?_)
  ·refine aw 2 tk rfl ?_
   obtain rfl := ao H
   refine aB tk rfl (ps := [(.val (.slice none 0 0)),(ae 4)]) ⟨_,_,rfl,rfl,_,_,rfl,rfl,rfl⟩ (PLe.of2 (mV.tup (ir.cons (mV.nil tk rfl) (ir.cons (mV.of_eq rfl) ir.nil))))
  refine av (ac (af (am 4 tk rfl ?_)))
  obtain ⟨x32,k32,H⟩ := aY H
  refine bs tk k32.1 (aI (fun _=>rfl) k32.2) ?_
  refine am 2 tk rfl ?_
  have s35 := ot (m := 35) x32.columns
  refine au Tryz.call155 (iX.r) (PFun.jH s35) ?_
  refine am 2 tk rfl (ag ?_)
  obtain rfl := ao H
  refine aB tk rfl (ps := [(.list 50 (x32.columns.map aG)),(ae 0)]) ⟨_,_,rfl,rfl,_,_,rfl,rfl,rfl⟩ (PLe.q rfl)
 refine aw 2 tk rfl ?_
 refine aP rfl H (fun H=>?_) (fun H=>?_)
 ·refine ac (bj tk mok ⟨false,false,[]⟩ [0,1,2,3,4,5,6,7,8,9,10,11,12,13] rfl (by decide +kernel) rfl (cC rfl ?_))
  obtain ⟨x39,k39,H⟩ := aY H
  refine cg k39.1 (aI (fun _=>rfl) k39.2) ?_
  refine aK 3 rfl ?_
  obtain ⟨x43,k43,H⟩ := aY H
  refine cg k43.1 (aI (fun _=>rfl) k43.2) ?_
  refine aK 3 rfl ?_
  obtain ⟨x47,k47,H⟩ := aY H
  refine cg k47.1 (aI eC k47.2) ?_
  refine cC rfl ?_
  obtain ⟨x49,h49,H⟩ := bJ H
  have s49 := kt c x43 x47
  rw [h49] at s49
  refine bg Tryz.call156 (iX.r) s49 ?_
  refine aK 2 rfl (bf ?_)
  obtain rfl := ao H
  refine aB tk rfl (ps := [(.list 50 (x39.map aG)),(ae x49)]) ⟨_,_,rfl,rfl,_,_,rfl,rfl,rfl⟩ (PLe.q rfl)
 refine ac (aw 2 tk rfl ?_)
 obtain ⟨fl1,H1,Hp1⟩ := bJ H
 refine aZ (τ := Bool) (γ := Unit) (fun t1 g1=>⟨138,upd (upd (upd (upd (upd (fun _=>.any) 50 (aE t1)) 18 (ae q.kind)) 4 (.ptr [(ae q.kind),(.str q.table),(.list 9 (q.names.map cl)),(.list 56 (q.exprs.map bd)),(.list 66 (q.aggregates.map cj)),(.list 4 (q.descending.map cA)),(ae q.count),(ae q.offset),(.list 35 (q.inputs.map aW))])) 3 (.ptr [(.list 91 (c.s.tables.map bu)),(.list 142 (c.s.foreignKeys.map cz)),(.list 148 (c.s.constraints.map cG)),(.list 50 (c.vars.map aG))])) 2 (.list 39 (inA.map (ak 50 aG))),fun _=>none,fun _=>none⟩) (fun t=>t = fl1) ?_ (fun t1 g1 hn1=>?_)
 ·have H := H1
  refine aP rfl H (fun H=>?_) (fun H=>?_)
  ·refine av ?_
   subst H
   refine aO (q.kind == (4 : Int)) () rfl (Gh.le (aa (aa (aa (aa (aa al))))) ai ah)
  refine bi 2 tk rfl ?_
  subst H
  refine aO (q.kind == (5 : Int)) () rfl (Gh.le (aa (aa (aa (aa (aa al))))) ai ah)
 subst hn1
 have H := Hp1
 refine aP rfl H (fun H=>?_) (fun H=>?_)
 ·refine ac (af (aq tk rfl ?_))
  obtain ⟨x54,k54,H⟩ := aY H
  refine bs tk k54.1 (aI (fun _=>rfl) k54.2) ?_
  refine aq tk rfl ?_
  have s56 := ot (m := 56) x54
  refine li (g := 155) rfl rfl rfl Tryz.call155 (iX.r) rfl rfl s56 (fun g56=>?_)
  refine aq tk rfl (ag (ac (ac (af (aq tk rfl ?_)))))
  obtain ⟨x58,k58,H⟩ := aY H
  refine bs tk k58.1 (aI (fun _=>rfl) k58.2) ?_
  refine aq tk rfl (aM tk (zl _) ?_)
  refine aq tk rfl (ag ?_)
  obtain ⟨fl2,H2,Hp2⟩ := ax H
  refine bS tk 59 rfl rfl (fun hz2 _=>?_)
  rw [zl] at hz2
  refine aZ (τ := List LCol) (γ := OwnRef) (fun s2 g2=>⟨138,upd (upd (upd (fun _=>.any) 9 (.own 56 g2 (s2.map aG).length)) 4 (.ptr [(ae q.kind),(.str q.table),(.list 9 (q.names.map cl)),(.list 56 (q.exprs.map bd)),(.list 66 (q.aggregates.map cj)),(.list 4 (q.descending.map cA)),(ae q.count),(ae q.offset),(.list 35 (q.inputs.map aW))])) 3 (.ptr [(.list 91 (c.s.tables.map bu)),(.list 142 (c.s.foreignKeys.map cz)),(.list 148 (c.s.constraints.map cG)),(.list 50 (c.vars.map aG))]),fun _=>none,upd (fun _=>none) 56 (some ⟨g2,50,(s2.map aG),true⟩)⟩) (fun t=>fl2 = .next t) ?_ (fun s2 g2 hn2=>?_)
  ·refine az ?_
   refine bA (fun j2 s2 g2=>⟨138,upd (upd (upd (upd (upd (upd (fun _=>.any) 61 (ae (j2 : Int))) 60 (ae (x58.length : Int))) 59 (.list 50 (x58.map aG))) 9 (.own 56 g2 (s2.map aG).length)) 4 (.ptr [(ae q.kind),(.str q.table),(.list 9 (q.names.map cl)),(.list 56 (q.exprs.map bd)),(.list 66 (q.aggregates.map cj)),(.list 4 (q.descending.map cA)),(ae q.count),(ae q.offset),(.list 35 (q.inputs.map aW))])) 3 (.ptr [(.list 91 (c.s.tables.map bu)),(.list 142 (c.s.foreignKeys.map cz)),(.list 148 (c.s.constraints.map cG)),(.list 50 (c.vars.map aG))]),fun _=>none,upd (fun _=>none) 56 (some ⟨g2,50,(s2.map aG),true⟩)⟩) g56 H2 (Gh.le (aa (aa (aa (aa (aa (aa al)))))) ai (aA ah)) (fun j2 s2 g2 hj2 hr2=>?_)
   refine aw 1 tk rfl (ac ?_)
   refine aX rfl (fun h=>?_) (fun h=>?_)
   ·have hl2 := cn h
    obtain ⟨x2,fb2,hx2,H,hg2⟩ := rMc hl2 hr2
    refine av (ac (az (ac (af ?_))))
    refine bs tk (zn j2) (bO (fun _=>rfl) hx2) ?_
    refine aq tk rfl ?_
    refine bt tk fun b11=>?_
    refine aD tk ?_
    refine ag (ac (af (aq tk rfl (aN tk ?_))))
    refine aq tk rfl ?_
    refine bF rfl rfl rfl H (fun H=>?_) (fun H=>?_)
    ·refine am 5 tk rfl (aD tk ?_)
     refine ag (af (aq tk rfl (aN tk ?_)))
     refine cK tk (rows' := List.map aG ([(LCol.mk x2.name x2.kind true)] : List LCol)) (gc.refl _) ?_
     obtain ⟨x76,h76,H⟩ := ax H
     have k76 := dp h76
     refine dk (rows2' := List.map aG ([(LCol.mk x2.name x2.kind true)] : List LCol)) (rows' := List.map aG x76) tk rfl rfl rfl rfl rfl rfl rfl rfl rfl rfl rfl rfl rfl (gc.refl _) (eL k76.1) (eG k76.2.1) (eK k76.2.2) fun g76=>?_
     refine aq tk rfl (ag (aR (bi 2 tk rfl ?_)))
     obtain rfl := ao H
     refine aL x76 g76 ⟨hl2,hg2⟩ (Gh.le (aa (aa (aa (aa (aa (aH (PLe.q (aU (by omega))) al)))))) ai (aA ah))
    refine am 5 tk rfl (aD tk ?_)
    refine ag (af (aq tk rfl (aN tk ?_)))
    refine cK tk (rows' := List.map aG ([(LCol.mk x2.name x2.kind (q.kind == (5 : Int)))] : List LCol)) (gc.refl _) ?_
    obtain ⟨x76,h76,H⟩ := ax H
    have k76 := dp h76
    refine dk (rows2' := List.map aG ([(LCol.mk x2.name x2.kind (q.kind == (5 : Int)))] : List LCol)) (rows' := List.map aG x76) tk rfl rfl rfl rfl rfl rfl rfl rfl rfl rfl rfl rfl rfl (gc.refl _) (eL k76.1) (eG k76.2.1) (eK k76.2.2) fun g76=>?_
    refine aq tk rfl (ag (aR (bi 2 tk rfl ?_)))
    obtain rfl := ao H
    refine aL x76 g76 ⟨hl2,hg2⟩ (Gh.le (aa (aa (aa (aa (aa (aH (PLe.q (aU (by omega))) al)))))) ai (aA ah))
   have hn2 := rMd (co h) hr2
   refine aQ rfl ?_
   refine aO s2 g2 hn2 (Gh.le (aa (aa (aa al))) ai (aA ah))
  have H := bo hn2 Hp2
  refine ac (ec 9 rfl rfl rfl (bj tk mok ⟨false,false,[]⟩ [0,1,2,3,4,5,6,7,8,9] rfl (by decide +kernel) rfl (aK 5 rfl ?_)))
  obtain ⟨x83,k83,H⟩ := aY H
  refine cg k83.1 (aI eC k83.2) ?_
  refine cC rfl ?_
  obtain ⟨x85,h85,H⟩ := bJ H
  have s85 := kt c s2 x83
  rw [h85] at s85
  refine bg Tryz.call156 (iX.r) s85 ?_
  refine aK 2 rfl (bf ?_)
  obtain rfl := ao H
  refine aB tk rfl (ps := [(.list 50 (s2.map aG)),(ae x85)]) ⟨_,_,rfl,rfl,_,_,rfl,rfl,rfl⟩ (PLe.q rfl)
 refine ac (aw 2 tk rfl ?_)
 obtain ⟨fl3,H3,Hp3⟩ := bJ H
 refine aZ (τ := Bool) (γ := Unit) (fun t3 g3=>⟨138,upd (upd (upd (upd (upd (fun _=>.any) 86 (aE t3)) 18 (ae q.kind)) 4 (.ptr [(ae q.kind),(.str q.table),(.list 9 (q.names.map cl)),(.list 56 (q.exprs.map bd)),(.list 66 (q.aggregates.map cj)),(.list 4 (q.descending.map cA)),(ae q.count),(ae q.offset),(.list 35 (q.inputs.map aW))])) 3 (.ptr [(.list 91 (c.s.tables.map bu)),(.list 142 (c.s.foreignKeys.map cz)),(.list 148 (c.s.constraints.map cG)),(.list 50 (c.vars.map aG))])) 2 (.list 39 (inA.map (ak 50 aG))),fun _=>none,fun _=>none⟩) (fun t=>t = fl3) ?_ (fun t3 g3 hn3=>?_)
 ·have H := H3
  refine aP rfl H (fun H=>?_) (fun H=>?_)
  ·refine av ?_
   subst H
   refine aO (q.kind == (6 : Int)) () rfl (Gh.le (aa (aa (aa (aa (aa al))))) ai ah)
  refine bi 2 tk rfl ?_
  subst H
  refine aO (q.kind == (7 : Int)) () rfl (Gh.le (aa (aa (aa (aa (aa al))))) ai ah)
 subst hn3
 have H := Hp3
 refine aP rfl H (fun H=>?_) (fun H=>?_)
 ·refine ac (bj tk mok ⟨false,false,[]⟩ [0,1,2,3,4,5,6,7,8,9,10,11,12] rfl (by decide +kernel) rfl (aK 3 rfl ?_))
  obtain ⟨x92,k92,H⟩ := aY H
  refine cg k92.1 (aI (fun _=>rfl) k92.2) ?_
  refine aK 2 rfl ?_
  obtain ⟨x95,k95,H⟩ := aY H
  refine cg k95.1 (aI (fun _=>rfl) k95.2) ?_
  refine cC rfl ?_
  obtain ⟨x97,h97,H⟩ := ax H
  have s97 := qK q.kind x92 x95 _ h97
  refine bg Tryz.call157 (iX.r) s97 ?_
  refine aK 4 rfl (bf ?_)
  obtain rfl := ao H
  refine aB tk rfl (ps := [(.list 50 (x97.1.map aG)),(ae x97.2)]) ⟨_,_,rfl,rfl,_,_,rfl,rfl,rfl⟩ (PLe.q rfl)
 refine ac (aw 2 tk rfl ?_)
 obtain ⟨fl4,H4,Hp4⟩ := bJ H
 refine aZ (τ := Bool) (γ := Unit) (fun t4 g4=>⟨138,upd (upd (upd (upd (upd (fun _=>.any) 100 (aE t4)) 18 (ae q.kind)) 4 (.ptr [(ae q.kind),(.str q.table),(.list 9 (q.names.map cl)),(.list 56 (q.exprs.map bd)),(.list 66 (q.aggregates.map cj)),(.list 4 (q.descending.map cA)),(ae q.count),(ae q.offset),(.list 35 (q.inputs.map aW))])) 3 (.ptr [(.list 91 (c.s.tables.map bu)),(.list 142 (c.s.foreignKeys.map cz)),(.list 148 (c.s.constraints.map cG)),(.list 50 (c.vars.map aG))])) 2 (.list 39 (inA.map (ak 50 aG))),fun _=>none,fun _=>none⟩) (fun t=>t = fl4) ?_ (fun t4 g4 hn4=>?_)
 ·have H := H4
  refine aP rfl H (fun H=>?_) (fun H=>?_)
  ·refine av ?_
   subst H
   refine aO (q.kind == (3 : Int)) () rfl (Gh.le (aa (aa (aa (aa (aa al))))) ai ah)
  refine bi 2 tk rfl ?_
  subst H
  refine aO (q.kind == (8 : Int)) () rfl (Gh.le (aa (aa (aa (aa (aa al))))) ai ah)
 subst hn4
 have H := Hp4
 refine aP rfl H (fun H=>?_) (fun H=>?_)
 ·refine ac (bj tk mok ⟨false,false,[]⟩ [0,1,2,3,4,5,6,7,8,9] rfl (by decide +kernel) rfl (aK 3 rfl ?_))
  obtain ⟨x106,k106,H⟩ := aY H
  refine cg k106.1 (aI (fun _=>rfl) k106.2) ?_
  refine cC rfl ?_
  obtain ⟨x108,h108,H⟩ := ax H
  have s108 := md c q x106 _ h108
  refine bg Tryz.call158 (iX.r) s108 ?_
  refine aK 4 rfl (bf ?_)
  obtain rfl := ao H
  refine aB tk rfl (ps := [(.list 50 (x108.1.map aG)),(ae x108.2)]) ⟨_,_,rfl,rfl,_,_,rfl,rfl,rfl⟩ (PLe.q rfl)
 refine aw 2 tk rfl ?_
 refine aP rfl H (fun H=>?_) (fun H=>?_)
 ·refine ac (af (am 2 tk rfl (aM tk (zl _) ?_)))
  refine aq tk rfl (ag ?_)
  obtain ⟨fl5,H5,Hp5⟩ := ax H
  refine bS tk 114 rfl rfl (fun hz5 _=>?_)
  rw [zl] at hz5
  refine aZ (τ := Unit) (γ := Unit) (fun s5 g5=>⟨138,upd (fun _=>.any) 2 (.list 39 (inA.map (ak 50 aG))),fun _=>none,fun _=>none⟩) (fun t=>fl5 = .next t) ?_ (fun s5 g5 hn5=>?_)
  ·refine az ?_
   refine bA (fun j5 s5 g5=>⟨138,upd (upd (upd (upd (upd (fun _=>.any) 116 (ae (j5 : Int))) 115 (ae (q.exprs.length : Int))) 114 (.list 56 (q.exprs.map bd))) 3 (.ptr [(.list 91 (c.s.tables.map bu)),(.list 142 (c.s.foreignKeys.map cz)),(.list 148 (c.s.constraints.map cG)),(.list 50 (c.vars.map aG))])) 2 (.list 39 (inA.map (ak 50 aG))),fun _=>none,fun _=>none⟩) () H5 (Gh.le (aa (aa (aa (aa (aa al))))) ai ah) (fun j5 s5 g5 hj5 hr5=>?_)
   refine aw 1 tk rfl (ac ?_)
   refine aX rfl (fun h=>?_) (fun h=>?_)
   ·have hl5 := cn h
    obtain ⟨x5,fb5,hx5,H,hg5⟩ := rMc hl5 hr5
    refine av (ac (az (ac (af (bs tk (zn j5) (bO eC hx5) ?_)))))
    refine aq tk rfl ?_
    refine bt tk fun b13=>?_
    refine aD tk ?_
    refine ag (ac (bj tk mok ⟨true,false,[123,125]⟩ [0,1,2,3,4,5,6,7,8,9,10,11,12,13] rfl (by decide +kernel) rfl (cC rfl ?_)))
    obtain ⟨x122,k122,H⟩ := aY H
    refine cg k122.1 (aI (fun _=>rfl) k122.2) ?_
    refine aK 3 rfl (cF ?_)
    obtain ⟨x127,h127,H⟩ := bJ H
    have s127 := mA x122 c.vars x5
    rw [h127] at s127
    refine bg Tryz.call159 (iX.r) s127 ?_
    refine aK 7 rfl (bf (aw 2 tk rfl ?_))
    refine aP rfl H (fun H=>?_) (fun H=>?_)
    ·refine aw 3 tk rfl ?_
     obtain rfl := ao H
     have e5 : fl5 = .ret _ := hg5
     subst e5
     obtain rfl := bm Hp5
     refine aB tk rfl (ps := [(.val (.slice none 0 0)),(ae x127.2.2)]) ⟨_,_,rfl,rfl,_,_,rfl,rfl,rfl⟩ (PLe.of2 (mV.tup (ir.cons (mV.nil tk rfl) (ir.cons (mV.of_eq rfl) ir.nil))))
    refine av (aR (bi 2 tk rfl ?_))
    obtain rfl := ao H
    refine aL () () ⟨hl5,hg5⟩ (Gh.le (aa (aa (aa (aa (aH (PLe.q (aU (by omega))) al))))) ai ah)
   have hn5 := rMd (co h) hr5
   refine aQ rfl ?_
   refine aO s5 g5 hn5 (Gh.le (aa al) ai ah)
  have H := ck hn5 Hp5
  refine aR (ac (af (aq tk rfl ?_)))
  obtain ⟨x136,k136,H⟩ := aY H
  refine bs tk k136.1 (aI (fun _=>rfl) k136.2) ?_
  refine am 3 tk rfl (ag ?_)
  obtain rfl := ao H
  refine aB tk rfl (ps := [(.list 50 (x136.map aG)),(ae 0)]) ⟨_,_,rfl,rfl,_,_,rfl,rfl,rfl⟩ (PLe.q rfl)
 refine av (aR (ac (af (aq tk rfl ?_))))
 obtain ⟨x136,k136,H⟩ := aY H
 refine bs tk k136.1 (aI (fun _=>rfl) k136.2) ?_
 refine am 3 tk rfl (ag ?_)
 obtain rfl := ao H
 refine aB tk rfl (ps := [(.list 50 (x136.map aG)),(ae 0)]) ⟨_,_,rfl,rfl,_,_,rfl,rfl,rfl⟩ (PLe.q rfl)
def iI (rA : LRun) (q : LQuery) (cols : List LCol) (inA : Rz) : Option (Rz) :=
 bn (
  cond ((q.exprs.length : Int) == (0 : Int))
   (([[]],[[]]))
   (([],[]))) fun (t1 : Rz × List Rz) =>
 aj (ba (σ := Rz × List Rz) (ρ := Empty) (fun (_ : Nat) (x2 : Rq) (s2 : Rz × List Rz) =>
  aj (dO rA cols x2 q.exprs) fun x38 =>
  aj (bY s2.1 (fun a0=>go a0 x38)) fun x41 =>
  aj (cB (x41.2.length = s2.1.length) ()) fun (_ : Unit) =>
  aj (
   cond (decide (x41.1 < (0 : Int)))
    (aj (dW 24 x41.2 ([x38] : Rz)) fun (x49 : Rz) =>
    aj (dW 24 s2.2 ([[]] : List Rz)) fun (x52 : List Rz) =>
    some (x49,x52,(x41.2.length : Int)))
    (some (x41.2,s2.2,x41.1))) fun (t7 : Rz × List Rz × Int) =>
  aj (aF t7.2.1 t7.2.2) fun (x57 : Rz) =>
  aj (dW 24 x57 ([x2] : Rz)) fun (x61 : Rz) =>
  aj (aF t7.2.1 t7.2.2) fun (_ : Rz) =>
  bn (t7.2.1.set t7.2.2.toNat x61) fun (y8 : List Rz) =>
  some (.next (t7.1,y8))) 0 inA (t1.1,t1.2)) fun fl2=>fl2.thenP fun (s2 : Rz × List Rz) =>
 aj (cB (s2.2.length * 24 ≤ 2 ^ 47) ()) fun (_ : Unit) =>
 aj (nN (s2.1.length : Int)) fun (n10 : Nat) =>
 aj (ba (σ := Rz) (ρ := Empty) (fun (j10 : Nat) (_ : Nat) (s10 : Rz) =>
  aj (aF s2.1 (j10 : Int)) fun (x69 : Rq) =>
  aj (ba (σ := Rq) (ρ := Empty) (fun (_ : Nat) (x13 : LAggregateCall) (s13 : Rq) =>
   aj (aF s2.2 (j10 : Int)) fun (x86 : Rz) =>
   aj (jr rA x13 cols x86) fun x88 =>
   aj (dW 32 s13 ([x88] : Rq)) fun (x90 : Rq) =>
   some (.next x90)) 0 q.aggregates x69) fun fl13=>fl13.thenP fun (s13 : Rq) =>
  aj (dW 24 s10 ([s13] : Rz)) fun (x95 : Rz) =>
  some (.next x95)) 0 (List.range n10) []) fun fl10=>fl10.thenP fun (s10 : Rz) =>
 some s10
theorem rc (rA : LRun) (q : LQuery) (cols : List LCol) (inA : Rz) (r : Rz) (H : iI rA q cols inA = some r) :
  aV Tryz.prog 141 [(.agg (il rA)),(.agg (bv q)),(.list 50 (cols.map aG)),(.list 51 (inA.map (ak 53 ab)))] (.list 51 (r.map (ak 53 ab))) := by
 unfold iI at H
 refine PH.aC Tryz.func141 Tryz.ntmps141 ?_
 refine ac (af (aT ?_))
 refine aT ?_
 refine aq tk rfl (ag (aw 1 tk rfl (aw 1 tk rfl (ac (ac (af (am 2 tk rfl (aM tk (zl _) ?_))))))))
 refine aq tk rfl (ag ?_)
 obtain ⟨fl1,H1,Hp1⟩ := bJ H
 refine aZ (τ := Rz × List Rz) (γ := OwnRef × (Nat × Nat × (Nat → OwnRef))) (fun t1 g1=>⟨98,upd (upd (upd (upd (upd (upd (fun _=>.any) 10 (.val (iJ g1.2.1 t1.2.length g1.2.2.1))) 9 (.own 25 g1.1 (t1.1.map (ak 53 ab)).length)) 5 (.ptr [(ae q.kind),(.str q.table),(.list 9 (q.names.map cl)),(.list 56 (q.exprs.map bd)),(.list 66 (q.aggregates.map cj)),(.list 4 (q.descending.map cA)),(ae q.count),(ae q.offset),(.list 35 (q.inputs.map aW))])) 4 (.ptr [(.list 91 (rA.s.tables.map bu)),(.list 142 (rA.s.foreignKeys.map cz)),(.list 148 (rA.s.constraints.map cG)),(.list 87 (rA.st.map bV)),(.list 53 (rA.args.map ab)),(.list 50 (rA.vars.map aG)),(.list 9 (rA.names.map cl)),(.list 53 (rA.vals.map ab))])) 3 (.list 51 (inA.map (ak 53 ab)))) 2 (.list 50 (cols.map aG)),upd (fun _=>none) 990 (iz g1.2.1 g1.2.2.2 (List.map (List.map (ak 53 ab)) t1.2) g1.2.2.1),eH 51 g1.2.2.2 (List.map (List.map (ak 53 ab)) t1.2) (upd (fun _=>none) 25 (some ⟨g1.1,51,(t1.1.map (ak 53 ab)),true⟩))⟩) (fun t=>t = fl1) ?_ (fun t1 g1 hn1=>?_)
 ·have H := H1
  refine aP rfl H (fun H=>?_) (fun H=>?_)
  ·refine af ?_
   refine pm (rows' := List.map (ak 53 ab) ([[]] : Rz)) tk rfl rfl rfl rfl rfl rfl rfl rfl rfl (ir.cons (mV.nil tk rfl) ir.nil) fun g25=>?_
   refine sl 990 51 tk rfl rfl rfl rfl rfl rfl rfl rfl fun bf26 cf26=>?_
   refine am 2 tk rfl (ag ?_)
   subst H
   refine aO ([[]],[[]]) (g25,(bf26,cf26,(fun _=>⟨none,0⟩))) rfl (Gh.le (aa (aa (aa (aa (aa (aa al)))))) (kl rfl ai) (jR (fun i rs h=>by first | exact ez h | (simp only [lx,gH,gS,Nat.reduceLT]; exact ez h)) (aA ah)))
  refine av ?_
  subst H
  refine iW tk 9 25 (e := 51) rfl rfl ?_
  refine aO ([],[]) (⟨none,0⟩,(0,0,fun _=>⟨none,0⟩)) rfl (Gh.le (aa (aa (aa (aa (aa (aa al)))))) (sj ai) (sh (aA ah)))
 subst hn1
 have H := Hp1
 refine ac (ac (af (aq tk rfl (aM tk (zl _) ?_))))
 refine aq tk rfl (ag ?_)
 obtain ⟨fl2,H2,Hp2⟩ := ax H
 refine bS tk 27 rfl rfl (fun hz2 _=>?_)
 rw [zl] at hz2
 refine aZ (τ := Rz × List Rz) (γ := OwnRef × (Nat × Nat × (Nat → OwnRef))) (fun s2 g2=>⟨98,upd (upd (upd (upd (upd (fun _=>.any) 10 (.val (iJ g2.2.1 s2.2.length g2.2.2.1))) 9 (.own 25 g2.1 (s2.1.map (ak 53 ab)).length)) 5 (.ptr [(ae q.kind),(.str q.table),(.list 9 (q.names.map cl)),(.list 56 (q.exprs.map bd)),(.list 66 (q.aggregates.map cj)),(.list 4 (q.descending.map cA)),(ae q.count),(ae q.offset),(.list 35 (q.inputs.map aW))])) 4 (.ptr [(.list 91 (rA.s.tables.map bu)),(.list 142 (rA.s.foreignKeys.map cz)),(.list 148 (rA.s.constraints.map cG)),(.list 87 (rA.st.map bV)),(.list 53 (rA.args.map ab)),(.list 50 (rA.vars.map aG)),(.list 9 (rA.names.map cl)),(.list 53 (rA.vals.map ab))])) 2 (.list 50 (cols.map aG)),upd (fun _=>none) 990 (iz g2.2.1 g2.2.2.2 (List.map (List.map (ak 53 ab)) s2.2) g2.2.2.1),eH 51 g2.2.2.2 (List.map (List.map (ak 53 ab)) s2.2) (upd (fun _=>none) 25 (some ⟨g2.1,51,(s2.1.map (ak 53 ab)),true⟩))⟩) (fun t=>fl2 = .next t) ?_ (fun s2 g2 hn2=>?_)
 ·refine az ?_
  refine bA (fun j2 s2 g2=>⟨98,upd (upd (upd (upd (upd (upd (upd (upd (fun _=>.any) 29 (ae (j2 : Int))) 28 (ae (inA.length : Int))) 27 (.list 51 (inA.map (ak 53 ab)))) 10 (.val (iJ g2.2.1 s2.2.length g2.2.2.1))) 9 (.own 25 g2.1 (s2.1.map (ak 53 ab)).length)) 5 (.ptr [(ae q.kind),(.str q.table),(.list 9 (q.names.map cl)),(.list 56 (q.exprs.map bd)),(.list 66 (q.aggregates.map cj)),(.list 4 (q.descending.map cA)),(ae q.count),(ae q.offset),(.list 35 (q.inputs.map aW))])) 4 (.ptr [(.list 91 (rA.s.tables.map bu)),(.list 142 (rA.s.foreignKeys.map cz)),(.list 148 (rA.s.constraints.map cG)),(.list 87 (rA.st.map bV)),(.list 53 (rA.args.map ab)),(.list 50 (rA.vars.map aG)),(.list 9 (rA.names.map cl)),(.list 53 (rA.vals.map ab))])) 2 (.list 50 (cols.map aG)),upd (fun _=>none) 990 (iz g2.2.1 g2.2.2.2 (List.map (List.map (ak 53 ab)) s2.2) g2.2.2.1),eH 51 g2.2.2.2 (List.map (List.map (ak 53 ab)) s2.2) (upd (fun _=>none) 25 (some ⟨g2.1,51,(s2.1.map (ak 53 ab)),true⟩))⟩) (g1.1,(g1.2.1,g1.2.2.1,g1.2.2.2)) H2 (Gh.le (aa (aa (aa (aa (aa (aa (aa (aa al)))))))) (kl rfl ai) (jR (fun i rs h=>by first | exact ez h | (simp only [lx,gH,gS,Nat.reduceLT]; exact ez h)) (aA ah))) (fun j2 s2 g2 hj2 hr2=>?_)
  refine aw 1 tk rfl (ac ?_)
  refine aX rfl (fun h=>?_) (fun h=>?_)
  ·have hl2 := cn h
   obtain ⟨x2,fb2,hx2,H,hg2⟩ := rMc hl2 hr2
   refine av (ac (az (ac (af ?_))))
   refine bs tk (zn j2) (bO (fun _=>rfl) hx2) ?_
   refine am 2 tk rfl (ag (ac (af (am 5 tk rfl ?_))))
   obtain ⟨x38,h38,H⟩ := ax H
   have s38 := jN rA cols x2 q.exprs _ h38
   refine au Tryz.call140 (iX.r) s38 ?_
   refine bt tk fun b13=>?_
   refine aD tk ?_
   refine ag (ac (af (aq tk rfl (cy (Gh.freezeB 13 rfl rfl rfl rfl) (aq tk rfl ?_)))))
   obtain ⟨x41,h41,H⟩ := ax H
   have s41 := fH g2.1 s2.1 (fun a0=>go a0 x38) Tryz.call172 (fun a0 r h=>qk a0 x38 r h) _ h41
   obtain ⟨_,q41_0,H⟩ := ax H
   have l41_0 := (bB q41_0).1
   have z41_0 : (List.map (ak 53 ab) s2.1).length = (List.map (ak 53 ab) x41.2).length := by simpa using (l41_0).symm
   refine bZ (g := 22) rfl rfl rfl Tryz.call22 [] [(25,0)] rfl rfl rfl rfl (iX.of2 (ir.cons (mV.own rfl) (ir.cons (mV.of_eq rfl) ir.nil))) (by rw [bQ,bH,bP]; rfl) s41 ?_
   rintro u41 H41h ⟨rfl,rfl⟩
   refine ⟨_,rfl,?_⟩
   refine cy (st' := ⟨_,_,upd (fun _=>none) 990 (iz g2.2.1 g2.2.2.2 (List.map (List.map (ak 53 ab)) s2.2) g2.2.2.1),eH 51 g2.2.2.2 (List.map (List.map (ak 53 ab)) s2.2) (upd (fun _=>none) 25 (some ⟨g2.1,51,(x41.2.map (ak 53 ab)),true⟩))⟩) (Gh.le (bM _ _) (kl rfl ai) (jR (fun i rs h=>by first | exact ez h | (simp only [gH,gS,Nat.reduceLT]; exact ez h)) (aA ah))) ?_
   refine aq tk rfl (ag (ac (aw 2 tk rfl ?_)))
   obtain ⟨fl7,H7,Hp7⟩ := ax H
   refine aZ (τ := Rz × List Rz × Int) (γ := OwnRef × (Nat × Nat × (Nat → OwnRef))) (fun t7 g7=>⟨98,upd (upd (upd (upd (upd (upd (upd (upd (upd (upd (fun _=>.any) 29 (ae (j2 : Int))) 28 (ae (inA.length : Int))) 27 (.list 51 (inA.map (ak 53 ab)))) 14 (ae t7.2.2)) 12 (.list 53 (x2.map ab))) 10 (.val (iJ g7.2.1 t7.2.1.length g7.2.2.1))) 9 (.own 25 g7.1 (t7.1.map (ak 53 ab)).length)) 5 (.ptr [(ae q.kind),(.str q.table),(.list 9 (q.names.map cl)),(.list 56 (q.exprs.map bd)),(.list 66 (q.aggregates.map cj)),(.list 4 (q.descending.map cA)),(ae q.count),(ae q.offset),(.list 35 (q.inputs.map aW))])) 4 (.ptr [(.list 91 (rA.s.tables.map bu)),(.list 142 (rA.s.foreignKeys.map cz)),(.list 148 (rA.s.constraints.map cG)),(.list 87 (rA.st.map bV)),(.list 53 (rA.args.map ab)),(.list 50 (rA.vars.map aG)),(.list 9 (rA.names.map cl)),(.list 53 (rA.vals.map ab))])) 2 (.list 50 (cols.map aG)),upd (fun _=>none) 990 (iz g7.2.1 g7.2.2.2 (List.map (List.map (ak 53 ab)) t7.2.1) g7.2.2.1),eH 51 g7.2.2.2 (List.map (List.map (ak 53 ab)) t7.2.1) (upd (fun _=>none) 25 (some ⟨g7.1,51,(t7.1.map (ak 53 ab)),true⟩))⟩) (fun t=>t = fl7) ?_ (fun t7 g7 hn7=>?_)
   ·have H := H7
    refine aP rfl H (fun H=>?_) (fun H=>?_)
    ·refine ac (af (aq tk rfl (jG tk (z41_0.trans (zl _)) ?_)))
     refine aq tk rfl (ag (af (am 2 tk rfl (cK tk (rows' := List.map (ak 53 ab) ([x38] : Rz)) (gc.refl _) ?_))))
     obtain ⟨x49,h49,H⟩ := ax H
     have k49 := dp h49
     refine dk (rows2' := List.map (ak 53 ab) ([x38] : Rz)) (rows' := List.map (ak 53 ab) x49) tk rfl rfl rfl rfl rfl rfl rfl rfl rfl rfl rfl z41_0 rfl (gc.refl _) (eL k49.1) (eG k49.2.1) (eK k49.2.2) fun g49=>?_
     refine aq tk rfl (qw tk rfl rfl rfl rfl rfl rfl ?_)
     obtain ⟨x52,h52,H⟩ := ax H
     have k52 := dp h52
     refine cy (st' := ⟨_,_,upd (fun _=>none) 990 (iz g2.2.1 g2.2.2.2 (List.map (List.map (ak 53 ab)) s2.2) g2.2.2.1),eH 51 g2.2.2.2 (List.map (List.map (ak 53 ab)) s2.2) (upd (fun _=>none) 25 (some ⟨g49,51,(x49.map (ak 53 ab)),true⟩))⟩) (Gh.le (bM _ _) (kl rfl ai) (jR (fun i rs h=>by first | exact ez h | (simp only [lx,Nat.reduceLT]; exact ez h)) (aA ah))) ?_
     refine sq 990 51 tk rfl rfl rfl rfl rfl rfl rfl rfl rfl rfl rfl (zl _).symm rfl rfl (by rw [zl]; exact k52.1) (by rw [zl]; exact k52.2.1) fun bf52 cf52=>?_
     have hz52 : List.map (List.map (ak 53 ab)) x52 = List.map (List.map (ak 53 ab)) s2.2 ++ [[]] := by rw [k52.2.2,List.map_append]; rfl
     refine cy (st' := ⟨_,_,upd (fun _=>none) 990 (iz bf52 (upd g2.2.2.2 s2.2.length ⟨none,0⟩) (List.map (List.map (ak 53 ab)) x52) cf52),eH 51 (upd g2.2.2.2 s2.2.length ⟨none,0⟩) (List.map (List.map (ak 53 ab)) x52) (upd (fun _=>none) 25 (some ⟨g49,51,(x49.map (ak 53 ab)),true⟩))⟩) (Gh.le (bM _ _) (kl (by rw [hz52]; rfl) ai) (jR (fun i rs h=>by rw [hz52] at h; exact ez h) (aA ah))) ?_
     refine lw 52 (q := (.val (iJ bf52 x52.length cf52))) rfl (PLe.q (by rw [k52.2.2,List.length_append]; rfl)) ?_
     refine am 2 tk rfl (ag ?_)
     obtain rfl := ao H
     refine aO (x49,x52,(x41.2.length : Int)) (g49,(bf52,cf52,(upd g2.2.2.2 s2.2.length ⟨none,0⟩))) rfl (Gh.le (aa (aa (aa (aa (aa (aa (aa (aa (aa (aa al)))))))))) (kl rfl ai) (jR (fun i rs h=>by first | exact ez h | (simp only [lx,gH,gS,Nat.reduceLT]; exact ez h)) (aA ah)))
    refine av ?_
    obtain rfl := ao H
    refine aO (x41.2,s2.2,x41.1) (g2.1,(g2.2.1,g2.2.2.1,g2.2.2.2)) rfl (Gh.le (aa (aa (aa (aH (PLe.of2 (mV.of_eq (congrArg (PV.own 25 g2.1) z41_0))) (aa (aa (aa (aa (aa (aa al)))))))))) (kl rfl ai) (jR (fun i rs h=>by first | exact ez h | (simp only [lx,gH,gS,Nat.reduceLT]; exact ez h)) (aA ah)))
   subst hn7
   have H := Hp7
   refine af (am 4 tk rfl ?_)
   obtain ⟨x57,k57,H⟩ := aY H
   have wk57 : (List.map (List.map (ak 53 ab)) t7.2.1)[t7.2.2.toNat]? = some (List.map (ak 53 ab) x57) := by rw [List.getElem?_map,k57.2]; rfl
   refine rU 990 tk rfl rfl rfl rfl rfl rfl rfl rfl ⟨k57.1,(zg.1 k57.2).1⟩ rfl ?_
   refine sD tk rfl rfl rfl rfl rfl (qq wk57) (famCells_get wk57) rfl (aq tk rfl (cK tk (rows' := List.map (ak 53 ab) ([x2] : Rz)) (gc.refl _) ?_))
   obtain ⟨x61,h61,H⟩ := ax H
   have k61 := dp h61
   refine dk (rows2' := List.map (ak 53 ab) ([x2] : Rz)) (rows' := List.map (ak 53 ab) x61) tk rfl rfl rfl rfl rfl rfl rfl rfl rfl rfl (ez wk57) rfl rfl (gc.refl _) (eL k61.1) (eG k61.2.1) (eK k61.2.2) fun g61=>?_
   obtain ⟨x62,k62,H⟩ := aY H
   have wk62 : (List.map (List.map (ak 53 ab)) t7.2.1)[t7.2.2.toNat]? = some (List.map (ak 53 ab) x62) := by rw [List.getElem?_map,k62.2]; rfl
   refine rU 990 tk rfl rfl rfl rfl rfl rfl rfl rfl ⟨k62.1,(zg.1 k62.2).1⟩ rfl ?_
   obtain ⟨y8,hy8,H⟩ := bJ H
   have hzy8 : List.map (List.map (ak 53 ab)) y8 = (List.map (List.map (ak 53 ab)) t7.2.1).set t7.2.2.toNat (List.map (ak 53 ab) x61) := by rw [← hy8,List.map_set]
   have hly8 : y8.length = t7.2.1.length := by rw [← hy8,List.length_set]
   refine sn tk rfl rfl rfl rfl rfl rfl (qq wk62) rfl rfl (by rw [nS]; exact Nat.lt_of_lt_of_le (zg.1 wk62).1 (jB _ _)) (famCells_set wk62 _) ?_
   refine cy (st' := ⟨_,_,upd (fun _=>none) 990 (iz g7.2.1 (upd g7.2.2.2 t7.2.2.toNat g61) (List.map (List.map (ak 53 ab)) y8) g7.2.2.1),eH 51 (upd g7.2.2.2 t7.2.2.toNat g61) (List.map (List.map (ak 53 ab)) y8) (upd (fun _=>none) 25 (some ⟨g7.1,51,(t7.1.map (ak 53 ab)),true⟩))⟩) (Gh.le (bM _ _) (kl (famB_put wk62 hzy8) ai) (jR (famO_put wk62 hzy8) (sF (by rw [fE _ _ (by unfold bN; omega)]; rfl) ah))) ?_
   refine lw 10 (q := (.val (iJ g7.2.1 y8.length g7.2.2.1))) rfl (PLe.q (by rw [hly8]; rfl)) ?_
   refine lw 53 (q := (.val (iJ g7.2.1 y8.length g7.2.2.1))) rfl (PLe.q (by rw [hly8]; rfl)) ?_
   refine lw 55 (q := (.val (iJ g7.2.1 y8.length g7.2.2.1))) rfl (PLe.q (by rw [hly8]; rfl)) ?_
   refine ag (aR (bi 2 tk rfl ?_))
   obtain rfl := ao H
   refine aL (t7.1,y8) (g7.1,(g7.2.1,g7.2.2.1,(upd g7.2.2.2 t7.2.2.toNat g61))) ⟨hl2,hg2⟩ (Gh.le (aa (aa (aa (aa (aa (aa (aa (aH (PLe.q (aU (by omega))) al)))))))) (kl rfl ai) (jR (fun i rs h=>by first | exact ez h | (simp only [lx,gH,gS,Nat.reduceLT]; exact ez h)) (aA ah)))
  have hn2 := rMd (co h) hr2
  refine aQ rfl ?_
  refine aO s2 g2 hn2 (Gh.le (aa (aa (aa (aa (aa al))))) (kl rfl ai) (jR (fun i rs h=>by first | exact ez h | (simp only [lx,gH,gS,Nat.reduceLT]; exact ez h)) (aA ah)))
 have H := bo hn2 Hp2
 refine aw 1 tk rfl (ac (ac (af (aq tk rfl (jG tk (zl _) ?_)))))
 refine aq tk rfl (ag ?_)
 obtain ⟨_,hf9,H⟩ := ax H
 have kf9 := (bB hf9).1
 refine rZ 10 990 tk (e := 51) (e' := 40) (rows := List.map (ak 51 (ak 53 ab)) s2.2) rfl rfl rfl (zl _).symm rfl (by rw [zl]; exact kf9) (by rw [zl]; unfold maxLen; omega) (by rw [List.map_map]; rfl) ?_
 obtain ⟨n10,hs10,H⟩ := ax H
 have hz10 := oO hs10
 obtain ⟨fl10,H10,Hp10⟩ := ax H
 refine aZ (τ := Rz) (γ := OwnRef) (fun s10 g10=>⟨98,upd (fun _=>.any) 15 (.own 95 g10 (s10.map (ak 53 ab)).length),fun _=>none,upd (fun _=>none) 95 (some ⟨g10,51,(s10.map (ak 53 ab)),true⟩)⟩) (fun t=>fl10 = .next t) ?_ (fun s10 g10 hn10=>?_)
 ·refine az (iW tk 15 95 (e := 51) rfl rfl ?_)
  refine bA (fun j10 s10 g10=>⟨98,upd (upd (upd (upd (upd (upd (upd (upd (fun _=>.any) 66 (ae (j10 : Int))) 65 (ae (s2.1.length : Int))) 64 (.own 25 g2.1 (s2.1.map (ak 53 ab)).length)) 15 (.own 95 g10 (s10.map (ak 53 ab)).length)) 10 (.list 40 (s2.2.map (ak 51 (ak 53 ab))))) 5 (.ptr [(ae q.kind),(.str q.table),(.list 9 (q.names.map cl)),(.list 56 (q.exprs.map bd)),(.list 66 (q.aggregates.map cj)),(.list 4 (q.descending.map cA)),(ae q.count),(ae q.offset),(.list 35 (q.inputs.map aW))])) 4 (.ptr [(.list 91 (rA.s.tables.map bu)),(.list 142 (rA.s.foreignKeys.map cz)),(.list 148 (rA.s.constraints.map cG)),(.list 87 (rA.st.map bV)),(.list 53 (rA.args.map ab)),(.list 50 (rA.vars.map aG)),(.list 9 (rA.names.map cl)),(.list 53 (rA.vals.map ab))])) 2 (.list 50 (cols.map aG)),fun _=>none,upd (upd (fun _=>none) 95 (some ⟨g10,51,(s10.map (ak 53 ab)),true⟩)) 25 (some ⟨g2.1,51,(s2.1.map (ak 53 ab)),true⟩)⟩) (⟨none,0⟩) H10 (Gh.le (aa (aa (aa (aa (aa (aa (aa (aa al)))))))) ai (aA (aA ah))) (fun j10 s10 g10 hj10 hr10=>?_)
  refine aw 1 tk rfl (ac ?_)
  refine aX rfl (fun h=>?_) (fun h=>?_)
  ·have hl10 := natLt hz10 h
   obtain ⟨x10,fb10,hx10,H,hg10⟩ := rMc hl10 hr10
   obtain rfl := natX hx10
   refine av (ac (az (ac (af (aq tk rfl ?_)))))
   obtain ⟨x69,k69,H⟩ := aY H
   refine mj (tag := 25) rfl (fun ho25=>?_)
   refine ml tk rfl rfl rfl rfl rfl rfl rfl ⟨k69.1,(bh k69.2)⟩ (bl ho25 k69.2) rfl ?_
   refine rB tk rfl rfl rfl rfl rfl rfl rfl (aI (fun _=>rfl) k69.2) rfl rfl ?_
   refine am 2 tk rfl (ag (ac (af (aq tk rfl ?_))))
   have s72 := clone_94 (m := 72) x69
   refine li (g := 94) rfl rfl rfl Tryz.call94 (iX.r) rfl rfl s72 (fun g72=>?_)
   refine aq tk rfl (ag (ac (ac (af (am 2 tk rfl (aM tk (zl _) ?_))))))
   refine aq tk rfl (ag ?_)
   obtain ⟨fl13,H13,Hp13⟩ := ax H
   refine bS tk 74 rfl rfl (fun hz13 _=>?_)
   rw [zl] at hz13
   refine aZ (τ := Rq) (γ := OwnRef) (fun s13 g13=>⟨98,upd (upd (upd (upd (upd (upd (upd (upd (upd (fun _=>.any) 66 (ae (j10 : Int))) 65 (ae (s2.1.length : Int))) 64 (.own 25 g2.1 (s2.1.map (ak 53 ab)).length)) 18 (.own 72 g13 (s13.map ab).length)) 15 (.own 95 g10 (s10.map (ak 53 ab)).length)) 10 (.list 40 (s2.2.map (ak 51 (ak 53 ab))))) 5 (.ptr [(ae q.kind),(.str q.table),(.list 9 (q.names.map cl)),(.list 56 (q.exprs.map bd)),(.list 66 (q.aggregates.map cj)),(.list 4 (q.descending.map cA)),(ae q.count),(ae q.offset),(.list 35 (q.inputs.map aW))])) 4 (.ptr [(.list 91 (rA.s.tables.map bu)),(.list 142 (rA.s.foreignKeys.map cz)),(.list 148 (rA.s.constraints.map cG)),(.list 87 (rA.st.map bV)),(.list 53 (rA.args.map ab)),(.list 50 (rA.vars.map aG)),(.list 9 (rA.names.map cl)),(.list 53 (rA.vals.map ab))])) 2 (.list 50 (cols.map aG)),fun _=>none,upd (upd (upd (fun _=>none) 95 (some ⟨g10,51,(s10.map (ak 53 ab)),true⟩)) 72 (some ⟨g13,53,(s13.map ab),true⟩)) 25 (some ⟨g2.1,51,(s2.1.map (ak 53 ab)),true⟩)⟩) (fun t=>fl13 = .next t) ?_ (fun s13 g13 hn13=>?_)
   ·refine az ?_
    refine bA (fun j13 s13 g13=>⟨98,upd (upd (upd (upd (upd (upd (upd (upd (upd (upd (upd (upd (upd (fun _=>.any) 76 (ae (j13 : Int))) 75 (ae (q.aggregates.length : Int))) 74 (.list 66 (q.aggregates.map cj))) 66 (ae (j10 : Int))) 65 (ae (s2.1.length : Int))) 64 (.own 25 g2.1 (s2.1.map (ak 53 ab)).length)) 18 (.own 72 g13 (s13.map ab).length)) 16 (ae (j10 : Int))) 15 (.own 95 g10 (s10.map (ak 53 ab)).length)) 10 (.list 40 (s2.2.map (ak 51 (ak 53 ab))))) 5 (.ptr [(ae q.kind),(.str q.table),(.list 9 (q.names.map cl)),(.list 56 (q.exprs.map bd)),(.list 66 (q.aggregates.map cj)),(.list 4 (q.descending.map cA)),(ae q.count),(ae q.offset),(.list 35 (q.inputs.map aW))])) 4 (.ptr [(.list 91 (rA.s.tables.map bu)),(.list 142 (rA.s.foreignKeys.map cz)),(.list 148 (rA.s.constraints.map cG)),(.list 87 (rA.st.map bV)),(.list 53 (rA.args.map ab)),(.list 50 (rA.vars.map aG)),(.list 9 (rA.names.map cl)),(.list 53 (rA.vals.map ab))])) 2 (.list 50 (cols.map aG)),fun _=>none,upd (upd (upd (fun _=>none) 95 (some ⟨g10,51,(s10.map (ak 53 ab)),true⟩)) 72 (some ⟨g13,53,(s13.map ab),true⟩)) 25 (some ⟨g2.1,51,(s2.1.map (ak 53 ab)),true⟩)⟩) g72 H13 (Gh.le (aa (aa (aa (aa (aa (aa (aa (aa (aa (aa (aa (aa (aa al))))))))))))) ai (aA (aA (aA ah)))) (fun j13 s13 g13 hj13 hr13=>?_)
    refine aw 1 tk rfl (ac ?_)
    refine aX rfl (fun h=>?_) (fun h=>?_)
    ·have hl13 := cn h
     obtain ⟨x13,fb13,hx13,H,hg13⟩ := rMc hl13 hr13
     refine av (ac (az (ac (af ?_))))
     refine bs tk (zn j13) (bO (fun _=>rfl) hx13) ?_
     refine aq tk rfl ?_
     refine bt tk fun b20=>?_
     refine aD tk ?_
     refine ag ?_
     refine cU (tag := 25) rfl (fun ho25=>?_)
     refine cU (tag := 72) rfl (fun ho72=>?_)
     refine cU (tag := 95) rfl (fun ho95=>?_)
     refine bj tk mok ⟨true,false,[81,87]⟩ [0,1,2,3,4,5,6,7,8,9,10,11] rfl (by decide +kernel) rfl (aK 2 rfl (cF ?_))
     refine aK 3 rfl ?_
     obtain ⟨x86,k86,H⟩ := aY H
     refine cg k86.1 (aI (fun _=>rfl) k86.2) ?_
     refine cC rfl ?_
     obtain ⟨x88,h88,H⟩ := ax H
     have s88 := rO rA x13 cols x86 _ h88
     refine bg Tryz.call173 (iX.r) s88 ?_
     refine cC rfl ?_
     obtain ⟨x90,h90,H⟩ := ax H
     have k90 := dp h90
     refine lN (rows2' := List.map ab ([x88] : Rq)) (rows' := List.map ab x90) tk rfl rfl rfl rfl rfl rfl rfl rfl rfl rfl rfl rfl rfl rfl (gc.refl _) (eL k90.1) (eG k90.2.1) (eK k90.2.2) fun g90=>?_
     refine cC rfl (bf (aR (bi 2 tk rfl ?_)))
     obtain rfl := ao H
     refine aL x90 g90 ⟨hl13,hg13⟩ (Gh.le (aa (aa (aa (aa (aa (aa (aa (aa (aa (aa (aa (aa (aH (PLe.q (aU (by omega))) al))))))))))))) ai (aA (aA (aA ah))))
    have hn13 := rMd (co h) hr13
    refine aQ rfl ?_
    refine aO s13 g13 hn13 (Gh.le (aa (aa (aa (aa (aa (aa (aa (aa (aa al))))))))) ai (aA (aA (aA ah))))
   have H := bo hn13 Hp13
   refine ec 18 rfl rfl rfl (af (am 2 tk rfl (cK tk (rows' := List.map (ak 53 ab) ([s13] : Rz)) (gc.refl _) ?_)))
   obtain ⟨x95,h95,H⟩ := ax H
   have k95 := dp h95
   refine dk (rows2' := List.map (ak 53 ab) ([s13] : Rz)) (rows' := List.map (ak 53 ab) x95) tk rfl rfl rfl rfl rfl rfl rfl rfl rfl rfl rfl rfl rfl (gc.refl _) (eL k95.1) (eG k95.2.1) (eK k95.2.2) fun g95=>?_
   refine aq tk rfl (ag (aR (bi 2 tk rfl ?_)))
   obtain rfl := ao H
   refine aL x95 g95 ⟨hl10,hg10⟩ (Gh.le (aa (aa (aa (aa (aa (aa (aa (aH (PLe.q (pu hz10 hl10)) al)))))))) ai (aA (aA ah)))
  have hn10 := rMd (natGe hz10 h) hr10
  refine aQ rfl ?_
  refine aO s10 g10 hn10 (Gh.le (aa al) ai (aA ah))
 have H := bo hn10 Hp10
 refine aw 2 tk rfl ?_
 obtain rfl := ao H
 refine ec 8 rfl rfl rfl ?_
 refine aB tk rfl (ps := [(.list 51 (s10.map (ak 53 ab)))]) ⟨_,_,rfl,rfl,rfl⟩ (PLe.q rfl)
def fM (a : Rq) (b : Rq) (c0 : LRun) (c1 : List LCol) (c2 : LQuery) : Option (Int) :=
 aj (dO c0 c1 a c2.exprs) fun x13 =>
 aj (dO c0 c1 b c2.exprs) fun x19 =>
 aj (eB x13 x19 c2.descending) fun x22 =>
 some x22
theorem qo (a : Rq) (b : Rq) (c0 : LRun) (c1 : List LCol) (c2 : LQuery) (r : Int) (H : fM a b c0 c1 c2 = some r) :
  aV Tryz.prog 175 [(.list 53 (a.map ab)),(.list 53 (b.map ab)),(.ptr (il c0)),(.ptr [(.list 50 (c1.map aG))]),(.ptr (bv c2))] (ae r) := by
 unfold fM at H
 refine PH.aC Tryz.func175 Tryz.ntmps175 ?_
 refine aw 1 tk rfl (ac (bj tk mok ⟨false,false,[]⟩ [0,1,2,3,4,6,7,8,9,10,12,13,5,11,14,15] rfl (by decide +kernel) rfl (aK 12 rfl ?_)))
 obtain ⟨x13,h13,H⟩ := ax H
 have s13 := jN c0 c1 a c2.exprs _ h13
 refine bg Tryz.call140 (iX.r) s13 ?_
 obtain ⟨x19,h19,H⟩ := ax H
 have s19 := jN c0 c1 b c2.exprs _ h19
 refine bg Tryz.call140 (iX.r) s19 ?_
 obtain ⟨x22,h22,H⟩ := ax H
 have s22 := lZ x13 x19 c2.descending _ h22
 refine bg Tryz.call72 (iX.r) s22 ?_
 refine cC rfl (bf ?_)
 obtain rfl := ao H
 refine aB tk rfl (ps := [(ae x22)]) ⟨_,_,rfl,rfl,rfl⟩ (PLe.q rfl)
def iH (sA : LSchema) : Option (Int) :=
 bn (
  cond (decide ((sA.tables.length : Int) > (6 : Int)))
   (true)
   (cond (decide ((sA.foreignKeys.length : Int) > (8 : Int)))
    (true)
    ((decide ((sA.constraints.length : Int) > (8 : Int)))))) fun (t1 : Bool) =>
 cond t1
  (some 2)
  (aj (ba (σ := Unit) (ρ := (Int)) (fun (j2 : Nat) (x2 : LTable) (_ : Unit) =>
   aj (fw x2) fun x37 =>
   cond (x37 != (0 : Int))
    (some (.ret x37))
    (cond (decide ((j2 : Int) > (0 : Int)))
     (aj (aF sA.tables (IntKind.i64.wrap ((j2 : Int) - (1 : Int)))) fun (x50 : LTable) =>
     cond (Op.bytesLess x2.name x50.name || x2.name == x50.name)
      (some (.ret 6))
      (some (.next ())))
     (some (.next ())))) 0 sA.tables ()) fun fl2=>fl2.thenR fun (_ : Unit) =>
  aj (ba (σ := Unit) (ρ := (Int)) (fun (j3 : Nat) (x3 : LForeignKey) (_ : Unit) =>
   aj (eR sA x3) fun x66 =>
   cond (x66 != (0 : Int))
    (some (.ret x66))
    (aj (mW sA.foreignKeys 0 (j3 : Int)) fun (x73 : List LForeignKey) =>
    aj (cu x73 (fun a0=>gk a0 x3)) fun x75 =>
    cond x75
     (some (.ret 5))
     (some (.next ())))) 0 sA.foreignKeys ()) fun fl3=>fl3.thenR fun (_ : Unit) =>
  aj (ba (σ := Unit) (ρ := (Int)) (fun (j4 : Nat) (x4 : LConstraint) (_ : Unit) =>
   aj (eS sA x4) fun x87 =>
   cond (x87 != (0 : Int))
    (some (.ret x87))
    (aj (mW sA.constraints 0 (j4 : Int)) fun (x94 : List LConstraint) =>
    aj (cD x94 x4) fun x96 =>
    cond x96
     (some (.ret 5))
     (some (.next ())))) 0 sA.constraints ()) fun fl4=>fl4.thenR fun (_ : Unit) =>
  some 0)
theorem qT (sA : LSchema) (r : Int) (H : iH sA = some r) :
  aV Tryz.prog 83 [(.agg (eh sA))] (ae r) := by
 unfold iH at H
 refine PH.aC Tryz.func83 Tryz.ntmps83 ?_
 refine ac (af (aT ?_))
 refine aq tk rfl (ag (ac (ac ?_)))
 obtain ⟨fl1,H1,Hp1⟩ := bJ H
 refine aZ (τ := Bool) (γ := Unit) (fun t1 g1=>⟨98,upd (upd (fun _=>.any) 27 (aE t1)) 1 (.ptr [(.list 91 (sA.tables.map bu)),(.list 142 (sA.foreignKeys.map cz)),(.list 148 (sA.constraints.map cG))]),fun _=>none,fun _=>none⟩) (fun t=>t = fl1) ?_ (fun t1 g1 hn1=>?_)
 ·have H := H1
  refine af (am 2 tk rfl (aM tk (zl _) ?_))
  refine am 2 tk rfl ?_
  refine bF rfl rfl rfl H (fun H=>?_) (fun H=>?_)
  ·refine am 11 tk rfl (ag ?_)
   subst H
   refine aO true () rfl (Gh.le (aa (aa al)) ai ah)
  refine am 2 tk rfl (aM tk (zl _) ?_)
  refine am 3 tk rfl ?_
  refine bF rfl rfl rfl H (fun H=>?_) (fun H=>?_)
  ·refine am 5 tk rfl (ag ?_)
   subst H
   refine aO true () rfl (Gh.le (aa (aa al)) ai ah)
  refine am 2 tk rfl (aM tk (zl _) ?_)
  refine am 2 tk rfl (ag ?_)
  subst H
  refine aO (decide ((sA.constraints.length : Int) > (8 : Int))) () rfl (Gh.le (aa (aa al)) ai ah)
 subst hn1
 have H := Hp1
 refine aP rfl H (fun H=>?_) (fun H=>?_)
 ·refine aw 1 tk rfl ?_
  obtain rfl := ao H
  refine aB tk rfl (ps := [(ae 2)]) ⟨_,_,rfl,rfl,rfl⟩ (PLe.q rfl)
 refine av (ac (ac (af (am 2 tk rfl (aM tk (zl _) ?_)))))
 refine aq tk rfl (ag ?_)
 obtain ⟨fl2,H2,Hp2⟩ := ax H
 refine bS tk 29 rfl rfl (fun hz2 _=>?_)
 rw [zl] at hz2
 refine aZ (τ := Unit) (γ := Unit) (fun s2 g2=>⟨98,upd (fun _=>.any) 1 (.ptr [(.list 91 (sA.tables.map bu)),(.list 142 (sA.foreignKeys.map cz)),(.list 148 (sA.constraints.map cG))]),fun _=>none,fun _=>none⟩) (fun t=>fl2 = .next t) ?_ (fun s2 g2 hn2=>?_)
 ·refine az ?_
  refine bA (fun j2 s2 g2=>⟨98,upd (upd (upd (upd (fun _=>.any) 31 (ae (j2 : Int))) 30 (ae (sA.tables.length : Int))) 29 (.list 91 (sA.tables.map bu))) 1 (.ptr [(.list 91 (sA.tables.map bu)),(.list 142 (sA.foreignKeys.map cz)),(.list 148 (sA.constraints.map cG))]),fun _=>none,fun _=>none⟩) () H2 (Gh.le (aa (aa (aa (aa al)))) ai ah) (fun j2 s2 g2 hj2 hr2=>?_)
  refine aw 1 tk rfl (ac ?_)
  refine aX rfl (fun h=>?_) (fun h=>?_)
  ·have hl2 := cn h
   obtain ⟨x2,fb2,hx2,H,hg2⟩ := rMc hl2 hr2
   refine av (ac (az (ac (af (aq tk rfl ?_)))))
   refine bs tk (zn j2) (bO (fun _=>rfl) hx2) ?_
   refine aq tk rfl ?_
   refine bt tk fun b4=>?_
   refine aq tk rfl (aD tk ?_)
   refine ag (ac (ac (af (aN tk ?_))))
   obtain ⟨x37,h37,H⟩ := ax H
   have s37 := oR x2 _ h37
   refine au Tryz.call98 (iX.r) s37 ?_
   refine aq tk rfl (ag (aw 2 tk rfl ?_))
   refine aP rfl H (fun H=>?_) (fun H=>?_)
   ·refine aw 2 tk rfl ?_
    obtain rfl := ao H
    have e2 : fl2 = .ret _ := hg2
    subst e2
    obtain rfl := bm Hp2
    refine aB tk rfl (ps := [(ae x37)]) ⟨_,_,rfl,rfl,rfl⟩ (PLe.q rfl)
   refine av (ac (bj tk mok ⟨true,false,[47,52]⟩ [0,1,2,3,4,5,6,7,8,9,10,11,12,13] rfl (by decide +kernel) rfl (aK 3 rfl ?_)))
   refine iq H (fun H=>?_) (fun H=>?_)
   ·refine cC rfl (cF ?_)
    refine aK 4 rfl ?_
    obtain ⟨x50,k50,H⟩ := aY H
    refine cg k50.1 (aI (fun _=>rfl) k50.2) ?_
    refine aK 4 rfl (bf ?_)
    refine aP rfl H (fun H=>?_) (fun H=>?_)
    ·refine aw 1 tk rfl ?_
     obtain rfl := ao H
     have e2 : fl2 = .ret _ := hg2
     subst e2
     obtain rfl := bm Hp2
     refine aB tk rfl (ps := [(ae 6)]) ⟨_,_,rfl,rfl,rfl⟩ (PLe.q rfl)
    refine av (aR (bi 2 tk rfl ?_))
    obtain rfl := ao H
    refine aL () () ⟨hl2,hg2⟩ (Gh.le (aa (aa (aa (aH (PLe.q (aU (by omega))) al)))) ai ah)
   refine aK 11 rfl (bf (bD rfl (av (aR (bi 2 tk rfl ?_)))))
   obtain rfl := ao H
   refine aL () () ⟨hl2,hg2⟩ (Gh.le (aa (aa (aa (aH (PLe.q (aU (by omega))) al)))) ai ah)
  have hn2 := rMd (co h) hr2
  refine aQ rfl ?_
  refine aO s2 g2 hn2 (Gh.le (aa al) ai ah)
 have H := ck hn2 Hp2
 refine ac (ac (af (am 2 tk rfl (aM tk (zl _) ?_))))
 refine aq tk rfl (ag ?_)
 obtain ⟨fl3,H3,Hp3⟩ := ax H
 refine bS tk 57 rfl rfl (fun hz3 _=>?_)
 rw [zl] at hz3
 refine aZ (τ := Unit) (γ := Unit) (fun s3 g3=>⟨98,upd (fun _=>.any) 1 (.ptr [(.list 91 (sA.tables.map bu)),(.list 142 (sA.foreignKeys.map cz)),(.list 148 (sA.constraints.map cG))]),fun _=>none,fun _=>none⟩) (fun t=>fl3 = .next t) ?_ (fun s3 g3 hn3=>?_)
 ·refine az ?_
  refine bA (fun j3 s3 g3=>⟨98,upd (upd (upd (upd (fun _=>.any) 59 (ae (j3 : Int))) 58 (ae (sA.foreignKeys.length : Int))) 57 (.list 142 (sA.foreignKeys.map cz))) 1 (.ptr [(.list 91 (sA.tables.map bu)),(.list 142 (sA.foreignKeys.map cz)),(.list 148 (sA.constraints.map cG))]),fun _=>none,fun _=>none⟩) () H3 (Gh.le (aa (aa (aa (aa al)))) ai ah) (fun j3 s3 g3 hj3 hr3=>?_)
  refine aw 1 tk rfl (ac ?_)
  refine aX rfl (fun h=>?_) (fun h=>?_)
  ·have hl3 := cn h
   obtain ⟨x3,fb3,hx3,H,hg3⟩ := rMc hl3 hr3
   refine av (ac (az (ac (af (aq tk rfl ?_)))))
   refine bs tk (zn j3) (bO (fun _=>rfl) hx3) ?_
   refine aq tk rfl ?_
   refine bt tk fun b7=>?_
   refine aq tk rfl (aD tk ?_)
   refine ag (ac (ac (af (aq tk rfl (aN tk ?_)))))
   obtain ⟨x66,h66,H⟩ := ax H
   have s66 := mM sA x3 _ h66
   refine au Tryz.call99 (iX.r) s66 ?_
   refine aq tk rfl (ag (aw 2 tk rfl ?_))
   refine aP rfl H (fun H=>?_) (fun H=>?_)
   ·refine aw 2 tk rfl ?_
    obtain rfl := ao H
    have e3 : fl3 = .ret _ := hg3
    subst e3
    obtain rfl := bm Hp3
    refine aB tk rfl (ps := [(ae x66)]) ⟨_,_,rfl,rfl,rfl⟩ (PLe.q rfl)
   refine av (ac (af (am 3 tk rfl ?_)))
   obtain ⟨x73,h73,H⟩ := ax H
   have k73 := ow h73
   refine rT tk rfl rfl rfl rfl rfl (zl _) rfl rfl k73.1 (px k73.2) rfl (cy (Gh.freezeB 7 rfl rfl rfl rfl) (aq tk rfl ?_))
   obtain ⟨x75,h75,H⟩ := ax H
   have s75 := iy x73 (fun a0=>gk a0 x3) Tryz.call101 (fun a0 r h=>qg a0 x3 r h) _ h75
   refine au Tryz.call100 (iX.r) s75 ?_
   refine ag ?_
   refine aP rfl H (fun H=>?_) (fun H=>?_)
   ·refine aw 1 tk rfl ?_
    obtain rfl := ao H
    have e3 : fl3 = .ret _ := hg3
    subst e3
    obtain rfl := bm Hp3
    refine aB tk rfl (ps := [(ae 5)]) ⟨_,_,rfl,rfl,rfl⟩ (PLe.q rfl)
   refine av (aR (bi 2 tk rfl ?_))
   obtain rfl := ao H
   refine aL () () ⟨hl3,hg3⟩ (Gh.le (aa (aa (aa (aH (PLe.q (aU (by omega))) al)))) ai ah)
  have hn3 := rMd (co h) hr3
  refine aQ rfl ?_
  refine aO s3 g3 hn3 (Gh.le (aa al) ai ah)
 have H := ck hn3 Hp3
 refine ac (ac (af (am 2 tk rfl (aM tk (zl _) ?_))))
 refine aq tk rfl (ag ?_)
 obtain ⟨fl4,H4,Hp4⟩ := ax H
 refine bS tk 78 rfl rfl (fun hz4 _=>?_)
 rw [zl] at hz4
 refine aZ (τ := Unit) (γ := Unit) (fun s4 g4=>⟨98,fun _=>.any,fun _=>none,fun _=>none⟩) (fun t=>fl4 = .next t) ?_ (fun s4 g4 hn4=>?_)
 ·refine az ?_
  refine bA (fun j4 s4 g4=>⟨98,upd (upd (upd (upd (fun _=>.any) 80 (ae (j4 : Int))) 79 (ae (sA.constraints.length : Int))) 78 (.list 148 (sA.constraints.map cG))) 1 (.ptr [(.list 91 (sA.tables.map bu)),(.list 142 (sA.foreignKeys.map cz)),(.list 148 (sA.constraints.map cG))]),fun _=>none,fun _=>none⟩) () H4 (Gh.le (aa (aa (aa (aa al)))) ai ah) (fun j4 s4 g4 hj4 hr4=>?_)
  refine aw 1 tk rfl (ac ?_)
  refine aX rfl (fun h=>?_) (fun h=>?_)
  ·have hl4 := cn h
   obtain ⟨x4,fb4,hx4,H,hg4⟩ := rMc hl4 hr4
   refine av (ac (az (ac (af (aq tk rfl ?_)))))
   refine bs tk (zn j4) (bO (fun _=>rfl) hx4) ?_
   refine aq tk rfl ?_
   refine bt tk fun b10=>?_
   refine aq tk rfl (aD tk ?_)
   refine ag (ac (ac (af (aq tk rfl (aN tk ?_)))))
   obtain ⟨x87,h87,H⟩ := ax H
   have s87 := mO sA x4 _ h87
   refine au Tryz.call103 (iX.r) s87 ?_
   refine aq tk rfl (ag (aw 2 tk rfl ?_))
   refine aP rfl H (fun H=>?_) (fun H=>?_)
   ·refine aw 2 tk rfl ?_
    obtain rfl := ao H
    have e4 : fl4 = .ret _ := hg4
    subst e4
    obtain rfl := bm Hp4
    refine aB tk rfl (ps := [(ae x87)]) ⟨_,_,rfl,rfl,rfl⟩ (PLe.q rfl)
   refine av (ac (bj tk mok ⟨true,false,[92]⟩ [0,1,2,3,4,5] rfl (by decide +kernel) rfl (aK 3 rfl ?_)))
   obtain ⟨x94,h94,H⟩ := ax H
   have k94 := ow h94
   refine Do.subL rfl rfl rfl rfl rfl rfl (zl _) rfl rfl k94.1 (px k94.2) rfl (cF ?_)
   obtain ⟨x96,h96,H⟩ := ax H
   have s96 := jd x94 x4 _ h96
   refine bg Tryz.call104 (iX.r) s96 ?_
   refine bf ?_
   refine aP rfl H (fun H=>?_) (fun H=>?_)
   ·refine aw 1 tk rfl ?_
    obtain rfl := ao H
    have e4 : fl4 = .ret _ := hg4
    subst e4
    obtain rfl := bm Hp4
    refine aB tk rfl (ps := [(ae 5)]) ⟨_,_,rfl,rfl,rfl⟩ (PLe.q rfl)
   refine av (aR (bi 2 tk rfl ?_))
   obtain rfl := ao H
   refine aL () () ⟨hl4,hg4⟩ (Gh.le (aa (aa (aa (aH (PLe.q (aU (by omega))) al)))) ai ah)
  have hn4 := rMd (co h) hr4
  refine aQ rfl ?_
  refine aO s4 g4 hn4 (Gh.le al ai ah)
 have H := ck hn4 Hp4
 refine aw 1 tk rfl ?_
 obtain rfl := ao H
 refine aB tk rfl (ps := [(ae 0)]) ⟨_,_,rfl,rfl,rfl⟩ (PLe.q rfl)
def de (x : Rz) (cmp : Rq → Rq → Option (Int)) : Option (Rz) :=
 aj (iv (IntKind.u64.wrap (x.length : Int))) fun x11 =>
 aj (gJ x 0 (x.length : Int) x11 cmp) fun x13 =>
 aj (cB (x13.length = x.length) ()) fun (_ : Unit) =>
 some x13
theorem iF (g_x : OwnRef) {g_cmp : FuncId} {caps_cmp : List PV} (x : Rz) (cmp : Rq → Rq → Option (Int)) (hg_cmp : ∀ (vs : Array Value) (w : World),(callFunc g_cmp vs).run Tryz.prog w = .ok (.enter g_cmp vs) w) (hp_cmp : ∀ a0 a1 r,cmp a0 a1 = some r → aV Tryz.prog g_cmp ((.list 53 (a0.map ab)) :: (.list 53 (a1.map ab)) :: caps_cmp) (ae r)) (r : Rz) (H : de x cmp = some r) :
  PH Tryz.prog 73 [(.own 0 g_x (x.map (ak 53 ab)).length),(.fn g_cmp caps_cmp)] ⟨fun _=>none,upd (fun _=>none) 0 (some ⟨g_x,51,(x.map (ak 53 ab)),true⟩)⟩ (fun u H=>u = (.tup []) ∧ H = ⟨fun _=>none,upd (fun _=>none) 0 (some ⟨g_x,51,(r.map (ak 53 ab)),true⟩)⟩) := by
 unfold de at H
 refine PH.aC Tryz.func73 Tryz.ntmps73 ?_
 refine ac (af (aq tk rfl (jG tk (zl _) ?_)))
 refine aq tk rfl (ag (af (am 4 tk rfl ?_)))
 obtain ⟨x11,h11,H⟩ := ax H
 have s11 := oq (IntKind.u64.wrap (x.length : Int)) _ h11
 refine au Tryz.call93 (iX.r) s11 ?_
 refine aq tk rfl ?_
 obtain ⟨x13,h13,H⟩ := ax H
 have s13 := lz g_x x 0 (x.length : Int) x11 cmp hg_cmp hp_cmp _ h13
 obtain ⟨_,q13_0,H⟩ := ax H
 have l13_0 := (bB q13_0).1
 have z13_0 : (List.map (ak 53 ab) x).length = (List.map (ak 53 ab) x13).length := by simpa using (l13_0).symm
 refine bZ (g := 92) rfl rfl rfl Tryz.call92 [] [(0,0)] rfl rfl rfl rfl (iX.of2 (ir.cons (mV.own rfl) (ir.cons (mV.of_eq rfl) (ir.cons (mV.of_eq rfl) (ir.cons (mV.of_eq rfl) (ir.cons (mV.of_eq rfl) ir.nil)))))) (by rw [bQ,bH,bP]; rfl) s13 ?_
 rintro u13 H13h ⟨rfl,rfl⟩
 refine ⟨_,rfl,?_⟩
 refine cy (st' := ⟨_,_,fun _=>none,upd (fun _=>none) 0 (some ⟨g_x,51,(x13.map (ak 53 ab)),true⟩)⟩) (Gh.le (bM _ _) ai (aA ah)) ?_
 refine ag ?_
 obtain rfl := ao H
 refine dG (st' := ⟨14,fun _=>.any,fun _=>none,upd (fun _=>none) 0 (some ⟨g_x,51,(x13.map (ak 53 ab)),true⟩)⟩) (Gh.le al ai (aA ah)) ?_
 refine iG rfl (PLe.q rfl) ⟨rfl,rfl⟩
def eW (rec90 : LChecker → LQuery → Option ((List LCol) × Int)) (c : LChecker) (q : LQuery) : Option ((List LCol) × Int) :=
 aj (ke q) fun x16 =>
 cond (!x16)
  (some ([],3))
  (aj (ba (σ := List (List LCol)) (ρ := ((List LCol) × Int)) (fun (_ : Nat) (x1 : LQuery) (s1 : List (List LCol)) =>
   aj (rec90 c x1) fun x28 =>
   cond (x28.2 != (0 : Int))
    (some (.ret ([],x28.2)))
    (aj (dW 24 s1 ([x28.1] : List (List LCol))) fun (x37 : List (List LCol)) =>
    some (.next x37))) 0 q.inputs []) fun fl1=>fl1.thenR fun (s1 : List (List LCol)) =>
  aj (gX c q s1) fun x43 =>
  cond (x43.2 != (0 : Int))
   (some ([],x43.2))
   (cond (decide ((x43.1.length : Int) > (20 : Int)))
    (some ([],2))
    (aj (ba (σ := Unit) (ρ := ((List LCol) × Int)) (fun (j2 : Nat) (x2 : LCol) (_ : Unit) =>
     aj (mW x43.1 0 (j2 : Int)) fun (x61 : List LCol) =>
     aj (cw x61 (fun a0=>some (cE a0 x2))) fun x63 =>
     cond x63
      (some (.ret ([],23)))
      (some (.next ()))) 0 x43.1 ()) fun fl2=>fl2.thenR fun (_ : Unit) =>
    some (x43.1,0))))
theorem nU (rec90 : LChecker → LQuery → Option ((List LCol) × Int)) (hrec90 : ∀ a0 a1 r,rec90 a0 a1 = some r → aV Tryz.prog 90 [(.agg (js a0)),(.agg (bv a1))] (.tup [(.list 50 (r.1.map aG)),(ae r.2)])) (c : LChecker) (q : LQuery) (r : (List LCol) × Int) (H : eW rec90 c q = some r) :
  aV Tryz.prog 90 [(.agg (js c)),(.agg (bv q))] (.tup [(.list 50 (r.1.map aG)),(ae r.2)]) := by
 unfold eW at H
 refine PH.aC Tryz.func90 Tryz.ntmps90 ?_
 refine ac (af (aT ?_))
 refine aT ?_
 refine am 2 tk rfl (ag (ac (ac (af (aq tk rfl ?_)))))
 obtain ⟨x16,h16,H⟩ := ax H
 have s16 := W_query_shape q _ h16
 refine au Tryz.call110 (iX.r) s16 ?_
 refine aq tk rfl (ag ?_)
 refine aP rfl H (fun H=>?_) (fun H=>?_)
 ·refine aw 2 tk rfl ?_
  obtain rfl := ao H
  refine aB tk rfl (ps := [(.val (.slice none 0 0)),(ae 3)]) ⟨_,_,rfl,rfl,_,_,rfl,rfl,rfl⟩ (PLe.of2 (mV.tup (ir.cons (mV.nil tk rfl) (ir.cons (mV.of_eq rfl) ir.nil))))
 refine av (aw 1 tk rfl (ac (ac (af (am 2 tk rfl (aM tk (zl _) ?_))))))
 refine aq tk rfl (ag ?_)
 obtain ⟨fl1,H1,Hp1⟩ := ax H
 refine bS tk 19 rfl rfl (fun hz1 _=>?_)
 rw [zl] at hz1
 refine aZ (τ := List (List LCol)) (γ := OwnRef) (fun s1 g1=>⟨66,upd (upd (upd (fun _=>.any) 6 (.own 37 g1 (s1.map (ak 50 aG)).length)) 3 (.ptr [(ae q.kind),(.str q.table),(.list 9 (q.names.map cl)),(.list 56 (q.exprs.map bd)),(.list 66 (q.aggregates.map cj)),(.list 4 (q.descending.map cA)),(ae q.count),(ae q.offset),(.list 35 (q.inputs.map aW))])) 2 (.ptr [(.list 91 (c.s.tables.map bu)),(.list 142 (c.s.foreignKeys.map cz)),(.list 148 (c.s.constraints.map cG)),(.list 50 (c.vars.map aG))]),fun _=>none,upd (fun _=>none) 37 (some ⟨g1,39,(s1.map (ak 50 aG)),true⟩)⟩) (fun t=>fl1 = .next t) ?_ (fun s1 g1 hn1=>?_)
 ·refine az (iW tk 6 37 (e := 39) rfl rfl ?_)
  refine bA (fun j1 s1 g1=>⟨66,upd (upd (upd (upd (upd (upd (fun _=>.any) 21 (ae (j1 : Int))) 20 (ae (q.inputs.length : Int))) 19 (.list 35 (q.inputs.map aW))) 6 (.own 37 g1 (s1.map (ak 50 aG)).length)) 3 (.ptr [(ae q.kind),(.str q.table),(.list 9 (q.names.map cl)),(.list 56 (q.exprs.map bd)),(.list 66 (q.aggregates.map cj)),(.list 4 (q.descending.map cA)),(ae q.count),(ae q.offset),(.list 35 (q.inputs.map aW))])) 2 (.ptr [(.list 91 (c.s.tables.map bu)),(.list 142 (c.s.foreignKeys.map cz)),(.list 148 (c.s.constraints.map cG)),(.list 50 (c.vars.map aG))]),fun _=>none,upd (fun _=>none) 37 (some ⟨g1,39,(s1.map (ak 50 aG)),true⟩)⟩) (⟨none,0⟩) H1 (Gh.le (aa (aa (aa (aa (aa (aa al)))))) ai (aA ah)) (fun j1 s1 g1 hj1 hr1=>?_)
  refine aw 1 tk rfl (ac ?_)
  refine aX rfl (fun h=>?_) (fun h=>?_)
  ·have hl1 := cn h
   obtain ⟨x1,fb1,hx1,H,hg1⟩ := rMc hl1 hr1
   refine av (ac (az (ac (af (bs tk (zn j1) (bO cv hx1) ?_)))))
   refine aq tk rfl ?_
   refine bt tk fun b8=>?_
   refine aD tk ?_
   refine ag (ac (af (aq tk rfl (aN tk ?_))))
   obtain ⟨x28,h28,H⟩ := ax H
   have s28 := hrec90 c x1 _ h28
   refine au Tryz.call90 (iX.r) s28 ?_
   refine am 5 tk rfl (ag (ac (aw 2 tk rfl ?_)))
   refine aP rfl H (fun H=>?_) (fun H=>?_)
   ·refine aw 3 tk rfl ?_
    obtain rfl := ao H
    have e1 : fl1 = .ret _ := hg1
    subst e1
    obtain rfl := bm Hp1
    refine aB tk rfl (ps := [(.val (.slice none 0 0)),(ae x28.2)]) ⟨_,_,rfl,rfl,_,_,rfl,rfl,rfl⟩ (PLe.of2 (mV.tup (ir.cons (mV.nil tk rfl) (ir.cons (mV.of_eq rfl) ir.nil))))
   refine av (af (am 2 tk rfl (cK tk (rows' := List.map (ak 50 aG) ([x28.1] : List (List LCol))) (gc.refl _) ?_)))
   obtain ⟨x37,h37,H⟩ := ax H
   have k37 := dp h37
   refine dk (rows2' := List.map (ak 50 aG) ([x28.1] : List (List LCol))) (rows' := List.map (ak 50 aG) x37) tk rfl rfl rfl rfl rfl rfl rfl rfl rfl rfl rfl rfl rfl (gc.refl _) (eL k37.1) (eG k37.2.1) (eK k37.2.2) fun g37=>?_
   refine aq tk rfl (ag (aR (bi 2 tk rfl ?_)))
   obtain rfl := ao H
   refine aL x37 g37 ⟨hl1,hg1⟩ (Gh.le (aa (aa (aa (aa (aa (aH (PLe.q (aU (by omega))) al)))))) ai (aA ah))
  have hn1 := rMd (co h) hr1
  refine aQ rfl ?_
  refine aO s1 g1 hn1 (Gh.le (aa (aa (aa al))) ai (aA ah))
 have H := ck hn1 Hp1
 refine ac (ec 6 rfl rfl rfl (af (am 3 tk rfl ?_)))
 obtain ⟨x43,h43,H⟩ := ax H
 have s43 := qj c q s1 _ h43
 refine au Tryz.call111 (iX.r) s43 ?_
 refine am 5 tk rfl (ag (ac (aw 2 tk rfl ?_)))
 refine aP rfl H (fun H=>?_) (fun H=>?_)
 ·refine aw 3 tk rfl ?_
  obtain rfl := ao H
  refine aB tk rfl (ps := [(.val (.slice none 0 0)),(ae x43.2)]) ⟨_,_,rfl,rfl,_,_,rfl,rfl,rfl⟩ (PLe.of2 (mV.tup (ir.cons (mV.nil tk rfl) (ir.cons (mV.of_eq rfl) ir.nil))))
 refine av (ac (ac (af (aq tk rfl (aM tk (zl _) ?_)))))
 refine aq tk rfl (ag ?_)
 refine aP rfl H (fun H=>?_) (fun H=>?_)
 ·refine aw 2 tk rfl ?_
  obtain rfl := ao H
  refine aB tk rfl (ps := [(.val (.slice none 0 0)),(ae 2)]) ⟨_,_,rfl,rfl,_,_,rfl,rfl,rfl⟩ (PLe.of2 (mV.tup (ir.cons (mV.nil tk rfl) (ir.cons (mV.of_eq rfl) ir.nil))))
 refine av (ac (ac (af (aq tk rfl (aM tk (zl _) ?_)))))
 refine aq tk rfl (ag ?_)
 obtain ⟨fl2,H2,Hp2⟩ := ax H
 refine bS tk 52 rfl rfl (fun hz2 _=>?_)
 rw [zl] at hz2
 refine aZ (τ := Unit) (γ := Unit) (fun s2 g2=>⟨66,upd (fun _=>.any) 11 (.list 50 (x43.1.map aG)),fun _=>none,fun _=>none⟩) (fun t=>fl2 = .next t) ?_ (fun s2 g2 hn2=>?_)
 ·refine az ?_
  refine bA (fun j2 s2 g2=>⟨66,upd (upd (upd (upd (fun _=>.any) 54 (ae (j2 : Int))) 53 (ae (x43.1.length : Int))) 52 (.list 50 (x43.1.map aG))) 11 (.list 50 (x43.1.map aG)),fun _=>none,fun _=>none⟩) () H2 (Gh.le (aa (aa (aa (aa al)))) ai ah) (fun j2 s2 g2 hj2 hr2=>?_)
  refine aw 1 tk rfl (ac ?_)
  refine aX rfl (fun h=>?_) (fun h=>?_)
  ·have hl2 := cn h
   obtain ⟨x2,fb2,hx2,H,hg2⟩ := rMc hl2 hr2
   refine av (ac (az (ac (af (aq tk rfl ?_)))))
   refine bs tk (zn j2) (bO (fun _=>rfl) hx2) ?_
   refine aq tk rfl ?_
   refine bt tk fun b14=>?_
   refine aq tk rfl (aD tk ?_)
   refine ag (ac (af (am 2 tk rfl ?_)))
   obtain ⟨x61,h61,H⟩ := ax H
   have k61 := ow h61
   refine rT tk rfl rfl rfl rfl rfl (zl _) rfl rfl k61.1 (px k61.2) rfl (cy (Gh.freezeB 14 rfl rfl rfl rfl) (aq tk rfl ?_))
   obtain ⟨x63,h63,H⟩ := ax H
   have s63 := jE x61 (fun a0=>some (cE a0 x2)) Tryz.call113 (fun a0 r h=>(ao h) ▸ nq a0 x2) _ h63
   refine au Tryz.call112 (iX.r) s63 ?_
   refine ag ?_
   refine aP rfl H (fun H=>?_) (fun H=>?_)
   ·refine aw 2 tk rfl ?_
    obtain rfl := ao H
    have e2 : fl2 = .ret _ := hg2
    subst e2
    obtain rfl := bm Hp2
    refine aB tk rfl (ps := [(.val (.slice none 0 0)),(ae 23)]) ⟨_,_,rfl,rfl,_,_,rfl,rfl,rfl⟩ (PLe.of2 (mV.tup (ir.cons (mV.nil tk rfl) (ir.cons (mV.of_eq rfl) ir.nil))))
   refine av (aR (bi 2 tk rfl ?_))
   obtain rfl := ao H
   refine aL () () ⟨hl2,hg2⟩ (Gh.le (aa (aa (aa (aH (PLe.q (aU (by omega))) al)))) ai ah)
  have hn2 := rMd (co h) hr2
  refine aQ rfl ?_
  refine aO s2 g2 hn2 (Gh.le (aa al) ai ah)
 have H := ck hn2 Hp2
 refine aw 3 tk rfl ?_
 obtain rfl := ao H
 refine aB tk rfl (ps := [(.list 50 (x43.1.map aG)),(ae 0)]) ⟨_,_,rfl,rfl,_,_,rfl,rfl,rfl⟩ (PLe.q rfl)
def eX : Nat → LChecker → LQuery → Option ((List LCol) × Int)
 | 0,_,_=>none
 | n + 1,v0,v1=>eW (fun b0 b1=>eX n b0 b1) v0 v1
theorem nH  (n : Nat) : (∀ a0 a1 r,eX n a0 a1 = some r → aV Tryz.prog 90 [(.agg (js a0)),(.agg (bv a1))] (.tup [(.list 50 (r.1.map aG)),(ae r.2)])) := by
 induction n with
 | zero=>exact (by intros; rename_i h; exact absurd (show (none : Option _) = some _ from h) (by simp))
 | succ n ih =>
  exact (fun v0 v1 r h=>nU (fun b0 b1=>eX n b0 b1) ih v0 v1  r h)
def eV (c : LChecker) (q : LQuery) : Option ((List LCol) × Int) := iK fun n=>eX n c q
theorem kQ (c : LChecker) (q : LQuery) (r : (List LCol) × Int) (H : eV c q = some r) :
  aV Tryz.prog 90 [(.agg (js c)),(.agg (bv q))] (.tup [(.list 50 (r.1.map aG)),(ae r.2)]) := by
 obtain ⟨n,h⟩ := jv H
 exact (nH  n) c q r h
def fL (rA : LRun) (q : LQuery) (cols : List LCol) (inA : Rz) : Option (Rz) :=
 aj (db inA (fun a0 a1=>fM a0 a1 rA cols q)) fun x14 =>
 aj (cB (x14.length = inA.length) ()) fun (_ : Unit) =>
 some x14
theorem rD (rA : LRun) (q : LQuery) (cols : List LCol) (inA : Rz) (r : Rz) (H : fL rA q cols inA = some r) :
  aV Tryz.prog 142 [(.agg (il rA)),(.agg (bv q)),(.list 50 (cols.map aG)),(.list 51 (inA.map (ak 53 ab)))] (.list 51 (r.map (ak 53 ab))) := by
 unfold fL at H
 refine PH.aC Tryz.func142 Tryz.ntmps142 ?_
 refine ac (af (aT ?_))
 refine aT ?_
 refine aT ?_
 refine aq tk rfl (ag (ac (af (aq tk rfl ?_))))
 have s11 := mt (m := 11) inA
 refine li (g := 21) rfl rfl rfl Tryz.call21 (iX.r) rfl rfl s11 (fun g11=>?_)
 refine aq tk rfl (ag (ac (af (am 2 tk rfl ?_))))
 obtain ⟨x14,h14,H⟩ := ax H
 have s14 := jV g11 inA (fun a0 a1=>fM a0 a1 rA cols q) Tryz.call175 (fun a0 a1 r h=>qo a0 a1 rA cols q r h) _ h14
 obtain ⟨_,q14_0,H⟩ := ax H
 have l14_0 := (bB q14_0).1
 have z14_0 : (List.map (ak 53 ab) inA).length = (List.map (ak 53 ab) x14).length := by simpa using (l14_0).symm
 refine bZ (g := 174) rfl rfl rfl Tryz.call174 [] [(11,0)] rfl rfl rfl rfl (iX.of2 (ir.cons (mV.own rfl) (ir.cons (mV.of_eq rfl) ir.nil))) (by rw [bQ,bH,bP]; rfl) s14 ?_
 rintro u14 H14h ⟨rfl,rfl⟩
 refine ⟨_,rfl,?_⟩
 refine cy (st' := ⟨_,_,fun _=>none,upd (fun _=>none) 11 (some ⟨g11,51,(x14.map (ak 53 ab)),true⟩)⟩) (Gh.le (bM _ _) ai (aA ah)) ?_
 refine ag (aw 2 tk rfl ?_)
 obtain rfl := ao H
 refine ec 8 rfl rfl z14_0 ?_
 refine aB tk rfl (ps := [(.list 51 (x14.map (ak 53 ab)))]) ⟨_,_,rfl,rfl,rfl⟩ (PLe.q rfl)
def jg (a : LResult) (b : LResult) : Option (Bool) :=
 cond ((a.rows.length : Int) != (b.rows.length : Int))
  (some false)
  (aj (de a.rows (fun a0 a1=>eT a0 a1)) fun x23 =>
  aj (cB (x23.length = a.rows.length) ()) fun (_ : Unit) =>
  aj (de b.rows (fun a0 a1=>eT a0 a1)) fun x26 =>
  aj (cB (x26.length = b.rows.length) ()) fun (_ : Unit) =>
  aj (cQ x23 x26 (fun a0 a1=>im a0 a1)) fun x29 =>
  some x29)
theorem rF (a : LResult) (b : LResult) (r : Bool) (H : jg a b = some r) :
  aV Tryz.prog 42 [(.agg (mH a)),(.agg (mH b))] (aE r) := by
 unfold jg at H
 refine PH.aC Tryz.func42 Tryz.ntmps42 ?_
 refine ac (af (aT ?_))
 refine aT ?_
 refine aq tk rfl (ag (ac (ac (af (am 2 tk rfl (aM tk (zl _) ?_))))))
 refine am 2 tk rfl (aM tk (zl _) ?_)
 refine aq tk rfl (ag ?_)
 refine aP rfl H (fun H=>?_) (fun H=>?_)
 ·refine aw 1 tk rfl ?_
  obtain rfl := ao H
  refine aB tk rfl (ps := [(aE false)]) ⟨_,_,rfl,rfl,rfl⟩ (PLe.q rfl)
 refine av (aw 1 tk rfl (ac (bj tk mok ⟨false,false,[]⟩ [0,1,3,4,2,5,6,7] rfl (by decide +kernel) rfl (aK 4 rfl ?_))))
 have s17 := mt (m := 17) a.rows
 refine pH (g := 21) rfl rfl rfl rfl Tryz.call21 (iX.r) rfl rfl s17 (fun g17=>?_)
 have s20 := mt (m := 20) b.rows
 refine pH (g := 21) rfl rfl rfl rfl Tryz.call21 (iX.r) rfl rfl s20 (fun g20=>?_)
 refine aK 2 rfl (bf (ac (af (am 2 tk rfl ?_))))
 obtain ⟨x23,h23,H⟩ := ax H
 have s23 := iF g17 a.rows (fun a0 a1=>eT a0 a1) Tryz.call71 (fun a0 a1 r h=>mI a0 a1 r h) _ h23
 obtain ⟨_,q23_0,H⟩ := ax H
 have l23_0 := (bB q23_0).1
 have z23_0 : (List.map (ak 53 ab) a.rows).length = (List.map (ak 53 ab) x23).length := by simpa using (l23_0).symm
 refine bZ (g := 73) rfl rfl rfl Tryz.call73 [] [(17,0)] rfl rfl rfl rfl (iX.of2 (ir.cons (mV.own rfl) (ir.cons (mV.of_eq rfl) ir.nil))) (by rw [bQ,bH,bP]; rfl) s23 ?_
 rintro u23 H23h ⟨rfl,rfl⟩
 refine ⟨_,rfl,?_⟩
 refine cy (st' := ⟨_,_,fun _=>none,upd (upd (fun _=>none) 20 (some ⟨g20,51,(b.rows.map (ak 53 ab)),true⟩)) 17 (some ⟨g17,51,(x23.map (ak 53 ab)),true⟩)⟩) (Gh.le (bM _ _) ai (aA (aA ah))) ?_
 refine ag (ac (af (am 2 tk rfl ?_)))
 obtain ⟨x26,h26,H⟩ := ax H
 have s26 := iF g20 b.rows (fun a0 a1=>eT a0 a1) Tryz.call71 (fun a0 a1 r h=>mI a0 a1 r h) _ h26
 obtain ⟨_,q26_0,H⟩ := ax H
 have l26_0 := (bB q26_0).1
 have z26_0 : (List.map (ak 53 ab) b.rows).length = (List.map (ak 53 ab) x26).length := by simpa using (l26_0).symm
 refine bZ (g := 73) rfl rfl rfl Tryz.call73 [] [(20,0)] rfl rfl rfl rfl (iX.of2 (ir.cons (mV.own rfl) (ir.cons (mV.of_eq rfl) ir.nil))) (by rw [bQ,bH,bP]; rfl) s26 ?_
 rintro u26 H26h ⟨rfl,rfl⟩
 refine ⟨_,rfl,?_⟩
 refine cy (st' := ⟨_,_,fun _=>none,upd (upd (fun _=>none) 20 (some ⟨g20,51,(x26.map (ak 53 ab)),true⟩)) 17 (some ⟨g17,51,(x23.map (ak 53 ab)),true⟩)⟩) (Gh.le (bM _ _) ai (aA (aA ah))) ?_
 refine ag (ac (ec 6 rfl rfl z23_0 (ec 7 rfl rfl z26_0 (af (am 2 tk rfl ?_)))))
 obtain ⟨x29,h29,H⟩ := ax H
 have s29 := iC x23 x26 (fun a0 a1=>im a0 a1) Tryz.call74 (fun a0 a1 r h=>qC a0 a1 r h) _ h29
 refine au Tryz.call56 (iX.r) s29 ?_
 refine aq tk rfl (ag ?_)
 obtain rfl := ao H
 refine aB tk rfl (ps := [(aE x29)]) ⟨_,_,rfl,rfl,rfl⟩ (PLe.q rfl)
def gp (sA : LSchema) (vars : List LCol) (q : LQuery) : Option ((List LCol) × Int) :=
 aj (
  aj (jk q) fun x12 =>
  cond (decide ((x12.length : Int) > (24 : Int)))
   (some true)
   (aj (kg q) fun x17 =>
   cond (decide (x17 > (12 : Int)))
    (some true)
    (aj (gd q) fun x22 =>
    some (decide (x22 > (20000 : Int)))))) fun (t1 : Bool) =>
 cond t1
  (some ([],2))
  (aj (fq q) fun x27 =>
  cond (x27.2 != (0 : Int))
   (some ([],x27.2))
   (aj (eV (LChecker.mk sA vars) q) fun x38 =>
   some (x38.1,x38.2)))
theorem lY (sA : LSchema) (vars : List LCol) (q : LQuery) (r : (List LCol) × Int) (H : gp sA vars q = some r) :
  aV Tryz.prog 54 [(.agg (eh sA)),(.list 50 (vars.map aG)),(.agg (bv q))] (.tup [(.list 50 (r.1.map aG)),(ae r.2)]) := by
 unfold gp at H
 refine PH.aC Tryz.func54 Tryz.ntmps54 ?_
 refine ac (af (aT ?_))
 refine aT ?_
 refine am 2 tk rfl (ag (ac (ac ?_)))
 obtain ⟨fl1,H1,Hp1⟩ := ax H
 refine aZ (τ := Bool) (γ := Unit) (fun t1 g1=>⟨41,upd (upd (upd (upd (fun _=>.any) 24 (aE t1)) 5 (.ptr [(ae q.kind),(.str q.table),(.list 9 (q.names.map cl)),(.list 56 (q.exprs.map bd)),(.list 66 (q.aggregates.map cj)),(.list 4 (q.descending.map cA)),(ae q.count),(ae q.offset),(.list 35 (q.inputs.map aW))])) 3 (.ptr [(.list 91 (sA.tables.map bu)),(.list 142 (sA.foreignKeys.map cz)),(.list 148 (sA.constraints.map cG))])) 1 (.list 50 (vars.map aG)),fun _=>none,fun _=>none⟩) (fun t=>t = fl1) ?_ (fun t1 g1 hn1=>?_)
 ·have H := H1
  refine af (aq tk rfl ?_)
  obtain ⟨x12,h12,H⟩ := ax H
  have s12 := qa (m := 12) q _ h12
  refine au Tryz.call76 (iX.r) (PFun.jH s12) ?_
  refine aM tk (zl _) ?_
  refine am 2 tk rfl ?_
  refine bF rfl rfl rfl H (fun H=>?_) (fun H=>?_)
  ·refine am 9 tk rfl (ag ?_)
   obtain rfl := ao H
   refine aO true () rfl (Gh.le (aa (aa (aa (aa al)))) ai ah)
  refine aq tk rfl ?_
  obtain ⟨x17,h17,H⟩ := ax H
  have s17 := W_query_depth q _ h17
  refine au Tryz.call88 (iX.r) s17 ?_
  refine am 3 tk rfl ?_
  refine bF rfl rfl rfl H (fun H=>?_) (fun H=>?_)
  ·refine am 4 tk rfl (ag ?_)
   obtain rfl := ao H
   refine aO true () rfl (Gh.le (aa (aa (aa (aa al)))) ai ah)
  refine aq tk rfl ?_
  obtain ⟨x22,h22,H⟩ := ax H
  have s22 := mN q _ h22
  refine au Tryz.call89 (iX.r) s22 ?_
  refine am 2 tk rfl (ag ?_)
  obtain rfl := ao H
  refine aO (decide (x22 > (20000 : Int))) () rfl (Gh.le (aa (aa (aa (aa al)))) ai ah)
 subst hn1
 have H := Hp1
 refine aP rfl H (fun H=>?_) (fun H=>?_)
 ·refine aw 2 tk rfl ?_
  obtain rfl := ao H
  refine aB tk rfl (ps := [(.val (.slice none 0 0)),(ae 2)]) ⟨_,_,rfl,rfl,_,_,rfl,rfl,rfl⟩ (PLe.of2 (mV.tup (ir.cons (mV.nil tk rfl) (ir.cons (mV.of_eq rfl) ir.nil))))
 refine av (ac (ac (af (aq tk rfl ?_))))
 obtain ⟨x27,h27,H⟩ := ax H
 have s27 := kX q _ h27
 refine au Tryz.call87 (iX.r) s27 ?_
 refine am 5 tk rfl (ag (aw 2 tk rfl ?_))
 refine aP rfl H (fun H=>?_) (fun H=>?_)
 ·refine aw 3 tk rfl ?_
  obtain rfl := ao H
  refine aB tk rfl (ps := [(.val (.slice none 0 0)),(ae x27.2)]) ⟨_,_,rfl,rfl,_,_,rfl,rfl,rfl⟩ (PLe.of2 (mV.tup (ir.cons (mV.nil tk rfl) (ir.cons (mV.of_eq rfl) ir.nil))))
 refine av (ac (af (am 3 tk rfl ?_)))
 refine bt tk fun b10=>?_
 refine aD tk ?_
 refine ag (ac (af (aN tk ?_)))
 refine aq tk rfl ?_
 obtain ⟨x38,h38,H⟩ := ax H
 have s38 := kQ (LChecker.mk sA vars) q _ h38
 refine au Tryz.call90 (iX.r) s38 ?_
 refine am 4 tk rfl (ag ?_)
 obtain rfl := ao H
 refine aB tk rfl (ps := [(.list 50 (x38.1.map aG)),(ae x38.2)]) ⟨_,_,rfl,rfl,_,_,rfl,rfl,rfl⟩ (PLe.q rfl)
def gw (rA : LRun) (q : LQuery) : Option ((List LCol)) :=
 aj (eV (LChecker.mk rA.s rA.vars) q) fun x14 =>
 some x14.1
theorem lr (rA : LRun) (q : LQuery) (r : (List LCol)) (H : gw rA q = some r) :
  aV Tryz.prog 134 [(.agg (il rA)),(.agg (bv q))] (.list 50 (r.map aG)) := by
 unfold gw at H
 refine PH.aC Tryz.func134 Tryz.ntmps134 ?_
 refine ac (af (aT ?_))
 refine aT ?_
 refine aq tk rfl (ag (ac (af (am 6 tk rfl ?_))))
 obtain ⟨x14,h14,H⟩ := ax H
 have s14 := kQ (LChecker.mk rA.s rA.vars) q _ h14
 refine au Tryz.call90 (iX.r) s14 ?_
 refine am 5 tk rfl (ag (aw 2 tk rfl ?_))
 obtain rfl := ao H
 refine aB tk rfl (ps := [(.list 50 (x14.1.map aG))]) ⟨_,_,rfl,rfl,rfl⟩ (PLe.q rfl)
def jZ (rec97 : LRun → LQuery → Option (Rz)) (rec132 : LRun → LQuery → Option (Rz)) (rA : LRun) (q : LQuery) : Option (Rz) :=
 cond (q.kind == (1 : Int))
  (aj (ba (σ := Unit) (ρ := (Rz)) (fun (_ : Nat) (x1 : LRelation) (_ : Unit) =>
   cond (x1.table == q.table)
    (some (.ret x1.rows))
    (some (.next ()))) 0 rA.st ()) fun fl1=>fl1.thenR fun (_ : Unit) =>
  some [])
  (bn (
   cond (q.kind == (4 : Int))
    ((q.kind == (4 : Int)))
    ((q.kind == (5 : Int)))) fun (t2 : Bool) =>
  cond t2
   (aj (rec132 rA q) fun x37 =>
   some x37)
   (cond (q.kind == (6 : Int))
    (aj (aF q.inputs 0) fun (x43 : LQuery) =>
    aj (aF q.inputs 1) fun (x50 : LQuery) =>
    aj (rec97 rA x43) fun x45 =>
    aj (rec97 rA x50) fun x52 =>
    aj (dW 24 x45 x52) fun (x53 : Rz) =>
    some x53)
    (cond (q.kind == (7 : Int))
     (aj (aF q.inputs 0) fun (x59 : LQuery) =>
     aj (aF q.inputs 1) fun (x65 : LQuery) =>
     aj (rec97 rA x59) fun x61 =>
     aj (rec97 rA x65) fun x67 =>
     aj (kD x61 x67) fun x68 =>
     some x68)
     (aj (aF q.inputs 0) fun (x72 : LQuery) =>
     aj (rec97 rA x72) fun x74 =>
     aj (aF q.inputs 0) fun (x78 : LQuery) =>
     aj (gw rA x78) fun x80 =>
     cond (q.kind == (2 : Int))
      (aj (dC x74 (fun a0=>io a0 rA x80 q)) fun x88 =>
      some x88)
      (cond (q.kind == (3 : Int))
       (aj (ba (σ := Rz) (ρ := Empty) (fun (_ : Nat) (x3 : Rq) (s3 : Rz) =>
        aj (dO rA x80 x3 q.exprs) fun x103 =>
        aj (dW 24 s3 ([x103] : Rz)) fun (x105 : Rz) =>
        some (.next x105)) 0 x74 []) fun fl3=>fl3.thenP fun (s3 : Rz) =>
       some s3)
       (cond (q.kind == (8 : Int))
        (aj (iI rA q x80 x74) fun x114 =>
        some x114)
        (cond (q.kind == (9 : Int))
         (aj (fL rA q x80 x74) fun x121 =>
         some x121)
         (aj (mW x74 (if (x74.length : Int) < q.offset then (x74.length : Int) else q.offset) (IntKind.i64.wrap ((if (x74.length : Int) < q.offset then (x74.length : Int) else q.offset) + (if (IntKind.i64.wrap ((x74.length : Int) - (if (x74.length : Int) < q.offset then (x74.length : Int) else q.offset))) < q.count then (IntKind.i64.wrap ((x74.length : Int) - (if (x74.length : Int) < q.offset then (x74.length : Int) else q.offset))) else q.count)))) fun (x138 : Rz) =>
         some x138))))))))
theorem qS (rec97 : LRun → LQuery → Option (Rz)) (rec132 : LRun → LQuery → Option (Rz)) (hrec97 : ∀ a0 a1 r,rec97 a0 a1 = some r → aV Tryz.prog 97 [(.agg (il a0)),(.agg (bv a1))] (.list 51 (r.map (ak 53 ab)))) (hrec132 : ∀ a0 a1 r,rec132 a0 a1 = some r → aV Tryz.prog 132 [(.agg (il a0)),(.agg (bv a1))] (.list 51 (r.map (ak 53 ab)))) (rA : LRun) (q : LQuery) (r : Rz) (H : jZ rec97 rec132 rA q = some r) :
  aV Tryz.prog 97 [(.agg (il rA)),(.agg (bv q))] (.list 51 (r.map (ak 53 ab))) := by
 unfold jZ at H
 refine PH.aC Tryz.func97 Tryz.ntmps97 ?_
 refine ac (af (aT ?_))
 refine aT ?_
 refine aq tk rfl (ag (ac (aw 2 tk rfl (az (aw 2 tk rfl ?_)))))
 refine aP rfl H (fun H=>?_) (fun H=>?_)
 ·refine ac (ac (af (am 2 tk rfl (aM tk (zl _) ?_))))
  refine aq tk rfl (ag ?_)
  obtain ⟨fl1,H1,Hp1⟩ := ax H
  refine bS tk 18 rfl rfl (fun hz1 _=>?_)
  rw [zl] at hz1
  refine aZ (τ := Unit) (γ := Unit) (fun s1 g1=>⟨139,fun _=>.any,fun _=>none,fun _=>none⟩) (fun t=>fl1 = .next t) ?_ (fun s1 g1 hn1=>?_)
  ·refine az ?_
   refine bA (fun j1 s1 g1=>⟨139,upd (upd (upd (upd (fun _=>.any) 20 (ae (j1 : Int))) 19 (ae (rA.st.length : Int))) 18 (.list 87 (rA.st.map bV))) 3 (.ptr [(ae q.kind),(.str q.table),(.list 9 (q.names.map cl)),(.list 56 (q.exprs.map bd)),(.list 66 (q.aggregates.map cj)),(.list 4 (q.descending.map cA)),(ae q.count),(ae q.offset),(.list 35 (q.inputs.map aW))]),fun _=>none,fun _=>none⟩) () H1 (Gh.le (aa (aa (aa (aa al)))) ai ah) (fun j1 s1 g1 hj1 hr1=>?_)
   refine aw 1 tk rfl (ac ?_)
   refine aX rfl (fun h=>?_) (fun h=>?_)
   ·have hl1 := cn h
    obtain ⟨x1,fb1,hx1,H,hg1⟩ := rMc hl1 hr1
    refine av (ac (az (ac (af ?_))))
    refine bs tk (zn j1) (bO (fun _=>rfl) hx1) ?_
    refine aq tk rfl ?_
    refine bt tk fun b6=>?_
    refine aD tk ?_
    refine ag (ac (af (aq tk rfl (aN tk ?_))))
    refine am 3 tk rfl (ag ?_)
    refine aP rfl H (fun H=>?_) (fun H=>?_)
    ·refine ac (af (aq tk rfl (aN tk ?_)))
     refine aq tk rfl (ag ?_)
     obtain rfl := ao H
     have e1 : fl1 = .ret _ := hg1
     subst e1
     obtain rfl := bm Hp1
     refine aB tk rfl (ps := [(.list 51 (x1.rows.map (ak 53 ab)))]) ⟨_,_,rfl,rfl,rfl⟩ (PLe.q rfl)
    refine av (aR (bi 2 tk rfl ?_))
    obtain rfl := ao H
    refine aL () () ⟨hl1,hg1⟩ (Gh.le (aa (aa (aa (aH (PLe.q (aU (by omega))) al)))) ai ah)
   have hn1 := rMd (co h) hr1
   refine aQ rfl ?_
   refine aO s1 g1 hn1 (Gh.le al ai ah)
  have H := ck hn1 Hp1
  refine aw 1 tk rfl ?_
  obtain rfl := ao H
  refine aB tk rfl (ps := [(.val (.slice none 0 0))]) ⟨_,_,rfl,rfl,rfl⟩ (PLe.of2 (mV.nil tk rfl))
 refine ac (aw 2 tk rfl ?_)
 obtain ⟨fl2,H2,Hp2⟩ := bJ H
 refine aZ (τ := Bool) (γ := Unit) (fun t2 g2=>⟨139,upd (upd (upd (upd (fun _=>.any) 32 (aE t2)) 14 (ae q.kind)) 3 (.ptr [(ae q.kind),(.str q.table),(.list 9 (q.names.map cl)),(.list 56 (q.exprs.map bd)),(.list 66 (q.aggregates.map cj)),(.list 4 (q.descending.map cA)),(ae q.count),(ae q.offset),(.list 35 (q.inputs.map aW))])) 2 (.ptr [(.list 91 (rA.s.tables.map bu)),(.list 142 (rA.s.foreignKeys.map cz)),(.list 148 (rA.s.constraints.map cG)),(.list 87 (rA.st.map bV)),(.list 53 (rA.args.map ab)),(.list 50 (rA.vars.map aG)),(.list 9 (rA.names.map cl)),(.list 53 (rA.vals.map ab))]),fun _=>none,fun _=>none⟩) (fun t=>t = fl2) ?_ (fun t2 g2 hn2=>?_)
 ·have H := H2
  refine aP rfl H (fun H=>?_) (fun H=>?_)
  ·refine av ?_
   subst H
   refine aO (q.kind == (4 : Int)) () rfl (Gh.le (aa (aa (aa (aa al)))) ai ah)
  refine bi 2 tk rfl ?_
  subst H
  refine aO (q.kind == (5 : Int)) () rfl (Gh.le (aa (aa (aa (aa al)))) ai ah)
 subst hn2
 have H := Hp2
 refine aP rfl H (fun H=>?_) (fun H=>?_)
 ·refine ac (af (am 2 tk rfl ?_))
  obtain ⟨x37,h37,H⟩ := ax H
  have s37 := hrec132 rA q _ h37
  refine au Tryz.call132 (iX.r) s37 ?_
  refine aq tk rfl (ag ?_)
  obtain rfl := ao H
  refine aB tk rfl (ps := [(.list 51 (x37.map (ak 53 ab)))]) ⟨_,_,rfl,rfl,rfl⟩ (PLe.q rfl)
 refine aw 2 tk rfl ?_
 refine aP rfl H (fun H=>?_) (fun H=>?_)
 ·refine ac (bj tk mok ⟨false,false,[]⟩ [0,1,2,3,4,7,8,9,10,11,5,6,12,13,14] rfl (by decide +kernel) rfl (aK 3 rfl ?_))
  obtain ⟨x43,k43,H⟩ := aY H
  refine cg k43.1 (aI cv k43.2) ?_
  refine aK 4 rfl ?_
  obtain ⟨x50,k50,H⟩ := aY H
  refine cg k50.1 (aI cv k50.2) ?_
  refine cC rfl ?_
  obtain ⟨x45,h45,H⟩ := ax H
  have s45 := hrec97 rA x43 _ h45
  refine bg Tryz.call97 (iX.r) s45 ?_
  have s46 := mt (m := 46) x45
  refine pH (g := 21) rfl rfl rfl rfl Tryz.call21 (iX.r) rfl rfl s46 (fun g46=>?_)
  obtain ⟨x52,h52,H⟩ := ax H
  have s52 := hrec97 rA x50 _ h52
  refine bg Tryz.call97 (iX.r) s52 ?_
  obtain ⟨x53,h53,H⟩ := ax H
  have k53 := dp h53
  refine lN (rows2' := List.map (ak 53 ab) x52) (rows' := List.map (ak 53 ab) x53) tk rfl rfl rfl rfl rfl rfl rfl rfl rfl rfl rfl rfl rfl rfl (gc.refl _) (eL k53.1) (eG k53.2.1) (eK k53.2.2) fun g53=>?_
  refine cC rfl (bf ?_)
  obtain rfl := ao H
  refine ec 4 rfl rfl rfl ?_
  refine aB tk rfl (ps := [(.list 51 (x53.map (ak 53 ab)))]) ⟨_,_,rfl,rfl,rfl⟩ (PLe.q rfl)
 refine aw 2 tk rfl ?_
 refine aP rfl H (fun H=>?_) (fun H=>?_)
 ·refine ac (bj tk mok ⟨false,false,[]⟩ [0,1,2,3,4,6,7,8,9,10,5,11,12,13] rfl (by decide +kernel) rfl (aK 3 rfl ?_))
  obtain ⟨x59,k59,H⟩ := aY H
  refine cg k59.1 (aI cv k59.2) ?_
  refine aK 4 rfl ?_
  obtain ⟨x65,k65,H⟩ := aY H
  refine cg k65.1 (aI cv k65.2) ?_
  refine cC rfl ?_
  obtain ⟨x61,h61,H⟩ := ax H
  have s61 := hrec97 rA x59 _ h61
  refine bg Tryz.call97 (iX.r) s61 ?_
  obtain ⟨x67,h67,H⟩ := ax H
  have s67 := hrec97 rA x65 _ h67
  refine bg Tryz.call97 (iX.r) s67 ?_
  obtain ⟨x68,h68,H⟩ := ax H
  have s68 := W_query_less x61 x67 _ h68
  refine bg Tryz.call133 (iX.r) s68 ?_
  refine cC rfl (bf ?_)
  obtain rfl := ao H
  refine aB tk rfl (ps := [(.list 51 (x68.map (ak 53 ab)))]) ⟨_,_,rfl,rfl,rfl⟩ (PLe.q rfl)
 refine av (aR (ac (bj tk mok ⟨false,false,[]⟩ [0,1,2,3,4,5,6] rfl (by decide +kernel) rfl (aK 3 rfl ?_))))
 obtain ⟨x72,k72,H⟩ := aY H
 refine cg k72.1 (aI cv k72.2) ?_
 refine cC rfl ?_
 obtain ⟨x74,h74,H⟩ := ax H
 have s74 := hrec97 rA x72 _ h74
 refine bg Tryz.call97 (iX.r) s74 ?_
 refine cC rfl (bf (ac (bj tk mok ⟨false,false,[]⟩ [0,1,2,3,4,5,6,7] rfl (by decide +kernel) rfl (aK 3 rfl ?_))))
 obtain ⟨x78,k78,H⟩ := aY H
 refine cg k78.1 (aI cv k78.2) ?_
 refine cC rfl ?_
 obtain ⟨x80,h80,H⟩ := ax H
 have s80 := lr rA x78 _ h80
 refine bg Tryz.call134 (iX.r) s80 ?_
 refine pM rfl rfl rfl rfl rfl rfl rfl rfl fun b8=>?_
 refine dX ?_
 refine bf (ac (aw 2 tk rfl (az (aw 2 tk rfl ?_))))
 refine aP rfl H (fun H=>?_) (fun H=>?_)
 ·refine ac (af (aq tk rfl ?_))
  have s86 := mt (m := 86) x74
  refine li (g := 21) rfl rfl rfl Tryz.call21 (iX.r) rfl rfl s86 (fun g86=>?_)
  refine cy (Gh.freezeB 8 rfl rfl rfl rfl) (aq tk rfl ?_)
  obtain ⟨x88,h88,H⟩ := ax H
  have s88 := kE g86 x74 (fun a0=>io a0 rA x80 q) Tryz.call136 (fun a0 r h=>qH a0 rA x80 q r h) _ h88
  refine bZ (g := 135) rfl rfl rfl Tryz.call135 [] [(86,0)] rfl rfl rfl rfl (iX.of2 (ir.cons (mV.own rfl) (ir.cons (mV.of_eq rfl) ir.nil))) (by rw [bQ,bH,bP]; rfl) s88 ?_
  rintro u88 H88h ⟨rfl,rfl⟩
  refine ⟨_,rfl,?_⟩
  refine cy (st' := ⟨_,_,fun _=>none,upd (fun _=>none) 86 (some ⟨g86,51,(x88.map (ak 53 ab)),true⟩)⟩) (Gh.le (bM _ _) ai (aA ah)) ?_
  refine lw 88 (q := (.own 86 g86 (x88.map (ak 53 ab)).length)) rfl (PLe.of2 (mV.own rfl)) (aq tk rfl (ag ?_))
  obtain rfl := ao H
  refine ec 4 rfl rfl rfl ?_
  refine aB tk rfl (ps := [(.list 51 (x88.map (ak 53 ab)))]) ⟨_,_,rfl,rfl,rfl⟩ (PLe.q rfl)
 refine aw 2 tk rfl ?_
 refine aP rfl H (fun H=>?_) (fun H=>?_)
 ·refine aw 1 tk rfl (ac (ac (af (aq tk rfl (aM tk (zl _) ?_)))))
  refine aq tk rfl (ag ?_)
  obtain ⟨fl3,H3,Hp3⟩ := ax H
  refine bS tk 91 rfl rfl (fun hz3 _=>?_)
  rw [zl] at hz3
  refine aZ (τ := Rz) (γ := OwnRef) (fun s3 g3=>⟨139,upd (fun _=>.any) 9 (.own 105 g3 (s3.map (ak 53 ab)).length),fun _=>none,upd (fun _=>none) 105 (some ⟨g3,51,(s3.map (ak 53 ab)),true⟩)⟩) (fun t=>fl3 = .next t) ?_ (fun s3 g3 hn3=>?_)
  ·refine az (iW tk 9 105 (e := 51) rfl rfl ?_)
   refine bA (fun j3 s3 g3=>⟨139,upd (upd (upd (upd (upd (upd (upd (fun _=>.any) 93 (ae (j3 : Int))) 92 (ae (x74.length : Int))) 91 (.list 51 (x74.map (ak 53 ab)))) 9 (.own 105 g3 (s3.map (ak 53 ab)).length)) 8 (.box 8 b8 0)) 3 (.ptr [(ae q.kind),(.str q.table),(.list 9 (q.names.map cl)),(.list 56 (q.exprs.map bd)),(.list 66 (q.aggregates.map cj)),(.list 4 (q.descending.map cA)),(ae q.count),(ae q.offset),(.list 35 (q.inputs.map aW))])) 2 (.ptr [(.list 91 (rA.s.tables.map bu)),(.list 142 (rA.s.foreignKeys.map cz)),(.list 148 (rA.s.constraints.map cG)),(.list 87 (rA.st.map bV)),(.list 53 (rA.args.map ab)),(.list 50 (rA.vars.map aG)),(.list 9 (rA.names.map cl)),(.list 53 (rA.vals.map ab))]),upd (fun _=>none) 8 (some ⟨b8,[(.list 50 (x80.map aG))]⟩),upd (fun _=>none) 105 (some ⟨g3,51,(s3.map (ak 53 ab)),true⟩)⟩) (⟨none,0⟩) H3 (Gh.le (aa (aa (aa (aa (aa (aa (aa al))))))) (ay rfl (iX.r) ai) (aA ah)) (fun j3 s3 g3 hj3 hr3=>?_)
   refine aw 1 tk rfl (ac ?_)
   refine aX rfl (fun h=>?_) (fun h=>?_)
   ·have hl3 := cn h
    obtain ⟨x3,fb3,hx3,H,hg3⟩ := rMc hl3 hr3
    refine av (ac (az (ac (af ?_))))
    refine bs tk (zn j3) (bO (fun _=>rfl) hx3) ?_
    refine am 2 tk rfl (ag (af (am 2 tk rfl (aN tk ?_))))
    refine am 3 tk rfl ?_
    obtain ⟨x103,h103,H⟩ := ax H
    have s103 := jN rA x80 x3 q.exprs _ h103
    refine au Tryz.call140 (iX.r) s103 ?_
    refine cK tk (rows' := List.map (ak 53 ab) ([x103] : Rz)) (gc.refl _) ?_
    obtain ⟨x105,h105,H⟩ := ax H
    have k105 := dp h105
    refine dk (rows2' := List.map (ak 53 ab) ([x103] : Rz)) (rows' := List.map (ak 53 ab) x105) tk rfl rfl rfl rfl rfl rfl rfl rfl rfl rfl rfl rfl rfl (gc.refl _) (eL k105.1) (eG k105.2.1) (eK k105.2.2) fun g105=>?_
    refine aq tk rfl (ag (aR (bi 2 tk rfl ?_)))
    obtain rfl := ao H
    refine aL x105 g105 ⟨hl3,hg3⟩ (Gh.le (aa (aa (aa (aa (aa (aa (aH (PLe.q (aU (by omega))) al))))))) (ay rfl (iX.r) ai) (aA ah))
   have hn3 := rMd (co h) hr3
   refine aQ rfl ?_
   refine aO s3 g3 hn3 (Gh.le (aa al) ai (aA ah))
  have H := bo hn3 Hp3
  refine aw 2 tk rfl ?_
  obtain rfl := ao H
  refine ec 4 rfl rfl rfl ?_
  refine aB tk rfl (ps := [(.list 51 (s3.map (ak 53 ab)))]) ⟨_,_,rfl,rfl,rfl⟩ (PLe.q rfl)
 refine aw 2 tk rfl ?_
 refine aP rfl H (fun H=>?_) (fun H=>?_)
 ·refine ac (af (am 2 tk rfl (aN tk ?_)))
  refine aq tk rfl ?_
  obtain ⟨x114,h114,H⟩ := ax H
  have s114 := rc rA q x80 x74 _ h114
  refine au Tryz.call141 (iX.r) s114 ?_
  refine aq tk rfl (ag ?_)
  obtain rfl := ao H
  refine aB tk rfl (ps := [(.list 51 (x114.map (ak 53 ab)))]) ⟨_,_,rfl,rfl,rfl⟩ (PLe.q rfl)
 refine aw 2 tk rfl ?_
 refine aP rfl H (fun H=>?_) (fun H=>?_)
 ·refine ac (af (am 2 tk rfl (aN tk ?_)))
  refine aq tk rfl ?_
  obtain ⟨x121,h121,H⟩ := ax H
  have s121 := rD rA q x80 x74 _ h121
  refine au Tryz.call142 (iX.r) s121 ?_
  refine aq tk rfl (ag ?_)
  obtain rfl := ao H
  refine aB tk rfl (ps := [(.list 51 (x121.map (ak 53 ab)))]) ⟨_,_,rfl,rfl,rfl⟩ (PLe.q rfl)
 refine av (aR (ac (af (am 3 tk rfl (aM tk (zl _) ?_)))))
 refine am 2 tk rfl (ag (ac (af (am 6 tk rfl (aM tk (zl _) ?_)))))
 refine am 4 tk rfl ?_
 obtain ⟨x138,h138,H⟩ := ax H
 have k138 := ow h138
 refine rT tk rfl rfl rfl rfl rfl (zl _) rfl rfl k138.1 (px k138.2) rfl (aq tk rfl (ag ?_))
 obtain rfl := ao H
 refine aB tk rfl (ps := [(.list 51 (x138.map (ak 53 ab)))]) ⟨_,_,rfl,rfl,rfl⟩ (PLe.q rfl)
def jb (rec97 : LRun → LQuery → Option (Rz)) (_rec132 : LRun → LQuery → Option (Rz)) (rA : LRun) (q : LQuery) : Option (Rz) :=
 aj (aF q.inputs 0) fun (x19 : LQuery) =>
 aj (aF q.inputs 1) fun (x25 : LQuery) =>
 aj (rec97 rA x19) fun x21 =>
 aj (rec97 rA x25) fun x27 =>
 aj (aF q.inputs 1) fun (x31 : LQuery) =>
 aj (gw rA x31) fun x33 =>
 aj (aF q.inputs 0) fun (x37 : LQuery) =>
 aj (gw rA x37) fun x39 =>
 aj (dW 32 x39 x33) fun (x42 : List LCol) =>
 aj (ba (σ := List LCol × Rz) (ρ := Empty) (fun (_ : Nat) (x1 : Rq) (s1 : List LCol × Rz) =>
  aj (ba (σ := Rz × Bool) (ρ := Empty) (fun (_ : Nat) (x6 : Rq) (s6 : Rz × Bool) =>
   aj (cp ([x1,x6] : Rz)) fun x58 =>
   aj (aF q.exprs 0) fun (x65 : LExpr) =>
   bn (bI rA s1.1 x58) fun x62 =>
   bn (dd x62 x65) fun x67 =>
   bn (kM x67) fun x68 =>
   cond x68
    (aj (dW 24 s6.1 ([x58] : Rz)) fun (x72 : Rz) =>
    some (.next (x72,true)))
    (some (.next (s6.1,s6.2)))) 0 x27 (s1.2,false)) fun fl6=>fl6.thenP fun (s6 : Rz × Bool) =>
  bn (
   cond (!s6.2)
    ((q.kind == (5 : Int)))
    (false)) fun (t7 : Bool) =>
  cond t7
   (aj (ou 32 (x33.length : Int)) fun (_ : Unit) =>
   aj (cp ([x1,(List.replicate (x33.length : Int).toNat (LVal.mk 0 0 []))] : Rz)) fun x87 =>
   aj (dW 24 s6.1 ([x87] : Rz)) fun (x89 : Rz) =>
   some (.next (s1.1,x89)))
   (some (.next (s1.1,s6.1)))) 0 x21 (x42,[])) fun fl1=>fl1.thenP fun (s1 : List LCol × Rz) =>
 some s1.2
theorem qX (rec97 : LRun → LQuery → Option (Rz)) (rec132 : LRun → LQuery → Option (Rz)) (hrec97 : ∀ a0 a1 r,rec97 a0 a1 = some r → aV Tryz.prog 97 [(.agg (il a0)),(.agg (bv a1))] (.list 51 (r.map (ak 53 ab)))) (_hrec132 : ∀ a0 a1 r,rec132 a0 a1 = some r → aV Tryz.prog 132 [(.agg (il a0)),(.agg (bv a1))] (.list 51 (r.map (ak 53 ab)))) (rA : LRun) (q : LQuery) (r : Rz) (H : jb rec97 rec132 rA q = some r) :
  aV Tryz.prog 132 [(.agg (il rA)),(.agg (bv q))] (.list 51 (r.map (ak 53 ab))) := by
 unfold jb at H
 refine PH.aC Tryz.func132 Tryz.ntmps132 ?_
 refine ac (af (aT ?_))
 refine aT ?_
 refine aq tk rfl (ag (ac (bj tk mok ⟨false,false,[]⟩ [0,1,2,3,4,6,7,8,9,10,5,11,12,13] rfl (by decide +kernel) rfl (aK 3 rfl ?_))))
 obtain ⟨x19,k19,H⟩ := aY H
 refine cg k19.1 (aI cv k19.2) ?_
 refine aK 4 rfl ?_
 obtain ⟨x25,k25,H⟩ := aY H
 refine cg k25.1 (aI cv k25.2) ?_
 refine cC rfl ?_
 obtain ⟨x21,h21,H⟩ := ax H
 have s21 := hrec97 rA x19 _ h21
 refine bg Tryz.call97 (iX.r) s21 ?_
 obtain ⟨x27,h27,H⟩ := ax H
 have s27 := hrec97 rA x25 _ h27
 refine bg Tryz.call97 (iX.r) s27 ?_
 refine aK 2 rfl (bf (ac (bj tk mok ⟨false,false,[]⟩ [0,1,2,3,4,5,6] rfl (by decide +kernel) rfl (aK 3 rfl ?_))))
 obtain ⟨x31,k31,H⟩ := aY H
 refine cg k31.1 (aI cv k31.2) ?_
 refine cC rfl ?_
 obtain ⟨x33,h33,H⟩ := ax H
 have s33 := lr rA x31 _ h33
 refine bg Tryz.call134 (iX.r) s33 ?_
 refine cC rfl (bf (ac (bj tk mok ⟨false,false,[]⟩ [0,1,2,3,4,7,5,6,8,9] rfl (by decide +kernel) rfl (aK 3 rfl ?_))))
 obtain ⟨x37,k37,H⟩ := aY H
 refine cg k37.1 (aI cv k37.2) ?_
 refine aK 2 rfl ?_
 obtain ⟨x39,h39,H⟩ := ax H
 have s39 := lr rA x37 _ h39
 refine bg Tryz.call134 (iX.r) s39 ?_
 have s40 := ot (m := 40) x39
 refine pH (g := 155) rfl rfl rfl rfl Tryz.call155 (iX.r) rfl rfl s40 (fun g40=>?_)
 obtain ⟨x42,h42,H⟩ := ax H
 have k42 := dp h42
 refine lN (rows2' := List.map aG x33) (rows' := List.map aG x42) tk rfl rfl rfl rfl rfl rfl rfl rfl rfl rfl rfl rfl rfl rfl (gc.refl _) (eL k42.1) (eG k42.2.1) (eK k42.2.2) fun g42=>?_
 refine cC rfl (bf (aw 1 tk rfl (ac (ac (af (aq tk rfl (aM tk (zl _) ?_)))))))
 refine aq tk rfl (ag ?_)
 obtain ⟨fl1,H1,Hp1⟩ := ax H
 refine bS tk 43 rfl rfl (fun hz1 _=>?_)
 rw [zl] at hz1
 refine aZ (τ := List LCol × Rz) (γ := OwnRef) (fun s1 g1=>⟨92,upd (fun _=>.any) 9 (.own 72 g1 (s1.2.map (ak 53 ab)).length),fun _=>none,upd (fun _=>none) 72 (some ⟨g1,51,(s1.2.map (ak 53 ab)),true⟩)⟩) (fun t=>fl1 = .next t) ?_ (fun s1 g1 hn1=>?_)
 ·refine az (ec 8 rfl rfl rfl (iW tk 9 72 (e := 51) rfl rfl ?_))
  refine bA (fun j1 s1 g1=>⟨92,upd (upd (upd (upd (upd (upd (upd (upd (upd (fun _=>.any) 45 (ae (j1 : Int))) 44 (ae (x21.length : Int))) 43 (.list 51 (x21.map (ak 53 ab)))) 9 (.own 72 g1 (s1.2.map (ak 53 ab)).length)) 8 (.list 50 (s1.1.map aG))) 7 (.list 50 (x33.map aG))) 6 (.list 51 (x27.map (ak 53 ab)))) 3 (.ptr [(ae q.kind),(.str q.table),(.list 9 (q.names.map cl)),(.list 56 (q.exprs.map bd)),(.list 66 (q.aggregates.map cj)),(.list 4 (q.descending.map cA)),(ae q.count),(ae q.offset),(.list 35 (q.inputs.map aW))])) 2 (.ptr [(.list 91 (rA.s.tables.map bu)),(.list 142 (rA.s.foreignKeys.map cz)),(.list 148 (rA.s.constraints.map cG)),(.list 87 (rA.st.map bV)),(.list 53 (rA.args.map ab)),(.list 50 (rA.vars.map aG)),(.list 9 (rA.names.map cl)),(.list 53 (rA.vals.map ab))]),fun _=>none,upd (fun _=>none) 72 (some ⟨g1,51,(s1.2.map (ak 53 ab)),true⟩)⟩) (⟨none,0⟩) H1 (Gh.le (aa (aa (aa (aa (aa (aa (aa (aa (aa al))))))))) ai (aA ah)) (fun j1 s1 g1 hj1 hr1=>?_)
  refine aw 1 tk rfl (ac ?_)
  refine aX rfl (fun h=>?_) (fun h=>?_)
  ·have hl1 := cn h
   obtain ⟨x1,fb1,hx1,H,hg1⟩ := rMc hl1 hr1
   refine av (ac (az (ac (af ?_))))
   refine bs tk (zn j1) (bO (fun _=>rfl) hx1) ?_
   refine am 2 tk rfl (ag (aw 1 tk rfl (ac (ac (af (aq tk rfl (aM tk (zl _) ?_)))))))
   refine aq tk rfl (ag ?_)
   obtain ⟨fl6,H6,Hp6⟩ := ax H
   refine bS tk 49 rfl rfl (fun hz6 _=>?_)
   rw [zl] at hz6
   refine aZ (τ := Rz × Bool) (γ := OwnRef) (fun s6 g6=>⟨92,upd (upd (upd (upd (upd (upd (upd (upd (upd (upd (upd (fun _=>.any) 45 (ae (j1 : Int))) 44 (ae (x21.length : Int))) 43 (.list 51 (x21.map (ak 53 ab)))) 12 (aE s6.2)) 11 (.list 53 (x1.map ab))) 9 (.own 72 g6 (s6.1.map (ak 53 ab)).length)) 8 (.list 50 (s1.1.map aG))) 7 (.list 50 (x33.map aG))) 6 (.list 51 (x27.map (ak 53 ab)))) 3 (.ptr [(ae q.kind),(.str q.table),(.list 9 (q.names.map cl)),(.list 56 (q.exprs.map bd)),(.list 66 (q.aggregates.map cj)),(.list 4 (q.descending.map cA)),(ae q.count),(ae q.offset),(.list 35 (q.inputs.map aW))])) 2 (.ptr [(.list 91 (rA.s.tables.map bu)),(.list 142 (rA.s.foreignKeys.map cz)),(.list 148 (rA.s.constraints.map cG)),(.list 87 (rA.st.map bV)),(.list 53 (rA.args.map ab)),(.list 50 (rA.vars.map aG)),(.list 9 (rA.names.map cl)),(.list 53 (rA.vals.map ab))]),fun _=>none,upd (fun _=>none) 72 (some ⟨g6,51,(s6.1.map (ak 53 ab)),true⟩)⟩) (fun t=>fl6 = .next t) ?_ (fun s6 g6 hn6=>?_)
   ·refine az ?_
    refine bA (fun j6 s6 g6=>⟨92,upd (upd (upd (upd (upd (upd (upd (upd (upd (upd (upd (upd (upd (upd (fun _=>.any) 51 (ae (j6 : Int))) 50 (ae (x27.length : Int))) 49 (.list 51 (x27.map (ak 53 ab)))) 45 (ae (j1 : Int))) 44 (ae (x21.length : Int))) 43 (.list 51 (x21.map (ak 53 ab)))) 12 (aE s6.2)) 11 (.list 53 (x1.map ab))) 9 (.own 72 g6 (s6.1.map (ak 53 ab)).length)) 8 (.list 50 (s1.1.map aG))) 7 (.list 50 (x33.map aG))) 6 (.list 51 (x27.map (ak 53 ab)))) 3 (.ptr [(ae q.kind),(.str q.table),(.list 9 (q.names.map cl)),(.list 56 (q.exprs.map bd)),(.list 66 (q.aggregates.map cj)),(.list 4 (q.descending.map cA)),(ae q.count),(ae q.offset),(.list 35 (q.inputs.map aW))])) 2 (.ptr [(.list 91 (rA.s.tables.map bu)),(.list 142 (rA.s.foreignKeys.map cz)),(.list 148 (rA.s.constraints.map cG)),(.list 87 (rA.st.map bV)),(.list 53 (rA.args.map ab)),(.list 50 (rA.vars.map aG)),(.list 9 (rA.names.map cl)),(.list 53 (rA.vals.map ab))]),fun _=>none,upd (fun _=>none) 72 (some ⟨g6,51,(s6.1.map (ak 53 ab)),true⟩)⟩) g1 H6 (Gh.le (aa (aa (aa (aa (aa (aa (aa (aa (aa (aa (aa (aa (aa (aa al)))))))))))))) ai (aA ah)) (fun j6 s6 g6 hj6 hr6=>?_)
    refine aw 1 tk rfl (ac ?_)
    refine aX rfl (fun h=>?_) (fun h=>?_)
    ·have hl6 := cn h
     obtain ⟨x6,fb6,hx6,H,hg6⟩ := rMc hl6 hr6
     refine av (ac (az (ac (af ?_))))
     refine bs tk (zn j6) (bO (fun _=>rfl) hx6) ?_
     refine am 2 tk rfl (ag (ac (af (am 2 tk rfl (cK tk (rows' := List.map (ak 53 ab) ([x1,x6] : Rz)) (gc.refl _) ?_)))))
     obtain ⟨x58,h58,H⟩ := ax H
     have s58 := iN (m := 58) ([x1,x6] : Rz) _ h58
     refine au Tryz.call168 (iX.r) (PFun.jH s58) ?_
     refine aq tk rfl (ag (ac (bj tk mok ⟨false,false,[]⟩ [0,1,2,4,5,6,7,3,8,9] rfl (by decide +kernel) rfl (aK 5 rfl ?_))))
     obtain ⟨x65,k65,H⟩ := aY H
     refine cg k65.1 (aI eC k65.2) ?_
     refine cC rfl ?_
     obtain ⟨x62,h62,H⟩ := bJ H
     have s62 := kq rA s1.1 x58
     rw [h62] at s62
     refine bg Tryz.call139 (iX.r) s62 ?_
     obtain ⟨x67,h67,H⟩ := bJ H
     have s67 := mD x62 x65
     rw [h67] at s67
     refine bg Tryz.call138 (iX.r) s67 ?_
     obtain ⟨x68,h68,H⟩ := bJ H
     have s68 := isTS x67
     rw [h68] at s68
     refine bg Tryz.call137 (iX.r) s68 ?_
     refine bf ?_
     refine aP rfl H (fun H=>?_) (fun H=>?_)
     ·refine ac (af (am 2 tk rfl (cK tk (rows' := List.map (ak 53 ab) ([x58] : Rz)) (gc.refl _) ?_)))
      obtain ⟨x72,h72,H⟩ := ax H
      have k72 := dp h72
      refine dk (rows2' := List.map (ak 53 ab) ([x58] : Rz)) (rows' := List.map (ak 53 ab) x72) tk rfl rfl rfl rfl rfl rfl rfl rfl rfl rfl rfl rfl rfl (gc.refl _) (eL k72.1) (eG k72.2.1) (eK k72.2.2) fun g72=>?_
      refine aq tk rfl (ag (bi 1 tk rfl (aR (bi 2 tk rfl ?_))))
      obtain rfl := ao H
      refine aL (x72,true) g72 ⟨hl6,hg6⟩ (Gh.le (aa (aa (aa (aa (aa (aa (aa (aa (aa (aa (aa (aa (aa (aH (PLe.q (aU (by omega))) al)))))))))))))) ai (aA ah))
     refine av (aR (bi 2 tk rfl ?_))
     obtain rfl := ao H
     refine aL (s6.1,s6.2) g6 ⟨hl6,hg6⟩ (Gh.le (aa (aa (aa (aa (aa (aa (aa (aa (aa (aa (aa (aa (aa (aH (PLe.q (aU (by omega))) al)))))))))))))) ai (aA ah))
    have hn6 := rMd (co h) hr6
    refine aQ rfl ?_
    refine aO s6 g6 hn6 (Gh.le (aa (aa (aa (aa (aa (aa (aa (aa (aa (aa (aa al))))))))))) ai (aA ah))
   have H := bo hn6 Hp6
   refine ac ?_
   obtain ⟨fl7,H7,Hp7⟩ := bJ H
   refine aZ (τ := Bool) (γ := Unit) (fun t7 g7=>⟨92,upd (upd (upd (upd (upd (upd (upd (upd (upd (upd (upd (fun _=>.any) 80 (aE t7)) 45 (ae (j1 : Int))) 44 (ae (x21.length : Int))) 43 (.list 51 (x21.map (ak 53 ab)))) 11 (.list 53 (x1.map ab))) 9 (.own 72 g6 (s6.1.map (ak 53 ab)).length)) 8 (.list 50 (s1.1.map aG))) 7 (.list 50 (x33.map aG))) 6 (.list 51 (x27.map (ak 53 ab)))) 3 (.ptr [(ae q.kind),(.str q.table),(.list 9 (q.names.map cl)),(.list 56 (q.exprs.map bd)),(.list 66 (q.aggregates.map cj)),(.list 4 (q.descending.map cA)),(ae q.count),(ae q.offset),(.list 35 (q.inputs.map aW))])) 2 (.ptr [(.list 91 (rA.s.tables.map bu)),(.list 142 (rA.s.foreignKeys.map cz)),(.list 148 (rA.s.constraints.map cG)),(.list 87 (rA.st.map bV)),(.list 53 (rA.args.map ab)),(.list 50 (rA.vars.map aG)),(.list 9 (rA.names.map cl)),(.list 53 (rA.vals.map ab))]),fun _=>none,upd (fun _=>none) 72 (some ⟨g6,51,(s6.1.map (ak 53 ab)),true⟩)⟩) (fun t=>t = fl7) ?_ (fun t7 g7 hn7=>?_)
   ·have H := H7
    refine af (am 3 tk rfl ?_)
    refine bF rfl rfl rfl H (fun H=>?_) (fun H=>?_)
    ·refine am 4 tk rfl (ag ?_)
     subst H
     refine aO (q.kind == (5 : Int)) () rfl (Gh.le (aa (aa (aa (aa (aa (aa (aa (aa (aa (aa (aa al))))))))))) ai (aA ah))
    refine am 4 tk rfl (ag ?_)
    subst H
    refine aO false () rfl (Gh.le (aa (aa (aa (aa (aa (aa (aa (aa (aa (aa (aa al))))))))))) ai (aA ah))
   subst hn7
   have H := Hp7
   refine aP rfl H (fun H=>?_) (fun H=>?_)
   ·refine af (am 3 tk rfl (aM tk (zl _) ?_))
    obtain ⟨_,h85,H⟩ := ax H
    have k85 := growI_some h85
    refine sz (rows := List.map ab (List.replicate (x33.length : Int).toNat (LVal.mk 0 0 []))) tk rfl rfl rfl rfl rfl rfl rfl rfl rfl rfl k85.1 k85.2.1 k85.2.2 (by rw [List.map_replicate]; rfl) fun g85=>?_
    refine cy (Gh.freezeO 85 rfl rfl rfl) (cK tk (rows' := List.map (ak 53 ab) ([x1,(List.replicate (x33.length : Int).toNat (LVal.mk 0 0 []))] : Rz)) (gc.refl _) ?_)
    obtain ⟨x87,h87,H⟩ := ax H
    have s87 := iN (m := 87) ([x1,(List.replicate (x33.length : Int).toNat (LVal.mk 0 0 []))] : Rz) _ h87
    refine au Tryz.call168 (iX.r) (PFun.jH s87) ?_
    refine cK tk (rows' := List.map (ak 53 ab) ([x87] : Rz)) (gc.refl _) ?_
    obtain ⟨x89,h89,H⟩ := ax H
    have k89 := dp h89
    refine dk (rows2' := List.map (ak 53 ab) ([x87] : Rz)) (rows' := List.map (ak 53 ab) x89) tk rfl rfl rfl rfl rfl rfl rfl rfl rfl rfl rfl rfl rfl (gc.refl _) (eL k89.1) (eG k89.2.1) (eK k89.2.2) fun g89=>?_
    refine aq tk rfl (ag (aR (bi 2 tk rfl ?_)))
    obtain rfl := ao H
    refine aL (s1.1,x89) g89 ⟨hl1,hg1⟩ (Gh.le (aa (aa (aa (aa (aa (aa (aa (aa (aH (PLe.q (aU (by omega))) al))))))))) ai (aA ah))
   refine av (aR (bi 2 tk rfl ?_))
   obtain rfl := ao H
   refine aL (s1.1,s6.1) g6 ⟨hl1,hg1⟩ (Gh.le (aa (aa (aa (aa (aa (aa (aa (aa (aH (PLe.q (aU (by omega))) al))))))))) ai (aA ah))
  have hn1 := rMd (co h) hr1
  refine aQ rfl ?_
  refine aO s1 g1 hn1 (Gh.le (aa al) ai (aA ah))
 have H := bo hn1 Hp1
 refine aw 2 tk rfl ?_
 obtain rfl := ao H
 refine ec 4 rfl rfl rfl ?_
 refine aB tk rfl (ps := [(.list 51 (s1.2.map (ak 53 ab)))]) ⟨_,_,rfl,rfl,rfl⟩ (PLe.q rfl)
mutual
def fe : Nat → LRun → LQuery → Option (Rz)
 | 0,_,_=>none
 | n + 1,v0,v1=>jZ (fun b0 b1=>fe n b0 b1) (fun b0 b1=>gA n b0 b1) v0 v1
def gA : Nat → LRun → LQuery → Option (Rz)
 | 0,_,_=>none
 | n + 1,v0,v1=>jb (fun b0 b1=>fe n b0 b1) (fun b0 b1=>gA n b0 b1) v0 v1
end
theorem qZ  (n : Nat) : (∀ a0 a1 r,fe n a0 a1 = some r → aV Tryz.prog 97 [(.agg (il a0)),(.agg (bv a1))] (.list 51 (r.map (ak 53 ab)))) ∧ (∀ a0 a1 r,gA n a0 a1 = some r → aV Tryz.prog 132 [(.agg (il a0)),(.agg (bv a1))] (.list 51 (r.map (ak 53 ab)))) := by
 induction n with
 | zero=>exact ⟨(by intros; rename_i h; exact absurd (show (none : Option _) = some _ from h) (by simp)),(by intros; rename_i h; exact absurd (show (none : Option _) = some _ from h) (by simp))⟩
 | succ n ih =>
  exact ⟨(fun v0 v1 r h=>qS (fun b0 b1=>fe n b0 b1) (fun b0 b1=>gA n b0 b1) ih.1 ih.2 v0 v1  r h),(fun v0 v1 r h=>qX (fun b0 b1=>fe n b0 b1) (fun b0 b1=>gA n b0 b1) ih.1 ih.2 v0 v1  r h)⟩
def ls (rA : LRun) (q : LQuery) : Option (Rz) := iK fun n=>fe n rA q
theorem rz (rA : LRun) (q : LQuery) (r : Rz) (H : ls rA q = some r) :
  aV Tryz.prog 97 [(.agg (il rA)),(.agg (bv q))] (.list 51 (r.map (ak 53 ab))) := by
 obtain ⟨n,h⟩ := jv H
 exact (qZ  n).1 rA q r h
def lc (sA : LSchema) (q : LQuery) : Option ((List LCol) × Int) :=
 aj (gp sA ([] : List LCol) q) fun x8 =>
 some (x8.1,x8.2)
theorem W_query_Check (sA : LSchema) (q : LQuery) (r : (List LCol) × Int) (H : lc sA q = some r) :
  aV Tryz.prog 18 [(.agg (eh sA)),(.agg (bv q))] (.tup [(.list 50 (r.1.map aG)),(ae r.2)]) := by
 unfold lc at H
 refine PH.aC Tryz.func18 Tryz.ntmps18 ?_
 refine ac (af (aT ?_))
 refine aT ?_
 refine am 2 tk rfl (ag (ac (af (am 2 tk rfl ?_))))
 obtain ⟨x8,h8,H⟩ := ax H
 have s8 := lY sA ([] : List LCol) q _ h8
 refine au Tryz.call54 (iX.of2 (ir.cons (mV.of_eq rfl) (ir.cons (mV.nil tk rfl) (ir.cons (mV.of_eq rfl) ir.nil)))) s8 ?_
 refine am 4 tk rfl (ag ?_)
 obtain rfl := ao H
 refine aB tk rfl (ps := [(.list 50 (x8.1.map aG)),(ae x8.2)]) ⟨_,_,rfl,rfl,_,_,rfl,rfl,rfl⟩ (PLe.q rfl)
def ie (sA : LSchema) (st : List LRelation) (q : LQuery) (args : Rq) (vars : List LCol) (vals : Rq) : Option (LResult × Int) :=
 aj (gp sA vars q) fun x28 =>
 cond (x28.2 != (0 : Int))
  (some ((LResult.mk [] []),x28.2))
  (aj (fp q args) fun x37 =>
  cond (x37 != (0 : Int))
   (some ((LResult.mk [] []),x37))
   (aj (fC sA st) fun x44 =>
   cond (x44 != (0 : Int))
    (some ((LResult.mk [] []),x44))
    (aj (ba (σ := List (List UInt8)) (ρ := Empty) (fun (_ : Nat) (x1 : LCol) (s1 : List (List UInt8)) =>
     aj (dW 16 s1 ([x1.name] : List (List UInt8))) fun (x66 : List (List UInt8)) =>
     some (.next x66)) 0 vars []) fun fl1=>fl1.thenP fun (s1 : List (List UInt8)) =>
    aj (ls (LRun.mk sA st args vars s1 vals) q) fun x73 =>
    aj (ba (σ := Rz) (ρ := Empty) (fun (_ : Nat) (x2 : Rq) (s2 : Rz) =>
     aj (dW 24 s2 ([x2] : Rz)) fun (x84 : Rz) =>
     some (.next x84)) 0 x73 []) fun fl2=>fl2.thenP fun (s2 : Rz) =>
    some ((LResult.mk x28.1 s2),0))))
theorem oP (sA : LSchema) (st : List LRelation) (q : LQuery) (args : Rq) (vars : List LCol) (vals : Rq) (r : LResult × Int) (H : ie sA st q args vars vals = some r) :
  aV Tryz.prog 81 [(.agg (eh sA)),(.list 87 (st.map bV)),(.agg (bv q)),(.list 53 (args.map ab)),(.list 50 (vars.map aG)),(.list 53 (vals.map ab))] (.tup [(.agg (mH r.1)),(ae r.2)]) := by
 unfold ie at H
 refine PH.aC Tryz.func81 Tryz.ntmps81 ?_
 refine ac (af (aT ?_))
 refine aT ?_
 refine bt tk fun b12=>?_
 refine aq tk rfl (ag (ac (af (am 3 tk rfl ?_))))
 obtain ⟨x28,h28,H⟩ := ax H
 have s28 := lY sA vars q _ h28
 refine au Tryz.call54 (iX.r) s28 ?_
 refine am 5 tk rfl (ag (ac (aw 2 tk rfl ?_)))
 refine aP rfl H (fun H=>?_) (fun H=>?_)
 ·refine ac (af (am 2 tk rfl (aD tk ?_)))
  refine aq tk rfl (ag ?_)
  obtain rfl := ao H
  refine aB tk rfl (ps := [(.agg [(.val (.slice none 0 0)),(.val (.slice none 0 0))]),(ae x28.2)]) ⟨_,_,rfl,⟨_,_,_,_,_,rfl,rfl,rfl,rfl⟩,_,_,rfl,rfl,rfl⟩ (PLe.of2 (mV.tup (ir.cons (mV.agg (ir.cons (mV.nil tk rfl) (ir.cons (mV.nil tk rfl) ir.nil))) (ir.cons (mV.of_eq rfl) ir.nil))))
 refine av (ac (ac (af (am 2 tk rfl ?_))))
 obtain ⟨x37,h37,H⟩ := ax H
 have s37 := kY q args _ h37
 refine au Tryz.call53 (iX.r) s37 ?_
 refine aq tk rfl (ag (aw 2 tk rfl ?_))
 refine aP rfl H (fun H=>?_) (fun H=>?_)
 ·refine ac (af (am 2 tk rfl (aD tk ?_)))
  refine aq tk rfl (ag ?_)
  obtain rfl := ao H
  refine aB tk rfl (ps := [(.agg [(.val (.slice none 0 0)),(.val (.slice none 0 0))]),(ae x37)]) ⟨_,_,rfl,⟨_,_,_,_,_,rfl,rfl,rfl,rfl⟩,_,_,rfl,rfl,rfl⟩ (PLe.of2 (mV.tup (ir.cons (mV.agg (ir.cons (mV.nil tk rfl) (ir.cons (mV.nil tk rfl) ir.nil))) (ir.cons (mV.of_eq rfl) ir.nil))))
 refine av (ac (ac (af (am 2 tk rfl ?_))))
 obtain ⟨x44,h44,H⟩ := ax H
 have s44 := ma sA st _ h44
 refine au Tryz.call52 (iX.r) s44 ?_
 refine aq tk rfl (ag (aw 2 tk rfl ?_))
 refine aP rfl H (fun H=>?_) (fun H=>?_)
 ·refine ac (af (am 2 tk rfl (aD tk ?_)))
  refine aq tk rfl (ag ?_)
  obtain rfl := ao H
  refine aB tk rfl (ps := [(.agg [(.val (.slice none 0 0)),(.val (.slice none 0 0))]),(ae x44)]) ⟨_,_,rfl,⟨_,_,_,_,_,rfl,rfl,rfl,rfl⟩,_,_,rfl,rfl,rfl⟩ (PLe.of2 (mV.tup (ir.cons (mV.agg (ir.cons (mV.nil tk rfl) (ir.cons (mV.nil tk rfl) ir.nil))) (ir.cons (mV.of_eq rfl) ir.nil))))
 refine av (ac (af (am 6 tk rfl ?_)))
 refine bt tk fun b18=>?_
 refine aD tk ?_
 refine ag (ac (ac (af (aq tk rfl (aM tk (zl _) ?_)))))
 refine aq tk rfl (ag ?_)
 obtain ⟨fl1,H1,Hp1⟩ := ax H
 refine bS tk 55 rfl rfl (fun hz1 _=>?_)
 rw [zl] at hz1
 refine aZ (τ := List (List UInt8)) (γ := OwnRef) (fun s1 g1=>⟨88,upd (upd (upd (upd (fun _=>.any) 18 (.box 18 b18 0)) 14 (.list 50 (x28.1.map aG))) 12 (.box 12 b12 0)) 8 (.ptr [(ae q.kind),(.str q.table),(.list 9 (q.names.map cl)),(.list 56 (q.exprs.map bd)),(.list 66 (q.aggregates.map cj)),(.list 4 (q.descending.map cA)),(ae q.count),(ae q.offset),(.list 35 (q.inputs.map aW))]),upd (upd (fun _=>none) 18 (some ⟨b18,[(.list 91 (sA.tables.map bu)),(.list 142 (sA.foreignKeys.map cz)),(.list 148 (sA.constraints.map cG)),(.list 87 (st.map bV)),(.list 53 (args.map ab)),(.list 50 (vars.map aG)),(.own 66 g1 (s1.map cl).length),(.list 53 (vals.map ab))]⟩)) 12 (some ⟨b12,[(.val (.slice none 0 0)),(.val (.slice none 0 0))]⟩),upd (fun _=>none) 66 (some ⟨g1,9,(s1.map cl),true⟩)⟩) (fun t=>fl1 = .next t) ?_ (fun s1 g1 hn1=>?_)
 ·refine az (qN tk 18 6 66 (e := 9) rfl rfl rfl rfl ?_)
  refine bA (fun j1 s1 g1=>⟨88,upd (upd (upd (upd (upd (upd (upd (fun _=>.any) 57 (ae (j1 : Int))) 56 (ae (vars.length : Int))) 55 (.list 50 (vars.map aG))) 18 (.box 18 b18 0)) 14 (.list 50 (x28.1.map aG))) 12 (.box 12 b12 0)) 8 (.ptr [(ae q.kind),(.str q.table),(.list 9 (q.names.map cl)),(.list 56 (q.exprs.map bd)),(.list 66 (q.aggregates.map cj)),(.list 4 (q.descending.map cA)),(ae q.count),(ae q.offset),(.list 35 (q.inputs.map aW))]),upd (upd (fun _=>none) 18 (some ⟨b18,[(.list 91 (sA.tables.map bu)),(.list 142 (sA.foreignKeys.map cz)),(.list 148 (sA.constraints.map cG)),(.list 87 (st.map bV)),(.list 53 (args.map ab)),(.list 50 (vars.map aG)),(.own 66 g1 (s1.map cl).length),(.list 53 (vals.map ab))]⟩)) 12 (some ⟨b12,[(.val (.slice none 0 0)),(.val (.slice none 0 0))]⟩),upd (fun _=>none) 66 (some ⟨g1,9,(s1.map cl),true⟩)⟩) (⟨none,0⟩) H1 (Gh.le (aa (aa (aa (aa (aa (aa (aa al))))))) (ay rfl (iX.r) (ay rfl (iX.r) ai)) (aA ah)) (fun j1 s1 g1 hj1 hr1=>?_)
  refine aw 1 tk rfl (ac ?_)
  refine aX rfl (fun h=>?_) (fun h=>?_)
  ·have hl1 := cn h
   obtain ⟨x1,fb1,hx1,H,hg1⟩ := rMc hl1 hr1
   refine av (ac (az (ac (af ?_))))
   refine bs tk (zn j1) (bO (fun _=>rfl) hx1) ?_
   refine aq tk rfl ?_
   refine bt tk fun b20=>?_
   refine aD tk ?_
   refine ag (af (aq tk rfl (aN tk ?_)))
   refine aq tk rfl (aN tk ?_)
   refine cK tk (rows' := List.map cl ([x1.name] : List (List UInt8))) (gc.refl _) ?_
   obtain ⟨x66,h66,H⟩ := ax H
   have k66 := dp h66
   refine dk (rows2' := List.map cl ([x1.name] : List (List UInt8))) (rows' := List.map cl x66) tk rfl rfl rfl rfl rfl rfl rfl rfl rfl rfl rfl rfl rfl (gc.refl _) (eL k66.1) (eG k66.2.1) (eK k66.2.2) fun g66=>?_
   refine aq tk rfl (aD tk ?_)
   refine ag (aR (bi 2 tk rfl ?_))
   obtain rfl := ao H
   refine aL x66 g66 ⟨hl1,hg1⟩ (Gh.le (aa (aa (aa (aa (aa (aa (aH (PLe.q (aU (by omega))) al))))))) (ay rfl (iX.r) (ay rfl (iX.r) ai)) (aA ah))
  have hn1 := rMd (co h) hr1
  refine aQ rfl ?_
  refine aO s1 g1 hn1 (Gh.le (aa (aa (aa (aa al)))) (ay rfl (iX.r) (ay rfl (iX.r) ai)) (aA ah))
 have H := bo hn1 Hp1
 refine ac (af (am 2 tk rfl ?_))
 refine bt tk fun b21=>?_
 refine aD tk ?_
 refine ag (ac (ac (pE 18 6 rfl rfl rfl rfl rfl (af (aN tk ?_)))))
 refine aq tk rfl ?_
 obtain ⟨x73,h73,H⟩ := ax H
 have s73 := rz (LRun.mk sA st args vars s1 vals) q _ h73
 refine au Tryz.call97 (iX.r) s73 ?_
 refine aM tk (zl _) ?_
 refine aq tk rfl (ag ?_)
 obtain ⟨fl2,H2,Hp2⟩ := ax H
 refine bS tk 73 rfl rfl (fun hz2 _=>?_)
 rw [zl] at hz2
 refine aZ (τ := Rz) (γ := OwnRef) (fun s2 g2=>⟨88,upd (upd (fun _=>.any) 21 (.box 21 b21 0)) 12 (.box 12 b12 0),upd (upd (fun _=>none) 21 (some ⟨b21,[(.list 50 (x28.1.map aG)),(.own 84 g2 (s2.map (ak 53 ab)).length)]⟩)) 12 (some ⟨b12,[(.val (.slice none 0 0)),(.val (.slice none 0 0))]⟩),upd (fun _=>none) 84 (some ⟨g2,51,(s2.map (ak 53 ab)),true⟩)⟩) (fun t=>fl2 = .next t) ?_ (fun s2 g2 hn2=>?_)
 ·refine az (qN tk 21 1 84 (e := 51) rfl rfl rfl rfl ?_)
  refine bA (fun j2 s2 g2=>⟨88,upd (upd (upd (upd (upd (fun _=>.any) 75 (ae (j2 : Int))) 74 (ae (x73.length : Int))) 73 (.list 51 (x73.map (ak 53 ab)))) 21 (.box 21 b21 0)) 12 (.box 12 b12 0),upd (upd (fun _=>none) 21 (some ⟨b21,[(.list 50 (x28.1.map aG)),(.own 84 g2 (s2.map (ak 53 ab)).length)]⟩)) 12 (some ⟨b12,[(.val (.slice none 0 0)),(.val (.slice none 0 0))]⟩),upd (fun _=>none) 84 (some ⟨g2,51,(s2.map (ak 53 ab)),true⟩)⟩) (⟨none,0⟩) H2 (Gh.le (aa (aa (aa (aa (aa al))))) (ay rfl (iX.r) (ay rfl (iX.r) ai)) (aA ah)) (fun j2 s2 g2 hj2 hr2=>?_)
  refine aw 1 tk rfl (ac ?_)
  refine aX rfl (fun h=>?_) (fun h=>?_)
  ·have hl2 := cn h
   obtain ⟨x2,fb2,hx2,H,hg2⟩ := rMc hl2 hr2
   refine av (ac (az (ac (af ?_))))
   refine bs tk (zn j2) (bO (fun _=>rfl) hx2) ?_
   refine am 2 tk rfl (ag (bj tk mok ⟨true,false,[]⟩ [0,1,2,3,4,5,6,7] rfl (by decide +kernel) rfl (cC rfl (cF ?_))))
   refine cC rfl ?_
   have s82 := clone_94 (m := 82) x2
   refine bg Tryz.call94 (iX.r) (PFun.jH s82) ?_
   refine cC rfl ?_
   obtain ⟨x84,h84,H⟩ := ax H
   have k84 := dp h84
   refine lN (rows2' := List.map (ak 53 ab) ([x2] : Rz)) (rows' := List.map (ak 53 ab) x84) tk rfl rfl rfl rfl rfl rfl rfl rfl rfl rfl rfl rfl rfl rfl (gc.refl _) (eL k84.1) (eG k84.2.1) (eK k84.2.2) fun g84=>?_
   refine cC rfl (dX ?_)
   refine bf (aR (bi 2 tk rfl ?_))
   obtain rfl := ao H
   refine aL x84 g84 ⟨hl2,hg2⟩ (Gh.le (aa (aa (aa (aa (aH (PLe.q (aU (by omega))) al))))) (ay rfl (iX.r) (ay rfl (iX.r) ai)) (aA ah))
  have hn2 := rMd (co h) hr2
  refine aQ rfl ?_
  refine aO s2 g2 hn2 (Gh.le (aa (aa al)) (ay rfl (iX.r) (ay rfl (iX.r) ai)) (aA ah))
 have H := bo hn2 Hp2
 refine ac (af (aN tk ?_))
 refine aD tk ?_
 refine aq tk rfl (ag ?_)
 obtain rfl := ao H
 refine pE 12 1 rfl rfl rfl rfl rfl ?_
 refine aB tk rfl (ps := [(.agg [(.list 50 (x28.1.map aG)),(.list 51 (s2.map (ak 53 ab)))]),(ae 0)]) ⟨_,_,rfl,⟨_,_,_,_,_,rfl,rfl,rfl,rfl⟩,_,_,rfl,rfl,rfl⟩ (PLe.q rfl)
def jM (sA : LSchema) (q : LQuery) : Option (Bool) :=
 aj (
  aj (lq q 400) fun x8 =>
  cond (decide (x8 < (0 : Int)))
   (some true)
   (aj (iH sA) fun x12 =>
   some (x12 != (0 : Int)))) fun (t1 : Bool) =>
 cond t1
  (some false)
  (aj (lc sA q) fun x18 =>
  some (x18.2 == (0 : Int)))
theorem rd (sA : LSchema) (q : LQuery) (r : Bool) (H : jM sA q = some r) :
  aV Tryz.prog 51 [(.agg (eh sA)),(.agg (bv q))] (aE r) := by
 unfold jM at H
 refine PH.aC Tryz.func51 Tryz.ntmps51 ?_
 refine ac (af (aT ?_))
 refine aT ?_
 refine aq tk rfl (ag (ac (ac ?_)))
 obtain ⟨fl1,H1,Hp1⟩ := ax H
 refine aZ (τ := Bool) (γ := Unit) (fun t1 g1=>⟨23,upd (upd (upd (fun _=>.any) 14 (aE t1)) 3 (.ptr [(ae q.kind),(.str q.table),(.list 9 (q.names.map cl)),(.list 56 (q.exprs.map bd)),(.list 66 (q.aggregates.map cj)),(.list 4 (q.descending.map cA)),(ae q.count),(ae q.offset),(.list 35 (q.inputs.map aW))])) 2 (.ptr [(.list 91 (sA.tables.map bu)),(.list 142 (sA.foreignKeys.map cz)),(.list 148 (sA.constraints.map cG))]),fun _=>none,fun _=>none⟩) (fun t=>t = fl1) ?_ (fun t1 g1 hn1=>?_)
 ·have H := H1
  refine af (aq tk rfl ?_)
  obtain ⟨x8,h8,H⟩ := ax H
  have s8 := rC q 400 _ h8
  refine au Tryz.call82 (iX.r) s8 ?_
  refine am 2 tk rfl ?_
  refine bF rfl rfl rfl H (fun H=>?_) (fun H=>?_)
  ·refine am 4 tk rfl (ag ?_)
   obtain rfl := ao H
   refine aO true () rfl (Gh.le (aa (aa (aa al))) ai ah)
  refine aq tk rfl ?_
  obtain ⟨x12,h12,H⟩ := ax H
  have s12 := qT sA _ h12
  refine au Tryz.call83 (iX.r) s12 ?_
  refine am 2 tk rfl (ag ?_)
  obtain rfl := ao H
  refine aO (x12 != (0 : Int)) () rfl (Gh.le (aa (aa (aa al))) ai ah)
 subst hn1
 have H := Hp1
 refine aP rfl H (fun H=>?_) (fun H=>?_)
 ·refine aw 1 tk rfl ?_
  obtain rfl := ao H
  refine aB tk rfl (ps := [(aE false)]) ⟨_,_,rfl,rfl,rfl⟩ (PLe.q rfl)
 refine av (ac (af (am 2 tk rfl ?_)))
 obtain ⟨x18,h18,H⟩ := ax H
 have s18 := W_query_Check sA q _ h18
 refine au Tryz.call18 (iX.r) s18 ?_
 refine am 5 tk rfl (ag (aw 3 tk rfl ?_))
 obtain rfl := ao H
 refine aB tk rfl (ps := [(aE (x18.2 == (0 : Int)))]) ⟨_,_,rfl,rfl,rfl⟩ (PLe.q rfl)
def gZ (sA : LSchema) (st : List LRelation) (q : LQuery) (args : Rq) : Option (LResult × Int) :=
 aj (ie sA st q args ([] : List LCol) ([] : Rq)) fun x14 =>
 some (x14.1,x14.2)
theorem nL (sA : LSchema) (st : List LRelation) (q : LQuery) (args : Rq) (r : LResult × Int) (H : gZ sA st q args = some r) :
  aV Tryz.prog 50 [(.agg (eh sA)),(.list 87 (st.map bV)),(.agg (bv q)),(.list 53 (args.map ab))] (.tup [(.agg (mH r.1)),(ae r.2)]) := by
 unfold gZ at H
 refine PH.aC Tryz.func50 Tryz.ntmps50 ?_
 refine ac (af (aT ?_))
 refine aT ?_
 refine bt tk fun b8=>?_
 refine aq tk rfl (ag (ac (af (am 4 tk rfl ?_))))
 obtain ⟨x14,h14,H⟩ := ax H
 have s14 := oP sA st q args ([] : List LCol) ([] : Rq) _ h14
 refine au Tryz.call81 (iX.of2 (ir.cons (mV.of_eq rfl) (ir.cons (mV.of_eq rfl) (ir.cons (mV.of_eq rfl) (ir.cons (mV.of_eq rfl) (ir.cons (mV.nil tk rfl) (ir.cons (mV.nil tk rfl) ir.nil))))))) s14 ?_
 refine am 2 tk rfl (aD tk ?_)
 refine aq tk rfl (ag ?_)
 obtain rfl := ao H
 refine aB tk rfl (ps := [(.agg [(.list 50 (x14.1.columns.map aG)),(.list 51 (x14.1.rows.map (ak 53 ab)))]),(ae x14.2)]) ⟨_,_,rfl,⟨_,_,_,_,_,rfl,rfl,rfl,rfl⟩,_,_,rfl,rfl,rfl⟩ (PLe.q rfl)
def jc (sA : LSchema) (st : List LRelation) (q : LQuery) (args : Rq) : Option (Bool) :=
 aj (jM sA q) fun x11 =>
 cond x11
  (cond (decide ((args.length : Int) ≤ (20 : Int)))
   (aj (fC sA st) fun x20 =>
   cond (x20 == (0 : Int))
    (aj (fp q args) fun x26 =>
    some (x26 == (0 : Int)))
    (some false))
   (some false))
  (some false)
theorem rH (sA : LSchema) (st : List LRelation) (q : LQuery) (args : Rq) (r : Bool) (H : jc sA st q args = some r) :
  aV Tryz.prog 16 [(.agg (eh sA)),(.list 87 (st.map bV)),(.agg (bv q)),(.list 53 (args.map ab))] (aE r) := by
 unfold jc at H
 refine PH.aC Tryz.func16 Tryz.ntmps16 ?_
 refine ac (af (aT ?_))
 refine aT ?_
 refine aq tk rfl (ag (ac (af (am 2 tk rfl ?_))))
 obtain ⟨x11,h11,H⟩ := ax H
 have s11 := rd sA q _ h11
 refine au Tryz.call51 (iX.r) s11 ?_
 refine aq tk rfl ?_
 refine bF rfl rfl rfl H (fun H=>?_) (fun H=>?_)
 ·refine aq tk rfl (aM tk (zl _) ?_)
  refine am 3 tk rfl ?_
  refine bF rfl rfl rfl H (fun H=>?_) (fun H=>?_)
  ·refine am 2 tk rfl ?_
   obtain ⟨x20,h20,H⟩ := ax H
   have s20 := ma sA st _ h20
   refine au Tryz.call52 (iX.r) s20 ?_
   refine am 3 tk rfl ?_
   refine bF rfl rfl rfl H (fun H=>?_) (fun H=>?_)
   ·refine am 2 tk rfl ?_
    obtain ⟨x26,h26,H⟩ := ax H
    have s26 := kY q args _ h26
    refine au Tryz.call53 (iX.r) s26 ?_
    refine am 3 tk rfl (ag ?_)
    obtain rfl := ao H
    refine aB tk rfl (ps := [(aE (x26 == (0 : Int)))]) ⟨_,_,rfl,rfl,rfl⟩ (PLe.q rfl)
   refine am 6 tk rfl (ag ?_)
   obtain rfl := ao H
   refine aB tk rfl (ps := [(aE false)]) ⟨_,_,rfl,rfl,rfl⟩ (PLe.q rfl)
  refine am 12 tk rfl (ag ?_)
  obtain rfl := ao H
  refine aB tk rfl (ps := [(aE false)]) ⟨_,_,rfl,rfl,rfl⟩ (PLe.q rfl)
 refine am 17 tk rfl (ag ?_)
 obtain rfl := ao H
 refine aB tk rfl (ps := [(aE false)]) ⟨_,_,rfl,rfl,rfl⟩ (PLe.q rfl)
def iD : Option (Bool) :=
 aj (gZ (LSchema.mk [(LTable.mk [116] [(LCol.mk [97] 1 false)] [0])] [] []) ([(LRelation.mk [116] [[(LVal.mk 1 1 [])],[(LVal.mk 1 2 [])]])] : List LRelation) (LQuery.mk 1 [116] [] [] [] [] 0 0 []) ([] : Rq)) fun x22 =>
 cond (x22.2 == (0 : Int))
  (some ((x22.1.rows.length : Int) == (2 : Int)))
  (some false)
theorem qV (r : Bool) (H : iD = some r) :
  aV Tryz.prog 15 [] (aE r) := by
 unfold iD at H
 refine PH.aC Tryz.func15 Tryz.ntmps15 ?_
 refine aw 1 tk rfl (ac (af (aq tk rfl (cK tk (rows' := List.map aG ([(LCol.mk [97] 1 false)] : List LCol)) (gc.refl _) ?_))))
 refine cK tk (rows' := List.map bG ([0] : List Int)) (gc.refl _) ?_
 refine aq tk rfl (cK tk (rows' := List.map bu ([(LTable.mk [116] [(LCol.mk [97] 1 false)] [0])] : List LTable)) (gc.refl _) ?_)
 refine aq tk rfl ?_
 refine bt tk fun b1=>?_
 refine aD tk ?_
 refine ag (ac (af (aq tk rfl (cK tk (rows' := List.map ab ([(LVal.mk 1 1 [])] : Rq)) (gc.refl _) ?_))))
 refine aq tk rfl (cK tk (rows' := List.map ab ([(LVal.mk 1 2 [])] : Rq)) (gc.refl _) ?_)
 refine cK tk (rows' := List.map (ak 53 ab) ([[(LVal.mk 1 1 [])],[(LVal.mk 1 2 [])]] : Rz)) (gc.refl _) ?_
 refine aq tk rfl (cK tk (rows' := List.map bV ([(LRelation.mk [116] [[(LVal.mk 1 1 [])],[(LVal.mk 1 2 [])]])] : List LRelation)) (gc.refl _) ?_)
 refine aq tk rfl (ag (ac (af (aN tk ?_))))
 refine am 2 tk rfl ?_
 obtain ⟨x22,h22,H⟩ := ax H
 have s22 := nL (LSchema.mk [(LTable.mk [116] [(LCol.mk [97] 1 false)] [0])] [] []) ([(LRelation.mk [116] [[(LVal.mk 1 1 [])],[(LVal.mk 1 2 [])]])] : List LRelation) (LQuery.mk 1 [116] [] [] [] [] 0 0 []) ([] : Rq) _ h22
 refine au Tryz.call50 (iX.of2 (ir.cons (mV.agg (ir.cons (mV.of_eq rfl) (ir.cons (mV.nil tk rfl) (ir.cons (mV.nil tk rfl) ir.nil)))) (ir.cons (mV.of_eq rfl) (ir.cons (mV.agg (ir.cons (mV.of_eq rfl) (ir.cons (mV.of_eq rfl) (ir.cons (mV.nil tk rfl) (ir.cons (mV.nil tk rfl) (ir.cons (mV.nil tk rfl) (ir.cons (mV.nil tk rfl) (ir.cons (mV.of_eq rfl) (ir.cons (mV.of_eq rfl) (ir.cons (mV.nil tk rfl) ir.nil)))))))))) (ir.cons (mV.nil tk rfl) ir.nil))))) s22 ?_
 refine am 3 tk rfl ?_
 refine bt tk fun b3=>?_
 refine aD tk ?_
 refine aq tk rfl (ag (ac (af (am 3 tk rfl ?_))))
 refine bF rfl rfl rfl H (fun H=>?_) (fun H=>?_)
 ·refine aq tk rfl (aN tk ?_)
  refine aM tk (zl _) ?_
  refine am 3 tk rfl (ag ?_)
  obtain rfl := ao H
  refine aB tk rfl (ps := [(aE ((x22.1.rows.length : Int) == (2 : Int)))]) ⟨_,_,rfl,rfl,rfl⟩ (PLe.q rfl)
 refine am 6 tk rfl (ag ?_)
 obtain rfl := ao H
 refine aB tk rfl (ps := [(aE false)]) ⟨_,_,rfl,rfl,rfl⟩ (PLe.q rfl)
def fg (sA : LSchema) (st : List LRelation) (q : LQuery) (args : Rq) : Option (LResult × Bool) :=
 aj (gZ sA st q args) fun x17 =>
 some (x17.1,(x17.2 == (0 : Int)))
theorem lM (sA : LSchema) (st : List LRelation) (q : LQuery) (args : Rq) (r : LResult × Bool) (H : fg sA st q args = some r) :
  aV Tryz.prog 17 [(.agg (eh sA)),(.list 87 (st.map bV)),(.agg (bv q)),(.list 53 (args.map ab))] (.tup [(.agg (mH r.1)),(aE r.2)]) := by
 unfold fg at H
 refine PH.aC Tryz.func17 Tryz.ntmps17 ?_
 refine ac (af (aT ?_))
 refine aT ?_
 refine bt tk fun b8=>?_
 refine aq tk rfl (ag (ac (af (am 4 tk rfl ?_))))
 obtain ⟨x17,h17,H⟩ := ax H
 have s17 := nL sA st q args _ h17
 refine au Tryz.call50 (iX.r) s17 ?_
 refine am 3 tk rfl ?_
 refine bt tk fun b10=>?_
 refine aD tk ?_
 refine aq tk rfl (ag (ac (af (aN tk ?_))))
 refine am 2 tk rfl (aD tk ?_)
 refine aq tk rfl (ag ?_)
 obtain rfl := ao H
 refine aB tk rfl (ps := [(.agg [(.list 50 (x17.1.columns.map aG)),(.list 51 (x17.1.rows.map (ak 53 ab)))]),(aE (x17.2 == (0 : Int)))]) ⟨_,_,rfl,⟨_,_,_,_,_,rfl,rfl,rfl,rfl⟩,_,_,rfl,rfl,rfl⟩ (PLe.q rfl)
def eD (sA : LSchema) (st : List LRelation) (q : LQuery) (rA : LQuery) (args : Rq) : Option (Bool) :=
 aj (iD) fun x16 =>
 cond (!x16)
  (some false)
  (aj (jc sA st (LQuery.mk 7 [] [] [] [] [] 0 0 [(LQuery.mk 6 [] [] [] [] [] 0 0 [q,rA]),rA]) args) fun x29 =>
  cond (!x29)
   (some true)
   (aj (fg sA st (LQuery.mk 7 [] [] [] [] [] 0 0 [(LQuery.mk 6 [] [] [] [] [] 0 0 [q,rA]),rA]) args) fun x36 =>
   aj (fg sA st q args) fun x44 =>
   cond x36.2
    (cond x44.2
     (aj (jg x36.1 x44.1) fun x54 =>
     some x54)
     (some false))
    (some false)))
theorem kR (sA : LSchema) (st : List LRelation) (q : LQuery) (rA : LQuery) (args : Rq) (r : Bool) (H : eD sA st q rA args = some r) :
  aV Tryz.prog 12 [(.agg (eh sA)),(.list 87 (st.map bV)),(.agg (bv q)),(.agg (bv rA)),(.list 53 (args.map ab))] (aE r) := by
 unfold eD at H
 refine PH.aC Tryz.func12 Tryz.ntmps12 ?_
 refine ac (af (aT ?_))
 refine aT ?_
 refine aT ?_
 refine aq tk rfl (ag (ac (ac (af ?_))))
 obtain ⟨x16,h16,H⟩ := ax H
 have s16 := qV _ h16
 refine au Tryz.call15 (iX.r) s16 ?_
 refine aq tk rfl (ag ?_)
 refine aP rfl H (fun H=>?_) (fun H=>?_)
 ·refine aw 1 tk rfl ?_
  obtain rfl := ao H
  refine aB tk rfl (ps := [(aE false)]) ⟨_,_,rfl,rfl,rfl⟩ (PLe.q rfl)
 refine av (ac (af (am 2 tk rfl (cK tk (rows' := List.map aW ([q,rA] : List LQuery)) (gc.trans (b := List.map bv [q,rA]) (gc.refl _) (gc.of_eq (qL cv [q,rA]))) ?_))))
 refine am 2 tk rfl (cK tk (rows' := List.map aW ([(LQuery.mk 6 [] [] [] [] [] 0 0 [q,rA]),rA] : List LQuery)) (gc.trans (b := List.map bv [(LQuery.mk 6 [] [] [] [] [] 0 0 [q,rA]),rA]) (gc.cons (oW.cons (mV.of_eq rfl) (oW.cons (mV.of_eq rfl) (oW.cons (mV.nil tk rfl) (oW.cons (mV.nil tk rfl) (oW.cons (mV.nil tk rfl) (oW.cons (mV.nil tk rfl) (oW.cons (mV.of_eq rfl) (oW.cons (mV.of_eq rfl) (oW.cons (mV.of_eq rfl) oW.nil))))))))) (gc.cons (oW.refl _) gc.nil)) (gc.of_eq (qL cv [(LQuery.mk 6 [] [] [] [] [] 0 0 [q,rA]),rA]))) ?_)
 refine aq tk rfl ?_
 refine bt tk fun b11=>?_
 refine aD tk ?_
 refine ag (ac (ac (af (am 2 tk rfl (aN tk ?_)))))
 refine aq tk rfl ?_
 obtain ⟨x29,h29,H⟩ := ax H
 have s29 := rH sA st (LQuery.mk 7 [] [] [] [] [] 0 0 [(LQuery.mk 6 [] [] [] [] [] 0 0 [q,rA]),rA]) args _ h29
 refine au Tryz.call16 (iX.of2 (ir.cons (mV.of_eq rfl) (ir.cons (mV.of_eq rfl) (ir.cons (mV.agg (ir.cons (mV.of_eq rfl) (ir.cons (mV.of_eq rfl) (ir.cons (mV.nil tk rfl) (ir.cons (mV.nil tk rfl) (ir.cons (mV.nil tk rfl) (ir.cons (mV.nil tk rfl) (ir.cons (mV.of_eq rfl) (ir.cons (mV.of_eq rfl) (ir.cons (mV.of_eq rfl) ir.nil)))))))))) (ir.cons (mV.of_eq rfl) ir.nil))))) s29 ?_
 refine aq tk rfl (ag ?_)
 refine aP rfl H (fun H=>?_) (fun H=>?_)
 ·refine aw 1 tk rfl ?_
  obtain rfl := ao H
  refine aB tk rfl (ps := [(aE true)]) ⟨_,_,rfl,rfl,rfl⟩ (PLe.q rfl)
 refine av (ac (af (am 2 tk rfl (aN tk ?_))))
 refine aq tk rfl ?_
 obtain ⟨x36,h36,H⟩ := ax H
 have s36 := lM sA st (LQuery.mk 7 [] [] [] [] [] 0 0 [(LQuery.mk 6 [] [] [] [] [] 0 0 [q,rA]),rA]) args _ h36
 refine au Tryz.call17 (iX.of2 (ir.cons (mV.of_eq rfl) (ir.cons (mV.of_eq rfl) (ir.cons (mV.agg (ir.cons (mV.of_eq rfl) (ir.cons (mV.of_eq rfl) (ir.cons (mV.nil tk rfl) (ir.cons (mV.nil tk rfl) (ir.cons (mV.nil tk rfl) (ir.cons (mV.nil tk rfl) (ir.cons (mV.of_eq rfl) (ir.cons (mV.of_eq rfl) (ir.cons (mV.of_eq rfl) ir.nil)))))))))) (ir.cons (mV.of_eq rfl) ir.nil))))) s36 ?_
 refine am 3 tk rfl ?_
 refine bt tk fun b12=>?_
 refine aD tk ?_
 refine aq tk rfl (ag (ac (af (am 4 tk rfl ?_))))
 obtain ⟨x44,h44,H⟩ := ax H
 have s44 := lM sA st q args _ h44
 refine au Tryz.call17 (iX.r) s44 ?_
 refine am 3 tk rfl ?_
 refine bt tk fun b14=>?_
 refine aD tk ?_
 refine aq tk rfl (ag (ac (af (am 2 tk rfl ?_))))
 refine bF rfl rfl rfl H (fun H=>?_) (fun H=>?_)
 ·refine am 3 tk rfl ?_
  refine bF rfl rfl rfl H (fun H=>?_) (fun H=>?_)
  ·refine aN tk ?_
   refine aN tk ?_
   obtain ⟨x54,h54,H⟩ := ax H
   have s54 := rF x36.1 x44.1 _ h54
   refine au Tryz.call42 (iX.r) s54 ?_
   refine am 2 tk rfl (ag ?_)
   obtain rfl := ao H
   refine aB tk rfl (ps := [(aE x54)]) ⟨_,_,rfl,rfl,rfl⟩ (PLe.q rfl)
  refine am 5 tk rfl (ag ?_)
  obtain rfl := ao H
  refine aB tk rfl (ps := [(aE false)]) ⟨_,_,rfl,rfl,rfl⟩ (PLe.q rfl)
 refine am 8 tk rfl (ag ?_)
 obtain rfl := ao H
 refine aB tk rfl (ps := [(aE false)]) ⟨_,_,rfl,rfl,rfl⟩ (PLe.q rfl)
end
end Go.Proofs.YtgaggbdcedpapaaGreat

namespace Go.Proofs.YtgaggbdcedpapaaGreat
noncomputable section
open Go Go.Ab
theorem LQuery.inputs_lt {q x : LQuery} (h : x ∈ q.inputs) : SizeOf.sizeOf x < SizeOf.sizeOf q := by
 cases q
 simp only [LQuery.inputs] at h
 have := List.sizeOf_lt_of_mem h
 simp only [LQuery.mk.sizeOf_spec]
 omega
theorem LQuery.ind {p : LQuery → Prop} (h : ∀ q : LQuery,(∀ x ∈ q.inputs,p x) → p q) : ∀ q,p q := by
 intro q
 generalize hn : SizeOf.sizeOf q = n
 induction n using Nat.strongRecOn generalizing q with
 | _ n ih=>exact h q fun x hx=>ih _ (hn ▸ LQuery.inputs_lt hx) x rfl
theorem ev_all {α : Type} {p : α → Nat → Prop} : ∀ (xs : List α),(∀ x ∈ xs,∃ N,∀ n,N ≤ n → p x n) → ∃ N,∀ n,N ≤ n → ∀ x ∈ xs,p x n
 | [],_=>⟨0,fun _ _ x hx=>by simp at hx⟩
 | y :: xs,h=>by
  obtain ⟨N,hN⟩ := h y (by simp)
  obtain ⟨N',hN'⟩ := ev_all xs fun x hx=>h x (by simp [hx])
  refine ⟨N + N',fun n hn x hx=>?_⟩
  rcases List.mem_cons.1 hx with rfl | hx
  ·exact hN n (by omega)
  ·exact hN' n (by omega) x hx
theorem kv {α σ ρ : Type} {step step' : Nat → α → σ → Option (Flow σ ρ)} : ∀ (xs : List α) (j : Nat) (s : σ),(∀ k x s,xs[k]? = some x → step (j + k) x s = step' (j + k) x s) → ba step j xs s = ba step' j xs s
 | [],_,_,_=>rfl
 | x :: xs,j,s,h=>by
  have h0 := h 0 x s rfl
  rw [Nat.add_zero] at h0
  rw [ba,ba,h0]
  split
  ·rfl
  ·exact kv xs (j + 1) _ fun k y t hk=>by
    have := h (k + 1) y t (by simpa using hk)
    rwa [show j + (k + 1) = j + 1 + k from by omega] at this
  ·rfl
  ·rfl
theorem gF {α : Type} {xs : List α} {k : Nat} {x : α} (h : xs[k]? = some x) : x ∈ xs := List.mem_of_getElem? h
theorem nk {γ β : Type} {F : Nat → γ → LQuery → Option β} {O : (γ → LQuery → Option β) → γ → LQuery → Option β} (hF : ∀ n,F (n + 1) = O (F n)) (c : γ) (q : LQuery)
  (hc : ∀ r r' : γ → LQuery → Option β,(∀ x ∈ q.inputs,r c x = r' c x) → O r c q = O r' c q) (hx : ∀ x ∈ q.inputs,∃ v,iK (fun n=>F n c x) = some v) {r : β} (h : O (fun c q=>iK fun n=>F n c q) c q = some r) :
  iK (fun n=>F n c q) = some r := by
 obtain ⟨N,hN⟩ := ev_all (p := fun x n=>F n c x = iK fun n=>F n c x) q.inputs (fun x hm=>by
  obtain ⟨v,hv⟩ := hx x hm
  obtain ⟨N,hN⟩ := limN_ev hv
  exact ⟨N,fun n hn=>by rw [hN n hn,hv]⟩)
 refine nz (N + 1) fun m hm=>?_
 obtain ⟨m,rfl⟩ : ∃ k,m = k + 1 := ⟨m - 1,by omega⟩
 rw [hF,hc _ (fun c q=>iK fun n=>F n c q) (hN m (by omega)),h]
def cT (q : LQuery) : List LQuery := q :: (q.inputs.attach.map fun x=>cT x.1).flatten
termination_by SizeOf.sizeOf q
decreasing_by exact LQuery.inputs_lt x.2
theorem gD (q : LQuery) : cT q = q :: (q.inputs.map cT).flatten := by
 rw [cT,List.attach_map_val (f := cT)]
theorem flat_le {α β : Type} {f : α → List β} {xs : List α} {x : α} (h : x ∈ xs) : (f x).length ≤ ((xs.map f).flatten).length := by
 induction xs with
 | nil=>simp at h
 | cons y xs ih =>
  simp only [List.map_cons,List.flatten_cons,List.length_append]
  rcases List.mem_cons.1 h with rfl | h
  ·omega
  ·have := ih h; omega
theorem kL {q x : LQuery} (h : x ∈ q.inputs) : (cT x).length + 1 ≤ (cT q).length := by
 rw [gD q]
 have := flat_le (f := cT) h
 simp only [List.length_cons]
 omega
theorem cJ {α : Type} {bytes : Nat} {xs ys : List α} (hb : bytes ≤ 200) (h : xs.length + ys.length ≤ 10000000) : dW bytes xs ys = some (xs ++ ys) := by
 refine appI_ok ?_ (by unfold maxLen; omega)
 have : (xs.length + ys.length) * bytes ≤ 10000000 * 200 := Nat.mul_le_mul h hb
 omega
theorem take_flat {α β : Type} {f : α → List β} {xs : List α} {k : Nat} : (((xs.take k).map f).flatten).length ≤ ((xs.map f).flatten).length := by
 induction xs generalizing k with
 | nil=>simp
 | cons y xs ih =>
  cases k with
  | zero=>simp
  | succ k=>simp only [List.take_succ_cons,List.map_cons,List.flatten_cons,List.length_append]; have := ih (k := k); omega
theorem nodes_ok : ∀ q : LQuery,(cT q).length ≤ 10000000 → jk q = some (cT q) := by
 refine LQuery.ind fun q ih hb=>?_
 refine nk (γ := Unit) (F := fun n _ q=>jj n q) (O := fun r _ q=>jl (fun x=>r () x) q) (fun n=>rfl) () q ?_ (fun x hx=>⟨_,ih x hx (by have := kL hx; omega)⟩) ?_
 ·intro r r' h
  simp only [jl]
  congr 1
  exact kv q.inputs 0 _ fun k x s hk=>by rw [h x (gF hk)]
 ·have hr := rMa (step := fun (_ : Nat) (x1 : LQuery) (s1 : List LQuery)=>aj (jk x1) fun x17=>aj (dW 160 s1 x17) fun (x18 : List LQuery)=>some (Flow.next (ρ := Empty) x18)) (xs := q.inputs) (s := [q])
   (fun k=>q :: ((q.inputs.take k).map cT).flatten) (by simp) (fun k x hk=>by
    have hx := gF hk
    rw [ih x hx (by have := kL hx; omega),bPs,cJ (by decide),bPs]
    ·rw [List.take_add_one,hk]; simp
    ·have h1 : (((q.inputs.take (k + 1)).map cT).flatten).length ≤ ((q.inputs.map cT).flatten).length := take_flat
     rw [List.take_add_one,hk] at h1
     rw [gD] at hb
     simp at h1 hb ⊢
     omega)
  simp only [jl]
  have e : ∀ x,(iK fun n=>jj n x) = jk x := fun _=>rfl
  simp only [e]
  rw [hr,bPs,ce,List.take_length,gD]
def dN (a b : Int) : Int := if b > a then b else a
theorem oY {a b c : Int} (h : a ≤ c) (h' : b ≤ c) : dN a b ≤ c := by unfold dN; split <;> assumption
theorem je (a b : Int) : a ≤ dN a b := by unfold dN; split <;> omega
theorem mJ (a b : Int) : b ≤ dN a b := by unfold dN; split <;> omega
def gL (q : LQuery) : Int := (q.inputs.attach.map fun x=>gL x.1).foldl dN 0 + 1
termination_by SizeOf.sizeOf q
decreasing_by exact LQuery.inputs_lt x.2
theorem mK (q : LQuery) : gL q = (q.inputs.map gL).foldl dN 0 + 1 := by
 rw [gL,List.attach_map_val (f := gL)]
theorem qb : ∀ {l : List Int} {a c : Int},a ≤ c → (∀ x ∈ l,x ≤ c) → l.foldl dN a ≤ c
 | [],_,_,h,_=>h
 | x :: l,a,c,h,hl=>qb (l := l) (oY h (hl x (by simp))) fun y hy=>hl y (by simp [hy])
theorem mY : ∀ {l : List Int} {a : Int},a ≤ l.foldl dN a ∧ ∀ x ∈ l,x ≤ l.foldl dN a
 | [],a=>⟨Int.le_refl a,by simp⟩
 | x :: l,a=>by
  obtain ⟨h1,h2⟩ := mY (l := l) (a := dN a x)
  simp only [List.foldl_cons]
  refine ⟨Int.le_trans (je a x) h1,fun y hy=>?_⟩
  rcases List.mem_cons.1 hy with rfl | hy
  ·exact Int.le_trans (mJ a y) h1
  ·exact h2 y hy
theorem depthQ_nodes : ∀ q : LQuery,1 ≤ gL q ∧ gL q ≤ (cT q).length := by
 refine LQuery.ind fun q ih=>?_
 rw [mK,gD]
 have h1 : (q.inputs.map gL).foldl dN 0 ≤ (((q.inputs.map cT).flatten).length : Nat) := qb (by omega) fun x hx=>by
  obtain ⟨y,hy,rfl⟩ := List.mem_map.1 hx
  have := (ih y hy).2
  have := flat_le (f := cT) hy
  omega
 have h2 := (mY (l := q.inputs.map gL) (a := 0)).1
 simp only [List.length_cons]
 omega
theorem depthQ_sub {q x : LQuery} (h : x ∈ q.inputs) : gL x + 1 ≤ gL q := by
 rw [mK q]
 have := (mY (l := q.inputs.map gL) (a := 0)).2 (gL x) (List.mem_map.2 ⟨x,h,rfl⟩)
 omega
theorem depth_ok : ∀ q : LQuery,(cT q).length ≤ 10000000 → kg q = some (gL q) := by
 refine LQuery.ind fun q ih hb=>?_
 refine nk (γ := Unit) (F := fun n _ q=>jo n q) (O := fun r _ q=>jq (fun x=>r () x) q) (fun n=>rfl) () q ?_ (fun x hx=>⟨_,ih x hx (by have := kL hx; omega)⟩) ?_
 ·intro r r' h
  simp only [jq]
  congr 1
  exact kv q.inputs 0 _ fun k x s hk=>by rw [h x (gF hk)]
 ·have hr := rMa (step := fun (_ : Nat) (x1 : LQuery) (s1 : Int)=>aj (kg x1) fun x15=>some (Flow.next (ρ := Empty) (if x15 > s1 then x15 else s1))) (xs := q.inputs) (s := 0)
   (fun k=>((q.inputs.take k).map gL).foldl dN 0) (by simp) (fun k x hk=>by
    have hx := gF hk
    rw [ih x hx (by have := kL hx; omega),bPs,List.take_add_one,hk]
    simp [dN])
  simp only [jq]
  have e : ∀ x,(iK fun n=>jo n x) = kg x := fun _=>rfl
  simp only [e]
  rw [hr,bPs,ce,List.take_length,mK]
  have h := depthQ_nodes q
  rw [mK] at h
  rw [bw (by omega) (by omega)]
def mi (n : Int) : Int := if 20001 < n then 20001 else n
def iw (kind : Int) (s : Int × Int) (j : Nat) (x : Int × Int) : Int × Int :=
 (mi (if j = 0 then x.1 else if kind = 6 then s.1 + x.1 else if kind = 4 ∨ kind = 5 then s.1 * dN 1 x.1 else s.1),dN s.2 x.2)
def ew (kind : Int) : Nat → List (Int × Int) → Int × Int → Int × Int
 | _,[],s=>s
 | j,x :: l,s=>ew kind (j + 1) l (iw kind s j x)
def bU (q : LQuery) : Int × Int :=
 let s := ew q.kind 0 (q.inputs.attach.map fun x=>bU x.1) (0,0)
 if q.kind = 1 then (24,dN s.2 24) else (s.1,dN s.2 s.1)
termination_by SizeOf.sizeOf q
decreasing_by exact LQuery.inputs_lt x.2
theorem lh (q : LQuery) : bU q = if q.kind = 1 then (24,dN (ew q.kind 0 (q.inputs.map bU) (0,0)).2 24) else ((ew q.kind 0 (q.inputs.map bU) (0,0)).1,dN (ew q.kind 0 (q.inputs.map bU) (0,0)).2 (ew q.kind 0 (q.inputs.map bU) (0,0)).1) := by
 rw [bU,List.attach_map_val (f := bU)]
def mB (s : Int × Int) : Prop := 0 ≤ s.1 ∧ s.1 ≤ 20001 ∧ 0 ≤ s.2 ∧ s.2 ≤ 20001
theorem capI_b {n : Int} (h : 0 ≤ n) : 0 ≤ mi n ∧ mi n ≤ 20001 := by unfold mi; split <;> omega
theorem mostStep_r {kind : Int} {s x : Int × Int} {j : Nat} (hs : mB s) (hx : mB x) : mB (iw kind s j x) := by
 obtain ⟨a1,a2,a3,a4⟩ := hs
 obtain ⟨b1,b2,b3,b4⟩ := hx
 unfold iw
 have h1 : 0 ≤ (if j = 0 then x.1 else if kind = 6 then s.1 + x.1 else if kind = 4 ∨ kind = 5 then s.1 * dN 1 x.1 else s.1) := by
  split
  ·exact b1
  ·split
   ·omega
   ·split
    ·exact Int.mul_nonneg a1 (Int.le_trans (by decide) (je 1 x.1))
    ·exact a1
 exact ⟨(capI_b h1).1,(capI_b h1).2,Int.le_trans a3 (je _ _),oY a4 b4⟩
theorem pR {kind : Int} : ∀ {l : List (Int × Int)} {j : Nat} {s : Int × Int},mB s → (∀ x ∈ l,mB x) → mB (ew kind j l s)
 | [],_,_,h,_=>h
 | x :: l,j,s,h,hl=>pR (l := l) (mostStep_r h (hl x (by simp))) fun y hy=>hl y (by simp [hy])
theorem mostQ_r : ∀ q : LQuery,mB (bU q) := by
 refine LQuery.ind fun q ih=>?_
 rw [lh]
 have h : mB (ew q.kind 0 (q.inputs.map bU) (0,0)) := pR ⟨by decide,by decide,by decide,by decide⟩ fun x hx=>by
  obtain ⟨y,hy,rfl⟩ := List.mem_map.1 hx
  exact ih y hy
 obtain ⟨a1,a2,a3,a4⟩ := h
 split
 ·exact ⟨show (0 : Int) ≤ 24 by decide,show (24 : Int) ≤ 20001 by decide,Int.le_trans a3 (je _ _),oY a4 (by decide)⟩
 ·exact ⟨a1,a2,Int.le_trans a3 (je _ _),oY a4 a2⟩
theorem qn (kind : Int) : ∀ (l : List (Int × Int)) (j : Nat) (s x : Int × Int),ew kind j (l ++ [x]) s = iw kind (ew kind j l s) (j + l.length) x
 | [],j,s,x=>by simp [ew]
 | y :: l,j,s,x=>by
  rw [List.cons_append,ew,qn kind l (j + 1),ew]
  congr 1
  simp
  omega
theorem mostStep_run {kind : Int} {s x : Int × Int} {j : Nat} (hs : mB s) (hx : mB x) :
  (cond ((j : Int) == (0 : Int))
   (some (Flow.next (ρ := Empty) ((if (20001 : Int) < x.1 then (20001 : Int) else x.1),(if x.2 > s.2 then x.2 else s.2))))
   (cond (kind == (6 : Int))
    (some (.next ((if (20001 : Int) < (IntKind.i64.wrap (s.1 + x.1)) then (20001 : Int) else (IntKind.i64.wrap (s.1 + x.1))),(if x.2 > s.2 then x.2 else s.2))))
    (bn (
     cond (kind == (4 : Int))
      (true)
      ((kind == (5 : Int)))) fun (t4 : Bool) =>
    cond t4
     (some (.next ((if (20001 : Int) < (IntKind.i64.wrap (s.1 * (if x.1 > (1 : Int) then x.1 else (1 : Int)))) then (20001 : Int) else (IntKind.i64.wrap (s.1 * (if x.1 > (1 : Int) then x.1 else (1 : Int))))),(if x.2 > s.2 then x.2 else s.2))))
     (some (.next ((if (20001 : Int) < s.1 then (20001 : Int) else s.1),(if x.2 > s.2 then x.2 else s.2))))))) = some (.next (iw kind s j x)) := by
 obtain ⟨a1,a2,a3,a4⟩ := hs
 obtain ⟨b1,b2,b3,b4⟩ := hx
 have hm : 1 ≤ dN 1 x.1 ∧ dN 1 x.1 ≤ 20001 := ⟨je _ _,oY (by decide) b2⟩
 have hp : 0 ≤ s.1 * dN 1 x.1 ∧ s.1 * dN 1 x.1 ≤ 20001 * 20001 := ⟨Int.mul_nonneg a1 (by omega),Int.mul_le_mul a2 hm.2 (by omega) (by decide)⟩
 have hw1 : IntKind.i64.wrap (s.1 + x.1) = s.1 + x.1 := bw (by omega) (by omega)
 have hw2 : IntKind.i64.wrap (s.1 * (if x.1 > (1 : Int) then x.1 else (1 : Int))) = s.1 * dN 1 x.1 := bw (by show _ ≤ s.1 * dN 1 x.1; omega) (by show s.1 * dN 1 x.1 ≤ _; omega)
 rw [hw1,hw2]
 unfold iw mi dN bn
 by_cases h0 : j = 0
 ·subst h0; simp
 ·have : ((j : Int) == (0 : Int)) = false := by simp; omega
  rw [this]
  by_cases h6 : kind = 6
  ·subst h6; simp [h0]
  ·by_cases h4 : kind = 4
   ·subst h4; simp [h0]
   ·by_cases h5 : kind = 5
    ·subst h5; simp [h0]
    ·have e6 : (kind == (6 : Int)) = false := by simpa using h6
     have e4 : (kind == (4 : Int)) = false := by simpa using h4
     have e5 : (kind == (5 : Int)) = false := by simpa using h5
     simp [h0,h6,h4,h5,e6,e4,e5]
theorem most_ok : ∀ q : LQuery,lJ q = some (bU q) := by
 refine LQuery.ind fun q ih=>?_
 refine nk (γ := Unit) (F := fun n _ q=>jQ n q) (O := fun r _ q=>jO (fun x=>r () x) q) (fun n=>rfl) () q ?_ (fun x hx=>⟨_,ih x hx⟩) ?_
 ·intro r r' h
  simp only [jO]
  congr 1
  exact kv q.inputs 0 _ fun k x s hk=>by rw [h x (gF hk)]
 ·simp only [jO]
  have e : ∀ x,(iK fun n=>jQ n x) = lJ x := fun _=>rfl
  simp only [e]
  rw [rMa (xs := q.inputs) (s := (0,0)) (fun k=>ew q.kind 0 ((q.inputs.take k).map bU) (0,0)) (by simp [ew]) (fun k x hk=>by
    have hx := gF hk
    rw [ih x hx,bPs,mostStep_run (pR ⟨by decide,by decide,by decide,by decide⟩ fun y hy=>by
     obtain ⟨z,_,rfl⟩ := List.mem_map.1 hy
     exact mostQ_r z) (mostQ_r x),List.take_add_one,hk]
    have hk' := (zg.1 hk).1
    simp only [Option.toList_some,List.map_append,List.map_cons,List.map_nil]
    rw [qn]
    congr 3
    simp
    omega)]
  rw [bPs,ce,List.take_length,lh]
  by_cases h1 : q.kind = 1
  ·simp [h1,dN]
  ·have : (q.kind == (1 : Int)) = false := by simpa using h1
   simp [h1,this,dN]
def nV : List (Int → Int) → Int → Int
 | [],s=>s
 | f :: l,s=>if s < 0 then -1 else nV l (f (IntKind.i64.wrap (s - 1)))
def sizeHere (q : LQuery) (m : Int) : Int :=
 q.aggregates.foldl (fun s a=>a.args.foldl (fun s e=>jf e (IntKind.i64.wrap (s - 1))) s) (q.exprs.foldl (fun s e=>jf e (IntKind.i64.wrap (s - 1))) m)
def lL (q : LQuery) : Int → Int := fun m=>nV (q.inputs.attach.map fun x=>lL x.1) (sizeHere q m)
termination_by SizeOf.sizeOf q
decreasing_by exact LQuery.inputs_lt x.2
theorem sizeQ_eq (q : LQuery) (m : Int) : lL q m = nV (q.inputs.map lL) (sizeHere q m) := by
 rw [lL,List.attach_map_val (f := lL)]
theorem qI {f : LQuery → Int → Option Int} : ∀ (l : List LQuery) (j : Nat) (s : Int),(∀ x ∈ l,∀ m,f x m = some (lL x m)) →
  aj (ba (σ := Int) (ρ := Int) (fun (_ : Nat) (x6 : LQuery) (s6 : Int)=>cond (decide (s6 < (0 : Int))) (some (.ret (-1))) (aj (f x6 (IntKind.i64.wrap (s6 - (1 : Int)))) fun x57=>some (.next x57))) j l s) (fun fl6=>fl6.thenR fun (s6 : Int)=>some s6) = some (nV (l.map lL) s)
 | [],j,s,_=>rfl
 | x :: l,j,s,h=>by
  rw [ba,List.map_cons,nV]
  by_cases hs : s < 0
  ·simp [hs]
  ·simp only [hs,decide_false,zd,if_false]
   rw [h x (by simp),bPs]
   exact qI l (j + 1) _ fun y hy=>h y (by simp [hy])
theorem size_ok : ∀ (q : LQuery) (m : Int),lq q m = some (lL q m) := by
 have key : ∀ q : LQuery,∃ N,∀ n,N ≤ n → ∀ m,gB n q m = some (lL q m) := by
  refine LQuery.ind fun q ih=>?_
  obtain ⟨N,hN⟩ := ev_all (p := fun x n=>∀ m,gB n x m = some (lL x m)) q.inputs ih
  refine ⟨N + 1,fun n hn m=>?_⟩
  obtain ⟨n,rfl⟩ : ∃ k,n = k + 1 := ⟨n - 1,by omega⟩
  rw [gB]
  simp only [jW,bT]
  rw [mw (xs := q.exprs) (fun s e=>jf e (IntKind.i64.wrap (s - 1))) (fun _ _ _=>rfl),bPs,ce]
  rw [mw (xs := q.aggregates) (fun s a=>a.args.foldl (fun s e=>jf e (IntKind.i64.wrap (s - 1))) s) (fun k a _=>by
   rw [mw (xs := a.args) (fun s e=>jf e (IntKind.i64.wrap (s - 1))) (fun _ _ _=>rfl),bPs,ce]),bPs,ce]
  rw [qI q.inputs 0 _ (hN n (by omega)),sizeQ_eq]
  rfl
 intro q m
 obtain ⟨N,hN⟩ := key q
 exact nz N fun n hn=>hN n hn m
theorem LExpr.args_lt {e x : LExpr} (h : x ∈ e.args) : SizeOf.sizeOf x < SizeOf.sizeOf e := by
 cases e
 simp only [LExpr.args] at h
 have := List.sizeOf_lt_of_mem h
 simp only [LExpr.mk.sizeOf_spec]
 omega
theorem LExpr.ind {p : LExpr → Prop} (h : ∀ e : LExpr,(∀ x ∈ e.args,p x) → p e) : ∀ e,p e := by
 intro e
 generalize hn : SizeOf.sizeOf e = n
 induction n using Nat.strongRecOn generalizing e with
 | _ n ih=>exact h e fun x hx=>ih _ (hn ▸ LExpr.args_lt hx) x rfl
def iP (e : LExpr) : List (Nat × Int) := if e.kind = 3 ∧ 0 ≤ e.index ∧ e.index < 8 then [(e.index.toNat,e.value.kind)] else []
def cZ (e : LExpr) : List (Nat × Int) := iP e ++ (e.args.attach.map fun x=>cZ x.1).flatten
termination_by SizeOf.sizeOf e
decreasing_by exact LExpr.args_lt x.2
theorem lK (e : LExpr) : cZ e = iP e ++ (e.args.map cZ).flatten := by
 rw [cZ,List.attach_map_val (f := cZ)]
abbrev PSt := List Int × Bool × List Bool
def iu (out : List Int) (i : Nat) : List Int := out ++ List.replicate (i + 1 - out.length) 0
def eN (s : PSt) (p : Nat × Int) : PSt :=
 ((iu s.1 p.1).set p.1 p.2,s.2.1 || (s.2.2.getD p.1 false && (iu s.1 p.1).getD p.1 0 != p.2),s.2.2.set p.1 true)
def POk (s : PSt) : Prop := s.1.length ≤ 8 ∧ s.2.2.length = 8
theorem mQ (out : List Int) (i : Nat) : (iu out i).length = max out.length (i + 1) := by simp [iu]; omega
theorem pstep_ok {s : PSt} {p : Nat × Int} (h : POk s) (hp : p.1 < 8) : POk (eN s p) := by
 refine ⟨?_,by simp [eN,h.2]⟩
 show ((iu s.1 p.1).set p.1 p.2).length ≤ 8
 rw [List.length_set,mQ]
 have := h.1
 omega
theorem lV : ∀ e : LExpr,∀ p ∈ cZ e,p.1 < 8 := by
 refine LExpr.ind fun e ih p hp=>?_
 rw [lK,List.mem_append] at hp
 rcases hp with hp | hp
 ·unfold iP at hp
  split at hp
  ·rename_i h; simp at hp; subst hp; simp; omega
  ·simp at hp
 ·obtain ⟨l,hl,hp⟩ := List.mem_flatten.1 hp
  obtain ⟨x,hx,rfl⟩ := List.mem_map.1 hl
  exact ih x hx p hp
theorem lp : ∀ {l : List (Nat × Int)} {s : PSt},POk s → (∀ p ∈ l,p.1 < 8) → POk (l.foldl eN s)
 | [],_,h,_=>h
 | p :: l,s,h,hl=>lp (l := l) (pstep_ok h (hl p (by simp))) fun q hq=>hl q (by simp [hq])
theorem pad_while (i : Nat) (hi : i < 8) : ∀ (n : Nat) (out : List Int),i + 1 - out.length = n → out.length ≤ 8 →
  whileM (σ := List Int) (ρ := Empty) (fun (s7 : List Int)=>cond (decide ((s7.length : Int) ≤ (i : Int))) (aj (dW 8 s7 ([0] : List Int)) fun (x28 : List Int)=>some (.next x28)) (some (.brk s7))) out = some (.next (iu out i))
 | 0,out,hn,ho=>by
  refine eA (fl := .brk out) ?_ ?_
  ·have : ¬ ((out.length : Int) ≤ (i : Int)) := by omega
   simp [this]
  ·simp [iu,hn]
 | n + 1,out,hn,ho=>by
  refine eA (fl := .next (out ++ [0])) ?_ ?_
  ·have : (out.length : Int) ≤ (i : Int) := by omega
   simp only [this,decide_true,zc]
   rw [cJ (by decide) (by simp; omega)]
   rfl
  ·have := pad_while i hi n (out ++ [0]) (by simp; omega) (by simp; omega)
   simp only
   rw [this]
   simp only [iu,List.length_append,List.length_singleton,List.append_assoc,hn]
   rw [show i + 1 - (out.length + 1) = n from by omega,show (List.replicate (n + 1) (0 : Int)) = [0] ++ List.replicate n 0 from rfl]
theorem arrI_at {xs : List Bool} {i : Nat} (h : xs.length = 8) (hi : i < 8) : arrI 8 xs (i : Int) = some (xs.getD i false) := by
 have : xs[i]? = some (xs.getD i false) := by rw [List.getD_eq_getElem?_getD,ze (by omega)]; rfl
 exact arrI_eq (by omega) (by simpa using this)
theorem getI_at {xs : List Int} {i : Nat} (h : i < xs.length) : aF xs (i : Int) = some (xs.getD i 0) := by
 have : xs[i]? = some (xs.getD i 0) := by rw [List.getD_eq_getElem?_getD,ze h]; rfl
 exact kF this
theorem look_ok : ∀ e : LExpr,∃ N,∀ n,N ≤ n → ∀ s : PSt,POk s → dD n e s.1 s.2.1 s.2.2 = some ((cZ e).foldl eN s) := by
 refine LExpr.ind fun e ih=>?_
 obtain ⟨N,hN⟩ := ev_all (p := fun x n=>∀ s : PSt,POk s → dD n x s.1 s.2.1 s.2.2 = some ((cZ x).foldl eN s)) e.args ih
 refine ⟨N + 1,fun n hn s hs=>?_⟩
 obtain ⟨n,rfl⟩ : ∃ k,n = k + 1 := ⟨n - 1,by omega⟩
 rw [dD]
 simp only [gM]
 have h1 : POk ((iP e).foldl eN s) := lp hs fun p hp=>lV e p (by rw [lK]; simp [hp])
 have hloop : ∀ s : PSt,POk s → aj (ba (σ := List Int × Bool × List Bool) (ρ := Empty) (fun (_ : Nat) (x11 : LExpr) (s11 : List Int × Bool × List Bool) =>
   aj (dD n x11 s11.1 s11.2.1 s11.2.2) fun x66=>some (.next (x66.1,x66.2.1,x66.2.2))) 0 e.args (s.1,s.2.1,s.2.2)) (fun fl11=>fl11.thenP fun (s11 : List Int × Bool × List Bool)=>some (s11.1,s11.2.1,s11.2.2)) =
   some (((e.args.map cZ).flatten).foldl eN s) := by
  intro s hs
  rw [rMa (xs := e.args) (s := (s.1,s.2.1,s.2.2)) (fun k=>(((e.args.take k).map cZ).flatten).foldl eN s) rfl (fun k x hk=>by
   have hx := gF hk
   have hok : POk ((((e.args.take k).map cZ).flatten).foldl eN s) := lp hs fun p hp=>by
    obtain ⟨l,hl,hp⟩ := List.mem_flatten.1 hp
    obtain ⟨y,hy,rfl⟩ := List.mem_map.1 hl
    exact lV y p hp
   rw [hN n (by omega) x hx _ hok,bPs,List.take_add_one,hk]
   simp)]
  rw [bPs,ce,List.take_length]
 have key : (aj (cond (bn (cond (e.kind == (3 : Int)) (cond (decide (e.index ≥ (0 : Int))) ((decide (e.index < (8 : Int)))) (false)) (false)) fun (t1 : Bool)=>t1)
   (aj (whileM (σ := List Int) (ρ := Empty) (fun (s7 : List Int)=>cond (decide ((s7.length : Int) ≤ e.index)) (aj (dW 8 s7 ([0] : List Int)) fun (x28 : List Int)=>some (.next x28)) (some (.brk s7))) s.1) fun fl7=>fl7.thenP fun (s7 : List Int) =>
   aj (cond s.2.1 (some true) (aj (arrI 8 s.2.2 e.index) fun (x33 : Bool)=>cond x33 (aj (aF s7 e.index) fun (x39 : Int)=>some (x39 != e.value.kind)) (some false))) fun (t8 : Bool) =>
   aj (aF s7 e.index) fun (_ : Int)=>bn (s7.set e.index.toNat e.value.kind) fun (y9 : List Int)=>aj (arrI 8 s.2.2 e.index) fun (_ : Bool)=>bn (s.2.2.set e.index.toNat true) fun (y10 : List Bool)=>some (y9,t8,y10))
   (some (s.1,s.2.1,s.2.2))) fun t=>some t) = some ((iP e).foldl eN s) := by
  unfold bn
  by_cases hc : e.kind = 3 ∧ 0 ≤ e.index ∧ e.index < 8
  ·obtain ⟨hk,h0,h8⟩ := hc
   obtain ⟨i,hi⟩ : ∃ i : Nat,e.index = i := ⟨e.index.toNat,by omega⟩
   have hi8 : i < 8 := by omega
   have e0 : (e.kind == (3 : Int)) = true := by simpa using hk
   have e1 : decide (e.index ≥ (0 : Int)) = true := zt h0
   have e2 : decide (e.index < (8 : Int)) = true := zt h8
   rw [e0,e1,e2]
   simp only [zc]
   rw [hi,pad_while i hi8 _ s.1 rfl hs.1]
   simp only [bPs,ce]
   have hl : i < (iu s.1 i).length := by rw [mQ]; omega
   rw [arrI_at hs.2 hi8,getI_at hl]
   simp only [bPs,Int.toNat_natCast]
   have hh : iP e = [(i,e.value.kind)] := by unfold iP; rw [zp ⟨hk,h0,h8⟩,hi,Int.toNat_natCast]
   rw [hh]
   simp only [List.foldl_cons,List.foldl_nil,eN]
   cases hb : s.2.1 <;> cases hc : s.2.2.getD i false <;> simp
  ·have hh : iP e = [] := by unfold iP; rw [zy hc]
   rw [hh]
   have e0 : (cond (e.kind == (3 : Int)) (cond (decide (e.index ≥ (0 : Int))) ((decide (e.index < (8 : Int)))) (false)) (false)) = false := by
    by_cases a : e.kind = 3
    ·by_cases b : 0 ≤ e.index
     ·have : ¬ e.index < 8 := fun h=>hc ⟨a,b,h⟩
      simp [this]
     ·have : ¬ e.index ≥ 0 := b
      simp [this]
    ·have : (e.kind == (3 : Int)) = false := by simpa using a
     simp [this]
   rw [e0]
   rfl
 simp only [bT] at key ⊢
 rw [lK,List.foldl_append,← hloop _ h1]
 generalize hg : (cond _ _ _ : Option PSt) = o at key
 cases o with
 | none=>cases key
 | some t =>
  simp only [bPs,zo] at key
  subst key
  rfl
theorem look_eq (e : LExpr) {s : PSt} (h : POk s) : fK e s.1 s.2.1 s.2.2 = some ((cZ e).foldl eN s) := by
 obtain ⟨N,hN⟩ := look_ok e
 exact nz N fun n hn=>hN n hn s h
def iT (x : LQuery) : List (Nat × Int) := (x.exprs.map cZ).flatten ++ (x.aggregates.map fun a=>(a.args.map cZ).flatten).flatten
def gP (q : LQuery) : List (Nat × Int) := ((cT q).map iT).flatten
theorem nw {x : LQuery} : ∀ p ∈ iT x,p.1 < 8 := by
 intro p hp
 rcases List.mem_append.1 hp with hp | hp
 ·obtain ⟨l,hl,hp⟩ := List.mem_flatten.1 hp
  obtain ⟨e,_,rfl⟩ := List.mem_map.1 hl
  exact lV e p hp
 ·obtain ⟨l,hl,hp⟩ := List.mem_flatten.1 hp
  obtain ⟨a,_,rfl⟩ := List.mem_map.1 hl
  obtain ⟨l,hl,hp⟩ := List.mem_flatten.1 hp
  obtain ⟨e,_,rfl⟩ := List.mem_map.1 hl
  exact lV e p hp
theorem paramsQ_lt {q : LQuery} : ∀ p ∈ gP q,p.1 < 8 := by
 intro p hp
 obtain ⟨l,hl,hp⟩ := List.mem_flatten.1 hp
 obtain ⟨x,_,rfl⟩ := List.mem_map.1 hl
 exact nw p hp
theorem lookAll {l : List LExpr} {s : PSt} (h : POk s) : ba (σ := PSt) (ρ := Empty) (fun (_ : Nat) (x12 : LExpr) (s12 : PSt) =>
   aj (fK x12 s12.1 s12.2.1 s12.2.2) fun x33=>some (.next (x33.1,x33.2.1,x33.2.2))) 0 l (s.1,s.2.1,s.2.2) = some (.next (((l.map cZ).flatten).foldl eN s)) := by
 rw [rMa (xs := l) (s := (s.1,s.2.1,s.2.2)) (fun k=>(((l.take k).map cZ).flatten).foldl eN s) rfl (fun k x hk=>by
  have hok : POk ((((l.take k).map cZ).flatten).foldl eN s) := lp h fun p hp=>by
   obtain ⟨m,hm,hp⟩ := List.mem_flatten.1 hp
   obtain ⟨y,hy,rfl⟩ := List.mem_map.1 hm
   exact lV y p hp
  rw [look_eq x hok,bPs,List.take_add_one,hk]
  simp),List.take_length]
def ee (q : LQuery) : PSt := (gP q).foldl eN ([],false,List.replicate 8 false)
theorem kinds_ok {q : LQuery} (hb : (cT q).length ≤ 10000000) : fq q = some (cond (ee q).2.1 ([],13) ((ee q).1,0)) := by
 unfold fq
 rw [nodes_ok q hb,bPs]
 rw [rMa (xs := cT q) (s := ([],false,List.replicate 8 false)) (fun k=>((((cT q).take k).map iT).flatten).foldl eN ([],false,List.replicate 8 false)) rfl (fun k x hk=>by
  have hok : POk (((((cT q).take k).map iT).flatten).foldl eN ([],false,List.replicate 8 false)) := lp ⟨by simp,by simp⟩ fun p hp=>by
   obtain ⟨m,hm,hp⟩ := List.mem_flatten.1 hp
   obtain ⟨y,hy,rfl⟩ := List.mem_map.1 hm
   exact nw p hp
  rw [lookAll hok,bPs,ce]
  rw [show ((((cT q).take (k + 1)).map iT).flatten).foldl eN ([],false,List.replicate 8 false) = (iT x).foldl eN (((((cT q).take k).map iT).flatten).foldl eN ([],false,List.replicate 8 false)) from by
   rw [List.take_add_one,hk]
   simp only [Option.toList_some,List.map_append,List.map_cons,List.map_nil,List.flatten_append,List.flatten_cons,List.flatten_nil,List.append_nil,List.foldl_append]]
  generalize (((((cT q).take k).map iT).flatten).foldl eN ([],false,List.replicate 8 false)) = s at hok ⊢
  have hok2 : POk (((x.exprs.map cZ).flatten).foldl eN s) := lp hok fun p hp=>nw (x := x) p (by unfold iT; simp only [List.mem_append]; exact .inl hp)
  rw [rMa (xs := x.aggregates) (s := ((((x.exprs.map cZ).flatten).foldl eN s).1,(((x.exprs.map cZ).flatten).foldl eN s).2.1,(((x.exprs.map cZ).flatten).foldl eN s).2.2))
   (fun k=>((((x.aggregates.take k).map fun a=>(a.args.map cZ).flatten).flatten).foldl eN (((x.exprs.map cZ).flatten).foldl eN s))) rfl (fun k a ha=>by
    have hok3 : POk ((((x.aggregates.take k).map fun a=>(a.args.map cZ).flatten).flatten).foldl eN (((x.exprs.map cZ).flatten).foldl eN s)) := lp hok2 fun p hp=>nw (x := x) p (by
     unfold iT
     simp only [List.mem_append]
     obtain ⟨m,hm,hp⟩ := List.mem_flatten.1 hp
     obtain ⟨y,hy,rfl⟩ := List.mem_map.1 hm
     exact .inr (List.mem_flatten.2 ⟨_,List.mem_map.2 ⟨y,List.mem_of_mem_take hy,rfl⟩,hp⟩))
    rw [lookAll hok3,bPs,ce,List.take_add_one,ha]
    simp)]
  rw [bPs,ce,List.take_length]
  unfold iT
  rw [List.foldl_append])]
 rw [bPs,ce,List.take_length]
 show (cond (ee q).2.1 (some ([],13)) (some ((ee q).1,0))) = _
 cases (ee q).2.1 <;> rfl
def nB (l : List (Nat × Int)) : Prop := ∀ i k k',(i,k) ∈ l → (i,k') ∈ l → k = k'
structure PInv (l : List (Nat × Int)) (s : PSt) : Prop where
 ok : POk s
 seen : ∀ i,i < 8 → (s.2.2.getD i false = true ↔ ∃ k,(i,k) ∈ l)
 len : ∀ i k,(i,k) ∈ l → i < s.1.length
 last : s.1.length = 0 ∨ ∃ k,(s.1.length - 1,k) ∈ l
 zero : ∀ i,(∀ k,(i,k) ∉ l) → s.1.getD i 0 = 0
 good : s.2.1 = false → ∀ i k,(i,k) ∈ l → s.1.getD i 0 = k
 bad : nB l → s.2.1 = false
theorem oy (out : List Int) (i j : Nat) : (iu out i).getD j 0 = out.getD j 0 := by
 simp only [iu,List.getD_eq_getElem?_getD]
 by_cases h : j < out.length
 ·rw [List.getElem?_append_left h]
 ·rw [List.getElem?_append_right (by omega),List.getElem?_eq_none (l := out) (by omega),List.getElem?_replicate]
  split <;> rfl
theorem PInv.init : PInv [] ([],false,List.replicate 8 false) :=
 ⟨⟨by simp,by simp⟩,fun i hi=>by
  have : (List.replicate 8 false).getD i false = false := by rw [List.getD_eq_getElem?_getD,List.getElem?_replicate]; split <;> rfl
  exact ⟨fun h=>(by rw [show (([],false,List.replicate 8 false) : PSt).2.2 = List.replicate 8 false from rfl,this] at h; cases h),fun ⟨k,hk⟩=>(by simp at hk)⟩,fun i k h=>by simp at h,.inl rfl,fun i _=>by simp,fun _ i k h=>by simp at h,fun _=>rfl⟩
theorem PInv.step {l : List (Nat × Int)} {s : PSt} (h : PInv l s) {p : Nat × Int} (hp : p.1 < 8) : PInv (l ++ [p]) (eN s p) := by
 obtain ⟨i,k⟩ := p
 simp only at hp
 have hset : ∀ (xs : List Int) (j : Nat) (v : Int),i < xs.length → (xs.set i v).getD j 0 = if j = i then v else xs.getD j 0 := by
  intro xs j v hl
  rw [List.getD_eq_getElem?_getD,List.getD_eq_getElem?_getD,List.getElem?_set]
  by_cases hji : i = j
  ·subst hji; simp [hl]
  ·have : j ≠ i := fun h=>hji h.symm
   simp [hji,this]
 have hl1 : i < (iu s.1 i).length := by rw [mQ]; omega
 refine ⟨pstep_ok h.ok hp,fun j hj=>?_,fun j k' hm=>?_,?_,fun j hno=>?_,fun hb j k' hm=>?_,fun hk=>?_⟩
 ·show (s.2.2.set i true).getD j false = true ↔ _
  rw [List.getD_eq_getElem?_getD,List.getElem?_set]
  by_cases hji : i = j
  ·subst hji
   have : i < s.2.2.length := by rw [h.ok.2]; exact hp
   simp [this]
  ·have h1 := h.seen j hj
   rw [List.getD_eq_getElem?_getD] at h1
   have hji' : j ≠ i := fun h=>hji h.symm
   simp only [hji,if_false,h1,List.mem_append,List.mem_singleton,Prod.mk.injEq,hji',false_and,or_false]
 ·show j < ((iu s.1 i).set i k).length
  rw [List.length_set,mQ]
  rcases List.mem_append.1 hm with hm | hm
  ·have := h.len j k' hm; omega
  ·simp at hm; omega
 ·show ((iu s.1 i).set i k).length = 0 ∨ ∃ k',(((iu s.1 i).set i k).length - 1,k') ∈ l ++ [(i,k)]
  rw [List.length_set,mQ]
  by_cases hle : s.1.length ≤ i + 1
  ·right
   exact ⟨k,by rw [show max s.1.length (i + 1) - 1 = i from by omega]; simp⟩
  ·rcases h.last with h0 | ⟨k',hk'⟩
   ·omega
   ·right
    exact ⟨k',by rw [show max s.1.length (i + 1) - 1 = s.1.length - 1 from by omega]; simp [hk']⟩
 ·show ((iu s.1 i).set i k).getD j 0 = 0
  have hji : j ≠ i := fun e=>hno k (by simp [e])
  rw [hset _ _ _ hl1,zy hji,oy]
  exact h.zero j fun k' hm=>hno k' (by simp [hm])
 ·have hb' : s.2.1 = false ∧ (s.2.2.getD i false && (iu s.1 i).getD i 0 != k) = false := by
   have : (s.2.1 || (s.2.2.getD i false && (iu s.1 i).getD i 0 != k)) = false := hb
   simpa using this
  show ((iu s.1 i).set i k).getD j 0 = k'
  rw [hset _ _ _ hl1]
  have hold := h.good hb'.1
  rcases List.mem_append.1 hm with hm1 | hm
  ·by_cases hji : j = i
   ·subst hji
    rw [zp rfl]
    have hs := (h.seen j hp).2 ⟨k',hm1⟩
    have := hb'.2
    rw [hs,oy,hold j k' hm1] at this
    simp at this
    exact this.symm
   ·rw [zy hji,oy]
    exact hold j k' hm1
  ·simp at hm
   rw [zp hm.1,hm.2]
 ·have h1 := h.bad fun i k k' a b=>hk i k k' (by simp [a]) (by simp [b])
  show (s.2.1 || (s.2.2.getD i false && (iu s.1 i).getD i 0 != k)) = false
  rw [h1,Bool.false_or,oy]
  cases hs : s.2.2.getD i false with
  | false=>rfl
  | true =>
   obtain ⟨k',hk'⟩ := (h.seen i hp).1 hs
   rw [h.good h1 i k' hk',hk i k' k (by simp [hk']) (by simp)]
   simp
theorem PInv.fold : ∀ {r l : List (Nat × Int)} {s : PSt},PInv l s → (∀ p ∈ r,p.1 < 8) → PInv (l ++ r) (r.foldl eN s)
 | [],l,s,h,_=>by simpa using h
 | p :: r,l,s,h,hr=>by
  have := PInv.fold (r := r) (h.step (hr p (by simp))) fun q hq=>hr q (by simp [hq])
  simpa using this
theorem kinds_inv (q : LQuery) : PInv (gP q) (ee q) := by
 have := PInv.fold (r := gP q) PInv.init paramsQ_lt
 rw [List.nil_append] at this
 exact this
theorem kinds_bad {q : LQuery} : (ee q).2.1 = false ↔ nB (gP q) := by
 have h := kinds_inv q
 refine ⟨fun hb i k k' a b=>?_,h.bad⟩
 rw [← h.good hb i k a,← h.good hb i k' b]
structure ArgsOk (l : List (Nat × Int)) (args : Rq) : Prop where
 kinds : nB l
 args : ∀ i k,(i,k) ∈ l → i < args.length ∧ (∀ j x,j ≤ i → args[j]? = some x → eO x = true) ∧ (∀ x,args[i]? = some x → k = 0 ∨ x.kind = k ∨ x.kind = 0)
theorem ArgsOk.sub {l l' : List (Nat × Int)} {args : Rq} (h : ArgsOk l args) (hs : ∀ p ∈ l',p ∈ l) : ArgsOk l' args :=
 ⟨fun i k k' a b=>h.kinds i k k' (hs _ a) (hs _ b),fun i k a=>h.args i k (hs _ a)⟩
theorem args_ok {q : LQuery} (hb : (cT q).length ≤ 10000000) (args : Rq) : ∃ e,fp q args = some e ∧ (e = 0 ↔ ArgsOk (gP q) args) := by
 unfold fp
 rw [kinds_ok hb,bPs]
 have h := kinds_inv q
 cases hbad : (ee q).2.1 with
 | true =>
  refine ⟨13,by simp,?_⟩
  have : ¬ nB (gP q) := fun hk=>by rw [kinds_bad.2 hk] at hbad; cases hbad
  exact ⟨fun h=>by omega,fun h=>absurd h.kinds this⟩
 | false =>
  simp only [zd]
  have hk := kinds_bad.1 hbad
  by_cases hl : args.length < (ee q).1.length
  ·refine ⟨1,by simp [hl],fun h=>by omega,fun ha=>?_⟩
   rcases h.last with h0 | ⟨k,hm⟩
   ·omega
   ·have := (ha.args _ _ hm).1; omega
  ·have hge : (ee q).1.length ≤ args.length := by omega
   have hstep : ∀ k x,(ee q).1[k]? = some x → ∃ y,args[k]? = some y := fun k x hx=>by
    have := (zg.1 hx).1
    exact ⟨args[k],ze (by omega)⟩
   let okAt : Nat → Int → Prop := fun k x=>∀ y,args[k]? = some y → eO y = true ∧ (x = 0 ∨ y.kind = x ∨ y.kind = 0)
   obtain ⟨fl,hfl,hres⟩ := fy (step := fun (j1 : Nat) (x1 : Int) (_ : Unit)=>aj (aF args (j1 : Int)) fun (x31 : LVal)=>bn (eO x31) fun x33=>cond (!x33) (some (Flow.ret (σ := Unit) (7 : Int)))
     (cond (x1 != (0 : Int)) (aj (aF args (j1 : Int)) fun (x41 : LVal)=>cond (x41.kind != x1) (aj (aF args (j1 : Int)) fun (x50 : LVal)=>cond (x50.kind != (0 : Int)) (some (.ret 7)) (some (.next ()))) (some (.next ()))) (some (.next ()))))
    (fun j _=>∀ k x,k < j → (ee q).1[k]? = some x → okAt k x) (fun r=>r = 7 ∧ ∃ k x,(ee q).1[k]? = some x ∧ ¬ okAt k x) (ee q).1 0 () (fun k x hk=>by omega) (fun k x s hk hI=>by
     obtain ⟨y,hy⟩ := hstep k x hk
     simp only [Nat.zero_add] at hI ⊢
     rw [kF hy]
     simp only [bPs,bT]
     have next : okAt k x → ∀ k' x',k' < k + 1 → (ee q).1[k']? = some x' → okAt k' x' := fun ho k' x' hk' hx'=>by
      by_cases he : k' = k
      ·subst he; rw [hk] at hx'; cases hx'; exact ho
      ·exact hI k' x' (by omega) hx'
     cases hv : eO y with
     | false=>exact ⟨_,rfl,rfl,k,x,hk,fun ho=>by have := (ho y hy).1; rw [hv] at this; cases this⟩
     | true =>
      simp only [Bool.not_true,zd]
      by_cases hx0 : x = 0
      ·refine ⟨.next (),by simp [hx0],next fun z hz=>?_⟩
       rw [hy] at hz; cases hz; exact ⟨hv,.inl hx0⟩
      ·have e0 : (x != (0 : Int)) = true := by simpa using hx0
       rw [e0,zc]
       by_cases hyx : y.kind = x
       ·refine ⟨.next (),by simp [hyx],next fun z hz=>?_⟩
        rw [hy] at hz; cases hz; exact ⟨hv,.inr (.inl hyx)⟩
       ·have e1 : (y.kind != x) = true := by simpa using hyx
        rw [e1,zc]
        by_cases hy0 : y.kind = 0
        ·refine ⟨.next (),by simp [hy0],next fun z hz=>?_⟩
         rw [hy] at hz; cases hz; exact ⟨hv,.inr (.inr hy0)⟩
        ·have e2 : (y.kind != (0 : Int)) = true := by simpa using hy0
         refine ⟨.ret 7,by simp [e2],rfl,k,x,hk,fun ho=>?_⟩
         rcases (ho y hy).2 with a | a | a
         ·exact hx0 a
         ·exact hyx a
         ·exact hy0 a)
   have e0 : decide ((args.length : Int) < ((ee q).1.length : Int)) = false := zf (by omega)
   simp only [bne_self_eq_false,zd,e0]
   rw [hfl,bPs]
   have hget : ∀ k,k < (ee q).1.length → (ee q).1[k]? = some ((ee q).1.getD k 0) := fun k hk=>by
    rw [List.getD_eq_getElem?_getD,ze hk]; rfl
   cases fl with
   | brk s=>exact absurd hres (by simp)
   | next s =>
    refine ⟨0,rfl,fun _=>⟨hk,fun i k hm=>?_⟩,fun _=>rfl⟩
    have hi := h.len i k hm
    simp only [Nat.zero_add] at hres
    refine ⟨by omega,fun j x hj hx=>?_,fun x hx=>?_⟩
    ·exact ((hres j _ (by omega) (hget j (by omega))) x hx).1
    ·have := ((hres i _ (by omega) (hget i (by omega))) x hx).2
     rwa [h.good hbad i k hm] at this
   | ret r =>
    obtain ⟨rfl,k,x,hx,hno⟩ := hres
    refine ⟨7,rfl,fun h=>by omega,fun ha=>absurd ?_ hno⟩
    intro y hy
    have hkl := (zg.1 hx).1
    rcases h.last with h0 | ⟨k',hm⟩
    ·omega
    ·have hv := (ha.args _ _ hm).2.1 k y (by omega) hy
     refine ⟨hv,?_⟩
     by_cases hex : ∃ k2,(k,k2) ∈ gP q
     ·obtain ⟨k2,hm2⟩ := hex
      have hg := h.good hbad k k2 hm2
      have hxx : x = k2 := by
       rw [hget k hkl] at hx
       rw [← hg]
       exact (Option.some.inj hx).symm
      rw [hxx]
      exact (ha.args k k2 hm2).2.2 y hy
     ·left
      have := h.zero k fun k2 hm2=>hex ⟨k2,hm2⟩
      rw [hget k hkl] at hx
      rw [← this]
      exact (Option.some.inj hx).symm
end
end Go.Proofs.YtgaggbdcedpapaaGreat
