/- queryGroupsPartitionRowsUpto_holds, part 6: the layer, the plain functions and what they compute; conditions as in the statement. -/
import Derived.Test.YtgaggbdcedpapaaGreatGse
namespace Go.Proofs.YtgaggbdcedpapaaGreat
noncomputable section
open Go Go.Ab
attribute [local irreducible] V Ao Do Gh Eff PH IntKind.wrap
set_option maxRecDepth 4000
def fJ (sA : LSchema) (st : List LRelation) (q : LQuery) (args : List LVal) (vars : List LCol) (vals : List LVal) : Option (LResult × Int) :=
 af (eF sA vars q) fun x28 =>
 cond (x28.2 != (0 : Int))
  (some ((LResult.mk [] []),x28.2))
  (af (dN q args) fun x37 =>
  cond (x37 != (0 : Int))
   (some ((LResult.mk [] []),x37))
   (af (dT sA st) fun x44 =>
   cond (x44 != (0 : Int))
    (some ((LResult.mk [] []),x44))
    (af (aE (σ := List (List UInt8)) (ρ := Empty) (fun (_ : Nat) (x1 : LCol) (s1 : List (List UInt8)) =>
     af (cI 16 s1 ([x1.name] : List (List UInt8))) fun (x66 : List (List UInt8)) =>
     some (.next x66)) 0 vars []) fun fl1=>fl1.thenP fun (s1 : List (List UInt8)) =>
    af (ju (LRun.mk sA st args vars s1 vals) q) fun x73 =>
    af (aE (σ := List (List LVal)) (ρ := Empty) (fun (_ : Nat) (x2 : List LVal) (s2 : List (List LVal)) =>
     af (cI 24 s2 ([x2] : List (List LVal))) fun (x84 : List (List LVal)) =>
     some (.next x84)) 0 x73 []) fun fl2=>fl2.thenP fun (s2 : List (List LVal)) =>
    some ((LResult.mk x28.1 s2),0))))
set_option maxHeartbeats 4000000 in
theorem mq (sA : LSchema) (st : List LRelation) (q : LQuery) (args : List LVal) (vars : List LCol) (vals : List LVal) (r : LResult × Int) (H : fJ sA st q args vars vals = some r) :
  aG Tryz.prog 81 [(.agg (db sA)),(.list 87 (st.map bg)),(.agg (aQ q)),(.list 53 (args.map ae)),(.list 50 (vars.map av)),(.list 53 (vals.map ae))] (.tup [(.agg (nV r.1)),(ac r.2)]) := by
 unfold fJ at H
 refine PH.intro Tryz.func81 rfl Tryz.ntmps81 rfl ?_
 refine V.seq (V.ab (Ao.aF rfl rfl rfl rfl rfl rfl (Ao.aF rfl rfl rfl rfl rfl rfl ?_)))
 refine Ao.aJ tk rfl rfl rfl rfl rfl rfl fun b12=>?_
 refine Ao.q tk rfl (Ao.nil (V.seq (V.ab (Ao.q tk rfl (Ao.q tk rfl (Ao.q tk rfl ?_))))))
 obtain ⟨x28,h28,H⟩ := aj H
 have s28 := kg sA vars q _ h28
 refine Ao.ah (g := 54) rfl rfl rfl Tryz.call54 (il.r) s28 rfl (Ao.q tk rfl (Ao.q tk rfl (Ao.q tk rfl (Ao.q tk rfl (Ao.q tk rfl (Ao.nil (V.seq (V.seq (V.ab (Ao.q tk rfl (Ao.q tk rfl (Ao.nil ?_))))))))))))
 refine V.ak rfl (fun h=>?_) (fun h=>?_)
 ·have H := condT h H
  refine V.seq (V.ab (Ao.q tk rfl (Ao.q tk rfl (Ao.sB tk rfl rfl rfl rfl rfl rfl rfl rfl rfl rfl rfl (Ao.q tk rfl (Ao.nil ?_))))))
  obtain rfl := ai H
  refine V.aq tk rfl (ps := [(.agg [(.val (.slice none 0 0)),(.val (.slice none 0 0))]),(ac x28.2)]) ⟨_,_,rfl,⟨_,_,_,_,_,rfl,rfl,rfl,rfl⟩,_,_,rfl,rfl,rfl⟩ (PLe.of2 (kW.tup (fQ.cons (kW.agg (fQ.cons (kW.nil tk rfl) (fQ.cons (kW.nil tk rfl) fQ.nil))) (fQ.cons (kW.of_eq rfl) fQ.nil))))
 ·have H := condF h H
  refine V.al (V.seq (V.seq (V.ab (Ao.q tk rfl (Ao.q tk rfl ?_)))))
  obtain ⟨x37,h37,H⟩ := aj H
  have s37 := jm q args _ h37
  refine Ao.ah (g := 53) rfl rfl rfl Tryz.call53 (il.r) s37 rfl (Ao.q tk rfl (Ao.nil (V.seq (V.ab (Ao.q tk rfl (Ao.q tk rfl (Ao.nil ?_)))))))
  refine V.ak rfl (fun h=>?_) (fun h=>?_)
  ·have H := condT h H
   refine V.seq (V.ab (Ao.q tk rfl (Ao.q tk rfl (Ao.sB tk rfl rfl rfl rfl rfl rfl rfl rfl rfl rfl rfl (Ao.q tk rfl (Ao.nil ?_))))))
   obtain rfl := ai H
   refine V.aq tk rfl (ps := [(.agg [(.val (.slice none 0 0)),(.val (.slice none 0 0))]),(ac x37)]) ⟨_,_,rfl,⟨_,_,_,_,_,rfl,rfl,rfl,rfl⟩,_,_,rfl,rfl,rfl⟩ (PLe.of2 (kW.tup (fQ.cons (kW.agg (fQ.cons (kW.nil tk rfl) (fQ.cons (kW.nil tk rfl) fQ.nil))) (fQ.cons (kW.of_eq rfl) fQ.nil))))
  ·have H := condF h H
   refine V.al (V.seq (V.seq (V.ab (Ao.q tk rfl (Ao.q tk rfl ?_)))))
   obtain ⟨x44,h44,H⟩ := aj H
   have s44 := kf sA st _ h44
   refine Ao.ah (g := 52) rfl rfl rfl Tryz.call52 (il.r) s44 rfl (Ao.q tk rfl (Ao.nil (V.seq (V.ab (Ao.q tk rfl (Ao.q tk rfl (Ao.nil ?_)))))))
   refine V.ak rfl (fun h=>?_) (fun h=>?_)
   ·have H := condT h H
    refine V.seq (V.ab (Ao.q tk rfl (Ao.q tk rfl (Ao.sB tk rfl rfl rfl rfl rfl rfl rfl rfl rfl rfl rfl (Ao.q tk rfl (Ao.nil ?_))))))
    obtain rfl := ai H
    refine V.aq tk rfl (ps := [(.agg [(.val (.slice none 0 0)),(.val (.slice none 0 0))]),(ac x44)]) ⟨_,_,rfl,⟨_,_,_,_,_,rfl,rfl,rfl,rfl⟩,_,_,rfl,rfl,rfl⟩ (PLe.of2 (kW.tup (fQ.cons (kW.agg (fQ.cons (kW.nil tk rfl) (fQ.cons (kW.nil tk rfl) fQ.nil))) (fQ.cons (kW.of_eq rfl) fQ.nil))))
   ·have H := condF h H
    refine V.al (V.seq (V.ab (Ao.q tk rfl (Ao.q tk rfl (Ao.q tk rfl (Ao.q tk rfl (Ao.q tk rfl (Ao.q tk rfl ?_))))))))
    refine Ao.aJ tk rfl rfl rfl rfl rfl rfl fun b18=>?_
    refine Ao.sB tk rfl rfl rfl rfl rfl rfl rfl rfl rfl rfl rfl (Ao.nil (V.seq (V.seq (V.ab (Ao.q tk rfl (Ao.ay tk rfl rfl rfl rfl rfl (List.length_map _) rfl (Ao.q tk rfl (Ao.nil ?_))))))))
    obtain ⟨fl1,H1,Hp1⟩ := aj H
    refine V.aZ tk 55 rfl rfl (fun hz1 _=>?_)
    rw [List.length_map] at hz1
    refine V.cut (τ := List (List UInt8)) (γ := OwnRef) (fun s1 g1=>⟨88,upd (upd (upd (upd (fun _=>.any) 18 (.box 18 b18 0)) 14 (.list 50 (x28.1.map av))) 12 (.box 12 b12 0)) 8 (.ptr [(ac q.kind),(.str q.table),(.list 9 (q.names.map bo)),(.list 56 (q.exprs.map aI)),(.list 66 (q.aggregates.map bl)),(.list 4 (q.descending.map bB)),(ac q.count),(ac q.offset),(.list 35 (q.inputs.map aD))]),upd (upd (fun _=>none) 18 (some ⟨b18,[(.list 91 (sA.tables.map aO)),(.list 142 (sA.foreignKeys.map bC)),(.list 148 (sA.constraints.map bH)),(.list 87 (st.map bg)),(.list 53 (args.map ae)),(.list 50 (vars.map av)),(.own 66 g1 (s1.map bo).length),(.list 53 (vals.map ae))]⟩)) 12 (some ⟨b12,[(.val (.slice none 0 0)),(.val (.slice none 0 0))]⟩),upd (fun _=>none) 66 (some ⟨g1,9,(s1.map bo),true⟩)⟩) (fun t=>fl1 = .next t) ?_ (fun s1 g1 hn1=>?_)
    ·refine V.ap (V.nilOB tk 18 6 66 (e := 9) rfl rfl rfl rfl ?_)
     refine V.aP (fun j1 s1 g1=>⟨88,upd (upd (upd (upd (upd (upd (upd (fun _=>.any) 57 (ac (j1 : Int))) 56 (ac (vars.length : Int))) 55 (.list 50 (vars.map av))) 18 (.box 18 b18 0)) 14 (.list 50 (x28.1.map av))) 12 (.box 12 b12 0)) 8 (.ptr [(ac q.kind),(.str q.table),(.list 9 (q.names.map bo)),(.list 56 (q.exprs.map aI)),(.list 66 (q.aggregates.map bl)),(.list 4 (q.descending.map bB)),(ac q.count),(ac q.offset),(.list 35 (q.inputs.map aD))]),upd (upd (fun _=>none) 18 (some ⟨b18,[(.list 91 (sA.tables.map aO)),(.list 142 (sA.foreignKeys.map bC)),(.list 148 (sA.constraints.map bH)),(.list 87 (st.map bg)),(.list 53 (args.map ae)),(.list 50 (vars.map av)),(.own 66 g1 (s1.map bo).length),(.list 53 (vals.map ae))]⟩)) 12 (some ⟨b12,[(.val (.slice none 0 0)),(.val (.slice none 0 0))]⟩),upd (fun _=>none) 66 (some ⟨g1,9,(s1.map bo),true⟩)⟩) (⟨none,0⟩) H1 (Gh.le (SLe.aa (PLe.q rfl) (SLe.aa (PLe.q rfl) (SLe.aa (PLe.q rfl) (SLe.aa (PLe.q rfl) (SLe.aa (PLe.q rfl) (SLe.aa (PLe.q rfl) (SLe.aa (PLe.q rfl) SLe.nil))))))) (BLe.ao rfl (il.r) (BLe.ao rfl (il.r) BLe.nil)) (OLe.am rfl OLe.nil)) (fun j1 s1 g1 hj1 hr1=>?_)
     refine V.seq (V.ab (Ao.q tk rfl (Ao.nil (V.seq ?_))))
     refine V.ak rfl (fun h=>?_) (fun h=>?_)
     ·have hl1 := bn h
      obtain ⟨x1,fb1,hx1,H,hg1⟩ := rMc hl1 hr1
      refine V.al (V.seq (V.ap (V.seq (V.ab ?_))))
      refine Ao.idx tk rfl rfl rfl rfl rfl rfl (Int.natCast_nonneg j1) (aY (fun _=>rfl) hx1) rfl ?_
      refine Ao.q tk rfl ?_
      refine Ao.aJ tk rfl rfl rfl rfl rfl rfl fun b20=>?_
      refine Ao.sB tk rfl rfl rfl rfl rfl rfl rfl rfl rfl rfl rfl (Ao.nil (V.ab (Ao.q tk rfl (Ao.lB tk rfl rfl rfl rfl rfl rfl rfl (Ao.q tk rfl (Ao.lB tk rfl rfl rfl rfl rfl rfl rfl (Ao.bsC tk rfl rfl rfl rfl (rows' := List.map bo ([x1.name] : List (List UInt8))) rfl (fj.refl _) rfl rfl ?_)))))))
      obtain ⟨x66,h66,H⟩ := aj H
      have k66 := cf h66
      refine Ao.co (rows2' := List.map bo ([x1.name] : List (List UInt8))) (rows' := List.map bo x66) tk rfl rfl rfl rfl rfl rfl rfl rfl rfl rfl rfl rfl rfl (fj.refl _) (dp k66.1) (dv k66.2.1) (du k66.2.2) fun g66=>?_
      refine Ao.q tk rfl (Ao.sB tk rfl rfl rfl rfl rfl rfl rfl rfl rfl rfl rfl (Ao.nil (V.blk (V.ab (Ao.q tk rfl (Ao.q tk rfl (Ao.nil ?_)))))))
      obtain rfl := ai H
      refine V.ax x66 g66 ⟨hl1,hg1⟩ (Gh.le (SLe.aa (PLe.q rfl) (SLe.aa (PLe.q rfl) (SLe.aa (PLe.q rfl) (SLe.aa (PLe.q rfl) (SLe.aa (PLe.q rfl) (SLe.aa (PLe.q rfl) (SLe.aa (PLe.q (az (by omega))) SLe.nil))))))) (BLe.ao rfl (il.r) (BLe.ao rfl (il.r) BLe.nil)) (OLe.am rfl OLe.nil))
     ·have hn1 := rMd (bm h) hr1
      refine V.aB rfl ?_
      refine V.at s1 g1 hn1 (Gh.le (SLe.aa (PLe.q rfl) (SLe.aa (PLe.q rfl) (SLe.aa (PLe.q rfl) (SLe.aa (PLe.q rfl) SLe.nil)))) (BLe.ao rfl (il.r) (BLe.ao rfl (il.r) BLe.nil)) (OLe.am rfl OLe.nil))
    ·have H := aW hn1 Hp1
     refine V.seq (V.ab (Ao.q tk rfl (Ao.q tk rfl ?_)))
     refine Ao.aJ tk rfl rfl rfl rfl rfl rfl fun b21=>?_
     refine Ao.sB tk rfl rfl rfl rfl rfl rfl rfl rfl rfl rfl rfl (Ao.nil (V.seq (V.seq (V.freezeOB 18 6 rfl rfl rfl rfl rfl (V.ab (Ao.lB tk rfl rfl rfl rfl rfl rfl rfl (Ao.q tk rfl ?_)))))))
     obtain ⟨x73,h73,H⟩ := aj H
     have s73 := oV (LRun.mk sA st args vars s1 vals) q _ h73
     refine Ao.ah (g := 97) rfl rfl rfl Tryz.call97 (il.r) s73 rfl (Ao.ay tk rfl rfl rfl rfl rfl (List.length_map _) rfl (Ao.q tk rfl (Ao.nil ?_)))
     obtain ⟨fl2,H2,Hp2⟩ := aj H
     refine V.aZ tk 73 rfl rfl (fun hz2 _=>?_)
     rw [List.length_map] at hz2
     refine V.cut (τ := List (List LVal)) (γ := OwnRef) (fun s2 g2=>⟨88,upd (upd (fun _=>.any) 21 (.box 21 b21 0)) 12 (.box 12 b12 0),upd (upd (fun _=>none) 21 (some ⟨b21,[(.list 50 (x28.1.map av)),(.own 84 g2 (s2.map (ag 53 ae)).length)]⟩)) 12 (some ⟨b12,[(.val (.slice none 0 0)),(.val (.slice none 0 0))]⟩),upd (fun _=>none) 84 (some ⟨g2,51,(s2.map (ag 53 ae)),true⟩)⟩) (fun t=>fl2 = .next t) ?_ (fun s2 g2 hn2=>?_)
     ·refine V.ap (V.nilOB tk 21 1 84 (e := 51) rfl rfl rfl rfl ?_)
      refine V.aP (fun j2 s2 g2=>⟨88,upd (upd (upd (upd (upd (fun _=>.any) 75 (ac (j2 : Int))) 74 (ac (x73.length : Int))) 73 (.list 51 (x73.map (ag 53 ae)))) 21 (.box 21 b21 0)) 12 (.box 12 b12 0),upd (upd (fun _=>none) 21 (some ⟨b21,[(.list 50 (x28.1.map av)),(.own 84 g2 (s2.map (ag 53 ae)).length)]⟩)) 12 (some ⟨b12,[(.val (.slice none 0 0)),(.val (.slice none 0 0))]⟩),upd (fun _=>none) 84 (some ⟨g2,51,(s2.map (ag 53 ae)),true⟩)⟩) (⟨none,0⟩) H2 (Gh.le (SLe.aa (PLe.q rfl) (SLe.aa (PLe.q rfl) (SLe.aa (PLe.q rfl) (SLe.aa (PLe.q rfl) (SLe.aa (PLe.q rfl) SLe.nil))))) (BLe.ao rfl (il.r) (BLe.ao rfl (il.r) BLe.nil)) (OLe.am rfl OLe.nil)) (fun j2 s2 g2 hj2 hr2=>?_)
      refine V.seq (V.ab (Ao.q tk rfl (Ao.nil (V.seq ?_))))
      refine V.ak rfl (fun h=>?_) (fun h=>?_)
      ·have hl2 := bn h
       obtain ⟨x2,fb2,hx2,H,hg2⟩ := rMc hl2 hr2
       refine V.al (V.seq (V.ap (V.seq (V.ab ?_))))
       refine Ao.idx tk rfl rfl rfl rfl rfl rfl (Int.natCast_nonneg j2) (aY (fun _=>rfl) hx2) rfl ?_
       refine Ao.q tk rfl (Ao.q tk rfl (Ao.nil (V.bc tk mok ⟨true,false,[]⟩ [0,1,2,3,4,5,6,7] rfl (by decide +kernel) rfl (Do.q rfl (Do.lB rfl rfl rfl rfl rfl rfl rfl rfl rfl (Do.q rfl ?_))))))
       have s82 := clone_94 (m := 82) x2
       refine Do.aR (g := 94) rfl rfl rfl rfl Tryz.call94 (il.r) (PFun.hP s82) rfl (Do.q rfl ?_)
       obtain ⟨x84,h84,H⟩ := aj H
       have k84 := cf h84
       refine Do.jM (rows2' := List.map (ag 53 ae) ([x2] : List (List LVal))) (rows' := List.map (ag 53 ae) x84) tk rfl rfl rfl rfl rfl rfl rfl rfl rfl rfl rfl rfl rfl rfl (fj.refl _) (dp k84.1) (dv k84.2.1) (du k84.2.2) fun g84=>?_
       refine Do.q rfl (Do.sB rfl rfl rfl rfl rfl rfl rfl rfl rfl rfl rfl rfl (Do.nil (V.blk (V.ab (Ao.q tk rfl (Ao.q tk rfl (Ao.nil ?_)))))))
       obtain rfl := ai H
       refine V.ax x84 g84 ⟨hl2,hg2⟩ (Gh.le (SLe.aa (PLe.q rfl) (SLe.aa (PLe.q rfl) (SLe.aa (PLe.q rfl) (SLe.aa (PLe.q rfl) (SLe.aa (PLe.q (az (by omega))) SLe.nil))))) (BLe.ao rfl (il.r) (BLe.ao rfl (il.r) BLe.nil)) (OLe.am rfl OLe.nil))
      ·have hn2 := rMd (bm h) hr2
       refine V.aB rfl ?_
       refine V.at s2 g2 hn2 (Gh.le (SLe.aa (PLe.q rfl) (SLe.aa (PLe.q rfl) SLe.nil)) (BLe.ao rfl (il.r) (BLe.ao rfl (il.r) BLe.nil)) (OLe.am rfl OLe.nil))
     ·have H := aW hn2 Hp2
      refine V.seq (V.ab (Ao.lB tk rfl rfl rfl rfl rfl rfl rfl (Ao.sB tk rfl rfl rfl rfl rfl rfl rfl rfl rfl rfl rfl (Ao.q tk rfl (Ao.nil ?_)))))
      obtain rfl := ai H
      refine V.freezeOB 12 1 rfl rfl rfl rfl rfl ?_
      refine V.aq tk rfl (ps := [(.agg [(.list 50 (x28.1.map av)),(.list 51 (s2.map (ag 53 ae)))]),(ac 0)]) ⟨_,_,rfl,⟨_,_,_,_,_,rfl,rfl,rfl,rfl⟩,_,_,rfl,rfl,rfl⟩ (PLe.q rfl)
def ic (sA : LSchema) (q : LQuery) : Option (Bool) :=
 af (
  af (jB q 400) fun x8 =>
  cond (decide (x8 < (0 : Int)))
   (some true)
   (af (gc sA) fun x12 =>
   some (x12 != (0 : Int)))) fun (t1 : Bool) =>
 cond t1
  (some false)
  (af (jp sA q) fun x18 =>
  some (x18.2 == (0 : Int)))
set_option maxHeartbeats 4000000 in
theorem oC (sA : LSchema) (q : LQuery) (r : Bool) (H : ic sA q = some r) :
  aG Tryz.prog 51 [(.agg (db sA)),(.agg (aQ q))] (au r) := by
 unfold ic at H
 refine PH.intro Tryz.func51 rfl Tryz.ntmps51 rfl ?_
 refine V.seq (V.ab (Ao.aF rfl rfl rfl rfl rfl rfl (Ao.aF rfl rfl rfl rfl rfl rfl (Ao.q tk rfl (Ao.nil (V.seq (V.seq ?_)))))))
 obtain ⟨fl1,H1,Hp1⟩ := aj H
 refine V.cut (τ := Bool) (γ := Unit) (fun t1 g1=>⟨23,upd (upd (upd (fun _=>.any) 14 (au t1)) 3 (.ptr [(ac q.kind),(.str q.table),(.list 9 (q.names.map bo)),(.list 56 (q.exprs.map aI)),(.list 66 (q.aggregates.map bl)),(.list 4 (q.descending.map bB)),(ac q.count),(ac q.offset),(.list 35 (q.inputs.map aD))])) 2 (.ptr [(.list 91 (sA.tables.map aO)),(.list 142 (sA.foreignKeys.map bC)),(.list 148 (sA.constraints.map bH))]),fun _=>none,fun _=>none⟩) (fun t=>t = fl1) ?_ (fun t1 g1 hn1=>?_)
 ·have H := H1
  refine V.ab (Ao.q tk rfl ?_)
  obtain ⟨x8,h8,H⟩ := aj H
  have s8 := oW q 400 _ h8
  refine Ao.ah (g := 82) rfl rfl rfl Tryz.call82 (il.r) s8 rfl (Ao.q tk rfl (Ao.q tk rfl ?_))
  refine Ao.aA rfl rfl rfl (fun h=>?_) (fun h=>?_)
  ·have H := condT h H
   refine Ao.q tk rfl (Ao.q tk rfl (Ao.q tk rfl (Ao.q tk rfl (Ao.nil ?_))))
   obtain rfl := ai H
   refine V.at true () rfl (Gh.le (SLe.aa (PLe.q rfl) (SLe.aa (PLe.q rfl) (SLe.aa (PLe.q rfl) SLe.nil))) BLe.nil OLe.nil)
  ·have H := condF h H
   refine Ao.q tk rfl ?_
   obtain ⟨x12,h12,H⟩ := aj H
   have s12 := oE sA _ h12
   refine Ao.ah (g := 83) rfl rfl rfl Tryz.call83 (il.r) s12 rfl (Ao.q tk rfl (Ao.q tk rfl (Ao.nil ?_)))
   obtain rfl := ai H
   refine V.at (x12 != (0 : Int)) () rfl (Gh.le (SLe.aa (PLe.q rfl) (SLe.aa (PLe.q rfl) (SLe.aa (PLe.q rfl) SLe.nil))) BLe.nil OLe.nil)
 ·subst hn1
  have H := Hp1
  refine V.ak rfl (fun h=>?_) (fun h=>?_)
  ·have H := condT h H
   refine V.seq (V.ab (Ao.q tk rfl (Ao.nil ?_)))
   obtain rfl := ai H
   refine V.aq tk rfl (ps := [(au false)]) ⟨_,_,rfl,rfl,rfl⟩ (PLe.q rfl)
  ·have H := condF h H
   refine V.al (V.seq (V.ab (Ao.q tk rfl (Ao.q tk rfl ?_))))
   obtain ⟨x18,h18,H⟩ := aj H
   have s18 := W_query_Check sA q _ h18
   refine Ao.ah (g := 18) rfl rfl rfl Tryz.call18 (il.r) s18 rfl (Ao.q tk rfl (Ao.q tk rfl (Ao.q tk rfl (Ao.q tk rfl (Ao.q tk rfl (Ao.nil (V.seq (V.ab (Ao.q tk rfl (Ao.q tk rfl (Ao.q tk rfl (Ao.nil ?_))))))))))))
   obtain rfl := ai H
   refine V.aq tk rfl (ps := [(au (x18.2 == (0 : Int)))]) ⟨_,_,rfl,rfl,rfl⟩ (PLe.q rfl)
end
end Go.Proofs.YtgaggbdcedpapaaGreat

namespace Go.Proofs.YtgaggbdcedpapaaGreat
noncomputable section
open Go Go.Ab
attribute [local irreducible] V Ao Do Gh Eff PH IntKind.wrap
set_option maxRecDepth 4000
def fE (sA : LSchema) (st : List LRelation) (q : LQuery) (args : List LVal) : Option (LResult × Int) :=
 af (fJ sA st q args ([] : List LCol) ([] : List LVal)) fun x14 =>
 some (x14.1,x14.2)
set_option maxHeartbeats 4000000 in
theorem lG (sA : LSchema) (st : List LRelation) (q : LQuery) (args : List LVal) (r : LResult × Int) (H : fE sA st q args = some r) :
  aG Tryz.prog 50 [(.agg (db sA)),(.list 87 (st.map bg)),(.agg (aQ q)),(.list 53 (args.map ae))] (.tup [(.agg (nV r.1)),(ac r.2)]) := by
 unfold fE at H
 refine PH.intro Tryz.func50 rfl Tryz.ntmps50 rfl ?_
 refine V.seq (V.ab (Ao.aF rfl rfl rfl rfl rfl rfl (Ao.aF rfl rfl rfl rfl rfl rfl ?_)))
 refine Ao.aJ tk rfl rfl rfl rfl rfl rfl fun b8=>?_
 refine Ao.q tk rfl (Ao.nil (V.seq (V.ab (Ao.q tk rfl (Ao.q tk rfl (Ao.q tk rfl (Ao.q tk rfl ?_)))))))
 obtain ⟨x14,h14,H⟩ := aj H
 have s14 := mq sA st q args ([] : List LCol) ([] : List LVal) _ h14
 refine Ao.ah (g := 81) rfl rfl rfl Tryz.call81 (il.of2 (fQ.cons (kW.of_eq rfl) (fQ.cons (kW.of_eq rfl) (fQ.cons (kW.of_eq rfl) (fQ.cons (kW.of_eq rfl) (fQ.cons (kW.nil tk rfl) (fQ.cons (kW.nil tk rfl) fQ.nil))))))) s14 rfl (Ao.q tk rfl (Ao.q tk rfl (Ao.sB tk rfl rfl rfl rfl rfl rfl rfl rfl rfl rfl rfl (Ao.q tk rfl (Ao.nil ?_)))))
 obtain rfl := ai H
 refine V.aq tk rfl (ps := [(.agg [(.list 50 (x14.1.columns.map av)),(.list 51 (x14.1.rows.map (ag 53 ae)))]),(ac x14.2)]) ⟨_,_,rfl,⟨_,_,_,_,_,rfl,rfl,rfl,rfl⟩,_,_,rfl,rfl,rfl⟩ (PLe.q rfl)
def gD (sA : LSchema) (st : List LRelation) (q : LQuery) (args : List LVal) : Option (Bool) :=
 af (ic sA q) fun x11 =>
 cond x11
  (cond (decide ((args.length : Int) ≤ (20 : Int)))
   (af (dT sA st) fun x20 =>
   cond (x20 == (0 : Int))
    (af (dN q args) fun x26 =>
    some (x26 == (0 : Int)))
    (some false))
   (some false))
  (some false)
set_option maxHeartbeats 4000000 in
theorem oR (sA : LSchema) (st : List LRelation) (q : LQuery) (args : List LVal) (r : Bool) (H : gD sA st q args = some r) :
  aG Tryz.prog 16 [(.agg (db sA)),(.list 87 (st.map bg)),(.agg (aQ q)),(.list 53 (args.map ae))] (au r) := by
 unfold gD at H
 refine PH.intro Tryz.func16 rfl Tryz.ntmps16 rfl ?_
 refine V.seq (V.ab (Ao.aF rfl rfl rfl rfl rfl rfl (Ao.aF rfl rfl rfl rfl rfl rfl (Ao.q tk rfl (Ao.nil (V.seq (V.ab (Ao.q tk rfl (Ao.q tk rfl ?_)))))))))
 obtain ⟨x11,h11,H⟩ := aj H
 have s11 := oC sA q _ h11
 refine Ao.ah (g := 51) rfl rfl rfl Tryz.call51 (il.r) s11 rfl (Ao.q tk rfl ?_)
 refine Ao.aA rfl rfl rfl (fun h=>?_) (fun h=>?_)
 ·have H := condT h H
  refine Ao.q tk rfl (Ao.ay tk rfl rfl rfl rfl rfl (List.length_map _) rfl (Ao.q tk rfl (Ao.q tk rfl (Ao.q tk rfl ?_))))
  refine Ao.aA rfl rfl rfl (fun h=>?_) (fun h=>?_)
  ·have H := condT h H
   refine Ao.q tk rfl (Ao.q tk rfl ?_)
   obtain ⟨x20,h20,H⟩ := aj H
   have s20 := kf sA st _ h20
   refine Ao.ah (g := 52) rfl rfl rfl Tryz.call52 (il.r) s20 rfl (Ao.q tk rfl (Ao.q tk rfl (Ao.q tk rfl ?_)))
   refine Ao.aA rfl rfl rfl (fun h=>?_) (fun h=>?_)
   ·have H := condT h H
    refine Ao.q tk rfl (Ao.q tk rfl ?_)
    obtain ⟨x26,h26,H⟩ := aj H
    have s26 := jm q args _ h26
    refine Ao.ah (g := 53) rfl rfl rfl Tryz.call53 (il.r) s26 rfl (Ao.q tk rfl (Ao.q tk rfl (Ao.q tk rfl (Ao.nil ?_))))
    obtain rfl := ai H
    refine V.aq tk rfl (ps := [(au (x26 == (0 : Int)))]) ⟨_,_,rfl,rfl,rfl⟩ (PLe.q rfl)
   ·have H := condF h H
    refine Ao.q tk rfl (Ao.q tk rfl (Ao.q tk rfl (Ao.q tk rfl (Ao.q tk rfl (Ao.q tk rfl (Ao.nil ?_))))))
    obtain rfl := ai H
    refine V.aq tk rfl (ps := [(au false)]) ⟨_,_,rfl,rfl,rfl⟩ (PLe.q rfl)
  ·have H := condF h H
   refine Ao.q tk rfl (Ao.q tk rfl (Ao.q tk rfl (Ao.q tk rfl (Ao.q tk rfl (Ao.q tk rfl (Ao.q tk rfl (Ao.q tk rfl (Ao.q tk rfl (Ao.q tk rfl (Ao.q tk rfl (Ao.q tk rfl (Ao.nil ?_))))))))))))
   obtain rfl := ai H
   refine V.aq tk rfl (ps := [(au false)]) ⟨_,_,rfl,rfl,rfl⟩ (PLe.q rfl)
 ·have H := condF h H
  refine Ao.q tk rfl (Ao.q tk rfl (Ao.q tk rfl (Ao.q tk rfl (Ao.q tk rfl (Ao.q tk rfl (Ao.q tk rfl (Ao.q tk rfl (Ao.q tk rfl (Ao.q tk rfl (Ao.q tk rfl (Ao.q tk rfl (Ao.q tk rfl (Ao.q tk rfl (Ao.q tk rfl (Ao.q tk rfl (Ao.q tk rfl ?_))))))))))))))))
  refine Ao.nil ?_
  obtain rfl := ai H
  refine V.aq tk rfl (ps := [(au false)]) ⟨_,_,rfl,rfl,rfl⟩ (PLe.q rfl)
end
end Go.Proofs.YtgaggbdcedpapaaGreat

namespace Go.Proofs.YtgaggbdcedpapaaGreat
noncomputable section
open Go Go.Ab
attribute [local irreducible] V Ao Do Gh Eff PH IntKind.wrap
set_option maxRecDepth 4000
def fZ : Option (Bool) :=
 af (fE (LSchema.mk [(LTable.mk [116] [(LCol.mk [97] 1 false)] [0])] [] []) ([(LRelation.mk [116] [[(LVal.mk 1 1 [])],[(LVal.mk 1 2 [])]])] : List LRelation) (LQuery.mk 1 [116] [] [] [] [] 0 0 []) ([] : List LVal)) fun x22 =>
 cond (x22.2 == (0 : Int))
  (some ((x22.1.rows.length : Int) == (2 : Int)))
  (some false)
set_option maxHeartbeats 4000000 in
theorem oy (r : Bool) (H : fZ = some r) :
  aG Tryz.prog 15 [] (au r) := by
 unfold fZ at H
 refine PH.intro Tryz.func15 rfl Tryz.ntmps15 rfl ?_
 refine V.seq (V.ab (Ao.q tk rfl (Ao.nil (V.seq (V.ab (Ao.q tk rfl (Ao.bsC tk rfl rfl rfl rfl (rows' := List.map av ([(LCol.mk [97] 1 false)] : List LCol)) rfl (fj.refl _) rfl rfl (Ao.bsC tk rfl rfl rfl rfl (rows' := List.map aV ([0] : List Int)) rfl (fj.refl _) rfl rfl (Ao.q tk rfl (Ao.bsC tk rfl rfl rfl rfl (rows' := List.map aO ([(LTable.mk [116] [(LCol.mk [97] 1 false)] [0])] : List LTable)) rfl (fj.refl _) rfl rfl (Ao.q tk rfl ?_)))))))))))
 refine Ao.aJ tk rfl rfl rfl rfl rfl rfl fun b1=>?_
 refine Ao.sB tk rfl rfl rfl rfl rfl rfl rfl rfl rfl rfl rfl (Ao.nil (V.seq (V.ab (Ao.q tk rfl (Ao.bsC tk rfl rfl rfl rfl (rows' := List.map ae ([(LVal.mk 1 1 [])] : List LVal)) rfl (fj.refl _) rfl rfl (Ao.q tk rfl (Ao.bsC tk rfl rfl rfl rfl (rows' := List.map ae ([(LVal.mk 1 2 [])] : List LVal)) rfl (fj.refl _) rfl rfl (Ao.bsC tk rfl rfl rfl rfl (rows' := List.map (ag 53 ae) ([[(LVal.mk 1 1 [])],[(LVal.mk 1 2 [])]] : List (List LVal))) rfl (fj.refl _) rfl rfl (Ao.q tk rfl (Ao.bsC tk rfl rfl rfl rfl (rows' := List.map bg ([(LRelation.mk [116] [[(LVal.mk 1 1 [])],[(LVal.mk 1 2 [])]])] : List LRelation)) rfl (fj.refl _) rfl rfl (Ao.q tk rfl (Ao.nil (V.seq (V.ab ?_))))))))))))))
 refine Ao.lB tk rfl rfl rfl rfl rfl rfl rfl (Ao.q tk rfl (Ao.q tk rfl ?_))
 obtain ⟨x22,h22,H⟩ := aj H
 have s22 := lG (LSchema.mk [(LTable.mk [116] [(LCol.mk [97] 1 false)] [0])] [] []) ([(LRelation.mk [116] [[(LVal.mk 1 1 [])],[(LVal.mk 1 2 [])]])] : List LRelation) (LQuery.mk 1 [116] [] [] [] [] 0 0 []) ([] : List LVal) _ h22
 refine Ao.ah (g := 50) rfl rfl rfl Tryz.call50 (il.of2 (fQ.cons (kW.agg (fQ.cons (kW.of_eq rfl) (fQ.cons (kW.nil tk rfl) (fQ.cons (kW.nil tk rfl) fQ.nil)))) (fQ.cons (kW.of_eq rfl) (fQ.cons (kW.agg (fQ.cons (kW.of_eq rfl) (fQ.cons (kW.of_eq rfl) (fQ.cons (kW.nil tk rfl) (fQ.cons (kW.nil tk rfl) (fQ.cons (kW.nil tk rfl) (fQ.cons (kW.nil tk rfl) (fQ.cons (kW.of_eq rfl) (fQ.cons (kW.of_eq rfl) (fQ.cons (kW.nil tk rfl) fQ.nil)))))))))) (fQ.cons (kW.nil tk rfl) fQ.nil))))) s22 rfl (Ao.q tk rfl (Ao.q tk rfl (Ao.q tk rfl ?_)))
 refine Ao.aJ tk rfl rfl rfl rfl rfl rfl fun b3=>?_
 refine Ao.sB tk rfl rfl rfl rfl rfl rfl rfl rfl rfl rfl rfl (Ao.q tk rfl (Ao.nil (V.seq (V.ab (Ao.q tk rfl (Ao.q tk rfl (Ao.q tk rfl ?_)))))))
 refine Ao.aA rfl rfl rfl (fun h=>?_) (fun h=>?_)
 ·have H := condT h H
  refine Ao.q tk rfl (Ao.lB tk rfl rfl rfl rfl rfl rfl rfl (Ao.ay tk rfl rfl rfl rfl rfl (List.length_map _) rfl (Ao.q tk rfl (Ao.q tk rfl (Ao.q tk rfl (Ao.nil ?_))))))
  obtain rfl := ai H
  refine V.aq tk rfl (ps := [(au ((x22.1.rows.length : Int) == (2 : Int)))]) ⟨_,_,rfl,rfl,rfl⟩ (PLe.q rfl)
 ·have H := condF h H
  refine Ao.q tk rfl (Ao.q tk rfl (Ao.q tk rfl (Ao.q tk rfl (Ao.q tk rfl (Ao.q tk rfl (Ao.nil ?_))))))
  obtain rfl := ai H
  refine V.aq tk rfl (ps := [(au false)]) ⟨_,_,rfl,rfl,rfl⟩ (PLe.q rfl)
def dI (sA : LSchema) (st : List LRelation) (q : LQuery) (args : List LVal) : Option (LResult × Bool) :=
 af (fE sA st q args) fun x17 =>
 some (x17.1,(x17.2 == (0 : Int)))
set_option maxHeartbeats 4000000 in
theorem jZ (sA : LSchema) (st : List LRelation) (q : LQuery) (args : List LVal) (r : LResult × Bool) (H : dI sA st q args = some r) :
  aG Tryz.prog 17 [(.agg (db sA)),(.list 87 (st.map bg)),(.agg (aQ q)),(.list 53 (args.map ae))] (.tup [(.agg (nV r.1)),(au r.2)]) := by
 unfold dI at H
 refine PH.intro Tryz.func17 rfl Tryz.ntmps17 rfl ?_
 refine V.seq (V.ab (Ao.aF rfl rfl rfl rfl rfl rfl (Ao.aF rfl rfl rfl rfl rfl rfl ?_)))
 refine Ao.aJ tk rfl rfl rfl rfl rfl rfl fun b8=>?_
 refine Ao.q tk rfl (Ao.nil (V.seq (V.ab (Ao.q tk rfl (Ao.q tk rfl (Ao.q tk rfl (Ao.q tk rfl ?_)))))))
 obtain ⟨x17,h17,H⟩ := aj H
 have s17 := lG sA st q args _ h17
 refine Ao.ah (g := 50) rfl rfl rfl Tryz.call50 (il.r) s17 rfl (Ao.q tk rfl (Ao.q tk rfl (Ao.q tk rfl ?_)))
 refine Ao.aJ tk rfl rfl rfl rfl rfl rfl fun b10=>?_
 refine Ao.sB tk rfl rfl rfl rfl rfl rfl rfl rfl rfl rfl rfl (Ao.q tk rfl (Ao.nil (V.seq (V.ab (Ao.lB tk rfl rfl rfl rfl rfl rfl rfl (Ao.q tk rfl (Ao.q tk rfl (Ao.sB tk rfl rfl rfl rfl rfl rfl rfl rfl rfl rfl rfl (Ao.q tk rfl (Ao.nil ?_))))))))))
 obtain rfl := ai H
 refine V.aq tk rfl (ps := [(.agg [(.list 50 (x17.1.columns.map av)),(.list 51 (x17.1.rows.map (ag 53 ae)))]),(au (x17.2 == (0 : Int)))]) ⟨_,_,rfl,⟨_,_,_,_,_,rfl,rfl,rfl,rfl⟩,_,_,rfl,rfl,rfl⟩ (PLe.q rfl)
end
end Go.Proofs.YtgaggbdcedpapaaGreat

namespace Go.Proofs.YtgaggbdcedpapaaGreat
noncomputable section
open Go Go.Ab
attribute [local irreducible] V Ao Do Gh Eff PH IntKind.wrap
set_option maxRecDepth 4000
def da (sA : LSchema) (st : List LRelation) (q : LQuery) (name : List UInt8) (args : List LVal) : Option (Bool) :=
 af (fZ) fun x19 =>
 cond (!x19)
  (some false)
  (af (gD sA st (LQuery.mk 8 [] [[107]] [(LExpr.mk 2 name 0 (LVal.mk 0 0 []) [])] [(LAggregateCall.mk [110] [99,111,117,110,116] [])] [] 0 0 [q]) args) fun x34 =>
  cond (!x34)
   (some true)
   (af (dI sA st (LQuery.mk 8 [] [[107]] [(LExpr.mk 2 name 0 (LVal.mk 0 0 []) [])] [(LAggregateCall.mk [110] [99,111,117,110,116] [])] [] 0 0 [q]) args) fun x41 =>
   af (dI sA st q args) fun x49 =>
   af (aE (σ := Int) (ρ := (Bool)) (fun (j1 : Nat) (x1 : List LVal) (s1 : Int) =>
    af (
     cond ((x1.length : Int) != (2 : Int))
      (some true)
      (af (kv x41.1.rows 0 (j1 : Int)) fun (x67 : List (List LVal)) =>
      af (ce x67 (fun a0=>cd a0 x1)) fun x69 =>
      some x69)) fun (t4 : Bool) =>
    cond t4
     (some (.ret false))
     (af (aC x1 1) fun (x73 : LVal) =>
     some (.next (IntKind.i64.wrap (s1 + x73.int))))) 0 x41.1.rows 0) fun fl1=>fl1.thenR fun (s1 : Int) =>
   cond x41.2
    (cond x49.2
     (some (s1 == (x49.1.rows.length : Int)))
     (some false))
    (some false)))
set_option maxHeartbeats 4000000 in
theorem iK (sA : LSchema) (st : List LRelation) (q : LQuery) (name : List UInt8) (args : List LVal) (r : Bool) (H : da sA st q name args = some r) :
  aG Tryz.prog 6 [(.agg (db sA)),(.list 87 (st.map bg)),(.agg (aQ q)),(.str name),(.list 53 (args.map ae))] (au r) := by
 unfold da at H
 refine PH.intro Tryz.func6 rfl Tryz.ntmps6 rfl ?_
 refine V.seq (V.ab (Ao.aF rfl rfl rfl rfl rfl rfl (Ao.aF rfl rfl rfl rfl rfl rfl (Ao.q tk rfl (Ao.nil (V.seq (V.seq (V.ab ?_))))))))
 obtain ⟨x19,h19,H⟩ := aj H
 have s19 := oy _ h19
 refine Ao.ah (g := 15) rfl rfl rfl Tryz.call15 (il.r) s19 rfl (Ao.q tk rfl (Ao.nil ?_))
 refine V.ak rfl (fun h=>?_) (fun h=>?_)
 ·have H := condT h H
  refine V.seq (V.ab (Ao.q tk rfl (Ao.nil ?_)))
  obtain rfl := ai H
  refine V.aq tk rfl (ps := [(au false)]) ⟨_,_,rfl,rfl,rfl⟩ (PLe.q rfl)
 ·have H := condF h H
  refine V.al (V.seq (V.ab (Ao.bsC tk rfl rfl rfl rfl (rows' := List.map bo ([[107]] : List (List UInt8))) rfl (fj.refl _) rfl rfl (Ao.q tk rfl (Ao.q tk rfl (Ao.bsC tk rfl rfl rfl rfl (rows' := List.map aI ([(LExpr.mk 2 name 0 (LVal.mk 0 0 []) [])] : List LExpr)) rfl (fj.trans (b := List.map kp [(LExpr.mk 2 name 0 (LVal.mk 0 0 []) [])]) (fj.cons (oi.cons (kW.of_eq rfl) (oi.cons (kW.of_eq rfl) (oi.cons (kW.of_eq rfl) (oi.cons (kW.of_eq rfl) (oi.cons (kW.of_eq rfl) (oi.cons (kW.of_eq rfl) (oi.cons (kW.nil tk rfl) oi.nil))))))) fj.nil) (fj.of_eq (om cW [(LExpr.mk 2 name 0 (LVal.mk 0 0 []) [])]))) rfl rfl (Ao.q tk rfl (Ao.bsC tk rfl rfl rfl rfl (rows' := List.map bl ([(LAggregateCall.mk [110] [99,111,117,110,116] [])] : List LAggregateCall)) rfl (fj.cons (oi.cons (kW.of_eq rfl) (oi.cons (kW.of_eq rfl) (oi.cons (kW.nil tk rfl) oi.nil))) fj.nil) rfl rfl (Ao.q tk rfl (Ao.bsC tk rfl rfl rfl rfl (rows' := List.map aD ([q] : List LQuery)) rfl (fj.trans (b := List.map aQ [q]) (fj.refl _) (fj.of_eq (om bE [q]))) rfl rfl (Ao.q tk rfl ?_)))))))))))
  refine Ao.aJ tk rfl rfl rfl rfl rfl rfl fun b11=>?_
  refine Ao.sB tk rfl rfl rfl rfl rfl rfl rfl rfl rfl rfl rfl (Ao.nil (V.seq (V.seq (V.ab (Ao.q tk rfl (Ao.q tk rfl (Ao.lB tk rfl rfl rfl rfl rfl rfl rfl (Ao.q tk rfl ?_))))))))
  obtain ⟨x34,h34,H⟩ := aj H
  have s34 := oR sA st (LQuery.mk 8 [] [[107]] [(LExpr.mk 2 name 0 (LVal.mk 0 0 []) [])] [(LAggregateCall.mk [110] [99,111,117,110,116] [])] [] 0 0 [q]) args _ h34
  refine Ao.ah (g := 16) rfl rfl rfl Tryz.call16 (il.of2 (fQ.cons (kW.of_eq rfl) (fQ.cons (kW.of_eq rfl) (fQ.cons (kW.agg (fQ.cons (kW.of_eq rfl) (fQ.cons (kW.of_eq rfl) (fQ.cons (kW.of_eq rfl) (fQ.cons (kW.of_eq rfl) (fQ.cons (kW.of_eq rfl) (fQ.cons (kW.nil tk rfl) (fQ.cons (kW.of_eq rfl) (fQ.cons (kW.of_eq rfl) (fQ.cons (kW.of_eq rfl) fQ.nil)))))))))) (fQ.cons (kW.of_eq rfl) fQ.nil))))) s34 rfl (Ao.q tk rfl (Ao.nil ?_))
  refine V.ak rfl (fun h=>?_) (fun h=>?_)
  ·have H := condT h H
   refine V.seq (V.ab (Ao.q tk rfl (Ao.nil ?_)))
   obtain rfl := ai H
   refine V.aq tk rfl (ps := [(au true)]) ⟨_,_,rfl,rfl,rfl⟩ (PLe.q rfl)
  ·have H := condF h H
   refine V.al (V.seq (V.ab (Ao.q tk rfl (Ao.q tk rfl (Ao.lB tk rfl rfl rfl rfl rfl rfl rfl (Ao.q tk rfl ?_))))))
   obtain ⟨x41,h41,H⟩ := aj H
   have s41 := jZ sA st (LQuery.mk 8 [] [[107]] [(LExpr.mk 2 name 0 (LVal.mk 0 0 []) [])] [(LAggregateCall.mk [110] [99,111,117,110,116] [])] [] 0 0 [q]) args _ h41
   refine Ao.ah (g := 17) rfl rfl rfl Tryz.call17 (il.of2 (fQ.cons (kW.of_eq rfl) (fQ.cons (kW.of_eq rfl) (fQ.cons (kW.agg (fQ.cons (kW.of_eq rfl) (fQ.cons (kW.of_eq rfl) (fQ.cons (kW.of_eq rfl) (fQ.cons (kW.of_eq rfl) (fQ.cons (kW.of_eq rfl) (fQ.cons (kW.nil tk rfl) (fQ.cons (kW.of_eq rfl) (fQ.cons (kW.of_eq rfl) (fQ.cons (kW.of_eq rfl) fQ.nil)))))))))) (fQ.cons (kW.of_eq rfl) fQ.nil))))) s41 rfl (Ao.q tk rfl (Ao.q tk rfl (Ao.q tk rfl ?_)))
   refine Ao.aJ tk rfl rfl rfl rfl rfl rfl fun b12=>?_
   refine Ao.sB tk rfl rfl rfl rfl rfl rfl rfl rfl rfl rfl rfl (Ao.q tk rfl (Ao.nil (V.seq (V.ab (Ao.q tk rfl (Ao.q tk rfl (Ao.q tk rfl (Ao.q tk rfl ?_))))))))
   obtain ⟨x49,h49,H⟩ := aj H
   have s49 := jZ sA st q args _ h49
   refine Ao.ah (g := 17) rfl rfl rfl Tryz.call17 (il.r) s49 rfl (Ao.q tk rfl (Ao.q tk rfl (Ao.q tk rfl ?_)))
   refine Ao.aJ tk rfl rfl rfl rfl rfl rfl fun b14=>?_
   refine Ao.sB tk rfl rfl rfl rfl rfl rfl rfl rfl rfl rfl rfl (Ao.q tk rfl (Ao.nil (V.seq (V.ab (Ao.q tk rfl (Ao.nil (V.seq (V.seq (V.ab (Ao.q tk rfl (Ao.lB tk rfl rfl rfl rfl rfl rfl rfl (Ao.ay tk rfl rfl rfl rfl rfl (List.length_map _) rfl (Ao.q tk rfl (Ao.nil ?_))))))))))))))
   obtain ⟨fl1,H1,Hp1⟩ := aj H
   refine V.aZ tk 53 rfl rfl (fun hz1 _=>?_)
   rw [List.length_map] at hz1
   refine V.cut (τ := Int) (γ := Unit) (fun s1 g1=>⟨89,upd (upd (upd (upd (fun _=>.any) 16 (ac s1)) 15 (au x49.2)) 14 (.box 14 b14 0)) 13 (au x41.2),upd (fun _=>none) 14 (some ⟨b14,[(.list 50 (x49.1.columns.map av)),(.list 51 (x49.1.rows.map (ag 53 ae)))]⟩),fun _=>none⟩) (fun t=>fl1 = .next t) ?_ (fun s1 g1 hn1=>?_)
   ·refine V.ap ?_
    refine V.aP (fun j1 s1 g1=>⟨89,upd (upd (upd (upd (upd (upd (upd (upd (fun _=>.any) 55 (ac (j1 : Int))) 54 (ac (x41.1.rows.length : Int))) 53 (.list 51 (x41.1.rows.map (ag 53 ae)))) 16 (ac s1)) 15 (au x49.2)) 14 (.box 14 b14 0)) 13 (au x41.2)) 12 (.box 12 b12 0),upd (upd (fun _=>none) 14 (some ⟨b14,[(.list 50 (x49.1.columns.map av)),(.list 51 (x49.1.rows.map (ag 53 ae)))]⟩)) 12 (some ⟨b12,[(.list 50 (x41.1.columns.map av)),(.list 51 (x41.1.rows.map (ag 53 ae)))]⟩),fun _=>none⟩) () H1 (Gh.le (SLe.aa (PLe.q rfl) (SLe.aa (PLe.q rfl) (SLe.aa (PLe.q rfl) (SLe.aa (PLe.q rfl) (SLe.aa (PLe.q rfl) (SLe.aa (PLe.q rfl) (SLe.aa (PLe.q rfl) (SLe.aa (PLe.q rfl) SLe.nil)))))))) (BLe.ao rfl (il.r) (BLe.ao rfl (il.r) BLe.nil)) OLe.nil) (fun j1 s1 g1 hj1 hr1=>?_)
    refine V.seq (V.ab (Ao.q tk rfl (Ao.nil (V.seq ?_))))
    refine V.ak rfl (fun h=>?_) (fun h=>?_)
    ·have hl1 := bn h
     obtain ⟨x1,fb1,hx1,H,hg1⟩ := rMc hl1 hr1
     refine V.al (V.seq (V.ap (V.seq (V.ab (Ao.q tk rfl ?_)))))
     refine Ao.idx tk rfl rfl rfl rfl rfl rfl (Int.natCast_nonneg j1) (aY (fun _=>rfl) hx1) rfl ?_
     refine Ao.q tk rfl ?_
     refine Ao.aJ tk rfl rfl rfl rfl rfl rfl fun b18=>?_
     refine Ao.q tk rfl (Ao.sB tk rfl rfl rfl rfl rfl rfl rfl rfl rfl rfl rfl (Ao.nil (V.seq (V.seq ?_))))
     obtain ⟨fl4,H4,Hp4⟩ := aj H
     refine V.cut (τ := Bool) (γ := Unit) (fun t4 g4=>⟨89,upd (upd (upd (upd (upd (upd (upd (upd (upd (upd (fun _=>.any) 70 (au t4)) 55 (ac (j1 : Int))) 54 (ac (x41.1.rows.length : Int))) 53 (.list 51 (x41.1.rows.map (ag 53 ae)))) 18 (.ptr [(.list 53 (x1.map ae))])) 16 (ac s1)) 15 (au x49.2)) 14 (.box 14 b14 0)) 13 (au x41.2)) 12 (.box 12 b12 0),upd (upd (fun _=>none) 14 (some ⟨b14,[(.list 50 (x49.1.columns.map av)),(.list 51 (x49.1.rows.map (ag 53 ae)))]⟩)) 12 (some ⟨b12,[(.list 50 (x41.1.columns.map av)),(.list 51 (x41.1.rows.map (ag 53 ae)))]⟩),fun _=>none⟩) (fun t=>t = fl4) ?_ (fun t4 g4 hn4=>?_)
     ·have H := H4
      refine V.freezeB 18 rfl rfl rfl rfl (V.ab (Ao.q tk rfl (Ao.ay tk rfl rfl rfl rfl rfl (List.length_map _) rfl (Ao.q tk rfl (Ao.q tk rfl ?_)))))
      refine Ao.aA rfl rfl rfl (fun h=>?_) (fun h=>?_)
      ·have H := condT h H
       refine Ao.q tk rfl (Ao.q tk rfl (Ao.q tk rfl (Ao.q tk rfl (Ao.q tk rfl (Ao.q tk rfl (Ao.q tk rfl (Ao.nil ?_)))))))
       obtain rfl := ai H
       refine V.at true () rfl (Gh.le (SLe.aa (PLe.q rfl) (SLe.aa (PLe.q rfl) (SLe.aa (PLe.q rfl) (SLe.aa (PLe.q rfl) (SLe.aa (PLe.q rfl) (SLe.aa (PLe.q rfl) (SLe.aa (PLe.q rfl) (SLe.aa (PLe.q rfl) (SLe.aa (PLe.q rfl) (SLe.aa (PLe.q rfl) SLe.nil)))))))))) (BLe.ao rfl (il.r) (BLe.ao rfl (il.r) BLe.nil)) OLe.nil)
      ·have H := condF h H
       refine Ao.q tk rfl (Ao.lB tk rfl rfl rfl rfl rfl rfl rfl (Ao.q tk rfl ?_))
       obtain ⟨x67,h67,H⟩ := aj H
       have k67 := kF h67
       refine Ao.subL tk rfl rfl rfl rfl rfl (List.length_map _) rfl rfl k67.1 (lP k67.2) rfl (Ao.q tk rfl ?_)
       obtain ⟨x69,h69,H⟩ := aj H
       have s69 := iD x67 (fun a0=>cd a0 x1) Tryz.call30 (fun a0 r h=>iE a0 x1 r h) _ h69
       refine Ao.ah (g := 26) rfl rfl rfl Tryz.call26 (il.r) s69 rfl (Ao.q tk rfl (Ao.nil ?_))
       obtain rfl := ai H
       refine V.at x69 () rfl (Gh.le (SLe.aa (PLe.q rfl) (SLe.aa (PLe.q rfl) (SLe.aa (PLe.q rfl) (SLe.aa (PLe.q rfl) (SLe.aa (PLe.q rfl) (SLe.aa (PLe.q rfl) (SLe.aa (PLe.q rfl) (SLe.aa (PLe.q rfl) (SLe.aa (PLe.q rfl) (SLe.aa (PLe.q rfl) SLe.nil)))))))))) (BLe.ao rfl (il.r) (BLe.ao rfl (il.r) BLe.nil)) OLe.nil)
     ·subst hn4
      have H := Hp4
      refine V.ak rfl (fun h=>?_) (fun h=>?_)
      ·have H := condT h H
       refine V.seq (V.ab (Ao.q tk rfl (Ao.nil ?_)))
       obtain rfl := ai H
       have e1 : fl1 = .ret _ := hg1
       subst e1
       obtain rfl := aL Hp1
       refine V.aq tk rfl (ps := [(au false)]) ⟨_,_,rfl,rfl,rfl⟩ (PLe.q rfl)
      ·have H := condF h H
       refine V.al (V.ab (Ao.q tk rfl (Ao.q tk rfl ?_)))
       obtain ⟨x73,h73,H⟩ := aj H
       have k73 := gIs h73
       refine Ao.idx tk rfl rfl rfl rfl rfl rfl k73.1 (aH (fun _=>rfl) k73.2) rfl ?_
       refine Ao.q tk rfl (Ao.q tk rfl (Ao.q tk rfl (Ao.q tk rfl (Ao.nil (V.blk (V.ab (Ao.q tk rfl (Ao.q tk rfl (Ao.nil ?_)))))))))
       obtain rfl := ai H
       refine V.ax (IntKind.i64.wrap (s1 + x73.int)) () ⟨hl1,hg1⟩ (Gh.le (SLe.aa (PLe.q rfl) (SLe.aa (PLe.q rfl) (SLe.aa (PLe.q rfl) (SLe.aa (PLe.q rfl) (SLe.aa (PLe.q rfl) (SLe.aa (PLe.q rfl) (SLe.aa (PLe.q rfl) (SLe.aa (PLe.q (az (by omega))) SLe.nil)))))))) (BLe.ao rfl (il.r) (BLe.ao rfl (il.r) BLe.nil)) OLe.nil)
    ·have hn1 := rMd (bm h) hr1
     refine V.aB rfl ?_
     refine V.at s1 g1 hn1 (Gh.le (SLe.aa (PLe.q rfl) (SLe.aa (PLe.q rfl) (SLe.aa (PLe.q rfl) (SLe.aa (PLe.q rfl) SLe.nil)))) (BLe.ao rfl (il.r) BLe.nil) OLe.nil)
   ·have H := br hn1 Hp1
    refine V.seq (V.ab (Ao.q tk rfl (Ao.q tk rfl ?_)))
    refine Ao.aA rfl rfl rfl (fun h=>?_) (fun h=>?_)
    ·have H := condT h H
     refine Ao.q tk rfl (Ao.q tk rfl (Ao.q tk rfl ?_))
     refine Ao.aA rfl rfl rfl (fun h=>?_) (fun h=>?_)
     ·have H := condT h H
      refine Ao.q tk rfl (Ao.q tk rfl (Ao.lB tk rfl rfl rfl rfl rfl rfl rfl (Ao.ay tk rfl rfl rfl rfl rfl (List.length_map _) rfl (Ao.q tk rfl (Ao.q tk rfl (Ao.q tk rfl (Ao.nil ?_)))))))
      obtain rfl := ai H
      refine V.aq tk rfl (ps := [(au (s1 == (x49.1.rows.length : Int)))]) ⟨_,_,rfl,rfl,rfl⟩ (PLe.q rfl)
     ·have H := condF h H
      refine Ao.q tk rfl (Ao.q tk rfl (Ao.q tk rfl (Ao.q tk rfl (Ao.q tk rfl (Ao.q tk rfl (Ao.q tk rfl (Ao.nil ?_)))))))
      obtain rfl := ai H
      refine V.aq tk rfl (ps := [(au false)]) ⟨_,_,rfl,rfl,rfl⟩ (PLe.q rfl)
    ·have H := condF h H
     refine Ao.q tk rfl (Ao.q tk rfl (Ao.q tk rfl (Ao.q tk rfl (Ao.q tk rfl (Ao.q tk rfl (Ao.q tk rfl (Ao.q tk rfl (Ao.q tk rfl (Ao.q tk rfl (Ao.nil ?_))))))))))
     obtain rfl := ai H
     refine V.aq tk rfl (ps := [(au false)]) ⟨_,_,rfl,rfl,rfl⟩ (PLe.q rfl)
end
end Go.Proofs.YtgaggbdcedpapaaGreat

namespace Go.Proofs.YtgaggbdcedpapaaGreat
noncomputable section
open Go Go.Ab
theorem LQuery.inputs_lt {q x : LQuery} (h : x ∈ q.inputs) : SizeOf.sizeOf x < SizeOf.sizeOf q := by
 cases q
 simp only [LQuery.inputs] at h
 have := List.sizeOf_lt_of_mem h
 simp only [LQuery.mk.sizeOf_spec]
 omega
theorem LQuery.ind {p : LQuery → Prop} (h : ∀ q : LQuery,(∀ x ∈ q.inputs,p x) → p q) : ∀ q,p q := by
 intro q
 generalize hn : SizeOf.sizeOf q = n
 induction n using Nat.strongRecOn generalizing q with
 | _ n ih=>exact h q fun x hx=>ih _ (hn ▸ LQuery.inputs_lt hx) x rfl
theorem ev_all {α : Type} {p : α → Nat → Prop} : ∀ (xs : List α),(∀ x ∈ xs,∃ N,∀ n,N ≤ n → p x n) → ∃ N,∀ n,N ≤ n → ∀ x ∈ xs,p x n
 | [],_=>⟨0,fun _ _ x hx=>by simp at hx⟩
 | y :: xs,h=>by
  obtain ⟨N,hN⟩ := h y (by simp)
  obtain ⟨N',hN'⟩ := ev_all xs fun x hx=>h x (by simp [hx])
  refine ⟨N + N',fun n hn x hx=>?_⟩
  rcases List.mem_cons.1 hx with rfl | hx
  ·exact hN n (by omega)
  ·exact hN' n (by omega) x hx
theorem iR {α σ ρ : Type} {step step' : Nat → α → σ → Option (Flow σ ρ)} : ∀ (xs : List α) (j : Nat) (s : σ),(∀ k x s,xs[k]? = some x → step (j + k) x s = step' (j + k) x s) → aE step j xs s = aE step' j xs s
 | [],_,_,_=>rfl
 | x :: xs,j,s,h=>by
  have h0 := h 0 x s rfl
  rw [Nat.add_zero] at h0
  rw [aE,aE,h0]
  split
  ·rfl
  ·exact iR xs (j + 1) _ fun k y t hk=>by
    have := h (k + 1) y t (by simpa using hk)
    rwa [show j + (k + 1) = j + 1 + k from by omega] at this
  ·rfl
  ·rfl
theorem eU {α : Type} {xs : List α} {k : Nat} {x : α} (h : xs[k]? = some x) : x ∈ xs := List.mem_of_getElem? h
theorem ln {γ β : Type} {F : Nat → γ → LQuery → Option β} {O : (γ → LQuery → Option β) → γ → LQuery → Option β} (hF : ∀ n,F (n + 1) = O (F n)) (c : γ) (q : LQuery)
  (hc : ∀ r r' : γ → LQuery → Option β,(∀ x ∈ q.inputs,r c x = r' c x) → O r c q = O r' c q) (hx : ∀ x ∈ q.inputs,∃ v,gG (fun n=>F n c x) = some v) {r : β} (h : O (fun c q=>gG fun n=>F n c q) c q = some r) :
  gG (fun n=>F n c q) = some r := by
 obtain ⟨N,hN⟩ := ev_all (p := fun x n=>F n c x = gG fun n=>F n c x) q.inputs (fun x hm=>by
  obtain ⟨v,hv⟩ := hx x hm
  obtain ⟨N,hN⟩ := limN_ev hv
  exact ⟨N,fun n hn=>by rw [hN n hn,hv]⟩)
 refine mL (N + 1) fun m hm=>?_
 obtain ⟨m,rfl⟩ : ∃ k,m = k + 1 := ⟨m - 1,by omega⟩
 rw [hF,hc _ (fun c q=>gG fun n=>F n c q) (hN m (by omega)),h]
def bJ (q : LQuery) : List LQuery := q :: (q.inputs.attach.map fun x=>bJ x.1).flatten
termination_by SizeOf.sizeOf q
decreasing_by exact LQuery.inputs_lt x.2
theorem fL (q : LQuery) : bJ q = q :: (q.inputs.map bJ).flatten := by
 rw [bJ,List.attach_map_val (f := bJ)]
theorem flat_le {α β : Type} {f : α → List β} {xs : List α} {x : α} (h : x ∈ xs) : (f x).length ≤ ((xs.map f).flatten).length := by
 induction xs with
 | nil=>simp at h
 | cons y xs ih =>
  simp only [List.map_cons,List.flatten_cons,List.length_append]
  rcases List.mem_cons.1 h with rfl | h
  ·omega
  ·have := ih h; omega
theorem jc {q x : LQuery} (h : x ∈ q.inputs) : (bJ x).length + 1 ≤ (bJ q).length := by
 rw [fL q]
 have := flat_le (f := bJ) h
 simp only [List.length_cons]
 omega
theorem bI {α : Type} {bytes : Nat} {xs ys : List α} (hb : bytes ≤ 200) (h : xs.length + ys.length ≤ 10000000) : cI bytes xs ys = some (xs ++ ys) := by
 refine appI_ok ?_ (by unfold maxLen; omega)
 have : (xs.length + ys.length) * bytes ≤ 10000000 * 200 := Nat.mul_le_mul h hb
 omega
theorem take_flat {α β : Type} {f : α → List β} {xs : List α} {k : Nat} : (((xs.take k).map f).flatten).length ≤ ((xs.map f).flatten).length := by
 induction xs generalizing k with
 | nil=>simp
 | cons y xs ih =>
  cases k with
  | zero=>simp
  | succ k=>simp only [List.take_succ_cons,List.map_cons,List.flatten_cons,List.length_append]; have := ih (k := k); omega
theorem nodes_ok : ∀ q : LQuery,(bJ q).length ≤ 10000000 → gP q = some (bJ q) := by
 refine LQuery.ind fun q ih hb=>?_
 refine ln (γ := Unit) (F := fun n _ q=>gK n q) (O := fun r _ q=>gO (fun x=>r () x) q) (fun n=>rfl) () q ?_ (fun x hx=>⟨_,ih x hx (by have := jc hx; omega)⟩) ?_
 ·intro r r' h
  simp only [gO]
  congr 1
  exact iR q.inputs 0 _ fun k x s hk=>by rw [h x (eU hk)]
 ·have hr := rMa (step := fun (_ : Nat) (x1 : LQuery) (s1 : List LQuery)=>af (gP x1) fun x17=>af (cI 160 s1 x17) fun (x18 : List LQuery)=>some (Flow.next (ρ := Empty) x18)) (xs := q.inputs) (s := [q])
   (fun k=>q :: ((q.inputs.take k).map bJ).flatten) (by simp) (fun k x hk=>by
    have hx := eU hk
    rw [ih x hx (by have := jc hx; omega),bPs,bI (by decide),bPs]
    ·rw [List.take_add_one,hk]; simp
    ·have h1 : (((q.inputs.take (k + 1)).map bJ).flatten).length ≤ ((q.inputs.map bJ).flatten).length := take_flat
     rw [List.take_add_one,hk] at h1
     rw [fL] at hb
     simp at h1 hb ⊢
     omega)
  simp only [gO]
  have e : ∀ x,(gG fun n=>gK n x) = gP x := fun _=>rfl
  simp only [e]
  rw [hr,bPs,bF,List.take_length,fL]
def cC (a b : Int) : Int := if b > a then b else a
theorem mH {a b c : Int} (h : a ≤ c) (h' : b ≤ c) : cC a b ≤ c := by unfold cC; split <;> assumption
theorem gC (a b : Int) : a ≤ cC a b := by unfold cC; split <;> omega
theorem kM (a b : Int) : b ≤ cC a b := by unfold cC; split <;> omega
def ff (q : LQuery) : Int := (q.inputs.attach.map fun x=>ff x.1).foldl cC 0 + 1
termination_by SizeOf.sizeOf q
decreasing_by exact LQuery.inputs_lt x.2
theorem kL (q : LQuery) : ff q = (q.inputs.map ff).foldl cC 0 + 1 := by
 rw [ff,List.attach_map_val (f := ff)]
theorem nx : ∀ {l : List Int} {a c : Int},a ≤ c → (∀ x ∈ l,x ≤ c) → l.foldl cC a ≤ c
 | [],_,_,h,_=>h
 | x :: l,a,c,h,hl=>nx (l := l) (mH h (hl x (by simp))) fun y hy=>hl y (by simp [hy])
theorem kV : ∀ {l : List Int} {a : Int},a ≤ l.foldl cC a ∧ ∀ x ∈ l,x ≤ l.foldl cC a
 | [],a=>⟨Int.le_refl a,by simp⟩
 | x :: l,a=>by
  obtain ⟨h1,h2⟩ := kV (l := l) (a := cC a x)
  simp only [List.foldl_cons]
  refine ⟨Int.le_trans (gC a x) h1,fun y hy=>?_⟩
  rcases List.mem_cons.1 hy with rfl | hy
  ·exact Int.le_trans (kM a y) h1
  ·exact h2 y hy
theorem depthQ_nodes : ∀ q : LQuery,1 ≤ ff q ∧ ff q ≤ (bJ q).length := by
 refine LQuery.ind fun q ih=>?_
 rw [kL,fL]
 have h1 : (q.inputs.map ff).foldl cC 0 ≤ (((q.inputs.map bJ).flatten).length : Nat) := nx (by omega) fun x hx=>by
  obtain ⟨y,hy,rfl⟩ := List.mem_map.1 hx
  have := (ih y hy).2
  have := flat_le (f := bJ) hy
  omega
 have h2 := (kV (l := q.inputs.map ff) (a := 0)).1
 simp only [List.length_cons]
 omega
theorem depthQ_sub {q x : LQuery} (h : x ∈ q.inputs) : ff x + 1 ≤ ff q := by
 rw [kL q]
 have := (kV (l := q.inputs.map ff) (a := 0)).2 (ff x) (List.mem_map.2 ⟨x,h,rfl⟩)
 omega
theorem depth_ok : ∀ q : LQuery,(bJ q).length ≤ 10000000 → iy q = some (ff q) := by
 refine LQuery.ind fun q ih hb=>?_
 refine ln (γ := Unit) (F := fun n _ q=>gQ n q) (O := fun r _ q=>gM (fun x=>r () x) q) (fun n=>rfl) () q ?_ (fun x hx=>⟨_,ih x hx (by have := jc hx; omega)⟩) ?_
 ·intro r r' h
  simp only [gM]
  congr 1
  exact iR q.inputs 0 _ fun k x s hk=>by rw [h x (eU hk)]
 ·have hr := rMa (step := fun (_ : Nat) (x1 : LQuery) (s1 : Int)=>af (iy x1) fun x15=>some (Flow.next (ρ := Empty) (if x15 > s1 then x15 else s1))) (xs := q.inputs) (s := 0)
   (fun k=>((q.inputs.take k).map ff).foldl cC 0) (by simp) (fun k x hk=>by
    have hx := eU hk
    rw [ih x hx (by have := jc hx; omega),bPs,List.take_add_one,hk]
    simp [cC])
  simp only [gM]
  have e : ∀ x,(gG fun n=>gQ n x) = iy x := fun _=>rfl
  simp only [e]
  rw [hr,bPs,bF,List.take_length,kL]
  have h := depthQ_nodes q
  rw [kL] at h
  rw [aX (by omega) (by omega)]
def kn (n : Int) : Int := if 20001 < n then 20001 else n
def fX (kind : Int) (s : Int × Int) (j : Nat) (x : Int × Int) : Int × Int :=
 (kn (if j = 0 then x.1 else if kind = 6 then s.1 + x.1 else if kind = 4 ∨ kind = 5 then s.1 * cC 1 x.1 else s.1),cC s.2 x.2)
def dj (kind : Int) : Nat → List (Int × Int) → Int × Int → Int × Int
 | _,[],s=>s
 | j,x :: l,s=>dj kind (j + 1) l (fX kind s j x)
def bf (q : LQuery) : Int × Int :=
 let s := dj q.kind 0 (q.inputs.attach.map fun x=>bf x.1) (0,0)
 if q.kind = 1 then (24,cC s.2 24) else (s.1,cC s.2 s.1)
termination_by SizeOf.sizeOf q
decreasing_by exact LQuery.inputs_lt x.2
theorem jv (q : LQuery) : bf q = if q.kind = 1 then (24,cC (dj q.kind 0 (q.inputs.map bf) (0,0)).2 24) else ((dj q.kind 0 (q.inputs.map bf) (0,0)).1,cC (dj q.kind 0 (q.inputs.map bf) (0,0)).2 (dj q.kind 0 (q.inputs.map bf) (0,0)).1) := by
 rw [bf,List.attach_map_val (f := bf)]
def kC (s : Int × Int) : Prop := 0 ≤ s.1 ∧ s.1 ≤ 20001 ∧ 0 ≤ s.2 ∧ s.2 ≤ 20001
theorem capI_b {n : Int} (h : 0 ≤ n) : 0 ≤ kn n ∧ kn n ≤ 20001 := by unfold kn; split <;> omega
theorem mostStep_r {kind : Int} {s x : Int × Int} {j : Nat} (hs : kC s) (hx : kC x) : kC (fX kind s j x) := by
 obtain ⟨a1,a2,a3,a4⟩ := hs
 obtain ⟨b1,b2,b3,b4⟩ := hx
 unfold fX
 have h1 : 0 ≤ (if j = 0 then x.1 else if kind = 6 then s.1 + x.1 else if kind = 4 ∨ kind = 5 then s.1 * cC 1 x.1 else s.1) := by
  split
  ·exact b1
  ·split
   ·omega
   ·split
    ·exact Int.mul_nonneg a1 (Int.le_trans (by decide) (gC 1 x.1))
    ·exact a1
 exact ⟨(capI_b h1).1,(capI_b h1).2,Int.le_trans a3 (gC _ _),mH a4 b4⟩
theorem mW {kind : Int} : ∀ {l : List (Int × Int)} {j : Nat} {s : Int × Int},kC s → (∀ x ∈ l,kC x) → kC (dj kind j l s)
 | [],_,_,h,_=>h
 | x :: l,j,s,h,hl=>mW (l := l) (mostStep_r h (hl x (by simp))) fun y hy=>hl y (by simp [hy])
theorem mostQ_r : ∀ q : LQuery,kC (bf q) := by
 refine LQuery.ind fun q ih=>?_
 rw [jv]
 have h : kC (dj q.kind 0 (q.inputs.map bf) (0,0)) := mW ⟨by decide,by decide,by decide,by decide⟩ fun x hx=>by
  obtain ⟨y,hy,rfl⟩ := List.mem_map.1 hx
  exact ih y hy
 obtain ⟨a1,a2,a3,a4⟩ := h
 split
 ·exact ⟨show (0 : Int) ≤ 24 by decide,show (24 : Int) ≤ 20001 by decide,Int.le_trans a3 (gC _ _),mH a4 (by decide)⟩
 ·exact ⟨a1,a2,Int.le_trans a3 (gC _ _),mH a4 a2⟩
theorem nZ (kind : Int) : ∀ (l : List (Int × Int)) (j : Nat) (s x : Int × Int),dj kind j (l ++ [x]) s = fX kind (dj kind j l s) (j + l.length) x
 | [],j,s,x=>by simp [dj]
 | y :: l,j,s,x=>by
  rw [List.cons_append,dj,nZ kind l (j + 1),dj]
  congr 1
  simp
  omega
theorem mostStep_run {kind : Int} {s x : Int × Int} {j : Nat} (hs : kC s) (hx : kC x) :
  (cond ((j : Int) == (0 : Int))
   (some (Flow.next (ρ := Empty) ((if (20001 : Int) < x.1 then (20001 : Int) else x.1),(if x.2 > s.2 then x.2 else s.2))))
   (cond (kind == (6 : Int))
    (some (.next ((if (20001 : Int) < (IntKind.i64.wrap (s.1 + x.1)) then (20001 : Int) else (IntKind.i64.wrap (s.1 + x.1))),(if x.2 > s.2 then x.2 else s.2))))
    (ba (
     cond (kind == (4 : Int))
      (true)
      ((kind == (5 : Int)))) fun (t4 : Bool) =>
    cond t4
     (some (.next ((if (20001 : Int) < (IntKind.i64.wrap (s.1 * (if x.1 > (1 : Int) then x.1 else (1 : Int)))) then (20001 : Int) else (IntKind.i64.wrap (s.1 * (if x.1 > (1 : Int) then x.1 else (1 : Int))))),(if x.2 > s.2 then x.2 else s.2))))
     (some (.next ((if (20001 : Int) < s.1 then (20001 : Int) else s.1),(if x.2 > s.2 then x.2 else s.2))))))) = some (.next (fX kind s j x)) := by
 obtain ⟨a1,a2,a3,a4⟩ := hs
 obtain ⟨b1,b2,b3,b4⟩ := hx
 have hm : 1 ≤ cC 1 x.1 ∧ cC 1 x.1 ≤ 20001 := ⟨gC _ _,mH (by decide) b2⟩
 have hp : 0 ≤ s.1 * cC 1 x.1 ∧ s.1 * cC 1 x.1 ≤ 20001 * 20001 := ⟨Int.mul_nonneg a1 (by omega),Int.mul_le_mul a2 hm.2 (by omega) (by decide)⟩
 have hw1 : IntKind.i64.wrap (s.1 + x.1) = s.1 + x.1 := aX (by omega) (by omega)
 have hw2 : IntKind.i64.wrap (s.1 * (if x.1 > (1 : Int) then x.1 else (1 : Int))) = s.1 * cC 1 x.1 := aX (by show _ ≤ s.1 * cC 1 x.1; omega) (by show s.1 * cC 1 x.1 ≤ _; omega)
 rw [hw1,hw2]
 unfold fX kn cC ba
 by_cases h0 : j = 0
 ·subst h0; simp
 ·have : ((j : Int) == (0 : Int)) = false := by simp; omega
  rw [this]
  by_cases h6 : kind = 6
  ·subst h6; simp [h0]
  ·by_cases h4 : kind = 4
   ·subst h4; simp [h0]
   ·by_cases h5 : kind = 5
    ·subst h5; simp [h0]
    ·have e6 : (kind == (6 : Int)) = false := by simpa using h6
     have e4 : (kind == (4 : Int)) = false := by simpa using h4
     have e5 : (kind == (5 : Int)) = false := by simpa using h5
     simp [h0,h6,h4,h5,e6,e4,e5]
theorem most_ok : ∀ q : LQuery,jG q = some (bf q) := by
 refine LQuery.ind fun q ih=>?_
 refine ln (γ := Unit) (F := fun n _ q=>ii n q) (O := fun r _ q=>ig (fun x=>r () x) q) (fun n=>rfl) () q ?_ (fun x hx=>⟨_,ih x hx⟩) ?_
 ·intro r r' h
  simp only [ig]
  congr 1
  exact iR q.inputs 0 _ fun k x s hk=>by rw [h x (eU hk)]
 ·simp only [ig]
  have e : ∀ x,(gG fun n=>ii n x) = jG x := fun _=>rfl
  simp only [e]
  rw [rMa (xs := q.inputs) (s := (0,0)) (fun k=>dj q.kind 0 ((q.inputs.take k).map bf) (0,0)) (by simp [dj]) (fun k x hk=>by
    have hx := eU hk
    rw [ih x hx,bPs,mostStep_run (mW ⟨by decide,by decide,by decide,by decide⟩ fun y hy=>by
     obtain ⟨z,_,rfl⟩ := List.mem_map.1 hy
     exact mostQ_r z) (mostQ_r x),List.take_add_one,hk]
    have hk' := (List.getElem?_eq_some_iff.1 hk).1
    simp only [Option.toList_some,List.map_append,List.map_cons,List.map_nil]
    rw [nZ]
    congr 3
    simp
    omega)]
  rw [bPs,bF,List.take_length,jv]
  by_cases h1 : q.kind = 1
  ·simp [h1,cC]
  ·have : (q.kind == (1 : Int)) = false := by simpa using h1
   simp [h1,this,cC]
def lT : List (Int → Int) → Int → Int
 | [],s=>s
 | f :: l,s=>if s < 0 then -1 else lT l (f (IntKind.i64.wrap (s - 1)))
def sizeHere (q : LQuery) (m : Int) : Int :=
 q.aggregates.foldl (fun s a=>a.args.foldl (fun s e=>gE e (IntKind.i64.wrap (s - 1))) s) (q.exprs.foldl (fun s e=>gE e (IntKind.i64.wrap (s - 1))) m)
def jQ (q : LQuery) : Int → Int := fun m=>lT (q.inputs.attach.map fun x=>jQ x.1) (sizeHere q m)
termination_by SizeOf.sizeOf q
decreasing_by exact LQuery.inputs_lt x.2
theorem sizeQ_eq (q : LQuery) (m : Int) : jQ q m = lT (q.inputs.map jQ) (sizeHere q m) := by
 rw [jQ,List.attach_map_val (f := jQ)]
theorem nW {f : LQuery → Int → Option Int} : ∀ (l : List LQuery) (j : Nat) (s : Int),(∀ x ∈ l,∀ m,f x m = some (jQ x m)) →
  af (aE (σ := Int) (ρ := Int) (fun (_ : Nat) (x6 : LQuery) (s6 : Int)=>cond (decide (s6 < (0 : Int))) (some (.ret (-1))) (af (f x6 (IntKind.i64.wrap (s6 - (1 : Int)))) fun x57=>some (.next x57))) j l s) (fun fl6=>fl6.thenR fun (s6 : Int)=>some s6) = some (lT (l.map jQ) s)
 | [],j,s,_=>rfl
 | x :: l,j,s,h=>by
  rw [aE,List.map_cons,lT]
  by_cases hs : s < 0
  ·simp [hs]
  ·simp only [hs,decide_false,cond_false,if_false]
   rw [h x (by simp),bPs]
   exact nW l (j + 1) _ fun y hy=>h y (by simp [hy])
theorem size_ok : ∀ (q : LQuery) (m : Int),jB q m = some (jQ q m) := by
 have key : ∀ q : LQuery,∃ N,∀ n,N ≤ n → ∀ m,eR n q m = some (jQ q m) := by
  refine LQuery.ind fun q ih=>?_
  obtain ⟨N,hN⟩ := ev_all (p := fun x n=>∀ m,eR n x m = some (jQ x m)) q.inputs ih
  refine ⟨N + 1,fun n hn m=>?_⟩
  obtain ⟨n,rfl⟩ : ∃ k,n = k + 1 := ⟨n - 1,by omega⟩
  rw [eR]
  simp only [ir,bp]
  rw [kE (xs := q.exprs) (fun s e=>gE e (IntKind.i64.wrap (s - 1))) (fun _ _ _=>rfl),bPs,bF]
  rw [kE (xs := q.aggregates) (fun s a=>a.args.foldl (fun s e=>gE e (IntKind.i64.wrap (s - 1))) s) (fun k a _=>by
   rw [kE (xs := a.args) (fun s e=>gE e (IntKind.i64.wrap (s - 1))) (fun _ _ _=>rfl),bPs,bF]),bPs,bF]
  rw [nW q.inputs 0 _ (hN n (by omega)),sizeQ_eq]
  rfl
 intro q m
 obtain ⟨N,hN⟩ := key q
 exact mL N fun n hn=>hN n hn m
end
end Go.Proofs.YtgaggbdcedpapaaGreat

namespace Go.Proofs.YtgaggbdcedpapaaGreat
noncomputable section
open Go Go.Ab
theorem LExpr.args_lt {e x : LExpr} (h : x ∈ e.args) : SizeOf.sizeOf x < SizeOf.sizeOf e := by
 cases e
 simp only [LExpr.args] at h
 have := List.sizeOf_lt_of_mem h
 simp only [LExpr.mk.sizeOf_spec]
 omega
theorem LExpr.ind {p : LExpr → Prop} (h : ∀ e : LExpr,(∀ x ∈ e.args,p x) → p e) : ∀ e,p e := by
 intro e
 generalize hn : SizeOf.sizeOf e = n
 induction n using Nat.strongRecOn generalizing e with
 | _ n ih=>exact h e fun x hx=>ih _ (hn ▸ LExpr.args_lt hx) x rfl
def gk (e : LExpr) : List (Nat × Int) := if e.kind = 3 ∧ 0 ≤ e.index ∧ e.index < 8 then [(e.index.toNat,e.value.kind)] else []
def bR (e : LExpr) : List (Nat × Int) := gk e ++ (e.args.attach.map fun x=>bR x.1).flatten
termination_by SizeOf.sizeOf e
decreasing_by exact LExpr.args_lt x.2
theorem jH (e : LExpr) : bR e = gk e ++ (e.args.map bR).flatten := by
 rw [bR,List.attach_map_val (f := bR)]
abbrev PSt := List Int × Bool × List Bool
def fR (out : List Int) (i : Nat) : List Int := out ++ List.replicate (i + 1 - out.length) 0
def dw (s : PSt) (p : Nat × Int) : PSt :=
 ((fR s.1 p.1).set p.1 p.2,s.2.1 || (s.2.2.getD p.1 false && (fR s.1 p.1).getD p.1 0 != p.2),s.2.2.set p.1 true)
def POk (s : PSt) : Prop := s.1.length ≤ 8 ∧ s.2.2.length = 8
theorem kI (out : List Int) (i : Nat) : (fR out i).length = max out.length (i + 1) := by simp [fR]; omega
theorem pstep_ok {s : PSt} {p : Nat × Int} (h : POk s) (hp : p.1 < 8) : POk (dw s p) := by
 refine ⟨?_,by simp [dw,h.2]⟩
 show ((fR s.1 p.1).set p.1 p.2).length ≤ 8
 rw [List.length_set,kI]
 have := h.1
 omega
theorem kd : ∀ e : LExpr,∀ p ∈ bR e,p.1 < 8 := by
 refine LExpr.ind fun e ih p hp=>?_
 rw [jH,List.mem_append] at hp
 rcases hp with hp | hp
 ·unfold gk at hp
  split at hp
  ·rename_i h; simp at hp; subst hp; simp; omega
  ·simp at hp
 ·obtain ⟨l,hl,hp⟩ := List.mem_flatten.1 hp
  obtain ⟨x,hx,rfl⟩ := List.mem_map.1 hl
  exact ih x hx p hp
theorem jt : ∀ {l : List (Nat × Int)} {s : PSt},POk s → (∀ p ∈ l,p.1 < 8) → POk (l.foldl dw s)
 | [],_,h,_=>h
 | p :: l,s,h,hl=>jt (l := l) (pstep_ok h (hl p (by simp))) fun q hq=>hl q (by simp [hq])
theorem pad_while (i : Nat) (hi : i < 8) : ∀ (n : Nat) (out : List Int),i + 1 - out.length = n → out.length ≤ 8 →
  ef (σ := List Int) (ρ := Empty) (fun (s7 : List Int)=>cond (decide ((s7.length : Int) ≤ (i : Int))) (af (cI 8 s7 ([0] : List Int)) fun (x28 : List Int)=>some (.next x28)) (some (.brk s7))) out = some (.next (fR out i))
 | 0,out,hn,ho=>by
  refine jk (fl := .brk out) ?_ ?_
  ·have : ¬ ((out.length : Int) ≤ (i : Int)) := by omega
   simp [this]
  ·simp [fR,hn]
 | n + 1,out,hn,ho=>by
  refine jk (fl := .next (out ++ [0])) ?_ ?_
  ·have : (out.length : Int) ≤ (i : Int) := by omega
   simp only [this,decide_true,cond_true]
   rw [bI (by decide) (by simp; omega)]
   rfl
  ·have := pad_while i hi n (out ++ [0]) (by simp; omega) (by simp; omega)
   simp only
   rw [this]
   simp only [fR,List.length_append,List.length_singleton,List.append_assoc,hn]
   rw [show i + 1 - (out.length + 1) = n from by omega,show (List.replicate (n + 1) (0 : Int)) = [0] ++ List.replicate n 0 from rfl]
theorem arrI_at {xs : List Bool} {i : Nat} (h : xs.length = 8) (hi : i < 8) : arrI 8 xs (i : Int) = some (xs.getD i false) := by
 have : xs[i]? = some (xs.getD i false) := by rw [List.getD_eq_getElem?_getD,List.getElem?_eq_getElem (by omega)]; rfl
 exact arrI_eq (by omega) (by simpa using this)
theorem getI_at {xs : List Int} {i : Nat} (h : i < xs.length) : aC xs (i : Int) = some (xs.getD i 0) := by
 have : xs[i]? = some (xs.getD i 0) := by rw [List.getD_eq_getElem?_getD,List.getElem?_eq_getElem h]; rfl
 exact jA this
theorem look_ok : ∀ e : LExpr,∃ N,∀ n,N ≤ n → ∀ s : PSt,POk s → cu n e s.1 s.2.1 s.2.2 = some ((bR e).foldl dw s) := by
 refine LExpr.ind fun e ih=>?_
 obtain ⟨N,hN⟩ := ev_all (p := fun x n=>∀ s : PSt,POk s → cu n x s.1 s.2.1 s.2.2 = some ((bR x).foldl dw s)) e.args ih
 refine ⟨N + 1,fun n hn s hs=>?_⟩
 obtain ⟨n,rfl⟩ : ∃ k,n = k + 1 := ⟨n - 1,by omega⟩
 rw [cu]
 simp only [fm]
 have h1 : POk ((gk e).foldl dw s) := jt hs fun p hp=>kd e p (by rw [jH]; simp [hp])
 have hloop : ∀ s : PSt,POk s → af (aE (σ := List Int × Bool × List Bool) (ρ := Empty) (fun (_ : Nat) (x11 : LExpr) (s11 : List Int × Bool × List Bool) =>
   af (cu n x11 s11.1 s11.2.1 s11.2.2) fun x66=>some (.next (x66.1,x66.2.1,x66.2.2))) 0 e.args (s.1,s.2.1,s.2.2)) (fun fl11=>fl11.thenP fun (s11 : List Int × Bool × List Bool)=>some (s11.1,s11.2.1,s11.2.2)) =
   some (((e.args.map bR).flatten).foldl dw s) := by
  intro s hs
  rw [rMa (xs := e.args) (s := (s.1,s.2.1,s.2.2)) (fun k=>(((e.args.take k).map bR).flatten).foldl dw s) rfl (fun k x hk=>by
   have hx := eU hk
   have hok : POk ((((e.args.take k).map bR).flatten).foldl dw s) := jt hs fun p hp=>by
    obtain ⟨l,hl,hp⟩ := List.mem_flatten.1 hp
    obtain ⟨y,hy,rfl⟩ := List.mem_map.1 hl
    exact kd y p hp
   rw [hN n (by omega) x hx _ hok,bPs,List.take_add_one,hk]
   simp)]
  rw [bPs,bF,List.take_length]
 have key : (af (cond (ba (cond (e.kind == (3 : Int)) (cond (decide (e.index ≥ (0 : Int))) ((decide (e.index < (8 : Int)))) (false)) (false)) fun (t1 : Bool)=>t1)
   (af (ef (σ := List Int) (ρ := Empty) (fun (s7 : List Int)=>cond (decide ((s7.length : Int) ≤ e.index)) (af (cI 8 s7 ([0] : List Int)) fun (x28 : List Int)=>some (.next x28)) (some (.brk s7))) s.1) fun fl7=>fl7.thenP fun (s7 : List Int) =>
   af (cond s.2.1 (some true) (af (arrI 8 s.2.2 e.index) fun (x33 : Bool)=>cond x33 (af (aC s7 e.index) fun (x39 : Int)=>some (x39 != e.value.kind)) (some false))) fun (t8 : Bool) =>
   af (aC s7 e.index) fun (_ : Int)=>ba (s7.set e.index.toNat e.value.kind) fun (y9 : List Int)=>af (arrI 8 s.2.2 e.index) fun (_ : Bool)=>ba (s.2.2.set e.index.toNat true) fun (y10 : List Bool)=>some (y9,t8,y10))
   (some (s.1,s.2.1,s.2.2))) fun t=>some t) = some ((gk e).foldl dw s) := by
  unfold ba
  by_cases hc : e.kind = 3 ∧ 0 ≤ e.index ∧ e.index < 8
  ·obtain ⟨hk,h0,h8⟩ := hc
   obtain ⟨i,hi⟩ : ∃ i : Nat,e.index = i := ⟨e.index.toNat,by omega⟩
   have hi8 : i < 8 := by omega
   have e0 : (e.kind == (3 : Int)) = true := by simpa using hk
   have e1 : decide (e.index ≥ (0 : Int)) = true := decide_eq_true h0
   have e2 : decide (e.index < (8 : Int)) = true := decide_eq_true h8
   rw [e0,e1,e2]
   simp only [cond_true]
   rw [hi,pad_while i hi8 _ s.1 rfl hs.1]
   simp only [bPs,bF]
   have hl : i < (fR s.1 i).length := by rw [kI]; omega
   rw [arrI_at hs.2 hi8,getI_at hl]
   simp only [bPs,Int.toNat_natCast]
   have hh : gk e = [(i,e.value.kind)] := by unfold gk; rw [if_pos ⟨hk,h0,h8⟩,hi,Int.toNat_natCast]
   rw [hh]
   simp only [List.foldl_cons,List.foldl_nil,dw]
   cases hb : s.2.1 <;> cases hc : s.2.2.getD i false <;> simp
  ·have hh : gk e = [] := by unfold gk; rw [if_neg hc]
   rw [hh]
   have e0 : (cond (e.kind == (3 : Int)) (cond (decide (e.index ≥ (0 : Int))) ((decide (e.index < (8 : Int)))) (false)) (false)) = false := by
    by_cases a : e.kind = 3
    ·by_cases b : 0 ≤ e.index
     ·have : ¬ e.index < 8 := fun h=>hc ⟨a,b,h⟩
      simp [this]
     ·have : ¬ e.index ≥ 0 := b
      simp [this]
    ·have : (e.kind == (3 : Int)) = false := by simpa using a
     simp [this]
   rw [e0]
   rfl
 simp only [bp] at key ⊢
 rw [jH,List.foldl_append,← hloop _ h1]
 generalize hg : (cond _ _ _ : Option PSt) = o at key
 cases o with
 | none=>cases key
 | some t =>
  simp only [bPs,Option.some.injEq] at key
  subst key
  rfl
theorem look_eq (e : LExpr) {s : PSt} (h : POk s) : ek e s.1 s.2.1 s.2.2 = some ((bR e).foldl dw s) := by
 obtain ⟨N,hN⟩ := look_ok e
 exact mL N fun n hn=>hN n hn s h
def go (x : LQuery) : List (Nat × Int) := (x.exprs.map bR).flatten ++ (x.aggregates.map fun a=>(a.args.map bR).flatten).flatten
def ft (q : LQuery) : List (Nat × Int) := ((bJ q).map go).flatten
theorem ld {x : LQuery} : ∀ p ∈ go x,p.1 < 8 := by
 intro p hp
 rcases List.mem_append.1 hp with hp | hp
 ·obtain ⟨l,hl,hp⟩ := List.mem_flatten.1 hp
  obtain ⟨e,_,rfl⟩ := List.mem_map.1 hl
  exact kd e p hp
 ·obtain ⟨l,hl,hp⟩ := List.mem_flatten.1 hp
  obtain ⟨a,_,rfl⟩ := List.mem_map.1 hl
  obtain ⟨l,hl,hp⟩ := List.mem_flatten.1 hp
  obtain ⟨e,_,rfl⟩ := List.mem_map.1 hl
  exact kd e p hp
theorem paramsQ_lt {q : LQuery} : ∀ p ∈ ft q,p.1 < 8 := by
 intro p hp
 obtain ⟨l,hl,hp⟩ := List.mem_flatten.1 hp
 obtain ⟨x,_,rfl⟩ := List.mem_map.1 hl
 exact ld p hp
theorem lookAll {l : List LExpr} {s : PSt} (h : POk s) : aE (σ := PSt) (ρ := Empty) (fun (_ : Nat) (x12 : LExpr) (s12 : PSt) =>
   af (ek x12 s12.1 s12.2.1 s12.2.2) fun x33=>some (.next (x33.1,x33.2.1,x33.2.2))) 0 l (s.1,s.2.1,s.2.2) = some (.next (((l.map bR).flatten).foldl dw s)) := by
 rw [rMa (xs := l) (s := (s.1,s.2.1,s.2.2)) (fun k=>(((l.take k).map bR).flatten).foldl dw s) rfl (fun k x hk=>by
  have hok : POk ((((l.take k).map bR).flatten).foldl dw s) := jt h fun p hp=>by
   obtain ⟨m,hm,hp⟩ := List.mem_flatten.1 hp
   obtain ⟨y,hy,rfl⟩ := List.mem_map.1 hm
   exact kd y p hp
  rw [look_eq x hok,bPs,List.take_add_one,hk]
  simp),List.take_length]
def cR (q : LQuery) : PSt := (ft q).foldl dw ([],false,List.replicate 8 false)
theorem kinds_ok {q : LQuery} (hb : (bJ q).length ≤ 10000000) : dQ q = some (cond (cR q).2.1 ([],13) ((cR q).1,0)) := by
 unfold dQ
 rw [nodes_ok q hb,bPs]
 rw [rMa (xs := bJ q) (s := ([],false,List.replicate 8 false)) (fun k=>((((bJ q).take k).map go).flatten).foldl dw ([],false,List.replicate 8 false)) rfl (fun k x hk=>by
  have hok : POk (((((bJ q).take k).map go).flatten).foldl dw ([],false,List.replicate 8 false)) := jt ⟨by simp,by simp⟩ fun p hp=>by
   obtain ⟨m,hm,hp⟩ := List.mem_flatten.1 hp
   obtain ⟨y,hy,rfl⟩ := List.mem_map.1 hm
   exact ld p hp
  rw [lookAll hok,bPs,bF]
  rw [show ((((bJ q).take (k + 1)).map go).flatten).foldl dw ([],false,List.replicate 8 false) = (go x).foldl dw (((((bJ q).take k).map go).flatten).foldl dw ([],false,List.replicate 8 false)) from by
   rw [List.take_add_one,hk]
   simp only [Option.toList_some,List.map_append,List.map_cons,List.map_nil,List.flatten_append,List.flatten_cons,List.flatten_nil,List.append_nil,List.foldl_append]]
  generalize (((((bJ q).take k).map go).flatten).foldl dw ([],false,List.replicate 8 false)) = s at hok ⊢
  have hok2 : POk (((x.exprs.map bR).flatten).foldl dw s) := jt hok fun p hp=>ld (x := x) p (by unfold go; simp only [List.mem_append]; exact .inl hp)
  rw [rMa (xs := x.aggregates) (s := ((((x.exprs.map bR).flatten).foldl dw s).1,(((x.exprs.map bR).flatten).foldl dw s).2.1,(((x.exprs.map bR).flatten).foldl dw s).2.2))
   (fun k=>((((x.aggregates.take k).map fun a=>(a.args.map bR).flatten).flatten).foldl dw (((x.exprs.map bR).flatten).foldl dw s))) rfl (fun k a ha=>by
    have hok3 : POk ((((x.aggregates.take k).map fun a=>(a.args.map bR).flatten).flatten).foldl dw (((x.exprs.map bR).flatten).foldl dw s)) := jt hok2 fun p hp=>ld (x := x) p (by
     unfold go
     simp only [List.mem_append]
     obtain ⟨m,hm,hp⟩ := List.mem_flatten.1 hp
     obtain ⟨y,hy,rfl⟩ := List.mem_map.1 hm
     exact .inr (List.mem_flatten.2 ⟨_,List.mem_map.2 ⟨y,List.mem_of_mem_take hy,rfl⟩,hp⟩))
    rw [lookAll hok3,bPs,bF,List.take_add_one,ha]
    simp)]
  rw [bPs,bF,List.take_length]
  unfold go
  rw [List.foldl_append])]
 rw [bPs,bF,List.take_length]
 show (cond (cR q).2.1 (some ([],13)) (some ((cR q).1,0))) = _
 cases (cR q).2.1 <;> rfl
def lu (l : List (Nat × Int)) : Prop := ∀ i k k',(i,k) ∈ l → (i,k') ∈ l → k = k'
structure PInv (l : List (Nat × Int)) (s : PSt) : Prop where
 ok : POk s
 seen : ∀ i,i < 8 → (s.2.2.getD i false = true ↔ ∃ k,(i,k) ∈ l)
 len : ∀ i k,(i,k) ∈ l → i < s.1.length
 last : s.1.length = 0 ∨ ∃ k,(s.1.length - 1,k) ∈ l
 zero : ∀ i,(∀ k,(i,k) ∉ l) → s.1.getD i 0 = 0
 good : s.2.1 = false → ∀ i k,(i,k) ∈ l → s.1.getD i 0 = k
 bad : lu l → s.2.1 = false
theorem mj (out : List Int) (i j : Nat) : (fR out i).getD j 0 = out.getD j 0 := by
 simp only [fR,List.getD_eq_getElem?_getD]
 by_cases h : j < out.length
 ·rw [List.getElem?_append_left h]
 ·rw [List.getElem?_append_right (by omega),List.getElem?_eq_none (l := out) (by omega),List.getElem?_replicate]
  split <;> rfl
theorem PInv.init : PInv [] ([],false,List.replicate 8 false) :=
 ⟨⟨by simp,by simp⟩,fun i hi=>by
  have : (List.replicate 8 false).getD i false = false := by rw [List.getD_eq_getElem?_getD,List.getElem?_replicate]; split <;> rfl
  exact ⟨fun h=>(by rw [show (([],false,List.replicate 8 false) : PSt).2.2 = List.replicate 8 false from rfl,this] at h; cases h),fun ⟨k,hk⟩=>(by simp at hk)⟩,fun i k h=>by simp at h,.inl rfl,fun i _=>by simp,fun _ i k h=>by simp at h,fun _=>rfl⟩
theorem PInv.step {l : List (Nat × Int)} {s : PSt} (h : PInv l s) {p : Nat × Int} (hp : p.1 < 8) : PInv (l ++ [p]) (dw s p) := by
 obtain ⟨i,k⟩ := p
 simp only at hp
 have hset : ∀ (xs : List Int) (j : Nat) (v : Int),i < xs.length → (xs.set i v).getD j 0 = if j = i then v else xs.getD j 0 := by
  intro xs j v hl
  rw [List.getD_eq_getElem?_getD,List.getD_eq_getElem?_getD,List.getElem?_set]
  by_cases hji : i = j
  ·subst hji; simp [hl]
  ·have : j ≠ i := fun h=>hji h.symm
   simp [hji,this]
 have hl1 : i < (fR s.1 i).length := by rw [kI]; omega
 refine ⟨pstep_ok h.ok hp,fun j hj=>?_,fun j k' hm=>?_,?_,fun j hno=>?_,fun hb j k' hm=>?_,fun hk=>?_⟩
 ·show (s.2.2.set i true).getD j false = true ↔ _
  rw [List.getD_eq_getElem?_getD,List.getElem?_set]
  by_cases hji : i = j
  ·subst hji
   have : i < s.2.2.length := by rw [h.ok.2]; exact hp
   simp [this]
  ·have h1 := h.seen j hj
   rw [List.getD_eq_getElem?_getD] at h1
   have hji' : j ≠ i := fun h=>hji h.symm
   simp only [hji,if_false,h1,List.mem_append,List.mem_singleton,Prod.mk.injEq,hji',false_and,or_false]
 ·show j < ((fR s.1 i).set i k).length
  rw [List.length_set,kI]
  rcases List.mem_append.1 hm with hm | hm
  ·have := h.len j k' hm; omega
  ·simp at hm; omega
 ·show ((fR s.1 i).set i k).length = 0 ∨ ∃ k',(((fR s.1 i).set i k).length - 1,k') ∈ l ++ [(i,k)]
  rw [List.length_set,kI]
  by_cases hle : s.1.length ≤ i + 1
  ·right
   exact ⟨k,by rw [show max s.1.length (i + 1) - 1 = i from by omega]; simp⟩
  ·rcases h.last with h0 | ⟨k',hk'⟩
   ·omega
   ·right
    exact ⟨k',by rw [show max s.1.length (i + 1) - 1 = s.1.length - 1 from by omega]; simp [hk']⟩
 ·show ((fR s.1 i).set i k).getD j 0 = 0
  have hji : j ≠ i := fun e=>hno k (by simp [e])
  rw [hset _ _ _ hl1,if_neg hji,mj]
  exact h.zero j fun k' hm=>hno k' (by simp [hm])
 ·have hb' : s.2.1 = false ∧ (s.2.2.getD i false && (fR s.1 i).getD i 0 != k) = false := by
   have : (s.2.1 || (s.2.2.getD i false && (fR s.1 i).getD i 0 != k)) = false := hb
   simpa using this
  show ((fR s.1 i).set i k).getD j 0 = k'
  rw [hset _ _ _ hl1]
  have hold := h.good hb'.1
  rcases List.mem_append.1 hm with hm1 | hm
  ·by_cases hji : j = i
   ·subst hji
    rw [if_pos rfl]
    have hs := (h.seen j hp).2 ⟨k',hm1⟩
    have := hb'.2
    rw [hs,mj,hold j k' hm1] at this
    simp at this
    exact this.symm
   ·rw [if_neg hji,mj]
    exact hold j k' hm1
  ·simp at hm
   rw [if_pos hm.1,hm.2]
 ·have h1 := h.bad fun i k k' a b=>hk i k k' (by simp [a]) (by simp [b])
  show (s.2.1 || (s.2.2.getD i false && (fR s.1 i).getD i 0 != k)) = false
  rw [h1,Bool.false_or,mj]
  cases hs : s.2.2.getD i false with
  | false=>rfl
  | true =>
   obtain ⟨k',hk'⟩ := (h.seen i hp).1 hs
   rw [h.good h1 i k' hk',hk i k' k (by simp [hk']) (by simp)]
   simp
theorem PInv.fold : ∀ {r l : List (Nat × Int)} {s : PSt},PInv l s → (∀ p ∈ r,p.1 < 8) → PInv (l ++ r) (r.foldl dw s)
 | [],l,s,h,_=>by simpa using h
 | p :: r,l,s,h,hr=>by
  have := PInv.fold (r := r) (h.step (hr p (by simp))) fun q hq=>hr q (by simp [hq])
  simpa using this
theorem kinds_inv (q : LQuery) : PInv (ft q) (cR q) := by
 have := PInv.fold (r := ft q) PInv.init paramsQ_lt
 rw [List.nil_append] at this
 exact this
theorem kinds_bad {q : LQuery} : (cR q).2.1 = false ↔ lu (ft q) := by
 have h := kinds_inv q
 refine ⟨fun hb i k k' a b=>?_,h.bad⟩
 rw [← h.good hb i k a,← h.good hb i k' b]
structure ArgsOk (l : List (Nat × Int)) (args : List LVal) : Prop where
 kinds : lu l
 args : ∀ i k,(i,k) ∈ l → i < args.length ∧ (∀ j x,j ≤ i → args[j]? = some x → dA x = true) ∧ (∀ x,args[i]? = some x → k = 0 ∨ x.kind = k ∨ x.kind = 0)
theorem ArgsOk.sub {l l' : List (Nat × Int)} {args : List LVal} (h : ArgsOk l args) (hs : ∀ p ∈ l',p ∈ l) : ArgsOk l' args :=
 ⟨fun i k k' a b=>h.kinds i k k' (hs _ a) (hs _ b),fun i k a=>h.args i k (hs _ a)⟩
theorem args_ok {q : LQuery} (hb : (bJ q).length ≤ 10000000) (args : List LVal) : ∃ e,dN q args = some e ∧ (e = 0 ↔ ArgsOk (ft q) args) := by
 unfold dN
 rw [kinds_ok hb,bPs]
 have h := kinds_inv q
 cases hbad : (cR q).2.1 with
 | true =>
  refine ⟨13,by simp,?_⟩
  have : ¬ lu (ft q) := fun hk=>by rw [kinds_bad.2 hk] at hbad; cases hbad
  exact ⟨fun h=>by omega,fun h=>absurd h.kinds this⟩
 | false =>
  simp only [cond_false]
  have hk := kinds_bad.1 hbad
  by_cases hl : args.length < (cR q).1.length
  ·refine ⟨1,by simp [hl],fun h=>by omega,fun ha=>?_⟩
   rcases h.last with h0 | ⟨k,hm⟩
   ·omega
   ·have := (ha.args _ _ hm).1; omega
  ·have hge : (cR q).1.length ≤ args.length := by omega
   have hstep : ∀ k x,(cR q).1[k]? = some x → ∃ y,args[k]? = some y := fun k x hx=>by
    have := (List.getElem?_eq_some_iff.1 hx).1
    exact ⟨args[k],List.getElem?_eq_getElem (by omega)⟩
   let okAt : Nat → Int → Prop := fun k x=>∀ y,args[k]? = some y → dA y = true ∧ (x = 0 ∨ y.kind = x ∨ y.kind = 0)
   obtain ⟨fl,hfl,hres⟩ := eE (step := fun (j1 : Nat) (x1 : Int) (_ : Unit)=>af (aC args (j1 : Int)) fun (x31 : LVal)=>ba (dA x31) fun x33=>cond (!x33) (some (Flow.ret (σ := Unit) (7 : Int)))
     (cond (x1 != (0 : Int)) (af (aC args (j1 : Int)) fun (x41 : LVal)=>cond (x41.kind != x1) (af (aC args (j1 : Int)) fun (x50 : LVal)=>cond (x50.kind != (0 : Int)) (some (.ret 7)) (some (.next ()))) (some (.next ()))) (some (.next ()))))
    (fun j _=>∀ k x,k < j → (cR q).1[k]? = some x → okAt k x) (fun r=>r = 7 ∧ ∃ k x,(cR q).1[k]? = some x ∧ ¬ okAt k x) (cR q).1 0 () (fun k x hk=>by omega) (fun k x s hk hI=>by
     obtain ⟨y,hy⟩ := hstep k x hk
     simp only [Nat.zero_add] at hI ⊢
     rw [jA hy]
     simp only [bPs,bp]
     have next : okAt k x → ∀ k' x',k' < k + 1 → (cR q).1[k']? = some x' → okAt k' x' := fun ho k' x' hk' hx'=>by
      by_cases he : k' = k
      ·subst he; rw [hk] at hx'; cases hx'; exact ho
      ·exact hI k' x' (by omega) hx'
     cases hv : dA y with
     | false=>exact ⟨_,rfl,rfl,k,x,hk,fun ho=>by have := (ho y hy).1; rw [hv] at this; cases this⟩
     | true =>
      simp only [Bool.not_true,cond_false]
      by_cases hx0 : x = 0
      ·refine ⟨.next (),by simp [hx0],next fun z hz=>?_⟩
       rw [hy] at hz; cases hz; exact ⟨hv,.inl hx0⟩
      ·have e0 : (x != (0 : Int)) = true := by simpa using hx0
       rw [e0,cond_true]
       by_cases hyx : y.kind = x
       ·refine ⟨.next (),by simp [hyx],next fun z hz=>?_⟩
        rw [hy] at hz; cases hz; exact ⟨hv,.inr (.inl hyx)⟩
       ·have e1 : (y.kind != x) = true := by simpa using hyx
        rw [e1,cond_true]
        by_cases hy0 : y.kind = 0
        ·refine ⟨.next (),by simp [hy0],next fun z hz=>?_⟩
         rw [hy] at hz; cases hz; exact ⟨hv,.inr (.inr hy0)⟩
        ·have e2 : (y.kind != (0 : Int)) = true := by simpa using hy0
         refine ⟨.ret 7,by simp [e2],rfl,k,x,hk,fun ho=>?_⟩
         rcases (ho y hy).2 with a | a | a
         ·exact hx0 a
         ·exact hyx a
         ·exact hy0 a)
   have e0 : decide ((args.length : Int) < ((cR q).1.length : Int)) = false := decide_eq_false (by omega)
   simp only [bne_self_eq_false,cond_false,e0]
   rw [hfl,bPs]
   have hget : ∀ k,k < (cR q).1.length → (cR q).1[k]? = some ((cR q).1.getD k 0) := fun k hk=>by
    rw [List.getD_eq_getElem?_getD,List.getElem?_eq_getElem hk]; rfl
   cases fl with
   | brk s=>exact absurd hres (by simp)
   | next s =>
    refine ⟨0,rfl,fun _=>⟨hk,fun i k hm=>?_⟩,fun _=>rfl⟩
    have hi := h.len i k hm
    simp only [Nat.zero_add] at hres
    refine ⟨by omega,fun j x hj hx=>?_,fun x hx=>?_⟩
    ·exact ((hres j _ (by omega) (hget j (by omega))) x hx).1
    ·have := ((hres i _ (by omega) (hget i (by omega))) x hx).2
     rwa [h.good hbad i k hm] at this
   | ret r =>
    obtain ⟨rfl,k,x,hx,hno⟩ := hres
    refine ⟨7,rfl,fun h=>by omega,fun ha=>absurd ?_ hno⟩
    intro y hy
    have hkl := (List.getElem?_eq_some_iff.1 hx).1
    rcases h.last with h0 | ⟨k',hm⟩
    ·omega
    ·have hv := (ha.args _ _ hm).2.1 k y (by omega) hy
     refine ⟨hv,?_⟩
     by_cases hex : ∃ k2,(k,k2) ∈ ft q
     ·obtain ⟨k2,hm2⟩ := hex
      have hg := h.good hbad k k2 hm2
      have hxx : x = k2 := by
       rw [hget k hkl] at hx
       rw [← hg]
       exact (Option.some.inj hx).symm
      rw [hxx]
      exact (ha.args k k2 hm2).2.2 y hy
     ·left
      have := h.zero k fun k2 hm2=>hex ⟨k2,hm2⟩
      rw [hget k hkl] at hx
      rw [← this]
      exact (Option.some.inj hx).symm
end
end Go.Proofs.YtgaggbdcedpapaaGreat

namespace Go.Proofs.YtgaggbdcedpapaaGreat
noncomputable section
open Go Go.Ab
def Tot {α : Type} (o : Option α) : Prop := ∃ v,o = some v
theorem Tot.mk {α : Type} {v : α} : Tot (Option.some v) := ⟨v,rfl⟩
theorem Tot.bind {α β : Type} {o : Option α} {k : α → Option β} (h : Tot o) (hk : ∀ v,o = some v → Tot (k v)) : Tot (af o k) := by
 obtain ⟨v,hv⟩ := h
 rw [hv]
 exact hk v hv
theorem Tot.cond {α : Type} {b : Bool} {x y : Option α} (hx : b = true → Tot x) (hy : b = false → Tot y) : Tot (cond b x y) := by
 cases b
 ·exact hy rfl
 ·exact hx rfl
theorem Tot.get {α : Type} {xs : List α} {i : Int} (h0 : 0 ≤ i) (h : i < xs.length) : Tot (aC xs i) := by
 have : i.toNat < xs.length := by omega
 exact ⟨xs[i.toNat],jE h0 (List.getElem?_eq_getElem this)⟩
theorem Tot.sub {α : Type} {xs : List α} {a b : Int} (h : 0 ≤ a ∧ a ≤ b ∧ b ≤ xs.length) : Tot (kv xs a b) := ⟨_,lx h⟩
theorem Tot.range {α σ ρ : Type} {step : Nat → α → σ → Option (Flow σ ρ)} : ∀ (xs : List α) (j : Nat) (s : σ),(∀ k x s,xs[k]? = some x → Tot (step (j + k) x s)) → Tot (aE step j xs s)
 | [],_,s,_=>⟨.next s,rfl⟩
 | x :: xs,j,s,h=>by
  obtain ⟨fl,hfl⟩ := h 0 x s rfl
  rw [Nat.add_zero] at hfl
  rw [aE,hfl]
  cases fl with
  | next s' =>
   exact Tot.range xs (j + 1) s' fun k y t hk=>by
    have := h (k + 1) y t (by simpa using hk)
    rwa [show j + (k + 1) = j + 1 + k from by omega] at this
  | brk s'=>exact ⟨_,rfl⟩
  | ret r=>exact ⟨_,rfl⟩
theorem Tot.thenR {σ ρ : Type} {fl : Flow σ ρ} {k : σ → Option ρ} (h : ∀ s,(fl = .next s ∨ fl = .brk s) → Tot (k s)) : Tot (fl.thenR k) := by
 cases fl with
 | next s=>exact h s (.inl rfl)
 | brk s=>exact h s (.inr rfl)
 | ret r=>exact ⟨r,rfl⟩
theorem jx {a b : Int} (h : a ≠ b) : (a != b) = true := by simpa using h
theorem bneF {a b : Int} (h : a = b) : (a != b) = false := by simp [h]
theorem ct {a b : Int} (h : a ≠ b) : (a == b) = false := by simpa using h
theorem iS {a b : Int} (h : a = b) : (a == b) = true := by simp [h]
theorem idxF {α : Type} {l : List α} {f : α → Option Bool} {p : α → Bool} (h : ∀ x ∈ l,f x = some (p x)) :
  af (aE (σ := Unit) (ρ := Int) (fun (j1 : Nat) (x1 : α) (_ : Unit)=>af (f x1) fun x16=>cond x16 (some (.ret (j1 : Int))) (some (.next ()))) 0 l ()) (fun fl1=>fl1.thenR fun (_ : Unit)=>some (-1)) = some (aK p l) := by
 rw [kA p (fun j _=>(j : Int)) l 0 (fun k x hk=>by
  rw [h x (eU hk),bPs]
  cases p x <;> simp)]
 unfold aK
 cases hf : l.findIdx? p with
 | none=>rfl
 | some i =>
  have hi := (List.findIdx?_eq_some_iff_getElem.1 hf).1
  simp only [List.getElem?_eq_getElem hi]
  simp
theorem idxF2 {α : Type} {l : List α} {p : α → Bool} :
  af (aE (σ := Unit) (ρ := Int) (fun (j1 : Nat) (x1 : α) (_ : Unit)=>cond (p x1) (some (.ret (j1 : Int))) (some (.next ()))) 0 l ()) (fun fl1=>fl1.thenR fun (_ : Unit)=>some (-1)) = some (aK p l) := idxF (f := fun x=>some (p x)) fun _ _=>rfl
theorem idxOf_neg {α : Type} {p : α → Bool} {l : List α} : aK p l = -1 ∨ 0 ≤ aK p l := by
 unfold aK
 cases l.findIdx? p with
 | none=>exact .inl rfl
 | some i=>exact .inr (by simp)
theorem kP {α : Type} {p : α → Bool} {l : List α} (h : 0 ≤ aK p l) : ∃ x,l[(aK p l).toNat]? = some x ∧ p x = true := by
 unfold aK at h ⊢
 cases hf : l.findIdx? p with
 | none=>rw [hf] at h; simp at h
 | some i =>
  obtain ⟨hi,hp,_⟩ := List.findIdx?_eq_some_iff_getElem.1 hf
  exact ⟨l[i],by simp [hi],hp⟩
theorem idx_table (l : List LTable) (p : LTable → Bool) : bW l (fun a=>some (p a)) = some (aK p l) := idxF fun _ _=>rfl
theorem idx_column (l : List LCol) (p : LCol → Bool) : bQ l (fun a=>some (p a)) = some (aK p l) := idxF fun _ _=>rfl
theorem lS (s : LSchema) (name : List UInt8) : eo s name = some (cC 0 (aK (fun t=>cn t name) s.tables),decide (aK (fun t=>cn t name) s.tables ≥ 0)) := by
 unfold eo
 rw [idx_table,bPs]
 congr 2
 unfold cC
 split <;> split <;> omega
theorem findColumn_eq (t : LTable) (name : List UInt8) : eG t name = some (cC 0 (aK (fun c=>cM c name) t.columns),decide (aK (fun c=>cM c name) t.columns ≥ 0)) := by
 unfold eG
 rw [idx_column,bPs]
 congr 2
 unfold cC
 split <;> split <;> omega
theorem mr {n : Int} (h : 0 ≤ n) : cC 0 n = n := by unfold cC; split <;> omega
theorem nv (s : List UInt8) : Tot (ed s) := by
 unfold ed
 refine Tot.bind ?_ fun b hb=>?_
 ·refine Tot.cond (fun _=>Tot.mk) fun h1=>?_
  refine Tot.cond (fun _=>Tot.mk) fun h2=>?_
  have h1 := of_decide_eq_false h1
  refine Tot.bind (Tot.get (by decide) (by omega)) fun x _=>?_
  refine Tot.cond (fun _=>?_) fun _=>Tot.mk
  exact Tot.bind (Tot.get (by decide) (by omega)) fun x _=>Tot.mk
 ·refine Tot.cond (fun _=>Tot.mk) fun h=>?_
  subst h
  have hl : (s.length : Int) ≤ 12 := by
   by_cases h1 : (s.length : Int) < 1
   ·omega
   ·by_cases h2 : (s.length : Int) > 12
    ·rw [decide_eq_false h1,decide_eq_true h2] at hb; simp at hb
    ·omega
  refine Tot.bind ⟨(),dg (by omega)⟩ fun _ _=>?_
  refine Tot.bind (Tot.range _ _ _ fun k x _ _=>?_) fun fl _=>Tot.thenR fun _ _=>Tot.mk
  repeat' first | exact Tot.mk | refine Tot.cond (fun _=>?_) (fun _=>?_)
structure TableOk (t : LTable) : Prop where
 pk : ∀ x ∈ t.primaryKey,0 ≤ x ∧ x < t.columns.length
theorem validTable (t : LTable) (hsm : t.primaryKey.length ≤ 10000000) : ∃ e,dP t = some e ∧ (e = 0 → TableOk t) := by
 unfold dP
 obtain ⟨b,hb⟩ := nv t.name
 rw [hb,bPs]
 cases b with
 | false=>exact ⟨23,rfl,fun h=>by omega⟩
 | true =>
  simp only [Bool.not_true,cond_false]
  by_cases h0 : (t.columns.length : Int) = 0
  ·exact ⟨3,by simp [h0],fun h=>by omega⟩
  by_cases h6 : (t.columns.length : Int) > 6
  ·have : ((t.columns.length : Int) == 0) = false := by simpa using h0
   exact ⟨2,by rw [this]; simp [h6],fun h=>by omega⟩
  have e0 : ((t.columns.length : Int) == 0) = false := by simpa using h0
  rw [e0,decide_eq_false h6]
  simp only [cond_false]
  obtain ⟨fl,hfl,hr⟩ := eE (step := fun (j1 : Nat) (x1 : LCol) (_ : Unit) =>
    af (ed x1.name) fun x31=>cond (!x31) (some (Flow.ret (σ := Unit) (23 : Int)))
     (af (eG t x1.name) fun x37=>cond (decide (x37.1 < (j1 : Int))) (some (.ret 5)) (cond (decide (x1.kind < (1 : Int))) (some (.ret 7)) (cond (decide (x1.kind > (3 : Int))) (some (.ret 7)) (some (.next ())))))) (fun _ _=>True) (fun r=>r ≠ 0) t.columns 0 () trivial (fun k x s hk _=>by
    obtain ⟨b,hb⟩ := nv x.name
    rw [hb,bPs,findColumn_eq,bPs]
    cases b with
    | false=>exact ⟨_,rfl,by simp⟩
    | true =>
     simp only [Bool.not_true,cond_false]
     by_cases a1 : cC 0 (aK (fun c=>cM c x.name) t.columns) < ((0 + k : Nat) : Int)
     ·exact ⟨.ret 5,by rw [decide_eq_true a1]; rfl,by simp⟩
     ·rw [decide_eq_false a1]
      by_cases a2 : x.kind < 1
      ·exact ⟨.ret 7,by rw [decide_eq_true a2]; rfl,by simp⟩
      ·rw [decide_eq_false a2]
       by_cases a3 : x.kind > 3
       ·exact ⟨.ret 7,by rw [decide_eq_true a3]; rfl,by simp⟩
       ·exact ⟨.next (),by rw [decide_eq_false a3]; rfl,trivial⟩)
  rw [hfl,bPs]
  cases fl with
  | brk s=>exact absurd hr (by simp)
  | ret r=>exact ⟨r,rfl,fun h=>absurd h hr⟩
  | next s =>
   rw [gm]
   obtain ⟨fl,hfl,hr⟩ := eE (step := fun (j2 : Nat) (x2 : Int) (_ : Unit) =>
     cond (decide (x2 < (0 : Int))) (some (Flow.ret (σ := Unit) (9 : Int))) (cond (decide (x2 ≥ (t.columns.length : Int))) (some (.ret 9))
      (af (aC t.columns x2) fun (x73 : LCol)=>cond x73.nullable (some (.ret 9)) (cond (decide ((j2 : Int) > (0 : Int)))
       (af (aC t.primaryKey (IntKind.i64.wrap ((j2 : Int) - (1 : Int)))) fun (x86 : Int)=>cond (decide (x2 ≤ x86)) (some (.ret 9)) (some (.next ()))) (some (.next ())))))) (fun j _=>∀ k x,k < j → t.primaryKey[k]? = some x → 0 ≤ x ∧ x < t.columns.length) (fun r=>r ≠ 0) t.primaryKey 0 () (fun k x h=>by omega) (fun k x s hk hI=>by
     simp only [Nat.zero_add] at hI ⊢
     by_cases a1 : x < 0
     ·exact ⟨.ret 9,by rw [decide_eq_true a1]; rfl,by simp⟩
     rw [decide_eq_false a1]
     by_cases a2 : x ≥ (t.columns.length : Int)
     ·exact ⟨.ret 9,by rw [decide_eq_true a2]; rfl,by simp⟩
     rw [decide_eq_false a2]
     simp only [cond_false]
     obtain ⟨c,hc⟩ := Tot.get (xs := t.columns) (i := x) (by omega) (by omega)
     rw [hc,bPs]
     have next : ∀ k' x',k' < k + 1 → t.primaryKey[k']? = some x' → 0 ≤ x' ∧ x' < t.columns.length := fun k' x' h1 h2=>by
      by_cases he : k' = k
      ·subst he; rw [hk] at h2; cases h2; omega
      ·exact hI k' x' (by omega) h2
     cases c.nullable with
     | true=>exact ⟨_,rfl,by simp⟩
     | false =>
      simp only [cond_false]
      by_cases a3 : (k : Int) > 0
      ·rw [decide_eq_true a3]
       have hkl := (List.getElem?_eq_some_iff.1 hk).1
       rw [aX (by omega) (by omega)]
       obtain ⟨y,hy⟩ := Tot.get (xs := t.primaryKey) (i := (k : Int) - 1) (by omega) (by omega)
       rw [cond_true,hy,bPs]
       by_cases a4 : x ≤ y
       ·exact ⟨.ret 9,by rw [decide_eq_true a4]; rfl,by simp⟩
       ·exact ⟨.next (),by rw [decide_eq_false a4]; rfl,next⟩
      ·exact ⟨.next (),by rw [decide_eq_false a3]; rfl,next⟩)
   rw [hfl,bPs]
   cases fl with
   | brk s=>exact absurd hr (by simp)
   | ret r=>exact ⟨r,rfl,fun h=>absurd h hr⟩
   | next s =>
    rw [gm]
    simp only [Nat.zero_add] at hr
    by_cases hp : (t.primaryKey.length : Int) = 0
    ·exact ⟨9,by simp [hp],fun h=>by omega⟩
    ·have : ((t.primaryKey.length : Int) == 0) = false := by simpa using hp
     refine ⟨0,by rw [this]; rfl,fun _=>⟨fun x hx=>?_⟩⟩
     obtain ⟨k,hk,rfl⟩ := List.mem_iff_getElem.1 hx
     exact hr k _ hk (List.getElem?_eq_getElem hk)
theorem fG {α : Type} {xs : List α} {k : Nat} (h : k < xs.length) : aC xs (k : Int) = some xs[k] := jA (List.getElem?_eq_getElem h)
theorem foreignKey_tot {s : LSchema} (hs : ∀ t ∈ s.tables,TableOk t) (fk : LForeignKey) : Tot (dB s fk) := by
 unfold dB
 rw [lS,lS]
 simp only [bPs,bp]
 generalize hi : aK (fun t=>cn t fk.table) s.tables = i
 generalize hj : aK (fun t=>cn t fk.refTable) s.tables = j
 by_cases h1 : i ≥ 0
 ·by_cases h2 : j ≥ 0
  ·rw [decide_eq_true h1,decide_eq_true h2]
   simp only [Bool.not_true,cond_false]
   rw [mr h1,mr h2]
   obtain ⟨t,ht,_⟩ := kP (hi ▸ h1)
   obtain ⟨u,hu,_⟩ := kP (hj ▸ h2)
   rw [hi] at ht
   rw [hj] at hu
   rw [jE h1 ht,jE h2 hu]
   simp only [bPs]
   refine Tot.cond (fun _=>Tot.mk) fun hl=>?_
   have hl : fk.columns.length = u.primaryKey.length := by
    by_cases h : (fk.columns.length : Int) = (u.primaryKey.length : Int)
    ·omega
    ·simp [h] at hl
   refine Tot.bind (Tot.range _ _ _ fun k x st hk=>?_) fun fl _=>Tot.thenR fun _ _=>Tot.mk
   have hkl := (List.getElem?_eq_some_iff.1 hk).1
   by_cases a1 : x < 0
   ·rw [decide_eq_true a1]; exact Tot.mk
   ·rw [decide_eq_false a1]
    by_cases a2 : x ≥ (t.columns.length : Int)
    ·rw [decide_eq_true a2]; exact Tot.mk
    ·rw [decide_eq_false a2]
     simp only [cond_false]
     obtain ⟨c,hc⟩ := Tot.get (xs := t.columns) (i := x) (by omega) (by omega)
     rw [hc,bPs,Nat.zero_add,fG (by omega),bPs]
     have hp := (hs u (eU hu)).pk u.primaryKey[k] (List.getElem_mem _)
     obtain ⟨d,hd⟩ := Tot.get (xs := u.columns) (i := u.primaryKey[k]) hp.1 hp.2
     rw [hd,bPs]
     exact Tot.cond (fun _=>Tot.mk) fun _=>Tot.mk
  ·rw [decide_eq_false h2]
   simp only [Bool.not_false]
   cases decide (i ≥ 0) <;> exact Tot.mk
 ·rw [decide_eq_false h1]
  exact Tot.mk
theorem constraint_tot (s : LSchema) (c : LConstraint) : Tot (dz s c) := by
 unfold dz
 rw [lS]
 simp only [bPs,bp]
 generalize hi : aK (fun t=>cn t c.table) s.tables = i
 by_cases h1 : i ≥ 0
 ·rw [decide_eq_true h1]
  simp only [Bool.not_true,cond_false]
  rw [mr h1]
  obtain ⟨t,ht,_⟩ := kP (hi ▸ h1)
  rw [hi] at ht
  rw [jE h1 ht,bPs]
  refine Tot.cond (fun _=>Tot.mk) fun hl=>?_
  by_cases a1 : c.left < 0
  ·rw [decide_eq_true a1] at hl; cases hl
  rw [decide_eq_false a1,cond_false] at hl
  by_cases a2 : c.left ≥ (t.columns.length : Int)
  ·rw [decide_eq_true a2] at hl; cases hl
  rw [decide_eq_false a2,cond_false] at hl
  obtain ⟨x,hx⟩ := Tot.get (xs := t.columns) (i := c.left) (by omega) (by omega)
  rw [hx]
  refine Tot.cond (fun a3=>?_) fun _=>?_
  ·have a3 := of_decide_eq_true a3
   have a4 : c.right < (t.columns.length : Int) := by
    rcases Int.lt_or_le c.right (t.columns.length : Int) with h | h
    ·exact h
    ·have e : decide (c.right ≥ (t.columns.length : Int)) = true := decide_eq_true h
     rw [e] at hl
     revert hl
     cases ((fp (LVal.mk 0 0 []) c.op (LVal.mk 0 0 [])).2 != 0) <;> cases decide (c.right < -1) <;> simp
   obtain ⟨y,hy⟩ := Tot.get (xs := t.columns) (i := c.right) a3 a4
   rw [hy]
   simp only [bPs]
   exact Tot.cond (fun _=>Tot.mk) fun _=>Tot.mk
  ·rw [bPs]
   exact Tot.cond (fun _=>Tot.mk) fun _=>Tot.mk
 ·rw [decide_eq_false h1]
  exact Tot.mk
theorem equalInts_tot (a b : List Int) : Tot (ez a b) := by
 unfold ez
 refine Tot.cond (fun _=>Tot.mk) fun h=>?_
 have h : a.length = b.length := by
  by_cases h' : (a.length : Int) = (b.length : Int)
  ·omega
  ·simp [h'] at h
 refine Tot.bind (Tot.range _ _ _ fun k x s hk=>?_) fun fl _=>Tot.thenR fun _ _=>Tot.mk
 have hkl := (List.getElem?_eq_some_iff.1 hk).1
 rw [Nat.zero_add,fG (by omega),bPs]
 exact Tot.cond (fun _=>Tot.mk) fun _=>Tot.mk
theorem fkIn_tot (l : List LForeignKey) (x : LForeignKey) : Tot (bv l (fun a0=>eJ a0 x)) := by
 unfold bv bS
 refine Tot.bind (Tot.bind (Tot.range _ _ _ fun k y s hk=>?_) fun fl _=>Tot.thenR fun _ _=>Tot.mk) fun _ _=>Tot.mk
 refine Tot.bind ?_ fun _ _=>Tot.cond (fun _=>Tot.mk) fun _=>Tot.mk
 unfold eJ
 refine Tot.bind ?_ fun _ _=>Tot.mk
 unfold eY
 refine Tot.cond (fun _=>Tot.bind (equalInts_tot _ _) fun _ _=>Tot.cond (fun _=>Tot.mk) fun _=>Tot.mk) fun _=>Tot.mk
theorem csIn_tot (l : List LConstraint) (x : LConstraint) : Tot (bD l x) := by
 unfold bD cg
 refine Tot.bind (Tot.bind (Tot.range _ _ _ fun k y s hk=>?_) fun fl _=>Tot.thenR fun _ _=>Tot.mk) fun _ _=>Tot.mk
 exact Tot.cond (fun _=>Tot.mk) fun _=>Tot.mk
def jT (s : LSchema) : Prop := ∀ t ∈ s.tables,t.primaryKey.length ≤ 10000000
theorem validate_tot {s : LSchema} (hsm : jT s) : Tot (gc s) := by
 unfold gc
 rw [bp]
 refine Tot.cond (fun _=>Tot.mk) fun ht=>?_
 have h6 : s.tables.length ≤ 6 := by
  by_cases h : (s.tables.length : Int) > 6
  ·rw [decide_eq_true h] at ht; cases ht
  ·omega
 obtain ⟨fl,hfl,hr⟩ := eE (step := fun (j2 : Nat) (x2 : LTable) (_ : Unit) =>
   af (dP x2) fun x37=>cond (x37 != (0 : Int)) (some (Flow.ret (σ := Unit) x37)) (cond (decide ((j2 : Int) > (0 : Int)))
     (af (aC s.tables (IntKind.i64.wrap ((j2 : Int) - (1 : Int)))) fun (x50 : LTable)=>cond (Op.bytesLess x2.name x50.name || x2.name == x50.name) (some (.ret 6)) (some (.next ()))) (some (.next ())))) (fun j _=>∀ k x,k < j → s.tables[k]? = some x → TableOk x) (fun _=>True) s.tables 0 () (fun k x h=>by omega) (fun k x st hk hI=>by
    simp only [Nat.zero_add] at hI ⊢
    obtain ⟨e,he,hok⟩ := validTable x (hsm x (eU hk))
    rw [he,bPs]
    by_cases h0 : e = 0
    ·have next : ∀ k' x',k' < k + 1 → s.tables[k']? = some x' → TableOk x' := fun k' x' h1 h2=>by
      by_cases heq : k' = k
      ·subst heq; rw [hk] at h2; cases h2; exact hok h0
      ·exact hI k' x' (by omega) h2
     rw [show (e != (0 : Int)) = false from by simp [h0],cond_false]
     by_cases a3 : (k : Int) > 0
     ·have hkl := (List.getElem?_eq_some_iff.1 hk).1
      rw [decide_eq_true a3,aX (by omega) (by omega)]
      obtain ⟨y,hy⟩ := Tot.get (xs := s.tables) (i := (k : Int) - 1) (by omega) (by omega)
      rw [cond_true,hy,bPs]
      cases (Op.bytesLess x.name y.name || x.name == y.name) with
      | true=>exact ⟨.ret 6,rfl,trivial⟩
      | false=>exact ⟨.next (),rfl,next⟩
     ·exact ⟨.next (),by rw [decide_eq_false a3]; rfl,next⟩
    ·exact ⟨.ret e,by rw [show (e != (0 : Int)) = true from by simp [h0]]; rfl,trivial⟩)
 rw [hfl,bPs]
 cases fl with
 | brk s=>exact absurd hr (by simp)
 | ret r=>exact Tot.mk
 | next u =>
  rw [gm]
  simp only [Nat.zero_add] at hr
  have hok : ∀ t ∈ s.tables,TableOk t := fun t ht=>by
   obtain ⟨k,hk,rfl⟩ := List.mem_iff_getElem.1 ht
   exact hr k _ hk (List.getElem?_eq_getElem hk)
  refine Tot.bind (Tot.range _ _ _ fun k x st hk=>?_) fun fl _=>Tot.thenR fun _ _=>?_
  ·refine Tot.bind (foreignKey_tot hok x) fun e _=>Tot.cond (fun _=>Tot.mk) fun _=>?_
   have hkl := (List.getElem?_eq_some_iff.1 hk).1
   refine Tot.bind (Tot.sub ⟨by omega,by omega,by omega⟩) fun l _=>?_
   exact Tot.bind (fkIn_tot l x) fun _ _=>Tot.cond (fun _=>Tot.mk) fun _=>Tot.mk
  ·refine Tot.bind (Tot.range _ _ _ fun k x st hk=>?_) fun fl _=>Tot.thenR fun _ _=>Tot.mk
   refine Tot.bind (constraint_tot s x) fun e _=>Tot.cond (fun _=>Tot.mk) fun _=>?_
   have hkl := (List.getElem?_eq_some_iff.1 hk).1
   refine Tot.bind (Tot.sub ⟨by omega,by omega,by omega⟩) fun l _=>?_
   exact Tot.bind (csIn_tot l x) fun _ _=>Tot.cond (fun _=>Tot.mk) fun _=>Tot.mk
def dC (cols : List LCol) (row : List LVal) : Prop := row.length = cols.length ∧ ∀ (i : Nat) (c : LCol) (x : LVal),cols[i]? = some c → row[i]? = some x → dZ x c.kind c.nullable
theorem validate_valid {v : LVal} (h : cB v = 0) : dA v = true := by
 obtain ⟨k,n,t⟩ := v
 unfold cB ba at h
 unfold dA
 by_cases k0 : k = 0
 ·subst k0
  by_cases hn : n = 0
  ·subst hn
   cases t with
   | nil=>rfl
   | cons c t=>simp at h
  ·simp [jx hn] at h
 ·have e0 : (k == (0 : Int)) = false := by simpa using k0
  simp only [e0,cond_false] at h
  by_cases k1 : k = 1
  ·subst k1
   cases t with
   | cons c t=>simp at h
   | nil =>
    by_cases a : n < -1000000000000
    ·simp [a] at h
    ·by_cases b : n > 1000000000000
     ·simp [a,b] at h
     ·simp; omega
  ·by_cases k2 : k = 2
   ·subst k2
    cases t with
    | cons c t=>simp at h
    | nil =>
     by_cases a : n = 0
     ·simp [a]
     ·by_cases b : n = 1
      ·simp [b]
      ·simp [jx a,jx b] at h
   ·by_cases k3 : k = 3
    ·subst k3
     by_cases a : n = 0
     ·subst a
      by_cases b : (t.length : Int) > 24
      ·simp [b] at h
      ·simp; omega
     ·simp [jx a] at h
    ·have e1 : (k == (1 : Int)) = false := by simpa using k1
     have e2 : (k == (2 : Int)) = false := by simpa using k2
     have e3 : (k == (3 : Int)) = false := by simpa using k3
     simp [e1,e2,e3] at h
theorem conformsRow (t : LTable) (row : List LVal) : ∃ e,dh t row = some e ∧ (e = 0 → dC t.columns row) := by
 unfold dh
 by_cases hl : (row.length : Int) = (t.columns.length : Int)
 ·have hl' : row.length = t.columns.length := by omega
  rw [show ((row.length : Int) != (t.columns.length : Int)) = false from by simp [hl],cond_false]
  obtain ⟨fl,hfl,hr⟩ := eE (step := fun (j1 : Nat) (x1 : LVal) (_ : Unit)=>ba (cB x1) fun x22=>cond (x22 != (0 : Int)) (some (Flow.ret (σ := Unit) x22))
    (af (cond (x1.kind == (0 : Int)) (af (aC t.columns (j1 : Int)) fun (x33 : LCol)=>some (!x33.nullable)) (some false)) fun (t3 : Bool)=>cond t3 (some (.ret 8))
     (cond (x1.kind != (0 : Int)) (af (aC t.columns (j1 : Int)) fun (x47 : LCol)=>cond (x1.kind != x47.kind) (some (.ret 7)) (some (.next ()))) (some (.next ())))))
   (fun j _=>∀ (k : Nat) (c : LCol) (x : LVal),k < j → t.columns[k]? = some c → row[k]? = some x → dZ x c.kind c.nullable) (fun r=>r ≠ 0) row 0 () (fun k c x h=>by omega) (fun k x st hk hI=>by
    simp only [Nat.zero_add] at hI ⊢
    have hkl := (List.getElem?_eq_some_iff.1 hk).1
    rw [bp,fG (xs := t.columns) (by omega)]
    by_cases hv : cB x = 0
    ·rw [show (cB x != (0 : Int)) = false from by simp [hv],cond_false]
     have hvv := validate_valid hv
     have next : dZ x t.columns[k].kind t.columns[k].nullable → ∀ (k' : Nat) (c : LCol) (x' : LVal),k' < k + 1 → t.columns[k']? = some c → row[k']? = some x' → dZ x' c.kind c.nullable := fun hf k' c x' h1 h2 h3=>by
      by_cases heq : k' = k
      ·subst heq
       rw [hk] at h3
       rw [List.getElem?_eq_getElem (by omega)] at h2
       cases h2
       cases h3
       exact hf
      ·exact hI k' c x' (by omega) h2 h3
     by_cases hx : x.kind = 0
     ·rw [show (x.kind == (0 : Int)) = true from by simp [hx],cond_true,bPs,bPs]
      cases hn : t.columns[k].nullable with
      | false=>exact ⟨.ret 8,rfl,by simp⟩
      | true=>exact ⟨.next (),by simp [hx],next ⟨hvv,.inr hx,fun _=>hn⟩⟩
     ·rw [show (x.kind == (0 : Int)) = false from by simp [hx],cond_false,bPs,cond_false,show (x.kind != (0 : Int)) = true from by simp [hx],cond_true,bPs]
      by_cases hk' : x.kind = t.columns[k].kind
      ·exact ⟨.next (),by rw [bneF hk']; rfl,next ⟨hvv,.inl hk',fun h=>absurd h hx⟩⟩
      ·exact ⟨.ret 7,by rw [jx hk']; rfl,by simp⟩
    ·exact ⟨.ret (cB x),by rw [show (cB x != (0 : Int)) = true from by simp [hv]]; rfl,hv⟩)
  rw [hfl,bPs]
  cases fl with
  | brk s=>exact absurd hr (by simp)
  | ret r=>exact ⟨r,rfl,fun h=>absurd h hr⟩
  | next s =>
   simp only [Nat.zero_add] at hr
   exact ⟨0,rfl,fun _=>⟨hl',fun i c x hc hx=>hr i c x (List.getElem?_eq_some_iff.1 hx).1 hc hx⟩⟩
 ·exact ⟨3,by rw [show ((row.length : Int) != (t.columns.length : Int)) = true from by simp [hl]]; rfl,fun h=>by omega⟩
theorem key_tot (t : LTable) (row : List LVal) (hsm : t.primaryKey.length ≤ 10000000) : ∃ k,dO t row = some k ∧ k.length = t.primaryKey.length := by
 unfold dO
 obtain ⟨fl,hfl,hr⟩ := eE (step := fun (_ : Nat) (x1 : Int) (s1 : List LVal) =>
  ba (cond (decide (x1 ≥ (0 : Int))) ((decide (x1 < (row.length : Int)))) (false)) fun (t6 : Bool) =>
  af (cond t6 (af (aC row x1) fun (x27 : LVal)=>some x27) (some (LVal.mk 0 0 []))) fun (t7 : LVal) =>
  af (cI 32 s1 ([t7] : List LVal)) fun (x32 : List LVal)=>some (Flow.next (ρ := Empty) x32)) (fun j s=>s.length = j) (fun _=>False) t.primaryKey 0 ([] : List LVal) rfl (fun k x s hk hI=>by
   have hI : s.length = k := by simpa using hI
   have hkl := (List.getElem?_eq_some_iff.1 hk).1
   rw [bp]
   have ht : ∃ v,(cond (cond (decide (x ≥ (0 : Int))) ((decide (x < (row.length : Int)))) (false)) (af (aC row x) fun (x27 : LVal)=>some x27) (some (LVal.mk 0 0 []))) = some v := by
    refine Tot.cond (fun h=>?_) fun _=>Tot.mk
    by_cases h0 : x ≥ 0
    ·rw [decide_eq_true h0] at h
     exact Tot.bind (Tot.get h0 (of_decide_eq_true h)) fun _ _=>Tot.mk
    ·rw [decide_eq_false h0] at h; cases h
   obtain ⟨v,hv⟩ := ht
   rw [hv,bPs,bI (by decide) (by simp; omega),bPs]
   exact ⟨_,rfl,by simp [hI]⟩)
 rw [hfl,bPs]
 cases fl with
 | brk s=>exact absurd hr (by simp)
 | ret r=>exact r.elim
 | next s=>exact ⟨s,rfl,by simpa using hr⟩
theorem pd (a b : List LVal) (ha : a.length ≤ 10000000) : Tot (dU a b) := by
 unfold dU
 have hm : ∃ n : Nat,(if (b.length : Int) < (a.length : Int) then (b.length : Int) else (a.length : Int)) = (n : Int) ∧ n ≤ a.length ∧ n ≤ b.length := by
  split
  ·exact ⟨b.length,rfl,by omega,by omega⟩
  ·exact ⟨a.length,rfl,by omega,by omega⟩
 obtain ⟨n,hn,h1,h2⟩ := hm
 rw [hn,nQ (by omega),bPs]
 refine Tot.bind (Tot.range _ _ _ fun k x s hk=>?_) fun fl _=>Tot.thenR fun _ _=>Tot.mk
 have hkl := (List.getElem?_eq_some_iff.1 hk).1
 simp at hkl
 rw [Nat.zero_add,fG (by omega),fG (by omega)]
 simp only [bPs,bp]
 exact Tot.cond (fun _=>Tot.mk) fun _=>Tot.mk
structure InstOk (s : LSchema) (st : List LRelation) : Prop where
 len : st.length = s.tables.length
 tab : ∀ (i : Nat) (r : LRelation) (t : LTable),st[i]? = some r → s.tables[i]? = some t → r.table = t.name ∧ r.rows.length ≤ 24 ∧ ∀ row ∈ r.rows,dC t.columns row
theorem conforms {s : LSchema} (hsm : jT s) (st : List LRelation) : ∃ e,dT s st = some e ∧ (e = 0 → InstOk s st) := by
 unfold dT
 by_cases hl : (st.length : Int) = (s.tables.length : Int)
 ·have hl' : st.length = s.tables.length := by omega
  rw [show ((st.length : Int) != (s.tables.length : Int)) = false from by simp [hl],cond_false]
  let good : LRelation → LTable → Prop := fun r t=>r.table = t.name ∧ r.rows.length ≤ 24 ∧ ∀ row ∈ r.rows,dC t.columns row
  obtain ⟨fl,hfl,hr⟩ := eE (step := fun (j1 : Nat) (x1 : LRelation) (_ : Unit) =>
   af (aC s.tables (j1 : Int)) fun (x28 : LTable) =>
   cond (!(x1.table == x28.name)) (some (Flow.ret (σ := Unit) (3 : Int))) (cond (decide ((x1.rows.length : Int) > (24 : Int))) (some (.ret 2))
     (af (aE (σ := Unit) (ρ := (Int)) (fun (j3 : Nat) (x3 : List LVal) (_ : Unit) =>
      af (dh x28 x3) fun x49=>cond (x49 != (0 : Int)) (some (.ret x49)) (cond ((j3 : Int) == (0 : Int)) (some (.next ()))
        (af (aC x1.rows (IntKind.i64.wrap ((j3 : Int) - (1 : Int)))) fun (x60 : List LVal)=>af (dO x28 x60) fun x62=>af (dO x28 x3) fun x65=>af (dU x62 x65) fun x66 =>
        cond (x66 == (0 : Int)) (some (.ret 9)) (cond (decide (x66 > (0 : Int))) (some (.ret 6)) (some (.next ())))))) 0 x1.rows ()) fun fl3=>fl3.thenF fun (_ : Unit)=>some (.next ()))))
   (fun j _=>∀ (k : Nat) (r : LRelation) (t : LTable),k < j → st[k]? = some r → s.tables[k]? = some t → good r t) (fun r=>r ≠ 0) st 0 () (fun k r t h=>by omega) (fun k r u hk hI=>by
    simp only [Nat.zero_add] at hI ⊢
    have hkl := (List.getElem?_eq_some_iff.1 hk).1
    have hkt : k < s.tables.length := by omega
    rw [fG hkt,bPs]
    by_cases hn : r.table = s.tables[k].name
    ·rw [show (!(r.table == s.tables[k].name)) = false from by simp [hn],cond_false]
     by_cases h24 : (r.rows.length : Int) > 24
     ·exact ⟨.ret 2,by rw [decide_eq_true h24]; rfl,by simp⟩
     ·rw [decide_eq_false h24,cond_false]
      have hsk := hsm s.tables[k] (List.getElem_mem _)
      obtain ⟨fl,hfl,hr⟩ := eE (step := fun (j3 : Nat) (x3 : List LVal) (_ : Unit) =>
       af (dh s.tables[k] x3) fun x49=>cond (x49 != (0 : Int)) (some (Flow.ret (σ := Unit) x49)) (cond ((j3 : Int) == (0 : Int)) (some (.next ()))
        (af (aC r.rows (IntKind.i64.wrap ((j3 : Int) - (1 : Int)))) fun (x60 : List LVal)=>af (dO s.tables[k] x60) fun x62=>af (dO s.tables[k] x3) fun x65=>af (dU x62 x65) fun x66 =>
        cond (x66 == (0 : Int)) (some (.ret 9)) (cond (decide (x66 > (0 : Int))) (some (.ret 6)) (some (.next ())))))) (fun j _=>∀ i row,i < j → r.rows[i]? = some row → dC s.tables[k].columns row) (fun r=>r ≠ 0) r.rows 0 () (fun i row h=>by omega) (fun i row u hi hI2=>by
        simp only [Nat.zero_add] at hI2 ⊢
        have hil := (List.getElem?_eq_some_iff.1 hi).1
        obtain ⟨e,he,hok⟩ := conformsRow s.tables[k] row
        rw [he,bPs]
        by_cases h0 : e = 0
        ·rw [show (e != (0 : Int)) = false from by simp [h0],cond_false]
         have next : ∀ i' row',i' < i + 1 → r.rows[i']? = some row' → dC s.tables[k].columns row' := fun i' row' h1 h2=>by
          by_cases heq : i' = i
          ·subst heq; rw [hi] at h2; cases h2; exact hok h0
          ·exact hI2 i' row' (by omega) h2
         by_cases hi0 : i = 0
         ·exact ⟨.next (),by simp [hi0],next⟩
         ·rw [show ((i : Int) == (0 : Int)) = false from by simp; omega,cond_false,aX (by omega) (by omega)]
          obtain ⟨p,hp⟩ := Tot.get (xs := r.rows) (i := (i : Int) - 1) (by omega) (by omega)
          obtain ⟨k1,hk1,hl1⟩ := key_tot s.tables[k] p hsk
          obtain ⟨k2,hk2,_⟩ := key_tot s.tables[k] row hsk
          obtain ⟨z,hz⟩ := pd k1 k2 (by omega)
          rw [hp,bPs,hk1,bPs,hk2,bPs,hz,bPs]
          by_cases z0 : z = 0
          ·exact ⟨.ret 9,by rw [iS z0]; rfl,by simp⟩
          ·by_cases z1 : z > 0
           ·exact ⟨.ret 6,by rw [ct z0,decide_eq_true z1]; rfl,by simp⟩
           ·exact ⟨.next (),by rw [ct z0,decide_eq_false z1]; rfl,next⟩
        ·exact ⟨.ret e,by rw [show (e != (0 : Int)) = true from by simp [h0]]; rfl,h0⟩)
      rw [hfl,bPs]
      cases fl with
      | brk s=>exact absurd hr (by simp)
      | ret e=>exact ⟨.ret e,rfl,hr⟩
      | next s' =>
       simp only [Nat.zero_add] at hr
       refine ⟨.next (),rfl,fun k' r' t' h1 h2 h3=>?_⟩
       by_cases heq : k' = k
       ·subst heq
        rw [hk] at h2
        rw [List.getElem?_eq_getElem hkt] at h3
        cases h2
        cases h3
        refine ⟨hn,by omega,fun row hrow=>?_⟩
        obtain ⟨i,hi,rfl⟩ := List.mem_iff_getElem.1 hrow
        exact hr i _ hi (List.getElem?_eq_getElem hi)
       ·exact hI k' r' t' (by omega) h2 h3
    ·exact ⟨.ret 3,by rw [show (!(r.table == s.tables[k].name)) = true from by simp [hn]]; rfl,by simp⟩)
  rw [hfl,bPs]
  cases fl with
  | brk s=>exact absurd hr (by simp)
  | ret r=>exact ⟨r,rfl,fun h=>absurd h hr⟩
  | next u =>
   simp only [Nat.zero_add] at hr
   exact ⟨0,rfl,fun _=>⟨hl',fun i r t h1 h2=>hr i r t (List.getElem?_eq_some_iff.1 h1).1 h1 h2⟩⟩
 ·exact ⟨3,by rw [show ((st.length : Int) != (s.tables.length : Int)) = true from by simp [hl]]; rfl,fun h=>by omega⟩
end
end Go.Proofs.YtgaggbdcedpapaaGreat

namespace Go.Proofs.YtgaggbdcedpapaaGreat
noncomputable section
open Go Go.Ab
theorem containsI (l : List Int) (v : Int) : dK l v = some (l.any fun x=>v == x) := by
 unfold dK fA
 rw [idxF2 (p := fun x=>v == x),bPs,fM]
theorem shape1 (l : List Int) (q : LQuery) : cA l q = some (l.any fun x=>q.kind == x) := by
 unfold cA
 rw [containsI,bPs]
def lW (k : Int) : Nat := if k = 1 then 0 else if k = 4 ∨ k = 5 ∨ k = 6 ∨ k = 7 then 2 else 1
def jl (q : LQuery) : Bool :=
 decide (1 ≤ q.kind) && decide (q.kind ≤ 10) && decide (q.inputs.length = lW q.kind) && (q.kind == 1 || q.table == []) && (q.kind == 3 || q.kind == 8 || decide (q.names.length = 0)) &&
 (q.kind == 8 || decide (q.aggregates.length = 0)) && (q.kind == 9 || decide (q.descending.length = 0)) && (q.kind == 10 || (q.count == 0 && q.offset == 0)) &&
 (if q.kind = 2 ∨ q.kind = 4 ∨ q.kind = 5 then decide (q.exprs.length = 1)
  else if q.kind = 3 ∨ q.kind = 8 then decide (q.exprs.length = q.names.length) && decide (0 < q.exprs.length + q.aggregates.length)
  else if q.kind = 9 then decide (q.exprs.length = q.descending.length) && decide (0 < q.exprs.length)
  else if q.kind = 10 then decide (q.exprs.length = 0) && decide (q.count ≥ 0) && decide (q.offset ≥ 0)
  else decide (q.exprs.length = 0))
theorem natE (a b : Nat) : ((a : Int) == (b : Int)) = decide (a = b) := by
 by_cases h : a = b
 ·simp [h]
 ·rw [decide_eq_false h]; exact ct (by omega)
theorem natNE (a b : Nat) : ((a : Int) != (b : Int)) = !decide (a = b) := by rw [bne,natE]
theorem natPos (a : Nat) : decide ((a : Int) > 0) = !decide (a = 0) := by
 by_cases h : a = 0
 ·simp [h]
 ·rw [decide_eq_false h,decide_eq_true (by omega)]; rfl
theorem condSome {α : Type} (b : Bool) (x y : α) : (cond b (some x) (some y)) = some (cond b x y) := by cases b <;> rfl
theorem shape_eq (q : LQuery) (hs : q.exprs.length ≤ 10000000 ∧ q.aggregates.length ≤ 10000000) : iz q = some (jl q) := by
 unfold iz
 simp only [shape1,bPs]
 by_cases k0 : q.kind < 1
 ·rw [decide_eq_true k0]
  simp [jl,show ¬ (1 ≤ q.kind) from by omega]
 rw [decide_eq_false k0]
 by_cases k10 : q.kind > 10
 ·rw [decide_eq_true k10]
  simp [jl,show ¬ (q.kind ≤ 10) from by omega]
 rw [decide_eq_false k10]
 have hw : IntKind.i64.wrap ((q.exprs.length : Int) + (q.aggregates.length : Int)) = ((q.exprs.length + q.aggregates.length : Nat) : Int) := by rw [aX (by omega) (by omega)]; simp
 rw [hw]
 have hk : q.kind = 1 ∨ q.kind = 2 ∨ q.kind = 3 ∨ q.kind = 4 ∨ q.kind = 5 ∨ q.kind = 6 ∨ q.kind = 7 ∨ q.kind = 8 ∨ q.kind = 9 ∨ q.kind = 10 := by omega
 unfold jl
 have e0 : ∀ n : Nat,((n : Int) == 0) = decide (n = 0) := fun n=>natE n 0
 have e1 : ∀ n : Nat,((n : Int) == 1) = decide (n = 1) := fun n=>natE n 1
 have n0 : ∀ n : Nat,((n : Int) != 0) = !decide (n = 0) := fun n=>natNE n 0
 have n1 : ∀ n : Nat,((n : Int) != 1) = !decide (n = 1) := fun n=>natNE n 1
 have n2 : ∀ n : Nat,((n : Int) != 2) = !decide (n = 2) := fun n=>natNE n 2
 have c0 : (q.count != 0) = !(q.count == 0) := rfl
 have o0 : (q.offset != 0) = !(q.offset == 0) := rfl
 have p0 : decide (0 < q.exprs.length) = !decide (q.exprs.length = 0) := by rw [← natPos]; simp
 have p1 : decide (0 < q.exprs.length + q.aggregates.length) = !decide (q.exprs.length + q.aggregates.length = 0) := by rw [← natPos]; simp; omega
 simp only [natPos,natE,e0,e1,c0,o0,p0,p1]
 generalize (q.table == []) = b1
 generalize decide (q.names.length = 0) = b2
 generalize decide (q.aggregates.length = 0) = b3
 generalize decide (q.descending.length = 0) = b4
 generalize (q.count == 0) = b5
 generalize (q.offset == 0) = b6
 generalize decide (q.exprs.length = 1) = b7
 generalize decide (q.exprs.length = q.names.length) = b8
 generalize decide (q.exprs.length + q.aggregates.length = 0) = b9
 generalize decide (q.exprs.length = q.descending.length) = b10
 generalize decide (q.exprs.length = 0) = b11
 generalize decide (q.count ≥ 0) = b12
 generalize decide (q.offset ≥ 0) = b13
 generalize hL : q.inputs.length = L
 rcases hk with h | h | h | h | h | h | h | h | h | h <;> rw [h]
 all_goals simp only [lW,aC]
 all_goals simp [n0,n1,n2,condSome,Bool.and_assoc]
def e0Q (q : LQuery) : LExpr := q.exprs.headD (.mk 1 [] 0 .nul [])
def gB (a b : List LCol) (left : Bool) : List LCol := a ++ b.map fun x=>⟨x.name,x.kind,x.nullable || left⟩
def iA (kind : Int) (a b : List LCol) : List LCol × Int :=
 if a.length = b.length ∧ a.map LCol.kind = b.map LCol.kind then (List.zipWith (fun x y=>⟨x.name,x.kind,x.nullable || (kind == 6 && y.nullable)⟩) a b,0) else ([],7)
def bL (vars cols : List LCol) : List LExpr → List (List UInt8) → List LCol × Int
 | e :: es,n :: ns=>if cy n = false then ([],3) else if (ci cols vars e).2.2 ≠ 0 then ([],(ci cols vars e).2.2) else if (ci cols vars e).1 = 0 then ([],7)
  else if (bL vars cols es ns).2 ≠ 0 then ([],(bL vars cols es ns).2) else (⟨n,(ci cols vars e).1,(ci cols vars e).2.1⟩ :: (bL vars cols es ns).1,0)
 | _,_=>([],0)
abbrev eT : List UInt8 := [99,111,117,110,116]
abbrev sSum : List UInt8 := [115,117,109]
abbrev sMin : List UInt8 := [109,105,110]
abbrev sMax : List UInt8 := [109,97,120]
def kU (vars cols : List LCol) (a : LAggregateCall) : Int × Int :=
 if cy a.name = false ∨ ¬ a.function ∈ [eT,sSum,sMin,sMax] ∨ 1 < a.args.length ∨ (a.args.length < 1 ∧ a.function ≠ eT) then (0,3)
 else match a.args with
  | []=>(1,0)
  | e :: _=>if (ci cols vars e).2.2 ≠ 0 then (0,(ci cols vars e).2.2) else if (ci cols vars e).1 = 0 ∨ (a.function = sSum ∧ (ci cols vars e).1 ≠ 1) then (0,7)
   else if a.function = eT then (1,0) else ((ci cols vars e).1,0)
def cQ (vars cols : List LCol) : List LAggregateCall → List LCol × Int
 | []=>([],0)
 | a :: l=>if (kU vars cols a).2 ≠ 0 then ([],(kU vars cols a).2) else if (cQ vars cols l).2 ≠ 0 then ([],(cQ vars cols l).2)
  else (⟨a.name,(kU vars cols a).1,!(a.function == eT)⟩ :: (cQ vars cols l).1,0)
def jV (vars cols : List LCol) (q : LQuery) : List LCol × Int :=
 if (bL vars cols q.exprs q.names).2 ≠ 0 then ([],(bL vars cols q.exprs q.names).2)
 else if (cQ vars cols q.aggregates).2 ≠ 0 then ([],(cQ vars cols q.aggregates).2)
 else ((bL vars cols q.exprs q.names).1 ++ (cQ vars cols q.aggregates).1,0)
def gN (vars cols : List LCol) : List LExpr → Int
 | []=>0
 | e :: l=>if (ci cols vars e).2.2 ≠ 0 then (ci cols vars e).2.2 else gN vars cols l
def fV (c : LChecker) (q : LQuery) (ins : List (List LCol)) : List LCol × Int :=
 if q.kind = 1 then (match c.s.tables.find? fun t=>t.name == q.table with | some t=>(t.columns,0) | none=>([],4))
 else if q.kind = 2 then (ins.getD 0 [],cE c (ins.getD 0 []) (e0Q q))
 else if q.kind = 4 ∨ q.kind = 5 then (gB (ins.getD 0 []) (ins.getD 1 []) (q.kind == 5),cE c (gB (ins.getD 0 []) (ins.getD 1 []) (q.kind == 5)) (e0Q q))
 else if q.kind = 6 ∨ q.kind = 7 then iA q.kind (ins.getD 0 []) (ins.getD 1 [])
 else if q.kind = 3 ∨ q.kind = 8 then jV c.vars (ins.getD 0 []) q
 else if q.kind = 9 then (if gN c.vars (ins.getD 0 []) q.exprs ≠ 0 then ([],gN c.vars (ins.getD 0 []) q.exprs) else (ins.getD 0 [],0))
 else (ins.getD 0 [],0)
theorem find_idx {α : Type} (p : α → Bool) (l : List α) : (l.find? p = none ∧ aK p l = -1) ∨ ∃ x,l.find? p = some x ∧ 0 ≤ aK p l ∧ l[(aK p l).toNat]? = some x := by
 induction l with
 | nil=>exact .inl ⟨rfl,rfl⟩
 | cons a l ih =>
  by_cases h : p a = true
  ·right
   exact ⟨a,by simp [h],by unfold aK; simp [List.findIdx?_cons,h],by unfold aK; simp [List.findIdx?_cons,h]⟩
  ·have h : p a = false := by simpa using h
   have hi : aK p (a :: l) = if aK p l < 0 then -1 else aK p l + 1 := by
    unfold aK
    simp only [List.findIdx?_cons,h,Bool.false_eq_true,if_false]
    cases l.findIdx? p with
    | none=>rfl
    | some i=>rw [if_neg (by simp only; omega)]; simp
   rw [List.find?_cons,h,hi]
   rcases ih with ⟨h1,h2⟩ | ⟨x,h1,h2,h3⟩
   ·left; exact ⟨h1,by rw [h2]; rfl⟩
   ·right
    refine ⟨x,h1,by split <;> omega,?_⟩
    rw [if_neg (by omega),show (aK p l + 1).toNat = (aK p l).toNat + 1 from by omega,List.getElem?_cons_succ,h3]
theorem set_ok (kind : Int) (a b : List LCol) : fO kind a b = some (iA kind a b) := by
 unfold fO iA
 by_cases hl : a.length = b.length
 ·rw [natNE,decide_eq_true hl]
  simp only [Bool.not_true,cond_false]
  let z : LCol → LCol → LCol := fun x y=>⟨x.name,x.kind,x.nullable || (kind == 6 && y.nullable)⟩
  obtain ⟨fl,hfl,hr⟩ := eE (step := fun (j1 : Nat) (x1 : LCol) (s1 : List LCol) =>
   af (aC b (j1 : Int)) fun (x29 : LCol)=>cond (x1.kind != x29.kind) (some (Flow.ret (([],7) : List LCol × Int)))
    (cond x1.nullable (af (aC s1 (j1 : Int)) fun (x51 : LCol)=>ba (s1.set ((j1 : Int).toNat) (LCol.mk x51.name x51.kind true)) fun (y8 : List LCol)=>some (.next y8))
     (cond (kind == (6 : Int)) (af (aC b (j1 : Int)) fun (x46 : LCol)=>af (aC s1 (j1 : Int)) fun (x51 : LCol)=>ba (s1.set ((j1 : Int).toNat) (LCol.mk x51.name x51.kind x46.nullable)) fun (y9 : List LCol)=>some (.next y9))
      (af (aC s1 (j1 : Int)) fun (x51 : LCol)=>ba (s1.set ((j1 : Int).toNat) (LCol.mk x51.name x51.kind false)) fun (y10 : List LCol)=>some (.next y10)))))
   (fun j s=>s = (List.zipWith z a b).take j ++ a.drop j ∧ (a.take j).map LCol.kind = (b.take j).map LCol.kind) (fun r=>r = ([],7) ∧ a.map LCol.kind ≠ b.map LCol.kind) a 0 a ⟨by simp,rfl⟩ (fun k x s hk hI=>by
    simp only [Nat.zero_add] at hI ⊢
    have hka := (List.getElem?_eq_some_iff.1 hk).1
    have hxe := (List.getElem?_eq_some_iff.1 hk).2
    have hkb : k < b.length := by omega
    rw [fG hkb,bPs,bPs]
    by_cases hkk : x.kind = b[k].kind
    ·have hzl : ((List.zipWith z a b).take k).length = k := by simp; omega
     have hs : s[k]? = some x := by
      rw [hI.1,List.getElem?_append_right (by omega),hzl,Nat.sub_self,List.getElem?_drop,Nat.add_zero,hk]
     have hkinds : (a.take (k + 1)).map LCol.kind = (b.take (k + 1)).map LCol.kind := by
      rw [List.take_add_one,List.take_add_one,hk,List.getElem?_eq_getElem hkb,List.map_append,List.map_append,hI.2]
      congr 1
      show [x.kind] = [b[k].kind]
      rw [hkk]
     have hset : ∀ v : LCol,v = z x b[k] → s.set k v = (List.zipWith z a b).take (k + 1) ++ a.drop (k + 1) := by
      intro v hv
      rw [hI.1,List.set_append_right _ _ (by omega),hzl,Nat.sub_self]
      rw [List.drop_eq_getElem_cons hka,List.set_cons_zero,List.take_add_one,List.append_assoc]
      congr 1
      rw [List.getElem?_zipWith,hk,List.getElem?_eq_getElem hkb]
      simp [hv]
     rw [bneF hkk,cond_false,jA hs]
     simp only [bPs,bp,Int.toNat_natCast]
     cases hx : x.nullable with
     | true=>exact ⟨_,rfl,hset _ (by simp [z,hx]),hkinds⟩
     | false =>
      by_cases h6 : kind = 6
      ·exact ⟨.next _,by rw [iS h6]; rfl,hset _ (by simp [z,hx,h6]),hkinds⟩
      ·exact ⟨.next _,by rw [ct h6]; rfl,hset _ (by simp [z,hx,h6]),hkinds⟩
    ·refine ⟨.ret ([],7),by rw [jx hkk]; rfl,rfl,fun he=>hkk ?_⟩
     have := congrArg (fun l=>l[k]?) he
     simp only [List.getElem?_map,hk,List.getElem?_eq_getElem hkb,Option.map_some,Option.some.injEq] at this
     exact this)
  rw [hfl,bPs]
  cases fl with
  | brk s=>exact absurd hr (by simp)
  | ret r=>rw [hr.1,if_neg (fun h=>hr.2 h.2)]; rfl
  | next s =>
   simp only [Nat.zero_add] at hr
   rw [gm,hr.1,if_pos ⟨hl,by have := hr.2; rwa [List.take_length,hl,List.take_length] at this⟩]
   have : (List.zipWith z a b).take a.length = List.zipWith z a b := List.take_of_length_le (by simp; omega)
   rw [this,List.drop_length,List.append_nil]
 ·rw [natNE,decide_eq_false hl,if_neg (fun h=>hl h.1)]
  rfl
theorem lr {α : Type} {l : List α} {d : α} (h : 0 < l.length) : aC l 0 = some (l.getD 0 d) := by
 cases l with
 | nil=>simp at h
 | cons a l=>rfl
theorem getD1 {α : Type} {l : List α} {d : α} (h : 1 < l.length) : aC l 1 = some (l.getD 1 d) := by
 match l with
 | []=>simp at h
 | [_]=>simp at h
 | a :: b :: l=>rfl
theorem e0_get {q : LQuery} (h : 0 < q.exprs.length) : aC q.exprs 0 = some (e0Q q) := by
 unfold e0Q
 cases hq : q.exprs with
 | nil=>rw [hq] at h; simp at h
 | cons a l=>rfl
theorem containsS (l : List (List UInt8)) (v : List UInt8) : cH l v = some (decide (v ∈ l)) := by
 unfold cH ec
 rw [idxF2 (p := fun x=>v == x),bPs,fM]
 congr 1
 by_cases h : v ∈ l
 ·rw [decide_eq_true h,List.any_eq_true]; exact ⟨v,h,by simp⟩
 ·rw [decide_eq_false h,List.any_eq_false]
  intro x hx he
  exact h (by simp at he; rwa [he])
theorem agg_eq (c : LChecker) (cols : List LCol) (a : LAggregateCall) : eI c cols a = some (kU c.vars cols a) := by
 unfold eI kU
 simp only [bp,containsS,bPs]
 by_cases h1 : cy a.name = false
 ·simp [h1]
 have h1' : cy a.name = true := by simpa using h1
 by_cases h2 : a.function ∈ [eT,sSum,sMin,sMax]
 ·rw [decide_eq_true (show a.function ∈ ([[99,111,117,110,116],[115,117,109],[109,105,110],[109,97,120]] : List (List UInt8)) from h2)]
  cases ha : a.args with
  | nil =>
   by_cases h3 : a.function = eT
   ·simp [h1',h3]
   ·have h3' : (a.function == ([99,111,117,110,116] : List UInt8)) = false := by simpa using h3
    simp [h1',h3,h2,h3']
  | cons e l =>
   cases l with
   | cons e2 l =>
    have : (1 : Int) < (l.length : Int) + 1 + 1 := by omega
    simp [h1',h2,this]
   | nil =>
    simp only [h1',Bool.not_true,cond_false,List.length_singleton]
    have hno : ¬ (True = False ∨ ¬ a.function ∈ [eT,sSum,sMin,sMax] ∨ 1 < 1 ∨ (1 < 1 ∧ a.function ≠ eT)) := by simp [h2]
    simp only [aC]
    by_cases h4 : (ci cols c.vars e).2.2 = 0
    ·by_cases h5 : (ci cols c.vars e).1 = 0
     ·simp [h2,h4,h5]
     ·by_cases h6 : a.function = sSum
      ·by_cases h7 : (ci cols c.vars e).1 = 1
       ·simp [h4,h6,h7]
       ·simp [h4,h5,h6,h7,jx h7]
      ·have h6' : (a.function == ([115,117,109] : List UInt8)) = false := by simpa using h6
       by_cases h8 : a.function = eT
       ·simp [h4,h5,h8,ct h5]
       ·have h8' : (a.function == ([99,111,117,110,116] : List UInt8)) = false := by simpa using h8
        simp [h2,h4,h5,h6,h8,h6',h8',ct h5]
    ·simp [h2,h4,jx h4]
 ·rw [decide_eq_false (show ¬ a.function ∈ ([[99,111,117,110,116],[115,117,109],[109,105,110],[109,97,120]] : List (List UInt8)) from h2)]
  simp [h1',h2]
theorem namedE_run (vars cols : List LCol) (names : List (List UInt8)) : ∀ (es : List LExpr) (j : Nat) (s : List LCol),es.length + j = names.length → s.length + es.length ≤ 10000000 →
  ∀ k : List LCol → Option (List LCol × Int),af (aE (σ := List LCol) (ρ := ((List LCol) × Int)) (fun (j1 : Nat) (x1 : LExpr) (s1 : List LCol) =>
  ba (ci cols vars x1) fun x31 =>
  af (aC names (j1 : Int)) fun (x39 : List UInt8) =>
  ba (cy x39) fun x41 =>
  cond (!x41)
   (some (.ret ([],3)))
   (cond (x31.2.2 != (0 : Int))
    (some (.ret ([],x31.2.2)))
    (cond (x31.1 == (0 : Int))
     (some (.ret ([],7)))
     (af (aC names (j1 : Int)) fun (x54 : List UInt8) =>
     af (cI 32 s1 ([(LCol.mk x54 x31.1 x31.2.1)] : List LCol)) fun (x60 : List LCol) =>
     some (.next x60))))) j es s) (fun fl1=>fl1.thenR k) = if (bL vars cols es (names.drop j)).2 ≠ 0 then some ([],(bL vars cols es (names.drop j)).2) else k (s ++ (bL vars cols es (names.drop j)).1)
 | [],j,s,_,_,k=>by simp [aE,bL]
 | e :: es,j,s,hl,hb,k=>by
  have hj : j < names.length := by simp at hl; omega
  rw [aE,List.drop_eq_getElem_cons hj,bL,bp,fG hj,bPs,bp]
  cases h1 : cy names[j] with
  | false=>simp
  | true =>
   simp only [Bool.not_true,cond_false,Bool.true_eq_false,if_false]
   by_cases h2 : (ci cols vars e).2.2 = 0
   ·rw [bneF h2,cond_false]
    simp only [h2,ne_eq,not_true_eq_false,if_false]
    by_cases h3 : (ci cols vars e).1 = 0
    ·rw [iS h3]; simp [h3]
    ·rw [ct h3,cond_false,bPs,bI (by decide) (by simp at hb ⊢; omega),bPs]
     simp only [h3,if_false]
     rw [namedE_run vars cols names es (j + 1) _ (by simp at hl; omega) (by simp at hb ⊢; omega) k]
     by_cases h4 : (bL vars cols es (names.drop (j + 1))).2 = 0
     ·simp [h4]
     ·simp [h4]
   ·rw [jx h2]
    simp [h2]
theorem namedA_run (c : LChecker) (cols : List LCol) : ∀ (l : List LAggregateCall) (j : Nat) (s : List LCol),s.length + l.length ≤ 10000000 →
  af (aE (σ := List LCol) (ρ := ((List LCol) × Int)) (fun (_ : Nat) (x2 : LAggregateCall) (s2 : List LCol) =>
  af (eI c cols x2) fun x73 =>
  cond (x73.2 != (0 : Int))
   (some (.ret ([],x73.2)))
   (af (cI 32 s2 ([(LCol.mk x2.name x73.1 (!(x2.function == ([99,111,117,110,116] : List UInt8))))] : List LCol)) fun (x88 : List LCol) =>
   some (.next x88))) j l s) (fun fl2=>fl2.thenR fun (s2 : List LCol)=>some (s2,0)) = some (if (cQ c.vars cols l).2 ≠ 0 then ([],(cQ c.vars cols l).2) else (s ++ (cQ c.vars cols l).1,0))
 | [],j,s,_=>by simp [aE,cQ]
 | a :: l,j,s,hb=>by
  rw [aE,cQ,agg_eq,bPs]
  by_cases h1 : (kU c.vars cols a).2 = 0
  ·rw [bneF h1,cond_false,bI (by decide) (by simp at hb ⊢; omega),bPs]
   simp only [h1,ne_eq,not_true_eq_false,if_false]
   rw [namedA_run c cols l (j + 1) _ (by simp at hb ⊢; omega)]
   by_cases h4 : (cQ c.vars cols l).2 = 0
   ·simp [h4]
   ·simp [h4]
  ·rw [jx h1]
   simp [h1]
theorem named_eq (c : LChecker) (q : LQuery) (cols : List LCol) (hl : q.exprs.length = q.names.length) (hb : q.exprs.length ≤ 1000000 ∧ q.aggregates.length ≤ 1000000) : dn c q cols = some (jV c.vars cols q) := by
 unfold dn jV
 rw [namedE_run c.vars cols q.names q.exprs 0 [] (by omega) (by simp; omega),List.drop_zero]
 by_cases h : (bL c.vars cols q.exprs q.names).2 = 0
 ·have hlen : ∀ (es : List LExpr) (ns : List (List UInt8)),(bL c.vars cols es ns).1.length ≤ es.length := by
   intro es
   induction es with
   | nil=>intro ns; simp [bL]
   | cons e es ih =>
    intro ns
    cases ns with
    | nil=>simp [bL]
    | cons n ns =>
     simp only [bL]
     split
     ·simp
     ·split
      ·simp
      ·split
       ·simp
       ·split
        ·simp
        ·have := ih ns; simp; omega
  simp only [h,ne_eq,not_true_eq_false,if_false,List.nil_append]
  rw [namedA_run c cols q.aggregates 0 _ (by have := hlen q.exprs q.names; omega)]
 ·simp [h]
structure SmallQ (q : LQuery) : Prop where
 nodes : (bJ q).length ≤ 10000000
 here : ∀ x ∈ bJ q,x.exprs.length ≤ 1000000 ∧ x.aggregates.length ≤ 1000000
theorem mem_nodes {q x y : LQuery} (h : x ∈ q.inputs) (hy : y ∈ bJ x) : y ∈ bJ q := by
 rw [fL]
 exact List.mem_cons_of_mem _ (List.mem_flatten.2 ⟨_,List.mem_map.2 ⟨x,h,rfl⟩,hy⟩)
theorem mP (q : LQuery) : q ∈ bJ q := by rw [fL]; exact List.mem_cons_self
theorem SmallQ.sub {q x : LQuery} (h : SmallQ q) (hx : x ∈ q.inputs) : SmallQ x :=
 ⟨by have := jc hx; have := h.nodes; omega,fun y hy=>h.here y (mem_nodes hx hy)⟩
theorem SmallQ.self {q : LQuery} (h : SmallQ q) : q.exprs.length ≤ 1000000 ∧ q.aggregates.length ≤ 1000000 := h.here q (mP q)
structure ShapeOk (q : LQuery) : Prop where
 kind : 1 ≤ q.kind ∧ q.kind ≤ 10
 arity : q.inputs.length = lW q.kind
 one : q.kind = 2 ∨ q.kind = 4 ∨ q.kind = 5 → q.exprs.length = 1
 named : q.kind = 3 ∨ q.kind = 8 → q.exprs.length = q.names.length
 aggs : q.kind ≠ 8 → q.aggregates = []
 sorted : q.kind = 9 → q.exprs.length = q.descending.length
 limit : q.kind = 10 → 0 ≤ q.count ∧ 0 ≤ q.offset
theorem shape_ok {q : LQuery} (h : jl q = true) : ShapeOk q := by
 unfold jl at h
 simp only [Bool.and_eq_true,decide_eq_true_eq] at h
 obtain ⟨⟨⟨⟨⟨⟨⟨⟨h1,h2⟩,h3⟩,h4⟩,h5⟩,h6⟩,h7⟩,h8⟩,h9⟩ := h
 refine ⟨⟨h1,h2⟩,h3,fun hk=>?_,fun hk=>?_,fun hk=>?_,fun hk=>?_,fun hk=>?_⟩
 ·rw [if_pos hk] at h9; simpa using h9
 ·rw [if_neg (by omega),if_pos hk] at h9; simp at h9; exact h9.1
 ·have : (q.kind == 8) = false := ct hk
  rw [this] at h6; simp at h6; exact h6
 ·rw [if_neg (by omega),if_neg (by omega),if_pos hk] at h9; simp at h9; exact h9.1
 ·rw [if_neg (by omega),if_neg (by omega),if_neg (by omega),if_pos hk] at h9; simp at h9; omega
theorem join_run (left : Bool) : ∀ (b : List LCol) (j : Nat) (a : List LCol),a.length + b.length ≤ 10000000 →
  aE (σ := List LCol) (ρ := Empty) (fun (_ : Nat) (x2 : LCol) (s2 : List LCol)=>cond x2.nullable
          (af (cI 32 s2 ([(LCol.mk x2.name x2.kind true)] : List LCol)) fun (x76 : List LCol)=>some (.next x76))
          (af (cI 32 s2 ([(LCol.mk x2.name x2.kind left)] : List LCol)) fun (x76 : List LCol)=>some (.next x76))) j b a = some (.next (gB a b left))
 | [],j,a,_=>by simp [aE,gB]
 | x :: b,j,a,h=>by
  have step : (cond x.nullable (af (cI 32 a ([(LCol.mk x.name x.kind true)] : List LCol)) fun (x76 : List LCol)=>some (Flow.next (ρ := Empty) x76))
    (af (cI 32 a ([(LCol.mk x.name x.kind left)] : List LCol)) fun (x76 : List LCol)=>some (.next x76))) = some (.next (a ++ [⟨x.name,x.kind,x.nullable || left⟩])) := by
   rw [bI (by decide) (by simp at h ⊢; omega),bI (by decide) (by simp at h ⊢; omega)]
   cases x.nullable <;> simp
  rw [aE,step]
  simp only
  rw [join_run left b (j + 1) _ (by simp at h ⊢; omega)]
  simp [gB]
theorem sort_run (vars cols : List LCol) (ins : List (List LCol)) (h0 : aC ins 0 = some cols) : ∀ (es : List LExpr) (j : Nat) (k : Unit → Option (List LCol × Int)),
  af (aE (σ := Unit) (ρ := ((List LCol) × Int)) (fun (_ : Nat) (x5 : LExpr) (_ : Unit)=>af (aC ins 0) fun (x122 : List LCol)=>ba (ci x122 vars x5) fun x127=>cond (x127.2.2 != (0 : Int)) (some (.ret ([],x127.2.2))) (some (.next ()))) j es ()) (fun fl5=>fl5.thenR k) =
   if gN vars cols es ≠ 0 then some ([],gN vars cols es) else k ()
 | [],j,k=>by simp [aE,gN]
 | e :: es,j,k=>by
  rw [aE,gN,h0,bPs,bp]
  by_cases h : (ci cols vars e).2.2 = 0
  ·rw [bneF h,cond_false]
   simp only [h,ne_eq,not_true_eq_false,if_false]
   rw [← h0]
   exact sort_run vars cols ins h0 es (j + 1) k
  ·rw [jx h]; simp [h]
theorem out_eq {c : LChecker} {q : LQuery} {ins : List (List LCol)} (hs : ShapeOk q) (hsm : SmallQ q) (hl : ins.length = q.inputs.length) (hb : ∀ l ∈ ins,l.length ≤ 20) : fC c q ins = some (fV c q ins) := by
 obtain ⟨hk,ha,h1,hn,_,_,_⟩ := hs
 have hself := hsm.self
 have hi : ∀ i,i < ins.length → (ins.getD i []).length ≤ 20 := fun i hi=>by
  rw [List.getD_eq_getElem?_getD,List.getElem?_eq_getElem hi]
  exact hb _ (List.getElem_mem hi)
 have e0 : q.exprs.length = 1 → aC q.exprs 0 = some (e0Q q) := fun h=>e0_get (by omega)
 unfold fC fV
 have kk : q.kind = 1 ∨ q.kind = 2 ∨ q.kind = 3 ∨ q.kind = 4 ∨ q.kind = 5 ∨ q.kind = 6 ∨ q.kind = 7 ∨ q.kind = 8 ∨ q.kind = 9 ∨ q.kind = 10 := by omega
 rcases kk with h | h | h | h | h | h | h | h | h | h
 ·rw [h,idx_table]
  simp only [bPs]
  rcases find_idx (fun a0=>dq a0 q) c.s.tables with ⟨f1,f2⟩ | ⟨t,f1,f2,f3⟩
  ·have f1' : c.s.tables.find? (fun t=>t.name == q.table) = none := f1
   rw [f2,f1']
   rfl
  ·have f1' : c.s.tables.find? (fun t=>t.name == q.table) = some t := f1
   rw [f1',decide_eq_false (show ¬ aK (fun a0=>dq a0 q) c.s.tables < 0 from by omega),jE f2 f3]
   rfl
 all_goals rw [h] at ha
 all_goals simp only [lW] at ha
 ·have g0 : aC ins 0 = some (ins.getD 0 []) := lr (by simp at ha; omega)
  rw [h,g0,e0 (h1 (.inl h))]
  simp [bp]
 ·have g0 : aC ins 0 = some (ins.getD 0 []) := lr (by simp at ha; omega)
  rw [h,g0]
  simp only [bPs]
  rw [named_eq c q _ (hn (.inl h)) hself]
  simp [bp]
 ·have g0 : aC ins 0 = some (ins.getD 0 []) := lr (by simp at ha; omega)
  have g1 : aC ins 1 = some (ins.getD 1 []) := getD1 (by simp at ha; omega)
  rw [h,g0,g1,e0 (h1 (.inr (.inl h)))]
  simp only [bPs]
  rw [join_run ((4 : Int) == 5) _ 0 _ (by have := hi 0 (by simp at ha; omega); have := hi 1 (by simp at ha; omega); omega)]
  simp [bp]
 ·have g0 : aC ins 0 = some (ins.getD 0 []) := lr (by simp at ha; omega)
  have g1 : aC ins 1 = some (ins.getD 1 []) := getD1 (by simp at ha; omega)
  rw [h,g0,g1,e0 (h1 (.inr (.inr h)))]
  simp only [bPs]
  rw [join_run ((5 : Int) == 5) _ 0 _ (by have := hi 0 (by simp at ha; omega); have := hi 1 (by simp at ha; omega); omega)]
  simp [bp]
 ·have g0 : aC ins 0 = some (ins.getD 0 []) := lr (by simp at ha; omega)
  have g1 : aC ins 1 = some (ins.getD 1 []) := getD1 (by simp at ha; omega)
  rw [h,g0,g1]
  simp only [bPs,set_ok]
  simp [bp]
 ·have g0 : aC ins 0 = some (ins.getD 0 []) := lr (by simp at ha; omega)
  have g1 : aC ins 1 = some (ins.getD 1 []) := getD1 (by simp at ha; omega)
  rw [h,g0,g1]
  simp only [bPs,set_ok]
  simp [bp]
 ·have g0 : aC ins 0 = some (ins.getD 0 []) := lr (by simp at ha; omega)
  rw [h,g0]
  simp only [bPs]
  rw [named_eq c q _ (hn (.inr h)) hself]
  simp [bp]
 ·have g0 : aC ins 0 = some (ins.getD 0 []) := lr (by simp at ha; omega)
  rw [h,sort_run c.vars _ ins g0,g0]
  simp only [bp,bPs]
  by_cases hse : gN c.vars (ins.getD 0 []) q.exprs = 0
  ·simp only [hse,ne_eq,not_true_eq_false,if_false]; rfl
  ·simp only [hse,ne_eq,not_false_eq_true,if_true]; rfl
 ·have g0 : aC ins 0 = some (ins.getD 0 []) := lr (by simp at ha; omega)
  rw [h,g0]
  simp [bp]
def cK : List (List LCol × Int) → List (List LCol) × Int
 | []=>([],0)
 | r :: l=>if r.2 ≠ 0 then ([],r.2) else if (cK l).2 ≠ 0 then ([],(cK l).2) else (r.1 :: (cK l).1,0)
def lO (c : LChecker) (q : LQuery) (ins : List (List LCol × Int)) : List LCol × Int :=
 if jl q = false then ([],3) else if (cK ins).2 ≠ 0 then ([],(cK ins).2)
 else if (fV c q (cK ins).1).2 ≠ 0 then ([],(fV c q (cK ins).1).2)
 else if 20 < (fV c q (cK ins).1).1.length then ([],2)
 else if ((fV c q (cK ins).1).1.map LCol.name).Nodup then ((fV c q (cK ins).1).1,0) else ([],23)
def dM (c : LChecker) (q : LQuery) : List LCol × Int := lO c q (q.inputs.attach.map fun x=>dM c x.1)
termination_by SizeOf.sizeOf q
decreasing_by exact LQuery.inputs_lt x.2
theorem nc (c : LChecker) (q : LQuery) : dM c q = lO c q (q.inputs.map (dM c)) := by
 rw [dM,List.attach_map_val (f := dM c)]
theorem oK (f : LQuery → Option (List LCol × Int)) (g : LQuery → List LCol × Int) : ∀ (l : List LQuery) (j : Nat) (s : List (List LCol)),(∀ x ∈ l,f x = some (g x)) → s.length + l.length ≤ 10000000 → ∀ k : List (List LCol) → Option (List LCol × Int),
  af (aE (σ := List (List LCol)) (ρ := ((List LCol) × Int)) (fun (_ : Nat) (x1 : LQuery) (s1 : List (List LCol))=>af (f x1) fun x28=>cond (x28.2 != (0 : Int)) (some (.ret ([],x28.2)))
    (af (cI 24 s1 ([x28.1] : List (List LCol))) fun (x37 : List (List LCol))=>some (.next x37))) j l s) (fun fl1=>fl1.thenR k) =
   if (cK (l.map g)).2 ≠ 0 then some ([],(cK (l.map g)).2) else k (s ++ (cK (l.map g)).1)
 | [],j,s,_,_,k=>by simp [aE,cK]
 | x :: l,j,s,h,hb,k=>by
  rw [aE,h x (by simp),bPs,List.map_cons,cK]
  by_cases h1 : (g x).2 = 0
  ·rw [bneF h1,cond_false,bI (by decide) (by simp at hb ⊢; omega),bPs]
   simp only [h1,ne_eq,not_true_eq_false,if_false]
   rw [oK f g l (j + 1) _ (fun y hy=>h y (by simp [hy])) (by simp at hb ⊢; omega) k]
   by_cases h2 : (cK (l.map g)).2 = 0
   ·simp [h2]
   ·simp [h2]
  ·rw [jx h1]; simp [h1]
theorem mX : ∀ {l : List (List LCol × Int)},(cK l).2 = 0 → (∀ r ∈ l,r.2 = 0) ∧ (cK l).1 = l.map (·.1)
 | [],_=>⟨by simp,rfl⟩
 | r :: l,h=>by
  simp only [cK] at h ⊢
  by_cases h1 : r.2 = 0
  ·by_cases h2 : (cK l).2 = 0
   ·obtain ⟨a,b⟩ := mX h2
    refine ⟨fun x hx=>?_,by simp [h1,h2,b]⟩
    rcases List.mem_cons.1 hx with rfl | hx
    ·exact h1
    ·exact a x hx
   ·simp [h1,h2] at h
  ·simp [h1] at h
theorem dup_run (out : List LCol) : af (aE (σ := Unit) (ρ := ((List LCol) × Int)) (fun (j2 : Nat) (x2 : LCol) (_ : Unit) =>
     af (kv out 0 (j2 : Int)) fun (x61 : List LCol) =>
     af (bw x61 (fun a0=>some (bG a0 x2))) fun x63 =>
     cond x63 (some (.ret ([],23))) (some (.next ()))) 0 out ()) (fun fl2=>fl2.thenR fun (_ : Unit)=>some (out,0)) = some (if (out.map LCol.name).Nodup then (out,0) else ([],23)) := by
 obtain ⟨fl,hfl,hr⟩ := eE (step := fun (j2 : Nat) (x2 : LCol) (_ : Unit) =>
     af (kv out 0 (j2 : Int)) fun (x61 : List LCol) =>
     af (bw x61 (fun a0=>some (bG a0 x2))) fun x63 =>
     cond x63 (some (Flow.ret (([],23) : List LCol × Int))) (some (.next ())))
  (fun j _=>((out.take j).map LCol.name).Nodup) (fun r=>r = ([],23) ∧ ¬ (out.map LCol.name).Nodup) out 0 () (by simp) (fun k x s hk hI=>by
   simp only [Nat.zero_add] at hI ⊢
   have hkl := (List.getElem?_eq_some_iff.1 hk).1
   rw [lx ⟨by omega,by omega,by omega⟩,bPs]
   unfold bw
   rw [idx_column,bPs,bPs,fM]
   simp only [Int.toNat_natCast,Int.toNat_zero,List.drop_zero]
   cases ha : (out.take k).any fun a0=>bG a0 x with
   | true =>
    refine ⟨_,rfl,rfl,fun hnd=>?_⟩
    obtain ⟨y,hy,he⟩ := List.any_eq_true.1 ha
    have he : y.name = x.name := by simpa [bG] using he
    obtain ⟨i,hi,hyi⟩ := List.mem_take_iff_getElem.1 hy
    have hii : i < k := by omega
    rw [List.nodup_iff_pairwise_ne,List.pairwise_iff_getElem] at hnd
    refine hnd i k (by simp; omega) (by simpa using hkl) hii ?_
    simp only [List.getElem_map]
    rw [(List.getElem?_eq_some_iff.1 hk).2,hyi,he]
   | false =>
    refine ⟨_,rfl,?_⟩
    simp only
    rw [List.take_add_one,hk,List.map_append,List.nodup_append]
    refine ⟨hI,by simp,fun a ha' b hb hab=>?_⟩
    simp at hb
    subst hb
    subst hab
    obtain ⟨y,hy,he⟩ := List.mem_map.1 ha'
    have := List.any_eq_false.1 ha y hy
    exact this (by simpa [bG] using he))
 rw [hfl,bPs]
 cases fl with
 | brk s=>exact absurd hr (by simp)
 | ret r=>rw [kZ,hr.1,if_neg hr.2]
 | next s =>
  simp only [Nat.zero_add,List.take_length] at hr
  rw [gm,if_pos hr]
theorem ip (c : LChecker) (q : LQuery) : (dM c q).1.length ≤ 20 := by
 rw [nc]
 unfold lO
 repeat' split
 all_goals first | (simp; done) | (simp only; omega)
theorem cols_ok (c : LChecker) : ∀ q : LQuery,SmallQ q → dD c q = some (dM c q) := by
 refine LQuery.ind fun q ih hsm=>?_
 refine ln (γ := LChecker) (F := fun n c q=>dE n c q) (O := fun r c q=>dF r c q) (fun n=>rfl) c q ?_ (fun x hx=>⟨_,ih x hx (hsm.sub hx)⟩) ?_
 ·intro r r' h
  simp only [dF]
  congr 1
  funext b
  congr 2
  exact iR q.inputs 0 _ fun k x s hk=>by rw [h x (eU hk)]
 ·have e : ∀ c x,(gG fun n=>dE n c x) = dD c x := fun _ _=>rfl
  simp only [dF,e]
  have hself := hsm.self
  rw [shape_eq q ⟨by omega,by omega⟩,bPs,nc]
  unfold lO
  cases hs : jl q with
  | false=>rfl
  | true =>
   have hok := shape_ok hs
   have hin : q.inputs.length ≤ 2 := by rw [hok.arity]; unfold lW; split <;> (try split) <;> omega
   simp only [Bool.not_true,cond_false,Bool.true_eq_false,if_false]
   rw [oK (dD c) (dM c) q.inputs 0 [] (fun x hx=>ih x hx (hsm.sub hx)) (by simp; omega),List.nil_append]
   by_cases h1 : (cK (q.inputs.map (dM c))).2 = 0
   ·obtain ⟨a,b⟩ := mX h1
    simp only [h1,ne_eq,not_true_eq_false,if_false]
    rw [out_eq hok hsm (by rw [b]; simp) (fun l hl=>by
     rw [b] at hl
     obtain ⟨r,hr,rfl⟩ := List.mem_map.1 hl
     obtain ⟨x,_,rfl⟩ := List.mem_map.1 hr
     exact ip c x),bPs]
    generalize fV c q (cK (q.inputs.map (dM c))).1 = o
    by_cases h2 : o.2 = 0
    ·rw [bneF h2,cond_false]
     simp only [h2,not_true_eq_false,if_false]
     by_cases h3 : 20 < o.1.length
     ·rw [decide_eq_true (show (o.1.length : Int) > 20 from by omega),if_pos h3]; rfl
     ·rw [decide_eq_false (show ¬ (o.1.length : Int) > 20 from by omega),if_neg h3,cond_false]
      exact dup_run o.1
    ·rw [jx h2]; simp [h2]
   ·simp [h1]
end
end Go.Proofs.YtgaggbdcedpapaaGreat

namespace Go.Proofs.YtgaggbdcedpapaaGreat
noncomputable section
open Go Go.Ab
theorem whileM_by {σ ρ : Type} {step : σ → Option (Flow σ ρ)} (I : σ → Prop) (μ : σ → Nat) (Q : σ → Prop) (R : ρ → Prop) (hs : ∀ s,I s → ∃ fl,step s = some fl ∧ (match fl with | .next s'=>I s' ∧ μ s' < μ s | .brk s'=>Q s' | .ret r=>R r)) :
  ∀ s,I s → ∃ fl,ef step s = some fl ∧ (match fl with | .next s'=>Q s' | .brk _=>False | .ret r=>R r) := by
 intro s
 generalize hn : μ s = n
 induction n using Nat.strongRecOn generalizing s with
 | _ n ih =>
  intro hI
  obtain ⟨fl,h1,h2⟩ := hs s hI
  cases fl with
  | next s' =>
   obtain ⟨fl,h3,h4⟩ := ih (μ s') (hn ▸ h2.2) s' rfl h2.1
   exact ⟨fl,jk h1 h3,h4⟩
  | brk s'=>exact ⟨.next s',jk h1 rfl,h2⟩
  | ret r=>exact ⟨.ret r,jk h1 rfl,h2⟩
theorem eW {σ β : Type} {step : σ → Option (Flow σ Empty)} {k : σ → Option β} {R : β → Prop} {s : σ} (I : σ → Prop) (μ : σ → Nat) (Q : σ → Prop) (h0 : I s)
  (hs : ∀ s,I s → ∃ fl,step s = some fl ∧ (match fl with | .next s'=>I s' ∧ μ s' < μ s | .brk s'=>Q s' | .ret _=>False)) (hk : ∀ s',Q s' → ∃ r,k s' = some r ∧ R r) :
  ∃ r,af (ef step s) (fun fl=>fl.thenP k) = some r ∧ R r := by
 obtain ⟨fl,h1,h2⟩ := whileM_by (step := step) I μ Q (fun _=>False) (fun s hI=>by
  obtain ⟨fl,h1,h2⟩ := hs s hI
  refine ⟨fl,h1,?_⟩
  cases fl with
  | next s'=>exact h2
  | brk s'=>exact h2
  | ret r=>exact r.elim) s h0
 cases fl with
 | next s'=>rw [h1]; exact hk s' h2
 | brk s'=>exact absurd h2 (by simp)
 | ret r=>exact r.elim
theorem mid_eq {n : Int} (h0 : 0 ≤ n) (h1 : n ≤ 4611686018427387904) : IntKind.i64.wrap (Int.fdiv (IntKind.u64.wrap (IntKind.i64.wrap n)) (2 ^ 1)) = n / 2 := by
 have h3 : IntKind.i64.wrap n = n := aX (by omega) (by omega)
 have h2 : IntKind.u64.wrap n = n := by
  simp only [IntKind.wrap,IntKind.bits,IntKind.signed]
  simp
  omega
 rw [h3,h2,show (2 : Int) ^ 1 = 2 from rfl,Int.fdiv_eq_ediv_of_nonneg _ (by decide)]
 exact aX (by omega) (by omega)
section
variable {α : Type}
theorem swap_perm {l : List α} {i j : Nat} {x y : α} (hi : l[i]? = some x) (hj : l[j]? = some y) : ((l.set i y).set j x).Perm l := by
 have hil := (List.getElem?_eq_some_iff.1 hi).1
 have hjl := (List.getElem?_eq_some_iff.1 hj).1
 have hx := (List.getElem?_eq_some_iff.1 hi).2
 have hy := (List.getElem?_eq_some_iff.1 hj).2
 rw [← hx,← hy]
 exact List.set_set_perm hil hjl
end
section
abbrev Rows := List (List LVal)
abbrev Cmp := List LVal → List LVal → Option Int
structure SrtOk (cmp : Cmp) (d0 d : Rows) : Prop where
 perm : d.Perm d0
 small : d0.length ≤ 1000000
 tot : ∀ x ∈ d0,∀ y ∈ d0,Tot (cmp x y)
variable {cmp : Cmp} {d0 : Rows}
theorem SrtOk.len {d : Rows} (h : SrtOk cmp d0 d) : d.length = d0.length := h.perm.length_eq
theorem SrtOk.cm {d : Rows} (h : SrtOk cmp d0 d) {x y : List LVal} (hx : x ∈ d) (hy : y ∈ d) : Tot (cmp x y) := h.tot x (h.perm.mem_iff.1 hx) y (h.perm.mem_iff.1 hy)
theorem SrtOk.swap {d : Rows} (h : SrtOk cmp d0 d) {i j : Nat} {x y : List LVal} (hi : d[i]? = some x) (hj : d[j]? = some y) : SrtOk cmp d0 ((d.set i y).set j x) := ⟨(swap_perm hi hj).trans h.perm,h.small,h.tot⟩
theorem SrtOk.get {d : Rows} (h : SrtOk cmp d0 d) {i : Int} (h0 : 0 ≤ i) (h1 : i < d0.length) : ∃ x,aC d i = some x ∧ d[i.toNat]? = some x ∧ x ∈ d := by
 have hl := h.len
 have : i.toNat < d.length := by omega
 exact ⟨d[i.toNat],jE h0 (List.getElem?_eq_getElem this),List.getElem?_eq_getElem this,List.getElem_mem _⟩
theorem getI_set {α : Type} {l : List α} {i j : Int} {x y : α} (h0 : 0 ≤ j) (hj : l[j.toNat]? = some y) : ∃ z,aC (l.set i.toNat x) j = some z := by
 have hl := (List.getElem?_eq_some_iff.1 hj).1
 exact ⟨_,jE h0 (List.getElem?_eq_getElem (by simpa using hl))⟩
theorem oq {β : Type} {d : Rows} (h : SrtOk cmp d0 d) {i j : Int} (hi0 : 0 ≤ i) (hi1 : i < d0.length) (hj0 : 0 ≤ j) (hj1 : j < d0.length) : ∃ d',SrtOk cmp d0 d' ∧ ∀ k : Rows → Option β,
  (af (aC d j) fun (x28 : List LVal)=>af (aC d i) fun (x34 : List LVal)=>af (aC d i) fun (_ : List LVal)=>ba (d.set i.toNat x28) fun (y6 : Rows)=>af (aC y6 j) fun (_ : List LVal)=>ba (y6.set j.toNat x34) fun (y7 : Rows)=>k y7) = k d' := by
 obtain ⟨y,hy,hy',_⟩ := h.get hj0 hj1
 obtain ⟨x,hx,hx',_⟩ := h.get hi0 hi1
 obtain ⟨z,hz⟩ := getI_set (i := i) (x := y) hj0 hy'
 refine ⟨_,h.swap hx' hy',fun k=>?_⟩
 rw [hy,hx]
 simp only [bPs,bp]
 rw [hz,bPs]
theorem nT {d : Rows} (h : SrtOk cmp d0 d) {a b : Int} (ha : 0 ≤ a ∧ a ≤ d0.length) (hb : b ≤ d0.length) : ∃ d',bM d a b cmp = some d' ∧ SrtOk cmp d0 d' := by
 have hs := h.small
 unfold bM
 rw [aX (by omega) (by omega)]
 refine eW (fun s=>SrtOk cmp d0 s.1 ∧ a < s.2) (fun s=>(b - s.2).toNat) (fun s=>SrtOk cmp d0 s.1) ⟨h,by show a < a + 1; omega⟩ (fun s hI=>?_) (fun s hq=>⟨_,rfl,hq⟩)
 obtain ⟨h1,h2⟩ := hI
 by_cases hlt : s.2 < b
 ·rw [decide_eq_true hlt,cond_true]
  refine eW (fun t=>SrtOk cmp d0 t.1 ∧ a ≤ t.2 ∧ t.2 < b) (fun t=>(t.2 - a).toNat) (fun t=>SrtOk cmp d0 t.1) ⟨h1,by show a ≤ s.2; omega,hlt⟩ (fun t hI=>?_) (fun t hq=>⟨_,rfl,?_⟩)
  ·obtain ⟨g1,g2,g3⟩ := hI
   by_cases hgt : t.2 > a
   ·rw [decide_eq_true hgt,cond_true,aX (by omega) (by omega)]
    obtain ⟨x,hx,hx',hxm⟩ := g1.get (i := t.2) (by omega) (by omega)
    obtain ⟨y,hy,hy',hym⟩ := g1.get (i := t.2 - 1) (by omega) (by omega)
    obtain ⟨c,hc⟩ := g1.cm hxm hym
    obtain ⟨d',hd',hsw⟩ := oq (β := Flow (Rows × Int) Empty) g1 (i := t.2) (j := t.2 - 1) (by omega) (by omega) (by omega) (by omega)
    rw [hx,bPs,hy,bPs,hc,bPs,bPs]
    by_cases hneg : c < 0
    ·rw [decide_eq_true hneg]
     have := hsw (fun y31=>some (.next (y31,t.2 - 1)))
     rw [hx,hy] at this
     refine ⟨.next (d',t.2 - 1),?_,⟨hd',by show a ≤ t.2 - 1; omega,by show t.2 - 1 < b; omega⟩,by show (t.2 - 1 - a).toNat < (t.2 - a).toNat; omega⟩
     rw [cond_true]
     simp only
     rw [hy,hx]
     exact this
    ·rw [decide_eq_false hneg]
     exact ⟨_,rfl,g1⟩
   ·rw [decide_eq_false hgt]
    exact ⟨_,rfl,g1⟩
  ·show (SrtOk cmp d0 t.1 ∧ a < IntKind.i64.wrap (s.2 + 1)) ∧ (b - IntKind.i64.wrap (s.2 + 1)).toNat < (b - s.2).toNat
   rw [aX (by omega) (by omega)]
   exact ⟨⟨hq,by omega⟩,by omega⟩
 ·rw [decide_eq_false hlt]
  exact ⟨_,rfl,h1⟩
theorem lQ {d : Rows} (h : SrtOk cmp d0 d) {a b n : Int} (ha : 0 ≤ a) (hb : 0 ≤ b) (hn : n ≤ d0.length) (ha' : a + n ≤ d0.length) (hb' : b + n ≤ d0.length) : ∃ d',bK d a b n cmp = some d' ∧ SrtOk cmp d0 d' := by
 have hs := h.small
 unfold bK
 refine eW (fun s=>SrtOk cmp d0 s.1 ∧ 0 ≤ s.2) (fun s=>(n - s.2).toNat) (fun s=>SrtOk cmp d0 s.1) ⟨h,by show (0 : Int) ≤ 0; omega⟩ (fun s hI=>?_) (fun s hq=>⟨_,rfl,hq⟩)
 obtain ⟨h1,h2⟩ := hI
 by_cases hlt : s.2 < n
 ·rw [decide_eq_true hlt,cond_true,aX (n := b + s.2) (by omega) (by omega),aX (n := a + s.2) (by omega) (by omega),aX (n := s.2 + 1) (by omega) (by omega)]
  obtain ⟨d',hd',hsw⟩ := oq (β := Flow (Rows × Int) Empty) h1 (i := a + s.2) (j := b + s.2) (by omega) (by omega) (by omega) (by omega)
  exact ⟨_,hsw _,⟨hd',by show 0 ≤ s.2 + 1; omega⟩,by show (n - (s.2 + 1)).toNat < (n - s.2).toNat; omega⟩
 ·rw [decide_eq_false hlt]
  exact ⟨_,rfl,h1⟩
theorem rotate_ok {d : Rows} (h : SrtOk cmp d0 d) {a m b : Int} (ha : 0 ≤ a) (hm : a < m) (hb : m < b) (hb' : b ≤ d0.length) : ∃ d',cz d a m b cmp = some d' ∧ SrtOk cmp d0 d' := by
 have hs := h.small
 unfold cz
 rw [aX (n := m - a) (by omega) (by omega),aX (n := b - m) (by omega) (by omega)]
 refine eW (fun s=>SrtOk cmp d0 s.1 ∧ 0 < s.2.1 ∧ 0 < s.2.2 ∧ s.2.1 ≤ m - a ∧ s.2.2 ≤ b - m) (fun s=>(s.2.1 + s.2.2).toNat) (fun s=>SrtOk cmp d0 s.1 ∧ 0 < s.2.1 ∧ s.2.1 ≤ m - a ∧ s.2.1 ≤ b - m) ⟨h,by show 0 < m - a; omega,by show 0 < b - m; omega,Int.le_refl _,Int.le_refl _⟩ (fun s hI=>?_) (fun s hq=>?_)
 ·obtain ⟨h1,h2,h3,h4,h5⟩ := hI
  by_cases hne : s.2.1 = s.2.2
  ·rw [bneF hne]
   exact ⟨_,rfl,h1,h2,h4,by show s.2.1 ≤ b - m; omega⟩
  ·rw [jx hne,cond_true,aX (n := m - s.2.1) (by omega) (by omega)]
   by_cases hgt : s.2.1 > s.2.2
   ·rw [decide_eq_true hgt,cond_true]
    obtain ⟨d',e,hd'⟩ := lQ h1 (a := m - s.2.1) (b := m) (n := s.2.2) (by omega) (by omega) (by omega) (by omega) (by omega)
    rw [e,bPs,dg (by rw [hd'.len,h1.len]),bPs,aX (by omega) (by omega)]
    exact ⟨_,rfl,⟨hd',by show 0 < s.2.1 - s.2.2; omega,h3,by show s.2.1 - s.2.2 ≤ m - a; omega,h5⟩,by show (s.2.1 - s.2.2 + s.2.2).toNat < (s.2.1 + s.2.2).toNat; omega⟩
   ·rw [decide_eq_false hgt,cond_false,aX (n := m + s.2.2) (by omega) (by omega),aX (n := m + s.2.2 - s.2.1) (by omega) (by omega)]
    obtain ⟨d',e,hd'⟩ := lQ h1 (a := m - s.2.1) (b := m + s.2.2 - s.2.1) (n := s.2.1) (by omega) (by omega) (by omega) (by omega) (by omega)
    rw [e,bPs,dg (by rw [hd'.len,h1.len]),bPs,aX (by omega) (by omega)]
    exact ⟨_,rfl,⟨hd',h2,by show 0 < s.2.2 - s.2.1; omega,h4,by show s.2.2 - s.2.1 ≤ b - m; omega⟩,by show (s.2.1 + (s.2.2 - s.2.1)).toNat < (s.2.1 + s.2.2).toNat; omega⟩
 ·obtain ⟨h1,h2,h3,h4⟩ := hq
  rw [aX (n := m - s.2.1) (by omega) (by omega)]
  obtain ⟨d',e,hd'⟩ := lQ h1 (a := m - s.2.1) (b := m) (n := s.2.1) (by omega) (by omega) (by omega) (by omega) (by omega)
  rw [e,bPs,dg (by rw [hd'.len,h1.len]),bPs]
  exact ⟨_,rfl,hd'⟩
def LeO {β : Type} (o o' : Option β) : Prop := ∀ r,o = some r → o' = some r
theorem LeO.refl {β : Type} (o : Option β) : LeO o o := fun _ h=>h
theorem LeO.bind {β γ : Type} {o o' : Option β} {k k' : β → Option γ} (h : LeO o o') (hk : ∀ v,LeO (k v) (k' v)) : LeO (af o k) (af o' k') := by
 intro r hr
 cases o with
 | none=>cases hr
 | some v=>rw [h v rfl]; exact hk v r hr
theorem LeO.cond {β : Type} {b : Bool} {x x' y y' : Option β} (hx : LeO x x') (hy : LeO y y') : LeO (cond b x y) (cond b x' y') := by
 cases b
 ·exact hy
 ·exact hx
theorem LeO.thenP {σ β : Type} {fl : Flow σ Empty} {k k' : σ → Option β} (hk : ∀ s,LeO (k s) (k' s)) : LeO (fl.thenP k) (fl.thenP k') := by
 cases fl with
 | next s=>exact hk s
 | brk s=>exact hk s
 | ret r=>exact r.elim
theorem symMerge_mono {r r' : Rows → Int → Int → Int → Option Rows} (h : ∀ d a m b,LeO (r d a m b) (r' d a m b)) (d : Rows) (a m b : Int) : LeO (bN r d a m b cmp) (bN r' d a m b cmp) := by
 unfold bN
 simp only [bp]
 refine LeO.cond (LeO.refl _) (LeO.cond (LeO.refl _) (LeO.bind (LeO.refl _) fun fl=>LeO.thenP fun s=>LeO.bind (LeO.refl _) fun t=>LeO.bind (LeO.cond (LeO.bind (h _ _ _ _) fun _=>LeO.refl _) (LeO.refl _)) fun u=>LeO.cond (LeO.cond (LeO.bind (h _ _ _ _) fun _=>LeO.refl _) (LeO.refl _)) (LeO.refl _)))
theorem np : ∀ (n : Nat) (d : Rows) (a m b : Int),LeO (aU n d a m b cmp) (aU (n + 1) d a m b cmp)
 | 0,d,a,m,b=>fun r h=>by simp [aU] at h
 | n + 1,d,a,m,b=>by
  rw [aU,aU]
  exact symMerge_mono (fun d a m b=>np n d a m b) d a m b
theorem od {n : Nat} {d : Rows} {a m b : Int} {r : Rows} (h : aU n d a m b cmp = some r) : dJ d a m b cmp = some r := by
 refine mL n fun k hk=>?_
 obtain ⟨j,rfl⟩ : ∃ j,k = n + j := ⟨k - n,by omega⟩
 clear hk
 induction j with
 | zero=>exact h
 | succ j ih=>exact np (n + j) d a m b r ih
theorem kD : ∀ (n : Nat) {d : Rows} (_ : SrtOk cmp d0 d) {a m b : Int},0 ≤ a → a < m → m < b → b ≤ d0.length → (b - a).toNat < n → ∃ d',aU n d a m b cmp = some d' ∧ SrtOk cmp d0 d'
 | 0,_,_,_,_,_,_,_,_,_,hn=>by omega
 | n + 1,d,h,a,m,b,ha,hm,hb,hb',hn=>by
  have hs := h.small
  rw [aU]
  unfold bN
  rw [aX (n := m - a) (by omega) (by omega),aX (n := b - m) (by omega) (by omega)]
  by_cases h1 : m - a = 1
  ·rw [iS h1,cond_true]
   refine eW (fun s=>SrtOk cmp d0 s.1 ∧ m ≤ s.2.1 ∧ s.2.1 ≤ s.2.2 ∧ s.2.2 ≤ b) (fun s=>(s.2.2 - s.2.1).toNat) (fun s=>SrtOk cmp d0 s.1 ∧ m ≤ s.2.1 ∧ s.2.1 ≤ b) ⟨h,Int.le_refl _,by show m ≤ b; omega,Int.le_refl _⟩ (fun s hI=>?_) (fun s hq=>?_)
   ·obtain ⟨g1,g2,g3,g4⟩ := hI
    by_cases hlt : s.2.1 < s.2.2
    ·rw [decide_eq_true hlt,cond_true,mid_eq (n := s.2.1 + s.2.2) (by omega) (by omega)]
     obtain ⟨x,hx,_,hxm⟩ := g1.get (i := (s.2.1 + s.2.2) / 2) (by omega) (by omega)
     obtain ⟨y,hy,_,hym⟩ := g1.get (i := a) (by omega) (by omega)
     obtain ⟨c,hc⟩ := g1.cm hxm hym
     rw [hx,bPs,hy,bPs,hc,bPs]
     by_cases hneg : c < 0
     ·rw [decide_eq_true hneg,cond_true,aX (by omega) (by omega)]
      exact ⟨_,rfl,⟨g1,by show m ≤ (s.2.1 + s.2.2) / 2 + 1; omega,by show (s.2.1 + s.2.2) / 2 + 1 ≤ s.2.2; omega,g4⟩,by show (s.2.2 - ((s.2.1 + s.2.2) / 2 + 1)).toNat < (s.2.2 - s.2.1).toNat; omega⟩
     ·rw [decide_eq_false hneg,cond_false]
      exact ⟨_,rfl,⟨g1,g2,by show s.2.1 ≤ (s.2.1 + s.2.2) / 2; omega,by show (s.2.1 + s.2.2) / 2 ≤ b; omega⟩,by show ((s.2.1 + s.2.2) / 2 - s.2.1).toNat < (s.2.2 - s.2.1).toNat; omega⟩
    ·rw [decide_eq_false hlt]
     exact ⟨_,rfl,g1,g2,by show s.2.1 ≤ b; omega⟩
   ·obtain ⟨g1,g2,g3⟩ := hq
    rw [aX (n := s.2.1 - 1) (by omega) (by omega)]
    refine eW (fun t=>SrtOk cmp d0 t.1 ∧ a ≤ t.2) (fun t=>(s.2.1 - t.2).toNat) (fun t=>SrtOk cmp d0 t.1) ⟨g1,Int.le_refl _⟩ (fun t hI=>?_) (fun t hq=>⟨_,rfl,hq⟩)
    obtain ⟨k1,k2⟩ := hI
    by_cases hlt : t.2 < s.2.1 - 1
    ·rw [decide_eq_true hlt,cond_true,aX (n := t.2 + 1) (by omega) (by omega)]
     obtain ⟨d',hd',hsw⟩ := oq (β := Flow (Rows × Int) Empty) k1 (i := t.2) (j := t.2 + 1) (by omega) (by omega) (by omega) (by omega)
     exact ⟨_,hsw _,⟨hd',by show a ≤ t.2 + 1; omega⟩,by show (s.2.1 - (t.2 + 1)).toNat < (s.2.1 - t.2).toNat; omega⟩
    ·rw [decide_eq_false hlt]
     exact ⟨_,rfl,k1⟩
  ·rw [ct h1,cond_false]
   by_cases h2 : b - m = 1
   ·rw [iS h2,cond_true]
    refine eW (fun s=>SrtOk cmp d0 s.1 ∧ a ≤ s.2.1 ∧ s.2.1 ≤ s.2.2 ∧ s.2.2 ≤ m) (fun s=>(s.2.2 - s.2.1).toNat) (fun s=>SrtOk cmp d0 s.1 ∧ a ≤ s.2.1 ∧ s.2.1 ≤ m) ⟨h,Int.le_refl _,by show a ≤ m; omega,Int.le_refl _⟩ (fun s hI=>?_) (fun s hq=>?_)
    ·obtain ⟨g1,g2,g3,g4⟩ := hI
     by_cases hlt : s.2.1 < s.2.2
     ·rw [decide_eq_true hlt,cond_true,mid_eq (n := s.2.1 + s.2.2) (by omega) (by omega)]
      obtain ⟨x,hx,_,hxm⟩ := g1.get (i := m) (by omega) (by omega)
      obtain ⟨y,hy,_,hym⟩ := g1.get (i := (s.2.1 + s.2.2) / 2) (by omega) (by omega)
      obtain ⟨c,hc⟩ := g1.cm hxm hym
      rw [hx,bPs,hy,bPs,hc,bPs]
      by_cases hneg : c < 0
      ·rw [decide_eq_true hneg]
       exact ⟨_,rfl,⟨g1,g2,by show s.2.1 ≤ (s.2.1 + s.2.2) / 2; omega,by show (s.2.1 + s.2.2) / 2 ≤ m; omega⟩,by show ((s.2.1 + s.2.2) / 2 - s.2.1).toNat < (s.2.2 - s.2.1).toNat; omega⟩
      ·rw [decide_eq_false hneg,Bool.not_false,cond_true,aX (by omega) (by omega)]
       exact ⟨_,rfl,⟨g1,by show a ≤ (s.2.1 + s.2.2) / 2 + 1; omega,by show (s.2.1 + s.2.2) / 2 + 1 ≤ s.2.2; omega,g4⟩,by show (s.2.2 - ((s.2.1 + s.2.2) / 2 + 1)).toNat < (s.2.2 - s.2.1).toNat; omega⟩
     ·rw [decide_eq_false hlt]
      exact ⟨_,rfl,g1,g2,by show s.2.1 ≤ m; omega⟩
    ·obtain ⟨g1,g2,g3⟩ := hq
     refine eW (fun t=>SrtOk cmp d0 t.1 ∧ a ≤ t.2 ∧ t.2 ≤ m) (fun t=>(t.2 - a).toNat) (fun t=>SrtOk cmp d0 t.1) ⟨g1,by show a ≤ m; omega,Int.le_refl _⟩ (fun t hI=>?_) (fun t hq=>⟨_,rfl,hq⟩)
     obtain ⟨k1,k2,k3⟩ := hI
     by_cases hlt : t.2 > s.2.1
     ·rw [decide_eq_true hlt,cond_true,aX (n := t.2 - 1) (by omega) (by omega)]
      obtain ⟨d',hd',hsw⟩ := oq (β := Flow (Rows × Int) Empty) k1 (i := t.2) (j := t.2 - 1) (by omega) (by omega) (by omega) (by omega)
      exact ⟨_,hsw _,⟨hd',by show a ≤ t.2 - 1; omega,by show t.2 - 1 ≤ m; omega⟩,by show (t.2 - 1 - a).toNat < (t.2 - a).toNat; omega⟩
     ·rw [decide_eq_false hlt]
      exact ⟨_,rfl,k1⟩
   ·rw [ct h2,cond_false]
    simp only [bp]
    rw [mid_eq (n := a + b) (by omega) (by omega)]
    generalize hmid : (a + b) / 2 = mid
    have b1 : 2 * mid ≤ a + b ∧ a + b ≤ 2 * mid + 1 := by omega
    rw [aX (n := mid + m) (by omega) (by omega),aX (n := mid + m - b) (by omega) (by omega),aX (n := mid + m - 1) (by omega) (by omega)]
    obtain ⟨lo,hi,e1,l1,l2,l3,l4,l5,l6⟩ : ∃ lo hi : Int,(cond (decide (m > mid)) ((d,mid + m - b,mid)) ((d,a,m)) : Rows × Int × Int) = (d,lo,hi) ∧ a ≤ lo ∧ lo ≤ hi ∧ hi ≤ m ∧ mid + m - lo ≤ b ∧ m ≤ mid + m - hi ∧ hi ≤ mid := by
     by_cases hgt : m > mid
     ·exact ⟨mid + m - b,mid,by rw [decide_eq_true hgt]; rfl,by omega,by omega,by omega,by omega,by omega,by omega⟩
     ·exact ⟨a,m,by rw [decide_eq_false hgt]; rfl,by omega,by omega,by omega,by omega,by omega,by omega⟩
    rw [e1]
    refine eW (fun s=>SrtOk cmp d0 s.1 ∧ lo ≤ s.2.1 ∧ s.2.1 ≤ s.2.2 ∧ s.2.2 ≤ hi) (fun s=>(s.2.2 - s.2.1).toNat) (fun s=>SrtOk cmp d0 s.1 ∧ lo ≤ s.2.1 ∧ s.2.1 ≤ hi) ⟨h,Int.le_refl _,l2,Int.le_refl _⟩ (fun s hI=>?_) (fun s hq=>?_)
    ·obtain ⟨g1,g2,g3,g4⟩ := hI
     by_cases hlt : s.2.1 < s.2.2
     ·rw [decide_eq_true hlt,cond_true,mid_eq (n := s.2.1 + s.2.2) (by omega) (by omega)]
      generalize hc : (s.2.1 + s.2.2) / 2 = c
      have c1 : s.2.1 ≤ c ∧ c < s.2.2 := by omega
      rw [aX (n := mid + m - 1 - c) (by omega) (by omega)]
      obtain ⟨x,hx,_,hxm⟩ := g1.get (i := mid + m - 1 - c) (by omega) (by omega)
      obtain ⟨y,hy,_,hym⟩ := g1.get (i := c) (by omega) (by omega)
      obtain ⟨v,hv⟩ := g1.cm hxm hym
      rw [hx,bPs,hy,bPs,hv,bPs]
      by_cases hneg : v < 0
      ·rw [decide_eq_true hneg]
       exact ⟨_,rfl,⟨g1,g2,by show s.2.1 ≤ c; omega,by show c ≤ hi; omega⟩,by show (c - s.2.1).toNat < (s.2.2 - s.2.1).toNat; omega⟩
      ·rw [decide_eq_false hneg,Bool.not_false,cond_true,aX (by omega) (by omega)]
       exact ⟨_,rfl,⟨g1,by show lo ≤ c + 1; omega,by show c + 1 ≤ s.2.2; omega,g4⟩,by show (s.2.2 - (c + 1)).toNat < (s.2.2 - s.2.1).toNat; omega⟩
     ·rw [decide_eq_false hlt]
      exact ⟨_,rfl,g1,g2,by show s.2.1 ≤ hi; omega⟩
    ·obtain ⟨g1,g2,g3⟩ := hq
     rw [aX (n := mid + m - s.2.1) (by omega) (by omega)]
     -- the rotation
     obtain ⟨t,ht,hto⟩ : ∃ t,(af (cond ((cond (decide (s.2.1 < m)) ((s.1,decide (m < mid + m - s.2.1))) ((s.1,false)) : Rows × Bool)).2
       (af (cz ((cond (decide (s.2.1 < m)) ((s.1,decide (m < mid + m - s.2.1))) ((s.1,false)) : Rows × Bool)).1 s.2.1 m (mid + m - s.2.1) cmp) fun x191=>af (dL (x191.length = ((cond (decide (s.2.1 < m)) ((s.1,decide (m < mid + m - s.2.1))) ((s.1,false)) : Rows × Bool)).1.length) ()) fun (_ : Unit)=>some x191)
       (some ((cond (decide (s.2.1 < m)) ((s.1,decide (m < mid + m - s.2.1))) ((s.1,false)) : Rows × Bool)).1)) some) = some t ∧ SrtOk cmp d0 t := by
      by_cases c1 : s.2.1 < m
      ·by_cases c2 : m < mid + m - s.2.1
       ·rw [decide_eq_true c1,decide_eq_true c2]
        simp only [cond_true]
        obtain ⟨d',e,hd'⟩ := rotate_ok g1 (a := s.2.1) (m := m) (b := mid + m - s.2.1) (by omega) c1 c2 (by omega)
        rw [e,bPs,dg (by rw [hd'.len,g1.len])]
        exact ⟨_,rfl,hd'⟩
       ·rw [decide_eq_true c1,decide_eq_false c2]
        exact ⟨_,rfl,g1⟩
      ·rw [decide_eq_false c1]
       exact ⟨_,rfl,g1⟩
     have ht' := ht
     generalize hcc : (cond ((cond (decide (s.2.1 < m)) ((s.1,decide (m < mid + m - s.2.1))) ((s.1,false)) : Rows × Bool)).2 _ _ : Option Rows) = o at ht ⊢
     cases o with
     | none=>cases ht
     | some t0 =>
      simp only [bPs,Option.some.injEq] at ht
      subst ht
      rw [bPs]
      clear hcc ht'
      obtain ⟨u,hu,huo⟩ : ∃ u,(af (cond ((cond (decide (a < s.2.1)) ((t0,decide (s.2.1 < mid))) ((t0,false)) : Rows × Bool)).2
        (af (aU n ((cond (decide (a < s.2.1)) ((t0,decide (s.2.1 < mid))) ((t0,false)) : Rows × Bool)).1 a s.2.1 mid cmp) fun x205=>af (dL (x205.length = ((cond (decide (a < s.2.1)) ((t0,decide (s.2.1 < mid))) ((t0,false)) : Rows × Bool)).1.length) ()) fun (_ : Unit)=>some x205)
        (some ((cond (decide (a < s.2.1)) ((t0,decide (s.2.1 < mid))) ((t0,false)) : Rows × Bool)).1)) some) = some u ∧ SrtOk cmp d0 u := by
       by_cases c1 : a < s.2.1
       ·by_cases c2 : s.2.1 < mid
        ·rw [decide_eq_true c1,decide_eq_true c2]
         simp only [cond_true]
         obtain ⟨d',e,hd'⟩ := kD n hto (a := a) (m := s.2.1) (b := mid) ha c1 c2 (by omega) (by omega)
         rw [e,bPs,dg (by rw [hd'.len,hto.len])]
         exact ⟨_,rfl,hd'⟩
        ·rw [decide_eq_true c1,decide_eq_false c2]
         exact ⟨_,rfl,hto⟩
       ·rw [decide_eq_false c1]
        exact ⟨_,rfl,hto⟩
      generalize hcc : (cond ((cond (decide (a < s.2.1)) ((t0,decide (s.2.1 < mid))) ((t0,false)) : Rows × Bool)).2 _ _ : Option Rows) = o at hu ⊢
      cases o with
      | none=>cases hu
      | some u0 =>
       simp only [bPs,Option.some.injEq] at hu
       subst hu
       rw [bPs]
       by_cases c1 : mid < mid + m - s.2.1
       ·rw [decide_eq_true c1,cond_true]
        by_cases c2 : mid + m - s.2.1 < b
        ·rw [decide_eq_true c2,cond_true]
         obtain ⟨d',e,hd'⟩ := kD n huo (a := mid) (m := mid + m - s.2.1) (b := b) (by omega) c1 c2 hb' (by omega)
         rw [e,bPs,dg (by rw [hd'.len,huo.len])]
         exact ⟨_,rfl,hd'⟩
        ·rw [decide_eq_false c2]
         exact ⟨_,rfl,huo⟩
       ·rw [decide_eq_false c1]
        exact ⟨_,rfl,huo⟩
theorem stable_ok {d : Rows} (h : SrtOk cmp d0 d) : ∃ d',cX d (d0.length : Int) cmp = some d' ∧ SrtOk cmp d0 d' := by
 have hs := h.small
 unfold cX
 refine eW (fun s=>SrtOk cmp d0 s.1 ∧ 0 ≤ s.2.1 ∧ s.2.1 ≤ s.2.2 ∧ s.2.2 ≤ s.2.1 + 20 ∧ s.2.1 ≤ d0.length) (fun s=>(d0.length + 20 - s.2.2).toNat) (fun s=>SrtOk cmp d0 s.1 ∧ 0 ≤ s.2.1 ∧ s.2.1 ≤ d0.length) ⟨h,by show (0 : Int) ≤ 0; omega,by show (0 : Int) ≤ 20; omega,by show (20 : Int) ≤ 0 + 20; omega,by show (0 : Int) ≤ d0.length; omega⟩ (fun s hI=>?_) (fun s hq=>?_)
 ·obtain ⟨g1,g2,g3,g4,g5⟩ := hI
  by_cases hle : s.2.2 ≤ (d0.length : Int)
  ·rw [decide_eq_true hle,cond_true]
   obtain ⟨d',e,hd'⟩ := nT g1 (a := s.2.1) (b := s.2.2) ⟨g2,by omega⟩ hle
   rw [e,bPs,dg (by rw [hd'.len,g1.len]),bPs,aX (by omega) (by omega)]
   exact ⟨_,rfl,⟨hd',by show 0 ≤ s.2.2; omega,by show s.2.2 ≤ s.2.2 + 20; omega,by show s.2.2 + 20 ≤ s.2.2 + 20; omega,hle⟩,by show ((d0.length : Int) + 20 - (s.2.2 + 20)).toNat < ((d0.length : Int) + 20 - s.2.2).toNat; omega⟩
  ·rw [decide_eq_false hle]
   exact ⟨_,rfl,g1,g2,g5⟩
 ·obtain ⟨g1,g2,g3⟩ := hq
  obtain ⟨d',e,hd'⟩ := nT g1 (a := s.2.1) (b := (d0.length : Int)) ⟨g2,by omega⟩ (Int.le_refl _)
  rw [e,bPs,dg (by rw [hd'.len,g1.len]),bPs]
  clear e g1 g2 g3 s h
  refine eW (fun s=>SrtOk cmp d0 s.1 ∧ 20 ≤ s.2) (fun s=>(d0.length - s.2).toNat) (fun s=>SrtOk cmp d0 s.1) ⟨hd',by show (20 : Int) ≤ 20; omega⟩ (fun s hI=>?_) (fun s hq=>⟨_,rfl,hq⟩)
  obtain ⟨g1,g2⟩ := hI
  by_cases hlt : s.2 < (d0.length : Int)
  ·rw [decide_eq_true hlt,cond_true,aX (n := 2 * s.2) (by omega) (by omega)]
   refine eW (fun t=>SrtOk cmp d0 t.1 ∧ 0 ≤ t.2.1 ∧ t.2.2 = t.2.1 + 2 * s.2 ∧ t.2.1 ≤ d0.length) (fun t=>(d0.length + 2 * s.2 - t.2.2).toNat) (fun t=>SrtOk cmp d0 t.1 ∧ 0 ≤ t.2.1 ∧ t.2.1 ≤ d0.length) ⟨g1,by show (0 : Int) ≤ 0; omega,by show 2 * s.2 = 0 + 2 * s.2; omega,by show (0 : Int) ≤ d0.length; omega⟩ (fun t hI=>?_) (fun t hq=>?_)
   ·obtain ⟨k1,k2,k3,k4⟩ := hI
    by_cases hle : t.2.2 ≤ (d0.length : Int)
    ·rw [decide_eq_true hle,cond_true,aX (n := t.2.1 + s.2) (by omega) (by omega)]
     obtain ⟨d'',e,hd''⟩ := kD ((t.2.2 - t.2.1).toNat + 1) k1 (a := t.2.1) (m := t.2.1 + s.2) (b := t.2.2) k2 (by omega) (by omega) hle (by omega)
     rw [od e,bPs,dg (by rw [hd''.len,k1.len]),bPs,aX (by omega) (by omega)]
     exact ⟨_,rfl,⟨hd'',by show 0 ≤ t.2.2; omega,by show t.2.2 + 2 * s.2 = t.2.2 + 2 * s.2; omega,hle⟩,by show ((d0.length : Int) + 2 * s.2 - (t.2.2 + 2 * s.2)).toNat < ((d0.length : Int) + 2 * s.2 - t.2.2).toNat; omega⟩
    ·rw [decide_eq_false hle]
     exact ⟨_,rfl,k1,k2,k4⟩
   ·obtain ⟨k1,k2,k3⟩ := hq
    rw [aX (n := t.2.1 + s.2) (by omega) (by omega),aX (n := s.2 * 2) (by omega) (by omega)]
    by_cases hm : t.2.1 + s.2 < (d0.length : Int)
    ·rw [decide_eq_true hm,cond_true]
     obtain ⟨d'',e,hd''⟩ := kD ((d0.length - t.2.1).toNat + 1) k1 (a := t.2.1) (m := t.2.1 + s.2) (b := (d0.length : Int)) k2 (by omega) (by omega) (Int.le_refl _) (by omega)
     rw [od e,bPs,dg (by rw [hd''.len,k1.len]),bPs]
     exact ⟨_,rfl,⟨hd'',by show 20 ≤ s.2 * 2; omega⟩,by show ((d0.length : Int) - s.2 * 2).toNat < ((d0.length : Int) - s.2).toNat; omega⟩
    ·rw [decide_eq_false hm,cond_false]
     exact ⟨_,rfl,⟨k1,by show 20 ≤ s.2 * 2; omega⟩,by show ((d0.length : Int) - s.2 * 2).toNat < ((d0.length : Int) - s.2).toNat; omega⟩
  ·rw [decide_eq_false hlt]
   exact ⟨_,rfl,g1⟩
theorem sortStable_ok {d : Rows} (hs : d.length ≤ 1000000) (ht : ∀ x ∈ d,∀ y ∈ d,Tot (cmp x y)) : ∃ d',bV d cmp = some d' ∧ d'.Perm d := by
 unfold bV
 obtain ⟨d',e,hd'⟩ := stable_ok (cmp := cmp) (d0 := d) (d := d) ⟨List.Perm.refl _,hs,ht⟩
 rw [e,bPs,dg hd'.len,bPs]
 exact ⟨d',rfl,hd'.perm⟩
end
theorem ng (r : LRun) (cols : List LCol) (x : List LVal) (l : List LExpr) (hl : l.length ≤ 10000000) : cD r cols x l = some (l.map fun e=>bT (aS r cols x) e) := by
 unfold cD
 rw [nk (xs := l) (fun e=>bT (aS r cols x) e) (fun k e hk=>by
  have := (List.getElem?_eq_some_iff.1 hk).1
  rw [bp,bp,bI (by decide) (by simp; omega),bPs])]
 rfl
theorem compare_tot (a b : List LVal) (ds : List Bool) : Tot (fB a b ds) := by
 unfold fB
 refine Tot.bind (Tot.range _ _ _ fun k x s hk=>?_) fun fl _=>Tot.thenR fun _ _=>Tot.mk
 rw [Nat.zero_add]
 by_cases h1 : (k : Int) ≥ (b.length : Int)
 ·rw [decide_eq_true h1]; exact Tot.mk
 ·rw [decide_eq_false h1,cond_false,fG (by omega)]
  simp only [bPs,bp]
  refine Tot.cond (fun _=>Tot.mk) fun _=>?_
  refine Tot.cond (fun h=>?_) fun _=>Tot.cond (fun _=>Tot.mk) fun _=>Tot.mk
  have h := of_decide_eq_true h
  rw [fG (by omega),bPs]
  exact Tot.cond (fun _=>Tot.cond (fun _=>Tot.mk) fun _=>Tot.mk) fun _=>Tot.cond (fun _=>Tot.mk) fun _=>Tot.mk
theorem sort_ok (r : LRun) (q : LQuery) (cols : List LCol) (l : Rows) (hs : l.length ≤ 1000000) (he : q.exprs.length ≤ 1000000) : ∃ l',el r q cols l = some l' ∧ l'.Perm l := by
 unfold el
 obtain ⟨l',e,hp⟩ := sortStable_ok (cmp := fun a0 a1=>eg a0 a1 r cols q) hs (fun x _ y _=>by
  show Tot (eg x y r cols q)
  unfold eg
  rw [ng r cols x q.exprs (by omega),ng r cols y q.exprs (by omega),bPs,bPs]
  exact Tot.bind (compare_tot _ _ _) fun _ _=>Tot.mk)
 rw [e,bPs,dg hp.length_eq,bPs]
 exact ⟨l',rfl,hp⟩
end
end Go.Proofs.YtgaggbdcedpapaaGreat

namespace Go.Proofs.YtgaggbdcedpapaaGreat
noncomputable section
open Go Go.Ab
theorem val_eq (x y : LVal) : (x.kind == y.kind && (x.int == y.int && (x.text == y.text && true))) = decide (x = y) := by
 obtain ⟨a,b,c⟩ := x
 obtain ⟨a',b',c'⟩ := y
 by_cases h : (⟨a,b,c⟩ : LVal) = ⟨a',b',c'⟩
 ·rw [decide_eq_true h]; cases h; simp
 ·rw [decide_eq_false h]
  by_cases h1 : a = a'
  ·by_cases h2 : b = b'
   ·have h3 : c ≠ c' := fun h3=>h (by rw [h1,h2,h3])
    have : (c == c') = false := by simpa using h3
    simp [this]
   ·simp [ct h2]
  ·simp [ct h1]
theorem equalRow (x y : List LVal) : cj x y = some (decide (x = y)) := by
 unfold cj
 by_cases hl : x.length = y.length
 ·rw [natNE,decide_eq_true hl,Bool.not_true,cond_false]
  obtain ⟨fl,hfl,hr⟩ := eE (step := fun (j1 : Nat) (x1 : LVal) (_ : Unit)=>af (aC y (j1 : Int)) fun (x22 : LVal)=>cond (!(x1.kind == x22.kind && (x1.int == x22.int && (x1.text == x22.text && true)))) (some (Flow.ret false)) (some (.next ())))
   (fun j _=>x.take j = y.take j) (fun r=>r = false ∧ x ≠ y) x 0 () (by simp) (fun k v s hk hI=>by
    simp only [Nat.zero_add] at hI ⊢
    have hkl := (List.getElem?_eq_some_iff.1 hk).1
    rw [fG (by omega),bPs,val_eq]
    by_cases hv : v = y[k]
    ·rw [decide_eq_true hv]
     refine ⟨_,rfl,?_⟩
     simp only
     rw [List.take_add_one,List.take_add_one,hk,List.getElem?_eq_getElem (by omega),hI,hv]
    ·rw [decide_eq_false hv]
     refine ⟨_,rfl,rfl,fun he=>hv ?_⟩
     subst he
     exact (List.getElem?_eq_some_iff.1 hk).2.symm)
  rw [hfl,bPs]
  cases fl with
  | brk s=>exact absurd hr (by simp)
  | ret r=>rw [kZ,hr.1,decide_eq_false hr.2]
  | next s =>
   simp only [Nat.zero_add,List.take_length] at hr
   rw [hl,List.take_length] at hr
   rw [gm,decide_eq_true hr]
 ·rw [natNE,decide_eq_false hl,decide_eq_false (fun h=>hl (by rw [h]))]
  rfl
theorem idxO (l : Rows) (p : List LVal → Bool) (f : List LVal → Option Bool) (hf : ∀ x ∈ l,f x = some (p x)) (hl : l.length ≤ 10000000) : bi l f = some (aK p l,l) := by
 unfold bi
 rw [nQ (by omega),bPs,Int.toNat_natCast]
 obtain ⟨fl,hfl,hr⟩ := eE (step := fun (j1 : Nat) (_ : Nat) (s1 : Rows)=>af (aC s1 (j1 : Int)) fun (x14 : List LVal)=>af (f x14) fun x16=>cond x16 (some (Flow.ret ((j1 : Int),s1))) (some (.next s1)))
  (fun j s=>s = l ∧ ∀ x ∈ l.take j,p x = false) (fun r=>r = (aK p l,l)) (List.range l.length) 0 l ⟨rfl,by simp⟩ (fun k v s hk hI=>by
   simp only [Nat.zero_add] at hI ⊢
   have hkl := (List.getElem?_eq_some_iff.1 hk).1
   simp at hkl
   obtain ⟨rfl,hI⟩ := hI
   rw [fG hkl,bPs,hf _ (List.getElem_mem hkl),bPs]
   cases hp : p s[k] with
   | true=>exact ⟨_,rfl,by simp only; rw [lU hkl hI hp]⟩
   | false =>
    refine ⟨_,rfl,rfl,fun x hx=>?_⟩
    rw [List.take_add_one,List.getElem?_eq_getElem hkl,List.mem_append] at hx
    rcases hx with hx | hx
    ·exact hI x hx
    ·simp at hx
     rw [hx]
     exact hp)
 rw [hfl,bPs]
 cases fl with
 | brk s=>exact absurd hr (by simp)
 | ret r=>rw [kZ,hr]
 | next s =>
  simp only [Nat.zero_add,List.length_range,List.take_length] at hr
  rw [gm,hr.1,iq hr.2]
theorem deleteFunc_eq (l : Rows) (p : List LVal → Bool) (f : List LVal → Option Bool) (hf : ∀ x ∈ l,f x = some (p x)) (hl : l.length ≤ 1000000) : cv l f = some (l.filter fun x=>!p x) := by
 unfold cv
 rw [idxO l p f hf (by omega),bPs]
 simp only
 rw [dg trivial,bPs]
 by_cases hneg : aK p l = -1
 ·rw [iS hneg,cond_true]
  congr 1
  symm
  rw [List.filter_eq_self]
  intro x hx
  have : decide (aK p l ≥ 0) = false := by rw [hneg]; rfl
  rw [fM] at this
  have := List.any_eq_false.1 this x hx
  simpa using this
 ·rw [ct hneg,cond_false]
  have h0 : 0 ≤ aK p l := by rcases idxOf_neg (p := p) (l := l) with h | h; exact absurd h hneg; exact h
  obtain ⟨i,hi⟩ : ∃ i : Nat,aK p l = i := ⟨(aK p l).toNat,by omega⟩
  have hil : i < l.length := by have := lC h0; omega
  have hpre : (l.take i).filter (fun x=>!p x) = l.take i := by
   rw [List.filter_eq_self]
   intro x hx
   have : l.findIdx? p = some i := by
    unfold aK at hi
    cases hq : l.findIdx? p with
    | none=>rw [hq] at hi; simp at hi
    | some j=>rw [hq] at hi; exact congrArg some (by have hi : (j : Int) = (i : Int) := hi; omega)
   obtain ⟨_,_,hlt⟩ := List.findIdx?_eq_some_iff_getElem.1 this
   obtain ⟨j,hj,rfl⟩ := List.mem_take_iff_getElem.1 hx
   simp [hlt j (by omega)]
  have hpi : p l[i] = true := by
   obtain ⟨x,hx,hp⟩ := kP h0
   rw [hi,Int.toNat_natCast,List.getElem?_eq_getElem hil] at hx
   cases hx
   exact hp
  rw [hi,aX (n := (i : Int) + 1) (by omega) (by omega)]
  obtain ⟨r,hr,hq⟩ := eW (step := fun (s1 : Rows × Int × Int) =>
   cond (decide (s1.2.2 < (s1.1.length : Int)))
    (af (aC s1.1 s1.2.2) fun (x24 : List LVal)=>af (f x24) fun x28=>cond (!x28) (af (aC s1.1 s1.2.1) fun (_ : List LVal)=>ba (s1.1.set s1.2.1.toNat x24) fun (y4 : Rows)=>some (.next (y4,(IntKind.i64.wrap (s1.2.1 + (1 : Int))),(IntKind.i64.wrap (s1.2.2 + (1 : Int))))))
     (some (.next (s1.1,s1.2.1,(IntKind.i64.wrap (s1.2.2 + (1 : Int)))))))
    (some (.brk (s1.1,s1.2.1,s1.2.2)))) (s := (l,(i : Int),(i : Int) + 1)) (k := fun (s1 : Rows × Int × Int)=>af (cutI s1.1 s1.2.1) fun (y5 : Rows)=>af (cutI y5 s1.2.1) fun (y6 : Rows)=>some y6) (R := fun r=>r = l.filter fun x=>!p x)
   (fun s=>∃ a j : Nat,s.2.1 = a ∧ s.2.2 = j ∧ a < j ∧ j ≤ l.length ∧ s.1.length = l.length ∧ s.1.take a = (l.take j).filter (fun x=>!p x) ∧ s.1.drop j = l.drop j) (fun s=>(l.length - s.2.2).toNat)
   (fun s=>∃ a : Nat,s.2.1 = a ∧ a ≤ s.1.length ∧ s.1.take a = l.filter fun x=>!p x)
   ⟨i,i + 1,rfl,by show (i : Int) + 1 = ((i + 1 : Nat) : Int); omega,by omega,by omega,rfl,by
    show l.take i = _
    rw [List.take_add_one,List.getElem?_eq_getElem hil,List.filter_append,hpre]
    simp [hpi],rfl⟩
   (fun s hI=>by
    obtain ⟨a,j,h1,h2,h3,h4,h5,h6,h7⟩ := hI
    obtain ⟨d,s1,s2⟩ := s
    simp only at h1 h2 h5 h6 h7 ⊢
    subst h1
    subst h2
    by_cases hlt : j < l.length
    ·rw [decide_eq_true (show (j : Int) < (d.length : Int) from by omega),cond_true,fG (by omega),bPs]
     have hdj : d[j]? = l[j]? := by
      have := congrArg (fun q=>q[0]?) h7
      simpa using this
     have hdje : d[j] = l[j] := by
      rw [List.getElem?_eq_getElem (by omega),List.getElem?_eq_getElem hlt] at hdj
      exact Option.some.inj hdj
     have hdrop : ∀ e : Rows,e.drop j = l.drop j → e.drop (j + 1) = l.drop (j + 1) := fun e he=>by
      rw [← List.drop_drop,← List.drop_drop,he]
     rw [hdje,hf _ (List.getElem_mem hlt),bPs,aX (n := (j : Int) + 1) (by omega) (by omega),aX (n := (a : Int) + 1) (by omega) (by omega)]
     cases hp : p l[j] with
     | true =>
      refine ⟨_,rfl,⟨a,j + 1,rfl,by show (j : Int) + 1 = ((j + 1 : Nat) : Int); omega,by omega,by omega,h5,?_,hdrop d h7⟩,by show ((l.length : Int) - ((j : Int) + 1)).toNat < ((l.length : Int) - (j : Int)).toNat; omega⟩
      show d.take a = _
      rw [h6,List.take_add_one,List.getElem?_eq_getElem hlt,List.filter_append]
      simp [hp]
     | false =>
      simp only [Bool.not_false,cond_true]
      rw [fG (by omega),bPs,bp,Int.toNat_natCast]
      refine ⟨_,rfl,⟨a + 1,j + 1,by show (a : Int) + 1 = ((a + 1 : Nat) : Int); omega,by show (j : Int) + 1 = ((j + 1 : Nat) : Int); omega,by omega,by omega,by show (d.set a l[j]).length = l.length; simp [h5],?_,?_⟩,by show ((l.length : Int) - ((j : Int) + 1)).toNat < ((l.length : Int) - (j : Int)).toNat; omega⟩
      ·show (d.set a l[j]).take (a + 1) = _
       rw [List.take_add_one,List.getElem?_set_self (by omega),List.take_set_of_le (by omega),h6,List.take_add_one,List.getElem?_eq_getElem hlt,List.filter_append]
       simp [hp]
      ·show (d.set a l[j]).drop (j + 1) = _
       rw [List.drop_set_of_lt (by omega)]
       exact hdrop d h7
    ·rw [decide_eq_false (show ¬ (j : Int) < (d.length : Int) from by omega)]
     refine ⟨_,rfl,a,rfl,by show a ≤ d.length; omega,?_⟩
     show d.take a = _
     rw [h6,List.take_of_length_le (by omega)])
   (fun s hq=>by
    obtain ⟨a,h1,h2,h3⟩ := hq
    rw [h1]
    unfold cutI
    rw [if_pos ⟨by omega,by simpa using h2⟩,bPs,Int.toNat_natCast,if_pos ⟨by omega,by simp; omega⟩,bPs,List.take_take,Nat.min_self]
    exact ⟨_,rfl,h3⟩)
  rw [← hq]
  exact hr
def jr : Rows → Rows → Rows
 | [],_=>[]
 | x :: a,left=>if x ∈ left then jr a (left.erase x) else x :: jr a left
theorem erase_idx {α : Type} [BEq α] [LawfulBEq α] [DecidableEq α] {l : List α} {x : α} {i : Nat} (h : l.findIdx? (fun y=>decide (x = y)) = some i) : l.take i ++ l.drop (i + 1) = l.erase x := by
 induction l generalizing i with
 | nil=>simp at h
 | cons a l ih =>
  rw [List.findIdx?_cons] at h
  by_cases hx : x = a
  ·subst hx; simp at h; subst h; simp
  ·have e : decide (x = a) = false := decide_eq_false hx
   rw [e] at h
   simp only [Bool.false_eq_true,if_false,Option.map_eq_some_iff] at h
   obtain ⟨j,hj,rfl⟩ := h
   have hne : (a == x) = false := by simp; exact fun h=>hx h.symm
   rw [List.erase_cons,hne]
   simp [ih hj]
theorem less_run : ∀ (a : Rows) (j : Nat) (left out : Rows),left.length ≤ 1000000 → out.length + a.length ≤ 1000000 →
  aE (σ := Rows × Rows) (ρ := Empty) (fun (_ : Nat) (x1 : List LVal) (s1 : Rows × Rows) =>
  af (bi s1.1 (fun a0=>gq a0 x1)) fun x20 =>
  af (dL (x20.2.length = s1.1.length) ()) fun (_ : Unit) =>
  cond (decide (x20.1 ≥ (0 : Int)))
   (af (delI x20.2 x20.1 (IntKind.i64.wrap (x20.1 + (1 : Int)))) fun x27 =>
   some (.next (x27,s1.2)))
   (af (cI 24 s1.2 ([x1] : List (List LVal))) fun (x31 : List (List LVal)) =>
   some (.next (x20.2,x31)))) j a (left,out) = some (.next ((a.foldl (fun l x=>l.erase x) left),out ++ jr a left))
 | [],j,left,out,_,_=>by simp [aE,jr]
 | x :: a,j,left,out,hl,ho=>by
  rw [aE,idxO left (fun y=>decide (x = y)) _ (fun y _=>by unfold gq; rw [equalRow]; rfl) (by omega),bPs]
  simp only
  rw [dg trivial,bPs,jr,List.foldl_cons]
  by_cases hx : x ∈ left
  ·have hany : decide (aK (fun y=>decide (x = y)) left ≥ 0) = true := by rw [fM,List.any_eq_true]; exact ⟨x,hx,by simp⟩
   rw [hany,cond_true,if_pos hx]
   have h0 := of_decide_eq_true hany
   unfold aK at h0 ⊢
   cases hq : left.findIdx? (fun y=>decide (x = y)) with
   | none=>rw [hq] at h0; simp at h0
   | some i =>
    have hil := (List.findIdx?_eq_some_iff_getElem.1 hq).1
    simp only
    rw [aX (by omega) (by omega)]
    have hd : delI left (i : Int) ((i : Int) + 1) = some (left.erase x) := by
     unfold delI
     rw [if_pos ⟨by omega,by omega,by omega⟩,show ((i : Int)).toNat = i from rfl,show ((i : Int) + 1).toNat = i + 1 from by omega,erase_idx hq]
    rw [hd,bPs]
    exact less_run a (j + 1) (left.erase x) out (by have := List.length_erase_le (a := x) (l := left); omega) (by simp at ho; omega)
  ·have hany : decide (aK (fun y=>decide (x = y)) left ≥ 0) = false := by
    rw [fM,List.any_eq_false]
    intro y hy he
    have : x = y := by simpa using he
    exact hx (this ▸ hy)
   rw [hany,cond_false,if_neg hx,bI (by decide) (by simp at ho ⊢; omega),bPs]
   simp only
   rw [less_run a (j + 1) left _ hl (by simp at ho ⊢; omega),List.erase_of_not_mem hx]
   simp
theorem less_eq (a b : Rows) (ha : a.length ≤ 1000000) (hb : b.length ≤ 1000000) : iQ a b = some (jr a b) := by
 unfold iQ
 rw [less_run a 0 b [] hb (by simpa using ha),bPs,bF]
 rfl
theorem nO : ∀ (a b : Rows),(jr a b).Sublist a
 | [],_=>by simp [jr]
 | x :: a,b=>by
  rw [jr]
  split
  ·exact (nO a _).cons x
  ·exact (nO a b).cons_cons x
theorem concat2 (x y : List LVal) (hx : x.length ≤ 1000000) (hy : y.length ≤ 1000000) : bq [x,y] = some (x ++ y) := by
 unfold bq
 simp only [aE,Int.zero_add]
 rw [aX (n := (x.length : Int)) (by omega) (by omega),decide_eq_false (show ¬ (x.length : Int) < 0 from by omega)]
 simp only [cond_false]
 rw [aX (n := (x.length : Int) + (y.length : Int)) (by omega) (by omega),decide_eq_false (show ¬ (x.length : Int) + (y.length : Int) < 0 from by omega)]
 simp only [cond_false,bPs,bF]
 rw [growI_ok ⟨by omega,by omega,by unfold maxLen; omega⟩,bPs,bI (by decide) (by simp; omega),bPs]
 simp only [List.nil_append]
 rw [bI (by decide) (by omega)]
 rfl
def fD (f : List LVal → Bool) (x : List LVal) (b : Rows) : Rows := (b.map fun y=>x ++ y).filter f
def padR (f : List LVal → Bool) (left : Bool) (pad x : List LVal) (b : Rows) : Rows := if left = true ∧ fD f x b = [] then [x ++ pad] else fD f x b
def iv (f : List LVal → Bool) (left : Bool) (pad : List LVal) (a b : Rows) : Rows := (a.map fun x=>padR f left pad x b).flatten
theorem match_run (f : List LVal → Bool) (e : LExpr) (r : LRun) (cols : List LCol) (ex : List LExpr) (he : aC ex 0 = some e) (hf : ∀ z,jb (bT (aS r cols z) e) = f z) (x : List LVal) (hx : x.length ≤ 1000)
  (b : Rows) (out : Rows) (found : Bool) (hb : ∀ y ∈ b,y.length ≤ 1000) (ho : out.length + b.length ≤ 1000000) :
  aE (σ := Rows × Bool) (ρ := Empty) (fun (_ : Nat) (x6 : List LVal) (s6 : Rows × Bool) =>
   af (bq ([x,x6] : Rows)) fun x58 =>
   af (aC ex 0) fun (x65 : LExpr) =>
   ba (aS r cols x58) fun x62 =>
   ba (bT x62 x65) fun x67 =>
   ba (jb x67) fun x68 =>
   cond x68
    (af (cI 24 s6.1 ([x58] : Rows)) fun (x72 : Rows)=>some (.next (x72,true)))
    (some (.next (s6.1,s6.2)))) 0 b (out,found) = some (.next (out ++ fD f x b,found || !(fD f x b).isEmpty)) := by
 rw [rMa (xs := b) (s := (out,found)) (fun k=>(out ++ fD f x (b.take k),found || !(fD f x (b.take k)).isEmpty)) (by simp [fD]) (fun k y hk=>by
  have hkl := (List.getElem?_eq_some_iff.1 hk).1
  have hm : (fD f x (b.take k)).length ≤ k := by unfold fD; exact Nat.le_trans (List.length_filter_le _ _) (by simp; omega)
  have hs : fD f x (b.take (k + 1)) = fD f x (b.take k) ++ if f (x ++ y) then [x ++ y] else [] := by
   unfold fD
   rw [List.take_add_one,hk,List.map_append,List.filter_append]
   cases h : f (x ++ y) <;> simp [h]
  rw [concat2 x y (by omega) (by have := hb y (eU hk); omega),bPs,he,bPs,hs]
  simp only [bp,hf]
  cases hz : f (x ++ y) with
  | true =>
   rw [cond_true,bI (by decide) (by simp; omega),bPs]
   simp
  | false=>simp),List.take_length]
theorem padR_len (f : List LVal → Bool) (left : Bool) (pad x : List LVal) (b : Rows) : (padR f left pad x b).length ≤ max 1 b.length := by
 unfold padR
 split
 ·simp; omega
 ·have : (fD f x b).length ≤ b.length := by
   unfold fD
   exact Nat.le_trans (List.length_filter_le _ _) (by simp)
  omega
theorem nL (f : List LVal → Bool) (left : Bool) (pad : List LVal) (a b : Rows) : (iv f left pad a b).length ≤ a.length * max 1 b.length := by
 unfold iv
 induction a with
 | nil=>simp
 | cons x a ih =>
  have := padR_len f left pad x b
  simp only [List.map_cons,List.flatten_cons,List.length_append,List.length_cons,Nat.add_mul,Nat.one_mul]
  omega
def cT (key : List LVal → List LVal) : Rows → Rows → Rows
 | ks,[]=>ks
 | ks,x :: l=>cT key (if key x ∈ ks then ks else ks ++ [key x]) l
theorem keysF_app (key : List LVal → List LVal) : ∀ (l l' ks : Rows),cT key ks (l ++ l') = cT key (cT key ks l) l'
 | [],_,_=>rfl
 | x :: l,l',ks=>by rw [List.cons_append,cT,keysF_app key l l',cT]
theorem mw (key : List LVal → List LVal) : ∀ (l ks : Rows),ks.Nodup → (cT key ks l).Nodup
 | [],_,h=>h
 | x :: l,ks,h=>by
  rw [cT]
  refine mw key l _ ?_
  split
  ·exact h
  ·rename_i hx
   rw [List.nodup_append]
   exact ⟨h,by simp,fun a ha b hb hab=>by simp at hb; exact hx (hb ▸ hab ▸ ha)⟩
theorem jC (key : List LVal → List LVal) : ∀ (l ks : Rows) (k : List LVal),k ∈ cT key ks l ↔ k ∈ ks ∨ ∃ x ∈ l,key x = k
 | [],ks,k=>by simp [cT]
 | x :: l,ks,k=>by
  rw [cT,jC key l]
  split
  ·rename_i h
   constructor
   ·rintro (h1 | ⟨y,hy,e⟩)
    ·exact .inl h1
    ·exact .inr ⟨y,by simp [hy],e⟩
   ·rintro (h1 | ⟨y,hy,e⟩)
    ·exact .inl h1
    ·rcases List.mem_cons.1 hy with rfl | hy
     ·exact .inl (e ▸ h)
     ·exact .inr ⟨y,hy,e⟩
  ·constructor
   ·rintro (h1 | ⟨y,hy,e⟩)
    ·rcases List.mem_append.1 h1 with h1 | h1
     ·exact .inl h1
     ·exact .inr ⟨x,by simp,by simp at h1; exact h1.symm⟩
    ·exact .inr ⟨y,by simp [hy],e⟩
   ·rintro (h1 | ⟨y,hy,e⟩)
    ·exact .inl (by simp [h1])
    ·rcases List.mem_cons.1 hy with rfl | hy
     ·exact .inl (by simp [e])
     ·exact .inr ⟨y,hy,e⟩
theorem ma (key : List LVal → List LVal) : ∀ (l ks : Rows),(cT key ks l).length ≤ ks.length + l.length
 | [],_=>by simp [cT]
 | x :: l,ks=>by
  rw [cT]
  have := ma key l (if key x ∈ ks then ks else ks ++ [key x])
  split at this
  ·rename_i h; rw [if_pos h]; simp; omega
  ·rename_i h; rw [if_neg h]; simp at this ⊢; omega
def bt (key : List LVal → List LVal) (l : Rows) (k : List LVal) : Rows := l.filter fun x=>decide (key x = k)
theorem group_run (key : List LVal → List LVal) (q : LQuery) (r : LRun) (cols : List LCol) (hk : ∀ x,cD r cols x q.exprs = some (key x)) (ks0 : Rows) (hn : ks0.Nodup) (l : Rows) (hl : l.length ≤ 1000000) (hks : ks0.length ≤ 1) :
  aE (σ := Rows × List Rows) (ρ := Empty) (fun (_ : Nat) (x2 : List LVal) (s2 : Rows × List Rows) =>
  af (cD r cols x2 q.exprs) fun x38 =>
  af (bi s2.1 (fun a0=>eH a0 x38)) fun x41 =>
  af (dL (x41.2.length = s2.1.length) ()) fun (_ : Unit) =>
  af (
   cond (decide (x41.1 < (0 : Int)))
    (af (cI 24 x41.2 ([x38] : Rows)) fun (x49 : Rows) =>
    af (cI 24 s2.2 ([[]] : List Rows)) fun (x52 : List Rows) =>
    some (x49,x52,(x41.2.length : Int)))
    (some (x41.2,s2.2,x41.1))) fun (t7 : Rows × List Rows × Int) =>
  af (aC t7.2.1 t7.2.2) fun (x57 : Rows) =>
  af (cI 24 x57 ([x2] : Rows)) fun (x61 : Rows) =>
  af (aC t7.2.1 t7.2.2) fun (_ : Rows) =>
  ba (t7.2.1.set t7.2.2.toNat x61) fun (y8 : List Rows) =>
  some (.next (t7.1,y8))) 0 l (ks0,ks0.map fun _=>[]) = some (.next (cT key ks0 l,(cT key ks0 l).map (bt key l))) := by
 rw [rMa (xs := l) (s := (ks0,ks0.map fun _=>[])) (fun k=>(cT key ks0 (l.take k),(cT key ks0 (l.take k)).map (bt key (l.take k)))) (by
  show (ks0,ks0.map (bt key [])) = _
  congr 1) (fun k x hkx=>by
   have hkl := (List.getElem?_eq_some_iff.1 hkx).1
   have hlen := ma key (l.take k) ks0
   have hlen2 : (cT key ks0 (l.take k)).length ≤ 1 + k := by simp at hlen; omega
   have hnd := mw key (l.take k) ks0 hn
   have hmem : ∀ y ∈ l.take k,key y ∈ cT key ks0 (l.take k) := fun y hy=>(jC key _ _ _).2 (.inr ⟨y,hy,rfl⟩)
   have hsucc : l.take (k + 1) = l.take k ++ [x] := by rw [List.take_add_one,hkx]; rfl
   rw [hsucc,keysF_app]
   generalize hK : cT key ks0 (l.take k) = K at *
   have hgl : ∀ kk,(bt key (l.take k) kk).length ≤ k := fun kk=>by
    unfold bt
    exact Nat.le_trans (List.length_filter_le _ _) (by simp; omega)
   rw [hk x,bPs,idxO K (fun y=>decide (key x = y)) _ (fun y _=>by unfold eH; rw [equalRow]; rfl) (by omega),bPs]
   simp only
   rw [dg trivial,bPs]
   have hg : ∀ kk,bt key (l.take k ++ [x]) kk = bt key (l.take k) kk ++ if key x = kk then [x] else [] := fun kk=>by
    unfold bt
    rw [List.filter_append]
    congr 1
    by_cases h : key x = kk <;> simp [h]
   by_cases hx : key x ∈ K
   ·have hany : decide (aK (fun y=>decide (key x = y)) K < 0) = false := by
     have : decide (aK (fun y=>decide (key x = y)) K ≥ 0) = true := by rw [fM,List.any_eq_true]; exact ⟨_,hx,by simp⟩
     have := of_decide_eq_true this
     exact decide_eq_false (by omega)
    have h0 : 0 ≤ aK (fun y=>decide (key x = y)) K := by have := of_decide_eq_false hany; omega
    obtain ⟨i,hi⟩ : ∃ i : Nat,aK (fun y=>decide (key x = y)) K = i := ⟨(aK (fun y=>decide (key x = y)) K).toNat,by omega⟩
    obtain ⟨z,hz,hzk⟩ := kP h0
    rw [hi,Int.toNat_natCast] at hz
    have hzk : key x = z := by simpa using hzk
    subst hzk
    have hiK := (List.getElem?_eq_some_iff.1 hz).1
    rw [hany,cond_false,bPs,hi]
    simp only
    have hgi : (K.map (bt key (l.take k)))[i]? = some (bt key (l.take k) (key x)) := by rw [List.getElem?_map,hz]; rfl
    rw [jA hgi,bPs,bI (by decide) (by have := hgl (key x); simp; omega),bPs,bPs,bp,Int.toNat_natCast]
    congr 3
    ·simp [cT,hx]
    ·have hkk : cT key K [x] = K := by simp [cT,hx]
     rw [hkk]
     apply List.ext_getElem?
     intro j
     rw [List.getElem?_set,List.getElem?_map]
     by_cases hij : i = j
     ·subst hij
      rw [if_pos rfl,if_pos (by simpa using hiK),List.getElem?_map,hz,Option.map_some,hg,if_pos rfl]
     ·rw [if_neg hij,List.getElem?_map]
      cases hj : K[j]? with
      | none=>rfl
      | some w =>
       simp only [Option.map_some]
       have hne : key x ≠ w := fun he=>by
        subst he
        have hjK := (List.getElem?_eq_some_iff.1 hj).1
        rw [List.nodup_iff_pairwise_ne,List.pairwise_iff_getElem] at hnd
        have e1 := (List.getElem?_eq_some_iff.1 hz).2
        have e2 := (List.getElem?_eq_some_iff.1 hj).2
        rcases Nat.lt_or_gt_of_ne hij with h | h
        ·exact hnd i j hiK hjK h (by rw [e1,e2])
        ·exact hnd j i hjK hiK h (by rw [e1,e2])
       rw [hg,if_neg hne,List.append_nil]
   ·have hany : decide (aK (fun y=>decide (key x = y)) K < 0) = true := by
     have : decide (aK (fun y=>decide (key x = y)) K ≥ 0) = false := by
      rw [fM,List.any_eq_false]
      intro y hy he
      have : key x = y := by simpa using he
      exact hx (this ▸ hy)
     have := of_decide_eq_false this
     exact decide_eq_true (by omega)
    rw [hany,cond_true,bI (by decide) (by simp; omega),bPs,bI (by decide) (by simp; omega),bPs,bPs]
    simp only
    have hgi : (K.map (bt key (l.take k)) ++ [[]])[K.length]? = some [] := by
     rw [List.getElem?_append_right (by simp),List.length_map,Nat.sub_self]; rfl
    rw [jA hgi,bPs,bI (by decide) (by simp),bPs,bPs,bp,Int.toNat_natCast]
    have hkk : cT key K [x] = K ++ [key x] := by simp [cT,hx]
    rw [hkk]
    congr 3
    have hold : bt key (l.take k) (key x) = [] := by
     unfold bt
     rw [List.filter_eq_nil_iff]
     intro y hy he
     have : key y = key x := by simpa using he
     exact hx (this ▸ hmem y hy)
    rw [List.map_append,List.set_append_right _ _ (by simp),List.length_map,Nat.sub_self]
    congr 1
    ·apply List.map_congr_left
     intro w hw
     have hne : key x ≠ w := fun he=>hx (he ▸ hw)
     rw [hg,if_neg hne,List.append_nil]
    ·simp [hg,hold])]
 rw [List.take_length]
def iW (op : List UInt8) (s : Int × LVal) (v : LVal) : Int × LVal := (IntKind.i64.wrap (s.1 + v.int),if (op = sMin ∧ jq v s.2 = true) ∨ (op = sMax ∧ jq s.2 v = true) then v else s.2)
def mO (op : List UInt8) (l : List LVal) : LVal :=
 if op = eT then bU l.length else match l with
  | []=>.nul
  | v :: _=>if op = sSum then bU (l.foldl (iW op) (0,v)).1 else (l.foldl (iW op) (0,v)).2
theorem compute_eq (op : List UInt8) (l : List LVal) : er op l = some (mO op l) := by
 unfold er mO
 by_cases h1 : op = eT
 ·subst h1; rfl
 ·have e1 : (op == ([99,111,117,110,116] : List UInt8)) = false := by simpa using h1
  rw [e1,cond_false,if_neg h1]
  cases l with
  | nil=>rfl
  | cons v l =>
   have e2 : (((v :: l).length : Int) == 0) = false := ct (by simp; omega)
   rw [e2,cond_false]
   have e3 : aC (v :: l) 0 = some v := rfl
   rw [e3,bPs]
   rw [kE (xs := v :: l) (iW op) (fun k x _=>by
    generalize (((v :: l).take k).foldl (iW op) (0,v)) = s
    unfold iW
    by_cases m : op = sMin
    ·subst m
     simp only [bp]
     cases jq x s.2 <;> simp
    ·have em : (op == ([109,105,110] : List UInt8)) = false := by simpa using m
     rw [em,cond_false]
     by_cases n : op = sMax
     ·subst n
      simp only [bp]
      cases jq s.2 x <;> simp
     ·have en : (op == ([109,97,120] : List UInt8)) = false := by simpa using n
      rw [en,cond_false]
      simp [m,n]),bPs,bF]
   by_cases h2 : op = sSum
   ·subst h2; rfl
   ·have e4 : (op == ([115,117,109] : List UInt8)) = false := by simpa using h2
    rw [e4,cond_false]
    simp only
    rw [if_neg h2]
def aggR (r : LRun) (cols : List LCol) (a : LAggregateCall) (l : Rows) : LVal := match a.args with
 | []=>bU l.length
 | e :: _=>mO a.function ((l.map fun x=>bT (aS r cols x) e).filter fun v=>v.kind != 0)
theorem aggR_eq (r : LRun) (cols : List LCol) (a : LAggregateCall) (l : Rows) (hl : l.length ≤ 1000000) : hD r a cols l = some (aggR r cols a l) := by
 unfold hD aggR
 cases ha : a.args with
 | nil=>rfl
 | cons e es =>
  have e2 : (((e :: es).length : Int) == 0) = false := ct (by simp; omega)
  rw [e2,cond_false]
  rw [rMa (xs := l) (s := []) (fun k=>((l.take k).map fun x=>bT (aS r cols x) e).filter fun v=>v.kind != 0) rfl (fun k x hk=>by
   have hkl := (List.getElem?_eq_some_iff.1 hk).1
   have e3 : aC (e :: es) 0 = some e := rfl
   rw [e3]
   simp only [bPs,bp]
   have hb : (((l.take k).map fun x=>bT (aS r cols x) e).filter fun v=>v.kind != 0).length ≤ k := Nat.le_trans (List.length_filter_le _ _) (by simp; omega)
   rw [List.take_add_one,hk,List.map_append,List.filter_append]
   cases hv : (bT (aS r cols x) e).kind != 0 with
   | true =>
    rw [cond_true,bI (by decide) (by simp at hb ⊢; omega),bPs]
    simp [hv]
   | false=>simp [hv]),bPs,bF,List.take_length,compute_eq]
  rfl
def jS (r : LRun) (cols : List LCol) (q : LQuery) (l : Rows) : Rows :=
 (cT (fun x=>q.exprs.map fun e=>bT (aS r cols x) e) (if q.exprs = [] then [[]] else []) l).map fun k =>
  k ++ q.aggregates.map fun a=>aggR r cols a (bt (fun x=>q.exprs.map fun e=>bT (aS r cols x) e) l k)
theorem group_eq (r : LRun) (cols : List LCol) (q : LQuery) (l : Rows) (hl : l.length ≤ 999999) (he : q.exprs.length ≤ 1000000) (ha : q.aggregates.length ≤ 1000000) : fY r q cols l = some (jS r cols q l) := by
 unfold fY jS
 generalize hkey : (fun x=>q.exprs.map fun e=>bT (aS r cols x) e) = key
 have hk : ∀ x,cD r cols x q.exprs = some (key x) := fun x=>by rw [ng r cols x q.exprs (by omega),← hkey]
 have hinit : (cond ((q.exprs.length : Int) == (0 : Int)) (([[]],[[]])) (([],[])) : Rows × List Rows) = ((if q.exprs = [] then [[]] else []),((if q.exprs = [] then [[]] else []) : Rows).map fun _=>[]) := by
  cases q.exprs with
  | nil=>rfl
  | cons e es=>rw [show (((e :: es).length : Int) == 0) = false from ct (by simp; omega)]; rfl
 rw [bp,hinit]
 generalize hks : (if q.exprs = [] then [[]] else [] : Rows) = ks0
 have hks1 : ks0.length ≤ 1 := by rw [← hks]; split <;> simp
 have hks2 : ks0.Nodup := by rw [← hks]; split <;> simp
 rw [group_run key q r cols hk ks0 hks2 l (by omega) hks1,bPs,bF]
 generalize hK : cT key ks0 l = K
 have hKl : K.length ≤ 1000000 := by rw [← hK]; have := ma key l ks0; omega
 simp only
 rw [dg (by rw [List.length_map]; omega),bPs,nQ (by omega),bPs,Int.toNat_natCast]
 have hgl : ∀ kk,(bt key l kk).length ≤ 1000000 := fun kk=>by
  unfold bt
  exact Nat.le_trans (List.length_filter_le _ _) (by omega)
 have hkl : ∀ k ∈ K,k.length ≤ 1000000 := fun k hkm=>by
  rw [← hK] at hkm
  rcases (jC key l ks0 k).1 hkm with h | ⟨x,_,rfl⟩
  ·rw [← hks] at h
   split at h
   ·simp at h; subst h; simp
   ·simp at h
  ·rw [← hkey]; simpa using he
 rw [rMa (xs := List.range K.length) (s := []) (fun j=>(K.take j).map fun k=>k ++ q.aggregates.map fun a=>aggR r cols a (bt key l k)) rfl (fun j n hj=>by
  obtain ⟨hjl,hjn⟩ := List.getElem?_eq_some_iff.1 hj
  simp at hjl
  rw [fG hjl,bPs]
  have hg : (K.map (bt key l))[j]? = some (bt key l K[j]) := by rw [List.getElem?_map,List.getElem?_eq_getElem hjl]; rfl
  rw [rMa (xs := q.aggregates) (s := K[j]) (fun i=>K[j] ++ (q.aggregates.take i).map fun a=>aggR r cols a (bt key l K[j])) (by simp) (fun i a hi=>by
   have hil := (List.getElem?_eq_some_iff.1 hi).1
   have hkj := hkl K[j] (List.getElem_mem hjl)
   rw [jA hg,bPs,aggR_eq r cols a _ (hgl _),bPs,bI (by decide) (by simp; omega),bPs,List.take_add_one,hi]
   simp),bPs,bF,bI (by decide) (by simp; omega),bPs,List.take_length]
  congr 2
  rw [List.take_add_one,List.getElem?_eq_getElem hjl,List.map_append]
  rfl),bPs,bF]
 simp
end
end Go.Proofs.YtgaggbdcedpapaaGreat

namespace Go.Proofs.YtgaggbdcedpapaaGreat
noncomputable section
open Go Go.Ab
def iL (x : LVal) : LVal := if dA x = true then x else .nul
theorem typed_args {cols vars : List LCol} {e : LExpr} (h : (cw cols vars e).2.2 = 0) : e.kind = 5 ∧ (∀ a ∈ e.args,(cw cols vars a).2.2 = 0) ∨ e.kind ≠ 5 ∧ e.args = [] := by
 rw [mY] at h
 by_cases c0 : e.kind ≠ 5 ∧ 0 < e.args.length
 ·rw [if_pos c0] at h; simp [eM] at h
 rw [if_neg c0] at h
 by_cases c5 : e.kind = 5
 ·refine .inl ⟨c5,fun a ha=>?_⟩
  simp only [c5] at h
  have h' : (gL e.name e.index e.value (e.args.map (cw cols vars))).2.2 = 0 := by simpa using h
  unfold gL at h'
  split at h'
  ·simp [eM] at h'
  ·split at h'
   ·rename_i r hf
    have := List.find?_some hf
    simp [eM] at h'
    simp [h'] at this
   ·rename_i hf
    have := List.find?_eq_none.1 hf (cw cols vars a) (List.mem_map.2 ⟨a,ha,rfl⟩)
    simpa using this
 ·refine .inr ⟨c5,?_⟩
  rw [← List.length_eq_zero_iff]
  omega
theorem eval_clean {cols vars : List LCol} {v : LEnv} : ∀ e : LExpr,(cw cols vars e).2.2 = 0 → (∀ i k,(i,k) ∈ bR e → ∀ x,v.params[i]? = some x → dA x = true) → bT v e = bT { v with params := v.params.map iL } e := by
 refine LExpr.ind fun e ih h hp=>?_
 have hsub : ∀ a ∈ e.args,∀ i k,(i,k) ∈ bR a → (i,k) ∈ bR e := fun a ha i k hm=>by
  rw [jH]
  exact List.mem_append_right _ (List.mem_flatten.2 ⟨_,List.mem_map.2 ⟨a,ha,rfl⟩,hm⟩)
 rw [mT,mT { v with params := v.params.map iL }]
 by_cases k1 : (e.kind == 1) = true
 ·simp [k1]
 by_cases k2 : (e.kind == 2) = true
 ·simp [k1,k2]
 by_cases k3 : (e.kind == 3) = true
 ·rw [if_neg k1,if_neg k2,if_pos k3,if_neg k1,if_neg k2,if_pos k3]
  have hk3 : e.kind = 3 := by simpa using k3
  have hta := typed_args h
  have hr : ¬ (e.index < 0 ∨ e.index ≥ 8) := by
   intro hbad
   rw [mY,if_neg (by intro hc; rcases hta with ⟨a,_⟩ | ⟨_,b⟩; exact hc.1 a; rw [b] at hc; simp at hc),if_neg k1,if_pos k3,if_pos (by rcases hbad with hb | hb; exact .inl hb; exact .inr (.inl hb))] at h
   simp [eM] at h
  have hm : (e.index.toNat,e.value.kind) ∈ bR e := by
   rw [jH]
   refine List.mem_append_left _ ?_
   unfold gk
   rw [if_pos ⟨hk3,by omega,by omega⟩]
   simp
  have hget : ∀ i : Nat,i < v.params.length → i = e.index.toNat → (v.params.map iL).getD i .nul = v.params.getD i .nul := fun i hi he=>by
   rw [List.getD_eq_getElem?_getD,List.getD_eq_getElem?_getD,List.getElem?_map,List.getElem?_eq_getElem hi]
   simp only [Option.map_some,Option.getD_some]
   unfold iL
   rw [if_pos (hp _ _ hm v.params[i] (by rw [← he]; exact List.getElem?_eq_getElem hi))]
  by_cases hlt : e.index.toNat < v.params.length
  ·show _ = if 0 ≤ e.index ∧ e.index < ((v.params.map iL).length : Nat) ∧ ((v.params.map iL).getD e.index.toNat .nul).kind = e.value.kind then (v.params.map iL).getD e.index.toNat .nul else .nul
   rw [hget _ hlt rfl,List.length_map]
  ·have : ¬ (0 ≤ e.index ∧ e.index < (v.params.length : Int)) := by omega
   show _ = if 0 ≤ e.index ∧ e.index < ((v.params.map iL).length : Nat) ∧ ((v.params.map iL).getD e.index.toNat .nul).kind = e.value.kind then (v.params.map iL).getD e.index.toNat .nul else .nul
   rw [List.length_map,if_neg (fun hc=>this ⟨hc.1,hc.2.1⟩),if_neg (fun hc=>this ⟨hc.1,hc.2.1⟩)]
 by_cases k4 : (e.kind == 4) = true
 ·simp [k1,k2,k3,k4]
 by_cases k5 : (e.kind == 5) = true
 ·rw [if_neg k1,if_neg k2,if_neg k3,if_neg k4,if_pos k5,if_neg k1,if_neg k2,if_neg k3,if_neg k4,if_pos k5]
  rcases typed_args h with ⟨_,ha⟩ | ⟨hn,_⟩
  ·congr 1
   apply List.map_congr_left
   intro a hm
   exact ih a hm (ha a hm) fun i k hik=>hp i k (hsub a hm i k hik)
  ·exact absurd (by simpa using k5) hn
 ·simp [k1,k2,k3,k4,k5]
structure RunOk (r : LRun) : Prop where
 vars : r.vars = []
 names : r.names = []
 vals : r.vals = []
 inst : InstOk r.s r.st
def kw (r : LRun) (l : List (Nat × Int)) : Prop := ∀ i k,(i,k) ∈ l → ∀ x,r.args[i]? = some x → dA x = true
theorem nP {r : LRun} (hr : RunOk r) {cols : List LCol} {row : List LVal} (hrow : dC cols row) {e : LExpr} (ht : (ci cols r.vars e).2.2 = 0) (hp : kw r (bR e)) :
  dZ (bT (aS r cols row) e) (ci cols r.vars e).1 (ci cols r.vars e).2.1 := by
 have hk : (cw cols r.vars e).2.2 = 0 := by
  unfold ci at ht
  split at ht
  ·simp [eM] at ht
  ·exact ht
 rw [eval_clean (cols := cols) (vars := r.vars) e hk (fun i k hm x hx=>hp i k hm x hx)]
 refine type_sound (cols := cols) (vars := r.vars) ⟨rfl,hrow.1,hrow.2,?_,?_,?_,?_⟩ e ht
 ·intro x hx
  obtain ⟨y,_,rfl⟩ := List.mem_map.1 hx
  unfold iL
  split
  ·assumption
  ·rfl
 ·show r.names = _; rw [hr.names,hr.vars]; rfl
 ·show r.vals.length = _; rw [hr.vals,hr.vars]; rfl
 ·intro i c x hc; rw [hr.vars] at hc; simp at hc
theorem lR {c : LChecker} {q : LQuery} (h : (dM c q).2 = 0) : jl q = true ∧ (∀ x ∈ q.inputs,(dM c x).2 = 0) ∧ (fV c q (q.inputs.map fun x=>(dM c x).1)).2 = 0 ∧ (dM c q).1 = (fV c q (q.inputs.map fun x=>(dM c x).1)).1 ∧ ((dM c q).1.map LCol.name).Nodup := by
 rw [nc] at h ⊢
 unfold lO at h ⊢
 by_cases h1 : jl q = false
 ·simp [h1] at h
 rw [if_neg h1] at h ⊢
 by_cases h2 : (cK (q.inputs.map (dM c))).2 = 0
 ·obtain ⟨a,b⟩ := mX h2
  have e : (q.inputs.map (dM c)).map (·.1) = q.inputs.map fun x=>(dM c x).1 := by rw [List.map_map]; rfl
  rw [e] at b
  rw [b] at h ⊢
  rw [if_neg (by simpa using h2)] at h ⊢
  by_cases h3 : (fV c q (q.inputs.map fun x=>(dM c x).1)).2 = 0
  ·rw [if_neg (by simpa using h3)] at h ⊢
   by_cases h4 : 20 < (fV c q (q.inputs.map fun x=>(dM c x).1)).1.length
   ·rw [if_pos h4] at h; simp at h
   ·rw [if_neg h4] at h ⊢
    by_cases h5 : ((fV c q (q.inputs.map fun x=>(dM c x).1)).1.map LCol.name).Nodup
    ·rw [if_pos h5] at h ⊢
     exact ⟨by simpa using h1,fun x hx=>a _ (List.mem_map.2 ⟨x,hx,rfl⟩),h3,rfl,h5⟩
    ·rw [if_neg h5] at h; simp at h
  ·rw [if_pos h3] at h; exact absurd h h3
 ·rw [if_pos h2] at h; exact absurd h h2
theorem kr (vars cols : List LCol) : ∀ (es : List LExpr) (ns : List (List UInt8)),es.length = ns.length → (bL vars cols es ns).2 = 0 →
  (bL vars cols es ns).1.length = es.length ∧ ∀ (i : Nat) (e : LExpr),es[i]? = some e → (ci cols vars e).2.2 = 0 ∧ ∃ c,(bL vars cols es ns).1[i]? = some c ∧ c.kind = (ci cols vars e).1 ∧ c.nullable = (ci cols vars e).2.1
 | [],ns,_,_=>by simp [bL]
 | e :: es,[],h,_=>by simp at h
 | e :: es,n :: ns,hl,h=>by
  simp only [bL] at h ⊢
  by_cases h1 : cy n = false
  ·simp [h1] at h
  rw [if_neg h1] at h ⊢
  by_cases h2 : (ci cols vars e).2.2 = 0
  ·rw [if_neg (by simpa using h2)] at h ⊢
   by_cases h3 : (ci cols vars e).1 = 0
   ·rw [if_pos h3] at h; simp at h
   ·rw [if_neg h3] at h ⊢
    by_cases h4 : (bL vars cols es ns).2 = 0
    ·rw [if_neg (by simpa using h4)]
     obtain ⟨a,b⟩ := kr vars cols es ns (by simpa using hl) h4
     refine ⟨by simp [a],fun i e' hi=>?_⟩
     cases i with
     | zero=>simp at hi; subst hi; exact ⟨h2,_,rfl,rfl,rfl⟩
     | succ i=>simpa using b i e' (by simpa using hi)
    ·rw [if_pos h4] at h; exact absurd h h4
  ·rw [if_pos h2] at h; exact absurd h h2
theorem nq (vars cols : List LCol) : ∀ l : List LAggregateCall,(cQ vars cols l).2 = 0 →
  (cQ vars cols l).1.length = l.length ∧ ∀ (i : Nat) (a : LAggregateCall),l[i]? = some a → (kU vars cols a).2 = 0 ∧ ∃ c,(cQ vars cols l).1[i]? = some c ∧ c.kind = (kU vars cols a).1 ∧ c.nullable = !(a.function == eT)
 | [],_=>by simp [cQ]
 | a :: l,h=>by
  simp only [cQ] at h ⊢
  by_cases h1 : (kU vars cols a).2 = 0
  ·rw [if_neg (by simpa using h1)] at h ⊢
   by_cases h2 : (cQ vars cols l).2 = 0
   ·rw [if_neg (by simpa using h2)]
    obtain ⟨x,y⟩ := nq vars cols l h2
    refine ⟨by simp [x],fun i b hi=>?_⟩
    cases i with
    | zero=>simp at hi; subst hi; exact ⟨h1,_,rfl,rfl,rfl⟩
    | succ i=>simpa using y i b (by simpa using hi)
   ·rw [if_pos h2] at h; exact absurd h h2
  ·rw [if_pos h1] at h; exact absurd h h1
theorem dC.append {a b : List LCol} {x y : List LVal} (h : dC a x) (h' : dC b y) : dC (a ++ b) (x ++ y) := by
 refine ⟨by simp [h.1,h'.1],fun i c v hc hv=>?_⟩
 by_cases hi : i < a.length
 ·rw [List.getElem?_append_left hi] at hc
  rw [List.getElem?_append_left (by rw [h.1]; exact hi)] at hv
  exact h.2 i c v hc hv
 ·rw [List.getElem?_append_right (by omega)] at hc
  rw [List.getElem?_append_right (by rw [h.1]; omega),h.1] at hv
  exact h'.2 _ c v hc hv
theorem dC.map {cols : List LCol} {es : List LExpr} {f : LExpr → LVal} (hl : cols.length = es.length) (h : ∀ (i : Nat) (e : LExpr) (c : LCol),es[i]? = some e → cols[i]? = some c → dZ (f e) c.kind c.nullable) : dC cols (es.map f) := by
 refine ⟨by simp [hl],fun i c x hc hx=>?_⟩
 rw [List.getElem?_map,Option.map_eq_some_iff] at hx
 obtain ⟨e,he,rfl⟩ := hx
 exact h i e c he hc
theorem dZ.weak {x : LVal} {k : Int} {nl nl' : Bool} (h : dZ x k nl) (hn : nl = true → nl' = true) : dZ x k nl' := ⟨h.1,h.2.1,fun h0=>hn (h.2.2 h0)⟩
theorem int_fits (n : Int) : dZ (bU n) 1 true := by
 unfold bU
 by_cases h1 : n < -1000000000000
 ·rw [decide_eq_true h1]; exact fF rfl
 ·rw [decide_eq_false h1]
  by_cases h2 : n > 1000000000000
  ·rw [decide_eq_true h2]; exact fF rfl
  ·rw [decide_eq_false h2]
   refine ⟨?_,.inl rfl,fun h=>by simp at h⟩
   unfold dA
   simp
   omega
theorem int_small {n : Int} (h0 : 0 ≤ n) (h1 : n ≤ 1000000000000) (nl : Bool) : dZ (bU n) 1 nl := by
 have h := int_fits n
 refine ⟨h.1,h.2.1,fun hk=>?_⟩
 unfold bU at hk
 rw [decide_eq_false (show ¬ n < -1000000000000 from by omega),decide_eq_false (show ¬ n > 1000000000000 from by omega)] at hk
 simp at hk
theorem oP (op : List UInt8) : ∀ (l : List LVal) (s : Int × LVal),(l.foldl (iW op) s).2 = s.2 ∨ (l.foldl (iW op) s).2 ∈ l
 | [],s=>.inl rfl
 | v :: l,s=>by
  rw [List.foldl_cons]
  rcases oP op l (iW op s v) with h | h
  ·rw [h]
   unfold iW
   simp only
   split
   ·exact .inr (by simp)
   ·exact .inl rfl
  ·exact .inr (by simp [h])
theorem agg_fits {r : LRun} (hr : RunOk r) {cols : List LCol} {a : LAggregateCall} {l : Rows} (ha : (kU r.vars cols a).2 = 0) (hl : ∀ row ∈ l,dC cols row) (hb : l.length ≤ 1000000) (hp : kw r ((a.args.map bR).flatten)) :
  dZ (aggR r cols a l) (kU r.vars cols a).1 (!(a.function == eT)) := by
 unfold kU at ha ⊢
 unfold aggR
 by_cases h1 : cy a.name = false ∨ ¬ a.function ∈ [eT,sSum,sMin,sMax] ∨ 1 < a.args.length ∨ (a.args.length < 1 ∧ a.function ≠ eT)
 ·rw [if_pos h1] at ha; simp at ha
 rw [if_neg h1] at ha ⊢
 have hfn : a.function ∈ [eT,sSum,sMin,sMax] := Decidable.byContradiction fun h=>h1 (.inr (.inl h))
 cases hargs : a.args with
 | nil=>exact int_small (by omega) (by omega) _
 | cons e es =>
  rw [hargs] at ha hp
  simp only at ha ⊢
  have hpe : kw r (bR e) := fun i k hm=>hp i k (by simp [hm])
  by_cases h2 : (ci cols r.vars e).2.2 = 0
  ·rw [if_neg (by simpa using h2)] at ha ⊢
   by_cases h3 : (ci cols r.vars e).1 = 0 ∨ (a.function = sSum ∧ (ci cols r.vars e).1 ≠ 1)
   ·rw [if_pos h3] at ha; simp at ha
   rw [if_neg h3]
   generalize hv : ((l.map fun x=>bT (aS r cols x) e).filter fun v=>v.kind != 0) = vals
   have hvl : vals.length ≤ 1000000 := by rw [← hv]; exact Nat.le_trans (List.length_filter_le _ _) (by simpa using hb)
   have hvf : ∀ v ∈ vals,dZ v (ci cols r.vars e).1 true := fun v hm=>by
    rw [← hv] at hm
    have := (List.mem_filter.1 hm).1
    obtain ⟨x,hx,rfl⟩ := List.mem_map.1 this
    exact (nP hr (hl x hx) h2 hpe).weak fun _=>rfl
   unfold mO
   by_cases h4 : a.function = eT
   ·rw [if_pos h4,if_pos h4]
    exact int_small (by omega) (by omega) _
   ·rw [if_neg h4,if_neg h4]
    have hc : (a.function == eT) = false := by simpa using h4
    rw [hc]
    cases vals with
    | nil=>exact fF rfl
    | cons v vs =>
     simp only
     by_cases h5 : a.function = sSum
     ·rw [if_pos h5]
      have : (ci cols r.vars e).1 = 1 := Decidable.byContradiction fun h=>h3 (.inr ⟨h5,h⟩)
      rw [this]
      exact int_fits _
     ·rw [if_neg h5]
      rcases oP a.function (v :: vs) (0,v) with h | h
      ·rw [h]; exact hvf v (by simp)
      ·exact hvf _ h
  ·rw [if_pos h2] at ha; exact absurd ha h2
theorem capI_eq {n : Int} (h : kn n ≤ 20000) : kn n = n := by
 unfold kn at h ⊢
 by_cases hc : 20001 < n
 ·rw [if_pos hc] at h; omega
 ·rw [if_neg hc]
theorem eB {q : LQuery} (h : (bf q).2 ≤ 20000) : (bf q).1 ≤ (bf q).2 ∧ ∀ x ∈ q.inputs,(bf x).2 ≤ 20000 := by
 have key : ∀ (l : List (Int × Int)) (j : Nat) (s : Int × Int),s.2 ≤ (dj q.kind j l s).2 ∧ ∀ x ∈ l,x.2 ≤ (dj q.kind j l s).2 := by
  intro l
  induction l with
  | nil=>intro j s; exact ⟨Int.le_refl _,by simp⟩
  | cons y l ih =>
   intro j s
   obtain ⟨h1,h2⟩ := ih (j + 1) (fX q.kind s j y)
   rw [dj]
   have h3 : s.2 ≤ (fX q.kind s j y).2 := gC _ _
   have h4 : y.2 ≤ (fX q.kind s j y).2 := kM _ _
   refine ⟨by omega,fun x hx=>?_⟩
   rcases List.mem_cons.1 hx with rfl | hx
   ·omega
   ·exact h2 x hx
 have hk := key (q.inputs.map bf) 0 (0,0)
 rw [jv] at h ⊢
 by_cases h1 : q.kind = 1
 ·rw [if_pos h1] at h ⊢
  refine ⟨kM _ _,fun x hx=>?_⟩
  have := hk.2 (bf x) (List.mem_map.2 ⟨x,hx,rfl⟩)
  have := gC (dj q.kind 0 (q.inputs.map bf) (0,0)).2 24
  simp only at h
  omega
 ·rw [if_neg h1] at h ⊢
  refine ⟨kM _ _,fun x hx=>?_⟩
  have := hk.2 (bf x) (List.mem_map.2 ⟨x,hx,rfl⟩)
  have := gC (dj q.kind 0 (q.inputs.map bf) (0,0)).2 (dj q.kind 0 (q.inputs.map bf) (0,0)).1
  simp only at h
  omega
theorem most_scan {q : LQuery} (h : q.kind = 1) : (bf q).1 = 24 := by rw [jv,if_pos h]
theorem ly {q x : LQuery} (h : (bf q).2 ≤ 20000) (hk : q.kind ≠ 1) (hi : q.inputs = [x]) : (bf q).1 = (bf x).1 := by
 have hm := eB h
 have hx := hm.2 x (by rw [hi]; simp)
 have hx1 := (eB hx).1
 rw [jv,if_neg hk,hi]
 show kn (bf x).1 = _
 unfold kn
 rw [if_neg (by omega)]
theorem kq {q x y : LQuery} (h : (bf q).2 ≤ 20000) (hk : q.kind ≠ 1) (hi : q.inputs = [x,y]) : (bf q).1 = (if q.kind = 6 then (bf x).1 + (bf y).1 else if q.kind = 4 ∨ q.kind = 5 then (bf x).1 * cC 1 (bf y).1 else (bf x).1) := by
 have hm := eB h
 have hx := hm.2 x (by rw [hi]; simp)
 have hx1 := (eB hx).1
 have h1 := hm.1
 have hc : kn (bf x).1 = (bf x).1 := by unfold kn; rw [if_neg (by omega)]
 have e : (bf q).1 = kn (if q.kind = 6 then (bf x).1 + (bf y).1 else if q.kind = 4 ∨ q.kind = 5 then (bf x).1 * cC 1 (bf y).1 else (bf x).1) := by
  rw [jv,if_neg hk,hi]
  show (fX q.kind (fX q.kind (0,0) 0 (bf x)) 1 (bf y)).1 = _
  unfold fX
  simp [hc]
 rw [e]
 exact capI_eq (by rw [← e]; omega)
end
end Go.Proofs.YtgaggbdcedpapaaGreat

namespace Go.Proofs.YtgaggbdcedpapaaGreat
noncomputable section
open Go Go.Ab
def aT (r : LRun) (q : LQuery) : List LCol := (dM ⟨r.s,r.vars⟩ q).1
theorem iX {r : LRun} {q : LQuery} (h : SmallQ q) : eQ r q = some (aT r q) := by
 unfold eQ
 rw [cols_ok _ q h]
 rfl
def fy (r : LRun) (cols : List LCol) (q : LQuery) (x : List LVal) : Bool := jb (bT (aS r cols x) (e0Q q))
def my (q : LQuery) (l : Rows) : Rows := (l.take (q.offset.toNat + q.count.toNat)).drop q.offset.toNat
def cJ (r : LRun) (q : LQuery) (cs : List (List LCol)) (ins : List Rows) : Rows :=
 if q.kind = 1 then (match r.st.find? fun x=>x.table == q.table with | some x=>x.rows | none=>[])
 else if q.kind = 4 ∨ q.kind = 5 then iv (fy r (cs.getD 0 [] ++ cs.getD 1 []) q) (q.kind == 5) (List.replicate (cs.getD 1 []).length .nul) (ins.getD 0 []) (ins.getD 1 [])
 else if q.kind = 6 then ins.getD 0 [] ++ ins.getD 1 []
 else if q.kind = 7 then jr (ins.getD 0 []) (ins.getD 1 [])
 else if q.kind = 2 then (ins.getD 0 []).filter (fy r (cs.getD 0 []) q)
 else if q.kind = 3 then (ins.getD 0 []).map fun x=>q.exprs.map fun e=>bT (aS r (cs.getD 0 []) x) e
 else if q.kind = 8 then jS r (cs.getD 0 []) q (ins.getD 0 [])
 else if q.kind = 9 then (el r q (cs.getD 0 []) (ins.getD 0 [])).getD []
 else my q (ins.getD 0 [])
def aN (r : LRun) (q : LQuery) : Rows := cJ r q (q.inputs.map (aT r)) (q.inputs.attach.map fun x=>aN r x.1)
termination_by SizeOf.sizeOf q
decreasing_by exact LQuery.inputs_lt x.2
theorem cU (r : LRun) (q : LQuery) : aN r q = cJ r q (q.inputs.map (aT r)) (q.inputs.map (aN r)) := by
 rw [aN,List.attach_map_val (f := aN r)]
theorem find_st {s : LSchema} {st : List LRelation} (h : InstOk s st) (name : List UInt8) : ∀ t,s.tables.find? (fun t=>t.name == name) = some t → ∃ x,st.find? (fun x=>x.table == name) = some x ∧ x.rows.length ≤ 24 ∧ ∀ row ∈ x.rows,dC t.columns row := by
 obtain ⟨hl,ht⟩ := h
 intro t hf
 generalize s.tables = ts at *
 induction ts generalizing st with
 | nil=>simp at hf
 | cons a ts ih =>
  cases st with
  | nil=>simp at hl
  | cons r st =>
   obtain ⟨h1,h2,h3⟩ := ht 0 r a rfl rfl
   rw [List.find?_cons] at hf ⊢
   rw [h1]
   cases hn : a.name == name with
   | true =>
    rw [hn] at hf
    simp at hf
    subst hf
    exact ⟨r,rfl,h2,h3⟩
   | false =>
    rw [hn] at hf
    simp only at hf ⊢
    exact ih (by simpa using hl) (fun i r' t' a b=>ht (i + 1) r' t' (by simpa using a) (by simpa using b)) hf
structure RowsOk (r : LRun) (q : LQuery) : Prop where
 pos : 1 ≤ (bf q).1
 len : ((aN r q).length : Int) ≤ (bf q).1
 fits : ∀ row ∈ aN r q,dC (aT r q) row
structure QOk (r : LRun) (q : LQuery) : Prop where
 small : SmallQ q
 cols : (dM ⟨r.s,r.vars⟩ q).2 = 0
 most : (bf q).2 ≤ 20000
 params : kw r (ft q)
theorem params_sub {q x : LQuery} (h : x ∈ q.inputs) : ∀ p ∈ ft x,p ∈ ft q := by
 intro p hp
 obtain ⟨l,hl,hp⟩ := List.mem_flatten.1 hp
 obtain ⟨y,hy,rfl⟩ := List.mem_map.1 hl
 exact List.mem_flatten.2 ⟨_,List.mem_map.2 ⟨y,mem_nodes h hy,rfl⟩,hp⟩
theorem QOk.sub {r : LRun} {q x : LQuery} (h : QOk r q) (hx : x ∈ q.inputs) : QOk r x :=
 ⟨h.small.sub hx,(lR h.cols).2.1 x hx,(eB h.most).2 x hx,fun i k hm=>h.params i k (params_sub hx _ hm)⟩
theorem QOk.expr {r : LRun} {q : LQuery} (h : QOk r q) {e : LExpr} (he : e ∈ q.exprs) : kw r (bR e) := fun i k hm=>h.params i k (List.mem_flatten.2 ⟨go q,List.mem_map.2 ⟨q,mP q,rfl⟩,List.mem_append_left _ (List.mem_flatten.2 ⟨_,List.mem_map.2 ⟨e,he,rfl⟩,hm⟩)⟩)
theorem QOk.agg {r : LRun} {q : LQuery} (h : QOk r q) {a : LAggregateCall} (ha : a ∈ q.aggregates) : kw r ((a.args.map bR).flatten) := fun i k hm=>h.params i k (List.mem_flatten.2 ⟨go q,List.mem_map.2 ⟨q,mP q,rfl⟩,List.mem_append_right _ (List.mem_flatten.2 ⟨_,List.mem_map.2 ⟨a,ha,rfl⟩,hm⟩)⟩)
theorem joinR_mem {f : List LVal → Bool} {left : Bool} {pad row : List LVal} {a b : Rows} (h : row ∈ iv f left pad a b) : ∃ x ∈ a,(∃ y ∈ b,row = x ++ y) ∨ (left = true ∧ row = x ++ pad) := by
 unfold iv at h
 obtain ⟨l,hl,hr⟩ := List.mem_flatten.1 h
 obtain ⟨x,hx,rfl⟩ := List.mem_map.1 hl
 refine ⟨x,hx,?_⟩
 unfold padR at hr
 split at hr
 ·rename_i hc; simp at hr; exact .inr ⟨hc.1,hr⟩
 ·unfold fD at hr
  obtain ⟨y,hy,rfl⟩ := List.mem_map.1 (List.mem_filter.1 hr).1
  exact .inl ⟨y,hy,rfl⟩
theorem two {q : LQuery} (h : q.inputs.length = 2) : ∃ x y,q.inputs = [x,y] := by
 match hq : q.inputs,h with
 | [x,y],_=>exact ⟨x,y,rfl⟩
theorem one {q : LQuery} (h : q.inputs.length = 1) : ∃ x,q.inputs = [x] := by
 match hq : q.inputs,h with
 | [x],_=>exact ⟨x,rfl⟩
theorem colsR_out {r : LRun} {q : LQuery} (h : QOk r q) : (fV ⟨r.s,r.vars⟩ q (q.inputs.map (aT r))).2 = 0 ∧ aT r q = (fV ⟨r.s,r.vars⟩ q (q.inputs.map (aT r))).1 := by
 obtain ⟨_,_,h3,h4,_⟩ := lR h.cols
 exact ⟨h3,h4⟩
theorem set_fits {kind : Int} {a b : List LCol} {row : List LVal} (h : (iA kind a b).2 = 0) (hr : dC a row ∨ (kind = 6 ∧ dC b row)) : dC (iA kind a b).1 row := by
 unfold iA at h ⊢
 by_cases hc : a.length = b.length ∧ a.map LCol.kind = b.map LCol.kind
 ·rw [if_pos hc]
  refine ⟨?_,fun i c x hci hx=>?_⟩
  ·rcases hr with hr | ⟨_,hr⟩
   ·simp [hr.1,hc.1]
   ·simp [hr.1,hc.1]
  ·rw [List.getElem?_zipWith] at hci
   cases ha : a[i]? with
   | none=>rw [ha] at hci; simp at hci
   | some u =>
    cases hb : b[i]? with
    | none=>rw [ha,hb] at hci; simp at hci
    | some v =>
     rw [ha,hb] at hci
     simp only [Option.some.injEq] at hci
     subst hci
     have hk : u.kind = v.kind := by
      have := congrArg (fun l=>l[i]?) hc.2
      simpa [ha,hb] using this
     rcases hr with hr | ⟨h6,hr⟩
     ·exact (hr.2 i u x ha hx).weak fun hn=>by simp [hn]
     ·have := hr.2 i v x hb hx
      rw [← hk] at this
      exact this.weak fun hn=>by simp [hn,h6]
 ·rw [if_neg hc] at h; simp at h
theorem join_fits {a b : List LCol} {left : Bool} {x y : List LVal} (hx : dC a x) (hy : dC b y) : dC (gB a b left) (x ++ y) := by
 unfold gB
 refine hx.append ⟨by simp [hy.1],fun i c v hc hv=>?_⟩
 rw [List.getElem?_map,Option.map_eq_some_iff] at hc
 obtain ⟨d,hd,rfl⟩ := hc
 exact (hy.2 i d v hd hv).weak fun hn=>by simp [hn]
theorem pad_fits {a b : List LCol} {x : List LVal} (hx : dC a x) : dC (gB a b true) (x ++ List.replicate b.length .nul) := by
 unfold gB
 refine hx.append ⟨by simp,fun i c v hc hv=>?_⟩
 rw [List.getElem?_map,Option.map_eq_some_iff] at hc
 obtain ⟨d,hd,rfl⟩ := hc
 rw [List.getElem?_replicate] at hv
 split at hv
 ·cases hv; exact fF (by simp)
 ·cases hv
theorem rows_fit {r : LRun} (hr : RunOk r) : ∀ q : LQuery,QOk r q → RowsOk r q := by
 refine LQuery.ind fun q ih h=>?_
 have hs := shape_ok (lR h.cols).1
 obtain ⟨ho,hcol⟩ := colsR_out h
 have hself := h.small.self
 have hm := (eB h.most).1
 have kk : q.kind = 1 ∨ q.kind = 2 ∨ q.kind = 3 ∨ q.kind = 4 ∨ q.kind = 5 ∨ q.kind = 6 ∨ q.kind = 7 ∨ q.kind = 8 ∨ q.kind = 9 ∨ q.kind = 10 := by have := hs.kind; omega
 have hall : ∀ x ∈ q.inputs,RowsOk r x := fun x hx=>ih x hx (h.sub hx)
 rcases kk with k | k | k | k | k | k | k | k | k | k
 ·-- scan
  have hmq := most_scan k
  unfold fV at ho hcol
  rw [if_pos k] at ho hcol
  cases hf : r.s.tables.find? (fun t=>t.name == q.table) with
  | none=>rw [hf] at ho; simp at ho
  | some t =>
   rw [hf] at hcol
   obtain ⟨x,hx,hl,hfit⟩ := find_st hr.inst q.table t hf
   have e : aN r q = x.rows := by rw [cU]; unfold cJ; rw [if_pos k,hx]
   exact ⟨by omega,by rw [e]; omega,by rw [e,hcol]; exact hfit⟩
 all_goals have har := hs.arity
 all_goals rw [k] at har
 all_goals simp only [lW] at har
 ·-- filter
  obtain ⟨x,hi⟩ := one (q := q) (by simpa using har)
  have hx := hall x (by rw [hi]; simp)
  have hmq := ly h.most (by omega) hi
  rw [hi] at hcol ho
  unfold fV at ho hcol
  rw [if_neg (by omega),if_pos k] at ho hcol
  have e : aN r q = (aN r x).filter (fy r (aT r x) q) := by rw [cU,hi]; unfold cJ; rw [if_neg (by omega),if_neg (by omega),if_neg (by omega),if_neg (by omega),if_pos k]; rfl
  have hcx : aT r q = aT r x := hcol
  have := List.length_filter_le (fy r (aT r x) q) (aN r x)
  refine ⟨by rw [hmq]; exact hx.pos,by rw [hmq,e]; have := hx.len; omega,fun row hrow=>?_⟩
  rw [e] at hrow
  rw [hcx]
  exact hx.fits row (List.mem_filter.1 hrow).1
 ·-- project
  obtain ⟨x,hi⟩ := one (q := q) (by simpa using har)
  have hx := hall x (by rw [hi]; simp)
  have hmq := ly h.most (by omega) hi
  rw [hi] at hcol ho
  unfold fV at ho hcol
  rw [if_neg (by omega),if_neg (by omega),if_neg (by omega),if_neg (by omega),if_pos (.inl k)] at ho hcol
  have e : aN r q = (aN r x).map fun y=>q.exprs.map fun e=>bT (aS r (aT r x) y) e := by rw [cU,hi]; unfold cJ; rw [if_neg (by omega),if_neg (by omega),if_neg (by omega),if_neg (by omega),if_neg (by omega),if_pos k]; rfl
  have hag : q.aggregates = [] := hs.aggs (by omega)
  change (jV r.vars (aT r x) q).2 = 0 at ho
  change aT r q = (jV r.vars (aT r x) q).1 at hcol
  unfold jV at ho hcol
  by_cases hn : (bL r.vars (aT r x) q.exprs q.names).2 = 0
  ·rw [if_neg (by simpa using hn),hag] at hcol
   simp only [cQ,ne_eq,not_true_eq_false,if_false,List.append_nil] at hcol
   obtain ⟨hl,hinv⟩ := kr r.vars (aT r x) q.exprs q.names (hs.named (.inl k)) hn
   refine ⟨by rw [hmq]; exact hx.pos,by rw [hmq,e]; simpa using hx.len,fun row hrow=>?_⟩
   rw [e] at hrow
   obtain ⟨y,hy,rfl⟩ := List.mem_map.1 hrow
   rw [hcol]
   refine dC.map hl fun i e' c he hc=>?_
   obtain ⟨ht,d,hd,hk,hnl⟩ := hinv i e' he
   rw [hc] at hd
   cases hd
   rw [hk,hnl]
   exact nP hr (hx.fits y hy) ht (h.expr (eU he))
  ·rw [if_pos hn] at ho; exact absurd ho hn
 ·-- inner join
  obtain ⟨x,y,hi⟩ := two (q := q) (by simpa using har)
  have hx := hall x (by rw [hi]; simp)
  have hy := hall y (by rw [hi]; simp)
  have hmq := kq h.most (by omega) hi
  rw [if_neg (by omega),if_pos (.inl k)] at hmq
  rw [hi] at hcol ho
  unfold fV at ho hcol
  rw [if_neg (by omega),if_neg (by omega),if_pos (.inl k)] at ho hcol
  have e : aN r q = iv (fy r (aT r x ++ aT r y) q) (q.kind == 5) (List.replicate (aT r y).length .nul) (aN r x) (aN r y) := by rw [cU,hi]; unfold cJ; rw [if_neg (by omega),if_pos (.inl k)]; rfl
  have hcx : aT r q = gB (aT r x) (aT r y) (q.kind == 5) := hcol
  have hb := nL (fy r (aT r x ++ aT r y) q) (q.kind == 5) (List.replicate (aT r y).length .nul) (aN r x) (aN r y)
  have hxl := hx.len
  have hyl := hy.len
  have hpos := hx.pos
  have h1m : 1 ≤ cC 1 (bf y).1 ∧ ((max 1 (aN r y).length : Nat) : Int) ≤ cC 1 (bf y).1 := ⟨gC _ _,by have := gC 1 (bf y).1; have := kM 1 (bf y).1; omega⟩
  refine ⟨?_,?_,fun row hrow=>?_⟩
  ·rw [hmq]
   exact Int.le_trans hpos (by have := Int.mul_le_mul_of_nonneg_left h1m.1 (show 0 ≤ (bf x).1 by omega); omega)
  ·rw [e,hmq]
   have h2 : (((aN r x).length * max 1 (aN r y).length : Nat) : Int) ≤ (bf x).1 * cC 1 (bf y).1 := by
    rw [Int.natCast_mul]
    exact Int.mul_le_mul hxl h1m.2 (by omega) (by omega)
   omega
  ·rw [e] at hrow
   rw [hcx]
   obtain ⟨u,hu,⟨v,hv,rfl⟩ | ⟨hl,rfl⟩⟩ := joinR_mem hrow
   ·exact join_fits (hx.fits u hu) (hy.fits v hv)
   ·rw [hl]; exact pad_fits (hx.fits u hu)
 ·-- left join
  obtain ⟨x,y,hi⟩ := two (q := q) (by simpa using har)
  have hx := hall x (by rw [hi]; simp)
  have hy := hall y (by rw [hi]; simp)
  have hmq := kq h.most (by omega) hi
  rw [if_neg (by omega),if_pos (.inr k)] at hmq
  rw [hi] at hcol ho
  unfold fV at ho hcol
  rw [if_neg (by omega),if_neg (by omega),if_pos (.inr k)] at ho hcol
  have e : aN r q = iv (fy r (aT r x ++ aT r y) q) (q.kind == 5) (List.replicate (aT r y).length .nul) (aN r x) (aN r y) := by rw [cU,hi]; unfold cJ; rw [if_neg (by omega),if_pos (.inr k)]; rfl
  have hcx : aT r q = gB (aT r x) (aT r y) (q.kind == 5) := hcol
  have hb := nL (fy r (aT r x ++ aT r y) q) (q.kind == 5) (List.replicate (aT r y).length .nul) (aN r x) (aN r y)
  have hxl := hx.len
  have hyl := hy.len
  have hpos := hx.pos
  have h1m : 1 ≤ cC 1 (bf y).1 ∧ ((max 1 (aN r y).length : Nat) : Int) ≤ cC 1 (bf y).1 := ⟨gC _ _,by have := gC 1 (bf y).1; have := kM 1 (bf y).1; omega⟩
  refine ⟨?_,?_,fun row hrow=>?_⟩
  ·rw [hmq]
   exact Int.le_trans hpos (by have := Int.mul_le_mul_of_nonneg_left h1m.1 (show 0 ≤ (bf x).1 by omega); omega)
  ·rw [e,hmq]
   have h2 : (((aN r x).length * max 1 (aN r y).length : Nat) : Int) ≤ (bf x).1 * cC 1 (bf y).1 := by
    rw [Int.natCast_mul]
    exact Int.mul_le_mul hxl h1m.2 (by omega) (by omega)
   omega
  ·rw [e] at hrow
   rw [hcx]
   obtain ⟨u,hu,⟨v,hv,rfl⟩ | ⟨hl,rfl⟩⟩ := joinR_mem hrow
   ·exact join_fits (hx.fits u hu) (hy.fits v hv)
   ·rw [hl]; exact pad_fits (hx.fits u hu)
 ·-- union
  obtain ⟨x,y,hi⟩ := two (q := q) (by simpa using har)
  have hx := hall x (by rw [hi]; simp)
  have hy := hall y (by rw [hi]; simp)
  have hmq := kq h.most (by omega) hi
  rw [if_pos k] at hmq
  rw [hi] at hcol ho
  unfold fV at ho hcol
  rw [if_neg (by omega),if_neg (by omega),if_neg (by omega),if_pos (.inl k)] at ho hcol
  have e : aN r q = aN r x ++ aN r y := by rw [cU,hi]; unfold cJ; rw [if_neg (by omega),if_neg (by omega),if_pos k]; rfl
  change (iA q.kind (aT r x) (aT r y)).2 = 0 at ho
  change aT r q = (iA q.kind (aT r x) (aT r y)).1 at hcol
  have := hx.len
  have := hy.len
  have := hx.pos
  have := hy.pos
  refine ⟨by omega,by rw [e,hmq]; simp; omega,fun row hrow=>?_⟩
  rw [e] at hrow
  rw [hcol]
  rcases List.mem_append.1 hrow with hrow | hrow
  ·exact set_fits ho (.inl (hx.fits row hrow))
  ·exact set_fits ho (.inr ⟨k,hy.fits row hrow⟩)
 ·-- difference
  obtain ⟨x,y,hi⟩ := two (q := q) (by simpa using har)
  have hx := hall x (by rw [hi]; simp)
  have hmq := kq h.most (by omega) hi
  rw [if_neg (by omega),if_neg (by omega)] at hmq
  rw [hi] at hcol ho
  unfold fV at ho hcol
  rw [if_neg (by omega),if_neg (by omega),if_neg (by omega),if_pos (.inr k)] at ho hcol
  have e : aN r q = jr (aN r x) (aN r y) := by rw [cU,hi]; unfold cJ; rw [if_neg (by omega),if_neg (by omega),if_neg (by omega),if_pos k]; rfl
  change (iA q.kind (aT r x) (aT r y)).2 = 0 at ho
  change aT r q = (iA q.kind (aT r x) (aT r y)).1 at hcol
  have hsub := nO (aN r x) (aN r y)
  have := hsub.length_le
  have := hx.len
  have := hx.pos
  refine ⟨by omega,by rw [e,hmq]; omega,fun row hrow=>?_⟩
  rw [e] at hrow
  rw [hcol]
  exact set_fits ho (.inl (hx.fits row (hsub.subset hrow)))
 ·-- aggregation
  obtain ⟨x,hi⟩ := one (q := q) (by simpa using har)
  have hx := hall x (by rw [hi]; simp)
  have hmq := ly h.most (by omega) hi
  rw [hi] at hcol ho
  unfold fV at ho hcol
  rw [if_neg (by omega),if_neg (by omega),if_neg (by omega),if_neg (by omega),if_pos (.inr k)] at ho hcol
  have e : aN r q = jS r (aT r x) q (aN r x) := by rw [cU,hi]; unfold cJ; rw [if_neg (by omega),if_neg (by omega),if_neg (by omega),if_neg (by omega),if_neg (by omega),if_neg (by omega),if_pos k]; rfl
  change (jV r.vars (aT r x) q).2 = 0 at ho
  change aT r q = (jV r.vars (aT r x) q).1 at hcol
  have hxl := hx.len
  have hxp := hx.pos
  have hxm := (eB h.most).2 x (by rw [hi]; simp)
  have hxm1 := (eB hxm).1
  unfold jV at ho hcol
  by_cases hn : (bL r.vars (aT r x) q.exprs q.names).2 = 0
  ·rw [if_neg (by simpa using hn)] at hcol ho
   by_cases hg : (cQ r.vars (aT r x) q.aggregates).2 = 0
   ·rw [if_neg (by simpa using hg)] at hcol
    obtain ⟨hl,hinv⟩ := kr r.vars (aT r x) q.exprs q.names (hs.named (.inr k)) hn
    obtain ⟨hl2,hinv2⟩ := nq r.vars (aT r x) q.aggregates hg
    have hkeys := ma (fun x_1=>q.exprs.map fun e=>bT (aS r (aT r x) x_1) e) (aN r x) (if q.exprs = [] then [[]] else [])
    have hlen : ((jS r (aT r x) q (aN r x)).length : Int) ≤ (bf x).1 := by
     unfold jS
     rw [List.length_map]
     by_cases hee : q.exprs = []
     ·-- without keys there is one group
      have : ∀ (l ks : Rows),ks = [[]] → cT (fun x_1=>q.exprs.map fun e=>bT (aS r (aT r x) x_1) e) ks l = [[]] := by
       intro l
       induction l with
       | nil=>intro ks hk; simpa [cT] using hk
       | cons z l ih2 =>
        intro ks hk
        rw [cT]
        refine ih2 _ ?_
        rw [if_pos (by rw [hk,hee]; simp),hk]
      rw [this _ _ (by rw [if_pos hee])]
      simp
      omega
     ·rw [if_neg hee] at hkeys ⊢
      simp at hkeys
      omega
    refine ⟨by rw [hmq]; exact hxp,by rw [hmq,e]; exact hlen,fun row hrow=>?_⟩
    rw [e] at hrow
    rw [hcol]
    unfold jS at hrow
    obtain ⟨kk,hkk,rfl⟩ := List.mem_map.1 hrow
    refine dC.append ?_ ?_
    ·rcases (jC _ _ _ _).1 hkk with hk0 | ⟨y,hy,rfl⟩
     ·split at hk0
      ·rename_i hee
       simp at hk0
       subst hk0
       rw [hee] at hl ⊢
       exact ⟨by simpa using hl.symm,fun i c v hc hv=>by simp at hv⟩
      ·simp at hk0
     ·refine dC.map hl fun i e' c he hc=>?_
      obtain ⟨ht,d,hd,hk,hnl⟩ := hinv i e' he
      rw [hc] at hd
      cases hd
      rw [hk,hnl]
      exact nP hr (hx.fits y hy) ht (h.expr (eU he))
    ·refine ⟨by simp [hl2],fun i c v hc hv=>?_⟩
     rw [List.getElem?_map,Option.map_eq_some_iff] at hv
     obtain ⟨a,ha,rfl⟩ := hv
     obtain ⟨hq,d,hd,hk,hnl⟩ := hinv2 i a ha
     rw [hc] at hd
     cases hd
     rw [hk,hnl]
     refine agg_fits hr hq (fun row hrow=>hx.fits row (List.mem_filter.1 hrow).1) ?_ (h.agg (eU ha))
     unfold bt
     exact Nat.le_trans (List.length_filter_le _ _) (by omega)
   ·rw [if_pos hg] at ho; exact absurd ho hg
  ·rw [if_pos hn] at ho; exact absurd ho hn
 ·-- sort
  obtain ⟨x,hi⟩ := one (q := q) (by simpa using har)
  have hx := hall x (by rw [hi]; simp)
  have hmq := ly h.most (by omega) hi
  rw [hi] at hcol ho
  unfold fV at ho hcol
  rw [if_neg (by omega),if_neg (by omega),if_neg (by omega),if_neg (by omega),if_neg (by omega),if_pos k] at ho hcol
  have hxm := (eB h.most).2 x (by rw [hi]; simp)
  have hxm1 := (eB hxm).1
  have hxl := hx.len
  obtain ⟨l',hsort,hperm⟩ := sort_ok r q (aT r x) (aN r x) (by omega) hself.1
  have e : aN r q = l' := by rw [cU,hi]; unfold cJ; rw [if_neg (by omega),if_neg (by omega),if_neg (by omega),if_neg (by omega),if_neg (by omega),if_neg (by omega),if_neg (by omega),if_pos k]; show (el r q (aT r x) (aN r x)).getD [] = l'; rw [hsort]; rfl
  have hcx : aT r q = aT r x := by
   by_cases hse : gN r.vars (aT r x) q.exprs = 0
   ·exact hcol.trans (by show (if gN r.vars (aT r x) q.exprs ≠ 0 then _ else _ : List LCol × Int).1 = _; rw [if_neg (by simpa using hse)]; rfl)
   ·exact absurd (by
     have : (if gN r.vars (aT r x) q.exprs ≠ 0 then (([],gN r.vars (aT r x) q.exprs) : List LCol × Int) else (aT r x,0)).2 = 0 := ho
     rw [if_pos hse] at this
     exact this) hse
  refine ⟨by rw [hmq]; exact hx.pos,by rw [hmq,e,hperm.length_eq]; exact hxl,fun row hrow=>?_⟩
  rw [e] at hrow
  rw [hcx]
  exact hx.fits row (hperm.mem_iff.1 hrow)
 ·-- limit
  obtain ⟨x,hi⟩ := one (q := q) (by simpa using har)
  have hx := hall x (by rw [hi]; simp)
  have hmq := ly h.most (by omega) hi
  rw [hi] at hcol ho
  unfold fV at ho hcol
  rw [if_neg (by omega),if_neg (by omega),if_neg (by omega),if_neg (by omega),if_neg (by omega),if_neg (by omega)] at ho hcol
  have hcx : aT r q = aT r x := hcol
  have e : aN r q = my q (aN r x) := by rw [cU,hi]; unfold cJ; rw [if_neg (by omega),if_neg (by omega),if_neg (by omega),if_neg (by omega),if_neg (by omega),if_neg (by omega),if_neg (by omega),if_neg (by omega)]; rfl
  have hsub : (my q (aN r x)).Sublist (aN r x) := (List.drop_sublist _ _).trans (List.take_sublist _ _)
  have := hsub.length_le
  have := hx.len
  refine ⟨by rw [hmq]; exact hx.pos,by rw [hmq,e]; omega,fun row hrow=>?_⟩
  rw [e] at hrow
  rw [hcx]
  exact hx.fits row (hsub.subset hrow)
end
end Go.Proofs.YtgaggbdcedpapaaGreat
