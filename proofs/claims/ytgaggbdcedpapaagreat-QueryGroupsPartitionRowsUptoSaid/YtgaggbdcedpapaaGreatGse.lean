/- queryGroupsPartitionRowsUpto_holds, part 5: the layer, the plain functions and what they compute; conditions as in the statement. -/
import Derived.Test.YtgaggbdcedpapaaGreatGsd
namespace Go.Proofs.YtgaggbdcedpapaaGreat
noncomputable section
open Go Go.Ab
attribute [local irreducible] V Ao Do Gh Eff PH IntKind.wrap
set_option maxRecDepth 4000
def iz (q : LQuery) : Option (Bool) :=
 af (
  cond (decide (q.kind < (1 : Int)))
   (some true)
   (cond (decide (q.kind > (10 : Int)))
    (some true)
    (af (aC ([(-1),0,1,1,2,2,2,2,1,1,1] : List Int) q.kind) fun (x21 : Int) =>
    some ((q.inputs.length : Int) != x21)))) fun (t1 : Bool) =>
 cond t1
  (some false)
  (af (
   af (cA ([1] : List Int) q) fun x29 =>
   cond (!x29)
    (some (!(q.table == ([] : List UInt8))))
    (some false)) fun (t2 : Bool) =>
  af (
   cond t2
    (some t2)
    (af (
     af (cA ([3,8] : List Int) q) fun x38 =>
     cond (!x38)
      (some (decide ((q.names.length : Int) > (0 : Int))))
      (some false)) fun (t7 : Bool) =>
    cond t7
     (some t7)
     (af (
      af (cA ([8] : List Int) q) fun x48 =>
      cond (!x48)
       (some (decide ((q.aggregates.length : Int) > (0 : Int))))
       (some false)) fun (t8 : Bool) =>
     cond t8
      (some t8)
      (af (
       af (cA ([9] : List Int) q) fun x58 =>
       cond (!x58)
        (some (decide ((q.descending.length : Int) > (0 : Int))))
        (some false)) fun (t9 : Bool) =>
      cond t9
       (some t9)
       (af (cA ([10] : List Int) q) fun x68 =>
       cond (!x68)
        (cond (q.count != (0 : Int))
         (some true)
         (some (q.offset != (0 : Int))))
        (some false)))))) fun (t6 : Bool) =>
  cond t6
   (some false)
   (af (cA ([2,4,5] : List Int) q) fun x83 =>
   cond x83
    (some ((q.exprs.length : Int) == (1 : Int)))
    (af (cA ([3,8] : List Int) q) fun x91 =>
    cond x91
     (cond ((q.exprs.length : Int) == (q.names.length : Int))
      (some (decide ((IntKind.i64.wrap ((q.exprs.length : Int) + (q.aggregates.length : Int))) > (0 : Int))))
      (some false))
     (af (cA ([9] : List Int) q) fun x112 =>
     cond x112
      (cond ((q.exprs.length : Int) == (q.descending.length : Int))
       (some (decide ((q.exprs.length : Int) > (0 : Int))))
       (some false))
      (af (cA ([10] : List Int) q) fun x129 =>
      cond x129
       (cond ((q.exprs.length : Int) == (0 : Int))
        (cond (decide (q.count ≥ (0 : Int)))
         (some (decide (q.offset ≥ (0 : Int))))
         (some false))
        (some false))
       (some ((q.exprs.length : Int) == (0 : Int))))))))
set_option maxHeartbeats 4000000 in
theorem W_query_shape (q : LQuery) (r : Bool) (H : iz q = some r) :
  aG Tryz.prog 110 [(.agg (aQ q))] (au r) := by
 unfold iz at H
 refine PH.intro Tryz.func110 rfl Tryz.ntmps110 rfl ?_
 refine V.seq (V.ab (Ao.aF rfl rfl rfl rfl rfl rfl (Ao.q tk rfl (Ao.nil (V.seq (V.ab (Ao.bsC (e := 3) (rows := [[(ac (-1))],[(ac 0)],[(ac 1)],[(ac 1)],[(ac 2)],[(ac 2)],[(ac 2)],[(ac 2)],[(ac 1)],[(ac 1)],[(ac 1)]]) tk rfl rfl rfl rfl (rows' := List.map aV ([(-1),0,1,1,2,2,2,2,1,1,1] : List Int)) (by kernel_rfl) (fj.refl _) rfl rfl (Ao.q tk rfl (Ao.nil (V.seq (V.seq ?_)))))))))))
 obtain ⟨fl1,H1,Hp1⟩ := aj H
 refine V.cut (τ := Bool) (γ := Unit) (fun t1 g1=>⟨148,upd (upd (fun _=>.any) 24 (au t1)) 1 (.ptr [(ac q.kind),(.str q.table),(.list 9 (q.names.map bo)),(.list 56 (q.exprs.map aI)),(.list 66 (q.aggregates.map bl)),(.list 4 (q.descending.map bB)),(ac q.count),(ac q.offset),(.list 35 (q.inputs.map aD))]),fun _=>none,fun _=>none⟩) (fun t=>t = fl1) ?_ (fun t1 g1 hn1=>?_)
 ·have H := H1
  refine V.bc tk mok ⟨false,false,[]⟩ [0,1,2,3,4,5,6,7,8,9,10,11,12,13,14,15,16,17,18] rfl (by decide +kernel) rfl (Do.q rfl (Do.q rfl (Do.q rfl (Do.q rfl ?_))))
  refine Do.fh rfl rfl rfl rfl (fun h=>?_) (fun h=>?_)
  ·have H := condT h H
   refine Do.q rfl (Do.q rfl (Do.q rfl (Do.q rfl (Do.q rfl (Do.q rfl (Do.q rfl (Do.q rfl (Do.q rfl (Do.q rfl (Do.q rfl (Do.q rfl (Do.q rfl (Do.q rfl (Do.q rfl ?_))))))))))))))
   refine Do.nil ?_
   obtain rfl := ai H
   refine V.at true () rfl (Gh.le (SLe.aa (PLe.q rfl) (SLe.aa (PLe.q rfl) SLe.nil)) BLe.nil OLe.nil)
  ·have H := condF h H
   refine Do.q rfl (Do.q rfl (Do.q rfl (Do.q rfl (Do.q rfl ?_))))
   refine Do.fh rfl rfl rfl rfl (fun h=>?_) (fun h=>?_)
   ·have H := condT h H
    refine Do.q rfl (Do.q rfl (Do.q rfl (Do.q rfl (Do.q rfl (Do.q rfl (Do.q rfl (Do.q rfl (Do.q rfl (Do.q rfl (Do.nil ?_))))))))))
    obtain rfl := ai H
    refine V.at true () rfl (Gh.le (SLe.aa (PLe.q rfl) (SLe.aa (PLe.q rfl) SLe.nil)) BLe.nil OLe.nil)
   ·have H := condF h H
    refine Do.q rfl (Do.q rfl (Do.lenL rfl rfl rfl rfl rfl rfl (List.length_map _) rfl (Do.q rfl (Do.q rfl (Do.q rfl ?_)))))
    obtain ⟨x21,h21,H⟩ := aj H
    have k21 := gIs h21
    refine Do.idx rfl rfl rfl rfl rfl rfl rfl k21.1 (aH (fun _=>rfl) k21.2) rfl ?_
    refine Do.q rfl (Do.q rfl (Do.q rfl (Do.nil ?_)))
    obtain rfl := ai H
    refine V.at ((q.inputs.length : Int) != x21) () rfl (Gh.le (SLe.aa (PLe.q rfl) (SLe.aa (PLe.q rfl) SLe.nil)) BLe.nil OLe.nil)
 ·subst hn1
  have H := Hp1
  refine V.ak rfl (fun h=>?_) (fun h=>?_)
  ·have H := condT h H
   refine V.seq (V.ab (Ao.q tk rfl (Ao.nil ?_)))
   obtain rfl := ai H
   refine V.aq tk rfl (ps := [(au false)]) ⟨_,_,rfl,rfl,rfl⟩ (PLe.q rfl)
  ·have H := condF h H
   refine V.al (V.seq (V.ab (Ao.q tk rfl (Ao.q tk rfl (Ao.nil (V.seq (V.ap (V.seq (V.seq ?_)))))))))
   obtain ⟨fl2,H2,Hp2⟩ := aj H
   refine V.cut (τ := Bool) (γ := Unit) (fun t2 g2=>⟨148,upd (upd (upd (fun _=>.any) 26 (au t2)) 4 (.fn 151 [(.ptr [(ac q.kind),(.str q.table),(.list 9 (q.names.map bo)),(.list 56 (q.exprs.map aI)),(.list 66 (q.aggregates.map bl)),(.list 4 (q.descending.map bB)),(ac q.count),(ac q.offset),(.list 35 (q.inputs.map aD))])])) 1 (.ptr [(ac q.kind),(.str q.table),(.list 9 (q.names.map bo)),(.list 56 (q.exprs.map aI)),(.list 66 (q.aggregates.map bl)),(.list 4 (q.descending.map bB)),(ac q.count),(ac q.offset),(.list 35 (q.inputs.map aD))]),fun _=>none,fun _=>none⟩) (fun t=>t = fl2) ?_ (fun t2 g2 hn2=>?_)
   ·have H := H2
    refine V.ab (Ao.q tk rfl (Ao.bsC tk rfl rfl rfl rfl (rows' := List.map aV ([1] : List Int)) rfl (fj.refl _) rfl rfl ?_))
    obtain ⟨x29,h29,H⟩ := aj H
    have s29 := dW ([1] : List Int) q _ h29
    refine Ao.ah (g := 151) rfl rfl rfl Tryz.call151 (il.r) s29 rfl (Ao.q tk rfl (Ao.q tk rfl ?_))
    refine Ao.aA rfl rfl rfl (fun h=>?_) (fun h=>?_)
    ·have H := condT h H
     refine Ao.q tk rfl (Ao.q tk rfl (Ao.q tk rfl (Ao.q tk rfl (Ao.q tk rfl (Ao.nil ?_)))))
     obtain rfl := ai H
     refine V.at (!(q.table == ([] : List UInt8))) () rfl (Gh.le (SLe.aa (PLe.q rfl) (SLe.aa (PLe.q rfl) (SLe.aa (PLe.q rfl) SLe.nil))) BLe.nil OLe.nil)
    ·have H := condF h H
     refine Ao.q tk rfl (Ao.q tk rfl (Ao.q tk rfl (Ao.q tk rfl (Ao.q tk rfl (Ao.nil ?_)))))
     obtain rfl := ai H
     refine V.at false () rfl (Gh.le (SLe.aa (PLe.q rfl) (SLe.aa (PLe.q rfl) (SLe.aa (PLe.q rfl) SLe.nil))) BLe.nil OLe.nil)
   ·subst hn2
    have H := Hp2
    obtain ⟨fl6,H6,Hp6⟩ := aj H
    refine V.cut (τ := Bool) (γ := Unit) (fun t6 g6=>⟨148,upd (upd (upd (fun _=>.any) 26 (au t6)) 4 (.fn 151 [(.ptr [(ac q.kind),(.str q.table),(.list 9 (q.names.map bo)),(.list 56 (q.exprs.map aI)),(.list 66 (q.aggregates.map bl)),(.list 4 (q.descending.map bB)),(ac q.count),(ac q.offset),(.list 35 (q.inputs.map aD))])])) 1 (.ptr [(ac q.kind),(.str q.table),(.list 9 (q.names.map bo)),(.list 56 (q.exprs.map aI)),(.list 66 (q.aggregates.map bl)),(.list 4 (q.descending.map bB)),(ac q.count),(ac q.offset),(.list 35 (q.inputs.map aD))]),fun _=>none,fun _=>none⟩) (fun t=>t = fl6) ?_ (fun t6 g6 hn6=>?_)
    ·have H := H6
     refine V.ak rfl (fun h=>?_) (fun h=>?_)
     ·have H := condT h H
      refine V.al ?_
      obtain rfl := ai H
      refine V.at t2 () rfl (Gh.le (SLe.aa (PLe.q rfl) (SLe.aa (PLe.q rfl) (SLe.aa (PLe.q rfl) SLe.nil))) BLe.nil OLe.nil)
     ·have H := condF h H
      refine V.seq ?_
      obtain ⟨fl7,H7,Hp7⟩ := aj H
      refine V.cut (τ := Bool) (γ := Unit) (fun t7 g7=>⟨148,upd (upd (upd (fun _=>.any) 26 (au t7)) 4 (.fn 151 [(.ptr [(ac q.kind),(.str q.table),(.list 9 (q.names.map bo)),(.list 56 (q.exprs.map aI)),(.list 66 (q.aggregates.map bl)),(.list 4 (q.descending.map bB)),(ac q.count),(ac q.offset),(.list 35 (q.inputs.map aD))])])) 1 (.ptr [(ac q.kind),(.str q.table),(.list 9 (q.names.map bo)),(.list 56 (q.exprs.map aI)),(.list 66 (q.aggregates.map bl)),(.list 4 (q.descending.map bB)),(ac q.count),(ac q.offset),(.list 35 (q.inputs.map aD))]),fun _=>none,fun _=>none⟩) (fun t=>t = fl7) ?_ (fun t7 g7 hn7=>?_)
      ·have H := H7
       refine V.ab (Ao.q tk rfl (Ao.bsC tk rfl rfl rfl rfl (rows' := List.map aV ([3,8] : List Int)) rfl (fj.refl _) rfl rfl ?_))
       obtain ⟨x38,h38,H⟩ := aj H
       have s38 := dW ([3,8] : List Int) q _ h38
       refine Ao.ah (g := 151) rfl rfl rfl Tryz.call151 (il.r) s38 rfl (Ao.q tk rfl (Ao.q tk rfl ?_))
       refine Ao.aA rfl rfl rfl (fun h=>?_) (fun h=>?_)
       ·have H := condT h H
        refine Ao.q tk rfl (Ao.q tk rfl (Ao.ay tk rfl rfl rfl rfl rfl (List.length_map _) rfl (Ao.q tk rfl (Ao.q tk rfl (Ao.q tk rfl (Ao.nil ?_))))))
        obtain rfl := ai H
        refine V.at (decide ((q.names.length : Int) > (0 : Int))) () rfl (Gh.le (SLe.aa (PLe.q rfl) (SLe.aa (PLe.q rfl) (SLe.aa (PLe.q rfl) SLe.nil))) BLe.nil OLe.nil)
       ·have H := condF h H
        refine Ao.q tk rfl (Ao.q tk rfl (Ao.q tk rfl (Ao.q tk rfl (Ao.q tk rfl (Ao.q tk rfl (Ao.nil ?_))))))
        obtain rfl := ai H
        refine V.at false () rfl (Gh.le (SLe.aa (PLe.q rfl) (SLe.aa (PLe.q rfl) (SLe.aa (PLe.q rfl) SLe.nil))) BLe.nil OLe.nil)
      ·subst hn7
       have H := Hp7
       refine V.ak rfl (fun h=>?_) (fun h=>?_)
       ·have H := condT h H
        refine V.al ?_
        obtain rfl := ai H
        refine V.at t7 () rfl (Gh.le (SLe.aa (PLe.q rfl) (SLe.aa (PLe.q rfl) (SLe.aa (PLe.q rfl) SLe.nil))) BLe.nil OLe.nil)
       ·have H := condF h H
        refine V.seq ?_
        obtain ⟨fl8,H8,Hp8⟩ := aj H
        refine V.cut (τ := Bool) (γ := Unit) (fun t8 g8=>⟨148,upd (upd (upd (fun _=>.any) 26 (au t8)) 4 (.fn 151 [(.ptr [(ac q.kind),(.str q.table),(.list 9 (q.names.map bo)),(.list 56 (q.exprs.map aI)),(.list 66 (q.aggregates.map bl)),(.list 4 (q.descending.map bB)),(ac q.count),(ac q.offset),(.list 35 (q.inputs.map aD))])])) 1 (.ptr [(ac q.kind),(.str q.table),(.list 9 (q.names.map bo)),(.list 56 (q.exprs.map aI)),(.list 66 (q.aggregates.map bl)),(.list 4 (q.descending.map bB)),(ac q.count),(ac q.offset),(.list 35 (q.inputs.map aD))]),fun _=>none,fun _=>none⟩) (fun t=>t = fl8) ?_ (fun t8 g8 hn8=>?_)
        ·have H := H8
         refine V.ab (Ao.q tk rfl (Ao.bsC tk rfl rfl rfl rfl (rows' := List.map aV ([8] : List Int)) rfl (fj.refl _) rfl rfl ?_))
         obtain ⟨x48,h48,H⟩ := aj H
         have s48 := dW ([8] : List Int) q _ h48
         refine Ao.ah (g := 151) rfl rfl rfl Tryz.call151 (il.r) s48 rfl (Ao.q tk rfl (Ao.q tk rfl ?_))
         refine Ao.aA rfl rfl rfl (fun h=>?_) (fun h=>?_)
         ·have H := condT h H
          refine Ao.q tk rfl (Ao.q tk rfl (Ao.ay tk rfl rfl rfl rfl rfl (List.length_map _) rfl (Ao.q tk rfl (Ao.q tk rfl (Ao.q tk rfl (Ao.nil ?_))))))
          obtain rfl := ai H
          refine V.at (decide ((q.aggregates.length : Int) > (0 : Int))) () rfl (Gh.le (SLe.aa (PLe.q rfl) (SLe.aa (PLe.q rfl) (SLe.aa (PLe.q rfl) SLe.nil))) BLe.nil OLe.nil)
         ·have H := condF h H
          refine Ao.q tk rfl (Ao.q tk rfl (Ao.q tk rfl (Ao.q tk rfl (Ao.q tk rfl (Ao.q tk rfl (Ao.nil ?_))))))
          obtain rfl := ai H
          refine V.at false () rfl (Gh.le (SLe.aa (PLe.q rfl) (SLe.aa (PLe.q rfl) (SLe.aa (PLe.q rfl) SLe.nil))) BLe.nil OLe.nil)
        ·subst hn8
         have H := Hp8
         refine V.ak rfl (fun h=>?_) (fun h=>?_)
         ·have H := condT h H
          refine V.al ?_
          obtain rfl := ai H
          refine V.at t8 () rfl (Gh.le (SLe.aa (PLe.q rfl) (SLe.aa (PLe.q rfl) (SLe.aa (PLe.q rfl) SLe.nil))) BLe.nil OLe.nil)
         ·have H := condF h H
          refine V.seq ?_
          obtain ⟨fl9,H9,Hp9⟩ := aj H
          refine V.cut (τ := Bool) (γ := Unit) (fun t9 g9=>⟨148,upd (upd (upd (fun _=>.any) 26 (au t9)) 4 (.fn 151 [(.ptr [(ac q.kind),(.str q.table),(.list 9 (q.names.map bo)),(.list 56 (q.exprs.map aI)),(.list 66 (q.aggregates.map bl)),(.list 4 (q.descending.map bB)),(ac q.count),(ac q.offset),(.list 35 (q.inputs.map aD))])])) 1 (.ptr [(ac q.kind),(.str q.table),(.list 9 (q.names.map bo)),(.list 56 (q.exprs.map aI)),(.list 66 (q.aggregates.map bl)),(.list 4 (q.descending.map bB)),(ac q.count),(ac q.offset),(.list 35 (q.inputs.map aD))]),fun _=>none,fun _=>none⟩) (fun t=>t = fl9) ?_ (fun t9 g9 hn9=>?_)
          ·have H := H9
           refine V.ab (Ao.q tk rfl (Ao.bsC tk rfl rfl rfl rfl (rows' := List.map aV ([9] : List Int)) rfl (fj.refl _) rfl rfl ?_))
           obtain ⟨x58,h58,H⟩ := aj H
           have s58 := dW ([9] : List Int) q _ h58
           refine Ao.ah (g := 151) rfl rfl rfl Tryz.call151 (il.r) s58 rfl (Ao.q tk rfl (Ao.q tk rfl ?_))
           refine Ao.aA rfl rfl rfl (fun h=>?_) (fun h=>?_)
           ·have H := condT h H
            refine Ao.q tk rfl (Ao.q tk rfl (Ao.ay tk rfl rfl rfl rfl rfl (List.length_map _) rfl (Ao.q tk rfl (Ao.q tk rfl (Ao.q tk rfl (Ao.nil ?_))))))
            obtain rfl := ai H
            refine V.at (decide ((q.descending.length : Int) > (0 : Int))) () rfl (Gh.le (SLe.aa (PLe.q rfl) (SLe.aa (PLe.q rfl) (SLe.aa (PLe.q rfl) SLe.nil))) BLe.nil OLe.nil)
           ·have H := condF h H
            refine Ao.q tk rfl (Ao.q tk rfl (Ao.q tk rfl (Ao.q tk rfl (Ao.q tk rfl (Ao.q tk rfl (Ao.nil ?_))))))
            obtain rfl := ai H
            refine V.at false () rfl (Gh.le (SLe.aa (PLe.q rfl) (SLe.aa (PLe.q rfl) (SLe.aa (PLe.q rfl) SLe.nil))) BLe.nil OLe.nil)
          ·subst hn9
           have H := Hp9
           refine V.ak rfl (fun h=>?_) (fun h=>?_)
           ·have H := condT h H
            refine V.al ?_
            obtain rfl := ai H
            refine V.at t9 () rfl (Gh.le (SLe.aa (PLe.q rfl) (SLe.aa (PLe.q rfl) (SLe.aa (PLe.q rfl) SLe.nil))) BLe.nil OLe.nil)
           ·have H := condF h H
            refine V.ab (Ao.q tk rfl (Ao.bsC tk rfl rfl rfl rfl (rows' := List.map aV ([10] : List Int)) rfl (fj.refl _) rfl rfl ?_))
            obtain ⟨x68,h68,H⟩ := aj H
            have s68 := dW ([10] : List Int) q _ h68
            refine Ao.ah (g := 151) rfl rfl rfl Tryz.call151 (il.r) s68 rfl (Ao.q tk rfl (Ao.q tk rfl ?_))
            refine Ao.aA rfl rfl rfl (fun h=>?_) (fun h=>?_)
            ·have H := condT h H
             refine Ao.q tk rfl (Ao.q tk rfl (Ao.q tk rfl (Ao.q tk rfl ?_)))
             refine Ao.aA rfl rfl rfl (fun h=>?_) (fun h=>?_)
             ·have H := condT h H
              refine Ao.q tk rfl (Ao.q tk rfl (Ao.q tk rfl (Ao.q tk rfl (Ao.q tk rfl (Ao.q tk rfl (Ao.nil ?_))))))
              obtain rfl := ai H
              refine V.at true () rfl (Gh.le (SLe.aa (PLe.q rfl) (SLe.aa (PLe.q rfl) (SLe.aa (PLe.q rfl) SLe.nil))) BLe.nil OLe.nil)
             ·have H := condF h H
              refine Ao.q tk rfl (Ao.q tk rfl (Ao.q tk rfl (Ao.q tk rfl (Ao.q tk rfl (Ao.q tk rfl (Ao.nil ?_))))))
              obtain rfl := ai H
              refine V.at (q.offset != (0 : Int)) () rfl (Gh.le (SLe.aa (PLe.q rfl) (SLe.aa (PLe.q rfl) (SLe.aa (PLe.q rfl) SLe.nil))) BLe.nil OLe.nil)
            ·have H := condF h H
             refine Ao.q tk rfl (Ao.q tk rfl (Ao.q tk rfl (Ao.q tk rfl (Ao.q tk rfl (Ao.q tk rfl (Ao.q tk rfl (Ao.q tk rfl (Ao.q tk rfl (Ao.q tk rfl (Ao.nil ?_))))))))))
             obtain rfl := ai H
             refine V.at false () rfl (Gh.le (SLe.aa (PLe.q rfl) (SLe.aa (PLe.q rfl) (SLe.aa (PLe.q rfl) SLe.nil))) BLe.nil OLe.nil)
    ·subst hn6
     have H := Hp6
     refine V.ak rfl (fun h=>?_) (fun h=>?_)
     ·have H := condT h H
      refine V.seq (V.ab (Ao.q tk rfl (Ao.nil ?_)))
      obtain rfl := ai H
      refine V.aq tk rfl (ps := [(au false)]) ⟨_,_,rfl,rfl,rfl⟩ (PLe.q rfl)
     ·have H := condF h H
      refine V.seq (V.ab (Ao.q tk rfl (Ao.bsC tk rfl rfl rfl rfl (rows' := List.map aV ([2,4,5] : List Int)) rfl (fj.refl _) rfl rfl ?_)))
      obtain ⟨x83,h83,H⟩ := aj H
      have s83 := dW ([2,4,5] : List Int) q _ h83
      refine Ao.ah (g := 151) rfl rfl rfl Tryz.call151 (il.r) s83 rfl (Ao.q tk rfl (Ao.nil ?_))
      refine V.ak rfl (fun h=>?_) (fun h=>?_)
      ·have H := condT h H
       refine V.seq (V.ab (Ao.q tk rfl (Ao.q tk rfl (Ao.ay tk rfl rfl rfl rfl rfl (List.length_map _) rfl (Ao.q tk rfl (Ao.q tk rfl (Ao.nil ?_)))))))
       obtain rfl := ai H
       refine V.aq tk rfl (ps := [(au ((q.exprs.length : Int) == (1 : Int)))]) ⟨_,_,rfl,rfl,rfl⟩ (PLe.q rfl)
      ·have H := condF h H
       refine V.seq (V.ab (Ao.q tk rfl (Ao.bsC tk rfl rfl rfl rfl (rows' := List.map aV ([3,8] : List Int)) rfl (fj.refl _) rfl rfl ?_)))
       obtain ⟨x91,h91,H⟩ := aj H
       have s91 := dW ([3,8] : List Int) q _ h91
       refine Ao.ah (g := 151) rfl rfl rfl Tryz.call151 (il.r) s91 rfl (Ao.q tk rfl (Ao.nil ?_))
       refine V.ak rfl (fun h=>?_) (fun h=>?_)
       ·have H := condT h H
        refine V.seq (V.ab (Ao.q tk rfl (Ao.q tk rfl (Ao.ay tk rfl rfl rfl rfl rfl (List.length_map _) rfl (Ao.q tk rfl (Ao.q tk rfl (Ao.ay tk rfl rfl rfl rfl rfl (List.length_map _) rfl (Ao.q tk rfl (Ao.q tk rfl ?_)))))))))
        refine Ao.aA rfl rfl rfl (fun h=>?_) (fun h=>?_)
        ·have H := condT h H
         refine Ao.q tk rfl (Ao.q tk rfl (Ao.ay tk rfl rfl rfl rfl rfl (List.length_map _) rfl (Ao.q tk rfl (Ao.q tk rfl (Ao.ay tk rfl rfl rfl rfl rfl (List.length_map _) rfl (Ao.q tk rfl (Ao.q tk rfl (Ao.q tk rfl (Ao.q tk rfl (Ao.nil ?_))))))))))
         obtain rfl := ai H
         refine V.aq tk rfl (ps := [(au (decide ((IntKind.i64.wrap ((q.exprs.length : Int) + (q.aggregates.length : Int))) > (0 : Int))))]) ⟨_,_,rfl,rfl,rfl⟩ (PLe.q rfl)
        ·have H := condF h H
         refine Ao.q tk rfl (Ao.q tk rfl (Ao.q tk rfl (Ao.q tk rfl (Ao.q tk rfl (Ao.q tk rfl (Ao.q tk rfl (Ao.q tk rfl (Ao.q tk rfl (Ao.q tk rfl (Ao.nil ?_))))))))))
         obtain rfl := ai H
         refine V.aq tk rfl (ps := [(au false)]) ⟨_,_,rfl,rfl,rfl⟩ (PLe.q rfl)
       ·have H := condF h H
        refine V.seq (V.ab (Ao.q tk rfl (Ao.bsC tk rfl rfl rfl rfl (rows' := List.map aV ([9] : List Int)) rfl (fj.refl _) rfl rfl ?_)))
        obtain ⟨x112,h112,H⟩ := aj H
        have s112 := dW ([9] : List Int) q _ h112
        refine Ao.ah (g := 151) rfl rfl rfl Tryz.call151 (il.r) s112 rfl (Ao.q tk rfl (Ao.nil ?_))
        refine V.ak rfl (fun h=>?_) (fun h=>?_)
        ·have H := condT h H
         refine V.seq (V.ab (Ao.q tk rfl (Ao.q tk rfl (Ao.ay tk rfl rfl rfl rfl rfl (List.length_map _) rfl (Ao.q tk rfl (Ao.q tk rfl (Ao.ay tk rfl rfl rfl rfl rfl (List.length_map _) rfl (Ao.q tk rfl (Ao.q tk rfl ?_)))))))))
         refine Ao.aA rfl rfl rfl (fun h=>?_) (fun h=>?_)
         ·have H := condT h H
          refine Ao.q tk rfl (Ao.q tk rfl (Ao.ay tk rfl rfl rfl rfl rfl (List.length_map _) rfl (Ao.q tk rfl (Ao.q tk rfl (Ao.q tk rfl (Ao.nil ?_))))))
          obtain rfl := ai H
          refine V.aq tk rfl (ps := [(au (decide ((q.exprs.length : Int) > (0 : Int))))]) ⟨_,_,rfl,rfl,rfl⟩ (PLe.q rfl)
         ·have H := condF h H
          refine Ao.q tk rfl (Ao.q tk rfl (Ao.q tk rfl (Ao.q tk rfl (Ao.q tk rfl (Ao.q tk rfl (Ao.nil ?_))))))
          obtain rfl := ai H
          refine V.aq tk rfl (ps := [(au false)]) ⟨_,_,rfl,rfl,rfl⟩ (PLe.q rfl)
        ·have H := condF h H
         refine V.seq (V.ab (Ao.q tk rfl (Ao.bsC tk rfl rfl rfl rfl (rows' := List.map aV ([10] : List Int)) rfl (fj.refl _) rfl rfl ?_)))
         obtain ⟨x129,h129,H⟩ := aj H
         have s129 := dW ([10] : List Int) q _ h129
         refine Ao.ah (g := 151) rfl rfl rfl Tryz.call151 (il.r) s129 rfl (Ao.q tk rfl (Ao.nil ?_))
         refine V.ak rfl (fun h=>?_) (fun h=>?_)
         ·have H := condT h H
          refine V.seq (V.ab (Ao.q tk rfl (Ao.q tk rfl (Ao.ay tk rfl rfl rfl rfl rfl (List.length_map _) rfl (Ao.q tk rfl (Ao.q tk rfl ?_))))))
          refine Ao.aA rfl rfl rfl (fun h=>?_) (fun h=>?_)
          ·have H := condT h H
           refine Ao.q tk rfl (Ao.q tk rfl (Ao.q tk rfl (Ao.q tk rfl (Ao.q tk rfl ?_))))
           refine Ao.aA rfl rfl rfl (fun h=>?_) (fun h=>?_)
           ·have H := condT h H
            refine Ao.q tk rfl (Ao.q tk rfl (Ao.q tk rfl (Ao.q tk rfl (Ao.q tk rfl (Ao.nil ?_)))))
            obtain rfl := ai H
            refine V.aq tk rfl (ps := [(au (decide (q.offset ≥ (0 : Int))))]) ⟨_,_,rfl,rfl,rfl⟩ (PLe.q rfl)
           ·have H := condF h H
            refine Ao.q tk rfl (Ao.q tk rfl (Ao.q tk rfl (Ao.q tk rfl (Ao.q tk rfl (Ao.nil ?_)))))
            obtain rfl := ai H
            refine V.aq tk rfl (ps := [(au false)]) ⟨_,_,rfl,rfl,rfl⟩ (PLe.q rfl)
          ·have H := condF h H
           refine Ao.q tk rfl (Ao.q tk rfl (Ao.q tk rfl (Ao.q tk rfl (Ao.q tk rfl (Ao.q tk rfl (Ao.q tk rfl (Ao.q tk rfl (Ao.q tk rfl (Ao.q tk rfl (Ao.nil ?_))))))))))
           obtain rfl := ai H
           refine V.aq tk rfl (ps := [(au false)]) ⟨_,_,rfl,rfl,rfl⟩ (PLe.q rfl)
         ·have H := condF h H
          refine V.al (V.blk (V.seq (V.ab (Ao.q tk rfl (Ao.q tk rfl (Ao.ay tk rfl rfl rfl rfl rfl (List.length_map _) rfl (Ao.q tk rfl (Ao.q tk rfl (Ao.nil ?_)))))))))
          obtain rfl := ai H
          refine V.aq tk rfl (ps := [(au ((q.exprs.length : Int) == (0 : Int)))]) ⟨_,_,rfl,rfl,rfl⟩ (PLe.q rfl)
def cE (c : LChecker) (l : List LCol) (e : LExpr) : Int :=
 ba (ci l c.vars e) fun x15 =>
 cond (x15.2.2 == (0 : Int))
  (cond (x15.1 != (2 : Int))
   (cond (x15.1 != (0 : Int))
    (7)
    (x15.2.2))
   (x15.2.2))
  (x15.2.2)
set_option maxHeartbeats 4000000 in
theorem iH (c : LChecker) (l : List LCol) (e : LExpr) :
  aG Tryz.prog 156 [(.agg (hJ c)),(.list 50 (l.map av)),(.agg (kp e))] (ac (cE c l e)) := by
 obtain ⟨r,H⟩ : ∃ r,cE c l e = r := ⟨_,rfl⟩
 rw [H]
 unfold cE at H
 refine PH.intro Tryz.func156 rfl Tryz.ntmps156 rfl ?_
 refine V.seq (V.ab (Ao.aF rfl rfl rfl rfl rfl rfl (Ao.aF rfl rfl rfl rfl rfl rfl (Ao.q tk rfl (Ao.nil (V.seq (V.ab (Ao.q tk rfl (Ao.q tk rfl (Ao.q tk rfl (Ao.q tk rfl ?_)))))))))))
 obtain ⟨x15,h15,H⟩ := bA H
 have s15 := ky l c.vars e
 rw [h15] at s15
 refine Ao.ah (g := 159) rfl rfl rfl Tryz.call159 (il.r) s15 rfl (Ao.q tk rfl (Ao.q tk rfl (Ao.q tk rfl (Ao.q tk rfl (Ao.q tk rfl (Ao.q tk rfl (Ao.q tk rfl (Ao.nil (V.seq (V.seq (V.ab (Ao.q tk rfl (Ao.q tk rfl (Ao.q tk rfl ?_))))))))))))))
 refine Ao.aA rfl rfl rfl (fun h=>?_) (fun h=>?_)
 ·have H := condT h H
  refine Ao.q tk rfl (Ao.q tk rfl (Ao.q tk rfl (Ao.q tk rfl ?_)))
  refine Ao.aA rfl rfl rfl (fun h=>?_) (fun h=>?_)
  ·have H := condT h H
   refine Ao.q tk rfl (Ao.q tk rfl (Ao.q tk rfl (Ao.nil ?_)))
   refine V.ak rfl (fun h=>?_) (fun h=>?_)
   ·have H := condT h H
    refine V.seq (V.ab (Ao.q tk rfl (Ao.nil ?_)))
    subst H
    refine V.aq tk rfl (ps := [(ac 7)]) ⟨_,_,rfl,rfl,rfl⟩ (PLe.q rfl)
   ·have H := condF h H
    refine V.al (V.seq (V.ab (Ao.q tk rfl (Ao.q tk rfl (Ao.nil ?_)))))
    subst H
    refine V.aq tk rfl (ps := [(ac x15.2.2)]) ⟨_,_,rfl,rfl,rfl⟩ (PLe.q rfl)
  ·have H := condF h H
   refine Ao.q tk rfl (Ao.q tk rfl (Ao.q tk rfl (Ao.nil (V.be rfl (V.al (V.seq (V.ab (Ao.q tk rfl (Ao.q tk rfl (Ao.nil ?_))))))))))
   subst H
   refine V.aq tk rfl (ps := [(ac x15.2.2)]) ⟨_,_,rfl,rfl,rfl⟩ (PLe.q rfl)
 ·have H := condF h H
  refine Ao.q tk rfl (Ao.q tk rfl (Ao.q tk rfl (Ao.q tk rfl (Ao.q tk rfl (Ao.q tk rfl (Ao.q tk rfl (Ao.nil (V.be rfl (V.al (V.seq (V.ab (Ao.q tk rfl (Ao.q tk rfl (Ao.nil ?_))))))))))))))
  subst H
  refine V.aq tk rfl (ps := [(ac x15.2.2)]) ⟨_,_,rfl,rfl,rfl⟩ (PLe.q rfl)
def eI (c : LChecker) (inA : List LCol) (a : LAggregateCall) : Option (Int × Int) :=
 af (
  ba (cy a.name) fun x13 =>
  cond (!x13)
   (some true)
   (af (cH ([[99,111,117,110,116],[115,117,109],[109,105,110],[109,97,120]] : List (List UInt8)) a.function) fun x19 =>
   cond (!x19)
    (some true)
    (cond (decide ((a.args.length : Int) > (1 : Int)))
     (some true)
     (cond (decide ((a.args.length : Int) < (1 : Int)))
      (some (!(a.function == ([99,111,117,110,116] : List UInt8))))
      (some false))))) fun (t1 : Bool) =>
 cond t1
  (some (0,3))
  (cond ((a.args.length : Int) == (0 : Int))
   (some (1,0))
   (af (aC a.args 0) fun (x49 : LExpr) =>
   ba (ci inA c.vars x49) fun x51 =>
   cond (x51.2.2 != (0 : Int))
    (some (0,x51.2.2))
    (ba (
     cond (x51.1 == (0 : Int))
      (true)
      (cond (a.function == ([115,117,109] : List UInt8))
       ((x51.1 != (1 : Int)))
       (false))) fun (t2 : Bool) =>
    cond t2
     (some (0,7))
     (cond (a.function == ([99,111,117,110,116] : List UInt8))
      (some (1,0))
      (some (x51.1,0))))))
set_option maxHeartbeats 4000000 in
theorem nA (c : LChecker) (inA : List LCol) (a : LAggregateCall) (r : Int × Int) (H : eI c inA a = some r) :
  aG Tryz.prog 181 [(.agg (hJ c)),(.list 50 (inA.map av)),(.agg (bl a))] (.tup [(ac r.1),(ac r.2)]) := by
 unfold eI at H
 refine PH.intro Tryz.func181 rfl Tryz.ntmps181 rfl ?_
 refine V.seq (V.ab (Ao.aF rfl rfl rfl rfl rfl rfl (Ao.aF rfl rfl rfl rfl rfl rfl (Ao.q tk rfl (Ao.q tk rfl (Ao.nil (V.seq (V.seq ?_))))))))
 obtain ⟨fl1,H1,Hp1⟩ := aj H
 refine V.cut (τ := Bool) (γ := Unit) (fun t1 g1=>⟨76,upd (upd (upd (upd (fun _=>.any) 38 (au t1)) 5 (.ptr [(.str a.name),(.str a.function),(.list 56 (a.args.map aI))])) 3 (.ptr [(.list 91 (c.s.tables.map aO)),(.list 142 (c.s.foreignKeys.map bC)),(.list 148 (c.s.constraints.map bH)),(.list 50 (c.vars.map av))])) 1 (.list 50 (inA.map av)),fun _=>none,fun _=>none⟩) (fun t=>t = fl1) ?_ (fun t1 g1 hn1=>?_)
 ·have H := H1
  refine V.ab (Ao.q tk rfl (Ao.q tk rfl ?_))
  obtain ⟨x13,h13,H⟩ := bA H
  have s13 := jK a.name
  rw [h13] at s13
  refine Ao.ah (g := 180) rfl rfl rfl Tryz.call180 (il.r) s13 rfl (Ao.q tk rfl (Ao.q tk rfl ?_))
  refine Ao.aA rfl rfl rfl (fun h=>?_) (fun h=>?_)
  ·have H := condT h H
   refine Ao.q tk rfl (Ao.q tk rfl (Ao.q tk rfl (Ao.q tk rfl (Ao.q tk rfl (Ao.q tk rfl (Ao.q tk rfl (Ao.q tk rfl (Ao.q tk rfl (Ao.q tk rfl (Ao.q tk rfl (Ao.q tk rfl (Ao.q tk rfl (Ao.q tk rfl (Ao.q tk rfl (Ao.q tk rfl (Ao.q tk rfl (Ao.q tk rfl (Ao.q tk rfl (Ao.q tk rfl (Ao.q tk rfl (Ao.q tk rfl (Ao.q tk rfl ?_))))))))))))))))))))))
   refine Ao.nil ?_
   obtain rfl := ai H
   refine V.at true () rfl (Gh.le (SLe.aa (PLe.q rfl) (SLe.aa (PLe.q rfl) (SLe.aa (PLe.q rfl) (SLe.aa (PLe.q rfl) SLe.nil)))) BLe.nil OLe.nil)
  ·have H := condF h H
   refine Ao.bsC tk rfl rfl rfl rfl (rows' := List.map bo ([[99,111,117,110,116],[115,117,109],[109,105,110],[109,97,120]] : List (List UInt8))) rfl (fj.refl _) rfl rfl (Ao.q tk rfl (Ao.q tk rfl ?_))
   obtain ⟨x19,h19,H⟩ := aj H
   have s19 := js ([[99,111,117,110,116],[115,117,109],[109,105,110],[109,97,120]] : List (List UInt8)) a.function _ h19
   refine Ao.ah (g := 48) rfl rfl rfl Tryz.call48 (il.r) s19 rfl (Ao.q tk rfl (Ao.q tk rfl (Ao.q tk rfl ?_)))
   refine Ao.aA rfl rfl rfl (fun h=>?_) (fun h=>?_)
   ·have H := condT h H
    refine Ao.q tk rfl (Ao.q tk rfl (Ao.q tk rfl (Ao.q tk rfl (Ao.q tk rfl (Ao.q tk rfl (Ao.q tk rfl (Ao.q tk rfl (Ao.q tk rfl (Ao.q tk rfl (Ao.q tk rfl (Ao.q tk rfl (Ao.q tk rfl (Ao.q tk rfl (Ao.q tk rfl (Ao.q tk rfl ?_)))))))))))))))
    refine Ao.nil ?_
    obtain rfl := ai H
    refine V.at true () rfl (Gh.le (SLe.aa (PLe.q rfl) (SLe.aa (PLe.q rfl) (SLe.aa (PLe.q rfl) (SLe.aa (PLe.q rfl) SLe.nil)))) BLe.nil OLe.nil)
   ·have H := condF h H
    refine Ao.q tk rfl (Ao.q tk rfl (Ao.ay tk rfl rfl rfl rfl rfl (List.length_map _) rfl (Ao.q tk rfl (Ao.q tk rfl (Ao.q tk rfl ?_)))))
    refine Ao.aA rfl rfl rfl (fun h=>?_) (fun h=>?_)
    ·have H := condT h H
     refine Ao.q tk rfl (Ao.q tk rfl (Ao.q tk rfl (Ao.q tk rfl (Ao.q tk rfl (Ao.q tk rfl (Ao.q tk rfl (Ao.q tk rfl (Ao.q tk rfl (Ao.q tk rfl (Ao.nil ?_))))))))))
     obtain rfl := ai H
     refine V.at true () rfl (Gh.le (SLe.aa (PLe.q rfl) (SLe.aa (PLe.q rfl) (SLe.aa (PLe.q rfl) (SLe.aa (PLe.q rfl) SLe.nil)))) BLe.nil OLe.nil)
    ·have H := condF h H
     refine Ao.q tk rfl (Ao.q tk rfl (Ao.ay tk rfl rfl rfl rfl rfl (List.length_map _) rfl (Ao.q tk rfl (Ao.q tk rfl ?_))))
     refine Ao.aA rfl rfl rfl (fun h=>?_) (fun h=>?_)
     ·have H := condT h H
      refine Ao.q tk rfl (Ao.q tk rfl (Ao.q tk rfl (Ao.q tk rfl (Ao.q tk rfl (Ao.nil ?_)))))
      obtain rfl := ai H
      refine V.at (!(a.function == ([99,111,117,110,116] : List UInt8))) () rfl (Gh.le (SLe.aa (PLe.q rfl) (SLe.aa (PLe.q rfl) (SLe.aa (PLe.q rfl) (SLe.aa (PLe.q rfl) SLe.nil)))) BLe.nil OLe.nil)
     ·have H := condF h H
      refine Ao.q tk rfl (Ao.q tk rfl (Ao.q tk rfl (Ao.q tk rfl (Ao.q tk rfl (Ao.nil ?_)))))
      obtain rfl := ai H
      refine V.at false () rfl (Gh.le (SLe.aa (PLe.q rfl) (SLe.aa (PLe.q rfl) (SLe.aa (PLe.q rfl) (SLe.aa (PLe.q rfl) SLe.nil)))) BLe.nil OLe.nil)
 ·subst hn1
  have H := Hp1
  refine V.ak rfl (fun h=>?_) (fun h=>?_)
  ·have H := condT h H
   refine V.seq (V.ab (Ao.q tk rfl (Ao.q tk rfl (Ao.nil ?_))))
   obtain rfl := ai H
   refine V.aq tk rfl (ps := [(ac 0),(ac 3)]) ⟨_,_,rfl,rfl,_,_,rfl,rfl,rfl⟩ (PLe.q rfl)
  ·have H := condF h H
   refine V.al (V.seq (V.seq (V.ab (Ao.q tk rfl (Ao.q tk rfl (Ao.ay tk rfl rfl rfl rfl rfl (List.length_map _) rfl (Ao.q tk rfl (Ao.nil ?_))))))))
   refine V.ak rfl (fun h=>?_) (fun h=>?_)
   ·have H := condT h H
    refine V.seq (V.ab (Ao.q tk rfl (Ao.q tk rfl (Ao.nil ?_))))
    obtain rfl := ai H
    refine V.aq tk rfl (ps := [(ac 1),(ac 0)]) ⟨_,_,rfl,rfl,_,_,rfl,rfl,rfl⟩ (PLe.q rfl)
   ·have H := condF h H
    refine V.al (V.seq (V.bc tk mok ⟨false,false,[]⟩ [0,1,2,3,4,5,6,7,8,9,10,11,12,13,14] rfl (by decide +kernel) rfl (Do.q rfl (Do.q rfl (Do.q rfl (Do.q rfl (Do.q rfl ?_)))))))
    obtain ⟨x49,h49,H⟩ := aj H
    have k49 := gIs h49
    refine Do.idx rfl rfl rfl rfl rfl rfl rfl k49.1 (aH cW k49.2) rfl (Do.q rfl ?_)
    obtain ⟨x51,h51,H⟩ := bA H
    have s51 := ky inA c.vars x49
    rw [h51] at s51
    refine Do.aR (g := 159) rfl rfl rfl rfl Tryz.call159 (il.r) s51 rfl (Do.q rfl (Do.q rfl (Do.q rfl (Do.q rfl (Do.q rfl (Do.q rfl (Do.q rfl (Do.nil (V.seq (V.ap (V.seq (V.ab (Ao.q tk rfl (Ao.q tk rfl (Ao.q tk rfl ?_)))))))))))))))
    refine Ao.nil ?_
    refine V.ak rfl (fun h=>?_) (fun h=>?_)
    ·have H := condT h H
     refine V.seq (V.ab (Ao.q tk rfl (Ao.q tk rfl (Ao.q tk rfl (Ao.nil ?_)))))
     obtain rfl := ai H
     refine V.aq tk rfl (ps := [(ac 0),(ac x51.2.2)]) ⟨_,_,rfl,rfl,_,_,rfl,rfl,rfl⟩ (PLe.q rfl)
    ·have H := condF h H
     refine V.seq ?_
     obtain ⟨fl2,H2,Hp2⟩ := bA H
     refine V.cut (τ := Bool) (γ := Unit) (fun t2 g2=>⟨76,upd (upd (upd (fun _=>.any) 59 (au t2)) 8 (ac x51.1)) 5 (.ptr [(.str a.name),(.str a.function),(.list 56 (a.args.map aI))]),fun _=>none,fun _=>none⟩) (fun t=>t = fl2) ?_ (fun t2 g2 hn2=>?_)
     ·have H := H2
      refine V.ab (Ao.q tk rfl (Ao.q tk rfl (Ao.q tk rfl ?_)))
      refine Ao.aA rfl rfl rfl (fun h=>?_) (fun h=>?_)
      ·have H := condT h H
       refine Ao.q tk rfl (Ao.q tk rfl (Ao.q tk rfl (Ao.q tk rfl (Ao.q tk rfl (Ao.q tk rfl (Ao.q tk rfl (Ao.q tk rfl (Ao.q tk rfl (Ao.nil ?_)))))))))
       subst H
       refine V.at true () rfl (Gh.le (SLe.aa (PLe.q rfl) (SLe.aa (PLe.q rfl) (SLe.aa (PLe.q rfl) SLe.nil))) BLe.nil OLe.nil)
      ·have H := condF h H
       refine Ao.q tk rfl (Ao.q tk rfl (Ao.q tk rfl (Ao.q tk rfl ?_)))
       refine Ao.aA rfl rfl rfl (fun h=>?_) (fun h=>?_)
       ·have H := condT h H
        refine Ao.q tk rfl (Ao.q tk rfl (Ao.q tk rfl (Ao.q tk rfl (Ao.q tk rfl (Ao.nil ?_)))))
        subst H
        refine V.at (x51.1 != (1 : Int)) () rfl (Gh.le (SLe.aa (PLe.q rfl) (SLe.aa (PLe.q rfl) (SLe.aa (PLe.q rfl) SLe.nil))) BLe.nil OLe.nil)
       ·have H := condF h H
        refine Ao.q tk rfl (Ao.q tk rfl (Ao.q tk rfl (Ao.q tk rfl (Ao.q tk rfl (Ao.nil ?_)))))
        subst H
        refine V.at false () rfl (Gh.le (SLe.aa (PLe.q rfl) (SLe.aa (PLe.q rfl) (SLe.aa (PLe.q rfl) SLe.nil))) BLe.nil OLe.nil)
     ·subst hn2
      have H := Hp2
      refine V.ak rfl (fun h=>?_) (fun h=>?_)
      ·have H := condT h H
       refine V.seq (V.ab (Ao.q tk rfl (Ao.q tk rfl (Ao.nil ?_))))
       obtain rfl := ai H
       refine V.aq tk rfl (ps := [(ac 0),(ac 7)]) ⟨_,_,rfl,rfl,_,_,rfl,rfl,rfl⟩ (PLe.q rfl)
      ·have H := condF h H
       refine V.seq (V.ab (Ao.q tk rfl (Ao.q tk rfl (Ao.q tk rfl (Ao.q tk rfl (Ao.nil ?_))))))
       refine V.ak rfl (fun h=>?_) (fun h=>?_)
       ·have H := condT h H
        refine V.seq (V.ab (Ao.q tk rfl (Ao.q tk rfl (Ao.nil ?_))))
        obtain rfl := ai H
        refine V.aq tk rfl (ps := [(ac 1),(ac 0)]) ⟨_,_,rfl,rfl,_,_,rfl,rfl,rfl⟩ (PLe.q rfl)
       ·have H := condF h H
        refine V.al (V.blk (V.seq (V.ab (Ao.q tk rfl (Ao.q tk rfl (Ao.q tk rfl (Ao.nil ?_)))))))
        obtain rfl := ai H
        refine V.aq tk rfl (ps := [(ac x51.1),(ac 0)]) ⟨_,_,rfl,rfl,_,_,rfl,rfl,rfl⟩ (PLe.q rfl)
end
end Go.Proofs.YtgaggbdcedpapaaGreat

namespace Go.Proofs.YtgaggbdcedpapaaGreat
noncomputable section
open Go Go.Ab
attribute [local irreducible] V Ao Do Gh Eff PH IntKind.wrap
set_option maxRecDepth 4000
def dU (a : List LVal) (b : List LVal) : Option (Int) :=
 af (lz (if (b.length : Int) < (a.length : Int) then (b.length : Int) else (a.length : Int))) fun (n1 : Nat) =>
 af (aE (σ := Unit) (ρ := (Int)) (fun (j1 : Nat) (_ : Nat) (_ : Unit) =>
  af (aC a (j1 : Int)) fun (x17 : LVal) =>
  af (aC b (j1 : Int)) fun (x21 : LVal) =>
  ba (gX x17 x21) fun x23 =>
  cond (x23 != (0 : Int))
   (some (.ret x23))
   (some (.next ()))) 0 (List.range n1) ()) fun fl1=>fl1.thenR fun (_ : Unit) =>
 ba (eK (a.length : Int) (b.length : Int)) fun x32 =>
 some x32
set_option maxHeartbeats 4000000 in
theorem nB (a : List LVal) (b : List LVal) (r : Int) (H : dU a b = some r) :
  aG Tryz.prog 85 [(.list 53 (a.map ae)),(.list 53 (b.map ae))] (ac r) := by
 unfold dU at H
 refine PH.intro Tryz.func85 rfl Tryz.ntmps85 rfl ?_
 refine V.seq (V.ab (Ao.q tk rfl (Ao.nil (V.seq (V.seq (V.ab (Ao.q tk rfl (Ao.ay tk rfl rfl rfl rfl rfl (List.length_map _) rfl (Ao.q tk rfl (Ao.ay tk rfl rfl rfl rfl rfl (List.length_map _) rfl (Ao.q tk rfl (Ao.q tk rfl (Ao.nil ?_)))))))))))))
 obtain ⟨n1,hs1,H⟩ := aj H
 have hz1 := mu hs1
 obtain ⟨fl1,H1,Hp1⟩ := aj H
 refine V.cut (τ := Unit) (γ := Unit) (fun s1 g1=>⟨33,upd (upd (fun _=>.any) 1 (.list 53 (b.map ae))) 0 (.list 53 (a.map ae)),fun _=>none,fun _=>none⟩) (fun t=>fl1 = .next t) ?_ (fun s1 g1 hn1=>?_)
 ·refine V.ap ?_
  refine V.aP (fun j1 s1 g1=>⟨33,upd (upd (upd (upd (fun _=>.any) 12 (ac (j1 : Int))) 11 (ac (if (b.length : Int) < (a.length : Int) then (b.length : Int) else (a.length : Int)))) 1 (.list 53 (b.map ae))) 0 (.list 53 (a.map ae)),fun _=>none,fun _=>none⟩) () H1 (Gh.le (SLe.aa (PLe.q rfl) (SLe.aa (PLe.q rfl) (SLe.aa (PLe.q rfl) (SLe.aa (PLe.q rfl) SLe.nil)))) BLe.nil OLe.nil) (fun j1 s1 g1 hj1 hr1=>?_)
  refine V.seq (V.ab (Ao.q tk rfl (Ao.nil (V.seq ?_))))
  refine V.ak rfl (fun h=>?_) (fun h=>?_)
  ·have hl1 := natLt hz1 h
   obtain ⟨x1,fb1,hx1,H,hg1⟩ := rMc hl1 hr1
   obtain rfl := natX hx1
   refine V.al (V.seq (V.ap (V.seq (V.ab (Ao.q tk rfl (Ao.q tk rfl (Ao.nil (V.seq (V.bc tk mok ⟨false,false,[]⟩ [0,1,2,3,4,5,6,7,8,9] rfl (by decide +kernel) rfl (Do.q rfl (Do.q rfl ?_)))))))))))
   obtain ⟨x17,h17,H⟩ := aj H
   have k17 := gIs h17
   refine Do.idx rfl rfl rfl rfl rfl rfl rfl k17.1 (aH (fun _=>rfl) k17.2) rfl ?_
   refine Do.q rfl (Do.q rfl (Do.q rfl ?_))
   obtain ⟨x21,h21,H⟩ := aj H
   have k21 := gIs h21
   refine Do.idx rfl rfl rfl rfl rfl rfl rfl k21.1 (aH (fun _=>rfl) k21.2) rfl ?_
   refine Do.q rfl ?_
   obtain ⟨x23,h23,H⟩ := bA H
   have s23 := md x17 x21
   rw [h23] at s23
   refine Do.aR (g := 106) rfl rfl rfl rfl Tryz.call106 (il.r) s23 rfl (Do.q rfl (Do.nil (V.seq (V.ab (Ao.q tk rfl (Ao.q tk rfl (Ao.nil ?_)))))))
   refine V.ak rfl (fun h=>?_) (fun h=>?_)
   ·have H := condT h H
    refine V.seq (V.ab (Ao.q tk rfl (Ao.q tk rfl (Ao.nil ?_))))
    obtain rfl := ai H
    have e1 : fl1 = .ret _ := hg1
    subst e1
    obtain rfl := aL Hp1
    refine V.aq tk rfl (ps := [(ac x23)]) ⟨_,_,rfl,rfl,rfl⟩ (PLe.q rfl)
   ·have H := condF h H
    refine V.al (V.blk (V.ab (Ao.q tk rfl (Ao.q tk rfl (Ao.nil ?_)))))
    obtain rfl := ai H
    refine V.ax () () ⟨hl1,hg1⟩ (Gh.le (SLe.aa (PLe.q rfl) (SLe.aa (PLe.q rfl) (SLe.aa (PLe.q rfl) (SLe.aa (PLe.q (mZ hz1 hl1)) SLe.nil)))) BLe.nil OLe.nil)
  ·have hn1 := rMd (natGe hz1 h) hr1
   refine V.aB rfl ?_
   refine V.at s1 g1 hn1 (Gh.le (SLe.aa (PLe.q rfl) (SLe.aa (PLe.q rfl) SLe.nil)) BLe.nil OLe.nil)
 ·have H := br hn1 Hp1
  refine V.seq (V.ab (Ao.q tk rfl (Ao.ay tk rfl rfl rfl rfl rfl (List.length_map _) rfl (Ao.q tk rfl (Ao.ay tk rfl rfl rfl rfl rfl (List.length_map _) rfl ?_)))))
  obtain ⟨x32,h32,H⟩ := bA H
  have s32 := iC (a.length : Int) (b.length : Int)
  rw [h32] at s32
  refine Ao.ah (g := 107) rfl rfl rfl Tryz.call107 (il.r) s32 rfl (Ao.q tk rfl (Ao.nil ?_))
  obtain rfl := ai H
  refine V.aq tk rfl (ps := [(ac x32)]) ⟨_,_,rfl,rfl,rfl⟩ (PLe.q rfl)
def cX (data : List (List LVal)) (n : Int) (cmp : (List LVal) → (List LVal) → Option (Int)) : Option ((List (List LVal))) :=
 af (ef (σ := List (List LVal) × Int × Int) (ρ := Empty) (fun (s1 : List (List LVal) × Int × Int) =>
  cond (decide (s1.2.2 ≤ n))
   (af (bM s1.1 s1.2.1 s1.2.2 cmp) fun x18 =>
   af (dL (x18.length = s1.1.length) ()) fun (_ : Unit) =>
   some (.next (x18,s1.2.2,(IntKind.i64.wrap (s1.2.2 + (20 : Int))))))
   (some (.brk (s1.1,s1.2.1,s1.2.2)))) (data,0,20)) fun fl1=>fl1.thenP fun (s1 : List (List LVal) × Int × Int) =>
 af (bM s1.1 s1.2.1 n cmp) fun x27 =>
 af (dL (x27.length = s1.1.length) ()) fun (_ : Unit) =>
 af (ef (σ := List (List LVal) × Int) (ρ := Empty) (fun (s2 : List (List LVal) × Int) =>
  cond (decide (s2.2 < n))
   (af (ef (σ := List (List LVal) × Int × Int) (ρ := Empty) (fun (s5 : List (List LVal) × Int × Int) =>
    cond (decide (s5.2.2 ≤ n))
     (af (dJ s5.1 s5.2.1 (IntKind.i64.wrap (s5.2.1 + s2.2)) s5.2.2 cmp) fun x43 =>
     af (dL (x43.length = s5.1.length) ()) fun (_ : Unit) =>
     some (.next (x43,s5.2.2,(IntKind.i64.wrap (s5.2.2 + (IntKind.i64.wrap ((2 : Int) * s2.2)))))))
     (some (.brk (s5.1,s5.2.1,s5.2.2)))) (s2.1,0,(IntKind.i64.wrap ((2 : Int) * s2.2)))) fun fl5=>fl5.thenP fun (s5 : List (List LVal) × Int × Int) =>
   cond (decide ((IntKind.i64.wrap (s5.2.1 + s2.2)) < n))
    (af (dJ s5.1 s5.2.1 (IntKind.i64.wrap (s5.2.1 + s2.2)) n cmp) fun x60 =>
    af (dL (x60.length = s5.1.length) ()) fun (_ : Unit) =>
    some (.next (x60,(IntKind.i64.wrap (s2.2 * (2 : Int))))))
    (some (.next (s5.1,(IntKind.i64.wrap (s2.2 * (2 : Int)))))))
   (some (.brk (s2.1,s2.2)))) (x27,20)) fun fl2=>fl2.thenP fun (s2 : List (List LVal) × Int) =>
 some s2.1
set_option maxHeartbeats 4000000 in
theorem jJ (g_data : OwnRef) {g_cmp : FuncId} {caps_cmp : List PV} (data : List (List LVal)) (n : Int) (cmp : (List LVal) → (List LVal) → Option (Int)) (hg_cmp : ∀ (vs : Array Value) (w : World),(callFunc g_cmp vs).run Tryz.prog w = .ok (.enter g_cmp vs) w) (hp_cmp : ∀ a0 a1 r,cmp a0 a1 = some r → aG Tryz.prog g_cmp ((.list 53 (a0.map ae)) :: (.list 53 (a1.map ae)) :: caps_cmp) (ac r)) (r : (List (List LVal))) (H : cX data n cmp = some r) :
  PH Tryz.prog 194 [(.own 0 g_data (data.map (ag 53 ae)).length),(ac n),(.fn g_cmp caps_cmp)] ⟨fun _=>none,upd (fun _=>none) 0 (some ⟨g_data,51,(data.map (ag 53 ae)),true⟩)⟩ (fun u H=>u = (.tup []) ∧ H = ⟨fun _=>none,upd (fun _=>none) 0 (some ⟨g_data,51,(r.map (ag 53 ae)),true⟩)⟩) := by
 unfold cX at H
 refine PH.intro Tryz.func194 rfl Tryz.ntmps194 rfl ?_
 refine V.seq (V.ab (Ao.q tk rfl (Ao.nil (V.seq (V.ab (Ao.q tk rfl (Ao.q tk rfl (Ao.q tk rfl (Ao.nil (V.seq ?_))))))))))
 obtain ⟨fl1,H1,Hp1⟩ := aj H
 refine V.cut (τ := List (List LVal) × Int × Int) (γ := Unit) (fun s1 g1=>⟨63,upd (upd (upd (upd (upd (fun _=>.any) 7 (ac s1.2.1)) 6 (ac 20)) 2 (.fn g_cmp caps_cmp)) 1 (ac n)) 0 (.own 0 g_data (s1.1.map (ag 53 ae)).length),fun _=>none,upd (fun _=>none) 0 (some ⟨g_data,51,(s1.1.map (ag 53 ae)),true⟩)⟩) (fun t=>fl1 = .next t) ?_ (fun s1 g1 hn1=>?_)
 ·refine V.ap ?_
  refine V.fe (fun s1 g1=>⟨63,upd (upd (upd (upd (upd (upd (fun _=>.any) 8 (ac s1.2.2)) 7 (ac s1.2.1)) 6 (ac 20)) 2 (.fn g_cmp caps_cmp)) 1 (ac n)) 0 (.own 0 g_data (s1.1.map (ag 53 ae)).length),fun _=>none,upd (fun _=>none) 0 (some ⟨g_data,51,(s1.1.map (ag 53 ae)),true⟩)⟩) () H1 (Gh.le (SLe.aa (PLe.q rfl) (SLe.aa (PLe.q rfl) (SLe.aa (PLe.q rfl) (SLe.aa (PLe.q rfl) (SLe.aa (PLe.q rfl) (SLe.aa (PLe.q rfl) SLe.nil)))))) BLe.nil (OLe.am rfl OLe.nil)) (fun m1 s1 g1 hr1=>?_)
  obtain ⟨fb1,H,hg1⟩ := dV hr1
  refine V.seq (V.seq (V.ab (Ao.q tk rfl (Ao.q tk rfl (Ao.q tk rfl (Ao.nil ?_))))))
  refine V.ak rfl (fun h=>?_) (fun h=>?_)
  ·have H := condT h H
   refine V.al (V.ap (V.seq (V.ab (Ao.q tk rfl (Ao.q tk rfl (Ao.q tk rfl (Ao.q tk rfl ?_)))))))
   obtain ⟨x18,h18,H⟩ := aj H
   have s18 := fI g_data s1.1 s1.2.1 s1.2.2 cmp hg_cmp hp_cmp _ h18
   obtain ⟨_,q18_0,H⟩ := aj H
   have l18_0 := (cF q18_0).1
   have z18_0 : (List.map (ag 53 ae) s1.1).length = (List.map (ag 53 ae) x18).length := by simpa using (l18_0).symm
   refine Ao.dr (g := 114) rfl rfl rfl Tryz.call114 [] [(0,0)] rfl rfl rfl rfl (il.of2 (fQ.cons (kW.own rfl) (fQ.cons (kW.of_eq rfl) (fQ.cons (kW.of_eq rfl) (fQ.cons (kW.of_eq rfl) fQ.nil))))) (by rw [cN,cx,cO]; rfl) s18 ?_
   rintro u18 H18h ⟨rfl,rfl⟩
   refine ⟨_,rfl,?_⟩
   refine Ao.gh (st' := ⟨_,_,fun _=>none,upd (fun _=>none) 0 (some ⟨g_data,51,(x18.map (ag 53 ae)),true⟩)⟩) (Gh.le (SLe.cq _ _) BLe.nil (OLe.am rfl OLe.nil)) ?_
   refine Ao.nil (V.seq (V.ab (Ao.q tk rfl (Ao.q tk rfl (Ao.nil (V.ab (Ao.q tk rfl (Ao.q tk rfl (Ao.q tk rfl (Ao.q tk rfl (Ao.nil (V.blk ?_))))))))))))
   obtain rfl := ai H
   refine V.ax (x18,s1.2.2,(IntKind.i64.wrap (s1.2.2 + (20 : Int)))) () hg1 (Gh.le (SLe.aa (PLe.of2 (kW.of_eq (congrArg (PV.own 0 g_data) z18_0))) (SLe.aa (PLe.q rfl) (SLe.aa (PLe.q rfl) (SLe.aa (PLe.q rfl) (SLe.aa (PLe.q rfl) (SLe.aa (PLe.q rfl) SLe.nil)))))) BLe.nil (OLe.am rfl OLe.nil))
  ·have H := condF h H
   refine V.aB rfl ?_
   obtain rfl := ai H
   refine V.at (s1.1,s1.2.1,s1.2.2) () hg1 (Gh.le (SLe.aa (PLe.q rfl) (SLe.aa (PLe.q rfl) (SLe.aa (PLe.q rfl) (SLe.aa (PLe.q rfl) (SLe.aa (PLe.q rfl) SLe.nil))))) BLe.nil (OLe.am rfl OLe.nil))
 ·have H := aW hn1 Hp1
  refine V.seq (V.ab (Ao.q tk rfl (Ao.q tk rfl (Ao.q tk rfl (Ao.q tk rfl ?_)))))
  obtain ⟨x27,h27,H⟩ := aj H
  have s27 := fI g_data s1.1 s1.2.1 n cmp hg_cmp hp_cmp _ h27
  obtain ⟨_,q27_0,H⟩ := aj H
  have l27_0 := (cF q27_0).1
  have z27_0 : (List.map (ag 53 ae) s1.1).length = (List.map (ag 53 ae) x27).length := by simpa using (l27_0).symm
  refine Ao.dr (g := 114) rfl rfl rfl Tryz.call114 [] [(0,0)] rfl rfl rfl rfl (il.of2 (fQ.cons (kW.own rfl) (fQ.cons (kW.of_eq rfl) (fQ.cons (kW.of_eq rfl) (fQ.cons (kW.of_eq rfl) fQ.nil))))) (by rw [cN,cx,cO]; rfl) s27 ?_
  rintro u27 H27h ⟨rfl,rfl⟩
  refine ⟨_,rfl,?_⟩
  refine Ao.gh (st' := ⟨_,_,fun _=>none,upd (fun _=>none) 0 (some ⟨g_data,51,(x27.map (ag 53 ae)),true⟩)⟩) (Gh.le (SLe.cq _ _) BLe.nil (OLe.am rfl OLe.nil)) ?_
  refine Ao.nil ?_
  obtain ⟨fl2,H2,Hp2⟩ := aj H
  refine V.cut (τ := List (List LVal) × Int) (γ := Unit) (fun s2 g2=>⟨63,upd (fun _=>.any) 0 (.own 0 g_data (s2.1.map (ag 53 ae)).length),fun _=>none,upd (fun _=>none) 0 (some ⟨g_data,51,(s2.1.map (ag 53 ae)),true⟩)⟩) (fun t=>fl2 = .next t) ?_ (fun s2 g2 hn2=>?_)
  ·refine V.ap ?_
   refine V.fe (fun s2 g2=>⟨63,upd (upd (upd (upd (fun _=>.any) 6 (ac s2.2)) 2 (.fn g_cmp caps_cmp)) 1 (ac n)) 0 (.own 0 g_data (s2.1.map (ag 53 ae)).length),fun _=>none,upd (fun _=>none) 0 (some ⟨g_data,51,(s2.1.map (ag 53 ae)),true⟩)⟩) () H2 (Gh.le (SLe.aa (PLe.of2 (kW.of_eq (congrArg (PV.own 0 g_data) z27_0))) (SLe.aa (PLe.q rfl) (SLe.aa (PLe.q rfl) (SLe.aa (PLe.q rfl) SLe.nil)))) BLe.nil (OLe.am rfl OLe.nil)) (fun m2 s2 g2 hr2=>?_)
   obtain ⟨fb2,H,hg2⟩ := dV hr2
   refine V.seq (V.seq (V.ab (Ao.q tk rfl (Ao.q tk rfl (Ao.q tk rfl (Ao.nil ?_))))))
   refine V.ak rfl (fun h=>?_) (fun h=>?_)
   ·have H := condT h H
    refine V.al (V.ap (V.seq (V.ab (Ao.q tk rfl (Ao.q tk rfl (Ao.q tk rfl (Ao.q tk rfl (Ao.nil (V.seq ?_)))))))))
    obtain ⟨fl5,H5,Hp5⟩ := aj H
    refine V.cut (τ := List (List LVal) × Int × Int) (γ := Unit) (fun s5 g5=>⟨63,upd (upd (upd (upd (upd (fun _=>.any) 7 (ac s5.2.1)) 6 (ac s2.2)) 2 (.fn g_cmp caps_cmp)) 1 (ac n)) 0 (.own 0 g_data (s5.1.map (ag 53 ae)).length),fun _=>none,upd (fun _=>none) 0 (some ⟨g_data,51,(s5.1.map (ag 53 ae)),true⟩)⟩) (fun t=>fl5 = .next t) ?_ (fun s5 g5 hn5=>?_)
    ·refine V.ap ?_
     refine V.fe (fun s5 g5=>⟨63,upd (upd (upd (upd (upd (upd (fun _=>.any) 8 (ac s5.2.2)) 7 (ac s5.2.1)) 6 (ac s2.2)) 2 (.fn g_cmp caps_cmp)) 1 (ac n)) 0 (.own 0 g_data (s5.1.map (ag 53 ae)).length),fun _=>none,upd (fun _=>none) 0 (some ⟨g_data,51,(s5.1.map (ag 53 ae)),true⟩)⟩) () H5 (Gh.le (SLe.aa (PLe.q rfl) (SLe.aa (PLe.q rfl) (SLe.aa (PLe.q rfl) (SLe.aa (PLe.q rfl) (SLe.aa (PLe.q rfl) (SLe.aa (PLe.q rfl) SLe.nil)))))) BLe.nil (OLe.am rfl OLe.nil)) (fun m5 s5 g5 hr5=>?_)
     obtain ⟨fb5,H,hg5⟩ := dV hr5
     refine V.seq (V.seq (V.ab (Ao.q tk rfl (Ao.q tk rfl (Ao.q tk rfl (Ao.nil ?_))))))
     refine V.ak rfl (fun h=>?_) (fun h=>?_)
     ·have H := condT h H
      refine V.al (V.ap (V.seq (V.ab (Ao.q tk rfl (Ao.q tk rfl (Ao.q tk rfl (Ao.q tk rfl (Ao.q tk rfl (Ao.q tk rfl (Ao.q tk rfl ?_))))))))))
      obtain ⟨x43,h43,H⟩ := aj H
      have s43 := gz g_data s5.1 s5.2.1 (IntKind.i64.wrap (s5.2.1 + s2.2)) s5.2.2 cmp hg_cmp hp_cmp _ h43
      obtain ⟨_,q43_0,H⟩ := aj H
      have l43_0 := (cF q43_0).1
      have z43_0 : (List.map (ag 53 ae) s5.1).length = (List.map (ag 53 ae) x43).length := by simpa using (l43_0).symm
      refine Ao.dr (g := 204) rfl rfl rfl Tryz.call204 [] [(0,0)] rfl rfl rfl rfl (il.of2 (fQ.cons (kW.own rfl) (fQ.cons (kW.of_eq rfl) (fQ.cons (kW.of_eq rfl) (fQ.cons (kW.of_eq rfl) (fQ.cons (kW.of_eq rfl) fQ.nil)))))) (by rw [cN,cx,cO]; rfl) s43 ?_
      rintro u43 H43h ⟨rfl,rfl⟩
      refine ⟨_,rfl,?_⟩
      refine Ao.gh (st' := ⟨_,_,fun _=>none,upd (fun _=>none) 0 (some ⟨g_data,51,(x43.map (ag 53 ae)),true⟩)⟩) (Gh.le (SLe.cq _ _) BLe.nil (OLe.am rfl OLe.nil)) ?_
      refine Ao.nil (V.seq (V.ab (Ao.q tk rfl (Ao.q tk rfl (Ao.nil (V.ab (Ao.q tk rfl (Ao.q tk rfl (Ao.q tk rfl (Ao.q tk rfl (Ao.q tk rfl (Ao.nil (V.blk ?_)))))))))))))
      obtain rfl := ai H
      refine V.ax (x43,s5.2.2,(IntKind.i64.wrap (s5.2.2 + (IntKind.i64.wrap ((2 : Int) * s2.2))))) () hg5 (Gh.le (SLe.aa (PLe.of2 (kW.of_eq (congrArg (PV.own 0 g_data) z43_0))) (SLe.aa (PLe.q rfl) (SLe.aa (PLe.q rfl) (SLe.aa (PLe.q rfl) (SLe.aa (PLe.q rfl) (SLe.aa (PLe.q rfl) SLe.nil)))))) BLe.nil (OLe.am rfl OLe.nil))
     ·have H := condF h H
      refine V.aB rfl ?_
      obtain rfl := ai H
      refine V.at (s5.1,s5.2.1,s5.2.2) () hg5 (Gh.le (SLe.aa (PLe.q rfl) (SLe.aa (PLe.q rfl) (SLe.aa (PLe.q rfl) (SLe.aa (PLe.q rfl) (SLe.aa (PLe.q rfl) SLe.nil))))) BLe.nil (OLe.am rfl OLe.nil))
    ·have H := aW hn5 Hp5
     refine V.seq (V.seq (V.ab (Ao.q tk rfl (Ao.q tk rfl (Ao.q tk rfl (Ao.q tk rfl (Ao.nil (V.seq (V.ab (Ao.q tk rfl (Ao.q tk rfl (Ao.q tk rfl (Ao.nil ?_)))))))))))))
     refine V.ak rfl (fun h=>?_) (fun h=>?_)
     ·have H := condT h H
      refine V.ab (Ao.q tk rfl (Ao.q tk rfl (Ao.q tk rfl (Ao.q tk rfl (Ao.q tk rfl ?_)))))
      obtain ⟨x60,h60,H⟩ := aj H
      have s60 := gz g_data s5.1 s5.2.1 (IntKind.i64.wrap (s5.2.1 + s2.2)) n cmp hg_cmp hp_cmp _ h60
      obtain ⟨_,q60_0,H⟩ := aj H
      have l60_0 := (cF q60_0).1
      have z60_0 : (List.map (ag 53 ae) s5.1).length = (List.map (ag 53 ae) x60).length := by simpa using (l60_0).symm
      refine Ao.dr (g := 204) rfl rfl rfl Tryz.call204 [] [(0,0)] rfl rfl rfl rfl (il.of2 (fQ.cons (kW.own rfl) (fQ.cons (kW.of_eq rfl) (fQ.cons (kW.of_eq rfl) (fQ.cons (kW.of_eq rfl) (fQ.cons (kW.of_eq rfl) fQ.nil)))))) (by rw [cN,cx,cO]; rfl) s60 ?_
      rintro u60 H60h ⟨rfl,rfl⟩
      refine ⟨_,rfl,?_⟩
      refine Ao.gh (st' := ⟨_,_,fun _=>none,upd (fun _=>none) 0 (some ⟨g_data,51,(x60.map (ag 53 ae)),true⟩)⟩) (Gh.le (SLe.cq _ _) BLe.nil (OLe.am rfl OLe.nil)) ?_
      refine Ao.nil (V.ab (Ao.q tk rfl (Ao.q tk rfl (Ao.q tk rfl (Ao.nil (V.blk ?_))))))
      obtain rfl := ai H
      refine V.ax (x60,(IntKind.i64.wrap (s2.2 * (2 : Int)))) () hg2 (Gh.le (SLe.aa (PLe.of2 (kW.of_eq (congrArg (PV.own 0 g_data) z60_0))) (SLe.aa (PLe.q rfl) (SLe.aa (PLe.q rfl) (SLe.aa (PLe.q rfl) SLe.nil)))) BLe.nil (OLe.am rfl OLe.nil))
     ·have H := condF h H
      refine V.al (V.ab (Ao.q tk rfl (Ao.q tk rfl (Ao.q tk rfl (Ao.nil (V.blk ?_))))))
      obtain rfl := ai H
      refine V.ax (s5.1,(IntKind.i64.wrap (s2.2 * (2 : Int)))) () hg2 (Gh.le (SLe.aa (PLe.q rfl) (SLe.aa (PLe.q rfl) (SLe.aa (PLe.q rfl) (SLe.aa (PLe.q rfl) SLe.nil)))) BLe.nil (OLe.am rfl OLe.nil))
   ·have H := condF h H
    refine V.aB rfl ?_
    obtain rfl := ai H
    refine V.at (s2.1,s2.2) () hg2 (Gh.le (SLe.aa (PLe.q rfl) SLe.nil) BLe.nil (OLe.am rfl OLe.nil))
  ·have H := aW hn2 Hp2
   obtain rfl := ai H
   refine V.gh (st' := ⟨63,fun _=>.any,fun _=>none,upd (fun _=>none) 0 (some ⟨g_data,51,(s2.1.map (ag 53 ae)),true⟩)⟩) (Gh.le SLe.nil BLe.nil (OLe.am rfl OLe.nil)) ?_
   refine V.endH rfl (PLe.q rfl) ⟨rfl,rfl⟩
end
end Go.Proofs.YtgaggbdcedpapaaGreat

namespace Go.Proofs.YtgaggbdcedpapaaGreat
noncomputable section
open Go Go.Ab
attribute [local irreducible] V Ao Do Gh Eff PH IntKind.wrap
set_option maxRecDepth 4000
def fp (a : LVal) (op : List UInt8) (b : LVal) : Bool × Int :=
 ba (
  cond (!(op == ([61] : List UInt8)))
   (cond (!(op == ([60] : List UInt8)))
    ((!(op == ([60,61] : List UInt8))))
    (false))
   (false)) fun (t1 : Bool) =>
 cond t1
  ((false,3))
  (ba (
   cond (a.kind == (0 : Int))
    (true)
    ((b.kind == (0 : Int)))) fun (t2 : Bool) =>
  cond t2
   ((true,0))
   (ba (gX a b) fun x29 =>
   cond (x29 == (0 : Int))
    (cond (!(op == ([60] : List UInt8)))
     ((true,0))
     (cond (decide (x29 < (0 : Int)))
      (((!(op == ([61] : List UInt8))),0))
      ((false,0))))
    (cond (decide (x29 < (0 : Int)))
     (((!(op == ([61] : List UInt8))),0))
     ((false,0)))))
set_option maxHeartbeats 4000000 in
theorem oD (a : LVal) (op : List UInt8) (b : LVal) :
  aG Tryz.prog 148 [(.agg (ae a)),(.str op),(.agg (ae b))] (.tup [(au ((fp a op b).1)),(ac ((fp a op b).2))]) := by
 obtain ⟨r,H⟩ : ∃ r,fp a op b = r := ⟨_,rfl⟩
 rw [H]
 unfold fp at H
 refine PH.intro Tryz.func148 rfl Tryz.ntmps148 rfl ?_
 refine V.seq (V.ab (Ao.aF rfl rfl rfl rfl rfl rfl (Ao.aF rfl rfl rfl rfl rfl rfl (Ao.q tk rfl (Ao.q tk rfl (Ao.nil (V.seq (V.seq ?_))))))))
 obtain ⟨fl1,H1,Hp1⟩ := bA H
 refine V.cut (τ := Bool) (γ := Unit) (fun t1 g1=>⟨44,upd (upd (upd (upd (fun _=>.any) 18 (au t1)) 5 (.ptr [(ac b.kind),(ac b.int),(.str b.text)])) 3 (.ptr [(ac a.kind),(ac a.int),(.str a.text)])) 1 (.str op),fun _=>none,fun _=>none⟩) (fun t=>t = fl1) ?_ (fun t1 g1 hn1=>?_)
 ·have H := H1
  refine V.ab (Ao.q tk rfl (Ao.q tk rfl (Ao.q tk rfl ?_)))
  refine Ao.aA rfl rfl rfl (fun h=>?_) (fun h=>?_)
  ·have H := condT h H
   refine Ao.q tk rfl (Ao.q tk rfl (Ao.q tk rfl (Ao.q tk rfl ?_)))
   refine Ao.aA rfl rfl rfl (fun h=>?_) (fun h=>?_)
   ·have H := condT h H
    refine Ao.q tk rfl (Ao.q tk rfl (Ao.q tk rfl (Ao.nil ?_)))
    subst H
    refine V.at (!(op == ([60,61] : List UInt8))) () rfl (Gh.le (SLe.aa (PLe.q rfl) (SLe.aa (PLe.q rfl) (SLe.aa (PLe.q rfl) (SLe.aa (PLe.q rfl) SLe.nil)))) BLe.nil OLe.nil)
   ·have H := condF h H
    refine Ao.q tk rfl (Ao.q tk rfl (Ao.q tk rfl (Ao.nil ?_)))
    subst H
    refine V.at false () rfl (Gh.le (SLe.aa (PLe.q rfl) (SLe.aa (PLe.q rfl) (SLe.aa (PLe.q rfl) (SLe.aa (PLe.q rfl) SLe.nil)))) BLe.nil OLe.nil)
  ·have H := condF h H
   refine Ao.q tk rfl (Ao.q tk rfl (Ao.q tk rfl (Ao.q tk rfl (Ao.q tk rfl (Ao.q tk rfl (Ao.q tk rfl (Ao.nil ?_)))))))
   subst H
   refine V.at false () rfl (Gh.le (SLe.aa (PLe.q rfl) (SLe.aa (PLe.q rfl) (SLe.aa (PLe.q rfl) (SLe.aa (PLe.q rfl) SLe.nil)))) BLe.nil OLe.nil)
 ·subst hn1
  have H := Hp1
  refine V.ak rfl (fun h=>?_) (fun h=>?_)
  ·have H := condT h H
   refine V.seq (V.ab (Ao.q tk rfl (Ao.q tk rfl (Ao.nil ?_))))
   subst H
   refine V.aq tk rfl (ps := [(au false),(ac 3)]) ⟨_,_,rfl,rfl,_,_,rfl,rfl,rfl⟩ (PLe.q rfl)
  ·have H := condF h H
   refine V.al (V.seq (V.seq ?_))
   obtain ⟨fl2,H2,Hp2⟩ := bA H
   refine V.cut (τ := Bool) (γ := Unit) (fun t2 g2=>⟨44,upd (upd (upd (upd (fun _=>.any) 26 (au t2)) 5 (.ptr [(ac b.kind),(ac b.int),(.str b.text)])) 3 (.ptr [(ac a.kind),(ac a.int),(.str a.text)])) 1 (.str op),fun _=>none,fun _=>none⟩) (fun t=>t = fl2) ?_ (fun t2 g2 hn2=>?_)
   ·have H := H2
    refine V.ab (Ao.q tk rfl (Ao.q tk rfl (Ao.q tk rfl (Ao.q tk rfl ?_))))
    refine Ao.aA rfl rfl rfl (fun h=>?_) (fun h=>?_)
    ·have H := condT h H
     refine Ao.q tk rfl (Ao.q tk rfl (Ao.q tk rfl (Ao.q tk rfl (Ao.nil ?_))))
     subst H
     refine V.at true () rfl (Gh.le (SLe.aa (PLe.q rfl) (SLe.aa (PLe.q rfl) (SLe.aa (PLe.q rfl) (SLe.aa (PLe.q rfl) SLe.nil)))) BLe.nil OLe.nil)
    ·have H := condF h H
     refine Ao.q tk rfl (Ao.q tk rfl (Ao.q tk rfl (Ao.q tk rfl (Ao.nil ?_))))
     subst H
     refine V.at (b.kind == (0 : Int)) () rfl (Gh.le (SLe.aa (PLe.q rfl) (SLe.aa (PLe.q rfl) (SLe.aa (PLe.q rfl) (SLe.aa (PLe.q rfl) SLe.nil)))) BLe.nil OLe.nil)
   ·subst hn2
    have H := Hp2
    refine V.ak rfl (fun h=>?_) (fun h=>?_)
    ·have H := condT h H
     refine V.seq (V.ab (Ao.q tk rfl (Ao.q tk rfl (Ao.nil ?_))))
     subst H
     refine V.aq tk rfl (ps := [(au true),(ac 0)]) ⟨_,_,rfl,rfl,_,_,rfl,rfl,rfl⟩ (PLe.q rfl)
    ·have H := condF h H
     refine V.al (V.seq (V.ab (Ao.q tk rfl (Ao.q tk rfl ?_))))
     obtain ⟨x29,h29,H⟩ := bA H
     have s29 := md a b
     rw [h29] at s29
     refine Ao.ah (g := 106) rfl rfl rfl Tryz.call106 (il.r) s29 rfl (Ao.q tk rfl (Ao.nil (V.seq (V.ab (Ao.q tk rfl (Ao.q tk rfl (Ao.q tk rfl ?_)))))))
     refine Ao.aA rfl rfl rfl (fun h=>?_) (fun h=>?_)
     ·have H := condT h H
      refine Ao.q tk rfl (Ao.q tk rfl (Ao.q tk rfl (Ao.q tk rfl ?_)))
      refine Ao.aA rfl rfl rfl (fun h=>?_) (fun h=>?_)
      ·have H := condT h H
       refine Ao.q tk rfl (Ao.q tk rfl (Ao.q tk rfl (Ao.q tk rfl (Ao.q tk rfl (Ao.q tk rfl (Ao.q tk rfl (Ao.q tk rfl (Ao.q tk rfl (Ao.nil ?_)))))))))
       subst H
       refine V.aq tk rfl (ps := [(au true),(ac 0)]) ⟨_,_,rfl,rfl,_,_,rfl,rfl,rfl⟩ (PLe.q rfl)
      ·have H := condF h H
       refine Ao.q tk rfl (Ao.q tk rfl (Ao.q tk rfl ?_))
       refine Ao.aA rfl rfl rfl (fun h=>?_) (fun h=>?_)
       ·have H := condT h H
        refine Ao.q tk rfl (Ao.q tk rfl (Ao.q tk rfl (Ao.q tk rfl (Ao.q tk rfl (Ao.q tk rfl (Ao.nil ?_))))))
        subst H
        refine V.aq tk rfl (ps := [(au (!(op == ([61] : List UInt8)))),(ac 0)]) ⟨_,_,rfl,rfl,_,_,rfl,rfl,rfl⟩ (PLe.q rfl)
       ·have H := condF h H
        refine Ao.q tk rfl (Ao.q tk rfl (Ao.q tk rfl (Ao.q tk rfl (Ao.q tk rfl (Ao.q tk rfl (Ao.nil ?_))))))
        subst H
        refine V.aq tk rfl (ps := [(au false),(ac 0)]) ⟨_,_,rfl,rfl,_,_,rfl,rfl,rfl⟩ (PLe.q rfl)
     ·have H := condF h H
      refine Ao.q tk rfl (Ao.q tk rfl (Ao.q tk rfl (Ao.q tk rfl (Ao.q tk rfl (Ao.q tk rfl (Ao.q tk rfl ?_))))))
      refine Ao.aA rfl rfl rfl (fun h=>?_) (fun h=>?_)
      ·have H := condT h H
       refine Ao.q tk rfl (Ao.q tk rfl (Ao.q tk rfl (Ao.q tk rfl (Ao.q tk rfl (Ao.q tk rfl (Ao.nil ?_))))))
       subst H
       refine V.aq tk rfl (ps := [(au (!(op == ([61] : List UInt8)))),(ac 0)]) ⟨_,_,rfl,rfl,_,_,rfl,rfl,rfl⟩ (PLe.q rfl)
      ·have H := condF h H
       refine Ao.q tk rfl (Ao.q tk rfl (Ao.q tk rfl (Ao.q tk rfl (Ao.q tk rfl (Ao.q tk rfl (Ao.nil ?_))))))
       subst H
       refine V.aq tk rfl (ps := [(au false),(ac 0)]) ⟨_,_,rfl,rfl,_,_,rfl,rfl,rfl⟩ (PLe.q rfl)
end
end Go.Proofs.YtgaggbdcedpapaaGreat

namespace Go.Proofs.YtgaggbdcedpapaaGreat
noncomputable section
open Go Go.Ab
attribute [local irreducible] V Ao Do Gh Eff PH IntKind.wrap
set_option maxRecDepth 4000
def dn (c : LChecker) (q : LQuery) (inA : List LCol) : Option ((List LCol) × Int) :=
 af (aE (σ := List LCol) (ρ := ((List LCol) × Int)) (fun (j1 : Nat) (x1 : LExpr) (s1 : List LCol) =>
  ba (ci inA c.vars x1) fun x31 =>
  af (aC q.names (j1 : Int)) fun (x39 : List UInt8) =>
  ba (cy x39) fun x41 =>
  cond (!x41)
   (some (.ret ([],3)))
   (cond (x31.2.2 != (0 : Int))
    (some (.ret ([],x31.2.2)))
    (cond (x31.1 == (0 : Int))
     (some (.ret ([],7)))
     (af (aC q.names (j1 : Int)) fun (x54 : List UInt8) =>
     af (cI 32 s1 ([(LCol.mk x54 x31.1 x31.2.1)] : List LCol)) fun (x60 : List LCol) =>
     some (.next x60))))) 0 q.exprs []) fun fl1=>fl1.thenR fun (s1 : List LCol) =>
 af (aE (σ := List LCol) (ρ := ((List LCol) × Int)) (fun (_ : Nat) (x2 : LAggregateCall) (s2 : List LCol) =>
  af (eI c inA x2) fun x73 =>
  cond (x73.2 != (0 : Int))
   (some (.ret ([],x73.2)))
   (af (cI 32 s2 ([(LCol.mk x2.name x73.1 (!(x2.function == ([99,111,117,110,116] : List UInt8))))] : List LCol)) fun (x88 : List LCol) =>
   some (.next x88))) 0 q.aggregates s1) fun fl2=>fl2.thenR fun (s2 : List LCol) =>
 some (s2,0)
set_option maxHeartbeats 4000000 in
theorem kj (c : LChecker) (q : LQuery) (inA : List LCol) (r : (List LCol) × Int) (H : dn c q inA = some r) :
  aG Tryz.prog 158 [(.agg (hJ c)),(.agg (aQ q)),(.list 50 (inA.map av))] (.tup [(.list 50 (r.1.map av)),(ac r.2)]) := by
 unfold dn at H
 refine PH.intro Tryz.func158 rfl Tryz.ntmps158 rfl ?_
 refine V.seq (V.ab (Ao.aF rfl rfl rfl rfl rfl rfl (Ao.aF rfl rfl rfl rfl rfl rfl (Ao.q tk rfl (Ao.q tk rfl (Ao.nil (V.seq (V.ab (Ao.q tk rfl (Ao.nil (V.seq (V.seq (V.ab (Ao.q tk rfl (Ao.q tk rfl ?_)))))))))))))))
 refine Ao.ay tk rfl rfl rfl rfl rfl (List.length_map _) rfl (Ao.q tk rfl (Ao.nil ?_))
 obtain ⟨fl1,H1,Hp1⟩ := aj H
 refine V.aZ tk 19 rfl rfl (fun hz1 _=>?_)
 rw [List.length_map] at hz1
 refine V.cut (τ := List LCol) (γ := OwnRef) (fun s1 g1=>⟨91,upd (upd (upd (upd (fun _=>.any) 8 (.own 60 g1 (s1.map av).length)) 4 (.ptr [(ac q.kind),(.str q.table),(.list 9 (q.names.map bo)),(.list 56 (q.exprs.map aI)),(.list 66 (q.aggregates.map bl)),(.list 4 (q.descending.map bB)),(ac q.count),(ac q.offset),(.list 35 (q.inputs.map aD))])) 3 (.ptr [(.list 91 (c.s.tables.map aO)),(.list 142 (c.s.foreignKeys.map bC)),(.list 148 (c.s.constraints.map bH)),(.list 50 (c.vars.map av))])) 2 (.list 50 (inA.map av)),fun _=>none,upd (fun _=>none) 60 (some ⟨g1,50,(s1.map av),true⟩)⟩) (fun t=>fl1 = .next t) ?_ (fun s1 g1 hn1=>?_)
 ·refine V.ap (V.gr tk 8 60 (e := 50) rfl rfl ?_)
  refine V.aP (fun j1 s1 g1=>⟨91,upd (upd (upd (upd (upd (upd (upd (fun _=>.any) 21 (ac (j1 : Int))) 20 (ac (q.exprs.length : Int))) 19 (.list 56 (q.exprs.map aI))) 8 (.own 60 g1 (s1.map av).length)) 4 (.ptr [(ac q.kind),(.str q.table),(.list 9 (q.names.map bo)),(.list 56 (q.exprs.map aI)),(.list 66 (q.aggregates.map bl)),(.list 4 (q.descending.map bB)),(ac q.count),(ac q.offset),(.list 35 (q.inputs.map aD))])) 3 (.ptr [(.list 91 (c.s.tables.map aO)),(.list 142 (c.s.foreignKeys.map bC)),(.list 148 (c.s.constraints.map bH)),(.list 50 (c.vars.map av))])) 2 (.list 50 (inA.map av)),fun _=>none,upd (fun _=>none) 60 (some ⟨g1,50,(s1.map av),true⟩)⟩) (⟨none,0⟩) H1 (Gh.le (SLe.aa (PLe.q rfl) (SLe.aa (PLe.q rfl) (SLe.aa (PLe.q rfl) (SLe.aa (PLe.q rfl) (SLe.aa (PLe.q rfl) (SLe.aa (PLe.q rfl) (SLe.aa (PLe.q rfl) SLe.nil))))))) BLe.nil (OLe.am rfl OLe.nil)) (fun j1 s1 g1 hj1 hr1=>?_)
  refine V.seq (V.ab (Ao.q tk rfl (Ao.nil (V.seq ?_))))
  refine V.ak rfl (fun h=>?_) (fun h=>?_)
  ·have hl1 := bn h
   obtain ⟨x1,fb1,hx1,H,hg1⟩ := rMc hl1 hr1
   refine V.al (V.seq (V.ap (V.seq (V.ab (Ao.q tk rfl (Ao.idx tk rfl rfl rfl rfl rfl rfl (Int.natCast_nonneg j1) (aY cW hx1) rfl (Ao.q tk rfl ?_)))))))
   refine Ao.aJ tk rfl rfl rfl rfl rfl rfl fun b10=>?_
   refine Ao.q tk rfl (Ao.sB tk rfl rfl rfl rfl rfl rfl rfl rfl rfl rfl rfl (Ao.nil (V.seq (V.ab (Ao.q tk rfl (Ao.q tk rfl (Ao.q tk rfl (Ao.lB tk rfl rfl rfl rfl rfl rfl rfl ?_))))))))
   obtain ⟨x31,h31,H⟩ := bA H
   have s31 := ky inA c.vars x1
   rw [h31] at s31
   refine Ao.ah (g := 159) rfl rfl rfl Tryz.call159 (il.r) s31 rfl (Ao.q tk rfl (Ao.q tk rfl (Ao.q tk rfl (Ao.q tk rfl (Ao.q tk rfl (Ao.q tk rfl (Ao.q tk rfl (Ao.nil (V.seq (V.ap (V.seq (V.ab (Ao.q tk rfl (Ao.q tk rfl (Ao.q tk rfl ?_)))))))))))))))
   obtain ⟨x39,h39,H⟩ := aj H
   have k39 := gIs h39
   refine Ao.idx tk rfl rfl rfl rfl rfl rfl k39.1 (aH (fun _=>rfl) k39.2) rfl ?_
   refine Ao.q tk rfl ?_
   obtain ⟨x41,h41,H⟩ := bA H
   have s41 := jK x39
   rw [h41] at s41
   refine Ao.ah (g := 180) rfl rfl rfl Tryz.call180 (il.r) s41 rfl (Ao.q tk rfl (Ao.q tk rfl (Ao.nil ?_)))
   refine V.ak rfl (fun h=>?_) (fun h=>?_)
   ·have H := condT h H
    refine V.seq (V.ab (Ao.q tk rfl (Ao.q tk rfl (Ao.nil ?_))))
    obtain rfl := ai H
    have e1 : fl1 = .ret _ := hg1
    subst e1
    obtain rfl := aL Hp1
    refine V.aq tk rfl (ps := [(.val (.slice none 0 0)),(ac 3)]) ⟨_,_,rfl,rfl,_,_,rfl,rfl,rfl⟩ (PLe.of2 (kW.tup (fQ.cons (kW.nil tk rfl) (fQ.cons (kW.of_eq rfl) fQ.nil))))
   ·have H := condF h H
    refine V.seq (V.ab (Ao.q tk rfl (Ao.q tk rfl (Ao.q tk rfl (Ao.nil ?_)))))
    refine V.ak rfl (fun h=>?_) (fun h=>?_)
    ·have H := condT h H
     refine V.seq (V.ab (Ao.q tk rfl (Ao.q tk rfl (Ao.q tk rfl (Ao.nil ?_)))))
     obtain rfl := ai H
     have e1 : fl1 = .ret _ := hg1
     subst e1
     obtain rfl := aL Hp1
     refine V.aq tk rfl (ps := [(.val (.slice none 0 0)),(ac x31.2.2)]) ⟨_,_,rfl,rfl,_,_,rfl,rfl,rfl⟩ (PLe.of2 (kW.tup (fQ.cons (kW.nil tk rfl) (fQ.cons (kW.of_eq rfl) fQ.nil))))
    ·have H := condF h H
     refine V.seq (V.ab (Ao.q tk rfl (Ao.q tk rfl (Ao.q tk rfl (Ao.nil ?_)))))
     refine V.ak rfl (fun h=>?_) (fun h=>?_)
     ·have H := condT h H
      refine V.seq (V.ab (Ao.q tk rfl (Ao.q tk rfl (Ao.nil ?_))))
      obtain rfl := ai H
      have e1 : fl1 = .ret _ := hg1
      subst e1
      obtain rfl := aL Hp1
      refine V.aq tk rfl (ps := [(.val (.slice none 0 0)),(ac 7)]) ⟨_,_,rfl,rfl,_,_,rfl,rfl,rfl⟩ (PLe.of2 (kW.tup (fQ.cons (kW.nil tk rfl) (fQ.cons (kW.of_eq rfl) fQ.nil))))
     ·have H := condF h H
      refine V.al (V.blk (V.ab (Ao.q tk rfl (Ao.q tk rfl (Ao.q tk rfl (Ao.q tk rfl ?_))))))
      obtain ⟨x54,h54,H⟩ := aj H
      have k54 := gIs h54
      refine Ao.idx tk rfl rfl rfl rfl rfl rfl k54.1 (aH (fun _=>rfl) k54.2) rfl ?_
      refine Ao.q tk rfl (Ao.q tk rfl (Ao.q tk rfl (Ao.q tk rfl (Ao.bsC tk rfl rfl rfl rfl (rows' := List.map av ([(LCol.mk x54 x31.1 x31.2.1)] : List LCol)) rfl (fj.refl _) rfl rfl ?_))))
      obtain ⟨x60,h60,H⟩ := aj H
      have k60 := cf h60
      refine Ao.co (rows2' := List.map av ([(LCol.mk x54 x31.1 x31.2.1)] : List LCol)) (rows' := List.map av x60) tk rfl rfl rfl rfl rfl rfl rfl rfl rfl rfl rfl rfl rfl (fj.refl _) (dp k60.1) (dv k60.2.1) (du k60.2.2) fun g60=>?_
      refine Ao.q tk rfl (Ao.nil (V.blk (V.ab (Ao.q tk rfl (Ao.q tk rfl (Ao.nil ?_))))))
      obtain rfl := ai H
      refine V.ax x60 g60 ⟨hl1,hg1⟩ (Gh.le (SLe.aa (PLe.q rfl) (SLe.aa (PLe.q rfl) (SLe.aa (PLe.q rfl) (SLe.aa (PLe.q rfl) (SLe.aa (PLe.q rfl) (SLe.aa (PLe.q rfl) (SLe.aa (PLe.q (az (by omega))) SLe.nil))))))) BLe.nil (OLe.am rfl OLe.nil))
  ·have hn1 := rMd (bm h) hr1
   refine V.aB rfl ?_
   refine V.at s1 g1 hn1 (Gh.le (SLe.aa (PLe.q rfl) (SLe.aa (PLe.q rfl) (SLe.aa (PLe.q rfl) (SLe.aa (PLe.q rfl) SLe.nil)))) BLe.nil (OLe.am rfl OLe.nil))
 ·have H := br hn1 Hp1
  refine V.seq (V.seq (V.ab (Ao.q tk rfl (Ao.q tk rfl (Ao.ay tk rfl rfl rfl rfl rfl (List.length_map _) rfl (Ao.q tk rfl (Ao.nil ?_)))))))
  obtain ⟨fl2,H2,Hp2⟩ := aj H
  refine V.aZ tk 63 rfl rfl (fun hz2 _=>?_)
  rw [List.length_map] at hz2
  refine V.cut (τ := List LCol) (γ := OwnRef) (fun s2 g2=>⟨91,upd (fun _=>.any) 8 (.own 60 g2 (s2.map av).length),fun _=>none,upd (fun _=>none) 60 (some ⟨g2,50,(s2.map av),true⟩)⟩) (fun t=>fl2 = .next t) ?_ (fun s2 g2 hn2=>?_)
  ·refine V.ap ?_
   refine V.aP (fun j2 s2 g2=>⟨91,upd (upd (upd (upd (upd (upd (fun _=>.any) 65 (ac (j2 : Int))) 64 (ac (q.aggregates.length : Int))) 63 (.list 66 (q.aggregates.map bl))) 8 (.own 60 g2 (s2.map av).length)) 3 (.ptr [(.list 91 (c.s.tables.map aO)),(.list 142 (c.s.foreignKeys.map bC)),(.list 148 (c.s.constraints.map bH)),(.list 50 (c.vars.map av))])) 2 (.list 50 (inA.map av)),fun _=>none,upd (fun _=>none) 60 (some ⟨g2,50,(s2.map av),true⟩)⟩) g1 H2 (Gh.le (SLe.aa (PLe.q rfl) (SLe.aa (PLe.q rfl) (SLe.aa (PLe.q rfl) (SLe.aa (PLe.q rfl) (SLe.aa (PLe.q rfl) (SLe.aa (PLe.q rfl) SLe.nil)))))) BLe.nil (OLe.am rfl OLe.nil)) (fun j2 s2 g2 hj2 hr2=>?_)
   refine V.seq (V.ab (Ao.q tk rfl (Ao.nil (V.seq ?_))))
   refine V.ak rfl (fun h=>?_) (fun h=>?_)
   ·have hl2 := bn h
    obtain ⟨x2,fb2,hx2,H,hg2⟩ := rMc hl2 hr2
    refine V.al (V.seq (V.ap (V.seq (V.ab ?_))))
    refine Ao.idx tk rfl rfl rfl rfl rfl rfl (Int.natCast_nonneg j2) (aY (fun _=>rfl) hx2) rfl ?_
    refine Ao.q tk rfl ?_
    refine Ao.aJ tk rfl rfl rfl rfl rfl rfl fun b15=>?_
    refine Ao.sB tk rfl rfl rfl rfl rfl rfl rfl rfl rfl rfl rfl (Ao.nil (V.seq (V.ab (Ao.q tk rfl (Ao.q tk rfl (Ao.lB tk rfl rfl rfl rfl rfl rfl rfl ?_))))))
    obtain ⟨x73,h73,H⟩ := aj H
    have s73 := nA c inA x2 _ h73
    refine Ao.ah (g := 181) rfl rfl rfl Tryz.call181 (il.r) s73 rfl (Ao.q tk rfl (Ao.q tk rfl (Ao.q tk rfl (Ao.q tk rfl (Ao.q tk rfl (Ao.nil (V.seq (V.seq (V.ab (Ao.q tk rfl (Ao.q tk rfl (Ao.nil ?_))))))))))))
    refine V.ak rfl (fun h=>?_) (fun h=>?_)
    ·have H := condT h H
     refine V.seq (V.ab (Ao.q tk rfl (Ao.q tk rfl (Ao.q tk rfl (Ao.nil ?_)))))
     obtain rfl := ai H
     have e2 : fl2 = .ret _ := hg2
     subst e2
     obtain rfl := aL Hp2
     refine V.aq tk rfl (ps := [(.val (.slice none 0 0)),(ac x73.2)]) ⟨_,_,rfl,rfl,_,_,rfl,rfl,rfl⟩ (PLe.of2 (kW.tup (fQ.cons (kW.nil tk rfl) (fQ.cons (kW.of_eq rfl) fQ.nil))))
    ·have H := condF h H
     refine V.al (V.ab (Ao.q tk rfl (Ao.q tk rfl (Ao.lB tk rfl rfl rfl rfl rfl rfl rfl (Ao.q tk rfl (Ao.q tk rfl (Ao.lB tk rfl rfl rfl rfl rfl rfl rfl (Ao.q tk rfl (Ao.q tk rfl ?_)))))))))
     refine Ao.bsC tk rfl rfl rfl rfl (rows' := List.map av ([(LCol.mk x2.name x73.1 (!(x2.function == ([99,111,117,110,116] : List UInt8))))] : List LCol)) rfl (fj.refl _) rfl rfl ?_
     obtain ⟨x88,h88,H⟩ := aj H
     have k88 := cf h88
     refine Ao.co (rows2' := List.map av ([(LCol.mk x2.name x73.1 (!(x2.function == ([99,111,117,110,116] : List UInt8))))] : List LCol)) (rows' := List.map av x88) tk rfl rfl rfl rfl rfl rfl rfl rfl rfl rfl rfl rfl rfl (fj.refl _) (dp k88.1) (dv k88.2.1) (du k88.2.2) fun g88=>?_
     refine Ao.q tk rfl (Ao.nil (V.blk (V.ab (Ao.q tk rfl (Ao.q tk rfl (Ao.nil ?_))))))
     obtain rfl := ai H
     refine V.ax x88 g88 ⟨hl2,hg2⟩ (Gh.le (SLe.aa (PLe.q rfl) (SLe.aa (PLe.q rfl) (SLe.aa (PLe.q rfl) (SLe.aa (PLe.q rfl) (SLe.aa (PLe.q rfl) (SLe.aa (PLe.q (az (by omega))) SLe.nil)))))) BLe.nil (OLe.am rfl OLe.nil))
   ·have hn2 := rMd (bm h) hr2
    refine V.aB rfl ?_
    refine V.at s2 g2 hn2 (Gh.le (SLe.aa (PLe.q rfl) SLe.nil) BLe.nil (OLe.am rfl OLe.nil))
  ·have H := br hn2 Hp2
   refine V.seq (V.ab (Ao.q tk rfl (Ao.q tk rfl (Ao.q tk rfl (Ao.nil ?_)))))
   obtain rfl := ai H
   refine V.dm 6 rfl rfl rfl ?_
   refine V.aq tk rfl (ps := [(.list 50 (s2.map av)),(ac 0)]) ⟨_,_,rfl,rfl,_,_,rfl,rfl,rfl⟩ (PLe.q rfl)
def dT (sA : LSchema) (inst : List LRelation) : Option (Int) :=
 cond ((inst.length : Int) != (sA.tables.length : Int))
  (some 3)
  (af (aE (σ := Unit) (ρ := (Int)) (fun (j1 : Nat) (x1 : LRelation) (_ : Unit) =>
   af (aC sA.tables (j1 : Int)) fun (x28 : LTable) =>
   cond (!(x1.table == x28.name))
    (some (.ret 3))
    (cond (decide ((x1.rows.length : Int) > (24 : Int)))
     (some (.ret 2))
     (af (aE (σ := Unit) (ρ := (Int)) (fun (j3 : Nat) (x3 : List LVal) (_ : Unit) =>
      af (dh x28 x3) fun x49 =>
      cond (x49 != (0 : Int))
       (some (.ret x49))
       (cond ((j3 : Int) == (0 : Int))
        (some (.next ()))
        (af (aC x1.rows (IntKind.i64.wrap ((j3 : Int) - (1 : Int)))) fun (x60 : List LVal) =>
        af (dO x28 x60) fun x62 =>
        af (dO x28 x3) fun x65 =>
        af (dU x62 x65) fun x66 =>
        cond (x66 == (0 : Int))
         (some (.ret 9))
         (cond (decide (x66 > (0 : Int)))
          (some (.ret 6))
          (some (.next ())))))) 0 x1.rows ()) fun fl3=>fl3.thenF fun (_ : Unit) =>
     some (.next ())))) 0 inst ()) fun fl1=>fl1.thenR fun (_ : Unit) =>
  some 0)
set_option maxHeartbeats 4000000 in
theorem kf (sA : LSchema) (inst : List LRelation) (r : Int) (H : dT sA inst = some r) :
  aG Tryz.prog 52 [(.agg (db sA)),(.list 87 (inst.map bg))] (ac r) := by
 unfold dT at H
 refine PH.intro Tryz.func52 rfl Tryz.ntmps52 rfl ?_
 refine V.seq (V.ab (Ao.aF rfl rfl rfl rfl rfl rfl (Ao.q tk rfl (Ao.nil (V.seq (V.seq (V.ab (Ao.q tk rfl (Ao.ay tk rfl rfl rfl rfl rfl (List.length_map _) rfl (Ao.q tk rfl (Ao.q tk rfl (Ao.ay tk rfl rfl rfl rfl rfl (List.length_map _) rfl (Ao.q tk rfl (Ao.nil ?_))))))))))))))
 refine V.ak rfl (fun h=>?_) (fun h=>?_)
 ·have H := condT h H
  refine V.seq (V.ab (Ao.q tk rfl (Ao.nil ?_)))
  obtain rfl := ai H
  refine V.aq tk rfl (ps := [(ac 3)]) ⟨_,_,rfl,rfl,rfl⟩ (PLe.q rfl)
 ·have H := condF h H
  refine V.al (V.seq (V.seq (V.ab (Ao.q tk rfl (Ao.ay tk rfl rfl rfl rfl rfl (List.length_map _) rfl (Ao.q tk rfl (Ao.nil ?_)))))))
  obtain ⟨fl1,H1,Hp1⟩ := aj H
  refine V.aZ tk 18 rfl rfl (fun hz1 _=>?_)
  rw [List.length_map] at hz1
  refine V.cut (τ := Unit) (γ := Unit) (fun s1 g1=>⟨75,fun _=>.any,fun _=>none,fun _=>none⟩) (fun t=>fl1 = .next t) ?_ (fun s1 g1 hn1=>?_)
  ·refine V.ap ?_
   refine V.aP (fun j1 s1 g1=>⟨75,upd (upd (upd (upd (fun _=>.any) 20 (ac (j1 : Int))) 19 (ac (inst.length : Int))) 18 (.list 87 (inst.map bg))) 2 (.ptr [(.list 91 (sA.tables.map aO)),(.list 142 (sA.foreignKeys.map bC)),(.list 148 (sA.constraints.map bH))]),fun _=>none,fun _=>none⟩) () H1 (Gh.le (SLe.aa (PLe.q rfl) (SLe.aa (PLe.q rfl) (SLe.aa (PLe.q rfl) (SLe.aa (PLe.q rfl) SLe.nil)))) BLe.nil OLe.nil) (fun j1 s1 g1 hj1 hr1=>?_)
   refine V.seq (V.ab (Ao.q tk rfl (Ao.nil (V.seq ?_))))
   refine V.ak rfl (fun h=>?_) (fun h=>?_)
   ·have hl1 := bn h
    obtain ⟨x1,fb1,hx1,H,hg1⟩ := rMc hl1 hr1
    refine V.al (V.seq (V.ap (V.seq (V.ab (Ao.q tk rfl ?_)))))
    refine Ao.idx tk rfl rfl rfl rfl rfl rfl (Int.natCast_nonneg j1) (aY (fun _=>rfl) hx1) rfl ?_
    refine Ao.q tk rfl ?_
    refine Ao.aJ tk rfl rfl rfl rfl rfl rfl fun b6=>?_
    refine Ao.q tk rfl (Ao.sB tk rfl rfl rfl rfl rfl rfl rfl rfl rfl rfl rfl (Ao.nil (V.seq (V.ab (Ao.q tk rfl (Ao.q tk rfl (Ao.q tk rfl ?_)))))))
    obtain ⟨x28,h28,H⟩ := aj H
    have k28 := gIs h28
    refine Ao.idx tk rfl rfl rfl rfl rfl rfl k28.1 (aH (fun _=>rfl) k28.2) rfl ?_
    refine Ao.q tk rfl ?_
    refine Ao.aJ tk rfl rfl rfl rfl rfl rfl fun b7=>?_
    refine Ao.sB tk rfl rfl rfl rfl rfl rfl rfl rfl rfl rfl rfl (Ao.nil (V.seq (V.seq (V.ab (Ao.q tk rfl (Ao.lB tk rfl rfl rfl rfl rfl rfl rfl (Ao.q tk rfl (Ao.lB tk rfl rfl rfl rfl rfl rfl rfl (Ao.q tk rfl (Ao.nil ?_))))))))))
    refine V.ak rfl (fun h=>?_) (fun h=>?_)
    ·have H := condT h H
     refine V.seq (V.ab (Ao.q tk rfl (Ao.nil ?_)))
     obtain rfl := ai H
     have e1 : fl1 = .ret _ := hg1
     subst e1
     obtain rfl := aL Hp1
     refine V.aq tk rfl (ps := [(ac 3)]) ⟨_,_,rfl,rfl,rfl⟩ (PLe.q rfl)
    ·have H := condF h H
     refine V.al (V.seq (V.seq (V.ab (Ao.q tk rfl (Ao.lB tk rfl rfl rfl rfl rfl rfl rfl (Ao.ay tk rfl rfl rfl rfl rfl (List.length_map _) rfl (Ao.q tk rfl (Ao.nil ?_))))))))
     refine V.ak rfl (fun h=>?_) (fun h=>?_)
     ·have H := condT h H
      refine V.seq (V.ab (Ao.q tk rfl (Ao.nil ?_)))
      obtain rfl := ai H
      have e1 : fl1 = .ret _ := hg1
      subst e1
      obtain rfl := aL Hp1
      refine V.aq tk rfl (ps := [(ac 2)]) ⟨_,_,rfl,rfl,rfl⟩ (PLe.q rfl)
     ·have H := condF h H
      refine V.al (V.seq (V.ab (Ao.q tk rfl (Ao.lB tk rfl rfl rfl rfl rfl rfl rfl (Ao.ay tk rfl rfl rfl rfl rfl (List.length_map _) rfl (Ao.q tk rfl (Ao.nil ?_)))))))
      obtain ⟨fl3,H3,Hp3⟩ := aj H
      refine V.aZ tk 40 rfl rfl (fun hz3 _=>?_)
      rw [List.length_map] at hz3
      refine V.cut (τ := Unit) (γ := Unit) (fun s3 g3=>⟨75,upd (upd (upd (upd (fun _=>.any) 20 (ac (j1 : Int))) 19 (ac (inst.length : Int))) 18 (.list 87 (inst.map bg))) 2 (.ptr [(.list 91 (sA.tables.map aO)),(.list 142 (sA.foreignKeys.map bC)),(.list 148 (sA.constraints.map bH))]),fun _=>none,fun _=>none⟩) (fun t=>fl3 = .next t) ?_ (fun s3 g3 hn3=>?_)
      ·refine V.ap ?_
       refine V.aP (fun j3 s3 g3=>⟨75,upd (upd (upd (upd (upd (upd (upd (upd (upd (fun _=>.any) 42 (ac (j3 : Int))) 41 (ac (x1.rows.length : Int))) 40 (.list 51 (x1.rows.map (ag 53 ae)))) 20 (ac (j1 : Int))) 19 (ac (inst.length : Int))) 18 (.list 87 (inst.map bg))) 7 (.box 7 b7 0)) 6 (.box 6 b6 0)) 2 (.ptr [(.list 91 (sA.tables.map aO)),(.list 142 (sA.foreignKeys.map bC)),(.list 148 (sA.constraints.map bH))]),upd (upd (fun _=>none) 7 (some ⟨b7,[(.str x28.name),(.list 50 (x28.columns.map av)),(.list 3 (x28.primaryKey.map aV))]⟩)) 6 (some ⟨b6,[(.str x1.table),(.list 51 (x1.rows.map (ag 53 ae)))]⟩),fun _=>none⟩) () H3 (Gh.le (SLe.aa (PLe.q rfl) (SLe.aa (PLe.q rfl) (SLe.aa (PLe.q rfl) (SLe.aa (PLe.q rfl) (SLe.aa (PLe.q rfl) (SLe.aa (PLe.q rfl) (SLe.aa (PLe.q rfl) (SLe.aa (PLe.q rfl) (SLe.aa (PLe.q rfl) SLe.nil))))))))) (BLe.ao rfl (il.r) (BLe.ao rfl (il.r) BLe.nil)) OLe.nil) (fun j3 s3 g3 hj3 hr3=>?_)
       refine V.seq (V.ab (Ao.q tk rfl (Ao.nil (V.seq ?_))))
       refine V.ak rfl (fun h=>?_) (fun h=>?_)
       ·have hl3 := bn h
        obtain ⟨x3,fb3,hx3,H,hg3⟩ := rMc hl3 hr3
        refine V.al (V.seq (V.ap (V.seq (V.ab (Ao.q tk rfl ?_)))))
        refine Ao.idx tk rfl rfl rfl rfl rfl rfl (Int.natCast_nonneg j3) (aY (fun _=>rfl) hx3) rfl ?_
        refine Ao.q tk rfl (Ao.q tk rfl (Ao.q tk rfl (Ao.nil (V.seq (V.seq (V.ab (Ao.lB tk rfl rfl rfl rfl rfl rfl rfl (Ao.q tk rfl ?_))))))))
        obtain ⟨x49,h49,H⟩ := aj H
        have s49 := ms x28 x3 _ h49
        refine Ao.ah (g := 84) rfl rfl rfl Tryz.call84 (il.r) s49 rfl (Ao.q tk rfl (Ao.nil (V.seq (V.ab (Ao.q tk rfl (Ao.q tk rfl (Ao.nil ?_)))))))
        refine V.ak rfl (fun h=>?_) (fun h=>?_)
        ·have H := condT h H
         refine V.seq (V.ab (Ao.q tk rfl (Ao.q tk rfl (Ao.nil ?_))))
         obtain rfl := ai H
         have e3 : fl3 = .ret _ := hg3
         subst e3
         have q3 := nS Hp3
         subst q3
         have e1 : fl1 = .ret _ := hg1
         subst e1
         obtain rfl := aL Hp1
         refine V.aq tk rfl (ps := [(ac x49)]) ⟨_,_,rfl,rfl,rfl⟩ (PLe.q rfl)
        ·have H := condF h H
         refine V.al (V.seq (V.seq (V.ab (Ao.q tk rfl (Ao.q tk rfl (Ao.nil ?_))))))
         refine V.ak rfl (fun h=>?_) (fun h=>?_)
         ·have H := condT h H
          refine V.aB rfl (V.ab (Ao.q tk rfl (Ao.q tk rfl (Ao.nil ?_))))
          obtain rfl := ai H
          refine V.ax () () ⟨hl3,hg3⟩ (Gh.le (SLe.aa (PLe.q rfl) (SLe.aa (PLe.q rfl) (SLe.aa (PLe.q rfl) (SLe.aa (PLe.q rfl) (SLe.aa (PLe.q rfl) (SLe.aa (PLe.q rfl) (SLe.aa (PLe.q rfl) (SLe.aa (PLe.q rfl) (SLe.aa (PLe.q (az (by omega))) SLe.nil))))))))) (BLe.ao rfl (il.r) (BLe.ao rfl (il.r) BLe.nil)) OLe.nil)
         ·have H := condF h H
          refine V.al (V.seq (V.bc tk mok ⟨true,false,[61]⟩ [0,1,2,3,4,5,6,8,9,7,10,11,12] rfl (by decide +kernel) rfl (Do.lB rfl rfl rfl rfl rfl rfl rfl rfl rfl (Do.q rfl (Do.lB rfl rfl rfl rfl rfl rfl rfl rfl rfl (Do.q rfl (Do.q rfl ?_)))))))
          obtain ⟨x60,h60,H⟩ := aj H
          have k60 := gIs h60
          refine Do.idx rfl rfl rfl rfl rfl rfl rfl k60.1 (aH (fun _=>rfl) k60.2) rfl ?_
          refine Do.q rfl (Do.lB rfl rfl rfl rfl rfl rfl rfl rfl rfl (Do.q rfl ?_))
          obtain ⟨x62,h62,H⟩ := aj H
          have s62 := mK x28 x60 _ h62
          refine Do.aR (g := 86) rfl rfl rfl rfl Tryz.call86 (il.r) s62 rfl ?_
          obtain ⟨x65,h65,H⟩ := aj H
          have s65 := mK x28 x3 _ h65
          refine Do.aR (g := 86) rfl rfl rfl rfl Tryz.call86 (il.r) s65 rfl ?_
          obtain ⟨x66,h66,H⟩ := aj H
          have s66 := nB x62 x65 _ h66
          refine Do.aR (g := 85) rfl rfl rfl rfl Tryz.call85 (il.r) s66 rfl (Do.q rfl (Do.nil (V.ap (V.seq (V.ab (Ao.q tk rfl (Ao.q tk rfl (Ao.q tk rfl (Ao.nil ?_)))))))))
          refine V.ak rfl (fun h=>?_) (fun h=>?_)
          ·have H := condT h H
           refine V.seq (V.ab (Ao.q tk rfl (Ao.nil ?_)))
           obtain rfl := ai H
           have e3 : fl3 = .ret _ := hg3
           subst e3
           have q3 := nS Hp3
           subst q3
           have e1 : fl1 = .ret _ := hg1
           subst e1
           obtain rfl := aL Hp1
           refine V.aq tk rfl (ps := [(ac 9)]) ⟨_,_,rfl,rfl,rfl⟩ (PLe.q rfl)
          ·have H := condF h H
           refine V.seq (V.ab (Ao.q tk rfl (Ao.q tk rfl (Ao.q tk rfl (Ao.nil ?_)))))
           refine V.ak rfl (fun h=>?_) (fun h=>?_)
           ·have H := condT h H
            refine V.seq (V.ab (Ao.q tk rfl (Ao.nil ?_)))
            obtain rfl := ai H
            have e3 : fl3 = .ret _ := hg3
            subst e3
            have q3 := nS Hp3
            subst q3
            have e1 : fl1 = .ret _ := hg1
            subst e1
            obtain rfl := aL Hp1
            refine V.aq tk rfl (ps := [(ac 6)]) ⟨_,_,rfl,rfl,rfl⟩ (PLe.q rfl)
           ·have H := condF h H
            refine V.al (V.blk (V.blk (V.ab (Ao.q tk rfl (Ao.q tk rfl (Ao.nil ?_))))))
            obtain rfl := ai H
            refine V.ax () () ⟨hl3,hg3⟩ (Gh.le (SLe.aa (PLe.q rfl) (SLe.aa (PLe.q rfl) (SLe.aa (PLe.q rfl) (SLe.aa (PLe.q rfl) (SLe.aa (PLe.q rfl) (SLe.aa (PLe.q rfl) (SLe.aa (PLe.q rfl) (SLe.aa (PLe.q rfl) (SLe.aa (PLe.q (az (by omega))) SLe.nil))))))))) (BLe.ao rfl (il.r) (BLe.ao rfl (il.r) BLe.nil)) OLe.nil)
       ·have hn3 := rMd (bm h) hr3
        refine V.aB rfl ?_
        refine V.at s3 g3 hn3 (Gh.le (SLe.aa (PLe.q rfl) (SLe.aa (PLe.q rfl) (SLe.aa (PLe.q rfl) (SLe.aa (PLe.q rfl) SLe.nil)))) BLe.nil OLe.nil)
      ·have H := thenF_next hn3 Hp3
       refine V.blk (V.ab (Ao.q tk rfl (Ao.q tk rfl (Ao.nil ?_))))
       obtain rfl := ai H
       refine V.ax () () ⟨hl1,hg1⟩ (Gh.le (SLe.aa (PLe.q rfl) (SLe.aa (PLe.q rfl) (SLe.aa (PLe.q rfl) (SLe.aa (PLe.q (az (by omega))) SLe.nil)))) BLe.nil OLe.nil)
   ·have hn1 := rMd (bm h) hr1
    refine V.aB rfl ?_
    refine V.at s1 g1 hn1 (Gh.le SLe.nil BLe.nil OLe.nil)
  ·have H := br hn1 Hp1
   refine V.seq (V.ab (Ao.q tk rfl (Ao.nil ?_)))
   obtain rfl := ai H
   refine V.aq tk rfl (ps := [(ac 0)]) ⟨_,_,rfl,rfl,rfl⟩ (PLe.q rfl)
def fN (x : List LVal) (c0 : LRun) (c1 : List LCol) (c2 : LQuery) : Option (Bool) :=
 af (aC c2.exprs 0) fun (x12 : LExpr) =>
 ba (aS c0 c1 x) fun x9 =>
 ba (bT x9 x12) fun x14 =>
 ba (jb x14) fun x15 =>
 some (!x15)
set_option maxHeartbeats 4000000 in
theorem nG (x : List LVal) (c0 : LRun) (c1 : List LCol) (c2 : LQuery) (r : Bool) (H : fN x c0 c1 c2 = some r) :
  aG Tryz.prog 136 [(.list 53 (x.map ae)),(.ptr (fP c0)),(.ptr [(.list 50 (c1.map av))]),(.ptr (aQ c2))] (au r) := by
 unfold fN at H
 refine PH.intro Tryz.func136 rfl Tryz.ntmps136 rfl ?_
 refine V.seq (V.ab (Ao.q tk rfl (Ao.nil (V.seq (V.bc tk mok ⟨false,false,[]⟩ [0,1,2,4,5,6,7,3,8,9,10,11] rfl (by decide +kernel) rfl (Do.q rfl (Do.q rfl (Do.q rfl (Do.q rfl (Do.q rfl ?_))))))))))
 obtain ⟨x12,h12,H⟩ := aj H
 have k12 := gIs h12
 refine Do.idx rfl rfl rfl rfl rfl rfl rfl k12.1 (aH cW k12.2) rfl (Do.q rfl ?_)
 obtain ⟨x9,h9,H⟩ := bA H
 have s9 := iF c0 c1 x
 rw [h9] at s9
 refine Do.aR (g := 139) rfl rfl rfl rfl Tryz.call139 (il.r) s9 rfl ?_
 obtain ⟨x14,h14,H⟩ := bA H
 have s14 := kN x9 x12
 rw [h14] at s14
 refine Do.aR (g := 138) rfl rfl rfl rfl Tryz.call138 (il.r) s14 rfl ?_
 obtain ⟨x15,h15,H⟩ := bA H
 have s15 := isTS x14
 rw [h15] at s15
 refine Do.aR (g := 137) rfl rfl rfl rfl Tryz.call137 (il.r) s15 rfl (Do.q rfl (Do.q rfl (Do.nil ?_)))
 obtain rfl := ai H
 refine V.aq tk rfl (ps := [(au (!x15))]) ⟨_,_,rfl,rfl,rfl⟩ (PLe.q rfl)
def cD (rA : LRun) (cols : List LCol) (x : List LVal) (l : List LExpr) : Option ((List LVal)) :=
 af (aE (σ := List LVal) (ρ := Empty) (fun (_ : Nat) (x1 : LExpr) (s1 : List LVal) =>
  ba (aS rA cols x) fun x22 =>
  ba (bT x22 x1) fun x24 =>
  af (cI 32 s1 ([x24] : List LVal)) fun (x26 : List LVal) =>
  some (.next x26)) 0 l []) fun fl1=>fl1.thenP fun (s1 : List LVal) =>
 some s1
set_option maxHeartbeats 4000000 in
theorem hZ (rA : LRun) (cols : List LCol) (x : List LVal) (l : List LExpr) (r : (List LVal)) (H : cD rA cols x l = some r) :
  aG Tryz.prog 140 [(.agg (fP rA)),(.list 50 (cols.map av)),(.list 53 (x.map ae)),(.list 56 (l.map aI))] (.list 53 (r.map ae)) := by
 unfold cD at H
 refine PH.intro Tryz.func140 rfl Tryz.ntmps140 rfl ?_
 refine V.seq (V.ab (Ao.aF rfl rfl rfl rfl rfl rfl (Ao.q tk rfl (Ao.nil (V.seq (V.ab (Ao.q tk rfl (Ao.nil (V.seq (V.seq (V.ab (Ao.q tk rfl (Ao.ay tk rfl rfl rfl rfl rfl (List.length_map _) rfl (Ao.q tk rfl ?_))))))))))))))
 refine Ao.nil ?_
 obtain ⟨fl1,H1,Hp1⟩ := aj H
 refine V.aZ tk 12 rfl rfl (fun hz1 _=>?_)
 rw [List.length_map] at hz1
 refine V.cut (τ := List LVal) (γ := OwnRef) (fun s1 g1=>⟨29,upd (fun _=>.any) 9 (.own 26 g1 (s1.map ae).length),fun _=>none,upd (fun _=>none) 26 (some ⟨g1,53,(s1.map ae),true⟩)⟩) (fun t=>fl1 = .next t) ?_ (fun s1 g1 hn1=>?_)
 ·refine V.ap (V.gr tk 9 26 (e := 53) rfl rfl ?_)
  refine V.aP (fun j1 s1 g1=>⟨29,upd (upd (upd (upd (upd (upd (upd (fun _=>.any) 14 (ac (j1 : Int))) 13 (ac (l.length : Int))) 12 (.list 56 (l.map aI))) 9 (.own 26 g1 (s1.map ae).length)) 4 (.ptr [(.list 91 (rA.s.tables.map aO)),(.list 142 (rA.s.foreignKeys.map bC)),(.list 148 (rA.s.constraints.map bH)),(.list 87 (rA.st.map bg)),(.list 53 (rA.args.map ae)),(.list 50 (rA.vars.map av)),(.list 9 (rA.names.map bo)),(.list 53 (rA.vals.map ae))])) 2 (.list 53 (x.map ae))) 1 (.list 50 (cols.map av)),fun _=>none,upd (fun _=>none) 26 (some ⟨g1,53,(s1.map ae),true⟩)⟩) (⟨none,0⟩) H1 (Gh.le (SLe.aa (PLe.q rfl) (SLe.aa (PLe.q rfl) (SLe.aa (PLe.q rfl) (SLe.aa (PLe.q rfl) (SLe.aa (PLe.q rfl) (SLe.aa (PLe.q rfl) (SLe.aa (PLe.q rfl) SLe.nil))))))) BLe.nil (OLe.am rfl OLe.nil)) (fun j1 s1 g1 hj1 hr1=>?_)
  refine V.seq (V.ab (Ao.q tk rfl (Ao.nil (V.seq ?_))))
  refine V.ak rfl (fun h=>?_) (fun h=>?_)
  ·have hl1 := bn h
   obtain ⟨x1,fb1,hx1,H,hg1⟩ := rMc hl1 hr1
   refine V.al (V.seq (V.ap (V.seq (V.ab (Ao.idx tk rfl rfl rfl rfl rfl rfl (Int.natCast_nonneg j1) (aY cW hx1) rfl (Ao.q tk rfl ?_))))))
   refine Ao.aJ tk rfl rfl rfl rfl rfl rfl fun b11=>?_
   refine Ao.sB tk rfl rfl rfl rfl rfl rfl rfl rfl rfl rfl rfl (Ao.nil (V.bc tk mok ⟨true,false,[19]⟩ [0,1,2,3,5,4,6,7,8,9] rfl (by decide +kernel) rfl (Do.q rfl (Do.q rfl (Do.q rfl (Do.q rfl (Do.lB rfl rfl rfl rfl rfl rfl rfl rfl rfl ?_)))))))
   obtain ⟨x22,h22,H⟩ := bA H
   have s22 := iF rA cols x
   rw [h22] at s22
   refine Do.aR (g := 139) rfl rfl rfl rfl Tryz.call139 (il.r) s22 rfl ?_
   obtain ⟨x24,h24,H⟩ := bA H
   have s24 := kN x22 x1
   rw [h24] at s24
   refine Do.aR (g := 138) rfl rfl rfl rfl Tryz.call138 (il.r) s24 rfl (Do.q rfl ?_)
   obtain ⟨x26,h26,H⟩ := aj H
   have k26 := cf h26
   refine Do.jM (rows2' := List.map ae ([x24] : List LVal)) (rows' := List.map ae x26) tk rfl rfl rfl rfl rfl rfl rfl rfl rfl rfl rfl rfl rfl rfl (fj.refl _) (dp k26.1) (dv k26.2.1) (du k26.2.2) fun g26=>?_
   refine Do.q rfl (Do.nil (V.blk (V.ab (Ao.q tk rfl (Ao.q tk rfl (Ao.nil ?_))))))
   obtain rfl := ai H
   refine V.ax x26 g26 ⟨hl1,hg1⟩ (Gh.le (SLe.aa (PLe.q rfl) (SLe.aa (PLe.q rfl) (SLe.aa (PLe.q rfl) (SLe.aa (PLe.q rfl) (SLe.aa (PLe.q rfl) (SLe.aa (PLe.q rfl) (SLe.aa (PLe.q (az (by omega))) SLe.nil))))))) BLe.nil (OLe.am rfl OLe.nil))
  ·have hn1 := rMd (bm h) hr1
   refine V.aB rfl ?_
   refine V.at s1 g1 hn1 (Gh.le (SLe.aa (PLe.q rfl) SLe.nil) BLe.nil (OLe.am rfl OLe.nil))
 ·have H := aW hn1 Hp1
  refine V.seq (V.ab (Ao.q tk rfl (Ao.q tk rfl (Ao.nil ?_))))
  obtain rfl := ai H
  refine V.dm 8 rfl rfl rfl ?_
  refine V.aq tk rfl (ps := [(.list 53 (s1.map ae))]) ⟨_,_,rfl,rfl,rfl⟩ (PLe.q rfl)
end
end Go.Proofs.YtgaggbdcedpapaaGreat

namespace Go.Proofs.YtgaggbdcedpapaaGreat
noncomputable section
open Go Go.Ab
attribute [local irreducible] V Ao Do Gh Eff PH IntKind.wrap
set_option maxRecDepth 4000
def hD (rA : LRun) (a : LAggregateCall) (cols : List LCol) (l : List (List LVal)) : Option (LVal) :=
 cond ((a.args.length : Int) == (0 : Int))
  (ba (bU (l.length : Int)) fun x19 =>
  some x19)
  (af (aE (σ := List LVal) (ρ := Empty) (fun (_ : Nat) (x1 : List LVal) (s1 : List LVal) =>
   af (aC a.args 0) fun (x32 : LExpr) =>
   ba (aS rA cols x1) fun x29 =>
   ba (bT x29 x32) fun x34 =>
   cond (x34.kind != (0 : Int))
    (af (cI 32 s1 ([x34] : List LVal)) fun (x41 : List LVal) =>
    some (.next x41))
    (some (.next s1))) 0 l []) fun fl1=>fl1.thenP fun (s1 : List LVal) =>
  af (er a.function s1) fun x46 =>
  some x46)
set_option maxHeartbeats 4000000 in
theorem oY (rA : LRun) (a : LAggregateCall) (cols : List LCol) (l : List (List LVal)) (r : LVal) (H : hD rA a cols l = some r) :
  aG Tryz.prog 173 [(.agg (fP rA)),(.agg (bl a)),(.list 50 (cols.map av)),(.list 51 (l.map (ag 53 ae)))] (.agg (ae r)) := by
 unfold hD at H
 refine PH.intro Tryz.func173 rfl Tryz.ntmps173 rfl ?_
 refine V.seq (V.ab (Ao.aF rfl rfl rfl rfl rfl rfl (Ao.aF rfl rfl rfl rfl rfl rfl ?_)))
 refine Ao.aJ tk rfl rfl rfl rfl rfl rfl fun b8=>?_
 refine Ao.nil (V.seq (V.seq (V.ab (Ao.q tk rfl (Ao.q tk rfl (Ao.ay tk rfl rfl rfl rfl rfl (List.length_map _) rfl (Ao.q tk rfl (Ao.nil ?_))))))))
 refine V.ak rfl (fun h=>?_) (fun h=>?_)
 ·have H := condT h H
  refine V.seq (V.ab (Ao.q tk rfl (Ao.ay tk rfl rfl rfl rfl rfl (List.length_map _) rfl ?_)))
  obtain ⟨x19,h19,H⟩ := bA H
  have s19 := mS (l.length : Int)
  rw [h19] at s19
  refine Ao.ah (g := 192) rfl rfl rfl Tryz.call192 (il.r) s19 rfl (Ao.sB tk rfl rfl rfl rfl rfl rfl rfl rfl rfl rfl rfl (Ao.nil ?_))
  obtain rfl := ai H
  refine V.aq tk rfl (ps := [(.agg [(ac x19.kind),(ac x19.int),(.str x19.text)])]) ⟨_,_,rfl,⟨_,_,_,_,_,rfl,rfl,rfl,rfl⟩,rfl⟩ (PLe.q rfl)
 ·have H := condF h H
  refine V.al (V.seq (V.ab (Ao.q tk rfl (Ao.nil (V.seq (V.seq (V.ab (Ao.q tk rfl (Ao.ay tk rfl rfl rfl rfl rfl (List.length_map _) rfl (Ao.q tk rfl (Ao.nil ?_)))))))))))
  obtain ⟨fl1,H1,Hp1⟩ := aj H
  refine V.aZ tk 20 rfl rfl (fun hz1 _=>?_)
  rw [List.length_map] at hz1
  refine V.cut (τ := List LVal) (γ := OwnRef) (fun s1 g1=>⟨47,upd (upd (upd (fun _=>.any) 9 (.own 41 g1 (s1.map ae).length)) 8 (.box 8 b8 0)) 5 (.ptr [(.str a.name),(.str a.function),(.list 56 (a.args.map aI))]),upd (fun _=>none) 8 (some ⟨b8,[(ac 0),(ac 0),(.str [])]⟩),upd (fun _=>none) 41 (some ⟨g1,53,(s1.map ae),true⟩)⟩) (fun t=>fl1 = .next t) ?_ (fun s1 g1 hn1=>?_)
  ·refine V.ap (V.gr tk 9 41 (e := 53) rfl rfl ?_)
   refine V.aP (fun j1 s1 g1=>⟨47,upd (upd (upd (upd (upd (upd (upd (upd (fun _=>.any) 22 (ac (j1 : Int))) 21 (ac (l.length : Int))) 20 (.list 51 (l.map (ag 53 ae)))) 9 (.own 41 g1 (s1.map ae).length)) 8 (.box 8 b8 0)) 5 (.ptr [(.str a.name),(.str a.function),(.list 56 (a.args.map aI))])) 4 (.ptr [(.list 91 (rA.s.tables.map aO)),(.list 142 (rA.s.foreignKeys.map bC)),(.list 148 (rA.s.constraints.map bH)),(.list 87 (rA.st.map bg)),(.list 53 (rA.args.map ae)),(.list 50 (rA.vars.map av)),(.list 9 (rA.names.map bo)),(.list 53 (rA.vals.map ae))])) 2 (.list 50 (cols.map av)),upd (fun _=>none) 8 (some ⟨b8,[(ac 0),(ac 0),(.str [])]⟩),upd (fun _=>none) 41 (some ⟨g1,53,(s1.map ae),true⟩)⟩) (⟨none,0⟩) H1 (Gh.le (SLe.aa (PLe.q rfl) (SLe.aa (PLe.q rfl) (SLe.aa (PLe.q rfl) (SLe.aa (PLe.q rfl) (SLe.aa (PLe.q rfl) (SLe.aa (PLe.q rfl) (SLe.aa (PLe.q rfl) (SLe.aa (PLe.q rfl) SLe.nil)))))))) (BLe.ao rfl (il.r) BLe.nil) (OLe.am rfl OLe.nil)) (fun j1 s1 g1 hj1 hr1=>?_)
   refine V.seq (V.ab (Ao.q tk rfl (Ao.nil (V.seq ?_))))
   refine V.ak rfl (fun h=>?_) (fun h=>?_)
   ·have hl1 := bn h
    obtain ⟨x1,fb1,hx1,H,hg1⟩ := rMc hl1 hr1
    refine V.al (V.seq (V.ap (V.seq (V.ab ?_))))
    refine Ao.idx tk rfl rfl rfl rfl rfl rfl (Int.natCast_nonneg j1) (aY (fun _=>rfl) hx1) rfl ?_
    refine Ao.q tk rfl (Ao.q tk rfl (Ao.nil (V.seq (V.bc tk mok ⟨false,false,[]⟩ [0,1,2,4,5,6,7,3,8,9,10] rfl (by decide +kernel) rfl (Do.q rfl (Do.q rfl (Do.q rfl (Do.q rfl (Do.q rfl ?_)))))))))
    obtain ⟨x32,h32,H⟩ := aj H
    have k32 := gIs h32
    refine Do.idx rfl rfl rfl rfl rfl rfl rfl k32.1 (aH cW k32.2) rfl (Do.q rfl ?_)
    obtain ⟨x29,h29,H⟩ := bA H
    have s29 := iF rA cols x1
    rw [h29] at s29
    refine Do.aR (g := 139) rfl rfl rfl rfl Tryz.call139 (il.r) s29 rfl ?_
    obtain ⟨x34,h34,H⟩ := bA H
    have s34 := kN x29 x32
    rw [h34] at s34
    refine Do.aR (g := 138) rfl rfl rfl rfl Tryz.call138 (il.r) s34 rfl ?_
    refine Do.alloc rfl rfl rfl rfl rfl rfl rfl rfl fun b12=>?_
    refine Do.sB rfl rfl rfl rfl rfl rfl rfl rfl rfl rfl rfl rfl (Do.nil (V.seq (V.ab (Ao.q tk rfl (Ao.lB tk rfl rfl rfl rfl rfl rfl rfl (Ao.q tk rfl (Ao.nil ?_)))))))
    refine V.ak rfl (fun h=>?_) (fun h=>?_)
    ·have H := condT h H
     refine V.ab (Ao.q tk rfl (Ao.lB tk rfl rfl rfl rfl rfl rfl rfl (Ao.bsC tk rfl rfl rfl rfl (rows' := List.map ae ([x34] : List LVal)) rfl (fj.refl _) rfl rfl ?_)))
     obtain ⟨x41,h41,H⟩ := aj H
     have k41 := cf h41
     refine Ao.co (rows2' := List.map ae ([x34] : List LVal)) (rows' := List.map ae x41) tk rfl rfl rfl rfl rfl rfl rfl rfl rfl rfl rfl rfl rfl (fj.refl _) (dp k41.1) (dv k41.2.1) (du k41.2.2) fun g41=>?_
     refine Ao.q tk rfl (Ao.nil (V.blk (V.ab (Ao.q tk rfl (Ao.q tk rfl (Ao.nil ?_))))))
     obtain rfl := ai H
     refine V.ax x41 g41 ⟨hl1,hg1⟩ (Gh.le (SLe.aa (PLe.q rfl) (SLe.aa (PLe.q rfl) (SLe.aa (PLe.q rfl) (SLe.aa (PLe.q rfl) (SLe.aa (PLe.q rfl) (SLe.aa (PLe.q rfl) (SLe.aa (PLe.q rfl) (SLe.aa (PLe.q (az (by omega))) SLe.nil)))))))) (BLe.ao rfl (il.r) BLe.nil) (OLe.am rfl OLe.nil))
    ·have H := condF h H
     refine V.al (V.blk (V.ab (Ao.q tk rfl (Ao.q tk rfl (Ao.nil ?_)))))
     obtain rfl := ai H
     refine V.ax s1 g1 ⟨hl1,hg1⟩ (Gh.le (SLe.aa (PLe.q rfl) (SLe.aa (PLe.q rfl) (SLe.aa (PLe.q rfl) (SLe.aa (PLe.q rfl) (SLe.aa (PLe.q rfl) (SLe.aa (PLe.q rfl) (SLe.aa (PLe.q rfl) (SLe.aa (PLe.q (az (by omega))) SLe.nil)))))))) (BLe.ao rfl (il.r) BLe.nil) (OLe.am rfl OLe.nil))
   ·have hn1 := rMd (bm h) hr1
    refine V.aB rfl ?_
    refine V.at s1 g1 hn1 (Gh.le (SLe.aa (PLe.q rfl) (SLe.aa (PLe.q rfl) (SLe.aa (PLe.q rfl) SLe.nil))) (BLe.ao rfl (il.r) BLe.nil) (OLe.am rfl OLe.nil))
  ·have H := aW hn1 Hp1
   refine V.seq (V.dm 9 rfl rfl rfl (V.ab (Ao.q tk rfl (Ao.q tk rfl (Ao.q tk rfl ?_)))))
   obtain ⟨x46,h46,H⟩ := aj H
   have s46 := lV a.function s1 _ h46
   refine Ao.ah (g := 193) rfl rfl rfl Tryz.call193 (il.r) s46 rfl (Ao.sB tk rfl rfl rfl rfl rfl rfl rfl rfl rfl rfl rfl (Ao.nil ?_))
   obtain rfl := ai H
   refine V.aq tk rfl (ps := [(.agg [(ac x46.kind),(ac x46.int),(.str x46.text)])]) ⟨_,_,rfl,⟨_,_,_,_,_,rfl,rfl,rfl,rfl⟩,rfl⟩ (PLe.q rfl)
def bV (x : List (List LVal)) (cmp : (List LVal) → (List LVal) → Option (Int)) : Option ((List (List LVal))) :=
 af (cX x (x.length : Int) cmp) fun x8 =>
 af (dL (x8.length = x.length) ()) fun (_ : Unit) =>
 some x8
set_option maxHeartbeats 4000000 in
theorem ix (g_x : OwnRef) {g_cmp : FuncId} {caps_cmp : List PV} (x : List (List LVal)) (cmp : (List LVal) → (List LVal) → Option (Int)) (hg_cmp : ∀ (vs : Array Value) (w : World),(callFunc g_cmp vs).run Tryz.prog w = .ok (.enter g_cmp vs) w) (hp_cmp : ∀ a0 a1 r,cmp a0 a1 = some r → aG Tryz.prog g_cmp ((.list 53 (a0.map ae)) :: (.list 53 (a1.map ae)) :: caps_cmp) (ac r)) (r : (List (List LVal))) (H : bV x cmp = some r) :
  PH Tryz.prog 174 [(.own 0 g_x (x.map (ag 53 ae)).length),(.fn g_cmp caps_cmp)] ⟨fun _=>none,upd (fun _=>none) 0 (some ⟨g_x,51,(x.map (ag 53 ae)),true⟩)⟩ (fun u H=>u = (.tup []) ∧ H = ⟨fun _=>none,upd (fun _=>none) 0 (some ⟨g_x,51,(r.map (ag 53 ae)),true⟩)⟩) := by
 unfold bV at H
 refine PH.intro Tryz.func174 rfl Tryz.ntmps174 rfl ?_
 refine V.ab (Ao.q tk rfl (Ao.q tk rfl (Ao.lenO tk rfl rfl rfl rfl rfl (List.length_map _) rfl (Ao.q tk rfl ?_))))
 obtain ⟨x8,h8,H⟩ := aj H
 have s8 := jJ g_x x (x.length : Int) cmp hg_cmp hp_cmp _ h8
 obtain ⟨_,q8_0,H⟩ := aj H
 have l8_0 := (cF q8_0).1
 have z8_0 : (List.map (ag 53 ae) x).length = (List.map (ag 53 ae) x8).length := by simpa using (l8_0).symm
 refine Ao.dr (g := 194) rfl rfl rfl Tryz.call194 [] [(0,0)] rfl rfl rfl rfl (il.of2 (fQ.cons (kW.own rfl) (fQ.cons (kW.of_eq rfl) (fQ.cons (kW.of_eq rfl) fQ.nil)))) (by rw [cN,cx,cO]; rfl) s8 ?_
 rintro u8 H8h ⟨rfl,rfl⟩
 refine ⟨_,rfl,?_⟩
 refine Ao.gh (st' := ⟨_,_,fun _=>none,upd (fun _=>none) 0 (some ⟨g_x,51,(x8.map (ag 53 ae)),true⟩)⟩) (Gh.le (SLe.cq _ _) BLe.nil (OLe.am rfl OLe.nil)) ?_
 refine Ao.nil ?_
 obtain rfl := ai H
 refine V.gh (st' := ⟨9,fun _=>.any,fun _=>none,upd (fun _=>none) 0 (some ⟨g_x,51,(x8.map (ag 53 ae)),true⟩)⟩) (Gh.le SLe.nil BLe.nil (OLe.am rfl OLe.nil)) ?_
 refine V.endH rfl (PLe.q rfl) ⟨rfl,rfl⟩
def dz (sA : LSchema) (c : LConstraint) : Option (Int) :=
 af (eo sA c.table) fun x14 =>
 cond (!x14.2)
  (some 4)
  (af (aC sA.tables x14.1) fun (x22 : LTable) =>
  ba (fp (LVal.mk 0 0 []) c.op (LVal.mk 0 0 [])) fun x30 =>
  ba (
   cond (decide (c.left < (0 : Int)))
    (true)
    (cond (decide (c.left ≥ (x22.columns.length : Int)))
     (true)
     (cond (x30.2 != (0 : Int))
      (true)
      (cond (decide (c.right < (-1)))
       (true)
       (cond (decide (c.right ≥ (x22.columns.length : Int)))
        (true)
        (cond (decide (c.right ≥ (0 : Int)))
         ((!(c.value.kind == (0 : Int) && (c.value.int == (0 : Int) && (c.value.text == ([] : List UInt8) && true)))))
         (false))))))) fun (t1 : Bool) =>
  cond t1
   (some 3)
   (cond (decide (c.right ≥ (0 : Int)))
    (af (aC x22.columns c.left) fun (x76 : LCol) =>
    af (aC x22.columns c.right) fun (x82 : LCol) =>
    cond (x76.kind != x82.kind)
     (some 7)
     (some 0))
    (af (aC x22.columns c.left) fun (x92 : LCol) =>
    cond (c.value.kind != x92.kind)
     (some 7)
     (ba (cB c.value) fun x98 =>
     some x98))))
set_option maxHeartbeats 4000000 in
theorem kQ (sA : LSchema) (c : LConstraint) (r : Int) (H : dz sA c = some r) :
  aG Tryz.prog 103 [(.agg (db sA)),(.agg (bH c))] (ac r) := by
 unfold dz at H
 refine PH.intro Tryz.func103 rfl Tryz.ntmps103 rfl ?_
 refine V.seq (V.ab (Ao.aF rfl rfl rfl rfl rfl rfl (Ao.aF rfl rfl rfl rfl rfl rfl (Ao.q tk rfl (Ao.nil (V.seq (V.ab (Ao.q tk rfl (Ao.q tk rfl (Ao.q tk rfl ?_))))))))))
 obtain ⟨x14,h14,H⟩ := aj H
 have s14 := iI sA c.table _ h14
 refine Ao.ah (g := 145) rfl rfl rfl Tryz.call145 (il.r) s14 rfl (Ao.q tk rfl (Ao.q tk rfl (Ao.q tk rfl (Ao.q tk rfl (Ao.q tk rfl (Ao.nil (V.seq (V.seq (V.ab (Ao.q tk rfl (Ao.q tk rfl (Ao.nil ?_))))))))))))
 refine V.ak rfl (fun h=>?_) (fun h=>?_)
 ·have H := condT h H
  refine V.seq (V.ab (Ao.q tk rfl (Ao.nil ?_)))
  obtain rfl := ai H
  refine V.aq tk rfl (ps := [(ac 4)]) ⟨_,_,rfl,rfl,rfl⟩ (PLe.q rfl)
 ·have H := condF h H
  refine V.al (V.seq (V.ab (Ao.q tk rfl (Ao.q tk rfl (Ao.q tk rfl ?_)))))
  obtain ⟨x22,h22,H⟩ := aj H
  have k22 := gIs h22
  refine Ao.idx tk rfl rfl rfl rfl rfl rfl k22.1 (aH (fun _=>rfl) k22.2) rfl ?_
  refine Ao.q tk rfl (Ao.q tk rfl (Ao.q tk rfl (Ao.nil (V.seq (V.ab (Ao.q tk rfl (Ao.q tk rfl (Ao.q tk rfl (Ao.q tk rfl ?_)))))))))
  obtain ⟨x30,h30,H⟩ := bA H
  have s30 := oD (LVal.mk 0 0 []) c.op (LVal.mk 0 0 [])
  rw [h30] at s30
  refine Ao.ah (g := 148) rfl rfl rfl Tryz.call148 (il.r) s30 rfl (Ao.q tk rfl (Ao.q tk rfl (Ao.q tk rfl (Ao.q tk rfl (Ao.q tk rfl (Ao.nil (V.seq (V.seq ?_))))))))
  obtain ⟨fl1,H1,Hp1⟩ := bA H
  refine V.cut (τ := Bool) (γ := Unit) (fun t1 g1=>⟨99,upd (upd (upd (fun _=>.any) 69 (au t1)) 7 (.list 50 (x22.columns.map av))) 3 (.ptr [(.str c.table),(ac c.left),(.str c.op),(ac c.right),(ac c.value.kind),(ac c.value.int),(.str c.value.text)]),fun _=>none,fun _=>none⟩) (fun t=>t = fl1) ?_ (fun t1 g1 hn1=>?_)
  ·have H := H1
   refine V.ab (Ao.q tk rfl (Ao.q tk rfl (Ao.q tk rfl (Ao.q tk rfl ?_))))
   refine Ao.aA rfl rfl rfl (fun h=>?_) (fun h=>?_)
   ·have H := condT h H
    refine Ao.q tk rfl (Ao.q tk rfl (Ao.q tk rfl (Ao.q tk rfl (Ao.q tk rfl (Ao.q tk rfl (Ao.q tk rfl (Ao.q tk rfl (Ao.q tk rfl (Ao.q tk rfl (Ao.q tk rfl (Ao.q tk rfl (Ao.q tk rfl (Ao.q tk rfl (Ao.q tk rfl (Ao.q tk rfl (Ao.q tk rfl (Ao.q tk rfl (Ao.q tk rfl (Ao.q tk rfl (Ao.q tk rfl (Ao.q tk rfl (Ao.q tk rfl (Ao.q tk rfl (Ao.q tk rfl (Ao.q tk rfl (Ao.q tk rfl (Ao.q tk rfl (Ao.q tk rfl (Ao.q tk rfl (Ao.q tk rfl (Ao.q tk rfl (Ao.q tk rfl ?_))))))))))))))))))))))))))))))))
    refine Ao.nil ?_
    subst H
    refine V.at true () rfl (Gh.le (SLe.aa (PLe.q rfl) (SLe.aa (PLe.q rfl) (SLe.aa (PLe.q rfl) SLe.nil))) BLe.nil OLe.nil)
   ·have H := condF h H
    refine Ao.q tk rfl (Ao.q tk rfl (Ao.q tk rfl (Ao.ay tk rfl rfl rfl rfl rfl (List.length_map _) rfl (Ao.q tk rfl (Ao.q tk rfl (Ao.q tk rfl ?_))))))
    refine Ao.aA rfl rfl rfl (fun h=>?_) (fun h=>?_)
    ·have H := condT h H
     refine Ao.q tk rfl (Ao.q tk rfl (Ao.q tk rfl (Ao.q tk rfl (Ao.q tk rfl (Ao.q tk rfl (Ao.q tk rfl (Ao.q tk rfl (Ao.q tk rfl (Ao.q tk rfl (Ao.q tk rfl (Ao.q tk rfl (Ao.q tk rfl (Ao.q tk rfl (Ao.q tk rfl (Ao.q tk rfl (Ao.q tk rfl (Ao.q tk rfl (Ao.q tk rfl (Ao.q tk rfl (Ao.q tk rfl (Ao.q tk rfl (Ao.q tk rfl (Ao.q tk rfl (Ao.q tk rfl (Ao.q tk rfl ?_)))))))))))))))))))))))))
     refine Ao.nil ?_
     subst H
     refine V.at true () rfl (Gh.le (SLe.aa (PLe.q rfl) (SLe.aa (PLe.q rfl) (SLe.aa (PLe.q rfl) SLe.nil))) BLe.nil OLe.nil)
    ·have H := condF h H
     refine Ao.q tk rfl (Ao.q tk rfl (Ao.q tk rfl (Ao.q tk rfl ?_)))
     refine Ao.aA rfl rfl rfl (fun h=>?_) (fun h=>?_)
     ·have H := condT h H
      refine Ao.q tk rfl (Ao.q tk rfl (Ao.q tk rfl (Ao.q tk rfl (Ao.q tk rfl (Ao.q tk rfl (Ao.q tk rfl (Ao.q tk rfl (Ao.q tk rfl (Ao.q tk rfl (Ao.q tk rfl (Ao.q tk rfl (Ao.q tk rfl (Ao.q tk rfl (Ao.q tk rfl (Ao.q tk rfl (Ao.q tk rfl (Ao.q tk rfl (Ao.q tk rfl (Ao.q tk rfl (Ao.q tk rfl (Ao.q tk rfl ?_)))))))))))))))))))))
      refine Ao.nil ?_
      subst H
      refine V.at true () rfl (Gh.le (SLe.aa (PLe.q rfl) (SLe.aa (PLe.q rfl) (SLe.aa (PLe.q rfl) SLe.nil))) BLe.nil OLe.nil)
     ·have H := condF h H
      refine Ao.q tk rfl (Ao.q tk rfl (Ao.q tk rfl (Ao.q tk rfl (Ao.q tk rfl ?_))))
      refine Ao.aA rfl rfl rfl (fun h=>?_) (fun h=>?_)
      ·have H := condT h H
       refine Ao.q tk rfl (Ao.q tk rfl (Ao.q tk rfl (Ao.q tk rfl (Ao.q tk rfl (Ao.q tk rfl (Ao.q tk rfl (Ao.q tk rfl (Ao.q tk rfl (Ao.q tk rfl (Ao.q tk rfl (Ao.q tk rfl (Ao.q tk rfl (Ao.q tk rfl (Ao.q tk rfl (Ao.q tk rfl (Ao.q tk rfl ?_))))))))))))))))
       refine Ao.nil ?_
       subst H
       refine V.at true () rfl (Gh.le (SLe.aa (PLe.q rfl) (SLe.aa (PLe.q rfl) (SLe.aa (PLe.q rfl) SLe.nil))) BLe.nil OLe.nil)
      ·have H := condF h H
       refine Ao.q tk rfl (Ao.q tk rfl (Ao.q tk rfl (Ao.ay tk rfl rfl rfl rfl rfl (List.length_map _) rfl (Ao.q tk rfl (Ao.q tk rfl (Ao.q tk rfl ?_))))))
       refine Ao.aA rfl rfl rfl (fun h=>?_) (fun h=>?_)
       ·have H := condT h H
        refine Ao.q tk rfl (Ao.q tk rfl (Ao.q tk rfl (Ao.q tk rfl (Ao.q tk rfl (Ao.q tk rfl (Ao.q tk rfl (Ao.q tk rfl (Ao.q tk rfl (Ao.q tk rfl (Ao.nil ?_))))))))))
        subst H
        refine V.at true () rfl (Gh.le (SLe.aa (PLe.q rfl) (SLe.aa (PLe.q rfl) (SLe.aa (PLe.q rfl) SLe.nil))) BLe.nil OLe.nil)
       ·have H := condF h H
        refine Ao.q tk rfl (Ao.q tk rfl (Ao.q tk rfl (Ao.q tk rfl ?_)))
        refine Ao.aA rfl rfl rfl (fun h=>?_) (fun h=>?_)
        ·have H := condT h H
         refine Ao.q tk rfl (Ao.q tk rfl (Ao.q tk rfl (Ao.q tk rfl (Ao.q tk rfl (Ao.q tk rfl (Ao.nil ?_))))))
         subst H
         refine V.at (!(c.value.kind == (0 : Int) && (c.value.int == (0 : Int) && (c.value.text == ([] : List UInt8) && true)))) () rfl (Gh.le (SLe.aa (PLe.q rfl) (SLe.aa (PLe.q rfl) (SLe.aa (PLe.q rfl) SLe.nil))) BLe.nil OLe.nil)
        ·have H := condF h H
         refine Ao.q tk rfl (Ao.q tk rfl (Ao.q tk rfl (Ao.q tk rfl (Ao.q tk rfl (Ao.q tk rfl (Ao.nil ?_))))))
         subst H
         refine V.at false () rfl (Gh.le (SLe.aa (PLe.q rfl) (SLe.aa (PLe.q rfl) (SLe.aa (PLe.q rfl) SLe.nil))) BLe.nil OLe.nil)
  ·subst hn1
   have H := Hp1
   refine V.ak rfl (fun h=>?_) (fun h=>?_)
   ·have H := condT h H
    refine V.seq (V.ab (Ao.q tk rfl (Ao.nil ?_)))
    obtain rfl := ai H
    refine V.aq tk rfl (ps := [(ac 3)]) ⟨_,_,rfl,rfl,rfl⟩ (PLe.q rfl)
   ·have H := condF h H
    refine V.al (V.seq (V.seq (V.ab (Ao.q tk rfl (Ao.q tk rfl (Ao.q tk rfl (Ao.nil ?_)))))))
    refine V.ak rfl (fun h=>?_) (fun h=>?_)
    ·have H := condT h H
     refine V.seq (V.seq (V.bc tk mok ⟨false,false,[]⟩ [0,1,2,3,4,5,6,7,8,9,10,11,12] rfl (by decide +kernel) rfl (Do.q rfl (Do.q rfl (Do.q rfl ?_)))))
     obtain ⟨x76,h76,H⟩ := aj H
     have k76 := gIs h76
     refine Do.idx rfl rfl rfl rfl rfl rfl rfl k76.1 (aH (fun _=>rfl) k76.2) rfl ?_
     refine Do.q rfl (Do.q rfl (Do.q rfl (Do.q rfl (Do.q rfl ?_))))
     obtain ⟨x82,h82,H⟩ := aj H
     have k82 := gIs h82
     refine Do.idx rfl rfl rfl rfl rfl rfl rfl k82.1 (aH (fun _=>rfl) k82.2) rfl ?_
     refine Do.q rfl (Do.q rfl (Do.q rfl (Do.nil ?_)))
     refine V.ak rfl (fun h=>?_) (fun h=>?_)
     ·have H := condT h H
      refine V.seq (V.ab (Ao.q tk rfl (Ao.nil ?_)))
      obtain rfl := ai H
      refine V.aq tk rfl (ps := [(ac 7)]) ⟨_,_,rfl,rfl,rfl⟩ (PLe.q rfl)
     ·have H := condF h H
      refine V.al (V.seq (V.ab (Ao.q tk rfl (Ao.nil ?_))))
      obtain rfl := ai H
      refine V.aq tk rfl (ps := [(ac 0)]) ⟨_,_,rfl,rfl,rfl⟩ (PLe.q rfl)
    ·have H := condF h H
     refine V.al (V.seq (V.seq (V.bc tk mok ⟨false,false,[]⟩ [0,1,2,3,4,5,6,7,8,9] rfl (by decide +kernel) rfl (Do.q rfl (Do.q rfl (Do.q rfl (Do.q rfl (Do.q rfl (Do.q rfl ?_)))))))))
     obtain ⟨x92,h92,H⟩ := aj H
     have k92 := gIs h92
     refine Do.idx rfl rfl rfl rfl rfl rfl rfl k92.1 (aH (fun _=>rfl) k92.2) rfl ?_
     refine Do.q rfl (Do.q rfl (Do.q rfl (Do.nil ?_)))
     refine V.ak rfl (fun h=>?_) (fun h=>?_)
     ·have H := condT h H
      refine V.seq (V.ab (Ao.q tk rfl (Ao.nil ?_)))
      obtain rfl := ai H
      refine V.aq tk rfl (ps := [(ac 7)]) ⟨_,_,rfl,rfl,rfl⟩ (PLe.q rfl)
     ·have H := condF h H
      refine V.al (V.seq (V.ab (Ao.q tk rfl (Ao.q tk rfl ?_))))
      obtain ⟨x98,h98,H⟩ := bA H
      have s98 := lK c.value
      rw [h98] at s98
      refine Ao.ah (g := 105) rfl rfl rfl Tryz.call105 (il.r) s98 rfl (Ao.q tk rfl (Ao.nil ?_))
      obtain rfl := ai H
      refine V.aq tk rfl (ps := [(ac x98)]) ⟨_,_,rfl,rfl,rfl⟩ (PLe.q rfl)
end
end Go.Proofs.YtgaggbdcedpapaaGreat

namespace Go.Proofs.YtgaggbdcedpapaaGreat
noncomputable section
open Go Go.Ab
attribute [local irreducible] V Ao Do Gh Eff PH IntKind.wrap
set_option maxRecDepth 4000
def fC (c : LChecker) (q : LQuery) (inA : List (List LCol)) : Option ((List LCol) × Int) :=
 cond (q.kind == (1 : Int))
  (af (bW c.s.tables (fun a0=>some (dq a0 q))) fun x25 =>
  cond (decide (x25 < (0 : Int)))
   (some ([],4))
   (af (aC c.s.tables x25) fun (x32 : LTable) =>
   some (x32.columns,0)))
  (cond (q.kind == (2 : Int))
   (af (aC inA 0) fun (x39 : List LCol) =>
   af (aC inA 0) fun (x43 : List LCol) =>
   af (aC q.exprs 0) fun (x47 : LExpr) =>
   ba (cE c x43 x47) fun x49 =>
   some (x39,x49))
   (ba (
    cond (q.kind == (4 : Int))
     ((q.kind == (4 : Int)))
     ((q.kind == (5 : Int)))) fun (t1 : Bool) =>
   cond t1
    (af (aC inA 0) fun (x54 : List LCol) =>
    af (aC inA 1) fun (x58 : List LCol) =>
    af (aE (σ := List LCol) (ρ := Empty) (fun (_ : Nat) (x2 : LCol) (s2 : List LCol) =>
     cond x2.nullable
      (af (cI 32 s2 ([(LCol.mk x2.name x2.kind true)] : List LCol)) fun (x76 : List LCol) =>
      some (.next x76))
      (af (cI 32 s2 ([(LCol.mk x2.name x2.kind (q.kind == (5 : Int)))] : List LCol)) fun (x76 : List LCol) =>
      some (.next x76))) 0 x58 x54) fun fl2=>fl2.thenP fun (s2 : List LCol) =>
    af (aC q.exprs 0) fun (x83 : LExpr) =>
    ba (cE c s2 x83) fun x85 =>
    some (s2,x85))
    (ba (
     cond (q.kind == (6 : Int))
      ((q.kind == (6 : Int)))
      ((q.kind == (7 : Int)))) fun (t3 : Bool) =>
    cond t3
     (af (aC inA 0) fun (x92 : List LCol) =>
     af (aC inA 1) fun (x95 : List LCol) =>
     af (fO q.kind x92 x95) fun x97 =>
     some (x97.1,x97.2))
     (ba (
      cond (q.kind == (3 : Int))
       ((q.kind == (3 : Int)))
       ((q.kind == (8 : Int)))) fun (t4 : Bool) =>
     cond t4
      (af (aC inA 0) fun (x106 : List LCol) =>
      af (dn c q x106) fun x108 =>
      some (x108.1,x108.2))
      (cond (q.kind == (9 : Int))
       (af (aE (σ := Unit) (ρ := ((List LCol) × Int)) (fun (_ : Nat) (x5 : LExpr) (_ : Unit) =>
        af (aC inA 0) fun (x122 : List LCol) =>
        ba (ci x122 c.vars x5) fun x127 =>
        cond (x127.2.2 != (0 : Int))
         (some (.ret ([],x127.2.2)))
         (some (.next ()))) 0 q.exprs ()) fun fl5=>fl5.thenR fun (_ : Unit) =>
       af (aC inA 0) fun (x136 : List LCol) =>
       some (x136,0))
       (af (aC inA 0) fun (x136 : List LCol) =>
       some (x136,0)))))))
set_option maxHeartbeats 4000000 in
theorem nD (c : LChecker) (q : LQuery) (inA : List (List LCol)) (r : (List LCol) × Int) (H : fC c q inA = some r) :
  aG Tryz.prog 111 [(.agg (hJ c)),(.agg (aQ q)),(.list 39 (inA.map (ag 50 av)))] (.tup [(.list 50 (r.1.map av)),(ac r.2)]) := by
 unfold fC at H
 refine PH.intro Tryz.func111 rfl Tryz.ntmps111 rfl ?_
 refine V.seq (V.ab (Ao.aF rfl rfl rfl rfl rfl rfl (Ao.aF rfl rfl rfl rfl rfl rfl (Ao.q tk rfl (Ao.q tk rfl (Ao.nil (V.seq (V.seq (V.ab (Ao.q tk rfl (Ao.q tk rfl (Ao.nil (V.ap (V.seq ?_))))))))))))))
 refine V.ab (Ao.q tk rfl (Ao.q tk rfl (Ao.nil ?_)))
 refine V.ak rfl (fun h=>?_) (fun h=>?_)
 ·have H := condT h H
  refine V.seq (V.ab (Ao.q tk rfl (Ao.q tk rfl (Ao.q tk rfl (Ao.q tk rfl ?_)))))
  obtain ⟨x25,h25,H⟩ := aj H
  have s25 := fv c.s.tables (fun a0=>some (dq a0 q)) Tryz.call154 (fun a0 r h=>(ai h) ▸ mB a0 q) _ h25
  refine Ao.ah (g := 153) rfl rfl rfl Tryz.call153 (il.r) s25 rfl (Ao.q tk rfl (Ao.nil (V.seq (V.seq (V.ab (Ao.q tk rfl (Ao.q tk rfl (Ao.nil ?_))))))))
  refine V.ak rfl (fun h=>?_) (fun h=>?_)
  ·have H := condT h H
   refine V.seq (V.ab (Ao.q tk rfl (Ao.q tk rfl (Ao.nil ?_))))
   obtain rfl := ai H
   refine V.aq tk rfl (ps := [(.val (.slice none 0 0)),(ac 4)]) ⟨_,_,rfl,rfl,_,_,rfl,rfl,rfl⟩ (PLe.of2 (kW.tup (fQ.cons (kW.nil tk rfl) (fQ.cons (kW.of_eq rfl) fQ.nil))))
  ·have H := condF h H
   refine V.al (V.seq (V.ab (Ao.q tk rfl (Ao.q tk rfl (Ao.q tk rfl (Ao.q tk rfl ?_))))))
   obtain ⟨x32,h32,H⟩ := aj H
   have k32 := gIs h32
   refine Ao.idx tk rfl rfl rfl rfl rfl rfl k32.1 (aH (fun _=>rfl) k32.2) rfl ?_
   refine Ao.q tk rfl (Ao.q tk rfl ?_)
   have s35 := mi (m := 35) x32.columns
   refine Ao.ah (g := 155) rfl rfl rfl Tryz.call155 (il.r) (PFun.hP s35) rfl (Ao.q tk rfl (Ao.q tk rfl (Ao.nil ?_)))
   obtain rfl := ai H
   refine V.aq tk rfl (ps := [(.list 50 (x32.columns.map av)),(ac 0)]) ⟨_,_,rfl,rfl,_,_,rfl,rfl,rfl⟩ (PLe.q rfl)
 ·have H := condF h H
  refine V.seq (V.ab (Ao.q tk rfl (Ao.q tk rfl (Ao.nil ?_))))
  refine V.ak rfl (fun h=>?_) (fun h=>?_)
  ·have H := condT h H
   refine V.seq (V.bc tk mok ⟨false,false,[]⟩ [0,1,2,3,4,5,6,7,8,9,10,11,12,13] rfl (by decide +kernel) rfl (Do.q rfl ?_))
   obtain ⟨x39,h39,H⟩ := aj H
   have k39 := gIs h39
   refine Do.idx rfl rfl rfl rfl rfl rfl rfl k39.1 (aH (fun _=>rfl) k39.2) rfl ?_
   refine Do.q rfl (Do.q rfl (Do.q rfl ?_))
   obtain ⟨x43,h43,H⟩ := aj H
   have k43 := gIs h43
   refine Do.idx rfl rfl rfl rfl rfl rfl rfl k43.1 (aH (fun _=>rfl) k43.2) rfl ?_
   refine Do.q rfl (Do.q rfl (Do.q rfl ?_))
   obtain ⟨x47,h47,H⟩ := aj H
   have k47 := gIs h47
   refine Do.idx rfl rfl rfl rfl rfl rfl rfl k47.1 (aH cW k47.2) rfl (Do.q rfl ?_)
   obtain ⟨x49,h49,H⟩ := bA H
   have s49 := iH c x43 x47
   rw [h49] at s49
   refine Do.aR (g := 156) rfl rfl rfl rfl Tryz.call156 (il.r) s49 rfl (Do.q rfl (Do.q rfl (Do.nil ?_)))
   obtain rfl := ai H
   refine V.aq tk rfl (ps := [(.list 50 (x39.map av)),(ac x49)]) ⟨_,_,rfl,rfl,_,_,rfl,rfl,rfl⟩ (PLe.q rfl)
  ·have H := condF h H
   refine V.seq (V.seq (V.ab (Ao.q tk rfl (Ao.q tk rfl (Ao.nil ?_)))))
   obtain ⟨fl1,H1,Hp1⟩ := bA H
   refine V.cut (τ := Bool) (γ := Unit) (fun t1 g1=>⟨138,upd (upd (upd (upd (upd (fun _=>.any) 50 (au t1)) 18 (ac q.kind)) 4 (.ptr [(ac q.kind),(.str q.table),(.list 9 (q.names.map bo)),(.list 56 (q.exprs.map aI)),(.list 66 (q.aggregates.map bl)),(.list 4 (q.descending.map bB)),(ac q.count),(ac q.offset),(.list 35 (q.inputs.map aD))])) 3 (.ptr [(.list 91 (c.s.tables.map aO)),(.list 142 (c.s.foreignKeys.map bC)),(.list 148 (c.s.constraints.map bH)),(.list 50 (c.vars.map av))])) 2 (.list 39 (inA.map (ag 50 av))),fun _=>none,fun _=>none⟩) (fun t=>t = fl1) ?_ (fun t1 g1 hn1=>?_)
   ·have H := H1
    refine V.ak rfl (fun h=>?_) (fun h=>?_)
    ·have H := condT h H
     refine V.al ?_
     subst H
     refine V.at (q.kind == (4 : Int)) () rfl (Gh.le (SLe.aa (PLe.q rfl) (SLe.aa (PLe.q rfl) (SLe.aa (PLe.q rfl) (SLe.aa (PLe.q rfl) (SLe.aa (PLe.q rfl) SLe.nil))))) BLe.nil OLe.nil)
    ·have H := condF h H
     refine V.ab (Ao.q tk rfl (Ao.q tk rfl (Ao.nil ?_)))
     subst H
     refine V.at (q.kind == (5 : Int)) () rfl (Gh.le (SLe.aa (PLe.q rfl) (SLe.aa (PLe.q rfl) (SLe.aa (PLe.q rfl) (SLe.aa (PLe.q rfl) (SLe.aa (PLe.q rfl) SLe.nil))))) BLe.nil OLe.nil)
   ·subst hn1
    have H := Hp1
    refine V.ak rfl (fun h=>?_) (fun h=>?_)
    ·have H := condT h H
     refine V.seq (V.ab (Ao.q tk rfl ?_))
     obtain ⟨x54,h54,H⟩ := aj H
     have k54 := gIs h54
     refine Ao.idx tk rfl rfl rfl rfl rfl rfl k54.1 (aH (fun _=>rfl) k54.2) rfl ?_
     refine Ao.q tk rfl ?_
     have s56 := mi (m := 56) x54
     refine Ao.callO (g := 155) rfl rfl rfl Tryz.call155 (il.r) rfl rfl s56 (fun g56=>?_)
     refine Ao.q tk rfl (Ao.nil (V.seq (V.seq (V.ab (Ao.q tk rfl ?_)))))
     obtain ⟨x58,h58,H⟩ := aj H
     have k58 := gIs h58
     refine Ao.idx tk rfl rfl rfl rfl rfl rfl k58.1 (aH (fun _=>rfl) k58.2) rfl ?_
     refine Ao.q tk rfl (Ao.ay tk rfl rfl rfl rfl rfl (List.length_map _) rfl (Ao.q tk rfl (Ao.nil ?_)))
     obtain ⟨fl2,H2,Hp2⟩ := aj H
     refine V.aZ tk 59 rfl rfl (fun hz2 _=>?_)
     rw [List.length_map] at hz2
     refine V.cut (τ := List LCol) (γ := OwnRef) (fun s2 g2=>⟨138,upd (upd (upd (fun _=>.any) 9 (.own 56 g2 (s2.map av).length)) 4 (.ptr [(ac q.kind),(.str q.table),(.list 9 (q.names.map bo)),(.list 56 (q.exprs.map aI)),(.list 66 (q.aggregates.map bl)),(.list 4 (q.descending.map bB)),(ac q.count),(ac q.offset),(.list 35 (q.inputs.map aD))])) 3 (.ptr [(.list 91 (c.s.tables.map aO)),(.list 142 (c.s.foreignKeys.map bC)),(.list 148 (c.s.constraints.map bH)),(.list 50 (c.vars.map av))]),fun _=>none,upd (fun _=>none) 56 (some ⟨g2,50,(s2.map av),true⟩)⟩) (fun t=>fl2 = .next t) ?_ (fun s2 g2 hn2=>?_)
     ·refine V.ap ?_
      refine V.aP (fun j2 s2 g2=>⟨138,upd (upd (upd (upd (upd (upd (fun _=>.any) 61 (ac (j2 : Int))) 60 (ac (x58.length : Int))) 59 (.list 50 (x58.map av))) 9 (.own 56 g2 (s2.map av).length)) 4 (.ptr [(ac q.kind),(.str q.table),(.list 9 (q.names.map bo)),(.list 56 (q.exprs.map aI)),(.list 66 (q.aggregates.map bl)),(.list 4 (q.descending.map bB)),(ac q.count),(ac q.offset),(.list 35 (q.inputs.map aD))])) 3 (.ptr [(.list 91 (c.s.tables.map aO)),(.list 142 (c.s.foreignKeys.map bC)),(.list 148 (c.s.constraints.map bH)),(.list 50 (c.vars.map av))]),fun _=>none,upd (fun _=>none) 56 (some ⟨g2,50,(s2.map av),true⟩)⟩) g56 H2 (Gh.le (SLe.aa (PLe.q rfl) (SLe.aa (PLe.q rfl) (SLe.aa (PLe.q rfl) (SLe.aa (PLe.q rfl) (SLe.aa (PLe.q rfl) (SLe.aa (PLe.q rfl) SLe.nil)))))) BLe.nil (OLe.am rfl OLe.nil)) (fun j2 s2 g2 hj2 hr2=>?_)
      refine V.seq (V.ab (Ao.q tk rfl (Ao.nil (V.seq ?_))))
      refine V.ak rfl (fun h=>?_) (fun h=>?_)
      ·have hl2 := bn h
       obtain ⟨x2,fb2,hx2,H,hg2⟩ := rMc hl2 hr2
       refine V.al (V.seq (V.ap (V.seq (V.ab ?_))))
       refine Ao.idx tk rfl rfl rfl rfl rfl rfl (Int.natCast_nonneg j2) (aY (fun _=>rfl) hx2) rfl ?_
       refine Ao.q tk rfl ?_
       refine Ao.aJ tk rfl rfl rfl rfl rfl rfl fun b11=>?_
       refine Ao.sB tk rfl rfl rfl rfl rfl rfl rfl rfl rfl rfl rfl (Ao.nil (V.seq (V.ab (Ao.q tk rfl (Ao.lB tk rfl rfl rfl rfl rfl rfl rfl (Ao.q tk rfl ?_))))))
       refine Ao.aA rfl rfl rfl (fun h=>?_) (fun h=>?_)
       ·have H := condT h H
        refine Ao.q tk rfl (Ao.q tk rfl (Ao.q tk rfl (Ao.q tk rfl (Ao.q tk rfl (Ao.sB tk rfl rfl rfl rfl rfl rfl rfl rfl rfl rfl rfl (Ao.nil (V.ab (Ao.q tk rfl (Ao.lB tk rfl rfl rfl rfl rfl rfl rfl (Ao.bsC tk rfl rfl rfl rfl (rows' := List.map av ([(LCol.mk x2.name x2.kind true)] : List LCol)) rfl (fj.refl _) rfl rfl ?_))))))))))
        obtain ⟨x76,h76,H⟩ := aj H
        have k76 := cf h76
        refine Ao.co (rows2' := List.map av ([(LCol.mk x2.name x2.kind true)] : List LCol)) (rows' := List.map av x76) tk rfl rfl rfl rfl rfl rfl rfl rfl rfl rfl rfl rfl rfl (fj.refl _) (dp k76.1) (dv k76.2.1) (du k76.2.2) fun g76=>?_
        refine Ao.q tk rfl (Ao.nil (V.blk (V.ab (Ao.q tk rfl (Ao.q tk rfl (Ao.nil ?_))))))
        obtain rfl := ai H
        refine V.ax x76 g76 ⟨hl2,hg2⟩ (Gh.le (SLe.aa (PLe.q rfl) (SLe.aa (PLe.q rfl) (SLe.aa (PLe.q rfl) (SLe.aa (PLe.q rfl) (SLe.aa (PLe.q rfl) (SLe.aa (PLe.q (az (by omega))) SLe.nil)))))) BLe.nil (OLe.am rfl OLe.nil))
       ·have H := condF h H
        refine Ao.q tk rfl (Ao.q tk rfl (Ao.q tk rfl (Ao.q tk rfl (Ao.q tk rfl (Ao.sB tk rfl rfl rfl rfl rfl rfl rfl rfl rfl rfl rfl (Ao.nil (V.ab (Ao.q tk rfl (Ao.lB tk rfl rfl rfl rfl rfl rfl rfl (Ao.bsC tk rfl rfl rfl rfl (rows' := List.map av ([(LCol.mk x2.name x2.kind (q.kind == (5 : Int)))] : List LCol)) rfl (fj.refl _) rfl rfl ?_))))))))))
        obtain ⟨x76,h76,H⟩ := aj H
        have k76 := cf h76
        refine Ao.co (rows2' := List.map av ([(LCol.mk x2.name x2.kind (q.kind == (5 : Int)))] : List LCol)) (rows' := List.map av x76) tk rfl rfl rfl rfl rfl rfl rfl rfl rfl rfl rfl rfl rfl (fj.refl _) (dp k76.1) (dv k76.2.1) (du k76.2.2) fun g76=>?_
        refine Ao.q tk rfl (Ao.nil (V.blk (V.ab (Ao.q tk rfl (Ao.q tk rfl (Ao.nil ?_))))))
        obtain rfl := ai H
        refine V.ax x76 g76 ⟨hl2,hg2⟩ (Gh.le (SLe.aa (PLe.q rfl) (SLe.aa (PLe.q rfl) (SLe.aa (PLe.q rfl) (SLe.aa (PLe.q rfl) (SLe.aa (PLe.q rfl) (SLe.aa (PLe.q (az (by omega))) SLe.nil)))))) BLe.nil (OLe.am rfl OLe.nil))
      ·have hn2 := rMd (bm h) hr2
       refine V.aB rfl ?_
       refine V.at s2 g2 hn2 (Gh.le (SLe.aa (PLe.q rfl) (SLe.aa (PLe.q rfl) (SLe.aa (PLe.q rfl) SLe.nil))) BLe.nil (OLe.am rfl OLe.nil))
     ·have H := aW hn2 Hp2
      refine V.seq (V.dm 9 rfl rfl rfl (V.bc tk mok ⟨false,false,[]⟩ [0,1,2,3,4,5,6,7,8,9] rfl (by decide +kernel) rfl (Do.q rfl (Do.q rfl (Do.q rfl (Do.q rfl (Do.q rfl ?_)))))))
      obtain ⟨x83,h83,H⟩ := aj H
      have k83 := gIs h83
      refine Do.idx rfl rfl rfl rfl rfl rfl rfl k83.1 (aH cW k83.2) rfl (Do.q rfl ?_)
      obtain ⟨x85,h85,H⟩ := bA H
      have s85 := iH c s2 x83
      rw [h85] at s85
      refine Do.aR (g := 156) rfl rfl rfl rfl Tryz.call156 (il.r) s85 rfl (Do.q rfl (Do.q rfl (Do.nil ?_)))
      obtain rfl := ai H
      refine V.aq tk rfl (ps := [(.list 50 (s2.map av)),(ac x85)]) ⟨_,_,rfl,rfl,_,_,rfl,rfl,rfl⟩ (PLe.q rfl)
    ·have H := condF h H
     refine V.seq (V.seq (V.ab (Ao.q tk rfl (Ao.q tk rfl (Ao.nil ?_)))))
     obtain ⟨fl3,H3,Hp3⟩ := bA H
     refine V.cut (τ := Bool) (γ := Unit) (fun t3 g3=>⟨138,upd (upd (upd (upd (upd (fun _=>.any) 86 (au t3)) 18 (ac q.kind)) 4 (.ptr [(ac q.kind),(.str q.table),(.list 9 (q.names.map bo)),(.list 56 (q.exprs.map aI)),(.list 66 (q.aggregates.map bl)),(.list 4 (q.descending.map bB)),(ac q.count),(ac q.offset),(.list 35 (q.inputs.map aD))])) 3 (.ptr [(.list 91 (c.s.tables.map aO)),(.list 142 (c.s.foreignKeys.map bC)),(.list 148 (c.s.constraints.map bH)),(.list 50 (c.vars.map av))])) 2 (.list 39 (inA.map (ag 50 av))),fun _=>none,fun _=>none⟩) (fun t=>t = fl3) ?_ (fun t3 g3 hn3=>?_)
     ·have H := H3
      refine V.ak rfl (fun h=>?_) (fun h=>?_)
      ·have H := condT h H
       refine V.al ?_
       subst H
       refine V.at (q.kind == (6 : Int)) () rfl (Gh.le (SLe.aa (PLe.q rfl) (SLe.aa (PLe.q rfl) (SLe.aa (PLe.q rfl) (SLe.aa (PLe.q rfl) (SLe.aa (PLe.q rfl) SLe.nil))))) BLe.nil OLe.nil)
      ·have H := condF h H
       refine V.ab (Ao.q tk rfl (Ao.q tk rfl (Ao.nil ?_)))
       subst H
       refine V.at (q.kind == (7 : Int)) () rfl (Gh.le (SLe.aa (PLe.q rfl) (SLe.aa (PLe.q rfl) (SLe.aa (PLe.q rfl) (SLe.aa (PLe.q rfl) (SLe.aa (PLe.q rfl) SLe.nil))))) BLe.nil OLe.nil)
     ·subst hn3
      have H := Hp3
      refine V.ak rfl (fun h=>?_) (fun h=>?_)
      ·have H := condT h H
       refine V.seq (V.bc tk mok ⟨false,false,[]⟩ [0,1,2,3,4,5,6,7,8,9,10,11,12] rfl (by decide +kernel) rfl (Do.q rfl (Do.q rfl (Do.q rfl ?_))))
       obtain ⟨x92,h92,H⟩ := aj H
       have k92 := gIs h92
       refine Do.idx rfl rfl rfl rfl rfl rfl rfl k92.1 (aH (fun _=>rfl) k92.2) rfl ?_
       refine Do.q rfl (Do.q rfl ?_)
       obtain ⟨x95,h95,H⟩ := aj H
       have k95 := gIs h95
       refine Do.idx rfl rfl rfl rfl rfl rfl rfl k95.1 (aH (fun _=>rfl) k95.2) rfl ?_
       refine Do.q rfl ?_
       obtain ⟨x97,h97,H⟩ := aj H
       have s97 := nN q.kind x92 x95 _ h97
       refine Do.aR (g := 157) rfl rfl rfl rfl Tryz.call157 (il.r) s97 rfl (Do.q rfl (Do.q rfl (Do.q rfl (Do.q rfl (Do.nil ?_)))))
       obtain rfl := ai H
       refine V.aq tk rfl (ps := [(.list 50 (x97.1.map av)),(ac x97.2)]) ⟨_,_,rfl,rfl,_,_,rfl,rfl,rfl⟩ (PLe.q rfl)
      ·have H := condF h H
       refine V.seq (V.seq (V.ab (Ao.q tk rfl (Ao.q tk rfl (Ao.nil ?_)))))
       obtain ⟨fl4,H4,Hp4⟩ := bA H
       refine V.cut (τ := Bool) (γ := Unit) (fun t4 g4=>⟨138,upd (upd (upd (upd (upd (fun _=>.any) 100 (au t4)) 18 (ac q.kind)) 4 (.ptr [(ac q.kind),(.str q.table),(.list 9 (q.names.map bo)),(.list 56 (q.exprs.map aI)),(.list 66 (q.aggregates.map bl)),(.list 4 (q.descending.map bB)),(ac q.count),(ac q.offset),(.list 35 (q.inputs.map aD))])) 3 (.ptr [(.list 91 (c.s.tables.map aO)),(.list 142 (c.s.foreignKeys.map bC)),(.list 148 (c.s.constraints.map bH)),(.list 50 (c.vars.map av))])) 2 (.list 39 (inA.map (ag 50 av))),fun _=>none,fun _=>none⟩) (fun t=>t = fl4) ?_ (fun t4 g4 hn4=>?_)
       ·have H := H4
        refine V.ak rfl (fun h=>?_) (fun h=>?_)
        ·have H := condT h H
         refine V.al ?_
         subst H
         refine V.at (q.kind == (3 : Int)) () rfl (Gh.le (SLe.aa (PLe.q rfl) (SLe.aa (PLe.q rfl) (SLe.aa (PLe.q rfl) (SLe.aa (PLe.q rfl) (SLe.aa (PLe.q rfl) SLe.nil))))) BLe.nil OLe.nil)
        ·have H := condF h H
         refine V.ab (Ao.q tk rfl (Ao.q tk rfl (Ao.nil ?_)))
         subst H
         refine V.at (q.kind == (8 : Int)) () rfl (Gh.le (SLe.aa (PLe.q rfl) (SLe.aa (PLe.q rfl) (SLe.aa (PLe.q rfl) (SLe.aa (PLe.q rfl) (SLe.aa (PLe.q rfl) SLe.nil))))) BLe.nil OLe.nil)
       ·subst hn4
        have H := Hp4
        refine V.ak rfl (fun h=>?_) (fun h=>?_)
        ·have H := condT h H
         refine V.seq (V.bc tk mok ⟨false,false,[]⟩ [0,1,2,3,4,5,6,7,8,9] rfl (by decide +kernel) rfl (Do.q rfl (Do.q rfl (Do.q rfl ?_))))
         obtain ⟨x106,h106,H⟩ := aj H
         have k106 := gIs h106
         refine Do.idx rfl rfl rfl rfl rfl rfl rfl k106.1 (aH (fun _=>rfl) k106.2) rfl ?_
         refine Do.q rfl ?_
         obtain ⟨x108,h108,H⟩ := aj H
         have s108 := kj c q x106 _ h108
         refine Do.aR (g := 158) rfl rfl rfl rfl Tryz.call158 (il.r) s108 rfl (Do.q rfl (Do.q rfl (Do.q rfl (Do.q rfl (Do.nil ?_)))))
         obtain rfl := ai H
         refine V.aq tk rfl (ps := [(.list 50 (x108.1.map av)),(ac x108.2)]) ⟨_,_,rfl,rfl,_,_,rfl,rfl,rfl⟩ (PLe.q rfl)
        ·have H := condF h H
         refine V.seq (V.ab (Ao.q tk rfl (Ao.q tk rfl (Ao.nil ?_))))
         refine V.ak rfl (fun h=>?_) (fun h=>?_)
         ·have H := condT h H
          refine V.seq (V.ab (Ao.q tk rfl (Ao.q tk rfl (Ao.ay tk rfl rfl rfl rfl rfl (List.length_map _) rfl (Ao.q tk rfl (Ao.nil ?_))))))
          obtain ⟨fl5,H5,Hp5⟩ := aj H
          refine V.aZ tk 114 rfl rfl (fun hz5 _=>?_)
          rw [List.length_map] at hz5
          refine V.cut (τ := Unit) (γ := Unit) (fun s5 g5=>⟨138,upd (fun _=>.any) 2 (.list 39 (inA.map (ag 50 av))),fun _=>none,fun _=>none⟩) (fun t=>fl5 = .next t) ?_ (fun s5 g5 hn5=>?_)
          ·refine V.ap ?_
           refine V.aP (fun j5 s5 g5=>⟨138,upd (upd (upd (upd (upd (fun _=>.any) 116 (ac (j5 : Int))) 115 (ac (q.exprs.length : Int))) 114 (.list 56 (q.exprs.map aI))) 3 (.ptr [(.list 91 (c.s.tables.map aO)),(.list 142 (c.s.foreignKeys.map bC)),(.list 148 (c.s.constraints.map bH)),(.list 50 (c.vars.map av))])) 2 (.list 39 (inA.map (ag 50 av))),fun _=>none,fun _=>none⟩) () H5 (Gh.le (SLe.aa (PLe.q rfl) (SLe.aa (PLe.q rfl) (SLe.aa (PLe.q rfl) (SLe.aa (PLe.q rfl) (SLe.aa (PLe.q rfl) SLe.nil))))) BLe.nil OLe.nil) (fun j5 s5 g5 hj5 hr5=>?_)
           refine V.seq (V.ab (Ao.q tk rfl (Ao.nil (V.seq ?_))))
           refine V.ak rfl (fun h=>?_) (fun h=>?_)
           ·have hl5 := bn h
            obtain ⟨x5,fb5,hx5,H,hg5⟩ := rMc hl5 hr5
            refine V.al (V.seq (V.ap (V.seq (V.ab (Ao.idx tk rfl rfl rfl rfl rfl rfl (Int.natCast_nonneg j5) (aY cW hx5) rfl (Ao.q tk rfl ?_))))))
            refine Ao.aJ tk rfl rfl rfl rfl rfl rfl fun b13=>?_
            refine Ao.sB tk rfl rfl rfl rfl rfl rfl rfl rfl rfl rfl rfl (Ao.nil (V.seq (V.bc tk mok ⟨true,false,[123,125]⟩ [0,1,2,3,4,5,6,7,8,9,10,11,12,13] rfl (by decide +kernel) rfl (Do.q rfl ?_))))
            obtain ⟨x122,h122,H⟩ := aj H
            have k122 := gIs h122
            refine Do.idx rfl rfl rfl rfl rfl rfl rfl k122.1 (aH (fun _=>rfl) k122.2) rfl ?_
            refine Do.q rfl (Do.q rfl (Do.q rfl (Do.lB rfl rfl rfl rfl rfl rfl rfl rfl rfl ?_)))
            obtain ⟨x127,h127,H⟩ := bA H
            have s127 := ky x122 c.vars x5
            rw [h127] at s127
            refine Do.aR (g := 159) rfl rfl rfl rfl Tryz.call159 (il.r) s127 rfl (Do.q rfl (Do.q rfl (Do.q rfl (Do.q rfl (Do.q rfl (Do.q rfl (Do.q rfl (Do.nil (V.seq (V.ab (Ao.q tk rfl (Ao.q tk rfl (Ao.nil ?_)))))))))))))
            refine V.ak rfl (fun h=>?_) (fun h=>?_)
            ·have H := condT h H
             refine V.seq (V.ab (Ao.q tk rfl (Ao.q tk rfl (Ao.q tk rfl (Ao.nil ?_)))))
             obtain rfl := ai H
             have e5 : fl5 = .ret _ := hg5
             subst e5
             obtain rfl := aL Hp5
             refine V.aq tk rfl (ps := [(.val (.slice none 0 0)),(ac x127.2.2)]) ⟨_,_,rfl,rfl,_,_,rfl,rfl,rfl⟩ (PLe.of2 (kW.tup (fQ.cons (kW.nil tk rfl) (fQ.cons (kW.of_eq rfl) fQ.nil))))
            ·have H := condF h H
             refine V.al (V.blk (V.ab (Ao.q tk rfl (Ao.q tk rfl (Ao.nil ?_)))))
             obtain rfl := ai H
             refine V.ax () () ⟨hl5,hg5⟩ (Gh.le (SLe.aa (PLe.q rfl) (SLe.aa (PLe.q rfl) (SLe.aa (PLe.q rfl) (SLe.aa (PLe.q rfl) (SLe.aa (PLe.q (az (by omega))) SLe.nil))))) BLe.nil OLe.nil)
           ·have hn5 := rMd (bm h) hr5
            refine V.aB rfl ?_
            refine V.at s5 g5 hn5 (Gh.le (SLe.aa (PLe.q rfl) SLe.nil) BLe.nil OLe.nil)
          ·have H := br hn5 Hp5
           refine V.blk (V.seq (V.ab (Ao.q tk rfl ?_)))
           obtain ⟨x136,h136,H⟩ := aj H
           have k136 := gIs h136
           refine Ao.idx tk rfl rfl rfl rfl rfl rfl k136.1 (aH (fun _=>rfl) k136.2) rfl ?_
           refine Ao.q tk rfl (Ao.q tk rfl (Ao.q tk rfl (Ao.nil ?_)))
           obtain rfl := ai H
           refine V.aq tk rfl (ps := [(.list 50 (x136.map av)),(ac 0)]) ⟨_,_,rfl,rfl,_,_,rfl,rfl,rfl⟩ (PLe.q rfl)
         ·have H := condF h H
          refine V.al (V.blk (V.seq (V.ab (Ao.q tk rfl ?_))))
          obtain ⟨x136,h136,H⟩ := aj H
          have k136 := gIs h136
          refine Ao.idx tk rfl rfl rfl rfl rfl rfl k136.1 (aH (fun _=>rfl) k136.2) rfl ?_
          refine Ao.q tk rfl (Ao.q tk rfl (Ao.q tk rfl (Ao.nil ?_)))
          obtain rfl := ai H
          refine V.aq tk rfl (ps := [(.list 50 (x136.map av)),(ac 0)]) ⟨_,_,rfl,rfl,_,_,rfl,rfl,rfl⟩ (PLe.q rfl)
end
end Go.Proofs.YtgaggbdcedpapaaGreat

namespace Go.Proofs.YtgaggbdcedpapaaGreat
noncomputable section
open Go Go.Ab
attribute [local irreducible] V Ao Do Gh Eff PH IntKind.wrap
set_option maxRecDepth 4000
def fY (rA : LRun) (q : LQuery) (cols : List LCol) (inA : List (List LVal)) : Option ((List (List LVal))) :=
 ba (
  cond ((q.exprs.length : Int) == (0 : Int))
   (([[]],[[]]))
   (([],[]))) fun (t1 : List (List LVal) × List (List (List LVal))) =>
 af (aE (σ := List (List LVal) × List (List (List LVal))) (ρ := Empty) (fun (_ : Nat) (x2 : List LVal) (s2 : List (List LVal) × List (List (List LVal))) =>
  af (cD rA cols x2 q.exprs) fun x38 =>
  af (bi s2.1 (fun a0=>eH a0 x38)) fun x41 =>
  af (dL (x41.2.length = s2.1.length) ()) fun (_ : Unit) =>
  af (
   cond (decide (x41.1 < (0 : Int)))
    (af (cI 24 x41.2 ([x38] : List (List LVal))) fun (x49 : List (List LVal)) =>
    af (cI 24 s2.2 ([[]] : List (List (List LVal)))) fun (x52 : List (List (List LVal))) =>
    some (x49,x52,(x41.2.length : Int)))
    (some (x41.2,s2.2,x41.1))) fun (t7 : List (List LVal) × List (List (List LVal)) × Int) =>
  af (aC t7.2.1 t7.2.2) fun (x57 : List (List LVal)) =>
  af (cI 24 x57 ([x2] : List (List LVal))) fun (x61 : List (List LVal)) =>
  af (aC t7.2.1 t7.2.2) fun (_ : List (List LVal)) =>
  ba (t7.2.1.set t7.2.2.toNat x61) fun (y8 : List (List (List LVal))) =>
  some (.next (t7.1,y8))) 0 inA (t1.1,t1.2)) fun fl2=>fl2.thenP fun (s2 : List (List LVal) × List (List (List LVal))) =>
 af (dL (s2.2.length * 24 ≤ 2 ^ 47) ()) fun (_ : Unit) =>
 af (lz (s2.1.length : Int)) fun (n10 : Nat) =>
 af (aE (σ := List (List LVal)) (ρ := Empty) (fun (j10 : Nat) (_ : Nat) (s10 : List (List LVal)) =>
  af (aC s2.1 (j10 : Int)) fun (x69 : List LVal) =>
  af (aE (σ := List LVal) (ρ := Empty) (fun (_ : Nat) (x13 : LAggregateCall) (s13 : List LVal) =>
   af (aC s2.2 (j10 : Int)) fun (x86 : List (List LVal)) =>
   af (hD rA x13 cols x86) fun x88 =>
   af (cI 32 s13 ([x88] : List LVal)) fun (x90 : List LVal) =>
   some (.next x90)) 0 q.aggregates x69) fun fl13=>fl13.thenP fun (s13 : List LVal) =>
  af (cI 24 s10 ([s13] : List (List LVal))) fun (x95 : List (List LVal)) =>
  some (.next x95)) 0 (List.range n10) []) fun fl10=>fl10.thenP fun (s10 : List (List LVal)) =>
 some s10
set_option maxHeartbeats 4000000 in
theorem ow (rA : LRun) (q : LQuery) (cols : List LCol) (inA : List (List LVal)) (r : (List (List LVal))) (H : fY rA q cols inA = some r) :
  aG Tryz.prog 141 [(.agg (fP rA)),(.agg (aQ q)),(.list 50 (cols.map av)),(.list 51 (inA.map (ag 53 ae)))] (.list 51 (r.map (ag 53 ae))) := by
 unfold fY at H
 refine PH.intro Tryz.func141 rfl Tryz.ntmps141 rfl ?_
 refine V.seq (V.ab (Ao.aF rfl rfl rfl rfl rfl rfl (Ao.aF rfl rfl rfl rfl rfl rfl (Ao.q tk rfl (Ao.nil (V.seq (V.ab (Ao.q tk rfl (Ao.nil (V.seq (V.ab (Ao.q tk rfl (Ao.nil (V.seq (V.seq ?_)))))))))))))))
 refine V.ab (Ao.q tk rfl (Ao.q tk rfl (Ao.ay tk rfl rfl rfl rfl rfl (List.length_map _) rfl (Ao.q tk rfl (Ao.nil ?_)))))
 obtain ⟨fl1,H1,Hp1⟩ := bA H
 refine V.cut (τ := List (List LVal) × List (List (List LVal))) (γ := OwnRef × (Nat × Nat × (Nat → OwnRef))) (fun t1 g1=>⟨98,upd (upd (upd (upd (upd (upd (fun _=>.any) 10 (.val (gg g1.2.1 t1.2.length g1.2.2.1))) 9 (.own 25 g1.1 (t1.1.map (ag 53 ae)).length)) 5 (.ptr [(ac q.kind),(.str q.table),(.list 9 (q.names.map bo)),(.list 56 (q.exprs.map aI)),(.list 66 (q.aggregates.map bl)),(.list 4 (q.descending.map bB)),(ac q.count),(ac q.offset),(.list 35 (q.inputs.map aD))])) 4 (.ptr [(.list 91 (rA.s.tables.map aO)),(.list 142 (rA.s.foreignKeys.map bC)),(.list 148 (rA.s.constraints.map bH)),(.list 87 (rA.st.map bg)),(.list 53 (rA.args.map ae)),(.list 50 (rA.vars.map av)),(.list 9 (rA.names.map bo)),(.list 53 (rA.vals.map ae))])) 3 (.list 51 (inA.map (ag 53 ae)))) 2 (.list 50 (cols.map av)),upd (fun _=>none) 990 (fT g1.2.1 g1.2.2.2 (List.map (List.map (ag 53 ae)) t1.2) g1.2.2.1),dt 51 g1.2.2.2 (List.map (List.map (ag 53 ae)) t1.2) (upd (fun _=>none) 25 (some ⟨g1.1,51,(t1.1.map (ag 53 ae)),true⟩))⟩) (fun t=>t = fl1) ?_ (fun t1 g1 hn1=>?_)
 ·have H := H1
  refine V.ak rfl (fun h=>?_) (fun h=>?_)
  ·have H := condT h H
   refine V.ab ?_
   refine Ao.bsOC (rows' := List.map (ag 53 ae) ([[]] : List (List LVal))) tk rfl rfl rfl rfl rfl rfl rfl rfl rfl (fQ.cons (kW.nil tk rfl) fQ.nil) fun g25=>?_
   refine Ao.famLit 990 51 tk rfl rfl rfl rfl rfl rfl rfl rfl fun bf26 cf26=>?_
   refine Ao.q tk rfl (Ao.q tk rfl (Ao.nil ?_))
   subst H
   refine V.at ([[]],[[]]) (g25,(bf26,cf26,(fun _=>⟨none,0⟩))) rfl (Gh.le (SLe.aa (PLe.q rfl) (SLe.aa (PLe.q rfl) (SLe.aa (PLe.q rfl) (SLe.aa (PLe.q rfl) (SLe.aa (PLe.q rfl) (SLe.aa (PLe.q rfl) SLe.nil)))))) (BLe.fam rfl BLe.nil) (OLe.fam (fun i rs h=>by first | exact dk h | (simp only [jD,eV,fu,Nat.reduceLT]; exact dk h)) (OLe.am rfl OLe.nil)))
  ·have H := condF h H
   refine V.al ?_
   subst H
   refine V.gr tk 9 25 (e := 51) rfl rfl ?_
   refine V.at ([],[]) (⟨none,0⟩,(0,0,fun _=>⟨none,0⟩)) rfl (Gh.le (SLe.aa (PLe.q rfl) (SLe.aa (PLe.q rfl) (SLe.aa (PLe.q rfl) (SLe.aa (PLe.q rfl) (SLe.aa (PLe.q rfl) (SLe.aa (PLe.q rfl) SLe.nil)))))) (BLe.famNil BLe.nil) (OLe.famNil (OLe.am rfl OLe.nil)))
 ·subst hn1
  have H := Hp1
  refine V.seq (V.seq (V.ab (Ao.q tk rfl (Ao.ay tk rfl rfl rfl rfl rfl (List.length_map _) rfl (Ao.q tk rfl (Ao.nil ?_))))))
  obtain ⟨fl2,H2,Hp2⟩ := aj H
  refine V.aZ tk 27 rfl rfl (fun hz2 _=>?_)
  rw [List.length_map] at hz2
  refine V.cut (τ := List (List LVal) × List (List (List LVal))) (γ := OwnRef × (Nat × Nat × (Nat → OwnRef))) (fun s2 g2=>⟨98,upd (upd (upd (upd (upd (fun _=>.any) 10 (.val (gg g2.2.1 s2.2.length g2.2.2.1))) 9 (.own 25 g2.1 (s2.1.map (ag 53 ae)).length)) 5 (.ptr [(ac q.kind),(.str q.table),(.list 9 (q.names.map bo)),(.list 56 (q.exprs.map aI)),(.list 66 (q.aggregates.map bl)),(.list 4 (q.descending.map bB)),(ac q.count),(ac q.offset),(.list 35 (q.inputs.map aD))])) 4 (.ptr [(.list 91 (rA.s.tables.map aO)),(.list 142 (rA.s.foreignKeys.map bC)),(.list 148 (rA.s.constraints.map bH)),(.list 87 (rA.st.map bg)),(.list 53 (rA.args.map ae)),(.list 50 (rA.vars.map av)),(.list 9 (rA.names.map bo)),(.list 53 (rA.vals.map ae))])) 2 (.list 50 (cols.map av)),upd (fun _=>none) 990 (fT g2.2.1 g2.2.2.2 (List.map (List.map (ag 53 ae)) s2.2) g2.2.2.1),dt 51 g2.2.2.2 (List.map (List.map (ag 53 ae)) s2.2) (upd (fun _=>none) 25 (some ⟨g2.1,51,(s2.1.map (ag 53 ae)),true⟩))⟩) (fun t=>fl2 = .next t) ?_ (fun s2 g2 hn2=>?_)
  ·refine V.ap ?_
   refine V.aP (fun j2 s2 g2=>⟨98,upd (upd (upd (upd (upd (upd (upd (upd (fun _=>.any) 29 (ac (j2 : Int))) 28 (ac (inA.length : Int))) 27 (.list 51 (inA.map (ag 53 ae)))) 10 (.val (gg g2.2.1 s2.2.length g2.2.2.1))) 9 (.own 25 g2.1 (s2.1.map (ag 53 ae)).length)) 5 (.ptr [(ac q.kind),(.str q.table),(.list 9 (q.names.map bo)),(.list 56 (q.exprs.map aI)),(.list 66 (q.aggregates.map bl)),(.list 4 (q.descending.map bB)),(ac q.count),(ac q.offset),(.list 35 (q.inputs.map aD))])) 4 (.ptr [(.list 91 (rA.s.tables.map aO)),(.list 142 (rA.s.foreignKeys.map bC)),(.list 148 (rA.s.constraints.map bH)),(.list 87 (rA.st.map bg)),(.list 53 (rA.args.map ae)),(.list 50 (rA.vars.map av)),(.list 9 (rA.names.map bo)),(.list 53 (rA.vals.map ae))])) 2 (.list 50 (cols.map av)),upd (fun _=>none) 990 (fT g2.2.1 g2.2.2.2 (List.map (List.map (ag 53 ae)) s2.2) g2.2.2.1),dt 51 g2.2.2.2 (List.map (List.map (ag 53 ae)) s2.2) (upd (fun _=>none) 25 (some ⟨g2.1,51,(s2.1.map (ag 53 ae)),true⟩))⟩) (g1.1,(g1.2.1,g1.2.2.1,g1.2.2.2)) H2 (Gh.le (SLe.aa (PLe.q rfl) (SLe.aa (PLe.q rfl) (SLe.aa (PLe.q rfl) (SLe.aa (PLe.q rfl) (SLe.aa (PLe.q rfl) (SLe.aa (PLe.q rfl) (SLe.aa (PLe.q rfl) (SLe.aa (PLe.q rfl) SLe.nil)))))))) (BLe.fam rfl BLe.nil) (OLe.fam (fun i rs h=>by first | exact dk h | (simp only [jD,eV,fu,Nat.reduceLT]; exact dk h)) (OLe.am rfl OLe.nil))) (fun j2 s2 g2 hj2 hr2=>?_)
   refine V.seq (V.ab (Ao.q tk rfl (Ao.nil (V.seq ?_))))
   refine V.ak rfl (fun h=>?_) (fun h=>?_)
   ·have hl2 := bn h
    obtain ⟨x2,fb2,hx2,H,hg2⟩ := rMc hl2 hr2
    refine V.al (V.seq (V.ap (V.seq (V.ab ?_))))
    refine Ao.idx tk rfl rfl rfl rfl rfl rfl (Int.natCast_nonneg j2) (aY (fun _=>rfl) hx2) rfl ?_
    refine Ao.q tk rfl (Ao.q tk rfl (Ao.nil (V.seq (V.ab (Ao.q tk rfl (Ao.q tk rfl (Ao.q tk rfl (Ao.q tk rfl (Ao.q tk rfl ?_)))))))))
    obtain ⟨x38,h38,H⟩ := aj H
    have s38 := hZ rA cols x2 q.exprs _ h38
    refine Ao.ah (g := 140) rfl rfl rfl Tryz.call140 (il.r) s38 rfl ?_
    refine Ao.aJ tk rfl rfl rfl rfl rfl rfl fun b13=>?_
    refine Ao.sB tk rfl rfl rfl rfl rfl rfl rfl rfl rfl rfl rfl (Ao.nil (V.seq (V.ab (Ao.q tk rfl (Ao.gh (Gh.freezeB 13 rfl rfl rfl rfl) (Ao.q tk rfl ?_))))))
    obtain ⟨x41,h41,H⟩ := aj H
    have s41 := dY g2.1 s2.1 (fun a0=>eH a0 x38) Tryz.call172 (fun a0 r h=>nF a0 x38 r h) _ h41
    obtain ⟨_,q41_0,H⟩ := aj H
    have l41_0 := (cF q41_0).1
    have z41_0 : (List.map (ag 53 ae) s2.1).length = (List.map (ag 53 ae) x41.2).length := by simpa using (l41_0).symm
    refine Ao.dr (g := 22) rfl rfl rfl Tryz.call22 [] [(25,0)] rfl rfl rfl rfl (il.of2 (fQ.cons (kW.own rfl) (fQ.cons (kW.of_eq rfl) fQ.nil))) (by rw [cN,cx,cO]; rfl) s41 ?_
    rintro u41 H41h ⟨rfl,rfl⟩
    refine ⟨_,rfl,?_⟩
    refine Ao.gh (st' := ⟨_,_,upd (fun _=>none) 990 (fT g2.2.1 g2.2.2.2 (List.map (List.map (ag 53 ae)) s2.2) g2.2.2.1),dt 51 g2.2.2.2 (List.map (List.map (ag 53 ae)) s2.2) (upd (fun _=>none) 25 (some ⟨g2.1,51,(x41.2.map (ag 53 ae)),true⟩))⟩) (Gh.le (SLe.cq _ _) (BLe.fam rfl BLe.nil) (OLe.fam (fun i rs h=>by first | exact dk h | (simp only [eV,fu,Nat.reduceLT]; exact dk h)) (OLe.am rfl OLe.nil))) ?_
    refine Ao.q tk rfl (Ao.nil (V.seq (V.seq (V.ab (Ao.q tk rfl (Ao.q tk rfl (Ao.nil ?_)))))))
    obtain ⟨fl7,H7,Hp7⟩ := aj H
    refine V.cut (τ := List (List LVal) × List (List (List LVal)) × Int) (γ := OwnRef × (Nat × Nat × (Nat → OwnRef))) (fun t7 g7=>⟨98,upd (upd (upd (upd (upd (upd (upd (upd (upd (upd (fun _=>.any) 29 (ac (j2 : Int))) 28 (ac (inA.length : Int))) 27 (.list 51 (inA.map (ag 53 ae)))) 14 (ac t7.2.2)) 12 (.list 53 (x2.map ae))) 10 (.val (gg g7.2.1 t7.2.1.length g7.2.2.1))) 9 (.own 25 g7.1 (t7.1.map (ag 53 ae)).length)) 5 (.ptr [(ac q.kind),(.str q.table),(.list 9 (q.names.map bo)),(.list 56 (q.exprs.map aI)),(.list 66 (q.aggregates.map bl)),(.list 4 (q.descending.map bB)),(ac q.count),(ac q.offset),(.list 35 (q.inputs.map aD))])) 4 (.ptr [(.list 91 (rA.s.tables.map aO)),(.list 142 (rA.s.foreignKeys.map bC)),(.list 148 (rA.s.constraints.map bH)),(.list 87 (rA.st.map bg)),(.list 53 (rA.args.map ae)),(.list 50 (rA.vars.map av)),(.list 9 (rA.names.map bo)),(.list 53 (rA.vals.map ae))])) 2 (.list 50 (cols.map av)),upd (fun _=>none) 990 (fT g7.2.1 g7.2.2.2 (List.map (List.map (ag 53 ae)) t7.2.1) g7.2.2.1),dt 51 g7.2.2.2 (List.map (List.map (ag 53 ae)) t7.2.1) (upd (fun _=>none) 25 (some ⟨g7.1,51,(t7.1.map (ag 53 ae)),true⟩))⟩) (fun t=>t = fl7) ?_ (fun t7 g7 hn7=>?_)
    ·have H := H7
     refine V.ak rfl (fun h=>?_) (fun h=>?_)
     ·have H := condT h H
      refine V.seq (V.ab (Ao.q tk rfl (Ao.lenO tk rfl rfl rfl rfl rfl (z41_0.trans (List.length_map _)) rfl (Ao.q tk rfl (Ao.nil (V.ab (Ao.q tk rfl (Ao.q tk rfl (Ao.bsC tk rfl rfl rfl rfl (rows' := List.map (ag 53 ae) ([x38] : List (List LVal))) rfl (fj.refl _) rfl rfl ?_)))))))))
      obtain ⟨x49,h49,H⟩ := aj H
      have k49 := cf h49
      refine Ao.co (rows2' := List.map (ag 53 ae) ([x38] : List (List LVal))) (rows' := List.map (ag 53 ae) x49) tk rfl rfl rfl rfl rfl rfl rfl rfl rfl rfl rfl z41_0 rfl (fj.refl _) (dp k49.1) (dv k49.2.1) (du k49.2.2) fun g49=>?_
      refine Ao.q tk rfl (Ao.bsF tk rfl rfl rfl rfl rfl rfl ?_)
      obtain ⟨x52,h52,H⟩ := aj H
      have k52 := cf h52
      refine Ao.gh (st' := ⟨_,_,upd (fun _=>none) 990 (fT g2.2.1 g2.2.2.2 (List.map (List.map (ag 53 ae)) s2.2) g2.2.2.1),dt 51 g2.2.2.2 (List.map (List.map (ag 53 ae)) s2.2) (upd (fun _=>none) 25 (some ⟨g49,51,(x49.map (ag 53 ae)),true⟩))⟩) (Gh.le (SLe.cq _ _) (BLe.fam rfl BLe.nil) (OLe.fam (fun i rs h=>by first | exact dk h | (simp only [jD,Nat.reduceLT]; exact dk h)) (OLe.am rfl OLe.nil))) ?_
      refine Ao.famApp 990 51 tk rfl rfl rfl rfl rfl rfl rfl rfl rfl rfl rfl (List.length_map _).symm rfl rfl (by rw [List.length_map]; exact k52.1) (by rw [List.length_map]; exact k52.2.1) fun bf52 cf52=>?_
      have hz52 : List.map (List.map (ag 53 ae)) x52 = List.map (List.map (ag 53 ae)) s2.2 ++ [[]] := by rw [k52.2.2,List.map_append]; rfl
      refine Ao.gh (st' := ⟨_,_,upd (fun _=>none) 990 (fT bf52 (upd g2.2.2.2 s2.2.length ⟨none,0⟩) (List.map (List.map (ag 53 ae)) x52) cf52),dt 51 (upd g2.2.2.2 s2.2.length ⟨none,0⟩) (List.map (List.map (ag 53 ae)) x52) (upd (fun _=>none) 25 (some ⟨g49,51,(x49.map (ag 53 ae)),true⟩))⟩) (Gh.le (SLe.cq _ _) (BLe.fam (by rw [hz52]; rfl) BLe.nil) (OLe.fam (fun i rs h=>by rw [hz52] at h; exact dk h) (OLe.am rfl OLe.nil))) ?_
      refine Ao.cast 52 (q := (.val (gg bf52 x52.length cf52))) rfl (PLe.q (by rw [k52.2.2,List.length_append]; rfl)) ?_
      refine Ao.q tk rfl (Ao.q tk rfl (Ao.nil ?_))
      obtain rfl := ai H
      refine V.at (x49,x52,(x41.2.length : Int)) (g49,(bf52,cf52,(upd g2.2.2.2 s2.2.length ⟨none,0⟩))) rfl (Gh.le (SLe.aa (PLe.q rfl) (SLe.aa (PLe.q rfl) (SLe.aa (PLe.q rfl) (SLe.aa (PLe.q rfl) (SLe.aa (PLe.q rfl) (SLe.aa (PLe.q rfl) (SLe.aa (PLe.q rfl) (SLe.aa (PLe.q rfl) (SLe.aa (PLe.q rfl) (SLe.aa (PLe.q rfl) SLe.nil)))))))))) (BLe.fam rfl BLe.nil) (OLe.fam (fun i rs h=>by first | exact dk h | (simp only [jD,eV,fu,Nat.reduceLT]; exact dk h)) (OLe.am rfl OLe.nil)))
     ·have H := condF h H
      refine V.al ?_
      obtain rfl := ai H
      refine V.at (x41.2,s2.2,x41.1) (g2.1,(g2.2.1,g2.2.2.1,g2.2.2.2)) rfl (Gh.le (SLe.aa (PLe.q rfl) (SLe.aa (PLe.q rfl) (SLe.aa (PLe.q rfl) (SLe.aa (PLe.of2 (kW.of_eq (congrArg (PV.own 25 g2.1) z41_0))) (SLe.aa (PLe.q rfl) (SLe.aa (PLe.q rfl) (SLe.aa (PLe.q rfl) (SLe.aa (PLe.q rfl) (SLe.aa (PLe.q rfl) (SLe.aa (PLe.q rfl) SLe.nil)))))))))) (BLe.fam rfl BLe.nil) (OLe.fam (fun i rs h=>by first | exact dk h | (simp only [jD,eV,fu,Nat.reduceLT]; exact dk h)) (OLe.am rfl OLe.nil)))
    ·subst hn7
     have H := Hp7
     refine V.ab (Ao.q tk rfl (Ao.q tk rfl (Ao.q tk rfl (Ao.q tk rfl ?_))))
     obtain ⟨x57,h57,H⟩ := aj H
     have k57 := gIs h57
     have wk57 : (List.map (List.map (ag 53 ae)) t7.2.1)[t7.2.2.toNat]? = some (List.map (ag 53 ae) x57) := by rw [List.getElem?_map,k57.2]; rfl
     refine Ao.famIdx 990 tk rfl rfl rfl rfl rfl rfl rfl rfl ⟨k57.1,(List.getElem?_eq_some_iff.1 k57.2).1⟩ rfl ?_
     refine Ao.loadA tk rfl rfl rfl rfl rfl (nH wk57) (famCells_get wk57) rfl (Ao.q tk rfl (Ao.bsC tk rfl rfl rfl rfl (rows' := List.map (ag 53 ae) ([x2] : List (List LVal))) rfl (fj.refl _) rfl rfl ?_))
     obtain ⟨x61,h61,H⟩ := aj H
     have k61 := cf h61
     refine Ao.co (rows2' := List.map (ag 53 ae) ([x2] : List (List LVal))) (rows' := List.map (ag 53 ae) x61) tk rfl rfl rfl rfl rfl rfl rfl rfl rfl rfl (dk wk57) rfl rfl (fj.refl _) (dp k61.1) (dv k61.2.1) (du k61.2.2) fun g61=>?_
     obtain ⟨x62,h62,H⟩ := aj H
     have k62 := gIs h62
     have wk62 : (List.map (List.map (ag 53 ae)) t7.2.1)[t7.2.2.toNat]? = some (List.map (ag 53 ae) x62) := by rw [List.getElem?_map,k62.2]; rfl
     refine Ao.famIdx 990 tk rfl rfl rfl rfl rfl rfl rfl rfl ⟨k62.1,(List.getElem?_eq_some_iff.1 k62.2).1⟩ rfl ?_
     obtain ⟨y8,hy8,H⟩ := bA H
     have hzy8 : List.map (List.map (ag 53 ae)) y8 = (List.map (List.map (ag 53 ae)) t7.2.1).set t7.2.2.toNat (List.map (ag 53 ae) x61) := by rw [← hy8,List.map_set]
     have hly8 : y8.length = t7.2.1.length := by rw [← hy8,List.length_set]
     refine Ao.storeA tk rfl rfl rfl rfl rfl rfl (nH wk62) rfl rfl (by rw [lL]; exact Nat.lt_of_lt_of_le (List.getElem?_eq_some_iff.1 wk62).1 (gZ _ _)) (famCells_set wk62 _) ?_
     refine Ao.gh (st' := ⟨_,_,upd (fun _=>none) 990 (fT g7.2.1 (upd g7.2.2.2 t7.2.2.toNat g61) (List.map (List.map (ag 53 ae)) y8) g7.2.2.1),dt 51 (upd g7.2.2.2 t7.2.2.toNat g61) (List.map (List.map (ag 53 ae)) y8) (upd (fun _=>none) 25 (some ⟨g7.1,51,(t7.1.map (ag 53 ae)),true⟩))⟩) (Gh.le (SLe.cq _ _) (BLe.fam (famB_put wk62 hzy8) BLe.nil) (OLe.fam (famO_put wk62 hzy8) (OLe.am (by rw [dX _ _ (by unfold bd; omega)]; rfl) OLe.nil))) ?_
     refine Ao.cast 10 (q := (.val (gg g7.2.1 y8.length g7.2.2.1))) rfl (PLe.q (by rw [hly8]; rfl)) ?_
     refine Ao.cast 53 (q := (.val (gg g7.2.1 y8.length g7.2.2.1))) rfl (PLe.q (by rw [hly8]; rfl)) ?_
     refine Ao.cast 55 (q := (.val (gg g7.2.1 y8.length g7.2.2.1))) rfl (PLe.q (by rw [hly8]; rfl)) ?_
     refine Ao.nil (V.blk (V.ab (Ao.q tk rfl (Ao.q tk rfl (Ao.nil ?_)))))
     obtain rfl := ai H
     refine V.ax (t7.1,y8) (g7.1,(g7.2.1,g7.2.2.1,(upd g7.2.2.2 t7.2.2.toNat g61))) ⟨hl2,hg2⟩ (Gh.le (SLe.aa (PLe.q rfl) (SLe.aa (PLe.q rfl) (SLe.aa (PLe.q rfl) (SLe.aa (PLe.q rfl) (SLe.aa (PLe.q rfl) (SLe.aa (PLe.q rfl) (SLe.aa (PLe.q rfl) (SLe.aa (PLe.q (az (by omega))) SLe.nil)))))))) (BLe.fam rfl BLe.nil) (OLe.fam (fun i rs h=>by first | exact dk h | (simp only [jD,eV,fu,Nat.reduceLT]; exact dk h)) (OLe.am rfl OLe.nil)))
   ·have hn2 := rMd (bm h) hr2
    refine V.aB rfl ?_
    refine V.at s2 g2 hn2 (Gh.le (SLe.aa (PLe.q rfl) (SLe.aa (PLe.q rfl) (SLe.aa (PLe.q rfl) (SLe.aa (PLe.q rfl) (SLe.aa (PLe.q rfl) SLe.nil))))) (BLe.fam rfl BLe.nil) (OLe.fam (fun i rs h=>by first | exact dk h | (simp only [jD,eV,fu,Nat.reduceLT]; exact dk h)) (OLe.am rfl OLe.nil)))
  ·have H := aW hn2 Hp2
   refine V.seq (V.ab (Ao.q tk rfl (Ao.nil (V.seq (V.seq (V.ab (Ao.q tk rfl (Ao.lenO tk rfl rfl rfl rfl rfl (List.length_map _) rfl (Ao.q tk rfl (Ao.nil ?_))))))))))
   obtain ⟨_,hf9,H⟩ := aj H
   have kf9 := (cF hf9).1
   refine V.freezeFam 10 990 tk (e := 51) (e' := 40) (rows := List.map (ag 51 (ag 53 ae)) s2.2) rfl rfl rfl (List.length_map _).symm rfl (by rw [List.length_map]; exact kf9) (by rw [List.length_map]; unfold maxLen; omega) (by rw [List.map_map]; rfl) ?_
   obtain ⟨n10,hs10,H⟩ := aj H
   have hz10 := mu hs10
   obtain ⟨fl10,H10,Hp10⟩ := aj H
   refine V.cut (τ := List (List LVal)) (γ := OwnRef) (fun s10 g10=>⟨98,upd (fun _=>.any) 15 (.own 95 g10 (s10.map (ag 53 ae)).length),fun _=>none,upd (fun _=>none) 95 (some ⟨g10,51,(s10.map (ag 53 ae)),true⟩)⟩) (fun t=>fl10 = .next t) ?_ (fun s10 g10 hn10=>?_)
   ·refine V.ap (V.gr tk 15 95 (e := 51) rfl rfl ?_)
    refine V.aP (fun j10 s10 g10=>⟨98,upd (upd (upd (upd (upd (upd (upd (upd (fun _=>.any) 66 (ac (j10 : Int))) 65 (ac (s2.1.length : Int))) 64 (.own 25 g2.1 (s2.1.map (ag 53 ae)).length)) 15 (.own 95 g10 (s10.map (ag 53 ae)).length)) 10 (.list 40 (s2.2.map (ag 51 (ag 53 ae))))) 5 (.ptr [(ac q.kind),(.str q.table),(.list 9 (q.names.map bo)),(.list 56 (q.exprs.map aI)),(.list 66 (q.aggregates.map bl)),(.list 4 (q.descending.map bB)),(ac q.count),(ac q.offset),(.list 35 (q.inputs.map aD))])) 4 (.ptr [(.list 91 (rA.s.tables.map aO)),(.list 142 (rA.s.foreignKeys.map bC)),(.list 148 (rA.s.constraints.map bH)),(.list 87 (rA.st.map bg)),(.list 53 (rA.args.map ae)),(.list 50 (rA.vars.map av)),(.list 9 (rA.names.map bo)),(.list 53 (rA.vals.map ae))])) 2 (.list 50 (cols.map av)),fun _=>none,upd (upd (fun _=>none) 95 (some ⟨g10,51,(s10.map (ag 53 ae)),true⟩)) 25 (some ⟨g2.1,51,(s2.1.map (ag 53 ae)),true⟩)⟩) (⟨none,0⟩) H10 (Gh.le (SLe.aa (PLe.q rfl) (SLe.aa (PLe.q rfl) (SLe.aa (PLe.q rfl) (SLe.aa (PLe.q rfl) (SLe.aa (PLe.q rfl) (SLe.aa (PLe.q rfl) (SLe.aa (PLe.q rfl) (SLe.aa (PLe.q rfl) SLe.nil)))))))) BLe.nil (OLe.am rfl (OLe.am rfl OLe.nil))) (fun j10 s10 g10 hj10 hr10=>?_)
    refine V.seq (V.ab (Ao.q tk rfl (Ao.nil (V.seq ?_))))
    refine V.ak rfl (fun h=>?_) (fun h=>?_)
    ·have hl10 := natLt hz10 h
     obtain ⟨x10,fb10,hx10,H,hg10⟩ := rMc hl10 hr10
     obtain rfl := natX hx10
     refine V.al (V.seq (V.ap (V.seq (V.ab (Ao.q tk rfl ?_)))))
     obtain ⟨x69,h69,H⟩ := aj H
     have k69 := gIs h69
     refine Ao.ownF (tag := 25) rfl (fun ho25=>?_)
     refine Ao.idxO tk rfl rfl rfl rfl rfl rfl rfl ⟨k69.1,(cS k69.2)⟩ (cY ho25 k69.2) rfl ?_
     refine Ao.loadO tk rfl rfl rfl rfl rfl rfl rfl (aH (fun _=>rfl) k69.2) rfl rfl ?_
     refine Ao.q tk rfl (Ao.q tk rfl (Ao.nil (V.seq (V.ab (Ao.q tk rfl ?_)))))
     have s72 := clone_94 (m := 72) x69
     refine Ao.callO (g := 94) rfl rfl rfl Tryz.call94 (il.r) rfl rfl s72 (fun g72=>?_)
     refine Ao.q tk rfl (Ao.nil (V.seq (V.seq (V.ab (Ao.q tk rfl (Ao.q tk rfl (Ao.ay tk rfl rfl rfl rfl rfl (List.length_map _) rfl (Ao.q tk rfl (Ao.nil ?_)))))))))
     obtain ⟨fl13,H13,Hp13⟩ := aj H
     refine V.aZ tk 74 rfl rfl (fun hz13 _=>?_)
     rw [List.length_map] at hz13
     refine V.cut (τ := List LVal) (γ := OwnRef) (fun s13 g13=>⟨98,upd (upd (upd (upd (upd (upd (upd (upd (upd (fun _=>.any) 66 (ac (j10 : Int))) 65 (ac (s2.1.length : Int))) 64 (.own 25 g2.1 (s2.1.map (ag 53 ae)).length)) 18 (.own 72 g13 (s13.map ae).length)) 15 (.own 95 g10 (s10.map (ag 53 ae)).length)) 10 (.list 40 (s2.2.map (ag 51 (ag 53 ae))))) 5 (.ptr [(ac q.kind),(.str q.table),(.list 9 (q.names.map bo)),(.list 56 (q.exprs.map aI)),(.list 66 (q.aggregates.map bl)),(.list 4 (q.descending.map bB)),(ac q.count),(ac q.offset),(.list 35 (q.inputs.map aD))])) 4 (.ptr [(.list 91 (rA.s.tables.map aO)),(.list 142 (rA.s.foreignKeys.map bC)),(.list 148 (rA.s.constraints.map bH)),(.list 87 (rA.st.map bg)),(.list 53 (rA.args.map ae)),(.list 50 (rA.vars.map av)),(.list 9 (rA.names.map bo)),(.list 53 (rA.vals.map ae))])) 2 (.list 50 (cols.map av)),fun _=>none,upd (upd (upd (fun _=>none) 95 (some ⟨g10,51,(s10.map (ag 53 ae)),true⟩)) 72 (some ⟨g13,53,(s13.map ae),true⟩)) 25 (some ⟨g2.1,51,(s2.1.map (ag 53 ae)),true⟩)⟩) (fun t=>fl13 = .next t) ?_ (fun s13 g13 hn13=>?_)
     ·refine V.ap ?_
      refine V.aP (fun j13 s13 g13=>⟨98,upd (upd (upd (upd (upd (upd (upd (upd (upd (upd (upd (upd (upd (fun _=>.any) 76 (ac (j13 : Int))) 75 (ac (q.aggregates.length : Int))) 74 (.list 66 (q.aggregates.map bl))) 66 (ac (j10 : Int))) 65 (ac (s2.1.length : Int))) 64 (.own 25 g2.1 (s2.1.map (ag 53 ae)).length)) 18 (.own 72 g13 (s13.map ae).length)) 16 (ac (j10 : Int))) 15 (.own 95 g10 (s10.map (ag 53 ae)).length)) 10 (.list 40 (s2.2.map (ag 51 (ag 53 ae))))) 5 (.ptr [(ac q.kind),(.str q.table),(.list 9 (q.names.map bo)),(.list 56 (q.exprs.map aI)),(.list 66 (q.aggregates.map bl)),(.list 4 (q.descending.map bB)),(ac q.count),(ac q.offset),(.list 35 (q.inputs.map aD))])) 4 (.ptr [(.list 91 (rA.s.tables.map aO)),(.list 142 (rA.s.foreignKeys.map bC)),(.list 148 (rA.s.constraints.map bH)),(.list 87 (rA.st.map bg)),(.list 53 (rA.args.map ae)),(.list 50 (rA.vars.map av)),(.list 9 (rA.names.map bo)),(.list 53 (rA.vals.map ae))])) 2 (.list 50 (cols.map av)),fun _=>none,upd (upd (upd (fun _=>none) 95 (some ⟨g10,51,(s10.map (ag 53 ae)),true⟩)) 72 (some ⟨g13,53,(s13.map ae),true⟩)) 25 (some ⟨g2.1,51,(s2.1.map (ag 53 ae)),true⟩)⟩) g72 H13 (Gh.le (SLe.aa (PLe.q rfl) (SLe.aa (PLe.q rfl) (SLe.aa (PLe.q rfl) (SLe.aa (PLe.q rfl) (SLe.aa (PLe.q rfl) (SLe.aa (PLe.q rfl) (SLe.aa (PLe.q rfl) (SLe.aa (PLe.q rfl) (SLe.aa (PLe.q rfl) (SLe.aa (PLe.q rfl) (SLe.aa (PLe.q rfl) (SLe.aa (PLe.q rfl) (SLe.aa (PLe.q rfl) SLe.nil))))))))))))) BLe.nil (OLe.am rfl (OLe.am rfl (OLe.am rfl OLe.nil)))) (fun j13 s13 g13 hj13 hr13=>?_)
      refine V.seq (V.ab (Ao.q tk rfl (Ao.nil (V.seq ?_))))
      refine V.ak rfl (fun h=>?_) (fun h=>?_)
      ·have hl13 := bn h
       obtain ⟨x13,fb13,hx13,H,hg13⟩ := rMc hl13 hr13
       refine V.al (V.seq (V.ap (V.seq (V.ab ?_))))
       refine Ao.idx tk rfl rfl rfl rfl rfl rfl (Int.natCast_nonneg j13) (aY (fun _=>rfl) hx13) rfl ?_
       refine Ao.q tk rfl ?_
       refine Ao.aJ tk rfl rfl rfl rfl rfl rfl fun b20=>?_
       refine Ao.sB tk rfl rfl rfl rfl rfl rfl rfl rfl rfl rfl rfl (Ao.nil ?_)
       refine V.gR (tag := 25) rfl (fun ho25=>?_)
       refine V.gR (tag := 72) rfl (fun ho72=>?_)
       refine V.gR (tag := 95) rfl (fun ho95=>?_)
       refine V.bc tk mok ⟨true,false,[81,87]⟩ [0,1,2,3,4,5,6,7,8,9,10,11] rfl (by decide +kernel) rfl (Do.q rfl (Do.q rfl (Do.lB rfl rfl rfl rfl rfl rfl rfl rfl rfl (Do.q rfl (Do.q rfl (Do.q rfl ?_))))))
       obtain ⟨x86,h86,H⟩ := aj H
       have k86 := gIs h86
       refine Do.idx rfl rfl rfl rfl rfl rfl rfl k86.1 (aH (fun _=>rfl) k86.2) rfl ?_
       refine Do.q rfl ?_
       obtain ⟨x88,h88,H⟩ := aj H
       have s88 := oY rA x13 cols x86 _ h88
       refine Do.aR (g := 173) rfl rfl rfl rfl Tryz.call173 (il.r) s88 rfl (Do.q rfl ?_)
       obtain ⟨x90,h90,H⟩ := aj H
       have k90 := cf h90
       refine Do.jM (rows2' := List.map ae ([x88] : List LVal)) (rows' := List.map ae x90) tk rfl rfl rfl rfl rfl rfl rfl rfl rfl rfl rfl rfl rfl rfl (fj.refl _) (dp k90.1) (dv k90.2.1) (du k90.2.2) fun g90=>?_
       refine Do.q rfl (Do.nil (V.blk (V.ab (Ao.q tk rfl (Ao.q tk rfl (Ao.nil ?_))))))
       obtain rfl := ai H
       refine V.ax x90 g90 ⟨hl13,hg13⟩ (Gh.le (SLe.aa (PLe.q rfl) (SLe.aa (PLe.q rfl) (SLe.aa (PLe.q rfl) (SLe.aa (PLe.q rfl) (SLe.aa (PLe.q rfl) (SLe.aa (PLe.q rfl) (SLe.aa (PLe.q rfl) (SLe.aa (PLe.q rfl) (SLe.aa (PLe.q rfl) (SLe.aa (PLe.q rfl) (SLe.aa (PLe.q rfl) (SLe.aa (PLe.q rfl) (SLe.aa (PLe.q (az (by omega))) SLe.nil))))))))))))) BLe.nil (OLe.am rfl (OLe.am rfl (OLe.am rfl OLe.nil))))
      ·have hn13 := rMd (bm h) hr13
       refine V.aB rfl ?_
       refine V.at s13 g13 hn13 (Gh.le (SLe.aa (PLe.q rfl) (SLe.aa (PLe.q rfl) (SLe.aa (PLe.q rfl) (SLe.aa (PLe.q rfl) (SLe.aa (PLe.q rfl) (SLe.aa (PLe.q rfl) (SLe.aa (PLe.q rfl) (SLe.aa (PLe.q rfl) (SLe.aa (PLe.q rfl) SLe.nil))))))))) BLe.nil (OLe.am rfl (OLe.am rfl (OLe.am rfl OLe.nil))))
     ·have H := aW hn13 Hp13
      refine V.dm 18 rfl rfl rfl (V.ab (Ao.q tk rfl (Ao.q tk rfl (Ao.bsC tk rfl rfl rfl rfl (rows' := List.map (ag 53 ae) ([s13] : List (List LVal))) rfl (fj.refl _) rfl rfl ?_))))
      obtain ⟨x95,h95,H⟩ := aj H
      have k95 := cf h95
      refine Ao.co (rows2' := List.map (ag 53 ae) ([s13] : List (List LVal))) (rows' := List.map (ag 53 ae) x95) tk rfl rfl rfl rfl rfl rfl rfl rfl rfl rfl rfl rfl rfl (fj.refl _) (dp k95.1) (dv k95.2.1) (du k95.2.2) fun g95=>?_
      refine Ao.q tk rfl (Ao.nil (V.blk (V.ab (Ao.q tk rfl (Ao.q tk rfl (Ao.nil ?_))))))
      obtain rfl := ai H
      refine V.ax x95 g95 ⟨hl10,hg10⟩ (Gh.le (SLe.aa (PLe.q rfl) (SLe.aa (PLe.q rfl) (SLe.aa (PLe.q rfl) (SLe.aa (PLe.q rfl) (SLe.aa (PLe.q rfl) (SLe.aa (PLe.q rfl) (SLe.aa (PLe.q rfl) (SLe.aa (PLe.q (mZ hz10 hl10)) SLe.nil)))))))) BLe.nil (OLe.am rfl (OLe.am rfl OLe.nil)))
    ·have hn10 := rMd (natGe hz10 h) hr10
     refine V.aB rfl ?_
     refine V.at s10 g10 hn10 (Gh.le (SLe.aa (PLe.q rfl) SLe.nil) BLe.nil (OLe.am rfl OLe.nil))
   ·have H := aW hn10 Hp10
    refine V.seq (V.ab (Ao.q tk rfl (Ao.q tk rfl (Ao.nil ?_))))
    obtain rfl := ai H
    refine V.dm 8 rfl rfl rfl ?_
    refine V.aq tk rfl (ps := [(.list 51 (s10.map (ag 53 ae)))]) ⟨_,_,rfl,rfl,rfl⟩ (PLe.q rfl)
def eg (a : List LVal) (b : List LVal) (c0 : LRun) (c1 : List LCol) (c2 : LQuery) : Option (Int) :=
 af (cD c0 c1 a c2.exprs) fun x13 =>
 af (cD c0 c1 b c2.exprs) fun x19 =>
 af (fB x13 x19 c2.descending) fun x22 =>
 some x22
set_option maxHeartbeats 4000000 in
theorem nM (a : List LVal) (b : List LVal) (c0 : LRun) (c1 : List LCol) (c2 : LQuery) (r : Int) (H : eg a b c0 c1 c2 = some r) :
  aG Tryz.prog 175 [(.list 53 (a.map ae)),(.list 53 (b.map ae)),(.ptr (fP c0)),(.ptr [(.list 50 (c1.map av))]),(.ptr (aQ c2))] (ac r) := by
 unfold eg at H
 refine PH.intro Tryz.func175 rfl Tryz.ntmps175 rfl ?_
 refine V.seq (V.ab (Ao.q tk rfl (Ao.nil (V.seq (V.bc tk mok ⟨false,false,[]⟩ [0,1,2,3,4,6,7,8,9,10,12,13,5,11,14,15] rfl (by decide +kernel) rfl (Do.q rfl (Do.q rfl (Do.q rfl (Do.q rfl (Do.q rfl (Do.q rfl (Do.q rfl (Do.q rfl (Do.q rfl (Do.q rfl (Do.q rfl (Do.q rfl ?_)))))))))))))))))
 obtain ⟨x13,h13,H⟩ := aj H
 have s13 := hZ c0 c1 a c2.exprs _ h13
 refine Do.aR (g := 140) rfl rfl rfl rfl Tryz.call140 (il.r) s13 rfl ?_
 obtain ⟨x19,h19,H⟩ := aj H
 have s19 := hZ c0 c1 b c2.exprs _ h19
 refine Do.aR (g := 140) rfl rfl rfl rfl Tryz.call140 (il.r) s19 rfl ?_
 obtain ⟨x22,h22,H⟩ := aj H
 have s22 := nz x13 x19 c2.descending _ h22
 refine Do.aR (g := 72) rfl rfl rfl rfl Tryz.call72 (il.r) s22 rfl (Do.q rfl (Do.nil ?_))
 obtain rfl := ai H
 refine V.aq tk rfl (ps := [(ac x22)]) ⟨_,_,rfl,rfl,rfl⟩ (PLe.q rfl)
end
end Go.Proofs.YtgaggbdcedpapaaGreat

namespace Go.Proofs.YtgaggbdcedpapaaGreat
noncomputable section
open Go Go.Ab
attribute [local irreducible] V Ao Do Gh Eff PH IntKind.wrap
set_option maxRecDepth 4000
def gc (sA : LSchema) : Option (Int) :=
 ba (
  cond (decide ((sA.tables.length : Int) > (6 : Int)))
   (true)
   (cond (decide ((sA.foreignKeys.length : Int) > (8 : Int)))
    (true)
    ((decide ((sA.constraints.length : Int) > (8 : Int)))))) fun (t1 : Bool) =>
 cond t1
  (some 2)
  (af (aE (σ := Unit) (ρ := (Int)) (fun (j2 : Nat) (x2 : LTable) (_ : Unit) =>
   af (dP x2) fun x37 =>
   cond (x37 != (0 : Int))
    (some (.ret x37))
    (cond (decide ((j2 : Int) > (0 : Int)))
     (af (aC sA.tables (IntKind.i64.wrap ((j2 : Int) - (1 : Int)))) fun (x50 : LTable) =>
     cond (Op.bytesLess x2.name x50.name || x2.name == x50.name)
      (some (.ret 6))
      (some (.next ())))
     (some (.next ())))) 0 sA.tables ()) fun fl2=>fl2.thenR fun (_ : Unit) =>
  af (aE (σ := Unit) (ρ := (Int)) (fun (j3 : Nat) (x3 : LForeignKey) (_ : Unit) =>
   af (dB sA x3) fun x66 =>
   cond (x66 != (0 : Int))
    (some (.ret x66))
    (af (kv sA.foreignKeys 0 (j3 : Int)) fun (x73 : List LForeignKey) =>
    af (bv x73 (fun a0=>eJ a0 x3)) fun x75 =>
    cond x75
     (some (.ret 5))
     (some (.next ())))) 0 sA.foreignKeys ()) fun fl3=>fl3.thenR fun (_ : Unit) =>
  af (aE (σ := Unit) (ρ := (Int)) (fun (j4 : Nat) (x4 : LConstraint) (_ : Unit) =>
   af (dz sA x4) fun x87 =>
   cond (x87 != (0 : Int))
    (some (.ret x87))
    (af (kv sA.constraints 0 (j4 : Int)) fun (x94 : List LConstraint) =>
    af (bD x94 x4) fun x96 =>
    cond x96
     (some (.ret 5))
     (some (.next ())))) 0 sA.constraints ()) fun fl4=>fl4.thenR fun (_ : Unit) =>
  some 0)
set_option maxHeartbeats 4000000 in
theorem oE (sA : LSchema) (r : Int) (H : gc sA = some r) :
  aG Tryz.prog 83 [(.agg (db sA))] (ac r) := by
 unfold gc at H
 refine PH.intro Tryz.func83 rfl Tryz.ntmps83 rfl ?_
 refine V.seq (V.ab (Ao.aF rfl rfl rfl rfl rfl rfl (Ao.q tk rfl (Ao.nil (V.seq (V.seq ?_))))))
 obtain ⟨fl1,H1,Hp1⟩ := bA H
 refine V.cut (τ := Bool) (γ := Unit) (fun t1 g1=>⟨98,upd (upd (fun _=>.any) 27 (au t1)) 1 (.ptr [(.list 91 (sA.tables.map aO)),(.list 142 (sA.foreignKeys.map bC)),(.list 148 (sA.constraints.map bH))]),fun _=>none,fun _=>none⟩) (fun t=>t = fl1) ?_ (fun t1 g1 hn1=>?_)
 ·have H := H1
  refine V.ab (Ao.q tk rfl (Ao.q tk rfl (Ao.ay tk rfl rfl rfl rfl rfl (List.length_map _) rfl (Ao.q tk rfl (Ao.q tk rfl ?_)))))
  refine Ao.aA rfl rfl rfl (fun h=>?_) (fun h=>?_)
  ·have H := condT h H
   refine Ao.q tk rfl (Ao.q tk rfl (Ao.q tk rfl (Ao.q tk rfl (Ao.q tk rfl (Ao.q tk rfl (Ao.q tk rfl (Ao.q tk rfl (Ao.q tk rfl (Ao.q tk rfl (Ao.q tk rfl (Ao.nil ?_)))))))))))
   subst H
   refine V.at true () rfl (Gh.le (SLe.aa (PLe.q rfl) (SLe.aa (PLe.q rfl) SLe.nil)) BLe.nil OLe.nil)
  ·have H := condF h H
   refine Ao.q tk rfl (Ao.q tk rfl (Ao.ay tk rfl rfl rfl rfl rfl (List.length_map _) rfl (Ao.q tk rfl (Ao.q tk rfl (Ao.q tk rfl ?_)))))
   refine Ao.aA rfl rfl rfl (fun h=>?_) (fun h=>?_)
   ·have H := condT h H
    refine Ao.q tk rfl (Ao.q tk rfl (Ao.q tk rfl (Ao.q tk rfl (Ao.q tk rfl (Ao.nil ?_)))))
    subst H
    refine V.at true () rfl (Gh.le (SLe.aa (PLe.q rfl) (SLe.aa (PLe.q rfl) SLe.nil)) BLe.nil OLe.nil)
   ·have H := condF h H
    refine Ao.q tk rfl (Ao.q tk rfl (Ao.ay tk rfl rfl rfl rfl rfl (List.length_map _) rfl (Ao.q tk rfl (Ao.q tk rfl (Ao.nil ?_)))))
    subst H
    refine V.at (decide ((sA.constraints.length : Int) > (8 : Int))) () rfl (Gh.le (SLe.aa (PLe.q rfl) (SLe.aa (PLe.q rfl) SLe.nil)) BLe.nil OLe.nil)
 ·subst hn1
  have H := Hp1
  refine V.ak rfl (fun h=>?_) (fun h=>?_)
  ·have H := condT h H
   refine V.seq (V.ab (Ao.q tk rfl (Ao.nil ?_)))
   obtain rfl := ai H
   refine V.aq tk rfl (ps := [(ac 2)]) ⟨_,_,rfl,rfl,rfl⟩ (PLe.q rfl)
  ·have H := condF h H
   refine V.al (V.seq (V.seq (V.ab (Ao.q tk rfl (Ao.q tk rfl (Ao.ay tk rfl rfl rfl rfl rfl (List.length_map _) rfl (Ao.q tk rfl (Ao.nil ?_))))))))
   obtain ⟨fl2,H2,Hp2⟩ := aj H
   refine V.aZ tk 29 rfl rfl (fun hz2 _=>?_)
   rw [List.length_map] at hz2
   refine V.cut (τ := Unit) (γ := Unit) (fun s2 g2=>⟨98,upd (fun _=>.any) 1 (.ptr [(.list 91 (sA.tables.map aO)),(.list 142 (sA.foreignKeys.map bC)),(.list 148 (sA.constraints.map bH))]),fun _=>none,fun _=>none⟩) (fun t=>fl2 = .next t) ?_ (fun s2 g2 hn2=>?_)
   ·refine V.ap ?_
    refine V.aP (fun j2 s2 g2=>⟨98,upd (upd (upd (upd (fun _=>.any) 31 (ac (j2 : Int))) 30 (ac (sA.tables.length : Int))) 29 (.list 91 (sA.tables.map aO))) 1 (.ptr [(.list 91 (sA.tables.map aO)),(.list 142 (sA.foreignKeys.map bC)),(.list 148 (sA.constraints.map bH))]),fun _=>none,fun _=>none⟩) () H2 (Gh.le (SLe.aa (PLe.q rfl) (SLe.aa (PLe.q rfl) (SLe.aa (PLe.q rfl) (SLe.aa (PLe.q rfl) SLe.nil)))) BLe.nil OLe.nil) (fun j2 s2 g2 hj2 hr2=>?_)
    refine V.seq (V.ab (Ao.q tk rfl (Ao.nil (V.seq ?_))))
    refine V.ak rfl (fun h=>?_) (fun h=>?_)
    ·have hl2 := bn h
     obtain ⟨x2,fb2,hx2,H,hg2⟩ := rMc hl2 hr2
     refine V.al (V.seq (V.ap (V.seq (V.ab (Ao.q tk rfl ?_)))))
     refine Ao.idx tk rfl rfl rfl rfl rfl rfl (Int.natCast_nonneg j2) (aY (fun _=>rfl) hx2) rfl ?_
     refine Ao.q tk rfl ?_
     refine Ao.aJ tk rfl rfl rfl rfl rfl rfl fun b4=>?_
     refine Ao.q tk rfl (Ao.sB tk rfl rfl rfl rfl rfl rfl rfl rfl rfl rfl rfl (Ao.nil (V.seq (V.seq (V.ab (Ao.lB tk rfl rfl rfl rfl rfl rfl rfl ?_))))))
     obtain ⟨x37,h37,H⟩ := aj H
     have s37 := mt x2 _ h37
     refine Ao.ah (g := 98) rfl rfl rfl Tryz.call98 (il.r) s37 rfl (Ao.q tk rfl (Ao.nil (V.seq (V.ab (Ao.q tk rfl (Ao.q tk rfl (Ao.nil ?_)))))))
     refine V.ak rfl (fun h=>?_) (fun h=>?_)
     ·have H := condT h H
      refine V.seq (V.ab (Ao.q tk rfl (Ao.q tk rfl (Ao.nil ?_))))
      obtain rfl := ai H
      have e2 : fl2 = .ret _ := hg2
      subst e2
      obtain rfl := aL Hp2
      refine V.aq tk rfl (ps := [(ac x37)]) ⟨_,_,rfl,rfl,rfl⟩ (PLe.q rfl)
     ·have H := condF h H
      refine V.al (V.seq (V.bc tk mok ⟨true,false,[47,52]⟩ [0,1,2,3,4,5,6,7,8,9,10,11,12,13] rfl (by decide +kernel) rfl (Do.q rfl (Do.q rfl (Do.q rfl ?_)))))
      refine Do.fh rfl rfl rfl rfl (fun h=>?_) (fun h=>?_)
      ·have H := condT h H
       refine Do.q rfl (Do.lB rfl rfl rfl rfl rfl rfl rfl rfl rfl (Do.q rfl (Do.q rfl (Do.q rfl (Do.q rfl ?_)))))
       obtain ⟨x50,h50,H⟩ := aj H
       have k50 := gIs h50
       refine Do.idx rfl rfl rfl rfl rfl rfl rfl k50.1 (aH (fun _=>rfl) k50.2) rfl ?_
       refine Do.q rfl (Do.q rfl (Do.q rfl (Do.q rfl (Do.nil ?_))))
       refine V.ak rfl (fun h=>?_) (fun h=>?_)
       ·have H := condT h H
        refine V.seq (V.ab (Ao.q tk rfl (Ao.nil ?_)))
        obtain rfl := ai H
        have e2 : fl2 = .ret _ := hg2
        subst e2
        obtain rfl := aL Hp2
        refine V.aq tk rfl (ps := [(ac 6)]) ⟨_,_,rfl,rfl,rfl⟩ (PLe.q rfl)
       ·have H := condF h H
        refine V.al (V.blk (V.ab (Ao.q tk rfl (Ao.q tk rfl (Ao.nil ?_)))))
        obtain rfl := ai H
        refine V.ax () () ⟨hl2,hg2⟩ (Gh.le (SLe.aa (PLe.q rfl) (SLe.aa (PLe.q rfl) (SLe.aa (PLe.q rfl) (SLe.aa (PLe.q (az (by omega))) SLe.nil)))) BLe.nil OLe.nil)
      ·have H := condF h H
       refine Do.q rfl (Do.q rfl (Do.q rfl (Do.q rfl (Do.q rfl (Do.q rfl (Do.q rfl (Do.q rfl (Do.q rfl (Do.q rfl (Do.q rfl (Do.nil (V.be rfl (V.al (V.blk ?_))))))))))))))
       refine V.ab (Ao.q tk rfl (Ao.q tk rfl (Ao.nil ?_)))
       obtain rfl := ai H
       refine V.ax () () ⟨hl2,hg2⟩ (Gh.le (SLe.aa (PLe.q rfl) (SLe.aa (PLe.q rfl) (SLe.aa (PLe.q rfl) (SLe.aa (PLe.q (az (by omega))) SLe.nil)))) BLe.nil OLe.nil)
    ·have hn2 := rMd (bm h) hr2
     refine V.aB rfl ?_
     refine V.at s2 g2 hn2 (Gh.le (SLe.aa (PLe.q rfl) SLe.nil) BLe.nil OLe.nil)
   ·have H := br hn2 Hp2
    refine V.seq (V.seq (V.ab (Ao.q tk rfl (Ao.q tk rfl (Ao.ay tk rfl rfl rfl rfl rfl (List.length_map _) rfl (Ao.q tk rfl (Ao.nil ?_)))))))
    obtain ⟨fl3,H3,Hp3⟩ := aj H
    refine V.aZ tk 57 rfl rfl (fun hz3 _=>?_)
    rw [List.length_map] at hz3
    refine V.cut (τ := Unit) (γ := Unit) (fun s3 g3=>⟨98,upd (fun _=>.any) 1 (.ptr [(.list 91 (sA.tables.map aO)),(.list 142 (sA.foreignKeys.map bC)),(.list 148 (sA.constraints.map bH))]),fun _=>none,fun _=>none⟩) (fun t=>fl3 = .next t) ?_ (fun s3 g3 hn3=>?_)
    ·refine V.ap ?_
     refine V.aP (fun j3 s3 g3=>⟨98,upd (upd (upd (upd (fun _=>.any) 59 (ac (j3 : Int))) 58 (ac (sA.foreignKeys.length : Int))) 57 (.list 142 (sA.foreignKeys.map bC))) 1 (.ptr [(.list 91 (sA.tables.map aO)),(.list 142 (sA.foreignKeys.map bC)),(.list 148 (sA.constraints.map bH))]),fun _=>none,fun _=>none⟩) () H3 (Gh.le (SLe.aa (PLe.q rfl) (SLe.aa (PLe.q rfl) (SLe.aa (PLe.q rfl) (SLe.aa (PLe.q rfl) SLe.nil)))) BLe.nil OLe.nil) (fun j3 s3 g3 hj3 hr3=>?_)
     refine V.seq (V.ab (Ao.q tk rfl (Ao.nil (V.seq ?_))))
     refine V.ak rfl (fun h=>?_) (fun h=>?_)
     ·have hl3 := bn h
      obtain ⟨x3,fb3,hx3,H,hg3⟩ := rMc hl3 hr3
      refine V.al (V.seq (V.ap (V.seq (V.ab (Ao.q tk rfl ?_)))))
      refine Ao.idx tk rfl rfl rfl rfl rfl rfl (Int.natCast_nonneg j3) (aY (fun _=>rfl) hx3) rfl ?_
      refine Ao.q tk rfl ?_
      refine Ao.aJ tk rfl rfl rfl rfl rfl rfl fun b7=>?_
      refine Ao.q tk rfl (Ao.sB tk rfl rfl rfl rfl rfl rfl rfl rfl rfl rfl rfl (Ao.nil (V.seq (V.seq (V.ab (Ao.q tk rfl (Ao.lB tk rfl rfl rfl rfl rfl rfl rfl ?_)))))))
      obtain ⟨x66,h66,H⟩ := aj H
      have s66 := kR sA x3 _ h66
      refine Ao.ah (g := 99) rfl rfl rfl Tryz.call99 (il.r) s66 rfl (Ao.q tk rfl (Ao.nil (V.seq (V.ab (Ao.q tk rfl (Ao.q tk rfl (Ao.nil ?_)))))))
      refine V.ak rfl (fun h=>?_) (fun h=>?_)
      ·have H := condT h H
       refine V.seq (V.ab (Ao.q tk rfl (Ao.q tk rfl (Ao.nil ?_))))
       obtain rfl := ai H
       have e3 : fl3 = .ret _ := hg3
       subst e3
       obtain rfl := aL Hp3
       refine V.aq tk rfl (ps := [(ac x66)]) ⟨_,_,rfl,rfl,rfl⟩ (PLe.q rfl)
      ·have H := condF h H
       refine V.al (V.seq (V.ab (Ao.q tk rfl (Ao.q tk rfl (Ao.q tk rfl ?_)))))
       obtain ⟨x73,h73,H⟩ := aj H
       have k73 := kF h73
       refine Ao.subL tk rfl rfl rfl rfl rfl (List.length_map _) rfl rfl k73.1 (lP k73.2) rfl (Ao.gh (Gh.freezeB 7 rfl rfl rfl rfl) (Ao.q tk rfl ?_))
       obtain ⟨x75,h75,H⟩ := aj H
       have s75 := fW x73 (fun a0=>eJ a0 x3) Tryz.call101 (fun a0 r h=>nE a0 x3 r h) _ h75
       refine Ao.ah (g := 100) rfl rfl rfl Tryz.call100 (il.r) s75 rfl (Ao.nil ?_)
       refine V.ak rfl (fun h=>?_) (fun h=>?_)
       ·have H := condT h H
        refine V.seq (V.ab (Ao.q tk rfl (Ao.nil ?_)))
        obtain rfl := ai H
        have e3 : fl3 = .ret _ := hg3
        subst e3
        obtain rfl := aL Hp3
        refine V.aq tk rfl (ps := [(ac 5)]) ⟨_,_,rfl,rfl,rfl⟩ (PLe.q rfl)
       ·have H := condF h H
        refine V.al (V.blk (V.ab (Ao.q tk rfl (Ao.q tk rfl (Ao.nil ?_)))))
        obtain rfl := ai H
        refine V.ax () () ⟨hl3,hg3⟩ (Gh.le (SLe.aa (PLe.q rfl) (SLe.aa (PLe.q rfl) (SLe.aa (PLe.q rfl) (SLe.aa (PLe.q (az (by omega))) SLe.nil)))) BLe.nil OLe.nil)
     ·have hn3 := rMd (bm h) hr3
      refine V.aB rfl ?_
      refine V.at s3 g3 hn3 (Gh.le (SLe.aa (PLe.q rfl) SLe.nil) BLe.nil OLe.nil)
    ·have H := br hn3 Hp3
     refine V.seq (V.seq (V.ab (Ao.q tk rfl (Ao.q tk rfl (Ao.ay tk rfl rfl rfl rfl rfl (List.length_map _) rfl (Ao.q tk rfl (Ao.nil ?_)))))))
     obtain ⟨fl4,H4,Hp4⟩ := aj H
     refine V.aZ tk 78 rfl rfl (fun hz4 _=>?_)
     rw [List.length_map] at hz4
     refine V.cut (τ := Unit) (γ := Unit) (fun s4 g4=>⟨98,fun _=>.any,fun _=>none,fun _=>none⟩) (fun t=>fl4 = .next t) ?_ (fun s4 g4 hn4=>?_)
     ·refine V.ap ?_
      refine V.aP (fun j4 s4 g4=>⟨98,upd (upd (upd (upd (fun _=>.any) 80 (ac (j4 : Int))) 79 (ac (sA.constraints.length : Int))) 78 (.list 148 (sA.constraints.map bH))) 1 (.ptr [(.list 91 (sA.tables.map aO)),(.list 142 (sA.foreignKeys.map bC)),(.list 148 (sA.constraints.map bH))]),fun _=>none,fun _=>none⟩) () H4 (Gh.le (SLe.aa (PLe.q rfl) (SLe.aa (PLe.q rfl) (SLe.aa (PLe.q rfl) (SLe.aa (PLe.q rfl) SLe.nil)))) BLe.nil OLe.nil) (fun j4 s4 g4 hj4 hr4=>?_)
      refine V.seq (V.ab (Ao.q tk rfl (Ao.nil (V.seq ?_))))
      refine V.ak rfl (fun h=>?_) (fun h=>?_)
      ·have hl4 := bn h
       obtain ⟨x4,fb4,hx4,H,hg4⟩ := rMc hl4 hr4
       refine V.al (V.seq (V.ap (V.seq (V.ab (Ao.q tk rfl ?_)))))
       refine Ao.idx tk rfl rfl rfl rfl rfl rfl (Int.natCast_nonneg j4) (aY (fun _=>rfl) hx4) rfl ?_
       refine Ao.q tk rfl ?_
       refine Ao.aJ tk rfl rfl rfl rfl rfl rfl fun b10=>?_
       refine Ao.q tk rfl (Ao.sB tk rfl rfl rfl rfl rfl rfl rfl rfl rfl rfl rfl (Ao.nil (V.seq (V.seq (V.ab (Ao.q tk rfl (Ao.lB tk rfl rfl rfl rfl rfl rfl rfl ?_)))))))
       obtain ⟨x87,h87,H⟩ := aj H
       have s87 := kQ sA x4 _ h87
       refine Ao.ah (g := 103) rfl rfl rfl Tryz.call103 (il.r) s87 rfl (Ao.q tk rfl (Ao.nil (V.seq (V.ab (Ao.q tk rfl (Ao.q tk rfl (Ao.nil ?_)))))))
       refine V.ak rfl (fun h=>?_) (fun h=>?_)
       ·have H := condT h H
        refine V.seq (V.ab (Ao.q tk rfl (Ao.q tk rfl (Ao.nil ?_))))
        obtain rfl := ai H
        have e4 : fl4 = .ret _ := hg4
        subst e4
        obtain rfl := aL Hp4
        refine V.aq tk rfl (ps := [(ac x87)]) ⟨_,_,rfl,rfl,rfl⟩ (PLe.q rfl)
       ·have H := condF h H
        refine V.al (V.seq (V.bc tk mok ⟨true,false,[92]⟩ [0,1,2,3,4,5] rfl (by decide +kernel) rfl (Do.q rfl (Do.q rfl (Do.q rfl ?_)))))
        obtain ⟨x94,h94,H⟩ := aj H
        have k94 := kF h94
        refine Do.subL rfl rfl rfl rfl rfl rfl (List.length_map _) rfl rfl k94.1 (lP k94.2) rfl (Do.lB rfl rfl rfl rfl rfl rfl rfl rfl rfl ?_)
        obtain ⟨x96,h96,H⟩ := aj H
        have s96 := gu x94 x4 _ h96
        refine Do.aR (g := 104) rfl rfl rfl rfl Tryz.call104 (il.r) s96 rfl (Do.nil ?_)
        refine V.ak rfl (fun h=>?_) (fun h=>?_)
        ·have H := condT h H
         refine V.seq (V.ab (Ao.q tk rfl (Ao.nil ?_)))
         obtain rfl := ai H
         have e4 : fl4 = .ret _ := hg4
         subst e4
         obtain rfl := aL Hp4
         refine V.aq tk rfl (ps := [(ac 5)]) ⟨_,_,rfl,rfl,rfl⟩ (PLe.q rfl)
        ·have H := condF h H
         refine V.al (V.blk (V.ab (Ao.q tk rfl (Ao.q tk rfl (Ao.nil ?_)))))
         obtain rfl := ai H
         refine V.ax () () ⟨hl4,hg4⟩ (Gh.le (SLe.aa (PLe.q rfl) (SLe.aa (PLe.q rfl) (SLe.aa (PLe.q rfl) (SLe.aa (PLe.q (az (by omega))) SLe.nil)))) BLe.nil OLe.nil)
      ·have hn4 := rMd (bm h) hr4
       refine V.aB rfl ?_
       refine V.at s4 g4 hn4 (Gh.le SLe.nil BLe.nil OLe.nil)
     ·have H := br hn4 Hp4
      refine V.seq (V.ab (Ao.q tk rfl (Ao.nil ?_)))
      obtain rfl := ai H
      refine V.aq tk rfl (ps := [(ac 0)]) ⟨_,_,rfl,rfl,rfl⟩ (PLe.q rfl)
end
end Go.Proofs.YtgaggbdcedpapaaGreat

namespace Go.Proofs.YtgaggbdcedpapaaGreat
noncomputable section
open Go Go.Ab
attribute [local irreducible] V Ao Do Gh Eff PH IntKind.wrap
set_option maxRecDepth 4000
def dF (rec90 : LChecker → LQuery → Option ((List LCol) × Int)) (c : LChecker) (q : LQuery) : Option ((List LCol) × Int) :=
 af (iz q) fun x16 =>
 cond (!x16)
  (some ([],3))
  (af (aE (σ := List (List LCol)) (ρ := ((List LCol) × Int)) (fun (_ : Nat) (x1 : LQuery) (s1 : List (List LCol)) =>
   af (rec90 c x1) fun x28 =>
   cond (x28.2 != (0 : Int))
    (some (.ret ([],x28.2)))
    (af (cI 24 s1 ([x28.1] : List (List LCol))) fun (x37 : List (List LCol)) =>
    some (.next x37))) 0 q.inputs []) fun fl1=>fl1.thenR fun (s1 : List (List LCol)) =>
  af (fC c q s1) fun x43 =>
  cond (x43.2 != (0 : Int))
   (some ([],x43.2))
   (cond (decide ((x43.1.length : Int) > (20 : Int)))
    (some ([],2))
    (af (aE (σ := Unit) (ρ := ((List LCol) × Int)) (fun (j2 : Nat) (x2 : LCol) (_ : Unit) =>
     af (kv x43.1 0 (j2 : Int)) fun (x61 : List LCol) =>
     af (bw x61 (fun a0=>some (bG a0 x2))) fun x63 =>
     cond x63
      (some (.ret ([],23)))
      (some (.next ()))) 0 x43.1 ()) fun fl2=>fl2.thenR fun (_ : Unit) =>
    some (x43.1,0))))
set_option maxHeartbeats 4000000 in
theorem lF (rec90 : LChecker → LQuery → Option ((List LCol) × Int)) (hrec90 : ∀ a0 a1 r,rec90 a0 a1 = some r → aG Tryz.prog 90 [(.agg (hJ a0)),(.agg (aQ a1))] (.tup [(.list 50 (r.1.map av)),(ac r.2)])) (c : LChecker) (q : LQuery) (r : (List LCol) × Int) (H : dF rec90 c q = some r) :
  aG Tryz.prog 90 [(.agg (hJ c)),(.agg (aQ q))] (.tup [(.list 50 (r.1.map av)),(ac r.2)]) := by
 unfold dF at H
 refine PH.intro Tryz.func90 rfl Tryz.ntmps90 rfl ?_
 refine V.seq (V.ab (Ao.aF rfl rfl rfl rfl rfl rfl (Ao.aF rfl rfl rfl rfl rfl rfl (Ao.q tk rfl (Ao.q tk rfl (Ao.nil (V.seq (V.seq (V.ab (Ao.q tk rfl ?_))))))))))
 obtain ⟨x16,h16,H⟩ := aj H
 have s16 := W_query_shape q _ h16
 refine Ao.ah (g := 110) rfl rfl rfl Tryz.call110 (il.r) s16 rfl (Ao.q tk rfl (Ao.nil ?_))
 refine V.ak rfl (fun h=>?_) (fun h=>?_)
 ·have H := condT h H
  refine V.seq (V.ab (Ao.q tk rfl (Ao.q tk rfl (Ao.nil ?_))))
  obtain rfl := ai H
  refine V.aq tk rfl (ps := [(.val (.slice none 0 0)),(ac 3)]) ⟨_,_,rfl,rfl,_,_,rfl,rfl,rfl⟩ (PLe.of2 (kW.tup (fQ.cons (kW.nil tk rfl) (fQ.cons (kW.of_eq rfl) fQ.nil))))
 ·have H := condF h H
  refine V.al (V.seq (V.ab (Ao.q tk rfl (Ao.nil (V.seq (V.seq (V.ab (Ao.q tk rfl (Ao.q tk rfl (Ao.ay tk rfl rfl rfl rfl rfl (List.length_map _) rfl (Ao.q tk rfl (Ao.nil ?_))))))))))))
  obtain ⟨fl1,H1,Hp1⟩ := aj H
  refine V.aZ tk 19 rfl rfl (fun hz1 _=>?_)
  rw [List.length_map] at hz1
  refine V.cut (τ := List (List LCol)) (γ := OwnRef) (fun s1 g1=>⟨66,upd (upd (upd (fun _=>.any) 6 (.own 37 g1 (s1.map (ag 50 av)).length)) 3 (.ptr [(ac q.kind),(.str q.table),(.list 9 (q.names.map bo)),(.list 56 (q.exprs.map aI)),(.list 66 (q.aggregates.map bl)),(.list 4 (q.descending.map bB)),(ac q.count),(ac q.offset),(.list 35 (q.inputs.map aD))])) 2 (.ptr [(.list 91 (c.s.tables.map aO)),(.list 142 (c.s.foreignKeys.map bC)),(.list 148 (c.s.constraints.map bH)),(.list 50 (c.vars.map av))]),fun _=>none,upd (fun _=>none) 37 (some ⟨g1,39,(s1.map (ag 50 av)),true⟩)⟩) (fun t=>fl1 = .next t) ?_ (fun s1 g1 hn1=>?_)
  ·refine V.ap (V.gr tk 6 37 (e := 39) rfl rfl ?_)
   refine V.aP (fun j1 s1 g1=>⟨66,upd (upd (upd (upd (upd (upd (fun _=>.any) 21 (ac (j1 : Int))) 20 (ac (q.inputs.length : Int))) 19 (.list 35 (q.inputs.map aD))) 6 (.own 37 g1 (s1.map (ag 50 av)).length)) 3 (.ptr [(ac q.kind),(.str q.table),(.list 9 (q.names.map bo)),(.list 56 (q.exprs.map aI)),(.list 66 (q.aggregates.map bl)),(.list 4 (q.descending.map bB)),(ac q.count),(ac q.offset),(.list 35 (q.inputs.map aD))])) 2 (.ptr [(.list 91 (c.s.tables.map aO)),(.list 142 (c.s.foreignKeys.map bC)),(.list 148 (c.s.constraints.map bH)),(.list 50 (c.vars.map av))]),fun _=>none,upd (fun _=>none) 37 (some ⟨g1,39,(s1.map (ag 50 av)),true⟩)⟩) (⟨none,0⟩) H1 (Gh.le (SLe.aa (PLe.q rfl) (SLe.aa (PLe.q rfl) (SLe.aa (PLe.q rfl) (SLe.aa (PLe.q rfl) (SLe.aa (PLe.q rfl) (SLe.aa (PLe.q rfl) SLe.nil)))))) BLe.nil (OLe.am rfl OLe.nil)) (fun j1 s1 g1 hj1 hr1=>?_)
   refine V.seq (V.ab (Ao.q tk rfl (Ao.nil (V.seq ?_))))
   refine V.ak rfl (fun h=>?_) (fun h=>?_)
   ·have hl1 := bn h
    obtain ⟨x1,fb1,hx1,H,hg1⟩ := rMc hl1 hr1
    refine V.al (V.seq (V.ap (V.seq (V.ab (Ao.idx tk rfl rfl rfl rfl rfl rfl (Int.natCast_nonneg j1) (aY bE hx1) rfl (Ao.q tk rfl ?_))))))
    refine Ao.aJ tk rfl rfl rfl rfl rfl rfl fun b8=>?_
    refine Ao.sB tk rfl rfl rfl rfl rfl rfl rfl rfl rfl rfl rfl (Ao.nil (V.seq (V.ab (Ao.q tk rfl (Ao.lB tk rfl rfl rfl rfl rfl rfl rfl ?_)))))
    obtain ⟨x28,h28,H⟩ := aj H
    have s28 := hrec90 c x1 _ h28
    refine Ao.ah (g := 90) rfl rfl rfl Tryz.call90 (il.r) s28 rfl (Ao.q tk rfl (Ao.q tk rfl (Ao.q tk rfl (Ao.q tk rfl (Ao.q tk rfl (Ao.nil (V.seq (V.seq (V.ab (Ao.q tk rfl (Ao.q tk rfl (Ao.nil ?_))))))))))))
    refine V.ak rfl (fun h=>?_) (fun h=>?_)
    ·have H := condT h H
     refine V.seq (V.ab (Ao.q tk rfl (Ao.q tk rfl (Ao.q tk rfl (Ao.nil ?_)))))
     obtain rfl := ai H
     have e1 : fl1 = .ret _ := hg1
     subst e1
     obtain rfl := aL Hp1
     refine V.aq tk rfl (ps := [(.val (.slice none 0 0)),(ac x28.2)]) ⟨_,_,rfl,rfl,_,_,rfl,rfl,rfl⟩ (PLe.of2 (kW.tup (fQ.cons (kW.nil tk rfl) (fQ.cons (kW.of_eq rfl) fQ.nil))))
    ·have H := condF h H
     refine V.al (V.ab (Ao.q tk rfl (Ao.q tk rfl (Ao.bsC tk rfl rfl rfl rfl (rows' := List.map (ag 50 av) ([x28.1] : List (List LCol))) rfl (fj.refl _) rfl rfl ?_))))
     obtain ⟨x37,h37,H⟩ := aj H
     have k37 := cf h37
     refine Ao.co (rows2' := List.map (ag 50 av) ([x28.1] : List (List LCol))) (rows' := List.map (ag 50 av) x37) tk rfl rfl rfl rfl rfl rfl rfl rfl rfl rfl rfl rfl rfl (fj.refl _) (dp k37.1) (dv k37.2.1) (du k37.2.2) fun g37=>?_
     refine Ao.q tk rfl (Ao.nil (V.blk (V.ab (Ao.q tk rfl (Ao.q tk rfl (Ao.nil ?_))))))
     obtain rfl := ai H
     refine V.ax x37 g37 ⟨hl1,hg1⟩ (Gh.le (SLe.aa (PLe.q rfl) (SLe.aa (PLe.q rfl) (SLe.aa (PLe.q rfl) (SLe.aa (PLe.q rfl) (SLe.aa (PLe.q rfl) (SLe.aa (PLe.q (az (by omega))) SLe.nil)))))) BLe.nil (OLe.am rfl OLe.nil))
   ·have hn1 := rMd (bm h) hr1
    refine V.aB rfl ?_
    refine V.at s1 g1 hn1 (Gh.le (SLe.aa (PLe.q rfl) (SLe.aa (PLe.q rfl) (SLe.aa (PLe.q rfl) SLe.nil))) BLe.nil (OLe.am rfl OLe.nil))
  ·have H := br hn1 Hp1
   refine V.seq (V.dm 6 rfl rfl rfl (V.ab (Ao.q tk rfl (Ao.q tk rfl (Ao.q tk rfl ?_)))))
   obtain ⟨x43,h43,H⟩ := aj H
   have s43 := nD c q s1 _ h43
   refine Ao.ah (g := 111) rfl rfl rfl Tryz.call111 (il.r) s43 rfl (Ao.q tk rfl (Ao.q tk rfl (Ao.q tk rfl (Ao.q tk rfl (Ao.q tk rfl (Ao.nil (V.seq (V.seq (V.ab (Ao.q tk rfl (Ao.q tk rfl (Ao.nil ?_))))))))))))
   refine V.ak rfl (fun h=>?_) (fun h=>?_)
   ·have H := condT h H
    refine V.seq (V.ab (Ao.q tk rfl (Ao.q tk rfl (Ao.q tk rfl (Ao.nil ?_)))))
    obtain rfl := ai H
    refine V.aq tk rfl (ps := [(.val (.slice none 0 0)),(ac x43.2)]) ⟨_,_,rfl,rfl,_,_,rfl,rfl,rfl⟩ (PLe.of2 (kW.tup (fQ.cons (kW.nil tk rfl) (fQ.cons (kW.of_eq rfl) fQ.nil))))
   ·have H := condF h H
    refine V.al (V.seq (V.seq (V.ab (Ao.q tk rfl (Ao.ay tk rfl rfl rfl rfl rfl (List.length_map _) rfl (Ao.q tk rfl (Ao.nil ?_)))))))
    refine V.ak rfl (fun h=>?_) (fun h=>?_)
    ·have H := condT h H
     refine V.seq (V.ab (Ao.q tk rfl (Ao.q tk rfl (Ao.nil ?_))))
     obtain rfl := ai H
     refine V.aq tk rfl (ps := [(.val (.slice none 0 0)),(ac 2)]) ⟨_,_,rfl,rfl,_,_,rfl,rfl,rfl⟩ (PLe.of2 (kW.tup (fQ.cons (kW.nil tk rfl) (fQ.cons (kW.of_eq rfl) fQ.nil))))
    ·have H := condF h H
     refine V.al (V.seq (V.seq (V.ab (Ao.q tk rfl (Ao.ay tk rfl rfl rfl rfl rfl (List.length_map _) rfl (Ao.q tk rfl (Ao.nil ?_)))))))
     obtain ⟨fl2,H2,Hp2⟩ := aj H
     refine V.aZ tk 52 rfl rfl (fun hz2 _=>?_)
     rw [List.length_map] at hz2
     refine V.cut (τ := Unit) (γ := Unit) (fun s2 g2=>⟨66,upd (fun _=>.any) 11 (.list 50 (x43.1.map av)),fun _=>none,fun _=>none⟩) (fun t=>fl2 = .next t) ?_ (fun s2 g2 hn2=>?_)
     ·refine V.ap ?_
      refine V.aP (fun j2 s2 g2=>⟨66,upd (upd (upd (upd (fun _=>.any) 54 (ac (j2 : Int))) 53 (ac (x43.1.length : Int))) 52 (.list 50 (x43.1.map av))) 11 (.list 50 (x43.1.map av)),fun _=>none,fun _=>none⟩) () H2 (Gh.le (SLe.aa (PLe.q rfl) (SLe.aa (PLe.q rfl) (SLe.aa (PLe.q rfl) (SLe.aa (PLe.q rfl) SLe.nil)))) BLe.nil OLe.nil) (fun j2 s2 g2 hj2 hr2=>?_)
      refine V.seq (V.ab (Ao.q tk rfl (Ao.nil (V.seq ?_))))
      refine V.ak rfl (fun h=>?_) (fun h=>?_)
      ·have hl2 := bn h
       obtain ⟨x2,fb2,hx2,H,hg2⟩ := rMc hl2 hr2
       refine V.al (V.seq (V.ap (V.seq (V.ab (Ao.q tk rfl ?_)))))
       refine Ao.idx tk rfl rfl rfl rfl rfl rfl (Int.natCast_nonneg j2) (aY (fun _=>rfl) hx2) rfl ?_
       refine Ao.q tk rfl ?_
       refine Ao.aJ tk rfl rfl rfl rfl rfl rfl fun b14=>?_
       refine Ao.q tk rfl (Ao.sB tk rfl rfl rfl rfl rfl rfl rfl rfl rfl rfl rfl (Ao.nil (V.seq (V.ab (Ao.q tk rfl (Ao.q tk rfl ?_))))))
       obtain ⟨x61,h61,H⟩ := aj H
       have k61 := kF h61
       refine Ao.subL tk rfl rfl rfl rfl rfl (List.length_map _) rfl rfl k61.1 (lP k61.2) rfl (Ao.gh (Gh.freezeB 14 rfl rfl rfl rfl) (Ao.q tk rfl ?_))
       obtain ⟨x63,h63,H⟩ := aj H
       have s63 := hM x61 (fun a0=>some (bG a0 x2)) Tryz.call113 (fun a0 r h=>(ai h) ▸ lq a0 x2) _ h63
       refine Ao.ah (g := 112) rfl rfl rfl Tryz.call112 (il.r) s63 rfl (Ao.nil ?_)
       refine V.ak rfl (fun h=>?_) (fun h=>?_)
       ·have H := condT h H
        refine V.seq (V.ab (Ao.q tk rfl (Ao.q tk rfl (Ao.nil ?_))))
        obtain rfl := ai H
        have e2 : fl2 = .ret _ := hg2
        subst e2
        obtain rfl := aL Hp2
        refine V.aq tk rfl (ps := [(.val (.slice none 0 0)),(ac 23)]) ⟨_,_,rfl,rfl,_,_,rfl,rfl,rfl⟩ (PLe.of2 (kW.tup (fQ.cons (kW.nil tk rfl) (fQ.cons (kW.of_eq rfl) fQ.nil))))
       ·have H := condF h H
        refine V.al (V.blk (V.ab (Ao.q tk rfl (Ao.q tk rfl (Ao.nil ?_)))))
        obtain rfl := ai H
        refine V.ax () () ⟨hl2,hg2⟩ (Gh.le (SLe.aa (PLe.q rfl) (SLe.aa (PLe.q rfl) (SLe.aa (PLe.q rfl) (SLe.aa (PLe.q (az (by omega))) SLe.nil)))) BLe.nil OLe.nil)
      ·have hn2 := rMd (bm h) hr2
       refine V.aB rfl ?_
       refine V.at s2 g2 hn2 (Gh.le (SLe.aa (PLe.q rfl) SLe.nil) BLe.nil OLe.nil)
     ·have H := br hn2 Hp2
      refine V.seq (V.ab (Ao.q tk rfl (Ao.q tk rfl (Ao.q tk rfl (Ao.nil ?_)))))
      obtain rfl := ai H
      refine V.aq tk rfl (ps := [(.list 50 (x43.1.map av)),(ac 0)]) ⟨_,_,rfl,rfl,_,_,rfl,rfl,rfl⟩ (PLe.q rfl)
def dE : Nat → LChecker → LQuery → Option ((List LCol) × Int)
 | 0,_,_=>none
 | n + 1,v0,v1=>dF (fun b0 b1=>dE n b0 b1) v0 v1
theorem lH  (n : Nat) : (∀ a0 a1 r,dE n a0 a1 = some r → aG Tryz.prog 90 [(.agg (hJ a0)),(.agg (aQ a1))] (.tup [(.list 50 (r.1.map av)),(ac r.2)])) := by
 induction n with
 | zero=>exact (by intros; rename_i h; exact absurd (show (none : Option _) = some _ from h) (by simp))
 | succ n ih =>
  exact (fun v0 v1 r h=>lF (fun b0 b1=>dE n b0 b1) ih v0 v1  r h)
def dD (c : LChecker) (q : LQuery) : Option ((List LCol) × Int) := gG fun n=>dE n c q
theorem jd (c : LChecker) (q : LQuery) (r : (List LCol) × Int) (H : dD c q = some r) :
  aG Tryz.prog 90 [(.agg (hJ c)),(.agg (aQ q))] (.tup [(.list 50 (r.1.map av)),(ac r.2)]) := by
 obtain ⟨n,h⟩ := im H
 exact (lH  n) c q r h
def el (rA : LRun) (q : LQuery) (cols : List LCol) (inA : List (List LVal)) : Option ((List (List LVal))) :=
 af (bV inA (fun a0 a1=>eg a0 a1 rA cols q)) fun x14 =>
 af (dL (x14.length = inA.length) ()) fun (_ : Unit) =>
 some x14
set_option maxHeartbeats 4000000 in
theorem oT (rA : LRun) (q : LQuery) (cols : List LCol) (inA : List (List LVal)) (r : (List (List LVal))) (H : el rA q cols inA = some r) :
  aG Tryz.prog 142 [(.agg (fP rA)),(.agg (aQ q)),(.list 50 (cols.map av)),(.list 51 (inA.map (ag 53 ae)))] (.list 51 (r.map (ag 53 ae))) := by
 unfold el at H
 refine PH.intro Tryz.func142 rfl Tryz.ntmps142 rfl ?_
 refine V.seq (V.ab (Ao.aF rfl rfl rfl rfl rfl rfl (Ao.aF rfl rfl rfl rfl rfl rfl (Ao.aF rfl rfl rfl rfl rfl rfl (Ao.q tk rfl (Ao.nil (V.seq (V.ab (Ao.q tk rfl ?_)))))))))
 have s11 := nm (m := 11) inA
 refine Ao.callO (g := 21) rfl rfl rfl Tryz.call21 (il.r) rfl rfl s11 (fun g11=>?_)
 refine Ao.q tk rfl (Ao.nil (V.seq (V.ab (Ao.q tk rfl (Ao.q tk rfl ?_)))))
 obtain ⟨x14,h14,H⟩ := aj H
 have s14 := ix g11 inA (fun a0 a1=>eg a0 a1 rA cols q) Tryz.call175 (fun a0 a1 r h=>nM a0 a1 rA cols q r h) _ h14
 obtain ⟨_,q14_0,H⟩ := aj H
 have l14_0 := (cF q14_0).1
 have z14_0 : (List.map (ag 53 ae) inA).length = (List.map (ag 53 ae) x14).length := by simpa using (l14_0).symm
 refine Ao.dr (g := 174) rfl rfl rfl Tryz.call174 [] [(11,0)] rfl rfl rfl rfl (il.of2 (fQ.cons (kW.own rfl) (fQ.cons (kW.of_eq rfl) fQ.nil))) (by rw [cN,cx,cO]; rfl) s14 ?_
 rintro u14 H14h ⟨rfl,rfl⟩
 refine ⟨_,rfl,?_⟩
 refine Ao.gh (st' := ⟨_,_,fun _=>none,upd (fun _=>none) 11 (some ⟨g11,51,(x14.map (ag 53 ae)),true⟩)⟩) (Gh.le (SLe.cq _ _) BLe.nil (OLe.am rfl OLe.nil)) ?_
 refine Ao.nil (V.seq (V.ab (Ao.q tk rfl (Ao.q tk rfl (Ao.nil ?_)))))
 obtain rfl := ai H
 refine V.dm 8 rfl rfl z14_0 ?_
 refine V.aq tk rfl (ps := [(.list 51 (x14.map (ag 53 ae)))]) ⟨_,_,rfl,rfl,rfl⟩ (PLe.q rfl)
end
end Go.Proofs.YtgaggbdcedpapaaGreat

namespace Go.Proofs.YtgaggbdcedpapaaGreat
noncomputable section
open Go Go.Ab
attribute [local irreducible] V Ao Do Gh Eff PH IntKind.wrap
set_option maxRecDepth 4000
def eF (sA : LSchema) (vars : List LCol) (q : LQuery) : Option ((List LCol) × Int) :=
 af (
  af (gP q) fun x12 =>
  cond (decide ((x12.length : Int) > (24 : Int)))
   (some true)
   (af (iy q) fun x17 =>
   cond (decide (x17 > (12 : Int)))
    (some true)
    (af (eD q) fun x22 =>
    some (decide (x22 > (20000 : Int)))))) fun (t1 : Bool) =>
 cond t1
  (some ([],2))
  (af (dQ q) fun x27 =>
  cond (x27.2 != (0 : Int))
   (some ([],x27.2))
   (af (dD (LChecker.mk sA vars) q) fun x38 =>
   some (x38.1,x38.2)))
set_option maxHeartbeats 4000000 in
theorem kg (sA : LSchema) (vars : List LCol) (q : LQuery) (r : (List LCol) × Int) (H : eF sA vars q = some r) :
  aG Tryz.prog 54 [(.agg (db sA)),(.list 50 (vars.map av)),(.agg (aQ q))] (.tup [(.list 50 (r.1.map av)),(ac r.2)]) := by
 unfold eF at H
 refine PH.intro Tryz.func54 rfl Tryz.ntmps54 rfl ?_
 refine V.seq (V.ab (Ao.aF rfl rfl rfl rfl rfl rfl (Ao.aF rfl rfl rfl rfl rfl rfl (Ao.q tk rfl (Ao.q tk rfl (Ao.nil (V.seq (V.seq ?_))))))))
 obtain ⟨fl1,H1,Hp1⟩ := aj H
 refine V.cut (τ := Bool) (γ := Unit) (fun t1 g1=>⟨41,upd (upd (upd (upd (fun _=>.any) 24 (au t1)) 5 (.ptr [(ac q.kind),(.str q.table),(.list 9 (q.names.map bo)),(.list 56 (q.exprs.map aI)),(.list 66 (q.aggregates.map bl)),(.list 4 (q.descending.map bB)),(ac q.count),(ac q.offset),(.list 35 (q.inputs.map aD))])) 3 (.ptr [(.list 91 (sA.tables.map aO)),(.list 142 (sA.foreignKeys.map bC)),(.list 148 (sA.constraints.map bH))])) 1 (.list 50 (vars.map av)),fun _=>none,fun _=>none⟩) (fun t=>t = fl1) ?_ (fun t1 g1 hn1=>?_)
 ·have H := H1
  refine V.ab (Ao.q tk rfl ?_)
  obtain ⟨x12,h12,H⟩ := aj H
  have s12 := nu (m := 12) q _ h12
  refine Ao.ah (g := 76) rfl rfl rfl Tryz.call76 (il.r) (PFun.hP s12) rfl (Ao.ay tk rfl rfl rfl rfl rfl (List.length_map _) rfl (Ao.q tk rfl (Ao.q tk rfl ?_)))
  refine Ao.aA rfl rfl rfl (fun h=>?_) (fun h=>?_)
  ·have H := condT h H
   refine Ao.q tk rfl (Ao.q tk rfl (Ao.q tk rfl (Ao.q tk rfl (Ao.q tk rfl (Ao.q tk rfl (Ao.q tk rfl (Ao.q tk rfl (Ao.q tk rfl (Ao.nil ?_)))))))))
   obtain rfl := ai H
   refine V.at true () rfl (Gh.le (SLe.aa (PLe.q rfl) (SLe.aa (PLe.q rfl) (SLe.aa (PLe.q rfl) (SLe.aa (PLe.q rfl) SLe.nil)))) BLe.nil OLe.nil)
  ·have H := condF h H
   refine Ao.q tk rfl ?_
   obtain ⟨x17,h17,H⟩ := aj H
   have s17 := W_query_depth q _ h17
   refine Ao.ah (g := 88) rfl rfl rfl Tryz.call88 (il.r) s17 rfl (Ao.q tk rfl (Ao.q tk rfl (Ao.q tk rfl ?_)))
   refine Ao.aA rfl rfl rfl (fun h=>?_) (fun h=>?_)
   ·have H := condT h H
    refine Ao.q tk rfl (Ao.q tk rfl (Ao.q tk rfl (Ao.q tk rfl (Ao.nil ?_))))
    obtain rfl := ai H
    refine V.at true () rfl (Gh.le (SLe.aa (PLe.q rfl) (SLe.aa (PLe.q rfl) (SLe.aa (PLe.q rfl) (SLe.aa (PLe.q rfl) SLe.nil)))) BLe.nil OLe.nil)
   ·have H := condF h H
    refine Ao.q tk rfl ?_
    obtain ⟨x22,h22,H⟩ := aj H
    have s22 := kJ q _ h22
    refine Ao.ah (g := 89) rfl rfl rfl Tryz.call89 (il.r) s22 rfl (Ao.q tk rfl (Ao.q tk rfl (Ao.nil ?_)))
    obtain rfl := ai H
    refine V.at (decide (x22 > (20000 : Int))) () rfl (Gh.le (SLe.aa (PLe.q rfl) (SLe.aa (PLe.q rfl) (SLe.aa (PLe.q rfl) (SLe.aa (PLe.q rfl) SLe.nil)))) BLe.nil OLe.nil)
 ·subst hn1
  have H := Hp1
  refine V.ak rfl (fun h=>?_) (fun h=>?_)
  ·have H := condT h H
   refine V.seq (V.ab (Ao.q tk rfl (Ao.q tk rfl (Ao.nil ?_))))
   obtain rfl := ai H
   refine V.aq tk rfl (ps := [(.val (.slice none 0 0)),(ac 2)]) ⟨_,_,rfl,rfl,_,_,rfl,rfl,rfl⟩ (PLe.of2 (kW.tup (fQ.cons (kW.nil tk rfl) (fQ.cons (kW.of_eq rfl) fQ.nil))))
  ·have H := condF h H
   refine V.al (V.seq (V.seq (V.ab (Ao.q tk rfl ?_))))
   obtain ⟨x27,h27,H⟩ := aj H
   have s27 := je q _ h27
   refine Ao.ah (g := 87) rfl rfl rfl Tryz.call87 (il.r) s27 rfl (Ao.q tk rfl (Ao.q tk rfl (Ao.q tk rfl (Ao.q tk rfl (Ao.q tk rfl (Ao.nil (V.seq (V.ab (Ao.q tk rfl (Ao.q tk rfl (Ao.nil ?_)))))))))))
   refine V.ak rfl (fun h=>?_) (fun h=>?_)
   ·have H := condT h H
    refine V.seq (V.ab (Ao.q tk rfl (Ao.q tk rfl (Ao.q tk rfl (Ao.nil ?_)))))
    obtain rfl := ai H
    refine V.aq tk rfl (ps := [(.val (.slice none 0 0)),(ac x27.2)]) ⟨_,_,rfl,rfl,_,_,rfl,rfl,rfl⟩ (PLe.of2 (kW.tup (fQ.cons (kW.nil tk rfl) (fQ.cons (kW.of_eq rfl) fQ.nil))))
   ·have H := condF h H
    refine V.al (V.seq (V.ab (Ao.q tk rfl (Ao.q tk rfl (Ao.q tk rfl ?_)))))
    refine Ao.aJ tk rfl rfl rfl rfl rfl rfl fun b10=>?_
    refine Ao.sB tk rfl rfl rfl rfl rfl rfl rfl rfl rfl rfl rfl (Ao.nil (V.seq (V.ab (Ao.lB tk rfl rfl rfl rfl rfl rfl rfl (Ao.q tk rfl ?_)))))
    obtain ⟨x38,h38,H⟩ := aj H
    have s38 := jd (LChecker.mk sA vars) q _ h38
    refine Ao.ah (g := 90) rfl rfl rfl Tryz.call90 (il.r) s38 rfl (Ao.q tk rfl (Ao.q tk rfl (Ao.q tk rfl (Ao.q tk rfl (Ao.nil ?_)))))
    obtain rfl := ai H
    refine V.aq tk rfl (ps := [(.list 50 (x38.1.map av)),(ac x38.2)]) ⟨_,_,rfl,rfl,_,_,rfl,rfl,rfl⟩ (PLe.q rfl)
def eQ (rA : LRun) (q : LQuery) : Option ((List LCol)) :=
 af (dD (LChecker.mk rA.s rA.vars) q) fun x14 =>
 some x14.1
set_option maxHeartbeats 4000000 in
theorem jy (rA : LRun) (q : LQuery) (r : (List LCol)) (H : eQ rA q = some r) :
  aG Tryz.prog 134 [(.agg (fP rA)),(.agg (aQ q))] (.list 50 (r.map av)) := by
 unfold eQ at H
 refine PH.intro Tryz.func134 rfl Tryz.ntmps134 rfl ?_
 refine V.seq (V.ab (Ao.aF rfl rfl rfl rfl rfl rfl (Ao.aF rfl rfl rfl rfl rfl rfl (Ao.q tk rfl (Ao.nil (V.seq (V.ab (Ao.q tk rfl (Ao.q tk rfl (Ao.q tk rfl (Ao.q tk rfl (Ao.q tk rfl (Ao.q tk rfl ?_)))))))))))))
 obtain ⟨x14,h14,H⟩ := aj H
 have s14 := jd (LChecker.mk rA.s rA.vars) q _ h14
 refine Ao.ah (g := 90) rfl rfl rfl Tryz.call90 (il.r) s14 rfl (Ao.q tk rfl (Ao.q tk rfl (Ao.q tk rfl (Ao.q tk rfl (Ao.q tk rfl (Ao.nil (V.seq (V.ab (Ao.q tk rfl (Ao.q tk rfl (Ao.nil ?_)))))))))))
 obtain rfl := ai H
 refine V.aq tk rfl (ps := [(.list 50 (x14.1.map av))]) ⟨_,_,rfl,rfl,rfl⟩ (PLe.q rfl)
end
end Go.Proofs.YtgaggbdcedpapaaGreat

namespace Go.Proofs.YtgaggbdcedpapaaGreat
noncomputable section
open Go Go.Ab
attribute [local irreducible] V Ao Do Gh Eff PH IntKind.wrap
set_option maxRecDepth 4000
def iu (rec97 : LRun → LQuery → Option ((List (List LVal)))) (rec132 : LRun → LQuery → Option ((List (List LVal)))) (rA : LRun) (q : LQuery) : Option ((List (List LVal))) :=
 cond (q.kind == (1 : Int))
  (af (aE (σ := Unit) (ρ := ((List (List LVal)))) (fun (_ : Nat) (x1 : LRelation) (_ : Unit) =>
   cond (x1.table == q.table)
    (some (.ret x1.rows))
    (some (.next ()))) 0 rA.st ()) fun fl1=>fl1.thenR fun (_ : Unit) =>
  some [])
  (ba (
   cond (q.kind == (4 : Int))
    ((q.kind == (4 : Int)))
    ((q.kind == (5 : Int)))) fun (t2 : Bool) =>
  cond t2
   (af (rec132 rA q) fun x37 =>
   some x37)
   (cond (q.kind == (6 : Int))
    (af (aC q.inputs 0) fun (x43 : LQuery) =>
    af (aC q.inputs 1) fun (x50 : LQuery) =>
    af (rec97 rA x43) fun x45 =>
    af (rec97 rA x50) fun x52 =>
    af (cI 24 x45 x52) fun (x53 : List (List LVal)) =>
    some x53)
    (cond (q.kind == (7 : Int))
     (af (aC q.inputs 0) fun (x59 : LQuery) =>
     af (aC q.inputs 1) fun (x65 : LQuery) =>
     af (rec97 rA x59) fun x61 =>
     af (rec97 rA x65) fun x67 =>
     af (iQ x61 x67) fun x68 =>
     some x68)
     (af (aC q.inputs 0) fun (x72 : LQuery) =>
     af (rec97 rA x72) fun x74 =>
     af (aC q.inputs 0) fun (x78 : LQuery) =>
     af (eQ rA x78) fun x80 =>
     cond (q.kind == (2 : Int))
      (af (cv x74 (fun a0=>fN a0 rA x80 q)) fun x88 =>
      some x88)
      (cond (q.kind == (3 : Int))
       (af (aE (σ := List (List LVal)) (ρ := Empty) (fun (_ : Nat) (x3 : List LVal) (s3 : List (List LVal)) =>
        af (cD rA x80 x3 q.exprs) fun x103 =>
        af (cI 24 s3 ([x103] : List (List LVal))) fun (x105 : List (List LVal)) =>
        some (.next x105)) 0 x74 []) fun fl3=>fl3.thenP fun (s3 : List (List LVal)) =>
       some s3)
       (cond (q.kind == (8 : Int))
        (af (fY rA q x80 x74) fun x114 =>
        some x114)
        (cond (q.kind == (9 : Int))
         (af (el rA q x80 x74) fun x121 =>
         some x121)
         (af (kv x74 (if (x74.length : Int) < q.offset then (x74.length : Int) else q.offset) (IntKind.i64.wrap ((if (x74.length : Int) < q.offset then (x74.length : Int) else q.offset) + (if (IntKind.i64.wrap ((x74.length : Int) - (if (x74.length : Int) < q.offset then (x74.length : Int) else q.offset))) < q.count then (IntKind.i64.wrap ((x74.length : Int) - (if (x74.length : Int) < q.offset then (x74.length : Int) else q.offset))) else q.count)))) fun (x138 : List (List LVal)) =>
         some x138))))))))
set_option maxHeartbeats 4000000 in
theorem oB (rec97 : LRun → LQuery → Option ((List (List LVal)))) (rec132 : LRun → LQuery → Option ((List (List LVal)))) (hrec97 : ∀ a0 a1 r,rec97 a0 a1 = some r → aG Tryz.prog 97 [(.agg (fP a0)),(.agg (aQ a1))] (.list 51 (r.map (ag 53 ae)))) (hrec132 : ∀ a0 a1 r,rec132 a0 a1 = some r → aG Tryz.prog 132 [(.agg (fP a0)),(.agg (aQ a1))] (.list 51 (r.map (ag 53 ae)))) (rA : LRun) (q : LQuery) (r : (List (List LVal))) (H : iu rec97 rec132 rA q = some r) :
  aG Tryz.prog 97 [(.agg (fP rA)),(.agg (aQ q))] (.list 51 (r.map (ag 53 ae))) := by
 unfold iu at H
 refine PH.intro Tryz.func97 rfl Tryz.ntmps97 rfl ?_
 refine V.seq (V.ab (Ao.aF rfl rfl rfl rfl rfl rfl (Ao.aF rfl rfl rfl rfl rfl rfl (Ao.q tk rfl (Ao.nil (V.seq (V.seq (V.ab (Ao.q tk rfl (Ao.q tk rfl (Ao.nil (V.ap (V.seq (V.ab ?_))))))))))))))
 refine Ao.q tk rfl (Ao.q tk rfl (Ao.nil ?_))
 refine V.ak rfl (fun h=>?_) (fun h=>?_)
 ·have H := condT h H
  refine V.seq (V.seq (V.ab (Ao.q tk rfl (Ao.q tk rfl (Ao.ay tk rfl rfl rfl rfl rfl (List.length_map _) rfl (Ao.q tk rfl (Ao.nil ?_)))))))
  obtain ⟨fl1,H1,Hp1⟩ := aj H
  refine V.aZ tk 18 rfl rfl (fun hz1 _=>?_)
  rw [List.length_map] at hz1
  refine V.cut (τ := Unit) (γ := Unit) (fun s1 g1=>⟨139,fun _=>.any,fun _=>none,fun _=>none⟩) (fun t=>fl1 = .next t) ?_ (fun s1 g1 hn1=>?_)
  ·refine V.ap ?_
   refine V.aP (fun j1 s1 g1=>⟨139,upd (upd (upd (upd (fun _=>.any) 20 (ac (j1 : Int))) 19 (ac (rA.st.length : Int))) 18 (.list 87 (rA.st.map bg))) 3 (.ptr [(ac q.kind),(.str q.table),(.list 9 (q.names.map bo)),(.list 56 (q.exprs.map aI)),(.list 66 (q.aggregates.map bl)),(.list 4 (q.descending.map bB)),(ac q.count),(ac q.offset),(.list 35 (q.inputs.map aD))]),fun _=>none,fun _=>none⟩) () H1 (Gh.le (SLe.aa (PLe.q rfl) (SLe.aa (PLe.q rfl) (SLe.aa (PLe.q rfl) (SLe.aa (PLe.q rfl) SLe.nil)))) BLe.nil OLe.nil) (fun j1 s1 g1 hj1 hr1=>?_)
   refine V.seq (V.ab (Ao.q tk rfl (Ao.nil (V.seq ?_))))
   refine V.ak rfl (fun h=>?_) (fun h=>?_)
   ·have hl1 := bn h
    obtain ⟨x1,fb1,hx1,H,hg1⟩ := rMc hl1 hr1
    refine V.al (V.seq (V.ap (V.seq (V.ab ?_))))
    refine Ao.idx tk rfl rfl rfl rfl rfl rfl (Int.natCast_nonneg j1) (aY (fun _=>rfl) hx1) rfl ?_
    refine Ao.q tk rfl ?_
    refine Ao.aJ tk rfl rfl rfl rfl rfl rfl fun b6=>?_
    refine Ao.sB tk rfl rfl rfl rfl rfl rfl rfl rfl rfl rfl rfl (Ao.nil (V.seq (V.ab (Ao.q tk rfl (Ao.lB tk rfl rfl rfl rfl rfl rfl rfl (Ao.q tk rfl (Ao.q tk rfl (Ao.q tk rfl (Ao.nil ?_)))))))))
    refine V.ak rfl (fun h=>?_) (fun h=>?_)
    ·have H := condT h H
     refine V.seq (V.ab (Ao.q tk rfl (Ao.lB tk rfl rfl rfl rfl rfl rfl rfl (Ao.q tk rfl (Ao.nil ?_)))))
     obtain rfl := ai H
     have e1 : fl1 = .ret _ := hg1
     subst e1
     obtain rfl := aL Hp1
     refine V.aq tk rfl (ps := [(.list 51 (x1.rows.map (ag 53 ae)))]) ⟨_,_,rfl,rfl,rfl⟩ (PLe.q rfl)
    ·have H := condF h H
     refine V.al (V.blk (V.ab (Ao.q tk rfl (Ao.q tk rfl (Ao.nil ?_)))))
     obtain rfl := ai H
     refine V.ax () () ⟨hl1,hg1⟩ (Gh.le (SLe.aa (PLe.q rfl) (SLe.aa (PLe.q rfl) (SLe.aa (PLe.q rfl) (SLe.aa (PLe.q (az (by omega))) SLe.nil)))) BLe.nil OLe.nil)
   ·have hn1 := rMd (bm h) hr1
    refine V.aB rfl ?_
    refine V.at s1 g1 hn1 (Gh.le SLe.nil BLe.nil OLe.nil)
  ·have H := br hn1 Hp1
   refine V.seq (V.ab (Ao.q tk rfl (Ao.nil ?_)))
   obtain rfl := ai H
   refine V.aq tk rfl (ps := [(.val (.slice none 0 0))]) ⟨_,_,rfl,rfl,rfl⟩ (PLe.of2 (kW.nil tk rfl))
 ·have H := condF h H
  refine V.seq (V.seq (V.ab (Ao.q tk rfl (Ao.q tk rfl (Ao.nil ?_)))))
  obtain ⟨fl2,H2,Hp2⟩ := bA H
  refine V.cut (τ := Bool) (γ := Unit) (fun t2 g2=>⟨139,upd (upd (upd (upd (fun _=>.any) 32 (au t2)) 14 (ac q.kind)) 3 (.ptr [(ac q.kind),(.str q.table),(.list 9 (q.names.map bo)),(.list 56 (q.exprs.map aI)),(.list 66 (q.aggregates.map bl)),(.list 4 (q.descending.map bB)),(ac q.count),(ac q.offset),(.list 35 (q.inputs.map aD))])) 2 (.ptr [(.list 91 (rA.s.tables.map aO)),(.list 142 (rA.s.foreignKeys.map bC)),(.list 148 (rA.s.constraints.map bH)),(.list 87 (rA.st.map bg)),(.list 53 (rA.args.map ae)),(.list 50 (rA.vars.map av)),(.list 9 (rA.names.map bo)),(.list 53 (rA.vals.map ae))]),fun _=>none,fun _=>none⟩) (fun t=>t = fl2) ?_ (fun t2 g2 hn2=>?_)
  ·have H := H2
   refine V.ak rfl (fun h=>?_) (fun h=>?_)
   ·have H := condT h H
    refine V.al ?_
    subst H
    refine V.at (q.kind == (4 : Int)) () rfl (Gh.le (SLe.aa (PLe.q rfl) (SLe.aa (PLe.q rfl) (SLe.aa (PLe.q rfl) (SLe.aa (PLe.q rfl) SLe.nil)))) BLe.nil OLe.nil)
   ·have H := condF h H
    refine V.ab (Ao.q tk rfl (Ao.q tk rfl (Ao.nil ?_)))
    subst H
    refine V.at (q.kind == (5 : Int)) () rfl (Gh.le (SLe.aa (PLe.q rfl) (SLe.aa (PLe.q rfl) (SLe.aa (PLe.q rfl) (SLe.aa (PLe.q rfl) SLe.nil)))) BLe.nil OLe.nil)
  ·subst hn2
   have H := Hp2
   refine V.ak rfl (fun h=>?_) (fun h=>?_)
   ·have H := condT h H
    refine V.seq (V.ab (Ao.q tk rfl (Ao.q tk rfl ?_)))
    obtain ⟨x37,h37,H⟩ := aj H
    have s37 := hrec132 rA q _ h37
    refine Ao.ah (g := 132) rfl rfl rfl Tryz.call132 (il.r) s37 rfl (Ao.q tk rfl (Ao.nil ?_))
    obtain rfl := ai H
    refine V.aq tk rfl (ps := [(.list 51 (x37.map (ag 53 ae)))]) ⟨_,_,rfl,rfl,rfl⟩ (PLe.q rfl)
   ·have H := condF h H
    refine V.seq (V.ab (Ao.q tk rfl (Ao.q tk rfl (Ao.nil ?_))))
    refine V.ak rfl (fun h=>?_) (fun h=>?_)
    ·have H := condT h H
     refine V.seq (V.bc tk mok ⟨false,false,[]⟩ [0,1,2,3,4,7,8,9,10,11,5,6,12,13,14] rfl (by decide +kernel) rfl (Do.q rfl (Do.q rfl (Do.q rfl ?_))))
     obtain ⟨x43,h43,H⟩ := aj H
     have k43 := gIs h43
     refine Do.idx rfl rfl rfl rfl rfl rfl rfl k43.1 (aH bE k43.2) rfl (Do.q rfl (Do.q rfl (Do.q rfl (Do.q rfl ?_))))
     obtain ⟨x50,h50,H⟩ := aj H
     have k50 := gIs h50
     refine Do.idx rfl rfl rfl rfl rfl rfl rfl k50.1 (aH bE k50.2) rfl (Do.q rfl ?_)
     obtain ⟨x45,h45,H⟩ := aj H
     have s45 := hrec97 rA x43 _ h45
     refine Do.aR (g := 97) rfl rfl rfl rfl Tryz.call97 (il.r) s45 rfl ?_
     have s46 := nm (m := 46) x45
     refine Do.callO (g := 21) rfl rfl rfl rfl Tryz.call21 (il.r) rfl rfl s46 (fun g46=>?_)
     obtain ⟨x52,h52,H⟩ := aj H
     have s52 := hrec97 rA x50 _ h52
     refine Do.aR (g := 97) rfl rfl rfl rfl Tryz.call97 (il.r) s52 rfl ?_
     obtain ⟨x53,h53,H⟩ := aj H
     have k53 := cf h53
     refine Do.jM (rows2' := List.map (ag 53 ae) x52) (rows' := List.map (ag 53 ae) x53) tk rfl rfl rfl rfl rfl rfl rfl rfl rfl rfl rfl rfl rfl rfl (fj.refl _) (dp k53.1) (dv k53.2.1) (du k53.2.2) fun g53=>?_
     refine Do.q rfl (Do.nil ?_)
     obtain rfl := ai H
     refine V.dm 4 rfl rfl rfl ?_
     refine V.aq tk rfl (ps := [(.list 51 (x53.map (ag 53 ae)))]) ⟨_,_,rfl,rfl,rfl⟩ (PLe.q rfl)
    ·have H := condF h H
     refine V.seq (V.ab (Ao.q tk rfl (Ao.q tk rfl (Ao.nil ?_))))
     refine V.ak rfl (fun h=>?_) (fun h=>?_)
     ·have H := condT h H
      refine V.seq (V.bc tk mok ⟨false,false,[]⟩ [0,1,2,3,4,6,7,8,9,10,5,11,12,13] rfl (by decide +kernel) rfl (Do.q rfl (Do.q rfl (Do.q rfl ?_))))
      obtain ⟨x59,h59,H⟩ := aj H
      have k59 := gIs h59
      refine Do.idx rfl rfl rfl rfl rfl rfl rfl k59.1 (aH bE k59.2) rfl (Do.q rfl (Do.q rfl (Do.q rfl (Do.q rfl ?_))))
      obtain ⟨x65,h65,H⟩ := aj H
      have k65 := gIs h65
      refine Do.idx rfl rfl rfl rfl rfl rfl rfl k65.1 (aH bE k65.2) rfl (Do.q rfl ?_)
      obtain ⟨x61,h61,H⟩ := aj H
      have s61 := hrec97 rA x59 _ h61
      refine Do.aR (g := 97) rfl rfl rfl rfl Tryz.call97 (il.r) s61 rfl ?_
      obtain ⟨x67,h67,H⟩ := aj H
      have s67 := hrec97 rA x65 _ h67
      refine Do.aR (g := 97) rfl rfl rfl rfl Tryz.call97 (il.r) s67 rfl ?_
      obtain ⟨x68,h68,H⟩ := aj H
      have s68 := W_query_less x61 x67 _ h68
      refine Do.aR (g := 133) rfl rfl rfl rfl Tryz.call133 (il.r) s68 rfl (Do.q rfl (Do.nil ?_))
      obtain rfl := ai H
      refine V.aq tk rfl (ps := [(.list 51 (x68.map (ag 53 ae)))]) ⟨_,_,rfl,rfl,rfl⟩ (PLe.q rfl)
     ·have H := condF h H
      refine V.al (V.blk (V.seq (V.bc tk mok ⟨false,false,[]⟩ [0,1,2,3,4,5,6] rfl (by decide +kernel) rfl (Do.q rfl (Do.q rfl (Do.q rfl ?_))))))
      obtain ⟨x72,h72,H⟩ := aj H
      have k72 := gIs h72
      refine Do.idx rfl rfl rfl rfl rfl rfl rfl k72.1 (aH bE k72.2) rfl (Do.q rfl ?_)
      obtain ⟨x74,h74,H⟩ := aj H
      have s74 := hrec97 rA x72 _ h74
      refine Do.aR (g := 97) rfl rfl rfl rfl Tryz.call97 (il.r) s74 rfl (Do.q rfl (Do.nil (V.seq (V.bc tk mok ⟨false,false,[]⟩ [0,1,2,3,4,5,6,7] rfl (by decide +kernel) rfl (Do.q rfl (Do.q rfl (Do.q rfl ?_)))))))
      obtain ⟨x78,h78,H⟩ := aj H
      have k78 := gIs h78
      refine Do.idx rfl rfl rfl rfl rfl rfl rfl k78.1 (aH bE k78.2) rfl (Do.q rfl ?_)
      obtain ⟨x80,h80,H⟩ := aj H
      have s80 := jy rA x78 _ h80
      refine Do.aR (g := 134) rfl rfl rfl rfl Tryz.call134 (il.r) s80 rfl ?_
      refine Do.alloc rfl rfl rfl rfl rfl rfl rfl rfl fun b8=>?_
      refine Do.sB rfl rfl rfl rfl rfl rfl rfl rfl rfl rfl rfl rfl (Do.nil (V.seq (V.seq (V.ab (Ao.q tk rfl (Ao.q tk rfl (Ao.nil (V.ap (V.seq (V.ab (Ao.q tk rfl (Ao.q tk rfl (Ao.nil ?_)))))))))))))
      refine V.ak rfl (fun h=>?_) (fun h=>?_)
      ·have H := condT h H
       refine V.seq (V.ab (Ao.q tk rfl ?_))
       have s86 := nm (m := 86) x74
       refine Ao.callO (g := 21) rfl rfl rfl Tryz.call21 (il.r) rfl rfl s86 (fun g86=>?_)
       refine Ao.gh (Gh.freezeB 8 rfl rfl rfl rfl) (Ao.q tk rfl ?_)
       obtain ⟨x88,h88,H⟩ := aj H
       have s88 := iU g86 x74 (fun a0=>fN a0 rA x80 q) Tryz.call136 (fun a0 r h=>nG a0 rA x80 q r h) _ h88
       refine Ao.dr (g := 135) rfl rfl rfl Tryz.call135 [] [(86,0)] rfl rfl rfl rfl (il.of2 (fQ.cons (kW.own rfl) (fQ.cons (kW.of_eq rfl) fQ.nil))) (by rw [cN,cx,cO]; rfl) s88 ?_
       rintro u88 H88h ⟨rfl,rfl⟩
       refine ⟨_,rfl,?_⟩
       refine Ao.gh (st' := ⟨_,_,fun _=>none,upd (fun _=>none) 86 (some ⟨g86,51,(x88.map (ag 53 ae)),true⟩)⟩) (Gh.le (SLe.cq _ _) BLe.nil (OLe.am rfl OLe.nil)) ?_
       refine Ao.cast 88 (q := (.own 86 g86 (x88.map (ag 53 ae)).length)) rfl (PLe.of2 (kW.own rfl)) (Ao.q tk rfl (Ao.nil ?_))
       obtain rfl := ai H
       refine V.dm 4 rfl rfl rfl ?_
       refine V.aq tk rfl (ps := [(.list 51 (x88.map (ag 53 ae)))]) ⟨_,_,rfl,rfl,rfl⟩ (PLe.q rfl)
      ·have H := condF h H
       refine V.seq (V.ab (Ao.q tk rfl (Ao.q tk rfl (Ao.nil ?_))))
       refine V.ak rfl (fun h=>?_) (fun h=>?_)
       ·have H := condT h H
        refine V.seq (V.ab (Ao.q tk rfl (Ao.nil (V.seq (V.seq (V.ab (Ao.q tk rfl (Ao.ay tk rfl rfl rfl rfl rfl (List.length_map _) rfl (Ao.q tk rfl (Ao.nil ?_))))))))))
        obtain ⟨fl3,H3,Hp3⟩ := aj H
        refine V.aZ tk 91 rfl rfl (fun hz3 _=>?_)
        rw [List.length_map] at hz3
        refine V.cut (τ := List (List LVal)) (γ := OwnRef) (fun s3 g3=>⟨139,upd (fun _=>.any) 9 (.own 105 g3 (s3.map (ag 53 ae)).length),fun _=>none,upd (fun _=>none) 105 (some ⟨g3,51,(s3.map (ag 53 ae)),true⟩)⟩) (fun t=>fl3 = .next t) ?_ (fun s3 g3 hn3=>?_)
        ·refine V.ap (V.gr tk 9 105 (e := 51) rfl rfl ?_)
         refine V.aP (fun j3 s3 g3=>⟨139,upd (upd (upd (upd (upd (upd (upd (fun _=>.any) 93 (ac (j3 : Int))) 92 (ac (x74.length : Int))) 91 (.list 51 (x74.map (ag 53 ae)))) 9 (.own 105 g3 (s3.map (ag 53 ae)).length)) 8 (.box 8 b8 0)) 3 (.ptr [(ac q.kind),(.str q.table),(.list 9 (q.names.map bo)),(.list 56 (q.exprs.map aI)),(.list 66 (q.aggregates.map bl)),(.list 4 (q.descending.map bB)),(ac q.count),(ac q.offset),(.list 35 (q.inputs.map aD))])) 2 (.ptr [(.list 91 (rA.s.tables.map aO)),(.list 142 (rA.s.foreignKeys.map bC)),(.list 148 (rA.s.constraints.map bH)),(.list 87 (rA.st.map bg)),(.list 53 (rA.args.map ae)),(.list 50 (rA.vars.map av)),(.list 9 (rA.names.map bo)),(.list 53 (rA.vals.map ae))]),upd (fun _=>none) 8 (some ⟨b8,[(.list 50 (x80.map av))]⟩),upd (fun _=>none) 105 (some ⟨g3,51,(s3.map (ag 53 ae)),true⟩)⟩) (⟨none,0⟩) H3 (Gh.le (SLe.aa (PLe.q rfl) (SLe.aa (PLe.q rfl) (SLe.aa (PLe.q rfl) (SLe.aa (PLe.q rfl) (SLe.aa (PLe.q rfl) (SLe.aa (PLe.q rfl) (SLe.aa (PLe.q rfl) SLe.nil))))))) (BLe.ao rfl (il.r) BLe.nil) (OLe.am rfl OLe.nil)) (fun j3 s3 g3 hj3 hr3=>?_)
         refine V.seq (V.ab (Ao.q tk rfl (Ao.nil (V.seq ?_))))
         refine V.ak rfl (fun h=>?_) (fun h=>?_)
         ·have hl3 := bn h
          obtain ⟨x3,fb3,hx3,H,hg3⟩ := rMc hl3 hr3
          refine V.al (V.seq (V.ap (V.seq (V.ab ?_))))
          refine Ao.idx tk rfl rfl rfl rfl rfl rfl (Int.natCast_nonneg j3) (aY (fun _=>rfl) hx3) rfl ?_
          refine Ao.q tk rfl (Ao.q tk rfl (Ao.nil (V.ab (Ao.q tk rfl (Ao.q tk rfl (Ao.lB tk rfl rfl rfl rfl rfl rfl rfl (Ao.q tk rfl (Ao.q tk rfl (Ao.q tk rfl ?_)))))))))
          obtain ⟨x103,h103,H⟩ := aj H
          have s103 := hZ rA x80 x3 q.exprs _ h103
          refine Ao.ah (g := 140) rfl rfl rfl Tryz.call140 (il.r) s103 rfl (Ao.bsC tk rfl rfl rfl rfl (rows' := List.map (ag 53 ae) ([x103] : List (List LVal))) rfl (fj.refl _) rfl rfl ?_)
          obtain ⟨x105,h105,H⟩ := aj H
          have k105 := cf h105
          refine Ao.co (rows2' := List.map (ag 53 ae) ([x103] : List (List LVal))) (rows' := List.map (ag 53 ae) x105) tk rfl rfl rfl rfl rfl rfl rfl rfl rfl rfl rfl rfl rfl (fj.refl _) (dp k105.1) (dv k105.2.1) (du k105.2.2) fun g105=>?_
          refine Ao.q tk rfl (Ao.nil (V.blk (V.ab (Ao.q tk rfl (Ao.q tk rfl (Ao.nil ?_))))))
          obtain rfl := ai H
          refine V.ax x105 g105 ⟨hl3,hg3⟩ (Gh.le (SLe.aa (PLe.q rfl) (SLe.aa (PLe.q rfl) (SLe.aa (PLe.q rfl) (SLe.aa (PLe.q rfl) (SLe.aa (PLe.q rfl) (SLe.aa (PLe.q rfl) (SLe.aa (PLe.q (az (by omega))) SLe.nil))))))) (BLe.ao rfl (il.r) BLe.nil) (OLe.am rfl OLe.nil))
         ·have hn3 := rMd (bm h) hr3
          refine V.aB rfl ?_
          refine V.at s3 g3 hn3 (Gh.le (SLe.aa (PLe.q rfl) SLe.nil) BLe.nil (OLe.am rfl OLe.nil))
        ·have H := aW hn3 Hp3
         refine V.seq (V.ab (Ao.q tk rfl (Ao.q tk rfl (Ao.nil ?_))))
         obtain rfl := ai H
         refine V.dm 4 rfl rfl rfl ?_
         refine V.aq tk rfl (ps := [(.list 51 (s3.map (ag 53 ae)))]) ⟨_,_,rfl,rfl,rfl⟩ (PLe.q rfl)
       ·have H := condF h H
        refine V.seq (V.ab (Ao.q tk rfl (Ao.q tk rfl (Ao.nil ?_))))
        refine V.ak rfl (fun h=>?_) (fun h=>?_)
        ·have H := condT h H
         refine V.seq (V.ab (Ao.q tk rfl (Ao.q tk rfl (Ao.lB tk rfl rfl rfl rfl rfl rfl rfl (Ao.q tk rfl ?_)))))
         obtain ⟨x114,h114,H⟩ := aj H
         have s114 := ow rA q x80 x74 _ h114
         refine Ao.ah (g := 141) rfl rfl rfl Tryz.call141 (il.r) s114 rfl (Ao.q tk rfl (Ao.nil ?_))
         obtain rfl := ai H
         refine V.aq tk rfl (ps := [(.list 51 (x114.map (ag 53 ae)))]) ⟨_,_,rfl,rfl,rfl⟩ (PLe.q rfl)
        ·have H := condF h H
         refine V.seq (V.ab (Ao.q tk rfl (Ao.q tk rfl (Ao.nil ?_))))
         refine V.ak rfl (fun h=>?_) (fun h=>?_)
         ·have H := condT h H
          refine V.seq (V.ab (Ao.q tk rfl (Ao.q tk rfl (Ao.lB tk rfl rfl rfl rfl rfl rfl rfl (Ao.q tk rfl ?_)))))
          obtain ⟨x121,h121,H⟩ := aj H
          have s121 := oT rA q x80 x74 _ h121
          refine Ao.ah (g := 142) rfl rfl rfl Tryz.call142 (il.r) s121 rfl (Ao.q tk rfl (Ao.nil ?_))
          obtain rfl := ai H
          refine V.aq tk rfl (ps := [(.list 51 (x121.map (ag 53 ae)))]) ⟨_,_,rfl,rfl,rfl⟩ (PLe.q rfl)
         ·have H := condF h H
          refine V.al (V.blk (V.seq (V.ab (Ao.q tk rfl (Ao.q tk rfl (Ao.q tk rfl (Ao.ay tk rfl rfl rfl rfl rfl (List.length_map _) rfl (Ao.q tk rfl (Ao.q tk rfl (Ao.nil (V.seq (V.ab (Ao.q tk rfl (Ao.q tk rfl (Ao.q tk rfl (Ao.q tk rfl (Ao.q tk rfl (Ao.q tk rfl ?_))))))))))))))))))
          refine Ao.ay tk rfl rfl rfl rfl rfl (List.length_map _) rfl (Ao.q tk rfl (Ao.q tk rfl (Ao.q tk rfl (Ao.q tk rfl ?_))))
          obtain ⟨x138,h138,H⟩ := aj H
          have k138 := kF h138
          refine Ao.subL tk rfl rfl rfl rfl rfl (List.length_map _) rfl rfl k138.1 (lP k138.2) rfl (Ao.q tk rfl (Ao.nil ?_))
          obtain rfl := ai H
          refine V.aq tk rfl (ps := [(.list 51 (x138.map (ag 53 ae)))]) ⟨_,_,rfl,rfl,rfl⟩ (PLe.q rfl)
def gA (rec97 : LRun → LQuery → Option ((List (List LVal)))) (_rec132 : LRun → LQuery → Option ((List (List LVal)))) (rA : LRun) (q : LQuery) : Option ((List (List LVal))) :=
 af (aC q.inputs 0) fun (x19 : LQuery) =>
 af (aC q.inputs 1) fun (x25 : LQuery) =>
 af (rec97 rA x19) fun x21 =>
 af (rec97 rA x25) fun x27 =>
 af (aC q.inputs 1) fun (x31 : LQuery) =>
 af (eQ rA x31) fun x33 =>
 af (aC q.inputs 0) fun (x37 : LQuery) =>
 af (eQ rA x37) fun x39 =>
 af (cI 32 x39 x33) fun (x42 : List LCol) =>
 af (aE (σ := List LCol × List (List LVal)) (ρ := Empty) (fun (_ : Nat) (x1 : List LVal) (s1 : List LCol × List (List LVal)) =>
  af (aE (σ := List (List LVal) × Bool) (ρ := Empty) (fun (_ : Nat) (x6 : List LVal) (s6 : List (List LVal) × Bool) =>
   af (bq ([x1,x6] : List (List LVal))) fun x58 =>
   af (aC q.exprs 0) fun (x65 : LExpr) =>
   ba (aS rA s1.1 x58) fun x62 =>
   ba (bT x62 x65) fun x67 =>
   ba (jb x67) fun x68 =>
   cond x68
    (af (cI 24 s6.1 ([x58] : List (List LVal))) fun (x72 : List (List LVal)) =>
    some (.next (x72,true)))
    (some (.next (s6.1,s6.2)))) 0 x27 (s1.2,false)) fun fl6=>fl6.thenP fun (s6 : List (List LVal) × Bool) =>
  ba (
   cond (!s6.2)
    ((q.kind == (5 : Int)))
    (false)) fun (t7 : Bool) =>
  cond t7
   (af (me 32 (x33.length : Int)) fun (_ : Unit) =>
   af (bq ([x1,(List.replicate (x33.length : Int).toNat (LVal.mk 0 0 []))] : List (List LVal))) fun x87 =>
   af (cI 24 s6.1 ([x87] : List (List LVal))) fun (x89 : List (List LVal)) =>
   some (.next (s1.1,x89)))
   (some (.next (s1.1,s6.1)))) 0 x21 (x42,[])) fun fl1=>fl1.thenP fun (s1 : List LCol × List (List LVal)) =>
 some s1.2
set_option maxHeartbeats 4000000 in
theorem ox (rec97 : LRun → LQuery → Option ((List (List LVal)))) (rec132 : LRun → LQuery → Option ((List (List LVal)))) (hrec97 : ∀ a0 a1 r,rec97 a0 a1 = some r → aG Tryz.prog 97 [(.agg (fP a0)),(.agg (aQ a1))] (.list 51 (r.map (ag 53 ae)))) (_hrec132 : ∀ a0 a1 r,rec132 a0 a1 = some r → aG Tryz.prog 132 [(.agg (fP a0)),(.agg (aQ a1))] (.list 51 (r.map (ag 53 ae)))) (rA : LRun) (q : LQuery) (r : (List (List LVal))) (H : gA rec97 rec132 rA q = some r) :
  aG Tryz.prog 132 [(.agg (fP rA)),(.agg (aQ q))] (.list 51 (r.map (ag 53 ae))) := by
 unfold gA at H
 refine PH.intro Tryz.func132 rfl Tryz.ntmps132 rfl ?_
 refine V.seq (V.ab (Ao.aF rfl rfl rfl rfl rfl rfl (Ao.aF rfl rfl rfl rfl rfl rfl (Ao.q tk rfl (Ao.nil (V.seq (V.bc tk mok ⟨false,false,[]⟩ [0,1,2,3,4,6,7,8,9,10,5,11,12,13] rfl (by decide +kernel) rfl (Do.q rfl (Do.q rfl (Do.q rfl ?_))))))))))
 obtain ⟨x19,h19,H⟩ := aj H
 have k19 := gIs h19
 refine Do.idx rfl rfl rfl rfl rfl rfl rfl k19.1 (aH bE k19.2) rfl (Do.q rfl (Do.q rfl (Do.q rfl (Do.q rfl ?_))))
 obtain ⟨x25,h25,H⟩ := aj H
 have k25 := gIs h25
 refine Do.idx rfl rfl rfl rfl rfl rfl rfl k25.1 (aH bE k25.2) rfl (Do.q rfl ?_)
 obtain ⟨x21,h21,H⟩ := aj H
 have s21 := hrec97 rA x19 _ h21
 refine Do.aR (g := 97) rfl rfl rfl rfl Tryz.call97 (il.r) s21 rfl ?_
 obtain ⟨x27,h27,H⟩ := aj H
 have s27 := hrec97 rA x25 _ h27
 refine Do.aR (g := 97) rfl rfl rfl rfl Tryz.call97 (il.r) s27 rfl (Do.q rfl (Do.q rfl (Do.nil (V.seq (V.bc tk mok ⟨false,false,[]⟩ [0,1,2,3,4,5,6] rfl (by decide +kernel) rfl (Do.q rfl (Do.q rfl (Do.q rfl ?_))))))))
 obtain ⟨x31,h31,H⟩ := aj H
 have k31 := gIs h31
 refine Do.idx rfl rfl rfl rfl rfl rfl rfl k31.1 (aH bE k31.2) rfl (Do.q rfl ?_)
 obtain ⟨x33,h33,H⟩ := aj H
 have s33 := jy rA x31 _ h33
 refine Do.aR (g := 134) rfl rfl rfl rfl Tryz.call134 (il.r) s33 rfl (Do.q rfl (Do.nil (V.seq (V.bc tk mok ⟨false,false,[]⟩ [0,1,2,3,4,7,5,6,8,9] rfl (by decide +kernel) rfl (Do.q rfl (Do.q rfl (Do.q rfl ?_)))))))
 obtain ⟨x37,h37,H⟩ := aj H
 have k37 := gIs h37
 refine Do.idx rfl rfl rfl rfl rfl rfl rfl k37.1 (aH bE k37.2) rfl (Do.q rfl (Do.q rfl ?_))
 obtain ⟨x39,h39,H⟩ := aj H
 have s39 := jy rA x37 _ h39
 refine Do.aR (g := 134) rfl rfl rfl rfl Tryz.call134 (il.r) s39 rfl ?_
 have s40 := mi (m := 40) x39
 refine Do.callO (g := 155) rfl rfl rfl rfl Tryz.call155 (il.r) rfl rfl s40 (fun g40=>?_)
 obtain ⟨x42,h42,H⟩ := aj H
 have k42 := cf h42
 refine Do.jM (rows2' := List.map av x33) (rows' := List.map av x42) tk rfl rfl rfl rfl rfl rfl rfl rfl rfl rfl rfl rfl rfl rfl (fj.refl _) (dp k42.1) (dv k42.2.1) (du k42.2.2) fun g42=>?_
 refine Do.q rfl (Do.nil (V.seq (V.ab (Ao.q tk rfl (Ao.nil (V.seq (V.seq (V.ab (Ao.q tk rfl (Ao.ay tk rfl rfl rfl rfl rfl (List.length_map _) rfl (Ao.q tk rfl (Ao.nil ?_))))))))))))
 obtain ⟨fl1,H1,Hp1⟩ := aj H
 refine V.aZ tk 43 rfl rfl (fun hz1 _=>?_)
 rw [List.length_map] at hz1
 refine V.cut (τ := List LCol × List (List LVal)) (γ := OwnRef) (fun s1 g1=>⟨92,upd (fun _=>.any) 9 (.own 72 g1 (s1.2.map (ag 53 ae)).length),fun _=>none,upd (fun _=>none) 72 (some ⟨g1,51,(s1.2.map (ag 53 ae)),true⟩)⟩) (fun t=>fl1 = .next t) ?_ (fun s1 g1 hn1=>?_)
 ·refine V.ap (V.dm 8 rfl rfl rfl (V.gr tk 9 72 (e := 51) rfl rfl ?_))
  refine V.aP (fun j1 s1 g1=>⟨92,upd (upd (upd (upd (upd (upd (upd (upd (upd (fun _=>.any) 45 (ac (j1 : Int))) 44 (ac (x21.length : Int))) 43 (.list 51 (x21.map (ag 53 ae)))) 9 (.own 72 g1 (s1.2.map (ag 53 ae)).length)) 8 (.list 50 (s1.1.map av))) 7 (.list 50 (x33.map av))) 6 (.list 51 (x27.map (ag 53 ae)))) 3 (.ptr [(ac q.kind),(.str q.table),(.list 9 (q.names.map bo)),(.list 56 (q.exprs.map aI)),(.list 66 (q.aggregates.map bl)),(.list 4 (q.descending.map bB)),(ac q.count),(ac q.offset),(.list 35 (q.inputs.map aD))])) 2 (.ptr [(.list 91 (rA.s.tables.map aO)),(.list 142 (rA.s.foreignKeys.map bC)),(.list 148 (rA.s.constraints.map bH)),(.list 87 (rA.st.map bg)),(.list 53 (rA.args.map ae)),(.list 50 (rA.vars.map av)),(.list 9 (rA.names.map bo)),(.list 53 (rA.vals.map ae))]),fun _=>none,upd (fun _=>none) 72 (some ⟨g1,51,(s1.2.map (ag 53 ae)),true⟩)⟩) (⟨none,0⟩) H1 (Gh.le (SLe.aa (PLe.q rfl) (SLe.aa (PLe.q rfl) (SLe.aa (PLe.q rfl) (SLe.aa (PLe.q rfl) (SLe.aa (PLe.q rfl) (SLe.aa (PLe.q rfl) (SLe.aa (PLe.q rfl) (SLe.aa (PLe.q rfl) (SLe.aa (PLe.q rfl) SLe.nil))))))))) BLe.nil (OLe.am rfl OLe.nil)) (fun j1 s1 g1 hj1 hr1=>?_)
  refine V.seq (V.ab (Ao.q tk rfl (Ao.nil (V.seq ?_))))
  refine V.ak rfl (fun h=>?_) (fun h=>?_)
  ·have hl1 := bn h
   obtain ⟨x1,fb1,hx1,H,hg1⟩ := rMc hl1 hr1
   refine V.al (V.seq (V.ap (V.seq (V.ab ?_))))
   refine Ao.idx tk rfl rfl rfl rfl rfl rfl (Int.natCast_nonneg j1) (aY (fun _=>rfl) hx1) rfl ?_
   refine Ao.q tk rfl (Ao.q tk rfl (Ao.nil (V.seq (V.ab (Ao.q tk rfl (Ao.nil (V.seq (V.seq (V.ab (Ao.q tk rfl (Ao.ay tk rfl rfl rfl rfl rfl (List.length_map _) rfl (Ao.q tk rfl (Ao.nil ?_)))))))))))))
   obtain ⟨fl6,H6,Hp6⟩ := aj H
   refine V.aZ tk 49 rfl rfl (fun hz6 _=>?_)
   rw [List.length_map] at hz6
   refine V.cut (τ := List (List LVal) × Bool) (γ := OwnRef) (fun s6 g6=>⟨92,upd (upd (upd (upd (upd (upd (upd (upd (upd (upd (upd (fun _=>.any) 45 (ac (j1 : Int))) 44 (ac (x21.length : Int))) 43 (.list 51 (x21.map (ag 53 ae)))) 12 (au s6.2)) 11 (.list 53 (x1.map ae))) 9 (.own 72 g6 (s6.1.map (ag 53 ae)).length)) 8 (.list 50 (s1.1.map av))) 7 (.list 50 (x33.map av))) 6 (.list 51 (x27.map (ag 53 ae)))) 3 (.ptr [(ac q.kind),(.str q.table),(.list 9 (q.names.map bo)),(.list 56 (q.exprs.map aI)),(.list 66 (q.aggregates.map bl)),(.list 4 (q.descending.map bB)),(ac q.count),(ac q.offset),(.list 35 (q.inputs.map aD))])) 2 (.ptr [(.list 91 (rA.s.tables.map aO)),(.list 142 (rA.s.foreignKeys.map bC)),(.list 148 (rA.s.constraints.map bH)),(.list 87 (rA.st.map bg)),(.list 53 (rA.args.map ae)),(.list 50 (rA.vars.map av)),(.list 9 (rA.names.map bo)),(.list 53 (rA.vals.map ae))]),fun _=>none,upd (fun _=>none) 72 (some ⟨g6,51,(s6.1.map (ag 53 ae)),true⟩)⟩) (fun t=>fl6 = .next t) ?_ (fun s6 g6 hn6=>?_)
   ·refine V.ap ?_
    refine V.aP (fun j6 s6 g6=>⟨92,upd (upd (upd (upd (upd (upd (upd (upd (upd (upd (upd (upd (upd (upd (fun _=>.any) 51 (ac (j6 : Int))) 50 (ac (x27.length : Int))) 49 (.list 51 (x27.map (ag 53 ae)))) 45 (ac (j1 : Int))) 44 (ac (x21.length : Int))) 43 (.list 51 (x21.map (ag 53 ae)))) 12 (au s6.2)) 11 (.list 53 (x1.map ae))) 9 (.own 72 g6 (s6.1.map (ag 53 ae)).length)) 8 (.list 50 (s1.1.map av))) 7 (.list 50 (x33.map av))) 6 (.list 51 (x27.map (ag 53 ae)))) 3 (.ptr [(ac q.kind),(.str q.table),(.list 9 (q.names.map bo)),(.list 56 (q.exprs.map aI)),(.list 66 (q.aggregates.map bl)),(.list 4 (q.descending.map bB)),(ac q.count),(ac q.offset),(.list 35 (q.inputs.map aD))])) 2 (.ptr [(.list 91 (rA.s.tables.map aO)),(.list 142 (rA.s.foreignKeys.map bC)),(.list 148 (rA.s.constraints.map bH)),(.list 87 (rA.st.map bg)),(.list 53 (rA.args.map ae)),(.list 50 (rA.vars.map av)),(.list 9 (rA.names.map bo)),(.list 53 (rA.vals.map ae))]),fun _=>none,upd (fun _=>none) 72 (some ⟨g6,51,(s6.1.map (ag 53 ae)),true⟩)⟩) g1 H6 (Gh.le (SLe.aa (PLe.q rfl) (SLe.aa (PLe.q rfl) (SLe.aa (PLe.q rfl) (SLe.aa (PLe.q rfl) (SLe.aa (PLe.q rfl) (SLe.aa (PLe.q rfl) (SLe.aa (PLe.q rfl) (SLe.aa (PLe.q rfl) (SLe.aa (PLe.q rfl) (SLe.aa (PLe.q rfl) (SLe.aa (PLe.q rfl) (SLe.aa (PLe.q rfl) (SLe.aa (PLe.q rfl) (SLe.aa (PLe.q rfl) SLe.nil)))))))))))))) BLe.nil (OLe.am rfl OLe.nil)) (fun j6 s6 g6 hj6 hr6=>?_)
    refine V.seq (V.ab (Ao.q tk rfl (Ao.nil (V.seq ?_))))
    refine V.ak rfl (fun h=>?_) (fun h=>?_)
    ·have hl6 := bn h
     obtain ⟨x6,fb6,hx6,H,hg6⟩ := rMc hl6 hr6
     refine V.al (V.seq (V.ap (V.seq (V.ab ?_))))
     refine Ao.idx tk rfl rfl rfl rfl rfl rfl (Int.natCast_nonneg j6) (aY (fun _=>rfl) hx6) rfl ?_
     refine Ao.q tk rfl (Ao.q tk rfl (Ao.nil (V.seq (V.ab (Ao.q tk rfl (Ao.q tk rfl (Ao.bsC tk rfl rfl rfl rfl (rows' := List.map (ag 53 ae) ([x1,x6] : List (List LVal))) rfl (fj.refl _) rfl rfl ?_)))))))
     obtain ⟨x58,h58,H⟩ := aj H
     have s58 := gj (m := 58) ([x1,x6] : List (List LVal)) _ h58
     refine Ao.ah (g := 168) rfl rfl rfl Tryz.call168 (il.r) (PFun.hP s58) rfl (Ao.q tk rfl (Ao.nil (V.seq (V.bc tk mok ⟨false,false,[]⟩ [0,1,2,4,5,6,7,3,8,9] rfl (by decide +kernel) rfl (Do.q rfl (Do.q rfl (Do.q rfl (Do.q rfl (Do.q rfl ?_)))))))))
     obtain ⟨x65,h65,H⟩ := aj H
     have k65 := gIs h65
     refine Do.idx rfl rfl rfl rfl rfl rfl rfl k65.1 (aH cW k65.2) rfl (Do.q rfl ?_)
     obtain ⟨x62,h62,H⟩ := bA H
     have s62 := iF rA s1.1 x58
     rw [h62] at s62
     refine Do.aR (g := 139) rfl rfl rfl rfl Tryz.call139 (il.r) s62 rfl ?_
     obtain ⟨x67,h67,H⟩ := bA H
     have s67 := kN x62 x65
     rw [h67] at s67
     refine Do.aR (g := 138) rfl rfl rfl rfl Tryz.call138 (il.r) s67 rfl ?_
     obtain ⟨x68,h68,H⟩ := bA H
     have s68 := isTS x67
     rw [h68] at s68
     refine Do.aR (g := 137) rfl rfl rfl rfl Tryz.call137 (il.r) s68 rfl (Do.nil ?_)
     refine V.ak rfl (fun h=>?_) (fun h=>?_)
     ·have H := condT h H
      refine V.seq (V.ab (Ao.q tk rfl (Ao.q tk rfl (Ao.bsC tk rfl rfl rfl rfl (rows' := List.map (ag 53 ae) ([x58] : List (List LVal))) rfl (fj.refl _) rfl rfl ?_))))
      obtain ⟨x72,h72,H⟩ := aj H
      have k72 := cf h72
      refine Ao.co (rows2' := List.map (ag 53 ae) ([x58] : List (List LVal))) (rows' := List.map (ag 53 ae) x72) tk rfl rfl rfl rfl rfl rfl rfl rfl rfl rfl rfl rfl rfl (fj.refl _) (dp k72.1) (dv k72.2.1) (du k72.2.2) fun g72=>?_
      refine Ao.q tk rfl (Ao.nil (V.ab (Ao.q tk rfl (Ao.nil (V.blk (V.ab (Ao.q tk rfl (Ao.q tk rfl (Ao.nil ?_)))))))))
      obtain rfl := ai H
      refine V.ax (x72,true) g72 ⟨hl6,hg6⟩ (Gh.le (SLe.aa (PLe.q rfl) (SLe.aa (PLe.q rfl) (SLe.aa (PLe.q rfl) (SLe.aa (PLe.q rfl) (SLe.aa (PLe.q rfl) (SLe.aa (PLe.q rfl) (SLe.aa (PLe.q rfl) (SLe.aa (PLe.q rfl) (SLe.aa (PLe.q rfl) (SLe.aa (PLe.q rfl) (SLe.aa (PLe.q rfl) (SLe.aa (PLe.q rfl) (SLe.aa (PLe.q rfl) (SLe.aa (PLe.q (az (by omega))) SLe.nil)))))))))))))) BLe.nil (OLe.am rfl OLe.nil))
     ·have H := condF h H
      refine V.al (V.blk (V.ab (Ao.q tk rfl (Ao.q tk rfl (Ao.nil ?_)))))
      obtain rfl := ai H
      refine V.ax (s6.1,s6.2) g6 ⟨hl6,hg6⟩ (Gh.le (SLe.aa (PLe.q rfl) (SLe.aa (PLe.q rfl) (SLe.aa (PLe.q rfl) (SLe.aa (PLe.q rfl) (SLe.aa (PLe.q rfl) (SLe.aa (PLe.q rfl) (SLe.aa (PLe.q rfl) (SLe.aa (PLe.q rfl) (SLe.aa (PLe.q rfl) (SLe.aa (PLe.q rfl) (SLe.aa (PLe.q rfl) (SLe.aa (PLe.q rfl) (SLe.aa (PLe.q rfl) (SLe.aa (PLe.q (az (by omega))) SLe.nil)))))))))))))) BLe.nil (OLe.am rfl OLe.nil))
    ·have hn6 := rMd (bm h) hr6
     refine V.aB rfl ?_
     refine V.at s6 g6 hn6 (Gh.le (SLe.aa (PLe.q rfl) (SLe.aa (PLe.q rfl) (SLe.aa (PLe.q rfl) (SLe.aa (PLe.q rfl) (SLe.aa (PLe.q rfl) (SLe.aa (PLe.q rfl) (SLe.aa (PLe.q rfl) (SLe.aa (PLe.q rfl) (SLe.aa (PLe.q rfl) (SLe.aa (PLe.q rfl) (SLe.aa (PLe.q rfl) SLe.nil))))))))))) BLe.nil (OLe.am rfl OLe.nil))
   ·have H := aW hn6 Hp6
    refine V.seq ?_
    obtain ⟨fl7,H7,Hp7⟩ := bA H
    refine V.cut (τ := Bool) (γ := Unit) (fun t7 g7=>⟨92,upd (upd (upd (upd (upd (upd (upd (upd (upd (upd (upd (fun _=>.any) 80 (au t7)) 45 (ac (j1 : Int))) 44 (ac (x21.length : Int))) 43 (.list 51 (x21.map (ag 53 ae)))) 11 (.list 53 (x1.map ae))) 9 (.own 72 g6 (s6.1.map (ag 53 ae)).length)) 8 (.list 50 (s1.1.map av))) 7 (.list 50 (x33.map av))) 6 (.list 51 (x27.map (ag 53 ae)))) 3 (.ptr [(ac q.kind),(.str q.table),(.list 9 (q.names.map bo)),(.list 56 (q.exprs.map aI)),(.list 66 (q.aggregates.map bl)),(.list 4 (q.descending.map bB)),(ac q.count),(ac q.offset),(.list 35 (q.inputs.map aD))])) 2 (.ptr [(.list 91 (rA.s.tables.map aO)),(.list 142 (rA.s.foreignKeys.map bC)),(.list 148 (rA.s.constraints.map bH)),(.list 87 (rA.st.map bg)),(.list 53 (rA.args.map ae)),(.list 50 (rA.vars.map av)),(.list 9 (rA.names.map bo)),(.list 53 (rA.vals.map ae))]),fun _=>none,upd (fun _=>none) 72 (some ⟨g6,51,(s6.1.map (ag 53 ae)),true⟩)⟩) (fun t=>t = fl7) ?_ (fun t7 g7 hn7=>?_)
    ·have H := H7
     refine V.ab (Ao.q tk rfl (Ao.q tk rfl (Ao.q tk rfl ?_)))
     refine Ao.aA rfl rfl rfl (fun h=>?_) (fun h=>?_)
     ·have H := condT h H
      refine Ao.q tk rfl (Ao.q tk rfl (Ao.q tk rfl (Ao.q tk rfl (Ao.nil ?_))))
      subst H
      refine V.at (q.kind == (5 : Int)) () rfl (Gh.le (SLe.aa (PLe.q rfl) (SLe.aa (PLe.q rfl) (SLe.aa (PLe.q rfl) (SLe.aa (PLe.q rfl) (SLe.aa (PLe.q rfl) (SLe.aa (PLe.q rfl) (SLe.aa (PLe.q rfl) (SLe.aa (PLe.q rfl) (SLe.aa (PLe.q rfl) (SLe.aa (PLe.q rfl) (SLe.aa (PLe.q rfl) SLe.nil))))))))))) BLe.nil (OLe.am rfl OLe.nil))
     ·have H := condF h H
      refine Ao.q tk rfl (Ao.q tk rfl (Ao.q tk rfl (Ao.q tk rfl (Ao.nil ?_))))
      subst H
      refine V.at false () rfl (Gh.le (SLe.aa (PLe.q rfl) (SLe.aa (PLe.q rfl) (SLe.aa (PLe.q rfl) (SLe.aa (PLe.q rfl) (SLe.aa (PLe.q rfl) (SLe.aa (PLe.q rfl) (SLe.aa (PLe.q rfl) (SLe.aa (PLe.q rfl) (SLe.aa (PLe.q rfl) (SLe.aa (PLe.q rfl) (SLe.aa (PLe.q rfl) SLe.nil))))))))))) BLe.nil (OLe.am rfl OLe.nil))
    ·subst hn7
     have H := Hp7
     refine V.ak rfl (fun h=>?_) (fun h=>?_)
     ·have H := condT h H
      refine V.ab (Ao.q tk rfl (Ao.q tk rfl (Ao.q tk rfl (Ao.ay tk rfl rfl rfl rfl rfl (List.length_map _) rfl ?_))))
      obtain ⟨_,h85,H⟩ := aj H
      have k85 := growI_some h85
      refine Ao.makeS (rows := List.map ae (List.replicate (x33.length : Int).toNat (LVal.mk 0 0 []))) tk rfl rfl rfl rfl rfl rfl rfl rfl rfl rfl k85.1 k85.2.1 k85.2.2 (by rw [List.map_replicate]; rfl) fun g85=>?_
      refine Ao.gh (Gh.freezeO 85 rfl rfl rfl) (Ao.bsC tk rfl rfl rfl rfl (rows' := List.map (ag 53 ae) ([x1,(List.replicate (x33.length : Int).toNat (LVal.mk 0 0 []))] : List (List LVal))) rfl (fj.refl _) rfl rfl ?_)
      obtain ⟨x87,h87,H⟩ := aj H
      have s87 := gj (m := 87) ([x1,(List.replicate (x33.length : Int).toNat (LVal.mk 0 0 []))] : List (List LVal)) _ h87
      refine Ao.ah (g := 168) rfl rfl rfl Tryz.call168 (il.r) (PFun.hP s87) rfl (Ao.bsC tk rfl rfl rfl rfl (rows' := List.map (ag 53 ae) ([x87] : List (List LVal))) rfl (fj.refl _) rfl rfl ?_)
      obtain ⟨x89,h89,H⟩ := aj H
      have k89 := cf h89
      refine Ao.co (rows2' := List.map (ag 53 ae) ([x87] : List (List LVal))) (rows' := List.map (ag 53 ae) x89) tk rfl rfl rfl rfl rfl rfl rfl rfl rfl rfl rfl rfl rfl (fj.refl _) (dp k89.1) (dv k89.2.1) (du k89.2.2) fun g89=>?_
      refine Ao.q tk rfl (Ao.nil (V.blk (V.ab (Ao.q tk rfl (Ao.q tk rfl (Ao.nil ?_))))))
      obtain rfl := ai H
      refine V.ax (s1.1,x89) g89 ⟨hl1,hg1⟩ (Gh.le (SLe.aa (PLe.q rfl) (SLe.aa (PLe.q rfl) (SLe.aa (PLe.q rfl) (SLe.aa (PLe.q rfl) (SLe.aa (PLe.q rfl) (SLe.aa (PLe.q rfl) (SLe.aa (PLe.q rfl) (SLe.aa (PLe.q rfl) (SLe.aa (PLe.q (az (by omega))) SLe.nil))))))))) BLe.nil (OLe.am rfl OLe.nil))
     ·have H := condF h H
      refine V.al (V.blk (V.ab (Ao.q tk rfl (Ao.q tk rfl (Ao.nil ?_)))))
      obtain rfl := ai H
      refine V.ax (s1.1,s6.1) g6 ⟨hl1,hg1⟩ (Gh.le (SLe.aa (PLe.q rfl) (SLe.aa (PLe.q rfl) (SLe.aa (PLe.q rfl) (SLe.aa (PLe.q rfl) (SLe.aa (PLe.q rfl) (SLe.aa (PLe.q rfl) (SLe.aa (PLe.q rfl) (SLe.aa (PLe.q rfl) (SLe.aa (PLe.q (az (by omega))) SLe.nil))))))))) BLe.nil (OLe.am rfl OLe.nil))
  ·have hn1 := rMd (bm h) hr1
   refine V.aB rfl ?_
   refine V.at s1 g1 hn1 (Gh.le (SLe.aa (PLe.q rfl) SLe.nil) BLe.nil (OLe.am rfl OLe.nil))
 ·have H := aW hn1 Hp1
  refine V.seq (V.ab (Ao.q tk rfl (Ao.q tk rfl (Ao.nil ?_))))
  obtain rfl := ai H
  refine V.dm 4 rfl rfl rfl ?_
  refine V.aq tk rfl (ps := [(.list 51 (s1.2.map (ag 53 ae)))]) ⟨_,_,rfl,rfl,rfl⟩ (PLe.q rfl)
mutual
def dH : Nat → LRun → LQuery → Option ((List (List LVal)))
 | 0,_,_=>none
 | n + 1,v0,v1=>iu (fun b0 b1=>dH n b0 b1) (fun b0 b1=>eP n b0 b1) v0 v1
def eP : Nat → LRun → LQuery → Option ((List (List LVal)))
 | 0,_,_=>none
 | n + 1,v0,v1=>gA (fun b0 b1=>dH n b0 b1) (fun b0 b1=>eP n b0 b1) v0 v1
end
theorem ou  (n : Nat) : (∀ a0 a1 r,dH n a0 a1 = some r → aG Tryz.prog 97 [(.agg (fP a0)),(.agg (aQ a1))] (.list 51 (r.map (ag 53 ae)))) ∧ (∀ a0 a1 r,eP n a0 a1 = some r → aG Tryz.prog 132 [(.agg (fP a0)),(.agg (aQ a1))] (.list 51 (r.map (ag 53 ae)))) := by
 induction n with
 | zero=>exact ⟨(by intros; rename_i h; exact absurd (show (none : Option _) = some _ from h) (by simp)),(by intros; rename_i h; exact absurd (show (none : Option _) = some _ from h) (by simp))⟩
 | succ n ih =>
  exact ⟨(fun v0 v1 r h=>oB (fun b0 b1=>dH n b0 b1) (fun b0 b1=>eP n b0 b1) ih.1 ih.2 v0 v1  r h),(fun v0 v1 r h=>ox (fun b0 b1=>dH n b0 b1) (fun b0 b1=>eP n b0 b1) ih.1 ih.2 v0 v1  r h)⟩
def ju (rA : LRun) (q : LQuery) : Option ((List (List LVal))) := gG fun n=>dH n rA q
theorem oV (rA : LRun) (q : LQuery) (r : (List (List LVal))) (H : ju rA q = some r) :
  aG Tryz.prog 97 [(.agg (fP rA)),(.agg (aQ q))] (.list 51 (r.map (ag 53 ae))) := by
 obtain ⟨n,h⟩ := im H
 exact (ou  n).1 rA q r h
end
end Go.Proofs.YtgaggbdcedpapaaGreat

namespace Go.Proofs.YtgaggbdcedpapaaGreat
noncomputable section
open Go Go.Ab
attribute [local irreducible] V Ao Do Gh Eff PH IntKind.wrap
set_option maxRecDepth 4000
def jp (sA : LSchema) (q : LQuery) : Option ((List LCol) × Int) :=
 af (eF sA ([] : List LCol) q) fun x8 =>
 some (x8.1,x8.2)
set_option maxHeartbeats 4000000 in
theorem W_query_Check (sA : LSchema) (q : LQuery) (r : (List LCol) × Int) (H : jp sA q = some r) :
  aG Tryz.prog 18 [(.agg (db sA)),(.agg (aQ q))] (.tup [(.list 50 (r.1.map av)),(ac r.2)]) := by
 unfold jp at H
 refine PH.intro Tryz.func18 rfl Tryz.ntmps18 rfl ?_
 refine V.seq (V.ab (Ao.aF rfl rfl rfl rfl rfl rfl (Ao.aF rfl rfl rfl rfl rfl rfl (Ao.q tk rfl (Ao.q tk rfl (Ao.nil (V.seq (V.ab (Ao.q tk rfl (Ao.q tk rfl ?_))))))))))
 obtain ⟨x8,h8,H⟩ := aj H
 have s8 := kg sA ([] : List LCol) q _ h8
 refine Ao.ah (g := 54) rfl rfl rfl Tryz.call54 (il.of2 (fQ.cons (kW.of_eq rfl) (fQ.cons (kW.nil tk rfl) (fQ.cons (kW.of_eq rfl) fQ.nil)))) s8 rfl (Ao.q tk rfl (Ao.q tk rfl (Ao.q tk rfl (Ao.q tk rfl (Ao.nil ?_)))))
 obtain rfl := ai H
 refine V.aq tk rfl (ps := [(.list 50 (x8.1.map av)),(ac x8.2)]) ⟨_,_,rfl,rfl,_,_,rfl,rfl,rfl⟩ (PLe.q rfl)
end
end Go.Proofs.YtgaggbdcedpapaaGreat
