/- queryReadsOnlyItsTablesUpto_holds, part 4: the layer, the plain functions and what they compute; conditions as in the statement. -/
import Derived.Test.YtgaggbdcedpapaaGreatRsc
set_option maxHeartbeats 4000000
namespace Go.Proofs.YtgaggbdcedpapaaGreat
noncomputable section
open Go Go.Ab
attribute [local irreducible] V Ao Do Gh Eff PH IntKind.wrap
set_option maxRecDepth 4000
def gn (q : LQuery) : Option (Int) :=
 ai (mf q) fun x7 =>
 some x7.2
theorem nd (q : LQuery) (r : Int) (H : gn q = some r) :
  bc Tryz.prog 89 [(.agg (bE q))] (ae r) := by
 unfold gn at H
 refine PH.aD Tryz.func89 Tryz.ntmps89 ?_
 refine ab (ac (aV ?_))
 refine ao tk rfl (af (ab (ac (ao tk rfl ?_))))
 obtain ⟨x7,h7,H⟩ := ax H
 have s7 := W_query_most q _ h7
 refine aq Tryz.call109 (iR.r) s7 ?_
 refine al 5 tk rfl (af (aw 2 tk rfl ?_))
 obtain rfl := am H
 refine aC tk rfl (ps := [(ae x7.2)]) ⟨_,_,rfl,rfl,rfl⟩ (PLe.q rfl)
def fE (q : LQuery) : Option ((List Int) × Int) :=
 ai (iL q) fun x18 =>
 ai (aW (σ := List Int × Bool × List Bool) (ρ := Empty) (fun (_ : Nat) (x1 : LQuery) (s1 : List Int × Bool × List Bool) =>
  ai (aW (σ := List Int × Bool × List Bool) (ρ := Empty) (fun (_ : Nat) (x12 : LExpr) (s12 : List Int × Bool × List Bool) =>
   ai (fQ x12 s12.1 s12.2.1 s12.2.2) fun x33 =>
   some (.next (x33.1,x33.2.1,x33.2.2))) 0 x1.exprs (s1.1,s1.2.1,s1.2.2)) fun fl12=>fl12.thenP fun (s12 : List Int × Bool × List Bool) =>
  ai (aW (σ := List Int × Bool × List Bool) (ρ := Empty) (fun (_ : Nat) (x13 : LAggregateCall) (s13 : List Int × Bool × List Bool) =>
   ai (aW (σ := List Int × Bool × List Bool) (ρ := Empty) (fun (_ : Nat) (x16 : LExpr) (s16 : List Int × Bool × List Bool) =>
    ai (fQ x16 s16.1 s16.2.1 s16.2.2) fun x51 =>
    some (.next (x51.1,x51.2.1,x51.2.2))) 0 x13.args (s13.1,s13.2.1,s13.2.2)) fun fl16=>fl16.thenP fun (s16 : List Int × Bool × List Bool) =>
   some (.next (s16.1,s16.2.1,s16.2.2))) 0 x1.aggregates (s12.1,s12.2.1,s12.2.2)) fun fl13=>fl13.thenP fun (s13 : List Int × Bool × List Bool) =>
  some (.next (s13.1,s13.2.1,s13.2.2))) 0 x18 ([],false,(List.replicate 8 false))) fun fl1=>fl1.thenP fun (s1 : List Int × Bool × List Bool) =>
 cond s1.2.1
  (some ([],13))
  (some (s1.1,0))
theorem lp (q : LQuery) (r : (List Int) × Int) (H : fE q = some r) :
  bc Tryz.prog 87 [(.agg (bE q))] (.tup [(.list 3 (r.1.map bM)),(ae r.2)]) := by
 unfold fE at H
 refine PH.aD Tryz.func87 Tryz.ntmps87 ?_
 refine ab (ac (aV ?_))
 refine al 2 tk rfl (af (ab (ac ?_)))
 refine bu tk fun b4=>?_
 refine af (ab (ac ?_))
 refine bu tk fun b5=>?_
 refine af (ab (ac ?_))
 refine bu tk fun b6=>?_
 refine aE tk ?_
 refine af (ab (ac ?_))
 refine bu tk fun b7=>?_
 refine af (ab (ac (ao tk rfl (aE tk ?_))))
 refine af (ab (ab (ac (ao tk rfl ?_))))
 obtain ⟨x18,h18,H⟩ := ax H
 have s18 := nv (m := 18) q _ h18
 refine aq Tryz.call76 (iR.r) (PFun.iv s18) ?_
 refine aN tk (zl _) ?_
 refine ao tk rfl (af ?_)
 obtain ⟨fl1,H1,Hp1⟩ := ax H
 refine bP tk 18 rfl rfl (fun hz1 _=>?_)
 rw [zl] at hz1
 refine aY (τ := List Int × Bool × List Bool) (γ := OwnRef) (fun s1 g1=>⟨57,upd (upd (fun _=>.any) 6 (.box 6 b6 0)) 4 (.box 4 b4 0),upd (upd (fun _=>none) 6 (some ⟨b6,[(aF s1.2.1)]⟩)) 4 (some ⟨b4,[(.own 1204 g1 (s1.1.map bM).length)]⟩),upd (fun _=>none) 1204 (some ⟨g1,3,(s1.1.map bM),true⟩)⟩) (fun t=>fl1 = .next t) ?_ (fun s1 g1 hn1=>?_)
 ·refine az (rl tk 4 0 1204 (e := 3) rfl rfl rfl rfl ?_)
  refine bC (fun j1 s1 g1=>⟨57,upd (upd (upd (upd (upd (upd (fun _=>.any) 20 (ae (j1 : Int))) 19 (ae (x18.length : Int))) 18 (.list 35 (x18.map ba))) 7 (.box 7 b7 0)) 6 (.box 6 b6 0)) 4 (.box 4 b4 0),upd (upd (upd (upd (fun _=>none) 7 (some ⟨b7,[(.fn 108 [(.box 4 b4 0),(.box 6 b6 0),(.box 5 b5 0),(.box 7 b7 0)])]⟩)) 6 (some ⟨b6,[(aF s1.2.1)]⟩)) 5 (some ⟨b5,(List.map aF s1.2.2)⟩)) 4 (some ⟨b4,[(.own 1204 g1 (s1.1.map bM).length)]⟩),upd (fun _=>none) 1204 (some ⟨g1,3,(s1.1.map bM),true⟩)⟩) (⟨none,0⟩) H1 (Gh.le (aa (aa (aa (aa (aa (aa aj)))))) (aA rfl (iR.r) (aA rfl (iR.r) (aA rfl (iR.r) (aA rfl (iR.r) ah)))) (ay ag)) (fun j1 s1 g1 hj1 hr1=>?_)
  refine aw 1 tk rfl (ab ?_)
  refine aZ rfl (fun h=>?_) (fun h=>?_)
  ·have hl1 := co h
   obtain ⟨x1,fb1,hx1,H,hg1⟩ := rMc hl1 hr1
   refine av (ab (az (ab (ac (bs tk (zn j1) (bO cM hx1) ?_)))))
   refine ao tk rfl ?_
   refine bu tk fun b9=>?_
   refine aE tk ?_
   refine af (ab (ab (ac (ao tk rfl (aT tk ?_)))))
   refine aN tk (zl _) ?_
   refine ao tk rfl (af ?_)
   obtain ⟨fl12,H12,Hp12⟩ := ax H
   refine bP tk 25 rfl rfl (fun hz12 _=>?_)
   rw [zl] at hz12
   refine aY (τ := List Int × Bool × List Bool) (γ := OwnRef) (fun s12 g12=>⟨57,upd (upd (upd (upd (upd (upd (upd (fun _=>.any) 20 (ae (j1 : Int))) 19 (ae (x18.length : Int))) 18 (.list 35 (x18.map ba))) 9 (.box 9 b9 0)) 7 (.box 7 b7 0)) 6 (.box 6 b6 0)) 4 (.box 4 b4 0),upd (upd (upd (upd (upd (fun _=>none) 9 (some ⟨b9,[(ae x1.kind),(.str x1.table),(.list 9 (x1.names.map aB)),(.list 56 (x1.exprs.map bg)),(.list 66 (x1.aggregates.map cn)),(.list 4 (x1.descending.map cz)),(ae x1.count),(ae x1.offset),(.list 35 (x1.inputs.map ba))]⟩)) 7 (some ⟨b7,[(.fn 108 [(.box 4 b4 0),(.box 6 b6 0),(.box 5 b5 0),(.box 7 b7 0)])]⟩)) 6 (some ⟨b6,[(aF s12.2.1)]⟩)) 5 (some ⟨b5,(List.map aF s12.2.2)⟩)) 4 (some ⟨b4,[(.own 1204 g12 (s12.1.map bM).length)]⟩),upd (fun _=>none) 1204 (some ⟨g12,3,(s12.1.map bM),true⟩)⟩) (fun t=>fl12 = .next t) ?_ (fun s12 g12 hn12=>?_)
   ·refine az ?_
    refine bC (fun j12 s12 g12=>⟨57,upd (upd (upd (upd (upd (upd (upd (upd (upd (upd (fun _=>.any) 27 (ae (j12 : Int))) 26 (ae (x1.exprs.length : Int))) 25 (.list 56 (x1.exprs.map bg))) 20 (ae (j1 : Int))) 19 (ae (x18.length : Int))) 18 (.list 35 (x18.map ba))) 9 (.box 9 b9 0)) 7 (.box 7 b7 0)) 6 (.box 6 b6 0)) 4 (.box 4 b4 0),upd (upd (upd (upd (upd (fun _=>none) 9 (some ⟨b9,[(ae x1.kind),(.str x1.table),(.list 9 (x1.names.map aB)),(.list 56 (x1.exprs.map bg)),(.list 66 (x1.aggregates.map cn)),(.list 4 (x1.descending.map cz)),(ae x1.count),(ae x1.offset),(.list 35 (x1.inputs.map ba))]⟩)) 7 (some ⟨b7,[(.fn 108 [(.box 4 b4 0),(.box 6 b6 0),(.box 5 b5 0),(.box 7 b7 0)])]⟩)) 6 (some ⟨b6,[(aF s12.2.1)]⟩)) 5 (some ⟨b5,(List.map aF s12.2.2)⟩)) 4 (some ⟨b4,[(.own 1204 g12 (s12.1.map bM).length)]⟩),upd (fun _=>none) 1204 (some ⟨g12,3,(s12.1.map bM),true⟩)⟩) g1 H12 (Gh.le (aa (aa (aa (aa (aa (aa (aa (aa (aa (aa aj)))))))))) (aA rfl (iR.r) (aA rfl (iR.r) (aA rfl (iR.r) (aA rfl (iR.r) (aA rfl (iR.r) ah))))) (ay ag)) (fun j12 s12 g12 hj12 hr12=>?_)
    refine aw 1 tk rfl (ab ?_)
    refine aZ rfl (fun h=>?_) (fun h=>?_)
    ·have hl12 := co h
     obtain ⟨x12,fb12,hx12,H,hg12⟩ := rMc hl12 hr12
     refine av (ab (az (ab (ac (bs tk (zn j12) (bO eT hx12) ?_)))))
     refine ao tk rfl ?_
     refine bu tk fun b11=>?_
     refine aE tk ?_
     refine af (ac (aT tk ?_))
     refine aT tk ?_
     obtain ⟨x33,h33,H⟩ := ax H
     have s33 := kR b4 g12 b6 b5 b7 x12 s12.1 s12.2.1 s12.2.2 _ h33
     refine cw (st' := ⟨_,_,upd (upd (upd (upd (upd (upd (fun _=>none) 11 (some ⟨b11,[(ae x12.kind),(.str x12.name),(ae x12.index),(ae x12.value.kind),(ae x12.value.int),(.str x12.value.text),(.list 56 (x12.args.map bg))]⟩)) 9 (some ⟨b9,[(ae x1.kind),(.str x1.table),(.list 9 (x1.names.map aB)),(.list 56 (x1.exprs.map bg)),(.list 66 (x1.aggregates.map cn)),(.list 4 (x1.descending.map cz)),(ae x1.count),(ae x1.offset),(.list 35 (x1.inputs.map ba))]⟩)) 7 (some ⟨b7,[(.fn 108 [(.box 1000 b4 0),(.box 1001 b6 0),(.box 1002 b5 0),(.box 1003 b7 0)])]⟩)) 6 (some ⟨b6,[(aF s12.2.1)]⟩)) 5 (some ⟨b5,(List.map aF s12.2.2)⟩)) 4 (some ⟨b4,[(.own 1100 g12 (s12.1.map bM).length)]⟩),upd (fun _=>none) 1204 (some ⟨g12,3,(s12.1.map bM),true⟩)⟩) (Gh.le (bQ _ _) (aA rfl (iR.of2 (iG.cons (PLe2.own rfl) iG.nil)) (aA rfl (iR.r) (aA rfl (iR.r) (aA rfl (iR.of2 (iG.cons (PLe2.fn (iG.cons PLe2.boxT (iG.cons PLe2.boxT (iG.cons PLe2.boxT (iG.cons PLe2.boxT iG.nil))))) iG.nil)) (aA rfl (iR.r) (aA rfl (iR.r) ah)))))) (ay ag)) ?_
     refine ci (g := 108) rfl rfl rfl Tryz.call108 [(4,1000),(6,1001),(5,1002),(7,1003)] [(1204,1100)] rfl rfl rfl rfl (iR.of2 (iG.cons (PLe2.of_eq rfl) (iG.cons PLe2.boxT (iG.cons PLe2.boxT (iG.cons PLe2.boxT (iG.cons PLe2.boxT iG.nil)))))) (by rw [dp,dp,dp,dp,bS,bJ,bR]; rfl) s33 ?_
     rintro u33 H33h ⟨gz33_0,rfl,rfl⟩
     refine ⟨_,rfl,?_⟩
     refine cw (st' := ⟨_,_,upd (upd (upd (upd (upd (upd (fun _=>none) 11 (some ⟨b11,[(ae x12.kind),(.str x12.name),(ae x12.index),(ae x12.value.kind),(ae x12.value.int),(.str x12.value.text),(.list 56 (x12.args.map bg))]⟩)) 9 (some ⟨b9,[(ae x1.kind),(.str x1.table),(.list 9 (x1.names.map aB)),(.list 56 (x1.exprs.map bg)),(.list 66 (x1.aggregates.map cn)),(.list 4 (x1.descending.map cz)),(ae x1.count),(ae x1.offset),(.list 35 (x1.inputs.map ba))]⟩)) 7 (some ⟨b7,[(.fn 108 [(.box 4 b4 0),(.box 6 b6 0),(.box 5 b5 0),(.box 7 b7 0)])]⟩)) 6 (some ⟨b6,[(aF x33.2.1)]⟩)) 5 (some ⟨b5,(List.map aF x33.2.2)⟩)) 4 (some ⟨b4,[(.own 1204 gz33_0 (x33.1.map bM).length)]⟩),upd (fun _=>none) 1204 (some ⟨gz33_0,3,(x33.1.map bM),true⟩)⟩) (Gh.le (bQ _ _) (aA rfl (iR.of2 (iG.cons (PLe2.own rfl) iG.nil)) (aA rfl (iR.r) (aA rfl (iR.r) (aA rfl (iR.of2 (iG.cons (PLe2.fn (iG.cons PLe2.boxT (iG.cons PLe2.boxT (iG.cons PLe2.boxT (iG.cons PLe2.boxT iG.nil))))) iG.nil)) (aA rfl (iR.r) (aA rfl (iR.r) ah)))))) (ay ag)) ?_
     refine af (aR (bm 2 tk rfl ?_))
     obtain rfl := am H
     refine aK (x33.1,x33.2.1,x33.2.2) gz33_0 ⟨hl12,hg12⟩ (Gh.le (aa (aa (aa (aa (aa (aa (aa (aa (aa (aH (PLe.q (aU (by omega))) aj)))))))))) (aA rfl (iR.r) (aA rfl (iR.r) (aA rfl (iR.r) (aA rfl (iR.r) (aA rfl (iR.r) ah))))) (ay ag))
    have hn12 := rMd (cp h) hr12
    refine aO rfl ?_
    refine aQ s12 g12 hn12 (Gh.le (aa (aa (aa (aa (aa (aa (aa aj))))))) (aA rfl (iR.r) (aA rfl (iR.r) (aA rfl (iR.r) (aA rfl (iR.r) (aA rfl (iR.r) ah))))) (ay ag))
   have H := bn hn12 Hp12
   refine ab (ac (ao tk rfl (aT tk ?_)))
   refine aN tk (zl _) ?_
   refine ao tk rfl (af ?_)
   obtain ⟨fl13,H13,Hp13⟩ := ax H
   refine bP tk 36 rfl rfl (fun hz13 _=>?_)
   rw [zl] at hz13
   refine aY (τ := List Int × Bool × List Bool) (γ := OwnRef) (fun s13 g13=>⟨57,upd (upd (upd (upd (upd (upd (fun _=>.any) 20 (ae (j1 : Int))) 19 (ae (x18.length : Int))) 18 (.list 35 (x18.map ba))) 7 (.box 7 b7 0)) 6 (.box 6 b6 0)) 4 (.box 4 b4 0),upd (upd (upd (upd (fun _=>none) 7 (some ⟨b7,[(.fn 108 [(.box 4 b4 0),(.box 6 b6 0),(.box 5 b5 0),(.box 7 b7 0)])]⟩)) 6 (some ⟨b6,[(aF s13.2.1)]⟩)) 5 (some ⟨b5,(List.map aF s13.2.2)⟩)) 4 (some ⟨b4,[(.own 1204 g13 (s13.1.map bM).length)]⟩),upd (fun _=>none) 1204 (some ⟨g13,3,(s13.1.map bM),true⟩)⟩) (fun t=>fl13 = .next t) ?_ (fun s13 g13 hn13=>?_)
   ·refine az ?_
    refine bC (fun j13 s13 g13=>⟨57,upd (upd (upd (upd (upd (upd (upd (upd (upd (fun _=>.any) 38 (ae (j13 : Int))) 37 (ae (x1.aggregates.length : Int))) 36 (.list 66 (x1.aggregates.map cn))) 20 (ae (j1 : Int))) 19 (ae (x18.length : Int))) 18 (.list 35 (x18.map ba))) 7 (.box 7 b7 0)) 6 (.box 6 b6 0)) 4 (.box 4 b4 0),upd (upd (upd (upd (fun _=>none) 7 (some ⟨b7,[(.fn 108 [(.box 4 b4 0),(.box 6 b6 0),(.box 5 b5 0),(.box 7 b7 0)])]⟩)) 6 (some ⟨b6,[(aF s13.2.1)]⟩)) 5 (some ⟨b5,(List.map aF s13.2.2)⟩)) 4 (some ⟨b4,[(.own 1204 g13 (s13.1.map bM).length)]⟩),upd (fun _=>none) 1204 (some ⟨g13,3,(s13.1.map bM),true⟩)⟩) g12 H13 (Gh.le (aa (aa (aa (aa (aa (aa (aa (aa (aa aj))))))))) (aA rfl (iR.r) (aA rfl (iR.r) (aA rfl (iR.r) (aA rfl (iR.r) ah)))) (ay ag)) (fun j13 s13 g13 hj13 hr13=>?_)
    refine aw 1 tk rfl (ab ?_)
    refine aZ rfl (fun h=>?_) (fun h=>?_)
    ·have hl13 := co h
     obtain ⟨x13,fb13,hx13,H,hg13⟩ := rMc hl13 hr13
     refine av (ab (az (ab (ac ?_))))
     refine bs tk (zn j13) (bO (fun _=>rfl) hx13) ?_
     refine ao tk rfl ?_
     refine bu tk fun b13=>?_
     refine aE tk ?_
     refine af (ab (ac (ao tk rfl (aT tk ?_))))
     refine aN tk (zl _) ?_
     refine ao tk rfl (af ?_)
     obtain ⟨fl16,H16,Hp16⟩ := ax H
     refine bP tk 43 rfl rfl (fun hz16 _=>?_)
     rw [zl] at hz16
     refine aY (τ := List Int × Bool × List Bool) (γ := OwnRef) (fun s16 g16=>⟨57,upd (upd (upd (upd (upd (upd (upd (upd (upd (fun _=>.any) 38 (ae (j13 : Int))) 37 (ae (x1.aggregates.length : Int))) 36 (.list 66 (x1.aggregates.map cn))) 20 (ae (j1 : Int))) 19 (ae (x18.length : Int))) 18 (.list 35 (x18.map ba))) 7 (.box 7 b7 0)) 6 (.box 6 b6 0)) 4 (.box 4 b4 0),upd (upd (upd (upd (fun _=>none) 7 (some ⟨b7,[(.fn 108 [(.box 4 b4 0),(.box 6 b6 0),(.box 5 b5 0),(.box 7 b7 0)])]⟩)) 6 (some ⟨b6,[(aF s16.2.1)]⟩)) 5 (some ⟨b5,(List.map aF s16.2.2)⟩)) 4 (some ⟨b4,[(.own 1204 g16 (s16.1.map bM).length)]⟩),upd (fun _=>none) 1204 (some ⟨g16,3,(s16.1.map bM),true⟩)⟩) (fun t=>fl16 = .next t) ?_ (fun s16 g16 hn16=>?_)
     ·refine az ?_
      refine bC (fun j16 s16 g16=>⟨57,upd (upd (upd (upd (upd (upd (upd (upd (upd (upd (upd (upd (fun _=>.any) 45 (ae (j16 : Int))) 44 (ae (x13.args.length : Int))) 43 (.list 56 (x13.args.map bg))) 38 (ae (j13 : Int))) 37 (ae (x1.aggregates.length : Int))) 36 (.list 66 (x1.aggregates.map cn))) 20 (ae (j1 : Int))) 19 (ae (x18.length : Int))) 18 (.list 35 (x18.map ba))) 7 (.box 7 b7 0)) 6 (.box 6 b6 0)) 4 (.box 4 b4 0),upd (upd (upd (upd (fun _=>none) 7 (some ⟨b7,[(.fn 108 [(.box 4 b4 0),(.box 6 b6 0),(.box 5 b5 0),(.box 7 b7 0)])]⟩)) 6 (some ⟨b6,[(aF s16.2.1)]⟩)) 5 (some ⟨b5,(List.map aF s16.2.2)⟩)) 4 (some ⟨b4,[(.own 1204 g16 (s16.1.map bM).length)]⟩),upd (fun _=>none) 1204 (some ⟨g16,3,(s16.1.map bM),true⟩)⟩) g13 H16 (Gh.le (aa (aa (aa (aa (aa (aa (aa (aa (aa (aa (aa (aa aj)))))))))))) (aA rfl (iR.r) (aA rfl (iR.r) (aA rfl (iR.r) (aA rfl (iR.r) ah)))) (ay ag)) (fun j16 s16 g16 hj16 hr16=>?_)
      refine aw 1 tk rfl (ab ?_)
      refine aZ rfl (fun h=>?_) (fun h=>?_)
      ·have hl16 := co h
       obtain ⟨x16,fb16,hx16,H,hg16⟩ := rMc hl16 hr16
       refine av (ab (az (ab (ac (bs tk (zn j16) (bO eT hx16) ?_)))))
       refine ao tk rfl ?_
       refine bu tk fun b15=>?_
       refine aE tk ?_
       refine af (ac (aT tk ?_))
       refine aT tk ?_
       obtain ⟨x51,h51,H⟩ := ax H
       have s51 := kR b4 g16 b6 b5 b7 x16 s16.1 s16.2.1 s16.2.2 _ h51
       refine cw (st' := ⟨_,_,upd (upd (upd (upd (upd (fun _=>none) 15 (some ⟨b15,[(ae x16.kind),(.str x16.name),(ae x16.index),(ae x16.value.kind),(ae x16.value.int),(.str x16.value.text),(.list 56 (x16.args.map bg))]⟩)) 7 (some ⟨b7,[(.fn 108 [(.box 1000 b4 0),(.box 1001 b6 0),(.box 1002 b5 0),(.box 1003 b7 0)])]⟩)) 6 (some ⟨b6,[(aF s16.2.1)]⟩)) 5 (some ⟨b5,(List.map aF s16.2.2)⟩)) 4 (some ⟨b4,[(.own 1100 g16 (s16.1.map bM).length)]⟩),upd (fun _=>none) 1204 (some ⟨g16,3,(s16.1.map bM),true⟩)⟩) (Gh.le (bQ _ _) (aA rfl (iR.of2 (iG.cons (PLe2.own rfl) iG.nil)) (aA rfl (iR.r) (aA rfl (iR.r) (aA rfl (iR.of2 (iG.cons (PLe2.fn (iG.cons PLe2.boxT (iG.cons PLe2.boxT (iG.cons PLe2.boxT (iG.cons PLe2.boxT iG.nil))))) iG.nil)) (aA rfl (iR.r) ah))))) (ay ag)) ?_
       refine ci (g := 108) rfl rfl rfl Tryz.call108 [(4,1000),(6,1001),(5,1002),(7,1003)] [(1204,1100)] rfl rfl rfl rfl (iR.of2 (iG.cons (PLe2.of_eq rfl) (iG.cons PLe2.boxT (iG.cons PLe2.boxT (iG.cons PLe2.boxT (iG.cons PLe2.boxT iG.nil)))))) (by rw [dp,dp,dp,dp,bS,bJ,bR]; rfl) s51 ?_
       rintro u51 H51h ⟨gz51_0,rfl,rfl⟩
       refine ⟨_,rfl,?_⟩
       refine cw (st' := ⟨_,_,upd (upd (upd (upd (upd (fun _=>none) 15 (some ⟨b15,[(ae x16.kind),(.str x16.name),(ae x16.index),(ae x16.value.kind),(ae x16.value.int),(.str x16.value.text),(.list 56 (x16.args.map bg))]⟩)) 7 (some ⟨b7,[(.fn 108 [(.box 4 b4 0),(.box 6 b6 0),(.box 5 b5 0),(.box 7 b7 0)])]⟩)) 6 (some ⟨b6,[(aF x51.2.1)]⟩)) 5 (some ⟨b5,(List.map aF x51.2.2)⟩)) 4 (some ⟨b4,[(.own 1204 gz51_0 (x51.1.map bM).length)]⟩),upd (fun _=>none) 1204 (some ⟨gz51_0,3,(x51.1.map bM),true⟩)⟩) (Gh.le (bQ _ _) (aA rfl (iR.of2 (iG.cons (PLe2.own rfl) iG.nil)) (aA rfl (iR.r) (aA rfl (iR.r) (aA rfl (iR.of2 (iG.cons (PLe2.fn (iG.cons PLe2.boxT (iG.cons PLe2.boxT (iG.cons PLe2.boxT (iG.cons PLe2.boxT iG.nil))))) iG.nil)) (aA rfl (iR.r) ah))))) (ay ag)) ?_
       refine af (aR (bm 2 tk rfl ?_))
       obtain rfl := am H
       refine aK (x51.1,x51.2.1,x51.2.2) gz51_0 ⟨hl16,hg16⟩ (Gh.le (aa (aa (aa (aa (aa (aa (aa (aa (aa (aa (aa (aH (PLe.q (aU (by omega))) aj)))))))))))) (aA rfl (iR.r) (aA rfl (iR.r) (aA rfl (iR.r) (aA rfl (iR.r) ah)))) (ay ag))
      have hn16 := rMd (cp h) hr16
      refine aO rfl ?_
      refine aQ s16 g16 hn16 (Gh.le (aa (aa (aa (aa (aa (aa (aa (aa (aa aj))))))))) (aA rfl (iR.r) (aA rfl (iR.r) (aA rfl (iR.r) (aA rfl (iR.r) ah)))) (ay ag))
     have H := bn hn16 Hp16
     refine aR (bm 2 tk rfl ?_)
     obtain rfl := am H
     refine aK (s16.1,s16.2.1,s16.2.2) g16 ⟨hl13,hg13⟩ (Gh.le (aa (aa (aa (aa (aa (aa (aa (aa (aH (PLe.q (aU (by omega))) aj))))))))) (aA rfl (iR.r) (aA rfl (iR.r) (aA rfl (iR.r) (aA rfl (iR.r) ah)))) (ay ag))
    have hn13 := rMd (cp h) hr13
    refine aO rfl ?_
    refine aQ s13 g13 hn13 (Gh.le (aa (aa (aa (aa (aa (aa aj)))))) (aA rfl (iR.r) (aA rfl (iR.r) (aA rfl (iR.r) (aA rfl (iR.r) ah)))) (ay ag))
   have H := bn hn13 Hp13
   refine aR (bm 2 tk rfl ?_)
   obtain rfl := am H
   refine aK (s13.1,s13.2.1,s13.2.2) g13 ⟨hl1,hg1⟩ (Gh.le (aa (aa (aa (aa (aa (aH (PLe.q (aU (by omega))) aj)))))) (aA rfl (iR.r) (aA rfl (iR.r) (aA rfl (iR.r) (aA rfl (iR.r) ah)))) (ay ag))
  have hn1 := rMd (cp h) hr1
  refine aO rfl ?_
  refine aQ s1 g1 hn1 (Gh.le (aa (aa aj)) (aA rfl (iR.r) (aA rfl (iR.r) ah)) (ay ag))
 have H := bn hn1 Hp1
 refine ab (ab (ac (aT tk ?_)))
 refine af ?_
 refine aP rfl H (fun H=>?_) (fun H=>?_)
 ·refine aw 2 tk rfl ?_
  obtain rfl := am H
  refine aC tk rfl (ps := [(.val (.slice none 0 0)),(ae 13)]) ⟨_,_,rfl,rfl,_,_,rfl,rfl,rfl⟩ (PLe.of2 (PLe2.tup (iG.cons (PLe2.nil tk rfl) (iG.cons (PLe2.of_eq rfl) iG.nil))))
 refine av (ab (ac (aT tk ?_)))
 refine al 2 tk rfl (af ?_)
 obtain rfl := am H
 refine dX 2 rfl rfl rfl ?_
 refine aC tk rfl (ps := [(.list 3 (s1.1.map bM)),(ae 0)]) ⟨_,_,rfl,rfl,_,_,rfl,rfl,rfl⟩ (PLe.q rfl)
def fC (sA : List Int) (v : Int) : Option (Bool) :=
 ai (hZ sA v) fun x7 =>
 some (decide (x7 ≥ (0 : Int)))
theorem nu (sA : List Int) (v : Int) (r : Bool) (H : fC sA v = some r) :
  bc Tryz.prog 152 [(.list 3 (sA.map bM)),(ae v)] (aF r) := by
 unfold fC at H
 refine PH.aD Tryz.func152 Tryz.ntmps152 ?_
 refine aw 1 tk rfl (ab (ac (al 2 tk rfl ?_)))
 obtain ⟨x7,h7,H⟩ := ax H
 have s7 := oL sA v _ h7
 refine aq Tryz.call179 (iR.r) s7 ?_
 refine al 2 tk rfl (af ?_)
 obtain rfl := am H
 refine aC tk rfl (ps := [(aF (decide (x7 ≥ (0 : Int))))]) ⟨_,_,rfl,rfl,rfl⟩ (PLe.q rfl)
def iC (kind : Int) (a : List LCol) (b : List LCol) : Option ((List LCol) × Int) :=
 cond ((a.length : Int) != (b.length : Int))
  (some ([],7))
  (ai (aW (σ := List LCol) (ρ := ((List LCol) × Int)) (fun (j1 : Nat) (x1 : LCol) (s1 : List LCol) =>
   ai (aG b (j1 : Int)) fun (x29 : LCol) =>
   cond (x1.kind != x29.kind)
    (some (.ret ([],7)))
    (cond x1.nullable
     (ai (aG s1 (j1 : Int)) fun (x51 : LCol) =>
     bf (s1.set ((j1 : Int).toNat) (LCol.mk x51.name x51.kind true)) fun (y8 : List LCol) =>
     some (.next y8))
     (cond (kind == (6 : Int))
      (ai (aG b (j1 : Int)) fun (x46 : LCol) =>
      ai (aG s1 (j1 : Int)) fun (x51 : LCol) =>
      bf (s1.set ((j1 : Int).toNat) (LCol.mk x51.name x51.kind x46.nullable)) fun (y9 : List LCol) =>
      some (.next y9))
      (ai (aG s1 (j1 : Int)) fun (x51 : LCol) =>
      bf (s1.set ((j1 : Int).toNat) (LCol.mk x51.name x51.kind false)) fun (y10 : List LCol) =>
      some (.next y10))))) 0 a a) fun fl1=>fl1.thenR fun (s1 : List LCol) =>
  some (s1,0))
theorem qW (kind : Int) (a : List LCol) (b : List LCol) (r : (List LCol) × Int) (H : iC kind a b = some r) :
  bc Tryz.prog 157 [(ae kind),(.list 50 (a.map aJ)),(.list 50 (b.map aJ))] (.tup [(.list 50 (r.1.map aJ)),(ae r.2)]) := by
 unfold iC at H
 refine PH.aD Tryz.func157 Tryz.ntmps157 ?_
 refine aw 2 tk rfl (ab (ab (ac (ao tk rfl (aN tk (zl _) ?_)))))
 refine ao tk rfl (aN tk (zl _) ?_)
 refine ao tk rfl (af ?_)
 refine aP rfl H (fun H=>?_) (fun H=>?_)
 ·refine aw 2 tk rfl ?_
  obtain rfl := am H
  refine aC tk rfl (ps := [(.val (.slice none 0 0)),(ae 7)]) ⟨_,_,rfl,rfl,_,_,rfl,rfl,rfl⟩ (PLe.of2 (PLe2.tup (iG.cons (PLe2.nil tk rfl) (iG.cons (PLe2.of_eq rfl) iG.nil))))
 refine av (ab (ac (ao tk rfl ?_)))
 have s16 := pf (m := 16) a
 refine ki Tryz.call155 (iR.r) s16 (fun g16=>?_)
 refine ao tk rfl (af (ab (ab (ac (ao tk rfl (aN tk (zl _) ?_))))))
 refine ao tk rfl (af ?_)
 obtain ⟨fl1,H1,Hp1⟩ := ax H
 refine bP tk 1 rfl rfl (fun hz1 _=>?_)
 rw [zl] at hz1
 refine aY (τ := List LCol) (γ := OwnRef) (fun s1 g1=>⟨55,upd (fun _=>.any) 8 (.own 16 g1 (s1.map aJ).length),fun _=>none,upd (fun _=>none) 16 (some ⟨g1,50,(s1.map aJ),true⟩)⟩) (fun t=>fl1 = .next t) ?_ (fun s1 g1 hn1=>?_)
 ·refine az ?_
  refine bC (fun j1 s1 g1=>⟨55,upd (upd (upd (upd (upd (upd (fun _=>.any) 19 (ae (j1 : Int))) 18 (ae (a.length : Int))) 8 (.own 16 g1 (s1.map aJ).length)) 2 (.list 50 (b.map aJ))) 1 (.list 50 (a.map aJ))) 0 (ae kind),fun _=>none,upd (fun _=>none) 16 (some ⟨g1,50,(s1.map aJ),true⟩)⟩) g16 H1 (Gh.le (aa (aa (aa (aa (aa (aa aj)))))) ah (ay ag)) (fun j1 s1 g1 hj1 hr1=>?_)
  refine aw 1 tk rfl (ab ?_)
  refine aZ rfl (fun h=>?_) (fun h=>?_)
  ·have hl1 := co h
   obtain ⟨x1,fb1,hx1,H,hg1⟩ := rMc hl1 hr1
   refine av (ab (az (aw 2 tk rfl (ab (ab ?_)))))
   refine cK (tag := 16) rfl (fun ho16=>?_)
   refine bo tk mok ⟨false,false,[]⟩ [0,1,2,3,4,5,6,7,8,9,10] rfl (by decide +kernel) rfl (aL 2 rfl ?_)
   refine cj (zn j1) (bO (fun _=>rfl) hx1) ?_
   refine aL 4 rfl ?_
   obtain ⟨x29,k29,H⟩ := aX H
   refine cj k29.1 (aI (fun _=>rfl) k29.2) ?_
   refine aL 3 rfl (bh ?_)
   refine aP rfl H (fun H=>?_) (fun H=>?_)
   ·refine aw 2 tk rfl ?_
    obtain rfl := am H
    have e1 : fl1 = .ret _ := hg1
    subst e1
    obtain rfl := bp Hp1
    refine aC tk rfl (ps := [(.val (.slice none 0 0)),(ae 7)]) ⟨_,_,rfl,rfl,_,_,rfl,rfl,rfl⟩ (PLe.of2 (PLe2.tup (iG.cons (PLe2.nil tk rfl) (iG.cons (PLe2.of_eq rfl) iG.nil))))
   refine av (ac (al 4 tk rfl ?_))
   refine bs tk (zn j1) (bO (fun _=>rfl) hx1) ?_
   refine al 3 tk rfl ?_
   refine bF rfl rfl rfl H (fun H=>?_) (fun H=>?_)
   ·refine al 10 tk rfl ?_
    obtain ⟨x51,k51,H⟩ := aX H
    refine jW (tag := 16) rfl (fun ho16=>?_)
    refine jM tk ⟨k51.1,(bl k51.2)⟩ (bi ho16 k51.2) ?_
    refine ao tk rfl ?_
    obtain ⟨y8,hy8,H⟩ := bw H
    refine lM tk rfl rfl rfl rfl rfl rfl rfl rfl (by rw [zl]; exact (zg.1 k51.2).1) (PLe.refl _ _) rfl rfl rfl rfl (by decide) (bG (fun _=>rfl) k51.2 rfl hy8) ?_
    refine af (aR (bm 2 tk rfl ?_))
    obtain rfl := am H
    refine aK y8 g1 ⟨hl1,hg1⟩ (Gh.le (aa (aa (aa (aH (PLe.of2 (PLe2.of_eq (congrArg (PV.own 16 g1) (bq (f := aJ) hy8)))) (aa (aH (PLe.q (aU (by omega))) aj)))))) ah (ay ag))
   refine al 3 tk rfl ?_
   refine bF rfl rfl rfl H (fun H=>?_) (fun H=>?_)
   ·refine al 2 tk rfl ?_
    obtain ⟨x46,k46,H⟩ := aX H
    refine bs tk k46.1 (aI (fun _=>rfl) k46.2) ?_
    refine al 4 tk rfl ?_
    obtain ⟨x51,k51,H⟩ := aX H
    refine jW (tag := 16) rfl (fun ho16=>?_)
    refine jM tk ⟨k51.1,(bl k51.2)⟩ (bi ho16 k51.2) ?_
    refine ao tk rfl ?_
    obtain ⟨y9,hy9,H⟩ := bw H
    refine lM tk rfl rfl rfl rfl rfl rfl rfl rfl (by rw [zl]; exact (zg.1 k51.2).1) (PLe.refl _ _) rfl rfl rfl rfl (by decide) (bG (fun _=>rfl) k51.2 rfl hy9) ?_
    refine af (aR (bm 2 tk rfl ?_))
    obtain rfl := am H
    refine aK y9 g1 ⟨hl1,hg1⟩ (Gh.le (aa (aa (aa (aH (PLe.of2 (PLe2.of_eq (congrArg (PV.own 16 g1) (bq (f := aJ) hy9)))) (aa (aH (PLe.q (aU (by omega))) aj)))))) ah (ay ag))
   refine al 7 tk rfl ?_
   obtain ⟨x51,k51,H⟩ := aX H
   refine jW (tag := 16) rfl (fun ho16=>?_)
   refine jM tk ⟨k51.1,(bl k51.2)⟩ (bi ho16 k51.2) ?_
   refine ao tk rfl ?_
   obtain ⟨y10,hy10,H⟩ := bw H
   refine lM tk rfl rfl rfl rfl rfl rfl rfl rfl (by rw [zl]; exact (zg.1 k51.2).1) (PLe.refl _ _) rfl rfl rfl rfl (by decide) (bG (fun _=>rfl) k51.2 rfl hy10) ?_
   refine af (aR (bm 2 tk rfl ?_))
   obtain rfl := am H
   refine aK y10 g1 ⟨hl1,hg1⟩ (Gh.le (aa (aa (aa (aH (PLe.of2 (PLe2.of_eq (congrArg (PV.own 16 g1) (bq (f := aJ) hy10)))) (aa (aH (PLe.q (aU (by omega))) aj)))))) ah (ay ag))
  have hn1 := rMd (cp h) hr1
  refine aO rfl ?_
  refine aQ s1 g1 hn1 (Gh.le (aa aj) ah (ay ag))
 have H := cl hn1 Hp1
 refine aw 3 tk rfl ?_
 obtain rfl := am H
 refine dX 6 rfl rfl rfl ?_
 refine aC tk rfl (ps := [(.list 50 (s1.map aJ)),(ae 0)]) ⟨_,_,rfl,rfl,_,_,rfl,rfl,rfl⟩ (PLe.q rfl)
def cG (sA : List (List UInt8)) (v : List UInt8) : Option (Bool) :=
 ai (dV sA v) fun x7 =>
 some (decide (x7 ≥ (0 : Int)))
theorem js (sA : List (List UInt8)) (v : List UInt8) (r : Bool) (H : cG sA v = some r) :
  bc Tryz.prog 48 [(.list 9 (sA.map aB)),(.str v)] (aF r) := by
 unfold cG at H
 refine PH.aD Tryz.func48 Tryz.ntmps48 ?_
 refine aw 1 tk rfl (ab (ac (al 2 tk rfl ?_)))
 obtain ⟨x7,h7,H⟩ := ax H
 have s7 := my sA v _ h7
 refine aq Tryz.call79 (iR.r) s7 ?_
 refine al 2 tk rfl (af ?_)
 obtain rfl := am H
 refine aC tk rfl (ps := [(aF (decide (x7 ≥ (0 : Int))))]) ⟨_,_,rfl,rfl,rfl⟩ (PLe.q rfl)
theorem lj (xs : List (List UInt8)) (v : (List UInt8)) : cG xs v = some (xs.any (fun x1=>(v == x1))) := by
 unfold cG
 rw [lT,bPs,iD]
def cx (sA : List LCol) (f : LCol → Option (Bool)) : Option (Bool) :=
 ai (dc sA f) fun x7 =>
 some (decide (x7 ≥ (0 : Int)))
theorem jO {g_f : FuncId} {caps_f : List PV} (sA : List LCol) (f : LCol → Option (Bool)) (hg_f : ∀ (vs : Array Value) (w : World),(callFunc g_f vs).run Tryz.prog w = .ok (.enter g_f vs) w) (hp_f : ∀ a0 r,f a0 = some r → bc Tryz.prog g_f ((.agg (aJ a0)) :: caps_f) (aF r)) (r : Bool) (H : cx sA f = some r) :
  bc Tryz.prog 112 [(.list 50 (sA.map aJ)),(.fn g_f caps_f)] (aF r) := by
 unfold cx at H
 refine PH.aD Tryz.func112 Tryz.ntmps112 ?_
 refine aw 1 tk rfl (ab (ac (al 2 tk rfl ?_)))
 obtain ⟨x7,h7,H⟩ := ax H
 have s7 := gO sA f hg_f hp_f _ h7
 refine aq Tryz.call43 (iR.r) s7 ?_
 refine al 2 tk rfl (af ?_)
 obtain rfl := am H
 refine aC tk rfl (ps := [(aF (decide (x7 ≥ (0 : Int))))]) ⟨_,_,rfl,rfl,rfl⟩ (PLe.q rfl)
def dY (t : LTable) (row : Rq) : Option (Int) :=
 cond ((row.length : Int) != (t.columns.length : Int))
  (some 3)
  (ai (aW (σ := Unit) (ρ := (Int)) (fun (j1 : Nat) (x1 : LVal) (_ : Unit) =>
   bf (dQ x1) fun x22 =>
   cond (x22 != (0 : Int))
    (some (.ret x22))
    (ai (
     cond (x1.kind == (0 : Int))
      (ai (aG t.columns (j1 : Int)) fun (x33 : LCol) =>
      some (!x33.nullable))
      (some false)) fun (t3 : Bool) =>
    cond t3
     (some (.ret 8))
     (cond (x1.kind != (0 : Int))
      (ai (aG t.columns (j1 : Int)) fun (x47 : LCol) =>
      cond (x1.kind != x47.kind)
       (some (.ret 7))
       (some (.next ())))
      (some (.next ()))))) 0 row ()) fun fl1=>fl1.thenR fun (_ : Unit) =>
  some 0)
theorem pt (t : LTable) (row : Rq) (r : Int) (H : dY t row = some r) :
  bc Tryz.prog 84 [(.agg (bv t)),(.list 53 (row.map ak))] (ae r) := by
 unfold dY at H
 refine PH.aD Tryz.func84 Tryz.ntmps84 ?_
 refine ab (ac (aV ?_))
 refine ao tk rfl (af (ab (ab (ac (ao tk rfl (aN tk (zl _) ?_))))))
 refine al 2 tk rfl (aN tk (zl _) ?_)
 refine ao tk rfl (af ?_)
 refine aP rfl H (fun H=>?_) (fun H=>?_)
 ·refine aw 1 tk rfl ?_
  obtain rfl := am H
  refine aC tk rfl (ps := [(ae 3)]) ⟨_,_,rfl,rfl,rfl⟩ (PLe.q rfl)
 refine av (ab (ab (ac (ao tk rfl (aN tk (zl _) ?_)))))
 refine ao tk rfl (af ?_)
 obtain ⟨fl1,H1,Hp1⟩ := ax H
 refine bP tk 14 rfl rfl (fun hz1 _=>?_)
 rw [zl] at hz1
 refine aY (τ := Unit) (γ := Unit) (fun s1 g1=>⟨53,fun _=>.any,fun _=>none,fun _=>none⟩) (fun t=>fl1 = .next t) ?_ (fun s1 g1 hn1=>?_)
 ·refine az ?_
  refine bC (fun j1 s1 g1=>⟨53,upd (upd (upd (upd (fun _=>.any) 16 (ae (j1 : Int))) 15 (ae (row.length : Int))) 14 (.list 53 (row.map ak))) 2 (.ptr [(.str t.name),(.list 50 (t.columns.map aJ)),(.list 3 (t.primaryKey.map bM))]),fun _=>none,fun _=>none⟩) () H1 (Gh.le (aa (aa (aa (aa aj)))) ah ag) (fun j1 s1 g1 hj1 hr1=>?_)
  refine aw 1 tk rfl (ab ?_)
  refine aZ rfl (fun h=>?_) (fun h=>?_)
  ·have hl1 := co h
   obtain ⟨x1,fb1,hx1,H,hg1⟩ := rMc hl1 hr1
   refine av (ab (az (ab (ac (ao tk rfl ?_)))))
   refine bs tk (zn j1) (bO (fun _=>rfl) hx1) ?_
   refine ao tk rfl ?_
   refine bu tk fun b6=>?_
   refine ao tk rfl (aE tk ?_)
   refine af (ab (ab (ac (aT tk ?_))))
   obtain ⟨x22,h22,H⟩ := bw H
   have s22 := oG x1
   rw [h22] at s22
   refine aq Tryz.call105 (iR.r) s22 ?_
   refine ao tk rfl (af (aw 2 tk rfl ?_))
   refine aP rfl H (fun H=>?_) (fun H=>?_)
   ·refine aw 2 tk rfl ?_
    obtain rfl := am H
    have e1 : fl1 = .ret _ := hg1
    subst e1
    obtain rfl := bp Hp1
    refine aC tk rfl (ps := [(ae x22)]) ⟨_,_,rfl,rfl,rfl⟩ (PLe.q rfl)
   refine av (ab (ab ?_))
   obtain ⟨fl3,H3,Hp3⟩ := ax H
   refine aY (τ := Bool) (γ := Unit) (fun t3 g3=>⟨53,upd (upd (upd (upd (upd (upd (upd (fun _=>.any) 37 (aF t3)) 16 (ae (j1 : Int))) 15 (ae (row.length : Int))) 14 (.list 53 (row.map ak))) 6 (.box 6 b6 0)) 5 (ae (j1 : Int))) 2 (.ptr [(.str t.name),(.list 50 (t.columns.map aJ)),(.list 3 (t.primaryKey.map bM))]),upd (fun _=>none) 6 (some ⟨b6,[(ae x1.kind),(ae x1.int),(.str x1.text)]⟩),fun _=>none⟩) (fun t=>t = fl3) ?_ (fun t3 g3 hn3=>?_)
   ·have H := H3
    refine ac (ao tk rfl (aT tk ?_))
    refine al 2 tk rfl ?_
    refine bF rfl rfl rfl H (fun H=>?_) (fun H=>?_)
    ·refine al 3 tk rfl ?_
     obtain ⟨x33,k33,H⟩ := aX H
     refine bs tk k33.1 (aI (fun _=>rfl) k33.2) ?_
     refine al 4 tk rfl (af ?_)
     obtain rfl := am H
     refine aQ (!x33.nullable) () rfl (Gh.le (aa (aa (aa (aa (aa (aa (aa aj))))))) (aA rfl (iR.r) ah) ag)
    refine al 8 tk rfl (af ?_)
    obtain rfl := am H
    refine aQ false () rfl (Gh.le (aa (aa (aa (aa (aa (aa (aa aj))))))) (aA rfl (iR.r) ah) ag)
   subst hn3
   have H := Hp3
   refine aP rfl H (fun H=>?_) (fun H=>?_)
   ·refine aw 1 tk rfl ?_
    obtain rfl := am H
    have e1 : fl1 = .ret _ := hg1
    subst e1
    obtain rfl := bp Hp1
    refine aC tk rfl (ps := [(ae 8)]) ⟨_,_,rfl,rfl,rfl⟩ (PLe.q rfl)
   refine av (ab (bo tk mok ⟨true,false,[45,49]⟩ [0,1,2,3,4,5,6,7,8,9,10,11,12,13] rfl (by decide +kernel) rfl (cq rfl (cC ?_))))
   refine aL 2 rfl ?_
   refine ik H (fun H=>?_) (fun H=>?_)
   ·refine cq rfl (cC ?_)
    refine aL 3 rfl ?_
    obtain ⟨x47,k47,H⟩ := aX H
    refine cj k47.1 (aI (fun _=>rfl) k47.2) ?_
    refine aL 4 rfl (bh ?_)
    refine aP rfl H (fun H=>?_) (fun H=>?_)
    ·refine aw 1 tk rfl ?_
     obtain rfl := am H
     have e1 : fl1 = .ret _ := hg1
     subst e1
     obtain rfl := bp Hp1
     refine aC tk rfl (ps := [(ae 7)]) ⟨_,_,rfl,rfl,rfl⟩ (PLe.q rfl)
    refine av (aR (bm 2 tk rfl ?_))
    obtain rfl := am H
    refine aK () () ⟨hl1,hg1⟩ (Gh.le (aa (aa (aa (aH (PLe.q (aU (by omega))) aj)))) ah ag)
   refine aL 10 rfl (bh (bL rfl (av (aR (bm 2 tk rfl ?_)))))
   obtain rfl := am H
   refine aK () () ⟨hl1,hg1⟩ (Gh.le (aa (aa (aa (aH (PLe.q (aU (by omega))) aj)))) ah ag)
  have hn1 := rMd (cp h) hr1
  refine aO rfl ?_
  refine aQ s1 g1 hn1 (Gh.le aj ah ag)
 have H := cl hn1 Hp1
 refine aw 1 tk rfl ?_
 obtain rfl := am H
 refine aC tk rfl (ps := [(ae 0)]) ⟨_,_,rfl,rfl,rfl⟩ (PLe.q rfl)
def jV (a : List UInt8) (b : List UInt8) : Int :=
 bf (fv a b) fun x7 =>
 x7
theorem rH (a : List UInt8) (b : List UInt8) :
  bc Tryz.prog 150 [(.str a),(.str b)] (ae (jV a b)) := by
 obtain ⟨r,H⟩ : ∃ r,jV a b = r := ⟨_,rfl⟩
 rw [H]
 unfold jV at H
 refine PH.aD Tryz.func150 Tryz.ntmps150 ?_
 refine aw 1 tk rfl (ab (ac (al 2 tk rfl ?_)))
 obtain ⟨x7,h7,H⟩ := bw H
 have s7 := lG a b
 rw [h7] at s7
 refine aq Tryz.call178 (iR.r) s7 ?_
 refine ao tk rfl (af ?_)
 subst H
 refine aC tk rfl (ps := [(ae x7)]) ⟨_,_,rfl,rfl,rfl⟩ (PLe.q rfl)
def cr (slices : Rz) : Option (Rq) :=
 ai (aW (σ := Int) (ρ := Empty) (fun (_ : Nat) (x1 : Rq) (s1 : Int) =>
  cond (decide ((IntKind.i64.wrap (s1 + (x1.length : Int))) < (0 : Int)))
   (none)
   (some (.next (IntKind.i64.wrap (s1 + (x1.length : Int)))))) 0 slices 0) fun fl1=>fl1.thenP fun (s1 : Int) =>
 ai (oW 32 s1) fun (_ : Unit) =>
 ai (aW (σ := Rq) (ρ := Empty) (fun (_ : Nat) (x2 : Rq) (s2 : Rq) =>
  ai (dT 32 s2 x2) fun (x33 : Rq) =>
  some (.next x33)) 0 slices []) fun fl2=>fl2.thenP fun (s2 : Rq) =>
 some s2
theorem ja {m : Nat} (slices : Rz) (r : Rq) (H : cr slices = some r) :
  iU Tryz.prog 168 [(.list 51 (slices.map (au 53 ak)))] (lh m 53 (r.map ak)) := by
 unfold cr at H
 refine PH.aD Tryz.func168 Tryz.ntmps168 ?_
 refine aw 1 tk rfl (aw 1 tk rfl (ab (ab (ac (ao tk rfl (aN tk (zl _) ?_))))))
 refine ao tk rfl (af ?_)
 obtain ⟨fl1,H1,Hp1⟩ := ax H
 refine bP tk 9 rfl rfl (fun hz1 _=>?_)
 rw [zl] at hz1
 refine aY (τ := Int) (γ := Unit) (fun s1 g1=>⟨36,upd (upd (fun _=>.any) 3 (ae s1)) 0 (.list 51 (slices.map (au 53 ak))),fun _=>none,fun _=>none⟩) (fun t=>fl1 = .next t) ?_ (fun s1 g1 hn1=>?_)
 ·refine az ?_
  refine bC (fun j1 s1 g1=>⟨36,upd (upd (upd (upd (upd (fun _=>.any) 11 (ae (j1 : Int))) 10 (ae (slices.length : Int))) 9 (.list 51 (slices.map (au 53 ak)))) 3 (ae s1)) 0 (.list 51 (slices.map (au 53 ak))),fun _=>none,fun _=>none⟩) () H1 (Gh.le (aa (aa (aa (aa (aa aj))))) ah ag) (fun j1 s1 g1 hj1 hr1=>?_)
  refine aw 1 tk rfl (ab ?_)
  refine aZ rfl (fun h=>?_) (fun h=>?_)
  ·have hl1 := co h
   obtain ⟨x1,fb1,hx1,H,hg1⟩ := rMc hl1 hr1
   refine av (ab (az (ab (ac ?_))))
   refine bs tk (zn j1) (bO (fun _=>rfl) hx1) ?_
   refine al 2 tk rfl (af (ab (ac (al 2 tk rfl (aN tk (zl _) ?_)))))
   refine al 2 tk rfl (af (aw 2 tk rfl ?_))
   refine aP rfl H (fun H=>?_) (fun H=>?_)
   ·cases H
   refine av (aR (bm 2 tk rfl ?_))
   obtain rfl := am H
   refine aK (IntKind.i64.wrap (s1 + (x1.length : Int))) () ⟨hl1,hg1⟩ (Gh.le (aa (aa (aa (aa (aH (PLe.q (aU (by omega))) aj))))) ah ag)
  have hn1 := rMd (cp h) hr1
  refine aO rfl ?_
  refine aQ s1 g1 hn1 (Gh.le (aa (aa aj)) ah ag)
 have H := bn hn1 Hp1
 refine ab (ac (ao tk rfl ?_))
 obtain ⟨_,h24,H⟩ := ax H
 have s24 := grow_186 (m := 24) s1 h24
 refine ki Tryz.call186 (iR.r) s24 (fun g24=>?_)
 refine ao tk rfl (af (ab (ab (ac (ao tk rfl (aN tk (zl _) ?_))))))
 refine ao tk rfl (af ?_)
 obtain ⟨fl2,H2,Hp2⟩ := ax H
 refine bP tk 25 rfl rfl (fun hz2 _=>?_)
 rw [zl] at hz2
 refine aY (τ := Rq) (γ := OwnRef) (fun s2 g2=>⟨36,upd (fun _=>.any) 6 (.own 24 g2 (s2.map ak).length),fun _=>none,upd (fun _=>none) 24 (some ⟨g2,53,(s2.map ak),true⟩)⟩) (fun t=>fl2 = .next t) ?_ (fun s2 g2 hn2=>?_)
 ·refine az ?_
  refine bC (fun j2 s2 g2=>⟨36,upd (upd (upd (upd (fun _=>.any) 27 (ae (j2 : Int))) 26 (ae (slices.length : Int))) 25 (.list 51 (slices.map (au 53 ak)))) 6 (.own 24 g2 (s2.map ak).length),fun _=>none,upd (fun _=>none) 24 (some ⟨g2,53,(s2.map ak),true⟩)⟩) g24 H2 (Gh.le (aa (aa (aa (aa aj)))) ah (ay ag)) (fun j2 s2 g2 hj2 hr2=>?_)
  refine aw 1 tk rfl (ab ?_)
  refine aZ rfl (fun h=>?_) (fun h=>?_)
  ·have hl2 := co h
   obtain ⟨x2,fb2,hx2,H,hg2⟩ := rMc hl2 hr2
   refine av (ab (az (ab (ac ?_))))
   refine bs tk (zn j2) (bO (fun _=>rfl) hx2) ?_
   refine al 2 tk rfl (af (ac (al 2 tk rfl ?_)))
   obtain ⟨x33,h33,H⟩ := ax H
   have k33 := cY h33
   refine cZ (rows2' := List.map ak x2) (rows' := List.map ak x33) tk rfl rfl rfl rfl rfl rfl rfl rfl rfl rfl rfl rfl rfl (kj.refl _) (et k33.1) (ew k33.2.1) (ez k33.2.2) fun g33=>?_
   refine ao tk rfl (af (aR (bm 2 tk rfl ?_)))
   obtain rfl := am H
   refine aK x33 g33 ⟨hl2,hg2⟩ (Gh.le (aa (aa (aa (aH (PLe.q (aU (by omega))) aj)))) ah (ay ag))
  have hn2 := rMd (cp h) hr2
  refine aO rfl ?_
  refine aQ s2 g2 hn2 (Gh.le (aa aj) ah (ay ag))
 have H := bn hn2 Hp2
 refine aw 2 tk rfl ?_
 obtain rfl := am H
 refine jX tk rfl
def jb (y : Rq) (c0 : Rq) : Option (Bool) :=
 ai (cX c0 y) fun x6 =>
 some x6
theorem W_query_less_1 (y : Rq) (c0 : Rq) (r : Bool) (H : jb y c0 = some r) :
  bc Tryz.prog 169 [(.list 53 (y.map ak)),(.ptr [(.list 53 (c0.map ak))])] (aF r) := by
 unfold jb at H
 refine PH.aD Tryz.func169 Tryz.ntmps169 ?_
 refine aw 1 tk rfl (ab (ac (al 2 tk rfl ?_)))
 obtain ⟨x6,h6,H⟩ := ax H
 have s6 := gI c0 y _ h6
 refine aq Tryz.call24 (iR.r) s6 ?_
 refine ao tk rfl (af ?_)
 obtain rfl := am H
 refine aC tk rfl (ps := [(aF x6)]) ⟨_,_,rfl,rfl,rfl⟩ (PLe.q rfl)
def dH (sA : Rz) (del : Rq → Option (Bool)) : Option Rz :=
 ai (cf sA del) fun x10 =>
 ai (cE (x10.2.length = sA.length) ()) fun (_ : Unit) =>
 cond (x10.1 == (-1))
  (some x10.2)
  (ai (whileM (σ := Rz × Int × Int) (ρ := Empty) (fun (s1 : Rz × Int × Int) =>
   cond (decide (s1.2.2 < (s1.1.length : Int)))
    (ai (aG s1.1 s1.2.2) fun (x24 : Rq) =>
    ai (del x24) fun x28 =>
    cond (!x28)
     (ai (aG s1.1 s1.2.1) fun (_ : Rq) =>
     bf (s1.1.set s1.2.1.toNat x24) fun (y4 : Rz) =>
     some (.next (y4,(IntKind.i64.wrap (s1.2.1 + (1 : Int))),(IntKind.i64.wrap (s1.2.2 + (1 : Int))))))
     (some (.next (s1.1,s1.2.1,(IntKind.i64.wrap (s1.2.2 + (1 : Int)))))))
    (some (.brk (s1.1,s1.2.1,s1.2.2)))) (x10.2,x10.1,(IntKind.i64.wrap (x10.1 + (1 : Int))))) fun fl1=>fl1.thenP fun (s1 : Rz × Int × Int) =>
  ai (nw s1.1 s1.2.1) fun (y5 : Rz) =>
  ai (nw y5 s1.2.1) fun (y6 : Rz) =>
  some y6)
theorem kM (g_sA : OwnRef) {g_del : FuncId} {caps_del : List PV} (sA : Rz) (del : Rq → Option (Bool)) (hg_del : ∀ (vs : Array Value) (w : World),(callFunc g_del vs).run Tryz.prog w = .ok (.enter g_del vs) w) (hp_del : ∀ a0 r,del a0 = some r → bc Tryz.prog g_del ((.list 53 (a0.map ak)) :: caps_del) (aF r)) (r : Rz) (H : dH sA del = some r) :
  PH Tryz.prog 135 [(.own 0 g_sA (sA.map (au 53 ak)).length),(.fn g_del caps_del)] ⟨fun _=>none,upd (fun _=>none) 0 (some ⟨g_sA,51,(sA.map (au 53 ak)),true⟩)⟩ (fun u H=>u = .own 0 g_sA (r.map (au 53 ak)).length ∧ H = ⟨fun _=>none,upd (fun _=>none) 0 (some ⟨g_sA,51,(r.map (au 53 ak)),true⟩)⟩) := by
 unfold dH at H
 refine PH.aD Tryz.func135 Tryz.ntmps135 ?_
 refine aw 1 tk rfl (ab (ac (al 2 tk rfl ?_)))
 obtain ⟨x10,h10,H⟩ := ax H
 have s10 := fN g_sA sA del hg_del hp_del _ h10
 obtain ⟨_,q10_0,H⟩ := ax H
 have l10_0 := (bI q10_0).1
 have z10_0 : (List.map (au 53 ak) sA).length = (List.map (au 53 ak) x10.2).length := by simpa using (l10_0).symm
 refine ci (g := 22) rfl rfl rfl Tryz.call22 [] [(0,0)] rfl rfl rfl rfl (iR.of2 (iG.cons (PLe2.own rfl) (iG.cons (PLe2.of_eq rfl) iG.nil))) (by rw [bS,bJ,bR]; rfl) s10 ?_
 rintro u10 H10h ⟨rfl,rfl⟩
 refine ⟨_,rfl,?_⟩
 refine cw (st' := ⟨_,_,fun _=>none,upd (fun _=>none) 0 (some ⟨g_sA,51,(x10.2.map (au 53 ak)),true⟩)⟩) (Gh.le (bQ _ _) ah (ay ag)) ?_
 refine ao tk rfl (af (ab (aw 2 tk rfl ?_)))
 refine aP rfl H (fun H=>?_) (fun H=>?_)
 ·refine aw 2 tk rfl ?_
  obtain rfl := am H
  refine dq (st' := ⟨42,upd (fun _=>.any) 4 (.own 0 g_sA (sA.map (au 53 ak)).length),fun _=>none,upd (fun _=>none) 0 (some ⟨g_sA,51,(x10.2.map (au 53 ak)),true⟩)⟩) (Gh.le (aa aj) ah (ay ag)) ?_
  refine eH tk rfl (ps := [(.own 0 g_sA (sA.map (au 53 ak)).length)]) ⟨_,_,rfl,rfl,rfl⟩ (PLe.of2 (PLe2.own z10_0)) ⟨rfl,rfl⟩
 refine av (ab (aw 3 tk rfl ?_))
 obtain ⟨fl1,H1,Hp1⟩ := ax H
 refine aY (τ := Rz × Int × Int) (γ := Unit) (fun s1 g1=>⟨42,upd (upd (fun _=>.any) 5 (ae s1.2.1)) 0 (.own 0 g_sA (s1.1.map (au 53 ak)).length),fun _=>none,upd (fun _=>none) 0 (some ⟨g_sA,51,(s1.1.map (au 53 ak)),true⟩)⟩) (fun t=>fl1 = .next t) ?_ (fun s1 g1 hn1=>?_)
 ·refine az ?_
  refine cA (fun s1 g1=>⟨42,upd (upd (upd (upd (fun _=>.any) 6 (ae s1.2.2)) 5 (ae s1.2.1)) 1 (.fn g_del caps_del)) 0 (.own 0 g_sA (s1.1.map (au 53 ak)).length),fun _=>none,upd (fun _=>none) 0 (some ⟨g_sA,51,(s1.1.map (au 53 ak)),true⟩)⟩) () H1 (Gh.le (aH (PLe.of2 (PLe2.of_eq (congrArg (PV.own 0 g_sA) z10_0))) (aa (aa (aa aj)))) ah (ay ag)) (fun m1 s1 g1 hr1=>?_)
  obtain ⟨fb1,H,hg1⟩ := bZ hr1
  refine ab (ab (ac (al 2 tk rfl (ip tk (zl _) ?_))))
  refine ao tk rfl (af ?_)
  refine aP rfl H (fun H=>?_) (fun H=>?_)
  ·refine av (ab (az (ab (ac (al 2 tk rfl ?_)))))
   obtain ⟨x24,k24,H⟩ := aX H
   refine jW (tag := 0) rfl (fun ho0=>?_)
   refine jM tk ⟨k24.1,(bl k24.2)⟩ (bi ho0 k24.2) ?_
   refine oF tk rfl rfl rfl rfl rfl rfl rfl (aI (fun _=>rfl) k24.2) rfl rfl ?_
   refine ao tk rfl (af (ab (ac (al 2 tk rfl ?_))))
   obtain ⟨x28,h28,H⟩ := ax H
   refine aq hg_del (iR.r) (hp_del _ _ h28) ?_
   refine ao tk rfl (af ?_)
   refine aP rfl H (fun H=>?_) (fun H=>?_)
   ·refine ab (ac (al 3 tk rfl ?_))
    obtain ⟨x33,k33,H⟩ := aX H
    refine jW (tag := 0) rfl (fun ho0=>?_)
    refine jM tk ⟨k33.1,(bl k33.2)⟩ (bi ho0 k33.2) ?_
    obtain ⟨y4,hy4,H⟩ := bw H
    refine lM tk rfl rfl rfl rfl rfl rfl rfl rfl (by rw [zl]; exact (zg.1 k33.2).1) (PLe.refl _ _) rfl rfl rfl rfl (by decide) (bG (fun _=>rfl) k33.2 rfl hy4) ?_
    refine af (bm 3 tk rfl (aR (bm 3 tk rfl ?_)))
    obtain rfl := am H
    refine aK (y4,(IntKind.i64.wrap (s1.2.1 + (1 : Int))),(IntKind.i64.wrap (s1.2.2 + (1 : Int)))) () hg1 (Gh.le (aH (PLe.of2 (PLe2.of_eq (congrArg (PV.own 0 g_sA) (bq (f := (au 53 ak)) hy4)))) (aa (aa (aa aj)))) ah (ay ag))
   refine av (aR (bm 3 tk rfl ?_))
   obtain rfl := am H
   refine aK (s1.1,s1.2.1,(IntKind.i64.wrap (s1.2.2 + (1 : Int)))) () hg1 (Gh.le (aa (aa (aa (aa aj)))) ah (ay ag))
  refine aO rfl ?_
  obtain rfl := am H
  refine aQ (s1.1,s1.2.1,s1.2.2) () hg1 (Gh.le (aa (aa aj)) ah (ay ag))
 have H := bn hn1 Hp1
 refine ab (ac (al 2 tk rfl ?_))
 obtain ⟨y5,hy5,H⟩ := ax H
 have ky5 := np hy5
 refine so (tag := 0) rfl (fun hcy5=>?_)
 have hny5 : (s1.1.map (au 53 ak)).length = (List.map (au 53 ak) s1.1).length := rfl
 have hmy5 := ky5.2.1
 rw [← zl (f := (au 53 ak)),← hny5] at hmy5
 rw [← hny5] at hcy5
 refine pI (l := s1.2.1.toNat) (h := (s1.1.map (au 53 ak)).length) (m := g_sA.cap) tk rfl rfl rfl rfl rfl rfl ⟨_,_,rfl,(Int.toNat_of_nonneg ky5.1).symm⟩ rfl rfl (by decide) hmy5 hcy5 (Nat.le_refl _) rfl (cw (Gh.cutO (tag := 0) (rows' := List.map (au 53 ak) y5) rfl s1.2.1.toNat (by rw [← List.map_take,ky5.2.2])) ?_)
 refine qM (tag := 0) (rows := List.map (au 53 ak) y5) tk rfl rfl rfl rfl rfl rfl rfl rfl rfl (p := s1.2.1.toNat) (q := (s1.1.map (au 53 ak)).length) (m := g_sA.cap) (by rw [zl,ky5.2.2,List.length_take]; exact Nat.min_le_left _ _) hmy5 hcy5 (Nat.le_refl _) rfl ?_
 refine af (ab (ac (al 2 tk rfl ?_)))
 obtain ⟨y6,hy6,H⟩ := ax H
 have ky6 := np hy6
 refine sE (rows' := List.map (au 53 ak) y6) tk rfl rfl rfl rfl rfl rfl rfl rfl ⟨ky6.1,by rw [zl]; exact ky6.2.1⟩ (by rw [← List.map_take,ky6.2.2]) rfl rfl ?_
 refine ao tk rfl (af ?_)
 obtain rfl := am H
 refine dq (st' := ⟨42,upd (fun _=>.any) 4 (.own 0 g_sA (y6.map (au 53 ak)).length),fun _=>none,upd (fun _=>none) 0 (some ⟨g_sA,51,(y6.map (au 53 ak)),true⟩)⟩) (Gh.le (aa aj) ah (ay ag)) ?_
 refine eH tk rfl (ps := [(.own 0 g_sA (y6.map (au 53 ak)).length)]) ⟨_,_,rfl,rfl,rfl⟩ (PLe.of2 (PLe2.own rfl)) ⟨rfl,rfl⟩
def gu (y : Rq) (c0 : Rq) : Option (Bool) :=
 ai (cX c0 y) fun x6 =>
 some x6
theorem qG (y : Rq) (c0 : Rq) (r : Bool) (H : gu y c0 = some r) :
  bc Tryz.prog 172 [(.list 53 (y.map ak)),(.ptr [(.list 53 (c0.map ak))])] (aF r) := by
 unfold gu at H
 refine PH.aD Tryz.func172 Tryz.ntmps172 ?_
 refine aw 1 tk rfl (ab (ac (al 2 tk rfl ?_)))
 obtain ⟨x6,h6,H⟩ := ax H
 have s6 := gI c0 y _ h6
 refine aq Tryz.call24 (iR.r) s6 ?_
 refine ao tk rfl (af ?_)
 obtain rfl := am H
 refine aC tk rfl (ps := [(aF x6)]) ⟨_,_,rfl,rfl,rfl⟩ (PLe.q rfl)
def fP (op : List UInt8) (l : Rq) : Option (LVal) :=
 cond (op == ([99,111,117,110,116] : List UInt8))
  (bf (gd (l.length : Int)) fun x13 =>
  some x13)
  (cond ((l.length : Int) == (0 : Int))
   (some (LVal.mk 0 0 []))
   (ai (aG l 0) fun (x19 : LVal) =>
   ai (aW (σ := Int × LVal) (ρ := Empty) (fun (_ : Nat) (x1 : LVal) (s1 : Int × LVal) =>
    cond (op == ([109,105,110] : List UInt8))
     (bf (ly x1 s1.2) fun x36 =>
     cond x36
      (some (.next ((IntKind.i64.wrap (s1.1 + x1.int)),x1)))
      (cond (op == ([109,97,120] : List UInt8))
       (bf (ly s1.2 x1) fun x44 =>
       cond x44
        (some (.next ((IntKind.i64.wrap (s1.1 + x1.int)),x1)))
        (some (.next ((IntKind.i64.wrap (s1.1 + x1.int)),s1.2))))
       (some (.next ((IntKind.i64.wrap (s1.1 + x1.int)),s1.2)))))
     (cond (op == ([109,97,120] : List UInt8))
      (bf (ly s1.2 x1) fun x44 =>
      cond x44
       (some (.next ((IntKind.i64.wrap (s1.1 + x1.int)),x1)))
       (some (.next ((IntKind.i64.wrap (s1.1 + x1.int)),s1.2))))
      (some (.next ((IntKind.i64.wrap (s1.1 + x1.int)),s1.2))))) 0 l (0,x19)) fun fl1=>fl1.thenP fun (s1 : Int × LVal) =>
   cond (op == ([115,117,109] : List UInt8))
    (bf (gd s1.1) fun x52 =>
    some x52)
    (some s1.2)))
theorem oe (op : List UInt8) (l : Rq) (r : LVal) (H : fP op l = some r) :
  bc Tryz.prog 193 [(.str op),(.list 53 (l.map ak))] (.agg (ak r)) := by
 unfold fP at H
 refine PH.aD Tryz.func193 Tryz.ntmps193 ?_
 refine ab (ac ?_)
 refine bu tk fun b4=>?_
 refine af (ab (aw 2 tk rfl ?_))
 refine aP rfl H (fun H=>?_) (fun H=>?_)
 ·refine ab (ac (ao tk rfl (aN tk (zl _) ?_)))
  obtain ⟨x13,h13,H⟩ := bw H
  have s13 := pT (l.length : Int)
  rw [h13] at s13
  refine aq Tryz.call192 (iR.r) s13 ?_
  refine aE tk ?_
  refine af ?_
  obtain rfl := am H
  refine aC tk rfl (ps := [(.agg [(ae x13.kind),(ae x13.int),(.str x13.text)])]) ⟨_,_,rfl,⟨_,_,_,_,_,rfl,rfl,rfl,rfl⟩,rfl⟩ (PLe.q rfl)
 refine av (ab (ab (ac (ao tk rfl (aN tk (zl _) ?_)))))
 refine ao tk rfl (af ?_)
 refine aP rfl H (fun H=>?_) (fun H=>?_)
 ·refine ab (ac (ao tk rfl (aE tk ?_)))
  refine af ?_
  obtain rfl := am H
  refine aC tk rfl (ps := [(.agg [(ae 0),(ae 0),(.str [])])]) ⟨_,_,rfl,⟨_,_,_,_,_,rfl,rfl,rfl,rfl⟩,rfl⟩ (PLe.q rfl)
 refine av (ab (ac (ao tk rfl ?_)))
 obtain ⟨x19,k19,H⟩ := aX H
 refine bs tk k19.1 (aI (fun _=>rfl) k19.2) ?_
 refine ao tk rfl ?_
 refine bu tk fun b5=>?_
 refine aE tk ?_
 refine af (aw 1 tk rfl (ab (ab (ac (ao tk rfl (aN tk (zl _) ?_))))))
 refine ao tk rfl (af ?_)
 obtain ⟨fl1,H1,Hp1⟩ := ax H
 refine bP tk 21 rfl rfl (fun hz1 _=>?_)
 rw [zl] at hz1
 refine aY (τ := Int × LVal) (γ := Unit) (fun s1 g1=>⟨54,upd (upd (upd (upd (fun _=>.any) 6 (ae s1.1)) 5 (.box 5 b5 0)) 4 (.box 4 b4 0)) 0 (.str op),upd (upd (fun _=>none) 5 (some ⟨b5,[(ae s1.2.kind),(ae s1.2.int),(.str s1.2.text)]⟩)) 4 (some ⟨b4,[(ae 0),(ae 0),(.str [])]⟩),fun _=>none⟩) (fun t=>fl1 = .next t) ?_ (fun s1 g1 hn1=>?_)
 ·refine az ?_
  refine bC (fun j1 s1 g1=>⟨54,upd (upd (upd (upd (upd (upd (upd (fun _=>.any) 23 (ae (j1 : Int))) 22 (ae (l.length : Int))) 21 (.list 53 (l.map ak))) 6 (ae s1.1)) 5 (.box 5 b5 0)) 4 (.box 4 b4 0)) 0 (.str op),upd (upd (fun _=>none) 5 (some ⟨b5,[(ae s1.2.kind),(ae s1.2.int),(.str s1.2.text)]⟩)) 4 (some ⟨b4,[(ae 0),(ae 0),(.str [])]⟩),fun _=>none⟩) () H1 (Gh.le (aa (aa (aa (aa (aa (aa (aa aj))))))) (aA rfl (iR.r) (aA rfl (iR.r) ah)) ag) (fun j1 s1 g1 hj1 hr1=>?_)
  refine aw 1 tk rfl (ab ?_)
  refine aZ rfl (fun h=>?_) (fun h=>?_)
  ·have hl1 := co h
   obtain ⟨x1,fb1,hx1,H,hg1⟩ := rMc hl1 hr1
   refine av (ab (az (ab (ac ?_))))
   refine bs tk (zn j1) (bO (fun _=>rfl) hx1) ?_
   refine ao tk rfl ?_
   refine bu tk fun b8=>?_
   refine aE tk ?_
   refine af (ab (ac (al 2 tk rfl (aT tk ?_))))
   refine al 2 tk rfl (af (ab (ac (al 3 tk rfl ?_))))
   refine bF rfl rfl rfl H (fun H=>?_) (fun H=>?_)
   ·refine aT tk ?_
    refine aT tk ?_
    obtain ⟨x36,h36,H⟩ := bw H
    have s36 := mg x1 s1.2
    rw [h36] at s36
    refine aq Tryz.call45 (iR.r) s36 ?_
    refine al 2 tk rfl ?_
    refine bF rfl rfl rfl H (fun H=>?_) (fun H=>?_)
    ·refine al 8 tk rfl (af (cu rfl (ac (aT tk ?_))))
     refine aE tk ?_
     refine af (aR (bm 2 tk rfl ?_))
     obtain rfl := am H
     refine aK ((IntKind.i64.wrap (s1.1 + x1.int)),x1) () ⟨hl1,hg1⟩ (Gh.le (aa (aa (aa (aa (aa (aa (aH (PLe.q (aU (by omega))) aj))))))) (aA rfl (iR.r) (aA rfl (iR.r) ah)) ag)
    refine al 3 tk rfl ?_
    refine bF rfl rfl rfl H (fun H=>?_) (fun H=>?_)
    ·refine aT tk ?_
     refine aT tk ?_
     obtain ⟨x44,h44,H⟩ := bw H
     have s44 := mg s1.2 x1
     rw [h44] at s44
     refine aq Tryz.call45 (iR.r) s44 ?_
     refine al 2 tk rfl (af ?_)
     refine aP rfl H (fun H=>?_) (fun H=>?_)
     ·refine ac (aT tk ?_)
      refine aE tk ?_
      refine af (aR (bm 2 tk rfl ?_))
      obtain rfl := am H
      refine aK ((IntKind.i64.wrap (s1.1 + x1.int)),x1) () ⟨hl1,hg1⟩ (Gh.le (aa (aa (aa (aa (aa (aa (aH (PLe.q (aU (by omega))) aj))))))) (aA rfl (iR.r) (aA rfl (iR.r) ah)) ag)
     refine av (aR (bm 2 tk rfl ?_))
     obtain rfl := am H
     refine aK ((IntKind.i64.wrap (s1.1 + x1.int)),s1.2) () ⟨hl1,hg1⟩ (Gh.le (aa (aa (aa (aa (aa (aa (aH (PLe.q (aU (by omega))) aj))))))) (aA rfl (iR.r) (aA rfl (iR.r) ah)) ag)
    refine al 5 tk rfl (af (bL rfl (av (aR (bm 2 tk rfl ?_)))))
    obtain rfl := am H
    refine aK ((IntKind.i64.wrap (s1.1 + x1.int)),s1.2) () ⟨hl1,hg1⟩ (Gh.le (aa (aa (aa (aa (aa (aa (aH (PLe.q (aU (by omega))) aj))))))) (aA rfl (iR.r) (aA rfl (iR.r) ah)) ag)
   refine al 8 tk rfl ?_
   refine bF rfl rfl rfl H (fun H=>?_) (fun H=>?_)
   ·refine aT tk ?_
    refine aT tk ?_
    obtain ⟨x44,h44,H⟩ := bw H
    have s44 := mg s1.2 x1
    rw [h44] at s44
    refine aq Tryz.call45 (iR.r) s44 ?_
    refine al 2 tk rfl (af ?_)
    refine aP rfl H (fun H=>?_) (fun H=>?_)
    ·refine ac (aT tk ?_)
     refine aE tk ?_
     refine af (aR (bm 2 tk rfl ?_))
     obtain rfl := am H
     refine aK ((IntKind.i64.wrap (s1.1 + x1.int)),x1) () ⟨hl1,hg1⟩ (Gh.le (aa (aa (aa (aa (aa (aa (aH (PLe.q (aU (by omega))) aj))))))) (aA rfl (iR.r) (aA rfl (iR.r) ah)) ag)
    refine av (aR (bm 2 tk rfl ?_))
    obtain rfl := am H
    refine aK ((IntKind.i64.wrap (s1.1 + x1.int)),s1.2) () ⟨hl1,hg1⟩ (Gh.le (aa (aa (aa (aa (aa (aa (aH (PLe.q (aU (by omega))) aj))))))) (aA rfl (iR.r) (aA rfl (iR.r) ah)) ag)
   refine al 5 tk rfl (af (bL rfl (av (aR (bm 2 tk rfl ?_)))))
   obtain rfl := am H
   refine aK ((IntKind.i64.wrap (s1.1 + x1.int)),s1.2) () ⟨hl1,hg1⟩ (Gh.le (aa (aa (aa (aa (aa (aa (aH (PLe.q (aU (by omega))) aj))))))) (aA rfl (iR.r) (aA rfl (iR.r) ah)) ag)
  have hn1 := rMd (cp h) hr1
  refine aO rfl ?_
  refine aQ s1 g1 hn1 (Gh.le (aa (aa (aa (aa aj)))) (aA rfl (iR.r) (aA rfl (iR.r) ah)) ag)
 have H := bn hn1 Hp1
 refine ab (aw 2 tk rfl ?_)
 refine aP rfl H (fun H=>?_) (fun H=>?_)
 ·refine ab (ac (ao tk rfl ?_))
  obtain ⟨x52,h52,H⟩ := bw H
  have s52 := pT s1.1
  rw [h52] at s52
  refine aq Tryz.call192 (iR.r) s52 ?_
  refine aE tk ?_
  refine af ?_
  obtain rfl := am H
  refine aC tk rfl (ps := [(.agg [(ae x52.kind),(ae x52.int),(.str x52.text)])]) ⟨_,_,rfl,⟨_,_,_,_,_,rfl,rfl,rfl,rfl⟩,rfl⟩ (PLe.q rfl)
 refine av (ab (ac (aT tk ?_)))
 refine aE tk ?_
 refine af ?_
 obtain rfl := am H
 refine aC tk rfl (ps := [(.agg [(ae s1.2.kind),(ae s1.2.int),(.str s1.2.text)])]) ⟨_,_,rfl,⟨_,_,_,_,_,rfl,rfl,rfl,rfl⟩,rfl⟩ (PLe.q rfl)
def dM (data : Rz) (a : Int) (m : Int) (b : Int) (cmp : Rq → Rq → Option (Int)) : Option (Rz) :=
 ai (whileM (σ := Rz × Int × Int) (ρ := Empty) (fun (s1 : Rz × Int × Int) =>
  cond (s1.2.1 != s1.2.2)
   (cond (decide (s1.2.1 > s1.2.2))
    (ai (cR s1.1 (IntKind.i64.wrap (m - s1.2.1)) m s1.2.2 cmp) fun x31 =>
    ai (cE (x31.length = s1.1.length) ()) fun (_ : Unit) =>
    some (.next (x31,(IntKind.i64.wrap (s1.2.1 - s1.2.2)),s1.2.2)))
    (ai (cR s1.1 (IntKind.i64.wrap (m - s1.2.1)) (IntKind.i64.wrap ((IntKind.i64.wrap (m + s1.2.2)) - s1.2.1)) s1.2.1 cmp) fun x46 =>
    ai (cE (x46.length = s1.1.length) ()) fun (_ : Unit) =>
    some (.next (x46,s1.2.1,(IntKind.i64.wrap (s1.2.2 - s1.2.1))))))
   (some (.brk (s1.1,s1.2.1,s1.2.2)))) (data,(IntKind.i64.wrap (m - a)),(IntKind.i64.wrap (b - m)))) fun fl1=>fl1.thenP fun (s1 : Rz × Int × Int) =>
 ai (cR s1.1 (IntKind.i64.wrap (m - s1.2.1)) m s1.2.1 cmp) fun x57 =>
 ai (cE (x57.length = s1.1.length) ()) fun (_ : Unit) =>
 some x57
theorem mr (g_data : OwnRef) {g_cmp : FuncId} {caps_cmp : List PV} (data : Rz) (a : Int) (m : Int) (b : Int) (cmp : Rq → Rq → Option (Int)) (hg_cmp : ∀ (vs : Array Value) (w : World),(callFunc g_cmp vs).run Tryz.prog w = .ok (.enter g_cmp vs) w) (hp_cmp : ∀ a0 a1 r,cmp a0 a1 = some r → bc Tryz.prog g_cmp ((.list 53 (a0.map ak)) :: (.list 53 (a1.map ak)) :: caps_cmp) (ae r)) (r : Rz) (H : dM data a m b cmp = some r) :
  PH Tryz.prog 211 [(.own 0 g_data (data.map (au 53 ak)).length),(ae a),(ae m),(ae b),(.fn g_cmp caps_cmp)] ⟨fun _=>none,upd (fun _=>none) 0 (some ⟨g_data,51,(data.map (au 53 ak)),true⟩)⟩ (fun u H=>u = (.tup []) ∧ H = ⟨fun _=>none,upd (fun _=>none) 0 (some ⟨g_data,51,(r.map (au 53 ak)),true⟩)⟩) := by
 unfold dM at H
 refine PH.aD Tryz.func211 Tryz.ntmps211 ?_
 refine aw 4 tk rfl (aw 4 tk rfl (ab ?_))
 obtain ⟨fl1,H1,Hp1⟩ := ax H
 refine aY (τ := Rz × Int × Int) (γ := Unit) (fun s1 g1=>⟨58,upd (upd (upd (upd (fun _=>.any) 10 (ae s1.2.1)) 4 (.fn g_cmp caps_cmp)) 2 (ae m)) 0 (.own 0 g_data (s1.1.map (au 53 ak)).length),fun _=>none,upd (fun _=>none) 0 (some ⟨g_data,51,(s1.1.map (au 53 ak)),true⟩)⟩) (fun t=>fl1 = .next t) ?_ (fun s1 g1 hn1=>?_)
 ·refine az ?_
  refine cA (fun s1 g1=>⟨58,upd (upd (upd (upd (upd (fun _=>.any) 11 (ae s1.2.2)) 10 (ae s1.2.1)) 4 (.fn g_cmp caps_cmp)) 2 (ae m)) 0 (.own 0 g_data (s1.1.map (au 53 ak)).length),fun _=>none,upd (fun _=>none) 0 (some ⟨g_data,51,(s1.1.map (au 53 ak)),true⟩)⟩) () H1 (Gh.le (aa (aa (aa (aa (aa aj))))) ah (ay ag)) (fun m1 s1 g1 hr1=>?_)
  obtain ⟨fb1,H,hg1⟩ := bZ hr1
  refine ab (aw 3 tk rfl ?_)
  refine aP rfl H (fun H=>?_) (fun H=>?_)
  ·refine av (az (aw 3 tk rfl ?_))
   refine aP rfl H (fun H=>?_) (fun H=>?_)
   ·refine ab (ac (al 7 tk rfl ?_))
    obtain ⟨x31,h31,H⟩ := ax H
    have s31 := gC g_data s1.1 (IntKind.i64.wrap (m - s1.2.1)) m s1.2.2 cmp hg_cmp hp_cmp _ h31
    obtain ⟨_,q31_0,H⟩ := ax H
    have l31_0 := (bI q31_0).1
    have z31_0 : (List.map (au 53 ak) s1.1).length = (List.map (au 53 ak) x31).length := by simpa using (l31_0).symm
    refine ci (g := 213) rfl rfl rfl Tryz.call213 [] [(0,0)] rfl rfl rfl rfl (iR.of2 (iG.cons (PLe2.own rfl) (iG.cons (PLe2.of_eq rfl) (iG.cons (PLe2.of_eq rfl) (iG.cons (PLe2.of_eq rfl) (iG.cons (PLe2.of_eq rfl) iG.nil)))))) (by rw [bS,bJ,bR]; rfl) s31 ?_
    rintro u31 H31h ⟨rfl,rfl⟩
    refine ⟨_,rfl,?_⟩
    refine cw (st' := ⟨_,_,fun _=>none,upd (fun _=>none) 0 (some ⟨g_data,51,(x31.map (au 53 ak)),true⟩)⟩) (Gh.le (bQ _ _) ah (ay ag)) ?_
    refine af (bm 4 tk rfl (aR ?_))
    obtain rfl := am H
    refine aK (x31,(IntKind.i64.wrap (s1.2.1 - s1.2.2)),s1.2.2) () hg1 (Gh.le (aH (PLe.of2 (PLe2.of_eq (congrArg (PV.own 0 g_data) z31_0))) (aa (aa (aa (aa aj))))) ah (ay ag))
   refine ab (ac (al 11 tk rfl ?_))
   obtain ⟨x46,h46,H⟩ := ax H
   have s46 := gC g_data s1.1 (IntKind.i64.wrap (m - s1.2.1)) (IntKind.i64.wrap ((IntKind.i64.wrap (m + s1.2.2)) - s1.2.1)) s1.2.1 cmp hg_cmp hp_cmp _ h46
   obtain ⟨_,q46_0,H⟩ := ax H
   have l46_0 := (bI q46_0).1
   have z46_0 : (List.map (au 53 ak) s1.1).length = (List.map (au 53 ak) x46).length := by simpa using (l46_0).symm
   refine ci (g := 213) rfl rfl rfl Tryz.call213 [] [(0,0)] rfl rfl rfl rfl (iR.of2 (iG.cons (PLe2.own rfl) (iG.cons (PLe2.of_eq rfl) (iG.cons (PLe2.of_eq rfl) (iG.cons (PLe2.of_eq rfl) (iG.cons (PLe2.of_eq rfl) iG.nil)))))) (by rw [bS,bJ,bR]; rfl) s46 ?_
   rintro u46 H46h ⟨rfl,rfl⟩
   refine ⟨_,rfl,?_⟩
   refine cw (st' := ⟨_,_,fun _=>none,upd (fun _=>none) 0 (some ⟨g_data,51,(x46.map (au 53 ak)),true⟩)⟩) (Gh.le (bQ _ _) ah (ay ag)) ?_
   refine af (bm 4 tk rfl (aR ?_))
   obtain rfl := am H
   refine aK (x46,s1.2.1,(IntKind.i64.wrap (s1.2.2 - s1.2.1))) () hg1 (Gh.le (aH (PLe.of2 (PLe2.of_eq (congrArg (PV.own 0 g_data) z46_0))) (aa (aa (aa (aa aj))))) ah (ay ag))
  refine aO rfl ?_
  obtain rfl := am H
  refine aQ (s1.1,s1.2.1,s1.2.2) () hg1 (Gh.le (aa (aa (aa (aa aj)))) ah (ay ag))
 have H := bn hn1 Hp1
 refine ac (al 7 tk rfl ?_)
 obtain ⟨x57,h57,H⟩ := ax H
 have s57 := gC g_data s1.1 (IntKind.i64.wrap (m - s1.2.1)) m s1.2.1 cmp hg_cmp hp_cmp _ h57
 obtain ⟨_,q57_0,H⟩ := ax H
 have l57_0 := (bI q57_0).1
 have z57_0 : (List.map (au 53 ak) s1.1).length = (List.map (au 53 ak) x57).length := by simpa using (l57_0).symm
 refine ci (g := 213) rfl rfl rfl Tryz.call213 [] [(0,0)] rfl rfl rfl rfl (iR.of2 (iG.cons (PLe2.own rfl) (iG.cons (PLe2.of_eq rfl) (iG.cons (PLe2.of_eq rfl) (iG.cons (PLe2.of_eq rfl) (iG.cons (PLe2.of_eq rfl) iG.nil)))))) (by rw [bS,bJ,bR]; rfl) s57 ?_
 rintro u57 H57h ⟨rfl,rfl⟩
 refine ⟨_,rfl,?_⟩
 refine cw (st' := ⟨_,_,fun _=>none,upd (fun _=>none) 0 (some ⟨g_data,51,(x57.map (au 53 ak)),true⟩)⟩) (Gh.le (bQ _ _) ah (ay ag)) ?_
 refine af ?_
 obtain rfl := am H
 refine dq (st' := ⟨58,fun _=>.any,fun _=>none,upd (fun _=>none) 0 (some ⟨g_data,51,(x57.map (au 53 ak)),true⟩)⟩) (Gh.le aj ah (ay ag)) ?_
 refine iy rfl (PLe.q rfl) ⟨rfl,rfl⟩
def gr (t : LTable) (name : List UInt8) : Option (Int × Bool) :=
 ai (dc t.columns (fun a0=>some (ep a0 name))) fun x10 =>
 some ((if (0 : Int) > x10 then (0 : Int) else x10),(decide (x10 ≥ (0 : Int))))
theorem qE (t : LTable) (name : List UInt8) (r : Int × Bool) (H : gr t name = some r) :
  bc Tryz.prog 144 [(.agg (bv t)),(.str name)] (.tup [(ae r.1),(aF r.2)]) := by
 unfold gr at H
 refine PH.aD Tryz.func144 Tryz.ntmps144 ?_
 refine ab (ac (aV ?_))
 refine aV ?_
 refine al 2 tk rfl (af (ab (ac (al 3 tk rfl ?_))))
 obtain ⟨x10,h10,H⟩ := ax H
 have s10 := gO t.columns (fun a0=>some (ep a0 name)) Tryz.call176 (fun a0 r h=>(am h) ▸ pw a0 name) _ h10
 refine aq Tryz.call43 (iR.r) s10 ?_
 refine ao tk rfl (af (aw 6 tk rfl ?_))
 obtain rfl := am H
 refine aC tk rfl (ps := [(ae (if (0 : Int) > x10 then (0 : Int) else x10)),(aF (decide (x10 ≥ (0 : Int))))]) ⟨_,_,rfl,rfl,_,_,rfl,rfl,rfl⟩ (PLe.q rfl)
def fV (sA : LSchema) (name : List UInt8) : Option (Int × Bool) :=
 ai (dk sA.tables (fun a0=>some (dA a0 name))) fun x10 =>
 some ((if (0 : Int) > x10 then (0 : Int) else x10),(decide (x10 ≥ (0 : Int))))
theorem kQ (sA : LSchema) (name : List UInt8) (r : Int × Bool) (H : fV sA name = some r) :
  bc Tryz.prog 145 [(.agg (eK sA)),(.str name)] (.tup [(ae r.1),(aF r.2)]) := by
 unfold fV at H
 refine PH.aD Tryz.func145 Tryz.ntmps145 ?_
 refine ab (ac (aV ?_))
 refine aV ?_
 refine al 2 tk rfl (af (ab (ac (al 3 tk rfl ?_))))
 obtain ⟨x10,h10,H⟩ := ax H
 have s10 := gW sA.tables (fun a0=>some (dA a0 name)) Tryz.call177 (fun a0 r h=>(am h) ▸ pW a0 name) _ h10
 refine aq Tryz.call153 (iR.r) s10 ?_
 refine ao tk rfl (af (aw 6 tk rfl ?_))
 obtain rfl := am H
 refine aC tk rfl (ps := [(ae (if (0 : Int) > x10 then (0 : Int) else x10)),(aF (decide (x10 ≥ (0 : Int))))]) ⟨_,_,rfl,rfl,_,_,rfl,rfl,rfl⟩ (PLe.q rfl)
def gN (a : LForeignKey) (b : LForeignKey) : Option (Bool) :=
 cond (a.table == b.table)
  (ai (gk a.columns b.columns) fun x15 =>
  cond x15
   (some (a.refTable == b.refTable))
   (some false))
  (some false)
theorem nG (a : LForeignKey) (b : LForeignKey) (r : Bool) (H : gN a b = some r) :
  bc Tryz.prog 102 [(.agg (cy a)),(.agg (cy b))] (aF r) := by
 unfold gN at H
 refine PH.aD Tryz.func102 Tryz.ntmps102 ?_
 refine ab (ac (aV ?_))
 refine aV ?_
 refine ao tk rfl (af (ab (ac (al 6 tk rfl ?_))))
 refine bF rfl rfl rfl H (fun H=>?_) (fun H=>?_)
 ·refine al 4 tk rfl ?_
  obtain ⟨x15,h15,H⟩ := ax H
  have s15 := oN a.columns b.columns _ h15
  refine aq Tryz.call147 (iR.r) s15 ?_
  refine al 2 tk rfl ?_
  refine bF rfl rfl rfl H (fun H=>?_) (fun H=>?_)
  ·refine al 7 tk rfl (af ?_)
   obtain rfl := am H
   refine aC tk rfl (ps := [(aF (a.refTable == b.refTable))]) ⟨_,_,rfl,rfl,rfl⟩ (PLe.q rfl)
  refine al 7 tk rfl (af ?_)
  obtain rfl := am H
  refine aC tk rfl (ps := [(aF false)]) ⟨_,_,rfl,rfl,rfl⟩ (PLe.q rfl)
 refine al 14 tk rfl (af ?_)
 obtain rfl := am H
 refine aC tk rfl (ps := [(aF false)]) ⟨_,_,rfl,rfl,rfl⟩ (PLe.q rfl)
def cv (sA : List LForeignKey) (f : LForeignKey → Option (Bool)) : Option (Bool) :=
 ai (de sA f) fun x7 =>
 some (decide (x7 ≥ (0 : Int)))
theorem iN {g_f : FuncId} {caps_f : List PV} (sA : List LForeignKey) (f : LForeignKey → Option (Bool)) (hg_f : ∀ (vs : Array Value) (w : World),(callFunc g_f vs).run Tryz.prog w = .ok (.enter g_f vs) w) (hp_f : ∀ a0 r,f a0 = some r → bc Tryz.prog g_f ((.agg (cy a0)) :: caps_f) (aF r)) (r : Bool) (H : cv sA f = some r) :
  bc Tryz.prog 100 [(.list 142 (sA.map cy)),(.fn g_f caps_f)] (aF r) := by
 unfold cv at H
 refine PH.aD Tryz.func100 Tryz.ntmps100 ?_
 refine aw 1 tk rfl (ab (ac (al 2 tk rfl ?_)))
 obtain ⟨x7,h7,H⟩ := ax H
 have s7 := je sA f hg_f hp_f _ h7
 refine aq Tryz.call146 (iR.r) s7 ?_
 refine al 2 tk rfl (af ?_)
 obtain rfl := am H
 refine aC tk rfl (ps := [(aF (decide (x7 ≥ (0 : Int))))]) ⟨_,_,rfl,rfl,rfl⟩ (PLe.q rfl)
def cI (sA : List LConstraint) (v : LConstraint) : Option (Bool) :=
 ai (dv sA v) fun x7 =>
 some (decide (x7 ≥ (0 : Int)))
theorem jh (sA : List LConstraint) (v : LConstraint) (r : Bool) (H : cI sA v = some r) :
  bc Tryz.prog 104 [(.list 148 (sA.map cJ)),(.agg (cJ v))] (aF r) := by
 unfold cI at H
 refine PH.aD Tryz.func104 Tryz.ntmps104 ?_
 refine ab (ac (aV ?_))
 refine ao tk rfl (af (ab (ac (al 2 tk rfl ?_))))
 obtain ⟨x7,h7,H⟩ := ax H
 have s7 := jI sA v _ h7
 refine aq Tryz.call149 (iR.r) s7 ?_
 refine al 2 tk rfl (af ?_)
 obtain rfl := am H
 refine aC tk rfl (ps := [(aF (decide (x7 ≥ (0 : Int))))]) ⟨_,_,rfl,rfl,rfl⟩ (PLe.q rfl)
def gA (x : Rq) (y : Rq) : Option (Bool) :=
 ai (cX x y) fun x7 =>
 some x7
theorem pn (x : Rq) (y : Rq) (r : Bool) (H : gA x y = some r) :
  bc Tryz.prog 57 [(.list 53 (x.map ak)),(.list 53 (y.map ak))] (aF r) := by
 unfold gA at H
 refine PH.aD Tryz.func57 Tryz.ntmps57 ?_
 refine aw 1 tk rfl (ab (ac (al 2 tk rfl ?_)))
 obtain ⟨x7,h7,H⟩ := ax H
 have s7 := gI x y _ h7
 refine aq Tryz.call24 (iR.r) s7 ?_
 refine ao tk rfl (af ?_)
 obtain rfl := am H
 refine aC tk rfl (ps := [(aF x7)]) ⟨_,_,rfl,rfl,rfl⟩ (PLe.q rfl)
def iF (x : Int) : Option (Int) :=
 ai (jR x) fun x7 =>
 some x7
theorem oY (x : Int) (r : Int) (H : iF x = some r) :
  bc Tryz.prog 93 [(.val (.int .u64 x))] (ae r) := by
 unfold iF at H
 refine PH.aD Tryz.func93 Tryz.ntmps93 ?_
 refine aw 1 tk rfl (ab (bL rfl (av (ab (ac (ao tk rfl ?_))))))
 obtain ⟨x7,h7,H⟩ := ax H
 have s7 := rx x _ h7
 refine aq Tryz.call123 (iR.r) s7 ?_
 refine ao tk rfl (af ?_)
 obtain rfl := am H
 refine aC tk rfl (ps := [(ae x7)]) ⟨_,_,rfl,rfl,rfl⟩ (PLe.q rfl)
def jg (rows : Rz) : Option (Rz) :=
 ai (aW (σ := Rz) (ρ := Empty) (fun (_ : Nat) (x1 : Rq) (s1 : Rz) =>
  ai (dT 24 s1 ([x1] : Rz)) fun (x16 : Rz) =>
  some (.next x16)) 0 rows []) fun fl1=>fl1.thenP fun (s1 : Rz) =>
 some s1
theorem sg (rows : Rz) (r : Rz) (H : jg rows = some r) :
  bc Tryz.prog 75 [(.list 51 (rows.map (au 53 ak)))] (.list 51 (r.map (au 53 ak))) := by
 unfold jg at H
 refine PH.aD Tryz.func75 Tryz.ntmps75 ?_
 refine aw 1 tk rfl (aw 1 tk rfl (ab (ab (ac (ao tk rfl (aN tk (zl _) ?_))))))
 refine ao tk rfl (af ?_)
 obtain ⟨fl1,H1,Hp1⟩ := ax H
 refine bP tk 6 rfl rfl (fun hz1 _=>?_)
 rw [zl] at hz1
 refine aY (τ := Rz) (γ := OwnRef) (fun s1 g1=>⟨19,upd (fun _=>.any) 3 (.own 16 g1 (s1.map (au 53 ak)).length),fun _=>none,upd (fun _=>none) 16 (some ⟨g1,51,(s1.map (au 53 ak)),true⟩)⟩) (fun t=>fl1 = .next t) ?_ (fun s1 g1 hn1=>?_)
 ·refine az (ic tk 3 16 (e := 51) rfl rfl ?_)
  refine bC (fun j1 s1 g1=>⟨19,upd (upd (upd (upd (fun _=>.any) 8 (ae (j1 : Int))) 7 (ae (rows.length : Int))) 6 (.list 51 (rows.map (au 53 ak)))) 3 (.own 16 g1 (s1.map (au 53 ak)).length),fun _=>none,upd (fun _=>none) 16 (some ⟨g1,51,(s1.map (au 53 ak)),true⟩)⟩) (⟨none,0⟩) H1 (Gh.le (aa (aa (aa (aa aj)))) ah (ay ag)) (fun j1 s1 g1 hj1 hr1=>?_)
  refine aw 1 tk rfl (ab ?_)
  refine aZ rfl (fun h=>?_) (fun h=>?_)
  ·have hl1 := co h
   obtain ⟨x1,fb1,hx1,H,hg1⟩ := rMc hl1 hr1
   refine av (ab (az (ab (ac ?_))))
   refine bs tk (zn j1) (bO (fun _=>rfl) hx1) ?_
   refine al 2 tk rfl (af (ac (al 2 tk rfl ?_)))
   have s14 := clone_94 (m := 14) x1
   refine aq Tryz.call94 (iR.r) (PFun.iv s14) ?_
   refine cQ tk (rows' := List.map (au 53 ak) ([x1] : Rz)) (kj.refl _) ?_
   obtain ⟨x16,h16,H⟩ := ax H
   have k16 := cY h16
   refine cZ (rows2' := List.map (au 53 ak) ([x1] : Rz)) (rows' := List.map (au 53 ak) x16) tk rfl rfl rfl rfl rfl rfl rfl rfl rfl rfl rfl rfl rfl (kj.refl _) (et k16.1) (ew k16.2.1) (ez k16.2.2) fun g16=>?_
   refine ao tk rfl (af (aR (bm 2 tk rfl ?_)))
   obtain rfl := am H
   refine aK x16 g16 ⟨hl1,hg1⟩ (Gh.le (aa (aa (aa (aH (PLe.q (aU (by omega))) aj)))) ah (ay ag))
  have hn1 := rMd (cp h) hr1
  refine aO rfl ?_
  refine aQ s1 g1 hn1 (Gh.le (aa aj) ah (ay ag))
 have H := bn hn1 Hp1
 refine aw 2 tk rfl ?_
 obtain rfl := am H
 refine dX 2 rfl rfl rfl ?_
 refine aC tk rfl (ps := [(.list 51 (s1.map (au 53 ak)))]) ⟨_,_,rfl,rfl,rfl⟩ (PLe.q rfl)
def bB (x : List UInt8) (y : List UInt8) : Bool :=
 bf (gL x) fun x6 =>
 cond x6
  (bf (gL y) fun x9 =>
  cond (!x9)
   (true)
   ((Op.bytesLess x y)))
  ((Op.bytesLess x y))
theorem cN (x : List UInt8) (y : List UInt8) :
  bc Tryz.prog 80 [(.str x),(.str y)] (aF (bB x y)) := by
 obtain ⟨r,H⟩ : ∃ r,bB x y = r := ⟨_,rfl⟩
 rw [H]
 unfold bB at H
 refine PH.aD Tryz.func80 Tryz.ntmps80 ?_
 refine aw 1 tk rfl (ab (ac (ao tk rfl ?_)))
 obtain ⟨x6,h6,H⟩ := bw H
 have s6 := nm x
 rw [h6] at s6
 refine aq Tryz.call96 (iR.r) s6 ?_
 refine ao tk rfl ?_
 refine bF rfl rfl rfl H (fun H=>?_) (fun H=>?_)
 ·refine ao tk rfl ?_
  obtain ⟨x9,h9,H⟩ := bw H
  have s9 := nm y
  rw [h9] at s9
  refine aq Tryz.call96 (iR.r) s9 ?_
  refine al 3 tk rfl ?_
  refine bF rfl rfl rfl H (fun H=>?_) (fun H=>?_)
  ·refine al 5 tk rfl (af ?_)
   subst H
   refine aC tk rfl (ps := [(aF true)]) ⟨_,_,rfl,rfl,rfl⟩ (PLe.q rfl)
  refine al 5 tk rfl (af ?_)
  subst H
  refine aC tk rfl (ps := [(aF (Op.bytesLess x y))]) ⟨_,_,rfl,rfl,rfl⟩ (PLe.q rfl)
 refine al 10 tk rfl (af ?_)
 subst H
 refine aC tk rfl (ps := [(aF (Op.bytesLess x y))]) ⟨_,_,rfl,rfl,rfl⟩ (PLe.q rfl)
def dP (kinds : List Int) (c0 : LQuery) : Option (Bool) :=
 ai (fC kinds c0.kind) fun x7 =>
 some x7
theorem fJ (kinds : List Int) (c0 : LQuery) (r : Bool) (H : dP kinds c0 = some r) :
  bc Tryz.prog 151 [(.list 3 (kinds.map bM)),(.ptr (bE c0))] (aF r) := by
 unfold dP at H
 refine PH.aD Tryz.func151 Tryz.ntmps151 ?_
 refine aw 1 tk rfl (ab (ac (al 3 tk rfl ?_)))
 obtain ⟨x7,h7,H⟩ := ax H
 have s7 := nu kinds c0.kind _ h7
 refine aq Tryz.call152 (iR.r) s7 ?_
 refine ao tk rfl (af ?_)
 obtain rfl := am H
 refine aC tk rfl (ps := [(aF x7)]) ⟨_,_,rfl,rfl,rfl⟩ (PLe.q rfl)
def fG (q : LQuery) (args : Rq) : Option (Int) :=
 ai (fE q) fun x11 =>
 cond (x11.2 != (0 : Int))
  (some x11.2)
  (cond (decide ((args.length : Int) < (x11.1.length : Int)))
   (some 1)
   (ai (aW (σ := Unit) (ρ := (Int)) (fun (j1 : Nat) (x1 : Int) (_ : Unit) =>
    ai (aG args (j1 : Int)) fun (x31 : LVal) =>
    bf (fg x31) fun x33 =>
    cond (!x33)
     (some (.ret 7))
     (cond (x1 != (0 : Int))
      (ai (aG args (j1 : Int)) fun (x41 : LVal) =>
      cond (x41.kind != x1)
       (ai (aG args (j1 : Int)) fun (x50 : LVal) =>
       cond (x50.kind != (0 : Int))
        (some (.ret 7))
        (some (.next ())))
       (some (.next ())))
      (some (.next ())))) 0 x11.1 ()) fun fl1=>fl1.thenR fun (_ : Unit) =>
   some 0))
theorem lu (q : LQuery) (args : Rq) (r : Int) (H : fG q args = some r) :
  bc Tryz.prog 53 [(.agg (bE q)),(.list 53 (args.map ak))] (ae r) := by
 unfold fG at H
 refine PH.aD Tryz.func53 Tryz.ntmps53 ?_
 refine ab (ac (aV ?_))
 refine ao tk rfl (af (ab (ac (ao tk rfl ?_))))
 obtain ⟨x11,h11,H⟩ := ax H
 have s11 := lp q _ h11
 refine aq Tryz.call87 (iR.r) s11 ?_
 refine al 5 tk rfl (af (ab (aw 2 tk rfl ?_)))
 refine aP rfl H (fun H=>?_) (fun H=>?_)
 ·refine aw 2 tk rfl ?_
  obtain rfl := am H
  refine aC tk rfl (ps := [(ae x11.2)]) ⟨_,_,rfl,rfl,rfl⟩ (PLe.q rfl)
 refine av (ab (ab (ac (ao tk rfl (aN tk (zl _) ?_)))))
 refine ao tk rfl (aN tk (zl _) ?_)
 refine ao tk rfl (af ?_)
 refine aP rfl H (fun H=>?_) (fun H=>?_)
 ·refine aw 1 tk rfl ?_
  obtain rfl := am H
  refine aC tk rfl (ps := [(ae 1)]) ⟨_,_,rfl,rfl,rfl⟩ (PLe.q rfl)
 refine av (ab (ab (ac (ao tk rfl (aN tk (zl _) ?_)))))
 refine ao tk rfl (af ?_)
 obtain ⟨fl1,H1,Hp1⟩ := ax H
 refine bP tk 22 rfl rfl (fun hz1 _=>?_)
 rw [zl] at hz1
 refine aY (τ := Unit) (γ := Unit) (fun s1 g1=>⟨57,fun _=>.any,fun _=>none,fun _=>none⟩) (fun t=>fl1 = .next t) ?_ (fun s1 g1 hn1=>?_)
 ·refine az ?_
  refine bC (fun j1 s1 g1=>⟨57,upd (upd (upd (upd (fun _=>.any) 24 (ae (j1 : Int))) 23 (ae (x11.1.length : Int))) 22 (.list 3 (x11.1.map bM))) 1 (.list 53 (args.map ak)),fun _=>none,fun _=>none⟩) () H1 (Gh.le (aa (aa (aa (aa aj)))) ah ag) (fun j1 s1 g1 hj1 hr1=>?_)
  refine aw 1 tk rfl (ab ?_)
  refine aZ rfl (fun h=>?_) (fun h=>?_)
  ·have hl1 := co h
   obtain ⟨x1,fb1,hx1,H,hg1⟩ := rMc hl1 hr1
   refine av (ab (az (ab (ac (ao tk rfl ?_)))))
   refine bs tk (zn j1) (bO (fun _=>rfl) hx1) ?_
   refine al 3 tk rfl (af (ab (ac (al 2 tk rfl ?_))))
   obtain ⟨x31,k31,H⟩ := aX H
   refine bs tk k31.1 (aI (fun _=>rfl) k31.2) ?_
   refine ao tk rfl ?_
   obtain ⟨x33,h33,H⟩ := bw H
   have s33 := rO x31
   rw [h33] at s33
   refine aq Tryz.call20 (iR.r) s33 ?_
   refine al 2 tk rfl ?_
   refine bF rfl rfl rfl H (fun H=>?_) (fun H=>?_)
   ·refine al 20 tk rfl (af (cu rfl (aw 1 tk rfl ?_)))
    obtain rfl := am H
    have e1 : fl1 = .ret _ := hg1
    subst e1
    obtain rfl := bp Hp1
    refine aC tk rfl (ps := [(ae 7)]) ⟨_,_,rfl,rfl,rfl⟩ (PLe.q rfl)
   refine al 3 tk rfl ?_
   refine bF rfl rfl rfl H (fun H=>?_) (fun H=>?_)
   ·refine al 2 tk rfl ?_
    obtain ⟨x41,k41,H⟩ := aX H
    refine bs tk k41.1 (aI (fun _=>rfl) k41.2) ?_
    refine al 6 tk rfl ?_
    refine bF rfl rfl rfl H (fun H=>?_) (fun H=>?_)
    ·refine al 2 tk rfl ?_
     obtain ⟨x50,k50,H⟩ := aX H
     refine bs tk k50.1 (aI (fun _=>rfl) k50.2) ?_
     refine al 5 tk rfl (af ?_)
     refine aP rfl H (fun H=>?_) (fun H=>?_)
     ·refine aw 1 tk rfl ?_
      obtain rfl := am H
      have e1 : fl1 = .ret _ := hg1
      subst e1
      obtain rfl := bp Hp1
      refine aC tk rfl (ps := [(ae 7)]) ⟨_,_,rfl,rfl,rfl⟩ (PLe.q rfl)
     refine av (aR (bm 2 tk rfl ?_))
     obtain rfl := am H
     refine aK () () ⟨hl1,hg1⟩ (Gh.le (aa (aa (aa (aH (PLe.q (aU (by omega))) aj)))) ah ag)
    refine al 8 tk rfl (af (bL rfl (av (aR (bm 2 tk rfl ?_)))))
    obtain rfl := am H
    refine aK () () ⟨hl1,hg1⟩ (Gh.le (aa (aa (aa (aH (PLe.q (aU (by omega))) aj)))) ah ag)
   refine al 17 tk rfl (af (bL rfl (av (aR (bm 2 tk rfl ?_)))))
   obtain rfl := am H
   refine aK () () ⟨hl1,hg1⟩ (Gh.le (aa (aa (aa (aH (PLe.q (aU (by omega))) aj)))) ah ag)
  have hn1 := rMd (cp h) hr1
  refine aO rfl ?_
  refine aQ s1 g1 hn1 (Gh.le aj ah ag)
 have H := cl hn1 Hp1
 refine aw 1 tk rfl ?_
 obtain rfl := am H
 refine aC tk rfl (ps := [(ae 0)]) ⟨_,_,rfl,rfl,rfl⟩ (PLe.q rfl)
def jK (a : LVal) (b : LVal) : Int :=
 bf (gq a.kind b.kind) fun x11 =>
 cond (x11 != (0 : Int))
  (x11)
  (bf (gq a.int b.int) fun x19 =>
  cond (x19 != (0 : Int))
   (x19)
   (bf (jV a.text b.text) fun x27 =>
   x27))
theorem pl (a : LVal) (b : LVal) :
  bc Tryz.prog 106 [(.agg (ak a)),(.agg (ak b))] (ae (jK a b)) := by
 obtain ⟨r,H⟩ : ∃ r,jK a b = r := ⟨_,rfl⟩
 rw [H]
 unfold jK at H
 refine PH.aD Tryz.func106 Tryz.ntmps106 ?_
 refine ab (ac (aV ?_))
 refine aV ?_
 refine ao tk rfl (af (ab (ab (ac (al 4 tk rfl ?_)))))
 obtain ⟨x11,h11,H⟩ := bw H
 have s11 := kC a.kind b.kind
 rw [h11] at s11
 refine aq Tryz.call107 (iR.r) s11 ?_
 refine ao tk rfl (af (aw 2 tk rfl ?_))
 refine aP rfl H (fun H=>?_) (fun H=>?_)
 ·refine aw 2 tk rfl ?_
  subst H
  refine aC tk rfl (ps := [(ae x11)]) ⟨_,_,rfl,rfl,rfl⟩ (PLe.q rfl)
 refine av (ab (ab (ac (al 4 tk rfl ?_))))
 obtain ⟨x19,h19,H⟩ := bw H
 have s19 := kC a.int b.int
 rw [h19] at s19
 refine aq Tryz.call107 (iR.r) s19 ?_
 refine ao tk rfl (af (aw 2 tk rfl ?_))
 refine aP rfl H (fun H=>?_) (fun H=>?_)
 ·refine aw 2 tk rfl ?_
  subst H
  refine aC tk rfl (ps := [(ae x19)]) ⟨_,_,rfl,rfl,rfl⟩ (PLe.q rfl)
 refine av (ab (ac (al 4 tk rfl ?_)))
 obtain ⟨x27,h27,H⟩ := bw H
 have s27 := rH a.text b.text
 rw [h27] at s27
 refine aq Tryz.call150 (iR.r) s27 ?_
 refine ao tk rfl (af ?_)
 subst H
 refine aC tk rfl (ps := [(ae x27)]) ⟨_,_,rfl,rfl,rfl⟩ (PLe.q rfl)
def kT (a : Rz) (b : Rz) : Option (Rz) :=
 ai (aW (σ := Rz × Rz) (ρ := Empty) (fun (_ : Nat) (x1 : Rq) (s1 : Rz × Rz) =>
  ai (cf s1.1 (fun a0=>jb a0 x1)) fun x20 =>
  ai (cE (x20.2.length = s1.1.length) ()) fun (_ : Unit) =>
  cond (decide (x20.1 ≥ (0 : Int)))
   (ai (delI x20.2 x20.1 (IntKind.i64.wrap (x20.1 + (1 : Int)))) fun x27 =>
   some (.next (x27,s1.2)))
   (ai (dT 24 s1.2 ([x1] : Rz)) fun (x31 : Rz) =>
   some (.next (x20.2,x31)))) 0 a (b,[])) fun fl1=>fl1.thenP fun (s1 : Rz × Rz) =>
 some s1.2
theorem W_query_less (a : Rz) (b : Rz) (r : Rz) (H : kT a b = some r) :
  bc Tryz.prog 133 [(.list 51 (a.map (au 53 ak))),(.list 51 (b.map (au 53 ak)))] (.list 51 (r.map (au 53 ak))) := by
 unfold kT at H
 refine PH.aD Tryz.func133 Tryz.ntmps133 ?_
 refine aw 1 tk rfl (ab (ac (ao tk rfl ?_)))
 have s11 := qb (m := 11) b
 refine ki Tryz.call21 (iR.r) s11 (fun g11=>?_)
 refine ao tk rfl (af (aw 1 tk rfl (ab (ab (ac (ao tk rfl (aN tk (zl _) ?_)))))))
 refine ao tk rfl (af ?_)
 obtain ⟨fl1,H1,Hp1⟩ := ax H
 refine bP tk 12 rfl rfl (fun hz1 _=>?_)
 rw [zl] at hz1
 refine aY (τ := Rz × Rz) (γ := OwnRef × OwnRef) (fun s1 g1=>⟨34,upd (fun _=>.any) 6 (.own 31 g1.2 (s1.2.map (au 53 ak)).length),fun _=>none,upd (fun _=>none) 31 (some ⟨g1.2,51,(s1.2.map (au 53 ak)),true⟩)⟩) (fun t=>fl1 = .next t) ?_ (fun s1 g1 hn1=>?_)
 ·refine az (ic tk 6 31 (e := 51) rfl rfl ?_)
  refine bC (fun j1 s1 g1=>⟨34,upd (upd (upd (upd (upd (fun _=>.any) 14 (ae (j1 : Int))) 13 (ae (a.length : Int))) 12 (.list 51 (a.map (au 53 ak)))) 6 (.own 31 g1.2 (s1.2.map (au 53 ak)).length)) 5 (.own 11 g1.1 (s1.1.map (au 53 ak)).length),fun _=>none,upd (upd (fun _=>none) 31 (some ⟨g1.2,51,(s1.2.map (au 53 ak)),true⟩)) 11 (some ⟨g1.1,51,(s1.1.map (au 53 ak)),true⟩)⟩) (g11,⟨none,0⟩) H1 (Gh.le (aa (aa (aa (aa (aa aj))))) ah (ay (ay ag))) (fun j1 s1 g1 hj1 hr1=>?_)
  refine aw 1 tk rfl (ab ?_)
  refine aZ rfl (fun h=>?_) (fun h=>?_)
  ·have hl1 := co h
   obtain ⟨x1,fb1,hx1,H,hg1⟩ := rMc hl1 hr1
   refine av (ab (az (ab (ac ?_))))
   refine bs tk (zn j1) (bO (fun _=>rfl) hx1) ?_
   refine ao tk rfl ?_
   refine bu tk fun b8=>?_
   refine aE tk ?_
   refine af (ab (ab (ac (ao tk rfl (cw (Gh.freezeB 8 rfl rfl rfl rfl) (ao tk rfl ?_))))))
   obtain ⟨x20,h20,H⟩ := ax H
   have s20 := fN g1.1 s1.1 (fun a0=>jb a0 x1) Tryz.call169 (fun a0 r h=>W_query_less_1 a0 x1 r h) _ h20
   obtain ⟨_,q20_0,H⟩ := ax H
   have l20_0 := (bI q20_0).1
   have z20_0 : (List.map (au 53 ak) s1.1).length = (List.map (au 53 ak) x20.2).length := by simpa using (l20_0).symm
   refine ci (g := 22) rfl rfl rfl Tryz.call22 [] [(11,0)] rfl rfl rfl rfl (iR.of2 (iG.cons (PLe2.own rfl) (iG.cons (PLe2.of_eq rfl) iG.nil))) (by rw [bS,bJ,bR]; rfl) s20 ?_
   rintro u20 H20h ⟨rfl,rfl⟩
   refine ⟨_,rfl,?_⟩
   refine cw (st' := ⟨_,_,fun _=>none,upd (upd (fun _=>none) 31 (some ⟨g1.2,51,(s1.2.map (au 53 ak)),true⟩)) 11 (some ⟨g1.1,51,(x20.2.map (au 53 ak)),true⟩)⟩) (Gh.le (bQ _ _) ah (ay (ay ag))) ?_
   refine ao tk rfl (af (aw 2 tk rfl ?_))
   refine aP rfl H (fun H=>?_) (fun H=>?_)
   ·refine ab (ac (al 4 tk rfl ?_))
    obtain ⟨x27,h27,H⟩ := ax H
    have s27 := W_delete_25 g1.1 x20.2 x20.1 (IntKind.i64.wrap (x20.1 + (1 : Int))) _ h27
    refine ci (g := 25) rfl rfl rfl Tryz.call25 [] [(11,0)] rfl rfl rfl rfl (iR.of2 (iG.cons (PLe2.own z20_0) (iG.cons (PLe2.of_eq rfl) (iG.cons (PLe2.of_eq rfl) iG.nil)))) (by rw [bS,bJ,bR]; rfl) s27 ?_
    rintro u27 H27h ⟨rfl,rfl⟩
    refine ⟨_,rfl,?_⟩
    refine cw (st' := ⟨_,_,fun _=>none,upd (upd (fun _=>none) 31 (some ⟨g1.2,51,(s1.2.map (au 53 ak)),true⟩)) 11 (some ⟨g1.1,51,(x27.map (au 53 ak)),true⟩)⟩) (Gh.le (bQ _ _) ah (ay (ay ag))) ?_
    refine lc 27 (q := (.own 11 g1.1 (x27.map (au 53 ak)).length)) rfl (PLe.of2 (PLe2.own rfl)) (ao tk rfl (af (aO rfl (bm 2 tk rfl ?_))))
    obtain rfl := am H
    refine aK (x27,s1.2) (g1.1,g1.2) ⟨hl1,hg1⟩ (Gh.le (aa (aa (aa (aa (aH (PLe.q (aU (by omega))) aj))))) ah (ay (ay ag)))
   refine av (ac (al 2 tk rfl (cQ tk (rows' := List.map (au 53 ak) ([x1] : Rz)) (kj.refl _) ?_)))
   obtain ⟨x31,h31,H⟩ := ax H
   have k31 := cY h31
   refine cZ (rows2' := List.map (au 53 ak) ([x1] : Rz)) (rows' := List.map (au 53 ak) x31) tk rfl rfl rfl rfl rfl rfl rfl rfl rfl rfl rfl rfl rfl (kj.refl _) (et k31.1) (ew k31.2.1) (ez k31.2.2) fun g31=>?_
   refine ao tk rfl (af (aR (bm 2 tk rfl ?_)))
   obtain rfl := am H
   refine aK (x20.2,x31) (g1.1,g31) ⟨hl1,hg1⟩ (Gh.le (aH (PLe.of2 (PLe2.of_eq (congrArg (PV.own 11 g1.1) z20_0))) (aa (aa (aa (aH (PLe.q (aU (by omega))) aj))))) ah (ay (ay ag)))
  have hn1 := rMd (cp h) hr1
  refine aO rfl ?_
  refine aQ s1 g1 hn1 (Gh.le (aa aj) ah (ay ag))
 have H := bn hn1 Hp1
 refine aw 2 tk rfl ?_
 obtain rfl := am H
 refine dX 4 rfl rfl rfl ?_
 refine aC tk rfl (ps := [(.list 51 (s1.2.map (au 53 ak)))]) ⟨_,_,rfl,rfl,rfl⟩ (PLe.q rfl)
def cW (rec204 : Rz → Int → Int → Int → Option (Rz)) (data : Rz) (a : Int) (m : Int) (b : Int) (cmp : Rq → Rq → Option (Int)) : Option (Rz) :=
 cond ((IntKind.i64.wrap (m - a)) == (1 : Int))
  (ai (whileM (σ := Rz × Int × Int) (ρ := Empty) (fun (s1 : Rz × Int × Int) =>
   cond (decide (s1.2.1 < s1.2.2))
    (ai (aG s1.1 (IntKind.i64.wrap (Int.fdiv (IntKind.u64.wrap (IntKind.i64.wrap (s1.2.1 + s1.2.2))) (2 ^ 1)))) fun (x43 : Rq) =>
    ai (aG s1.1 a) fun (x47 : Rq) =>
    ai (cmp x43 x47) fun x49 =>
    cond (decide (x49 < (0 : Int)))
     (some (.next (s1.1,(IntKind.i64.wrap ((IntKind.i64.wrap (Int.fdiv (IntKind.u64.wrap (IntKind.i64.wrap (s1.2.1 + s1.2.2))) (2 ^ 1))) + (1 : Int))),s1.2.2)))
     (some (.next (s1.1,s1.2.1,(IntKind.i64.wrap (Int.fdiv (IntKind.u64.wrap (IntKind.i64.wrap (s1.2.1 + s1.2.2))) (2 ^ 1)))))))
    (some (.brk (s1.1,s1.2.1,s1.2.2)))) (data,m,b)) fun fl1=>fl1.thenP fun (s1 : Rz × Int × Int) =>
  ai (whileM (σ := Rz × Int) (ρ := Empty) (fun (s2 : Rz × Int) =>
   cond (decide (s2.2 < (IntKind.i64.wrap (s1.2.1 - (1 : Int)))))
    (ai (aG s2.1 (IntKind.i64.wrap (s2.2 + (1 : Int)))) fun (x69 : Rq) =>
    ai (aG s2.1 s2.2) fun (x73 : Rq) =>
    ai (aG s2.1 s2.2) fun (_ : Rq) =>
    bf (s2.1.set s2.2.toNat x69) fun (y7 : Rz) =>
    ai (aG y7 (IntKind.i64.wrap (s2.2 + (1 : Int)))) fun (_ : Rq) =>
    bf (y7.set ((IntKind.i64.wrap (s2.2 + (1 : Int))).toNat) x73) fun (y8 : Rz) =>
    some (.next (y8,(IntKind.i64.wrap (s2.2 + (1 : Int))))))
    (some (.brk (s2.1,s2.2)))) (s1.1,a)) fun fl2=>fl2.thenP fun (s2 : Rz × Int) =>
  some s2.1)
  (cond ((IntKind.i64.wrap (b - m)) == (1 : Int))
   (ai (whileM (σ := Rz × Int × Int) (ρ := Empty) (fun (s9 : Rz × Int × Int) =>
    cond (decide (s9.2.1 < s9.2.2))
     (ai (aG s9.1 m) fun (x95 : Rq) =>
     ai (aG s9.1 (IntKind.i64.wrap (Int.fdiv (IntKind.u64.wrap (IntKind.i64.wrap (s9.2.1 + s9.2.2))) (2 ^ 1)))) fun (x99 : Rq) =>
     ai (cmp x95 x99) fun x101 =>
     cond (!(decide (x101 < (0 : Int))))
      (some (.next (s9.1,(IntKind.i64.wrap ((IntKind.i64.wrap (Int.fdiv (IntKind.u64.wrap (IntKind.i64.wrap (s9.2.1 + s9.2.2))) (2 ^ 1))) + (1 : Int))),s9.2.2)))
      (some (.next (s9.1,s9.2.1,(IntKind.i64.wrap (Int.fdiv (IntKind.u64.wrap (IntKind.i64.wrap (s9.2.1 + s9.2.2))) (2 ^ 1)))))))
     (some (.brk (s9.1,s9.2.1,s9.2.2)))) (data,a,m)) fun fl9=>fl9.thenP fun (s9 : Rz × Int × Int) =>
   ai (whileM (σ := Rz × Int) (ρ := Empty) (fun (s10 : Rz × Int) =>
    cond (decide (s10.2 > s9.2.1))
     (ai (aG s10.1 (IntKind.i64.wrap (s10.2 - (1 : Int)))) fun (x121 : Rq) =>
     ai (aG s10.1 s10.2) fun (x125 : Rq) =>
     ai (aG s10.1 s10.2) fun (_ : Rq) =>
     bf (s10.1.set s10.2.toNat x121) fun (y15 : Rz) =>
     ai (aG y15 (IntKind.i64.wrap (s10.2 - (1 : Int)))) fun (_ : Rq) =>
     bf (y15.set ((IntKind.i64.wrap (s10.2 - (1 : Int))).toNat) x125) fun (y16 : Rz) =>
     some (.next (y16,(IntKind.i64.wrap (s10.2 - (1 : Int))))))
     (some (.brk (s10.1,s10.2)))) (s9.1,m)) fun fl10=>fl10.thenP fun (s10 : Rz × Int) =>
   some s10.1)
   (bf (
    cond (decide (m > (IntKind.i64.wrap (Int.fdiv (IntKind.u64.wrap (IntKind.i64.wrap (a + b))) (2 ^ 1)))))
     ((data,(IntKind.i64.wrap ((IntKind.i64.wrap ((IntKind.i64.wrap (Int.fdiv (IntKind.u64.wrap (IntKind.i64.wrap (a + b))) (2 ^ 1))) + m)) - b)),(IntKind.i64.wrap (Int.fdiv (IntKind.u64.wrap (IntKind.i64.wrap (a + b))) (2 ^ 1)))))
     ((data,a,m))) fun (t17 : Rz × Int × Int) =>
   ai (whileM (σ := Rz × Int × Int) (ρ := Empty) (fun (s18 : Rz × Int × Int) =>
    cond (decide (s18.2.1 < s18.2.2))
     (ai (aG s18.1 (IntKind.i64.wrap ((IntKind.i64.wrap ((IntKind.i64.wrap ((IntKind.i64.wrap (Int.fdiv (IntKind.u64.wrap (IntKind.i64.wrap (a + b))) (2 ^ 1))) + m)) - (1 : Int))) - (IntKind.i64.wrap (Int.fdiv (IntKind.u64.wrap (IntKind.i64.wrap (s18.2.1 + s18.2.2))) (2 ^ 1)))))) fun (x163 : Rq) =>
     ai (aG s18.1 (IntKind.i64.wrap (Int.fdiv (IntKind.u64.wrap (IntKind.i64.wrap (s18.2.1 + s18.2.2))) (2 ^ 1)))) fun (x167 : Rq) =>
     ai (cmp x163 x167) fun x169 =>
     cond (!(decide (x169 < (0 : Int))))
      (some (.next (s18.1,(IntKind.i64.wrap ((IntKind.i64.wrap (Int.fdiv (IntKind.u64.wrap (IntKind.i64.wrap (s18.2.1 + s18.2.2))) (2 ^ 1))) + (1 : Int))),s18.2.2)))
      (some (.next (s18.1,s18.2.1,(IntKind.i64.wrap (Int.fdiv (IntKind.u64.wrap (IntKind.i64.wrap (s18.2.1 + s18.2.2))) (2 ^ 1)))))))
     (some (.brk (s18.1,s18.2.1,s18.2.2)))) (t17.1,t17.2.1,t17.2.2)) fun fl18=>fl18.thenP fun (s18 : Rz × Int × Int) =>
   bf (
    cond (decide (s18.2.1 < m))
     ((s18.1,(decide (m < (IntKind.i64.wrap ((IntKind.i64.wrap ((IntKind.i64.wrap (Int.fdiv (IntKind.u64.wrap (IntKind.i64.wrap (a + b))) (2 ^ 1))) + m)) - s18.2.1))))))
     ((s18.1,false))) fun (t19 : Rz × Bool) =>
   ai (
    cond t19.2
     (ai (dM t19.1 s18.2.1 m (IntKind.i64.wrap ((IntKind.i64.wrap ((IntKind.i64.wrap (Int.fdiv (IntKind.u64.wrap (IntKind.i64.wrap (a + b))) (2 ^ 1))) + m)) - s18.2.1)) cmp) fun x191 =>
     ai (cE (x191.length = t19.1.length) ()) fun (_ : Unit) =>
     some x191)
     (some t19.1)) fun (t20 : Rz) =>
   bf (
    cond (decide (a < s18.2.1))
     ((t20,(decide (s18.2.1 < (IntKind.i64.wrap (Int.fdiv (IntKind.u64.wrap (IntKind.i64.wrap (a + b))) (2 ^ 1)))))))
     ((t20,false))) fun (t21 : Rz × Bool) =>
   ai (
    cond t21.2
     (ai (rec204 t21.1 a s18.2.1 (IntKind.i64.wrap (Int.fdiv (IntKind.u64.wrap (IntKind.i64.wrap (a + b))) (2 ^ 1)))) fun x205 =>
     ai (cE (x205.length = t21.1.length) ()) fun (_ : Unit) =>
     some x205)
     (some t21.1)) fun (t22 : Rz) =>
   cond (decide ((IntKind.i64.wrap (Int.fdiv (IntKind.u64.wrap (IntKind.i64.wrap (a + b))) (2 ^ 1))) < (IntKind.i64.wrap ((IntKind.i64.wrap ((IntKind.i64.wrap (Int.fdiv (IntKind.u64.wrap (IntKind.i64.wrap (a + b))) (2 ^ 1))) + m)) - s18.2.1))))
    (cond (decide ((IntKind.i64.wrap ((IntKind.i64.wrap ((IntKind.i64.wrap (Int.fdiv (IntKind.u64.wrap (IntKind.i64.wrap (a + b))) (2 ^ 1))) + m)) - s18.2.1)) < b))
     (ai (rec204 t22 (IntKind.i64.wrap (Int.fdiv (IntKind.u64.wrap (IntKind.i64.wrap (a + b))) (2 ^ 1))) (IntKind.i64.wrap ((IntKind.i64.wrap ((IntKind.i64.wrap (Int.fdiv (IntKind.u64.wrap (IntKind.i64.wrap (a + b))) (2 ^ 1))) + m)) - s18.2.1)) b) fun x219 =>
     ai (cE (x219.length = t22.length) ()) fun (_ : Unit) =>
     some x219)
     (some t22))
    (some t22)))
theorem lk (g_data : OwnRef) {g_cmp : FuncId} {caps_cmp : List PV} (rec204 : Rz → Int → Int → Int → Option (Rz)) (hrec204 : ∀ g0 a0 a1 a2 a3 r,rec204 a0 a1 a2 a3 = some r → PH Tryz.prog 204 [(.own 0 g0 (a0.map (au 53 ak)).length),(ae a1),(ae a2),(ae a3),(.fn g_cmp caps_cmp)] ⟨fun _=>none,upd (fun _=>none) 0 (some ⟨g0,51,(a0.map (au 53 ak)),true⟩)⟩ (fun u H=>u = (.tup []) ∧ H = ⟨fun _=>none,upd (fun _=>none) 0 (some ⟨g0,51,(r.map (au 53 ak)),true⟩)⟩)) (data : Rz) (a : Int) (m : Int) (b : Int) (cmp : Rq → Rq → Option (Int)) (hg_cmp : ∀ (vs : Array Value) (w : World),(callFunc g_cmp vs).run Tryz.prog w = .ok (.enter g_cmp vs) w) (hp_cmp : ∀ a0 a1 r,cmp a0 a1 = some r → bc Tryz.prog g_cmp ((.list 53 (a0.map ak)) :: (.list 53 (a1.map ak)) :: caps_cmp) (ae r)) (r : Rz) (H : cW rec204 data a m b cmp = some r) :
  PH Tryz.prog 204 [(.own 0 g_data (data.map (au 53 ak)).length),(ae a),(ae m),(ae b),(.fn g_cmp caps_cmp)] ⟨fun _=>none,upd (fun _=>none) 0 (some ⟨g_data,51,(data.map (au 53 ak)),true⟩)⟩ (fun u H=>u = (.tup []) ∧ H = ⟨fun _=>none,upd (fun _=>none) 0 (some ⟨g_data,51,(r.map (au 53 ak)),true⟩)⟩) := by
 unfold cW at H
 refine PH.aD Tryz.func204 Tryz.ntmps204 ?_
 refine ab (aw 4 tk rfl ?_)
 refine aP rfl H (fun H=>?_) (fun H=>?_)
 ·refine aw 2 tk rfl (aw 2 tk rfl (ab ?_))
  obtain ⟨fl1,H1,Hp1⟩ := ax H
  refine aY (τ := Rz × Int × Int) (γ := Unit) (fun s1 g1=>⟨220,upd (upd (upd (fun _=>.any) 10 (ae s1.2.1)) 1 (ae a)) 0 (.own 0 g_data (s1.1.map (au 53 ak)).length),fun _=>none,upd (fun _=>none) 0 (some ⟨g_data,51,(s1.1.map (au 53 ak)),true⟩)⟩) (fun t=>fl1 = .next t) ?_ (fun s1 g1 hn1=>?_)
  ·refine az ?_
   refine cA (fun s1 g1=>⟨220,upd (upd (upd (upd (upd (fun _=>.any) 11 (ae s1.2.2)) 10 (ae s1.2.1)) 4 (.fn g_cmp caps_cmp)) 1 (ae a)) 0 (.own 0 g_data (s1.1.map (au 53 ak)).length),fun _=>none,upd (fun _=>none) 0 (some ⟨g_data,51,(s1.1.map (au 53 ak)),true⟩)⟩) () H1 (Gh.le (aa (aa (aa (aa (aa aj))))) ah (ay ag)) (fun m1 s1 g1 hr1=>?_)
   obtain ⟨fb1,H,hg1⟩ := bZ hr1
   refine ab (aw 3 tk rfl ?_)
   refine aP rfl H (fun H=>?_) (fun H=>?_)
   ·refine av (az (ab (ac (al 4 tk rfl (oK (m := 1) rfl rfl rfl rfl (by decide) rfl rfl (al 2 tk rfl (af (ab ?_))))))))
    refine cK (tag := 0) rfl (fun ho0=>?_)
    refine bo tk mok ⟨false,true,[]⟩ [0,1,2,3,4,5,6,7,8,9,10] rfl (by decide +kernel) rfl (aL 3 rfl ?_)
    obtain ⟨x43,k43,H⟩ := aX H
    refine aS tk ⟨k43.1,(bl k43.2)⟩ (bi ho0 k43.2) ?_
    refine bd tk (aI (fun _=>rfl) k43.2) ?_
    refine aL 2 rfl ?_
    obtain ⟨x47,k47,H⟩ := aX H
    refine aS tk ⟨k47.1,(bl k47.2)⟩ (bi ho0 k47.2) ?_
    refine bd tk (aI (fun _=>rfl) k47.2) ?_
    obtain ⟨x49,h49,H⟩ := ax H
    refine bj hg_cmp (iR.r) (hp_cmp _ _ _ h49) ?_
    refine cq rfl (bh ?_)
    refine aP rfl H (fun H=>?_) (fun H=>?_)
    ·refine bm 3 tk rfl (aR ?_)
     obtain rfl := am H
     refine aK (s1.1,(IntKind.i64.wrap ((IntKind.i64.wrap (Int.fdiv (IntKind.u64.wrap (IntKind.i64.wrap (s1.2.1 + s1.2.2))) (2 ^ 1))) + (1 : Int))),s1.2.2) () hg1 (Gh.le (aa (aa (aa (aa (aa aj))))) ah (ay ag))
    refine bm 2 tk rfl (aR ?_)
    obtain rfl := am H
    refine aK (s1.1,s1.2.1,(IntKind.i64.wrap (Int.fdiv (IntKind.u64.wrap (IntKind.i64.wrap (s1.2.1 + s1.2.2))) (2 ^ 1)))) () hg1 (Gh.le (aa (aa (aa (aa (aa aj))))) ah (ay ag))
   refine aO rfl ?_
   obtain rfl := am H
   refine aQ (s1.1,s1.2.1,s1.2.2) () hg1 (Gh.le (aa (aa (aa aj))) ah (ay ag))
  have H := bn hn1 Hp1
  refine ab (aw 2 tk rfl ?_)
  obtain ⟨fl2,H2,Hp2⟩ := ax H
  refine aY (τ := Rz × Int) (γ := Unit) (fun s2 g2=>⟨220,upd (fun _=>.any) 0 (.own 0 g_data (s2.1.map (au 53 ak)).length),fun _=>none,upd (fun _=>none) 0 (some ⟨g_data,51,(s2.1.map (au 53 ak)),true⟩)⟩) (fun t=>fl2 = .next t) ?_ (fun s2 g2 hn2=>?_)
  ·refine az ?_
   refine cA (fun s2 g2=>⟨220,upd (upd (upd (fun _=>.any) 13 (ae s2.2)) 10 (ae s1.2.1)) 0 (.own 0 g_data (s2.1.map (au 53 ak)).length),fun _=>none,upd (fun _=>none) 0 (some ⟨g_data,51,(s2.1.map (au 53 ak)),true⟩)⟩) () H2 (Gh.le (aa (aa (aa aj))) ah (ay ag)) (fun m2 s2 g2 hr2=>?_)
   obtain ⟨fb2,H,hg2⟩ := bZ hr2
   refine ab (aw 4 tk rfl ?_)
   refine aP rfl H (fun H=>?_) (fun H=>?_)
   ·refine av (ab (az ?_))
    refine cK (tag := 0) rfl (fun ho0=>?_)
    refine bo tk mok ⟨false,true,[]⟩ [0,1,2,3,4,5,6,7,8,9,10,11,12,13,14,15,16,17] rfl (by decide +kernel) rfl (aL 8 rfl ?_)
    obtain ⟨x69,k69,H⟩ := aX H
    refine aS tk ⟨k69.1,(bl k69.2)⟩ (bi ho0 k69.2) ?_
    refine bd tk (aI (fun _=>rfl) k69.2) ?_
    refine aL 2 rfl ?_
    obtain ⟨x73,k73,H⟩ := aX H
    refine aS tk ⟨k73.1,(bl k73.2)⟩ (bi ho0 k73.2) ?_
    refine bd tk (aI (fun _=>rfl) k73.2) ?_
    obtain ⟨x75,k75,H⟩ := aX H
    refine aS tk ⟨k75.1,(bl k75.2)⟩ (bi ho0 k75.2) ?_
    obtain ⟨y7,hy7,H⟩ := bw H
    refine cg tk rfl rfl rfl rfl rfl rfl rfl rfl rfl (by rw [zl]; exact (zg.1 k75.2).1) (PLe.refl _ _) rfl rfl rfl rfl (by decide) (bG (fun _=>rfl) k75.2 rfl hy7) ?_
    obtain ⟨x76,k76,H⟩ := aX H
    refine aS tk ⟨k76.1,(gg (bq (f := (au 53 ak)) hy7) k76.2)⟩ (gc ho0 (bq (f := (au 53 ak)) hy7) k76.2) ?_
    obtain ⟨y8,hy8,H⟩ := bw H
    refine cg tk rfl rfl rfl rfl rfl rfl rfl rfl rfl (by rw [zl]; exact (zg.1 k76.2).1) (PLe.refl _ _) rfl rfl rfl rfl (by decide) (bG (fun _=>rfl) k76.2 rfl hy8) ?_
    refine bh (aR (bm 3 tk rfl ?_))
    obtain rfl := am H
    refine aK (y8,(IntKind.i64.wrap (s2.2 + (1 : Int)))) () hg2 (Gh.le (aH (PLe.of2 (PLe2.of_eq (congrArg (PV.own 0 g_data) ((bq (f := (au 53 ak)) hy7).trans (bq (f := (au 53 ak)) hy8))))) (aa (aa aj))) ah (ay ag))
   refine aO rfl ?_
   obtain rfl := am H
   refine aQ (s2.1,s2.2) () hg2 (Gh.le (aa aj) ah (ay ag))
  have H := bn hn2 Hp2
  obtain rfl := am H
  refine dq (st' := ⟨220,fun _=>.any,fun _=>none,upd (fun _=>none) 0 (some ⟨g_data,51,(s2.1.map (au 53 ak)),true⟩)⟩) (Gh.le aj ah (ay ag)) ?_
  refine eH tk rfl (ps := []) rfl (PLe.q rfl) ⟨rfl,rfl⟩
 refine av (ab (aw 4 tk rfl ?_))
 refine aP rfl H (fun H=>?_) (fun H=>?_)
 ·refine aw 2 tk rfl (aw 2 tk rfl (ab ?_))
  obtain ⟨fl9,H9,Hp9⟩ := ax H
  refine aY (τ := Rz × Int × Int) (γ := Unit) (fun s9 g9=>⟨220,upd (upd (upd (fun _=>.any) 14 (ae s9.2.1)) 2 (ae m)) 0 (.own 0 g_data (s9.1.map (au 53 ak)).length),fun _=>none,upd (fun _=>none) 0 (some ⟨g_data,51,(s9.1.map (au 53 ak)),true⟩)⟩) (fun t=>fl9 = .next t) ?_ (fun s9 g9 hn9=>?_)
  ·refine az ?_
   refine cA (fun s9 g9=>⟨220,upd (upd (upd (upd (upd (fun _=>.any) 15 (ae s9.2.2)) 14 (ae s9.2.1)) 4 (.fn g_cmp caps_cmp)) 2 (ae m)) 0 (.own 0 g_data (s9.1.map (au 53 ak)).length),fun _=>none,upd (fun _=>none) 0 (some ⟨g_data,51,(s9.1.map (au 53 ak)),true⟩)⟩) () H9 (Gh.le (aa (aa (aa (aa (aa aj))))) ah (ay ag)) (fun m9 s9 g9 hr9=>?_)
   obtain ⟨fb9,H,hg9⟩ := bZ hr9
   refine ab (aw 3 tk rfl ?_)
   refine aP rfl H (fun H=>?_) (fun H=>?_)
   ·refine av (az (ab (ac (al 4 tk rfl (oK (m := 1) rfl rfl rfl rfl (by decide) rfl rfl (al 2 tk rfl (af (ab ?_))))))))
    refine cK (tag := 0) rfl (fun ho0=>?_)
    refine bo tk mok ⟨false,true,[]⟩ [0,1,2,3,4,5,6,7,8,9,10,11] rfl (by decide +kernel) rfl (aL 3 rfl ?_)
    obtain ⟨x95,k95,H⟩ := aX H
    refine aS tk ⟨k95.1,(bl k95.2)⟩ (bi ho0 k95.2) ?_
    refine bd tk (aI (fun _=>rfl) k95.2) ?_
    refine aL 2 rfl ?_
    obtain ⟨x99,k99,H⟩ := aX H
    refine aS tk ⟨k99.1,(bl k99.2)⟩ (bi ho0 k99.2) ?_
    refine bd tk (aI (fun _=>rfl) k99.2) ?_
    obtain ⟨x101,h101,H⟩ := ax H
    refine bj hg_cmp (iR.r) (hp_cmp _ _ _ h101) ?_
    refine aL 2 rfl (bh ?_)
    refine aP rfl H (fun H=>?_) (fun H=>?_)
    ·refine bm 3 tk rfl (aR ?_)
     obtain rfl := am H
     refine aK (s9.1,(IntKind.i64.wrap ((IntKind.i64.wrap (Int.fdiv (IntKind.u64.wrap (IntKind.i64.wrap (s9.2.1 + s9.2.2))) (2 ^ 1))) + (1 : Int))),s9.2.2) () hg9 (Gh.le (aa (aa (aa (aa (aa aj))))) ah (ay ag))
    refine bm 2 tk rfl (aR ?_)
    obtain rfl := am H
    refine aK (s9.1,s9.2.1,(IntKind.i64.wrap (Int.fdiv (IntKind.u64.wrap (IntKind.i64.wrap (s9.2.1 + s9.2.2))) (2 ^ 1)))) () hg9 (Gh.le (aa (aa (aa (aa (aa aj))))) ah (ay ag))
   refine aO rfl ?_
   obtain rfl := am H
   refine aQ (s9.1,s9.2.1,s9.2.2) () hg9 (Gh.le (aa (aa (aa aj))) ah (ay ag))
  have H := bn hn9 Hp9
  refine ab (aw 2 tk rfl ?_)
  obtain ⟨fl10,H10,Hp10⟩ := ax H
  refine aY (τ := Rz × Int) (γ := Unit) (fun s10 g10=>⟨220,upd (fun _=>.any) 0 (.own 0 g_data (s10.1.map (au 53 ak)).length),fun _=>none,upd (fun _=>none) 0 (some ⟨g_data,51,(s10.1.map (au 53 ak)),true⟩)⟩) (fun t=>fl10 = .next t) ?_ (fun s10 g10 hn10=>?_)
  ·refine az ?_
   refine cA (fun s10 g10=>⟨220,upd (upd (upd (fun _=>.any) 17 (ae s10.2)) 14 (ae s9.2.1)) 0 (.own 0 g_data (s10.1.map (au 53 ak)).length),fun _=>none,upd (fun _=>none) 0 (some ⟨g_data,51,(s10.1.map (au 53 ak)),true⟩)⟩) () H10 (Gh.le (aa (aa (aa aj))) ah (ay ag)) (fun m10 s10 g10 hr10=>?_)
   obtain ⟨fb10,H,hg10⟩ := bZ hr10
   refine ab (aw 3 tk rfl ?_)
   refine aP rfl H (fun H=>?_) (fun H=>?_)
   ·refine av (ab (az ?_))
    refine cK (tag := 0) rfl (fun ho0=>?_)
    refine bo tk mok ⟨false,true,[]⟩ [0,1,2,3,4,5,6,7,8,9,10,11,12,13,14,15,16,17] rfl (by decide +kernel) rfl (aL 8 rfl ?_)
    obtain ⟨x121,k121,H⟩ := aX H
    refine aS tk ⟨k121.1,(bl k121.2)⟩ (bi ho0 k121.2) ?_
    refine bd tk (aI (fun _=>rfl) k121.2) ?_
    refine aL 2 rfl ?_
    obtain ⟨x125,k125,H⟩ := aX H
    refine aS tk ⟨k125.1,(bl k125.2)⟩ (bi ho0 k125.2) ?_
    refine bd tk (aI (fun _=>rfl) k125.2) ?_
    obtain ⟨x127,k127,H⟩ := aX H
    refine aS tk ⟨k127.1,(bl k127.2)⟩ (bi ho0 k127.2) ?_
    obtain ⟨y15,hy15,H⟩ := bw H
    refine cg tk rfl rfl rfl rfl rfl rfl rfl rfl rfl (by rw [zl]; exact (zg.1 k127.2).1) (PLe.refl _ _) rfl rfl rfl rfl (by decide) (bG (fun _=>rfl) k127.2 rfl hy15) ?_
    obtain ⟨x128,k128,H⟩ := aX H
    refine aS tk ⟨k128.1,(gg (bq (f := (au 53 ak)) hy15) k128.2)⟩ (gc ho0 (bq (f := (au 53 ak)) hy15) k128.2) ?_
    obtain ⟨y16,hy16,H⟩ := bw H
    refine cg tk rfl rfl rfl rfl rfl rfl rfl rfl rfl (by rw [zl]; exact (zg.1 k128.2).1) (PLe.refl _ _) rfl rfl rfl rfl (by decide) (bG (fun _=>rfl) k128.2 rfl hy16) ?_
    refine bh (aR (bm 3 tk rfl ?_))
    obtain rfl := am H
    refine aK (y16,(IntKind.i64.wrap (s10.2 - (1 : Int)))) () hg10 (Gh.le (aH (PLe.of2 (PLe2.of_eq (congrArg (PV.own 0 g_data) ((bq (f := (au 53 ak)) hy15).trans (bq (f := (au 53 ak)) hy16))))) (aa (aa aj))) ah (ay ag))
   refine aO rfl ?_
   obtain rfl := am H
   refine aQ (s10.1,s10.2) () hg10 (Gh.le (aa aj) ah (ay ag))
  have H := bn hn10 Hp10
  obtain rfl := am H
  refine dq (st' := ⟨220,fun _=>.any,fun _=>none,upd (fun _=>none) 0 (some ⟨g_data,51,(s10.1.map (au 53 ak)),true⟩)⟩) (Gh.le aj ah (ay ag)) ?_
  refine eH tk rfl (ps := []) rfl (PLe.q rfl) ⟨rfl,rfl⟩
 refine av (ab (ac (al 4 tk rfl (oK (m := 1) rfl rfl rfl rfl (by decide) rfl rfl (al 2 tk rfl (af (aw 4 tk rfl (aw 2 tk rfl (ab (aw 3 tk rfl ?_))))))))))
 obtain ⟨fl17,H17,Hp17⟩ := bw H
 refine aY (τ := Rz × Int × Int) (γ := Unit) (fun t17 g17=>⟨220,upd (upd (upd (upd (upd (upd (upd (upd (upd (fun _=>.any) 21 (ae t17.2.2)) 20 (ae t17.2.1)) 19 (ae (IntKind.i64.wrap ((IntKind.i64.wrap (Int.fdiv (IntKind.u64.wrap (IntKind.i64.wrap (a + b))) (2 ^ 1))) + m)))) 18 (ae (IntKind.i64.wrap (Int.fdiv (IntKind.u64.wrap (IntKind.i64.wrap (a + b))) (2 ^ 1))))) 4 (.fn g_cmp caps_cmp)) 3 (ae b)) 2 (ae m)) 1 (ae a)) 0 (.own 0 g_data (t17.1.map (au 53 ak)).length),fun _=>none,upd (fun _=>none) 0 (some ⟨g_data,51,(t17.1.map (au 53 ak)),true⟩)⟩) (fun t=>t = fl17) ?_ (fun t17 g17 hn17=>?_)
 ·have H := H17
  refine aP rfl H (fun H=>?_) (fun H=>?_)
  ·refine aw 4 tk rfl (bm 2 tk rfl ?_)
   subst H
   refine aQ (data,(IntKind.i64.wrap ((IntKind.i64.wrap ((IntKind.i64.wrap (Int.fdiv (IntKind.u64.wrap (IntKind.i64.wrap (a + b))) (2 ^ 1))) + m)) - b)),(IntKind.i64.wrap (Int.fdiv (IntKind.u64.wrap (IntKind.i64.wrap (a + b))) (2 ^ 1)))) () rfl (Gh.le (aa (aa (aa (aa (aa (aa (aa (aa (aa aj))))))))) ah (ay ag))
  refine aw 2 tk rfl (bm 2 tk rfl ?_)
  subst H
  refine aQ (data,a,m) () rfl (Gh.le (aa (aa (aa (aa (aa (aa (aa (aa (aa aj))))))))) ah (ay ag))
 subst hn17
 have H := Hp17
 refine aw 3 tk rfl (ab ?_)
 obtain ⟨fl18,H18,Hp18⟩ := ax H
 refine aY (τ := Rz × Int × Int) (γ := Unit) (fun s18 g18=>⟨220,upd (upd (upd (upd (upd (upd (upd (upd (fun _=>.any) 20 (ae s18.2.1)) 19 (ae (IntKind.i64.wrap ((IntKind.i64.wrap (Int.fdiv (IntKind.u64.wrap (IntKind.i64.wrap (a + b))) (2 ^ 1))) + m)))) 18 (ae (IntKind.i64.wrap (Int.fdiv (IntKind.u64.wrap (IntKind.i64.wrap (a + b))) (2 ^ 1))))) 4 (.fn g_cmp caps_cmp)) 3 (ae b)) 2 (ae m)) 1 (ae a)) 0 (.own 0 g_data (s18.1.map (au 53 ak)).length),fun _=>none,upd (fun _=>none) 0 (some ⟨g_data,51,(s18.1.map (au 53 ak)),true⟩)⟩) (fun t=>fl18 = .next t) ?_ (fun s18 g18 hn18=>?_)
 ·refine az ?_
  refine cA (fun s18 g18=>⟨220,upd (upd (upd (upd (upd (upd (upd (upd (upd (upd (fun _=>.any) 22 (ae (IntKind.i64.wrap ((IntKind.i64.wrap ((IntKind.i64.wrap (Int.fdiv (IntKind.u64.wrap (IntKind.i64.wrap (a + b))) (2 ^ 1))) + m)) - (1 : Int))))) 21 (ae s18.2.2)) 20 (ae s18.2.1)) 19 (ae (IntKind.i64.wrap ((IntKind.i64.wrap (Int.fdiv (IntKind.u64.wrap (IntKind.i64.wrap (a + b))) (2 ^ 1))) + m)))) 18 (ae (IntKind.i64.wrap (Int.fdiv (IntKind.u64.wrap (IntKind.i64.wrap (a + b))) (2 ^ 1))))) 4 (.fn g_cmp caps_cmp)) 3 (ae b)) 2 (ae m)) 1 (ae a)) 0 (.own 0 g_data (s18.1.map (au 53 ak)).length),fun _=>none,upd (fun _=>none) 0 (some ⟨g_data,51,(s18.1.map (au 53 ak)),true⟩)⟩) () H18 (Gh.le (aa (aa (aa (aa (aa (aa (aa (aa (aa (aa aj)))))))))) ah (ay ag)) (fun m18 s18 g18 hr18=>?_)
  obtain ⟨fb18,H,hg18⟩ := bZ hr18
  refine ab (aw 3 tk rfl ?_)
  refine aP rfl H (fun H=>?_) (fun H=>?_)
  ·refine av (az (ab (ac (al 4 tk rfl (oK (m := 1) rfl rfl rfl rfl (by decide) rfl rfl (al 2 tk rfl (af (ab ?_))))))))
   refine cK (tag := 0) rfl (fun ho0=>?_)
   refine bo tk mok ⟨false,true,[]⟩ [0,1,2,3,4,5,6,7,8,9,10,11,12,13] rfl (by decide +kernel) rfl (aL 5 rfl ?_)
   obtain ⟨x163,k163,H⟩ := aX H
   refine aS tk ⟨k163.1,(bl k163.2)⟩ (bi ho0 k163.2) ?_
   refine bd tk (aI (fun _=>rfl) k163.2) ?_
   refine aL 2 rfl ?_
   obtain ⟨x167,k167,H⟩ := aX H
   refine aS tk ⟨k167.1,(bl k167.2)⟩ (bi ho0 k167.2) ?_
   refine bd tk (aI (fun _=>rfl) k167.2) ?_
   obtain ⟨x169,h169,H⟩ := ax H
   refine bj hg_cmp (iR.r) (hp_cmp _ _ _ h169) ?_
   refine aL 2 rfl (bh ?_)
   refine aP rfl H (fun H=>?_) (fun H=>?_)
   ·refine bm 3 tk rfl (aR ?_)
    obtain rfl := am H
    refine aK (s18.1,(IntKind.i64.wrap ((IntKind.i64.wrap (Int.fdiv (IntKind.u64.wrap (IntKind.i64.wrap (s18.2.1 + s18.2.2))) (2 ^ 1))) + (1 : Int))),s18.2.2) () hg18 (Gh.le (aa (aa (aa (aa (aa (aa (aa (aa (aa (aa aj)))))))))) ah (ay ag))
   refine bm 2 tk rfl (aR ?_)
   obtain rfl := am H
   refine aK (s18.1,s18.2.1,(IntKind.i64.wrap (Int.fdiv (IntKind.u64.wrap (IntKind.i64.wrap (s18.2.1 + s18.2.2))) (2 ^ 1)))) () hg18 (Gh.le (aa (aa (aa (aa (aa (aa (aa (aa (aa (aa aj)))))))))) ah (ay ag))
  refine aO rfl ?_
  obtain rfl := am H
  refine aQ (s18.1,s18.2.1,s18.2.2) () hg18 (Gh.le (aa (aa (aa (aa (aa (aa (aa (aa aj)))))))) ah (ay ag))
 have H := bn hn18 Hp18
 refine aw 4 tk rfl (ab (ab ?_))
 obtain ⟨fl19,H19,Hp19⟩ := bw H
 refine aY (τ := Rz × Bool) (γ := Unit) (fun t19 g19=>⟨220,upd (upd (upd (upd (upd (upd (upd (upd (upd (fun _=>.any) 185 (aF t19.2)) 24 (ae (IntKind.i64.wrap ((IntKind.i64.wrap ((IntKind.i64.wrap (Int.fdiv (IntKind.u64.wrap (IntKind.i64.wrap (a + b))) (2 ^ 1))) + m)) - s18.2.1)))) 20 (ae s18.2.1)) 18 (ae (IntKind.i64.wrap (Int.fdiv (IntKind.u64.wrap (IntKind.i64.wrap (a + b))) (2 ^ 1))))) 4 (.fn g_cmp caps_cmp)) 3 (ae b)) 2 (ae m)) 1 (ae a)) 0 (.own 0 g_data (t19.1.map (au 53 ak)).length),fun _=>none,upd (fun _=>none) 0 (some ⟨g_data,51,(t19.1.map (au 53 ak)),true⟩)⟩) (fun t=>t = fl19) ?_ (fun t19 g19 hn19=>?_)
 ·have H := H19
  refine ac (al 4 tk rfl ?_)
  refine bF rfl rfl rfl H (fun H=>?_) (fun H=>?_)
  ·refine al 4 tk rfl (af ?_)
   subst H
   refine aQ (s18.1,(decide (m < (IntKind.i64.wrap ((IntKind.i64.wrap ((IntKind.i64.wrap (Int.fdiv (IntKind.u64.wrap (IntKind.i64.wrap (a + b))) (2 ^ 1))) + m)) - s18.2.1))))) () rfl (Gh.le (aa (aa (aa (aa (aa (aa (aa (aa (aa aj))))))))) ah (ay ag))
  refine al 4 tk rfl (af ?_)
  subst H
  refine aQ (s18.1,false) () rfl (Gh.le (aa (aa (aa (aa (aa (aa (aa (aa (aa aj))))))))) ah (ay ag))
 subst hn19
 have H := Hp19
 obtain ⟨fl20,H20,Hp20⟩ := ax H
 refine aY (τ := Rz) (γ := Unit) (fun t20 g20=>⟨220,upd (upd (upd (upd (upd (upd (upd (fun _=>.any) 24 (ae (IntKind.i64.wrap ((IntKind.i64.wrap ((IntKind.i64.wrap (Int.fdiv (IntKind.u64.wrap (IntKind.i64.wrap (a + b))) (2 ^ 1))) + m)) - s18.2.1)))) 20 (ae s18.2.1)) 18 (ae (IntKind.i64.wrap (Int.fdiv (IntKind.u64.wrap (IntKind.i64.wrap (a + b))) (2 ^ 1))))) 4 (.fn g_cmp caps_cmp)) 3 (ae b)) 1 (ae a)) 0 (.own 0 g_data (t20.map (au 53 ak)).length),fun _=>none,upd (fun _=>none) 0 (some ⟨g_data,51,(t20.map (au 53 ak)),true⟩)⟩) (fun t=>t = fl20) ?_ (fun t20 g20 hn20=>?_)
 ·have H := H20
  refine aP rfl H (fun H=>?_) (fun H=>?_)
  ·refine ac (al 5 tk rfl ?_)
   obtain ⟨x191,h191,H⟩ := ax H
   have s191 := mr g_data t19.1 s18.2.1 m (IntKind.i64.wrap ((IntKind.i64.wrap ((IntKind.i64.wrap (Int.fdiv (IntKind.u64.wrap (IntKind.i64.wrap (a + b))) (2 ^ 1))) + m)) - s18.2.1)) cmp hg_cmp hp_cmp _ h191
   obtain ⟨_,q191_0,H⟩ := ax H
   have l191_0 := (bI q191_0).1
   have z191_0 : (List.map (au 53 ak) t19.1).length = (List.map (au 53 ak) x191).length := by simpa using (l191_0).symm
   refine ci (g := 211) rfl rfl rfl Tryz.call211 [] [(0,0)] rfl rfl rfl rfl (iR.of2 (iG.cons (PLe2.own rfl) (iG.cons (PLe2.of_eq rfl) (iG.cons (PLe2.of_eq rfl) (iG.cons (PLe2.of_eq rfl) (iG.cons (PLe2.of_eq rfl) iG.nil)))))) (by rw [bS,bJ,bR]; rfl) s191 ?_
   rintro u191 H191h ⟨rfl,rfl⟩
   refine ⟨_,rfl,?_⟩
   refine cw (st' := ⟨_,_,fun _=>none,upd (fun _=>none) 0 (some ⟨g_data,51,(x191.map (au 53 ak)),true⟩)⟩) (Gh.le (bQ _ _) ah (ay ag)) ?_
   refine af ?_
   obtain rfl := am H
   refine aQ x191 () rfl (Gh.le (aH (PLe.of2 (PLe2.of_eq (congrArg (PV.own 0 g_data) z191_0))) (aa (aa (aa (aa (aa (aa aj))))))) ah (ay ag))
  refine av ?_
  obtain rfl := am H
  refine aQ t19.1 () rfl (Gh.le (aa (aa (aa (aa (aa (aa (aa aj))))))) ah (ay ag))
 subst hn20
 have H := Hp20
 refine ab (ab ?_)
 obtain ⟨fl21,H21,Hp21⟩ := bw H
 refine aY (τ := Rz × Bool) (γ := Unit) (fun t21 g21=>⟨220,upd (upd (upd (upd (upd (upd (upd (upd (fun _=>.any) 199 (aF t21.2)) 24 (ae (IntKind.i64.wrap ((IntKind.i64.wrap ((IntKind.i64.wrap (Int.fdiv (IntKind.u64.wrap (IntKind.i64.wrap (a + b))) (2 ^ 1))) + m)) - s18.2.1)))) 20 (ae s18.2.1)) 18 (ae (IntKind.i64.wrap (Int.fdiv (IntKind.u64.wrap (IntKind.i64.wrap (a + b))) (2 ^ 1))))) 4 (.fn g_cmp caps_cmp)) 3 (ae b)) 1 (ae a)) 0 (.own 0 g_data (t21.1.map (au 53 ak)).length),fun _=>none,upd (fun _=>none) 0 (some ⟨g_data,51,(t21.1.map (au 53 ak)),true⟩)⟩) (fun t=>t = fl21) ?_ (fun t21 g21 hn21=>?_)
 ·have H := H21
  refine ac (al 4 tk rfl ?_)
  refine bF rfl rfl rfl H (fun H=>?_) (fun H=>?_)
  ·refine al 4 tk rfl (af ?_)
   subst H
   refine aQ (t20,(decide (s18.2.1 < (IntKind.i64.wrap (Int.fdiv (IntKind.u64.wrap (IntKind.i64.wrap (a + b))) (2 ^ 1)))))) () rfl (Gh.le (aa (aa (aa (aa (aa (aa (aa (aa aj)))))))) ah (ay ag))
  refine al 4 tk rfl (af ?_)
  subst H
  refine aQ (t20,false) () rfl (Gh.le (aa (aa (aa (aa (aa (aa (aa (aa aj)))))))) ah (ay ag))
 subst hn21
 have H := Hp21
 obtain ⟨fl22,H22,Hp22⟩ := ax H
 refine aY (τ := Rz) (γ := Unit) (fun t22 g22=>⟨220,upd (upd (upd (upd (upd (fun _=>.any) 24 (ae (IntKind.i64.wrap ((IntKind.i64.wrap ((IntKind.i64.wrap (Int.fdiv (IntKind.u64.wrap (IntKind.i64.wrap (a + b))) (2 ^ 1))) + m)) - s18.2.1)))) 18 (ae (IntKind.i64.wrap (Int.fdiv (IntKind.u64.wrap (IntKind.i64.wrap (a + b))) (2 ^ 1))))) 4 (.fn g_cmp caps_cmp)) 3 (ae b)) 0 (.own 0 g_data (t22.map (au 53 ak)).length),fun _=>none,upd (fun _=>none) 0 (some ⟨g_data,51,(t22.map (au 53 ak)),true⟩)⟩) (fun t=>t = fl22) ?_ (fun t22 g22 hn22=>?_)
 ·have H := H22
  refine aP rfl H (fun H=>?_) (fun H=>?_)
  ·refine ac (al 5 tk rfl ?_)
   obtain ⟨x205,h205,H⟩ := ax H
   have s205 := hrec204 g_data t21.1 a s18.2.1 (IntKind.i64.wrap (Int.fdiv (IntKind.u64.wrap (IntKind.i64.wrap (a + b))) (2 ^ 1))) _ h205
   obtain ⟨_,q205_0,H⟩ := ax H
   have l205_0 := (bI q205_0).1
   have z205_0 : (List.map (au 53 ak) t21.1).length = (List.map (au 53 ak) x205).length := by simpa using (l205_0).symm
   refine ci (g := 204) rfl rfl rfl Tryz.call204 [] [(0,0)] rfl rfl rfl rfl (iR.of2 (iG.cons (PLe2.own rfl) (iG.cons (PLe2.of_eq rfl) (iG.cons (PLe2.of_eq rfl) (iG.cons (PLe2.of_eq rfl) (iG.cons (PLe2.of_eq rfl) iG.nil)))))) (by rw [bS,bJ,bR]; rfl) s205 ?_
   rintro u205 H205h ⟨rfl,rfl⟩
   refine ⟨_,rfl,?_⟩
   refine cw (st' := ⟨_,_,fun _=>none,upd (fun _=>none) 0 (some ⟨g_data,51,(x205.map (au 53 ak)),true⟩)⟩) (Gh.le (bQ _ _) ah (ay ag)) ?_
   refine af ?_
   obtain rfl := am H
   refine aQ x205 () rfl (Gh.le (aH (PLe.of2 (PLe2.of_eq (congrArg (PV.own 0 g_data) z205_0))) (aa (aa (aa (aa aj))))) ah (ay ag))
  refine av ?_
  obtain rfl := am H
  refine aQ t21.1 () rfl (Gh.le (aa (aa (aa (aa (aa aj))))) ah (ay ag))
 subst hn22
 have H := Hp22
 refine ab (ac (al 4 tk rfl ?_))
 refine bF rfl rfl rfl H (fun H=>?_) (fun H=>?_)
 ·refine al 4 tk rfl (af ?_)
  refine aP rfl H (fun H=>?_) (fun H=>?_)
  ·refine ac (al 5 tk rfl ?_)
   obtain ⟨x219,h219,H⟩ := ax H
   have s219 := hrec204 g_data t22 (IntKind.i64.wrap (Int.fdiv (IntKind.u64.wrap (IntKind.i64.wrap (a + b))) (2 ^ 1))) (IntKind.i64.wrap ((IntKind.i64.wrap ((IntKind.i64.wrap (Int.fdiv (IntKind.u64.wrap (IntKind.i64.wrap (a + b))) (2 ^ 1))) + m)) - s18.2.1)) b _ h219
   obtain ⟨_,q219_0,H⟩ := ax H
   have l219_0 := (bI q219_0).1
   have z219_0 : (List.map (au 53 ak) t22).length = (List.map (au 53 ak) x219).length := by simpa using (l219_0).symm
   refine ci (g := 204) rfl rfl rfl Tryz.call204 [] [(0,0)] rfl rfl rfl rfl (iR.of2 (iG.cons (PLe2.own rfl) (iG.cons (PLe2.of_eq rfl) (iG.cons (PLe2.of_eq rfl) (iG.cons (PLe2.of_eq rfl) (iG.cons (PLe2.of_eq rfl) iG.nil)))))) (by rw [bS,bJ,bR]; rfl) s219 ?_
   rintro u219 H219h ⟨rfl,rfl⟩
   refine ⟨_,rfl,?_⟩
   refine cw (st' := ⟨_,_,fun _=>none,upd (fun _=>none) 0 (some ⟨g_data,51,(x219.map (au 53 ak)),true⟩)⟩) (Gh.le (bQ _ _) ah (ay ag)) ?_
   refine af ?_
   obtain rfl := am H
   refine dq (st' := ⟨220,fun _=>.any,fun _=>none,upd (fun _=>none) 0 (some ⟨g_data,51,(x219.map (au 53 ak)),true⟩)⟩) (Gh.le aj ah (ay ag)) ?_
   refine iy rfl (PLe.q rfl) ⟨rfl,rfl⟩
  refine av ?_
  obtain rfl := am H
  refine dq (st' := ⟨220,fun _=>.any,fun _=>none,upd (fun _=>none) 0 (some ⟨g_data,51,(t22.map (au 53 ak)),true⟩)⟩) (Gh.le aj ah (ay ag)) ?_
  refine iy rfl (PLe.q rfl) ⟨rfl,rfl⟩
 refine al 4 tk rfl (af (bL rfl (av ?_)))
 obtain rfl := am H
 refine dq (st' := ⟨220,fun _=>.any,fun _=>none,upd (fun _=>none) 0 (some ⟨g_data,51,(t22.map (au 53 ak)),true⟩)⟩) (Gh.le aj ah (ay ag)) ?_
 refine iy rfl (PLe.q rfl) ⟨rfl,rfl⟩
def bK : Nat → Rz → Int → Int → Int → (Rq → Rq → Option (Int)) → Option (Rz)
 | 0,_,_,_,_,_=>none
 | n + 1,v0,v1,v2,v3,v4=>cW (fun b0 b1 b2 b3=>bK n b0 b1 b2 b3 v4) v0 v1 v2 v3 v4
theorem ln {g_cmp : FuncId} {caps_cmp : List PV} (cmp : Rq → Rq → Option (Int)) (hg_cmp : ∀ (vs : Array Value) (w : World),(callFunc g_cmp vs).run Tryz.prog w = .ok (.enter g_cmp vs) w) (hp_cmp : ∀ a0 a1 r,cmp a0 a1 = some r → bc Tryz.prog g_cmp ((.list 53 (a0.map ak)) :: (.list 53 (a1.map ak)) :: caps_cmp) (ae r)) (n : Nat) : (∀ g0 a0 a1 a2 a3 r,bK n a0 a1 a2 a3 cmp = some r → PH Tryz.prog 204 [(.own 0 g0 (a0.map (au 53 ak)).length),(ae a1),(ae a2),(ae a3),(.fn g_cmp caps_cmp)] ⟨fun _=>none,upd (fun _=>none) 0 (some ⟨g0,51,(a0.map (au 53 ak)),true⟩)⟩ (fun u H=>u = (.tup []) ∧ H = ⟨fun _=>none,upd (fun _=>none) 0 (some ⟨g0,51,(r.map (au 53 ak)),true⟩)⟩)) := by
 induction n with
 | zero=>exact (by intros; rename_i h; exact absurd (show (none : Option _) = some _ from h) (by simp))
 | succ n ih =>
  exact (fun g0 v0 v1 v2 v3 r h=>lk g0 (fun b0 b1 b2 b3=>bK n b0 b1 b2 b3 cmp) ih v0 v1 v2 v3 cmp hg_cmp hp_cmp r h)
def fA (data : Rz) (a : Int) (m : Int) (b : Int) (cmp : Rq → Rq → Option (Int)) : Option (Rz) := iY fun n=>bK n data a m b cmp
theorem jm (g_data : OwnRef) {g_cmp : FuncId} {caps_cmp : List PV} (data : Rz) (a : Int) (m : Int) (b : Int) (cmp : Rq → Rq → Option (Int)) (hg_cmp : ∀ (vs : Array Value) (w : World),(callFunc g_cmp vs).run Tryz.prog w = .ok (.enter g_cmp vs) w) (hp_cmp : ∀ a0 a1 r,cmp a0 a1 = some r → bc Tryz.prog g_cmp ((.list 53 (a0.map ak)) :: (.list 53 (a1.map ak)) :: caps_cmp) (ae r)) (r : Rz) (H : fA data a m b cmp = some r) :
  PH Tryz.prog 204 [(.own 0 g_data (data.map (au 53 ak)).length),(ae a),(ae m),(ae b),(.fn g_cmp caps_cmp)] ⟨fun _=>none,upd (fun _=>none) 0 (some ⟨g_data,51,(data.map (au 53 ak)),true⟩)⟩ (fun u H=>u = (.tup []) ∧ H = ⟨fun _=>none,upd (fun _=>none) 0 (some ⟨g_data,51,(r.map (au 53 ak)),true⟩)⟩) := by
 obtain ⟨n,h⟩ := jG H
 exact (ln cmp hg_cmp hp_cmp n) g_data data a m b r h
def fI (t : LTable) : Option (Int) :=
 ai (fS t.name) fun x11 =>
 cond (!x11)
  (some 23)
  (cond ((t.columns.length : Int) == (0 : Int))
   (some 3)
   (cond (decide ((t.columns.length : Int) > (6 : Int)))
    (some 2)
    (ai (aW (σ := Unit) (ρ := (Int)) (fun (j1 : Nat) (x1 : LCol) (_ : Unit) =>
     ai (fS x1.name) fun x31 =>
     cond (!x31)
      (some (.ret 23))
      (ai (gr t x1.name) fun x37 =>
      cond (decide (x37.1 < (j1 : Int)))
       (some (.ret 5))
       (cond (decide (x1.kind < (1 : Int)))
        (some (.ret 7))
        (cond (decide (x1.kind > (3 : Int)))
         (some (.ret 7))
         (some (.next ())))))) 0 t.columns ()) fun fl1=>fl1.thenR fun (_ : Unit) =>
    ai (aW (σ := Unit) (ρ := (Int)) (fun (j2 : Nat) (x2 : Int) (_ : Unit) =>
     cond (decide (x2 < (0 : Int)))
      (some (.ret 9))
      (cond (decide (x2 ≥ (t.columns.length : Int)))
       (some (.ret 9))
       (ai (aG t.columns x2) fun (x73 : LCol) =>
       cond x73.nullable
        (some (.ret 9))
        (cond (decide ((j2 : Int) > (0 : Int)))
         (ai (aG t.primaryKey (IntKind.i64.wrap ((j2 : Int) - (1 : Int)))) fun (x86 : Int) =>
         cond (decide (x2 ≤ x86))
          (some (.ret 9))
          (some (.next ())))
         (some (.next ())))))) 0 t.primaryKey ()) fun fl2=>fl2.thenR fun (_ : Unit) =>
    cond ((t.primaryKey.length : Int) == (0 : Int))
     (some 9)
     (some 0))))
theorem pu (t : LTable) (r : Int) (H : fI t = some r) :
  bc Tryz.prog 98 [(.agg (bv t))] (ae r) := by
 unfold fI at H
 refine PH.aD Tryz.func98 Tryz.ntmps98 ?_
 refine ab (ac (aV ?_))
 refine ao tk rfl (af (ab (ab (ac (al 2 tk rfl ?_)))))
 obtain ⟨x11,h11,H⟩ := ax H
 have s11 := mX t.name _ h11
 refine aq Tryz.call143 (iR.r) s11 ?_
 refine ao tk rfl (af ?_)
 refine aP rfl H (fun H=>?_) (fun H=>?_)
 ·refine aw 1 tk rfl ?_
  obtain rfl := am H
  refine aC tk rfl (ps := [(ae 23)]) ⟨_,_,rfl,rfl,rfl⟩ (PLe.q rfl)
 refine av (ab (ab (ac (al 2 tk rfl (aN tk (zl _) ?_)))))
 refine ao tk rfl (af ?_)
 refine aP rfl H (fun H=>?_) (fun H=>?_)
 ·refine aw 1 tk rfl ?_
  obtain rfl := am H
  refine aC tk rfl (ps := [(ae 3)]) ⟨_,_,rfl,rfl,rfl⟩ (PLe.q rfl)
 refine av (ab (ab (ac (al 2 tk rfl (aN tk (zl _) ?_)))))
 refine ao tk rfl (af ?_)
 refine aP rfl H (fun H=>?_) (fun H=>?_)
 ·refine aw 1 tk rfl ?_
  obtain rfl := am H
  refine aC tk rfl (ps := [(ae 2)]) ⟨_,_,rfl,rfl,rfl⟩ (PLe.q rfl)
 refine av (ab (ab (ac (al 2 tk rfl (aN tk (zl _) ?_)))))
 refine ao tk rfl (af ?_)
 obtain ⟨fl1,H1,Hp1⟩ := ax H
 refine bP tk 22 rfl rfl (fun hz1 _=>?_)
 rw [zl] at hz1
 refine aY (τ := Unit) (γ := Unit) (fun s1 g1=>⟨96,upd (fun _=>.any) 1 (.ptr [(.str t.name),(.list 50 (t.columns.map aJ)),(.list 3 (t.primaryKey.map bM))]),fun _=>none,fun _=>none⟩) (fun t=>fl1 = .next t) ?_ (fun s1 g1 hn1=>?_)
 ·refine az ?_
  refine bC (fun j1 s1 g1=>⟨96,upd (upd (upd (upd (fun _=>.any) 24 (ae (j1 : Int))) 23 (ae (t.columns.length : Int))) 22 (.list 50 (t.columns.map aJ))) 1 (.ptr [(.str t.name),(.list 50 (t.columns.map aJ)),(.list 3 (t.primaryKey.map bM))]),fun _=>none,fun _=>none⟩) () H1 (Gh.le (aa (aa (aa (aa aj)))) ah ag) (fun j1 s1 g1 hj1 hr1=>?_)
  refine aw 1 tk rfl (ab ?_)
  refine aZ rfl (fun h=>?_) (fun h=>?_)
  ·have hl1 := co h
   obtain ⟨x1,fb1,hx1,H,hg1⟩ := rMc hl1 hr1
   refine av (ab (az (ab (ac (ao tk rfl ?_)))))
   refine bs tk (zn j1) (bO (fun _=>rfl) hx1) ?_
   refine ao tk rfl ?_
   refine bu tk fun b4=>?_
   refine ao tk rfl (aE tk ?_)
   refine af (ab (ab (ac (ao tk rfl (aT tk ?_)))))
   obtain ⟨x31,h31,H⟩ := ax H
   have s31 := mX x1.name _ h31
   refine aq Tryz.call143 (iR.r) s31 ?_
   refine ao tk rfl (af ?_)
   refine aP rfl H (fun H=>?_) (fun H=>?_)
   ·refine aw 1 tk rfl ?_
    obtain rfl := am H
    have e1 : fl1 = .ret _ := hg1
    subst e1
    obtain rfl := bp Hp1
    refine aC tk rfl (ps := [(ae 23)]) ⟨_,_,rfl,rfl,rfl⟩ (PLe.q rfl)
   refine av (ab (ab (ac (al 2 tk rfl (aT tk ?_)))))
   obtain ⟨x37,h37,H⟩ := ax H
   have s37 := qE t x1.name _ h37
   refine aq Tryz.call144 (iR.r) s37 ?_
   refine al 5 tk rfl (af (aw 3 tk rfl ?_))
   refine aP rfl H (fun H=>?_) (fun H=>?_)
   ·refine aw 1 tk rfl ?_
    obtain rfl := am H
    have e1 : fl1 = .ret _ := hg1
    subst e1
    obtain rfl := bp Hp1
    refine aC tk rfl (ps := [(ae 5)]) ⟨_,_,rfl,rfl,rfl⟩ (PLe.q rfl)
   refine av (ab (ac (ao tk rfl (aT tk ?_))))
   refine al 2 tk rfl ?_
   refine bF rfl rfl rfl H (fun H=>?_) (fun H=>?_)
   ·refine al 4 tk rfl (af (cu rfl (aw 1 tk rfl ?_)))
    obtain rfl := am H
    have e1 : fl1 = .ret _ := hg1
    subst e1
    obtain rfl := bp Hp1
    refine aC tk rfl (ps := [(ae 7)]) ⟨_,_,rfl,rfl,rfl⟩ (PLe.q rfl)
   refine ao tk rfl (aT tk ?_)
   refine al 2 tk rfl (af ?_)
   refine aP rfl H (fun H=>?_) (fun H=>?_)
   ·refine aw 1 tk rfl ?_
    obtain rfl := am H
    have e1 : fl1 = .ret _ := hg1
    subst e1
    obtain rfl := bp Hp1
    refine aC tk rfl (ps := [(ae 7)]) ⟨_,_,rfl,rfl,rfl⟩ (PLe.q rfl)
   refine av (aR (bm 2 tk rfl ?_))
   obtain rfl := am H
   refine aK () () ⟨hl1,hg1⟩ (Gh.le (aa (aa (aa (aH (PLe.q (aU (by omega))) aj)))) ah ag)
  have hn1 := rMd (cp h) hr1
  refine aO rfl ?_
  refine aQ s1 g1 hn1 (Gh.le (aa aj) ah ag)
 have H := cl hn1 Hp1
 refine ab (ab (ac (al 2 tk rfl (aN tk (zl _) ?_))))
 refine ao tk rfl (af ?_)
 obtain ⟨fl2,H2,Hp2⟩ := ax H
 refine bP tk 53 rfl rfl (fun hz2 _=>?_)
 rw [zl] at hz2
 refine aY (τ := Unit) (γ := Unit) (fun s2 g2=>⟨96,upd (fun _=>.any) 1 (.ptr [(.str t.name),(.list 50 (t.columns.map aJ)),(.list 3 (t.primaryKey.map bM))]),fun _=>none,fun _=>none⟩) (fun t=>fl2 = .next t) ?_ (fun s2 g2 hn2=>?_)
 ·refine az ?_
  refine bC (fun j2 s2 g2=>⟨96,upd (upd (upd (upd (fun _=>.any) 55 (ae (j2 : Int))) 54 (ae (t.primaryKey.length : Int))) 53 (.list 3 (t.primaryKey.map bM))) 1 (.ptr [(.str t.name),(.list 50 (t.columns.map aJ)),(.list 3 (t.primaryKey.map bM))]),fun _=>none,fun _=>none⟩) () H2 (Gh.le (aa (aa (aa (aa aj)))) ah ag) (fun j2 s2 g2 hj2 hr2=>?_)
  refine aw 1 tk rfl (ab ?_)
  refine aZ rfl (fun h=>?_) (fun h=>?_)
  ·have hl2 := co h
   obtain ⟨x2,fb2,hx2,H,hg2⟩ := rMc hl2 hr2
   refine av (ab (az (ab (ac (ao tk rfl ?_)))))
   refine bs tk (zn j2) (bO (fun _=>rfl) hx2) ?_
   refine al 3 tk rfl (af (ab (ac (al 3 tk rfl ?_))))
   refine bF rfl rfl rfl H (fun H=>?_) (fun H=>?_)
   ·refine al 28 tk rfl (af (cu rfl (aw 1 tk rfl ?_)))
    obtain rfl := am H
    have e2 : fl2 = .ret _ := hg2
    subst e2
    obtain rfl := bp Hp2
    refine aC tk rfl (ps := [(ae 9)]) ⟨_,_,rfl,rfl,rfl⟩ (PLe.q rfl)
   refine al 3 tk rfl (aN tk (zl _) ?_)
   refine al 3 tk rfl ?_
   refine bF rfl rfl rfl H (fun H=>?_) (fun H=>?_)
   ·refine al 21 tk rfl (af (cu rfl (aw 1 tk rfl ?_)))
    obtain rfl := am H
    have e2 : fl2 = .ret _ := hg2
    subst e2
    obtain rfl := bp Hp2
    refine aC tk rfl (ps := [(ae 9)]) ⟨_,_,rfl,rfl,rfl⟩ (PLe.q rfl)
   refine al 3 tk rfl ?_
   obtain ⟨x73,k73,H⟩ := aX H
   refine bs tk k73.1 (aI (fun _=>rfl) k73.2) ?_
   refine al 4 tk rfl ?_
   refine bF rfl rfl rfl H (fun H=>?_) (fun H=>?_)
   ·refine al 13 tk rfl (af (cu rfl (aw 1 tk rfl ?_)))
    obtain rfl := am H
    have e2 : fl2 = .ret _ := hg2
    subst e2
    obtain rfl := bp Hp2
    refine aC tk rfl (ps := [(ae 9)]) ⟨_,_,rfl,rfl,rfl⟩ (PLe.q rfl)
   refine al 3 tk rfl ?_
   refine bF rfl rfl rfl H (fun H=>?_) (fun H=>?_)
   ·refine al 5 tk rfl ?_
    obtain ⟨x86,k86,H⟩ := aX H
    refine bs tk k86.1 (aI (fun _=>rfl) k86.2) ?_
    refine al 4 tk rfl (af ?_)
    refine aP rfl H (fun H=>?_) (fun H=>?_)
    ·refine aw 1 tk rfl ?_
     obtain rfl := am H
     have e2 : fl2 = .ret _ := hg2
     subst e2
     obtain rfl := bp Hp2
     refine aC tk rfl (ps := [(ae 9)]) ⟨_,_,rfl,rfl,rfl⟩ (PLe.q rfl)
    refine av (aR (bm 2 tk rfl ?_))
    obtain rfl := am H
    refine aK () () ⟨hl2,hg2⟩ (Gh.le (aa (aa (aa (aH (PLe.q (aU (by omega))) aj)))) ah ag)
   refine al 10 tk rfl (af (bL rfl (av (aR (bm 2 tk rfl ?_)))))
   obtain rfl := am H
   refine aK () () ⟨hl2,hg2⟩ (Gh.le (aa (aa (aa (aH (PLe.q (aU (by omega))) aj)))) ah ag)
  have hn2 := rMd (cp h) hr2
  refine aO rfl ?_
  refine aQ s2 g2 hn2 (Gh.le (aa aj) ah ag)
 have H := cl hn2 Hp2
 refine ab (ab (ac (al 2 tk rfl (aN tk (zl _) ?_))))
 refine ao tk rfl (af ?_)
 refine aP rfl H (fun H=>?_) (fun H=>?_)
 ·refine aw 1 tk rfl ?_
  obtain rfl := am H
  refine aC tk rfl (ps := [(ae 9)]) ⟨_,_,rfl,rfl,rfl⟩ (PLe.q rfl)
 refine av (aw 1 tk rfl ?_)
 obtain rfl := am H
 refine aC tk rfl (ps := [(ae 0)]) ⟨_,_,rfl,rfl,rfl⟩ (PLe.q rfl)
def fh (sA : LSchema) (fk : LForeignKey) : Option (Int) :=
 ai (fV sA fk.table) fun x17 =>
 ai (fV sA fk.refTable) fun x24 =>
 bf (
  cond (!x17.2)
   (true)
   ((!x24.2))) fun (t1 : Bool) =>
 cond t1
  (some 4)
  (ai (aG sA.tables x17.1) fun (x36 : LTable) =>
  ai (aG sA.tables x24.1) fun (x41 : LTable) =>
  cond ((fk.columns.length : Int) != (x41.primaryKey.length : Int))
   (some 3)
   (ai (aW (σ := Unit) (ρ := (Int)) (fun (j2 : Nat) (x2 : Int) (_ : Unit) =>
    bf (
     cond (decide (x2 < (0 : Int)))
      (true)
      ((decide (x2 ≥ (x36.columns.length : Int))))) fun (t4 : Bool) =>
    cond t4
     (some (.ret 3))
     (ai (aG x36.columns x2) fun (x70 : LCol) =>
     ai (aG x41.primaryKey (j2 : Int)) fun (x78 : Int) =>
     ai (aG x41.columns x78) fun (x80 : LCol) =>
     cond (x70.kind != x80.kind)
      (some (.ret 7))
      (some (.next ())))) 0 fk.columns ()) fun fl2=>fl2.thenR fun (_ : Unit) =>
   some 0))
theorem nc (sA : LSchema) (fk : LForeignKey) (r : Int) (H : fh sA fk = some r) :
  bc Tryz.prog 99 [(.agg (eK sA)),(.agg (cy fk))] (ae r) := by
 unfold fh at H
 refine PH.aD Tryz.func99 Tryz.ntmps99 ?_
 refine ab (ac (aV ?_))
 refine aV ?_
 refine ao tk rfl (af (ab (ac (al 3 tk rfl ?_))))
 obtain ⟨x17,h17,H⟩ := ax H
 have s17 := kQ sA fk.table _ h17
 refine aq Tryz.call145 (iR.r) s17 ?_
 refine al 5 tk rfl (af (ab (ac (al 3 tk rfl ?_))))
 obtain ⟨x24,h24,H⟩ := ax H
 have s24 := kQ sA fk.refTable _ h24
 refine aq Tryz.call145 (iR.r) s24 ?_
 refine al 5 tk rfl (af (ab (ab ?_)))
 obtain ⟨fl1,H1,Hp1⟩ := bw H
 refine aY (τ := Bool) (γ := Unit) (fun t1 g1=>⟨85,upd (upd (upd (upd (upd (fun _=>.any) 32 (aF t1)) 7 (ae x24.1)) 5 (ae x17.1)) 3 (.ptr [(.str fk.table),(.list 3 (fk.columns.map bM)),(.str fk.refTable)])) 2 (.ptr [(.list 91 (sA.tables.map bv)),(.list 142 (sA.foreignKeys.map cy)),(.list 148 (sA.constraints.map cJ))]),fun _=>none,fun _=>none⟩) (fun t=>t = fl1) ?_ (fun t1 g1 hn1=>?_)
 ·have H := H1
  refine ac (al 3 tk rfl ?_)
  refine bF rfl rfl rfl H (fun H=>?_) (fun H=>?_)
  ·refine al 3 tk rfl (af ?_)
   subst H
   refine aQ true () rfl (Gh.le (aa (aa (aa (aa (aa aj))))) ah ag)
  refine al 3 tk rfl (af ?_)
  subst H
  refine aQ (!x24.2) () rfl (Gh.le (aa (aa (aa (aa (aa aj))))) ah ag)
 subst hn1
 have H := Hp1
 refine aP rfl H (fun H=>?_) (fun H=>?_)
 ·refine aw 1 tk rfl ?_
  obtain rfl := am H
  refine aC tk rfl (ps := [(ae 4)]) ⟨_,_,rfl,rfl,rfl⟩ (PLe.q rfl)
 refine av (ab (bo tk mok ⟨false,false,[]⟩ [0,1,2,3,4,5,6,7,8,9,10,11,12,13] rfl (by decide +kernel) rfl (aL 3 rfl ?_)))
 obtain ⟨x36,k36,H⟩ := aX H
 refine cj k36.1 (aI (fun _=>rfl) k36.2) ?_
 refine aL 4 rfl ?_
 obtain ⟨x41,k41,H⟩ := aX H
 refine cj k41.1 (aI (fun _=>rfl) k41.2) ?_
 refine cq rfl ?_
 refine qc rfl rfl rfl rfl rfl rfl rfl rfl fun b9=>?_
 refine qc rfl rfl rfl rfl rfl rfl rfl rfl fun b10=>?_
 refine ec ?_
 refine ec ?_
 refine bh (ab (ab (ac (al 2 tk rfl (aN tk (zl _) ?_)))))
 refine ao tk rfl (aT tk ?_)
 refine aN tk (zl _) ?_
 refine ao tk rfl (af ?_)
 refine aP rfl H (fun H=>?_) (fun H=>?_)
 ·refine aw 1 tk rfl ?_
  obtain rfl := am H
  refine aC tk rfl (ps := [(ae 3)]) ⟨_,_,rfl,rfl,rfl⟩ (PLe.q rfl)
 refine av (ab (ab (ac (al 2 tk rfl (aN tk (zl _) ?_)))))
 refine ao tk rfl (af ?_)
 obtain ⟨fl2,H2,Hp2⟩ := ax H
 refine bP tk 51 rfl rfl (fun hz2 _=>?_)
 rw [zl] at hz2
 refine aY (τ := Unit) (γ := Unit) (fun s2 g2=>⟨85,fun _=>.any,fun _=>none,fun _=>none⟩) (fun t=>fl2 = .next t) ?_ (fun s2 g2 hn2=>?_)
 ·refine az ?_
  refine bC (fun j2 s2 g2=>⟨85,upd (upd (upd (upd (upd (fun _=>.any) 53 (ae (j2 : Int))) 52 (ae (fk.columns.length : Int))) 51 (.list 3 (fk.columns.map bM))) 10 (.box 10 b10 0)) 9 (.box 9 b9 0),upd (upd (fun _=>none) 10 (some ⟨b10,[(.str x41.name),(.list 50 (x41.columns.map aJ)),(.list 3 (x41.primaryKey.map bM))]⟩)) 9 (some ⟨b9,[(.str x36.name),(.list 50 (x36.columns.map aJ)),(.list 3 (x36.primaryKey.map bM))]⟩),fun _=>none⟩) () H2 (Gh.le (aa (aa (aa (aa (aa aj))))) (aA rfl (iR.r) (aA rfl (iR.r) ah)) ag) (fun j2 s2 g2 hj2 hr2=>?_)
  refine aw 1 tk rfl (ab ?_)
  refine aZ rfl (fun h=>?_) (fun h=>?_)
  ·have hl2 := co h
   obtain ⟨x2,fb2,hx2,H,hg2⟩ := rMc hl2 hr2
   refine av (ab (az (ab (ac (ao tk rfl ?_)))))
   refine bs tk (zn j2) (bO (fun _=>rfl) hx2) ?_
   refine al 3 tk rfl (af (ab (ab ?_)))
   obtain ⟨fl4,H4,Hp4⟩ := bw H
   refine aY (τ := Bool) (γ := Unit) (fun t4 g4=>⟨85,upd (upd (upd (upd (upd (upd (upd (upd (fun _=>.any) 66 (aF t4)) 53 (ae (j2 : Int))) 52 (ae (fk.columns.length : Int))) 51 (.list 3 (fk.columns.map bM))) 12 (ae x2)) 11 (ae (j2 : Int))) 10 (.box 10 b10 0)) 9 (.box 9 b9 0),upd (upd (fun _=>none) 10 (some ⟨b10,[(.str x41.name),(.list 50 (x41.columns.map aJ)),(.list 3 (x41.primaryKey.map bM))]⟩)) 9 (some ⟨b9,[(.str x36.name),(.list 50 (x36.columns.map aJ)),(.list 3 (x36.primaryKey.map bM))]⟩),fun _=>none⟩) (fun t=>t = fl4) ?_ (fun t4 g4 hn4=>?_)
   ·have H := H4
    refine ac (al 3 tk rfl ?_)
    refine bF rfl rfl rfl H (fun H=>?_) (fun H=>?_)
    ·refine al 6 tk rfl (af ?_)
     subst H
     refine aQ true () rfl (Gh.le (aa (aa (aa (aa (aa (aa (aa (aa aj)))))))) (aA rfl (iR.r) (aA rfl (iR.r) ah)) ag)
    refine al 2 tk rfl (aT tk ?_)
    refine aN tk (zl _) ?_
    refine al 2 tk rfl (af ?_)
    subst H
    refine aQ (decide (x2 ≥ (x36.columns.length : Int))) () rfl (Gh.le (aa (aa (aa (aa (aa (aa (aa (aa aj)))))))) (aA rfl (iR.r) (aA rfl (iR.r) ah)) ag)
   subst hn4
   have H := Hp4
   refine aP rfl H (fun H=>?_) (fun H=>?_)
   ·refine aw 1 tk rfl ?_
    obtain rfl := am H
    have e2 : fl2 = .ret _ := hg2
    subst e2
    obtain rfl := bp Hp2
    refine aC tk rfl (ps := [(ae 3)]) ⟨_,_,rfl,rfl,rfl⟩ (PLe.q rfl)
   refine av (ab (bo tk mok ⟨true,false,[72,79,82]⟩ [0,1,2,3,4,5,6,7,8,9,10,11,12,13,14,15,16] rfl (by decide +kernel) rfl (cq rfl (cC ?_))))
   refine cq rfl ?_
   obtain ⟨x70,k70,H⟩ := aX H
   refine cj k70.1 (aI (fun _=>rfl) k70.2) ?_
   refine aL 3 rfl (cC ?_)
   refine cq rfl (cC ?_)
   refine cq rfl ?_
   obtain ⟨x78,k78,H⟩ := aX H
   refine cj k78.1 (aI (fun _=>rfl) k78.2) ?_
   refine cq rfl ?_
   obtain ⟨x80,k80,H⟩ := aX H
   refine cj k80.1 (aI (fun _=>rfl) k80.2) ?_
   refine aL 3 rfl (bh ?_)
   refine aP rfl H (fun H=>?_) (fun H=>?_)
   ·refine aw 1 tk rfl ?_
    obtain rfl := am H
    have e2 : fl2 = .ret _ := hg2
    subst e2
    obtain rfl := bp Hp2
    refine aC tk rfl (ps := [(ae 7)]) ⟨_,_,rfl,rfl,rfl⟩ (PLe.q rfl)
   refine av (aR (bm 2 tk rfl ?_))
   obtain rfl := am H
   refine aK () () ⟨hl2,hg2⟩ (Gh.le (aa (aa (aa (aa (aH (PLe.q (aU (by omega))) aj))))) (aA rfl (iR.r) (aA rfl (iR.r) ah)) ag)
  have hn2 := rMd (cp h) hr2
  refine aO rfl ?_
  refine aQ s2 g2 hn2 (Gh.le aj ah ag)
 have H := cl hn2 Hp2
 refine aw 1 tk rfl ?_
 obtain rfl := am H
 refine aC tk rfl (ps := [(ae 0)]) ⟨_,_,rfl,rfl,rfl⟩ (PLe.q rfl)
def gv (other : LForeignKey) (c0 : LForeignKey) : Option (Bool) :=
 ai (gN other c0) fun x6 =>
 some x6
theorem qJ (other : LForeignKey) (c0 : LForeignKey) (r : Bool) (H : gv other c0 = some r) :
  bc Tryz.prog 101 [(.agg (cy other)),(.ptr (cy c0))] (aF r) := by
 unfold gv at H
 refine PH.aD Tryz.func101 Tryz.ntmps101 ?_
 refine ab (ac (aV ?_))
 refine ao tk rfl (af (ab (ac (al 2 tk rfl ?_))))
 obtain ⟨x6,h6,H⟩ := ax H
 have s6 := nG other c0 _ h6
 refine aq Tryz.call102 (iR.r) s6 ?_
 refine ao tk rfl (af ?_)
 obtain rfl := am H
 refine aC tk rfl (ps := [(aF x6)]) ⟨_,_,rfl,rfl,rfl⟩ (PLe.q rfl)
def gS (a : Rz) (b : Rz) : Option (Bool) :=
 ai (cS a b (fun a0 a1=>gA a0 a1)) fun x7 =>
 some x7
theorem qf (a : Rz) (b : Rz) (r : Bool) (H : gS a b = some r) :
  bc Tryz.prog 35 [(.list 51 (a.map (au 53 ak))),(.list 51 (b.map (au 53 ak)))] (aF r) := by
 unfold gS at H
 refine PH.aD Tryz.func35 Tryz.ntmps35 ?_
 refine aw 1 tk rfl (ab (ac (al 2 tk rfl ?_)))
 obtain ⟨x7,h7,H⟩ := ax H
 have s7 := iK a b (fun a0 a1=>gA a0 a1) Tryz.call57 (fun a0 a1 r h=>pn a0 a1 r h) _ h7
 refine aq Tryz.call56 (iR.r) s7 ?_
 refine ao tk rfl (af ?_)
 obtain rfl := am H
 refine aC tk rfl (ps := [(aF x7)]) ⟨_,_,rfl,rfl,rfl⟩ (PLe.q rfl)
def gj (length : Int) : Option (Int) :=
 ai (iF (IntKind.u64.wrap length)) fun x5 =>
 ai (shlI .u64 (1 : Int) x5) fun (x6 : Int) =>
 some x6
theorem oM (length : Int) (r : Int) (H : gj length = some r) :
  bc Tryz.prog 161 [(ae length)] (.val (.int .u64 r)) := by
 unfold gj at H
 refine PH.aD Tryz.func161 Tryz.ntmps161 ?_
 refine aw 1 tk rfl (ab (ac (al 2 tk rfl ?_)))
 obtain ⟨x5,h5,H⟩ := ax H
 have s5 := oY (IntKind.u64.wrap length) _ h5
 refine aq Tryz.call93 (iR.r) s5 ?_
 obtain ⟨x6,h6,H⟩ := ax H
 refine Ao.shl rfl rfl rfl rfl h6 rfl (ao tk rfl (af ?_))
 obtain rfl := am H
 refine aC tk rfl (ps := [(.val (.int .u64 x6))]) ⟨_,_,rfl,rfl,rfl⟩ (PLe.q rfl)
def ji (inst : List LRelation) : Option ((List LRelation)) :=
 ai (aW (σ := List LRelation) (ρ := Empty) (fun (_ : Nat) (x1 : LRelation) (s1 : List LRelation) =>
  ai (jg x1.rows) fun x17 =>
  ai (dT 40 s1 ([(LRelation.mk x1.table x17)] : List LRelation)) fun (x20 : List LRelation) =>
  some (.next x20)) 0 inst []) fun fl1=>fl1.thenP fun (s1 : List LRelation) =>
 some s1
theorem rW {m : Nat} (inst : List LRelation) (r : (List LRelation)) (H : ji inst = some r) :
  iU Tryz.prog 46 [(.list 87 (inst.map br))] (lh m 87 (r.map br)) := by
 unfold ji at H
 refine PH.aD Tryz.func46 Tryz.ntmps46 ?_
 refine aw 1 tk rfl (aw 1 tk rfl (ab (ab (ac (ao tk rfl (aN tk (zl _) ?_))))))
 refine ao tk rfl (af ?_)
 obtain ⟨fl1,H1,Hp1⟩ := ax H
 refine bP tk 6 rfl rfl (fun hz1 _=>?_)
 rw [zl] at hz1
 refine aY (τ := List LRelation) (γ := OwnRef) (fun s1 g1=>⟨23,upd (fun _=>.any) 3 (.own 20 g1 (s1.map br).length),fun _=>none,upd (fun _=>none) 20 (some ⟨g1,87,(s1.map br),true⟩)⟩) (fun t=>fl1 = .next t) ?_ (fun s1 g1 hn1=>?_)
 ·refine az (ic tk 3 20 (e := 87) rfl rfl ?_)
  refine bC (fun j1 s1 g1=>⟨23,upd (upd (upd (upd (fun _=>.any) 8 (ae (j1 : Int))) 7 (ae (inst.length : Int))) 6 (.list 87 (inst.map br))) 3 (.own 20 g1 (s1.map br).length),fun _=>none,upd (fun _=>none) 20 (some ⟨g1,87,(s1.map br),true⟩)⟩) (⟨none,0⟩) H1 (Gh.le (aa (aa (aa (aa aj)))) ah (ay ag)) (fun j1 s1 g1 hj1 hr1=>?_)
  refine aw 1 tk rfl (ab ?_)
  refine aZ rfl (fun h=>?_) (fun h=>?_)
  ·have hl1 := co h
   obtain ⟨x1,fb1,hx1,H,hg1⟩ := rMc hl1 hr1
   refine av (ab (az (ab (ac ?_))))
   refine bs tk (zn j1) (bO (fun _=>rfl) hx1) ?_
   refine ao tk rfl ?_
   refine bu tk fun b5=>?_
   refine aE tk ?_
   refine af (bo tk mok ⟨true,false,[]⟩ [0,1,2,3,4,5,6,7,8,9] rfl (by decide +kernel) rfl (aL 2 rfl (cC ?_)))
   refine cq rfl (cC ?_)
   obtain ⟨x17,h17,H⟩ := ax H
   have s17 := sg x1.rows _ h17
   refine bj Tryz.call75 (iR.r) s17 ?_
   refine aL 2 rfl ?_
   obtain ⟨x20,h20,H⟩ := ax H
   have k20 := cY h20
   refine lb (rows2' := List.map br ([(LRelation.mk x1.table x17)] : List LRelation)) (rows' := List.map br x20) tk rfl rfl rfl rfl rfl rfl rfl rfl rfl rfl rfl rfl rfl rfl (kj.refl _) (et k20.1) (ew k20.2.1) (ez k20.2.2) fun g20=>?_
   refine cq rfl (bh (aR (bm 2 tk rfl ?_)))
   obtain rfl := am H
   refine aK x20 g20 ⟨hl1,hg1⟩ (Gh.le (aa (aa (aa (aH (PLe.q (aU (by omega))) aj)))) ah (ay ag))
  have hn1 := rMd (cp h) hr1
  refine aO rfl ?_
  refine aQ s1 g1 hn1 (Gh.le (aa aj) ah (ay ag))
 have H := bn hn1 Hp1
 refine aw 2 tk rfl ?_
 obtain rfl := am H
 refine jX tk rfl
def dI (data : List (List UInt8)) (a : Int) (b : Int) : Option ((List (List UInt8))) :=
 ai (whileM (σ := List (List UInt8) × Int) (ρ := Empty) (fun (s1 : List (List UInt8) × Int) =>
  cond (decide (s1.2 < b))
   (ai (whileM (σ := List (List UInt8) × Int) (ρ := Empty) (fun (s22 : List (List UInt8) × Int) =>
    ai (
     cond (decide (s22.2 > a))
      (ai (aG s22.1 s22.2) fun (x22 : List UInt8) =>
      ai (aG s22.1 (IntKind.i64.wrap (s22.2 - (1 : Int)))) fun (x27 : List UInt8) =>
      bf (bB x22 x27) fun x29 =>
      some (s22.1,x29))
      (some (s22.1,false))) fun (t29 : List (List UInt8) × Bool) =>
    cond t29.2
     (ai (aG t29.1 (IntKind.i64.wrap (s22.2 - (1 : Int)))) fun (x41 : List UInt8) =>
     ai (aG t29.1 s22.2) fun (x45 : List UInt8) =>
     ai (aG t29.1 s22.2) fun (_ : List UInt8) =>
     bf (t29.1.set s22.2.toNat x41) fun (y30 : List (List UInt8)) =>
     ai (aG y30 (IntKind.i64.wrap (s22.2 - (1 : Int)))) fun (_ : List UInt8) =>
     bf (y30.set ((IntKind.i64.wrap (s22.2 - (1 : Int))).toNat) x45) fun (y31 : List (List UInt8)) =>
     some (.next (y31,(IntKind.i64.wrap (s22.2 - (1 : Int))))))
     (some (.brk (t29.1,s22.2)))) (s1.1,s1.2)) fun fl22=>fl22.thenP fun (s22 : List (List UInt8) × Int) =>
   some (.next (s22.1,(IntKind.i64.wrap (s1.2 + (1 : Int))))))
   (some (.brk (s1.1,s1.2)))) (data,(IntKind.i64.wrap (a + (1 : Int))))) fun fl1=>fl1.thenP fun (s1 : List (List UInt8) × Int) =>
 some s1.1
theorem kK (g_data : OwnRef) (data : List (List UInt8)) (a : Int) (b : Int) (r : (List (List UInt8))) (H : dI data a b = some r) :
  PH Tryz.prog 124 [(.own 0 g_data (data.map aB).length),(ae a),(ae b)] ⟨fun _=>none,upd (fun _=>none) 0 (some ⟨g_data,9,(data.map aB),true⟩)⟩ (fun u H=>u = (.tup []) ∧ H = ⟨fun _=>none,upd (fun _=>none) 0 (some ⟨g_data,9,(r.map aB),true⟩)⟩) := by
 unfold dI at H
 refine PH.aD Tryz.func124 Tryz.ntmps124 ?_
 refine aw 3 tk rfl ?_
 obtain ⟨fl1,H1,Hp1⟩ := ax H
 refine aY (τ := List (List UInt8) × Int) (γ := Unit) (fun s1 g1=>⟨49,upd (fun _=>.any) 0 (.own 0 g_data (s1.1.map aB).length),fun _=>none,upd (fun _=>none) 0 (some ⟨g_data,9,(s1.1.map aB),true⟩)⟩) (fun t=>fl1 = .next t) ?_ (fun s1 g1 hn1=>?_)
 ·refine az ?_
  refine cA (fun s1 g1=>⟨49,upd (upd (upd (upd (fun _=>.any) 6 (ae s1.2)) 2 (ae b)) 1 (ae a)) 0 (.own 0 g_data (s1.1.map aB).length),fun _=>none,upd (fun _=>none) 0 (some ⟨g_data,9,(s1.1.map aB),true⟩)⟩) () H1 (Gh.le (aa (aa (aa (aa aj)))) ah (ay ag)) (fun m1 s1 g1 hr1=>?_)
  obtain ⟨fb1,H,hg1⟩ := bZ hr1
  refine ab (aw 3 tk rfl ?_)
  refine aP rfl H (fun H=>?_) (fun H=>?_)
  ·refine av (ab (az (aw 2 tk rfl ?_)))
   obtain ⟨fl22,H22,Hp22⟩ := ax H
   refine aY (τ := List (List UInt8) × Int) (γ := Unit) (fun s22 g22=>⟨49,upd (upd (upd (upd (fun _=>.any) 6 (ae s1.2)) 2 (ae b)) 1 (ae a)) 0 (.own 0 g_data (s22.1.map aB).length),fun _=>none,upd (fun _=>none) 0 (some ⟨g_data,9,(s22.1.map aB),true⟩)⟩) (fun t=>fl22 = .next t) ?_ (fun s22 g22 hn22=>?_)
   ·refine az ?_
    refine cA (fun s22 g22=>⟨49,upd (upd (upd (upd (upd (fun _=>.any) 7 (ae s22.2)) 6 (ae s1.2)) 2 (ae b)) 1 (ae a)) 0 (.own 0 g_data (s22.1.map aB).length),fun _=>none,upd (fun _=>none) 0 (some ⟨g_data,9,(s22.1.map aB),true⟩)⟩) () H22 (Gh.le (aa (aa (aa (aa (aa aj))))) ah (ay ag)) (fun m22 s22 g22 hr22=>?_)
    obtain ⟨fb22,H,hg22⟩ := bZ hr22
    refine ab (ab ?_)
    obtain ⟨fl29,H29,Hp29⟩ := ax H
    refine aY (τ := List (List UInt8) × Bool) (γ := Unit) (fun t29 g29=>⟨49,upd (upd (upd (upd (upd (upd (fun _=>.any) 30 (aF t29.2)) 7 (ae s22.2)) 6 (ae s1.2)) 2 (ae b)) 1 (ae a)) 0 (.own 0 g_data (t29.1.map aB).length),fun _=>none,upd (fun _=>none) 0 (some ⟨g_data,9,(t29.1.map aB),true⟩)⟩) (fun t=>t = fl29) ?_ (fun t29 g29 hn29=>?_)
    ·have H := H29
     refine cK (tag := 0) rfl (fun ho0=>?_)
     refine bo tk mok ⟨false,true,[]⟩ [0,1,2,3,4,5,6,7,8,9,10,11,12,13,14] rfl (by decide +kernel) rfl (aL 4 rfl ?_)
     refine ik H (fun H=>?_) (fun H=>?_)
     ·refine aL 2 rfl ?_
      obtain ⟨x22,k22,H⟩ := aX H
      refine aS tk ⟨k22.1,(bl k22.2)⟩ (bi ho0 k22.2) ?_
      refine bd tk (aI (fun _=>rfl) k22.2) ?_
      refine aL 3 rfl ?_
      obtain ⟨x27,k27,H⟩ := aX H
      refine aS tk ⟨k27.1,(bl k27.2)⟩ (bi ho0 k27.2) ?_
      refine bd tk (aI (fun _=>rfl) k27.2) ?_
      obtain ⟨x29,h29,H⟩ := bw H
      have s29 := cN x22 x27
      rw [h29] at s29
      refine bj Tryz.call80 (iR.r) s29 ?_
      refine cq rfl (bh ?_)
      obtain rfl := am H
      refine aQ (s22.1,x29) () rfl (Gh.le (aa (aa (aa (aa (aa (aa aj)))))) ah (ay ag))
     refine aL 11 rfl (bh ?_)
     obtain rfl := am H
     refine aQ (s22.1,false) () rfl (Gh.le (aa (aa (aa (aa (aa (aa aj)))))) ah (ay ag))
    subst hn29
    have H := Hp29
    refine aP rfl H (fun H=>?_) (fun H=>?_)
    ·refine av (ab (az ?_))
     refine cK (tag := 0) rfl (fun ho0=>?_)
     refine bo tk mok ⟨false,true,[]⟩ [0,1,2,3,4,5,6,7,8,9,10,11,12,13,14,15,16,17] rfl (by decide +kernel) rfl (aL 8 rfl ?_)
     obtain ⟨x41,k41,H⟩ := aX H
     refine aS tk ⟨k41.1,(bl k41.2)⟩ (bi ho0 k41.2) ?_
     refine bd tk (aI (fun _=>rfl) k41.2) ?_
     refine aL 2 rfl ?_
     obtain ⟨x45,k45,H⟩ := aX H
     refine aS tk ⟨k45.1,(bl k45.2)⟩ (bi ho0 k45.2) ?_
     refine bd tk (aI (fun _=>rfl) k45.2) ?_
     obtain ⟨x47,k47,H⟩ := aX H
     refine aS tk ⟨k47.1,(bl k47.2)⟩ (bi ho0 k47.2) ?_
     obtain ⟨y30,hy30,H⟩ := bw H
     refine cg tk rfl rfl rfl rfl rfl rfl rfl rfl rfl (by rw [zl]; exact (zg.1 k47.2).1) (PLe.refl _ _) rfl rfl rfl rfl (by decide) (bG (fun _=>rfl) k47.2 rfl hy30) ?_
     obtain ⟨x48,k48,H⟩ := aX H
     refine aS tk ⟨k48.1,(gg (bq (f := aB) hy30) k48.2)⟩ (gc ho0 (bq (f := aB) hy30) k48.2) ?_
     obtain ⟨y31,hy31,H⟩ := bw H
     refine cg tk rfl rfl rfl rfl rfl rfl rfl rfl rfl (by rw [zl]; exact (zg.1 k48.2).1) (PLe.refl _ _) rfl rfl rfl rfl (by decide) (bG (fun _=>rfl) k48.2 rfl hy31) ?_
     refine bh (aR (bm 3 tk rfl ?_))
     obtain rfl := am H
     refine aK (y31,(IntKind.i64.wrap (s22.2 - (1 : Int)))) () hg22 (Gh.le (aH (PLe.of2 (PLe2.of_eq (congrArg (PV.own 0 g_data) ((bq (f := aB) hy30).trans (bq (f := aB) hy31))))) (aa (aa (aa (aa aj))))) ah (ay ag))
    refine aO rfl ?_
    obtain rfl := am H
    refine aQ (t29.1,s22.2) () hg22 (Gh.le (aa (aa (aa (aa aj)))) ah (ay ag))
   have H := bn hn22 Hp22
   refine aR (bm 3 tk rfl ?_)
   obtain rfl := am H
   refine aK (s22.1,(IntKind.i64.wrap (s1.2 + (1 : Int)))) () hg1 (Gh.le (aa (aa (aa (aa aj)))) ah (ay ag))
  refine aO rfl ?_
  obtain rfl := am H
  refine aQ (s1.1,s1.2) () hg1 (Gh.le (aa aj) ah (ay ag))
 have H := bn hn1 Hp1
 obtain rfl := am H
 refine dq (st' := ⟨49,fun _=>.any,fun _=>none,upd (fun _=>none) 0 (some ⟨g_data,9,(s1.1.map aB),true⟩)⟩) (Gh.le aj ah (ay ag)) ?_
 refine iy rfl (PLe.q rfl) ⟨rfl,rfl⟩
def dD (data : List (List UInt8)) (lo : Int) (hi : Int) (first : Int) : Option ((List (List UInt8))) :=
 ai (whileM (σ := List (List UInt8) × Int) (ρ := ((List (List UInt8)))) (fun (s1 : List (List UInt8) × Int) =>
  cond (decide ((IntKind.i64.wrap ((IntKind.i64.wrap ((2 : Int) * s1.2)) + (1 : Int))) ≥ hi))
   (some (.brk (s1.1,s1.2)))
   (ai (
    cond (decide ((IntKind.i64.wrap ((IntKind.i64.wrap ((IntKind.i64.wrap ((2 : Int) * s1.2)) + (1 : Int))) + (1 : Int))) < hi))
     (ai (aG s1.1 (IntKind.i64.wrap (first + (IntKind.i64.wrap ((IntKind.i64.wrap ((2 : Int) * s1.2)) + (1 : Int)))))) fun (x26 : List UInt8) =>
     ai (aG s1.1 (IntKind.i64.wrap ((IntKind.i64.wrap (first + (IntKind.i64.wrap ((IntKind.i64.wrap ((2 : Int) * s1.2)) + (1 : Int))))) + (1 : Int)))) fun (x33 : List UInt8) =>
     bf (bB x26 x33) fun x35 =>
     some (s1.1,x35))
     (some (s1.1,false))) fun (t10 : List (List UInt8) × Bool) =>
   bf (
    cond t10.2
     ((t10.1,(IntKind.i64.wrap ((IntKind.i64.wrap ((IntKind.i64.wrap ((2 : Int) * s1.2)) + (1 : Int))) + (1 : Int)))))
     ((t10.1,(IntKind.i64.wrap ((IntKind.i64.wrap ((2 : Int) * s1.2)) + (1 : Int)))))) fun (t11 : List (List UInt8) × Int) =>
   ai (aG t11.1 (IntKind.i64.wrap (first + s1.2))) fun (x43 : List UInt8) =>
   ai (aG t11.1 (IntKind.i64.wrap (first + t11.2))) fun (x49 : List UInt8) =>
   bf (bB x43 x49) fun x51 =>
   cond (!x51)
    (some (.ret t11.1))
    (ai (aG t11.1 (IntKind.i64.wrap (first + t11.2))) fun (x65 : List UInt8) =>
    ai (aG t11.1 (IntKind.i64.wrap (first + s1.2))) fun (x71 : List UInt8) =>
    ai (aG t11.1 (IntKind.i64.wrap (first + s1.2))) fun (_ : List UInt8) =>
    bf (t11.1.set ((IntKind.i64.wrap (first + s1.2)).toNat) x65) fun (y12 : List (List UInt8)) =>
    ai (aG y12 (IntKind.i64.wrap (first + t11.2))) fun (_ : List UInt8) =>
    bf (y12.set ((IntKind.i64.wrap (first + t11.2)).toNat) x71) fun (y13 : List (List UInt8)) =>
    some (.next (y13,t11.2))))) (data,lo)) fun fl1=>fl1.thenR fun (s1 : List (List UInt8) × Int) =>
 some s1.1
theorem ju (g_data : OwnRef) (data : List (List UInt8)) (lo : Int) (hi : Int) (first : Int) (r : (List (List UInt8))) (H : dD data lo hi first = some r) :
  PH Tryz.prog 165 [(.own 0 g_data (data.map aB).length),(ae lo),(ae hi),(ae first)] ⟨fun _=>none,upd (fun _=>none) 0 (some ⟨g_data,9,(data.map aB),true⟩)⟩ (fun u H=>u = (.tup []) ∧ H = ⟨fun _=>none,upd (fun _=>none) 0 (some ⟨g_data,9,(r.map aB),true⟩)⟩) := by
 unfold dD at H
 refine PH.aD Tryz.func165 Tryz.ntmps165 ?_
 refine aw 2 tk rfl ?_
 obtain ⟨fl1,H1,Hp1⟩ := ax H
 refine aY (τ := List (List UInt8) × Int) (γ := Unit) (fun s1 g1=>⟨76,upd (fun _=>.any) 0 (.own 0 g_data (s1.1.map aB).length),fun _=>none,upd (fun _=>none) 0 (some ⟨g_data,9,(s1.1.map aB),true⟩)⟩) (fun t=>fl1 = .next t) ?_ (fun s1 g1 hn1=>?_)
 ·refine az ?_
  refine cA (fun s1 g1=>⟨76,upd (upd (upd (upd (fun _=>.any) 8 (ae s1.2)) 3 (ae first)) 2 (ae hi)) 0 (.own 0 g_data (s1.1.map aB).length),fun _=>none,upd (fun _=>none) 0 (some ⟨g_data,9,(s1.1.map aB),true⟩)⟩) () H1 (Gh.le (aa (aa (aa (aa aj)))) ah (ay ag)) (fun m1 s1 g1 hr1=>?_)
  obtain ⟨fb1,H,hg1⟩ := bZ hr1
  refine az (aw 4 tk rfl (ab (aw 3 tk rfl ?_)))
  refine aP rfl H (fun H=>?_) (fun H=>?_)
  ·refine aO rfl ?_
   obtain rfl := am H
   refine aQ (s1.1,s1.2) () hg1 (Gh.le (aa aj) ah (ay ag))
  refine av (ab (ab ?_))
  obtain ⟨fl10,H10,Hp10⟩ := ax H
  refine aY (τ := List (List UInt8) × Bool) (γ := Unit) (fun t10 g10=>⟨76,upd (upd (upd (upd (upd (upd (fun _=>.any) 36 (aF t10.2)) 9 (ae (IntKind.i64.wrap ((IntKind.i64.wrap ((2 : Int) * s1.2)) + (1 : Int))))) 8 (ae s1.2)) 3 (ae first)) 2 (ae hi)) 0 (.own 0 g_data (t10.1.map aB).length),fun _=>none,upd (fun _=>none) 0 (some ⟨g_data,9,(t10.1.map aB),true⟩)⟩) (fun t=>t = fl10) ?_ (fun t10 g10 hn10=>?_)
  ·have H := H10
   refine cK (tag := 0) rfl (fun ho0=>?_)
   refine bo tk mok ⟨false,true,[]⟩ [0,1,2,3,4,5,6,7,8,9,10,11,12,13,14,15,16,17,18,19] rfl (by decide +kernel) rfl (aL 5 rfl ?_)
   refine ik H (fun H=>?_) (fun H=>?_)
   ·refine aL 4 rfl ?_
    obtain ⟨x26,k26,H⟩ := aX H
    refine aS tk ⟨k26.1,(bl k26.2)⟩ (bi ho0 k26.2) ?_
    refine bd tk (aI (fun _=>rfl) k26.2) ?_
    refine aL 5 rfl ?_
    obtain ⟨x33,k33,H⟩ := aX H
    refine aS tk ⟨k33.1,(bl k33.2)⟩ (bi ho0 k33.2) ?_
    refine bd tk (aI (fun _=>rfl) k33.2) ?_
    obtain ⟨x35,h35,H⟩ := bw H
    have s35 := cN x26 x33
    rw [h35] at s35
    refine bj Tryz.call80 (iR.r) s35 ?_
    refine cq rfl (bh ?_)
    obtain rfl := am H
    refine aQ (s1.1,x35) () rfl (Gh.le (aa (aa (aa (aa (aa (aa aj)))))) ah (ay ag))
   refine aL 15 rfl (bh ?_)
   obtain rfl := am H
   refine aQ (s1.1,false) () rfl (Gh.le (aa (aa (aa (aa (aa (aa aj)))))) ah (ay ag))
  subst hn10
  have H := Hp10
  obtain ⟨fl11,H11,Hp11⟩ := bw H
  refine aY (τ := List (List UInt8) × Int) (γ := Unit) (fun t11 g11=>⟨76,upd (upd (upd (upd (upd (fun _=>.any) 9 (ae t11.2)) 8 (ae s1.2)) 3 (ae first)) 2 (ae hi)) 0 (.own 0 g_data (t11.1.map aB).length),fun _=>none,upd (fun _=>none) 0 (some ⟨g_data,9,(t11.1.map aB),true⟩)⟩) (fun t=>t = fl11) ?_ (fun t11 g11 hn11=>?_)
  ·have H := H11
   refine aP rfl H (fun H=>?_) (fun H=>?_)
   ·refine bm 3 tk rfl ?_
    subst H
    refine aQ (t10.1,(IntKind.i64.wrap ((IntKind.i64.wrap ((IntKind.i64.wrap ((2 : Int) * s1.2)) + (1 : Int))) + (1 : Int)))) () rfl (Gh.le (aa (aa (aa (aa (aa aj))))) ah (ay ag))
   refine av ?_
   subst H
   refine aQ (t10.1,(IntKind.i64.wrap ((IntKind.i64.wrap ((2 : Int) * s1.2)) + (1 : Int)))) () rfl (Gh.le (aa (aa (aa (aa (aa aj))))) ah (ay ag))
  subst hn11
  have H := Hp11
  refine ab (ab ?_)
  refine cK (tag := 0) rfl (fun ho0=>?_)
  refine bo tk mok ⟨false,true,[]⟩ [0,1,2,3,4,5,6,7,8,9,10,11,12,13] rfl (by decide +kernel) rfl (aL 4 rfl ?_)
  obtain ⟨x43,k43,H⟩ := aX H
  refine aS tk ⟨k43.1,(bl k43.2)⟩ (bi ho0 k43.2) ?_
  refine bd tk (aI (fun _=>rfl) k43.2) ?_
  refine aL 4 rfl ?_
  obtain ⟨x49,k49,H⟩ := aX H
  refine aS tk ⟨k49.1,(bl k49.2)⟩ (bi ho0 k49.2) ?_
  refine bd tk (aI (fun _=>rfl) k49.2) ?_
  obtain ⟨x51,h51,H⟩ := bw H
  have s51 := cN x43 x49
  rw [h51] at s51
  refine bj Tryz.call80 (iR.r) s51 ?_
  refine cq rfl (bh ?_)
  refine aP rfl H (fun H=>?_) (fun H=>?_)
  ·obtain rfl := am H
   have e1 : fl1 = .ret _ := hg1
   subst e1
   obtain rfl := bp Hp1
   refine dq (st' := ⟨76,fun _=>.any,fun _=>none,upd (fun _=>none) 0 (some ⟨g_data,9,(t11.1.map aB),true⟩)⟩) (Gh.le aj ah (ay ag)) ?_
   refine eH tk rfl (ps := []) rfl (PLe.q rfl) ⟨rfl,rfl⟩
  refine av (ab ?_)
  refine cK (tag := 0) rfl (fun ho0=>?_)
  refine bo tk mok ⟨false,true,[]⟩ [0,1,2,3,4,5,6,7,8,9,10,11,12,13,14,15,16,17,18,19,20,21,22,23] rfl (by decide +kernel) rfl (aL 12 rfl ?_)
  obtain ⟨x65,k65,H⟩ := aX H
  refine aS tk ⟨k65.1,(bl k65.2)⟩ (bi ho0 k65.2) ?_
  refine bd tk (aI (fun _=>rfl) k65.2) ?_
  refine aL 4 rfl ?_
  obtain ⟨x71,k71,H⟩ := aX H
  refine aS tk ⟨k71.1,(bl k71.2)⟩ (bi ho0 k71.2) ?_
  refine bd tk (aI (fun _=>rfl) k71.2) ?_
  obtain ⟨x73,k73,H⟩ := aX H
  refine aS tk ⟨k73.1,(bl k73.2)⟩ (bi ho0 k73.2) ?_
  obtain ⟨y12,hy12,H⟩ := bw H
  refine cg tk rfl rfl rfl rfl rfl rfl rfl rfl rfl (by rw [zl]; exact (zg.1 k73.2).1) (PLe.refl _ _) rfl rfl rfl rfl (by decide) (bG (fun _=>rfl) k73.2 rfl hy12) ?_
  obtain ⟨x74,k74,H⟩ := aX H
  refine aS tk ⟨k74.1,(gg (bq (f := aB) hy12) k74.2)⟩ (gc ho0 (bq (f := aB) hy12) k74.2) ?_
  obtain ⟨y13,hy13,H⟩ := bw H
  refine cg tk rfl rfl rfl rfl rfl rfl rfl rfl rfl (by rw [zl]; exact (zg.1 k74.2).1) (PLe.refl _ _) rfl rfl rfl rfl (by decide) (bG (fun _=>rfl) k74.2 rfl hy13) ?_
  refine bh (bm 2 tk rfl (aR ?_))
  obtain rfl := am H
  refine aK (y13,t11.2) () hg1 (Gh.le (aH (PLe.of2 (PLe2.of_eq (congrArg (PV.own 0 g_data) ((bq (f := aB) hy12).trans (bq (f := aB) hy13))))) (aa (aa (aa aj)))) ah (ay ag))
 have H := cl hn1 Hp1
 obtain rfl := am H
 refine dq (st' := ⟨76,fun _=>.any,fun _=>none,upd (fun _=>none) 0 (some ⟨g_data,9,(s1.1.map aB),true⟩)⟩) (Gh.le aj ah (ay ag)) ?_
 refine iy rfl (PLe.q rfl) ⟨rfl,rfl⟩
def dl (data : List (List UInt8)) (a : Int) (b : Int) (swaps : Int) : Option (Int × Int × (List (List UInt8)) × Int) :=
 ai (aG data b) fun (x12 : List UInt8) =>
 ai (aG data a) fun (x16 : List UInt8) =>
 bf (bB x12 x16) fun x18 =>
 cond x18
  (some (b,a,data,(IntKind.i64.wrap (swaps + (1 : Int)))))
  (some (a,b,data,swaps))
theorem gY (g_data : OwnRef) (b_swaps : Nat) (data : List (List UInt8)) (a : Int) (b : Int) (swaps : Int) (r : Int × Int × (List (List UInt8)) × Int) (H : dl data a b swaps = some r) :
  PH Tryz.prog 185 [(.own 0 g_data (data.map aB).length),(ae a),(ae b),(.box 1503 b_swaps 0)] ⟨upd (fun _=>none) 1503 (some ⟨b_swaps,[(ae swaps)]⟩),upd (fun _=>none) 0 (some ⟨g_data,9,(data.map aB),true⟩)⟩ (fun u H=>u = (.tup [(ae r.1),(ae r.2.1)]) ∧ H = ⟨upd (fun _=>none) 1503 (some ⟨b_swaps,[(ae r.2.2.2)]⟩),upd (fun _=>none) 0 (some ⟨g_data,9,(r.2.2.1.map aB),true⟩)⟩) := by
 unfold dl at H
 refine PH.aD Tryz.func185 Tryz.ntmps185 ?_
 refine aw 2 tk rfl (ab (ab ?_))
 refine cK (tag := 0) rfl (fun ho0=>?_)
 refine bo tk mok ⟨false,true,[]⟩ [0,1,2,3,4,5,6,7,8] rfl (by decide +kernel) rfl (aL 2 rfl ?_)
 obtain ⟨x12,k12,H⟩ := aX H
 refine aS tk ⟨k12.1,(bl k12.2)⟩ (bi ho0 k12.2) ?_
 refine bd tk (aI (fun _=>rfl) k12.2) ?_
 refine aL 2 rfl ?_
 obtain ⟨x16,k16,H⟩ := aX H
 refine aS tk ⟨k16.1,(bl k16.2)⟩ (bi ho0 k16.2) ?_
 refine bd tk (aI (fun _=>rfl) k16.2) ?_
 obtain ⟨x18,h18,H⟩ := bw H
 have s18 := cN x12 x16
 rw [h18] at s18
 refine bj Tryz.call80 (iR.r) s18 ?_
 refine bh ?_
 refine aP rfl H (fun H=>?_) (fun H=>?_)
 ·refine ab (ac (al 2 tk rfl (aT tk ?_)))
  refine al 2 tk rfl (aE tk ?_)
  refine af (aw 4 tk rfl ?_)
  obtain rfl := am H
  refine dq (st' := ⟨28,upd (upd (fun _=>.any) 9 (ae a)) 8 (ae b),upd (fun _=>none) 1503 (some ⟨b_swaps,[(ae (IntKind.i64.wrap (swaps + (1 : Int))))]⟩),upd (fun _=>none) 0 (some ⟨g_data,9,(data.map aB),true⟩)⟩) (Gh.le (aa (aa aj)) (aA rfl (iR.r) ah) (ay ag)) ?_
  refine eH tk rfl (ps := [(ae b),(ae a)]) ⟨_,_,rfl,rfl,_,_,rfl,rfl,rfl⟩ (PLe.q rfl) ⟨rfl,rfl⟩
 refine av (aw 4 tk rfl ?_)
 obtain rfl := am H
 refine dq (st' := ⟨28,upd (upd (fun _=>.any) 9 (ae b)) 8 (ae a),upd (fun _=>none) 1503 (some ⟨b_swaps,[(ae swaps)]⟩),upd (fun _=>none) 0 (some ⟨g_data,9,(data.map aB),true⟩)⟩) (Gh.le (aa (aa aj)) (aA rfl (iR.r) ah) (ay ag)) ?_
 refine eH tk rfl (ps := [(ae a),(ae b)]) ⟨_,_,rfl,rfl,_,_,rfl,rfl,rfl⟩ (PLe.q rfl) ⟨rfl,rfl⟩
def cV (data : List (List UInt8)) (a : Int) (b : Int) : Option (Bool × (List (List UInt8))) :=
 ai (whileM (σ := List (List UInt8) × Int × Int) (ρ := (Bool × (List (List UInt8)))) (fun (s1 : List (List UInt8) × Int × Int) =>
  cond (decide (s1.2.2 < (5 : Int)))
   (ai (whileM (σ := List (List UInt8) × Int) (ρ := Empty) (fun (s52 : List (List UInt8) × Int) =>
    cond (decide (s52.2 < b))
     (ai (aG s52.1 s52.2) fun (x23 : List UInt8) =>
     ai (aG s52.1 (IntKind.i64.wrap (s52.2 - (1 : Int)))) fun (x28 : List UInt8) =>
     bf (bB x23 x28) fun x30 =>
     cond (!x30)
      (some (.next (s52.1,(IntKind.i64.wrap (s52.2 + (1 : Int))))))
      (some (.brk (s52.1,s52.2))))
     (some (.brk (s52.1,s52.2)))) (s1.1,s1.2.1)) fun fl52=>fl52.thenP fun (s52 : List (List UInt8) × Int) =>
   cond (s52.2 == b)
    (some (.ret (true,s52.1)))
    (cond (decide ((IntKind.i64.wrap (b - a)) < (50 : Int)))
     (some (.ret (false,s52.1)))
     (ai (aG s52.1 (IntKind.i64.wrap (s52.2 - (1 : Int)))) fun (x50 : List UInt8) =>
     ai (aG s52.1 s52.2) fun (x54 : List UInt8) =>
     ai (aG s52.1 s52.2) fun (_ : List UInt8) =>
     bf (s52.1.set s52.2.toNat x50) fun (y53 : List (List UInt8)) =>
     ai (aG y53 (IntKind.i64.wrap (s52.2 - (1 : Int)))) fun (_ : List UInt8) =>
     bf (y53.set ((IntKind.i64.wrap (s52.2 - (1 : Int))).toNat) x54) fun (y54 : List (List UInt8)) =>
     ai (
      cond (decide ((IntKind.i64.wrap (s52.2 - a)) ≥ (2 : Int)))
       (ai (whileM (σ := List (List UInt8) × Int) (ρ := Empty) (fun (s63 : List (List UInt8) × Int) =>
        cond (decide (s63.2 ≥ (1 : Int)))
         (ai (aG s63.1 s63.2) fun (x70 : List UInt8) =>
         ai (aG s63.1 (IntKind.i64.wrap (s63.2 - (1 : Int)))) fun (x75 : List UInt8) =>
         bf (bB x70 x75) fun x77 =>
         cond (!x77)
          (some (.brk (s63.1,s63.2)))
          (ai (aG s63.1 (IntKind.i64.wrap (s63.2 - (1 : Int)))) fun (x87 : List UInt8) =>
          ai (aG s63.1 s63.2) fun (x91 : List UInt8) =>
          ai (aG s63.1 s63.2) fun (_ : List UInt8) =>
          bf (s63.1.set s63.2.toNat x87) fun (y68 : List (List UInt8)) =>
          ai (aG y68 (IntKind.i64.wrap (s63.2 - (1 : Int)))) fun (_ : List UInt8) =>
          bf (y68.set ((IntKind.i64.wrap (s63.2 - (1 : Int))).toNat) x91) fun (y69 : List (List UInt8)) =>
          some (.next (y69,(IntKind.i64.wrap (s63.2 - (1 : Int)))))))
         (some (.brk (s63.1,s63.2)))) (y54,(IntKind.i64.wrap (s52.2 - (1 : Int))))) fun fl63=>fl63.thenP fun (s63 : List (List UInt8) × Int) =>
       some s63.1)
       (some y54)) fun (t62 : List (List UInt8)) =>
     cond (decide ((IntKind.i64.wrap (b - s52.2)) ≥ (2 : Int)))
      (ai (whileM (σ := List (List UInt8) × Int) (ρ := Empty) (fun (s70 : List (List UInt8) × Int) =>
       cond (decide (s70.2 < b))
        (ai (aG s70.1 s70.2) fun (x108 : List UInt8) =>
        ai (aG s70.1 (IntKind.i64.wrap (s70.2 - (1 : Int)))) fun (x113 : List UInt8) =>
        bf (bB x108 x113) fun x115 =>
        cond (!x115)
         (some (.brk (s70.1,s70.2)))
         (ai (aG s70.1 (IntKind.i64.wrap (s70.2 - (1 : Int)))) fun (x125 : List UInt8) =>
         ai (aG s70.1 s70.2) fun (x129 : List UInt8) =>
         ai (aG s70.1 s70.2) fun (_ : List UInt8) =>
         bf (s70.1.set s70.2.toNat x125) fun (y75 : List (List UInt8)) =>
         ai (aG y75 (IntKind.i64.wrap (s70.2 - (1 : Int)))) fun (_ : List UInt8) =>
         bf (y75.set ((IntKind.i64.wrap (s70.2 - (1 : Int))).toNat) x129) fun (y76 : List (List UInt8)) =>
         some (.next (y76,(IntKind.i64.wrap (s70.2 + (1 : Int)))))))
        (some (.brk (s70.1,s70.2)))) (t62,(IntKind.i64.wrap (s52.2 + (1 : Int))))) fun fl70=>fl70.thenP fun (s70 : List (List UInt8) × Int) =>
      some (.next (s70.1,s52.2,(IntKind.i64.wrap (s1.2.2 + (1 : Int))))))
      (some (.next (t62,s52.2,(IntKind.i64.wrap (s1.2.2 + (1 : Int)))))))))
   (some (.brk (s1.1,s1.2.1,s1.2.2)))) (data,(IntKind.i64.wrap (a + (1 : Int))),0)) fun fl1=>fl1.thenR fun (s1 : List (List UInt8) × Int × Int) =>
 some (false,s1.1)
theorem jP (g_data : OwnRef) (data : List (List UInt8)) (a : Int) (b : Int) (r : Bool × (List (List UInt8))) (H : cV data a b = some r) :
  PH Tryz.prog 129 [(.own 0 g_data (data.map aB).length),(ae a),(ae b)] ⟨fun _=>none,upd (fun _=>none) 0 (some ⟨g_data,9,(data.map aB),true⟩)⟩ (fun u H=>u = (aF r.1) ∧ H = ⟨fun _=>none,upd (fun _=>none) 0 (some ⟨g_data,9,(r.2.map aB),true⟩)⟩) := by
 unfold cV at H
 refine PH.aD Tryz.func129 Tryz.ntmps129 ?_
 refine aw 1 tk rfl (aw 3 tk rfl (ab (aw 1 tk rfl ?_)))
 obtain ⟨fl1,H1,Hp1⟩ := ax H
 refine aY (τ := List (List UInt8) × Int × Int) (γ := Unit) (fun s1 g1=>⟨133,upd (fun _=>.any) 0 (.own 0 g_data (s1.1.map aB).length),fun _=>none,upd (fun _=>none) 0 (some ⟨g_data,9,(s1.1.map aB),true⟩)⟩) (fun t=>fl1 = .next t) ?_ (fun s1 g1 hn1=>?_)
 ·refine az ?_
  refine cA (fun s1 g1=>⟨133,upd (upd (upd (upd (upd (fun _=>.any) 8 (ae s1.2.2)) 7 (ae s1.2.1)) 2 (ae b)) 1 (ae a)) 0 (.own 0 g_data (s1.1.map aB).length),fun _=>none,upd (fun _=>none) 0 (some ⟨g_data,9,(s1.1.map aB),true⟩)⟩) () H1 (Gh.le (aa (aa (aa (aa (aa aj))))) ah (ay ag)) (fun m1 s1 g1 hr1=>?_)
  obtain ⟨fb1,H,hg1⟩ := bZ hr1
  refine ab (aw 2 tk rfl ?_)
  refine aP rfl H (fun H=>?_) (fun H=>?_)
  ·refine av (ab (az (ab ?_)))
   obtain ⟨fl52,H52,Hp52⟩ := ax H
   refine aY (τ := List (List UInt8) × Int) (γ := Unit) (fun s52 g52=>⟨133,upd (upd (upd (upd (upd (fun _=>.any) 8 (ae s1.2.2)) 7 (ae s52.2)) 2 (ae b)) 1 (ae a)) 0 (.own 0 g_data (s52.1.map aB).length),fun _=>none,upd (fun _=>none) 0 (some ⟨g_data,9,(s52.1.map aB),true⟩)⟩) (fun t=>fl52 = .next t) ?_ (fun s52 g52 hn52=>?_)
   ·refine az ?_
    refine cA (fun s52 g52=>⟨133,upd (upd (upd (upd (upd (fun _=>.any) 8 (ae s1.2.2)) 7 (ae s52.2)) 2 (ae b)) 1 (ae a)) 0 (.own 0 g_data (s52.1.map aB).length),fun _=>none,upd (fun _=>none) 0 (some ⟨g_data,9,(s52.1.map aB),true⟩)⟩) () H52 (Gh.le (aa (aa (aa (aa (aa aj))))) ah (ay ag)) (fun m52 s52 g52 hr52=>?_)
    obtain ⟨fb52,H,hg52⟩ := bZ hr52
    refine ab (ab ?_)
    refine cK (tag := 0) rfl (fun ho0=>?_)
    refine bo tk mok ⟨false,true,[]⟩ [0,1,2,3,4,5,6,7,8,9,10,11,12,13,14,15] rfl (by decide +kernel) rfl (aL 4 rfl ?_)
    refine ik H (fun H=>?_) (fun H=>?_)
    ·refine aL 2 rfl ?_
     obtain ⟨x23,k23,H⟩ := aX H
     refine aS tk ⟨k23.1,(bl k23.2)⟩ (bi ho0 k23.2) ?_
     refine bd tk (aI (fun _=>rfl) k23.2) ?_
     refine aL 3 rfl ?_
     obtain ⟨x28,k28,H⟩ := aX H
     refine aS tk ⟨k28.1,(bl k28.2)⟩ (bi ho0 k28.2) ?_
     refine bd tk (aI (fun _=>rfl) k28.2) ?_
     obtain ⟨x30,h30,H⟩ := bw H
     have s30 := cN x23 x28
     rw [h30] at s30
     refine bj Tryz.call80 (iR.r) s30 ?_
     refine aL 2 rfl (bh ?_)
     refine aP rfl H (fun H=>?_) (fun H=>?_)
     ·refine av (az (bm 3 tk rfl (aR ?_)))
      obtain rfl := am H
      refine aK (s52.1,(IntKind.i64.wrap (s52.2 + (1 : Int)))) () hg52 (Gh.le (aa (aa (aa (aa (aa aj))))) ah (ay ag))
     refine aO rfl ?_
     obtain rfl := am H
     refine aQ (s52.1,s52.2) () hg52 (Gh.le (aa (aa (aa (aa (aa aj))))) ah (ay ag))
    refine aL 12 rfl (bh (bL rfl (aO rfl ?_)))
    obtain rfl := am H
    refine aQ (s52.1,s52.2) () hg52 (Gh.le (aa (aa (aa (aa (aa aj))))) ah (ay ag))
   have H := bn hn52 Hp52
   refine ab (aw 3 tk rfl ?_)
   refine aP rfl H (fun H=>?_) (fun H=>?_)
   ·refine aw 1 tk rfl ?_
    obtain rfl := am H
    have e1 : fl1 = .ret _ := hg1
    subst e1
    obtain rfl := bp Hp1
    refine dq (st' := ⟨133,upd (fun _=>.any) 6 (aF true),fun _=>none,upd (fun _=>none) 0 (some ⟨g_data,9,(s52.1.map aB),true⟩)⟩) (Gh.le (aa aj) ah (ay ag)) ?_
    refine eH tk rfl (ps := [(aF true)]) ⟨_,_,rfl,rfl,rfl⟩ (PLe.q rfl) ⟨rfl,rfl⟩
   refine av (ab (aw 4 tk rfl ?_))
   refine aP rfl H (fun H=>?_) (fun H=>?_)
   ·refine aw 1 tk rfl ?_
    obtain rfl := am H
    have e1 : fl1 = .ret _ := hg1
    subst e1
    obtain rfl := bp Hp1
    refine dq (st' := ⟨133,upd (fun _=>.any) 6 (aF false),fun _=>none,upd (fun _=>none) 0 (some ⟨g_data,9,(s52.1.map aB),true⟩)⟩) (Gh.le (aa aj) ah (ay ag)) ?_
    refine eH tk rfl (ps := [(aF false)]) ⟨_,_,rfl,rfl,rfl⟩ (PLe.q rfl) ⟨rfl,rfl⟩
   refine av (ab ?_)
   refine cK (tag := 0) rfl (fun ho0=>?_)
   refine bo tk mok ⟨false,true,[]⟩ [0,1,2,3,4,5,6,7,8,9,10,11,12,13,14,15,16,17] rfl (by decide +kernel) rfl (aL 8 rfl ?_)
   obtain ⟨x50,k50,H⟩ := aX H
   refine aS tk ⟨k50.1,(bl k50.2)⟩ (bi ho0 k50.2) ?_
   refine bd tk (aI (fun _=>rfl) k50.2) ?_
   refine aL 2 rfl ?_
   obtain ⟨x54,k54,H⟩ := aX H
   refine aS tk ⟨k54.1,(bl k54.2)⟩ (bi ho0 k54.2) ?_
   refine bd tk (aI (fun _=>rfl) k54.2) ?_
   obtain ⟨x56,k56,H⟩ := aX H
   refine aS tk ⟨k56.1,(bl k56.2)⟩ (bi ho0 k56.2) ?_
   obtain ⟨y53,hy53,H⟩ := bw H
   refine cg tk rfl rfl rfl rfl rfl rfl rfl rfl rfl (by rw [zl]; exact (zg.1 k56.2).1) (PLe.refl _ _) rfl rfl rfl rfl (by decide) (bG (fun _=>rfl) k56.2 rfl hy53) ?_
   obtain ⟨x57,k57,H⟩ := aX H
   refine aS tk ⟨k57.1,(gg (bq (f := aB) hy53) k57.2)⟩ (gc ho0 (bq (f := aB) hy53) k57.2) ?_
   obtain ⟨y54,hy54,H⟩ := bw H
   refine cg tk rfl rfl rfl rfl rfl rfl rfl rfl rfl (by rw [zl]; exact (zg.1 k57.2).1) (PLe.refl _ _) rfl rfl rfl rfl (by decide) (bG (fun _=>rfl) k57.2 rfl hy54) ?_
   refine bh (ab (aw 4 tk rfl ?_))
   obtain ⟨fl62,H62,Hp62⟩ := ax H
   refine aY (τ := List (List UInt8)) (γ := Unit) (fun t62 g62=>⟨133,upd (upd (upd (upd (upd (fun _=>.any) 8 (ae s1.2.2)) 7 (ae s52.2)) 2 (ae b)) 1 (ae a)) 0 (.own 0 g_data (t62.map aB).length),fun _=>none,upd (fun _=>none) 0 (some ⟨g_data,9,(t62.map aB),true⟩)⟩) (fun t=>t = fl62) ?_ (fun t62 g62 hn62=>?_)
   ·have H := H62
    refine aP rfl H (fun H=>?_) (fun H=>?_)
    ·refine aw 3 tk rfl ?_
     obtain ⟨fl63,H63,Hp63⟩ := ax H
     refine aY (τ := List (List UInt8) × Int) (γ := Unit) (fun s63 g63=>⟨133,upd (upd (upd (upd (upd (fun _=>.any) 8 (ae s1.2.2)) 7 (ae s52.2)) 2 (ae b)) 1 (ae a)) 0 (.own 0 g_data (s63.1.map aB).length),fun _=>none,upd (fun _=>none) 0 (some ⟨g_data,9,(s63.1.map aB),true⟩)⟩) (fun t=>fl63 = .next t) ?_ (fun s63 g63 hn63=>?_)
     ·refine az ?_
      refine cA (fun s63 g63=>⟨133,upd (upd (upd (upd (upd (upd (fun _=>.any) 9 (ae s63.2)) 8 (ae s1.2.2)) 7 (ae s52.2)) 2 (ae b)) 1 (ae a)) 0 (.own 0 g_data (s63.1.map aB).length),fun _=>none,upd (fun _=>none) 0 (some ⟨g_data,9,(s63.1.map aB),true⟩)⟩) () H63 (Gh.le (aH (PLe.of2 (PLe2.of_eq (congrArg (PV.own 0 g_data) ((bq (f := aB) hy53).trans (bq (f := aB) hy54))))) (aa (aa (aa (aa (aa aj)))))) ah (ay ag)) (fun m63 s63 g63 hr63=>?_)
      obtain ⟨fb63,H,hg63⟩ := bZ hr63
      refine ab (aw 2 tk rfl ?_)
      refine aP rfl H (fun H=>?_) (fun H=>?_)
      ·refine av (ab (az (ab (ab ?_))))
       refine cK (tag := 0) rfl (fun ho0=>?_)
       refine bo tk mok ⟨false,true,[]⟩ [0,1,2,3,4,5,6,7,8,9,10] rfl (by decide +kernel) rfl (aL 2 rfl ?_)
       obtain ⟨x70,k70,H⟩ := aX H
       refine aS tk ⟨k70.1,(bl k70.2)⟩ (bi ho0 k70.2) ?_
       refine bd tk (aI (fun _=>rfl) k70.2) ?_
       refine aL 3 rfl ?_
       obtain ⟨x75,k75,H⟩ := aX H
       refine aS tk ⟨k75.1,(bl k75.2)⟩ (bi ho0 k75.2) ?_
       refine bd tk (aI (fun _=>rfl) k75.2) ?_
       obtain ⟨x77,h77,H⟩ := bw H
       have s77 := cN x70 x75
       rw [h77] at s77
       refine bj Tryz.call80 (iR.r) s77 ?_
       refine cq rfl (bh ?_)
       refine aP rfl H (fun H=>?_) (fun H=>?_)
       ·refine aO rfl ?_
        obtain rfl := am H
        refine aQ (s63.1,s63.2) () hg63 (Gh.le (aa (aa (aa (aa (aa aj))))) ah (ay ag))
       refine av ?_
       refine cK (tag := 0) rfl (fun ho0=>?_)
       refine bo tk mok ⟨false,true,[]⟩ [0,1,2,3,4,5,6,7,8,9,10,11,12,13,14,15,16,17] rfl (by decide +kernel) rfl (aL 8 rfl ?_)
       obtain ⟨x87,k87,H⟩ := aX H
       refine aS tk ⟨k87.1,(bl k87.2)⟩ (bi ho0 k87.2) ?_
       refine bd tk (aI (fun _=>rfl) k87.2) ?_
       refine aL 2 rfl ?_
       obtain ⟨x91,k91,H⟩ := aX H
       refine aS tk ⟨k91.1,(bl k91.2)⟩ (bi ho0 k91.2) ?_
       refine bd tk (aI (fun _=>rfl) k91.2) ?_
       obtain ⟨x93,k93,H⟩ := aX H
       refine aS tk ⟨k93.1,(bl k93.2)⟩ (bi ho0 k93.2) ?_
       obtain ⟨y68,hy68,H⟩ := bw H
       refine cg tk rfl rfl rfl rfl rfl rfl rfl rfl rfl (by rw [zl]; exact (zg.1 k93.2).1) (PLe.refl _ _) rfl rfl rfl rfl (by decide) (bG (fun _=>rfl) k93.2 rfl hy68) ?_
       obtain ⟨x94,k94,H⟩ := aX H
       refine aS tk ⟨k94.1,(gg (bq (f := aB) hy68) k94.2)⟩ (gc ho0 (bq (f := aB) hy68) k94.2) ?_
       obtain ⟨y69,hy69,H⟩ := bw H
       refine cg tk rfl rfl rfl rfl rfl rfl rfl rfl rfl (by rw [zl]; exact (zg.1 k94.2).1) (PLe.refl _ _) rfl rfl rfl rfl (by decide) (bG (fun _=>rfl) k94.2 rfl hy69) ?_
       refine bh (aR (bm 3 tk rfl ?_))
       obtain rfl := am H
       refine aK (y69,(IntKind.i64.wrap (s63.2 - (1 : Int)))) () hg63 (Gh.le (aH (PLe.of2 (PLe2.of_eq (congrArg (PV.own 0 g_data) ((bq (f := aB) hy68).trans (bq (f := aB) hy69))))) (aa (aa (aa (aa (aa aj)))))) ah (ay ag))
      refine aO rfl ?_
      obtain rfl := am H
      refine aQ (s63.1,s63.2) () hg63 (Gh.le (aa (aa (aa (aa (aa aj))))) ah (ay ag))
     have H := bn hn63 Hp63
     obtain rfl := am H
     refine aQ s63.1 () rfl (Gh.le (aa (aa (aa (aa (aa aj))))) ah (ay ag))
    refine av ?_
    obtain rfl := am H
    refine aQ y54 () rfl (Gh.le (aH (PLe.of2 (PLe2.of_eq (congrArg (PV.own 0 g_data) ((bq (f := aB) hy53).trans (bq (f := aB) hy54))))) (aa (aa (aa (aa aj))))) ah (ay ag))
   subst hn62
   have H := Hp62
   refine aw 4 tk rfl ?_
   refine aP rfl H (fun H=>?_) (fun H=>?_)
   ·refine aw 3 tk rfl ?_
    obtain ⟨fl70,H70,Hp70⟩ := ax H
    refine aY (τ := List (List UInt8) × Int) (γ := Unit) (fun s70 g70=>⟨133,upd (upd (upd (upd (upd (fun _=>.any) 8 (ae s1.2.2)) 7 (ae s52.2)) 2 (ae b)) 1 (ae a)) 0 (.own 0 g_data (s70.1.map aB).length),fun _=>none,upd (fun _=>none) 0 (some ⟨g_data,9,(s70.1.map aB),true⟩)⟩) (fun t=>fl70 = .next t) ?_ (fun s70 g70 hn70=>?_)
    ·refine az ?_
     refine cA (fun s70 g70=>⟨133,upd (upd (upd (upd (upd (upd (fun _=>.any) 10 (ae s70.2)) 8 (ae s1.2.2)) 7 (ae s52.2)) 2 (ae b)) 1 (ae a)) 0 (.own 0 g_data (s70.1.map aB).length),fun _=>none,upd (fun _=>none) 0 (some ⟨g_data,9,(s70.1.map aB),true⟩)⟩) () H70 (Gh.le (aa (aa (aa (aa (aa (aa aj)))))) ah (ay ag)) (fun m70 s70 g70 hr70=>?_)
     obtain ⟨fb70,H,hg70⟩ := bZ hr70
     refine ab (aw 3 tk rfl ?_)
     refine aP rfl H (fun H=>?_) (fun H=>?_)
     ·refine av (ab (az (ab (ab ?_))))
      refine cK (tag := 0) rfl (fun ho0=>?_)
      refine bo tk mok ⟨false,true,[]⟩ [0,1,2,3,4,5,6,7,8,9,10] rfl (by decide +kernel) rfl (aL 2 rfl ?_)
      obtain ⟨x108,k108,H⟩ := aX H
      refine aS tk ⟨k108.1,(bl k108.2)⟩ (bi ho0 k108.2) ?_
      refine bd tk (aI (fun _=>rfl) k108.2) ?_
      refine aL 3 rfl ?_
      obtain ⟨x113,k113,H⟩ := aX H
      refine aS tk ⟨k113.1,(bl k113.2)⟩ (bi ho0 k113.2) ?_
      refine bd tk (aI (fun _=>rfl) k113.2) ?_
      obtain ⟨x115,h115,H⟩ := bw H
      have s115 := cN x108 x113
      rw [h115] at s115
      refine bj Tryz.call80 (iR.r) s115 ?_
      refine cq rfl (bh ?_)
      refine aP rfl H (fun H=>?_) (fun H=>?_)
      ·refine aO rfl ?_
       obtain rfl := am H
       refine aQ (s70.1,s70.2) () hg70 (Gh.le (aa (aa (aa (aa (aa aj))))) ah (ay ag))
      refine av ?_
      refine cK (tag := 0) rfl (fun ho0=>?_)
      refine bo tk mok ⟨false,true,[]⟩ [0,1,2,3,4,5,6,7,8,9,10,11,12,13,14,15,16,17] rfl (by decide +kernel) rfl (aL 8 rfl ?_)
      obtain ⟨x125,k125,H⟩ := aX H
      refine aS tk ⟨k125.1,(bl k125.2)⟩ (bi ho0 k125.2) ?_
      refine bd tk (aI (fun _=>rfl) k125.2) ?_
      refine aL 2 rfl ?_
      obtain ⟨x129,k129,H⟩ := aX H
      refine aS tk ⟨k129.1,(bl k129.2)⟩ (bi ho0 k129.2) ?_
      refine bd tk (aI (fun _=>rfl) k129.2) ?_
      obtain ⟨x131,k131,H⟩ := aX H
      refine aS tk ⟨k131.1,(bl k131.2)⟩ (bi ho0 k131.2) ?_
      obtain ⟨y75,hy75,H⟩ := bw H
      refine cg tk rfl rfl rfl rfl rfl rfl rfl rfl rfl (by rw [zl]; exact (zg.1 k131.2).1) (PLe.refl _ _) rfl rfl rfl rfl (by decide) (bG (fun _=>rfl) k131.2 rfl hy75) ?_
      obtain ⟨x132,k132,H⟩ := aX H
      refine aS tk ⟨k132.1,(gg (bq (f := aB) hy75) k132.2)⟩ (gc ho0 (bq (f := aB) hy75) k132.2) ?_
      obtain ⟨y76,hy76,H⟩ := bw H
      refine cg tk rfl rfl rfl rfl rfl rfl rfl rfl rfl (by rw [zl]; exact (zg.1 k132.2).1) (PLe.refl _ _) rfl rfl rfl rfl (by decide) (bG (fun _=>rfl) k132.2 rfl hy76) ?_
      refine bh (aR (bm 3 tk rfl ?_))
      obtain rfl := am H
      refine aK (y76,(IntKind.i64.wrap (s70.2 + (1 : Int)))) () hg70 (Gh.le (aH (PLe.of2 (PLe2.of_eq (congrArg (PV.own 0 g_data) ((bq (f := aB) hy75).trans (bq (f := aB) hy76))))) (aa (aa (aa (aa (aa aj)))))) ah (ay ag))
     refine aO rfl ?_
     obtain rfl := am H
     refine aQ (s70.1,s70.2) () hg70 (Gh.le (aa (aa (aa (aa (aa aj))))) ah (ay ag))
    have H := bn hn70 Hp70
    refine aR (bm 3 tk rfl ?_)
    obtain rfl := am H
    refine aK (s70.1,s52.2,(IntKind.i64.wrap (s1.2.2 + (1 : Int)))) () hg1 (Gh.le (aa (aa (aa (aa (aa aj))))) ah (ay ag))
   refine av (aR (bm 3 tk rfl ?_))
   obtain rfl := am H
   refine aK (t62,s52.2,(IntKind.i64.wrap (s1.2.2 + (1 : Int)))) () hg1 (Gh.le (aa (aa (aa (aa (aa aj))))) ah (ay ag))
  refine aO rfl ?_
  obtain rfl := am H
  refine aQ (s1.1,s1.2.1,s1.2.2) () hg1 (Gh.le (aa aj) ah (ay ag))
 have H := cl hn1 Hp1
 refine aw 1 tk rfl ?_
 obtain rfl := am H
 refine dq (st' := ⟨133,upd (fun _=>.any) 6 (aF false),fun _=>none,upd (fun _=>none) 0 (some ⟨g_data,9,(s1.1.map aB),true⟩)⟩) (Gh.le (aa aj) ah (ay ag)) ?_
 refine eH tk rfl (ps := [(aF false)]) ⟨_,_,rfl,rfl,rfl⟩ (PLe.q rfl) ⟨rfl,rfl⟩
def dz (data : List (List UInt8)) (a : Int) (b : Int) (pivot : Int) : Option (Int × (List (List UInt8))) :=
 ai (aG data pivot) fun (x17 : List UInt8) =>
 ai (aG data a) fun (x21 : List UInt8) =>
 ai (aG data a) fun (_ : List UInt8) =>
 bf (data.set a.toNat x17) fun (y1 : List (List UInt8)) =>
 ai (aG y1 pivot) fun (_ : List UInt8) =>
 bf (y1.set pivot.toNat x21) fun (y2 : List (List UInt8)) =>
 ai (whileM (σ := List (List UInt8) × Int × Int) (ρ := Empty) (fun (s3 : List (List UInt8) × Int × Int) =>
  ai (whileM (σ := List (List UInt8) × Int) (ρ := Empty) (fun (s12 : List (List UInt8) × Int) =>
   cond (decide (s12.2 ≤ s3.2.2))
    (ai (aG s12.1 a) fun (x35 : List UInt8) =>
    ai (aG s12.1 s12.2) fun (x39 : List UInt8) =>
    bf (bB x35 x39) fun x41 =>
    cond (!x41)
     (some (.next (s12.1,(IntKind.i64.wrap (s12.2 + (1 : Int))))))
     (some (.brk (s12.1,s12.2))))
    (some (.brk (s12.1,s12.2)))) (s3.1,s3.2.1)) fun fl12=>fl12.thenP fun (s12 : List (List UInt8) × Int) =>
  ai (whileM (σ := List (List UInt8) × Int) (ρ := Empty) (fun (s13 : List (List UInt8) × Int) =>
   cond (decide (s12.2 ≤ s13.2))
    (ai (aG s13.1 a) fun (x52 : List UInt8) =>
    ai (aG s13.1 s13.2) fun (x56 : List UInt8) =>
    bf (bB x52 x56) fun x58 =>
    cond x58
     (some (.next (s13.1,(IntKind.i64.wrap (s13.2 - (1 : Int))))))
     (some (.brk (s13.1,s13.2))))
    (some (.brk (s13.1,s13.2)))) (s12.1,s3.2.2)) fun fl13=>fl13.thenP fun (s13 : List (List UInt8) × Int) =>
  cond (decide (s12.2 > s13.2))
   (some (.brk (s13.1,s12.2,s13.2)))
   (ai (aG s13.1 s13.2) fun (x71 : List UInt8) =>
   ai (aG s13.1 s12.2) fun (x75 : List UInt8) =>
   ai (aG s13.1 s12.2) fun (_ : List UInt8) =>
   bf (s13.1.set s12.2.toNat x71) fun (y14 : List (List UInt8)) =>
   ai (aG y14 s13.2) fun (_ : List UInt8) =>
   bf (y14.set s13.2.toNat x75) fun (y15 : List (List UInt8)) =>
   some (.next (y15,(IntKind.i64.wrap (s12.2 + (1 : Int))),(IntKind.i64.wrap (s13.2 - (1 : Int))))))) (y2,(IntKind.i64.wrap (a + (1 : Int))),(IntKind.i64.wrap (b - (1 : Int))))) fun fl3=>fl3.thenP fun (s3 : List (List UInt8) × Int × Int) =>
 some (s3.2.1,s3.1)
theorem kH (g_data : OwnRef) (data : List (List UInt8)) (a : Int) (b : Int) (pivot : Int) (r : Int × (List (List UInt8))) (H : dz data a b pivot = some r) :
  PH Tryz.prog 130 [(.own 0 g_data (data.map aB).length),(ae a),(ae b),(ae pivot)] ⟨fun _=>none,upd (fun _=>none) 0 (some ⟨g_data,9,(data.map aB),true⟩)⟩ (fun u H=>u = (ae r.1) ∧ H = ⟨fun _=>none,upd (fun _=>none) 0 (some ⟨g_data,9,(r.2.map aB),true⟩)⟩) := by
 unfold dz at H
 refine PH.aD Tryz.func130 Tryz.ntmps130 ?_
 refine aw 1 tk rfl (ab ?_)
 refine cK (tag := 0) rfl (fun ho0=>?_)
 refine bo tk mok ⟨false,true,[]⟩ [0,1,2,3,4,5,6,7,8,9,10,11,12,13,14,15] rfl (by decide +kernel) rfl (aL 6 rfl ?_)
 obtain ⟨x17,k17,H⟩ := aX H
 refine aS tk ⟨k17.1,(bl k17.2)⟩ (bi ho0 k17.2) ?_
 refine bd tk (aI (fun _=>rfl) k17.2) ?_
 refine aL 2 rfl ?_
 obtain ⟨x21,k21,H⟩ := aX H
 refine aS tk ⟨k21.1,(bl k21.2)⟩ (bi ho0 k21.2) ?_
 refine bd tk (aI (fun _=>rfl) k21.2) ?_
 obtain ⟨x23,k23,H⟩ := aX H
 refine aS tk ⟨k23.1,(bl k23.2)⟩ (bi ho0 k23.2) ?_
 obtain ⟨y1,hy1,H⟩ := bw H
 refine cg tk rfl rfl rfl rfl rfl rfl rfl rfl rfl (by rw [zl]; exact (zg.1 k23.2).1) (PLe.refl _ _) rfl rfl rfl rfl (by decide) (bG (fun _=>rfl) k23.2 rfl hy1) ?_
 obtain ⟨x24,k24,H⟩ := aX H
 refine aS tk ⟨k24.1,(gg (bq (f := aB) hy1) k24.2)⟩ (gc ho0 (bq (f := aB) hy1) k24.2) ?_
 obtain ⟨y2,hy2,H⟩ := bw H
 refine cg tk rfl rfl rfl rfl rfl rfl rfl rfl rfl (by rw [zl]; exact (zg.1 k24.2).1) (PLe.refl _ _) rfl rfl rfl rfl (by decide) (bG (fun _=>rfl) k24.2 rfl hy2) ?_
 refine bh (aw 6 tk rfl (ab ?_))
 obtain ⟨fl3,H3,Hp3⟩ := ax H
 refine aY (τ := List (List UInt8) × Int × Int) (γ := Unit) (fun s3 g3=>⟨84,upd (upd (fun _=>.any) 9 (ae s3.2.1)) 0 (.own 0 g_data (s3.1.map aB).length),fun _=>none,upd (fun _=>none) 0 (some ⟨g_data,9,(s3.1.map aB),true⟩)⟩) (fun t=>fl3 = .next t) ?_ (fun s3 g3 hn3=>?_)
 ·refine az ?_
  refine cA (fun s3 g3=>⟨84,upd (upd (upd (upd (fun _=>.any) 10 (ae s3.2.2)) 9 (ae s3.2.1)) 1 (ae a)) 0 (.own 0 g_data (s3.1.map aB).length),fun _=>none,upd (fun _=>none) 0 (some ⟨g_data,9,(s3.1.map aB),true⟩)⟩) () H3 (Gh.le (aH (PLe.of2 (PLe2.of_eq (congrArg (PV.own 0 g_data) ((bq (f := aB) hy1).trans (bq (f := aB) hy2))))) (aa (aa (aa aj)))) ah (ay ag)) (fun m3 s3 g3 hr3=>?_)
  obtain ⟨fb3,H,hg3⟩ := bZ hr3
  refine az (ab ?_)
  obtain ⟨fl12,H12,Hp12⟩ := ax H
  refine aY (τ := List (List UInt8) × Int) (γ := Unit) (fun s12 g12=>⟨84,upd (upd (upd (upd (fun _=>.any) 10 (ae s3.2.2)) 9 (ae s12.2)) 1 (ae a)) 0 (.own 0 g_data (s12.1.map aB).length),fun _=>none,upd (fun _=>none) 0 (some ⟨g_data,9,(s12.1.map aB),true⟩)⟩) (fun t=>fl12 = .next t) ?_ (fun s12 g12 hn12=>?_)
  ·refine az ?_
   refine cA (fun s12 g12=>⟨84,upd (upd (upd (upd (fun _=>.any) 10 (ae s3.2.2)) 9 (ae s12.2)) 1 (ae a)) 0 (.own 0 g_data (s12.1.map aB).length),fun _=>none,upd (fun _=>none) 0 (some ⟨g_data,9,(s12.1.map aB),true⟩)⟩) () H12 (Gh.le (aa (aa (aa (aa aj)))) ah (ay ag)) (fun m12 s12 g12 hr12=>?_)
   obtain ⟨fb12,H,hg12⟩ := bZ hr12
   refine ab (ab ?_)
   refine cK (tag := 0) rfl (fun ho0=>?_)
   refine bo tk mok ⟨false,true,[]⟩ [0,1,2,3,4,5,6,7,8,9,10,11,12,13,14] rfl (by decide +kernel) rfl (aL 4 rfl ?_)
   refine ik H (fun H=>?_) (fun H=>?_)
   ·refine aL 2 rfl ?_
    obtain ⟨x35,k35,H⟩ := aX H
    refine aS tk ⟨k35.1,(bl k35.2)⟩ (bi ho0 k35.2) ?_
    refine bd tk (aI (fun _=>rfl) k35.2) ?_
    refine aL 2 rfl ?_
    obtain ⟨x39,k39,H⟩ := aX H
    refine aS tk ⟨k39.1,(bl k39.2)⟩ (bi ho0 k39.2) ?_
    refine bd tk (aI (fun _=>rfl) k39.2) ?_
    obtain ⟨x41,h41,H⟩ := bw H
    have s41 := cN x35 x39
    rw [h41] at s41
    refine bj Tryz.call80 (iR.r) s41 ?_
    refine aL 2 rfl (bh ?_)
    refine aP rfl H (fun H=>?_) (fun H=>?_)
    ·refine av (az (bm 3 tk rfl (aR ?_)))
     obtain rfl := am H
     refine aK (s12.1,(IntKind.i64.wrap (s12.2 + (1 : Int)))) () hg12 (Gh.le (aa (aa (aa (aa aj)))) ah (ay ag))
    refine aO rfl ?_
    obtain rfl := am H
    refine aQ (s12.1,s12.2) () hg12 (Gh.le (aa (aa (aa (aa aj)))) ah (ay ag))
   refine aL 11 rfl (bh (bL rfl (aO rfl ?_)))
   obtain rfl := am H
   refine aQ (s12.1,s12.2) () hg12 (Gh.le (aa (aa (aa (aa aj)))) ah (ay ag))
  have H := bn hn12 Hp12
  refine ab ?_
  obtain ⟨fl13,H13,Hp13⟩ := ax H
  refine aY (τ := List (List UInt8) × Int) (γ := Unit) (fun s13 g13=>⟨84,upd (upd (upd (upd (fun _=>.any) 10 (ae s13.2)) 9 (ae s12.2)) 1 (ae a)) 0 (.own 0 g_data (s13.1.map aB).length),fun _=>none,upd (fun _=>none) 0 (some ⟨g_data,9,(s13.1.map aB),true⟩)⟩) (fun t=>fl13 = .next t) ?_ (fun s13 g13 hn13=>?_)
  ·refine az ?_
   refine cA (fun s13 g13=>⟨84,upd (upd (upd (upd (fun _=>.any) 10 (ae s13.2)) 9 (ae s12.2)) 1 (ae a)) 0 (.own 0 g_data (s13.1.map aB).length),fun _=>none,upd (fun _=>none) 0 (some ⟨g_data,9,(s13.1.map aB),true⟩)⟩) () H13 (Gh.le (aa (aa (aa (aa aj)))) ah (ay ag)) (fun m13 s13 g13 hr13=>?_)
   obtain ⟨fb13,H,hg13⟩ := bZ hr13
   refine ab (ab ?_)
   refine cK (tag := 0) rfl (fun ho0=>?_)
   refine bo tk mok ⟨false,true,[]⟩ [0,1,2,3,4,5,6,7,8,9,10,11,12,13] rfl (by decide +kernel) rfl (aL 4 rfl ?_)
   refine ik H (fun H=>?_) (fun H=>?_)
   ·refine aL 2 rfl ?_
    obtain ⟨x52,k52,H⟩ := aX H
    refine aS tk ⟨k52.1,(bl k52.2)⟩ (bi ho0 k52.2) ?_
    refine bd tk (aI (fun _=>rfl) k52.2) ?_
    refine aL 2 rfl ?_
    obtain ⟨x56,k56,H⟩ := aX H
    refine aS tk ⟨k56.1,(bl k56.2)⟩ (bi ho0 k56.2) ?_
    refine bd tk (aI (fun _=>rfl) k56.2) ?_
    obtain ⟨x58,h58,H⟩ := bw H
    have s58 := cN x52 x56
    rw [h58] at s58
    refine bj Tryz.call80 (iR.r) s58 ?_
    refine cq rfl (bh ?_)
    refine aP rfl H (fun H=>?_) (fun H=>?_)
    ·refine av (az (bm 3 tk rfl (aR ?_)))
     obtain rfl := am H
     refine aK (s13.1,(IntKind.i64.wrap (s13.2 - (1 : Int)))) () hg13 (Gh.le (aa (aa (aa (aa aj)))) ah (ay ag))
    refine aO rfl ?_
    obtain rfl := am H
    refine aQ (s13.1,s13.2) () hg13 (Gh.le (aa (aa (aa (aa aj)))) ah (ay ag))
   refine aL 10 rfl (bh (bL rfl (aO rfl ?_)))
   obtain rfl := am H
   refine aQ (s13.1,s13.2) () hg13 (Gh.le (aa (aa (aa (aa aj)))) ah (ay ag))
  have H := bn hn13 Hp13
  refine ab (aw 3 tk rfl ?_)
  refine aP rfl H (fun H=>?_) (fun H=>?_)
  ·refine aO rfl ?_
   obtain rfl := am H
   refine aQ (s13.1,s12.2,s13.2) () hg3 (Gh.le (aa (aa aj)) ah (ay ag))
  refine av (ab ?_)
  refine cK (tag := 0) rfl (fun ho0=>?_)
  refine bo tk mok ⟨false,true,[]⟩ [0,1,2,3,4,5,6,7,8,9,10,11,12,13,14,15] rfl (by decide +kernel) rfl (aL 6 rfl ?_)
  obtain ⟨x71,k71,H⟩ := aX H
  refine aS tk ⟨k71.1,(bl k71.2)⟩ (bi ho0 k71.2) ?_
  refine bd tk (aI (fun _=>rfl) k71.2) ?_
  refine aL 2 rfl ?_
  obtain ⟨x75,k75,H⟩ := aX H
  refine aS tk ⟨k75.1,(bl k75.2)⟩ (bi ho0 k75.2) ?_
  refine bd tk (aI (fun _=>rfl) k75.2) ?_
  obtain ⟨x77,k77,H⟩ := aX H
  refine aS tk ⟨k77.1,(bl k77.2)⟩ (bi ho0 k77.2) ?_
  obtain ⟨y14,hy14,H⟩ := bw H
  refine cg tk rfl rfl rfl rfl rfl rfl rfl rfl rfl (by rw [zl]; exact (zg.1 k77.2).1) (PLe.refl _ _) rfl rfl rfl rfl (by decide) (bG (fun _=>rfl) k77.2 rfl hy14) ?_
  obtain ⟨x78,k78,H⟩ := aX H
  refine aS tk ⟨k78.1,(gg (bq (f := aB) hy14) k78.2)⟩ (gc ho0 (bq (f := aB) hy14) k78.2) ?_
  obtain ⟨y15,hy15,H⟩ := bw H
  refine cg tk rfl rfl rfl rfl rfl rfl rfl rfl rfl (by rw [zl]; exact (zg.1 k78.2).1) (PLe.refl _ _) rfl rfl rfl rfl (by decide) (bG (fun _=>rfl) k78.2 rfl hy15) ?_
  refine bh (aw 3 tk rfl (bm 3 tk rfl (aR ?_)))
  obtain rfl := am H
  refine aK (y15,(IntKind.i64.wrap (s12.2 + (1 : Int))),(IntKind.i64.wrap (s13.2 - (1 : Int)))) () hg3 (Gh.le (aH (PLe.of2 (PLe2.of_eq (congrArg (PV.own 0 g_data) ((bq (f := aB) hy14).trans (bq (f := aB) hy15))))) (aa (aa (aa aj)))) ah (ay ag))
 have H := bn hn3 Hp3
 refine aw 2 tk rfl ?_
 obtain rfl := am H
 refine dq (st' := ⟨84,upd (fun _=>.any) 8 (ae s3.2.1),fun _=>none,upd (fun _=>none) 0 (some ⟨g_data,9,(s3.1.map aB),true⟩)⟩) (Gh.le (aa aj) ah (ay ag)) ?_
 refine eH tk rfl (ps := [(ae s3.2.1)]) ⟨_,_,rfl,rfl,rfl⟩ (PLe.q rfl) ⟨rfl,rfl⟩
def eg (data : List (List UInt8)) (a : Int) (b : Int) (pivot : Int) : Option (Int × Bool × (List (List UInt8))) :=
 ai (aG data pivot) fun (x18 : List UInt8) =>
 ai (aG data a) fun (x22 : List UInt8) =>
 ai (aG data a) fun (_ : List UInt8) =>
 bf (data.set a.toNat x18) fun (y1 : List (List UInt8)) =>
 ai (aG y1 pivot) fun (_ : List UInt8) =>
 bf (y1.set pivot.toNat x22) fun (y2 : List (List UInt8)) =>
 ai (whileM (σ := List (List UInt8) × Int) (ρ := Empty) (fun (s3 : List (List UInt8) × Int) =>
  cond (decide (s3.2 ≤ (IntKind.i64.wrap (b - (1 : Int)))))
   (ai (aG s3.1 s3.2) fun (x36 : List UInt8) =>
   ai (aG s3.1 a) fun (x40 : List UInt8) =>
   bf (bB x36 x40) fun x42 =>
   cond x42
    (some (.next (s3.1,(IntKind.i64.wrap (s3.2 + (1 : Int))))))
    (some (.brk (s3.1,s3.2))))
   (some (.brk (s3.1,s3.2)))) (y2,(IntKind.i64.wrap (a + (1 : Int))))) fun fl3=>fl3.thenP fun (s3 : List (List UInt8) × Int) =>
 ai (whileM (σ := List (List UInt8) × Int) (ρ := Empty) (fun (s4 : List (List UInt8) × Int) =>
  cond (decide (s3.2 ≤ s4.2))
   (ai (aG s4.1 s4.2) fun (x52 : List UInt8) =>
   ai (aG s4.1 a) fun (x56 : List UInt8) =>
   bf (bB x52 x56) fun x58 =>
   cond (!x58)
    (some (.next (s4.1,(IntKind.i64.wrap (s4.2 - (1 : Int))))))
    (some (.brk (s4.1,s4.2))))
   (some (.brk (s4.1,s4.2)))) (s3.1,(IntKind.i64.wrap (b - (1 : Int))))) fun fl4=>fl4.thenP fun (s4 : List (List UInt8) × Int) =>
 cond (decide (s3.2 > s4.2))
  (ai (aG s4.1 a) fun (x72 : List UInt8) =>
  ai (aG s4.1 s4.2) fun (x76 : List UInt8) =>
  ai (aG s4.1 s4.2) fun (_ : List UInt8) =>
  bf (s4.1.set s4.2.toNat x72) fun (y5 : List (List UInt8)) =>
  ai (aG y5 a) fun (_ : List UInt8) =>
  bf (y5.set a.toNat x76) fun (y6 : List (List UInt8)) =>
  some (s4.2,true,y6))
  (ai (aG s4.1 s4.2) fun (x87 : List UInt8) =>
  ai (aG s4.1 s3.2) fun (x91 : List UInt8) =>
  ai (aG s4.1 s3.2) fun (_ : List UInt8) =>
  bf (s4.1.set s3.2.toNat x87) fun (y7 : List (List UInt8)) =>
  ai (aG y7 s4.2) fun (_ : List UInt8) =>
  bf (y7.set s4.2.toNat x91) fun (y8 : List (List UInt8)) =>
  ai (whileM (σ := List (List UInt8) × Int × Int) (ρ := Empty) (fun (s9 : List (List UInt8) × Int × Int) =>
   ai (whileM (σ := List (List UInt8) × Int) (ρ := Empty) (fun (s18 : List (List UInt8) × Int) =>
    cond (decide (s18.2 ≤ s9.2.2))
     (ai (aG s18.1 s18.2) fun (x105 : List UInt8) =>
     ai (aG s18.1 a) fun (x109 : List UInt8) =>
     bf (bB x105 x109) fun x111 =>
     cond x111
      (some (.next (s18.1,(IntKind.i64.wrap (s18.2 + (1 : Int))))))
      (some (.brk (s18.1,s18.2))))
     (some (.brk (s18.1,s18.2)))) (s9.1,s9.2.1)) fun fl18=>fl18.thenP fun (s18 : List (List UInt8) × Int) =>
   ai (whileM (σ := List (List UInt8) × Int) (ρ := Empty) (fun (s19 : List (List UInt8) × Int) =>
    cond (decide (s18.2 ≤ s19.2))
     (ai (aG s19.1 s19.2) fun (x121 : List UInt8) =>
     ai (aG s19.1 a) fun (x125 : List UInt8) =>
     bf (bB x121 x125) fun x127 =>
     cond (!x127)
      (some (.next (s19.1,(IntKind.i64.wrap (s19.2 - (1 : Int))))))
      (some (.brk (s19.1,s19.2))))
     (some (.brk (s19.1,s19.2)))) (s18.1,s9.2.2)) fun fl19=>fl19.thenP fun (s19 : List (List UInt8) × Int) =>
   cond (decide (s18.2 > s19.2))
    (some (.brk (s19.1,s18.2,s19.2)))
    (ai (aG s19.1 s19.2) fun (x141 : List UInt8) =>
    ai (aG s19.1 s18.2) fun (x145 : List UInt8) =>
    ai (aG s19.1 s18.2) fun (_ : List UInt8) =>
    bf (s19.1.set s18.2.toNat x141) fun (y20 : List (List UInt8)) =>
    ai (aG y20 s19.2) fun (_ : List UInt8) =>
    bf (y20.set s19.2.toNat x145) fun (y21 : List (List UInt8)) =>
    some (.next (y21,(IntKind.i64.wrap (s18.2 + (1 : Int))),(IntKind.i64.wrap (s19.2 - (1 : Int))))))) (y8,(IntKind.i64.wrap (s3.2 + (1 : Int))),(IntKind.i64.wrap (s4.2 - (1 : Int))))) fun fl9=>fl9.thenP fun (s9 : List (List UInt8) × Int × Int) =>
  ai (aG s9.1 a) fun (x159 : List UInt8) =>
  ai (aG s9.1 s9.2.2) fun (x163 : List UInt8) =>
  ai (aG s9.1 s9.2.2) fun (_ : List UInt8) =>
  bf (s9.1.set s9.2.2.toNat x159) fun (y22 : List (List UInt8)) =>
  ai (aG y22 a) fun (_ : List UInt8) =>
  bf (y22.set a.toNat x163) fun (y23 : List (List UInt8)) =>
  some (s9.2.2,false,y23))
theorem lL (g_data : OwnRef) (data : List (List UInt8)) (a : Int) (b : Int) (pivot : Int) (r : Int × Bool × (List (List UInt8))) (H : eg data a b pivot = some r) :
  PH Tryz.prog 131 [(.own 0 g_data (data.map aB).length),(ae a),(ae b),(ae pivot)] ⟨fun _=>none,upd (fun _=>none) 0 (some ⟨g_data,9,(data.map aB),true⟩)⟩ (fun u H=>u = (.tup [(ae r.1),(aF r.2.1)]) ∧ H = ⟨fun _=>none,upd (fun _=>none) 0 (some ⟨g_data,9,(r.2.2.map aB),true⟩)⟩) := by
 unfold eg at H
 refine PH.aD Tryz.func131 Tryz.ntmps131 ?_
 refine aw 2 tk rfl (ab ?_)
 refine cK (tag := 0) rfl (fun ho0=>?_)
 refine bo tk mok ⟨false,true,[]⟩ [0,1,2,3,4,5,6,7,8,9,10,11,12,13,14,15] rfl (by decide +kernel) rfl (aL 6 rfl ?_)
 obtain ⟨x18,k18,H⟩ := aX H
 refine aS tk ⟨k18.1,(bl k18.2)⟩ (bi ho0 k18.2) ?_
 refine bd tk (aI (fun _=>rfl) k18.2) ?_
 refine aL 2 rfl ?_
 obtain ⟨x22,k22,H⟩ := aX H
 refine aS tk ⟨k22.1,(bl k22.2)⟩ (bi ho0 k22.2) ?_
 refine bd tk (aI (fun _=>rfl) k22.2) ?_
 obtain ⟨x24,k24,H⟩ := aX H
 refine aS tk ⟨k24.1,(bl k24.2)⟩ (bi ho0 k24.2) ?_
 obtain ⟨y1,hy1,H⟩ := bw H
 refine cg tk rfl rfl rfl rfl rfl rfl rfl rfl rfl (by rw [zl]; exact (zg.1 k24.2).1) (PLe.refl _ _) rfl rfl rfl rfl (by decide) (bG (fun _=>rfl) k24.2 rfl hy1) ?_
 obtain ⟨x25,k25,H⟩ := aX H
 refine aS tk ⟨k25.1,(gg (bq (f := aB) hy1) k25.2)⟩ (gc ho0 (bq (f := aB) hy1) k25.2) ?_
 obtain ⟨y2,hy2,H⟩ := bw H
 refine cg tk rfl rfl rfl rfl rfl rfl rfl rfl rfl (by rw [zl]; exact (zg.1 k25.2).1) (PLe.refl _ _) rfl rfl rfl rfl (by decide) (bG (fun _=>rfl) k25.2 rfl hy2) ?_
 refine bh (aw 6 tk rfl (ab ?_))
 obtain ⟨fl3,H3,Hp3⟩ := ax H
 refine aY (τ := List (List UInt8) × Int) (γ := Unit) (fun s3 g3=>⟨168,upd (upd (upd (upd (fun _=>.any) 11 (ae (IntKind.i64.wrap (b - (1 : Int))))) 10 (ae s3.2)) 1 (ae a)) 0 (.own 0 g_data (s3.1.map aB).length),fun _=>none,upd (fun _=>none) 0 (some ⟨g_data,9,(s3.1.map aB),true⟩)⟩) (fun t=>fl3 = .next t) ?_ (fun s3 g3 hn3=>?_)
 ·refine az ?_
  refine cA (fun s3 g3=>⟨168,upd (upd (upd (upd (fun _=>.any) 11 (ae (IntKind.i64.wrap (b - (1 : Int))))) 10 (ae s3.2)) 1 (ae a)) 0 (.own 0 g_data (s3.1.map aB).length),fun _=>none,upd (fun _=>none) 0 (some ⟨g_data,9,(s3.1.map aB),true⟩)⟩) () H3 (Gh.le (aH (PLe.of2 (PLe2.of_eq (congrArg (PV.own 0 g_data) ((bq (f := aB) hy1).trans (bq (f := aB) hy2))))) (aa (aa (aa aj)))) ah (ay ag)) (fun m3 s3 g3 hr3=>?_)
  obtain ⟨fb3,H,hg3⟩ := bZ hr3
  refine ab (ab ?_)
  refine cK (tag := 0) rfl (fun ho0=>?_)
  refine bo tk mok ⟨false,true,[]⟩ [0,1,2,3,4,5,6,7,8,9,10,11,12,13] rfl (by decide +kernel) rfl (aL 4 rfl ?_)
  refine ik H (fun H=>?_) (fun H=>?_)
  ·refine aL 2 rfl ?_
   obtain ⟨x36,k36,H⟩ := aX H
   refine aS tk ⟨k36.1,(bl k36.2)⟩ (bi ho0 k36.2) ?_
   refine bd tk (aI (fun _=>rfl) k36.2) ?_
   refine aL 2 rfl ?_
   obtain ⟨x40,k40,H⟩ := aX H
   refine aS tk ⟨k40.1,(bl k40.2)⟩ (bi ho0 k40.2) ?_
   refine bd tk (aI (fun _=>rfl) k40.2) ?_
   obtain ⟨x42,h42,H⟩ := bw H
   have s42 := cN x36 x40
   rw [h42] at s42
   refine bj Tryz.call80 (iR.r) s42 ?_
   refine cq rfl (bh ?_)
   refine aP rfl H (fun H=>?_) (fun H=>?_)
   ·refine av (az (bm 3 tk rfl (aR ?_)))
    obtain rfl := am H
    refine aK (s3.1,(IntKind.i64.wrap (s3.2 + (1 : Int)))) () hg3 (Gh.le (aa (aa (aa (aa aj)))) ah (ay ag))
   refine aO rfl ?_
   obtain rfl := am H
   refine aQ (s3.1,s3.2) () hg3 (Gh.le (aa (aa (aa (aa aj)))) ah (ay ag))
  refine aL 10 rfl (bh (bL rfl (aO rfl ?_)))
  obtain rfl := am H
  refine aQ (s3.1,s3.2) () hg3 (Gh.le (aa (aa (aa (aa aj)))) ah (ay ag))
 have H := bn hn3 Hp3
 refine ab ?_
 obtain ⟨fl4,H4,Hp4⟩ := ax H
 refine aY (τ := List (List UInt8) × Int) (γ := Unit) (fun s4 g4=>⟨168,upd (upd (upd (upd (fun _=>.any) 11 (ae s4.2)) 10 (ae s3.2)) 1 (ae a)) 0 (.own 0 g_data (s4.1.map aB).length),fun _=>none,upd (fun _=>none) 0 (some ⟨g_data,9,(s4.1.map aB),true⟩)⟩) (fun t=>fl4 = .next t) ?_ (fun s4 g4 hn4=>?_)
 ·refine az ?_
  refine cA (fun s4 g4=>⟨168,upd (upd (upd (upd (fun _=>.any) 11 (ae s4.2)) 10 (ae s3.2)) 1 (ae a)) 0 (.own 0 g_data (s4.1.map aB).length),fun _=>none,upd (fun _=>none) 0 (some ⟨g_data,9,(s4.1.map aB),true⟩)⟩) () H4 (Gh.le (aa (aa (aa (aa aj)))) ah (ay ag)) (fun m4 s4 g4 hr4=>?_)
  obtain ⟨fb4,H,hg4⟩ := bZ hr4
  refine ab (ab ?_)
  refine cK (tag := 0) rfl (fun ho0=>?_)
  refine bo tk mok ⟨false,true,[]⟩ [0,1,2,3,4,5,6,7,8,9,10,11,12,13,14] rfl (by decide +kernel) rfl (aL 4 rfl ?_)
  refine ik H (fun H=>?_) (fun H=>?_)
  ·refine aL 2 rfl ?_
   obtain ⟨x52,k52,H⟩ := aX H
   refine aS tk ⟨k52.1,(bl k52.2)⟩ (bi ho0 k52.2) ?_
   refine bd tk (aI (fun _=>rfl) k52.2) ?_
   refine aL 2 rfl ?_
   obtain ⟨x56,k56,H⟩ := aX H
   refine aS tk ⟨k56.1,(bl k56.2)⟩ (bi ho0 k56.2) ?_
   refine bd tk (aI (fun _=>rfl) k56.2) ?_
   obtain ⟨x58,h58,H⟩ := bw H
   have s58 := cN x52 x56
   rw [h58] at s58
   refine bj Tryz.call80 (iR.r) s58 ?_
   refine aL 2 rfl (bh ?_)
   refine aP rfl H (fun H=>?_) (fun H=>?_)
   ·refine av (az (bm 3 tk rfl (aR ?_)))
    obtain rfl := am H
    refine aK (s4.1,(IntKind.i64.wrap (s4.2 - (1 : Int)))) () hg4 (Gh.le (aa (aa (aa (aa aj)))) ah (ay ag))
   refine aO rfl ?_
   obtain rfl := am H
   refine aQ (s4.1,s4.2) () hg4 (Gh.le (aa (aa (aa (aa aj)))) ah (ay ag))
  refine aL 11 rfl (bh (bL rfl (aO rfl ?_)))
  obtain rfl := am H
  refine aQ (s4.1,s4.2) () hg4 (Gh.le (aa (aa (aa (aa aj)))) ah (ay ag))
 have H := bn hn4 Hp4
 refine ab (aw 3 tk rfl ?_)
 refine aP rfl H (fun H=>?_) (fun H=>?_)
 ·refine ab ?_
  refine cK (tag := 0) rfl (fun ho0=>?_)
  refine bo tk mok ⟨false,true,[]⟩ [0,1,2,3,4,5,6,7,8,9,10,11,12,13,14,15] rfl (by decide +kernel) rfl (aL 6 rfl ?_)
  obtain ⟨x72,k72,H⟩ := aX H
  refine aS tk ⟨k72.1,(bl k72.2)⟩ (bi ho0 k72.2) ?_
  refine bd tk (aI (fun _=>rfl) k72.2) ?_
  refine aL 2 rfl ?_
  obtain ⟨x76,k76,H⟩ := aX H
  refine aS tk ⟨k76.1,(bl k76.2)⟩ (bi ho0 k76.2) ?_
  refine bd tk (aI (fun _=>rfl) k76.2) ?_
  obtain ⟨x78,k78,H⟩ := aX H
  refine aS tk ⟨k78.1,(bl k78.2)⟩ (bi ho0 k78.2) ?_
  obtain ⟨y5,hy5,H⟩ := bw H
  refine cg tk rfl rfl rfl rfl rfl rfl rfl rfl rfl (by rw [zl]; exact (zg.1 k78.2).1) (PLe.refl _ _) rfl rfl rfl rfl (by decide) (bG (fun _=>rfl) k78.2 rfl hy5) ?_
  obtain ⟨x79,k79,H⟩ := aX H
  refine aS tk ⟨k79.1,(gg (bq (f := aB) hy5) k79.2)⟩ (gc ho0 (bq (f := aB) hy5) k79.2) ?_
  obtain ⟨y6,hy6,H⟩ := bw H
  refine cg tk rfl rfl rfl rfl rfl rfl rfl rfl rfl (by rw [zl]; exact (zg.1 k79.2).1) (PLe.refl _ _) rfl rfl rfl rfl (by decide) (bG (fun _=>rfl) k79.2 rfl hy6) ?_
  refine bh (aw 3 tk rfl ?_)
  obtain rfl := am H
  refine dq (st' := ⟨168,upd (upd (fun _=>.any) 9 (aF true)) 8 (ae s4.2),fun _=>none,upd (fun _=>none) 0 (some ⟨g_data,9,(y6.map aB),true⟩)⟩) (Gh.le (aa (aa aj)) ah (ay ag)) ?_
  refine eH tk rfl (ps := [(ae s4.2),(aF true)]) ⟨_,_,rfl,rfl,_,_,rfl,rfl,rfl⟩ (PLe.q rfl) ⟨rfl,rfl⟩
 refine av (ab ?_)
 refine cK (tag := 0) rfl (fun ho0=>?_)
 refine bo tk mok ⟨false,true,[]⟩ [0,1,2,3,4,5,6,7,8,9,10,11,12,13,14,15] rfl (by decide +kernel) rfl (aL 6 rfl ?_)
 obtain ⟨x87,k87,H⟩ := aX H
 refine aS tk ⟨k87.1,(bl k87.2)⟩ (bi ho0 k87.2) ?_
 refine bd tk (aI (fun _=>rfl) k87.2) ?_
 refine aL 2 rfl ?_
 obtain ⟨x91,k91,H⟩ := aX H
 refine aS tk ⟨k91.1,(bl k91.2)⟩ (bi ho0 k91.2) ?_
 refine bd tk (aI (fun _=>rfl) k91.2) ?_
 obtain ⟨x93,k93,H⟩ := aX H
 refine aS tk ⟨k93.1,(bl k93.2)⟩ (bi ho0 k93.2) ?_
 obtain ⟨y7,hy7,H⟩ := bw H
 refine cg tk rfl rfl rfl rfl rfl rfl rfl rfl rfl (by rw [zl]; exact (zg.1 k93.2).1) (PLe.refl _ _) rfl rfl rfl rfl (by decide) (bG (fun _=>rfl) k93.2 rfl hy7) ?_
 obtain ⟨x94,k94,H⟩ := aX H
 refine aS tk ⟨k94.1,(gg (bq (f := aB) hy7) k94.2)⟩ (gc ho0 (bq (f := aB) hy7) k94.2) ?_
 obtain ⟨y8,hy8,H⟩ := bw H
 refine cg tk rfl rfl rfl rfl rfl rfl rfl rfl rfl (by rw [zl]; exact (zg.1 k94.2).1) (PLe.refl _ _) rfl rfl rfl rfl (by decide) (bG (fun _=>rfl) k94.2 rfl hy8) ?_
 refine bh (aw 3 tk rfl (aw 3 tk rfl (ab ?_)))
 obtain ⟨fl9,H9,Hp9⟩ := ax H
 refine aY (τ := List (List UInt8) × Int × Int) (γ := Unit) (fun s9 g9=>⟨168,upd (upd (upd (fun _=>.any) 11 (ae s9.2.2)) 1 (ae a)) 0 (.own 0 g_data (s9.1.map aB).length),fun _=>none,upd (fun _=>none) 0 (some ⟨g_data,9,(s9.1.map aB),true⟩)⟩) (fun t=>fl9 = .next t) ?_ (fun s9 g9 hn9=>?_)
 ·refine az ?_
  refine cA (fun s9 g9=>⟨168,upd (upd (upd (upd (fun _=>.any) 11 (ae s9.2.2)) 10 (ae s9.2.1)) 1 (ae a)) 0 (.own 0 g_data (s9.1.map aB).length),fun _=>none,upd (fun _=>none) 0 (some ⟨g_data,9,(s9.1.map aB),true⟩)⟩) () H9 (Gh.le (aH (PLe.of2 (PLe2.of_eq (congrArg (PV.own 0 g_data) ((bq (f := aB) hy7).trans (bq (f := aB) hy8))))) (aa (aa (aa aj)))) ah (ay ag)) (fun m9 s9 g9 hr9=>?_)
  obtain ⟨fb9,H,hg9⟩ := bZ hr9
  refine az (ab ?_)
  obtain ⟨fl18,H18,Hp18⟩ := ax H
  refine aY (τ := List (List UInt8) × Int) (γ := Unit) (fun s18 g18=>⟨168,upd (upd (upd (upd (fun _=>.any) 11 (ae s9.2.2)) 10 (ae s18.2)) 1 (ae a)) 0 (.own 0 g_data (s18.1.map aB).length),fun _=>none,upd (fun _=>none) 0 (some ⟨g_data,9,(s18.1.map aB),true⟩)⟩) (fun t=>fl18 = .next t) ?_ (fun s18 g18 hn18=>?_)
  ·refine az ?_
   refine cA (fun s18 g18=>⟨168,upd (upd (upd (upd (fun _=>.any) 11 (ae s9.2.2)) 10 (ae s18.2)) 1 (ae a)) 0 (.own 0 g_data (s18.1.map aB).length),fun _=>none,upd (fun _=>none) 0 (some ⟨g_data,9,(s18.1.map aB),true⟩)⟩) () H18 (Gh.le (aa (aa (aa (aa aj)))) ah (ay ag)) (fun m18 s18 g18 hr18=>?_)
   obtain ⟨fb18,H,hg18⟩ := bZ hr18
   refine ab (ab ?_)
   refine cK (tag := 0) rfl (fun ho0=>?_)
   refine bo tk mok ⟨false,true,[]⟩ [0,1,2,3,4,5,6,7,8,9,10,11,12,13] rfl (by decide +kernel) rfl (aL 4 rfl ?_)
   refine ik H (fun H=>?_) (fun H=>?_)
   ·refine aL 2 rfl ?_
    obtain ⟨x105,k105,H⟩ := aX H
    refine aS tk ⟨k105.1,(bl k105.2)⟩ (bi ho0 k105.2) ?_
    refine bd tk (aI (fun _=>rfl) k105.2) ?_
    refine aL 2 rfl ?_
    obtain ⟨x109,k109,H⟩ := aX H
    refine aS tk ⟨k109.1,(bl k109.2)⟩ (bi ho0 k109.2) ?_
    refine bd tk (aI (fun _=>rfl) k109.2) ?_
    obtain ⟨x111,h111,H⟩ := bw H
    have s111 := cN x105 x109
    rw [h111] at s111
    refine bj Tryz.call80 (iR.r) s111 ?_
    refine cq rfl (bh ?_)
    refine aP rfl H (fun H=>?_) (fun H=>?_)
    ·refine av (az (bm 3 tk rfl (aR ?_)))
     obtain rfl := am H
     refine aK (s18.1,(IntKind.i64.wrap (s18.2 + (1 : Int)))) () hg18 (Gh.le (aa (aa (aa (aa aj)))) ah (ay ag))
    refine aO rfl ?_
    obtain rfl := am H
    refine aQ (s18.1,s18.2) () hg18 (Gh.le (aa (aa (aa (aa aj)))) ah (ay ag))
   refine aL 10 rfl (bh (bL rfl (aO rfl ?_)))
   obtain rfl := am H
   refine aQ (s18.1,s18.2) () hg18 (Gh.le (aa (aa (aa (aa aj)))) ah (ay ag))
  have H := bn hn18 Hp18
  refine ab ?_
  obtain ⟨fl19,H19,Hp19⟩ := ax H
  refine aY (τ := List (List UInt8) × Int) (γ := Unit) (fun s19 g19=>⟨168,upd (upd (upd (upd (fun _=>.any) 11 (ae s19.2)) 10 (ae s18.2)) 1 (ae a)) 0 (.own 0 g_data (s19.1.map aB).length),fun _=>none,upd (fun _=>none) 0 (some ⟨g_data,9,(s19.1.map aB),true⟩)⟩) (fun t=>fl19 = .next t) ?_ (fun s19 g19 hn19=>?_)
  ·refine az ?_
   refine cA (fun s19 g19=>⟨168,upd (upd (upd (upd (fun _=>.any) 11 (ae s19.2)) 10 (ae s18.2)) 1 (ae a)) 0 (.own 0 g_data (s19.1.map aB).length),fun _=>none,upd (fun _=>none) 0 (some ⟨g_data,9,(s19.1.map aB),true⟩)⟩) () H19 (Gh.le (aa (aa (aa (aa aj)))) ah (ay ag)) (fun m19 s19 g19 hr19=>?_)
   obtain ⟨fb19,H,hg19⟩ := bZ hr19
   refine ab (ab ?_)
   refine cK (tag := 0) rfl (fun ho0=>?_)
   refine bo tk mok ⟨false,true,[]⟩ [0,1,2,3,4,5,6,7,8,9,10,11,12,13,14] rfl (by decide +kernel) rfl (aL 4 rfl ?_)
   refine ik H (fun H=>?_) (fun H=>?_)
   ·refine aL 2 rfl ?_
    obtain ⟨x121,k121,H⟩ := aX H
    refine aS tk ⟨k121.1,(bl k121.2)⟩ (bi ho0 k121.2) ?_
    refine bd tk (aI (fun _=>rfl) k121.2) ?_
    refine aL 2 rfl ?_
    obtain ⟨x125,k125,H⟩ := aX H
    refine aS tk ⟨k125.1,(bl k125.2)⟩ (bi ho0 k125.2) ?_
    refine bd tk (aI (fun _=>rfl) k125.2) ?_
    obtain ⟨x127,h127,H⟩ := bw H
    have s127 := cN x121 x125
    rw [h127] at s127
    refine bj Tryz.call80 (iR.r) s127 ?_
    refine aL 2 rfl (bh ?_)
    refine aP rfl H (fun H=>?_) (fun H=>?_)
    ·refine av (az (bm 3 tk rfl (aR ?_)))
     obtain rfl := am H
     refine aK (s19.1,(IntKind.i64.wrap (s19.2 - (1 : Int)))) () hg19 (Gh.le (aa (aa (aa (aa aj)))) ah (ay ag))
    refine aO rfl ?_
    obtain rfl := am H
    refine aQ (s19.1,s19.2) () hg19 (Gh.le (aa (aa (aa (aa aj)))) ah (ay ag))
   refine aL 11 rfl (bh (bL rfl (aO rfl ?_)))
   obtain rfl := am H
   refine aQ (s19.1,s19.2) () hg19 (Gh.le (aa (aa (aa (aa aj)))) ah (ay ag))
  have H := bn hn19 Hp19
  refine ab (aw 3 tk rfl ?_)
  refine aP rfl H (fun H=>?_) (fun H=>?_)
  ·refine aO rfl ?_
   obtain rfl := am H
   refine aQ (s19.1,s18.2,s19.2) () hg9 (Gh.le (aa (aa (aa aj))) ah (ay ag))
  refine av (ab ?_)
  refine cK (tag := 0) rfl (fun ho0=>?_)
  refine bo tk mok ⟨false,true,[]⟩ [0,1,2,3,4,5,6,7,8,9,10,11,12,13,14,15] rfl (by decide +kernel) rfl (aL 6 rfl ?_)
  obtain ⟨x141,k141,H⟩ := aX H
  refine aS tk ⟨k141.1,(bl k141.2)⟩ (bi ho0 k141.2) ?_
  refine bd tk (aI (fun _=>rfl) k141.2) ?_
  refine aL 2 rfl ?_
  obtain ⟨x145,k145,H⟩ := aX H
  refine aS tk ⟨k145.1,(bl k145.2)⟩ (bi ho0 k145.2) ?_
  refine bd tk (aI (fun _=>rfl) k145.2) ?_
  obtain ⟨x147,k147,H⟩ := aX H
  refine aS tk ⟨k147.1,(bl k147.2)⟩ (bi ho0 k147.2) ?_
  obtain ⟨y20,hy20,H⟩ := bw H
  refine cg tk rfl rfl rfl rfl rfl rfl rfl rfl rfl (by rw [zl]; exact (zg.1 k147.2).1) (PLe.refl _ _) rfl rfl rfl rfl (by decide) (bG (fun _=>rfl) k147.2 rfl hy20) ?_
  obtain ⟨x148,k148,H⟩ := aX H
  refine aS tk ⟨k148.1,(gg (bq (f := aB) hy20) k148.2)⟩ (gc ho0 (bq (f := aB) hy20) k148.2) ?_
  obtain ⟨y21,hy21,H⟩ := bw H
  refine cg tk rfl rfl rfl rfl rfl rfl rfl rfl rfl (by rw [zl]; exact (zg.1 k148.2).1) (PLe.refl _ _) rfl rfl rfl rfl (by decide) (bG (fun _=>rfl) k148.2 rfl hy21) ?_
  refine bh (aw 3 tk rfl (bm 3 tk rfl (aR ?_)))
  obtain rfl := am H
  refine aK (y21,(IntKind.i64.wrap (s18.2 + (1 : Int))),(IntKind.i64.wrap (s19.2 - (1 : Int)))) () hg9 (Gh.le (aH (PLe.of2 (PLe2.of_eq (congrArg (PV.own 0 g_data) ((bq (f := aB) hy20).trans (bq (f := aB) hy21))))) (aa (aa (aa aj)))) ah (ay ag))
 have H := bn hn9 Hp9
 refine ab ?_
 refine cK (tag := 0) rfl (fun ho0=>?_)
 refine bo tk mok ⟨false,true,[]⟩ [0,1,2,3,4,5,6,7,8,9,10,11,12,13,14,15] rfl (by decide +kernel) rfl (aL 6 rfl ?_)
 obtain ⟨x159,k159,H⟩ := aX H
 refine aS tk ⟨k159.1,(bl k159.2)⟩ (bi ho0 k159.2) ?_
 refine bd tk (aI (fun _=>rfl) k159.2) ?_
 refine aL 2 rfl ?_
 obtain ⟨x163,k163,H⟩ := aX H
 refine aS tk ⟨k163.1,(bl k163.2)⟩ (bi ho0 k163.2) ?_
 refine bd tk (aI (fun _=>rfl) k163.2) ?_
 obtain ⟨x165,k165,H⟩ := aX H
 refine aS tk ⟨k165.1,(bl k165.2)⟩ (bi ho0 k165.2) ?_
 obtain ⟨y22,hy22,H⟩ := bw H
 refine cg tk rfl rfl rfl rfl rfl rfl rfl rfl rfl (by rw [zl]; exact (zg.1 k165.2).1) (PLe.refl _ _) rfl rfl rfl rfl (by decide) (bG (fun _=>rfl) k165.2 rfl hy22) ?_
 obtain ⟨x166,k166,H⟩ := aX H
 refine aS tk ⟨k166.1,(gg (bq (f := aB) hy22) k166.2)⟩ (gc ho0 (bq (f := aB) hy22) k166.2) ?_
 obtain ⟨y23,hy23,H⟩ := bw H
 refine cg tk rfl rfl rfl rfl rfl rfl rfl rfl rfl (by rw [zl]; exact (zg.1 k166.2).1) (PLe.refl _ _) rfl rfl rfl rfl (by decide) (bG (fun _=>rfl) k166.2 rfl hy23) ?_
 refine bh (aw 3 tk rfl ?_)
 obtain rfl := am H
 refine dq (st' := ⟨168,upd (upd (fun _=>.any) 9 (aF false)) 8 (ae s9.2.2),fun _=>none,upd (fun _=>none) 0 (some ⟨g_data,9,(y23.map aB),true⟩)⟩) (Gh.le (aa (aa aj)) ah (ay ag)) ?_
 refine eH tk rfl (ps := [(ae s9.2.2),(aF false)]) ⟨_,_,rfl,rfl,_,_,rfl,rfl,rfl⟩ (PLe.q rfl) ⟨rfl,rfl⟩
def ef (x : List (List UInt8)) : Option (Bool) :=
 ai (whileM (σ := Int) (ρ := (Bool)) (fun (s1 : Int) =>
  cond (decide (s1 > (0 : Int)))
   (ai (aG x s1) fun (x13 : List UInt8) =>
   ai (aG x (IntKind.i64.wrap (s1 - (1 : Int)))) fun (x18 : List UInt8) =>
   bf (bB x13 x18) fun x20 =>
   cond x20
    (some (.ret false))
    (some (.next (IntKind.i64.wrap (s1 - (1 : Int))))))
   (some (.brk s1))) (IntKind.i64.wrap ((x.length : Int) - (1 : Int)))) fun fl1=>fl1.thenR fun (_s1 : Int) =>
 some true
theorem lJ (x : List (List UInt8)) (r : Bool) (H : ef x = some r) :
  bc Tryz.prog 49 [(.list 9 (x.map aB))] (aF r) := by
 unfold ef at H
 refine PH.aD Tryz.func49 Tryz.ntmps49 ?_
 refine aw 1 tk rfl (ab (ab (ac (ao tk rfl (aN tk (zl _) ?_)))))
 refine al 2 tk rfl (af ?_)
 obtain ⟨fl1,H1,Hp1⟩ := ax H
 refine aY (τ := Int) (γ := Unit) (fun s1 g1=>⟨21,fun _=>.any,fun _=>none,fun _=>none⟩) (fun t=>fl1 = .next t) ?_ (fun s1 g1 hn1=>?_)
 ·refine az ?_
  refine cA (fun s1 g1=>⟨21,upd (upd (fun _=>.any) 3 (ae s1)) 0 (.list 9 (x.map aB)),fun _=>none,fun _=>none⟩) () H1 (Gh.le (aa (aa aj)) ah ag) (fun m1 s1 g1 hr1=>?_)
  obtain ⟨fb1,H,hg1⟩ := bZ hr1
  refine ab (aw 2 tk rfl ?_)
  refine aP rfl H (fun H=>?_) (fun H=>?_)
  ·refine av (ab (az (ab (bo tk mok ⟨false,false,[]⟩ [0,1,2,3,4,5,6,7,8,9] rfl (by decide +kernel) rfl (aL 2 rfl ?_)))))
   obtain ⟨x13,k13,H⟩ := aX H
   refine cj k13.1 (aI (fun _=>rfl) k13.2) ?_
   refine aL 4 rfl ?_
   obtain ⟨x18,k18,H⟩ := aX H
   refine cj k18.1 (aI (fun _=>rfl) k18.2) ?_
   refine cq rfl ?_
   obtain ⟨x20,h20,H⟩ := bw H
   have s20 := cN x13 x18
   rw [h20] at s20
   refine bj Tryz.call80 (iR.r) s20 ?_
   refine bh ?_
   refine aP rfl H (fun H=>?_) (fun H=>?_)
   ·refine aw 1 tk rfl ?_
    obtain rfl := am H
    have e1 : fl1 = .ret _ := hg1
    subst e1
    obtain rfl := bp Hp1
    refine aC tk rfl (ps := [(aF false)]) ⟨_,_,rfl,rfl,rfl⟩ (PLe.q rfl)
   refine av (aR (bm 3 tk rfl ?_))
   obtain rfl := am H
   refine aK (IntKind.i64.wrap (s1 - (1 : Int))) () hg1 (Gh.le (aa (aa aj)) ah ag)
  refine aO rfl ?_
  obtain rfl := am H
  refine aQ s1 () hg1 (Gh.le aj ah ag)
 have H := cl hn1 Hp1
 refine aw 1 tk rfl ?_
 obtain rfl := am H
 refine aC tk rfl (ps := [(aF true)]) ⟨_,_,rfl,rfl,rfl⟩ (PLe.q rfl)
def kw (q : LQuery) : Option (Bool) :=
 ai (
  cond (decide (q.kind < (1 : Int)))
   (some true)
   (cond (decide (q.kind > (10 : Int)))
    (some true)
    (ai (aG ([(-1),0,1,1,2,2,2,2,1,1,1] : List Int) q.kind) fun (x21 : Int) =>
    some ((q.inputs.length : Int) != x21)))) fun (t1 : Bool) =>
 cond t1
  (some false)
  (ai (
   ai (dP ([1] : List Int) q) fun x29 =>
   cond (!x29)
    (some (!(q.table == ([] : List UInt8))))
    (some false)) fun (t2 : Bool) =>
  ai (
   cond t2
    (some t2)
    (ai (
     ai (dP ([3,8] : List Int) q) fun x38 =>
     cond (!x38)
      (some (decide ((q.names.length : Int) > (0 : Int))))
      (some false)) fun (t7 : Bool) =>
    cond t7
     (some t7)
     (ai (
      ai (dP ([8] : List Int) q) fun x48 =>
      cond (!x48)
       (some (decide ((q.aggregates.length : Int) > (0 : Int))))
       (some false)) fun (t8 : Bool) =>
     cond t8
      (some t8)
      (ai (
       ai (dP ([9] : List Int) q) fun x58 =>
       cond (!x58)
        (some (decide ((q.descending.length : Int) > (0 : Int))))
        (some false)) fun (t9 : Bool) =>
      cond t9
       (some t9)
       (ai (dP ([10] : List Int) q) fun x68 =>
       cond (!x68)
        (cond (q.count != (0 : Int))
         (some true)
         (some (q.offset != (0 : Int))))
        (some false)))))) fun (t6 : Bool) =>
  cond t6
   (some false)
   (ai (dP ([2,4,5] : List Int) q) fun x83 =>
   cond x83
    (some ((q.exprs.length : Int) == (1 : Int)))
    (ai (dP ([3,8] : List Int) q) fun x91 =>
    cond x91
     (cond ((q.exprs.length : Int) == (q.names.length : Int))
      (some (decide ((IntKind.i64.wrap ((q.exprs.length : Int) + (q.aggregates.length : Int))) > (0 : Int))))
      (some false))
     (ai (dP ([9] : List Int) q) fun x112 =>
     cond x112
      (cond ((q.exprs.length : Int) == (q.descending.length : Int))
       (some (decide ((q.exprs.length : Int) > (0 : Int))))
       (some false))
      (ai (dP ([10] : List Int) q) fun x129 =>
      cond x129
       (cond ((q.exprs.length : Int) == (0 : Int))
        (cond (decide (q.count ≥ (0 : Int)))
         (some (decide (q.offset ≥ (0 : Int))))
         (some false))
        (some false))
       (some ((q.exprs.length : Int) == (0 : Int))))))))
theorem W_query_shape (q : LQuery) (r : Bool) (H : kw q = some r) :
  bc Tryz.prog 110 [(.agg (bE q))] (aF r) := by
 unfold kw at H
 refine PH.aD Tryz.func110 Tryz.ntmps110 ?_
 refine ab (ac (aV ?_))
 refine ao tk rfl (af (ab (ac (sQ (e := 3) (rows := [[(ae (-1))],[(ae 0)],[(ae 1)],[(ae 1)],[(ae 2)],[(ae 2)],[(ae 2)],[(ae 2)],[(ae 1)],[(ae 1)],[(ae 1)]]) tk rfl rfl rfl rfl (rows' := List.map bM ([(-1),0,1,1,2,2,2,2,1,1,1] : List Int)) (by kernel_rfl) (kj.refl _) rfl rfl (ao tk rfl (af (ab (ab ?_))))))))
 obtain ⟨fl1,H1,Hp1⟩ := ax H
 refine aY (τ := Bool) (γ := Unit) (fun t1 g1=>⟨148,upd (upd (fun _=>.any) 24 (aF t1)) 1 (.ptr [(ae q.kind),(.str q.table),(.list 9 (q.names.map aB)),(.list 56 (q.exprs.map bg)),(.list 66 (q.aggregates.map cn)),(.list 4 (q.descending.map cz)),(ae q.count),(ae q.offset),(.list 35 (q.inputs.map ba))]),fun _=>none,fun _=>none⟩) (fun t=>t = fl1) ?_ (fun t1 g1 hn1=>?_)
 ·have H := H1
  refine bo tk mok ⟨false,false,[]⟩ [0,1,2,3,4,5,6,7,8,9,10,11,12,13,14,15,16,17,18] rfl (by decide +kernel) rfl (aL 4 rfl ?_)
  refine ik H (fun H=>?_) (fun H=>?_)
  ·refine aL 15 rfl (bh ?_)
   obtain rfl := am H
   refine aQ true () rfl (Gh.le (aa (aa aj)) ah ag)
  refine aL 5 rfl ?_
  refine ik H (fun H=>?_) (fun H=>?_)
  ·refine aL 10 rfl (bh ?_)
   obtain rfl := am H
   refine aQ true () rfl (Gh.le (aa (aa aj)) ah ag)
  refine aL 2 rfl (sF rfl rfl rfl rfl rfl rfl (zl _) rfl (aL 3 rfl ?_))
  obtain ⟨x21,k21,H⟩ := aX H
  refine cj k21.1 (aI (fun _=>rfl) k21.2) ?_
  refine aL 3 rfl (bh ?_)
  obtain rfl := am H
  refine aQ ((q.inputs.length : Int) != x21) () rfl (Gh.le (aa (aa aj)) ah ag)
 subst hn1
 have H := Hp1
 refine aP rfl H (fun H=>?_) (fun H=>?_)
 ·refine aw 1 tk rfl ?_
  obtain rfl := am H
  refine aC tk rfl (ps := [(aF false)]) ⟨_,_,rfl,rfl,rfl⟩ (PLe.q rfl)
 refine av (aw 2 tk rfl (ab (az (ab (ab ?_)))))
 obtain ⟨fl2,H2,Hp2⟩ := ax H
 refine aY (τ := Bool) (γ := Unit) (fun t2 g2=>⟨148,upd (upd (upd (fun _=>.any) 26 (aF t2)) 4 (.fn 151 [(.ptr [(ae q.kind),(.str q.table),(.list 9 (q.names.map aB)),(.list 56 (q.exprs.map bg)),(.list 66 (q.aggregates.map cn)),(.list 4 (q.descending.map cz)),(ae q.count),(ae q.offset),(.list 35 (q.inputs.map ba))])])) 1 (.ptr [(ae q.kind),(.str q.table),(.list 9 (q.names.map aB)),(.list 56 (q.exprs.map bg)),(.list 66 (q.aggregates.map cn)),(.list 4 (q.descending.map cz)),(ae q.count),(ae q.offset),(.list 35 (q.inputs.map ba))]),fun _=>none,fun _=>none⟩) (fun t=>t = fl2) ?_ (fun t2 g2 hn2=>?_)
 ·have H := H2
  refine ac (ao tk rfl (cQ tk (rows' := List.map bM ([1] : List Int)) (kj.refl _) ?_))
  obtain ⟨x29,h29,H⟩ := ax H
  have s29 := fJ ([1] : List Int) q _ h29
  refine aq Tryz.call151 (iR.r) s29 ?_
  refine al 2 tk rfl ?_
  refine bF rfl rfl rfl H (fun H=>?_) (fun H=>?_)
  ·refine al 5 tk rfl (af ?_)
   obtain rfl := am H
   refine aQ (!(q.table == ([] : List UInt8))) () rfl (Gh.le (aa (aa (aa aj))) ah ag)
  refine al 5 tk rfl (af ?_)
  obtain rfl := am H
  refine aQ false () rfl (Gh.le (aa (aa (aa aj))) ah ag)
 subst hn2
 have H := Hp2
 obtain ⟨fl6,H6,Hp6⟩ := ax H
 refine aY (τ := Bool) (γ := Unit) (fun t6 g6=>⟨148,upd (upd (upd (fun _=>.any) 26 (aF t6)) 4 (.fn 151 [(.ptr [(ae q.kind),(.str q.table),(.list 9 (q.names.map aB)),(.list 56 (q.exprs.map bg)),(.list 66 (q.aggregates.map cn)),(.list 4 (q.descending.map cz)),(ae q.count),(ae q.offset),(.list 35 (q.inputs.map ba))])])) 1 (.ptr [(ae q.kind),(.str q.table),(.list 9 (q.names.map aB)),(.list 56 (q.exprs.map bg)),(.list 66 (q.aggregates.map cn)),(.list 4 (q.descending.map cz)),(ae q.count),(ae q.offset),(.list 35 (q.inputs.map ba))]),fun _=>none,fun _=>none⟩) (fun t=>t = fl6) ?_ (fun t6 g6 hn6=>?_)
 ·have H := H6
  refine aP rfl H (fun H=>?_) (fun H=>?_)
  ·refine av ?_
   obtain rfl := am H
   refine aQ t2 () rfl (Gh.le (aa (aa (aa aj))) ah ag)
  refine ab ?_
  obtain ⟨fl7,H7,Hp7⟩ := ax H
  refine aY (τ := Bool) (γ := Unit) (fun t7 g7=>⟨148,upd (upd (upd (fun _=>.any) 26 (aF t7)) 4 (.fn 151 [(.ptr [(ae q.kind),(.str q.table),(.list 9 (q.names.map aB)),(.list 56 (q.exprs.map bg)),(.list 66 (q.aggregates.map cn)),(.list 4 (q.descending.map cz)),(ae q.count),(ae q.offset),(.list 35 (q.inputs.map ba))])])) 1 (.ptr [(ae q.kind),(.str q.table),(.list 9 (q.names.map aB)),(.list 56 (q.exprs.map bg)),(.list 66 (q.aggregates.map cn)),(.list 4 (q.descending.map cz)),(ae q.count),(ae q.offset),(.list 35 (q.inputs.map ba))]),fun _=>none,fun _=>none⟩) (fun t=>t = fl7) ?_ (fun t7 g7 hn7=>?_)
  ·have H := H7
   refine ac (ao tk rfl (cQ tk (rows' := List.map bM ([3,8] : List Int)) (kj.refl _) ?_))
   obtain ⟨x38,h38,H⟩ := ax H
   have s38 := fJ ([3,8] : List Int) q _ h38
   refine aq Tryz.call151 (iR.r) s38 ?_
   refine al 2 tk rfl ?_
   refine bF rfl rfl rfl H (fun H=>?_) (fun H=>?_)
   ·refine al 2 tk rfl (aN tk (zl _) ?_)
    refine al 3 tk rfl (af ?_)
    obtain rfl := am H
    refine aQ (decide ((q.names.length : Int) > (0 : Int))) () rfl (Gh.le (aa (aa (aa aj))) ah ag)
   refine al 6 tk rfl (af ?_)
   obtain rfl := am H
   refine aQ false () rfl (Gh.le (aa (aa (aa aj))) ah ag)
  subst hn7
  have H := Hp7
  refine aP rfl H (fun H=>?_) (fun H=>?_)
  ·refine av ?_
   obtain rfl := am H
   refine aQ t7 () rfl (Gh.le (aa (aa (aa aj))) ah ag)
  refine ab ?_
  obtain ⟨fl8,H8,Hp8⟩ := ax H
  refine aY (τ := Bool) (γ := Unit) (fun t8 g8=>⟨148,upd (upd (upd (fun _=>.any) 26 (aF t8)) 4 (.fn 151 [(.ptr [(ae q.kind),(.str q.table),(.list 9 (q.names.map aB)),(.list 56 (q.exprs.map bg)),(.list 66 (q.aggregates.map cn)),(.list 4 (q.descending.map cz)),(ae q.count),(ae q.offset),(.list 35 (q.inputs.map ba))])])) 1 (.ptr [(ae q.kind),(.str q.table),(.list 9 (q.names.map aB)),(.list 56 (q.exprs.map bg)),(.list 66 (q.aggregates.map cn)),(.list 4 (q.descending.map cz)),(ae q.count),(ae q.offset),(.list 35 (q.inputs.map ba))]),fun _=>none,fun _=>none⟩) (fun t=>t = fl8) ?_ (fun t8 g8 hn8=>?_)
  ·have H := H8
   refine ac (ao tk rfl (cQ tk (rows' := List.map bM ([8] : List Int)) (kj.refl _) ?_))
   obtain ⟨x48,h48,H⟩ := ax H
   have s48 := fJ ([8] : List Int) q _ h48
   refine aq Tryz.call151 (iR.r) s48 ?_
   refine al 2 tk rfl ?_
   refine bF rfl rfl rfl H (fun H=>?_) (fun H=>?_)
   ·refine al 2 tk rfl (aN tk (zl _) ?_)
    refine al 3 tk rfl (af ?_)
    obtain rfl := am H
    refine aQ (decide ((q.aggregates.length : Int) > (0 : Int))) () rfl (Gh.le (aa (aa (aa aj))) ah ag)
   refine al 6 tk rfl (af ?_)
   obtain rfl := am H
   refine aQ false () rfl (Gh.le (aa (aa (aa aj))) ah ag)
  subst hn8
  have H := Hp8
  refine aP rfl H (fun H=>?_) (fun H=>?_)
  ·refine av ?_
   obtain rfl := am H
   refine aQ t8 () rfl (Gh.le (aa (aa (aa aj))) ah ag)
  refine ab ?_
  obtain ⟨fl9,H9,Hp9⟩ := ax H
  refine aY (τ := Bool) (γ := Unit) (fun t9 g9=>⟨148,upd (upd (upd (fun _=>.any) 26 (aF t9)) 4 (.fn 151 [(.ptr [(ae q.kind),(.str q.table),(.list 9 (q.names.map aB)),(.list 56 (q.exprs.map bg)),(.list 66 (q.aggregates.map cn)),(.list 4 (q.descending.map cz)),(ae q.count),(ae q.offset),(.list 35 (q.inputs.map ba))])])) 1 (.ptr [(ae q.kind),(.str q.table),(.list 9 (q.names.map aB)),(.list 56 (q.exprs.map bg)),(.list 66 (q.aggregates.map cn)),(.list 4 (q.descending.map cz)),(ae q.count),(ae q.offset),(.list 35 (q.inputs.map ba))]),fun _=>none,fun _=>none⟩) (fun t=>t = fl9) ?_ (fun t9 g9 hn9=>?_)
  ·have H := H9
   refine ac (ao tk rfl (cQ tk (rows' := List.map bM ([9] : List Int)) (kj.refl _) ?_))
   obtain ⟨x58,h58,H⟩ := ax H
   have s58 := fJ ([9] : List Int) q _ h58
   refine aq Tryz.call151 (iR.r) s58 ?_
   refine al 2 tk rfl ?_
   refine bF rfl rfl rfl H (fun H=>?_) (fun H=>?_)
   ·refine al 2 tk rfl (aN tk (zl _) ?_)
    refine al 3 tk rfl (af ?_)
    obtain rfl := am H
    refine aQ (decide ((q.descending.length : Int) > (0 : Int))) () rfl (Gh.le (aa (aa (aa aj))) ah ag)
   refine al 6 tk rfl (af ?_)
   obtain rfl := am H
   refine aQ false () rfl (Gh.le (aa (aa (aa aj))) ah ag)
  subst hn9
  have H := Hp9
  refine aP rfl H (fun H=>?_) (fun H=>?_)
  ·refine av ?_
   obtain rfl := am H
   refine aQ t9 () rfl (Gh.le (aa (aa (aa aj))) ah ag)
  refine ac (ao tk rfl (cQ tk (rows' := List.map bM ([10] : List Int)) (kj.refl _) ?_))
  obtain ⟨x68,h68,H⟩ := ax H
  have s68 := fJ ([10] : List Int) q _ h68
  refine aq Tryz.call151 (iR.r) s68 ?_
  refine al 2 tk rfl ?_
  refine bF rfl rfl rfl H (fun H=>?_) (fun H=>?_)
  ·refine al 4 tk rfl ?_
   refine bF rfl rfl rfl H (fun H=>?_) (fun H=>?_)
   ·refine al 6 tk rfl (af ?_)
    obtain rfl := am H
    refine aQ true () rfl (Gh.le (aa (aa (aa aj))) ah ag)
   refine al 6 tk rfl (af ?_)
   obtain rfl := am H
   refine aQ (q.offset != (0 : Int)) () rfl (Gh.le (aa (aa (aa aj))) ah ag)
  refine al 10 tk rfl (af ?_)
  obtain rfl := am H
  refine aQ false () rfl (Gh.le (aa (aa (aa aj))) ah ag)
 subst hn6
 have H := Hp6
 refine aP rfl H (fun H=>?_) (fun H=>?_)
 ·refine aw 1 tk rfl ?_
  obtain rfl := am H
  refine aC tk rfl (ps := [(aF false)]) ⟨_,_,rfl,rfl,rfl⟩ (PLe.q rfl)
 refine ab (ac (ao tk rfl (cQ tk (rows' := List.map bM ([2,4,5] : List Int)) (kj.refl _) ?_)))
 obtain ⟨x83,h83,H⟩ := ax H
 have s83 := fJ ([2,4,5] : List Int) q _ h83
 refine aq Tryz.call151 (iR.r) s83 ?_
 refine ao tk rfl (af ?_)
 refine aP rfl H (fun H=>?_) (fun H=>?_)
 ·refine ab (ac (al 2 tk rfl (aN tk (zl _) ?_)))
  refine al 2 tk rfl (af ?_)
  obtain rfl := am H
  refine aC tk rfl (ps := [(aF ((q.exprs.length : Int) == (1 : Int)))]) ⟨_,_,rfl,rfl,rfl⟩ (PLe.q rfl)
 refine ab (ac (ao tk rfl (cQ tk (rows' := List.map bM ([3,8] : List Int)) (kj.refl _) ?_)))
 obtain ⟨x91,h91,H⟩ := ax H
 have s91 := fJ ([3,8] : List Int) q _ h91
 refine aq Tryz.call151 (iR.r) s91 ?_
 refine ao tk rfl (af ?_)
 refine aP rfl H (fun H=>?_) (fun H=>?_)
 ·refine ab (ac (al 2 tk rfl (aN tk (zl _) ?_)))
  refine al 2 tk rfl (aN tk (zl _) ?_)
  refine al 2 tk rfl ?_
  refine bF rfl rfl rfl H (fun H=>?_) (fun H=>?_)
  ·refine al 2 tk rfl (aN tk (zl _) ?_)
   refine al 2 tk rfl (aN tk (zl _) ?_)
   refine al 4 tk rfl (af ?_)
   obtain rfl := am H
   refine aC tk rfl (ps := [(aF (decide ((IntKind.i64.wrap ((q.exprs.length : Int) + (q.aggregates.length : Int))) > (0 : Int))))]) ⟨_,_,rfl,rfl,rfl⟩ (PLe.q rfl)
  refine al 10 tk rfl (af ?_)
  obtain rfl := am H
  refine aC tk rfl (ps := [(aF false)]) ⟨_,_,rfl,rfl,rfl⟩ (PLe.q rfl)
 refine ab (ac (ao tk rfl (cQ tk (rows' := List.map bM ([9] : List Int)) (kj.refl _) ?_)))
 obtain ⟨x112,h112,H⟩ := ax H
 have s112 := fJ ([9] : List Int) q _ h112
 refine aq Tryz.call151 (iR.r) s112 ?_
 refine ao tk rfl (af ?_)
 refine aP rfl H (fun H=>?_) (fun H=>?_)
 ·refine ab (ac (al 2 tk rfl (aN tk (zl _) ?_)))
  refine al 2 tk rfl (aN tk (zl _) ?_)
  refine al 2 tk rfl ?_
  refine bF rfl rfl rfl H (fun H=>?_) (fun H=>?_)
  ·refine al 2 tk rfl (aN tk (zl _) ?_)
   refine al 3 tk rfl (af ?_)
   obtain rfl := am H
   refine aC tk rfl (ps := [(aF (decide ((q.exprs.length : Int) > (0 : Int))))]) ⟨_,_,rfl,rfl,rfl⟩ (PLe.q rfl)
  refine al 6 tk rfl (af ?_)
  obtain rfl := am H
  refine aC tk rfl (ps := [(aF false)]) ⟨_,_,rfl,rfl,rfl⟩ (PLe.q rfl)
 refine ab (ac (ao tk rfl (cQ tk (rows' := List.map bM ([10] : List Int)) (kj.refl _) ?_)))
 obtain ⟨x129,h129,H⟩ := ax H
 have s129 := fJ ([10] : List Int) q _ h129
 refine aq Tryz.call151 (iR.r) s129 ?_
 refine ao tk rfl (af ?_)
 refine aP rfl H (fun H=>?_) (fun H=>?_)
 ·refine ab (ac (al 2 tk rfl (aN tk (zl _) ?_)))
  refine al 2 tk rfl ?_
  refine bF rfl rfl rfl H (fun H=>?_) (fun H=>?_)
  ·refine al 5 tk rfl ?_
   refine bF rfl rfl rfl H (fun H=>?_) (fun H=>?_)
   ·refine al 5 tk rfl (af ?_)
    obtain rfl := am H
    refine aC tk rfl (ps := [(aF (decide (q.offset ≥ (0 : Int))))]) ⟨_,_,rfl,rfl,rfl⟩ (PLe.q rfl)
   refine al 5 tk rfl (af ?_)
   obtain rfl := am H
   refine aC tk rfl (ps := [(aF false)]) ⟨_,_,rfl,rfl,rfl⟩ (PLe.q rfl)
  refine al 10 tk rfl (af ?_)
  obtain rfl := am H
  refine aC tk rfl (ps := [(aF false)]) ⟨_,_,rfl,rfl,rfl⟩ (PLe.q rfl)
 refine av (aR (ab (ac (al 2 tk rfl (aN tk (zl _) ?_)))))
 refine al 2 tk rfl (af ?_)
 obtain rfl := am H
 refine aC tk rfl (ps := [(aF ((q.exprs.length : Int) == (0 : Int)))]) ⟨_,_,rfl,rfl,rfl⟩ (PLe.q rfl)
def dW (c : LChecker) (l : List LCol) (e : LExpr) : Int :=
 bf (du l c.vars e) fun x15 =>
 cond (x15.2.2 == (0 : Int))
  (cond (x15.1 != (2 : Int))
   (cond (x15.1 != (0 : Int))
    (7)
    (x15.2.2))
   (x15.2.2))
  (x15.2.2)
theorem kF (c : LChecker) (l : List LCol) (e : LExpr) :
  bc Tryz.prog 156 [(.agg (jD c)),(.list 50 (l.map aJ)),(.agg (nz e))] (ae (dW c l e)) := by
 obtain ⟨r,H⟩ : ∃ r,dW c l e = r := ⟨_,rfl⟩
 rw [H]
 unfold dW at H
 refine PH.aD Tryz.func156 Tryz.ntmps156 ?_
 refine ab (ac (aV ?_))
 refine aV ?_
 refine ao tk rfl (af (ab (ac (al 4 tk rfl ?_))))
 obtain ⟨x15,h15,H⟩ := bw H
 have s15 := mQ l c.vars e
 rw [h15] at s15
 refine aq Tryz.call159 (iR.r) s15 ?_
 refine al 7 tk rfl (af (ab (ab (ac (al 3 tk rfl ?_)))))
 refine bF rfl rfl rfl H (fun H=>?_) (fun H=>?_)
 ·refine al 4 tk rfl ?_
  refine bF rfl rfl rfl H (fun H=>?_) (fun H=>?_)
  ·refine al 3 tk rfl (af ?_)
   refine aP rfl H (fun H=>?_) (fun H=>?_)
   ·refine aw 1 tk rfl ?_
    subst H
    refine aC tk rfl (ps := [(ae 7)]) ⟨_,_,rfl,rfl,rfl⟩ (PLe.q rfl)
   refine av (aw 2 tk rfl ?_)
   subst H
   refine aC tk rfl (ps := [(ae x15.2.2)]) ⟨_,_,rfl,rfl,rfl⟩ (PLe.q rfl)
  refine al 3 tk rfl (af (bL rfl (av (aw 2 tk rfl ?_))))
  subst H
  refine aC tk rfl (ps := [(ae x15.2.2)]) ⟨_,_,rfl,rfl,rfl⟩ (PLe.q rfl)
 refine al 7 tk rfl (af (bL rfl (av (aw 2 tk rfl ?_))))
 subst H
 refine aC tk rfl (ps := [(ae x15.2.2)]) ⟨_,_,rfl,rfl,rfl⟩ (PLe.q rfl)
def gw (c : LChecker) (inA : List LCol) (a : LAggregateCall) : Option (Int × Int) :=
 ai (
  bf (dN a.name) fun x13 =>
  cond (!x13)
   (some true)
   (ai (cG ([[99,111,117,110,116],[115,117,109],[109,105,110],[109,97,120]] : List (List UInt8)) a.function) fun x19 =>
   cond (!x19)
    (some true)
    (cond (decide ((a.args.length : Int) > (1 : Int)))
     (some true)
     (cond (decide ((a.args.length : Int) < (1 : Int)))
      (some (!(a.function == ([99,111,117,110,116] : List UInt8))))
      (some false))))) fun (t1 : Bool) =>
 cond t1
  (some (0,3))
  (cond ((a.args.length : Int) == (0 : Int))
   (some (1,0))
   (ai (aG a.args 0) fun (x49 : LExpr) =>
   bf (du inA c.vars x49) fun x51 =>
   cond (x51.2.2 != (0 : Int))
    (some (0,x51.2.2))
    (bf (
     cond (x51.1 == (0 : Int))
      (true)
      (cond (a.function == ([115,117,109] : List UInt8))
       ((x51.1 != (1 : Int)))
       (false))) fun (t2 : Bool) =>
    cond t2
     (some (0,7))
     (cond (a.function == ([99,111,117,110,116] : List UInt8))
      (some (1,0))
      (some (x51.1,0))))))
theorem qI (c : LChecker) (inA : List LCol) (a : LAggregateCall) (r : Int × Int) (H : gw c inA a = some r) :
  bc Tryz.prog 181 [(.agg (jD c)),(.list 50 (inA.map aJ)),(.agg (cn a))] (.tup [(ae r.1),(ae r.2)]) := by
 unfold gw at H
 refine PH.aD Tryz.func181 Tryz.ntmps181 ?_
 refine ab (ac (aV ?_))
 refine aV ?_
 refine al 2 tk rfl (af (ab (ab ?_)))
 obtain ⟨fl1,H1,Hp1⟩ := ax H
 refine aY (τ := Bool) (γ := Unit) (fun t1 g1=>⟨76,upd (upd (upd (upd (fun _=>.any) 38 (aF t1)) 5 (.ptr [(.str a.name),(.str a.function),(.list 56 (a.args.map bg))])) 3 (.ptr [(.list 91 (c.s.tables.map bv)),(.list 142 (c.s.foreignKeys.map cy)),(.list 148 (c.s.constraints.map cJ)),(.list 50 (c.vars.map aJ))])) 1 (.list 50 (inA.map aJ)),fun _=>none,fun _=>none⟩) (fun t=>t = fl1) ?_ (fun t1 g1 hn1=>?_)
 ·have H := H1
  refine ac (al 2 tk rfl ?_)
  obtain ⟨x13,h13,H⟩ := bw H
  have s13 := mu a.name
  rw [h13] at s13
  refine aq Tryz.call180 (iR.r) s13 ?_
  refine al 2 tk rfl ?_
  refine bF rfl rfl rfl H (fun H=>?_) (fun H=>?_)
  ·refine al 23 tk rfl (af ?_)
   obtain rfl := am H
   refine aQ true () rfl (Gh.le (aa (aa (aa (aa aj)))) ah ag)
  refine cQ tk (rows' := List.map aB ([[99,111,117,110,116],[115,117,109],[109,105,110],[109,97,120]] : List (List UInt8))) (kj.refl _) ?_
  refine al 2 tk rfl ?_
  obtain ⟨x19,h19,H⟩ := ax H
  have s19 := js ([[99,111,117,110,116],[115,117,109],[109,105,110],[109,97,120]] : List (List UInt8)) a.function _ h19
  refine aq Tryz.call48 (iR.r) s19 ?_
  refine al 3 tk rfl ?_
  refine bF rfl rfl rfl H (fun H=>?_) (fun H=>?_)
  ·refine al 16 tk rfl (af ?_)
   obtain rfl := am H
   refine aQ true () rfl (Gh.le (aa (aa (aa (aa aj)))) ah ag)
  refine al 2 tk rfl (aN tk (zl _) ?_)
  refine al 3 tk rfl ?_
  refine bF rfl rfl rfl H (fun H=>?_) (fun H=>?_)
  ·refine al 10 tk rfl (af ?_)
   obtain rfl := am H
   refine aQ true () rfl (Gh.le (aa (aa (aa (aa aj)))) ah ag)
  refine al 2 tk rfl (aN tk (zl _) ?_)
  refine al 2 tk rfl ?_
  refine bF rfl rfl rfl H (fun H=>?_) (fun H=>?_)
  ·refine al 5 tk rfl (af ?_)
   obtain rfl := am H
   refine aQ (!(a.function == ([99,111,117,110,116] : List UInt8))) () rfl (Gh.le (aa (aa (aa (aa aj)))) ah ag)
  refine al 5 tk rfl (af ?_)
  obtain rfl := am H
  refine aQ false () rfl (Gh.le (aa (aa (aa (aa aj)))) ah ag)
 subst hn1
 have H := Hp1
 refine aP rfl H (fun H=>?_) (fun H=>?_)
 ·refine aw 2 tk rfl ?_
  obtain rfl := am H
  refine aC tk rfl (ps := [(ae 0),(ae 3)]) ⟨_,_,rfl,rfl,_,_,rfl,rfl,rfl⟩ (PLe.q rfl)
 refine av (ab (ab (ac (al 2 tk rfl (aN tk (zl _) ?_)))))
 refine ao tk rfl (af ?_)
 refine aP rfl H (fun H=>?_) (fun H=>?_)
 ·refine aw 2 tk rfl ?_
  obtain rfl := am H
  refine aC tk rfl (ps := [(ae 1),(ae 0)]) ⟨_,_,rfl,rfl,_,_,rfl,rfl,rfl⟩ (PLe.q rfl)
 refine av (ab (bo tk mok ⟨false,false,[]⟩ [0,1,2,3,4,5,6,7,8,9,10,11,12,13,14] rfl (by decide +kernel) rfl (aL 5 rfl ?_)))
 obtain ⟨x49,k49,H⟩ := aX H
 refine cj k49.1 (aI eT k49.2) ?_
 refine cq rfl ?_
 obtain ⟨x51,h51,H⟩ := bw H
 have s51 := mQ inA c.vars x49
 rw [h51] at s51
 refine bj Tryz.call159 (iR.r) s51 ?_
 refine aL 7 rfl (bh (ab (az (aw 3 tk rfl ?_))))
 refine aP rfl H (fun H=>?_) (fun H=>?_)
 ·refine aw 3 tk rfl ?_
  obtain rfl := am H
  refine aC tk rfl (ps := [(ae 0),(ae x51.2.2)]) ⟨_,_,rfl,rfl,_,_,rfl,rfl,rfl⟩ (PLe.q rfl)
 refine ab ?_
 obtain ⟨fl2,H2,Hp2⟩ := bw H
 refine aY (τ := Bool) (γ := Unit) (fun t2 g2=>⟨76,upd (upd (upd (fun _=>.any) 59 (aF t2)) 8 (ae x51.1)) 5 (.ptr [(.str a.name),(.str a.function),(.list 56 (a.args.map bg))]),fun _=>none,fun _=>none⟩) (fun t=>t = fl2) ?_ (fun t2 g2 hn2=>?_)
 ·have H := H2
  refine ac (al 3 tk rfl ?_)
  refine bF rfl rfl rfl H (fun H=>?_) (fun H=>?_)
  ·refine al 9 tk rfl (af ?_)
   subst H
   refine aQ true () rfl (Gh.le (aa (aa (aa aj))) ah ag)
  refine al 4 tk rfl ?_
  refine bF rfl rfl rfl H (fun H=>?_) (fun H=>?_)
  ·refine al 5 tk rfl (af ?_)
   subst H
   refine aQ (x51.1 != (1 : Int)) () rfl (Gh.le (aa (aa (aa aj))) ah ag)
  refine al 5 tk rfl (af ?_)
  subst H
  refine aQ false () rfl (Gh.le (aa (aa (aa aj))) ah ag)
 subst hn2
 have H := Hp2
 refine aP rfl H (fun H=>?_) (fun H=>?_)
 ·refine aw 2 tk rfl ?_
  obtain rfl := am H
  refine aC tk rfl (ps := [(ae 0),(ae 7)]) ⟨_,_,rfl,rfl,_,_,rfl,rfl,rfl⟩ (PLe.q rfl)
 refine aw 4 tk rfl ?_
 refine aP rfl H (fun H=>?_) (fun H=>?_)
 ·refine aw 2 tk rfl ?_
  obtain rfl := am H
  refine aC tk rfl (ps := [(ae 1),(ae 0)]) ⟨_,_,rfl,rfl,_,_,rfl,rfl,rfl⟩ (PLe.q rfl)
 refine av (aR (aw 3 tk rfl ?_))
 obtain rfl := am H
 refine aC tk rfl (ps := [(ae x51.1),(ae 0)]) ⟨_,_,rfl,rfl,_,_,rfl,rfl,rfl⟩ (PLe.q rfl)
def eS (a : Rq) (b : Rq) : Option (Int) :=
 ai (ni (if (b.length : Int) < (a.length : Int) then (b.length : Int) else (a.length : Int))) fun (n1 : Nat) =>
 ai (aW (σ := Unit) (ρ := (Int)) (fun (j1 : Nat) (_ : Nat) (_ : Unit) =>
  ai (aG a (j1 : Int)) fun (x17 : LVal) =>
  ai (aG b (j1 : Int)) fun (x21 : LVal) =>
  bf (jK x17 x21) fun x23 =>
  cond (x23 != (0 : Int))
   (some (.ret x23))
   (some (.next ()))) 0 (List.range n1) ()) fun fl1=>fl1.thenR fun (_ : Unit) =>
 bf (gq (a.length : Int) (b.length : Int)) fun x32 =>
 some x32
theorem qF (a : Rq) (b : Rq) (r : Int) (H : eS a b = some r) :
  bc Tryz.prog 85 [(.list 53 (a.map ak)),(.list 53 (b.map ak))] (ae r) := by
 unfold eS at H
 refine PH.aD Tryz.func85 Tryz.ntmps85 ?_
 refine aw 1 tk rfl (ab (ab (ac (ao tk rfl (aN tk (zl _) ?_)))))
 refine ao tk rfl (aN tk (zl _) ?_)
 refine al 2 tk rfl (af ?_)
 obtain ⟨n1,hs1,H⟩ := ax H
 have hz1 := mU hs1
 obtain ⟨fl1,H1,Hp1⟩ := ax H
 refine aY (τ := Unit) (γ := Unit) (fun s1 g1=>⟨33,upd (upd (fun _=>.any) 1 (.list 53 (b.map ak))) 0 (.list 53 (a.map ak)),fun _=>none,fun _=>none⟩) (fun t=>fl1 = .next t) ?_ (fun s1 g1 hn1=>?_)
 ·refine az ?_
  refine bC (fun j1 s1 g1=>⟨33,upd (upd (upd (upd (fun _=>.any) 12 (ae (j1 : Int))) 11 (ae (if (b.length : Int) < (a.length : Int) then (b.length : Int) else (a.length : Int)))) 1 (.list 53 (b.map ak))) 0 (.list 53 (a.map ak)),fun _=>none,fun _=>none⟩) () H1 (Gh.le (aa (aa (aa (aa aj)))) ah ag) (fun j1 s1 g1 hj1 hr1=>?_)
  refine aw 1 tk rfl (ab ?_)
  refine aZ rfl (fun h=>?_) (fun h=>?_)
  ·have hl1 := natLt hz1 h
   obtain ⟨x1,fb1,hx1,H,hg1⟩ := rMc hl1 hr1
   obtain rfl := natX hx1
   refine av (ab (az (aw 2 tk rfl (ab (bo tk mok ⟨false,false,[]⟩ [0,1,2,3,4,5,6,7,8,9] rfl (by decide +kernel) rfl (aL 2 rfl ?_))))))
   obtain ⟨x17,k17,H⟩ := aX H
   refine cj k17.1 (aI (fun _=>rfl) k17.2) ?_
   refine aL 3 rfl ?_
   obtain ⟨x21,k21,H⟩ := aX H
   refine cj k21.1 (aI (fun _=>rfl) k21.2) ?_
   refine cq rfl ?_
   obtain ⟨x23,h23,H⟩ := bw H
   have s23 := pl x17 x21
   rw [h23] at s23
   refine bj Tryz.call106 (iR.r) s23 ?_
   refine cq rfl (bh (aw 2 tk rfl ?_))
   refine aP rfl H (fun H=>?_) (fun H=>?_)
   ·refine aw 2 tk rfl ?_
    obtain rfl := am H
    have e1 : fl1 = .ret _ := hg1
    subst e1
    obtain rfl := bp Hp1
    refine aC tk rfl (ps := [(ae x23)]) ⟨_,_,rfl,rfl,rfl⟩ (PLe.q rfl)
   refine av (aR (bm 2 tk rfl ?_))
   obtain rfl := am H
   refine aK () () ⟨hl1,hg1⟩ (Gh.le (aa (aa (aa (aH (PLe.q (mw hz1 hl1)) aj)))) ah ag)
  have hn1 := rMd (natGe hz1 h) hr1
  refine aO rfl ?_
  refine aQ s1 g1 hn1 (Gh.le (aa (aa aj)) ah ag)
 have H := cl hn1 Hp1
 refine ab (ac (ao tk rfl (aN tk (zl _) ?_)))
 refine ao tk rfl (aN tk (zl _) ?_)
 obtain ⟨x32,h32,H⟩ := bw H
 have s32 := kC (a.length : Int) (b.length : Int)
 rw [h32] at s32
 refine aq Tryz.call107 (iR.r) s32 ?_
 refine ao tk rfl (af ?_)
 obtain rfl := am H
 refine aC tk rfl (ps := [(ae x32)]) ⟨_,_,rfl,rfl,rfl⟩ (PLe.q rfl)
def eN (data : Rz) (n : Int) (cmp : Rq → Rq → Option (Int)) : Option (Rz) :=
 ai (whileM (σ := Rz × Int × Int) (ρ := Empty) (fun (s1 : Rz × Int × Int) =>
  cond (decide (s1.2.2 ≤ n))
   (ai (cU s1.1 s1.2.1 s1.2.2 cmp) fun x18 =>
   ai (cE (x18.length = s1.1.length) ()) fun (_ : Unit) =>
   some (.next (x18,s1.2.2,(IntKind.i64.wrap (s1.2.2 + (20 : Int))))))
   (some (.brk (s1.1,s1.2.1,s1.2.2)))) (data,0,20)) fun fl1=>fl1.thenP fun (s1 : Rz × Int × Int) =>
 ai (cU s1.1 s1.2.1 n cmp) fun x27 =>
 ai (cE (x27.length = s1.1.length) ()) fun (_ : Unit) =>
 ai (whileM (σ := Rz × Int) (ρ := Empty) (fun (s2 : Rz × Int) =>
  cond (decide (s2.2 < n))
   (ai (whileM (σ := Rz × Int × Int) (ρ := Empty) (fun (s5 : Rz × Int × Int) =>
    cond (decide (s5.2.2 ≤ n))
     (ai (fA s5.1 s5.2.1 (IntKind.i64.wrap (s5.2.1 + s2.2)) s5.2.2 cmp) fun x43 =>
     ai (cE (x43.length = s5.1.length) ()) fun (_ : Unit) =>
     some (.next (x43,s5.2.2,(IntKind.i64.wrap (s5.2.2 + (IntKind.i64.wrap ((2 : Int) * s2.2)))))))
     (some (.brk (s5.1,s5.2.1,s5.2.2)))) (s2.1,0,(IntKind.i64.wrap ((2 : Int) * s2.2)))) fun fl5=>fl5.thenP fun (s5 : Rz × Int × Int) =>
   cond (decide ((IntKind.i64.wrap (s5.2.1 + s2.2)) < n))
    (ai (fA s5.1 s5.2.1 (IntKind.i64.wrap (s5.2.1 + s2.2)) n cmp) fun x60 =>
    ai (cE (x60.length = s5.1.length) ()) fun (_ : Unit) =>
    some (.next (x60,(IntKind.i64.wrap (s2.2 * (2 : Int))))))
    (some (.next (s5.1,(IntKind.i64.wrap (s2.2 * (2 : Int)))))))
   (some (.brk (s2.1,s2.2)))) (x27,20)) fun fl2=>fl2.thenP fun (s2 : Rz × Int) =>
 some s2.1
theorem mc (g_data : OwnRef) {g_cmp : FuncId} {caps_cmp : List PV} (data : Rz) (n : Int) (cmp : Rq → Rq → Option (Int)) (hg_cmp : ∀ (vs : Array Value) (w : World),(callFunc g_cmp vs).run Tryz.prog w = .ok (.enter g_cmp vs) w) (hp_cmp : ∀ a0 a1 r,cmp a0 a1 = some r → bc Tryz.prog g_cmp ((.list 53 (a0.map ak)) :: (.list 53 (a1.map ak)) :: caps_cmp) (ae r)) (r : Rz) (H : eN data n cmp = some r) :
  PH Tryz.prog 194 [(.own 0 g_data (data.map (au 53 ak)).length),(ae n),(.fn g_cmp caps_cmp)] ⟨fun _=>none,upd (fun _=>none) 0 (some ⟨g_data,51,(data.map (au 53 ak)),true⟩)⟩ (fun u H=>u = (.tup []) ∧ H = ⟨fun _=>none,upd (fun _=>none) 0 (some ⟨g_data,51,(r.map (au 53 ak)),true⟩)⟩) := by
 unfold eN at H
 refine PH.aD Tryz.func194 Tryz.ntmps194 ?_
 refine aw 1 tk rfl (aw 3 tk rfl (ab ?_))
 obtain ⟨fl1,H1,Hp1⟩ := ax H
 refine aY (τ := Rz × Int × Int) (γ := Unit) (fun s1 g1=>⟨63,upd (upd (upd (upd (upd (fun _=>.any) 7 (ae s1.2.1)) 6 (ae 20)) 2 (.fn g_cmp caps_cmp)) 1 (ae n)) 0 (.own 0 g_data (s1.1.map (au 53 ak)).length),fun _=>none,upd (fun _=>none) 0 (some ⟨g_data,51,(s1.1.map (au 53 ak)),true⟩)⟩) (fun t=>fl1 = .next t) ?_ (fun s1 g1 hn1=>?_)
 ·refine az ?_
  refine cA (fun s1 g1=>⟨63,upd (upd (upd (upd (upd (upd (fun _=>.any) 8 (ae s1.2.2)) 7 (ae s1.2.1)) 6 (ae 20)) 2 (.fn g_cmp caps_cmp)) 1 (ae n)) 0 (.own 0 g_data (s1.1.map (au 53 ak)).length),fun _=>none,upd (fun _=>none) 0 (some ⟨g_data,51,(s1.1.map (au 53 ak)),true⟩)⟩) () H1 (Gh.le (aa (aa (aa (aa (aa (aa aj)))))) ah (ay ag)) (fun m1 s1 g1 hr1=>?_)
  obtain ⟨fb1,H,hg1⟩ := bZ hr1
  refine ab (aw 3 tk rfl ?_)
  refine aP rfl H (fun H=>?_) (fun H=>?_)
  ·refine av (az (ab (ac (al 4 tk rfl ?_))))
   obtain ⟨x18,h18,H⟩ := ax H
   have s18 := iq g_data s1.1 s1.2.1 s1.2.2 cmp hg_cmp hp_cmp _ h18
   obtain ⟨_,q18_0,H⟩ := ax H
   have l18_0 := (bI q18_0).1
   have z18_0 : (List.map (au 53 ak) s1.1).length = (List.map (au 53 ak) x18).length := by simpa using (l18_0).symm
   refine ci (g := 114) rfl rfl rfl Tryz.call114 [] [(0,0)] rfl rfl rfl rfl (iR.of2 (iG.cons (PLe2.own rfl) (iG.cons (PLe2.of_eq rfl) (iG.cons (PLe2.of_eq rfl) (iG.cons (PLe2.of_eq rfl) iG.nil))))) (by rw [bS,bJ,bR]; rfl) s18 ?_
   rintro u18 H18h ⟨rfl,rfl⟩
   refine ⟨_,rfl,?_⟩
   refine cw (st' := ⟨_,_,fun _=>none,upd (fun _=>none) 0 (some ⟨g_data,51,(x18.map (au 53 ak)),true⟩)⟩) (Gh.le (bQ _ _) ah (ay ag)) ?_
   refine af (aw 2 tk rfl (bm 4 tk rfl (aR ?_)))
   obtain rfl := am H
   refine aK (x18,s1.2.2,(IntKind.i64.wrap (s1.2.2 + (20 : Int)))) () hg1 (Gh.le (aH (PLe.of2 (PLe2.of_eq (congrArg (PV.own 0 g_data) z18_0))) (aa (aa (aa (aa (aa aj)))))) ah (ay ag))
  refine aO rfl ?_
  obtain rfl := am H
  refine aQ (s1.1,s1.2.1,s1.2.2) () hg1 (Gh.le (aa (aa (aa (aa (aa aj))))) ah (ay ag))
 have H := bn hn1 Hp1
 refine ab (ac (al 4 tk rfl ?_))
 obtain ⟨x27,h27,H⟩ := ax H
 have s27 := iq g_data s1.1 s1.2.1 n cmp hg_cmp hp_cmp _ h27
 obtain ⟨_,q27_0,H⟩ := ax H
 have l27_0 := (bI q27_0).1
 have z27_0 : (List.map (au 53 ak) s1.1).length = (List.map (au 53 ak) x27).length := by simpa using (l27_0).symm
 refine ci (g := 114) rfl rfl rfl Tryz.call114 [] [(0,0)] rfl rfl rfl rfl (iR.of2 (iG.cons (PLe2.own rfl) (iG.cons (PLe2.of_eq rfl) (iG.cons (PLe2.of_eq rfl) (iG.cons (PLe2.of_eq rfl) iG.nil))))) (by rw [bS,bJ,bR]; rfl) s27 ?_
 rintro u27 H27h ⟨rfl,rfl⟩
 refine ⟨_,rfl,?_⟩
 refine cw (st' := ⟨_,_,fun _=>none,upd (fun _=>none) 0 (some ⟨g_data,51,(x27.map (au 53 ak)),true⟩)⟩) (Gh.le (bQ _ _) ah (ay ag)) ?_
 refine af ?_
 obtain ⟨fl2,H2,Hp2⟩ := ax H
 refine aY (τ := Rz × Int) (γ := Unit) (fun s2 g2=>⟨63,upd (fun _=>.any) 0 (.own 0 g_data (s2.1.map (au 53 ak)).length),fun _=>none,upd (fun _=>none) 0 (some ⟨g_data,51,(s2.1.map (au 53 ak)),true⟩)⟩) (fun t=>fl2 = .next t) ?_ (fun s2 g2 hn2=>?_)
 ·refine az ?_
  refine cA (fun s2 g2=>⟨63,upd (upd (upd (upd (fun _=>.any) 6 (ae s2.2)) 2 (.fn g_cmp caps_cmp)) 1 (ae n)) 0 (.own 0 g_data (s2.1.map (au 53 ak)).length),fun _=>none,upd (fun _=>none) 0 (some ⟨g_data,51,(s2.1.map (au 53 ak)),true⟩)⟩) () H2 (Gh.le (aH (PLe.of2 (PLe2.of_eq (congrArg (PV.own 0 g_data) z27_0))) (aa (aa (aa aj)))) ah (ay ag)) (fun m2 s2 g2 hr2=>?_)
  obtain ⟨fb2,H,hg2⟩ := bZ hr2
  refine ab (aw 3 tk rfl ?_)
  refine aP rfl H (fun H=>?_) (fun H=>?_)
  ·refine av (az (aw 4 tk rfl (ab ?_)))
   obtain ⟨fl5,H5,Hp5⟩ := ax H
   refine aY (τ := Rz × Int × Int) (γ := Unit) (fun s5 g5=>⟨63,upd (upd (upd (upd (upd (fun _=>.any) 7 (ae s5.2.1)) 6 (ae s2.2)) 2 (.fn g_cmp caps_cmp)) 1 (ae n)) 0 (.own 0 g_data (s5.1.map (au 53 ak)).length),fun _=>none,upd (fun _=>none) 0 (some ⟨g_data,51,(s5.1.map (au 53 ak)),true⟩)⟩) (fun t=>fl5 = .next t) ?_ (fun s5 g5 hn5=>?_)
   ·refine az ?_
    refine cA (fun s5 g5=>⟨63,upd (upd (upd (upd (upd (upd (fun _=>.any) 8 (ae s5.2.2)) 7 (ae s5.2.1)) 6 (ae s2.2)) 2 (.fn g_cmp caps_cmp)) 1 (ae n)) 0 (.own 0 g_data (s5.1.map (au 53 ak)).length),fun _=>none,upd (fun _=>none) 0 (some ⟨g_data,51,(s5.1.map (au 53 ak)),true⟩)⟩) () H5 (Gh.le (aa (aa (aa (aa (aa (aa aj)))))) ah (ay ag)) (fun m5 s5 g5 hr5=>?_)
    obtain ⟨fb5,H,hg5⟩ := bZ hr5
    refine ab (aw 3 tk rfl ?_)
    refine aP rfl H (fun H=>?_) (fun H=>?_)
    ·refine av (az (ab (ac (al 7 tk rfl ?_))))
     obtain ⟨x43,h43,H⟩ := ax H
     have s43 := jm g_data s5.1 s5.2.1 (IntKind.i64.wrap (s5.2.1 + s2.2)) s5.2.2 cmp hg_cmp hp_cmp _ h43
     obtain ⟨_,q43_0,H⟩ := ax H
     have l43_0 := (bI q43_0).1
     have z43_0 : (List.map (au 53 ak) s5.1).length = (List.map (au 53 ak) x43).length := by simpa using (l43_0).symm
     refine ci (g := 204) rfl rfl rfl Tryz.call204 [] [(0,0)] rfl rfl rfl rfl (iR.of2 (iG.cons (PLe2.own rfl) (iG.cons (PLe2.of_eq rfl) (iG.cons (PLe2.of_eq rfl) (iG.cons (PLe2.of_eq rfl) (iG.cons (PLe2.of_eq rfl) iG.nil)))))) (by rw [bS,bJ,bR]; rfl) s43 ?_
     rintro u43 H43h ⟨rfl,rfl⟩
     refine ⟨_,rfl,?_⟩
     refine cw (st' := ⟨_,_,fun _=>none,upd (fun _=>none) 0 (some ⟨g_data,51,(x43.map (au 53 ak)),true⟩)⟩) (Gh.le (bQ _ _) ah (ay ag)) ?_
     refine af (aw 2 tk rfl (bm 5 tk rfl (aR ?_)))
     obtain rfl := am H
     refine aK (x43,s5.2.2,(IntKind.i64.wrap (s5.2.2 + (IntKind.i64.wrap ((2 : Int) * s2.2))))) () hg5 (Gh.le (aH (PLe.of2 (PLe2.of_eq (congrArg (PV.own 0 g_data) z43_0))) (aa (aa (aa (aa (aa aj)))))) ah (ay ag))
    refine aO rfl ?_
    obtain rfl := am H
    refine aQ (s5.1,s5.2.1,s5.2.2) () hg5 (Gh.le (aa (aa (aa (aa (aa aj))))) ah (ay ag))
   have H := bn hn5 Hp5
   refine ab (aw 4 tk rfl (aw 3 tk rfl ?_))
   refine aP rfl H (fun H=>?_) (fun H=>?_)
   ·refine ac (al 5 tk rfl ?_)
    obtain ⟨x60,h60,H⟩ := ax H
    have s60 := jm g_data s5.1 s5.2.1 (IntKind.i64.wrap (s5.2.1 + s2.2)) n cmp hg_cmp hp_cmp _ h60
    obtain ⟨_,q60_0,H⟩ := ax H
    have l60_0 := (bI q60_0).1
    have z60_0 : (List.map (au 53 ak) s5.1).length = (List.map (au 53 ak) x60).length := by simpa using (l60_0).symm
    refine ci (g := 204) rfl rfl rfl Tryz.call204 [] [(0,0)] rfl rfl rfl rfl (iR.of2 (iG.cons (PLe2.own rfl) (iG.cons (PLe2.of_eq rfl) (iG.cons (PLe2.of_eq rfl) (iG.cons (PLe2.of_eq rfl) (iG.cons (PLe2.of_eq rfl) iG.nil)))))) (by rw [bS,bJ,bR]; rfl) s60 ?_
    rintro u60 H60h ⟨rfl,rfl⟩
    refine ⟨_,rfl,?_⟩
    refine cw (st' := ⟨_,_,fun _=>none,upd (fun _=>none) 0 (some ⟨g_data,51,(x60.map (au 53 ak)),true⟩)⟩) (Gh.le (bQ _ _) ah (ay ag)) ?_
    refine af (bm 3 tk rfl (aR ?_))
    obtain rfl := am H
    refine aK (x60,(IntKind.i64.wrap (s2.2 * (2 : Int)))) () hg2 (Gh.le (aH (PLe.of2 (PLe2.of_eq (congrArg (PV.own 0 g_data) z60_0))) (aa (aa (aa aj)))) ah (ay ag))
   refine av (bm 3 tk rfl (aR ?_))
   obtain rfl := am H
   refine aK (s5.1,(IntKind.i64.wrap (s2.2 * (2 : Int)))) () hg2 (Gh.le (aa (aa (aa (aa aj)))) ah (ay ag))
  refine aO rfl ?_
  obtain rfl := am H
  refine aQ (s2.1,s2.2) () hg2 (Gh.le (aa aj) ah (ay ag))
 have H := bn hn2 Hp2
 obtain rfl := am H
 refine dq (st' := ⟨63,fun _=>.any,fun _=>none,upd (fun _=>none) 0 (some ⟨g_data,51,(s2.1.map (au 53 ak)),true⟩)⟩) (Gh.le aj ah (ay ag)) ?_
 refine iy rfl (PLe.q rfl) ⟨rfl,rfl⟩
def gV (a : LVal) (op : List UInt8) (b : LVal) : Bool × Int :=
 bf (
  cond (!(op == ([61] : List UInt8)))
   (cond (!(op == ([60] : List UInt8)))
    ((!(op == ([60,61] : List UInt8))))
    (false))
   (false)) fun (t1 : Bool) =>
 cond t1
  ((false,3))
  (bf (
   cond (a.kind == (0 : Int))
    (true)
    ((b.kind == (0 : Int)))) fun (t2 : Bool) =>
  cond t2
   ((true,0))
   (bf (jK a b) fun x29 =>
   cond (x29 == (0 : Int))
    (cond (!(op == ([60] : List UInt8)))
     ((true,0))
     (cond (decide (x29 < (0 : Int)))
      (((!(op == ([61] : List UInt8))),0))
      ((false,0))))
    (cond (decide (x29 < (0 : Int)))
     (((!(op == ([61] : List UInt8))),0))
     ((false,0)))))
theorem rz (a : LVal) (op : List UInt8) (b : LVal) :
  bc Tryz.prog 148 [(.agg (ak a)),(.str op),(.agg (ak b))] (.tup [(aF ((gV a op b).1)),(ae ((gV a op b).2))]) := by
 obtain ⟨r,H⟩ : ∃ r,gV a op b = r := ⟨_,rfl⟩
 rw [H]
 unfold gV at H
 refine PH.aD Tryz.func148 Tryz.ntmps148 ?_
 refine ab (ac (aV ?_))
 refine aV ?_
 refine al 2 tk rfl (af (ab (ab ?_)))
 obtain ⟨fl1,H1,Hp1⟩ := bw H
 refine aY (τ := Bool) (γ := Unit) (fun t1 g1=>⟨44,upd (upd (upd (upd (fun _=>.any) 18 (aF t1)) 5 (.ptr [(ae b.kind),(ae b.int),(.str b.text)])) 3 (.ptr [(ae a.kind),(ae a.int),(.str a.text)])) 1 (.str op),fun _=>none,fun _=>none⟩) (fun t=>t = fl1) ?_ (fun t1 g1 hn1=>?_)
 ·have H := H1
  refine ac (al 3 tk rfl ?_)
  refine bF rfl rfl rfl H (fun H=>?_) (fun H=>?_)
  ·refine al 4 tk rfl ?_
   refine bF rfl rfl rfl H (fun H=>?_) (fun H=>?_)
   ·refine al 3 tk rfl (af ?_)
    subst H
    refine aQ (!(op == ([60,61] : List UInt8))) () rfl (Gh.le (aa (aa (aa (aa aj)))) ah ag)
   refine al 3 tk rfl (af ?_)
   subst H
   refine aQ false () rfl (Gh.le (aa (aa (aa (aa aj)))) ah ag)
  refine al 7 tk rfl (af ?_)
  subst H
  refine aQ false () rfl (Gh.le (aa (aa (aa (aa aj)))) ah ag)
 subst hn1
 have H := Hp1
 refine aP rfl H (fun H=>?_) (fun H=>?_)
 ·refine aw 2 tk rfl ?_
  subst H
  refine aC tk rfl (ps := [(aF false),(ae 3)]) ⟨_,_,rfl,rfl,_,_,rfl,rfl,rfl⟩ (PLe.q rfl)
 refine av (ab (ab ?_))
 obtain ⟨fl2,H2,Hp2⟩ := bw H
 refine aY (τ := Bool) (γ := Unit) (fun t2 g2=>⟨44,upd (upd (upd (upd (fun _=>.any) 26 (aF t2)) 5 (.ptr [(ae b.kind),(ae b.int),(.str b.text)])) 3 (.ptr [(ae a.kind),(ae a.int),(.str a.text)])) 1 (.str op),fun _=>none,fun _=>none⟩) (fun t=>t = fl2) ?_ (fun t2 g2 hn2=>?_)
 ·have H := H2
  refine ac (al 4 tk rfl ?_)
  refine bF rfl rfl rfl H (fun H=>?_) (fun H=>?_)
  ·refine al 4 tk rfl (af ?_)
   subst H
   refine aQ true () rfl (Gh.le (aa (aa (aa (aa aj)))) ah ag)
  refine al 4 tk rfl (af ?_)
  subst H
  refine aQ (b.kind == (0 : Int)) () rfl (Gh.le (aa (aa (aa (aa aj)))) ah ag)
 subst hn2
 have H := Hp2
 refine aP rfl H (fun H=>?_) (fun H=>?_)
 ·refine aw 2 tk rfl ?_
  subst H
  refine aC tk rfl (ps := [(aF true),(ae 0)]) ⟨_,_,rfl,rfl,_,_,rfl,rfl,rfl⟩ (PLe.q rfl)
 refine av (ab (ac (al 2 tk rfl ?_)))
 obtain ⟨x29,h29,H⟩ := bw H
 have s29 := pl a b
 rw [h29] at s29
 refine aq Tryz.call106 (iR.r) s29 ?_
 refine ao tk rfl (af (ab (ac (al 3 tk rfl ?_))))
 refine bF rfl rfl rfl H (fun H=>?_) (fun H=>?_)
 ·refine al 4 tk rfl ?_
  refine bF rfl rfl rfl H (fun H=>?_) (fun H=>?_)
  ·refine al 9 tk rfl (af ?_)
   subst H
   refine aC tk rfl (ps := [(aF true),(ae 0)]) ⟨_,_,rfl,rfl,_,_,rfl,rfl,rfl⟩ (PLe.q rfl)
  refine al 3 tk rfl ?_
  refine bF rfl rfl rfl H (fun H=>?_) (fun H=>?_)
  ·refine al 6 tk rfl (af ?_)
   subst H
   refine aC tk rfl (ps := [(aF (!(op == ([61] : List UInt8)))),(ae 0)]) ⟨_,_,rfl,rfl,_,_,rfl,rfl,rfl⟩ (PLe.q rfl)
  refine al 6 tk rfl (af ?_)
  subst H
  refine aC tk rfl (ps := [(aF false),(ae 0)]) ⟨_,_,rfl,rfl,_,_,rfl,rfl,rfl⟩ (PLe.q rfl)
 refine al 7 tk rfl ?_
 refine bF rfl rfl rfl H (fun H=>?_) (fun H=>?_)
 ·refine al 6 tk rfl (af ?_)
  subst H
  refine aC tk rfl (ps := [(aF (!(op == ([61] : List UInt8)))),(ae 0)]) ⟨_,_,rfl,rfl,_,_,rfl,rfl,rfl⟩ (PLe.q rfl)
 refine al 6 tk rfl (af ?_)
 subst H
 refine aC tk rfl (ps := [(aF false),(ae 0)]) ⟨_,_,rfl,rfl,_,_,rfl,rfl,rfl⟩ (PLe.q rfl)
end
end Go.Proofs.YtgaggbdcedpapaaGreat
