/- pushFiltersReachesFixpointUpto_holds, part 5: the layer, the plain functions and what they compute; conditions as in the statement. -/
import Derived.Test.YtppmcepdcpmpcaaGreatDoorPfd
set_option maxHeartbeats 4000000
namespace Go.Proofs.YtppmcepdcpmpcaaGreatDoor
noncomputable section
open Go Go.Ab
attribute [local irreducible] V Ao Do Gh Eff PH IntKind.wrap
set_option maxRecDepth 4000
def er (m : LRewriteRewriter) (condA : LExpr) (inA : LQuery) : Option (LQuery) :=
 ag (aT inA.inputs 0) fun (x15 : LQuery) =>
 ag (aT inA.inputs 1) fun (x21 : LQuery) =>
 ag (bR m x15) fun x17 =>
 ag (bR m x21) fun x23 =>
 ag (aH (σ := List LExpr) (ρ := Empty) (fun (_ : Nat) (x1 : List UInt8) (s1 : List LExpr) =>
  ag (cq 88 s1 ([(LExpr.mk 2 x1 0 (LVal.mk 0 0 []) [])] : List LExpr)) fun (x34 : List LExpr) =>
  some (.next x34)) 0 x23 []) fun fl1=>fl1.thenP fun (s1 : List LExpr) =>
 ag (aT inA.inputs 0) fun (x39 : LQuery) =>
 ag (aT inA.inputs 1) fun (x48 : LQuery) =>
 bq (aF condA x39) fun x41 =>
 ag (cD condA x17 s1) fun x45 =>
 bq (aF x45 x48) fun x50 =>
 some (LQuery.mk inA.kind inA.table inA.names inA.exprs inA.aggregates inA.descending inA.count inA.offset [x41,x50])
theorem np (m : LRewriteRewriter) (condA : LExpr) (inA : LQuery) (r : LQuery) (H : er m condA inA = some r) :
  aS Tryz.prog 175 [(.agg (eX m)),(.agg (bl condA)),(.agg (ao inA))] (.agg (ao r)) := by
 unfold er at H
 refine PH.ay Tryz.func175 Tryz.ntmps175 ?_
 refine ae (aa (aI ?_))
 refine aI ?_
 refine ii (d := 5) fun b5=>?_
 refine aB tk fun b6=>?_
 refine ab (ae (bs tk mok ⟨true,false,[12,16,18,22]⟩ [0,1,2,3,4,6,7,8,9,10,5,11,12,13] rfl (by decide +kernel) rfl (bf 2 rfl (aU ?_))))
 obtain ⟨x15,k15,H⟩ := bB H
 refine bF k15.1 (aR aK k15.2) ?_
 refine bf 3 rfl (aU ?_)
 obtain ⟨x21,k21,H⟩ := bB H
 refine bF k21.1 (aR aK k21.2) ?_
 refine bi rfl ?_
 obtain ⟨x17,h17,H⟩ := av H
 have s17 := cZ m x15 _ h17
 refine be Tryz.call178 (eJ.r) s17 ?_
 obtain ⟨x23,h23,H⟩ := av H
 have s23 := cZ m x21 _ h23
 refine be Tryz.call178 (eJ.r) s23 ?_
 refine bf 2 rfl (bn (aw 1 tk rfl (ae (ae (aa (ah tk rfl (aC tk (zl _) ?_)))))))
 refine ah tk rfl (ab (iI tk 9 34 (e := 91) rfl rfl ?_))
 refine du (γ := OwnRef) tk 26 25 24 (fun s1 g1=>upd (upd (upd (upd (upd (fun _=>.any) 9 (.own 34 g1 (s1.map am).length)) 7 (.list 9 (x17.map aE))) 6 (.box 6 b6 0)) 5 (.box 5 b5 0)) 4 (.ptr (bl condA))) (fun s1 g1=>upd (upd (fun _=>none) 6 (some ⟨b6,[(ac 0),(.str []),(.val (.slice none 0 0)),(.val (.slice none 0 0)),(.val (.slice none 0 0)),(.val (.slice none 0 0)),(ac 0),(ac 0),(.val (.slice none 0 0))]⟩)) 5 (some ⟨b5,(ao inA)⟩)) (fun s1 g1=>upd (fun _=>none) 34 (some ⟨g1,91,(s1.map am),true⟩)) (⟨none,0⟩) H (fun fl1 Hp1 j1 s1 g1 hz1 hl1 x1 fb1 hx1 H hg1=>?_) (fun s1 g1 H=>?_)
 ·refine ae (aG (ae (aa ?_)))
  refine aY tk (zn j1) (bm (fun _=>rfl) hx1) ?_
  refine af 2 tk rfl (ab (aa (af 3 tk rfl (ct tk (rows' := List.map am ([(LExpr.mk 2 x1 0 (LVal.mk 0 0 []) [])] : List LExpr)) (dz.trans (b := List.map bl [(LExpr.mk 2 x1 0 (LVal.mk 0 0 []) [])]) (dz.cons (oz.cons (lZ.of_eq rfl) (oz.cons (lZ.of_eq rfl) (oz.cons (lZ.of_eq rfl) (oz.cons (lZ.of_eq rfl) (oz.cons (lZ.of_eq rfl) (oz.cons (lZ.of_eq rfl) (oz.cons (lZ.nil tk rfl) oz.nil))))))) dz.nil) (dz.of_eq (bO aQ [(LExpr.mk 2 x1 0 (LVal.mk 0 0 []) [])]))) ?_))))
  obtain ⟨x34,h34,H⟩ := av H
  have k34 := bL h34
  refine bZ (rows2' := List.map am ([(LExpr.mk 2 x1 0 (LVal.mk 0 0 []) [])] : List LExpr)) (rows' := List.map am x34) tk rfl rfl rfl rfl rfl rfl rfl rfl rfl rfl rfl rfl rfl (dz.refl _) (cn k34.1) (cm k34.2.1) (ck k34.2.2) fun g34=>?_
  refine ah tk rfl (ab (bc (bC 2 tk rfl ?_)))
  exact bu g34 H hl1 hg1
 refine ae (eD 9 rfl rfl rfl (bs tk mok ⟨true,false,[36,40,42,49]⟩ [0,1,2,3,4,6,7,8,10,11,12,13,5,9,14,15,16,17] rfl (by decide +kernel) rfl (bf 2 rfl (aU ?_))))
 obtain ⟨x39,k39,H⟩ := bB H
 refine bF k39.1 (aR aK k39.2) ?_
 refine bf 5 rfl (aU ?_)
 obtain ⟨x48,k48,H⟩ := bB H
 refine bF k48.1 (aR aK k48.2) ?_
 refine bi rfl ?_
 obtain ⟨x41,h41,H⟩ := cY H
 have s41 := dc condA x39
 rw [h41] at s41
 refine be Tryz.call172 (eJ.r) s41 ?_
 obtain ⟨x45,h45,H⟩ := av H
 have s45 := iB condA x17 s1 _ h45
 refine be Tryz.call119 (eJ.r) s45 ?_
 obtain ⟨x50,h50,H⟩ := cY H
 have s50 := dc x45 x48
 rw [h50] at s50
 refine be Tryz.call172 (eJ.r) s50 ?_
 refine bf 2 rfl (bj ?_)
 refine bn (ae (aa (ak tk ?_)))
 refine al tk ?_
 refine ab ?_
 obtain rfl := az H
 refine bd tk rfl (ps := [(.agg [(ac inA.kind),(.str inA.table),(.list 9 (inA.names.map aE)),(.list 91 (inA.exprs.map am)),(.list 88 (inA.aggregates.map aO)),(.list 4 (inA.descending.map aV)),(ac inA.count),(ac inA.offset),(.list 33 [(ao x41),(ao x50)])])]) ⟨_,_,rfl,⟨_,_,_,_,_,rfl,rfl,rfl,rfl⟩,rfl⟩ (PLe.of2 (lZ.agg (gp.cons (lZ.of_eq rfl) (gp.cons (lZ.of_eq rfl) (gp.cons (lZ.of_eq rfl) (gp.cons (lZ.of_eq rfl) (gp.cons (lZ.of_eq rfl) (gp.cons (lZ.of_eq rfl) (gp.cons (lZ.of_eq rfl) (gp.cons (lZ.of_eq rfl) (gp.cons (lZ.list (dz.trans (b := List.map ao [x41,x50]) (dz.refl _) (dz.of_eq (bO aK [x41,x50])))) gp.nil)))))))))))
def ep (m : LRewriteRewriter) (condA : LExpr) (inA : LQuery) : Option (LQuery × Bool) :=
 ag (aT inA.inputs (0 : Int)) fun (x18 : LQuery) =>
 ag (aT inA.inputs (1 : Int)) fun (x24 : LQuery) =>
 ag (bR m x18) fun x20 =>
 ag (bR m x24) fun x26 =>
 ag (fR condA) fun x28 =>
 ag (aH (σ := List LExpr × List LExpr × List LExpr) (ρ := Empty) (fun (_ : Nat) (x1 : LExpr) (s1 : List LExpr × List LExpr × List LExpr) =>
  ag (dN x1 x20) fun x41 =>
  cond x41
   (ag (cq 88 s1.1 ([x1] : List LExpr)) fun (x45 : List LExpr) =>
   some (.next (x45,s1.2.1,s1.2.2)))
   (ag (
    ag (dN x1 x26) fun x49 =>
    cond x49
     (some (inA.kind == (4 : Int)))
     (some false)) fun (t4 : Bool) =>
   cond t4
    (ag (cq 88 s1.2.1 ([x1] : List LExpr)) fun (x58 : List LExpr) =>
    some (.next (s1.1,x58,s1.2.2)))
    (ag (cq 88 s1.2.2 ([x1] : List LExpr)) fun (x37 : List LExpr) =>
    some (.next (s1.1,s1.2.1,x37))))) 0 x28 ([],[],[])) fun fl1=>fl1.thenP fun (s1 : List LExpr × List LExpr × List LExpr) =>
 cond ((IntKind.i64.wrap ((s1.1.length : Int) + (s1.2.1.length : Int))) == (0 : Int))
  (some ((LQuery.mk 0 [] [] [] [] [] 0 0 []),false))
  (ag (
   cond (decide ((s1.1.length : Int) > (0 : Int)))
    (ag (aT inA.inputs (0 : Int)) fun (x76 : LQuery) =>
    ag (cz s1.1) fun x73 =>
    bq (aF x73 x76) fun x78 =>
    ag (aT inA.inputs (0 : Int)) fun (_ : LQuery) =>
    bq (inA.inputs.set ((0 : Int).toNat) x78) fun (y7 : List LQuery) =>
    some y7)
    (some inA.inputs)) fun (t6 : List LQuery) =>
  ag (
   cond (decide ((s1.2.1.length : Int) > (0 : Int)))
    (ag (aT t6 (1 : Int)) fun (x89 : LQuery) =>
    ag (cz s1.2.1) fun x86 =>
    bq (aF x86 x89) fun x91 =>
    ag (aT t6 (1 : Int)) fun (_ : LQuery) =>
    bq (t6.set ((1 : Int).toNat) x91) fun (y10 : List LQuery) =>
    some y10)
    (some t6)) fun (t9 : List LQuery) =>
  cond (decide ((s1.2.2.length : Int) > (0 : Int)))
   (ag (cz s1.2.2) fun x97 =>
   bq (aF x97 (LQuery.mk inA.kind inA.table inA.names inA.exprs inA.aggregates inA.descending inA.count inA.offset t9)) fun x99 =>
   some (x99,true))
   (some ((LQuery.mk inA.kind inA.table inA.names inA.exprs inA.aggregates inA.descending inA.count inA.offset t9),true)))
theorem nn (g_inA : OwnRef) (m : LRewriteRewriter) (condA : LExpr) (inA : LQuery) (r : LQuery × Bool) (H : ep m condA inA = some r) :
  PH Tryz.prog 177 [(.agg (eX m)),(.agg (bl condA)),(.agg [(ac inA.kind),(.str inA.table),(.list 9 (inA.names.map aE)),(.list 91 (inA.exprs.map am)),(.list 88 (inA.aggregates.map aO)),(.list 4 (inA.descending.map aV)),(ac inA.count),(ac inA.offset),(.own 3002 g_inA (inA.inputs.map ap).length)])] ⟨fun _=>none,upd (fun _=>none) 3002 (some ⟨g_inA,33,(List.map ap inA.inputs),true⟩)⟩ (fun u H=>u = (.tup [(.agg (ao r.1)),(au r.2)]) ∧ H = Heap.empty) := by
 unfold ep at H
 refine PH.ay Tryz.func177 Tryz.ntmps177 ?_
 refine ae (aa (aI ?_))
 refine aI ?_
 refine ii (d := 5) fun b5=>?_
 refine aB tk fun b6=>?_
 refine ah tk rfl (ab (ae ?_))
 refine fX (tag := 3002) rfl (fun ho3002=>?_)
 refine bs tk mok ⟨true,true,[15,21,999999]⟩ [0,1,2,3,4,6,7,8,9,10,5,11,12,13] rfl (by decide +kernel) rfl (bf 2 rfl (aU ?_))
 obtain ⟨x18,k18,H⟩ := bB H
 refine dX tk ⟨k18.1,(dG k18.2)⟩ (dH ho3002 k18.2) ?_
 refine ip tk (aR aK k18.2) ?_
 refine bf 2 rfl (aU ?_)
 obtain ⟨x24,k24,H⟩ := bB H
 refine dX tk ⟨k24.1,(dG k24.2)⟩ (dH ho3002 k24.2) ?_
 refine ip tk (aR aK k24.2) ?_
 obtain ⟨x20,h20,H⟩ := av H
 have s20 := cZ m x18 _ h20
 refine be Tryz.call178 (eJ.r) s20 ?_
 obtain ⟨x26,h26,H⟩ := av H
 have s26 := cZ m x24 _ h26
 refine be Tryz.call178 (eJ.r) s26 ?_
 refine bf 2 rfl (bn (aw 3 tk rfl (ae (ae (aa (ah tk rfl ?_))))))
 obtain ⟨x28,h28,H⟩ := av H
 have s28 := iN (m := 28) condA _ h28
 refine aq Tryz.call174 (eJ.r) (PFun.fh s28) ?_
 refine aC tk (zl _) ?_
 refine ah tk rfl (ab (iI tk 10 45 (e := 91) rfl rfl (iI tk 11 58 (e := 91) rfl rfl (iI tk 12 37 (e := 91) rfl rfl ?_))))
 refine du (γ := OwnRef × OwnRef × OwnRef) tk 30 29 28 (fun s1 g1=>upd (upd (upd (upd (upd (upd (upd (fun _=>.any) 12 (.own 37 g1.2.2 (s1.2.2.map am).length)) 11 (.own 58 g1.2.1 (s1.2.1.map am).length)) 10 (.own 45 g1.1 (s1.1.map am).length)) 9 (.list 9 (x26.map aE))) 8 (.list 9 (x20.map aE))) 6 (.box 6 b6 0)) 5 (.box 5 b5 0)) (fun s1 g1=>upd (upd (fun _=>none) 6 (some ⟨b6,[(ac 0),(.str []),(.val (.slice none 0 0)),(.val (.slice none 0 0)),(.val (.slice none 0 0)),(.val (.slice none 0 0)),(ac 0),(ac 0),(.val (.slice none 0 0))]⟩)) 5 (some ⟨b5,[(ac inA.kind),(.str inA.table),(.list 9 (inA.names.map aE)),(.list 91 (inA.exprs.map am)),(.list 88 (inA.aggregates.map aO)),(.list 4 (inA.descending.map aV)),(ac inA.count),(ac inA.offset),(.own 3002 g_inA (inA.inputs.map ap).length)]⟩)) (fun s1 g1=>upd (upd (upd (upd (fun _=>none) 58 (some ⟨g1.2.1,91,(s1.2.1.map am),true⟩)) 45 (some ⟨g1.1,91,(s1.1.map am),true⟩)) 37 (some ⟨g1.2.2,91,(s1.2.2.map am),true⟩)) 3002 (some ⟨g_inA,33,(inA.inputs.map ap),true⟩)) (⟨none,0⟩,⟨none,0⟩,⟨none,0⟩) H (fun fl1 Hp1 j1 s1 g1 hz1 hl1 x1 fb1 hx1 H hg1=>?_) (fun s1 g1 H=>?_)
 ·refine ae (aG (ae (aa (aY tk (zn j1) (bm aQ hx1) ?_))))
  refine ah tk rfl ?_
  refine aB tk fun b14=>?_
  refine al tk ?_
  refine ab (aG (ae (aa (ak tk ?_))))
  refine ah tk rfl ?_
  obtain ⟨x41,h41,H⟩ := av H
  have s41 := iM x1 x20 _ h41
  refine aq Tryz.call176 (eJ.r) s41 ?_
  refine ah tk rfl (ab ?_)
  refine aP rfl H (fun H=>?_) (fun H=>?_)
  ·refine aa (ah tk rfl (ak tk ?_))
   refine ct tk (rows' := List.map am ([x1] : List LExpr)) (dz.trans (b := List.map bl [x1]) (dz.refl _) (dz.of_eq (bO aQ [x1]))) ?_
   obtain ⟨x45,h45,H⟩ := av H
   have k45 := bL h45
   refine bZ (rows2' := List.map am ([x1] : List LExpr)) (rows' := List.map am x45) tk rfl rfl rfl rfl rfl rfl rfl rfl rfl rfl rfl rfl rfl (dz.refl _) (cn k45.1) (cm k45.2.1) (ck k45.2.2) fun g45=>?_
   refine ah tk rfl (ab (bc (bc (bC 2 tk rfl ?_))))
   exact bu (g45,g1.2.1,g1.2.2) H hl1 hg1
  refine ae ?_
  refine bY (γ := Unit) (fun t4 g4=>⟨101,upd (upd (upd (upd (upd (upd (upd (upd (upd (upd (upd (upd (fun _=>.any) 46 (au t4)) 30 (ac (j1 : Int))) 29 (ac (x28.length : Int))) 28 (.list 91 (x28.map am))) 14 (.box 14 b14 0)) 12 (.own 37 g1.2.2 (s1.2.2.map am).length)) 11 (.own 58 g1.2.1 (s1.2.1.map am).length)) 10 (.own 45 g1.1 (s1.1.map am).length)) 9 (.list 9 (x26.map aE))) 8 (.list 9 (x20.map aE))) 6 (.box 6 b6 0)) 5 (.box 5 b5 0),upd (upd (upd (fun _=>none) 14 (some ⟨b14,(bl x1)⟩)) 6 (some ⟨b6,[(ac 0),(.str []),(.val (.slice none 0 0)),(.val (.slice none 0 0)),(.val (.slice none 0 0)),(.val (.slice none 0 0)),(ac 0),(ac 0),(.val (.slice none 0 0))]⟩)) 5 (some ⟨b5,[(ac inA.kind),(.str inA.table),(.list 9 (inA.names.map aE)),(.list 91 (inA.exprs.map am)),(.list 88 (inA.aggregates.map aO)),(.list 4 (inA.descending.map aV)),(ac inA.count),(ac inA.offset),(.own 3002 g_inA (inA.inputs.map ap).length)]⟩),upd (upd (upd (upd (fun _=>none) 3002 (some ⟨g_inA,33,(inA.inputs.map ap),true⟩)) 58 (some ⟨g1.2.1,91,(s1.2.1.map am),true⟩)) 45 (some ⟨g1.1,91,(s1.1.map am),true⟩)) 37 (some ⟨g1.2.2,91,(s1.2.2.map am),true⟩)⟩) H (fun _ H=>?_) (fun t4 g4 H=>?_)
  ·refine aa (ak tk ?_)
   refine ah tk rfl ?_
   obtain ⟨x49,h49,H⟩ := av H
   have s49 := iM x1 x26 _ h49
   refine aq Tryz.call176 (eJ.r) s49 ?_
   refine ah tk rfl ?_
   refine aN rfl rfl rfl H (fun H=>?_) (fun H=>?_)
   ·refine ah tk rfl (ak tk ?_)
    refine af 3 tk rfl (ab ?_)
    refine aJ _ () (az H) Gh.d
   refine af 5 tk rfl (ab ?_)
   refine aJ _ () (az H) Gh.d
  refine aP rfl H (fun H=>?_) (fun H=>?_)
  ·refine aa (ah tk rfl (ak tk ?_))
   refine ct tk (rows' := List.map am ([x1] : List LExpr)) (dz.trans (b := List.map bl [x1]) (dz.refl _) (dz.of_eq (bO aQ [x1]))) ?_
   obtain ⟨x58,h58,H⟩ := av H
   have k58 := bL h58
   refine bZ (rows2' := List.map am ([x1] : List LExpr)) (rows' := List.map am x58) tk rfl rfl rfl rfl rfl rfl rfl rfl rfl rfl rfl rfl rfl (dz.refl _) (cn k58.1) (cm k58.2.1) (ck k58.2.2) fun g58=>?_
   refine ah tk rfl (ab (bc (bc (bC 2 tk rfl ?_))))
   exact bu (g1.1,g58,g1.2.2) H hl1 hg1
  refine aa (ah tk rfl (ak tk ?_))
  refine ct tk (rows' := List.map am ([x1] : List LExpr)) (dz.trans (b := List.map bl [x1]) (dz.refl _) (dz.of_eq (bO aQ [x1]))) ?_
  obtain ⟨x37,h37,H⟩ := av H
  have k37 := bL h37
  refine bZ (rows2' := List.map am ([x1] : List LExpr)) (rows' := List.map am x37) tk rfl rfl rfl rfl rfl rfl rfl rfl rfl rfl rfl rfl rfl (dz.refl _) (cn k37.1) (cm k37.2.1) (ck k37.2.2) fun g37=>?_
  refine ah tk rfl (ab (bc (bc (bC 2 tk rfl ?_))))
  exact bu (g1.1,g1.2.1,g37) H hl1 hg1
 refine ae (ae (aa (ah tk rfl (gR tk (zl _) ?_))))
 refine ah tk rfl (gR tk (zl _) ?_)
 refine af 2 tk rfl (ab ?_)
 refine aP rfl H (fun H=>?_) (fun H=>?_)
 ·refine ae (aa (ah tk rfl (al tk ?_)))
  refine ah tk rfl (ab ?_)
  obtain rfl := az H
  refine bd tk rfl (ps := [(.agg [(ac 0),(.str []),(.val (.slice none 0 0)),(.val (.slice none 0 0)),(.val (.slice none 0 0)),(.val (.slice none 0 0)),(ac 0),(ac 0),(.val (.slice none 0 0))]),(au false)]) ⟨_,_,rfl,⟨_,_,_,_,_,rfl,rfl,rfl,rfl⟩,_,_,rfl,rfl,rfl⟩ (PLe.of2 (lZ.tup (gp.cons (lZ.agg (gp.cons (lZ.of_eq rfl) (gp.cons (lZ.of_eq rfl) (gp.cons (lZ.nil tk rfl) (gp.cons (lZ.nil tk rfl) (gp.cons (lZ.nil tk rfl) (gp.cons (lZ.nil tk rfl) (gp.cons (lZ.of_eq rfl) (gp.cons (lZ.of_eq rfl) (gp.cons (lZ.nil tk rfl) gp.nil)))))))))) (gp.cons (lZ.of_eq rfl) gp.nil))))
 refine ax (ae (ae (aa (ah tk rfl (gR tk (zl _) ?_)))))
 refine ah tk rfl (ab ?_)
 refine bY (γ := OwnRef) (fun t6 g6=>⟨101,upd (upd (upd (upd (fun _=>.any) 12 (.own 37 g1.2.2 (s1.2.2.map am).length)) 11 (.own 58 g1.2.1 (s1.2.1.map am).length)) 6 (.box 6 b6 0)) 5 (.box 5 b5 0),upd (upd (fun _=>none) 6 (some ⟨b6,[(ac 0),(.str []),(.val (.slice none 0 0)),(.val (.slice none 0 0)),(.val (.slice none 0 0)),(.val (.slice none 0 0)),(ac 0),(ac 0),(.val (.slice none 0 0))]⟩)) 5 (some ⟨b5,[(ac inA.kind),(.str inA.table),(.list 9 (inA.names.map aE)),(.list 91 (inA.exprs.map am)),(.list 88 (inA.aggregates.map aO)),(.list 4 (inA.descending.map aV)),(ac inA.count),(ac inA.offset),(.own 3002 g6 (t6.map ap).length)]⟩),upd (upd (upd (fun _=>none) 3002 (some ⟨g6,33,(t6.map ap),true⟩)) 58 (some ⟨g1.2.1,91,(s1.2.1.map am),true⟩)) 37 (some ⟨g1.2.2,91,(s1.2.2.map am),true⟩)⟩) H (fun _ H=>?_) (fun t6 g6 H=>?_)
 ·refine aP rfl H (fun H=>?_) (fun H=>?_)
  ·refine eD 10 rfl rfl rfl ?_
   refine fX (tag := 3002) rfl (fun ho3002=>?_)
   refine fX (tag := 37) rfl (fun ho37=>?_)
   refine fX (tag := 58) rfl (fun ho58=>?_)
   refine bs tk mok ⟨true,true,[999999]⟩ [0,1,2,4,5,6,7,3,8,9,10] rfl (by decide +kernel) rfl (bi rfl (aU ?_))
   refine bf 2 rfl (aU ?_)
   obtain ⟨x76,k76,H⟩ := bB H
   refine dX tk ⟨k76.1,(dG k76.2)⟩ (dH ho3002 k76.2) ?_
   refine ip tk (aR aK k76.2) ?_
   obtain ⟨x73,h73,H⟩ := av H
   have s73 := fe s1.1 _ h73
   refine be Tryz.call173 (eJ.r) s73 ?_
   obtain ⟨x78,h78,H⟩ := cY H
   have s78 := dc x73 x76
   rw [h78] at s78
   refine be Tryz.call172 (eJ.r) s78 ?_
   obtain ⟨x79,k79,H⟩ := bB H
   refine dX tk ⟨k79.1,(dG k79.2)⟩ (dH ho3002 k79.2) ?_
   obtain ⟨y7,hy7,H⟩ := cY H
   refine gM tk rfl rfl rfl rfl rfl rfl rfl rfl rfl (by rw [zl]; exact (zg.1 k79.2).1) (PLe.refl _ _) rfl rfl rfl rfl (by decide) (eR aK k79.2 rfl hy7) ?_
   refine bn ?_
   refine aJ _ g_inA (az H) (Gh.le (aL (aL (aL (aL bM)))) (aM rfl (eJ.of2 (gp.cons (lZ.of_eq rfl) (gp.cons (lZ.of_eq rfl) (gp.cons (lZ.of_eq rfl) (gp.cons (lZ.of_eq rfl) (gp.cons (lZ.of_eq rfl) (gp.cons (lZ.of_eq rfl) (gp.cons (lZ.of_eq rfl) (gp.cons (lZ.of_eq rfl) (gp.cons (lZ.of_eq (congrArg (PV.own 3002 g_inA) (fU (f := ap) hy7))) gp.nil)))))))))) (aM rfl (eJ.r) bA)) (cX (cX (cX bw))))
  refine ax ?_
  refine aJ _ g_inA (az H) Gh.d
 refine ae (ae (aa (ah tk rfl (gR tk (zl _) ?_))))
 refine ah tk rfl (ab ?_)
 refine bY (γ := OwnRef) (fun t9 g9=>⟨101,upd (upd (upd (fun _=>.any) 12 (.own 37 g1.2.2 (s1.2.2.map am).length)) 6 (.box 6 b6 0)) 5 (.box 5 b5 0),upd (upd (fun _=>none) 6 (some ⟨b6,[(ac 0),(.str []),(.val (.slice none 0 0)),(.val (.slice none 0 0)),(.val (.slice none 0 0)),(.val (.slice none 0 0)),(ac 0),(ac 0),(.val (.slice none 0 0))]⟩)) 5 (some ⟨b5,[(ac inA.kind),(.str inA.table),(.list 9 (inA.names.map aE)),(.list 91 (inA.exprs.map am)),(.list 88 (inA.aggregates.map aO)),(.list 4 (inA.descending.map aV)),(ac inA.count),(ac inA.offset),(.own 3002 g9 (t9.map ap).length)]⟩),upd (upd (fun _=>none) 3002 (some ⟨g9,33,(t9.map ap),true⟩)) 37 (some ⟨g1.2.2,91,(s1.2.2.map am),true⟩)⟩) H (fun _ H=>?_) (fun t9 g9 H=>?_)
 ·refine aP rfl H (fun H=>?_) (fun H=>?_)
  ·refine eD 11 rfl rfl rfl ?_
   refine fX (tag := 3002) rfl (fun ho3002=>?_)
   refine fX (tag := 37) rfl (fun ho37=>?_)
   refine bs tk mok ⟨true,true,[999999]⟩ [0,1,2,4,5,6,7,3,8,9,10] rfl (by decide +kernel) rfl (bi rfl (aU ?_))
   refine bf 2 rfl (aU ?_)
   obtain ⟨x89,k89,H⟩ := bB H
   refine dX tk ⟨k89.1,(dG k89.2)⟩ (dH ho3002 k89.2) ?_
   refine ip tk (aR aK k89.2) ?_
   obtain ⟨x86,h86,H⟩ := av H
   have s86 := fe s1.2.1 _ h86
   refine be Tryz.call173 (eJ.r) s86 ?_
   obtain ⟨x91,h91,H⟩ := cY H
   have s91 := dc x86 x89
   rw [h91] at s91
   refine be Tryz.call172 (eJ.r) s91 ?_
   obtain ⟨x92,k92,H⟩ := bB H
   refine dX tk ⟨k92.1,(dG k92.2)⟩ (dH ho3002 k92.2) ?_
   obtain ⟨y10,hy10,H⟩ := cY H
   refine gM tk rfl rfl rfl rfl rfl rfl rfl rfl rfl (by rw [zl]; exact (zg.1 k92.2).1) (PLe.refl _ _) rfl rfl rfl rfl (by decide) (eR aK k92.2 rfl hy10) ?_
   refine bn ?_
   refine aJ _ g6 (az H) (Gh.le (aL (aL (aL bM))) (aM rfl (eJ.of2 (gp.cons (lZ.of_eq rfl) (gp.cons (lZ.of_eq rfl) (gp.cons (lZ.of_eq rfl) (gp.cons (lZ.of_eq rfl) (gp.cons (lZ.of_eq rfl) (gp.cons (lZ.of_eq rfl) (gp.cons (lZ.of_eq rfl) (gp.cons (lZ.of_eq rfl) (gp.cons (lZ.of_eq (congrArg (PV.own 3002 g6) (fU (f := ap) hy10))) gp.nil)))))))))) (aM rfl (eJ.r) bA)) (cX (cX bw)))
  refine ax ?_
  refine aJ _ g6 (az H) Gh.d
 refine ae (ae (aa (ah tk rfl (gR tk (zl _) ?_))))
 refine ah tk rfl (ab ?_)
 refine aP rfl H (fun H=>?_) (fun H=>?_)
 ·refine ae (eD 12 rfl rfl rfl (bD 5 8 rfl rfl rfl rfl rfl (bs tk mok ⟨true,false,[]⟩ [0,2,1,3,4,5] rfl (by decide +kernel) rfl (bi rfl (aU ?_)))))
  obtain ⟨x97,h97,H⟩ := av H
  have s97 := fe s1.2.2 _ h97
  refine be Tryz.call173 (eJ.r) s97 ?_
  obtain ⟨x99,h99,H⟩ := cY H
  have s99 := dc x97 (LQuery.mk inA.kind inA.table inA.names inA.exprs inA.aggregates inA.descending inA.count inA.offset t9)
  rw [h99] at s99
  refine be Tryz.call172 (eJ.r) s99 ?_
  refine bj ?_
  refine bi rfl (bn ?_)
  obtain rfl := az H
  refine bd tk rfl (ps := [(.agg (ao x99)),(au true)]) ⟨_,_,rfl,⟨_,_,_,_,_,rfl,rfl,rfl,rfl⟩,_,_,rfl,rfl,rfl⟩ (PLe.q rfl)
 refine ax (ae (aa (ak tk ?_)))
 refine al tk ?_
 refine ah tk rfl (ab ?_)
 obtain rfl := az H
 refine bD 6 8 rfl rfl rfl rfl rfl ?_
 refine bd tk rfl (ps := [(.agg [(ac inA.kind),(.str inA.table),(.list 9 (inA.names.map aE)),(.list 91 (inA.exprs.map am)),(.list 88 (inA.aggregates.map aO)),(.list 4 (inA.descending.map aV)),(ac inA.count),(ac inA.offset),(.list 33 (t9.map ap))]),(au true)]) ⟨_,_,rfl,⟨_,_,_,_,_,rfl,rfl,rfl,rfl⟩,_,_,rfl,rfl,rfl⟩ (PLe.q rfl)
def gC (m : LRewriteRewriter) (q : LQuery) : Option (LQuery) :=
 ag (bR m q) fun x8 =>
 ag (aT q.inputs 1) fun (x11 : LQuery) =>
 ag (aT q.inputs 0) fun (x15 : LQuery) =>
 ag (gU x8 (LQuery.mk q.kind q.table q.names q.exprs q.aggregates q.descending q.count q.offset [x11,x15])) fun x21 =>
 some x21
theorem lW (m : LRewriteRewriter) (q : LQuery) (r : LQuery) (H : gC m q = some r) :
  aS Tryz.prog 115 [(.agg (eX m)),(.agg (ao q))] (.agg (ao r)) := by
 unfold gC at H
 refine PH.ay Tryz.func115 Tryz.ntmps115 ?_
 refine ae (aa (aI ?_))
 refine ii (d := 3) fun b3=>?_
 refine aB tk fun b4=>?_
 refine ab (ae (aa (ah tk rfl (ak tk ?_))))
 obtain ⟨x8,h8,H⟩ := av H
 have s8 := cZ m q _ h8
 refine aq Tryz.call178 (eJ.r) s8 ?_
 refine ah tk rfl (ab (ae (bs tk mok ⟨true,false,[12,16]⟩ [0,1,2,3,4,5,6,7,8,9,10] rfl (by decide +kernel) rfl (bi rfl (aU ?_)))))
 obtain ⟨x11,k11,H⟩ := bB H
 refine bF k11.1 (aR aK k11.2) ?_
 refine bf 2 rfl (aU ?_)
 obtain ⟨x15,k15,H⟩ := bB H
 refine bF k15.1 (aR aK k15.2) ?_
 refine bf 3 rfl (bj ?_)
 refine bn (ae (aa (ah tk rfl (ak tk ?_))))
 obtain ⟨x21,h21,H⟩ := av H
 have s21 := mV x8 (LQuery.mk q.kind q.table q.names q.exprs q.aggregates q.descending q.count q.offset [x11,x15]) _ h21
 refine aq Tryz.call179 (eJ.of2 (gp.cons (lZ.of_eq rfl) (gp.cons (lZ.agg (gp.cons (lZ.of_eq rfl) (gp.cons (lZ.of_eq rfl) (gp.cons (lZ.of_eq rfl) (gp.cons (lZ.of_eq rfl) (gp.cons (lZ.of_eq rfl) (gp.cons (lZ.of_eq rfl) (gp.cons (lZ.of_eq rfl) (gp.cons (lZ.of_eq rfl) (gp.cons (lZ.list (dz.trans (b := List.map ao [x11,x15]) (dz.refl _) (dz.of_eq (bO aK [x11,x15])))) gp.nil)))))))))) gp.nil))) s21 ?_
 refine al tk ?_
 refine ab ?_
 exact nU tk H rfl rfl rfl rfl rfl
def fQ (m : LRewriteRewriter) (q : LQuery) (inA : LQuery) : Option (LQuery × Bool) :=
 ag (aT inA.inputs 1) fun (x17 : LQuery) =>
 ag (aT q.inputs 1) fun (x23 : LQuery) =>
 ag (bR m x17) fun x19 =>
 ag (bR m x23) fun x25 =>
 ag (fD ([x19,x25] : List (List (List UInt8)))) fun x27 =>
 ag (aT inA.exprs 0) fun (x31 : LExpr) =>
 ag (fR x31) fun x33 =>
 ag (aT q.exprs 0) fun (x37 : LExpr) =>
 ag (fR x37) fun x39 =>
 ag (aH (σ := List LExpr × List LExpr) (ρ := Empty) (fun (_ : Nat) (x1 : LExpr) (s1 : List LExpr × List LExpr) =>
  ag (dN x1 x27) fun x47 =>
  cond x47
   (ag (cq 88 s1.1 ([x1] : List LExpr)) fun (x51 : List LExpr) =>
   some (.next (x51,s1.2)))
   (ag (cq 88 s1.2 ([x1] : List LExpr)) fun (x55 : List LExpr) =>
   some (.next (s1.1,x55)))) 0 x39 ([],x33)) fun fl1=>fl1.thenP fun (s1 : List LExpr × List LExpr) =>
 ag (aT inA.inputs 1) fun (x62 : LQuery) =>
 ag (aT q.inputs 1) fun (x66 : LQuery) =>
 ag (cz s1.1) fun x58 =>
 ag (aT inA.inputs 0) fun (x75 : LQuery) =>
 ag (cz s1.2) fun x71 =>
 some ((LQuery.mk 4 [] [] [x71] [] [] 0 0 [x75,(LQuery.mk 4 [] [] [x58] [] [] 0 0 [x62,x66])]),true)
theorem lm (m : LRewriteRewriter) (q : LQuery) (inA : LQuery) (r : LQuery × Bool) (H : fQ m q inA = some r) :
  aS Tryz.prog 116 [(.agg (eX m)),(.agg (ao q)),(.agg (ao inA))] (.tup [(.agg (ao r.1)),(au r.2)]) := by
 unfold fQ at H
 refine PH.ay Tryz.func116 Tryz.ntmps116 ?_
 refine ae (aa (aI ?_))
 refine aI ?_
 refine aI ?_
 refine aB tk fun b6=>?_
 refine ah tk rfl (ab (ae (bs tk mok ⟨false,false,[]⟩ [0,1,2,3,4,6,7,8,9,10,5,11,12,13,14] rfl (by decide +kernel) rfl (bf 3 rfl ?_))))
 obtain ⟨x17,k17,H⟩ := bB H
 refine bF k17.1 (aR aK k17.2) ?_
 refine bf 4 rfl ?_
 obtain ⟨x23,k23,H⟩ := bB H
 refine bF k23.1 (aR aK k23.2) ?_
 refine bi rfl ?_
 obtain ⟨x19,h19,H⟩ := av H
 have s19 := cZ m x17 _ h19
 refine be Tryz.call178 (eJ.r) s19 ?_
 obtain ⟨x25,h25,H⟩ := av H
 have s25 := cZ m x23 _ h25
 refine be Tryz.call178 (eJ.r) s25 ?_
 refine bi rfl ?_
 obtain ⟨x27,h27,H⟩ := av H
 have s27 := kX (m := 27) ([x19,x25] : List (List (List UInt8))) _ h27
 refine be Tryz.call180 (eJ.r) (PFun.fh s27) ?_
 refine bi rfl (bn (aw 2 tk rfl (ae (aa (af 3 tk rfl ?_)))))
 obtain ⟨x31,k31,H⟩ := bB H
 refine aY tk k31.1 (aR aQ k31.2) ?_
 refine ah tk rfl ?_
 obtain ⟨x33,h33,H⟩ := av H
 have s33 := iN (m := 33) x31 _ h33
 refine aq Tryz.call174 (eJ.r) (PFun.fh s33) ?_
 refine rG (rows2' := List.map am x33) tk rfl rfl rfl rfl rfl rfl rfl rfl rfl rfl rfl (dz.refl _) fun g34=>?_
 refine ah tk rfl (ab (ae (ae (aa (af 2 tk rfl ?_)))))
 obtain ⟨x37,k37,H⟩ := bB H
 refine aY tk k37.1 (aR aQ k37.2) ?_
 refine ah tk rfl ?_
 obtain ⟨x39,h39,H⟩ := av H
 have s39 := iN (m := 39) x37 _ h39
 refine aq Tryz.call174 (eJ.r) (PFun.fh s39) ?_
 refine aC tk (zl _) ?_
 refine ah tk rfl (ab (iI tk 9 51 (e := 91) rfl rfl ?_))
 refine du (γ := OwnRef × OwnRef) tk 41 40 39 (fun s1 g1=>upd (upd (upd (upd (upd (upd (fun _=>.any) 10 (.own 34 g1.2 (s1.2.map am).length)) 9 (.own 51 g1.1 (s1.1.map am).length)) 8 (.list 9 (x27.map aE))) 6 (.box 6 b6 0)) 5 (.ptr (ao inA))) 4 (.ptr (ao q))) (fun s1 g1=>upd (fun _=>none) 6 (some ⟨b6,[(ac 0),(.str []),(.val (.slice none 0 0)),(.val (.slice none 0 0)),(.val (.slice none 0 0)),(.val (.slice none 0 0)),(ac 0),(ac 0),(.val (.slice none 0 0))]⟩)) (fun s1 g1=>upd (upd (fun _=>none) 51 (some ⟨g1.1,91,(s1.1.map am),true⟩)) 34 (some ⟨g1.2,91,(s1.2.map am),true⟩)) (⟨none,0⟩,g34) H (fun fl1 Hp1 j1 s1 g1 hz1 hl1 x1 fb1 hx1 H hg1=>?_) (fun s1 g1 H=>?_)
 ·refine ae (aG (ae (aa (aY tk (zn j1) (bm aQ hx1) ?_))))
  refine ah tk rfl ?_
  refine aB tk fun b12=>?_
  refine al tk ?_
  refine ab (ae (aa (ak tk ?_)))
  refine ah tk rfl ?_
  obtain ⟨x47,h47,H⟩ := av H
  have s47 := iM x1 x27 _ h47
  refine aq Tryz.call176 (eJ.r) s47 ?_
  refine ab ?_
  refine aP rfl H (fun H=>?_) (fun H=>?_)
  ·refine aa (ah tk rfl (ak tk ?_))
   refine ct tk (rows' := List.map am ([x1] : List LExpr)) (dz.trans (b := List.map bl [x1]) (dz.refl _) (dz.of_eq (bO aQ [x1]))) ?_
   obtain ⟨x51,h51,H⟩ := av H
   have k51 := bL h51
   refine bZ (rows2' := List.map am ([x1] : List LExpr)) (rows' := List.map am x51) tk rfl rfl rfl rfl rfl rfl rfl rfl rfl rfl rfl rfl rfl (dz.refl _) (cn k51.1) (cm k51.2.1) (ck k51.2.2) fun g51=>?_
   refine ah tk rfl (ab (bc (bC 2 tk rfl ?_)))
   exact bu (g51,g1.2) H hl1 hg1
  refine aa (ah tk rfl (ak tk ?_))
  refine ct tk (rows' := List.map am ([x1] : List LExpr)) (dz.trans (b := List.map bl [x1]) (dz.refl _) (dz.of_eq (bO aQ [x1]))) ?_
  obtain ⟨x55,h55,H⟩ := av H
  have k55 := bL h55
  refine bZ (rows2' := List.map am ([x1] : List LExpr)) (rows' := List.map am x55) tk rfl rfl rfl rfl rfl rfl rfl rfl rfl rfl rfl rfl rfl (dz.refl _) (cn k55.1) (cm k55.2.1) (ck k55.2.2) fun g55=>?_
  refine ah tk rfl (ab (bc (bC 2 tk rfl ?_)))
  exact bu (g1.1,g55) H hl1 hg1
 refine ae (eD 9 rfl rfl rfl (bs tk mok ⟨false,false,[]⟩ [0,3,4,5,6,7,8,9,10,11,1,2,12,13,14] rfl (by decide +kernel) rfl (bf 3 rfl ?_)))
 obtain ⟨x62,k62,H⟩ := bB H
 refine bF k62.1 (aR aK k62.2) ?_
 refine bf 3 rfl ?_
 obtain ⟨x66,k66,H⟩ := bB H
 refine bF k66.1 (aR aK k66.2) ?_
 refine bf 2 rfl ?_
 obtain ⟨x58,h58,H⟩ := av H
 have s58 := fe s1.1 _ h58
 refine be Tryz.call173 (eJ.r) s58 ?_
 refine bf 2 rfl ?_
 refine oZ rfl rfl rfl rfl rfl rfl rfl rfl fun b13=>?_
 refine bj ?_
 refine bn (ae (eD 10 rfl rfl rfl (bX 13 ?_)))
 refine bs tk mok ⟨false,false,[]⟩ [0,3,4,5,6,7,8,1,2,9,10,11] rfl (by decide +kernel) rfl (bf 3 rfl ?_)
 obtain ⟨x75,k75,H⟩ := bB H
 refine bF k75.1 (aR aK k75.2) ?_
 refine bf 3 rfl ?_
 obtain ⟨x71,h71,H⟩ := av H
 have s71 := fe s1.2 _ h71
 refine be Tryz.call173 (eJ.r) s71 ?_
 refine bf 2 rfl (bj ?_)
 refine bi rfl (bn ?_)
 obtain rfl := az H
 refine bd tk rfl (ps := [(.agg [(ac 4),(.str []),(.val (.slice none 0 0)),(.list 91 [(bl x71)]),(.val (.slice none 0 0)),(.val (.slice none 0 0)),(ac 0),(ac 0),(.list 33 [(ao x75),[(ac 4),(.str []),(.val (.slice none 0 0)),(.list 91 [(bl x58)]),(.val (.slice none 0 0)),(.val (.slice none 0 0)),(ac 0),(ac 0),(.list 33 [(ao x62),(ao x66)])]])]),(au true)]) ⟨_,_,rfl,⟨_,_,_,_,_,rfl,rfl,rfl,rfl⟩,_,_,rfl,rfl,rfl⟩ (PLe.of2 (lZ.tup (gp.cons (lZ.agg (gp.cons (lZ.of_eq rfl) (gp.cons (lZ.of_eq rfl) (gp.cons (lZ.nil tk rfl) (gp.cons (lZ.list (dz.trans (b := List.map bl [x71]) (dz.refl _) (dz.of_eq (bO aQ [x71])))) (gp.cons (lZ.nil tk rfl) (gp.cons (lZ.nil tk rfl) (gp.cons (lZ.of_eq rfl) (gp.cons (lZ.of_eq rfl) (gp.cons (lZ.list (dz.trans (b := List.map ao [x75,(LQuery.mk 4 [] [] [x58] [] [] 0 0 [x62,x66])]) (dz.cons (oz.refl _) (dz.cons (oz.cons (lZ.of_eq rfl) (oz.cons (lZ.of_eq rfl) (oz.cons (lZ.nil tk rfl) (oz.cons (lZ.list (dz.trans (b := List.map bl [x58]) (dz.refl _) (dz.of_eq (bO aQ [x58])))) (oz.cons (lZ.nil tk rfl) (oz.cons (lZ.nil tk rfl) (oz.cons (lZ.of_eq rfl) (oz.cons (lZ.of_eq rfl) (oz.cons (lZ.list (dz.trans (b := List.map ao [x62,x66]) (dz.refl _) (dz.of_eq (bO aK [x62,x66])))) oz.nil))))))))) dz.nil)) (dz.of_eq (bO aK [x75,(LQuery.mk 4 [] [] [x58] [] [] 0 0 [x62,x66])])))) gp.nil)))))))))) (gp.cons (lZ.of_eq rfl) gp.nil))))
def ef (m : LRewriteRewriter) (q : LQuery) (inA : LQuery) (rule : Int) : Option (LQuery × Bool) :=
 ag (aT q.exprs 0) fun (x14 : LExpr) =>
 bq (
  cond (rule == (1 : Int))
   ((inA.kind == (2 : Int)))
   (false)) fun (t1 : Bool) =>
 cond t1
  (ag (aT inA.exprs 0) fun (x26 : LExpr) =>
  ag (aT inA.inputs (0 : Int)) fun (x33 : LQuery) =>
  ag (cz ([x26,x14] : List LExpr)) fun x30 =>
  bq (aF x30 x33) fun x35 =>
  some (x35,true))
  (cond (rule == (2 : Int))
   (ag (fR x14) fun x40 =>
   cond (decide ((x40.length : Int) < (2 : Int)))
    (some ((LQuery.mk 0 [] [] [] [] [] 0 0 []),false))
    (ag (aT x40 (IntKind.i64.wrap ((x40.length : Int) - (1 : Int)))) fun (x49 : LExpr) =>
    ag (kI x40 0 (IntKind.i64.wrap ((x40.length : Int) - (1 : Int)))) fun (x55 : List LExpr) =>
    ag (cz x55) fun x56 =>
    bq (aF x56 inA) fun x58 =>
    bq (aF x49 x58) fun x59 =>
    some (x59,true)))
   (bq (
    cond (rule == (3 : Int))
     ((inA.kind == (3 : Int)))
     (false)) fun (t2 : Bool) =>
   cond t2
    (ag (aT inA.inputs (0 : Int)) fun (x78 : LQuery) =>
    ag (cD x14 inA.names inA.exprs) fun x75 =>
    bq (aF x75 x78) fun x80 =>
    ag (aT inA.inputs (0 : Int)) fun (_ : LQuery) =>
    bq (inA.inputs.set ((0 : Int).toNat) x80) fun (y3 : List LQuery) =>
    some ((LQuery.mk inA.kind inA.table inA.names inA.exprs inA.aggregates inA.descending inA.count inA.offset y3),true))
    (bq (
     cond (rule == (6 : Int))
      ((inA.kind == (6 : Int)))
      (false)) fun (t4 : Bool) =>
    bq (
     cond t4
      (t4)
      (cond (rule == (7 : Int))
       ((inA.kind == (7 : Int)))
       (false))) fun (t5 : Bool) =>
    cond t5
     (ag (er m x14 inA) fun x101 =>
     some (x101,true))
     (bq (
      cond (rule == (9 : Int))
       ((inA.kind == (9 : Int)))
       (false)) fun (t6 : Bool) =>
     cond t6
      (ag (aT inA.inputs (0 : Int)) fun (x115 : LQuery) =>
      bq (aF x14 x115) fun x117 =>
      ag (aT inA.inputs (0 : Int)) fun (_ : LQuery) =>
      bq (inA.inputs.set ((0 : Int).toNat) x117) fun (y7 : List LQuery) =>
      some ((LQuery.mk inA.kind inA.table inA.names inA.exprs inA.aggregates inA.descending inA.count inA.offset y7),true))
      (ag (
       cond (rule == (8 : Int))
        (cond (inA.kind == (8 : Int))
         (ag (dN x14 inA.names) fun x132 =>
         cond x132
          (some (decide ((inA.exprs.length : Int) > (0 : Int))))
          (some false))
         (some false))
        (some false)) fun (t8 : Bool) =>
      cond t8
       (ag (aT inA.inputs (0 : Int)) fun (x150 : LQuery) =>
       ag (cD x14 inA.names inA.exprs) fun x147 =>
       bq (aF x147 x150) fun x152 =>
       ag (aT inA.inputs (0 : Int)) fun (_ : LQuery) =>
       bq (inA.inputs.set ((0 : Int).toNat) x152) fun (y9 : List LQuery) =>
       some ((LQuery.mk inA.kind inA.table inA.names inA.exprs inA.aggregates inA.descending inA.count inA.offset y9),true))
       (bq (
        cond (rule == (4 : Int))
         ((inA.kind == (4 : Int)))
         (false)) fun (t10 : Bool) =>
       bq (
        cond t10
         (t10)
         (cond (rule == (5 : Int))
          ((inA.kind == (5 : Int)))
          (false))) fun (t11 : Bool) =>
       cond t11
        (ag (ep m x14 inA) fun x173 =>
        some (x173.1,x173.2))
        (some ((LQuery.mk 0 [] [] [] [] [] 0 0 []),false))))))))
theorem mO (g_inA : OwnRef) (m : LRewriteRewriter) (q : LQuery) (inA : LQuery) (rule : Int) (r : LQuery × Bool) (H : ef m q inA rule = some r) :
  PH Tryz.prog 113 [(.agg (eX m)),(.agg [(ac q.kind),(.str q.table),(.list 9 (q.names.map aE)),(.list 91 (q.exprs.map am)),(.list 88 (q.aggregates.map aO)),(.list 4 (q.descending.map aV)),(ac q.count),(ac q.offset),.any]),(.agg [(ac inA.kind),(.str inA.table),(.list 9 (inA.names.map aE)),(.list 91 (inA.exprs.map am)),(.list 88 (inA.aggregates.map aO)),(.list 4 (inA.descending.map aV)),(ac inA.count),(ac inA.offset),(.own 3002 g_inA (inA.inputs.map ap).length)]),(ac rule)] ⟨fun _=>none,upd (fun _=>none) 3002 (some ⟨g_inA,33,(List.map ap inA.inputs),true⟩)⟩ (fun u H=>u = (.tup [(.agg (ao r.1)),(au r.2)]) ∧ H = Heap.empty) := by
 unfold ef at H
 refine PH.ay Tryz.func113 Tryz.ntmps113 ?_
 refine ae (aa (aI ?_))
 refine ii (d := 5) fun b5=>?_
 refine ii (d := 6) fun b6=>?_
 refine aB tk fun b8=>?_
 refine ah tk rfl (ab (ae (aa (ah tk rfl (ak tk ?_)))))
 obtain ⟨x14,k14,H⟩ := bB H
 refine aY tk k14.1 (aR aQ k14.2) ?_
 refine ah tk rfl ?_
 refine aB tk fun b10=>?_
 refine al tk ?_
 refine ab (ae (aG (ae ?_)))
 refine cg (γ := Unit) (fun t1 g1=>⟨177,upd (upd (upd (upd (upd (upd (fun _=>.any) 16 (au t1)) 10 (.box 10 b10 0)) 8 (.box 8 b8 0)) 6 (.box 6 b6 0)) 4 (.ptr (aD m.s))) 3 (ac rule),upd (upd (upd (fun _=>none) 10 (some ⟨b10,(bl x14)⟩)) 8 (some ⟨b8,[(ac 0),(.str []),(.val (.slice none 0 0)),(.val (.slice none 0 0)),(.val (.slice none 0 0)),(.val (.slice none 0 0)),(ac 0),(ac 0),(.val (.slice none 0 0))]⟩)) 6 (some ⟨b6,[(ac inA.kind),(.str inA.table),(.list 9 (inA.names.map aE)),(.list 91 (inA.exprs.map am)),(.list 88 (inA.aggregates.map aO)),(.list 4 (inA.descending.map aV)),(ac inA.count),(ac inA.offset),(.own 3002 g_inA (inA.inputs.map ap).length)]⟩),upd (fun _=>none) 3002 (some ⟨g_inA,33,(inA.inputs.map ap),true⟩)⟩) H (fun _ H=>?_) (fun t1 g1 H=>?_)
 ·refine aa (af 3 tk rfl ?_)
  refine aN rfl rfl rfl H (fun H=>?_) (fun H=>?_)
  ·refine ah tk rfl (ak tk ?_)
   refine af 3 tk rfl (ab ?_)
   refine aJ _ () H Gh.d
  refine af 5 tk rfl (ab ?_)
  refine aJ _ () H Gh.d
 refine aP rfl H (fun H=>?_) (fun H=>?_)
 ·refine ae ?_
  refine fX (tag := 3002) rfl (fun ho3002=>?_)
  refine bX 10 ?_
  refine bs tk mok ⟨true,true,[27,28,999999]⟩ [0,1,2,3,4,5,7,8,9,10,6,11,12,13] rfl (by decide +kernel) rfl (bi rfl (aU ?_))
  obtain ⟨x26,k26,H⟩ := bB H
  refine bF k26.1 (aR aQ k26.2) ?_
  refine bf 4 rfl (aU ?_)
  obtain ⟨x33,k33,H⟩ := bB H
  refine dX tk ⟨k33.1,(dG k33.2)⟩ (dH ho3002 k33.2) ?_
  refine ip tk (aR aK k33.2) ?_
  obtain ⟨x30,h30,H⟩ := av H
  have s30 := fe ([x26,x14] : List LExpr) _ h30
  refine be Tryz.call173 (eJ.of2 (gp.cons (lZ.list (dz.trans (b := List.map bl [x26,x14]) (dz.refl _) (dz.of_eq (bO aQ [x26,x14])))) gp.nil)) s30 ?_
  obtain ⟨x35,h35,H⟩ := cY H
  have s35 := dc x30 x33
  rw [h35] at s35
  refine be Tryz.call172 (eJ.r) s35 ?_
  refine bj ?_
  refine bi rfl (bn ?_)
  obtain rfl := az H
  refine bd tk rfl (ps := [(.agg (ao x35)),(au true)]) ⟨_,_,rfl,⟨_,_,_,_,_,rfl,rfl,rfl,rfl⟩,_,_,rfl,rfl,rfl⟩ (PLe.q rfl)
 refine aw 3 tk rfl ?_
 refine aP rfl H (fun H=>?_) (fun H=>?_)
 ·refine ae (aa (ak tk ?_))
  obtain ⟨x40,h40,H⟩ := av H
  have s40 := iN (m := 40) x14 _ h40
  refine aq Tryz.call174 (eJ.r) (PFun.fh s40) ?_
  refine ah tk rfl (ab (ae (ae (aa (ah tk rfl (aC tk (zl _) ?_))))))
  refine ah tk rfl (ab ?_)
  refine aP rfl H (fun H=>?_) (fun H=>?_)
  ·refine ae (aa (ah tk rfl (al tk ?_)))
   refine ah tk rfl (ab ?_)
   obtain rfl := az H
   refine bd tk rfl (ps := [(.agg [(ac 0),(.str []),(.val (.slice none 0 0)),(.val (.slice none 0 0)),(.val (.slice none 0 0)),(.val (.slice none 0 0)),(ac 0),(ac 0),(.val (.slice none 0 0))]),(au false)]) ⟨_,_,rfl,⟨_,_,_,_,_,rfl,rfl,rfl,rfl⟩,_,_,rfl,rfl,rfl⟩ (PLe.of2 (lZ.tup (gp.cons (lZ.agg (gp.cons (lZ.of_eq rfl) (gp.cons (lZ.of_eq rfl) (gp.cons (lZ.nil tk rfl) (gp.cons (lZ.nil tk rfl) (gp.cons (lZ.nil tk rfl) (gp.cons (lZ.nil tk rfl) (gp.cons (lZ.of_eq rfl) (gp.cons (lZ.of_eq rfl) (gp.cons (lZ.nil tk rfl) gp.nil)))))))))) (gp.cons (lZ.of_eq rfl) gp.nil))))
  refine ax (ae (bD 6 8 rfl rfl rfl rfl rfl (bs tk mok ⟨true,false,[50]⟩ [0,1,2,3,4,5,6,7,8,9,10,12,11,13,14,15,16] rfl (by decide +kernel) rfl (bf 2 rfl (rx rfl rfl rfl rfl rfl rfl (zl _) rfl (bi rfl ?_))))))
  obtain ⟨x49,k49,H⟩ := bB H
  refine bF k49.1 (aR aQ k49.2) ?_
  refine bf 3 rfl (rx rfl rfl rfl rfl rfl rfl (zl _) rfl (bi rfl ?_))
  obtain ⟨x55,h55,H⟩ := av H
  have k55 := lI h55
  refine rM rfl rfl rfl rfl rfl rfl (zl _) rfl rfl k55.1 (mK k55.2) rfl (aU ?_)
  obtain ⟨x56,h56,H⟩ := av H
  have s56 := fe x55 _ h56
  refine be Tryz.call173 (eJ.r) s56 ?_
  obtain ⟨x58,h58,H⟩ := cY H
  have s58 := dc x56 inA
  rw [h58] at s58
  refine be Tryz.call172 (eJ.r) s58 ?_
  obtain ⟨x59,h59,H⟩ := cY H
  have s59 := dc x49 x58
  rw [h59] at s59
  refine be Tryz.call172 (eJ.r) s59 ?_
  refine bj ?_
  refine bi rfl (bn ?_)
  obtain rfl := az H
  refine bd tk rfl (ps := [(.agg (ao x59)),(au true)]) ⟨_,_,rfl,⟨_,_,_,_,_,rfl,rfl,rfl,rfl⟩,_,_,rfl,rfl,rfl⟩ (PLe.q rfl)
 refine ae ?_
 refine cg (γ := Unit) (fun t2 g2=>⟨177,upd (upd (upd (upd (upd (upd (fun _=>.any) 60 (au t2)) 10 (.box 10 b10 0)) 8 (.box 8 b8 0)) 6 (.box 6 b6 0)) 4 (.ptr (aD m.s))) 3 (ac rule),upd (upd (upd (fun _=>none) 10 (some ⟨b10,(bl x14)⟩)) 8 (some ⟨b8,[(ac 0),(.str []),(.val (.slice none 0 0)),(.val (.slice none 0 0)),(.val (.slice none 0 0)),(.val (.slice none 0 0)),(ac 0),(ac 0),(.val (.slice none 0 0))]⟩)) 6 (some ⟨b6,[(ac inA.kind),(.str inA.table),(.list 9 (inA.names.map aE)),(.list 91 (inA.exprs.map am)),(.list 88 (inA.aggregates.map aO)),(.list 4 (inA.descending.map aV)),(ac inA.count),(ac inA.offset),(.own 3002 g_inA (inA.inputs.map ap).length)]⟩),upd (fun _=>none) 3002 (some ⟨g_inA,33,(inA.inputs.map ap),true⟩)⟩) H (fun _ H=>?_) (fun t2 g2 H=>?_)
 ·refine aa (af 3 tk rfl ?_)
  refine aN rfl rfl rfl H (fun H=>?_) (fun H=>?_)
  ·refine ah tk rfl (ak tk ?_)
   refine af 3 tk rfl (ab ?_)
   refine aJ _ () H Gh.d
  refine af 5 tk rfl (ab ?_)
  refine aJ _ () H Gh.d
 refine aP rfl H (fun H=>?_) (fun H=>?_)
 ·refine ae ?_
  refine fX (tag := 3002) rfl (fun ho3002=>?_)
  refine bX 10 ?_
  refine bs tk mok ⟨true,true,[70,999999]⟩ [0,1,2,3,4,5,6,8,9,10,11,7,12,13,14] rfl (by decide +kernel) rfl (bi rfl (aU ?_))
  refine bf 2 rfl (aU ?_)
  refine bi rfl (aU ?_)
  refine bi rfl (aU ?_)
  obtain ⟨x78,k78,H⟩ := bB H
  refine dX tk ⟨k78.1,(dG k78.2)⟩ (dH ho3002 k78.2) ?_
  refine ip tk (aR aK k78.2) ?_
  obtain ⟨x75,h75,H⟩ := av H
  have s75 := iB x14 inA.names inA.exprs _ h75
  refine be Tryz.call119 (eJ.r) s75 ?_
  obtain ⟨x80,h80,H⟩ := cY H
  have s80 := dc x75 x78
  rw [h80] at s80
  refine be Tryz.call172 (eJ.r) s80 ?_
  obtain ⟨x81,k81,H⟩ := bB H
  refine dX tk ⟨k81.1,(dG k81.2)⟩ (dH ho3002 k81.2) ?_
  obtain ⟨y3,hy3,H⟩ := cY H
  refine gM tk rfl rfl rfl rfl rfl rfl rfl rfl rfl (by rw [zl]; exact (zg.1 k81.2).1) (PLe.refl _ _) rfl rfl rfl rfl (by decide) (eR aK k81.2 rfl hy3) ?_
  refine bn (ae (aa (ak tk ?_)))
  refine al tk ?_
  refine ah tk rfl (ab ?_)
  obtain rfl := az H
  refine bD 8 8 rfl rfl rfl (fU (f := ap) hy3) rfl ?_
  refine bd tk rfl (ps := [(.agg [(ac inA.kind),(.str inA.table),(.list 9 (inA.names.map aE)),(.list 91 (inA.exprs.map am)),(.list 88 (inA.aggregates.map aO)),(.list 4 (inA.descending.map aV)),(ac inA.count),(ac inA.offset),(.list 33 (y3.map ap))]),(au true)]) ⟨_,_,rfl,⟨_,_,_,_,_,rfl,rfl,rfl,rfl⟩,_,_,rfl,rfl,rfl⟩ (PLe.q rfl)
 refine ae (ae ?_)
 refine cg (γ := Unit) (fun t4 g4=>⟨177,upd (upd (upd (upd (upd (upd (fun _=>.any) 83 (au t4)) 10 (.box 10 b10 0)) 8 (.box 8 b8 0)) 6 (.box 6 b6 0)) 4 (.ptr (aD m.s))) 3 (ac rule),upd (upd (upd (fun _=>none) 10 (some ⟨b10,(bl x14)⟩)) 8 (some ⟨b8,[(ac 0),(.str []),(.val (.slice none 0 0)),(.val (.slice none 0 0)),(.val (.slice none 0 0)),(.val (.slice none 0 0)),(ac 0),(ac 0),(.val (.slice none 0 0))]⟩)) 6 (some ⟨b6,[(ac inA.kind),(.str inA.table),(.list 9 (inA.names.map aE)),(.list 91 (inA.exprs.map am)),(.list 88 (inA.aggregates.map aO)),(.list 4 (inA.descending.map aV)),(ac inA.count),(ac inA.offset),(.own 3002 g_inA (inA.inputs.map ap).length)]⟩),upd (fun _=>none) 3002 (some ⟨g_inA,33,(inA.inputs.map ap),true⟩)⟩) H (fun _ H=>?_) (fun t4 g4 H=>?_)
 ·refine aa (af 3 tk rfl ?_)
  refine aN rfl rfl rfl H (fun H=>?_) (fun H=>?_)
  ·refine ah tk rfl (ak tk ?_)
   refine af 3 tk rfl (ab ?_)
   refine aJ _ () H Gh.d
  refine af 5 tk rfl (ab ?_)
  refine aJ _ () H Gh.d
 refine cg (γ := Unit) (fun t5 g5=>⟨177,upd (upd (upd (upd (upd (upd (fun _=>.any) 83 (au t5)) 10 (.box 10 b10 0)) 8 (.box 8 b8 0)) 6 (.box 6 b6 0)) 4 (.ptr (aD m.s))) 3 (ac rule),upd (upd (upd (fun _=>none) 10 (some ⟨b10,(bl x14)⟩)) 8 (some ⟨b8,[(ac 0),(.str []),(.val (.slice none 0 0)),(.val (.slice none 0 0)),(.val (.slice none 0 0)),(.val (.slice none 0 0)),(ac 0),(ac 0),(.val (.slice none 0 0))]⟩)) 6 (some ⟨b6,[(ac inA.kind),(.str inA.table),(.list 9 (inA.names.map aE)),(.list 91 (inA.exprs.map am)),(.list 88 (inA.aggregates.map aO)),(.list 4 (inA.descending.map aV)),(ac inA.count),(ac inA.offset),(.own 3002 g_inA (inA.inputs.map ap).length)]⟩),upd (fun _=>none) 3002 (some ⟨g_inA,33,(inA.inputs.map ap),true⟩)⟩) H (fun _ H=>?_) (fun t5 g5 H=>?_)
 ·refine aP rfl H (fun H=>?_) (fun H=>?_)
  ·refine ax ?_
   refine aJ _ () H Gh.d
  refine aa (af 3 tk rfl ?_)
  refine aN rfl rfl rfl H (fun H=>?_) (fun H=>?_)
  ·refine ah tk rfl (ak tk ?_)
   refine af 3 tk rfl (ab ?_)
   refine aJ _ () H Gh.d
  refine af 5 tk rfl (ab ?_)
  refine aJ _ () H Gh.d
 refine aP rfl H (fun H=>?_) (fun H=>?_)
 ·refine ae (bD 6 8 rfl rfl rfl rfl rfl (aa (ah tk rfl (ak tk ?_))))
  refine ak tk ?_
  obtain ⟨x101,h101,H⟩ := av H
  have s101 := np m x14 inA _ h101
  refine aq Tryz.call175 (eJ.r) s101 ?_
  refine al tk ?_
  refine ah tk rfl (ab ?_)
  obtain rfl := az H
  refine bd tk rfl (ps := [(.agg (ao x101)),(au true)]) ⟨_,_,rfl,⟨_,_,_,_,_,rfl,rfl,rfl,rfl⟩,_,_,rfl,rfl,rfl⟩ (PLe.q rfl)
 refine ae ?_
 refine cg (γ := Unit) (fun t6 g6=>⟨177,upd (upd (upd (upd (upd (upd (fun _=>.any) 102 (au t6)) 10 (.box 10 b10 0)) 8 (.box 8 b8 0)) 6 (.box 6 b6 0)) 4 (.ptr (aD m.s))) 3 (ac rule),upd (upd (upd (fun _=>none) 10 (some ⟨b10,(bl x14)⟩)) 8 (some ⟨b8,[(ac 0),(.str []),(.val (.slice none 0 0)),(.val (.slice none 0 0)),(.val (.slice none 0 0)),(.val (.slice none 0 0)),(ac 0),(ac 0),(.val (.slice none 0 0))]⟩)) 6 (some ⟨b6,[(ac inA.kind),(.str inA.table),(.list 9 (inA.names.map aE)),(.list 91 (inA.exprs.map am)),(.list 88 (inA.aggregates.map aO)),(.list 4 (inA.descending.map aV)),(ac inA.count),(ac inA.offset),(.own 3002 g_inA (inA.inputs.map ap).length)]⟩),upd (fun _=>none) 3002 (some ⟨g_inA,33,(inA.inputs.map ap),true⟩)⟩) H (fun _ H=>?_) (fun t6 g6 H=>?_)
 ·refine aa (af 3 tk rfl ?_)
  refine aN rfl rfl rfl H (fun H=>?_) (fun H=>?_)
  ·refine ah tk rfl (ak tk ?_)
   refine af 3 tk rfl (ab ?_)
   refine aJ _ () H Gh.d
  refine af 5 tk rfl (ab ?_)
  refine aJ _ () H Gh.d
 refine aP rfl H (fun H=>?_) (fun H=>?_)
 ·refine ae ?_
  refine fX (tag := 3002) rfl (fun ho3002=>?_)
  refine bX 10 ?_
  refine bs tk mok ⟨true,true,[112,999999]⟩ [0,1,2,3,4,5,6,7,8,9] rfl (by decide +kernel) rfl (bi rfl (aU ?_))
  refine bf 2 rfl (aU ?_)
  obtain ⟨x115,k115,H⟩ := bB H
  refine dX tk ⟨k115.1,(dG k115.2)⟩ (dH ho3002 k115.2) ?_
  refine ip tk (aR aK k115.2) ?_
  obtain ⟨x117,h117,H⟩ := cY H
  have s117 := dc x14 x115
  rw [h117] at s117
  refine be Tryz.call172 (eJ.r) s117 ?_
  obtain ⟨x118,k118,H⟩ := bB H
  refine dX tk ⟨k118.1,(dG k118.2)⟩ (dH ho3002 k118.2) ?_
  obtain ⟨y7,hy7,H⟩ := cY H
  refine gM tk rfl rfl rfl rfl rfl rfl rfl rfl rfl (by rw [zl]; exact (zg.1 k118.2).1) (PLe.refl _ _) rfl rfl rfl rfl (by decide) (eR aK k118.2 rfl hy7) ?_
  refine bn (ae (aa (ak tk ?_)))
  refine al tk ?_
  refine ah tk rfl (ab ?_)
  obtain rfl := az H
  refine bD 8 8 rfl rfl rfl (fU (f := ap) hy7) rfl ?_
  refine bd tk rfl (ps := [(.agg [(ac inA.kind),(.str inA.table),(.list 9 (inA.names.map aE)),(.list 91 (inA.exprs.map am)),(.list 88 (inA.aggregates.map aO)),(.list 4 (inA.descending.map aV)),(ac inA.count),(ac inA.offset),(.list 33 (y7.map ap))]),(au true)]) ⟨_,_,rfl,⟨_,_,_,_,_,rfl,rfl,rfl,rfl⟩,_,_,rfl,rfl,rfl⟩ (PLe.q rfl)
 refine ae ?_
 refine bY (γ := Unit) (fun t8 g8=>⟨177,upd (upd (upd (upd (upd (upd (fun _=>.any) 120 (au t8)) 10 (.box 10 b10 0)) 8 (.box 8 b8 0)) 6 (.box 6 b6 0)) 4 (.ptr (aD m.s))) 3 (ac rule),upd (upd (upd (fun _=>none) 10 (some ⟨b10,(bl x14)⟩)) 8 (some ⟨b8,[(ac 0),(.str []),(.val (.slice none 0 0)),(.val (.slice none 0 0)),(.val (.slice none 0 0)),(.val (.slice none 0 0)),(ac 0),(ac 0),(.val (.slice none 0 0))]⟩)) 6 (some ⟨b6,[(ac inA.kind),(.str inA.table),(.list 9 (inA.names.map aE)),(.list 91 (inA.exprs.map am)),(.list 88 (inA.aggregates.map aO)),(.list 4 (inA.descending.map aV)),(ac inA.count),(ac inA.offset),(.own 3002 g_inA (inA.inputs.map ap).length)]⟩),upd (fun _=>none) 3002 (some ⟨g_inA,33,(inA.inputs.map ap),true⟩)⟩) H (fun _ H=>?_) (fun t8 g8 H=>?_)
 ·refine aa (af 3 tk rfl ?_)
  refine aN rfl rfl rfl H (fun H=>?_) (fun H=>?_)
  ·refine ah tk rfl (ak tk ?_)
   refine af 3 tk rfl ?_
   refine aN rfl rfl rfl H (fun H=>?_) (fun H=>?_)
   ·refine ak tk ?_
    refine ah tk rfl (ak tk ?_)
    obtain ⟨x132,h132,H⟩ := av H
    have s132 := iM x14 inA.names _ h132
    refine aq Tryz.call176 (eJ.r) s132 ?_
    refine af 2 tk rfl ?_
    refine aN rfl rfl rfl H (fun H=>?_) (fun H=>?_)
    ·refine ah tk rfl (ak tk ?_)
     refine aC tk (zl _) ?_
     refine af 3 tk rfl (ab ?_)
     refine aJ _ () (az H) Gh.d
    refine af 6 tk rfl (ab ?_)
    refine aJ _ () (az H) Gh.d
   refine af 12 tk rfl (ab ?_)
   refine aJ _ () (az H) Gh.d
  refine af 17 tk rfl (ab ?_)
  refine aJ _ () (az H) Gh.d
 refine aP rfl H (fun H=>?_) (fun H=>?_)
 ·refine ae ?_
  refine fX (tag := 3002) rfl (fun ho3002=>?_)
  refine bX 10 ?_
  refine bs tk mok ⟨true,true,[142,999999]⟩ [0,1,2,3,4,5,6,8,9,10,11,7,12,13,14] rfl (by decide +kernel) rfl (bi rfl (aU ?_))
  refine bf 2 rfl (aU ?_)
  refine bi rfl (aU ?_)
  refine bi rfl (aU ?_)
  obtain ⟨x150,k150,H⟩ := bB H
  refine dX tk ⟨k150.1,(dG k150.2)⟩ (dH ho3002 k150.2) ?_
  refine ip tk (aR aK k150.2) ?_
  obtain ⟨x147,h147,H⟩ := av H
  have s147 := iB x14 inA.names inA.exprs _ h147
  refine be Tryz.call119 (eJ.r) s147 ?_
  obtain ⟨x152,h152,H⟩ := cY H
  have s152 := dc x147 x150
  rw [h152] at s152
  refine be Tryz.call172 (eJ.r) s152 ?_
  obtain ⟨x153,k153,H⟩ := bB H
  refine dX tk ⟨k153.1,(dG k153.2)⟩ (dH ho3002 k153.2) ?_
  obtain ⟨y9,hy9,H⟩ := cY H
  refine gM tk rfl rfl rfl rfl rfl rfl rfl rfl rfl (by rw [zl]; exact (zg.1 k153.2).1) (PLe.refl _ _) rfl rfl rfl rfl (by decide) (eR aK k153.2 rfl hy9) ?_
  refine bn (ae (aa (ak tk ?_)))
  refine al tk ?_
  refine ah tk rfl (ab ?_)
  obtain rfl := az H
  refine bD 8 8 rfl rfl rfl (fU (f := ap) hy9) rfl ?_
  refine bd tk rfl (ps := [(.agg [(ac inA.kind),(.str inA.table),(.list 9 (inA.names.map aE)),(.list 91 (inA.exprs.map am)),(.list 88 (inA.aggregates.map aO)),(.list 4 (inA.descending.map aV)),(ac inA.count),(ac inA.offset),(.list 33 (y9.map ap))]),(au true)]) ⟨_,_,rfl,⟨_,_,_,_,_,rfl,rfl,rfl,rfl⟩,_,_,rfl,rfl,rfl⟩ (PLe.q rfl)
 refine ae (ae ?_)
 refine cg (γ := Unit) (fun t10 g10=>⟨177,upd (upd (upd (upd (upd (upd (fun _=>.any) 155 (au t10)) 10 (.box 10 b10 0)) 8 (.box 8 b8 0)) 6 (.box 6 b6 0)) 4 (.ptr (aD m.s))) 3 (ac rule),upd (upd (upd (fun _=>none) 10 (some ⟨b10,(bl x14)⟩)) 8 (some ⟨b8,[(ac 0),(.str []),(.val (.slice none 0 0)),(.val (.slice none 0 0)),(.val (.slice none 0 0)),(.val (.slice none 0 0)),(ac 0),(ac 0),(.val (.slice none 0 0))]⟩)) 6 (some ⟨b6,[(ac inA.kind),(.str inA.table),(.list 9 (inA.names.map aE)),(.list 91 (inA.exprs.map am)),(.list 88 (inA.aggregates.map aO)),(.list 4 (inA.descending.map aV)),(ac inA.count),(ac inA.offset),(.own 3002 g_inA (inA.inputs.map ap).length)]⟩),upd (fun _=>none) 3002 (some ⟨g_inA,33,(inA.inputs.map ap),true⟩)⟩) H (fun _ H=>?_) (fun t10 g10 H=>?_)
 ·refine aa (af 3 tk rfl ?_)
  refine aN rfl rfl rfl H (fun H=>?_) (fun H=>?_)
  ·refine ah tk rfl (ak tk ?_)
   refine af 3 tk rfl (ab ?_)
   refine aJ _ () H Gh.d
  refine af 5 tk rfl (ab ?_)
  refine aJ _ () H Gh.d
 refine cg (γ := Unit) (fun t11 g11=>⟨177,upd (upd (upd (upd (upd (fun _=>.any) 155 (au t11)) 10 (.box 10 b10 0)) 8 (.box 8 b8 0)) 6 (.box 6 b6 0)) 4 (.ptr (aD m.s)),upd (upd (upd (fun _=>none) 10 (some ⟨b10,(bl x14)⟩)) 8 (some ⟨b8,[(ac 0),(.str []),(.val (.slice none 0 0)),(.val (.slice none 0 0)),(.val (.slice none 0 0)),(.val (.slice none 0 0)),(ac 0),(ac 0),(.val (.slice none 0 0))]⟩)) 6 (some ⟨b6,[(ac inA.kind),(.str inA.table),(.list 9 (inA.names.map aE)),(.list 91 (inA.exprs.map am)),(.list 88 (inA.aggregates.map aO)),(.list 4 (inA.descending.map aV)),(ac inA.count),(ac inA.offset),(.own 3002 g_inA (inA.inputs.map ap).length)]⟩),upd (fun _=>none) 3002 (some ⟨g_inA,33,(inA.inputs.map ap),true⟩)⟩) H (fun _ H=>?_) (fun t11 g11 H=>?_)
 ·refine aP rfl H (fun H=>?_) (fun H=>?_)
  ·refine ax ?_
   refine aJ _ () H Gh.d
  refine aa (af 3 tk rfl ?_)
  refine aN rfl rfl rfl H (fun H=>?_) (fun H=>?_)
  ·refine ah tk rfl (ak tk ?_)
   refine af 3 tk rfl (ab ?_)
   refine aJ _ () H Gh.d
  refine af 5 tk rfl (ab ?_)
  refine aJ _ () H Gh.d
 refine aP rfl H (fun H=>?_) (fun H=>?_)
 ·refine ae (aa (ah tk rfl (ak tk ?_)))
  refine ak tk ?_
  obtain ⟨x173,h173,H⟩ := av H
  have s173 := nn g_inA m x14 inA _ h173
  refine gQ (g := 177) rfl rfl rfl Tryz.call177 [] [(3002,3002)] rfl rfl rfl rfl (eJ.cons (PLe.refl _ _) <| eJ.cons (PLe.refl _ _) <| eJ.cons (PLe.agg (eJ.cons (PLe.refl _ _) <| eJ.cons (PLe.refl _ _) <| eJ.cons (PLe.refl _ _) <| eJ.cons (PLe.refl _ _) <| eJ.cons (PLe.refl _ _) <| eJ.cons (PLe.refl _ _) <| eJ.cons (PLe.refl _ _) <| eJ.cons (PLe.refl _ _) <| eJ.cons (PLe.of2 (lZ.own rfl)) <| eJ.nil _)) <| eJ.nil _) (by rw [gg,fy,gd]; rfl) s173 ?_
  rintro u173 H173h ⟨rfl,rfl⟩
  refine ⟨_,rfl,?_⟩
  refine gv (st' := ⟨_,_,upd (upd (upd (fun _=>none) 10 (some ⟨b10,(bl x14)⟩)) 8 (some ⟨b8,[(ac 0),(.str []),(.val (.slice none 0 0)),(.val (.slice none 0 0)),(.val (.slice none 0 0)),(.val (.slice none 0 0)),(ac 0),(ac 0),(.val (.slice none 0 0))]⟩)) 6 (some ⟨b6,[(ac inA.kind),(.str inA.table),(.list 9 (inA.names.map aE)),(.list 91 (inA.exprs.map am)),(.list 88 (inA.aggregates.map aO)),(.list 4 (inA.descending.map aV)),(ac inA.count),(ac inA.offset),(.own 3002 g_inA (inA.inputs.map ap).length)]⟩),fun _=>none⟩) (Gh.le (fq _ _) (aM rfl (eJ.r) (aM rfl (eJ.r) (aM rfl (eJ.r) bA))) bw) ?_
  refine af 2 tk rfl (al tk ?_)
  refine ah tk rfl (ab ?_)
  obtain rfl := az H
  refine bd tk rfl (ps := [(.agg (ao x173.1)),(au x173.2)]) ⟨_,_,rfl,⟨_,_,_,_,_,rfl,rfl,rfl,rfl⟩,_,_,rfl,rfl,rfl⟩ (PLe.q rfl)
 refine ax (bc (ae (aa (ah tk rfl (al tk ?_)))))
 refine ah tk rfl (ab ?_)
 obtain rfl := az H
 refine bd tk rfl (ps := [(.agg [(ac 0),(.str []),(.val (.slice none 0 0)),(.val (.slice none 0 0)),(.val (.slice none 0 0)),(.val (.slice none 0 0)),(ac 0),(ac 0),(.val (.slice none 0 0))]),(au false)]) ⟨_,_,rfl,⟨_,_,_,_,_,rfl,rfl,rfl,rfl⟩,_,_,rfl,rfl,rfl⟩ (PLe.of2 (lZ.tup (gp.cons (lZ.agg (gp.cons (lZ.of_eq rfl) (gp.cons (lZ.of_eq rfl) (gp.cons (lZ.nil tk rfl) (gp.cons (lZ.nil tk rfl) (gp.cons (lZ.nil tk rfl) (gp.cons (lZ.nil tk rfl) (gp.cons (lZ.of_eq rfl) (gp.cons (lZ.of_eq rfl) (gp.cons (lZ.nil tk rfl) gp.nil)))))))))) (gp.cons (lZ.of_eq rfl) gp.nil))))
def gG (sA : LSchema) (q : LQuery) (rule : Int) : Option (LQuery × Bool) :=
 ag (cb sA q) fun x21 =>
 bq (
  cond (x21.2 != (0 : Int))
   (true)
   ((q.kind == (1 : Int)))) fun (t1 : Bool) =>
 cond t1
  (some ((LQuery.mk 0 [] [] [] [] [] 0 0 []),false))
  (ag (oneI q.inputs) fun (y35 : LQuery) =>
  ag (ir q y35) fun x35 =>
  bq (
   cond (decide (rule ≥ (1 : Int)))
    (cond (decide (rule ≤ (9 : Int)))
     ((x35.1.kind == (2 : Int)))
     (false))
    (false)) fun (t2 : Bool) =>
  ag (
   cond t2
    (ag (ef (LRewriteRewriter.mk sA) (LQuery.mk x35.1.kind x35.1.table x35.1.names x35.1.exprs x35.1.aggregates x35.1.descending x35.1.count x35.1.offset [x35.2]) x35.2 rule) fun x57 =>
    some (x57.2,x57.1))
    (ag (
     cond (rule == (10 : Int))
      (none)
      (some ())) fun (_ : Unit) =>
    ag (
     cond (rule == (11 : Int))
      (none)
      (some ())) fun (_ : Unit) =>
    ag (
     cond (rule == (12 : Int))
      (none)
      (some ())) fun (_ : Unit) =>
    ag (
     cond (rule == (13 : Int))
      (none)
      (some ())) fun (_ : Unit) =>
    ag (
     cond (rule == (14 : Int))
      (none)
      (some ())) fun (_ : Unit) =>
    ag (
     cond (rule == (15 : Int))
      (none)
      (some ())) fun (_ : Unit) =>
    ag (
     cond (rule == (16 : Int))
      (none)
      (some ())) fun (_ : Unit) =>
    some (false,(LQuery.mk 0 [] [] [] [] [] 0 0 [])))) fun (t10 : Bool × LQuery) =>
  cond (!t10.1)
   (some ((LQuery.mk 0 [] [] [] [] [] 0 0 []),false))
   (ag (cb sA t10.2) fun x196 =>
   cond (x196.2 != (0 : Int))
    (some ((LQuery.mk 0 [] [] [] [] [] 0 0 []),false))
    (some (t10.2,true))))
theorem qx (sA : LSchema) (q : LQuery) (rule : Int) (r : LQuery × Bool) (H : gG sA q rule = some r) :
  aS Tryz.prog 71 [(.agg (aD sA)),(.agg (ao q)),(ac rule)] (.tup [(.agg (ao r.1)),(au r.2)]) := by
 unfold gG at H
 refine PH.ay Tryz.func71 Tryz.ntmps71 ?_
 refine ae (aa (aI ?_))
 refine ii (d := 4) fun b4=>?_
 refine aB tk fun b6=>?_
 refine ah tk rfl (ab (ae (ae (aa (ah tk rfl (ak tk ?_))))))
 obtain ⟨x21,h21,H⟩ := av H
 have s21 := dP sA q _ h21
 refine aq Tryz.call25 (eJ.r) s21 ?_
 refine af 5 tk rfl (ab (ae ?_))
 refine cg (γ := Unit) (fun t1 g1=>⟨203,upd (upd (upd (upd (upd (fun _=>.any) 30 (au t1)) 6 (.box 6 b6 0)) 4 (.box 4 b4 0)) 3 (.ptr (aD sA))) 2 (ac rule),upd (upd (fun _=>none) 6 (some ⟨b6,[(ac 0),(.str []),(.val (.slice none 0 0)),(.val (.slice none 0 0)),(.val (.slice none 0 0)),(.val (.slice none 0 0)),(ac 0),(ac 0),(.val (.slice none 0 0))]⟩)) 4 (some ⟨b4,(ao q)⟩),fun _=>none⟩) H (fun _ H=>?_) (fun t1 g1 H=>?_)
 ·refine aa (af 3 tk rfl ?_)
  refine aN rfl rfl rfl H (fun H=>?_) (fun H=>?_)
  ·refine af 4 tk rfl (ab ?_)
   refine aJ _ () H Gh.d
  refine ah tk rfl (ak tk ?_)
  refine af 2 tk rfl (ab ?_)
  refine aJ _ () H Gh.d
 refine aP rfl H (fun H=>?_) (fun H=>?_)
 ·refine ae (aa (ah tk rfl (al tk ?_)))
  refine ah tk rfl (ab ?_)
  obtain rfl := az H
  refine bd tk rfl (ps := [(.agg [(ac 0),(.str []),(.val (.slice none 0 0)),(.val (.slice none 0 0)),(.val (.slice none 0 0)),(.val (.slice none 0 0)),(ac 0),(ac 0),(.val (.slice none 0 0))]),(au false)]) ⟨_,_,rfl,⟨_,_,_,_,_,rfl,rfl,rfl,rfl⟩,_,_,rfl,rfl,rfl⟩ (PLe.of2 (lZ.tup (gp.cons (lZ.agg (gp.cons (lZ.of_eq rfl) (gp.cons (lZ.of_eq rfl) (gp.cons (lZ.nil tk rfl) (gp.cons (lZ.nil tk rfl) (gp.cons (lZ.nil tk rfl) (gp.cons (lZ.nil tk rfl) (gp.cons (lZ.of_eq rfl) (gp.cons (lZ.of_eq rfl) (gp.cons (lZ.nil tk rfl) gp.nil)))))))))) (gp.cons (lZ.of_eq rfl) gp.nil))))
 refine ax (ae (aa (af 2 tk rfl ?_)))
 refine aB tk fun b10=>?_
 refine al tk ?_
 refine ab (ae (aa (ak tk ?_)))
 obtain ⟨y35,hy35,H⟩ := av H
 have ky35 := oneI_some hy35
 obtain ⟨x35,h35,H⟩ := av H
 have s35 := rg (m := 35) q y35 _ h35
 rw [← ky35] at s35
 refine nI (g := 27) rfl rfl rfl Tryz.call27 (eJ.r) rfl rfl s35 (fun g35=>?_)
 refine al tk ?_
 refine ab (ae (aa (ah tk rfl (ak tk ?_))))
 refine nZ tk rfl rfl rfl rfl rfl rfl (by decide) rfl rfl (ah tk rfl ?_)
 refine ou 39 (q := (.agg [(ac x35.2.kind),(.str x35.2.table),(.list 9 (x35.2.names.map aE)),(.list 91 (x35.2.exprs.map am)),(.list 88 (x35.2.aggregates.map aO)),(.list 4 (x35.2.descending.map aV)),(ac x35.2.count),(ac x35.2.offset),(.own 35 g35 (x35.2.inputs.map ap).length)])) rfl (PLe.agg (eJ.cons (PLe.refl _ _) <| eJ.cons (PLe.refl _ _) <| eJ.cons (PLe.refl _ _) <| eJ.cons (PLe.refl _ _) <| eJ.cons (PLe.refl _ _) <| eJ.cons (PLe.refl _ _) <| eJ.cons (PLe.refl _ _) <| eJ.cons (PLe.refl _ _) <| eJ.cons (PLe.valOwn _ _ _ _) <| eJ.nil _)) ?_
 refine aB tk fun b11=>?_
 refine al tk ?_
 refine ab (ae (aa ?_))
 refine aB tk fun b12=>?_
 refine ab (aw 1 tk rfl (ae (aG (ae ?_))))
 refine cg (γ := Unit) (fun t2 g2=>⟨203,upd (upd (upd (upd (upd (upd (upd (upd (upd (fun _=>.any) 40 (au t2)) 13 (au false)) 12 (.box 12 b12 0)) 11 (.box 11 b11 0)) 10 (.box 10 b10 0)) 6 (.box 6 b6 0)) 4 (.box 4 b4 0)) 3 (.ptr (aD sA))) 2 (ac rule),upd (upd (upd (upd (upd (fun _=>none) 12 (some ⟨b12,[(ac 0),(.str []),(.val (.slice none 0 0)),(.val (.slice none 0 0)),(.val (.slice none 0 0)),(.val (.slice none 0 0)),(ac 0),(ac 0),(.val (.slice none 0 0))]⟩)) 11 (some ⟨b11,[(ac x35.2.kind),(.str x35.2.table),(.list 9 (x35.2.names.map aE)),(.list 91 (x35.2.exprs.map am)),(.list 88 (x35.2.aggregates.map aO)),(.list 4 (x35.2.descending.map aV)),(ac x35.2.count),(ac x35.2.offset),(.own 35 g35 (x35.2.inputs.map ap).length)]⟩)) 10 (some ⟨b10,(aD sA)⟩)) 6 (some ⟨b6,[(ac 0),(.str []),(.val (.slice none 0 0)),(.val (.slice none 0 0)),(.val (.slice none 0 0)),(.val (.slice none 0 0)),(ac 0),(ac 0),(.val (.slice none 0 0))]⟩)) 4 (some ⟨b4,[(ac x35.1.kind),(.str x35.1.table),(.list 9 (x35.1.names.map aE)),(.list 91 (x35.1.exprs.map am)),(.list 88 (x35.1.aggregates.map aO)),(.list 4 (x35.1.descending.map aV)),(ac x35.1.count),(ac x35.1.offset),(.list 33 [[(ac x35.2.kind),(.str x35.2.table),(.list 9 (x35.2.names.map aE)),(.list 91 (x35.2.exprs.map am)),(.list 88 (x35.2.aggregates.map aO)),(.list 4 (x35.2.descending.map aV)),(ac x35.2.count),(ac x35.2.offset),(.val (OwnRef.val g35 (x35.2.inputs.map ap).length))]])]⟩),upd (fun _=>none) 35 (some ⟨g35,33,(x35.2.inputs.map ap),true⟩)⟩) H (fun _ H=>?_) (fun t2 g2 H=>?_)
 ·refine aa (af 3 tk rfl ?_)
  refine aN rfl rfl rfl H (fun H=>?_) (fun H=>?_)
  ·refine af 4 tk rfl ?_
   refine aN rfl rfl rfl H (fun H=>?_) (fun H=>?_)
   ·refine ah tk rfl (ak tk ?_)
    refine af 3 tk rfl (ab ?_)
    refine aJ _ () H Gh.d
   refine af 5 tk rfl (ab ?_)
   refine aJ _ () H Gh.d
  refine af 9 tk rfl (ab ?_)
  refine aJ _ () H Gh.d
 refine bY (γ := Unit) (fun t10 g10=>⟨203,upd (upd (upd (upd (fun _=>.any) 13 (au t10.1)) 12 (.box 12 b12 0)) 6 (.box 6 b6 0)) 3 (.ptr (aD sA)),upd (upd (fun _=>none) 12 (some ⟨b12,(ao t10.2)⟩)) 6 (some ⟨b6,[(ac 0),(.str []),(.val (.slice none 0 0)),(.val (.slice none 0 0)),(.val (.slice none 0 0)),(.val (.slice none 0 0)),(ac 0),(ac 0),(.val (.slice none 0 0))]⟩),fun _=>none⟩) H (fun _ H=>?_) (fun t10 g10 H=>?_)
 ·refine aP rfl H (fun H=>?_) (fun H=>?_)
  ·refine aa (ak tk ?_)
   refine ak tk ?_
   refine ak tk ?_
   refine ah tk rfl ?_
   obtain ⟨x57,h57,H⟩ := av H
   have s57 := mO g35 (LRewriteRewriter.mk sA) (LQuery.mk x35.1.kind x35.1.table x35.1.names x35.1.exprs x35.1.aggregates x35.1.descending x35.1.count x35.1.offset [x35.2]) x35.2 rule _ h57
   refine gQ (g := 113) rfl rfl rfl Tryz.call113 [] [(35,3002)] rfl rfl rfl rfl (eJ.cons (PLe.refl _ _) <| eJ.cons (PLe.agg (eJ.cons (PLe.refl _ _) <| eJ.cons (PLe.refl _ _) <| eJ.cons (PLe.refl _ _) <| eJ.cons (PLe.refl _ _) <| eJ.cons (PLe.refl _ _) <| eJ.cons (PLe.refl _ _) <| eJ.cons (PLe.refl _ _) <| eJ.cons (PLe.refl _ _) <| eJ.cons (PLe.any _ _) <| eJ.nil _)) <| eJ.cons (PLe.agg (eJ.cons (PLe.refl _ _) <| eJ.cons (PLe.refl _ _) <| eJ.cons (PLe.refl _ _) <| eJ.cons (PLe.refl _ _) <| eJ.cons (PLe.refl _ _) <| eJ.cons (PLe.refl _ _) <| eJ.cons (PLe.refl _ _) <| eJ.cons (PLe.refl _ _) <| eJ.cons (PLe.of2 (lZ.own rfl)) <| eJ.nil _)) <| eJ.cons (PLe.refl _ _) <| eJ.nil _) (by rw [gg,fy,gd]; rfl) s57 ?_
   rintro u57 H57h ⟨rfl,rfl⟩
   refine ⟨_,rfl,?_⟩
   refine gv (st' := ⟨_,_,upd (upd (upd (upd (upd (fun _=>none) 12 (some ⟨b12,[(ac 0),(.str []),(.val (.slice none 0 0)),(.val (.slice none 0 0)),(.val (.slice none 0 0)),(.val (.slice none 0 0)),(ac 0),(ac 0),(.val (.slice none 0 0))]⟩)) 11 (some ⟨b11,[(ac x35.2.kind),(.str x35.2.table),(.list 9 (x35.2.names.map aE)),(.list 91 (x35.2.exprs.map am)),(.list 88 (x35.2.aggregates.map aO)),(.list 4 (x35.2.descending.map aV)),(ac x35.2.count),(ac x35.2.offset),(.own 35 g35 (x35.2.inputs.map ap).length)]⟩)) 10 (some ⟨b10,(aD sA)⟩)) 6 (some ⟨b6,[(ac 0),(.str []),(.val (.slice none 0 0)),(.val (.slice none 0 0)),(.val (.slice none 0 0)),(.val (.slice none 0 0)),(ac 0),(ac 0),(.val (.slice none 0 0))]⟩)) 4 (some ⟨b4,[(ac x35.1.kind),(.str x35.1.table),(.list 9 (x35.1.names.map aE)),(.list 91 (x35.1.exprs.map am)),(.list 88 (x35.1.aggregates.map aO)),(.list 4 (x35.1.descending.map aV)),(ac x35.1.count),(ac x35.1.offset),(.list 33 [[(ac x35.2.kind),(.str x35.2.table),(.list 9 (x35.2.names.map aE)),(.list 91 (x35.2.exprs.map am)),(.list 88 (x35.2.aggregates.map aO)),(.list 4 (x35.2.descending.map aV)),(ac x35.2.count),(ac x35.2.offset),(.val (OwnRef.val g35 (x35.2.inputs.map ap).length))]])]⟩),fun _=>none⟩) (Gh.le (fq _ _) (aM rfl (eJ.r) (aM rfl (eJ.r) (aM rfl (eJ.r) (aM rfl (eJ.r) (aM rfl (eJ.r) bA))))) bw) ?_
   refine af 3 tk rfl (al tk ?_)
   refine ah tk rfl (ab ?_)
   refine aJ _ () (az H) Gh.d
  refine ae ?_
  refine bY (γ := Unit) (fun t11 g11=>⟨203,upd (upd (upd (upd (upd (upd (upd (upd (upd (fun _=>.any) 60 (au false)) 13 (au false)) 12 (.box 12 b12 0)) 11 (.box 11 b11 0)) 10 (.box 10 b10 0)) 6 (.box 6 b6 0)) 4 (.box 4 b4 0)) 3 (.ptr (aD sA))) 2 (ac rule),upd (upd (upd (upd (upd (fun _=>none) 12 (some ⟨b12,[(ac 0),(.str []),(.val (.slice none 0 0)),(.val (.slice none 0 0)),(.val (.slice none 0 0)),(.val (.slice none 0 0)),(ac 0),(ac 0),(.val (.slice none 0 0))]⟩)) 11 (some ⟨b11,[(ac x35.2.kind),(.str x35.2.table),(.list 9 (x35.2.names.map aE)),(.list 91 (x35.2.exprs.map am)),(.list 88 (x35.2.aggregates.map aO)),(.list 4 (x35.2.descending.map aV)),(ac x35.2.count),(ac x35.2.offset),(.own 35 g35 (x35.2.inputs.map ap).length)]⟩)) 10 (some ⟨b10,(aD sA)⟩)) 6 (some ⟨b6,[(ac 0),(.str []),(.val (.slice none 0 0)),(.val (.slice none 0 0)),(.val (.slice none 0 0)),(.val (.slice none 0 0)),(ac 0),(ac 0),(.val (.slice none 0 0))]⟩)) 4 (some ⟨b4,[(ac x35.1.kind),(.str x35.1.table),(.list 9 (x35.1.names.map aE)),(.list 91 (x35.1.exprs.map am)),(.list 88 (x35.1.aggregates.map aO)),(.list 4 (x35.1.descending.map aV)),(ac x35.1.count),(ac x35.1.offset),(.list 33 [[(ac x35.2.kind),(.str x35.2.table),(.list 9 (x35.2.names.map aE)),(.list 91 (x35.2.exprs.map am)),(.list 88 (x35.2.aggregates.map aO)),(.list 4 (x35.2.descending.map aV)),(ac x35.2.count),(ac x35.2.offset),(.val (OwnRef.val g35 (x35.2.inputs.map ap).length))]])]⟩),upd (fun _=>none) 35 (some ⟨g35,33,(x35.2.inputs.map ap),true⟩)⟩) H (fun _ H=>?_) (fun t11 g11 H=>?_)
  ·refine aa (af 3 tk rfl ?_)
   refine aN rfl rfl rfl H (fun H=>?_) (fun H=>?_)
   ·cases H
   refine af 5 tk rfl (ab ?_)
   refine aJ _ () (az H) Gh.d
  refine bQ rfl (ae ?_)
  refine bY (γ := Unit) (fun t12 g12=>⟨203,upd (upd (upd (upd (upd (upd (upd (upd (upd (fun _=>.any) 73 (au false)) 13 (au false)) 12 (.box 12 b12 0)) 11 (.box 11 b11 0)) 10 (.box 10 b10 0)) 6 (.box 6 b6 0)) 4 (.box 4 b4 0)) 3 (.ptr (aD sA))) 2 (ac rule),upd (upd (upd (upd (upd (fun _=>none) 12 (some ⟨b12,[(ac 0),(.str []),(.val (.slice none 0 0)),(.val (.slice none 0 0)),(.val (.slice none 0 0)),(.val (.slice none 0 0)),(ac 0),(ac 0),(.val (.slice none 0 0))]⟩)) 11 (some ⟨b11,[(ac x35.2.kind),(.str x35.2.table),(.list 9 (x35.2.names.map aE)),(.list 91 (x35.2.exprs.map am)),(.list 88 (x35.2.aggregates.map aO)),(.list 4 (x35.2.descending.map aV)),(ac x35.2.count),(ac x35.2.offset),(.own 35 g35 (x35.2.inputs.map ap).length)]⟩)) 10 (some ⟨b10,(aD sA)⟩)) 6 (some ⟨b6,[(ac 0),(.str []),(.val (.slice none 0 0)),(.val (.slice none 0 0)),(.val (.slice none 0 0)),(.val (.slice none 0 0)),(ac 0),(ac 0),(.val (.slice none 0 0))]⟩)) 4 (some ⟨b4,[(ac x35.1.kind),(.str x35.1.table),(.list 9 (x35.1.names.map aE)),(.list 91 (x35.1.exprs.map am)),(.list 88 (x35.1.aggregates.map aO)),(.list 4 (x35.1.descending.map aV)),(ac x35.1.count),(ac x35.1.offset),(.list 33 [[(ac x35.2.kind),(.str x35.2.table),(.list 9 (x35.2.names.map aE)),(.list 91 (x35.2.exprs.map am)),(.list 88 (x35.2.aggregates.map aO)),(.list 4 (x35.2.descending.map aV)),(ac x35.2.count),(ac x35.2.offset),(.val (OwnRef.val g35 (x35.2.inputs.map ap).length))]])]⟩),upd (fun _=>none) 35 (some ⟨g35,33,(x35.2.inputs.map ap),true⟩)⟩) H (fun _ H=>?_) (fun t12 g12 H=>?_)
  ·refine aa (af 3 tk rfl ?_)
   refine aN rfl rfl rfl H (fun H=>?_) (fun H=>?_)
   ·cases H
   refine af 5 tk rfl (ab ?_)
   refine aJ _ () (az H) Gh.d
  refine bQ rfl (ae ?_)
  refine bY (γ := Unit) (fun t13 g13=>⟨203,upd (upd (upd (upd (upd (upd (upd (upd (upd (fun _=>.any) 84 (au false)) 13 (au false)) 12 (.box 12 b12 0)) 11 (.box 11 b11 0)) 10 (.box 10 b10 0)) 6 (.box 6 b6 0)) 4 (.box 4 b4 0)) 3 (.ptr (aD sA))) 2 (ac rule),upd (upd (upd (upd (upd (fun _=>none) 12 (some ⟨b12,[(ac 0),(.str []),(.val (.slice none 0 0)),(.val (.slice none 0 0)),(.val (.slice none 0 0)),(.val (.slice none 0 0)),(ac 0),(ac 0),(.val (.slice none 0 0))]⟩)) 11 (some ⟨b11,[(ac x35.2.kind),(.str x35.2.table),(.list 9 (x35.2.names.map aE)),(.list 91 (x35.2.exprs.map am)),(.list 88 (x35.2.aggregates.map aO)),(.list 4 (x35.2.descending.map aV)),(ac x35.2.count),(ac x35.2.offset),(.own 35 g35 (x35.2.inputs.map ap).length)]⟩)) 10 (some ⟨b10,(aD sA)⟩)) 6 (some ⟨b6,[(ac 0),(.str []),(.val (.slice none 0 0)),(.val (.slice none 0 0)),(.val (.slice none 0 0)),(.val (.slice none 0 0)),(ac 0),(ac 0),(.val (.slice none 0 0))]⟩)) 4 (some ⟨b4,[(ac x35.1.kind),(.str x35.1.table),(.list 9 (x35.1.names.map aE)),(.list 91 (x35.1.exprs.map am)),(.list 88 (x35.1.aggregates.map aO)),(.list 4 (x35.1.descending.map aV)),(ac x35.1.count),(ac x35.1.offset),(.list 33 [[(ac x35.2.kind),(.str x35.2.table),(.list 9 (x35.2.names.map aE)),(.list 91 (x35.2.exprs.map am)),(.list 88 (x35.2.aggregates.map aO)),(.list 4 (x35.2.descending.map aV)),(ac x35.2.count),(ac x35.2.offset),(.val (OwnRef.val g35 (x35.2.inputs.map ap).length))]])]⟩),upd (fun _=>none) 35 (some ⟨g35,33,(x35.2.inputs.map ap),true⟩)⟩) H (fun _ H=>?_) (fun t13 g13 H=>?_)
  ·refine aa (af 3 tk rfl ?_)
   refine aN rfl rfl rfl H (fun H=>?_) (fun H=>?_)
   ·cases H
   refine af 10 tk rfl (ab ?_)
   refine aJ _ () (az H) Gh.d
  refine bQ rfl (ae ?_)
  refine bY (γ := Unit) (fun t14 g14=>⟨203,upd (upd (upd (upd (upd (upd (upd (upd (fun _=>.any) 104 (au false)) 13 (au false)) 12 (.box 12 b12 0)) 11 (.box 11 b11 0)) 6 (.box 6 b6 0)) 4 (.box 4 b4 0)) 3 (.ptr (aD sA))) 2 (ac rule),upd (upd (upd (upd (fun _=>none) 12 (some ⟨b12,[(ac 0),(.str []),(.val (.slice none 0 0)),(.val (.slice none 0 0)),(.val (.slice none 0 0)),(.val (.slice none 0 0)),(ac 0),(ac 0),(.val (.slice none 0 0))]⟩)) 11 (some ⟨b11,[(ac x35.2.kind),(.str x35.2.table),(.list 9 (x35.2.names.map aE)),(.list 91 (x35.2.exprs.map am)),(.list 88 (x35.2.aggregates.map aO)),(.list 4 (x35.2.descending.map aV)),(ac x35.2.count),(ac x35.2.offset),(.own 35 g35 (x35.2.inputs.map ap).length)]⟩)) 6 (some ⟨b6,[(ac 0),(.str []),(.val (.slice none 0 0)),(.val (.slice none 0 0)),(.val (.slice none 0 0)),(.val (.slice none 0 0)),(ac 0),(ac 0),(.val (.slice none 0 0))]⟩)) 4 (some ⟨b4,[(ac x35.1.kind),(.str x35.1.table),(.list 9 (x35.1.names.map aE)),(.list 91 (x35.1.exprs.map am)),(.list 88 (x35.1.aggregates.map aO)),(.list 4 (x35.1.descending.map aV)),(ac x35.1.count),(ac x35.1.offset),(.list 33 [[(ac x35.2.kind),(.str x35.2.table),(.list 9 (x35.2.names.map aE)),(.list 91 (x35.2.exprs.map am)),(.list 88 (x35.2.aggregates.map aO)),(.list 4 (x35.2.descending.map aV)),(ac x35.2.count),(ac x35.2.offset),(.val (OwnRef.val g35 (x35.2.inputs.map ap).length))]])]⟩),upd (fun _=>none) 35 (some ⟨g35,33,(x35.2.inputs.map ap),true⟩)⟩) H (fun _ H=>?_) (fun t14 g14 H=>?_)
  ·refine aa (af 3 tk rfl ?_)
   refine aN rfl rfl rfl H (fun H=>?_) (fun H=>?_)
   ·cases H
   refine af 10 tk rfl (ab ?_)
   refine aJ _ () (az H) Gh.d
  refine bQ rfl (ae ?_)
  refine bY (γ := Unit) (fun t15 g15=>⟨203,upd (upd (upd (upd (upd (upd (upd (upd (fun _=>.any) 120 (au false)) 13 (au false)) 12 (.box 12 b12 0)) 11 (.box 11 b11 0)) 6 (.box 6 b6 0)) 4 (.box 4 b4 0)) 3 (.ptr (aD sA))) 2 (ac rule),upd (upd (upd (upd (fun _=>none) 12 (some ⟨b12,[(ac 0),(.str []),(.val (.slice none 0 0)),(.val (.slice none 0 0)),(.val (.slice none 0 0)),(.val (.slice none 0 0)),(ac 0),(ac 0),(.val (.slice none 0 0))]⟩)) 11 (some ⟨b11,[(ac x35.2.kind),(.str x35.2.table),(.list 9 (x35.2.names.map aE)),(.list 91 (x35.2.exprs.map am)),(.list 88 (x35.2.aggregates.map aO)),(.list 4 (x35.2.descending.map aV)),(ac x35.2.count),(ac x35.2.offset),(.own 35 g35 (x35.2.inputs.map ap).length)]⟩)) 6 (some ⟨b6,[(ac 0),(.str []),(.val (.slice none 0 0)),(.val (.slice none 0 0)),(.val (.slice none 0 0)),(.val (.slice none 0 0)),(ac 0),(ac 0),(.val (.slice none 0 0))]⟩)) 4 (some ⟨b4,[(ac x35.1.kind),(.str x35.1.table),(.list 9 (x35.1.names.map aE)),(.list 91 (x35.1.exprs.map am)),(.list 88 (x35.1.aggregates.map aO)),(.list 4 (x35.1.descending.map aV)),(ac x35.1.count),(ac x35.1.offset),(.list 33 [[(ac x35.2.kind),(.str x35.2.table),(.list 9 (x35.2.names.map aE)),(.list 91 (x35.2.exprs.map am)),(.list 88 (x35.2.aggregates.map aO)),(.list 4 (x35.2.descending.map aV)),(ac x35.2.count),(ac x35.2.offset),(.val (OwnRef.val g35 (x35.2.inputs.map ap).length))]])]⟩),upd (fun _=>none) 35 (some ⟨g35,33,(x35.2.inputs.map ap),true⟩)⟩) H (fun _ H=>?_) (fun t15 g15 H=>?_)
  ·refine aa (af 3 tk rfl ?_)
   refine aN rfl rfl rfl H (fun H=>?_) (fun H=>?_)
   ·cases H
   refine af 10 tk rfl (ab ?_)
   refine aJ _ () (az H) Gh.d
  refine bQ rfl (ae ?_)
  refine bY (γ := Unit) (fun t16 g16=>⟨203,upd (upd (upd (upd (upd (upd (upd (upd (fun _=>.any) 150 (au false)) 13 (au false)) 12 (.box 12 b12 0)) 11 (.box 11 b11 0)) 6 (.box 6 b6 0)) 4 (.box 4 b4 0)) 3 (.ptr (aD sA))) 2 (ac rule),upd (upd (upd (upd (fun _=>none) 12 (some ⟨b12,[(ac 0),(.str []),(.val (.slice none 0 0)),(.val (.slice none 0 0)),(.val (.slice none 0 0)),(.val (.slice none 0 0)),(ac 0),(ac 0),(.val (.slice none 0 0))]⟩)) 11 (some ⟨b11,[(ac x35.2.kind),(.str x35.2.table),(.list 9 (x35.2.names.map aE)),(.list 91 (x35.2.exprs.map am)),(.list 88 (x35.2.aggregates.map aO)),(.list 4 (x35.2.descending.map aV)),(ac x35.2.count),(ac x35.2.offset),(.own 35 g35 (x35.2.inputs.map ap).length)]⟩)) 6 (some ⟨b6,[(ac 0),(.str []),(.val (.slice none 0 0)),(.val (.slice none 0 0)),(.val (.slice none 0 0)),(.val (.slice none 0 0)),(ac 0),(ac 0),(.val (.slice none 0 0))]⟩)) 4 (some ⟨b4,[(ac x35.1.kind),(.str x35.1.table),(.list 9 (x35.1.names.map aE)),(.list 91 (x35.1.exprs.map am)),(.list 88 (x35.1.aggregates.map aO)),(.list 4 (x35.1.descending.map aV)),(ac x35.1.count),(ac x35.1.offset),(.list 33 [[(ac x35.2.kind),(.str x35.2.table),(.list 9 (x35.2.names.map aE)),(.list 91 (x35.2.exprs.map am)),(.list 88 (x35.2.aggregates.map aO)),(.list 4 (x35.2.descending.map aV)),(ac x35.2.count),(ac x35.2.offset),(.val (OwnRef.val g35 (x35.2.inputs.map ap).length))]])]⟩),upd (fun _=>none) 35 (some ⟨g35,33,(x35.2.inputs.map ap),true⟩)⟩) H (fun _ H=>?_) (fun t16 g16 H=>?_)
  ·refine aa (af 3 tk rfl ?_)
   refine aN rfl rfl rfl H (fun H=>?_) (fun H=>?_)
   ·cases H
   refine af 10 tk rfl (ab ?_)
   refine aJ _ () (az H) Gh.d
  refine bQ rfl (ae ?_)
  refine bY (γ := Unit) (fun t17 g17=>⟨203,upd (upd (upd (upd (upd (upd (upd (fun _=>.any) 169 (au false)) 13 (au false)) 12 (.box 12 b12 0)) 11 (.box 11 b11 0)) 6 (.box 6 b6 0)) 4 (.box 4 b4 0)) 3 (.ptr (aD sA)),upd (upd (upd (upd (fun _=>none) 12 (some ⟨b12,[(ac 0),(.str []),(.val (.slice none 0 0)),(.val (.slice none 0 0)),(.val (.slice none 0 0)),(.val (.slice none 0 0)),(ac 0),(ac 0),(.val (.slice none 0 0))]⟩)) 11 (some ⟨b11,[(ac x35.2.kind),(.str x35.2.table),(.list 9 (x35.2.names.map aE)),(.list 91 (x35.2.exprs.map am)),(.list 88 (x35.2.aggregates.map aO)),(.list 4 (x35.2.descending.map aV)),(ac x35.2.count),(ac x35.2.offset),(.own 35 g35 (x35.2.inputs.map ap).length)]⟩)) 6 (some ⟨b6,[(ac 0),(.str []),(.val (.slice none 0 0)),(.val (.slice none 0 0)),(.val (.slice none 0 0)),(.val (.slice none 0 0)),(ac 0),(ac 0),(.val (.slice none 0 0))]⟩)) 4 (some ⟨b4,[(ac x35.1.kind),(.str x35.1.table),(.list 9 (x35.1.names.map aE)),(.list 91 (x35.1.exprs.map am)),(.list 88 (x35.1.aggregates.map aO)),(.list 4 (x35.1.descending.map aV)),(ac x35.1.count),(ac x35.1.offset),(.list 33 [[(ac x35.2.kind),(.str x35.2.table),(.list 9 (x35.2.names.map aE)),(.list 91 (x35.2.exprs.map am)),(.list 88 (x35.2.aggregates.map aO)),(.list 4 (x35.2.descending.map aV)),(ac x35.2.count),(ac x35.2.offset),(.val (OwnRef.val g35 (x35.2.inputs.map ap).length))]])]⟩),upd (fun _=>none) 35 (some ⟨g35,33,(x35.2.inputs.map ap),true⟩)⟩) H (fun _ H=>?_) (fun t17 g17 H=>?_)
  ·refine aa (af 3 tk rfl ?_)
   refine aN rfl rfl rfl H (fun H=>?_) (fun H=>?_)
   ·cases H
   refine af 10 tk rfl (ab ?_)
   refine aJ _ () (az H) Gh.d
  refine bQ rfl (ax ?_)
  refine aJ _ () (az H) (Gh.le (aL (aL (aL (aL bM)))) (aM rfl (eJ.r) (aM rfl (eJ.of2 (gp.cons (lZ.of_eq rfl) (gp.cons (lZ.of_eq rfl) (gp.cons (lZ.nil tk rfl) (gp.cons (lZ.nil tk rfl) (gp.cons (lZ.nil tk rfl) (gp.cons (lZ.nil tk rfl) (gp.cons (lZ.of_eq rfl) (gp.cons (lZ.of_eq rfl) (gp.cons (lZ.nil tk rfl) gp.nil)))))))))) bA)) bw)
 refine bc (ae (aw 2 tk rfl ?_))
 refine aP rfl H (fun H=>?_) (fun H=>?_)
 ·refine ae (aa (ah tk rfl (al tk ?_)))
  refine ah tk rfl (ab ?_)
  obtain rfl := az H
  refine bd tk rfl (ps := [(.agg [(ac 0),(.str []),(.val (.slice none 0 0)),(.val (.slice none 0 0)),(.val (.slice none 0 0)),(.val (.slice none 0 0)),(ac 0),(ac 0),(.val (.slice none 0 0))]),(au false)]) ⟨_,_,rfl,⟨_,_,_,_,_,rfl,rfl,rfl,rfl⟩,_,_,rfl,rfl,rfl⟩ (PLe.of2 (lZ.tup (gp.cons (lZ.agg (gp.cons (lZ.of_eq rfl) (gp.cons (lZ.of_eq rfl) (gp.cons (lZ.nil tk rfl) (gp.cons (lZ.nil tk rfl) (gp.cons (lZ.nil tk rfl) (gp.cons (lZ.nil tk rfl) (gp.cons (lZ.of_eq rfl) (gp.cons (lZ.of_eq rfl) (gp.cons (lZ.nil tk rfl) gp.nil)))))))))) (gp.cons (lZ.of_eq rfl) gp.nil))))
 refine ax (ae (aa (ah tk rfl (ak tk ?_))))
 obtain ⟨x196,h196,H⟩ := av H
 have s196 := dP sA t10.2 _ h196
 refine aq Tryz.call25 (eJ.r) s196 ?_
 refine af 5 tk rfl (ab (ae (aw 2 tk rfl ?_)))
 refine aP rfl H (fun H=>?_) (fun H=>?_)
 ·refine ae (aa (ah tk rfl (al tk ?_)))
  refine ah tk rfl (ab ?_)
  obtain rfl := az H
  refine bd tk rfl (ps := [(.agg [(ac 0),(.str []),(.val (.slice none 0 0)),(.val (.slice none 0 0)),(.val (.slice none 0 0)),(.val (.slice none 0 0)),(ac 0),(ac 0),(.val (.slice none 0 0))]),(au false)]) ⟨_,_,rfl,⟨_,_,_,_,_,rfl,rfl,rfl,rfl⟩,_,_,rfl,rfl,rfl⟩ (PLe.of2 (lZ.tup (gp.cons (lZ.agg (gp.cons (lZ.of_eq rfl) (gp.cons (lZ.of_eq rfl) (gp.cons (lZ.nil tk rfl) (gp.cons (lZ.nil tk rfl) (gp.cons (lZ.nil tk rfl) (gp.cons (lZ.nil tk rfl) (gp.cons (lZ.of_eq rfl) (gp.cons (lZ.of_eq rfl) (gp.cons (lZ.nil tk rfl) gp.nil)))))))))) (gp.cons (lZ.of_eq rfl) gp.nil))))
 refine ax (ae (aa (ak tk ?_)))
 refine al tk ?_
 refine ah tk rfl (ab ?_)
 obtain rfl := az H
 refine bd tk rfl (ps := [(.agg (ao t10.2)),(au true)]) ⟨_,_,rfl,⟨_,_,_,_,_,rfl,rfl,rfl,rfl⟩,_,_,rfl,rfl,rfl⟩ (PLe.q rfl)
def jJ (sA : LSchema) (q : LQuery) (rule : Int) : Option (LQuery × Bool) :=
 ag (cb sA q) fun x21 =>
 bq (
  cond (x21.2 != (0 : Int))
   (true)
   ((q.kind == (1 : Int)))) fun (t1 : Bool) =>
 cond t1
  (some ((LQuery.mk 0 [] [] [] [] [] 0 0 []),false))
  (ag (fw q) fun x35 =>
  ag (aT x35.inputs (0 : Int)) fun (_ : LQuery) =>
  bq (
   cond (decide (rule ≥ (1 : Int)))
    (cond (decide (rule ≤ (9 : Int)))
     ((x35.kind == (2 : Int)))
     (false))
    (false)) fun (t2 : Bool) =>
  ag (
   cond t2
    (none)
    (bq (
     cond (rule == (10 : Int))
      ((x35.kind == (4 : Int)))
      (false)) fun (t11 : Bool) =>
    cond t11
     (ag (fu x35) fun x70 =>
     some (x70.2,x70.1))
     (ag (
      cond (rule == (11 : Int))
       (none)
       (some ())) fun (_ : Unit) =>
     ag (
      cond (rule == (12 : Int))
       (none)
       (some ())) fun (_ : Unit) =>
     ag (
      cond (rule == (13 : Int))
       (none)
       (some ())) fun (_ : Unit) =>
     ag (
      cond (rule == (14 : Int))
       (none)
       (some ())) fun (_ : Unit) =>
     ag (
      cond (rule == (15 : Int))
       (none)
       (some ())) fun (_ : Unit) =>
     ag (
      cond (rule == (16 : Int))
       (none)
       (some ())) fun (_ : Unit) =>
     some (false,(LQuery.mk 0 [] [] [] [] [] 0 0 []))))) fun (t10 : Bool × LQuery) =>
  cond (!t10.1)
   (some ((LQuery.mk 0 [] [] [] [] [] 0 0 []),false))
   (ag (cb sA t10.2) fun x196 =>
   cond (x196.2 != (0 : Int))
    (some ((LQuery.mk 0 [] [] [] [] [] 0 0 []),false))
    (some (t10.2,true))))
theorem qw (sA : LSchema) (q : LQuery) (rule : Int) (r : LQuery × Bool) (H : jJ sA q rule = some r) :
  aS Tryz.prog 71 [(.agg (aD sA)),(.agg (ao q)),(ac rule)] (.tup [(.agg (ao r.1)),(au r.2)]) := by
 unfold jJ at H
 refine PH.ay Tryz.func71 Tryz.ntmps71 ?_
 refine ae (aa (aI ?_))
 refine ii (d := 4) fun b4=>?_
 refine aB tk fun b6=>?_
 refine ah tk rfl (ab (ae (ae (aa (ah tk rfl (ak tk ?_))))))
 obtain ⟨x21,h21,H⟩ := av H
 have s21 := dP sA q _ h21
 refine aq Tryz.call25 (eJ.r) s21 ?_
 refine af 5 tk rfl (ab (ae ?_))
 refine cg (γ := Unit) (fun t1 g1=>⟨203,upd (upd (upd (upd (upd (fun _=>.any) 30 (au t1)) 6 (.box 6 b6 0)) 4 (.box 4 b4 0)) 3 (.ptr (aD sA))) 2 (ac rule),upd (upd (fun _=>none) 6 (some ⟨b6,[(ac 0),(.str []),(.val (.slice none 0 0)),(.val (.slice none 0 0)),(.val (.slice none 0 0)),(.val (.slice none 0 0)),(ac 0),(ac 0),(.val (.slice none 0 0))]⟩)) 4 (some ⟨b4,(ao q)⟩),fun _=>none⟩) H (fun _ H=>?_) (fun t1 g1 H=>?_)
 ·refine aa (af 3 tk rfl ?_)
  refine aN rfl rfl rfl H (fun H=>?_) (fun H=>?_)
  ·refine af 4 tk rfl (ab ?_)
   refine aJ _ () H Gh.d
  refine ah tk rfl (ak tk ?_)
  refine af 2 tk rfl (ab ?_)
  refine aJ _ () H Gh.d
 refine aP rfl H (fun H=>?_) (fun H=>?_)
 ·refine ae (aa (ah tk rfl (al tk ?_)))
  refine ah tk rfl (ab ?_)
  obtain rfl := az H
  refine bd tk rfl (ps := [(.agg [(ac 0),(.str []),(.val (.slice none 0 0)),(.val (.slice none 0 0)),(.val (.slice none 0 0)),(.val (.slice none 0 0)),(ac 0),(ac 0),(.val (.slice none 0 0))]),(au false)]) ⟨_,_,rfl,⟨_,_,_,_,_,rfl,rfl,rfl,rfl⟩,_,_,rfl,rfl,rfl⟩ (PLe.of2 (lZ.tup (gp.cons (lZ.agg (gp.cons (lZ.of_eq rfl) (gp.cons (lZ.of_eq rfl) (gp.cons (lZ.nil tk rfl) (gp.cons (lZ.nil tk rfl) (gp.cons (lZ.nil tk rfl) (gp.cons (lZ.nil tk rfl) (gp.cons (lZ.of_eq rfl) (gp.cons (lZ.of_eq rfl) (gp.cons (lZ.nil tk rfl) gp.nil)))))))))) (gp.cons (lZ.of_eq rfl) gp.nil))))
 refine ax (ae (aa (af 2 tk rfl ?_)))
 refine aB tk fun b10=>?_
 refine al tk ?_
 refine ab (ae (aa (ak tk ?_)))
 obtain ⟨x35,h35,H⟩ := av H
 have s35 := kP (m := 35) q _ h35
 refine nI (g := 27) rfl rfl rfl Tryz.call27 (eJ.r) rfl rfl s35 (fun g35=>?_)
 refine al tk ?_
 refine ab (ae (aa (ah tk rfl (ak tk ?_))))
 obtain ⟨x38,k38,H⟩ := bB H
 refine kw (tag := 35) rfl (fun ho35=>?_)
 refine jp tk ⟨k38.1,(dG k38.2)⟩ (dH ho35 k38.2) ?_
 refine nc tk rfl rfl rfl rfl rfl rfl rfl (aR aK k38.2) rfl rfl ?_
 refine aB tk fun b11=>?_
 refine al tk ?_
 refine ab (ae (aa ?_))
 refine aB tk fun b12=>?_
 refine ab (aw 1 tk rfl (ae (aG (ae ?_))))
 refine cg (γ := Unit) (fun t2 g2=>⟨203,upd (upd (upd (upd (upd (upd (upd (upd (upd (fun _=>.any) 40 (au t2)) 13 (au false)) 12 (.box 12 b12 0)) 11 (.box 11 b11 0)) 10 (.box 10 b10 0)) 6 (.box 6 b6 0)) 4 (.box 4 b4 0)) 3 (.ptr (aD sA))) 2 (ac rule),upd (upd (upd (upd (upd (fun _=>none) 12 (some ⟨b12,[(ac 0),(.str []),(.val (.slice none 0 0)),(.val (.slice none 0 0)),(.val (.slice none 0 0)),(.val (.slice none 0 0)),(ac 0),(ac 0),(.val (.slice none 0 0))]⟩)) 11 (some ⟨b11,(ao x38)⟩)) 10 (some ⟨b10,(aD sA)⟩)) 6 (some ⟨b6,[(ac 0),(.str []),(.val (.slice none 0 0)),(.val (.slice none 0 0)),(.val (.slice none 0 0)),(.val (.slice none 0 0)),(ac 0),(ac 0),(.val (.slice none 0 0))]⟩)) 4 (some ⟨b4,[(ac x35.kind),(.str x35.table),(.list 9 (x35.names.map aE)),(.list 91 (x35.exprs.map am)),(.list 88 (x35.aggregates.map aO)),(.list 4 (x35.descending.map aV)),(ac x35.count),(ac x35.offset),(.own 35 g35 (x35.inputs.map ap).length)]⟩),upd (fun _=>none) 35 (some ⟨g35,33,(x35.inputs.map ap),true⟩)⟩) H (fun _ H=>?_) (fun t2 g2 H=>?_)
 ·refine aa (af 3 tk rfl ?_)
  refine aN rfl rfl rfl H (fun H=>?_) (fun H=>?_)
  ·refine af 4 tk rfl ?_
   refine aN rfl rfl rfl H (fun H=>?_) (fun H=>?_)
   ·refine ah tk rfl (ak tk ?_)
    refine af 3 tk rfl (ab ?_)
    refine aJ _ () H Gh.d
   refine af 5 tk rfl (ab ?_)
   refine aJ _ () H Gh.d
  refine af 9 tk rfl (ab ?_)
  refine aJ _ () H Gh.d
 refine bY (γ := Unit) (fun t10 g10=>⟨203,upd (upd (upd (upd (fun _=>.any) 13 (au t10.1)) 12 (.box 12 b12 0)) 6 (.box 6 b6 0)) 3 (.ptr (aD sA)),upd (upd (fun _=>none) 12 (some ⟨b12,(ao t10.2)⟩)) 6 (some ⟨b6,[(ac 0),(.str []),(.val (.slice none 0 0)),(.val (.slice none 0 0)),(.val (.slice none 0 0)),(.val (.slice none 0 0)),(ac 0),(ac 0),(.val (.slice none 0 0))]⟩),fun _=>none⟩) H (fun _ H=>?_) (fun t10 g10 H=>?_)
 ·refine aP rfl H (fun H=>?_) (fun H=>?_)
  ·refine bD 4 8 rfl rfl rfl rfl rfl (aa (ak tk ?_))
   refine ak tk ?_
   refine ak tk ?_
   refine ah tk rfl ?_
   cases H
  refine ae ?_
  refine cg (γ := Unit) (fun t11 g11=>⟨203,upd (upd (upd (upd (upd (upd (upd (upd (upd (fun _=>.any) 60 (au t11)) 13 (au false)) 12 (.box 12 b12 0)) 11 (.box 11 b11 0)) 10 (.box 10 b10 0)) 6 (.box 6 b6 0)) 4 (.box 4 b4 0)) 3 (.ptr (aD sA))) 2 (ac rule),upd (upd (upd (upd (upd (fun _=>none) 12 (some ⟨b12,[(ac 0),(.str []),(.val (.slice none 0 0)),(.val (.slice none 0 0)),(.val (.slice none 0 0)),(.val (.slice none 0 0)),(ac 0),(ac 0),(.val (.slice none 0 0))]⟩)) 11 (some ⟨b11,(ao x38)⟩)) 10 (some ⟨b10,(aD sA)⟩)) 6 (some ⟨b6,[(ac 0),(.str []),(.val (.slice none 0 0)),(.val (.slice none 0 0)),(.val (.slice none 0 0)),(.val (.slice none 0 0)),(ac 0),(ac 0),(.val (.slice none 0 0))]⟩)) 4 (some ⟨b4,[(ac x35.kind),(.str x35.table),(.list 9 (x35.names.map aE)),(.list 91 (x35.exprs.map am)),(.list 88 (x35.aggregates.map aO)),(.list 4 (x35.descending.map aV)),(ac x35.count),(ac x35.offset),(.own 35 g35 (x35.inputs.map ap).length)]⟩),upd (fun _=>none) 35 (some ⟨g35,33,(x35.inputs.map ap),true⟩)⟩) H (fun _ H=>?_) (fun t11 g11 H=>?_)
  ·refine aa (af 3 tk rfl ?_)
   refine aN rfl rfl rfl H (fun H=>?_) (fun H=>?_)
   ·refine ah tk rfl (ak tk ?_)
    refine af 3 tk rfl (ab ?_)
    refine aJ _ () H Gh.d
   refine af 5 tk rfl (ab ?_)
   refine aJ _ () H Gh.d
  refine aP rfl H (fun H=>?_) (fun H=>?_)
  ·refine aa (ak tk ?_)
   obtain ⟨x70,h70,H⟩ := av H
   have s70 := kS g35 x35 _ h70
   refine gQ (g := 114) rfl rfl rfl Tryz.call114 [] [(35,3000)] rfl rfl rfl rfl (eJ.cons (PLe.agg (eJ.cons (PLe.refl _ _) <| eJ.cons (PLe.refl _ _) <| eJ.cons (PLe.refl _ _) <| eJ.cons (PLe.refl _ _) <| eJ.cons (PLe.refl _ _) <| eJ.cons (PLe.refl _ _) <| eJ.cons (PLe.refl _ _) <| eJ.cons (PLe.refl _ _) <| eJ.cons (PLe.of2 (lZ.own rfl)) <| eJ.nil _)) <| eJ.nil _) (by rw [gg,fy,gd]; rfl) s70 ?_
   rintro u70 H70h ⟨rfl,rfl⟩
   refine ⟨_,rfl,?_⟩
   refine gv (st' := ⟨_,_,upd (upd (upd (upd (upd (fun _=>none) 12 (some ⟨b12,[(ac 0),(.str []),(.val (.slice none 0 0)),(.val (.slice none 0 0)),(.val (.slice none 0 0)),(.val (.slice none 0 0)),(ac 0),(ac 0),(.val (.slice none 0 0))]⟩)) 11 (some ⟨b11,(ao x38)⟩)) 10 (some ⟨b10,(aD sA)⟩)) 6 (some ⟨b6,[(ac 0),(.str []),(.val (.slice none 0 0)),(.val (.slice none 0 0)),(.val (.slice none 0 0)),(.val (.slice none 0 0)),(ac 0),(ac 0),(.val (.slice none 0 0))]⟩)) 4 (some ⟨b4,[(ac x35.kind),(.str x35.table),(.list 9 (x35.names.map aE)),(.list 91 (x35.exprs.map am)),(.list 88 (x35.aggregates.map aO)),(.list 4 (x35.descending.map aV)),(ac x35.count),(ac x35.offset),(.own 35 g35 (x35.inputs.map ap).length)]⟩),fun _=>none⟩) (Gh.le (fq _ _) (aM rfl (eJ.r) (aM rfl (eJ.r) (aM rfl (eJ.r) (aM rfl (eJ.r) (aM rfl (eJ.r) bA))))) bw) ?_
   refine af 3 tk rfl (al tk ?_)
   refine ah tk rfl (ab ?_)
   refine aJ _ () (az H) Gh.d
  refine ae ?_
  refine bY (γ := Unit) (fun t12 g12=>⟨203,upd (upd (upd (upd (upd (upd (upd (upd (upd (fun _=>.any) 73 (au false)) 13 (au false)) 12 (.box 12 b12 0)) 11 (.box 11 b11 0)) 10 (.box 10 b10 0)) 6 (.box 6 b6 0)) 4 (.box 4 b4 0)) 3 (.ptr (aD sA))) 2 (ac rule),upd (upd (upd (upd (upd (fun _=>none) 12 (some ⟨b12,[(ac 0),(.str []),(.val (.slice none 0 0)),(.val (.slice none 0 0)),(.val (.slice none 0 0)),(.val (.slice none 0 0)),(ac 0),(ac 0),(.val (.slice none 0 0))]⟩)) 11 (some ⟨b11,(ao x38)⟩)) 10 (some ⟨b10,(aD sA)⟩)) 6 (some ⟨b6,[(ac 0),(.str []),(.val (.slice none 0 0)),(.val (.slice none 0 0)),(.val (.slice none 0 0)),(.val (.slice none 0 0)),(ac 0),(ac 0),(.val (.slice none 0 0))]⟩)) 4 (some ⟨b4,[(ac x35.kind),(.str x35.table),(.list 9 (x35.names.map aE)),(.list 91 (x35.exprs.map am)),(.list 88 (x35.aggregates.map aO)),(.list 4 (x35.descending.map aV)),(ac x35.count),(ac x35.offset),(.own 35 g35 (x35.inputs.map ap).length)]⟩),upd (fun _=>none) 35 (some ⟨g35,33,(x35.inputs.map ap),true⟩)⟩) H (fun _ H=>?_) (fun t12 g12 H=>?_)
  ·refine aa (af 3 tk rfl ?_)
   refine aN rfl rfl rfl H (fun H=>?_) (fun H=>?_)
   ·cases H
   refine af 5 tk rfl (ab ?_)
   refine aJ _ () (az H) Gh.d
  refine bQ rfl (ae ?_)
  refine bY (γ := Unit) (fun t13 g13=>⟨203,upd (upd (upd (upd (upd (upd (upd (upd (upd (fun _=>.any) 84 (au false)) 13 (au false)) 12 (.box 12 b12 0)) 11 (.box 11 b11 0)) 10 (.box 10 b10 0)) 6 (.box 6 b6 0)) 4 (.box 4 b4 0)) 3 (.ptr (aD sA))) 2 (ac rule),upd (upd (upd (upd (upd (fun _=>none) 12 (some ⟨b12,[(ac 0),(.str []),(.val (.slice none 0 0)),(.val (.slice none 0 0)),(.val (.slice none 0 0)),(.val (.slice none 0 0)),(ac 0),(ac 0),(.val (.slice none 0 0))]⟩)) 11 (some ⟨b11,(ao x38)⟩)) 10 (some ⟨b10,(aD sA)⟩)) 6 (some ⟨b6,[(ac 0),(.str []),(.val (.slice none 0 0)),(.val (.slice none 0 0)),(.val (.slice none 0 0)),(.val (.slice none 0 0)),(ac 0),(ac 0),(.val (.slice none 0 0))]⟩)) 4 (some ⟨b4,[(ac x35.kind),(.str x35.table),(.list 9 (x35.names.map aE)),(.list 91 (x35.exprs.map am)),(.list 88 (x35.aggregates.map aO)),(.list 4 (x35.descending.map aV)),(ac x35.count),(ac x35.offset),(.own 35 g35 (x35.inputs.map ap).length)]⟩),upd (fun _=>none) 35 (some ⟨g35,33,(x35.inputs.map ap),true⟩)⟩) H (fun _ H=>?_) (fun t13 g13 H=>?_)
  ·refine aa (af 3 tk rfl ?_)
   refine aN rfl rfl rfl H (fun H=>?_) (fun H=>?_)
   ·cases H
   refine af 10 tk rfl (ab ?_)
   refine aJ _ () (az H) Gh.d
  refine bQ rfl (ae ?_)
  refine bY (γ := Unit) (fun t14 g14=>⟨203,upd (upd (upd (upd (upd (upd (upd (upd (fun _=>.any) 104 (au false)) 13 (au false)) 12 (.box 12 b12 0)) 11 (.box 11 b11 0)) 6 (.box 6 b6 0)) 4 (.box 4 b4 0)) 3 (.ptr (aD sA))) 2 (ac rule),upd (upd (upd (upd (fun _=>none) 12 (some ⟨b12,[(ac 0),(.str []),(.val (.slice none 0 0)),(.val (.slice none 0 0)),(.val (.slice none 0 0)),(.val (.slice none 0 0)),(ac 0),(ac 0),(.val (.slice none 0 0))]⟩)) 11 (some ⟨b11,(ao x38)⟩)) 6 (some ⟨b6,[(ac 0),(.str []),(.val (.slice none 0 0)),(.val (.slice none 0 0)),(.val (.slice none 0 0)),(.val (.slice none 0 0)),(ac 0),(ac 0),(.val (.slice none 0 0))]⟩)) 4 (some ⟨b4,[(ac x35.kind),(.str x35.table),(.list 9 (x35.names.map aE)),(.list 91 (x35.exprs.map am)),(.list 88 (x35.aggregates.map aO)),(.list 4 (x35.descending.map aV)),(ac x35.count),(ac x35.offset),(.own 35 g35 (x35.inputs.map ap).length)]⟩),upd (fun _=>none) 35 (some ⟨g35,33,(x35.inputs.map ap),true⟩)⟩) H (fun _ H=>?_) (fun t14 g14 H=>?_)
  ·refine aa (af 3 tk rfl ?_)
   refine aN rfl rfl rfl H (fun H=>?_) (fun H=>?_)
   ·cases H
   refine af 10 tk rfl (ab ?_)
   refine aJ _ () (az H) Gh.d
  refine bQ rfl (ae ?_)
  refine bY (γ := Unit) (fun t15 g15=>⟨203,upd (upd (upd (upd (upd (upd (upd (upd (fun _=>.any) 120 (au false)) 13 (au false)) 12 (.box 12 b12 0)) 11 (.box 11 b11 0)) 6 (.box 6 b6 0)) 4 (.box 4 b4 0)) 3 (.ptr (aD sA))) 2 (ac rule),upd (upd (upd (upd (fun _=>none) 12 (some ⟨b12,[(ac 0),(.str []),(.val (.slice none 0 0)),(.val (.slice none 0 0)),(.val (.slice none 0 0)),(.val (.slice none 0 0)),(ac 0),(ac 0),(.val (.slice none 0 0))]⟩)) 11 (some ⟨b11,(ao x38)⟩)) 6 (some ⟨b6,[(ac 0),(.str []),(.val (.slice none 0 0)),(.val (.slice none 0 0)),(.val (.slice none 0 0)),(.val (.slice none 0 0)),(ac 0),(ac 0),(.val (.slice none 0 0))]⟩)) 4 (some ⟨b4,[(ac x35.kind),(.str x35.table),(.list 9 (x35.names.map aE)),(.list 91 (x35.exprs.map am)),(.list 88 (x35.aggregates.map aO)),(.list 4 (x35.descending.map aV)),(ac x35.count),(ac x35.offset),(.own 35 g35 (x35.inputs.map ap).length)]⟩),upd (fun _=>none) 35 (some ⟨g35,33,(x35.inputs.map ap),true⟩)⟩) H (fun _ H=>?_) (fun t15 g15 H=>?_)
  ·refine aa (af 3 tk rfl ?_)
   refine aN rfl rfl rfl H (fun H=>?_) (fun H=>?_)
   ·cases H
   refine af 10 tk rfl (ab ?_)
   refine aJ _ () (az H) Gh.d
  refine bQ rfl (ae ?_)
  refine bY (γ := Unit) (fun t16 g16=>⟨203,upd (upd (upd (upd (upd (upd (upd (upd (fun _=>.any) 150 (au false)) 13 (au false)) 12 (.box 12 b12 0)) 11 (.box 11 b11 0)) 6 (.box 6 b6 0)) 4 (.box 4 b4 0)) 3 (.ptr (aD sA))) 2 (ac rule),upd (upd (upd (upd (fun _=>none) 12 (some ⟨b12,[(ac 0),(.str []),(.val (.slice none 0 0)),(.val (.slice none 0 0)),(.val (.slice none 0 0)),(.val (.slice none 0 0)),(ac 0),(ac 0),(.val (.slice none 0 0))]⟩)) 11 (some ⟨b11,(ao x38)⟩)) 6 (some ⟨b6,[(ac 0),(.str []),(.val (.slice none 0 0)),(.val (.slice none 0 0)),(.val (.slice none 0 0)),(.val (.slice none 0 0)),(ac 0),(ac 0),(.val (.slice none 0 0))]⟩)) 4 (some ⟨b4,[(ac x35.kind),(.str x35.table),(.list 9 (x35.names.map aE)),(.list 91 (x35.exprs.map am)),(.list 88 (x35.aggregates.map aO)),(.list 4 (x35.descending.map aV)),(ac x35.count),(ac x35.offset),(.own 35 g35 (x35.inputs.map ap).length)]⟩),upd (fun _=>none) 35 (some ⟨g35,33,(x35.inputs.map ap),true⟩)⟩) H (fun _ H=>?_) (fun t16 g16 H=>?_)
  ·refine aa (af 3 tk rfl ?_)
   refine aN rfl rfl rfl H (fun H=>?_) (fun H=>?_)
   ·cases H
   refine af 10 tk rfl (ab ?_)
   refine aJ _ () (az H) Gh.d
  refine bQ rfl (ae ?_)
  refine bY (γ := Unit) (fun t17 g17=>⟨203,upd (upd (upd (upd (upd (upd (upd (fun _=>.any) 169 (au false)) 13 (au false)) 12 (.box 12 b12 0)) 11 (.box 11 b11 0)) 6 (.box 6 b6 0)) 4 (.box 4 b4 0)) 3 (.ptr (aD sA)),upd (upd (upd (upd (fun _=>none) 12 (some ⟨b12,[(ac 0),(.str []),(.val (.slice none 0 0)),(.val (.slice none 0 0)),(.val (.slice none 0 0)),(.val (.slice none 0 0)),(ac 0),(ac 0),(.val (.slice none 0 0))]⟩)) 11 (some ⟨b11,(ao x38)⟩)) 6 (some ⟨b6,[(ac 0),(.str []),(.val (.slice none 0 0)),(.val (.slice none 0 0)),(.val (.slice none 0 0)),(.val (.slice none 0 0)),(ac 0),(ac 0),(.val (.slice none 0 0))]⟩)) 4 (some ⟨b4,[(ac x35.kind),(.str x35.table),(.list 9 (x35.names.map aE)),(.list 91 (x35.exprs.map am)),(.list 88 (x35.aggregates.map aO)),(.list 4 (x35.descending.map aV)),(ac x35.count),(ac x35.offset),(.own 35 g35 (x35.inputs.map ap).length)]⟩),upd (fun _=>none) 35 (some ⟨g35,33,(x35.inputs.map ap),true⟩)⟩) H (fun _ H=>?_) (fun t17 g17 H=>?_)
  ·refine aa (af 3 tk rfl ?_)
   refine aN rfl rfl rfl H (fun H=>?_) (fun H=>?_)
   ·cases H
   refine af 10 tk rfl (ab ?_)
   refine aJ _ () (az H) Gh.d
  refine bQ rfl (ax ?_)
  refine aJ _ () (az H) (Gh.le (aL (aL (aL (aL bM)))) (aM rfl (eJ.r) (aM rfl (eJ.of2 (gp.cons (lZ.of_eq rfl) (gp.cons (lZ.of_eq rfl) (gp.cons (lZ.nil tk rfl) (gp.cons (lZ.nil tk rfl) (gp.cons (lZ.nil tk rfl) (gp.cons (lZ.nil tk rfl) (gp.cons (lZ.of_eq rfl) (gp.cons (lZ.of_eq rfl) (gp.cons (lZ.nil tk rfl) gp.nil)))))))))) bA)) bw)
 refine bc (ae (aw 2 tk rfl ?_))
 refine aP rfl H (fun H=>?_) (fun H=>?_)
 ·refine ae (aa (ah tk rfl (al tk ?_)))
  refine ah tk rfl (ab ?_)
  obtain rfl := az H
  refine bd tk rfl (ps := [(.agg [(ac 0),(.str []),(.val (.slice none 0 0)),(.val (.slice none 0 0)),(.val (.slice none 0 0)),(.val (.slice none 0 0)),(ac 0),(ac 0),(.val (.slice none 0 0))]),(au false)]) ⟨_,_,rfl,⟨_,_,_,_,_,rfl,rfl,rfl,rfl⟩,_,_,rfl,rfl,rfl⟩ (PLe.of2 (lZ.tup (gp.cons (lZ.agg (gp.cons (lZ.of_eq rfl) (gp.cons (lZ.of_eq rfl) (gp.cons (lZ.nil tk rfl) (gp.cons (lZ.nil tk rfl) (gp.cons (lZ.nil tk rfl) (gp.cons (lZ.nil tk rfl) (gp.cons (lZ.of_eq rfl) (gp.cons (lZ.of_eq rfl) (gp.cons (lZ.nil tk rfl) gp.nil)))))))))) (gp.cons (lZ.of_eq rfl) gp.nil))))
 refine ax (ae (aa (ah tk rfl (ak tk ?_))))
 obtain ⟨x196,h196,H⟩ := av H
 have s196 := dP sA t10.2 _ h196
 refine aq Tryz.call25 (eJ.r) s196 ?_
 refine af 5 tk rfl (ab (ae (aw 2 tk rfl ?_)))
 refine aP rfl H (fun H=>?_) (fun H=>?_)
 ·refine ae (aa (ah tk rfl (al tk ?_)))
  refine ah tk rfl (ab ?_)
  obtain rfl := az H
  refine bd tk rfl (ps := [(.agg [(ac 0),(.str []),(.val (.slice none 0 0)),(.val (.slice none 0 0)),(.val (.slice none 0 0)),(.val (.slice none 0 0)),(ac 0),(ac 0),(.val (.slice none 0 0))]),(au false)]) ⟨_,_,rfl,⟨_,_,_,_,_,rfl,rfl,rfl,rfl⟩,_,_,rfl,rfl,rfl⟩ (PLe.of2 (lZ.tup (gp.cons (lZ.agg (gp.cons (lZ.of_eq rfl) (gp.cons (lZ.of_eq rfl) (gp.cons (lZ.nil tk rfl) (gp.cons (lZ.nil tk rfl) (gp.cons (lZ.nil tk rfl) (gp.cons (lZ.nil tk rfl) (gp.cons (lZ.of_eq rfl) (gp.cons (lZ.of_eq rfl) (gp.cons (lZ.nil tk rfl) gp.nil)))))))))) (gp.cons (lZ.of_eq rfl) gp.nil))))
 refine ax (ae (aa (ak tk ?_)))
 refine al tk ?_
 refine ah tk rfl (ab ?_)
 obtain rfl := az H
 refine bd tk rfl (ps := [(.agg (ao t10.2)),(au true)]) ⟨_,_,rfl,⟨_,_,_,_,_,rfl,rfl,rfl,rfl⟩,_,_,rfl,rfl,rfl⟩ (PLe.q rfl)
def jL (sA : LSchema) (q : LQuery) (rule : Int) : Option (LQuery × Bool) :=
 ag (cb sA q) fun x21 =>
 bq (
  cond (x21.2 != (0 : Int))
   (true)
   ((q.kind == (1 : Int)))) fun (t1 : Bool) =>
 cond t1
  (some ((LQuery.mk 0 [] [] [] [] [] 0 0 []),false))
  (ag (kK q) fun x35 =>
  ag (aT x35.inputs 0) fun (x38 : LQuery) =>
  bq (
   cond (decide (rule ≥ (1 : Int)))
    (cond (decide (rule ≤ (9 : Int)))
     ((x35.kind == (2 : Int)))
     (false))
    (false)) fun (t2 : Bool) =>
  ag (
   cond t2
    (none)
    (ag (
     cond (rule == (10 : Int))
      (none)
      (some ())) fun (_ : Unit) =>
    ag (
     cond (rule == (11 : Int))
      (none)
      (some ())) fun (_ : Unit) =>
    ag (
     cond (rule == (12 : Int))
      (none)
      (some ())) fun (_ : Unit) =>
    bq (
     cond (rule == (13 : Int))
      (cond (x35.kind == (3 : Int))
       ((x38.kind == (3 : Int)))
       (false))
      (false)) fun (t14 : Bool) =>
    cond t14
     (ag (ia x35 x38) fun x119 =>
     some (true,x119))
     (ag (
      cond (rule == (14 : Int))
       (none)
       (some ())) fun (_ : Unit) =>
     ag (
      cond (rule == (15 : Int))
       (none)
       (some ())) fun (_ : Unit) =>
     ag (
      cond (rule == (16 : Int))
       (none)
       (some ())) fun (_ : Unit) =>
     some (false,(LQuery.mk 0 [] [] [] [] [] 0 0 []))))) fun (t10 : Bool × LQuery) =>
  cond (!t10.1)
   (some ((LQuery.mk 0 [] [] [] [] [] 0 0 []),false))
   (ag (cb sA t10.2) fun x196 =>
   cond (x196.2 != (0 : Int))
    (some ((LQuery.mk 0 [] [] [] [] [] 0 0 []),false))
    (some (t10.2,true))))
theorem qz (sA : LSchema) (q : LQuery) (rule : Int) (r : LQuery × Bool) (H : jL sA q rule = some r) :
  aS Tryz.prog 71 [(.agg (aD sA)),(.agg (ao q)),(ac rule)] (.tup [(.agg (ao r.1)),(au r.2)]) := by
 unfold jL at H
 refine PH.ay Tryz.func71 Tryz.ntmps71 ?_
 refine ae (aa (aI ?_))
 refine ii (d := 4) fun b4=>?_
 refine aB tk fun b6=>?_
 refine ah tk rfl (ab (ae (ae (aa (ah tk rfl (ak tk ?_))))))
 obtain ⟨x21,h21,H⟩ := av H
 have s21 := dP sA q _ h21
 refine aq Tryz.call25 (eJ.r) s21 ?_
 refine af 5 tk rfl (ab (ae ?_))
 refine cg (γ := Unit) (fun t1 g1=>⟨203,upd (upd (upd (upd (upd (fun _=>.any) 30 (au t1)) 6 (.box 6 b6 0)) 4 (.box 4 b4 0)) 3 (.ptr (aD sA))) 2 (ac rule),upd (upd (fun _=>none) 6 (some ⟨b6,[(ac 0),(.str []),(.val (.slice none 0 0)),(.val (.slice none 0 0)),(.val (.slice none 0 0)),(.val (.slice none 0 0)),(ac 0),(ac 0),(.val (.slice none 0 0))]⟩)) 4 (some ⟨b4,(ao q)⟩),fun _=>none⟩) H (fun _ H=>?_) (fun t1 g1 H=>?_)
 ·refine aa (af 3 tk rfl ?_)
  refine aN rfl rfl rfl H (fun H=>?_) (fun H=>?_)
  ·refine af 4 tk rfl (ab ?_)
   refine aJ _ () H Gh.d
  refine ah tk rfl (ak tk ?_)
  refine af 2 tk rfl (ab ?_)
  refine aJ _ () H Gh.d
 refine aP rfl H (fun H=>?_) (fun H=>?_)
 ·refine ae (aa (ah tk rfl (al tk ?_)))
  refine ah tk rfl (ab ?_)
  obtain rfl := az H
  refine bd tk rfl (ps := [(.agg [(ac 0),(.str []),(.val (.slice none 0 0)),(.val (.slice none 0 0)),(.val (.slice none 0 0)),(.val (.slice none 0 0)),(ac 0),(ac 0),(.val (.slice none 0 0))]),(au false)]) ⟨_,_,rfl,⟨_,_,_,_,_,rfl,rfl,rfl,rfl⟩,_,_,rfl,rfl,rfl⟩ (PLe.of2 (lZ.tup (gp.cons (lZ.agg (gp.cons (lZ.of_eq rfl) (gp.cons (lZ.of_eq rfl) (gp.cons (lZ.nil tk rfl) (gp.cons (lZ.nil tk rfl) (gp.cons (lZ.nil tk rfl) (gp.cons (lZ.nil tk rfl) (gp.cons (lZ.of_eq rfl) (gp.cons (lZ.of_eq rfl) (gp.cons (lZ.nil tk rfl) gp.nil)))))))))) (gp.cons (lZ.of_eq rfl) gp.nil))))
 refine ax (ae (aa (af 2 tk rfl ?_)))
 refine aB tk fun b10=>?_
 refine al tk ?_
 refine ab (ae (aa (ak tk ?_)))
 obtain ⟨x35,h35,H⟩ := av H
 have s35 := rj (m := 35) q _ h35
 refine nI (g := 27) rfl rfl rfl Tryz.call27 (eJ.r) rfl rfl s35 (fun g35=>?_)
 refine al tk ?_
 refine ab (ae (aa (ah tk rfl (ak tk ?_))))
 obtain ⟨x38,k38,H⟩ := bB H
 refine aY tk k38.1 (aR aK k38.2) ?_
 refine ah tk rfl ?_
 refine aB tk fun b11=>?_
 refine al tk ?_
 refine ab (ae (aa ?_))
 refine aB tk fun b12=>?_
 refine ab (aw 1 tk rfl (ae (aG (ae ?_))))
 refine cg (γ := Unit) (fun t2 g2=>⟨203,upd (upd (upd (upd (upd (upd (upd (upd (upd (fun _=>.any) 40 (au t2)) 13 (au false)) 12 (.box 12 b12 0)) 11 (.box 11 b11 0)) 10 (.box 10 b10 0)) 6 (.box 6 b6 0)) 4 (.box 4 b4 0)) 3 (.ptr (aD sA))) 2 (ac rule),upd (upd (upd (upd (upd (fun _=>none) 12 (some ⟨b12,[(ac 0),(.str []),(.val (.slice none 0 0)),(.val (.slice none 0 0)),(.val (.slice none 0 0)),(.val (.slice none 0 0)),(ac 0),(ac 0),(.val (.slice none 0 0))]⟩)) 11 (some ⟨b11,(ao x38)⟩)) 10 (some ⟨b10,(aD sA)⟩)) 6 (some ⟨b6,[(ac 0),(.str []),(.val (.slice none 0 0)),(.val (.slice none 0 0)),(.val (.slice none 0 0)),(.val (.slice none 0 0)),(ac 0),(ac 0),(.val (.slice none 0 0))]⟩)) 4 (some ⟨b4,[(ac x35.kind),(.str x35.table),(.list 9 (x35.names.map aE)),(.own 35 g35 (x35.exprs.map am).length),(.list 88 (x35.aggregates.map aO)),(.list 4 (x35.descending.map aV)),(ac x35.count),(ac x35.offset),(.list 33 (x35.inputs.map ap))]⟩),upd (fun _=>none) 35 (some ⟨g35,91,(x35.exprs.map am),true⟩)⟩) H (fun _ H=>?_) (fun t2 g2 H=>?_)
 ·refine aa (af 3 tk rfl ?_)
  refine aN rfl rfl rfl H (fun H=>?_) (fun H=>?_)
  ·refine af 4 tk rfl ?_
   refine aN rfl rfl rfl H (fun H=>?_) (fun H=>?_)
   ·refine ah tk rfl (ak tk ?_)
    refine af 3 tk rfl (ab ?_)
    refine aJ _ () H Gh.d
   refine af 5 tk rfl (ab ?_)
   refine aJ _ () H Gh.d
  refine af 9 tk rfl (ab ?_)
  refine aJ _ () H Gh.d
 refine bY (γ := Unit) (fun t10 g10=>⟨203,upd (upd (upd (upd (fun _=>.any) 13 (au t10.1)) 12 (.box 12 b12 0)) 6 (.box 6 b6 0)) 3 (.ptr (aD sA)),upd (upd (fun _=>none) 12 (some ⟨b12,(ao t10.2)⟩)) 6 (some ⟨b6,[(ac 0),(.str []),(.val (.slice none 0 0)),(.val (.slice none 0 0)),(.val (.slice none 0 0)),(.val (.slice none 0 0)),(ac 0),(ac 0),(.val (.slice none 0 0))]⟩),fun _=>none⟩) H (fun _ H=>?_) (fun t10 g10 H=>?_)
 ·refine aP rfl H (fun H=>?_) (fun H=>?_)
  ·refine bD 4 3 rfl rfl rfl rfl rfl (aa (ak tk ?_))
   refine ak tk ?_
   refine ak tk ?_
   refine ah tk rfl ?_
   cases H
  refine ae ?_
  refine bY (γ := Unit) (fun t11 g11=>⟨203,upd (upd (upd (upd (upd (upd (upd (upd (upd (fun _=>.any) 60 (au false)) 13 (au false)) 12 (.box 12 b12 0)) 11 (.box 11 b11 0)) 10 (.box 10 b10 0)) 6 (.box 6 b6 0)) 4 (.box 4 b4 0)) 3 (.ptr (aD sA))) 2 (ac rule),upd (upd (upd (upd (upd (fun _=>none) 12 (some ⟨b12,[(ac 0),(.str []),(.val (.slice none 0 0)),(.val (.slice none 0 0)),(.val (.slice none 0 0)),(.val (.slice none 0 0)),(ac 0),(ac 0),(.val (.slice none 0 0))]⟩)) 11 (some ⟨b11,(ao x38)⟩)) 10 (some ⟨b10,(aD sA)⟩)) 6 (some ⟨b6,[(ac 0),(.str []),(.val (.slice none 0 0)),(.val (.slice none 0 0)),(.val (.slice none 0 0)),(.val (.slice none 0 0)),(ac 0),(ac 0),(.val (.slice none 0 0))]⟩)) 4 (some ⟨b4,[(ac x35.kind),(.str x35.table),(.list 9 (x35.names.map aE)),(.own 35 g35 (x35.exprs.map am).length),(.list 88 (x35.aggregates.map aO)),(.list 4 (x35.descending.map aV)),(ac x35.count),(ac x35.offset),(.list 33 (x35.inputs.map ap))]⟩),upd (fun _=>none) 35 (some ⟨g35,91,(x35.exprs.map am),true⟩)⟩) H (fun _ H=>?_) (fun t11 g11 H=>?_)
  ·refine aa (af 3 tk rfl ?_)
   refine aN rfl rfl rfl H (fun H=>?_) (fun H=>?_)
   ·cases H
   refine af 5 tk rfl (ab ?_)
   refine aJ _ () (az H) Gh.d
  refine bQ rfl (ae ?_)
  refine bY (γ := Unit) (fun t12 g12=>⟨203,upd (upd (upd (upd (upd (upd (upd (upd (upd (fun _=>.any) 73 (au false)) 13 (au false)) 12 (.box 12 b12 0)) 11 (.box 11 b11 0)) 10 (.box 10 b10 0)) 6 (.box 6 b6 0)) 4 (.box 4 b4 0)) 3 (.ptr (aD sA))) 2 (ac rule),upd (upd (upd (upd (upd (fun _=>none) 12 (some ⟨b12,[(ac 0),(.str []),(.val (.slice none 0 0)),(.val (.slice none 0 0)),(.val (.slice none 0 0)),(.val (.slice none 0 0)),(ac 0),(ac 0),(.val (.slice none 0 0))]⟩)) 11 (some ⟨b11,(ao x38)⟩)) 10 (some ⟨b10,(aD sA)⟩)) 6 (some ⟨b6,[(ac 0),(.str []),(.val (.slice none 0 0)),(.val (.slice none 0 0)),(.val (.slice none 0 0)),(.val (.slice none 0 0)),(ac 0),(ac 0),(.val (.slice none 0 0))]⟩)) 4 (some ⟨b4,[(ac x35.kind),(.str x35.table),(.list 9 (x35.names.map aE)),(.own 35 g35 (x35.exprs.map am).length),(.list 88 (x35.aggregates.map aO)),(.list 4 (x35.descending.map aV)),(ac x35.count),(ac x35.offset),(.list 33 (x35.inputs.map ap))]⟩),upd (fun _=>none) 35 (some ⟨g35,91,(x35.exprs.map am),true⟩)⟩) H (fun _ H=>?_) (fun t12 g12 H=>?_)
  ·refine aa (af 3 tk rfl ?_)
   refine aN rfl rfl rfl H (fun H=>?_) (fun H=>?_)
   ·cases H
   refine af 5 tk rfl (ab ?_)
   refine aJ _ () (az H) Gh.d
  refine bQ rfl (ae ?_)
  refine bY (γ := Unit) (fun t13 g13=>⟨203,upd (upd (upd (upd (upd (upd (upd (upd (upd (fun _=>.any) 84 (au false)) 13 (au false)) 12 (.box 12 b12 0)) 11 (.box 11 b11 0)) 10 (.box 10 b10 0)) 6 (.box 6 b6 0)) 4 (.box 4 b4 0)) 3 (.ptr (aD sA))) 2 (ac rule),upd (upd (upd (upd (upd (fun _=>none) 12 (some ⟨b12,[(ac 0),(.str []),(.val (.slice none 0 0)),(.val (.slice none 0 0)),(.val (.slice none 0 0)),(.val (.slice none 0 0)),(ac 0),(ac 0),(.val (.slice none 0 0))]⟩)) 11 (some ⟨b11,(ao x38)⟩)) 10 (some ⟨b10,(aD sA)⟩)) 6 (some ⟨b6,[(ac 0),(.str []),(.val (.slice none 0 0)),(.val (.slice none 0 0)),(.val (.slice none 0 0)),(.val (.slice none 0 0)),(ac 0),(ac 0),(.val (.slice none 0 0))]⟩)) 4 (some ⟨b4,[(ac x35.kind),(.str x35.table),(.list 9 (x35.names.map aE)),(.own 35 g35 (x35.exprs.map am).length),(.list 88 (x35.aggregates.map aO)),(.list 4 (x35.descending.map aV)),(ac x35.count),(ac x35.offset),(.list 33 (x35.inputs.map ap))]⟩),upd (fun _=>none) 35 (some ⟨g35,91,(x35.exprs.map am),true⟩)⟩) H (fun _ H=>?_) (fun t13 g13 H=>?_)
  ·refine aa (af 3 tk rfl ?_)
   refine aN rfl rfl rfl H (fun H=>?_) (fun H=>?_)
   ·cases H
   refine af 10 tk rfl (ab ?_)
   refine aJ _ () (az H) Gh.d
  refine bQ rfl (ae ?_)
  refine cg (γ := Unit) (fun t14 g14=>⟨203,upd (upd (upd (upd (upd (upd (upd (upd (fun _=>.any) 104 (au t14)) 13 (au false)) 12 (.box 12 b12 0)) 11 (.box 11 b11 0)) 6 (.box 6 b6 0)) 4 (.box 4 b4 0)) 3 (.ptr (aD sA))) 2 (ac rule),upd (upd (upd (upd (fun _=>none) 12 (some ⟨b12,[(ac 0),(.str []),(.val (.slice none 0 0)),(.val (.slice none 0 0)),(.val (.slice none 0 0)),(.val (.slice none 0 0)),(ac 0),(ac 0),(.val (.slice none 0 0))]⟩)) 11 (some ⟨b11,(ao x38)⟩)) 6 (some ⟨b6,[(ac 0),(.str []),(.val (.slice none 0 0)),(.val (.slice none 0 0)),(.val (.slice none 0 0)),(.val (.slice none 0 0)),(ac 0),(ac 0),(.val (.slice none 0 0))]⟩)) 4 (some ⟨b4,[(ac x35.kind),(.str x35.table),(.list 9 (x35.names.map aE)),(.own 35 g35 (x35.exprs.map am).length),(.list 88 (x35.aggregates.map aO)),(.list 4 (x35.descending.map aV)),(ac x35.count),(ac x35.offset),(.list 33 (x35.inputs.map ap))]⟩),upd (fun _=>none) 35 (some ⟨g35,91,(x35.exprs.map am),true⟩)⟩) H (fun _ H=>?_) (fun t14 g14 H=>?_)
  ·refine aa (af 3 tk rfl ?_)
   refine aN rfl rfl rfl H (fun H=>?_) (fun H=>?_)
   ·refine ah tk rfl (ak tk ?_)
    refine af 3 tk rfl ?_
    refine aN rfl rfl rfl H (fun H=>?_) (fun H=>?_)
    ·refine ah tk rfl (ak tk ?_)
     refine af 3 tk rfl (ab ?_)
     refine aJ _ () H Gh.d
    refine af 5 tk rfl (ab ?_)
    refine aJ _ () H Gh.d
   refine af 10 tk rfl (ab ?_)
   refine aJ _ () H Gh.d
  refine aP rfl H (fun H=>?_) (fun H=>?_)
  ·refine aa (ak tk ?_)
   refine ak tk ?_
   obtain ⟨x119,h119,H⟩ := av H
   have s119 := nr g35 x35 x38 _ h119
   refine gQ (g := 117) rfl rfl rfl Tryz.call117 [] [(35,3000)] rfl rfl rfl rfl (eJ.cons (PLe.agg (eJ.cons (PLe.refl _ _) <| eJ.cons (PLe.refl _ _) <| eJ.cons (PLe.refl _ _) <| eJ.cons (PLe.of2 (lZ.own rfl)) <| eJ.cons (PLe.refl _ _) <| eJ.cons (PLe.refl _ _) <| eJ.cons (PLe.refl _ _) <| eJ.cons (PLe.refl _ _) <| eJ.cons (PLe.refl _ _) <| eJ.nil _)) <| eJ.cons (PLe.refl _ _) <| eJ.nil _) (by rw [gg,fy,gd]; rfl) s119 ?_
   rintro u119 H119h ⟨rfl,rfl⟩
   refine ⟨_,rfl,?_⟩
   refine gv (st' := ⟨_,_,upd (upd (upd (upd (fun _=>none) 12 (some ⟨b12,[(ac 0),(.str []),(.val (.slice none 0 0)),(.val (.slice none 0 0)),(.val (.slice none 0 0)),(.val (.slice none 0 0)),(ac 0),(ac 0),(.val (.slice none 0 0))]⟩)) 11 (some ⟨b11,(ao x38)⟩)) 6 (some ⟨b6,[(ac 0),(.str []),(.val (.slice none 0 0)),(.val (.slice none 0 0)),(.val (.slice none 0 0)),(.val (.slice none 0 0)),(ac 0),(ac 0),(.val (.slice none 0 0))]⟩)) 4 (some ⟨b4,[(ac x35.kind),(.str x35.table),(.list 9 (x35.names.map aE)),(.own 35 g35 (x35.exprs.map am).length),(.list 88 (x35.aggregates.map aO)),(.list 4 (x35.descending.map aV)),(ac x35.count),(ac x35.offset),(.list 33 (x35.inputs.map ap))]⟩),fun _=>none⟩) (Gh.le (fq _ _) (aM rfl (eJ.r) (aM rfl (eJ.r) (aM rfl (eJ.r) (aM rfl (eJ.r) bA)))) bw) ?_
   refine al tk ?_
   refine ah tk rfl (ab ?_)
   refine aJ _ () (az H) Gh.d
  refine ae ?_
  refine bY (γ := Unit) (fun t15 g15=>⟨203,upd (upd (upd (upd (upd (upd (upd (upd (fun _=>.any) 120 (au false)) 13 (au false)) 12 (.box 12 b12 0)) 11 (.box 11 b11 0)) 6 (.box 6 b6 0)) 4 (.box 4 b4 0)) 3 (.ptr (aD sA))) 2 (ac rule),upd (upd (upd (upd (fun _=>none) 12 (some ⟨b12,[(ac 0),(.str []),(.val (.slice none 0 0)),(.val (.slice none 0 0)),(.val (.slice none 0 0)),(.val (.slice none 0 0)),(ac 0),(ac 0),(.val (.slice none 0 0))]⟩)) 11 (some ⟨b11,(ao x38)⟩)) 6 (some ⟨b6,[(ac 0),(.str []),(.val (.slice none 0 0)),(.val (.slice none 0 0)),(.val (.slice none 0 0)),(.val (.slice none 0 0)),(ac 0),(ac 0),(.val (.slice none 0 0))]⟩)) 4 (some ⟨b4,[(ac x35.kind),(.str x35.table),(.list 9 (x35.names.map aE)),(.own 35 g35 (x35.exprs.map am).length),(.list 88 (x35.aggregates.map aO)),(.list 4 (x35.descending.map aV)),(ac x35.count),(ac x35.offset),(.list 33 (x35.inputs.map ap))]⟩),upd (fun _=>none) 35 (some ⟨g35,91,(x35.exprs.map am),true⟩)⟩) H (fun _ H=>?_) (fun t15 g15 H=>?_)
  ·refine aa (af 3 tk rfl ?_)
   refine aN rfl rfl rfl H (fun H=>?_) (fun H=>?_)
   ·cases H
   refine af 10 tk rfl (ab ?_)
   refine aJ _ () (az H) Gh.d
  refine bQ rfl (ae ?_)
  refine bY (γ := Unit) (fun t16 g16=>⟨203,upd (upd (upd (upd (upd (upd (upd (upd (fun _=>.any) 150 (au false)) 13 (au false)) 12 (.box 12 b12 0)) 11 (.box 11 b11 0)) 6 (.box 6 b6 0)) 4 (.box 4 b4 0)) 3 (.ptr (aD sA))) 2 (ac rule),upd (upd (upd (upd (fun _=>none) 12 (some ⟨b12,[(ac 0),(.str []),(.val (.slice none 0 0)),(.val (.slice none 0 0)),(.val (.slice none 0 0)),(.val (.slice none 0 0)),(ac 0),(ac 0),(.val (.slice none 0 0))]⟩)) 11 (some ⟨b11,(ao x38)⟩)) 6 (some ⟨b6,[(ac 0),(.str []),(.val (.slice none 0 0)),(.val (.slice none 0 0)),(.val (.slice none 0 0)),(.val (.slice none 0 0)),(ac 0),(ac 0),(.val (.slice none 0 0))]⟩)) 4 (some ⟨b4,[(ac x35.kind),(.str x35.table),(.list 9 (x35.names.map aE)),(.own 35 g35 (x35.exprs.map am).length),(.list 88 (x35.aggregates.map aO)),(.list 4 (x35.descending.map aV)),(ac x35.count),(ac x35.offset),(.list 33 (x35.inputs.map ap))]⟩),upd (fun _=>none) 35 (some ⟨g35,91,(x35.exprs.map am),true⟩)⟩) H (fun _ H=>?_) (fun t16 g16 H=>?_)
  ·refine aa (af 3 tk rfl ?_)
   refine aN rfl rfl rfl H (fun H=>?_) (fun H=>?_)
   ·cases H
   refine af 10 tk rfl (ab ?_)
   refine aJ _ () (az H) Gh.d
  refine bQ rfl (ae ?_)
  refine bY (γ := Unit) (fun t17 g17=>⟨203,upd (upd (upd (upd (upd (upd (upd (fun _=>.any) 169 (au false)) 13 (au false)) 12 (.box 12 b12 0)) 11 (.box 11 b11 0)) 6 (.box 6 b6 0)) 4 (.box 4 b4 0)) 3 (.ptr (aD sA)),upd (upd (upd (upd (fun _=>none) 12 (some ⟨b12,[(ac 0),(.str []),(.val (.slice none 0 0)),(.val (.slice none 0 0)),(.val (.slice none 0 0)),(.val (.slice none 0 0)),(ac 0),(ac 0),(.val (.slice none 0 0))]⟩)) 11 (some ⟨b11,(ao x38)⟩)) 6 (some ⟨b6,[(ac 0),(.str []),(.val (.slice none 0 0)),(.val (.slice none 0 0)),(.val (.slice none 0 0)),(.val (.slice none 0 0)),(ac 0),(ac 0),(.val (.slice none 0 0))]⟩)) 4 (some ⟨b4,[(ac x35.kind),(.str x35.table),(.list 9 (x35.names.map aE)),(.own 35 g35 (x35.exprs.map am).length),(.list 88 (x35.aggregates.map aO)),(.list 4 (x35.descending.map aV)),(ac x35.count),(ac x35.offset),(.list 33 (x35.inputs.map ap))]⟩),upd (fun _=>none) 35 (some ⟨g35,91,(x35.exprs.map am),true⟩)⟩) H (fun _ H=>?_) (fun t17 g17 H=>?_)
  ·refine aa (af 3 tk rfl ?_)
   refine aN rfl rfl rfl H (fun H=>?_) (fun H=>?_)
   ·cases H
   refine af 10 tk rfl (ab ?_)
   refine aJ _ () (az H) Gh.d
  refine bQ rfl (ax ?_)
  refine aJ _ () (az H) (Gh.le (aL (aL (aL (aL bM)))) (aM rfl (eJ.r) (aM rfl (eJ.of2 (gp.cons (lZ.of_eq rfl) (gp.cons (lZ.of_eq rfl) (gp.cons (lZ.nil tk rfl) (gp.cons (lZ.nil tk rfl) (gp.cons (lZ.nil tk rfl) (gp.cons (lZ.nil tk rfl) (gp.cons (lZ.of_eq rfl) (gp.cons (lZ.of_eq rfl) (gp.cons (lZ.nil tk rfl) gp.nil)))))))))) bA)) bw)
 refine bc (ae (aw 2 tk rfl ?_))
 refine aP rfl H (fun H=>?_) (fun H=>?_)
 ·refine ae (aa (ah tk rfl (al tk ?_)))
  refine ah tk rfl (ab ?_)
  obtain rfl := az H
  refine bd tk rfl (ps := [(.agg [(ac 0),(.str []),(.val (.slice none 0 0)),(.val (.slice none 0 0)),(.val (.slice none 0 0)),(.val (.slice none 0 0)),(ac 0),(ac 0),(.val (.slice none 0 0))]),(au false)]) ⟨_,_,rfl,⟨_,_,_,_,_,rfl,rfl,rfl,rfl⟩,_,_,rfl,rfl,rfl⟩ (PLe.of2 (lZ.tup (gp.cons (lZ.agg (gp.cons (lZ.of_eq rfl) (gp.cons (lZ.of_eq rfl) (gp.cons (lZ.nil tk rfl) (gp.cons (lZ.nil tk rfl) (gp.cons (lZ.nil tk rfl) (gp.cons (lZ.nil tk rfl) (gp.cons (lZ.of_eq rfl) (gp.cons (lZ.of_eq rfl) (gp.cons (lZ.nil tk rfl) gp.nil)))))))))) (gp.cons (lZ.of_eq rfl) gp.nil))))
 refine ax (ae (aa (ah tk rfl (ak tk ?_))))
 obtain ⟨x196,h196,H⟩ := av H
 have s196 := dP sA t10.2 _ h196
 refine aq Tryz.call25 (eJ.r) s196 ?_
 refine af 5 tk rfl (ab (ae (aw 2 tk rfl ?_)))
 refine aP rfl H (fun H=>?_) (fun H=>?_)
 ·refine ae (aa (ah tk rfl (al tk ?_)))
  refine ah tk rfl (ab ?_)
  obtain rfl := az H
  refine bd tk rfl (ps := [(.agg [(ac 0),(.str []),(.val (.slice none 0 0)),(.val (.slice none 0 0)),(.val (.slice none 0 0)),(.val (.slice none 0 0)),(ac 0),(ac 0),(.val (.slice none 0 0))]),(au false)]) ⟨_,_,rfl,⟨_,_,_,_,_,rfl,rfl,rfl,rfl⟩,_,_,rfl,rfl,rfl⟩ (PLe.of2 (lZ.tup (gp.cons (lZ.agg (gp.cons (lZ.of_eq rfl) (gp.cons (lZ.of_eq rfl) (gp.cons (lZ.nil tk rfl) (gp.cons (lZ.nil tk rfl) (gp.cons (lZ.nil tk rfl) (gp.cons (lZ.nil tk rfl) (gp.cons (lZ.of_eq rfl) (gp.cons (lZ.of_eq rfl) (gp.cons (lZ.nil tk rfl) gp.nil)))))))))) (gp.cons (lZ.of_eq rfl) gp.nil))))
 refine ax (ae (aa (ak tk ?_)))
 refine al tk ?_
 refine ah tk rfl (ab ?_)
 obtain rfl := az H
 refine bd tk rfl (ps := [(.agg (ao t10.2)),(au true)]) ⟨_,_,rfl,⟨_,_,_,_,_,rfl,rfl,rfl,rfl⟩,_,_,rfl,rfl,rfl⟩ (PLe.q rfl)
def jK (sA : LSchema) (q : LQuery) (rule : Int) : Option (LQuery × Bool) :=
 ag (cb sA q) fun x21 =>
 bq (
  cond (x21.2 != (0 : Int))
   (true)
   ((q.kind == (1 : Int)))) fun (t1 : Bool) =>
 cond t1
  (some ((LQuery.mk 0 [] [] [] [] [] 0 0 []),false))
  (ag (gE q) fun x35 =>
  ag (aT x35.inputs 0) fun (x38 : LQuery) =>
  bq (
   cond (decide (rule ≥ (1 : Int)))
    (cond (decide (rule ≤ (9 : Int)))
     ((x35.kind == (2 : Int)))
     (false))
    (false)) fun (t2 : Bool) =>
  ag (
   cond t2
    (none)
    (bq (
     cond (rule == (10 : Int))
      ((x35.kind == (4 : Int)))
      (false)) fun (t11 : Bool) =>
    cond t11
     (none)
     (bq (
      cond (rule == (11 : Int))
       ((x35.kind == (4 : Int)))
       (false)) fun (t12 : Bool) =>
     cond t12
      (ag (gC (LRewriteRewriter.mk sA) x35) fun x83 =>
      some (true,x83))
      (bq (
       cond (rule == (12 : Int))
        (cond (x35.kind == (4 : Int))
         ((x38.kind == (4 : Int)))
         (false))
        (false)) fun (t13 : Bool) =>
      cond t13
       (ag (fQ (LRewriteRewriter.mk sA) x35 x38) fun x101 =>
       some (x101.2,x101.1))
       (bq (
        cond (rule == (13 : Int))
         (cond (x35.kind == (3 : Int))
          ((x38.kind == (3 : Int)))
          (false))
         (false)) fun (t14 : Bool) =>
       cond t14
        (none)
        (bq (
         cond (rule == (14 : Int))
          (cond (x35.kind == (6 : Int))
           ((x38.kind == (6 : Int)))
           (false))
          (false)) fun (t15 : Bool) =>
        cond t15
         (ag (aT x38.inputs 1) fun (x135 : LQuery) =>
         ag (aT x35.inputs 1) fun (x139 : LQuery) =>
         ag (aT x38.inputs 0) fun (x145 : LQuery) =>
         some (true,(LQuery.mk 6 [] [] [] [] [] 0 0 [x145,(LQuery.mk 6 [] [] [] [] [] 0 0 [x135,x139])])))
         (bq (
          cond (rule == (15 : Int))
           (cond (x35.kind == (10 : Int))
            ((x38.kind == (10 : Int)))
            (false))
           (false)) fun (t16 : Bool) =>
         cond t16
          (bq (eV x35 x38) fun x166 =>
          some (x166.2,x166.1))
          (bq (
           cond (rule == (16 : Int))
            (cond (x35.kind == (10 : Int))
             ((x38.kind == (3 : Int)))
             (false))
            (false)) fun (t17 : Bool) =>
          cond t17
           (some (true,(LQuery.mk x38.kind x38.table x38.names x38.exprs x38.aggregates x38.descending x38.count x38.offset [(LQuery.mk x35.kind x35.table x35.names x35.exprs x35.aggregates x35.descending x35.count x35.offset x38.inputs)])))
           (some (false,(LQuery.mk 0 [] [] [] [] [] 0 0 []))))))))))) fun (t10 : Bool × LQuery) =>
  cond (!t10.1)
   (some ((LQuery.mk 0 [] [] [] [] [] 0 0 []),false))
   (ag (cb sA t10.2) fun x196 =>
   cond (x196.2 != (0 : Int))
    (some ((LQuery.mk 0 [] [] [] [] [] 0 0 []),false))
    (some (t10.2,true))))
theorem qr (sA : LSchema) (q : LQuery) (rule : Int) (r : LQuery × Bool) (H : jK sA q rule = some r) :
  aS Tryz.prog 71 [(.agg (aD sA)),(.agg (ao q)),(ac rule)] (.tup [(.agg (ao r.1)),(au r.2)]) := by
 unfold jK at H
 refine PH.ay Tryz.func71 Tryz.ntmps71 ?_
 refine ae (aa (aI ?_))
 refine ii (d := 4) fun b4=>?_
 refine aB tk fun b6=>?_
 refine ah tk rfl (ab (ae (ae (aa (ah tk rfl (ak tk ?_))))))
 obtain ⟨x21,h21,H⟩ := av H
 have s21 := dP sA q _ h21
 refine aq Tryz.call25 (eJ.r) s21 ?_
 refine af 5 tk rfl (ab (ae ?_))
 refine cg (γ := Unit) (fun t1 g1=>⟨203,upd (upd (upd (upd (upd (fun _=>.any) 30 (au t1)) 6 (.box 6 b6 0)) 4 (.box 4 b4 0)) 3 (.ptr (aD sA))) 2 (ac rule),upd (upd (fun _=>none) 6 (some ⟨b6,[(ac 0),(.str []),(.val (.slice none 0 0)),(.val (.slice none 0 0)),(.val (.slice none 0 0)),(.val (.slice none 0 0)),(ac 0),(ac 0),(.val (.slice none 0 0))]⟩)) 4 (some ⟨b4,(ao q)⟩),fun _=>none⟩) H (fun _ H=>?_) (fun t1 g1 H=>?_)
 ·refine aa (af 3 tk rfl ?_)
  refine aN rfl rfl rfl H (fun H=>?_) (fun H=>?_)
  ·refine af 4 tk rfl (ab ?_)
   refine aJ _ () H Gh.d
  refine ah tk rfl (ak tk ?_)
  refine af 2 tk rfl (ab ?_)
  refine aJ _ () H Gh.d
 refine aP rfl H (fun H=>?_) (fun H=>?_)
 ·refine ae (aa (ah tk rfl (al tk ?_)))
  refine ah tk rfl (ab ?_)
  obtain rfl := az H
  refine bd tk rfl (ps := [(.agg [(ac 0),(.str []),(.val (.slice none 0 0)),(.val (.slice none 0 0)),(.val (.slice none 0 0)),(.val (.slice none 0 0)),(ac 0),(ac 0),(.val (.slice none 0 0))]),(au false)]) ⟨_,_,rfl,⟨_,_,_,_,_,rfl,rfl,rfl,rfl⟩,_,_,rfl,rfl,rfl⟩ (PLe.of2 (lZ.tup (gp.cons (lZ.agg (gp.cons (lZ.of_eq rfl) (gp.cons (lZ.of_eq rfl) (gp.cons (lZ.nil tk rfl) (gp.cons (lZ.nil tk rfl) (gp.cons (lZ.nil tk rfl) (gp.cons (lZ.nil tk rfl) (gp.cons (lZ.of_eq rfl) (gp.cons (lZ.of_eq rfl) (gp.cons (lZ.nil tk rfl) gp.nil)))))))))) (gp.cons (lZ.of_eq rfl) gp.nil))))
 refine ax (ae (aa (af 2 tk rfl ?_)))
 refine aB tk fun b10=>?_
 refine al tk ?_
 refine ab (ae (aa (ak tk ?_)))
 obtain ⟨x35,h35,H⟩ := av H
 have s35 := ka q _ h35
 refine aq Tryz.call27 (eJ.r) s35 ?_
 refine al tk ?_
 refine ab (ae (aa (ah tk rfl (ak tk ?_))))
 obtain ⟨x38,k38,H⟩ := bB H
 refine aY tk k38.1 (aR aK k38.2) ?_
 refine ah tk rfl ?_
 refine aB tk fun b11=>?_
 refine al tk ?_
 refine ab (ae (aa ?_))
 refine aB tk fun b12=>?_
 refine ab (aw 1 tk rfl (ae (aG (ae ?_))))
 refine cg (γ := Unit) (fun t2 g2=>⟨203,upd (upd (upd (upd (upd (upd (upd (upd (upd (fun _=>.any) 40 (au t2)) 13 (au false)) 12 (.box 12 b12 0)) 11 (.box 11 b11 0)) 10 (.box 10 b10 0)) 6 (.box 6 b6 0)) 4 (.box 4 b4 0)) 3 (.ptr (aD sA))) 2 (ac rule),upd (upd (upd (upd (upd (fun _=>none) 12 (some ⟨b12,[(ac 0),(.str []),(.val (.slice none 0 0)),(.val (.slice none 0 0)),(.val (.slice none 0 0)),(.val (.slice none 0 0)),(ac 0),(ac 0),(.val (.slice none 0 0))]⟩)) 11 (some ⟨b11,(ao x38)⟩)) 10 (some ⟨b10,(aD sA)⟩)) 6 (some ⟨b6,[(ac 0),(.str []),(.val (.slice none 0 0)),(.val (.slice none 0 0)),(.val (.slice none 0 0)),(.val (.slice none 0 0)),(ac 0),(ac 0),(.val (.slice none 0 0))]⟩)) 4 (some ⟨b4,(ao x35)⟩),fun _=>none⟩) H (fun _ H=>?_) (fun t2 g2 H=>?_)
 ·refine aa (af 3 tk rfl ?_)
  refine aN rfl rfl rfl H (fun H=>?_) (fun H=>?_)
  ·refine af 4 tk rfl ?_
   refine aN rfl rfl rfl H (fun H=>?_) (fun H=>?_)
   ·refine ah tk rfl (ak tk ?_)
    refine af 3 tk rfl (ab ?_)
    refine aJ _ () H Gh.d
   refine af 5 tk rfl (ab ?_)
   refine aJ _ () H Gh.d
  refine af 9 tk rfl (ab ?_)
  refine aJ _ () H Gh.d
 refine bY (γ := Unit) (fun t10 g10=>⟨203,upd (upd (upd (upd (fun _=>.any) 13 (au t10.1)) 12 (.box 12 b12 0)) 6 (.box 6 b6 0)) 3 (.ptr (aD sA)),upd (upd (fun _=>none) 12 (some ⟨b12,(ao t10.2)⟩)) 6 (some ⟨b6,[(ac 0),(.str []),(.val (.slice none 0 0)),(.val (.slice none 0 0)),(.val (.slice none 0 0)),(.val (.slice none 0 0)),(ac 0),(ac 0),(.val (.slice none 0 0))]⟩),fun _=>none⟩) H (fun _ H=>?_) (fun t10 g10 H=>?_)
 ·refine aP rfl H (fun H=>?_) (fun H=>?_)
  ·refine aa (ak tk ?_)
   refine ak tk ?_
   refine ak tk ?_
   refine ah tk rfl ?_
   cases H
  refine ae ?_
  refine cg (γ := Unit) (fun t11 g11=>⟨203,upd (upd (upd (upd (upd (upd (upd (upd (upd (fun _=>.any) 60 (au t11)) 13 (au false)) 12 (.box 12 b12 0)) 11 (.box 11 b11 0)) 10 (.box 10 b10 0)) 6 (.box 6 b6 0)) 4 (.box 4 b4 0)) 3 (.ptr (aD sA))) 2 (ac rule),upd (upd (upd (upd (upd (fun _=>none) 12 (some ⟨b12,[(ac 0),(.str []),(.val (.slice none 0 0)),(.val (.slice none 0 0)),(.val (.slice none 0 0)),(.val (.slice none 0 0)),(ac 0),(ac 0),(.val (.slice none 0 0))]⟩)) 11 (some ⟨b11,(ao x38)⟩)) 10 (some ⟨b10,(aD sA)⟩)) 6 (some ⟨b6,[(ac 0),(.str []),(.val (.slice none 0 0)),(.val (.slice none 0 0)),(.val (.slice none 0 0)),(.val (.slice none 0 0)),(ac 0),(ac 0),(.val (.slice none 0 0))]⟩)) 4 (some ⟨b4,(ao x35)⟩),fun _=>none⟩) H (fun _ H=>?_) (fun t11 g11 H=>?_)
  ·refine aa (af 3 tk rfl ?_)
   refine aN rfl rfl rfl H (fun H=>?_) (fun H=>?_)
   ·refine ah tk rfl (ak tk ?_)
    refine af 3 tk rfl (ab ?_)
    refine aJ _ () H Gh.d
   refine af 5 tk rfl (ab ?_)
   refine aJ _ () H Gh.d
  refine aP rfl H (fun H=>?_) (fun H=>?_)
  ·refine aa (ak tk ?_)
   cases H
  refine ae ?_
  refine cg (γ := Unit) (fun t12 g12=>⟨203,upd (upd (upd (upd (upd (upd (upd (upd (upd (fun _=>.any) 73 (au t12)) 13 (au false)) 12 (.box 12 b12 0)) 11 (.box 11 b11 0)) 10 (.box 10 b10 0)) 6 (.box 6 b6 0)) 4 (.box 4 b4 0)) 3 (.ptr (aD sA))) 2 (ac rule),upd (upd (upd (upd (upd (fun _=>none) 12 (some ⟨b12,[(ac 0),(.str []),(.val (.slice none 0 0)),(.val (.slice none 0 0)),(.val (.slice none 0 0)),(.val (.slice none 0 0)),(ac 0),(ac 0),(.val (.slice none 0 0))]⟩)) 11 (some ⟨b11,(ao x38)⟩)) 10 (some ⟨b10,(aD sA)⟩)) 6 (some ⟨b6,[(ac 0),(.str []),(.val (.slice none 0 0)),(.val (.slice none 0 0)),(.val (.slice none 0 0)),(.val (.slice none 0 0)),(ac 0),(ac 0),(.val (.slice none 0 0))]⟩)) 4 (some ⟨b4,(ao x35)⟩),fun _=>none⟩) H (fun _ H=>?_) (fun t12 g12 H=>?_)
  ·refine aa (af 3 tk rfl ?_)
   refine aN rfl rfl rfl H (fun H=>?_) (fun H=>?_)
   ·refine ah tk rfl (ak tk ?_)
    refine af 3 tk rfl (ab ?_)
    refine aJ _ () H Gh.d
   refine af 5 tk rfl (ab ?_)
   refine aJ _ () H Gh.d
  refine aP rfl H (fun H=>?_) (fun H=>?_)
  ·refine aa (ak tk ?_)
   refine ak tk ?_
   obtain ⟨x83,h83,H⟩ := av H
   have s83 := lW (LRewriteRewriter.mk sA) x35 _ h83
   refine aq Tryz.call115 (eJ.r) s83 ?_
   refine al tk ?_
   refine ah tk rfl (ab ?_)
   refine aJ _ () (az H) Gh.d
  refine ae ?_
  refine cg (γ := Unit) (fun t13 g13=>⟨203,upd (upd (upd (upd (upd (upd (upd (upd (upd (fun _=>.any) 84 (au t13)) 13 (au false)) 12 (.box 12 b12 0)) 11 (.box 11 b11 0)) 10 (.box 10 b10 0)) 6 (.box 6 b6 0)) 4 (.box 4 b4 0)) 3 (.ptr (aD sA))) 2 (ac rule),upd (upd (upd (upd (upd (fun _=>none) 12 (some ⟨b12,[(ac 0),(.str []),(.val (.slice none 0 0)),(.val (.slice none 0 0)),(.val (.slice none 0 0)),(.val (.slice none 0 0)),(ac 0),(ac 0),(.val (.slice none 0 0))]⟩)) 11 (some ⟨b11,(ao x38)⟩)) 10 (some ⟨b10,(aD sA)⟩)) 6 (some ⟨b6,[(ac 0),(.str []),(.val (.slice none 0 0)),(.val (.slice none 0 0)),(.val (.slice none 0 0)),(.val (.slice none 0 0)),(ac 0),(ac 0),(.val (.slice none 0 0))]⟩)) 4 (some ⟨b4,(ao x35)⟩),fun _=>none⟩) H (fun _ H=>?_) (fun t13 g13 H=>?_)
  ·refine aa (af 3 tk rfl ?_)
   refine aN rfl rfl rfl H (fun H=>?_) (fun H=>?_)
   ·refine ah tk rfl (ak tk ?_)
    refine af 3 tk rfl ?_
    refine aN rfl rfl rfl H (fun H=>?_) (fun H=>?_)
    ·refine ah tk rfl (ak tk ?_)
     refine af 3 tk rfl (ab ?_)
     refine aJ _ () H Gh.d
    refine af 5 tk rfl (ab ?_)
    refine aJ _ () H Gh.d
   refine af 10 tk rfl (ab ?_)
   refine aJ _ () H Gh.d
  refine aP rfl H (fun H=>?_) (fun H=>?_)
  ·refine aa (ak tk ?_)
   refine ak tk ?_
   refine ak tk ?_
   obtain ⟨x101,h101,H⟩ := av H
   have s101 := lm (LRewriteRewriter.mk sA) x35 x38 _ h101
   refine aq Tryz.call116 (eJ.r) s101 ?_
   refine af 3 tk rfl (al tk ?_)
   refine ah tk rfl (ab ?_)
   refine aJ _ () (az H) Gh.d
  refine ae ?_
  refine cg (γ := Unit) (fun t14 g14=>⟨203,upd (upd (upd (upd (upd (upd (upd (upd (fun _=>.any) 104 (au t14)) 13 (au false)) 12 (.box 12 b12 0)) 11 (.box 11 b11 0)) 6 (.box 6 b6 0)) 4 (.box 4 b4 0)) 3 (.ptr (aD sA))) 2 (ac rule),upd (upd (upd (upd (fun _=>none) 12 (some ⟨b12,[(ac 0),(.str []),(.val (.slice none 0 0)),(.val (.slice none 0 0)),(.val (.slice none 0 0)),(.val (.slice none 0 0)),(ac 0),(ac 0),(.val (.slice none 0 0))]⟩)) 11 (some ⟨b11,(ao x38)⟩)) 6 (some ⟨b6,[(ac 0),(.str []),(.val (.slice none 0 0)),(.val (.slice none 0 0)),(.val (.slice none 0 0)),(.val (.slice none 0 0)),(ac 0),(ac 0),(.val (.slice none 0 0))]⟩)) 4 (some ⟨b4,(ao x35)⟩),fun _=>none⟩) H (fun _ H=>?_) (fun t14 g14 H=>?_)
  ·refine aa (af 3 tk rfl ?_)
   refine aN rfl rfl rfl H (fun H=>?_) (fun H=>?_)
   ·refine ah tk rfl (ak tk ?_)
    refine af 3 tk rfl ?_
    refine aN rfl rfl rfl H (fun H=>?_) (fun H=>?_)
    ·refine ah tk rfl (ak tk ?_)
     refine af 3 tk rfl (ab ?_)
     refine aJ _ () H Gh.d
    refine af 5 tk rfl (ab ?_)
    refine aJ _ () H Gh.d
   refine af 10 tk rfl (ab ?_)
   refine aJ _ () H Gh.d
  refine aP rfl H (fun H=>?_) (fun H=>?_)
  ·refine aa (ak tk ?_)
   refine ak tk ?_
   cases H
  refine ae ?_
  refine cg (γ := Unit) (fun t15 g15=>⟨203,upd (upd (upd (upd (upd (upd (upd (upd (fun _=>.any) 120 (au t15)) 13 (au false)) 12 (.box 12 b12 0)) 11 (.box 11 b11 0)) 6 (.box 6 b6 0)) 4 (.box 4 b4 0)) 3 (.ptr (aD sA))) 2 (ac rule),upd (upd (upd (upd (fun _=>none) 12 (some ⟨b12,[(ac 0),(.str []),(.val (.slice none 0 0)),(.val (.slice none 0 0)),(.val (.slice none 0 0)),(.val (.slice none 0 0)),(ac 0),(ac 0),(.val (.slice none 0 0))]⟩)) 11 (some ⟨b11,(ao x38)⟩)) 6 (some ⟨b6,[(ac 0),(.str []),(.val (.slice none 0 0)),(.val (.slice none 0 0)),(.val (.slice none 0 0)),(.val (.slice none 0 0)),(ac 0),(ac 0),(.val (.slice none 0 0))]⟩)) 4 (some ⟨b4,(ao x35)⟩),fun _=>none⟩) H (fun _ H=>?_) (fun t15 g15 H=>?_)
  ·refine aa (af 3 tk rfl ?_)
   refine aN rfl rfl rfl H (fun H=>?_) (fun H=>?_)
   ·refine ah tk rfl (ak tk ?_)
    refine af 3 tk rfl ?_
    refine aN rfl rfl rfl H (fun H=>?_) (fun H=>?_)
    ·refine ah tk rfl (ak tk ?_)
     refine af 3 tk rfl (ab ?_)
     refine aJ _ () H Gh.d
    refine af 5 tk rfl (ab ?_)
    refine aJ _ () H Gh.d
   refine af 10 tk rfl (ab ?_)
   refine aJ _ () H Gh.d
  refine aP rfl H (fun H=>?_) (fun H=>?_)
  ·refine ae (bX 4 ?_)
   refine bs tk mok ⟨true,false,[136,138,140]⟩ [0,1,2,3,4,5,6,7,8,9,10,11] rfl (by decide +kernel) rfl (bi rfl (aU ?_))
   obtain ⟨x135,k135,H⟩ := bB H
   refine bF k135.1 (aR aK k135.2) ?_
   refine bf 3 rfl ?_
   obtain ⟨x139,k139,H⟩ := bB H
   refine bF k139.1 (aR aK k139.2) ?_
   refine bf 3 rfl ?_
   refine oZ rfl rfl rfl rfl rfl rfl rfl rfl fun b14=>?_
   refine bj ?_
   refine bn (bX 14 ?_)
   refine bs tk mok ⟨true,false,[146,147]⟩ [0,1,2,3,4,5,6,7,8] rfl (by decide +kernel) rfl (bi rfl (aU ?_))
   obtain ⟨x145,k145,H⟩ := bB H
   refine bF k145.1 (aR aK k145.2) ?_
   refine bf 4 rfl (bj ?_)
   refine bi rfl (bn ?_)
   refine aJ _ () (az H) (Gh.le (aL (aL (aL (aL bM)))) (aM rfl (eJ.r) (aM rfl (eJ.of2 (gp.cons (lZ.of_eq rfl) (gp.cons (lZ.of_eq rfl) (gp.cons (lZ.nil tk rfl) (gp.cons (lZ.nil tk rfl) (gp.cons (lZ.nil tk rfl) (gp.cons (lZ.nil tk rfl) (gp.cons (lZ.of_eq rfl) (gp.cons (lZ.of_eq rfl) (gp.cons (lZ.list (dz.trans (b := List.map ao [x145,(LQuery.mk 6 [] [] [] [] [] 0 0 [x135,x139])]) (dz.cons (oz.refl _) (dz.cons (oz.cons (lZ.of_eq rfl) (oz.cons (lZ.of_eq rfl) (oz.cons (lZ.nil tk rfl) (oz.cons (lZ.nil tk rfl) (oz.cons (lZ.nil tk rfl) (oz.cons (lZ.nil tk rfl) (oz.cons (lZ.of_eq rfl) (oz.cons (lZ.of_eq rfl) (oz.cons (lZ.list (dz.trans (b := List.map ao [x135,x139]) (dz.refl _) (dz.of_eq (bO aK [x135,x139])))) oz.nil))))))))) dz.nil)) (dz.of_eq (bO aK [x145,(LQuery.mk 6 [] [] [] [] [] 0 0 [x135,x139])])))) gp.nil)))))))))) bA)) bw)
  refine ae ?_
  refine cg (γ := Unit) (fun t16 g16=>⟨203,upd (upd (upd (upd (upd (upd (upd (upd (fun _=>.any) 150 (au t16)) 13 (au false)) 12 (.box 12 b12 0)) 11 (.box 11 b11 0)) 6 (.box 6 b6 0)) 4 (.box 4 b4 0)) 3 (.ptr (aD sA))) 2 (ac rule),upd (upd (upd (upd (fun _=>none) 12 (some ⟨b12,[(ac 0),(.str []),(.val (.slice none 0 0)),(.val (.slice none 0 0)),(.val (.slice none 0 0)),(.val (.slice none 0 0)),(ac 0),(ac 0),(.val (.slice none 0 0))]⟩)) 11 (some ⟨b11,(ao x38)⟩)) 6 (some ⟨b6,[(ac 0),(.str []),(.val (.slice none 0 0)),(.val (.slice none 0 0)),(.val (.slice none 0 0)),(.val (.slice none 0 0)),(ac 0),(ac 0),(.val (.slice none 0 0))]⟩)) 4 (some ⟨b4,(ao x35)⟩),fun _=>none⟩) H (fun _ H=>?_) (fun t16 g16 H=>?_)
  ·refine aa (af 3 tk rfl ?_)
   refine aN rfl rfl rfl H (fun H=>?_) (fun H=>?_)
   ·refine ah tk rfl (ak tk ?_)
    refine af 3 tk rfl ?_
    refine aN rfl rfl rfl H (fun H=>?_) (fun H=>?_)
    ·refine ah tk rfl (ak tk ?_)
     refine af 3 tk rfl (ab ?_)
     refine aJ _ () H Gh.d
    refine af 5 tk rfl (ab ?_)
    refine aJ _ () H Gh.d
   refine af 10 tk rfl (ab ?_)
   refine aJ _ () H Gh.d
  refine aP rfl H (fun H=>?_) (fun H=>?_)
  ·refine aa (ak tk ?_)
   refine ak tk ?_
   obtain ⟨x166,h166,H⟩ := cY H
   have s166 := oj x35 x38
   rw [h166] at s166
   refine aq Tryz.call118 (eJ.r) s166 ?_
   refine af 3 tk rfl (al tk ?_)
   refine ah tk rfl (ab ?_)
   refine aJ _ () (az H) Gh.d
  refine ae ?_
  refine cg (γ := Unit) (fun t17 g17=>⟨203,upd (upd (upd (upd (upd (upd (upd (fun _=>.any) 169 (au t17)) 13 (au false)) 12 (.box 12 b12 0)) 11 (.box 11 b11 0)) 6 (.box 6 b6 0)) 4 (.box 4 b4 0)) 3 (.ptr (aD sA)),upd (upd (upd (upd (fun _=>none) 12 (some ⟨b12,[(ac 0),(.str []),(.val (.slice none 0 0)),(.val (.slice none 0 0)),(.val (.slice none 0 0)),(.val (.slice none 0 0)),(ac 0),(ac 0),(.val (.slice none 0 0))]⟩)) 11 (some ⟨b11,(ao x38)⟩)) 6 (some ⟨b6,[(ac 0),(.str []),(.val (.slice none 0 0)),(.val (.slice none 0 0)),(.val (.slice none 0 0)),(.val (.slice none 0 0)),(ac 0),(ac 0),(.val (.slice none 0 0))]⟩)) 4 (some ⟨b4,(ao x35)⟩),fun _=>none⟩) H (fun _ H=>?_) (fun t17 g17 H=>?_)
  ·refine aa (af 3 tk rfl ?_)
   refine aN rfl rfl rfl H (fun H=>?_) (fun H=>?_)
   ·refine ah tk rfl (ak tk ?_)
    refine af 3 tk rfl ?_
    refine aN rfl rfl rfl H (fun H=>?_) (fun H=>?_)
    ·refine ah tk rfl (ak tk ?_)
     refine af 3 tk rfl (ab ?_)
     refine aJ _ () H Gh.d
    refine af 5 tk rfl (ab ?_)
    refine aJ _ () H Gh.d
   refine af 10 tk rfl (ab ?_)
   refine aJ _ () H Gh.d
  refine aP rfl H (fun H=>?_) (fun H=>?_)
  ·refine ae (aa (ak tk ?_))
   refine aB tk fun b15=>?_
   refine al tk ?_
   refine ab (ae (aa (ah tk rfl (ak tk ?_))))
   refine ah tk rfl (al tk ?_)
   refine ab (ae (aa (ak tk ?_)))
   refine ct tk (rows' := List.map ap ([(LQuery.mk x35.kind x35.table x35.names x35.exprs x35.aggregates x35.descending x35.count x35.offset x38.inputs)] : List LQuery)) (dz.trans (b := List.map ao [(LQuery.mk x35.kind x35.table x35.names x35.exprs x35.aggregates x35.descending x35.count x35.offset x38.inputs)]) (dz.refl _) (dz.of_eq (bO aK [(LQuery.mk x35.kind x35.table x35.names x35.exprs x35.aggregates x35.descending x35.count x35.offset x38.inputs)]))) ?_
   refine ah tk rfl (al tk ?_)
   refine ab (aa (ak tk ?_))
   refine al tk ?_
   refine ah tk rfl (ab ?_)
   refine aJ _ () (az H) Gh.d
  refine ax ?_
  refine aJ _ () (az H) (Gh.le (aL (aL (aL (aL bM)))) (aM rfl (eJ.r) (aM rfl (eJ.of2 (gp.cons (lZ.of_eq rfl) (gp.cons (lZ.of_eq rfl) (gp.cons (lZ.nil tk rfl) (gp.cons (lZ.nil tk rfl) (gp.cons (lZ.nil tk rfl) (gp.cons (lZ.nil tk rfl) (gp.cons (lZ.of_eq rfl) (gp.cons (lZ.of_eq rfl) (gp.cons (lZ.nil tk rfl) gp.nil)))))))))) bA)) bw)
 refine bc (ae (aw 2 tk rfl ?_))
 refine aP rfl H (fun H=>?_) (fun H=>?_)
 ·refine ae (aa (ah tk rfl (al tk ?_)))
  refine ah tk rfl (ab ?_)
  obtain rfl := az H
  refine bd tk rfl (ps := [(.agg [(ac 0),(.str []),(.val (.slice none 0 0)),(.val (.slice none 0 0)),(.val (.slice none 0 0)),(.val (.slice none 0 0)),(ac 0),(ac 0),(.val (.slice none 0 0))]),(au false)]) ⟨_,_,rfl,⟨_,_,_,_,_,rfl,rfl,rfl,rfl⟩,_,_,rfl,rfl,rfl⟩ (PLe.of2 (lZ.tup (gp.cons (lZ.agg (gp.cons (lZ.of_eq rfl) (gp.cons (lZ.of_eq rfl) (gp.cons (lZ.nil tk rfl) (gp.cons (lZ.nil tk rfl) (gp.cons (lZ.nil tk rfl) (gp.cons (lZ.nil tk rfl) (gp.cons (lZ.of_eq rfl) (gp.cons (lZ.of_eq rfl) (gp.cons (lZ.nil tk rfl) gp.nil)))))))))) (gp.cons (lZ.of_eq rfl) gp.nil))))
 refine ax (ae (aa (ah tk rfl (ak tk ?_))))
 obtain ⟨x196,h196,H⟩ := av H
 have s196 := dP sA t10.2 _ h196
 refine aq Tryz.call25 (eJ.r) s196 ?_
 refine af 5 tk rfl (ab (ae (aw 2 tk rfl ?_)))
 refine aP rfl H (fun H=>?_) (fun H=>?_)
 ·refine ae (aa (ah tk rfl (al tk ?_)))
  refine ah tk rfl (ab ?_)
  obtain rfl := az H
  refine bd tk rfl (ps := [(.agg [(ac 0),(.str []),(.val (.slice none 0 0)),(.val (.slice none 0 0)),(.val (.slice none 0 0)),(.val (.slice none 0 0)),(ac 0),(ac 0),(.val (.slice none 0 0))]),(au false)]) ⟨_,_,rfl,⟨_,_,_,_,_,rfl,rfl,rfl,rfl⟩,_,_,rfl,rfl,rfl⟩ (PLe.of2 (lZ.tup (gp.cons (lZ.agg (gp.cons (lZ.of_eq rfl) (gp.cons (lZ.of_eq rfl) (gp.cons (lZ.nil tk rfl) (gp.cons (lZ.nil tk rfl) (gp.cons (lZ.nil tk rfl) (gp.cons (lZ.nil tk rfl) (gp.cons (lZ.of_eq rfl) (gp.cons (lZ.of_eq rfl) (gp.cons (lZ.nil tk rfl) gp.nil)))))))))) (gp.cons (lZ.of_eq rfl) gp.nil))))
 refine ax (ae (aa (ak tk ?_)))
 refine al tk ?_
 refine ah tk rfl (ab ?_)
 obtain rfl := az H
 refine bd tk rfl (ps := [(.agg (ao t10.2)),(au true)]) ⟨_,_,rfl,⟨_,_,_,_,_,rfl,rfl,rfl,rfl⟩,_,_,rfl,rfl,rfl⟩ (PLe.q rfl)
def dD (sA : LSchema) (q : LQuery) (rule : Int) : Option (LQuery × Bool) := firstI (gG sA q rule) (firstI (jJ sA q rule) (firstI (jL sA q rule) (jK sA q rule)))
theorem rl (sA : LSchema) (q : LQuery) (rule : Int) (r : LQuery × Bool) (H : dD sA q rule = some r) :
  aS Tryz.prog 71 [(.agg (aD sA)),(.agg (ao q)),(ac rule)] (.tup [(.agg (ao r.1)),(au r.2)]) := by
 unfold dD at H
 rcases nP H with H | H
 ·exact qx sA q rule r H
 rcases nP H with H | H
 ·exact qw sA q rule r H
 rcases nP H with H | H
 ·exact qz sA q rule r H
 exact qr sA q rule r H
def io (rec26 : LSchema → LQuery → Option (LQuery)) (sA : LSchema) (q : LQuery) : Option (LQuery) :=
 ag (fw q) fun x12 =>
 ag (jV (x12.inputs.length : Int)) fun (n1 : Nat) =>
 ag (aH (σ := List LQuery) (ρ := Empty) (fun (j1 : Nat) (_ : Nat) (s1 : List LQuery) =>
  ag (aT s1 (j1 : Int)) fun (x19 : LQuery) =>
  ag (rec26 sA x19) fun x26 =>
  ag (aT s1 (j1 : Int)) fun (_ : LQuery) =>
  bq (s1.set ((j1 : Int).toNat) x26) fun (y4 : List LQuery) =>
  some (.next y4)) 0 (List.range n1) x12.inputs) fun fl1=>fl1.thenP fun (s1 : List LQuery) =>
 cond (x12.kind != (2 : Int))
  (some (LQuery.mk x12.kind x12.table x12.names x12.exprs x12.aggregates x12.descending x12.count x12.offset s1))
  (ag (jV (([1,3,4,5,6,7,8,9] : List Int).length : Int)) fun (n5 : Nat) =>
  ag (aH (σ := List LQuery) (ρ := (LQuery)) (fun (j5 : Nat) (_ : Nat) (s5 : List LQuery) =>
   ag (aT ([1,3,4,5,6,7,8,9] : List Int) (j5 : Int)) fun (x37 : Int) =>
   ag (dD sA (LQuery.mk x12.kind x12.table x12.names x12.exprs x12.aggregates x12.descending x12.count x12.offset s5) x37) fun x43 =>
   cond x43.2
    (ag (rec26 sA x43.1) fun x49 =>
    some (.ret x49))
    (some (.next s5))) 0 (List.range n5) s1) fun fl5=>fl5.thenR fun (s5 : List LQuery) =>
  some (LQuery.mk x12.kind x12.table x12.names x12.exprs x12.aggregates x12.descending x12.count x12.offset s5))
theorem qS (rec26 : LSchema → LQuery → Option (LQuery)) (hrec26 : ∀ a0 a1 r,rec26 a0 a1 = some r → aS Tryz.prog 26 [(.agg (aD a0)),(.agg (ao a1))] (.agg (ao r))) (sA : LSchema) (q : LQuery) (r : LQuery) (H : io rec26 sA q = some r) :
  aS Tryz.prog 26 [(.agg (aD sA)),(.agg (ao q))] (.agg (ao r)) := by
 unfold io at H
 refine PH.ay Tryz.func26 Tryz.ntmps26 ?_
 refine ae (aa (aI ?_))
 refine ii (d := 3) fun b3=>?_
 refine aB tk fun b4=>?_
 refine ab (ae (aa (ak tk ?_)))
 obtain ⟨x12,h12,H⟩ := av H
 have s12 := kP (m := 12) q _ h12
 refine nI (g := 27) rfl rfl rfl Tryz.call27 (eJ.r) rfl rfl s12 (fun g12=>?_)
 refine al tk ?_
 refine ab (ae (ae (aa (ah tk rfl (ak tk ?_)))))
 refine gR tk (zl _) ?_
 refine ah tk rfl (ab ?_)
 obtain ⟨n1,hs1,H⟩ := av H
 have hz1 := jW hs1
 obtain ⟨fl1,H1,Hp1⟩ := av H
 refine kf (τ := List LQuery) (γ := OwnRef) (fun s1 g1=>⟨52,upd (upd (upd (fun _=>.any) 4 (.box 4 b4 0)) 3 (.box 3 b3 0)) 2 (.ptr (aD sA)),upd (upd (fun _=>none) 4 (some ⟨b4,[(ac 0),(.str []),(.val (.slice none 0 0)),(.val (.slice none 0 0)),(.val (.slice none 0 0)),(.val (.slice none 0 0)),(ac 0),(ac 0),(.val (.slice none 0 0))]⟩)) 3 (some ⟨b3,[(ac x12.kind),(.str x12.table),(.list 9 (x12.names.map aE)),(.list 91 (x12.exprs.map am)),(.list 88 (x12.aggregates.map aO)),(.list 4 (x12.descending.map aV)),(ac x12.count),(ac x12.offset),(.own 12 g1 (s1.map ap).length)]⟩),upd (fun _=>none) 12 (some ⟨g1,33,(s1.map ap),true⟩)⟩) (fun t=>fl1 = .next t) ?_ (fun s1 g1 hn1=>?_)
 ·refine aG ?_
  refine jC (fun j1 s1 g1=>⟨52,upd (upd (upd (upd (upd (upd (fun _=>.any) 16 (ac (j1 : Int))) 15 (ac (x12.inputs.length : Int))) 14 (.own 12 g1 (s1.map ap).length)) 4 (.box 4 b4 0)) 3 (.box 3 b3 0)) 2 (.ptr (aD sA)),upd (upd (fun _=>none) 4 (some ⟨b4,[(ac 0),(.str []),(.val (.slice none 0 0)),(.val (.slice none 0 0)),(.val (.slice none 0 0)),(.val (.slice none 0 0)),(ac 0),(ac 0),(.val (.slice none 0 0))]⟩)) 3 (some ⟨b3,[(ac x12.kind),(.str x12.table),(.list 9 (x12.names.map aE)),(.list 91 (x12.exprs.map am)),(.list 88 (x12.aggregates.map aO)),(.list 4 (x12.descending.map aV)),(ac x12.count),(ac x12.offset),(.own 12 g1 (s1.map ap).length)]⟩),upd (fun _=>none) 12 (some ⟨g1,33,(s1.map ap),true⟩)⟩) g12 H1 Gh.d (fun j1 s1 g1 hj1 hr1=>?_)
  refine aw 1 tk rfl (ae ?_)
  refine cC rfl (fun h=>?_) (fun h=>?_)
  ·have hl1 := natLt hz1 h
   obtain ⟨x1,fb1,hx1,H,hg1⟩ := rMc hl1 hr1
   obtain rfl := natX hx1
   refine ax (ae (aG (ae (aa (ah tk rfl ?_)))))
   obtain ⟨x19,k19,H⟩ := bB H
   refine kw (tag := 12) rfl (fun ho12=>?_)
   refine jp tk ⟨k19.1,(dG k19.2)⟩ (dH ho12 k19.2) ?_
   refine nc tk rfl rfl rfl rfl rfl rfl rfl (aR aK k19.2) rfl rfl ?_
   refine aB tk fun b6=>?_
   refine ah tk rfl (al tk ?_)
   refine ab ?_
   refine fX (tag := 12) rfl (fun ho12=>?_)
   refine bX 6 ?_
   refine bs tk mok ⟨true,false,[24,25]⟩ [0,1,2,3,4,5,6,7] rfl (by decide +kernel) rfl (bi rfl (aU ?_))
   refine bf 3 rfl ?_
   obtain ⟨x26,h26,H⟩ := av H
   have s26 := hrec26 sA x19 _ h26
   refine be Tryz.call26 (eJ.r) s26 ?_
   obtain ⟨x27,k27,H⟩ := bB H
   refine dX tk ⟨k27.1,(dG k27.2)⟩ (dH ho12 k27.2) ?_
   obtain ⟨y4,hy4,H⟩ := cY H
   refine gM tk rfl rfl rfl rfl rfl rfl rfl rfl rfl (by rw [zl]; exact (zg.1 k27.2).1) (PLe.refl _ _) rfl rfl rfl rfl (by decide) (eR aK k27.2 rfl hy4) ?_
   refine bn (bc (bC 2 tk rfl ?_))
   exact bu g1 H hl1 hg1 (Gh.le (aL (aL (aL (bU (PLe.of2 (lZ.of_eq (congrArg (PV.own 12 g1) (fU (f := ap) hy4)))) (aL (bU (PLe.q (jH hz1 hl1)) bM)))))) (aM rfl (eJ.of2 (gp.cons (lZ.of_eq rfl) (gp.cons (lZ.of_eq rfl) (gp.cons (lZ.of_eq rfl) (gp.cons (lZ.of_eq rfl) (gp.cons (lZ.of_eq rfl) (gp.cons (lZ.of_eq rfl) (gp.cons (lZ.of_eq rfl) (gp.cons (lZ.of_eq rfl) (gp.cons (lZ.of_eq (congrArg (PV.own 12 g1) (fU (f := ap) hy4))) gp.nil)))))))))) (aM rfl (eJ.r) bA)) (cX bw))
  have hn1 := rMd (natGe hz1 h) hr1
  refine db rfl ?_
  refine aJ s1 g1 hn1 Gh.d
 have H := kU hn1 Hp1
 refine ae (ae (aa (ah tk rfl (ak tk ?_))))
 refine ah tk rfl (ab ?_)
 refine aP rfl H (fun H=>?_) (fun H=>?_)
 ·refine ae (aa (ak tk ?_))
  refine al tk ?_
  refine ab (bD 4 8 rfl rfl rfl rfl rfl ?_)
  exact nU tk H rfl rfl rfl rfl rfl
 refine ax (ae (ae (aa (rD (e := 3) (rows := [[(ac 1)],[(ac 3)],[(ac 4)],[(ac 5)],[(ac 6)],[(ac 7)],[(ac 8)],[(ac 9)]]) tk rfl rfl rfl rfl (rows' := List.map bE ([1,3,4,5,6,7,8,9] : List Int)) (by kernel_rfl) (dz.refl _) rfl rfl (aC tk (zl _) ?_)))))
 refine ah tk rfl (ab ?_)
 obtain ⟨n5,hs5,H⟩ := av H
 have hz5 := jW hs5
 obtain ⟨fl5,H5,Hp5⟩ := av H
 refine kf (τ := List LQuery) (γ := Unit) (fun s5 g5=>⟨52,upd (upd (fun _=>.any) 4 (.box 4 b4 0)) 3 (.box 3 b3 0),upd (upd (fun _=>none) 4 (some ⟨b4,[(ac 0),(.str []),(.val (.slice none 0 0)),(.val (.slice none 0 0)),(.val (.slice none 0 0)),(.val (.slice none 0 0)),(ac 0),(ac 0),(.val (.slice none 0 0))]⟩)) 3 (some ⟨b3,[(ac x12.kind),(.str x12.table),(.list 9 (x12.names.map aE)),(.list 91 (x12.exprs.map am)),(.list 88 (x12.aggregates.map aO)),(.list 4 (x12.descending.map aV)),(ac x12.count),(ac x12.offset),(.list 33 (s5.map ap))]⟩),fun _=>none⟩) (fun t=>fl5 = .next t) ?_ (fun s5 g5 hn5=>?_)
 ·refine aG (bD 3 8 rfl rfl rfl rfl rfl ?_)
  refine jC (fun j5 s5 g5=>⟨52,upd (upd (upd (upd (upd (upd (fun _=>.any) 35 (ac (j5 : Int))) 34 (ac (([1,3,4,5,6,7,8,9] : List Int).length : Int))) 33 (.list 3 (([1,3,4,5,6,7,8,9] : List Int).map bE))) 4 (.box 4 b4 0)) 3 (.box 3 b3 0)) 2 (.ptr (aD sA)),upd (upd (fun _=>none) 4 (some ⟨b4,[(ac 0),(.str []),(.val (.slice none 0 0)),(.val (.slice none 0 0)),(.val (.slice none 0 0)),(.val (.slice none 0 0)),(ac 0),(ac 0),(.val (.slice none 0 0))]⟩)) 3 (some ⟨b3,[(ac x12.kind),(.str x12.table),(.list 9 (x12.names.map aE)),(.list 91 (x12.exprs.map am)),(.list 88 (x12.aggregates.map aO)),(.list 4 (x12.descending.map aV)),(ac x12.count),(ac x12.offset),(.list 33 (s5.map ap))]⟩),fun _=>none⟩) () H5 Gh.d (fun j5 s5 g5 hj5 hr5=>?_)
  refine aw 1 tk rfl (ae ?_)
  refine cC rfl (fun h=>?_) (fun h=>?_)
  ·have hl5 := natLt hz5 h
   obtain ⟨x5,fb5,hx5,H,hg5⟩ := rMc hl5 hr5
   obtain rfl := natX hx5
   refine ax (ae (aG (ae (aa ?_))))
   obtain ⟨x37,k37,H⟩ := bB H
   refine aY tk k37.1 (aR (fun _=>rfl) k37.2) ?_
   refine af 2 tk rfl (ab (ae (aa (ah tk rfl (ak tk ?_)))))
   refine ah tk rfl ?_
   obtain ⟨x43,h43,H⟩ := av H
   have s43 := rl sA (LQuery.mk x12.kind x12.table x12.names x12.exprs x12.aggregates x12.descending x12.count x12.offset s5) x37 _ h43
   refine aq Tryz.call71 (eJ.r) s43 ?_
   refine af 3 tk rfl ?_
   refine aB tk fun b9=>?_
   refine al tk ?_
   refine ah tk rfl (ab (aw 1 tk rfl ?_))
   refine aP rfl H (fun H=>?_) (fun H=>?_)
   ·refine ae (aa (ah tk rfl (ak tk ?_)))
    obtain ⟨x49,h49,H⟩ := av H
    have s49 := hrec26 sA x43.1 _ h49
    refine aq Tryz.call26 (eJ.r) s49 ?_
    refine al tk ?_
    refine ab ?_
    obtain rfl := az H
    have e5 : fl5 = .ret _ := hg5
    subst e5
    obtain rfl := br Hp5
    refine bd tk rfl (ps := [(.agg (ao x49))]) ⟨_,_,rfl,⟨_,_,_,_,_,rfl,rfl,rfl,rfl⟩,rfl⟩ (PLe.q rfl)
   refine ax (bc (bC 2 tk rfl ?_))
   exact bu () H hl5 hg5 (Gh.le (aL (aL (aL (aL (aL (bU (PLe.q (jH hz5 hl5)) bM)))))) (aM rfl (eJ.r) (aM rfl (eJ.r) bA)) bw)
  have hn5 := rMd (natGe hz5 h) hr5
  refine db rfl ?_
  refine aJ s5 g5 hn5 Gh.d
 have H := pg hn5 Hp5
 refine ae (aa (ak tk ?_))
 refine al tk ?_
 refine ab ?_
 exact nU tk H rfl rfl rfl rfl rfl
def cj : Nat → LSchema → LQuery → Option (LQuery)
 | 0,_,_=>none
 | n + 1,v0,v1=>io (fun b0 b1=>cj n b0 b1) v0 v1
theorem qR  (n : Nat) : (∀ a0 a1 r,cj n a0 a1 = some r → aS Tryz.prog 26 [(.agg (aD a0)),(.agg (ao a1))] (.agg (ao r))) := by
 induction n with
 | zero=>exact (by intros; rename_i h; exact absurd (show (none : Option _) = some _ from h) (by simp))
 | succ n ih =>
  exact (fun v0 v1 r h=>qS (fun b0 b1=>cj n b0 b1) ih v0 v1  r h)
def jj (sA : LSchema) (q : LQuery) : Option (LQuery) := eT fun n=>cj n sA q
theorem rd (sA : LSchema) (q : LQuery) (r : LQuery) (H : jj sA q = some r) :
  aS Tryz.prog 26 [(.agg (aD sA)),(.agg (ao q))] (.agg (ao r)) := by
 obtain ⟨n,h⟩ := eA H
 exact (qR  n) sA q r h
def cf (sA : LSchema) (q : LQuery) : Option (LQuery) :=
 ag (jj sA q) fun x10 =>
 ag (cb sA x10) fun x14 =>
 cond (x14.2 != (0 : Int))
  (ag (gE q) fun x20 =>
  some x20)
  (some x10)
theorem jS (sA : LSchema) (q : LQuery) (r : LQuery) (H : cf sA q = some r) :
  aS Tryz.prog 8 [(.agg (aD sA)),(.agg (ao q))] (.agg (ao r)) := by
 unfold cf at H
 refine PH.ay Tryz.func8 Tryz.ntmps8 ?_
 refine ae (aa (aI ?_))
 refine aI ?_
 refine aB tk fun b4=>?_
 refine ab (ae (aa (af 2 tk rfl ?_)))
 obtain ⟨x10,h10,H⟩ := av H
 have s10 := rd sA q _ h10
 refine aq Tryz.call26 (eJ.r) s10 ?_
 refine aB tk fun b5=>?_
 refine al tk ?_
 refine ab (ae (ae (aa (ah tk rfl (ak tk ?_)))))
 obtain ⟨x14,h14,H⟩ := av H
 have s14 := dP sA x10 _ h14
 refine aq Tryz.call25 (eJ.r) s14 ?_
 refine af 5 tk rfl (ab (aw 2 tk rfl ?_))
 refine aP rfl H (fun H=>?_) (fun H=>?_)
 ·refine ae (aa (ah tk rfl ?_))
  obtain ⟨x20,h20,H⟩ := av H
  have s20 := ka q _ h20
  refine aq Tryz.call27 (eJ.r) s20 ?_
  refine al tk ?_
  refine ab ?_
  exact nU tk H rfl rfl rfl rfl rfl
 refine ax (ae (aa (ak tk ?_)))
 refine al tk ?_
 refine ab ?_
 exact nU tk H rfl rfl rfl rfl rfl
def cS (sA : LSchema) (q : LQuery) : Option (Bool) :=
 bq (sampleV) fun x6 =>
 cond (!x6)
  (some false)
  (ag (gF sA q) fun x10 =>
  cond (!x10)
   (some true)
   (ag (cf sA q) fun x14 =>
   ag (cf sA x14) fun x17 =>
   ag (lU x17 x14) fun x19 =>
   some x19))
theorem jg (sA : LSchema) (q : LQuery) (r : Bool) (H : cS sA q = some r) :
  aS Tryz.prog 3 [(.agg (aD sA)),(.agg (ao q))] (au r) := by
 unfold cS at H
 refine PH.ay Tryz.func3 Tryz.ntmps3 ?_
 refine ae (aa (aI ?_))
 refine aI ?_
 refine ah tk rfl (ab (ae (ae (aa ?_))))
 obtain ⟨x6,h6,H⟩ := cY H
 have s6 := sampleV_spec
 rw [h6] at s6
 refine aq Tryz.call6 (eJ.r) s6 ?_
 refine ah tk rfl (ab ?_)
 refine aP rfl H (fun H=>?_) (fun H=>?_)
 ·refine aw 1 tk rfl ?_
  exact bh tk H rfl
 refine ax (ae (ae (aa (af 2 tk rfl ?_))))
 obtain ⟨x10,h10,H⟩ := av H
 have s10 := qv sA q _ h10
 refine aq Tryz.call7 (eJ.r) s10 ?_
 refine ah tk rfl (ab ?_)
 refine aP rfl H (fun H=>?_) (fun H=>?_)
 ·refine aw 1 tk rfl ?_
  exact bh tk H rfl
 refine ax (ae (aa (af 2 tk rfl ?_)))
 obtain ⟨x14,h14,H⟩ := av H
 have s14 := jS sA q _ h14
 refine aq Tryz.call8 (eJ.r) s14 ?_
 refine aB tk fun b5=>?_
 refine al tk ?_
 refine ab (ae (bs tk mok ⟨true,false,[15]⟩ [0,1,3,2,4,5] rfl (by decide +kernel) rfl (bi rfl (aU ?_))))
 refine aU ?_
 obtain ⟨x17,h17,H⟩ := av H
 have s17 := jS sA x14 _ h17
 refine be Tryz.call8 (eJ.r) s17 ?_
 obtain ⟨x19,h19,H⟩ := av H
 have s19 := W_query_Equal x17 x14 _ h19
 refine be Tryz.call9 (eJ.r) s19 ?_
 refine bi rfl (bn ?_)
 exact bh tk H rfl
end
end Go.Proofs.YtppmcepdcpmpcaaGreatDoor

namespace Go.Proofs.YtppmcepdcpmpcaaGreatDoor
noncomputable section
open Go Go.Ab
theorem LQuery.inputs_lt {q x : LQuery} (h : x ∈ q.inputs) : SizeOf.sizeOf x < SizeOf.sizeOf q := by
 cases q
 simp only [LQuery.inputs] at h
 have := List.sizeOf_lt_of_mem h
 simp only [LQuery.mk.sizeOf_spec]
 omega
theorem LQuery.ind {p : LQuery → Prop} (h : ∀ q : LQuery,(∀ x ∈ q.inputs,p x) → p q) : ∀ q,p q := by
 intro q
 generalize hn : SizeOf.sizeOf q = n
 induction n using Nat.strongRecOn generalizing q with
 | _ n ih=>exact h q fun x hx=>ih _ (hn ▸ LQuery.inputs_lt hx) x rfl
theorem jU {α : Type} {p : α → Nat → Prop} : ∀ (xs : List α),(∀ x ∈ xs,∃ N,∀ n,N ≤ n → p x n) → ∃ N,∀ n,N ≤ n → ∀ x ∈ xs,p x n
 | [],_=>⟨0,fun _ _ x hx=>by simp at hx⟩
 | y :: xs,h=>by
  obtain ⟨N,hN⟩ := h y (by simp)
  obtain ⟨N',hN'⟩ := jU xs fun x hx=>h x (by simp [hx])
  refine ⟨N + N',fun n hn x hx=>?_⟩
  rcases List.mem_cons.1 hx with rfl | hx
  ·exact hN n (by omega)
  ·exact hN' n (by omega) x hx
theorem iF {α σ ρ : Type} {step step' : Nat → α → σ → Option (Flow σ ρ)} : ∀ (xs : List α) (j : Nat) (s : σ),(∀ k x s,xs[k]? = some x → step (j + k) x s = step' (j + k) x s) → aH step j xs s = aH step' j xs s
 | [],_,_,_=>rfl
 | x :: xs,j,s,h=>by
  have h0 := h 0 x s rfl
  rw [Nat.add_zero] at h0
  rw [aH,aH,h0]
  split
  ·rfl
  ·exact iF xs (j + 1) _ fun k y t hk=>by
    have := h (k + 1) y t (by simpa using hk)
    rwa [show j + (k + 1) = j + 1 + k from by omega] at this
  ·rfl
  ·rfl
theorem cO {α : Type} {xs : List α} {k : Nat} {x : α} (h : xs[k]? = some x) : x ∈ xs := List.mem_of_getElem? h
theorem mm {γ β : Type} {F : Nat → γ → LQuery → Option β} {O : (γ → LQuery → Option β) → γ → LQuery → Option β} (hF : ∀ n,F (n + 1) = O (F n)) (c : γ) (q : LQuery)
  (hc : ∀ r r' : γ → LQuery → Option β,(∀ x ∈ q.inputs,r c x = r' c x) → O r c q = O r' c q) (hx : ∀ x ∈ q.inputs,∃ v,eT (fun n=>F n c x) = some v) {r : β} (h : O (fun c q=>eT fun n=>F n c q) c q = some r) :
  eT (fun n=>F n c q) = some r := by
 obtain ⟨N,hN⟩ := jU (p := fun x n=>F n c x = eT fun n=>F n c x) q.inputs (fun x hm=>by
  obtain ⟨v,hv⟩ := hx x hm
  obtain ⟨N,hN⟩ := limN_ev hv
  exact ⟨N,fun n hn=>by rw [hN n hn,hv]⟩)
 refine gA (N + 1) fun m hm=>?_
 obtain ⟨m,rfl⟩ : ∃ k,m = k + 1 := ⟨m - 1,by omega⟩
 rw [hF,hc _ (fun c q=>eT fun n=>F n c q) (hN m (by omega)),h]
def bP (q : LQuery) : List LQuery := q :: (q.inputs.attach.map fun x=>bP x.1).flatten
termination_by SizeOf.sizeOf q
decreasing_by exact LQuery.inputs_lt x.2
theorem eh (q : LQuery) : bP q = q :: (q.inputs.map bP).flatten := by
 rw [bP,List.attach_map_val (f := bP)]
theorem flat_le {α β : Type} {f : α → List β} {xs : List α} {x : α} (h : x ∈ xs) : (f x).length ≤ ((xs.map f).flatten).length := by
 induction xs with
 | nil=>simp at h
 | cons y xs ih =>
  simp only [List.map_cons,List.flatten_cons,List.length_append]
  rcases List.mem_cons.1 h with rfl | h
  ·omega
  ·have := ih h; omega
theorem iW {q x : LQuery} (h : x ∈ q.inputs) : (bP x).length + 1 ≤ (bP q).length := by
 rw [eh q]
 have := flat_le (f := bP) h
 simp only [List.length_cons]
 omega
theorem cK {α : Type} {bytes : Nat} {xs ys : List α} (hb : bytes ≤ 200) (h : xs.length + ys.length ≤ 10000000) : cq bytes xs ys = some (xs ++ ys) := by
 refine appI_ok ?_ (by unfold maxLen; omega)
 have : (xs.length + ys.length) * bytes ≤ 10000000 * 200 := Nat.mul_le_mul h hb
 omega
theorem take_flat {α β : Type} {f : α → List β} {xs : List α} {k : Nat} : (((xs.take k).map f).flatten).length ≤ ((xs.map f).flatten).length := by
 induction xs generalizing k with
 | nil=>simp
 | cons y xs ih =>
  cases k with
  | zero=>simp
  | succ k=>simp only [List.take_succ_cons,List.map_cons,List.flatten_cons,List.length_append]; have := ih (k := k); omega
theorem nodes_ok : ∀ q : LQuery,(bP q).length ≤ 10000000 → ic q = some (bP q) := by
 refine LQuery.ind fun q ih hb=>?_
 refine mm (γ := Unit) (F := fun n _ q=>ie n q) (O := fun r _ q=>ik (fun x=>r () x) q) (fun n=>rfl) () q ?_ (fun x hx=>⟨_,ih x hx (by have := iW hx; omega)⟩) ?_
 ·intro r r' h
  simp only [ik]
  congr 1
  exact iF q.inputs 0 _ fun k x s hk=>by rw [h x (cO hk)]
 ·have hr := rMa (step := fun (_ : Nat) (x1 : LQuery) (s1 : List LQuery)=>ag (ic x1) fun x17=>ag (cq 160 s1 x17) fun (x18 : List LQuery)=>some (Flow.next (ρ := Empty) x18)) (xs := q.inputs) (s := [q])
   (fun k=>q :: ((q.inputs.take k).map bP).flatten) (by simp) (fun k x hk=>by
    have hx := cO hk
    rw [ih x hx (by have := iW hx; omega),bPs,cK (by decide),bPs]
    ·rw [List.take_add_one,hk]; simp
    ·have h1 : (((q.inputs.take (k + 1)).map bP).flatten).length ≤ ((q.inputs.map bP).flatten).length := take_flat
     rw [List.take_add_one,hk] at h1
     rw [eh] at hb
     simp at h1 hb ⊢
     omega)
  simp only [ik]
  have e : ∀ x,(eT fun n=>ie n x) = ic x := fun _=>rfl
  simp only [e]
  rw [hr,bPs,bV,List.take_length,eh]
def dM (a b : Int) : Int := if b > a then b else a
theorem nX {a b c : Int} (h : a ≤ c) (h' : b ≤ c) : dM a b ≤ c := by unfold dM; split <;> assumption
theorem kQ (a b : Int) : a ≤ dM a b := by unfold dM; split <;> omega
theorem maxI_r (a b : Int) : b ≤ dM a b := by unfold dM; split <;> omega
def fj (q : LQuery) : Int := (q.inputs.attach.map fun x=>fj x.1).foldl dM 0 + 1
termination_by SizeOf.sizeOf q
decreasing_by exact LQuery.inputs_lt x.2
theorem nv (q : LQuery) : fj q = (q.inputs.map fj).foldl dM 0 + 1 := by
 rw [fj,List.attach_map_val (f := fj)]
theorem pu : ∀ {l : List Int} {a c : Int},a ≤ c → (∀ x ∈ l,x ≤ c) → l.foldl dM a ≤ c
 | [],_,_,h,_=>h
 | x :: l,a,c,h,hl=>pu (l := l) (nX h (hl x (by simp))) fun y hy=>hl y (by simp [hy])
theorem mc : ∀ {l : List Int} {a : Int},a ≤ l.foldl dM a ∧ ∀ x ∈ l,x ≤ l.foldl dM a
 | [],a=>⟨Int.le_refl a,by simp⟩
 | x :: l,a=>by
  obtain ⟨h1,h2⟩ := mc (l := l) (a := dM a x)
  simp only [List.foldl_cons]
  refine ⟨Int.le_trans (kQ a x) h1,fun y hy=>?_⟩
  rcases List.mem_cons.1 hy with rfl | hy
  ·exact Int.le_trans (maxI_r a y) h1
  ·exact h2 y hy
theorem depthQ_nodes : ∀ q : LQuery,1 ≤ fj q ∧ fj q ≤ (bP q).length := by
 refine LQuery.ind fun q ih=>?_
 rw [nv,eh]
 have h1 : (q.inputs.map fj).foldl dM 0 ≤ (((q.inputs.map bP).flatten).length : Nat) := pu (by omega) fun x hx=>by
  obtain ⟨y,hy,rfl⟩ := List.mem_map.1 hx
  have := (ih y hy).2
  have := flat_le (f := bP) hy
  omega
 have h2 := (mc (l := q.inputs.map fj) (a := 0)).1
 simp only [List.length_cons]
 omega
theorem depthQ_sub {q x : LQuery} (h : x ∈ q.inputs) : fj x + 1 ≤ fj q := by
 rw [nv q]
 have := (mc (l := q.inputs.map fj) (a := 0)).2 (fj x) (List.mem_map.2 ⟨x,h,rfl⟩)
 omega
theorem depth_ok : ∀ q : LQuery,(bP q).length ≤ 10000000 → iY q = some (fj q) := by
 refine LQuery.ind fun q ih hb=>?_
 refine mm (γ := Unit) (F := fun n _ q=>ib n q) (O := fun r _ q=>ij (fun x=>r () x) q) (fun n=>rfl) () q ?_ (fun x hx=>⟨_,ih x hx (by have := iW hx; omega)⟩) ?_
 ·intro r r' h
  simp only [ij]
  congr 1
  exact iF q.inputs 0 _ fun k x s hk=>by rw [h x (cO hk)]
 ·have hr := rMa (step := fun (_ : Nat) (x1 : LQuery) (s1 : Int)=>ag (iY x1) fun x15=>some (Flow.next (ρ := Empty) (if x15 > s1 then x15 else s1))) (xs := q.inputs) (s := 0)
   (fun k=>((q.inputs.take k).map fj).foldl dM 0) (by simp) (fun k x hk=>by
    have hx := cO hk
    rw [ih x hx (by have := iW hx; omega),bPs,List.take_add_one,hk]
    simp [dM])
  simp only [ij]
  have e : ∀ x,(eT fun n=>ib n x) = iY x := fun _=>rfl
  simp only [e]
  rw [hr,bPs,bV,List.take_length,nv]
  have h := depthQ_nodes q
  rw [nv] at h
  rw [gN (by omega) (by omega)]
def capI (n : Int) : Int := if 20001 < n then 20001 else n
def iT (kind : Int) (s : Int × Int) (j : Nat) (x : Int × Int) : Int × Int :=
 (capI (if j = 0 then x.1 else if kind = 6 then s.1 + x.1 else if kind = 4 ∨ kind = 5 then s.1 * dM 1 x.1 else s.1),dM s.2 x.2)
def dl (kind : Int) : Nat → List (Int × Int) → Int × Int → Int × Int
 | _,[],s=>s
 | j,x :: l,s=>dl kind (j + 1) l (iT kind s j x)
def eB (q : LQuery) : Int × Int :=
 let s := dl q.kind 0 (q.inputs.attach.map fun x=>eB x.1) (0,0)
 if q.kind = 1 then (24,dM s.2 24) else (s.1,dM s.2 s.1)
termination_by SizeOf.sizeOf q
decreasing_by exact LQuery.inputs_lt x.2
theorem mostQ_eq (q : LQuery) : eB q = if q.kind = 1 then (24,dM (dl q.kind 0 (q.inputs.map eB) (0,0)).2 24) else ((dl q.kind 0 (q.inputs.map eB) (0,0)).1,dM (dl q.kind 0 (q.inputs.map eB) (0,0)).2 (dl q.kind 0 (q.inputs.map eB) (0,0)).1) := by
 rw [eB,List.attach_map_val (f := eB)]
def lE (s : Int × Int) : Prop := 0 ≤ s.1 ∧ s.1 ≤ 20001 ∧ 0 ≤ s.2 ∧ s.2 ≤ 20001
theorem capI_b {n : Int} (h : 0 ≤ n) : 0 ≤ capI n ∧ capI n ≤ 20001 := by unfold capI; split <;> omega
theorem mostStep_r {kind : Int} {s x : Int × Int} {j : Nat} (hs : lE s) (hx : lE x) : lE (iT kind s j x) := by
 obtain ⟨a1,a2,a3,a4⟩ := hs
 obtain ⟨b1,b2,b3,b4⟩ := hx
 unfold iT
 have h1 : 0 ≤ (if j = 0 then x.1 else if kind = 6 then s.1 + x.1 else if kind = 4 ∨ kind = 5 then s.1 * dM 1 x.1 else s.1) := by
  split
  ·exact b1
  ·split
   ·omega
   ·split
    ·exact Int.mul_nonneg a1 (Int.le_trans (by decide) (kQ 1 x.1))
    ·exact a1
 exact ⟨(capI_b h1).1,(capI_b h1).2,Int.le_trans a3 (kQ _ _),nX a4 b4⟩
theorem pe {kind : Int} : ∀ {l : List (Int × Int)} {j : Nat} {s : Int × Int},lE s → (∀ x ∈ l,lE x) → lE (dl kind j l s)
 | [],_,_,h,_=>h
 | x :: l,j,s,h,hl=>pe (l := l) (mostStep_r h (hl x (by simp))) fun y hy=>hl y (by simp [hy])
theorem mostQ_r : ∀ q : LQuery,lE (eB q) := by
 refine LQuery.ind fun q ih=>?_
 rw [mostQ_eq]
 have h : lE (dl q.kind 0 (q.inputs.map eB) (0,0)) := pe ⟨by decide,by decide,by decide,by decide⟩ fun x hx=>by
  obtain ⟨y,hy,rfl⟩ := List.mem_map.1 hx
  exact ih y hy
 obtain ⟨a1,a2,a3,a4⟩ := h
 split
 ·exact ⟨show (0 : Int) ≤ 24 by decide,show (24 : Int) ≤ 20001 by decide,Int.le_trans a3 (kQ _ _),nX a4 (by decide)⟩
 ·exact ⟨a1,a2,Int.le_trans a3 (kQ _ _),nX a4 a2⟩
theorem pR (kind : Int) : ∀ (l : List (Int × Int)) (j : Nat) (s x : Int × Int),dl kind j (l ++ [x]) s = iT kind (dl kind j l s) (j + l.length) x
 | [],j,s,x=>by simp [dl]
 | y :: l,j,s,x=>by
  rw [List.cons_append,dl,pR kind l (j + 1),dl]
  congr 1
  simp
  omega
theorem mostStep_run {kind : Int} {s x : Int × Int} {j : Nat} (hs : lE s) (hx : lE x) :
  (cond ((j : Int) == (0 : Int))
   (some (Flow.next (ρ := Empty) ((if (20001 : Int) < x.1 then (20001 : Int) else x.1),(if x.2 > s.2 then x.2 else s.2))))
   (cond (kind == (6 : Int))
    (some (.next ((if (20001 : Int) < (IntKind.i64.wrap (s.1 + x.1)) then (20001 : Int) else (IntKind.i64.wrap (s.1 + x.1))),(if x.2 > s.2 then x.2 else s.2))))
    (bq (
     cond (kind == (4 : Int))
      (true)
      ((kind == (5 : Int)))) fun (t4 : Bool) =>
    cond t4
     (some (.next ((if (20001 : Int) < (IntKind.i64.wrap (s.1 * (if x.1 > (1 : Int) then x.1 else (1 : Int)))) then (20001 : Int) else (IntKind.i64.wrap (s.1 * (if x.1 > (1 : Int) then x.1 else (1 : Int))))),(if x.2 > s.2 then x.2 else s.2))))
     (some (.next ((if (20001 : Int) < s.1 then (20001 : Int) else s.1),(if x.2 > s.2 then x.2 else s.2))))))) = some (.next (iT kind s j x)) := by
 obtain ⟨a1,a2,a3,a4⟩ := hs
 obtain ⟨b1,b2,b3,b4⟩ := hx
 have hm : 1 ≤ dM 1 x.1 ∧ dM 1 x.1 ≤ 20001 := ⟨kQ _ _,nX (by decide) b2⟩
 have hp : 0 ≤ s.1 * dM 1 x.1 ∧ s.1 * dM 1 x.1 ≤ 20001 * 20001 := ⟨Int.mul_nonneg a1 (by omega),Int.mul_le_mul a2 hm.2 (by omega) (by decide)⟩
 have hw1 : IntKind.i64.wrap (s.1 + x.1) = s.1 + x.1 := gN (by omega) (by omega)
 have hw2 : IntKind.i64.wrap (s.1 * (if x.1 > (1 : Int) then x.1 else (1 : Int))) = s.1 * dM 1 x.1 := gN (by show _ ≤ s.1 * dM 1 x.1; omega) (by show s.1 * dM 1 x.1 ≤ _; omega)
 rw [hw1,hw2]
 unfold iT capI dM bq
 by_cases h0 : j = 0
 ·subst h0; simp
 ·have : ((j : Int) == (0 : Int)) = false := by simp; omega
  rw [this]
  by_cases h6 : kind = 6
  ·subst h6; simp [h0]
  ·by_cases h4 : kind = 4
   ·subst h4; simp [h0]
   ·by_cases h5 : kind = 5
    ·subst h5; simp [h0]
    ·have e6 : (kind == (6 : Int)) = false := by simpa using h6
     have e4 : (kind == (4 : Int)) = false := by simpa using h4
     have e5 : (kind == (5 : Int)) = false := by simpa using h5
     simp [h0,h6,h4,h5,e6,e4,e5]
theorem most_ok : ∀ q : LQuery,kC q = some (eB q) := by
 refine LQuery.ind fun q ih=>?_
 refine mm (γ := Unit) (F := fun n _ q=>iH n q) (O := fun r _ q=>iG (fun x=>r () x) q) (fun n=>rfl) () q ?_ (fun x hx=>⟨_,ih x hx⟩) ?_
 ·intro r r' h
  simp only [iG]
  congr 1
  exact iF q.inputs 0 _ fun k x s hk=>by rw [h x (cO hk)]
 ·simp only [iG]
  have e : ∀ x,(eT fun n=>iH n x) = kC x := fun _=>rfl
  simp only [e]
  rw [rMa (xs := q.inputs) (s := (0,0)) (fun k=>dl q.kind 0 ((q.inputs.take k).map eB) (0,0)) (by simp [dl]) (fun k x hk=>by
    have hx := cO hk
    rw [ih x hx,bPs,mostStep_run (pe ⟨by decide,by decide,by decide,by decide⟩ fun y hy=>by
     obtain ⟨z,_,rfl⟩ := List.mem_map.1 hy
     exact mostQ_r z) (mostQ_r x),List.take_add_one,hk]
    have hk' := (zg.1 hk).1
    simp only [Option.toList_some,List.map_append,List.map_cons,List.map_nil]
    rw [pR]
    congr 3
    simp
    omega)]
  rw [bPs,bV,List.take_length,mostQ_eq]
  by_cases h1 : q.kind = 1
  ·simp [h1,dM]
  ·have : (q.kind == (1 : Int)) = false := by simpa using h1
   simp [h1,this,dM]
def mH : List (Int → Int) → Int → Int
 | [],s=>s
 | f :: l,s=>if s < 0 then -1 else mH l (f (IntKind.i64.wrap (s - 1)))
def sizeHere (q : LQuery) (m : Int) : Int :=
 q.aggregates.foldl (fun s a=>a.args.foldl (fun s e=>gW e (IntKind.i64.wrap (s - 1))) s) (q.exprs.foldl (fun s e=>gW e (IntKind.i64.wrap (s - 1))) m)
def kW (q : LQuery) : Int → Int := fun m=>mH (q.inputs.attach.map fun x=>kW x.1) (sizeHere q m)
termination_by SizeOf.sizeOf q
decreasing_by exact LQuery.inputs_lt x.2
theorem sizeQ_eq (q : LQuery) (m : Int) : kW q m = mH (q.inputs.map kW) (sizeHere q m) := by
 rw [kW,List.attach_map_val (f := kW)]
theorem qa {f : LQuery → Int → Option Int} : ∀ (l : List LQuery) (j : Nat) (s : Int),(∀ x ∈ l,∀ m,f x m = some (kW x m)) →
  ag (aH (σ := Int) (ρ := Int) (fun (_ : Nat) (x6 : LQuery) (s6 : Int)=>cond (decide (s6 < (0 : Int))) (some (.ret (-1))) (ag (f x6 (IntKind.i64.wrap (s6 - (1 : Int)))) fun x57=>some (.next x57))) j l s) (fun fl6=>fl6.thenR fun (s6 : Int)=>some s6) = some (mH (l.map kW) s)
 | [],j,s,_=>rfl
 | x :: l,j,s,h=>by
  rw [aH,List.map_cons,mH]
  by_cases hs : s < 0
  ·simp [hs]
  ·simp only [hs,decide_false,zd,if_false]
   rw [h x (by simp),bPs]
   exact qa l (j + 1) _ fun y hy=>h y (by simp [hy])
theorem size_ok : ∀ (q : LQuery) (m : Int),km q m = some (kW q m) := by
 have key : ∀ q : LQuery,∃ N,∀ n,N ≤ n → ∀ m,eS n q m = some (kW q m) := by
  refine LQuery.ind fun q ih=>?_
  obtain ⟨N,hN⟩ := jU (p := fun x n=>∀ m,eS n x m = some (kW x m)) q.inputs ih
  refine ⟨N + 1,fun n hn m=>?_⟩
  obtain ⟨n,rfl⟩ : ∃ k,n = k + 1 := ⟨n - 1,by omega⟩
  rw [eS]
  simp only [iQ,bG]
  rw [nS (xs := q.exprs) (fun s e=>gW e (IntKind.i64.wrap (s - 1))) (fun _ _ _=>rfl),bPs,bV]
  rw [nS (xs := q.aggregates) (fun s a=>a.args.foldl (fun s e=>gW e (IntKind.i64.wrap (s - 1))) s) (fun k a _=>by
   rw [nS (xs := a.args) (fun s e=>gW e (IntKind.i64.wrap (s - 1))) (fun _ _ _=>rfl),bPs,bV]),bPs,bV]
  rw [qa q.inputs 0 _ (hN n (by omega)),sizeQ_eq]
  rfl
 intro q m
 obtain ⟨N,hN⟩ := key q
 exact gA N fun n hn=>hN n hn m
theorem LExpr.args_lt {e x : LExpr} (h : x ∈ e.args) : SizeOf.sizeOf x < SizeOf.sizeOf e := by
 cases e
 simp only [LExpr.args] at h
 have := List.sizeOf_lt_of_mem h
 simp only [LExpr.mk.sizeOf_spec]
 omega
theorem LExpr.ind {p : LExpr → Prop} (h : ∀ e : LExpr,(∀ x ∈ e.args,p x) → p e) : ∀ e,p e := by
 intro e
 generalize hn : SizeOf.sizeOf e = n
 induction n using Nat.strongRecOn generalizing e with
 | _ n ih=>exact h e fun x hx=>ih _ (hn ▸ LExpr.args_lt hx) x rfl
def im (e : LExpr) : List (Nat × Int) := if e.kind = 3 ∧ 0 ≤ e.index ∧ e.index < 8 then [(e.index.toNat,e.value.kind)] else []
def da (e : LExpr) : List (Nat × Int) := im e ++ (e.args.attach.map fun x=>da x.1).flatten
termination_by SizeOf.sizeOf e
decreasing_by exact LExpr.args_lt x.2
theorem oH (e : LExpr) : da e = im e ++ (e.args.map da).flatten := by
 rw [da,List.attach_map_val (f := da)]
abbrev PSt := List Int × Bool × List Bool
def gq (out : List Int) (i : Nat) : List Int := out ++ List.replicate (i + 1 - out.length) 0
def dB (s : PSt) (p : Nat × Int) : PSt :=
 ((gq s.1 p.1).set p.1 p.2,s.2.1 || (s.2.2.getD p.1 false && (gq s.1 p.1).getD p.1 0 != p.2),s.2.2.set p.1 true)
def POk (s : PSt) : Prop := s.1.length ≤ 8 ∧ s.2.2.length = 8
theorem lS (out : List Int) (i : Nat) : (gq out i).length = max out.length (i + 1) := by simp [gq]; omega
theorem pstep_ok {s : PSt} {p : Nat × Int} (h : POk s) (hp : p.1 < 8) : POk (dB s p) := by
 refine ⟨?_,by simp [dB,h.2]⟩
 show ((gq s.1 p.1).set p.1 p.2).length ≤ 8
 rw [List.length_set,lS]
 have := h.1
 omega
theorem kJ : ∀ e : LExpr,∀ p ∈ da e,p.1 < 8 := by
 refine LExpr.ind fun e ih p hp=>?_
 rw [oH,List.mem_append] at hp
 rcases hp with hp | hp
 ·unfold im at hp
  split at hp
  ·rename_i h; simp at hp; subst hp; simp; omega
  ·simp at hp
 ·obtain ⟨l,hl,hp⟩ := List.mem_flatten.1 hp
  obtain ⟨x,hx,rfl⟩ := List.mem_map.1 hl
  exact ih x hx p hp
theorem kl : ∀ {l : List (Nat × Int)} {s : PSt},POk s → (∀ p ∈ l,p.1 < 8) → POk (l.foldl dB s)
 | [],_,h,_=>h
 | p :: l,s,h,hl=>kl (l := l) (pstep_ok h (hl p (by simp))) fun q hq=>hl q (by simp [hq])
theorem pad_while (i : Nat) (hi : i < 8) : ∀ (n : Nat) (out : List Int),i + 1 - out.length = n → out.length ≤ 8 →
  lL (σ := List Int) (ρ := Empty) (fun (s7 : List Int)=>cond (decide ((s7.length : Int) ≤ (i : Int))) (ag (cq 8 s7 ([0] : List Int)) fun (x28 : List Int)=>some (.next x28)) (some (.brk s7))) out = some (.next (gq out i))
 | 0,out,hn,ho=>by
  refine qK (fl := .brk out) ?_ ?_
  ·have : ¬ ((out.length : Int) ≤ (i : Int)) := by omega
   simp [this]
  ·simp [gq,hn]
 | n + 1,out,hn,ho=>by
  refine qK (fl := .next (out ++ [0])) ?_ ?_
  ·have : (out.length : Int) ≤ (i : Int) := by omega
   simp only [this,decide_true,zc]
   rw [cK (by decide) (by simp; omega)]
   rfl
  ·have := pad_while i hi n (out ++ [0]) (by simp; omega) (by simp; omega)
   simp only
   rw [this]
   simp only [gq,List.length_append,List.length_singleton,List.append_assoc,hn]
   rw [show i + 1 - (out.length + 1) = n from by omega,show (List.replicate (n + 1) (0 : Int)) = [0] ++ List.replicate n 0 from rfl]
theorem arrI_at {xs : List Bool} {i : Nat} (h : xs.length = 8) (hi : i < 8) : arrI 8 xs (i : Int) = some (xs.getD i false) := by
 have : xs[i]? = some (xs.getD i false) := by rw [List.getD_eq_getElem?_getD,ze (by omega)]; rfl
 exact arrI_eq (by omega) (by simpa using this)
theorem getI_at {xs : List Int} {i : Nat} (h : i < xs.length) : aT xs (i : Int) = some (xs.getD i 0) := by
 have : xs[i]? = some (xs.getD i 0) := by rw [List.getD_eq_getElem?_getD,ze h]; rfl
 exact lv this
theorem look_ok : ∀ e : LExpr,∃ N,∀ n,N ≤ n → ∀ s : PSt,POk s → cG n e s.1 s.2.1 s.2.2 = some ((da e).foldl dB s) := by
 refine LExpr.ind fun e ih=>?_
 obtain ⟨N,hN⟩ := jU (p := fun x n=>∀ s : PSt,POk s → cG n x s.1 s.2.1 s.2.2 = some ((da x).foldl dB s)) e.args ih
 refine ⟨N + 1,fun n hn s hs=>?_⟩
 obtain ⟨n,rfl⟩ : ∃ k,n = k + 1 := ⟨n - 1,by omega⟩
 rw [cG]
 simp only [fE]
 have h1 : POk ((im e).foldl dB s) := kl hs fun p hp=>kJ e p (by rw [oH]; simp [hp])
 have hloop : ∀ s : PSt,POk s → ag (aH (σ := List Int × Bool × List Bool) (ρ := Empty) (fun (_ : Nat) (x11 : LExpr) (s11 : List Int × Bool × List Bool) =>
   ag (cG n x11 s11.1 s11.2.1 s11.2.2) fun x66=>some (.next (x66.1,x66.2.1,x66.2.2))) 0 e.args (s.1,s.2.1,s.2.2)) (fun fl11=>fl11.thenP fun (s11 : List Int × Bool × List Bool)=>some (s11.1,s11.2.1,s11.2.2)) =
   some (((e.args.map da).flatten).foldl dB s) := by
  intro s hs
  rw [rMa (xs := e.args) (s := (s.1,s.2.1,s.2.2)) (fun k=>(((e.args.take k).map da).flatten).foldl dB s) rfl (fun k x hk=>by
   have hx := cO hk
   have hok : POk ((((e.args.take k).map da).flatten).foldl dB s) := kl hs fun p hp=>by
    obtain ⟨l,hl,hp⟩ := List.mem_flatten.1 hp
    obtain ⟨y,hy,rfl⟩ := List.mem_map.1 hl
    exact kJ y p hp
   rw [hN n (by omega) x hx _ hok,bPs,List.take_add_one,hk]
   simp)]
  rw [bPs,bV,List.take_length]
 have key : (ag (cond (bq (cond (e.kind == (3 : Int)) (cond (decide (e.index ≥ (0 : Int))) ((decide (e.index < (8 : Int)))) (false)) (false)) fun (t1 : Bool)=>t1)
   (ag (lL (σ := List Int) (ρ := Empty) (fun (s7 : List Int)=>cond (decide ((s7.length : Int) ≤ e.index)) (ag (cq 8 s7 ([0] : List Int)) fun (x28 : List Int)=>some (.next x28)) (some (.brk s7))) s.1) fun fl7=>fl7.thenP fun (s7 : List Int) =>
   ag (cond s.2.1 (some true) (ag (arrI 8 s.2.2 e.index) fun (x33 : Bool)=>cond x33 (ag (aT s7 e.index) fun (x39 : Int)=>some (x39 != e.value.kind)) (some false))) fun (t8 : Bool) =>
   ag (aT s7 e.index) fun (_ : Int)=>bq (s7.set e.index.toNat e.value.kind) fun (y9 : List Int)=>ag (arrI 8 s.2.2 e.index) fun (_ : Bool)=>bq (s.2.2.set e.index.toNat true) fun (y10 : List Bool)=>some (y9,t8,y10))
   (some (s.1,s.2.1,s.2.2))) fun t=>some t) = some ((im e).foldl dB s) := by
  unfold bq
  by_cases hc : e.kind = 3 ∧ 0 ≤ e.index ∧ e.index < 8
  ·obtain ⟨hk,h0,h8⟩ := hc
   obtain ⟨i,hi⟩ : ∃ i : Nat,e.index = i := ⟨e.index.toNat,by omega⟩
   have hi8 : i < 8 := by omega
   have e0 : (e.kind == (3 : Int)) = true := by simpa using hk
   have e1 : decide (e.index ≥ (0 : Int)) = true := zt h0
   have e2 : decide (e.index < (8 : Int)) = true := zt h8
   rw [e0,e1,e2]
   simp only [zc]
   rw [hi,pad_while i hi8 _ s.1 rfl hs.1]
   simp only [bPs,bV]
   have hl : i < (gq s.1 i).length := by rw [lS]; omega
   rw [arrI_at hs.2 hi8,getI_at hl]
   simp only [bPs,Int.toNat_natCast]
   have hh : im e = [(i,e.value.kind)] := by unfold im; rw [zp ⟨hk,h0,h8⟩,hi,Int.toNat_natCast]
   rw [hh]
   simp only [List.foldl_cons,List.foldl_nil,dB]
   cases hb : s.2.1 <;> cases hc : s.2.2.getD i false <;> simp
  ·have hh : im e = [] := by unfold im; rw [zy hc]
   rw [hh]
   have e0 : (cond (e.kind == (3 : Int)) (cond (decide (e.index ≥ (0 : Int))) ((decide (e.index < (8 : Int)))) (false)) (false)) = false := by
    by_cases a : e.kind = 3
    ·by_cases b : 0 ≤ e.index
     ·have : ¬ e.index < 8 := fun h=>hc ⟨a,b,h⟩
      simp [this]
     ·have : ¬ e.index ≥ 0 := b
      simp [this]
    ·have : (e.kind == (3 : Int)) = false := by simpa using a
     simp [this]
   rw [e0]
   rfl
 simp only [bG] at key ⊢
 rw [oH,List.foldl_append,← hloop _ h1]
 generalize hg : (cond _ _ _ : Option PSt) = o at key
 cases o with
 | none=>cases key
 | some t =>
  simp only [bPs,zo] at key
  subst key
  rfl
theorem look_eq (e : LExpr) {s : PSt} (h : POk s) : em e s.1 s.2.1 s.2.2 = some ((da e).foldl dB s) := by
 obtain ⟨N,hN⟩ := look_ok e
 exact gA N fun n hn=>hN n hn s h
def iJ (x : LQuery) : List (Nat × Int) := (x.exprs.map da).flatten ++ (x.aggregates.map fun a=>(a.args.map da).flatten).flatten
def jc (q : LQuery) : List (Nat × Int) := ((bP q).map iJ).flatten
theorem mh {x : LQuery} : ∀ p ∈ iJ x,p.1 < 8 := by
 intro p hp
 rcases List.mem_append.1 hp with hp | hp
 ·obtain ⟨l,hl,hp⟩ := List.mem_flatten.1 hp
  obtain ⟨e,_,rfl⟩ := List.mem_map.1 hl
  exact kJ e p hp
 ·obtain ⟨l,hl,hp⟩ := List.mem_flatten.1 hp
  obtain ⟨a,_,rfl⟩ := List.mem_map.1 hl
  obtain ⟨l,hl,hp⟩ := List.mem_flatten.1 hp
  obtain ⟨e,_,rfl⟩ := List.mem_map.1 hl
  exact kJ e p hp
theorem paramsQ_lt {q : LQuery} : ∀ p ∈ jc q,p.1 < 8 := by
 intro p hp
 obtain ⟨l,hl,hp⟩ := List.mem_flatten.1 hp
 obtain ⟨x,_,rfl⟩ := List.mem_map.1 hl
 exact mh p hp
theorem lookAll {l : List LExpr} {s : PSt} (h : POk s) : aH (σ := PSt) (ρ := Empty) (fun (_ : Nat) (x12 : LExpr) (s12 : PSt) =>
   ag (em x12 s12.1 s12.2.1 s12.2.2) fun x33=>some (.next (x33.1,x33.2.1,x33.2.2))) 0 l (s.1,s.2.1,s.2.2) = some (.next (((l.map da).flatten).foldl dB s)) := by
 rw [rMa (xs := l) (s := (s.1,s.2.1,s.2.2)) (fun k=>(((l.take k).map da).flatten).foldl dB s) rfl (fun k x hk=>by
  have hok : POk ((((l.take k).map da).flatten).foldl dB s) := kl h fun p hp=>by
   obtain ⟨m,hm,hp⟩ := List.mem_flatten.1 hp
   obtain ⟨y,hy,rfl⟩ := List.mem_map.1 hm
   exact kJ y p hp
  rw [look_eq x hok,bPs,List.take_add_one,hk]
  simp),List.take_length]
def iL (q : LQuery) : PSt := (jc q).foldl dB ([],false,List.replicate 8 false)
theorem kinds_ok {q : LQuery} (hb : (bP q).length ≤ 10000000) : eI q = some (cond (iL q).2.1 ([],13) ((iL q).1,0)) := by
 unfold eI
 rw [nodes_ok q hb,bPs]
 rw [rMa (xs := bP q) (s := ([],false,List.replicate 8 false)) (fun k=>((((bP q).take k).map iJ).flatten).foldl dB ([],false,List.replicate 8 false)) rfl (fun k x hk=>by
  have hok : POk (((((bP q).take k).map iJ).flatten).foldl dB ([],false,List.replicate 8 false)) := kl ⟨by simp,by simp⟩ fun p hp=>by
   obtain ⟨m,hm,hp⟩ := List.mem_flatten.1 hp
   obtain ⟨y,hy,rfl⟩ := List.mem_map.1 hm
   exact mh p hp
  rw [lookAll hok,bPs,bV]
  rw [show ((((bP q).take (k + 1)).map iJ).flatten).foldl dB ([],false,List.replicate 8 false) = (iJ x).foldl dB (((((bP q).take k).map iJ).flatten).foldl dB ([],false,List.replicate 8 false)) from by
   rw [List.take_add_one,hk]
   simp only [Option.toList_some,List.map_append,List.map_cons,List.map_nil,List.flatten_append,List.flatten_cons,List.flatten_nil,List.append_nil,List.foldl_append]]
  generalize (((((bP q).take k).map iJ).flatten).foldl dB ([],false,List.replicate 8 false)) = s at hok ⊢
  have hok2 : POk (((x.exprs.map da).flatten).foldl dB s) := kl hok fun p hp=>mh (x := x) p (by unfold iJ; simp only [List.mem_append]; exact .inl hp)
  rw [rMa (xs := x.aggregates) (s := ((((x.exprs.map da).flatten).foldl dB s).1,(((x.exprs.map da).flatten).foldl dB s).2.1,(((x.exprs.map da).flatten).foldl dB s).2.2))
   (fun k=>((((x.aggregates.take k).map fun a=>(a.args.map da).flatten).flatten).foldl dB (((x.exprs.map da).flatten).foldl dB s))) rfl (fun k a ha=>by
    have hok3 : POk ((((x.aggregates.take k).map fun a=>(a.args.map da).flatten).flatten).foldl dB (((x.exprs.map da).flatten).foldl dB s)) := kl hok2 fun p hp=>mh (x := x) p (by
     unfold iJ
     simp only [List.mem_append]
     obtain ⟨m,hm,hp⟩ := List.mem_flatten.1 hp
     obtain ⟨y,hy,rfl⟩ := List.mem_map.1 hm
     exact .inr (List.mem_flatten.2 ⟨_,List.mem_map.2 ⟨y,List.mem_of_mem_take hy,rfl⟩,hp⟩))
    rw [lookAll hok3,bPs,bV,List.take_add_one,ha]
    simp)]
  rw [bPs,bV,List.take_length]
  unfold iJ
  rw [List.foldl_append])]
 rw [bPs,bV,List.take_length]
 show (cond (iL q).2.1 (some ([],13)) (some ((iL q).1,0))) = _
 cases (iL q).2.1 <;> rfl
def oi (l : List (Nat × Int)) : Prop := ∀ i k k',(i,k) ∈ l → (i,k') ∈ l → k = k'
structure PInv (l : List (Nat × Int)) (s : PSt) : Prop where
 ok : POk s
 seen : ∀ i,i < 8 → (s.2.2.getD i false = true ↔ ∃ k,(i,k) ∈ l)
 len : ∀ i k,(i,k) ∈ l → i < s.1.length
 last : s.1.length = 0 ∨ ∃ k,(s.1.length - 1,k) ∈ l
 zero : ∀ i,(∀ k,(i,k) ∉ l) → s.1.getD i 0 = 0
 good : s.2.1 = false → ∀ i k,(i,k) ∈ l → s.1.getD i 0 = k
 bad : oi l → s.2.1 = false
theorem nA (out : List Int) (i j : Nat) : (gq out i).getD j 0 = out.getD j 0 := by
 simp only [gq,List.getD_eq_getElem?_getD]
 by_cases h : j < out.length
 ·rw [List.getElem?_append_left h]
 ·rw [List.getElem?_append_right (by omega),List.getElem?_eq_none (l := out) (by omega),List.getElem?_replicate]
  split <;> rfl
theorem PInv.init : PInv [] ([],false,List.replicate 8 false) :=
 ⟨⟨by simp,by simp⟩,fun i hi=>by
  have : (List.replicate 8 false).getD i false = false := by rw [List.getD_eq_getElem?_getD,List.getElem?_replicate]; split <;> rfl
  exact ⟨fun h=>(by rw [show (([],false,List.replicate 8 false) : PSt).2.2 = List.replicate 8 false from rfl,this] at h; cases h),fun ⟨k,hk⟩=>(by simp at hk)⟩,fun i k h=>by simp at h,.inl rfl,fun i _=>by simp,fun _ i k h=>by simp at h,fun _=>rfl⟩
theorem PInv.step {l : List (Nat × Int)} {s : PSt} (h : PInv l s) {p : Nat × Int} (hp : p.1 < 8) : PInv (l ++ [p]) (dB s p) := by
 obtain ⟨i,k⟩ := p
 simp only at hp
 have hset : ∀ (xs : List Int) (j : Nat) (v : Int),i < xs.length → (xs.set i v).getD j 0 = if j = i then v else xs.getD j 0 := by
  intro xs j v hl
  rw [List.getD_eq_getElem?_getD,List.getD_eq_getElem?_getD,List.getElem?_set]
  by_cases hji : i = j
  ·subst hji; simp [hl]
  ·have : j ≠ i := fun h=>hji h.symm
   simp [hji,this]
 have hl1 : i < (gq s.1 i).length := by rw [lS]; omega
 refine ⟨pstep_ok h.ok hp,fun j hj=>?_,fun j k' hm=>?_,?_,fun j hno=>?_,fun hb j k' hm=>?_,fun hk=>?_⟩
 ·show (s.2.2.set i true).getD j false = true ↔ _
  rw [List.getD_eq_getElem?_getD,List.getElem?_set]
  by_cases hji : i = j
  ·subst hji
   have : i < s.2.2.length := by rw [h.ok.2]; exact hp
   simp [this]
  ·have h1 := h.seen j hj
   rw [List.getD_eq_getElem?_getD] at h1
   have hji' : j ≠ i := fun h=>hji h.symm
   simp only [hji,if_false,h1,List.mem_append,List.mem_singleton,Prod.mk.injEq,hji',false_and,or_false]
 ·show j < ((gq s.1 i).set i k).length
  rw [List.length_set,lS]
  rcases List.mem_append.1 hm with hm | hm
  ·have := h.len j k' hm; omega
  ·simp at hm; omega
 ·show ((gq s.1 i).set i k).length = 0 ∨ ∃ k',(((gq s.1 i).set i k).length - 1,k') ∈ l ++ [(i,k)]
  rw [List.length_set,lS]
  by_cases hle : s.1.length ≤ i + 1
  ·right
   exact ⟨k,by rw [show max s.1.length (i + 1) - 1 = i from by omega]; simp⟩
  ·rcases h.last with h0 | ⟨k',hk'⟩
   ·omega
   ·right
    exact ⟨k',by rw [show max s.1.length (i + 1) - 1 = s.1.length - 1 from by omega]; simp [hk']⟩
 ·show ((gq s.1 i).set i k).getD j 0 = 0
  have hji : j ≠ i := fun e=>hno k (by simp [e])
  rw [hset _ _ _ hl1,zy hji,nA]
  exact h.zero j fun k' hm=>hno k' (by simp [hm])
 ·have hb' : s.2.1 = false ∧ (s.2.2.getD i false && (gq s.1 i).getD i 0 != k) = false := by
   have : (s.2.1 || (s.2.2.getD i false && (gq s.1 i).getD i 0 != k)) = false := hb
   simpa using this
  show ((gq s.1 i).set i k).getD j 0 = k'
  rw [hset _ _ _ hl1]
  have hold := h.good hb'.1
  rcases List.mem_append.1 hm with hm1 | hm
  ·by_cases hji : j = i
   ·subst hji
    rw [zp rfl]
    have hs := (h.seen j hp).2 ⟨k',hm1⟩
    have := hb'.2
    rw [hs,nA,hold j k' hm1] at this
    simp at this
    exact this.symm
   ·rw [zy hji,nA]
    exact hold j k' hm1
  ·simp at hm
   rw [zp hm.1,hm.2]
 ·have h1 := h.bad fun i k k' a b=>hk i k k' (by simp [a]) (by simp [b])
  show (s.2.1 || (s.2.2.getD i false && (gq s.1 i).getD i 0 != k)) = false
  rw [h1,Bool.false_or,nA]
  cases hs : s.2.2.getD i false with
  | false=>rfl
  | true =>
   obtain ⟨k',hk'⟩ := (h.seen i hp).1 hs
   rw [h.good h1 i k' hk',hk i k' k (by simp [hk']) (by simp)]
   simp
theorem PInv.fold : ∀ {r l : List (Nat × Int)} {s : PSt},PInv l s → (∀ p ∈ r,p.1 < 8) → PInv (l ++ r) (r.foldl dB s)
 | [],l,s,h,_=>by simpa using h
 | p :: r,l,s,h,hr=>by
  have := PInv.fold (r := r) (h.step (hr p (by simp))) fun q hq=>hr q (by simp [hq])
  simpa using this
theorem kinds_inv (q : LQuery) : PInv (jc q) (iL q) := by
 have := PInv.fold (r := jc q) PInv.init paramsQ_lt
 rw [List.nil_append] at this
 exact this
theorem kinds_bad {q : LQuery} : (iL q).2.1 = false ↔ oi (jc q) := by
 have h := kinds_inv q
 refine ⟨fun hb i k k' a b=>?_,h.bad⟩
 rw [← h.good hb i k a,← h.good hb i k' b]
def Tot {α : Type} (o : Option α) : Prop := ∃ v,o = some v
theorem Tot.mk {α : Type} {v : α} : Tot (Option.some v) := ⟨v,rfl⟩
theorem Tot.bind {α β : Type} {o : Option α} {k : α → Option β} (h : Tot o) (hk : ∀ v,o = some v → Tot (k v)) : Tot (ag o k) := by
 obtain ⟨v,hv⟩ := h
 rw [hv]
 exact hk v hv
theorem Tot.cond {α : Type} {b : Bool} {x y : Option α} (hx : b = true → Tot x) (hy : b = false → Tot y) : Tot (cond b x y) := by
 cases b
 ·exact hy rfl
 ·exact hx rfl
theorem Tot.get {α : Type} {xs : List α} {i : Int} (h0 : 0 ≤ i) (h : i < xs.length) : Tot (aT xs i) := by
 have : i.toNat < xs.length := by omega
 exact ⟨xs[i.toNat],je h0 (ze this)⟩
theorem Tot.sub {α : Type} {xs : List α} {a b : Int} (h : 0 ≤ a ∧ a ≤ b ∧ b ≤ xs.length) : Tot (kI xs a b) := ⟨_,subI_ok h⟩
theorem Tot.range {α σ ρ : Type} {step : Nat → α → σ → Option (Flow σ ρ)} : ∀ (xs : List α) (j : Nat) (s : σ),(∀ k x s,xs[k]? = some x → Tot (step (j + k) x s)) → Tot (aH step j xs s)
 | [],_,s,_=>⟨.next s,rfl⟩
 | x :: xs,j,s,h=>by
  obtain ⟨fl,hfl⟩ := h 0 x s rfl
  rw [Nat.add_zero] at hfl
  rw [aH,hfl]
  cases fl with
  | next s' =>
   exact Tot.range xs (j + 1) s' fun k y t hk=>by
    have := h (k + 1) y t (by simpa using hk)
    rwa [show j + (k + 1) = j + 1 + k from by omega] at this
  | brk s'=>exact ⟨_,rfl⟩
  | ret r=>exact ⟨_,rfl⟩
theorem Tot.thenR {σ ρ : Type} {fl : Flow σ ρ} {k : σ → Option ρ} (h : ∀ s,(fl = .next s ∨ fl = .brk s) → Tot (k s)) : Tot (fl.thenR k) := by
 cases fl with
 | next s=>exact h s (.inl rfl)
 | brk s=>exact h s (.inr rfl)
 | ret r=>exact ⟨r,rfl⟩
theorem ma {a b : Int} (h : a ≠ b) : (a != b) = true := by simpa using h
theorem lh {a b : Int} (h : a = b) : (a != b) = false := by simp [h]
theorem fK {a b : Int} (h : a ≠ b) : (a == b) = false := by simpa using h
theorem gS {a b : Int} (h : a = b) : (a == b) = true := by simp [h]
theorem idxF {α : Type} {l : List α} {f : α → Option Bool} {p : α → Bool} (h : ∀ x ∈ l,f x = some (p x)) :
  ag (aH (σ := Unit) (ρ := Int) (fun (j1 : Nat) (x1 : α) (_ : Unit)=>ag (f x1) fun x16=>cond x16 (some (.ret (j1 : Int))) (some (.next ()))) 0 l ()) (fun fl1=>fl1.thenR fun (_ : Unit)=>some (-1)) = some (bJ p l) := by
 rw [qE p (fun j _=>(j : Int)) l 0 (fun k x hk=>by
  rw [h x (cO hk),bPs]
  cases p x <;> simp)]
 unfold bJ
 cases hf : l.findIdx? p with
 | none=>rfl
 | some i =>
  have hi := (List.findIdx?_eq_some_iff_getElem.1 hf).1
  simp only [ze hi]
  simp
theorem idxF2 {α : Type} {l : List α} {p : α → Bool} :
  ag (aH (σ := Unit) (ρ := Int) (fun (j1 : Nat) (x1 : α) (_ : Unit)=>cond (p x1) (some (.ret (j1 : Int))) (some (.next ()))) 0 l ()) (fun fl1=>fl1.thenR fun (_ : Unit)=>some (-1)) = some (bJ p l) := idxF (f := fun x=>some (p x)) fun _ _=>rfl
theorem pG {α : Type} {p : α → Bool} {l : List α} (h : 0 ≤ bJ p l) : ∃ x,l[(bJ p l).toNat]? = some x ∧ p x = true := by
 unfold bJ at h ⊢
 cases hf : l.findIdx? p with
 | none=>rw [hf] at h; simp at h
 | some i =>
  obtain ⟨hi,hp,_⟩ := List.findIdx?_eq_some_iff_getElem.1 hf
  exact ⟨l[i],by simp [hi],hp⟩
theorem idx_table (l : List LTable) (p : LTable → Bool) : cr l (fun a=>some (p a)) = some (bJ p l) := idxF fun _ _=>rfl
theorem idx_column (l : List LCol) (p : LCol → Bool) : cd l (fun a=>some (p a)) = some (bJ p l) := idxF fun _ _=>rfl
theorem mQ (s : LSchema) (name : List UInt8) : el s name = some (dM 0 (bJ (fun t=>cE t name) s.tables),decide (bJ (fun t=>cE t name) s.tables ≥ 0)) := by
 unfold el
 rw [idx_table,bPs]
 congr 2
 unfold dM
 split <;> split <;> omega
theorem findColumn_eq (t : LTable) (name : List UInt8) : eE t name = some (dM 0 (bJ (fun c=>cT c name) t.columns),decide (bJ (fun c=>cT c name) t.columns ≥ 0)) := by
 unfold eE
 rw [idx_column,bPs]
 congr 2
 unfold dM
 split <;> split <;> omega
theorem nV {n : Int} (h : 0 ≤ n) : dM 0 n = n := by unfold dM; split <;> omega
theorem pt (s : List UInt8) : Tot (ek s) := by
 unfold ek
 refine Tot.bind ?_ fun b hb=>?_
 ·refine Tot.cond (fun _=>Tot.mk) fun h1=>?_
  refine Tot.cond (fun _=>Tot.mk) fun h2=>?_
  have h1 := of_decide_eq_false h1
  refine Tot.bind (Tot.get (by decide) (by omega)) fun x _=>?_
  refine Tot.cond (fun _=>?_) fun _=>Tot.mk
  exact Tot.bind (Tot.get (by decide) (by omega)) fun x _=>Tot.mk
 ·refine Tot.cond (fun _=>Tot.mk) fun h=>?_
  subst h
  have hl : (s.length : Int) ≤ 12 := by
   by_cases h1 : (s.length : Int) < 1
   ·omega
   ·by_cases h2 : (s.length : Int) > 12
    ·rw [zf h1,zt h2] at hb; simp at hb
    ·omega
  refine Tot.bind ⟨(),oI (by omega)⟩ fun _ _=>?_
  refine Tot.bind (Tot.range _ _ _ fun k x _ _=>?_) fun fl _=>Tot.thenR fun _ _=>Tot.mk
  repeat' first | exact Tot.mk | refine Tot.cond (fun _=>?_) (fun _=>?_)
structure TableOk (t : LTable) : Prop where
 pk : ∀ x ∈ t.primaryKey,0 ≤ x ∧ x < t.columns.length
theorem validTable (t : LTable) (hsm : t.primaryKey.length ≤ 10000000) : ∃ e,dV t = some e ∧ (e = 0 → TableOk t) := by
 unfold dV
 obtain ⟨b,hb⟩ := pt t.name
 rw [hb,bPs]
 cases b with
 | false=>exact ⟨23,rfl,fun h=>by omega⟩
 | true =>
  simp only [Bool.not_true,zd]
  by_cases h0 : (t.columns.length : Int) = 0
  ·exact ⟨3,by simp [h0],fun h=>by omega⟩
  by_cases h6 : (t.columns.length : Int) > 6
  ·have : ((t.columns.length : Int) == 0) = false := by simpa using h0
   exact ⟨2,by rw [this]; simp [h6],fun h=>by omega⟩
  have e0 : ((t.columns.length : Int) == 0) = false := by simpa using h0
  rw [e0,zf h6]
  simp only [zd]
  obtain ⟨fl,hfl,hr⟩ := iq (step := fun (j1 : Nat) (x1 : LCol) (_ : Unit) =>
    ag (ek x1.name) fun x31=>cond (!x31) (some (Flow.ret (σ := Unit) (23 : Int)))
     (ag (eE t x1.name) fun x37=>cond (decide (x37.1 < (j1 : Int))) (some (.ret 5)) (cond (decide (x1.kind < (1 : Int))) (some (.ret 7)) (cond (decide (x1.kind > (3 : Int))) (some (.ret 7)) (some (.next ())))))) (fun _ _=>True) (fun r=>r ≠ 0) t.columns 0 () trivial (fun k x s hk _=>by
    obtain ⟨b,hb⟩ := pt x.name
    rw [hb,bPs,findColumn_eq,bPs]
    cases b with
    | false=>exact ⟨_,rfl,by simp⟩
    | true =>
     simp only [Bool.not_true,zd]
     by_cases a1 : dM 0 (bJ (fun c=>cT c x.name) t.columns) < ((0 + k : Nat) : Int)
     ·exact ⟨.ret 5,by rw [zt a1]; rfl,by simp⟩
     ·rw [zf a1]
      by_cases a2 : x.kind < 1
      ·exact ⟨.ret 7,by rw [zt a2]; rfl,by simp⟩
      ·rw [zf a2]
       by_cases a3 : x.kind > 3
       ·exact ⟨.ret 7,by rw [zt a3]; rfl,by simp⟩
       ·exact ⟨.next (),by rw [zf a3]; rfl,trivial⟩)
  rw [hfl,bPs]
  cases fl with
  | brk s=>exact absurd hr (by simp)
  | ret r=>exact ⟨r,rfl,fun h=>absurd h hr⟩
  | next s =>
   rw [jf]
   obtain ⟨fl,hfl,hr⟩ := iq (step := fun (j2 : Nat) (x2 : Int) (_ : Unit) =>
     cond (decide (x2 < (0 : Int))) (some (Flow.ret (σ := Unit) (9 : Int))) (cond (decide (x2 ≥ (t.columns.length : Int))) (some (.ret 9))
      (ag (aT t.columns x2) fun (x73 : LCol)=>cond x73.nullable (some (.ret 9)) (cond (decide ((j2 : Int) > (0 : Int)))
       (ag (aT t.primaryKey (IntKind.i64.wrap ((j2 : Int) - (1 : Int)))) fun (x86 : Int)=>cond (decide (x2 ≤ x86)) (some (.ret 9)) (some (.next ()))) (some (.next ())))))) (fun j _=>∀ k x,k < j → t.primaryKey[k]? = some x → 0 ≤ x ∧ x < t.columns.length) (fun r=>r ≠ 0) t.primaryKey 0 () (fun k x h=>by omega) (fun k x s hk hI=>by
     simp only [Nat.zero_add] at hI ⊢
     by_cases a1 : x < 0
     ·exact ⟨.ret 9,by rw [zt a1]; rfl,by simp⟩
     rw [zf a1]
     by_cases a2 : x ≥ (t.columns.length : Int)
     ·exact ⟨.ret 9,by rw [zt a2]; rfl,by simp⟩
     rw [zf a2]
     simp only [zd]
     obtain ⟨c,hc⟩ := Tot.get (xs := t.columns) (i := x) (by omega) (by omega)
     rw [hc,bPs]
     have next : ∀ k' x',k' < k + 1 → t.primaryKey[k']? = some x' → 0 ≤ x' ∧ x' < t.columns.length := fun k' x' h1 h2=>by
      by_cases he : k' = k
      ·subst he; rw [hk] at h2; cases h2; omega
      ·exact hI k' x' (by omega) h2
     cases c.nullable with
     | true=>exact ⟨_,rfl,by simp⟩
     | false =>
      simp only [zd]
      by_cases a3 : (k : Int) > 0
      ·rw [zt a3]
       have hkl := (zg.1 hk).1
       rw [gN (by omega) (by omega)]
       obtain ⟨y,hy⟩ := Tot.get (xs := t.primaryKey) (i := (k : Int) - 1) (by omega) (by omega)
       rw [zc,hy,bPs]
       by_cases a4 : x ≤ y
       ·exact ⟨.ret 9,by rw [zt a4]; rfl,by simp⟩
       ·exact ⟨.next (),by rw [zf a4]; rfl,next⟩
      ·exact ⟨.next (),by rw [zf a3]; rfl,next⟩)
   rw [hfl,bPs]
   cases fl with
   | brk s=>exact absurd hr (by simp)
   | ret r=>exact ⟨r,rfl,fun h=>absurd h hr⟩
   | next s =>
    rw [jf]
    simp only [Nat.zero_add] at hr
    by_cases hp : (t.primaryKey.length : Int) = 0
    ·exact ⟨9,by simp [hp],fun h=>by omega⟩
    ·have : ((t.primaryKey.length : Int) == 0) = false := by simpa using hp
     refine ⟨0,by rw [this]; rfl,fun _=>⟨fun x hx=>?_⟩⟩
     obtain ⟨k,hk,rfl⟩ := List.mem_iff_getElem.1 hx
     exact hr k _ hk (ze hk)
theorem qp {α : Type} {xs : List α} {k : Nat} (h : k < xs.length) : aT xs (k : Int) = some xs[k] := lv (ze h)
theorem foreignKey_tot {s : LSchema} (hs : ∀ t ∈ s.tables,TableOk t) (fk : LForeignKey) : Tot (dF s fk) := by
 unfold dF
 rw [mQ,mQ]
 simp only [bPs,bG]
 generalize hi : bJ (fun t=>cE t fk.table) s.tables = i
 generalize hj : bJ (fun t=>cE t fk.refTable) s.tables = j
 by_cases h1 : i ≥ 0
 ·by_cases h2 : j ≥ 0
  ·rw [zt h1,zt h2]
   simp only [Bool.not_true,zd]
   rw [nV h1,nV h2]
   obtain ⟨t,ht,_⟩ := pG (hi ▸ h1)
   obtain ⟨u,hu,_⟩ := pG (hj ▸ h2)
   rw [hi] at ht
   rw [hj] at hu
   rw [je h1 ht,je h2 hu]
   simp only [bPs]
   refine Tot.cond (fun _=>Tot.mk) fun hl=>?_
   have hl : fk.columns.length = u.primaryKey.length := by
    by_cases h : (fk.columns.length : Int) = (u.primaryKey.length : Int)
    ·omega
    ·simp [h] at hl
   refine Tot.bind (Tot.range _ _ _ fun k x st hk=>?_) fun fl _=>Tot.thenR fun _ _=>Tot.mk
   have hkl := (zg.1 hk).1
   by_cases a1 : x < 0
   ·rw [zt a1]; exact Tot.mk
   ·rw [zf a1]
    by_cases a2 : x ≥ (t.columns.length : Int)
    ·rw [zt a2]; exact Tot.mk
    ·rw [zf a2]
     simp only [zd]
     obtain ⟨c,hc⟩ := Tot.get (xs := t.columns) (i := x) (by omega) (by omega)
     rw [hc,bPs,Nat.zero_add,qp (by omega),bPs]
     have hp := (hs u (cO hu)).pk u.primaryKey[k] (List.getElem_mem _)
     obtain ⟨d,hd⟩ := Tot.get (xs := u.columns) (i := u.primaryKey[k]) hp.1 hp.2
     rw [hd,bPs]
     exact Tot.cond (fun _=>Tot.mk) fun _=>Tot.mk
  ·rw [zf h2]
   simp only [Bool.not_false]
   cases decide (i ≥ 0) <;> exact Tot.mk
 ·rw [zf h1]
  exact Tot.mk
theorem constraint_tot (s : LSchema) (c : LConstraint) : Tot (dI s c) := by
 unfold dI
 rw [mQ]
 simp only [bPs,bG]
 generalize hi : bJ (fun t=>cE t c.table) s.tables = i
 by_cases h1 : i ≥ 0
 ·rw [zt h1]
  simp only [Bool.not_true,zd]
  rw [nV h1]
  obtain ⟨t,ht,_⟩ := pG (hi ▸ h1)
  rw [hi] at ht
  rw [je h1 ht,bPs]
  refine Tot.cond (fun _=>Tot.mk) fun hl=>?_
  by_cases a1 : c.left < 0
  ·rw [zt a1] at hl; cases hl
  rw [zf a1,zd] at hl
  by_cases a2 : c.left ≥ (t.columns.length : Int)
  ·rw [zt a2] at hl; cases hl
  rw [zf a2,zd] at hl
  obtain ⟨x,hx⟩ := Tot.get (xs := t.columns) (i := c.left) (by omega) (by omega)
  rw [hx]
  refine Tot.cond (fun a3=>?_) fun _=>?_
  ·have a3 := of_decide_eq_true a3
   have a4 : c.right < (t.columns.length : Int) := by
    rcases Int.lt_or_le c.right (t.columns.length : Int) with h | h
    ·exact h
    ·have e : decide (c.right ≥ (t.columns.length : Int)) = true := zt h
     rw [e] at hl
     revert hl
     cases ((fF (LVal.mk 0 0 []) c.op (LVal.mk 0 0 [])).2 != 0) <;> cases decide (c.right < -1) <;> simp
   obtain ⟨y,hy⟩ := Tot.get (xs := t.columns) (i := c.right) a3 a4
   rw [hy]
   simp only [bPs]
   exact Tot.cond (fun _=>Tot.mk) fun _=>Tot.mk
  ·rw [bPs]
   exact Tot.cond (fun _=>Tot.mk) fun _=>Tot.mk
 ·rw [zf h1]
  exact Tot.mk
theorem equalInts_tot (a b : List Int) : Tot (et a b) := by
 unfold et
 refine Tot.cond (fun _=>Tot.mk) fun h=>?_
 have h : a.length = b.length := by
  by_cases h' : (a.length : Int) = (b.length : Int)
  ·omega
  ·simp [h'] at h
 refine Tot.bind (Tot.range _ _ _ fun k x s hk=>?_) fun fl _=>Tot.thenR fun _ _=>Tot.mk
 have hkl := (zg.1 hk).1
 rw [Nat.zero_add,qp (by omega),bPs]
 exact Tot.cond (fun _=>Tot.mk) fun _=>Tot.mk
theorem fkIn_tot (l : List LForeignKey) (x : LForeignKey) : Tot (bI l (fun a0=>eG a0 x)) := by
 unfold bI ce
 refine Tot.bind (Tot.bind (Tot.range _ _ _ fun k y s hk=>?_) fun fl _=>Tot.thenR fun _ _=>Tot.mk) fun _ _=>Tot.mk
 refine Tot.bind ?_ fun _ _=>Tot.cond (fun _=>Tot.mk) fun _=>Tot.mk
 unfold eG
 refine Tot.bind ?_ fun _ _=>Tot.mk
 unfold ff
 refine Tot.cond (fun _=>Tot.bind (equalInts_tot _ _) fun _ _=>Tot.cond (fun _=>Tot.mk) fun _=>Tot.mk) fun _=>Tot.mk
theorem csIn_tot (l : List LConstraint) (x : LConstraint) : Tot (bN l x) := by
 unfold bN cy
 refine Tot.bind (Tot.bind (Tot.range _ _ _ fun k y s hk=>?_) fun fl _=>Tot.thenR fun _ _=>Tot.mk) fun _ _=>Tot.mk
 exact Tot.cond (fun _=>Tot.mk) fun _=>Tot.mk
def SmallS (s : LSchema) : Prop := ∀ t ∈ s.tables,t.primaryKey.length ≤ 10000000
theorem validate_tot {s : LSchema} (hsm : SmallS s) : Tot (gH s) := by
 unfold gH
 rw [bG]
 refine Tot.cond (fun _=>Tot.mk) fun ht=>?_
 have h6 : s.tables.length ≤ 6 := by
  by_cases h : (s.tables.length : Int) > 6
  ·rw [zt h] at ht; cases ht
  ·omega
 obtain ⟨fl,hfl,hr⟩ := iq (step := fun (j2 : Nat) (x2 : LTable) (_ : Unit) =>
   ag (dV x2) fun x37=>cond (x37 != (0 : Int)) (some (Flow.ret (σ := Unit) x37)) (cond (decide ((j2 : Int) > (0 : Int)))
     (ag (aT s.tables (IntKind.i64.wrap ((j2 : Int) - (1 : Int)))) fun (x50 : LTable)=>cond (Op.bytesLess x2.name x50.name || x2.name == x50.name) (some (.ret 6)) (some (.next ()))) (some (.next ())))) (fun j _=>∀ k x,k < j → s.tables[k]? = some x → TableOk x) (fun _=>True) s.tables 0 () (fun k x h=>by omega) (fun k x st hk hI=>by
    simp only [Nat.zero_add] at hI ⊢
    obtain ⟨e,he,hok⟩ := validTable x (hsm x (cO hk))
    rw [he,bPs]
    by_cases h0 : e = 0
    ·have next : ∀ k' x',k' < k + 1 → s.tables[k']? = some x' → TableOk x' := fun k' x' h1 h2=>by
      by_cases heq : k' = k
      ·subst heq; rw [hk] at h2; cases h2; exact hok h0
      ·exact hI k' x' (by omega) h2
     rw [show (e != (0 : Int)) = false from by simp [h0],zd]
     by_cases a3 : (k : Int) > 0
     ·have hkl := (zg.1 hk).1
      rw [zt a3,gN (by omega) (by omega)]
      obtain ⟨y,hy⟩ := Tot.get (xs := s.tables) (i := (k : Int) - 1) (by omega) (by omega)
      rw [zc,hy,bPs]
      cases (Op.bytesLess x.name y.name || x.name == y.name) with
      | true=>exact ⟨.ret 6,rfl,trivial⟩
      | false=>exact ⟨.next (),rfl,next⟩
     ·exact ⟨.next (),by rw [zf a3]; rfl,next⟩
    ·exact ⟨.ret e,by rw [show (e != (0 : Int)) = true from by simp [h0]]; rfl,trivial⟩)
 rw [hfl,bPs]
 cases fl with
 | brk s=>exact absurd hr (by simp)
 | ret r=>exact Tot.mk
 | next u =>
  rw [jf]
  simp only [Nat.zero_add] at hr
  have hok : ∀ t ∈ s.tables,TableOk t := fun t ht=>by
   obtain ⟨k,hk,rfl⟩ := List.mem_iff_getElem.1 ht
   exact hr k _ hk (ze hk)
  refine Tot.bind (Tot.range _ _ _ fun k x st hk=>?_) fun fl _=>Tot.thenR fun _ _=>?_
  ·refine Tot.bind (foreignKey_tot hok x) fun e _=>Tot.cond (fun _=>Tot.mk) fun _=>?_
   have hkl := (zg.1 hk).1
   refine Tot.bind (Tot.sub ⟨by omega,by omega,by omega⟩) fun l _=>?_
   exact Tot.bind (fkIn_tot l x) fun _ _=>Tot.cond (fun _=>Tot.mk) fun _=>Tot.mk
  ·refine Tot.bind (Tot.range _ _ _ fun k x st hk=>?_) fun fl _=>Tot.thenR fun _ _=>Tot.mk
   refine Tot.bind (constraint_tot s x) fun e _=>Tot.cond (fun _=>Tot.mk) fun _=>?_
   have hkl := (zg.1 hk).1
   refine Tot.bind (Tot.sub ⟨by omega,by omega,by omega⟩) fun l _=>?_
   exact Tot.bind (csIn_tot l x) fun _ _=>Tot.cond (fun _=>Tot.mk) fun _=>Tot.mk
theorem containsI (l : List Int) (v : Int) : dQ l v = some (l.any fun x=>v == x) := by
 unfold dQ fL
 rw [idxF2 (p := fun x=>v == x),bPs,nz]
theorem shape1 (l : List Int) (q : LQuery) : cL l q = some (l.any fun x=>q.kind == x) := by
 unfold cL
 rw [containsI,bPs]
def arityQ (k : Int) : Nat := if k = 1 then 0 else if k = 4 ∨ k = 5 ∨ k = 6 ∨ k = 7 then 2 else 1
def jO (q : LQuery) : Bool :=
 decide (1 ≤ q.kind) && decide (q.kind ≤ 10) && decide (q.inputs.length = arityQ q.kind) && (q.kind == 1 || q.table == []) && (q.kind == 3 || q.kind == 8 || decide (q.names.length = 0)) &&
 (q.kind == 8 || decide (q.aggregates.length = 0)) && (q.kind == 9 || decide (q.descending.length = 0)) && (q.kind == 10 || (q.count == 0 && q.offset == 0)) &&
 (if q.kind = 2 ∨ q.kind = 4 ∨ q.kind = 5 then decide (q.exprs.length = 1)
  else if q.kind = 3 ∨ q.kind = 8 then decide (q.exprs.length = q.names.length) && decide (0 < q.exprs.length + q.aggregates.length)
  else if q.kind = 9 then decide (q.exprs.length = q.descending.length) && decide (0 < q.exprs.length)
  else if q.kind = 10 then decide (q.exprs.length = 0) && decide (q.count ≥ 0) && decide (q.offset ≥ 0)
  else decide (q.exprs.length = 0))
theorem natE (a b : Nat) : ((a : Int) == (b : Int)) = decide (a = b) := by
 by_cases h : a = b
 ·simp [h]
 ·rw [zf h]; exact fK (by omega)
theorem natNE (a b : Nat) : ((a : Int) != (b : Int)) = !decide (a = b) := by rw [bne,natE]
theorem natPos (a : Nat) : decide ((a : Int) > 0) = !decide (a = 0) := by
 by_cases h : a = 0
 ·simp [h]
 ·rw [zf h,zt (by omega)]; rfl
theorem condSome {α : Type} (b : Bool) (x y : α) : (cond b (some x) (some y)) = some (cond b x y) := by cases b <;> rfl
theorem shape_eq (q : LQuery) (hs : q.exprs.length ≤ 10000000 ∧ q.aggregates.length ≤ 10000000) : iX q = some (jO q) := by
 unfold iX
 simp only [shape1,bPs]
 by_cases k0 : q.kind < 1
 ·rw [zt k0]
  simp [jO,show ¬ (1 ≤ q.kind) from by omega]
 rw [zf k0]
 by_cases k10 : q.kind > 10
 ·rw [zt k10]
  simp [jO,show ¬ (q.kind ≤ 10) from by omega]
 rw [zf k10]
 have hw : IntKind.i64.wrap ((q.exprs.length : Int) + (q.aggregates.length : Int)) = ((q.exprs.length + q.aggregates.length : Nat) : Int) := by rw [gN (by omega) (by omega)]; simp
 rw [hw]
 have hk : q.kind = 1 ∨ q.kind = 2 ∨ q.kind = 3 ∨ q.kind = 4 ∨ q.kind = 5 ∨ q.kind = 6 ∨ q.kind = 7 ∨ q.kind = 8 ∨ q.kind = 9 ∨ q.kind = 10 := by omega
 unfold jO
 have e0 : ∀ n : Nat,((n : Int) == 0) = decide (n = 0) := fun n=>natE n 0
 have e1 : ∀ n : Nat,((n : Int) == 1) = decide (n = 1) := fun n=>natE n 1
 have n0 : ∀ n : Nat,((n : Int) != 0) = !decide (n = 0) := fun n=>natNE n 0
 have n1 : ∀ n : Nat,((n : Int) != 1) = !decide (n = 1) := fun n=>natNE n 1
 have n2 : ∀ n : Nat,((n : Int) != 2) = !decide (n = 2) := fun n=>natNE n 2
 have c0 : (q.count != 0) = !(q.count == 0) := rfl
 have o0 : (q.offset != 0) = !(q.offset == 0) := rfl
 have p0 : decide (0 < q.exprs.length) = !decide (q.exprs.length = 0) := by rw [← natPos]; simp
 have p1 : decide (0 < q.exprs.length + q.aggregates.length) = !decide (q.exprs.length + q.aggregates.length = 0) := by rw [← natPos]; simp; omega
 simp only [natPos,natE,e0,e1,c0,o0,p0,p1]
 generalize (q.table == []) = b1
 generalize decide (q.names.length = 0) = b2
 generalize decide (q.aggregates.length = 0) = b3
 generalize decide (q.descending.length = 0) = b4
 generalize (q.count == 0) = b5
 generalize (q.offset == 0) = b6
 generalize decide (q.exprs.length = 1) = b7
 generalize decide (q.exprs.length = q.names.length) = b8
 generalize decide (q.exprs.length + q.aggregates.length = 0) = b9
 generalize decide (q.exprs.length = q.descending.length) = b10
 generalize decide (q.exprs.length = 0) = b11
 generalize decide (q.count ≥ 0) = b12
 generalize decide (q.offset ≥ 0) = b13
 generalize hL : q.inputs.length = L
 rcases hk with h | h | h | h | h | h | h | h | h | h <;> rw [h]
 all_goals simp only [arityQ,aT]
 all_goals simp [n0,n1,n2,condSome,Bool.and_assoc]
def e0Q (q : LQuery) : LExpr := q.exprs.headD (.mk 1 [] 0 .nul [])
def mX (a b : List LCol) (left : Bool) : List LCol := a ++ b.map fun x=>⟨x.name,x.kind,x.nullable || left⟩
def setCols (kind : Int) (a b : List LCol) : List LCol × Int :=
 if a.length = b.length ∧ a.map LCol.kind = b.map LCol.kind then (List.zipWith (fun x y=>⟨x.name,x.kind,x.nullable || (kind == 6 && y.nullable)⟩) a b,0) else ([],7)
def cv (vars cols : List LCol) : List LExpr → List (List UInt8) → List LCol × Int
 | e :: es,n :: ns=>if cR n = false then ([],3) else if (dA cols vars e).2.2 ≠ 0 then ([],(dA cols vars e).2.2) else if (dA cols vars e).1 = 0 then ([],7)
  else if (cv vars cols es ns).2 ≠ 0 then ([],(cv vars cols es ns).2) else (⟨n,(dA cols vars e).1,(dA cols vars e).2.1⟩ :: (cv vars cols es ns).1,0)
 | _,_=>([],0)
abbrev kG : List UInt8 := [99,111,117,110,116]
abbrev sSum : List UInt8 := [115,117,109]
abbrev sMin : List UInt8 := [109,105,110]
abbrev sMax : List UInt8 := [109,97,120]
def aggQ (vars cols : List LCol) (a : LAggregateCall) : Int × Int :=
 if cR a.name = false ∨ ¬ a.function ∈ [kG,sSum,sMin,sMax] ∨ 1 < a.args.length ∨ (a.args.length < 1 ∧ a.function ≠ kG) then (0,3)
 else match a.args with
  | []=>(1,0)
  | e :: _=>if (dA cols vars e).2.2 ≠ 0 then (0,(dA cols vars e).2.2) else if (dA cols vars e).1 = 0 ∨ (a.function = sSum ∧ (dA cols vars e).1 ≠ 1) then (0,7)
   else if a.function = kG then (1,0) else ((dA cols vars e).1,0)
def fH (vars cols : List LCol) : List LAggregateCall → List LCol × Int
 | []=>([],0)
 | a :: l=>if (aggQ vars cols a).2 ≠ 0 then ([],(aggQ vars cols a).2) else if (fH vars cols l).2 ≠ 0 then ([],(fH vars cols l).2)
  else (⟨a.name,(aggQ vars cols a).1,!(a.function == kG)⟩ :: (fH vars cols l).1,0)
def namedQ (vars cols : List LCol) (q : LQuery) : List LCol × Int :=
 if (cv vars cols q.exprs q.names).2 ≠ 0 then ([],(cv vars cols q.exprs q.names).2)
 else if (fH vars cols q.aggregates).2 ≠ 0 then ([],(fH vars cols q.aggregates).2)
 else ((cv vars cols q.exprs q.names).1 ++ (fH vars cols q.aggregates).1,0)
def kr (vars cols : List LCol) : List LExpr → Int
 | []=>0
 | e :: l=>if (dA cols vars e).2.2 ≠ 0 then (dA cols vars e).2.2 else kr vars cols l
def kn (c : LChecker) (q : LQuery) (ins : List (List LCol)) : List LCol × Int :=
 if q.kind = 1 then (match c.s.tables.find? fun t=>t.name == q.table with | some t=>(t.columns,0) | none=>([],4))
 else if q.kind = 2 then (ins.getD 0 [],ca c (ins.getD 0 []) (e0Q q))
 else if q.kind = 4 ∨ q.kind = 5 then (mX (ins.getD 0 []) (ins.getD 1 []) (q.kind == 5),ca c (mX (ins.getD 0 []) (ins.getD 1 []) (q.kind == 5)) (e0Q q))
 else if q.kind = 6 ∨ q.kind = 7 then setCols q.kind (ins.getD 0 []) (ins.getD 1 [])
 else if q.kind = 3 ∨ q.kind = 8 then namedQ c.vars (ins.getD 0 []) q
 else if q.kind = 9 then (if kr c.vars (ins.getD 0 []) q.exprs ≠ 0 then ([],kr c.vars (ins.getD 0 []) q.exprs) else (ins.getD 0 [],0))
 else (ins.getD 0 [],0)
theorem find_idx {α : Type} (p : α → Bool) (l : List α) : (l.find? p = none ∧ bJ p l = -1) ∨ ∃ x,l.find? p = some x ∧ 0 ≤ bJ p l ∧ l[(bJ p l).toNat]? = some x := by
 induction l with
 | nil=>exact .inl ⟨rfl,rfl⟩
 | cons a l ih =>
  by_cases h : p a = true
  ·right
   exact ⟨a,by simp [h],by unfold bJ; simp [List.findIdx?_cons,h],by unfold bJ; simp [List.findIdx?_cons,h]⟩
  ·have h : p a = false := by simpa using h
   have hi : bJ p (a :: l) = if bJ p l < 0 then -1 else bJ p l + 1 := by
    unfold bJ
    simp only [List.findIdx?_cons,h,Bool.false_eq_true,if_false]
    cases l.findIdx? p with
    | none=>rfl
    | some i=>rw [zy (by simp only; omega)]; simp
   rw [List.find?_cons,h,hi]
   rcases ih with ⟨h1,h2⟩ | ⟨x,h1,h2,h3⟩
   ·left; exact ⟨h1,by rw [h2]; rfl⟩
   ·right
    refine ⟨x,h1,by split <;> omega,?_⟩
    rw [zy (by omega),show (bJ p l + 1).toNat = (bJ p l).toNat + 1 from by omega,List.getElem?_cons_succ,h3]
theorem set_ok (kind : Int) (a b : List LCol) : gf kind a b = some (setCols kind a b) := by
 unfold gf setCols
 by_cases hl : a.length = b.length
 ·rw [natNE,zt hl]
  simp only [Bool.not_true,zd]
  let z : LCol → LCol → LCol := fun x y=>⟨x.name,x.kind,x.nullable || (kind == 6 && y.nullable)⟩
  obtain ⟨fl,hfl,hr⟩ := iq (step := fun (j1 : Nat) (x1 : LCol) (s1 : List LCol) =>
   ag (aT b (j1 : Int)) fun (x29 : LCol)=>cond (x1.kind != x29.kind) (some (Flow.ret (([],7) : List LCol × Int)))
    (cond x1.nullable (ag (aT s1 (j1 : Int)) fun (x51 : LCol)=>bq (s1.set ((j1 : Int).toNat) (LCol.mk x51.name x51.kind true)) fun (y8 : List LCol)=>some (.next y8))
     (cond (kind == (6 : Int)) (ag (aT b (j1 : Int)) fun (x46 : LCol)=>ag (aT s1 (j1 : Int)) fun (x51 : LCol)=>bq (s1.set ((j1 : Int).toNat) (LCol.mk x51.name x51.kind x46.nullable)) fun (y9 : List LCol)=>some (.next y9))
      (ag (aT s1 (j1 : Int)) fun (x51 : LCol)=>bq (s1.set ((j1 : Int).toNat) (LCol.mk x51.name x51.kind false)) fun (y10 : List LCol)=>some (.next y10)))))
   (fun j s=>s = (List.zipWith z a b).take j ++ a.drop j ∧ (a.take j).map LCol.kind = (b.take j).map LCol.kind) (fun r=>r = ([],7) ∧ a.map LCol.kind ≠ b.map LCol.kind) a 0 a ⟨by simp,rfl⟩ (fun k x s hk hI=>by
    simp only [Nat.zero_add] at hI ⊢
    have hka := (zg.1 hk).1
    have hxe := (zg.1 hk).2
    have hkb : k < b.length := by omega
    rw [qp hkb,bPs,bPs]
    by_cases hkk : x.kind = b[k].kind
    ·have hzl : ((List.zipWith z a b).take k).length = k := by simp; omega
     have hs : s[k]? = some x := by
      rw [hI.1,List.getElem?_append_right (by omega),hzl,Nat.sub_self,List.getElem?_drop,Nat.add_zero,hk]
     have hkinds : (a.take (k + 1)).map LCol.kind = (b.take (k + 1)).map LCol.kind := by
      rw [List.take_add_one,List.take_add_one,hk,ze hkb,List.map_append,List.map_append,hI.2]
      congr 1
      show [x.kind] = [b[k].kind]
      rw [hkk]
     have hset : ∀ v : LCol,v = z x b[k] → s.set k v = (List.zipWith z a b).take (k + 1) ++ a.drop (k + 1) := by
      intro v hv
      rw [hI.1,List.set_append_right _ _ (by omega),hzl,Nat.sub_self]
      rw [List.drop_eq_getElem_cons hka,List.set_cons_zero,List.take_add_one,List.append_assoc]
      congr 1
      rw [List.getElem?_zipWith,hk,ze hkb]
      simp [hv]
     rw [lh hkk,zd,lv hs]
     simp only [bPs,bG,Int.toNat_natCast]
     cases hx : x.nullable with
     | true=>exact ⟨_,rfl,hset _ (by simp [z,hx]),hkinds⟩
     | false =>
      by_cases h6 : kind = 6
      ·exact ⟨.next _,by rw [gS h6]; rfl,hset _ (by simp [z,hx,h6]),hkinds⟩
      ·exact ⟨.next _,by rw [fK h6]; rfl,hset _ (by simp [z,hx,h6]),hkinds⟩
    ·refine ⟨.ret ([],7),by rw [ma hkk]; rfl,rfl,fun he=>hkk ?_⟩
     have := congrArg (fun l=>l[k]?) he
     simp only [List.getElem?_map,hk,ze hkb,Option.map_some,zo] at this
     exact this)
  rw [hfl,bPs]
  cases fl with
  | brk s=>exact absurd hr (by simp)
  | ret r=>rw [hr.1,zy (fun h=>hr.2 h.2)]; rfl
  | next s =>
   simp only [Nat.zero_add] at hr
   rw [jf,hr.1,zp ⟨hl,by have := hr.2; rwa [List.take_length,hl,List.take_length] at this⟩]
   have : (List.zipWith z a b).take a.length = List.zipWith z a b := List.take_of_length_le (by simp; omega)
   rw [this,List.drop_length,List.append_nil]
 ·rw [natNE,zf hl,zy (fun h=>hl h.1)]
  rfl
theorem mu {α : Type} {l : List α} {d : α} (h : 0 < l.length) : aT l 0 = some (l.getD 0 d) := by
 cases l with
 | nil=>simp at h
 | cons a l=>rfl
theorem getD1 {α : Type} {l : List α} {d : α} (h : 1 < l.length) : aT l 1 = some (l.getD 1 d) := by
 match l with
 | []=>simp at h
 | [_]=>simp at h
 | a :: b :: l=>rfl
theorem e0_get {q : LQuery} (h : 0 < q.exprs.length) : aT q.exprs 0 = some (e0Q q) := by
 unfold e0Q
 cases hq : q.exprs with
 | nil=>rw [hq] at h; simp at h
 | cons a l=>rfl
theorem containsS (l : List (List UInt8)) (v : List UInt8) : cB l v = some (decide (v ∈ l)) := by
 unfold cB bH
 rw [idxF2 (p := fun x=>v == x),bPs,nz]
 congr 1
 by_cases h : v ∈ l
 ·rw [zt h,List.any_eq_true]; exact ⟨v,h,by simp⟩
 ·rw [zf h,List.any_eq_false]
  intro x hx he
  exact h (by simp at he; rwa [he])
theorem agg_eq (c : LChecker) (cols : List LCol) (a : LAggregateCall) : eH c cols a = some (aggQ c.vars cols a) := by
 unfold eH aggQ
 simp only [bG,containsS,bPs]
 by_cases h1 : cR a.name = false
 ·simp [h1]
 have h1' : cR a.name = true := by simpa using h1
 by_cases h2 : a.function ∈ [kG,sSum,sMin,sMax]
 ·rw [zt (show a.function ∈ ([[99,111,117,110,116],[115,117,109],[109,105,110],[109,97,120]] : List (List UInt8)) from h2)]
  cases ha : a.args with
  | nil =>
   by_cases h3 : a.function = kG
   ·simp [h1',h3]
   ·have h3' : (a.function == ([99,111,117,110,116] : List UInt8)) = false := by simpa using h3
    simp [h1',h3,h2,h3']
  | cons e l =>
   cases l with
   | cons e2 l =>
    have : (1 : Int) < (l.length : Int) + 1 + 1 := by omega
    simp [h1',h2,this]
   | nil =>
    simp only [h1',Bool.not_true,zd,List.length_singleton]
    have hno : ¬ (True = False ∨ ¬ a.function ∈ [kG,sSum,sMin,sMax] ∨ 1 < 1 ∨ (1 < 1 ∧ a.function ≠ kG)) := by simp [h2]
    simp only [aT]
    by_cases h4 : (dA cols c.vars e).2.2 = 0
    ·by_cases h5 : (dA cols c.vars e).1 = 0
     ·simp [h2,h4,h5]
     ·by_cases h6 : a.function = sSum
      ·by_cases h7 : (dA cols c.vars e).1 = 1
       ·simp [h4,h6,h7]
       ·simp [h4,h5,h6,h7,ma h7]
      ·have h6' : (a.function == ([115,117,109] : List UInt8)) = false := by simpa using h6
       by_cases h8 : a.function = kG
       ·simp [h4,h5,h8,fK h5]
       ·have h8' : (a.function == ([99,111,117,110,116] : List UInt8)) = false := by simpa using h8
        simp [h2,h4,h5,h6,h8,h6',h8',fK h5]
    ·simp [h2,h4,ma h4]
 ·rw [zf (show ¬ a.function ∈ ([[99,111,117,110,116],[115,117,109],[109,105,110],[109,97,120]] : List (List UInt8)) from h2)]
  simp [h1',h2]
theorem namedE_run (vars cols : List LCol) (names : List (List UInt8)) : ∀ (es : List LExpr) (j : Nat) (s : List LCol),es.length + j = names.length → s.length + es.length ≤ 10000000 →
  ∀ k : List LCol → Option (List LCol × Int),ag (aH (σ := List LCol) (ρ := ((List LCol) × Int)) (fun (j1 : Nat) (x1 : LExpr) (s1 : List LCol) =>
  bq (dA cols vars x1) fun x31 =>
  ag (aT names (j1 : Int)) fun (x39 : List UInt8) =>
  bq (cR x39) fun x41 =>
  cond (!x41)
   (some (.ret ([],3)))
   (cond (x31.2.2 != (0 : Int))
    (some (.ret ([],x31.2.2)))
    (cond (x31.1 == (0 : Int))
     (some (.ret ([],7)))
     (ag (aT names (j1 : Int)) fun (x54 : List UInt8) =>
     ag (cq 32 s1 ([(LCol.mk x54 x31.1 x31.2.1)] : List LCol)) fun (x60 : List LCol) =>
     some (.next x60))))) j es s) (fun fl1=>fl1.thenR k) = if (cv vars cols es (names.drop j)).2 ≠ 0 then some ([],(cv vars cols es (names.drop j)).2) else k (s ++ (cv vars cols es (names.drop j)).1)
 | [],j,s,_,_,k=>by simp [aH,cv]
 | e :: es,j,s,hl,hb,k=>by
  have hj : j < names.length := by simp at hl; omega
  rw [aH,List.drop_eq_getElem_cons hj,cv,bG,qp hj,bPs,bG]
  cases h1 : cR names[j] with
  | false=>simp
  | true =>
   simp only [Bool.not_true,zd,Bool.true_eq_false,if_false]
   by_cases h2 : (dA cols vars e).2.2 = 0
   ·rw [lh h2,zd]
    simp only [h2,ne_eq,not_true_eq_false,if_false]
    by_cases h3 : (dA cols vars e).1 = 0
    ·rw [gS h3]; simp [h3]
    ·rw [fK h3,zd,bPs,cK (by decide) (by simp at hb ⊢; omega),bPs]
     simp only [h3,if_false]
     rw [namedE_run vars cols names es (j + 1) _ (by simp at hl; omega) (by simp at hb ⊢; omega) k]
     by_cases h4 : (cv vars cols es (names.drop (j + 1))).2 = 0
     ·simp [h4]
     ·simp [h4]
   ·rw [ma h2]
    simp [h2]
theorem namedA_run (c : LChecker) (cols : List LCol) : ∀ (l : List LAggregateCall) (j : Nat) (s : List LCol),s.length + l.length ≤ 10000000 →
  ag (aH (σ := List LCol) (ρ := ((List LCol) × Int)) (fun (_ : Nat) (x2 : LAggregateCall) (s2 : List LCol) =>
  ag (eH c cols x2) fun x73 =>
  cond (x73.2 != (0 : Int))
   (some (.ret ([],x73.2)))
   (ag (cq 32 s2 ([(LCol.mk x2.name x73.1 (!(x2.function == ([99,111,117,110,116] : List UInt8))))] : List LCol)) fun (x88 : List LCol) =>
   some (.next x88))) j l s) (fun fl2=>fl2.thenR fun (s2 : List LCol)=>some (s2,0)) = some (if (fH c.vars cols l).2 ≠ 0 then ([],(fH c.vars cols l).2) else (s ++ (fH c.vars cols l).1,0))
 | [],j,s,_=>by simp [aH,fH]
 | a :: l,j,s,hb=>by
  rw [aH,fH,agg_eq,bPs]
  by_cases h1 : (aggQ c.vars cols a).2 = 0
  ·rw [lh h1,zd,cK (by decide) (by simp at hb ⊢; omega),bPs]
   simp only [h1,ne_eq,not_true_eq_false,if_false]
   rw [namedA_run c cols l (j + 1) _ (by simp at hb ⊢; omega)]
   by_cases h4 : (fH c.vars cols l).2 = 0
   ·simp [h4]
   ·simp [h4]
  ·rw [ma h1]
   simp [h1]
theorem named_eq (c : LChecker) (q : LQuery) (cols : List LCol) (hl : q.exprs.length = q.names.length) (hb : q.exprs.length ≤ 1000000 ∧ q.aggregates.length ≤ 1000000) : dy c q cols = some (namedQ c.vars cols q) := by
 unfold dy namedQ
 rw [namedE_run c.vars cols q.names q.exprs 0 [] (by omega) (by simp; omega),List.drop_zero]
 by_cases h : (cv c.vars cols q.exprs q.names).2 = 0
 ·have hlen : ∀ (es : List LExpr) (ns : List (List UInt8)),(cv c.vars cols es ns).1.length ≤ es.length := by
   intro es
   induction es with
   | nil=>intro ns; simp [cv]
   | cons e es ih =>
    intro ns
    cases ns with
    | nil=>simp [cv]
    | cons n ns =>
     simp only [cv]
     split
     ·simp
     ·split
      ·simp
      ·split
       ·simp
       ·split
        ·simp
        ·have := ih ns; simp; omega
  simp only [h,ne_eq,not_true_eq_false,if_false,List.nil_append]
  rw [namedA_run c cols q.aggregates 0 _ (by have := hlen q.exprs q.names; omega)]
 ·simp [h]
structure SmallQ (q : LQuery) : Prop where
 nodes : (bP q).length ≤ 10000000
 here : ∀ x ∈ bP q,x.exprs.length ≤ 1000000 ∧ x.aggregates.length ≤ 1000000
theorem nE {q x y : LQuery} (h : x ∈ q.inputs) (hy : y ∈ bP x) : y ∈ bP q := by
 rw [eh]
 exact List.mem_cons_of_mem _ (List.mem_flatten.2 ⟨_,List.mem_map.2 ⟨x,h,rfl⟩,hy⟩)
theorem oN (q : LQuery) : q ∈ bP q := by rw [eh]; exact List.mem_cons_self
theorem SmallQ.sub {q x : LQuery} (h : SmallQ q) (hx : x ∈ q.inputs) : SmallQ x :=
 ⟨by have := iW hx; have := h.nodes; omega,fun y hy=>h.here y (nE hx hy)⟩
theorem SmallQ.self {q : LQuery} (h : SmallQ q) : q.exprs.length ≤ 1000000 ∧ q.aggregates.length ≤ 1000000 := h.here q (oN q)
structure ShapeOk (q : LQuery) : Prop where
 kind : 1 ≤ q.kind ∧ q.kind ≤ 10
 arity : q.inputs.length = arityQ q.kind
 one : q.kind = 2 ∨ q.kind = 4 ∨ q.kind = 5 → q.exprs.length = 1
 named : q.kind = 3 ∨ q.kind = 8 → q.exprs.length = q.names.length
 aggs : q.kind ≠ 8 → q.aggregates = []
 sorted : q.kind = 9 → q.exprs.length = q.descending.length
 limit : q.kind = 10 → 0 ≤ q.count ∧ 0 ≤ q.offset
theorem shape_ok {q : LQuery} (h : jO q = true) : ShapeOk q := by
 unfold jO at h
 simp only [Bool.and_eq_true,decide_eq_true_eq] at h
 obtain ⟨⟨⟨⟨⟨⟨⟨⟨h1,h2⟩,h3⟩,h4⟩,h5⟩,h6⟩,h7⟩,h8⟩,h9⟩ := h
 refine ⟨⟨h1,h2⟩,h3,fun hk=>?_,fun hk=>?_,fun hk=>?_,fun hk=>?_,fun hk=>?_⟩
 ·rw [zp hk] at h9; simpa using h9
 ·rw [zy (by omega),zp hk] at h9; simp at h9; exact h9.1
 ·have : (q.kind == 8) = false := fK hk
  rw [this] at h6; simp at h6; exact h6
 ·rw [zy (by omega),zy (by omega),zp hk] at h9; simp at h9; exact h9.1
 ·rw [zy (by omega),zy (by omega),zy (by omega),zp hk] at h9; simp at h9; omega
theorem join_run (left : Bool) : ∀ (b : List LCol) (j : Nat) (a : List LCol),a.length + b.length ≤ 10000000 →
  aH (σ := List LCol) (ρ := Empty) (fun (_ : Nat) (x2 : LCol) (s2 : List LCol)=>cond x2.nullable
          (ag (cq 32 s2 ([(LCol.mk x2.name x2.kind true)] : List LCol)) fun (x76 : List LCol)=>some (.next x76))
          (ag (cq 32 s2 ([(LCol.mk x2.name x2.kind left)] : List LCol)) fun (x76 : List LCol)=>some (.next x76))) j b a = some (.next (mX a b left))
 | [],j,a,_=>by simp [aH,mX]
 | x :: b,j,a,h=>by
  have step : (cond x.nullable (ag (cq 32 a ([(LCol.mk x.name x.kind true)] : List LCol)) fun (x76 : List LCol)=>some (Flow.next (ρ := Empty) x76))
    (ag (cq 32 a ([(LCol.mk x.name x.kind left)] : List LCol)) fun (x76 : List LCol)=>some (.next x76))) = some (.next (a ++ [⟨x.name,x.kind,x.nullable || left⟩])) := by
   rw [cK (by decide) (by simp at h ⊢; omega),cK (by decide) (by simp at h ⊢; omega)]
   cases x.nullable <;> simp
  rw [aH,step]
  simp only
  rw [join_run left b (j + 1) _ (by simp at h ⊢; omega)]
  simp [mX]
theorem sort_run (vars cols : List LCol) (ins : List (List LCol)) (h0 : aT ins 0 = some cols) : ∀ (es : List LExpr) (j : Nat) (k : Unit → Option (List LCol × Int)),
  ag (aH (σ := Unit) (ρ := ((List LCol) × Int)) (fun (_ : Nat) (x5 : LExpr) (_ : Unit)=>ag (aT ins 0) fun (x122 : List LCol)=>bq (dA x122 vars x5) fun x127=>cond (x127.2.2 != (0 : Int)) (some (.ret ([],x127.2.2))) (some (.next ()))) j es ()) (fun fl5=>fl5.thenR k) =
   if kr vars cols es ≠ 0 then some ([],kr vars cols es) else k ()
 | [],j,k=>by simp [aH,kr]
 | e :: es,j,k=>by
  rw [aH,kr,h0,bPs,bG]
  by_cases h : (dA cols vars e).2.2 = 0
  ·rw [lh h,zd]
   simp only [h,ne_eq,not_true_eq_false,if_false]
   rw [← h0]
   exact sort_run vars cols ins h0 es (j + 1) k
  ·rw [ma h]; simp [h]
theorem out_eq {c : LChecker} {q : LQuery} {ins : List (List LCol)} (hs : ShapeOk q) (hsm : SmallQ q) (hl : ins.length = q.inputs.length) (hb : ∀ l ∈ ins,l.length ≤ 20) : fO c q ins = some (kn c q ins) := by
 obtain ⟨hk,ha,h1,hn,_,_,_⟩ := hs
 have hself := hsm.self
 have hi : ∀ i,i < ins.length → (ins.getD i []).length ≤ 20 := fun i hi=>by
  rw [List.getD_eq_getElem?_getD,ze hi]
  exact hb _ (List.getElem_mem hi)
 have e0 : q.exprs.length = 1 → aT q.exprs 0 = some (e0Q q) := fun h=>e0_get (by omega)
 unfold fO kn
 have kk : q.kind = 1 ∨ q.kind = 2 ∨ q.kind = 3 ∨ q.kind = 4 ∨ q.kind = 5 ∨ q.kind = 6 ∨ q.kind = 7 ∨ q.kind = 8 ∨ q.kind = 9 ∨ q.kind = 10 := by omega
 rcases kk with h | h | h | h | h | h | h | h | h | h
 ·rw [h,idx_table]
  simp only [bPs]
  rcases find_idx (fun a0=>dw a0 q) c.s.tables with ⟨f1,f2⟩ | ⟨t,f1,f2,f3⟩
  ·have f1' : c.s.tables.find? (fun t=>t.name == q.table) = none := f1
   rw [f2,f1']
   rfl
  ·have f1' : c.s.tables.find? (fun t=>t.name == q.table) = some t := f1
   rw [f1',zf (show ¬ bJ (fun a0=>dw a0 q) c.s.tables < 0 from by omega),je f2 f3]
   rfl
 all_goals rw [h] at ha
 all_goals simp only [arityQ] at ha
 ·have g0 : aT ins 0 = some (ins.getD 0 []) := mu (by simp at ha; omega)
  rw [h,g0,e0 (h1 (.inl h))]
  simp [bG]
 ·have g0 : aT ins 0 = some (ins.getD 0 []) := mu (by simp at ha; omega)
  rw [h,g0]
  simp only [bPs]
  rw [named_eq c q _ (hn (.inl h)) hself]
  simp [bG]
 ·have g0 : aT ins 0 = some (ins.getD 0 []) := mu (by simp at ha; omega)
  have g1 : aT ins 1 = some (ins.getD 1 []) := getD1 (by simp at ha; omega)
  rw [h,g0,g1,e0 (h1 (.inr (.inl h)))]
  simp only [bPs]
  rw [join_run ((4 : Int) == 5) _ 0 _ (by have := hi 0 (by simp at ha; omega); have := hi 1 (by simp at ha; omega); omega)]
  simp [bG]
 ·have g0 : aT ins 0 = some (ins.getD 0 []) := mu (by simp at ha; omega)
  have g1 : aT ins 1 = some (ins.getD 1 []) := getD1 (by simp at ha; omega)
  rw [h,g0,g1,e0 (h1 (.inr (.inr h)))]
  simp only [bPs]
  rw [join_run ((5 : Int) == 5) _ 0 _ (by have := hi 0 (by simp at ha; omega); have := hi 1 (by simp at ha; omega); omega)]
  simp [bG]
 ·have g0 : aT ins 0 = some (ins.getD 0 []) := mu (by simp at ha; omega)
  have g1 : aT ins 1 = some (ins.getD 1 []) := getD1 (by simp at ha; omega)
  rw [h,g0,g1]
  simp only [bPs,set_ok]
  simp [bG]
 ·have g0 : aT ins 0 = some (ins.getD 0 []) := mu (by simp at ha; omega)
  have g1 : aT ins 1 = some (ins.getD 1 []) := getD1 (by simp at ha; omega)
  rw [h,g0,g1]
  simp only [bPs,set_ok]
  simp [bG]
 ·have g0 : aT ins 0 = some (ins.getD 0 []) := mu (by simp at ha; omega)
  rw [h,g0]
  simp only [bPs]
  rw [named_eq c q _ (hn (.inr h)) hself]
  simp [bG]
 ·have g0 : aT ins 0 = some (ins.getD 0 []) := mu (by simp at ha; omega)
  rw [h,sort_run c.vars _ ins g0,g0]
  simp only [bG,bPs]
  by_cases hse : kr c.vars (ins.getD 0 []) q.exprs = 0
  ·simp only [hse,ne_eq,not_true_eq_false,if_false]; rfl
  ·simp only [hse,ne_eq,not_false_eq_true,if_true]; rfl
 ·have g0 : aT ins 0 = some (ins.getD 0 []) := mu (by simp at ha; omega)
  rw [h,g0]
  simp [bG]
def cQ : List (List LCol × Int) → List (List LCol) × Int
 | []=>([],0)
 | r :: l=>if r.2 ≠ 0 then ([],r.2) else if (cQ l).2 ≠ 0 then ([],(cQ l).2) else (r.1 :: (cQ l).1,0)
def mJ (c : LChecker) (q : LQuery) (ins : List (List LCol × Int)) : List LCol × Int :=
 if jO q = false then ([],3) else if (cQ ins).2 ≠ 0 then ([],(cQ ins).2)
 else if (kn c q (cQ ins).1).2 ≠ 0 then ([],(kn c q (cQ ins).1).2)
 else if 20 < (kn c q (cQ ins).1).1.length then ([],2)
 else if ((kn c q (cQ ins).1).1.map LCol.name).Nodup then ((kn c q (cQ ins).1).1,0) else ([],23)
def dE (c : LChecker) (q : LQuery) : List LCol × Int := mJ c q (q.inputs.attach.map fun x=>dE c x.1)
termination_by SizeOf.sizeOf q
decreasing_by exact LQuery.inputs_lt x.2
theorem colsQ_eq (c : LChecker) (q : LQuery) : dE c q = mJ c q (q.inputs.map (dE c)) := by
 rw [dE,List.attach_map_val (f := dE c)]
theorem qQ (f : LQuery → Option (List LCol × Int)) (g : LQuery → List LCol × Int) : ∀ (l : List LQuery) (j : Nat) (s : List (List LCol)),(∀ x ∈ l,f x = some (g x)) → s.length + l.length ≤ 10000000 → ∀ k : List (List LCol) → Option (List LCol × Int),
  ag (aH (σ := List (List LCol)) (ρ := ((List LCol) × Int)) (fun (_ : Nat) (x1 : LQuery) (s1 : List (List LCol))=>ag (f x1) fun x28=>cond (x28.2 != (0 : Int)) (some (.ret ([],x28.2)))
    (ag (cq 24 s1 ([x28.1] : List (List LCol))) fun (x37 : List (List LCol))=>some (.next x37))) j l s) (fun fl1=>fl1.thenR k) =
   if (cQ (l.map g)).2 ≠ 0 then some ([],(cQ (l.map g)).2) else k (s ++ (cQ (l.map g)).1)
 | [],j,s,_,_,k=>by simp [aH,cQ]
 | x :: l,j,s,h,hb,k=>by
  rw [aH,h x (by simp),bPs,List.map_cons,cQ]
  by_cases h1 : (g x).2 = 0
  ·rw [lh h1,zd,cK (by decide) (by simp at hb ⊢; omega),bPs]
   simp only [h1,ne_eq,not_true_eq_false,if_false]
   rw [qQ f g l (j + 1) _ (fun y hy=>h y (by simp [hy])) (by simp at hb ⊢; omega) k]
   by_cases h2 : (cQ (l.map g)).2 = 0
   ·simp [h2]
   ·simp [h2]
  ·rw [ma h1]; simp [h1]
theorem oO : ∀ {l : List (List LCol × Int)},(cQ l).2 = 0 → (∀ r ∈ l,r.2 = 0) ∧ (cQ l).1 = l.map (·.1)
 | [],_=>⟨by simp,rfl⟩
 | r :: l,h=>by
  simp only [cQ] at h ⊢
  by_cases h1 : r.2 = 0
  ·by_cases h2 : (cQ l).2 = 0
   ·obtain ⟨a,b⟩ := oO h2
    refine ⟨fun x hx=>?_,by simp [h1,h2,b]⟩
    rcases List.mem_cons.1 hx with rfl | hx
    ·exact h1
    ·exact a x hx
   ·simp [h1,h2] at h
  ·simp [h1] at h
theorem dup_run (out : List LCol) : ag (aH (σ := Unit) (ρ := ((List LCol) × Int)) (fun (j2 : Nat) (x2 : LCol) (_ : Unit) =>
     ag (kI out 0 (j2 : Int)) fun (x61 : List LCol) =>
     ag (bK x61 (fun a0=>some (bS a0 x2))) fun x63 =>
     cond x63 (some (.ret ([],23))) (some (.next ()))) 0 out ()) (fun fl2=>fl2.thenR fun (_ : Unit)=>some (out,0)) = some (if (out.map LCol.name).Nodup then (out,0) else ([],23)) := by
 obtain ⟨fl,hfl,hr⟩ := iq (step := fun (j2 : Nat) (x2 : LCol) (_ : Unit) =>
     ag (kI out 0 (j2 : Int)) fun (x61 : List LCol) =>
     ag (bK x61 (fun a0=>some (bS a0 x2))) fun x63 =>
     cond x63 (some (Flow.ret (([],23) : List LCol × Int))) (some (.next ())))
  (fun j _=>((out.take j).map LCol.name).Nodup) (fun r=>r = ([],23) ∧ ¬ (out.map LCol.name).Nodup) out 0 () (by simp) (fun k x s hk hI=>by
   simp only [Nat.zero_add] at hI ⊢
   have hkl := (zg.1 hk).1
   rw [subI_ok ⟨by omega,by omega,by omega⟩,bPs]
   unfold bK
   rw [idx_column,bPs,bPs,nz]
   simp only [Int.toNat_natCast,Int.toNat_zero,List.drop_zero]
   cases ha : (out.take k).any fun a0=>bS a0 x with
   | true =>
    refine ⟨_,rfl,rfl,fun hnd=>?_⟩
    obtain ⟨y,hy,he⟩ := List.any_eq_true.1 ha
    have he : y.name = x.name := by simpa [bS] using he
    obtain ⟨i,hi,hyi⟩ := List.mem_take_iff_getElem.1 hy
    have hii : i < k := by omega
    rw [List.nodup_iff_pairwise_ne,List.pairwise_iff_getElem] at hnd
    refine hnd i k (by simp; omega) (by simpa using hkl) hii ?_
    simp only [List.getElem_map]
    rw [(zg.1 hk).2,hyi,he]
   | false =>
    refine ⟨_,rfl,?_⟩
    simp only
    rw [List.take_add_one,hk,List.map_append,List.nodup_append]
    refine ⟨hI,by simp,fun a ha' b hb hab=>?_⟩
    simp at hb
    subst hb
    subst hab
    obtain ⟨y,hy,he⟩ := List.mem_map.1 ha'
    have := List.any_eq_false.1 ha y hy
    exact this (by simpa [bS] using he))
 rw [hfl,bPs]
 cases fl with
 | brk s=>exact absurd hr (by simp)
 | ret r=>rw [thenR_retS,hr.1,zy hr.2]
 | next s =>
  simp only [Nat.zero_add,List.take_length] at hr
  rw [jf,zp hr]
theorem colsQ_len (c : LChecker) (q : LQuery) : (dE c q).1.length ≤ 20 := by
 rw [colsQ_eq]
 unfold mJ
 repeat' split
 all_goals first | (simp; done) | (simp only; omega)
theorem cols_ok (c : LChecker) : ∀ q : LQuery,SmallQ q → eo c q = some (dE c q) := by
 refine LQuery.ind fun q ih hsm=>?_
 refine mm (γ := LChecker) (F := fun n c q=>dL n c q) (O := fun r c q=>dJ r c q) (fun n=>rfl) c q ?_ (fun x hx=>⟨_,ih x hx (hsm.sub hx)⟩) ?_
 ·intro r r' h
  simp only [dJ]
  congr 1
  funext b
  congr 2
  exact iF q.inputs 0 _ fun k x s hk=>by rw [h x (cO hk)]
 ·have e : ∀ c x,(eT fun n=>dL n c x) = eo c x := fun _ _=>rfl
  simp only [dJ,e]
  have hself := hsm.self
  rw [shape_eq q ⟨by omega,by omega⟩,bPs,colsQ_eq]
  unfold mJ
  cases hs : jO q with
  | false=>rfl
  | true =>
   have hok := shape_ok hs
   have hin : q.inputs.length ≤ 2 := by rw [hok.arity]; unfold arityQ; split <;> (try split) <;> omega
   simp only [Bool.not_true,zd,Bool.true_eq_false,if_false]
   rw [qQ (eo c) (dE c) q.inputs 0 [] (fun x hx=>ih x hx (hsm.sub hx)) (by simp; omega),List.nil_append]
   by_cases h1 : (cQ (q.inputs.map (dE c))).2 = 0
   ·obtain ⟨a,b⟩ := oO h1
    simp only [h1,ne_eq,not_true_eq_false,if_false]
    rw [out_eq hok hsm (by rw [b]; simp) (fun l hl=>by
     rw [b] at hl
     obtain ⟨r,hr,rfl⟩ := List.mem_map.1 hl
     obtain ⟨x,_,rfl⟩ := List.mem_map.1 hr
     exact colsQ_len c x),bPs]
    generalize kn c q (cQ (q.inputs.map (dE c))).1 = o
    by_cases h2 : o.2 = 0
    ·rw [lh h2,zd]
     simp only [h2,not_true_eq_false,if_false]
     by_cases h3 : 20 < o.1.length
     ·rw [zt (show (o.1.length : Int) > 20 from by omega),zp h3]; rfl
     ·rw [zf (show ¬ (o.1.length : Int) > 20 from by omega),zy h3,zd]
      exact dup_run o.1
    ·rw [ma h2]; simp [h2]
   ·simp [h1]
section
variable {α : Type}
end
section
abbrev Rows := Rz
abbrev Cmp := Rq → Rq → Option Int
variable {cmp : Cmp} {d0 : Rows}
end
theorem oE {c : LChecker} {q : LQuery} (h : (dE c q).2 = 0) : jO q = true ∧ (∀ x ∈ q.inputs,(dE c x).2 = 0) ∧ (kn c q (q.inputs.map fun x=>(dE c x).1)).2 = 0 ∧ (dE c q).1 = (kn c q (q.inputs.map fun x=>(dE c x).1)).1 ∧ ((dE c q).1.map LCol.name).Nodup := by
 rw [colsQ_eq] at h ⊢
 unfold mJ at h ⊢
 by_cases h1 : jO q = false
 ·simp [h1] at h
 rw [zy h1] at h ⊢
 by_cases h2 : (cQ (q.inputs.map (dE c))).2 = 0
 ·obtain ⟨a,b⟩ := oO h2
  have e : (q.inputs.map (dE c)).map (·.1) = q.inputs.map fun x=>(dE c x).1 := by rw [List.map_map]; rfl
  rw [e] at b
  rw [b] at h ⊢
  rw [zy (by simpa using h2)] at h ⊢
  by_cases h3 : (kn c q (q.inputs.map fun x=>(dE c x).1)).2 = 0
  ·rw [zy (by simpa using h3)] at h ⊢
   by_cases h4 : 20 < (kn c q (q.inputs.map fun x=>(dE c x).1)).1.length
   ·rw [zp h4] at h; simp at h
   ·rw [zy h4] at h ⊢
    by_cases h5 : ((kn c q (q.inputs.map fun x=>(dE c x).1)).1.map LCol.name).Nodup
    ·rw [zp h5] at h ⊢
     exact ⟨by simpa using h1,fun x hx=>a _ (List.mem_map.2 ⟨x,hx,rfl⟩),h3,rfl,h5⟩
    ·rw [zy h5] at h; simp at h
  ·rw [zp h3] at h; exact absurd h h3
 ·rw [zp h2] at h; exact absurd h h2
theorem most_inv {q : LQuery} (h : (eB q).2 ≤ 20000) : (eB q).1 ≤ (eB q).2 ∧ ∀ x ∈ q.inputs,(eB x).2 ≤ 20000 := by
 have key : ∀ (l : List (Int × Int)) (j : Nat) (s : Int × Int),s.2 ≤ (dl q.kind j l s).2 ∧ ∀ x ∈ l,x.2 ≤ (dl q.kind j l s).2 := by
  intro l
  induction l with
  | nil=>intro j s; exact ⟨Int.le_refl _,by simp⟩
  | cons y l ih =>
   intro j s
   obtain ⟨h1,h2⟩ := ih (j + 1) (iT q.kind s j y)
   rw [dl]
   have h3 : s.2 ≤ (iT q.kind s j y).2 := kQ _ _
   have h4 : y.2 ≤ (iT q.kind s j y).2 := maxI_r _ _
   refine ⟨by omega,fun x hx=>?_⟩
   rcases List.mem_cons.1 hx with rfl | hx
   ·omega
   ·exact h2 x hx
 have hk := key (q.inputs.map eB) 0 (0,0)
 rw [mostQ_eq] at h ⊢
 by_cases h1 : q.kind = 1
 ·rw [zp h1] at h ⊢
  refine ⟨maxI_r _ _,fun x hx=>?_⟩
  have := hk.2 (eB x) (List.mem_map.2 ⟨x,hx,rfl⟩)
  have := kQ (dl q.kind 0 (q.inputs.map eB) (0,0)).2 24
  simp only at h
  omega
 ·rw [zy h1] at h ⊢
  refine ⟨maxI_r _ _,fun x hx=>?_⟩
  have := hk.2 (eB x) (List.mem_map.2 ⟨x,hx,rfl⟩)
  have := kQ (dl q.kind 0 (q.inputs.map eB) (0,0)).2 (dl q.kind 0 (q.inputs.map eB) (0,0)).1
  simp only at h
  omega
theorem params_sub {q x : LQuery} (h : x ∈ q.inputs) : ∀ p ∈ jc x,p ∈ jc q := by
 intro p hp
 obtain ⟨l,hl,hp⟩ := List.mem_flatten.1 hp
 obtain ⟨y,hy,rfl⟩ := List.mem_map.1 hl
 exact List.mem_flatten.2 ⟨_,List.mem_map.2 ⟨y,nE h hy,rfl⟩,hp⟩
theorem e0_mem {q : LQuery} (h : q.exprs.length = 1) : e0Q q ∈ q.exprs := by
 unfold e0Q
 cases hq : q.exprs with
 | nil=>rw [hq] at h; simp at h
 | cons a l=>simp
theorem two {q : LQuery} (h : q.inputs.length = 2) : ∃ x y,q.inputs = [x,y] := by
 match hq : q.inputs,h with
 | [x,y],_=>exact ⟨x,y,rfl⟩
theorem one {q : LQuery} (h : q.inputs.length = 1) : ∃ x,q.inputs = [x] := by
 match hq : q.inputs,h with
 | [x],_=>exact ⟨x,rfl⟩
def SizeOk (q : LQuery) : Prop := (bP q).length ≤ 24 ∧ fj q ≤ 12 ∧ (eB q).2 ≤ 20000
instance (q : LQuery) : Decidable (SizeOk q) := by unfold SizeOk; infer_instance
theorem check_eq {s : LSchema} {vars : List LCol} {q : LQuery} (h : SmallQ q) : ∃ cs e,fN s vars q = some (cs,e) ∧ (e = 0 ↔ SizeOk q ∧ oi (jc q) ∧ (dE ⟨s,vars⟩ q).2 = 0) ∧ (e = 0 → cs = (dE ⟨s,vars⟩ q).1) := by
 unfold fN
 rw [nodes_ok q h.nodes,bPs]
 by_cases h1 : (bP q).length ≤ 24
 ·rw [zf (show ¬ ((bP q).length : Int) > 24 from by omega),zd,depth_ok q h.nodes,bPs]
  by_cases h2 : fj q ≤ 12
  ·rw [zf (show ¬ fj q > 12 from by omega),zd]
   unfold eC
   rw [most_ok,bPs,bPs]
   by_cases h3 : (eB q).2 ≤ 20000
   ·rw [zf (show ¬ (eB q).2 > 20000 from by omega),bPs,zd,kinds_ok h.nodes,bPs]
    cases hb : (iL q).2.1 with
    | true =>
     refine ⟨[],13,rfl,⟨fun h=>by omega,fun hh=>?_⟩,fun h=>by omega⟩
     rw [kinds_bad.2 hh.2.1] at hb
     cases hb
    | false =>
     have hk := kinds_bad.1 hb
     simp only [zd]
     rw [cols_ok _ q h]
     refine ⟨(dE ⟨s,vars⟩ q).1,(dE ⟨s,vars⟩ q).2,rfl,⟨fun h0=>⟨⟨h1,h2,h3⟩,hk,h0⟩,fun hh=>hh.2.2⟩,fun _=>rfl⟩
   ·rw [zt (show (eB q).2 > 20000 from by omega)]
    exact ⟨[],2,rfl,⟨fun h=>by omega,fun hh=>absurd hh.1.2.2 h3⟩,fun h=>by omega⟩
  ·rw [zt (show fj q > 12 from by omega)]
   exact ⟨[],2,rfl,⟨fun h=>by omega,fun hh=>absurd hh.1.2.1 h2⟩,fun h=>by omega⟩
 ·rw [zt (show ((bP q).length : Int) > 24 from by omega)]
  exact ⟨[],2,rfl,⟨fun h=>by omega,fun hh=>absurd hh.1.1 h1⟩,fun h=>by omega⟩
structure TinyQ (q : LQuery) : Prop where
 nodes : (bP q).length ≤ 2000000
 here : ∀ x ∈ bP q,x.exprs.length ≤ 1000000 ∧ x.aggregates.length ≤ 1000000
theorem TinyQ.small {q : LQuery} (h : TinyQ q) : SmallQ q := ⟨by have := h.nodes; omega,h.here⟩
theorem nC {H : Type} : ∀ ds : List (DataW H),(ds.map (fun d=>Rows.uptoBulk d)).sum = Rows.uptoBulkAll ds
 | []=>by simp [Rows.uptoBulkAll]
 | d :: ds=>by simp only [List.map_cons,List.sum_cons,Rows.uptoBulkAll,nC ds]
theorem bulk_is : IsBulk (fun _ d=>Rows.uptoBulk d) where
 one := by
  intro H d
  cases d with
  | lit l=>cases l <;> simp [Rows.uptoBulk]
  | nil=>simp [Rows.uptoBulk]
  | ptr d=>simp [Rows.uptoBulk]
  | slice elems spare=>simp [Rows.uptoBulk]
  | agg parts=>simp [Rows.uptoBulk]
  | iface t d=>simp [Rows.uptoBulk]
  | map entries=>simp [Rows.uptoBulk]
  | held h=>simp [Rows.uptoBulk]
 str := by intro H l; simp [Rows.uptoBulk]
 slice := by intro H a b; rw [nC]; simp only [Rows.uptoBulk]; omega
 agg := by intro H a; rw [nC]; simp only [Rows.uptoBulk]; omega
theorem gn {r : List PV} : ∀ {rs : List (List PV)},r ∈ rs → aW r ≤ cP rs
 | x :: rs,h=>by
  simp only [cP]
  rcases List.mem_cons.1 h with rfl | h
  ·omega
  ·have := gn h; omega
theorem fC {α : Type} {f : α → List PV} {k : Nat} (hf : ∀ x,k ≤ aW (f x)) : ∀ l : List α,k * l.length ≤ cP (l.map f)
 | []=>by simp
 | x :: l=>by
  have := fC hf l
  have := hf x
  simp only [List.map_cons,cP,List.length_cons,Nat.mul_add]
  omega
theorem oQ (e : LExpr) : 2 ≤ aW (am e) := by
 cases e; simp only [am,aW,PV.bulk]; omega
theorem call_pos (c : LAggregateCall) : 2 ≤ aW (aO c) := by
 simp only [aO,aW,PV.bulk]; omega
theorem smallS_bulk {s : LSchema} {n : Nat} (hn : n ≤ 10000000) (h : aW (aD s) ≤ n) : SmallS s := by
 intro t ht
 have h1 : cP (s.tables.map cJ) ≤ aW (aD s) := by
  simp only [aD,aW,PV.bulk]; omega
 have h2 := gn (List.mem_map_of_mem (f := cJ) ht)
 have h3 : cP (t.primaryKey.map bE) ≤ aW (cJ t) := by
  simp only [cJ,aW,PV.bulk]; omega
 have h4 := fC (f := bE) (k := 1) (fun x=>by simp [aW,PV.bulk]) t.primaryKey
 omega
theorem nodes_bulk : ∀ q : LQuery,(bP q).length + 1 ≤ aW (ap q) ∧ ∀ x ∈ bP q,2 * x.exprs.length ≤ aW (ap q) ∧ 2 * x.aggregates.length ≤ aW (ap q) := by
 apply LQuery.ind
 intro q ih
 have e : aW (ap q) = aW (ao q) := by rw [aK]
 have hr : cP (q.inputs.map ap) + 8 ≤ aW (ao q) := by
  simp only [ao,aW,PV.bulk]; omega
 have hsum : ∀ l : List LQuery,(∀ x ∈ l,x ∈ q.inputs) → ((l.map bP).flatten).length + l.length ≤ cP (l.map ap) := by
  intro l
  induction l with
  | nil=>intro _; simp
  | cons x l ihl =>
   intro hm
   have h1 := (ih x (hm x (by simp))).1
   have h2 := ihl (fun y hy=>hm y (by simp [hy]))
   simp only [List.map_cons,List.flatten_cons,List.length_append,List.length_cons,cP]
   omega
 have h0 := hsum q.inputs (fun _ h=>h)
 rw [e]
 refine ⟨?_,fun x hx=>?_⟩
 ·rw [eh]; simp only [List.length_cons]; omega
 ·rw [eh] at hx
  rcases List.mem_cons.1 hx with rfl | hx
  ·have h1 := fC oQ x.exprs
   have h2 := fC call_pos x.aggregates
   constructor
   ·simp only [ao,aW,PV.bulk]; omega
   ·simp only [ao,aW,PV.bulk]; omega
  ·simp only [List.mem_flatten,List.mem_map] at hx
   obtain ⟨l,⟨y,hy,rfl⟩,hx⟩ := hx
   have h1 := (ih y hy).2 x hx
   have h2 := gn (List.mem_map_of_mem (f := ap) hy)
   omega
theorem tiny_bulk {q : LQuery} {n : Nat} (hn : n ≤ 1048576) (h : aW (ao q) ≤ n) : TinyQ q := by
 rw [← aK] at h
 have := nodes_bulk q
 exact ⟨by omega,fun x hx=>by have := this.2 x hx; omega⟩
theorem args_lt {e a : LExpr} (h : a ∈ e.args) : SizeOf.sizeOf a < SizeOf.sizeOf e := by
 cases e
 have := List.sizeOf_lt_of_mem (show a ∈ _ from h)
 simp only [LExpr.mk.sizeOf_spec,LExpr.args] at *
 omega
theorem bulk_arg {e a : LExpr} (h : a ∈ e.args) : aW (am a) ≤ aW (am e) := by
 have h1 := gn (List.mem_map_of_mem (f := am) h)
 rw [aQ e]
 simp only [bl,aW,PV.bulk]
 omega
def lF (e : LExpr) : Bool := e.kind == 5 && (e.name == [97,110,100] && e.args.length == 2)
mutual
def dp : LExpr → List LExpr
 | .mk k n i x args=>if k == 5 && (n == [97,110,100] && args.length == 2) then conjEs args else [.mk k n i x args]
def conjEs : List LExpr → List LExpr
 | []=>[]
 | e :: r=>dp e ++ conjEs r
end
theorem lu (e : LExpr) : dp e = if lF e then conjEs e.args else [e] := by cases e; rw [dp]; rfl
theorem md {e : LExpr} (h : lF e = true) : e.kind = 5 ∧ e.name = [97,110,100] ∧ ∃ a b,e.args = [a,b] := by
 simp only [lF,Bool.and_eq_true,beq_iff_eq] at h
 exact ⟨h.1,h.2.1,len2 h.2.2⟩
theorem mM {e a b : LExpr} (h : lF e = true) (hab : e.args = [a,b]) : dp e = dp a ++ dp b := by
 rw [lu,zp h,hab]
 simp [conjEs]
theorem pI {α σ β : Type} {step : Nat → α → σ → Option (Flow σ Empty)} {k : σ → Option β} {R : β → Prop} {xs : List α} {s0 : σ} (I : Nat → σ → Prop) (h0 : I 0 s0)
  (hs : ∀ j x s,xs[j]? = some x → I j s → ∃ s',step j x s = some (.next s') ∧ I (j + 1) s') (hk : ∀ s,I xs.length s → ∃ r,k s = some r ∧ R r) :
  ∃ r,ag (aH step 0 xs s0) (fun fl=>fl.thenP k) = some r ∧ R r := by
 obtain ⟨fl,h1,h2⟩ := iq (step := step) I (fun _=>False) xs 0 s0 h0 (fun j x s hj hI=>by
  rw [Nat.zero_add] at hI ⊢
  obtain ⟨s',h1,h2⟩ := hs j x s hj hI
  exact ⟨_,h1,h2⟩)
 rw [h1]
 cases fl with
 | next s=>simp only [Nat.zero_add] at h2; exact hk s h2
 | brk s=>exact absurd h2 (by simp)
 | ret r=>exact r.elim
structure CQ (s : LSchema) (q : LQuery) : Prop where
 bulk : aW (ao q) ≤ 1048576
 size : SizeOk q
 kinds : oi (jc q)
 cols : (dE ⟨s,[]⟩ q).2 = 0
theorem bulk_sub {q x : LQuery} (h : x ∈ q.inputs) : aW (ao x) ≤ aW (ao q) := by
 have h2 := gn (List.mem_map_of_mem (f := ap) h)
 rw [aK] at h2
 cases q
 simp only [ao,aW,PV.bulk,LQuery.inputs] at h2 ⊢
 omega
theorem valid_tot {s : LSchema} (hs : SmallS s) {q : LQuery} (hq : aW (ao q) ≤ 1048576) : ∃ b,gF s q = some b ∧ (b = true → CQ s q) := by
 unfold gF
 rw [size_ok,bPs]
 obtain ⟨v,hv⟩ := validate_tot hs
 have hsm : SmallQ q := (tiny_bulk (Nat.le_refl _) hq).small
 obtain ⟨cs,e,hc,he,_⟩ := check_eq (s := s) (vars := []) hsm
 unfold cb
 rw [hv,hc]
 simp only [bPs]
 by_cases c1 : kW q 400 < 0
 ·rw [zt c1]; exact ⟨false,rfl,fun h=>by cases h⟩
 rw [zf c1,zd,bPs]
 by_cases c2 : v = 0
 ·rw [lh c2,zd]
  refine ⟨_,rfl,fun h=>?_⟩
  have h : e = 0 := by simpa using h
  obtain ⟨a,b,c⟩ := he.1 h
  exact ⟨hq,a,b,c⟩
 ·rw [ma c2]; exact ⟨false,rfl,fun h=>by cases h⟩
theorem indexO (l : List (List UInt8)) (v : List UInt8) (h : l.length ≤ 10000000) : ∃ i,cU l v = some (i,l) := by
 unfold cU
 rw [nG (by omega),bPs,Int.toNat_natCast]
 obtain ⟨fl,h1,h2⟩ := iq (step := fun (j1 : Nat) (_ : Nat) (s1 : List (List UInt8)) =>
  ag (aT s1 (j1 : Int)) fun (x14 : List UInt8) =>
  cond (v == x14)
   (some (.ret ((j1 : Int),s1)))
   (some (.next s1))) (fun _ s=>s = l) (fun r : Int × List (List UInt8)=>r.2 = l) (List.range l.length) 0 l rfl (fun k x s hk hI=>by
  subst hI
  have hlt := (zg.1 hk).1
  rw [List.length_range] at hlt
  rw [Nat.zero_add,lv (ze hlt),bPs]
  cases v == s[k] with
  | true=>exact ⟨_,rfl,rfl⟩
  | false=>exact ⟨_,rfl,rfl⟩)
 rw [h1]
 cases fl with
 | next s=>exact ⟨-1,by rw [show s = l from h2]; rfl⟩
 | brk s=>exact absurd h2 (by simp)
 | ret r=>exact ⟨r.1,by rw [← (show r.2 = l from h2)]; rfl⟩
theorem contO (l : List (List UInt8)) (v : List UInt8) (h : l.length ≤ 10000000) : ∃ b,co l v = some (b,l) := by
 obtain ⟨i,hi⟩ := indexO l v h
 unfold co
 rw [hi,bPs,oI rfl,bPs]
 exact ⟨_,rfl⟩
theorem limN_settles {β : Type} {F : Nat → Option β} {v : Option β} (n : Nat) (h : ∀ m,n ≤ m → F m = v) : eT F = v := by
 cases v with
 | some r=>exact gA n h
 | none =>
  cases hl : eT F with
  | none=>rfl
  | some r =>
   obtain ⟨k,hk⟩ := limN_ev hl
   have := hk (max n k) (Nat.le_max_right n k)
   rw [h _ (Nat.le_max_left n k)] at this
   cases this
theorem names_both (e : LExpr) : (∃ N,∀ n,N ≤ n → ∀ k l,fY n e k l = eN e k l) ∧ ∀ k l,eN e k l = fv eN e k l := by
 induction e using LExpr.ind with
 | _ e ih =>
  obtain ⟨N,hN⟩ := jU (p := fun x n=>∀ k l,fY n x k l = eN x k l) e.args fun x hx=>(ih x hx).1
  have key : ∀ n,N + 1 ≤ n → ∀ k l,fY n e k l = fv eN e k l := by
   intro n hn k l
   obtain ⟨n,rfl⟩ : ∃ k,n = k + 1 := ⟨n - 1,by omega⟩
   show fv (fun b0 b1 b2=>fY n b0 b1 b2) e k l = _
   simp only [fv]
   congr 1
   funext t1
   congr 1
   funext t2
   congr 1
   exact iF e.args 0 _ fun j x s hj=>by rw [hN n (by omega) x (cO hj)]
  have e1 : ∀ k l,eN e k l = fv eN e k l := fun k l=>limN_settles (N + 1) fun n hn=>key n hn k l
  exact ⟨⟨N + 1,fun n hn k l=>by rw [key n hn,e1]⟩,e1⟩
theorem pm (e : LExpr) : cP (e.args.map am) + 2 ≤ aW (am e) := by
 rw [aQ e]
 simp only [bl,aW,PV.bulk]
 omega
theorem ph {q : LQuery} {e : LExpr} (h : e ∈ q.exprs) : aW (am e) ≤ aW (ao q) := by
 have h2 := gn (List.mem_map_of_mem (f := am) h)
 simp only [ao,aW,PV.bulk]
 omega
theorem bulk_agg {q : LQuery} {a : LAggregateCall} (h : a ∈ q.aggregates) : aW (aO a) ≤ aW (ao q) := by
 have h2 := gn (List.mem_map_of_mem (f := aO) h)
 simp only [ao,aW,PV.bulk] at h2 ⊢
 omega
theorem bulk_args {a : LAggregateCall} {e : LExpr} (h : e ∈ a.args) : aW (am e) ≤ aW (aO a) := by
 have h2 := gn (List.mem_map_of_mem (f := am) h)
 simp only [aO,aW,PV.bulk]
 omega
theorem args_len (a : LAggregateCall) : 2 * a.args.length ≤ aW (aO a) := by
 have := fC (f := am) (k := 2) oQ a.args
 simp only [aO,aW,PV.bulk]
 omega
end
end Go.Proofs.YtppmcepdcpmpcaaGreatDoor
