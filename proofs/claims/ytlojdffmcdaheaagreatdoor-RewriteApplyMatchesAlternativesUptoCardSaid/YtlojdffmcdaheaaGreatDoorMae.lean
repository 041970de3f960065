/- rewriteApplyMatchesAlternativesUpto_holds, part 5: the layer, the plain functions and what they compute; conditions as in the statement. -/
import Derived.Test.YtlojdffmcdaheaaGreatDoorMad
set_option maxHeartbeats 4000000
namespace Go.Proofs.YtlojdffmcdaheaaGreatDoor
noncomputable section
open Go Go.Ab
attribute [local irreducible] V Ao Do Gh Eff PH IntKind.wrap
set_option maxRecDepth 4000
def eU (sA : LSchema) (vars : List LCol) (q : LQuery) : Option ((List LCol) × Int) :=
 ag (
  ag (fU q) fun x12 =>
  cond (decide ((x12.length : Int) > (24 : Int)))
   (some true)
   (ag (jm q) fun x17 =>
   cond (decide (x17 > (12 : Int)))
    (some true)
    (ag (eN q) fun x22 =>
    some (decide (x22 > (20000 : Int)))))) fun (t1 : Bool) =>
 cond t1
  (some ([],2))
  (ag (fc q) fun x27 =>
  cond (x27.2 != (0 : Int))
   (some ([],x27.2))
   (ag (eG (LChecker.mk sA vars) q) fun x38 =>
   some (x38.1,x38.2)))
theorem pD (sA : LSchema) (vars : List LCol) (q : LQuery) (r : (List LCol) × Int) (H : eU sA vars q = some r) :
  aU Tryz.prog 60 [(.agg (aD sA)),(.list 52 (vars.map bh)),(.agg (am q))] (.tup [(.list 52 (r.1.map bh)),(ae r.2)]) := by
 unfold eU at H
 refine PH.ay Tryz.func60 Tryz.ntmps60 ?_
 refine ac (aa (aG ?_))
 refine aG ?_
 refine af 2 tk rfl (ab (ac (ac ?_)))
 refine ci (γ := Unit) (fun t1 g1=>⟨41,upd (upd (upd (upd (fun _=>.any) 24 (au t1)) 5 (.ptr (am q))) 3 (.ptr (aD sA))) 1 (.list 52 (vars.map bh)),fun _=>none,fun _=>none⟩) H (fun _ H=>?_) (fun t1 g1 H=>?_)
 ·refine aa (ah tk rfl ?_)
  obtain ⟨x12,h12,H⟩ := av H
  have s12 := kh (m := 12) q _ h12
  refine aq Tryz.call8 (eZ.r) (PFun.eE s12) ?_
  refine aB tk (zl _) ?_
  refine af 2 tk rfl ?_
  refine aL rfl rfl rfl H (fun H=>?_) (fun H=>?_)
  ·refine af 9 tk rfl (ab ?_)
   refine aJ _ () (az H) Gh.d
  refine ah tk rfl ?_
  obtain ⟨x17,h17,H⟩ := av H
  have s17 := W_query_depth q _ h17
  refine aq Tryz.call94 (eZ.r) s17 ?_
  refine af 3 tk rfl ?_
  refine aL rfl rfl rfl H (fun H=>?_) (fun H=>?_)
  ·refine af 4 tk rfl (ab ?_)
   refine aJ _ () (az H) Gh.d
  refine ah tk rfl ?_
  obtain ⟨x22,h22,H⟩ := av H
  have s22 := lJ q _ h22
  refine aq Tryz.call95 (eZ.r) s22 ?_
  refine af 2 tk rfl (ab ?_)
  refine aJ _ () (az H) Gh.d
 refine aN rfl H (fun H=>?_) (fun H=>?_)
 ·refine aw 2 tk rfl ?_
  obtain rfl := az H
  refine bd tk rfl (ps := [(.val (.slice none 0 0)),(ae 2)]) ⟨_,_,rfl,rfl,_,_,rfl,rfl,rfl⟩ (PLe.of2 (lW.tup (gk.cons (lW.nil tk rfl) (gk.cons (lW.of_eq rfl) gk.nil))))
 refine ax (ac (ac (aa (ah tk rfl ?_))))
 obtain ⟨x27,h27,H⟩ := av H
 have s27 := nW q _ h27
 refine aq Tryz.call96 (eZ.r) s27 ?_
 refine af 5 tk rfl (ab (aw 2 tk rfl ?_))
 refine aN rfl H (fun H=>?_) (fun H=>?_)
 ·refine aw 3 tk rfl ?_
  obtain rfl := az H
  refine bd tk rfl (ps := [(.val (.slice none 0 0)),(ae x27.2)]) ⟨_,_,rfl,rfl,_,_,rfl,rfl,rfl⟩ (PLe.of2 (lW.tup (gk.cons (lW.nil tk rfl) (gk.cons (lW.of_eq rfl) gk.nil))))
 refine ax (ac (aa (af 3 tk rfl ?_)))
 refine aA tk fun b10=>?_
 refine ao tk ?_
 refine ab (ac (aa (al tk ?_)))
 refine ah tk rfl ?_
 obtain ⟨x38,h38,H⟩ := av H
 have s38 := nC (LChecker.mk sA vars) q _ h38
 refine aq Tryz.call97 (eZ.r) s38 ?_
 refine af 4 tk rfl (ab ?_)
 exact bi tk H rfl
def bI (sA : LSchema) (q : LQuery) : Option ((List LCol) × Int) :=
 ag (eU sA ([] : List LCol) q) fun x8 =>
 some (x8.1,x8.2)
theorem dG (sA : LSchema) (q : LQuery) (r : (List LCol) × Int) (H : bI sA q = some r) :
  aU Tryz.prog 24 [(.agg (aD sA)),(.agg (am q))] (.tup [(.list 52 (r.1.map bh)),(ae r.2)]) := by
 unfold bI at H
 refine PH.ay Tryz.func24 Tryz.ntmps24 ?_
 refine ac (aa (aG ?_))
 refine aG ?_
 refine af 2 tk rfl (ab (ac (aa (af 2 tk rfl ?_))))
 obtain ⟨x8,h8,H⟩ := av H
 have s8 := pD sA ([] : List LCol) q _ h8
 refine aq Tryz.call60 (eZ.of2 (gk.cons (lW.of_eq rfl) (gk.cons (lW.nil tk rfl) (gk.cons (lW.of_eq rfl) gk.nil)))) s8 ?_
 refine af 4 tk rfl (ab ?_)
 exact bi tk H rfl
def gN (sA : LSchema) (q : LQuery) : Option (Bool) :=
 ag (
  ag (kq q 400) fun x8 =>
  cond (decide (x8 < (0 : Int)))
   (some true)
   (ag (gP sA) fun x12 =>
   some (x12 != (0 : Int)))) fun (t1 : Bool) =>
 cond t1
  (some false)
  (ag (bI sA q) fun x18 =>
  some (x18.2 == (0 : Int)))
theorem qD (sA : LSchema) (q : LQuery) (r : Bool) (H : gN sA q = some r) :
  aU Tryz.prog 6 [(.agg (aD sA)),(.agg (am q))] (au r) := by
 unfold gN at H
 refine PH.ay Tryz.func6 Tryz.ntmps6 ?_
 refine ac (aa (aG ?_))
 refine aG ?_
 refine ah tk rfl (ab (ac (ac ?_)))
 refine ci (γ := Unit) (fun t1 g1=>⟨23,upd (upd (upd (fun _=>.any) 14 (au t1)) 3 (.ptr (am q))) 2 (.ptr (aD sA)),fun _=>none,fun _=>none⟩) H (fun _ H=>?_) (fun t1 g1 H=>?_)
 ·refine aa (ah tk rfl ?_)
  obtain ⟨x8,h8,H⟩ := av H
  have s8 := qS q 400 _ h8
  refine aq Tryz.call22 (eZ.r) s8 ?_
  refine af 2 tk rfl ?_
  refine aL rfl rfl rfl H (fun H=>?_) (fun H=>?_)
  ·refine af 4 tk rfl (ab ?_)
   refine aJ _ () (az H) Gh.d
  refine ah tk rfl ?_
  obtain ⟨x12,h12,H⟩ := av H
  have s12 := qy sA _ h12
  refine aq Tryz.call23 (eZ.r) s12 ?_
  refine af 2 tk rfl (ab ?_)
  refine aJ _ () (az H) Gh.d
 refine aN rfl H (fun H=>?_) (fun H=>?_)
 ·refine aw 1 tk rfl ?_
  exact bi tk H rfl
 refine ax (ac (aa (af 2 tk rfl ?_)))
 obtain ⟨x18,h18,H⟩ := av H
 have s18 := dG sA q _ h18
 refine aq Tryz.call24 (eZ.r) s18 ?_
 refine af 5 tk rfl (ab (aw 3 tk rfl ?_))
 exact bi tk H rfl
def bX (m : LRewriteRewriter) (q : LQuery) : Option ((List (List UInt8))) :=
 ag (bI m.s q) fun x14 =>
 ag (aI (σ := List (List UInt8)) (ρ := Empty) (fun (_ : Nat) (x1 : LCol) (s1 : List (List UInt8)) =>
  ag (bS 16 s1 ([x1.name] : List (List UInt8))) fun (x27 : List (List UInt8)) =>
  some (.next x27)) 0 x14.1 []) fun fl1=>fl1.thenP fun (s1 : List (List UInt8)) =>
 some s1
theorem de (m : LRewriteRewriter) (q : LQuery) (r : (List (List UInt8))) (H : bX m q = some r) :
  aU Tryz.prog 72 [(.agg (fu m)),(.agg (am q))] (.list 9 (r.map aF)) := by
 unfold bX at H
 refine PH.ay Tryz.func72 Tryz.ntmps72 ?_
 refine ac (aa (aG ?_))
 refine aG ?_
 refine ah tk rfl (ab (ac (aa (af 3 tk rfl ?_))))
 obtain ⟨x14,h14,H⟩ := av H
 have s14 := dG m.s q _ h14
 refine aq Tryz.call24 (eZ.r) s14 ?_
 refine af 5 tk rfl (ab (aw 1 tk rfl (ac (ac (aa (ah tk rfl (aB tk (zl _) ?_)))))))
 refine ah tk rfl (ab (gQ tk 7 27 (e := 9) rfl rfl ?_))
 refine db (γ := OwnRef) tk 19 18 17 (fun s1 g1=>upd (fun _=>.any) 7 (.own 27 g1 (s1.map aF).length)) nB (fun s1 g1=>upd (fun _=>none) 27 (some ⟨g1,9,(s1.map aF),true⟩)) (⟨none,0⟩) H (fun fl1 Hp1 j1 s1 g1 hz1 hl1 x1 fb1 hx1 H hg1=>?_) (fun s1 g1 H=>?_)
 ·refine ac (aE (ac (aa ?_)))
  refine aX tk (zn j1) (bj (fun _=>rfl) hx1) ?_
  refine ah tk rfl ?_
  refine aA tk fun b9=>?_
  refine ao tk ?_
  refine ab (aa (af 2 tk rfl (al tk ?_)))
  refine cj tk (rows' := List.map aF ([x1.name] : List (List UInt8))) (dH.refl _) ?_
  obtain ⟨x27,h27,H⟩ := av H
  have k27 := bE h27
  refine bO (rows2' := List.map aF ([x1.name] : List (List UInt8))) (rows' := List.map aF x27) tk rfl rfl rfl rfl rfl rfl rfl rfl rfl rfl rfl rfl rfl (dH.refl _) (ce k27.1) (cb k27.2.1) (ca k27.2.2) fun g27=>?_
  refine ah tk rfl (ab (aW (br 2 tk rfl ?_)))
  exact bq g27 H hl1 hg1
 refine aw 2 tk rfl (dD 4 rfl rfl rfl ?_)
 exact bi tk H rfl
def gF (sA : LSchema) (q : LQuery) : Option (Bool) :=
 ag (bI sA q) fun x10 =>
 some (x10.2 == (0 : Int))
theorem ri (sA : LSchema) (q : LQuery) (r : Bool) (H : gF sA q = some r) :
  aU Tryz.prog 29 [(.agg (aD sA)),(.agg (am q))] (au r) := by
 unfold gF at H
 refine PH.ay Tryz.func29 Tryz.ntmps29 ?_
 refine ac (aa (aG ?_))
 refine aG ?_
 refine ah tk rfl (ab (ac (aa (af 2 tk rfl ?_))))
 obtain ⟨x10,h10,H⟩ := av H
 have s10 := dG sA q _ h10
 refine aq Tryz.call24 (eZ.r) s10 ?_
 refine af 5 tk rfl (ab (aw 3 tk rfl ?_))
 exact bi tk H rfl
def eF (m : LRewriteRewriter) (condA : LExpr) (inA : LQuery) : Option (LQuery) :=
 ag (aR inA.inputs 0) fun (x15 : LQuery) =>
 ag (aR inA.inputs 1) fun (x21 : LQuery) =>
 ag (bX m x15) fun x17 =>
 ag (bX m x21) fun x23 =>
 ag (aI (σ := List LExpr) (ρ := Empty) (fun (_ : Nat) (x1 : List UInt8) (s1 : List LExpr) =>
  ag (bS 88 s1 ([(LExpr.mk 2 x1 0 (LVal.mk 0 0 []) [])] : List LExpr)) fun (x34 : List LExpr) =>
  some (.next x34)) 0 x23 []) fun fl1=>fl1.thenP fun (s1 : List LExpr) =>
 ag (aR inA.inputs 0) fun (x39 : LQuery) =>
 ag (aR inA.inputs 1) fun (x48 : LQuery) =>
 bs (bv condA x39) fun x41 =>
 ag (dF condA x17 s1) fun x45 =>
 bs (bv x45 x48) fun x50 =>
 some (LQuery.mk inA.kind inA.table inA.names inA.exprs inA.aggregates inA.descending inA.count inA.offset [x41,x50])
theorem nA (m : LRewriteRewriter) (condA : LExpr) (inA : LQuery) (r : LQuery) (H : eF m condA inA = some r) :
  aU Tryz.prog 69 [(.agg (fu m)),(.agg (bl condA)),(.agg (am inA))] (.agg (am r)) := by
 unfold eF at H
 refine PH.ay Tryz.func69 Tryz.ntmps69 ?_
 refine ac (aa (aG ?_))
 refine aG ?_
 refine iR (d := 5) fun b5=>?_
 refine aA tk fun b6=>?_
 refine ab (ac (bt tk mok ⟨true,false,[12,16,18,22]⟩ [0,1,2,3,4,6,7,8,9,10,5,11,12,13] rfl (by decide +kernel) rfl (bf 2 rfl (aY ?_))))
 obtain ⟨x15,k15,H⟩ := bB H
 refine bF k15.1 (aV aH k15.2) ?_
 refine bf 3 rfl (aY ?_)
 obtain ⟨x21,k21,H⟩ := bB H
 refine bF k21.1 (aV aH k21.2) ?_
 refine bn rfl ?_
 obtain ⟨x17,h17,H⟩ := av H
 have s17 := de m x15 _ h17
 refine be Tryz.call72 (eZ.r) s17 ?_
 obtain ⟨x23,h23,H⟩ := av H
 have s23 := de m x21 _ h23
 refine be Tryz.call72 (eZ.r) s23 ?_
 refine bf 2 rfl (bp (aw 1 tk rfl (ac (ac (aa (ah tk rfl (aB tk (zl _) ?_)))))))
 refine ah tk rfl (ab (gQ tk 9 34 (e := 94) rfl rfl ?_))
 refine db (γ := OwnRef) tk 26 25 24 (fun s1 g1=>upd (upd (upd (upd (upd (fun _=>.any) 9 (.own 34 g1 (s1.map ak).length)) 7 (.list 9 (x17.map aF))) 6 (.box 6 b6 0)) 5 (.box 5 b5 0)) 4 (.ptr (bl condA))) (fun s1 g1=>upd (upd (fun _=>none) 6 (some ⟨b6,[(ae 0),(.str []),(.val (.slice none 0 0)),(.val (.slice none 0 0)),(.val (.slice none 0 0)),(.val (.slice none 0 0)),(ae 0),(ae 0),(.val (.slice none 0 0))]⟩)) 5 (some ⟨b5,(am inA)⟩)) (fun s1 g1=>upd (fun _=>none) 34 (some ⟨g1,94,(s1.map ak),true⟩)) (⟨none,0⟩) H (fun fl1 Hp1 j1 s1 g1 hz1 hl1 x1 fb1 hx1 H hg1=>?_) (fun s1 g1 H=>?_)
 ·refine ac (aE (ac (aa ?_)))
  refine aX tk (zn j1) (bj (fun _=>rfl) hx1) ?_
  refine af 2 tk rfl (ab (aa (af 3 tk rfl (cj tk (rows' := List.map ak ([(LExpr.mk 2 x1 0 (LVal.mk 0 0 []) [])] : List LExpr)) (dH.trans (b := List.map bl [(LExpr.mk 2 x1 0 (LVal.mk 0 0 []) [])]) (dH.cons (oG.cons (lW.of_eq rfl) (oG.cons (lW.of_eq rfl) (oG.cons (lW.of_eq rfl) (oG.cons (lW.of_eq rfl) (oG.cons (lW.of_eq rfl) (oG.cons (lW.of_eq rfl) (oG.cons (lW.nil tk rfl) oG.nil))))))) dH.nil) (dH.of_eq (bN aS [(LExpr.mk 2 x1 0 (LVal.mk 0 0 []) [])]))) ?_))))
  obtain ⟨x34,h34,H⟩ := av H
  have k34 := bE h34
  refine bO (rows2' := List.map ak ([(LExpr.mk 2 x1 0 (LVal.mk 0 0 []) [])] : List LExpr)) (rows' := List.map ak x34) tk rfl rfl rfl rfl rfl rfl rfl rfl rfl rfl rfl rfl rfl (dH.refl _) (ce k34.1) (cb k34.2.1) (ca k34.2.2) fun g34=>?_
  refine ah tk rfl (ab (aW (br 2 tk rfl ?_)))
  exact bq g34 H hl1 hg1
 refine ac (dD 9 rfl rfl rfl (bt tk mok ⟨true,false,[36,40,42,49]⟩ [0,1,2,3,4,6,7,8,10,11,12,13,5,9,14,15,16,17] rfl (by decide +kernel) rfl (bf 2 rfl (aY ?_))))
 obtain ⟨x39,k39,H⟩ := bB H
 refine bF k39.1 (aV aH k39.2) ?_
 refine bf 5 rfl (aY ?_)
 obtain ⟨x48,k48,H⟩ := bB H
 refine bF k48.1 (aV aH k48.2) ?_
 refine bn rfl ?_
 obtain ⟨x41,h41,H⟩ := dg H
 have s41 := dp condA x39
 rw [h41] at s41
 refine be Tryz.call65 (eZ.r) s41 ?_
 obtain ⟨x45,h45,H⟩ := av H
 have s45 := iN condA x17 s1 _ h45
 refine be Tryz.call68 (eZ.r) s45 ?_
 obtain ⟨x50,h50,H⟩ := dg H
 have s50 := dp x45 x48
 rw [h50] at s50
 refine be Tryz.call65 (eZ.r) s50 ?_
 refine bf 2 rfl (bm ?_)
 refine bp (ac (aa (al tk ?_)))
 refine ao tk ?_
 refine ab ?_
 obtain rfl := az H
 refine bd tk rfl (ps := [(.agg [(ae inA.kind),(.str inA.table),(.list 9 (inA.names.map aF)),(.list 94 (inA.exprs.map ak)),(.list 91 (inA.aggregates.map aQ)),(.list 4 (inA.descending.map aP)),(ae inA.count),(ae inA.offset),(.list 33 [(am x41),(am x50)])])]) ⟨_,_,rfl,⟨_,_,_,_,_,rfl,rfl,rfl,rfl⟩,rfl⟩ (PLe.of2 (lW.agg (gk.cons (lW.of_eq rfl) (gk.cons (lW.of_eq rfl) (gk.cons (lW.of_eq rfl) (gk.cons (lW.of_eq rfl) (gk.cons (lW.of_eq rfl) (gk.cons (lW.of_eq rfl) (gk.cons (lW.of_eq rfl) (gk.cons (lW.of_eq rfl) (gk.cons (lW.list (dH.trans (b := List.map am [x41,x50]) (dH.refl _) (dH.of_eq (bN aH [x41,x50])))) gk.nil)))))))))))
def eH (m : LRewriteRewriter) (condA : LExpr) (inA : LQuery) : Option (LQuery × Bool) :=
 ag (aR inA.inputs (0 : Int)) fun (x18 : LQuery) =>
 ag (aR inA.inputs (1 : Int)) fun (x24 : LQuery) =>
 ag (bX m x18) fun x20 =>
 ag (bX m x24) fun x26 =>
 ag (gd condA) fun x28 =>
 ag (aI (σ := List LExpr × List LExpr × List LExpr) (ρ := Empty) (fun (_ : Nat) (x1 : LExpr) (s1 : List LExpr × List LExpr × List LExpr) =>
  ag (dW x1 x20) fun x41 =>
  cond x41
   (ag (bS 88 s1.1 ([x1] : List LExpr)) fun (x45 : List LExpr) =>
   some (.next (x45,s1.2.1,s1.2.2)))
   (ag (
    ag (dW x1 x26) fun x49 =>
    cond x49
     (some (inA.kind == (4 : Int)))
     (some false)) fun (t4 : Bool) =>
   cond t4
    (ag (bS 88 s1.2.1 ([x1] : List LExpr)) fun (x58 : List LExpr) =>
    some (.next (s1.1,x58,s1.2.2)))
    (ag (bS 88 s1.2.2 ([x1] : List LExpr)) fun (x37 : List LExpr) =>
    some (.next (s1.1,s1.2.1,x37))))) 0 x28 ([],[],[])) fun fl1=>fl1.thenP fun (s1 : List LExpr × List LExpr × List LExpr) =>
 cond ((IntKind.i64.wrap ((s1.1.length : Int) + (s1.2.1.length : Int))) == (0 : Int))
  (some ((LQuery.mk 0 [] [] [] [] [] 0 0 []),false))
  (ag (
   cond (decide ((s1.1.length : Int) > (0 : Int)))
    (ag (aR inA.inputs (0 : Int)) fun (x76 : LQuery) =>
    ag (cL s1.1) fun x73 =>
    bs (bv x73 x76) fun x78 =>
    ag (aR inA.inputs (0 : Int)) fun (_ : LQuery) =>
    bs (inA.inputs.set ((0 : Int).toNat) x78) fun (y7 : List LQuery) =>
    some y7)
    (some inA.inputs)) fun (t6 : List LQuery) =>
  ag (
   cond (decide ((s1.2.1.length : Int) > (0 : Int)))
    (ag (aR t6 (1 : Int)) fun (x89 : LQuery) =>
    ag (cL s1.2.1) fun x86 =>
    bs (bv x86 x89) fun x91 =>
    ag (aR t6 (1 : Int)) fun (_ : LQuery) =>
    bs (t6.set ((1 : Int).toNat) x91) fun (y10 : List LQuery) =>
    some y10)
    (some t6)) fun (t9 : List LQuery) =>
  cond (decide ((s1.2.2.length : Int) > (0 : Int)))
   (ag (cL s1.2.2) fun x97 =>
   bs (bv x97 (LQuery.mk inA.kind inA.table inA.names inA.exprs inA.aggregates inA.descending inA.count inA.offset t9)) fun x99 =>
   some (x99,true))
   (some ((LQuery.mk inA.kind inA.table inA.names inA.exprs inA.aggregates inA.descending inA.count inA.offset t9),true)))
theorem nr (g_inA : OwnRef) (m : LRewriteRewriter) (condA : LExpr) (inA : LQuery) (r : LQuery × Bool) (H : eH m condA inA = some r) :
  PH Tryz.prog 71 [(.agg (fu m)),(.agg (bl condA)),(.agg [(ae inA.kind),(.str inA.table),(.list 9 (inA.names.map aF)),(.list 94 (inA.exprs.map ak)),(.list 91 (inA.aggregates.map aQ)),(.list 4 (inA.descending.map aP)),(ae inA.count),(ae inA.offset),(.own 3002 g_inA (inA.inputs.map ap).length)])] ⟨fun _=>none,upd (fun _=>none) 3002 (some ⟨g_inA,33,(List.map ap inA.inputs),true⟩)⟩ (fun u H=>u = (.tup [(.agg (am r.1)),(au r.2)]) ∧ H = Heap.empty) := by
 unfold eH at H
 refine PH.ay Tryz.func71 Tryz.ntmps71 ?_
 refine ac (aa (aG ?_))
 refine aG ?_
 refine iR (d := 5) fun b5=>?_
 refine aA tk fun b6=>?_
 refine ah tk rfl (ab (ac ?_))
 refine gp (tag := 3002) rfl (fun ho3002=>?_)
 refine bt tk mok ⟨true,true,[15,21,999999]⟩ [0,1,2,3,4,6,7,8,9,10,5,11,12,13] rfl (by decide +kernel) rfl (bf 2 rfl (aY ?_))
 obtain ⟨x18,k18,H⟩ := bB H
 refine ej tk ⟨k18.1,(dZ k18.2)⟩ (ed ho3002 k18.2) ?_
 refine iE tk (aV aH k18.2) ?_
 refine bf 2 rfl (aY ?_)
 obtain ⟨x24,k24,H⟩ := bB H
 refine ej tk ⟨k24.1,(dZ k24.2)⟩ (ed ho3002 k24.2) ?_
 refine iE tk (aV aH k24.2) ?_
 obtain ⟨x20,h20,H⟩ := av H
 have s20 := de m x18 _ h20
 refine be Tryz.call72 (eZ.r) s20 ?_
 obtain ⟨x26,h26,H⟩ := av H
 have s26 := de m x24 _ h26
 refine be Tryz.call72 (eZ.r) s26 ?_
 refine bf 2 rfl (bp (aw 3 tk rfl (ac (ac (aa (ah tk rfl ?_))))))
 obtain ⟨x28,h28,H⟩ := av H
 have s28 := iY (m := 28) condA _ h28
 refine aq Tryz.call67 (eZ.r) (PFun.eE s28) ?_
 refine aB tk (zl _) ?_
 refine ah tk rfl (ab (gQ tk 10 45 (e := 94) rfl rfl (gQ tk 11 58 (e := 94) rfl rfl (gQ tk 12 37 (e := 94) rfl rfl ?_))))
 refine db (γ := OwnRef × OwnRef × OwnRef) tk 30 29 28 (fun s1 g1=>upd (upd (upd (upd (upd (upd (upd (fun _=>.any) 12 (.own 37 g1.2.2 (s1.2.2.map ak).length)) 11 (.own 58 g1.2.1 (s1.2.1.map ak).length)) 10 (.own 45 g1.1 (s1.1.map ak).length)) 9 (.list 9 (x26.map aF))) 8 (.list 9 (x20.map aF))) 6 (.box 6 b6 0)) 5 (.box 5 b5 0)) (fun s1 g1=>upd (upd (fun _=>none) 6 (some ⟨b6,[(ae 0),(.str []),(.val (.slice none 0 0)),(.val (.slice none 0 0)),(.val (.slice none 0 0)),(.val (.slice none 0 0)),(ae 0),(ae 0),(.val (.slice none 0 0))]⟩)) 5 (some ⟨b5,[(ae inA.kind),(.str inA.table),(.list 9 (inA.names.map aF)),(.list 94 (inA.exprs.map ak)),(.list 91 (inA.aggregates.map aQ)),(.list 4 (inA.descending.map aP)),(ae inA.count),(ae inA.offset),(.own 3002 g_inA (inA.inputs.map ap).length)]⟩)) (fun s1 g1=>upd (upd (upd (upd (fun _=>none) 58 (some ⟨g1.2.1,94,(s1.2.1.map ak),true⟩)) 45 (some ⟨g1.1,94,(s1.1.map ak),true⟩)) 37 (some ⟨g1.2.2,94,(s1.2.2.map ak),true⟩)) 3002 (some ⟨g_inA,33,(inA.inputs.map ap),true⟩)) (⟨none,0⟩,⟨none,0⟩,⟨none,0⟩) H (fun fl1 Hp1 j1 s1 g1 hz1 hl1 x1 fb1 hx1 H hg1=>?_) (fun s1 g1 H=>?_)
 ·refine ac (aE (ac (aa (aX tk (zn j1) (bj aS hx1) ?_))))
  refine ah tk rfl ?_
  refine aA tk fun b14=>?_
  refine ao tk ?_
  refine ab (aE (ac (aa (al tk ?_))))
  refine ah tk rfl ?_
  obtain ⟨x41,h41,H⟩ := av H
  have s41 := jg x1 x20 _ h41
  refine aq Tryz.call70 (eZ.r) s41 ?_
  refine ah tk rfl (ab ?_)
  refine aN rfl H (fun H=>?_) (fun H=>?_)
  ·refine aa (ah tk rfl (al tk ?_))
   refine cj tk (rows' := List.map ak ([x1] : List LExpr)) (dH.trans (b := List.map bl [x1]) (dH.refl _) (dH.of_eq (bN aS [x1]))) ?_
   obtain ⟨x45,h45,H⟩ := av H
   have k45 := bE h45
   refine bO (rows2' := List.map ak ([x1] : List LExpr)) (rows' := List.map ak x45) tk rfl rfl rfl rfl rfl rfl rfl rfl rfl rfl rfl rfl rfl (dH.refl _) (ce k45.1) (cb k45.2.1) (ca k45.2.2) fun g45=>?_
   refine ah tk rfl (ab (aW (aW (br 2 tk rfl ?_))))
   exact bq (g45,g1.2.1,g1.2.2) H hl1 hg1
  refine ac ?_
  refine ci (γ := Unit) (fun t4 g4=>⟨101,upd (upd (upd (upd (upd (upd (upd (upd (upd (upd (upd (upd (fun _=>.any) 46 (au t4)) 30 (ae (j1 : Int))) 29 (ae (x28.length : Int))) 28 (.list 94 (x28.map ak))) 14 (.box 14 b14 0)) 12 (.own 37 g1.2.2 (s1.2.2.map ak).length)) 11 (.own 58 g1.2.1 (s1.2.1.map ak).length)) 10 (.own 45 g1.1 (s1.1.map ak).length)) 9 (.list 9 (x26.map aF))) 8 (.list 9 (x20.map aF))) 6 (.box 6 b6 0)) 5 (.box 5 b5 0),upd (upd (upd (fun _=>none) 14 (some ⟨b14,(bl x1)⟩)) 6 (some ⟨b6,[(ae 0),(.str []),(.val (.slice none 0 0)),(.val (.slice none 0 0)),(.val (.slice none 0 0)),(.val (.slice none 0 0)),(ae 0),(ae 0),(.val (.slice none 0 0))]⟩)) 5 (some ⟨b5,[(ae inA.kind),(.str inA.table),(.list 9 (inA.names.map aF)),(.list 94 (inA.exprs.map ak)),(.list 91 (inA.aggregates.map aQ)),(.list 4 (inA.descending.map aP)),(ae inA.count),(ae inA.offset),(.own 3002 g_inA (inA.inputs.map ap).length)]⟩),upd (upd (upd (upd (fun _=>none) 3002 (some ⟨g_inA,33,(inA.inputs.map ap),true⟩)) 58 (some ⟨g1.2.1,94,(s1.2.1.map ak),true⟩)) 45 (some ⟨g1.1,94,(s1.1.map ak),true⟩)) 37 (some ⟨g1.2.2,94,(s1.2.2.map ak),true⟩)⟩) H (fun _ H=>?_) (fun t4 g4 H=>?_)
  ·refine aa (al tk ?_)
   refine ah tk rfl ?_
   obtain ⟨x49,h49,H⟩ := av H
   have s49 := jg x1 x26 _ h49
   refine aq Tryz.call70 (eZ.r) s49 ?_
   refine ah tk rfl ?_
   refine aL rfl rfl rfl H (fun H=>?_) (fun H=>?_)
   ·refine ah tk rfl (al tk ?_)
    refine af 3 tk rfl (ab ?_)
    refine aJ _ () (az H) Gh.d
   refine af 5 tk rfl (ab ?_)
   refine aJ _ () (az H) Gh.d
  refine aN rfl H (fun H=>?_) (fun H=>?_)
  ·refine aa (ah tk rfl (al tk ?_))
   refine cj tk (rows' := List.map ak ([x1] : List LExpr)) (dH.trans (b := List.map bl [x1]) (dH.refl _) (dH.of_eq (bN aS [x1]))) ?_
   obtain ⟨x58,h58,H⟩ := av H
   have k58 := bE h58
   refine bO (rows2' := List.map ak ([x1] : List LExpr)) (rows' := List.map ak x58) tk rfl rfl rfl rfl rfl rfl rfl rfl rfl rfl rfl rfl rfl (dH.refl _) (ce k58.1) (cb k58.2.1) (ca k58.2.2) fun g58=>?_
   refine ah tk rfl (ab (aW (aW (br 2 tk rfl ?_))))
   exact bq (g1.1,g58,g1.2.2) H hl1 hg1
  refine aa (ah tk rfl (al tk ?_))
  refine cj tk (rows' := List.map ak ([x1] : List LExpr)) (dH.trans (b := List.map bl [x1]) (dH.refl _) (dH.of_eq (bN aS [x1]))) ?_
  obtain ⟨x37,h37,H⟩ := av H
  have k37 := bE h37
  refine bO (rows2' := List.map ak ([x1] : List LExpr)) (rows' := List.map ak x37) tk rfl rfl rfl rfl rfl rfl rfl rfl rfl rfl rfl rfl rfl (dH.refl _) (ce k37.1) (cb k37.2.1) (ca k37.2.2) fun g37=>?_
  refine ah tk rfl (ab (aW (aW (br 2 tk rfl ?_))))
  exact bq (g1.1,g1.2.1,g37) H hl1 hg1
 refine ac (ac (aa (ah tk rfl (iI tk (zl _) ?_))))
 refine ah tk rfl (iI tk (zl _) ?_)
 refine af 2 tk rfl (ab ?_)
 refine aN rfl H (fun H=>?_) (fun H=>?_)
 ·refine ac (aa (ah tk rfl (ao tk ?_)))
  refine ah tk rfl (ab ?_)
  obtain rfl := az H
  refine bd tk rfl (ps := [(.agg [(ae 0),(.str []),(.val (.slice none 0 0)),(.val (.slice none 0 0)),(.val (.slice none 0 0)),(.val (.slice none 0 0)),(ae 0),(ae 0),(.val (.slice none 0 0))]),(au false)]) ⟨_,_,rfl,⟨_,_,_,_,_,rfl,rfl,rfl,rfl⟩,_,_,rfl,rfl,rfl⟩ (PLe.of2 (lW.tup (gk.cons (lW.agg (gk.cons (lW.of_eq rfl) (gk.cons (lW.of_eq rfl) (gk.cons (lW.nil tk rfl) (gk.cons (lW.nil tk rfl) (gk.cons (lW.nil tk rfl) (gk.cons (lW.nil tk rfl) (gk.cons (lW.of_eq rfl) (gk.cons (lW.of_eq rfl) (gk.cons (lW.nil tk rfl) gk.nil)))))))))) (gk.cons (lW.of_eq rfl) gk.nil))))
 refine ax (ac (ac (aa (ah tk rfl (iI tk (zl _) ?_)))))
 refine ah tk rfl (ab ?_)
 refine ci (γ := OwnRef) (fun t6 g6=>⟨101,upd (upd (upd (upd (fun _=>.any) 12 (.own 37 g1.2.2 (s1.2.2.map ak).length)) 11 (.own 58 g1.2.1 (s1.2.1.map ak).length)) 6 (.box 6 b6 0)) 5 (.box 5 b5 0),upd (upd (fun _=>none) 6 (some ⟨b6,[(ae 0),(.str []),(.val (.slice none 0 0)),(.val (.slice none 0 0)),(.val (.slice none 0 0)),(.val (.slice none 0 0)),(ae 0),(ae 0),(.val (.slice none 0 0))]⟩)) 5 (some ⟨b5,[(ae inA.kind),(.str inA.table),(.list 9 (inA.names.map aF)),(.list 94 (inA.exprs.map ak)),(.list 91 (inA.aggregates.map aQ)),(.list 4 (inA.descending.map aP)),(ae inA.count),(ae inA.offset),(.own 3002 g6 (t6.map ap).length)]⟩),upd (upd (upd (fun _=>none) 3002 (some ⟨g6,33,(t6.map ap),true⟩)) 58 (some ⟨g1.2.1,94,(s1.2.1.map ak),true⟩)) 37 (some ⟨g1.2.2,94,(s1.2.2.map ak),true⟩)⟩) H (fun _ H=>?_) (fun t6 g6 H=>?_)
 ·refine aN rfl H (fun H=>?_) (fun H=>?_)
  ·refine dD 10 rfl rfl rfl ?_
   refine gp (tag := 3002) rfl (fun ho3002=>?_)
   refine gp (tag := 37) rfl (fun ho37=>?_)
   refine gp (tag := 58) rfl (fun ho58=>?_)
   refine bt tk mok ⟨true,true,[999999]⟩ [0,1,2,4,5,6,7,3,8,9,10] rfl (by decide +kernel) rfl (bn rfl (aY ?_))
   refine bf 2 rfl (aY ?_)
   obtain ⟨x76,k76,H⟩ := bB H
   refine ej tk ⟨k76.1,(dZ k76.2)⟩ (ed ho3002 k76.2) ?_
   refine iE tk (aV aH k76.2) ?_
   obtain ⟨x73,h73,H⟩ := av H
   have s73 := fv s1.1 _ h73
   refine be Tryz.call66 (eZ.r) s73 ?_
   obtain ⟨x78,h78,H⟩ := dg H
   have s78 := dp x73 x76
   rw [h78] at s78
   refine be Tryz.call65 (eZ.r) s78 ?_
   obtain ⟨x79,k79,H⟩ := bB H
   refine ej tk ⟨k79.1,(dZ k79.2)⟩ (ed ho3002 k79.2) ?_
   obtain ⟨y7,hy7,H⟩ := dg H
   refine gV tk rfl rfl rfl rfl rfl rfl rfl rfl rfl (by rw [zl]; exact (zg.1 k79.2).1) (PLe.refl _ _) rfl rfl rfl rfl (by decide) (fm aH k79.2 rfl hy7) ?_
   refine bp ?_
   refine aJ _ g_inA (az H) (Gh.le (aM (aM (aM (aM bU)))) (aO rfl (eZ.of2 (gk.cons (lW.of_eq rfl) (gk.cons (lW.of_eq rfl) (gk.cons (lW.of_eq rfl) (gk.cons (lW.of_eq rfl) (gk.cons (lW.of_eq rfl) (gk.cons (lW.of_eq rfl) (gk.cons (lW.of_eq rfl) (gk.cons (lW.of_eq rfl) (gk.cons (lW.of_eq (congrArg (PV.own 3002 g_inA) (gK (f := ap) hy7))) gk.nil)))))))))) (aO rfl (eZ.r) bw)) (da (da (da bA))))
  refine ax ?_
  refine aJ _ g_inA (az H) Gh.d
 refine ac (ac (aa (ah tk rfl (iI tk (zl _) ?_))))
 refine ah tk rfl (ab ?_)
 refine ci (γ := OwnRef) (fun t9 g9=>⟨101,upd (upd (upd (fun _=>.any) 12 (.own 37 g1.2.2 (s1.2.2.map ak).length)) 6 (.box 6 b6 0)) 5 (.box 5 b5 0),upd (upd (fun _=>none) 6 (some ⟨b6,[(ae 0),(.str []),(.val (.slice none 0 0)),(.val (.slice none 0 0)),(.val (.slice none 0 0)),(.val (.slice none 0 0)),(ae 0),(ae 0),(.val (.slice none 0 0))]⟩)) 5 (some ⟨b5,[(ae inA.kind),(.str inA.table),(.list 9 (inA.names.map aF)),(.list 94 (inA.exprs.map ak)),(.list 91 (inA.aggregates.map aQ)),(.list 4 (inA.descending.map aP)),(ae inA.count),(ae inA.offset),(.own 3002 g9 (t9.map ap).length)]⟩),upd (upd (fun _=>none) 3002 (some ⟨g9,33,(t9.map ap),true⟩)) 37 (some ⟨g1.2.2,94,(s1.2.2.map ak),true⟩)⟩) H (fun _ H=>?_) (fun t9 g9 H=>?_)
 ·refine aN rfl H (fun H=>?_) (fun H=>?_)
  ·refine dD 11 rfl rfl rfl ?_
   refine gp (tag := 3002) rfl (fun ho3002=>?_)
   refine gp (tag := 37) rfl (fun ho37=>?_)
   refine bt tk mok ⟨true,true,[999999]⟩ [0,1,2,4,5,6,7,3,8,9,10] rfl (by decide +kernel) rfl (bn rfl (aY ?_))
   refine bf 2 rfl (aY ?_)
   obtain ⟨x89,k89,H⟩ := bB H
   refine ej tk ⟨k89.1,(dZ k89.2)⟩ (ed ho3002 k89.2) ?_
   refine iE tk (aV aH k89.2) ?_
   obtain ⟨x86,h86,H⟩ := av H
   have s86 := fv s1.2.1 _ h86
   refine be Tryz.call66 (eZ.r) s86 ?_
   obtain ⟨x91,h91,H⟩ := dg H
   have s91 := dp x86 x89
   rw [h91] at s91
   refine be Tryz.call65 (eZ.r) s91 ?_
   obtain ⟨x92,k92,H⟩ := bB H
   refine ej tk ⟨k92.1,(dZ k92.2)⟩ (ed ho3002 k92.2) ?_
   obtain ⟨y10,hy10,H⟩ := dg H
   refine gV tk rfl rfl rfl rfl rfl rfl rfl rfl rfl (by rw [zl]; exact (zg.1 k92.2).1) (PLe.refl _ _) rfl rfl rfl rfl (by decide) (fm aH k92.2 rfl hy10) ?_
   refine bp ?_
   refine aJ _ g6 (az H) (Gh.le (aM (aM (aM bU))) (aO rfl (eZ.of2 (gk.cons (lW.of_eq rfl) (gk.cons (lW.of_eq rfl) (gk.cons (lW.of_eq rfl) (gk.cons (lW.of_eq rfl) (gk.cons (lW.of_eq rfl) (gk.cons (lW.of_eq rfl) (gk.cons (lW.of_eq rfl) (gk.cons (lW.of_eq rfl) (gk.cons (lW.of_eq (congrArg (PV.own 3002 g6) (gK (f := ap) hy10))) gk.nil)))))))))) (aO rfl (eZ.r) bw)) (da (da bA)))
  refine ax ?_
  refine aJ _ g6 (az H) Gh.d
 refine ac (ac (aa (ah tk rfl (iI tk (zl _) ?_))))
 refine ah tk rfl (ab ?_)
 refine aN rfl H (fun H=>?_) (fun H=>?_)
 ·refine ac (dD 12 rfl rfl rfl (bD 5 8 rfl rfl rfl rfl rfl (bt tk mok ⟨true,false,[]⟩ [0,2,1,3,4,5] rfl (by decide +kernel) rfl (bn rfl (aY ?_)))))
  obtain ⟨x97,h97,H⟩ := av H
  have s97 := fv s1.2.2 _ h97
  refine be Tryz.call66 (eZ.r) s97 ?_
  obtain ⟨x99,h99,H⟩ := dg H
  have s99 := dp x97 (LQuery.mk inA.kind inA.table inA.names inA.exprs inA.aggregates inA.descending inA.count inA.offset t9)
  rw [h99] at s99
  refine be Tryz.call65 (eZ.r) s99 ?_
  refine bm ?_
  refine bn rfl (bp ?_)
  obtain rfl := az H
  refine bd tk rfl (ps := [(.agg (am x99)),(au true)]) ⟨_,_,rfl,⟨_,_,_,_,_,rfl,rfl,rfl,rfl⟩,_,_,rfl,rfl,rfl⟩ (PLe.q rfl)
 refine ax (ac (aa (al tk ?_)))
 refine ao tk ?_
 refine ah tk rfl (ab ?_)
 obtain rfl := az H
 refine bD 6 8 rfl rfl rfl rfl rfl ?_
 refine bd tk rfl (ps := [(.agg [(ae inA.kind),(.str inA.table),(.list 9 (inA.names.map aF)),(.list 94 (inA.exprs.map ak)),(.list 91 (inA.aggregates.map aQ)),(.list 4 (inA.descending.map aP)),(ae inA.count),(ae inA.offset),(.list 33 (t9.map ap))]),(au true)]) ⟨_,_,rfl,⟨_,_,_,_,_,rfl,rfl,rfl,rfl⟩,_,_,rfl,rfl,rfl⟩ (PLe.q rfl)
def dh (m : LRewriteRewriter) (q : LQuery) : Option (LQuery) :=
 ag (bX m q) fun x8 =>
 ag (aR q.inputs 1) fun (x11 : LQuery) =>
 ag (aR q.inputs 0) fun (x15 : LQuery) =>
 ag (fD x8 (LQuery.mk q.kind q.table q.names q.exprs q.aggregates q.descending q.count q.offset [x11,x15])) fun x21 =>
 some x21
theorem lV (m : LRewriteRewriter) (q : LQuery) (r : LQuery) (H : dh m q = some r) :
  aU Tryz.prog 33 [(.agg (fu m)),(.agg (am q))] (.agg (am r)) := by
 unfold dh at H
 refine PH.ay Tryz.func33 Tryz.ntmps33 ?_
 refine ac (aa (aG ?_))
 refine iR (d := 3) fun b3=>?_
 refine aA tk fun b4=>?_
 refine ab (ac (aa (ah tk rfl (al tk ?_))))
 obtain ⟨x8,h8,H⟩ := av H
 have s8 := de m q _ h8
 refine aq Tryz.call72 (eZ.r) s8 ?_
 refine ah tk rfl (ab (ac (bt tk mok ⟨true,false,[12,16]⟩ [0,1,2,3,4,5,6,7,8,9,10] rfl (by decide +kernel) rfl (bn rfl (aY ?_)))))
 obtain ⟨x11,k11,H⟩ := bB H
 refine bF k11.1 (aV aH k11.2) ?_
 refine bf 2 rfl (aY ?_)
 obtain ⟨x15,k15,H⟩ := bB H
 refine bF k15.1 (aV aH k15.2) ?_
 refine bf 3 rfl (bm ?_)
 refine bp (ac (aa (ah tk rfl (al tk ?_))))
 obtain ⟨x21,h21,H⟩ := av H
 have s21 := nc x8 (LQuery.mk q.kind q.table q.names q.exprs q.aggregates q.descending q.count q.offset [x11,x15]) _ h21
 refine aq Tryz.call73 (eZ.of2 (gk.cons (lW.of_eq rfl) (gk.cons (lW.agg (gk.cons (lW.of_eq rfl) (gk.cons (lW.of_eq rfl) (gk.cons (lW.of_eq rfl) (gk.cons (lW.of_eq rfl) (gk.cons (lW.of_eq rfl) (gk.cons (lW.of_eq rfl) (gk.cons (lW.of_eq rfl) (gk.cons (lW.of_eq rfl) (gk.cons (lW.list (dH.trans (b := List.map am [x11,x15]) (dH.refl _) (dH.of_eq (bN aH [x11,x15])))) gk.nil)))))))))) gk.nil))) s21 ?_
 refine ao tk ?_
 refine ab ?_
 exact pI tk H rfl rfl rfl rfl rfl
def cS (m : LRewriteRewriter) (q : LQuery) (inA : LQuery) : Option (LQuery × Bool) :=
 ag (aR inA.inputs 1) fun (x17 : LQuery) =>
 ag (aR q.inputs 1) fun (x23 : LQuery) =>
 ag (bX m x17) fun x19 =>
 ag (bX m x23) fun x25 =>
 ag (dq ([x19,x25] : List (List (List UInt8)))) fun x27 =>
 ag (aR inA.exprs 0) fun (x31 : LExpr) =>
 ag (gd x31) fun x33 =>
 ag (aR q.exprs 0) fun (x37 : LExpr) =>
 ag (gd x37) fun x39 =>
 ag (aI (σ := List LExpr × List LExpr) (ρ := Empty) (fun (_ : Nat) (x1 : LExpr) (s1 : List LExpr × List LExpr) =>
  ag (dW x1 x27) fun x47 =>
  cond x47
   (ag (bS 88 s1.1 ([x1] : List LExpr)) fun (x51 : List LExpr) =>
   some (.next (x51,s1.2)))
   (ag (bS 88 s1.2 ([x1] : List LExpr)) fun (x55 : List LExpr) =>
   some (.next (s1.1,x55)))) 0 x39 ([],x33)) fun fl1=>fl1.thenP fun (s1 : List LExpr × List LExpr) =>
 ag (aR inA.inputs 1) fun (x62 : LQuery) =>
 ag (aR q.inputs 1) fun (x66 : LQuery) =>
 ag (cL s1.1) fun x58 =>
 ag (aR inA.inputs 0) fun (x75 : LQuery) =>
 ag (cL s1.2) fun x71 =>
 some ((LQuery.mk 4 [] [] [x71] [] [] 0 0 [x75,(LQuery.mk 4 [] [] [x58] [] [] 0 0 [x62,x66])]),true)
theorem lp (m : LRewriteRewriter) (q : LQuery) (inA : LQuery) (r : LQuery × Bool) (H : cS m q inA = some r) :
  aU Tryz.prog 34 [(.agg (fu m)),(.agg (am q)),(.agg (am inA))] (.tup [(.agg (am r.1)),(au r.2)]) := by
 unfold cS at H
 refine PH.ay Tryz.func34 Tryz.ntmps34 ?_
 refine ac (aa (aG ?_))
 refine aG ?_
 refine aG ?_
 refine aA tk fun b6=>?_
 refine ah tk rfl (ab (ac (bt tk mok ⟨false,false,[]⟩ [0,1,2,3,4,6,7,8,9,10,5,11,12,13,14] rfl (by decide +kernel) rfl (bf 3 rfl ?_))))
 obtain ⟨x17,k17,H⟩ := bB H
 refine bF k17.1 (aV aH k17.2) ?_
 refine bf 4 rfl ?_
 obtain ⟨x23,k23,H⟩ := bB H
 refine bF k23.1 (aV aH k23.2) ?_
 refine bn rfl ?_
 obtain ⟨x19,h19,H⟩ := av H
 have s19 := de m x17 _ h19
 refine be Tryz.call72 (eZ.r) s19 ?_
 obtain ⟨x25,h25,H⟩ := av H
 have s25 := de m x23 _ h25
 refine be Tryz.call72 (eZ.r) s25 ?_
 refine bn rfl ?_
 obtain ⟨x27,h27,H⟩ := av H
 have s27 := kT (m := 27) ([x19,x25] : List (List (List UInt8))) _ h27
 refine be Tryz.call74 (eZ.r) (PFun.eE s27) ?_
 refine bn rfl (bp (aw 2 tk rfl (ac (aa (af 3 tk rfl ?_)))))
 obtain ⟨x31,k31,H⟩ := bB H
 refine aX tk k31.1 (aV aS k31.2) ?_
 refine ah tk rfl ?_
 obtain ⟨x33,h33,H⟩ := av H
 have s33 := iY (m := 33) x31 _ h33
 refine aq Tryz.call67 (eZ.r) (PFun.eE s33) ?_
 refine rz (rows2' := List.map ak x33) tk rfl rfl rfl rfl rfl rfl rfl rfl rfl rfl rfl (dH.refl _) fun g34=>?_
 refine ah tk rfl (ab (ac (ac (aa (af 2 tk rfl ?_)))))
 obtain ⟨x37,k37,H⟩ := bB H
 refine aX tk k37.1 (aV aS k37.2) ?_
 refine ah tk rfl ?_
 obtain ⟨x39,h39,H⟩ := av H
 have s39 := iY (m := 39) x37 _ h39
 refine aq Tryz.call67 (eZ.r) (PFun.eE s39) ?_
 refine aB tk (zl _) ?_
 refine ah tk rfl (ab (gQ tk 9 51 (e := 94) rfl rfl ?_))
 refine db (γ := OwnRef × OwnRef) tk 41 40 39 (fun s1 g1=>upd (upd (upd (upd (upd (upd (fun _=>.any) 10 (.own 34 g1.2 (s1.2.map ak).length)) 9 (.own 51 g1.1 (s1.1.map ak).length)) 8 (.list 9 (x27.map aF))) 6 (.box 6 b6 0)) 5 (.ptr (am inA))) 4 (.ptr (am q))) (fun s1 g1=>upd (fun _=>none) 6 (some ⟨b6,[(ae 0),(.str []),(.val (.slice none 0 0)),(.val (.slice none 0 0)),(.val (.slice none 0 0)),(.val (.slice none 0 0)),(ae 0),(ae 0),(.val (.slice none 0 0))]⟩)) (fun s1 g1=>upd (upd (fun _=>none) 51 (some ⟨g1.1,94,(s1.1.map ak),true⟩)) 34 (some ⟨g1.2,94,(s1.2.map ak),true⟩)) (⟨none,0⟩,g34) H (fun fl1 Hp1 j1 s1 g1 hz1 hl1 x1 fb1 hx1 H hg1=>?_) (fun s1 g1 H=>?_)
 ·refine ac (aE (ac (aa (aX tk (zn j1) (bj aS hx1) ?_))))
  refine ah tk rfl ?_
  refine aA tk fun b12=>?_
  refine ao tk ?_
  refine ab (ac (aa (al tk ?_)))
  refine ah tk rfl ?_
  obtain ⟨x47,h47,H⟩ := av H
  have s47 := jg x1 x27 _ h47
  refine aq Tryz.call70 (eZ.r) s47 ?_
  refine ab ?_
  refine aN rfl H (fun H=>?_) (fun H=>?_)
  ·refine aa (ah tk rfl (al tk ?_))
   refine cj tk (rows' := List.map ak ([x1] : List LExpr)) (dH.trans (b := List.map bl [x1]) (dH.refl _) (dH.of_eq (bN aS [x1]))) ?_
   obtain ⟨x51,h51,H⟩ := av H
   have k51 := bE h51
   refine bO (rows2' := List.map ak ([x1] : List LExpr)) (rows' := List.map ak x51) tk rfl rfl rfl rfl rfl rfl rfl rfl rfl rfl rfl rfl rfl (dH.refl _) (ce k51.1) (cb k51.2.1) (ca k51.2.2) fun g51=>?_
   refine ah tk rfl (ab (aW (br 2 tk rfl ?_)))
   exact bq (g51,g1.2) H hl1 hg1
  refine aa (ah tk rfl (al tk ?_))
  refine cj tk (rows' := List.map ak ([x1] : List LExpr)) (dH.trans (b := List.map bl [x1]) (dH.refl _) (dH.of_eq (bN aS [x1]))) ?_
  obtain ⟨x55,h55,H⟩ := av H
  have k55 := bE h55
  refine bO (rows2' := List.map ak ([x1] : List LExpr)) (rows' := List.map ak x55) tk rfl rfl rfl rfl rfl rfl rfl rfl rfl rfl rfl rfl rfl (dH.refl _) (ce k55.1) (cb k55.2.1) (ca k55.2.2) fun g55=>?_
  refine ah tk rfl (ab (aW (br 2 tk rfl ?_)))
  exact bq (g1.1,g55) H hl1 hg1
 refine ac (dD 9 rfl rfl rfl (bt tk mok ⟨false,false,[]⟩ [0,3,4,5,6,7,8,9,10,11,1,2,12,13,14] rfl (by decide +kernel) rfl (bf 3 rfl ?_)))
 obtain ⟨x62,k62,H⟩ := bB H
 refine bF k62.1 (aV aH k62.2) ?_
 refine bf 3 rfl ?_
 obtain ⟨x66,k66,H⟩ := bB H
 refine bF k66.1 (aV aH k66.2) ?_
 refine bf 2 rfl ?_
 obtain ⟨x58,h58,H⟩ := av H
 have s58 := fv s1.1 _ h58
 refine be Tryz.call66 (eZ.r) s58 ?_
 refine bf 2 rfl ?_
 refine oJ rfl rfl rfl rfl rfl rfl rfl rfl fun b13=>?_
 refine bm ?_
 refine bp (ac (dD 10 rfl rfl rfl (cg 13 ?_)))
 refine bt tk mok ⟨false,false,[]⟩ [0,3,4,5,6,7,8,1,2,9,10,11] rfl (by decide +kernel) rfl (bf 3 rfl ?_)
 obtain ⟨x75,k75,H⟩ := bB H
 refine bF k75.1 (aV aH k75.2) ?_
 refine bf 3 rfl ?_
 obtain ⟨x71,h71,H⟩ := av H
 have s71 := fv s1.2 _ h71
 refine be Tryz.call66 (eZ.r) s71 ?_
 refine bf 2 rfl (bm ?_)
 refine bn rfl (bp ?_)
 obtain rfl := az H
 refine bd tk rfl (ps := [(.agg [(ae 4),(.str []),(.val (.slice none 0 0)),(.list 94 [(bl x71)]),(.val (.slice none 0 0)),(.val (.slice none 0 0)),(ae 0),(ae 0),(.list 33 [(am x75),[(ae 4),(.str []),(.val (.slice none 0 0)),(.list 94 [(bl x58)]),(.val (.slice none 0 0)),(.val (.slice none 0 0)),(ae 0),(ae 0),(.list 33 [(am x62),(am x66)])]])]),(au true)]) ⟨_,_,rfl,⟨_,_,_,_,_,rfl,rfl,rfl,rfl⟩,_,_,rfl,rfl,rfl⟩ (PLe.of2 (lW.tup (gk.cons (lW.agg (gk.cons (lW.of_eq rfl) (gk.cons (lW.of_eq rfl) (gk.cons (lW.nil tk rfl) (gk.cons (lW.list (dH.trans (b := List.map bl [x71]) (dH.refl _) (dH.of_eq (bN aS [x71])))) (gk.cons (lW.nil tk rfl) (gk.cons (lW.nil tk rfl) (gk.cons (lW.of_eq rfl) (gk.cons (lW.of_eq rfl) (gk.cons (lW.list (dH.trans (b := List.map am [x75,(LQuery.mk 4 [] [] [x58] [] [] 0 0 [x62,x66])]) (dH.cons (oG.refl _) (dH.cons (oG.cons (lW.of_eq rfl) (oG.cons (lW.of_eq rfl) (oG.cons (lW.nil tk rfl) (oG.cons (lW.list (dH.trans (b := List.map bl [x58]) (dH.refl _) (dH.of_eq (bN aS [x58])))) (oG.cons (lW.nil tk rfl) (oG.cons (lW.nil tk rfl) (oG.cons (lW.of_eq rfl) (oG.cons (lW.of_eq rfl) (oG.cons (lW.list (dH.trans (b := List.map am [x62,x66]) (dH.refl _) (dH.of_eq (bN aH [x62,x66])))) oG.nil))))))))) dH.nil)) (dH.of_eq (bN aH [x75,(LQuery.mk 4 [] [] [x58] [] [] 0 0 [x62,x66])])))) gk.nil)))))))))) (gk.cons (lW.of_eq rfl) gk.nil))))
def ew (m : LRewriteRewriter) (q : LQuery) (inA : LQuery) (rule : Int) : Option (LQuery × Bool) :=
 ag (aR q.exprs 0) fun (x14 : LExpr) =>
 bs (
  cond (rule == (1 : Int))
   ((inA.kind == (2 : Int)))
   (false)) fun (t1 : Bool) =>
 cond t1
  (ag (aR inA.exprs 0) fun (x26 : LExpr) =>
  ag (aR inA.inputs (0 : Int)) fun (x33 : LQuery) =>
  ag (cL ([x26,x14] : List LExpr)) fun x30 =>
  bs (bv x30 x33) fun x35 =>
  some (x35,true))
  (cond (rule == (2 : Int))
   (ag (gd x14) fun x40 =>
   cond (decide ((x40.length : Int) < (2 : Int)))
    (some ((LQuery.mk 0 [] [] [] [] [] 0 0 []),false))
    (ag (aR x40 (IntKind.i64.wrap ((x40.length : Int) - (1 : Int)))) fun (x49 : LExpr) =>
    ag (kG x40 0 (IntKind.i64.wrap ((x40.length : Int) - (1 : Int)))) fun (x55 : List LExpr) =>
    ag (cL x55) fun x56 =>
    bs (bv x56 inA) fun x58 =>
    bs (bv x49 x58) fun x59 =>
    some (x59,true)))
   (bs (
    cond (rule == (3 : Int))
     ((inA.kind == (3 : Int)))
     (false)) fun (t2 : Bool) =>
   cond t2
    (ag (aR inA.inputs (0 : Int)) fun (x78 : LQuery) =>
    ag (dF x14 inA.names inA.exprs) fun x75 =>
    bs (bv x75 x78) fun x80 =>
    ag (aR inA.inputs (0 : Int)) fun (_ : LQuery) =>
    bs (inA.inputs.set ((0 : Int).toNat) x80) fun (y3 : List LQuery) =>
    some ((LQuery.mk inA.kind inA.table inA.names inA.exprs inA.aggregates inA.descending inA.count inA.offset y3),true))
    (bs (
     cond (rule == (6 : Int))
      ((inA.kind == (6 : Int)))
      (false)) fun (t4 : Bool) =>
    bs (
     cond t4
      (t4)
      (cond (rule == (7 : Int))
       ((inA.kind == (7 : Int)))
       (false))) fun (t5 : Bool) =>
    cond t5
     (ag (eF m x14 inA) fun x101 =>
     some (x101,true))
     (bs (
      cond (rule == (9 : Int))
       ((inA.kind == (9 : Int)))
       (false)) fun (t6 : Bool) =>
     cond t6
      (ag (aR inA.inputs (0 : Int)) fun (x115 : LQuery) =>
      bs (bv x14 x115) fun x117 =>
      ag (aR inA.inputs (0 : Int)) fun (_ : LQuery) =>
      bs (inA.inputs.set ((0 : Int).toNat) x117) fun (y7 : List LQuery) =>
      some ((LQuery.mk inA.kind inA.table inA.names inA.exprs inA.aggregates inA.descending inA.count inA.offset y7),true))
      (ag (
       cond (rule == (8 : Int))
        (cond (inA.kind == (8 : Int))
         (ag (dW x14 inA.names) fun x132 =>
         cond x132
          (some (decide ((inA.exprs.length : Int) > (0 : Int))))
          (some false))
         (some false))
        (some false)) fun (t8 : Bool) =>
      cond t8
       (ag (aR inA.inputs (0 : Int)) fun (x150 : LQuery) =>
       ag (dF x14 inA.names inA.exprs) fun x147 =>
       bs (bv x147 x150) fun x152 =>
       ag (aR inA.inputs (0 : Int)) fun (_ : LQuery) =>
       bs (inA.inputs.set ((0 : Int).toNat) x152) fun (y9 : List LQuery) =>
       some ((LQuery.mk inA.kind inA.table inA.names inA.exprs inA.aggregates inA.descending inA.count inA.offset y9),true))
       (bs (
        cond (rule == (4 : Int))
         ((inA.kind == (4 : Int)))
         (false)) fun (t10 : Bool) =>
       bs (
        cond t10
         (t10)
         (cond (rule == (5 : Int))
          ((inA.kind == (5 : Int)))
          (false))) fun (t11 : Bool) =>
       cond t11
        (ag (eH m x14 inA) fun x173 =>
        some (x173.1,x173.2))
        (some ((LQuery.mk 0 [] [] [] [] [] 0 0 []),false))))))))
theorem nn (g_inA : OwnRef) (m : LRewriteRewriter) (q : LQuery) (inA : LQuery) (rule : Int) (r : LQuery × Bool) (H : ew m q inA rule = some r) :
  PH Tryz.prog 31 [(.agg (fu m)),(.agg [(ae q.kind),(.str q.table),(.list 9 (q.names.map aF)),(.list 94 (q.exprs.map ak)),(.list 91 (q.aggregates.map aQ)),(.list 4 (q.descending.map aP)),(ae q.count),(ae q.offset),.any]),(.agg [(ae inA.kind),(.str inA.table),(.list 9 (inA.names.map aF)),(.list 94 (inA.exprs.map ak)),(.list 91 (inA.aggregates.map aQ)),(.list 4 (inA.descending.map aP)),(ae inA.count),(ae inA.offset),(.own 3002 g_inA (inA.inputs.map ap).length)]),(ae rule)] ⟨fun _=>none,upd (fun _=>none) 3002 (some ⟨g_inA,33,(List.map ap inA.inputs),true⟩)⟩ (fun u H=>u = (.tup [(.agg (am r.1)),(au r.2)]) ∧ H = Heap.empty) := by
 unfold ew at H
 refine PH.ay Tryz.func31 Tryz.ntmps31 ?_
 refine ac (aa (aG ?_))
 refine iR (d := 5) fun b5=>?_
 refine iR (d := 6) fun b6=>?_
 refine aA tk fun b8=>?_
 refine ah tk rfl (ab (ac (aa (ah tk rfl (al tk ?_)))))
 obtain ⟨x14,k14,H⟩ := bB H
 refine aX tk k14.1 (aV aS k14.2) ?_
 refine ah tk rfl ?_
 refine aA tk fun b10=>?_
 refine ao tk ?_
 refine ab (ac (aE (ac ?_)))
 refine cm (γ := Unit) (fun t1 g1=>⟨177,upd (upd (upd (upd (upd (upd (fun _=>.any) 16 (au t1)) 10 (.box 10 b10 0)) 8 (.box 8 b8 0)) 6 (.box 6 b6 0)) 4 (.ptr (aD m.s))) 3 (ae rule),upd (upd (upd (fun _=>none) 10 (some ⟨b10,(bl x14)⟩)) 8 (some ⟨b8,[(ae 0),(.str []),(.val (.slice none 0 0)),(.val (.slice none 0 0)),(.val (.slice none 0 0)),(.val (.slice none 0 0)),(ae 0),(ae 0),(.val (.slice none 0 0))]⟩)) 6 (some ⟨b6,[(ae inA.kind),(.str inA.table),(.list 9 (inA.names.map aF)),(.list 94 (inA.exprs.map ak)),(.list 91 (inA.aggregates.map aQ)),(.list 4 (inA.descending.map aP)),(ae inA.count),(ae inA.offset),(.own 3002 g_inA (inA.inputs.map ap).length)]⟩),upd (fun _=>none) 3002 (some ⟨g_inA,33,(inA.inputs.map ap),true⟩)⟩) H (fun _ H=>?_) (fun t1 g1 H=>?_)
 ·refine aa (af 3 tk rfl ?_)
  refine aL rfl rfl rfl H (fun H=>?_) (fun H=>?_)
  ·refine ah tk rfl (al tk ?_)
   refine af 3 tk rfl (ab ?_)
   refine aJ _ () H Gh.d
  refine af 5 tk rfl (ab ?_)
  refine aJ _ () H Gh.d
 refine aN rfl H (fun H=>?_) (fun H=>?_)
 ·refine ac ?_
  refine gp (tag := 3002) rfl (fun ho3002=>?_)
  refine cg 10 ?_
  refine bt tk mok ⟨true,true,[27,28,999999]⟩ [0,1,2,3,4,5,7,8,9,10,6,11,12,13] rfl (by decide +kernel) rfl (bn rfl (aY ?_))
  obtain ⟨x26,k26,H⟩ := bB H
  refine bF k26.1 (aV aS k26.2) ?_
  refine bf 4 rfl (aY ?_)
  obtain ⟨x33,k33,H⟩ := bB H
  refine ej tk ⟨k33.1,(dZ k33.2)⟩ (ed ho3002 k33.2) ?_
  refine iE tk (aV aH k33.2) ?_
  obtain ⟨x30,h30,H⟩ := av H
  have s30 := fv ([x26,x14] : List LExpr) _ h30
  refine be Tryz.call66 (eZ.of2 (gk.cons (lW.list (dH.trans (b := List.map bl [x26,x14]) (dH.refl _) (dH.of_eq (bN aS [x26,x14])))) gk.nil)) s30 ?_
  obtain ⟨x35,h35,H⟩ := dg H
  have s35 := dp x30 x33
  rw [h35] at s35
  refine be Tryz.call65 (eZ.r) s35 ?_
  refine bm ?_
  refine bn rfl (bp ?_)
  obtain rfl := az H
  refine bd tk rfl (ps := [(.agg (am x35)),(au true)]) ⟨_,_,rfl,⟨_,_,_,_,_,rfl,rfl,rfl,rfl⟩,_,_,rfl,rfl,rfl⟩ (PLe.q rfl)
 refine aw 3 tk rfl ?_
 refine aN rfl H (fun H=>?_) (fun H=>?_)
 ·refine ac (aa (al tk ?_))
  obtain ⟨x40,h40,H⟩ := av H
  have s40 := iY (m := 40) x14 _ h40
  refine aq Tryz.call67 (eZ.r) (PFun.eE s40) ?_
  refine ah tk rfl (ab (ac (ac (aa (ah tk rfl (aB tk (zl _) ?_))))))
  refine ah tk rfl (ab ?_)
  refine aN rfl H (fun H=>?_) (fun H=>?_)
  ·refine ac (aa (ah tk rfl (ao tk ?_)))
   refine ah tk rfl (ab ?_)
   obtain rfl := az H
   refine bd tk rfl (ps := [(.agg [(ae 0),(.str []),(.val (.slice none 0 0)),(.val (.slice none 0 0)),(.val (.slice none 0 0)),(.val (.slice none 0 0)),(ae 0),(ae 0),(.val (.slice none 0 0))]),(au false)]) ⟨_,_,rfl,⟨_,_,_,_,_,rfl,rfl,rfl,rfl⟩,_,_,rfl,rfl,rfl⟩ (PLe.of2 (lW.tup (gk.cons (lW.agg (gk.cons (lW.of_eq rfl) (gk.cons (lW.of_eq rfl) (gk.cons (lW.nil tk rfl) (gk.cons (lW.nil tk rfl) (gk.cons (lW.nil tk rfl) (gk.cons (lW.nil tk rfl) (gk.cons (lW.of_eq rfl) (gk.cons (lW.of_eq rfl) (gk.cons (lW.nil tk rfl) gk.nil)))))))))) (gk.cons (lW.of_eq rfl) gk.nil))))
  refine ax (ac (bD 6 8 rfl rfl rfl rfl rfl (bt tk mok ⟨true,false,[50]⟩ [0,1,2,3,4,5,6,7,8,9,10,12,11,13,14,15,16] rfl (by decide +kernel) rfl (bf 2 rfl (rl rfl rfl rfl rfl rfl rfl (zl _) rfl (bn rfl ?_))))))
  obtain ⟨x49,k49,H⟩ := bB H
  refine bF k49.1 (aV aS k49.2) ?_
  refine bf 3 rfl (rl rfl rfl rfl rfl rfl rfl (zl _) rfl (bn rfl ?_))
  obtain ⟨x55,h55,H⟩ := av H
  have k55 := lP h55
  refine rD rfl rfl rfl rfl rfl rfl (zl _) rfl rfl k55.1 (mV k55.2) rfl (aY ?_)
  obtain ⟨x56,h56,H⟩ := av H
  have s56 := fv x55 _ h56
  refine be Tryz.call66 (eZ.r) s56 ?_
  obtain ⟨x58,h58,H⟩ := dg H
  have s58 := dp x56 inA
  rw [h58] at s58
  refine be Tryz.call65 (eZ.r) s58 ?_
  obtain ⟨x59,h59,H⟩ := dg H
  have s59 := dp x49 x58
  rw [h59] at s59
  refine be Tryz.call65 (eZ.r) s59 ?_
  refine bm ?_
  refine bn rfl (bp ?_)
  obtain rfl := az H
  refine bd tk rfl (ps := [(.agg (am x59)),(au true)]) ⟨_,_,rfl,⟨_,_,_,_,_,rfl,rfl,rfl,rfl⟩,_,_,rfl,rfl,rfl⟩ (PLe.q rfl)
 refine ac ?_
 refine cm (γ := Unit) (fun t2 g2=>⟨177,upd (upd (upd (upd (upd (upd (fun _=>.any) 60 (au t2)) 10 (.box 10 b10 0)) 8 (.box 8 b8 0)) 6 (.box 6 b6 0)) 4 (.ptr (aD m.s))) 3 (ae rule),upd (upd (upd (fun _=>none) 10 (some ⟨b10,(bl x14)⟩)) 8 (some ⟨b8,[(ae 0),(.str []),(.val (.slice none 0 0)),(.val (.slice none 0 0)),(.val (.slice none 0 0)),(.val (.slice none 0 0)),(ae 0),(ae 0),(.val (.slice none 0 0))]⟩)) 6 (some ⟨b6,[(ae inA.kind),(.str inA.table),(.list 9 (inA.names.map aF)),(.list 94 (inA.exprs.map ak)),(.list 91 (inA.aggregates.map aQ)),(.list 4 (inA.descending.map aP)),(ae inA.count),(ae inA.offset),(.own 3002 g_inA (inA.inputs.map ap).length)]⟩),upd (fun _=>none) 3002 (some ⟨g_inA,33,(inA.inputs.map ap),true⟩)⟩) H (fun _ H=>?_) (fun t2 g2 H=>?_)
 ·refine aa (af 3 tk rfl ?_)
  refine aL rfl rfl rfl H (fun H=>?_) (fun H=>?_)
  ·refine ah tk rfl (al tk ?_)
   refine af 3 tk rfl (ab ?_)
   refine aJ _ () H Gh.d
  refine af 5 tk rfl (ab ?_)
  refine aJ _ () H Gh.d
 refine aN rfl H (fun H=>?_) (fun H=>?_)
 ·refine ac ?_
  refine gp (tag := 3002) rfl (fun ho3002=>?_)
  refine cg 10 ?_
  refine bt tk mok ⟨true,true,[70,999999]⟩ [0,1,2,3,4,5,6,8,9,10,11,7,12,13,14] rfl (by decide +kernel) rfl (bn rfl (aY ?_))
  refine bf 2 rfl (aY ?_)
  refine bn rfl (aY ?_)
  refine bn rfl (aY ?_)
  obtain ⟨x78,k78,H⟩ := bB H
  refine ej tk ⟨k78.1,(dZ k78.2)⟩ (ed ho3002 k78.2) ?_
  refine iE tk (aV aH k78.2) ?_
  obtain ⟨x75,h75,H⟩ := av H
  have s75 := iN x14 inA.names inA.exprs _ h75
  refine be Tryz.call68 (eZ.r) s75 ?_
  obtain ⟨x80,h80,H⟩ := dg H
  have s80 := dp x75 x78
  rw [h80] at s80
  refine be Tryz.call65 (eZ.r) s80 ?_
  obtain ⟨x81,k81,H⟩ := bB H
  refine ej tk ⟨k81.1,(dZ k81.2)⟩ (ed ho3002 k81.2) ?_
  obtain ⟨y3,hy3,H⟩ := dg H
  refine gV tk rfl rfl rfl rfl rfl rfl rfl rfl rfl (by rw [zl]; exact (zg.1 k81.2).1) (PLe.refl _ _) rfl rfl rfl rfl (by decide) (fm aH k81.2 rfl hy3) ?_
  refine bp (ac (aa (al tk ?_)))
  refine ao tk ?_
  refine ah tk rfl (ab ?_)
  obtain rfl := az H
  refine bD 8 8 rfl rfl rfl (gK (f := ap) hy3) rfl ?_
  refine bd tk rfl (ps := [(.agg [(ae inA.kind),(.str inA.table),(.list 9 (inA.names.map aF)),(.list 94 (inA.exprs.map ak)),(.list 91 (inA.aggregates.map aQ)),(.list 4 (inA.descending.map aP)),(ae inA.count),(ae inA.offset),(.list 33 (y3.map ap))]),(au true)]) ⟨_,_,rfl,⟨_,_,_,_,_,rfl,rfl,rfl,rfl⟩,_,_,rfl,rfl,rfl⟩ (PLe.q rfl)
 refine ac (ac ?_)
 refine cm (γ := Unit) (fun t4 g4=>⟨177,upd (upd (upd (upd (upd (upd (fun _=>.any) 83 (au t4)) 10 (.box 10 b10 0)) 8 (.box 8 b8 0)) 6 (.box 6 b6 0)) 4 (.ptr (aD m.s))) 3 (ae rule),upd (upd (upd (fun _=>none) 10 (some ⟨b10,(bl x14)⟩)) 8 (some ⟨b8,[(ae 0),(.str []),(.val (.slice none 0 0)),(.val (.slice none 0 0)),(.val (.slice none 0 0)),(.val (.slice none 0 0)),(ae 0),(ae 0),(.val (.slice none 0 0))]⟩)) 6 (some ⟨b6,[(ae inA.kind),(.str inA.table),(.list 9 (inA.names.map aF)),(.list 94 (inA.exprs.map ak)),(.list 91 (inA.aggregates.map aQ)),(.list 4 (inA.descending.map aP)),(ae inA.count),(ae inA.offset),(.own 3002 g_inA (inA.inputs.map ap).length)]⟩),upd (fun _=>none) 3002 (some ⟨g_inA,33,(inA.inputs.map ap),true⟩)⟩) H (fun _ H=>?_) (fun t4 g4 H=>?_)
 ·refine aa (af 3 tk rfl ?_)
  refine aL rfl rfl rfl H (fun H=>?_) (fun H=>?_)
  ·refine ah tk rfl (al tk ?_)
   refine af 3 tk rfl (ab ?_)
   refine aJ _ () H Gh.d
  refine af 5 tk rfl (ab ?_)
  refine aJ _ () H Gh.d
 refine cm (γ := Unit) (fun t5 g5=>⟨177,upd (upd (upd (upd (upd (upd (fun _=>.any) 83 (au t5)) 10 (.box 10 b10 0)) 8 (.box 8 b8 0)) 6 (.box 6 b6 0)) 4 (.ptr (aD m.s))) 3 (ae rule),upd (upd (upd (fun _=>none) 10 (some ⟨b10,(bl x14)⟩)) 8 (some ⟨b8,[(ae 0),(.str []),(.val (.slice none 0 0)),(.val (.slice none 0 0)),(.val (.slice none 0 0)),(.val (.slice none 0 0)),(ae 0),(ae 0),(.val (.slice none 0 0))]⟩)) 6 (some ⟨b6,[(ae inA.kind),(.str inA.table),(.list 9 (inA.names.map aF)),(.list 94 (inA.exprs.map ak)),(.list 91 (inA.aggregates.map aQ)),(.list 4 (inA.descending.map aP)),(ae inA.count),(ae inA.offset),(.own 3002 g_inA (inA.inputs.map ap).length)]⟩),upd (fun _=>none) 3002 (some ⟨g_inA,33,(inA.inputs.map ap),true⟩)⟩) H (fun _ H=>?_) (fun t5 g5 H=>?_)
 ·refine aN rfl H (fun H=>?_) (fun H=>?_)
  ·refine ax ?_
   refine aJ _ () H Gh.d
  refine aa (af 3 tk rfl ?_)
  refine aL rfl rfl rfl H (fun H=>?_) (fun H=>?_)
  ·refine ah tk rfl (al tk ?_)
   refine af 3 tk rfl (ab ?_)
   refine aJ _ () H Gh.d
  refine af 5 tk rfl (ab ?_)
  refine aJ _ () H Gh.d
 refine aN rfl H (fun H=>?_) (fun H=>?_)
 ·refine ac (bD 6 8 rfl rfl rfl rfl rfl (aa (ah tk rfl (al tk ?_))))
  refine al tk ?_
  obtain ⟨x101,h101,H⟩ := av H
  have s101 := nA m x14 inA _ h101
  refine aq Tryz.call69 (eZ.r) s101 ?_
  refine ao tk ?_
  refine ah tk rfl (ab ?_)
  obtain rfl := az H
  refine bd tk rfl (ps := [(.agg (am x101)),(au true)]) ⟨_,_,rfl,⟨_,_,_,_,_,rfl,rfl,rfl,rfl⟩,_,_,rfl,rfl,rfl⟩ (PLe.q rfl)
 refine ac ?_
 refine cm (γ := Unit) (fun t6 g6=>⟨177,upd (upd (upd (upd (upd (upd (fun _=>.any) 102 (au t6)) 10 (.box 10 b10 0)) 8 (.box 8 b8 0)) 6 (.box 6 b6 0)) 4 (.ptr (aD m.s))) 3 (ae rule),upd (upd (upd (fun _=>none) 10 (some ⟨b10,(bl x14)⟩)) 8 (some ⟨b8,[(ae 0),(.str []),(.val (.slice none 0 0)),(.val (.slice none 0 0)),(.val (.slice none 0 0)),(.val (.slice none 0 0)),(ae 0),(ae 0),(.val (.slice none 0 0))]⟩)) 6 (some ⟨b6,[(ae inA.kind),(.str inA.table),(.list 9 (inA.names.map aF)),(.list 94 (inA.exprs.map ak)),(.list 91 (inA.aggregates.map aQ)),(.list 4 (inA.descending.map aP)),(ae inA.count),(ae inA.offset),(.own 3002 g_inA (inA.inputs.map ap).length)]⟩),upd (fun _=>none) 3002 (some ⟨g_inA,33,(inA.inputs.map ap),true⟩)⟩) H (fun _ H=>?_) (fun t6 g6 H=>?_)
 ·refine aa (af 3 tk rfl ?_)
  refine aL rfl rfl rfl H (fun H=>?_) (fun H=>?_)
  ·refine ah tk rfl (al tk ?_)
   refine af 3 tk rfl (ab ?_)
   refine aJ _ () H Gh.d
  refine af 5 tk rfl (ab ?_)
  refine aJ _ () H Gh.d
 refine aN rfl H (fun H=>?_) (fun H=>?_)
 ·refine ac ?_
  refine gp (tag := 3002) rfl (fun ho3002=>?_)
  refine cg 10 ?_
  refine bt tk mok ⟨true,true,[112,999999]⟩ [0,1,2,3,4,5,6,7,8,9] rfl (by decide +kernel) rfl (bn rfl (aY ?_))
  refine bf 2 rfl (aY ?_)
  obtain ⟨x115,k115,H⟩ := bB H
  refine ej tk ⟨k115.1,(dZ k115.2)⟩ (ed ho3002 k115.2) ?_
  refine iE tk (aV aH k115.2) ?_
  obtain ⟨x117,h117,H⟩ := dg H
  have s117 := dp x14 x115
  rw [h117] at s117
  refine be Tryz.call65 (eZ.r) s117 ?_
  obtain ⟨x118,k118,H⟩ := bB H
  refine ej tk ⟨k118.1,(dZ k118.2)⟩ (ed ho3002 k118.2) ?_
  obtain ⟨y7,hy7,H⟩ := dg H
  refine gV tk rfl rfl rfl rfl rfl rfl rfl rfl rfl (by rw [zl]; exact (zg.1 k118.2).1) (PLe.refl _ _) rfl rfl rfl rfl (by decide) (fm aH k118.2 rfl hy7) ?_
  refine bp (ac (aa (al tk ?_)))
  refine ao tk ?_
  refine ah tk rfl (ab ?_)
  obtain rfl := az H
  refine bD 8 8 rfl rfl rfl (gK (f := ap) hy7) rfl ?_
  refine bd tk rfl (ps := [(.agg [(ae inA.kind),(.str inA.table),(.list 9 (inA.names.map aF)),(.list 94 (inA.exprs.map ak)),(.list 91 (inA.aggregates.map aQ)),(.list 4 (inA.descending.map aP)),(ae inA.count),(ae inA.offset),(.list 33 (y7.map ap))]),(au true)]) ⟨_,_,rfl,⟨_,_,_,_,_,rfl,rfl,rfl,rfl⟩,_,_,rfl,rfl,rfl⟩ (PLe.q rfl)
 refine ac ?_
 refine ci (γ := Unit) (fun t8 g8=>⟨177,upd (upd (upd (upd (upd (upd (fun _=>.any) 120 (au t8)) 10 (.box 10 b10 0)) 8 (.box 8 b8 0)) 6 (.box 6 b6 0)) 4 (.ptr (aD m.s))) 3 (ae rule),upd (upd (upd (fun _=>none) 10 (some ⟨b10,(bl x14)⟩)) 8 (some ⟨b8,[(ae 0),(.str []),(.val (.slice none 0 0)),(.val (.slice none 0 0)),(.val (.slice none 0 0)),(.val (.slice none 0 0)),(ae 0),(ae 0),(.val (.slice none 0 0))]⟩)) 6 (some ⟨b6,[(ae inA.kind),(.str inA.table),(.list 9 (inA.names.map aF)),(.list 94 (inA.exprs.map ak)),(.list 91 (inA.aggregates.map aQ)),(.list 4 (inA.descending.map aP)),(ae inA.count),(ae inA.offset),(.own 3002 g_inA (inA.inputs.map ap).length)]⟩),upd (fun _=>none) 3002 (some ⟨g_inA,33,(inA.inputs.map ap),true⟩)⟩) H (fun _ H=>?_) (fun t8 g8 H=>?_)
 ·refine aa (af 3 tk rfl ?_)
  refine aL rfl rfl rfl H (fun H=>?_) (fun H=>?_)
  ·refine ah tk rfl (al tk ?_)
   refine af 3 tk rfl ?_
   refine aL rfl rfl rfl H (fun H=>?_) (fun H=>?_)
   ·refine al tk ?_
    refine ah tk rfl (al tk ?_)
    obtain ⟨x132,h132,H⟩ := av H
    have s132 := jg x14 inA.names _ h132
    refine aq Tryz.call70 (eZ.r) s132 ?_
    refine af 2 tk rfl ?_
    refine aL rfl rfl rfl H (fun H=>?_) (fun H=>?_)
    ·refine ah tk rfl (al tk ?_)
     refine aB tk (zl _) ?_
     refine af 3 tk rfl (ab ?_)
     refine aJ _ () (az H) Gh.d
    refine af 6 tk rfl (ab ?_)
    refine aJ _ () (az H) Gh.d
   refine af 12 tk rfl (ab ?_)
   refine aJ _ () (az H) Gh.d
  refine af 17 tk rfl (ab ?_)
  refine aJ _ () (az H) Gh.d
 refine aN rfl H (fun H=>?_) (fun H=>?_)
 ·refine ac ?_
  refine gp (tag := 3002) rfl (fun ho3002=>?_)
  refine cg 10 ?_
  refine bt tk mok ⟨true,true,[142,999999]⟩ [0,1,2,3,4,5,6,8,9,10,11,7,12,13,14] rfl (by decide +kernel) rfl (bn rfl (aY ?_))
  refine bf 2 rfl (aY ?_)
  refine bn rfl (aY ?_)
  refine bn rfl (aY ?_)
  obtain ⟨x150,k150,H⟩ := bB H
  refine ej tk ⟨k150.1,(dZ k150.2)⟩ (ed ho3002 k150.2) ?_
  refine iE tk (aV aH k150.2) ?_
  obtain ⟨x147,h147,H⟩ := av H
  have s147 := iN x14 inA.names inA.exprs _ h147
  refine be Tryz.call68 (eZ.r) s147 ?_
  obtain ⟨x152,h152,H⟩ := dg H
  have s152 := dp x147 x150
  rw [h152] at s152
  refine be Tryz.call65 (eZ.r) s152 ?_
  obtain ⟨x153,k153,H⟩ := bB H
  refine ej tk ⟨k153.1,(dZ k153.2)⟩ (ed ho3002 k153.2) ?_
  obtain ⟨y9,hy9,H⟩ := dg H
  refine gV tk rfl rfl rfl rfl rfl rfl rfl rfl rfl (by rw [zl]; exact (zg.1 k153.2).1) (PLe.refl _ _) rfl rfl rfl rfl (by decide) (fm aH k153.2 rfl hy9) ?_
  refine bp (ac (aa (al tk ?_)))
  refine ao tk ?_
  refine ah tk rfl (ab ?_)
  obtain rfl := az H
  refine bD 8 8 rfl rfl rfl (gK (f := ap) hy9) rfl ?_
  refine bd tk rfl (ps := [(.agg [(ae inA.kind),(.str inA.table),(.list 9 (inA.names.map aF)),(.list 94 (inA.exprs.map ak)),(.list 91 (inA.aggregates.map aQ)),(.list 4 (inA.descending.map aP)),(ae inA.count),(ae inA.offset),(.list 33 (y9.map ap))]),(au true)]) ⟨_,_,rfl,⟨_,_,_,_,_,rfl,rfl,rfl,rfl⟩,_,_,rfl,rfl,rfl⟩ (PLe.q rfl)
 refine ac (ac ?_)
 refine cm (γ := Unit) (fun t10 g10=>⟨177,upd (upd (upd (upd (upd (upd (fun _=>.any) 155 (au t10)) 10 (.box 10 b10 0)) 8 (.box 8 b8 0)) 6 (.box 6 b6 0)) 4 (.ptr (aD m.s))) 3 (ae rule),upd (upd (upd (fun _=>none) 10 (some ⟨b10,(bl x14)⟩)) 8 (some ⟨b8,[(ae 0),(.str []),(.val (.slice none 0 0)),(.val (.slice none 0 0)),(.val (.slice none 0 0)),(.val (.slice none 0 0)),(ae 0),(ae 0),(.val (.slice none 0 0))]⟩)) 6 (some ⟨b6,[(ae inA.kind),(.str inA.table),(.list 9 (inA.names.map aF)),(.list 94 (inA.exprs.map ak)),(.list 91 (inA.aggregates.map aQ)),(.list 4 (inA.descending.map aP)),(ae inA.count),(ae inA.offset),(.own 3002 g_inA (inA.inputs.map ap).length)]⟩),upd (fun _=>none) 3002 (some ⟨g_inA,33,(inA.inputs.map ap),true⟩)⟩) H (fun _ H=>?_) (fun t10 g10 H=>?_)
 ·refine aa (af 3 tk rfl ?_)
  refine aL rfl rfl rfl H (fun H=>?_) (fun H=>?_)
  ·refine ah tk rfl (al tk ?_)
   refine af 3 tk rfl (ab ?_)
   refine aJ _ () H Gh.d
  refine af 5 tk rfl (ab ?_)
  refine aJ _ () H Gh.d
 refine cm (γ := Unit) (fun t11 g11=>⟨177,upd (upd (upd (upd (upd (fun _=>.any) 155 (au t11)) 10 (.box 10 b10 0)) 8 (.box 8 b8 0)) 6 (.box 6 b6 0)) 4 (.ptr (aD m.s)),upd (upd (upd (fun _=>none) 10 (some ⟨b10,(bl x14)⟩)) 8 (some ⟨b8,[(ae 0),(.str []),(.val (.slice none 0 0)),(.val (.slice none 0 0)),(.val (.slice none 0 0)),(.val (.slice none 0 0)),(ae 0),(ae 0),(.val (.slice none 0 0))]⟩)) 6 (some ⟨b6,[(ae inA.kind),(.str inA.table),(.list 9 (inA.names.map aF)),(.list 94 (inA.exprs.map ak)),(.list 91 (inA.aggregates.map aQ)),(.list 4 (inA.descending.map aP)),(ae inA.count),(ae inA.offset),(.own 3002 g_inA (inA.inputs.map ap).length)]⟩),upd (fun _=>none) 3002 (some ⟨g_inA,33,(inA.inputs.map ap),true⟩)⟩) H (fun _ H=>?_) (fun t11 g11 H=>?_)
 ·refine aN rfl H (fun H=>?_) (fun H=>?_)
  ·refine ax ?_
   refine aJ _ () H Gh.d
  refine aa (af 3 tk rfl ?_)
  refine aL rfl rfl rfl H (fun H=>?_) (fun H=>?_)
  ·refine ah tk rfl (al tk ?_)
   refine af 3 tk rfl (ab ?_)
   refine aJ _ () H Gh.d
  refine af 5 tk rfl (ab ?_)
  refine aJ _ () H Gh.d
 refine aN rfl H (fun H=>?_) (fun H=>?_)
 ·refine ac (aa (ah tk rfl (al tk ?_)))
  refine al tk ?_
  obtain ⟨x173,h173,H⟩ := av H
  have s173 := nr g_inA m x14 inA _ h173
  refine hM (g := 71) rfl rfl rfl Tryz.call71 [] [(3002,3002)] rfl rfl rfl rfl (eZ.cons (PLe.refl _ _) <| eZ.cons (PLe.refl _ _) <| eZ.cons (PLe.agg (eZ.cons (PLe.refl _ _) <| eZ.cons (PLe.refl _ _) <| eZ.cons (PLe.refl _ _) <| eZ.cons (PLe.refl _ _) <| eZ.cons (PLe.refl _ _) <| eZ.cons (PLe.refl _ _) <| eZ.cons (PLe.refl _ _) <| eZ.cons (PLe.refl _ _) <| eZ.cons (PLe.of2 (lW.own rfl)) <| eZ.nil _)) <| eZ.nil _) (by rw [gD,fI,gC]; rfl) s173 ?_
  rintro u173 H173h ⟨rfl,rfl⟩
  refine ⟨_,rfl,?_⟩
  refine gI (st' := ⟨_,_,upd (upd (upd (fun _=>none) 10 (some ⟨b10,(bl x14)⟩)) 8 (some ⟨b8,[(ae 0),(.str []),(.val (.slice none 0 0)),(.val (.slice none 0 0)),(.val (.slice none 0 0)),(.val (.slice none 0 0)),(ae 0),(ae 0),(.val (.slice none 0 0))]⟩)) 6 (some ⟨b6,[(ae inA.kind),(.str inA.table),(.list 9 (inA.names.map aF)),(.list 94 (inA.exprs.map ak)),(.list 91 (inA.aggregates.map aQ)),(.list 4 (inA.descending.map aP)),(ae inA.count),(ae inA.offset),(.own 3002 g_inA (inA.inputs.map ap).length)]⟩),fun _=>none⟩) (Gh.le (fF _ _) (aO rfl (eZ.r) (aO rfl (eZ.r) (aO rfl (eZ.r) bw))) bA) ?_
  refine af 2 tk rfl (ao tk ?_)
  refine ah tk rfl (ab ?_)
  obtain rfl := az H
  refine bd tk rfl (ps := [(.agg (am x173.1)),(au x173.2)]) ⟨_,_,rfl,⟨_,_,_,_,_,rfl,rfl,rfl,rfl⟩,_,_,rfl,rfl,rfl⟩ (PLe.q rfl)
 refine ax (aW (ac (aa (ah tk rfl (ao tk ?_)))))
 refine ah tk rfl (ab ?_)
 obtain rfl := az H
 refine bd tk rfl (ps := [(.agg [(ae 0),(.str []),(.val (.slice none 0 0)),(.val (.slice none 0 0)),(.val (.slice none 0 0)),(.val (.slice none 0 0)),(ae 0),(ae 0),(.val (.slice none 0 0))]),(au false)]) ⟨_,_,rfl,⟨_,_,_,_,_,rfl,rfl,rfl,rfl⟩,_,_,rfl,rfl,rfl⟩ (PLe.of2 (lW.tup (gk.cons (lW.agg (gk.cons (lW.of_eq rfl) (gk.cons (lW.of_eq rfl) (gk.cons (lW.nil tk rfl) (gk.cons (lW.nil tk rfl) (gk.cons (lW.nil tk rfl) (gk.cons (lW.nil tk rfl) (gk.cons (lW.of_eq rfl) (gk.cons (lW.of_eq rfl) (gk.cons (lW.nil tk rfl) gk.nil)))))))))) (gk.cons (lW.of_eq rfl) gk.nil))))
def bR (sA : LSchema) (q : LQuery) (rule : Int) : Option (LQuery × Bool) :=
 ag (bI sA q) fun x21 =>
 bs (
  cond (x21.2 != (0 : Int))
   (true)
   ((q.kind == (1 : Int)))) fun (t1 : Bool) =>
 cond t1
  (some ((LQuery.mk 0 [] [] [] [] [] 0 0 []),false))
  (ag (oneI q.inputs) fun (y35 : LQuery) =>
  ag (iw q y35) fun x35 =>
  bs (
   cond (decide (rule ≥ (1 : Int)))
    (cond (decide (rule ≤ (9 : Int)))
     ((x35.1.kind == (2 : Int)))
     (false))
    (false)) fun (t2 : Bool) =>
  ag (
   cond t2
    (ag (ew (LRewriteRewriter.mk sA) (LQuery.mk x35.1.kind x35.1.table x35.1.names x35.1.exprs x35.1.aggregates x35.1.descending x35.1.count x35.1.offset [x35.2]) x35.2 rule) fun x57 =>
    some (x57.2,x57.1))
    (ag (
     cond (rule == (10 : Int))
      (none)
      (some ())) fun (_ : Unit) =>
    ag (
     cond (rule == (11 : Int))
      (none)
      (some ())) fun (_ : Unit) =>
    ag (
     cond (rule == (12 : Int))
      (none)
      (some ())) fun (_ : Unit) =>
    ag (
     cond (rule == (13 : Int))
      (none)
      (some ())) fun (_ : Unit) =>
    ag (
     cond (rule == (14 : Int))
      (none)
      (some ())) fun (_ : Unit) =>
    ag (
     cond (rule == (15 : Int))
      (none)
      (some ())) fun (_ : Unit) =>
    ag (
     cond (rule == (16 : Int))
      (none)
      (some ())) fun (_ : Unit) =>
    some (false,(LQuery.mk 0 [] [] [] [] [] 0 0 [])))) fun (t10 : Bool × LQuery) =>
  cond (!t10.1)
   (some ((LQuery.mk 0 [] [] [] [] [] 0 0 []),false))
   (ag (bI sA t10.2) fun x196 =>
   cond (x196.2 != (0 : Int))
    (some ((LQuery.mk 0 [] [] [] [] [] 0 0 []),false))
    (some (t10.2,true))))
theorem qC (sA : LSchema) (q : LQuery) (rule : Int) (r : LQuery × Bool) (H : bR sA q rule = some r) :
  aU Tryz.prog 15 [(.agg (aD sA)),(.agg (am q)),(ae rule)] (.tup [(.agg (am r.1)),(au r.2)]) := by
 unfold bR at H
 refine PH.ay Tryz.func15 Tryz.ntmps15 ?_
 refine ac (aa (aG ?_))
 refine iR (d := 4) fun b4=>?_
 refine aA tk fun b6=>?_
 refine ah tk rfl (ab (ac (ac (aa (ah tk rfl (al tk ?_))))))
 obtain ⟨x21,h21,H⟩ := av H
 have s21 := dG sA q _ h21
 refine aq Tryz.call24 (eZ.r) s21 ?_
 refine af 5 tk rfl (ab (ac ?_))
 refine cm (γ := Unit) (fun t1 g1=>⟨203,upd (upd (upd (upd (upd (fun _=>.any) 30 (au t1)) 6 (.box 6 b6 0)) 4 (.box 4 b4 0)) 3 (.ptr (aD sA))) 2 (ae rule),upd (upd (fun _=>none) 6 (some ⟨b6,[(ae 0),(.str []),(.val (.slice none 0 0)),(.val (.slice none 0 0)),(.val (.slice none 0 0)),(.val (.slice none 0 0)),(ae 0),(ae 0),(.val (.slice none 0 0))]⟩)) 4 (some ⟨b4,(am q)⟩),fun _=>none⟩) H (fun _ H=>?_) (fun t1 g1 H=>?_)
 ·refine aa (af 3 tk rfl ?_)
  refine aL rfl rfl rfl H (fun H=>?_) (fun H=>?_)
  ·refine af 4 tk rfl (ab ?_)
   refine aJ _ () H Gh.d
  refine ah tk rfl (al tk ?_)
  refine af 2 tk rfl (ab ?_)
  refine aJ _ () H Gh.d
 refine aN rfl H (fun H=>?_) (fun H=>?_)
 ·refine ac (aa (ah tk rfl (ao tk ?_)))
  refine ah tk rfl (ab ?_)
  obtain rfl := az H
  refine bd tk rfl (ps := [(.agg [(ae 0),(.str []),(.val (.slice none 0 0)),(.val (.slice none 0 0)),(.val (.slice none 0 0)),(.val (.slice none 0 0)),(ae 0),(ae 0),(.val (.slice none 0 0))]),(au false)]) ⟨_,_,rfl,⟨_,_,_,_,_,rfl,rfl,rfl,rfl⟩,_,_,rfl,rfl,rfl⟩ (PLe.of2 (lW.tup (gk.cons (lW.agg (gk.cons (lW.of_eq rfl) (gk.cons (lW.of_eq rfl) (gk.cons (lW.nil tk rfl) (gk.cons (lW.nil tk rfl) (gk.cons (lW.nil tk rfl) (gk.cons (lW.nil tk rfl) (gk.cons (lW.of_eq rfl) (gk.cons (lW.of_eq rfl) (gk.cons (lW.nil tk rfl) gk.nil)))))))))) (gk.cons (lW.of_eq rfl) gk.nil))))
 refine ax (ac (aa (af 2 tk rfl ?_)))
 refine aA tk fun b10=>?_
 refine ao tk ?_
 refine ab (ac (aa (al tk ?_)))
 obtain ⟨y35,hy35,H⟩ := av H
 have ky35 := oneI_some hy35
 obtain ⟨x35,h35,H⟩ := av H
 have s35 := rg (m := 35) q y35 _ h35
 rw [← ky35] at s35
 refine lS (g := 30) rfl rfl rfl Tryz.call30 (eZ.r) rfl rfl s35 (fun g35=>?_)
 refine ao tk ?_
 refine ab (ac (aa (ah tk rfl (al tk ?_))))
 refine oj tk rfl rfl rfl rfl rfl rfl (by decide) rfl rfl (ah tk rfl ?_)
 refine oE 39 (q := (.agg [(ae x35.2.kind),(.str x35.2.table),(.list 9 (x35.2.names.map aF)),(.list 94 (x35.2.exprs.map ak)),(.list 91 (x35.2.aggregates.map aQ)),(.list 4 (x35.2.descending.map aP)),(ae x35.2.count),(ae x35.2.offset),(.own 35 g35 (x35.2.inputs.map ap).length)])) rfl (PLe.agg (eZ.cons (PLe.refl _ _) <| eZ.cons (PLe.refl _ _) <| eZ.cons (PLe.refl _ _) <| eZ.cons (PLe.refl _ _) <| eZ.cons (PLe.refl _ _) <| eZ.cons (PLe.refl _ _) <| eZ.cons (PLe.refl _ _) <| eZ.cons (PLe.refl _ _) <| eZ.cons (PLe.valOwn _ _ _ _) <| eZ.nil _)) ?_
 refine aA tk fun b11=>?_
 refine ao tk ?_
 refine ab (ac (aa ?_))
 refine aA tk fun b12=>?_
 refine ab (aw 1 tk rfl (ac (aE (ac ?_))))
 refine cm (γ := Unit) (fun t2 g2=>⟨203,upd (upd (upd (upd (upd (upd (upd (upd (upd (fun _=>.any) 40 (au t2)) 13 (au false)) 12 (.box 12 b12 0)) 11 (.box 11 b11 0)) 10 (.box 10 b10 0)) 6 (.box 6 b6 0)) 4 (.box 4 b4 0)) 3 (.ptr (aD sA))) 2 (ae rule),upd (upd (upd (upd (upd (fun _=>none) 12 (some ⟨b12,[(ae 0),(.str []),(.val (.slice none 0 0)),(.val (.slice none 0 0)),(.val (.slice none 0 0)),(.val (.slice none 0 0)),(ae 0),(ae 0),(.val (.slice none 0 0))]⟩)) 11 (some ⟨b11,[(ae x35.2.kind),(.str x35.2.table),(.list 9 (x35.2.names.map aF)),(.list 94 (x35.2.exprs.map ak)),(.list 91 (x35.2.aggregates.map aQ)),(.list 4 (x35.2.descending.map aP)),(ae x35.2.count),(ae x35.2.offset),(.own 35 g35 (x35.2.inputs.map ap).length)]⟩)) 10 (some ⟨b10,(aD sA)⟩)) 6 (some ⟨b6,[(ae 0),(.str []),(.val (.slice none 0 0)),(.val (.slice none 0 0)),(.val (.slice none 0 0)),(.val (.slice none 0 0)),(ae 0),(ae 0),(.val (.slice none 0 0))]⟩)) 4 (some ⟨b4,[(ae x35.1.kind),(.str x35.1.table),(.list 9 (x35.1.names.map aF)),(.list 94 (x35.1.exprs.map ak)),(.list 91 (x35.1.aggregates.map aQ)),(.list 4 (x35.1.descending.map aP)),(ae x35.1.count),(ae x35.1.offset),(.list 33 [[(ae x35.2.kind),(.str x35.2.table),(.list 9 (x35.2.names.map aF)),(.list 94 (x35.2.exprs.map ak)),(.list 91 (x35.2.aggregates.map aQ)),(.list 4 (x35.2.descending.map aP)),(ae x35.2.count),(ae x35.2.offset),(.val (OwnRef.val g35 (x35.2.inputs.map ap).length))]])]⟩),upd (fun _=>none) 35 (some ⟨g35,33,(x35.2.inputs.map ap),true⟩)⟩) H (fun _ H=>?_) (fun t2 g2 H=>?_)
 ·refine aa (af 3 tk rfl ?_)
  refine aL rfl rfl rfl H (fun H=>?_) (fun H=>?_)
  ·refine af 4 tk rfl ?_
   refine aL rfl rfl rfl H (fun H=>?_) (fun H=>?_)
   ·refine ah tk rfl (al tk ?_)
    refine af 3 tk rfl (ab ?_)
    refine aJ _ () H Gh.d
   refine af 5 tk rfl (ab ?_)
   refine aJ _ () H Gh.d
  refine af 9 tk rfl (ab ?_)
  refine aJ _ () H Gh.d
 refine ci (γ := Unit) (fun t10 g10=>⟨203,upd (upd (upd (upd (fun _=>.any) 13 (au t10.1)) 12 (.box 12 b12 0)) 6 (.box 6 b6 0)) 3 (.ptr (aD sA)),upd (upd (fun _=>none) 12 (some ⟨b12,(am t10.2)⟩)) 6 (some ⟨b6,[(ae 0),(.str []),(.val (.slice none 0 0)),(.val (.slice none 0 0)),(.val (.slice none 0 0)),(.val (.slice none 0 0)),(ae 0),(ae 0),(.val (.slice none 0 0))]⟩),fun _=>none⟩) H (fun _ H=>?_) (fun t10 g10 H=>?_)
 ·refine aN rfl H (fun H=>?_) (fun H=>?_)
  ·refine aa (al tk ?_)
   refine al tk ?_
   refine al tk ?_
   refine ah tk rfl ?_
   obtain ⟨x57,h57,H⟩ := av H
   have s57 := nn g35 (LRewriteRewriter.mk sA) (LQuery.mk x35.1.kind x35.1.table x35.1.names x35.1.exprs x35.1.aggregates x35.1.descending x35.1.count x35.1.offset [x35.2]) x35.2 rule _ h57
   refine hM (g := 31) rfl rfl rfl Tryz.call31 [] [(35,3002)] rfl rfl rfl rfl (eZ.cons (PLe.refl _ _) <| eZ.cons (PLe.agg (eZ.cons (PLe.refl _ _) <| eZ.cons (PLe.refl _ _) <| eZ.cons (PLe.refl _ _) <| eZ.cons (PLe.refl _ _) <| eZ.cons (PLe.refl _ _) <| eZ.cons (PLe.refl _ _) <| eZ.cons (PLe.refl _ _) <| eZ.cons (PLe.refl _ _) <| eZ.cons (PLe.any _ _) <| eZ.nil _)) <| eZ.cons (PLe.agg (eZ.cons (PLe.refl _ _) <| eZ.cons (PLe.refl _ _) <| eZ.cons (PLe.refl _ _) <| eZ.cons (PLe.refl _ _) <| eZ.cons (PLe.refl _ _) <| eZ.cons (PLe.refl _ _) <| eZ.cons (PLe.refl _ _) <| eZ.cons (PLe.refl _ _) <| eZ.cons (PLe.of2 (lW.own rfl)) <| eZ.nil _)) <| eZ.cons (PLe.refl _ _) <| eZ.nil _) (by rw [gD,fI,gC]; rfl) s57 ?_
   rintro u57 H57h ⟨rfl,rfl⟩
   refine ⟨_,rfl,?_⟩
   refine gI (st' := ⟨_,_,upd (upd (upd (upd (upd (fun _=>none) 12 (some ⟨b12,[(ae 0),(.str []),(.val (.slice none 0 0)),(.val (.slice none 0 0)),(.val (.slice none 0 0)),(.val (.slice none 0 0)),(ae 0),(ae 0),(.val (.slice none 0 0))]⟩)) 11 (some ⟨b11,[(ae x35.2.kind),(.str x35.2.table),(.list 9 (x35.2.names.map aF)),(.list 94 (x35.2.exprs.map ak)),(.list 91 (x35.2.aggregates.map aQ)),(.list 4 (x35.2.descending.map aP)),(ae x35.2.count),(ae x35.2.offset),(.own 35 g35 (x35.2.inputs.map ap).length)]⟩)) 10 (some ⟨b10,(aD sA)⟩)) 6 (some ⟨b6,[(ae 0),(.str []),(.val (.slice none 0 0)),(.val (.slice none 0 0)),(.val (.slice none 0 0)),(.val (.slice none 0 0)),(ae 0),(ae 0),(.val (.slice none 0 0))]⟩)) 4 (some ⟨b4,[(ae x35.1.kind),(.str x35.1.table),(.list 9 (x35.1.names.map aF)),(.list 94 (x35.1.exprs.map ak)),(.list 91 (x35.1.aggregates.map aQ)),(.list 4 (x35.1.descending.map aP)),(ae x35.1.count),(ae x35.1.offset),(.list 33 [[(ae x35.2.kind),(.str x35.2.table),(.list 9 (x35.2.names.map aF)),(.list 94 (x35.2.exprs.map ak)),(.list 91 (x35.2.aggregates.map aQ)),(.list 4 (x35.2.descending.map aP)),(ae x35.2.count),(ae x35.2.offset),(.val (OwnRef.val g35 (x35.2.inputs.map ap).length))]])]⟩),fun _=>none⟩) (Gh.le (fF _ _) (aO rfl (eZ.r) (aO rfl (eZ.r) (aO rfl (eZ.r) (aO rfl (eZ.r) (aO rfl (eZ.r) bw))))) bA) ?_
   refine af 3 tk rfl (ao tk ?_)
   refine ah tk rfl (ab ?_)
   refine aJ _ () (az H) Gh.d
  refine ac ?_
  refine ci (γ := Unit) (fun t11 g11=>⟨203,upd (upd (upd (upd (upd (upd (upd (upd (upd (fun _=>.any) 60 (au false)) 13 (au false)) 12 (.box 12 b12 0)) 11 (.box 11 b11 0)) 10 (.box 10 b10 0)) 6 (.box 6 b6 0)) 4 (.box 4 b4 0)) 3 (.ptr (aD sA))) 2 (ae rule),upd (upd (upd (upd (upd (fun _=>none) 12 (some ⟨b12,[(ae 0),(.str []),(.val (.slice none 0 0)),(.val (.slice none 0 0)),(.val (.slice none 0 0)),(.val (.slice none 0 0)),(ae 0),(ae 0),(.val (.slice none 0 0))]⟩)) 11 (some ⟨b11,[(ae x35.2.kind),(.str x35.2.table),(.list 9 (x35.2.names.map aF)),(.list 94 (x35.2.exprs.map ak)),(.list 91 (x35.2.aggregates.map aQ)),(.list 4 (x35.2.descending.map aP)),(ae x35.2.count),(ae x35.2.offset),(.own 35 g35 (x35.2.inputs.map ap).length)]⟩)) 10 (some ⟨b10,(aD sA)⟩)) 6 (some ⟨b6,[(ae 0),(.str []),(.val (.slice none 0 0)),(.val (.slice none 0 0)),(.val (.slice none 0 0)),(.val (.slice none 0 0)),(ae 0),(ae 0),(.val (.slice none 0 0))]⟩)) 4 (some ⟨b4,[(ae x35.1.kind),(.str x35.1.table),(.list 9 (x35.1.names.map aF)),(.list 94 (x35.1.exprs.map ak)),(.list 91 (x35.1.aggregates.map aQ)),(.list 4 (x35.1.descending.map aP)),(ae x35.1.count),(ae x35.1.offset),(.list 33 [[(ae x35.2.kind),(.str x35.2.table),(.list 9 (x35.2.names.map aF)),(.list 94 (x35.2.exprs.map ak)),(.list 91 (x35.2.aggregates.map aQ)),(.list 4 (x35.2.descending.map aP)),(ae x35.2.count),(ae x35.2.offset),(.val (OwnRef.val g35 (x35.2.inputs.map ap).length))]])]⟩),upd (fun _=>none) 35 (some ⟨g35,33,(x35.2.inputs.map ap),true⟩)⟩) H (fun _ H=>?_) (fun t11 g11 H=>?_)
  ·refine aa (af 3 tk rfl ?_)
   refine aL rfl rfl rfl H (fun H=>?_) (fun H=>?_)
   ·cases H
   refine af 5 tk rfl (ab ?_)
   refine aJ _ () (az H) Gh.d
  refine bW rfl (ac ?_)
  refine ci (γ := Unit) (fun t12 g12=>⟨203,upd (upd (upd (upd (upd (upd (upd (upd (upd (fun _=>.any) 73 (au false)) 13 (au false)) 12 (.box 12 b12 0)) 11 (.box 11 b11 0)) 10 (.box 10 b10 0)) 6 (.box 6 b6 0)) 4 (.box 4 b4 0)) 3 (.ptr (aD sA))) 2 (ae rule),upd (upd (upd (upd (upd (fun _=>none) 12 (some ⟨b12,[(ae 0),(.str []),(.val (.slice none 0 0)),(.val (.slice none 0 0)),(.val (.slice none 0 0)),(.val (.slice none 0 0)),(ae 0),(ae 0),(.val (.slice none 0 0))]⟩)) 11 (some ⟨b11,[(ae x35.2.kind),(.str x35.2.table),(.list 9 (x35.2.names.map aF)),(.list 94 (x35.2.exprs.map ak)),(.list 91 (x35.2.aggregates.map aQ)),(.list 4 (x35.2.descending.map aP)),(ae x35.2.count),(ae x35.2.offset),(.own 35 g35 (x35.2.inputs.map ap).length)]⟩)) 10 (some ⟨b10,(aD sA)⟩)) 6 (some ⟨b6,[(ae 0),(.str []),(.val (.slice none 0 0)),(.val (.slice none 0 0)),(.val (.slice none 0 0)),(.val (.slice none 0 0)),(ae 0),(ae 0),(.val (.slice none 0 0))]⟩)) 4 (some ⟨b4,[(ae x35.1.kind),(.str x35.1.table),(.list 9 (x35.1.names.map aF)),(.list 94 (x35.1.exprs.map ak)),(.list 91 (x35.1.aggregates.map aQ)),(.list 4 (x35.1.descending.map aP)),(ae x35.1.count),(ae x35.1.offset),(.list 33 [[(ae x35.2.kind),(.str x35.2.table),(.list 9 (x35.2.names.map aF)),(.list 94 (x35.2.exprs.map ak)),(.list 91 (x35.2.aggregates.map aQ)),(.list 4 (x35.2.descending.map aP)),(ae x35.2.count),(ae x35.2.offset),(.val (OwnRef.val g35 (x35.2.inputs.map ap).length))]])]⟩),upd (fun _=>none) 35 (some ⟨g35,33,(x35.2.inputs.map ap),true⟩)⟩) H (fun _ H=>?_) (fun t12 g12 H=>?_)
  ·refine aa (af 3 tk rfl ?_)
   refine aL rfl rfl rfl H (fun H=>?_) (fun H=>?_)
   ·cases H
   refine af 5 tk rfl (ab ?_)
   refine aJ _ () (az H) Gh.d
  refine bW rfl (ac ?_)
  refine ci (γ := Unit) (fun t13 g13=>⟨203,upd (upd (upd (upd (upd (upd (upd (upd (upd (fun _=>.any) 84 (au false)) 13 (au false)) 12 (.box 12 b12 0)) 11 (.box 11 b11 0)) 10 (.box 10 b10 0)) 6 (.box 6 b6 0)) 4 (.box 4 b4 0)) 3 (.ptr (aD sA))) 2 (ae rule),upd (upd (upd (upd (upd (fun _=>none) 12 (some ⟨b12,[(ae 0),(.str []),(.val (.slice none 0 0)),(.val (.slice none 0 0)),(.val (.slice none 0 0)),(.val (.slice none 0 0)),(ae 0),(ae 0),(.val (.slice none 0 0))]⟩)) 11 (some ⟨b11,[(ae x35.2.kind),(.str x35.2.table),(.list 9 (x35.2.names.map aF)),(.list 94 (x35.2.exprs.map ak)),(.list 91 (x35.2.aggregates.map aQ)),(.list 4 (x35.2.descending.map aP)),(ae x35.2.count),(ae x35.2.offset),(.own 35 g35 (x35.2.inputs.map ap).length)]⟩)) 10 (some ⟨b10,(aD sA)⟩)) 6 (some ⟨b6,[(ae 0),(.str []),(.val (.slice none 0 0)),(.val (.slice none 0 0)),(.val (.slice none 0 0)),(.val (.slice none 0 0)),(ae 0),(ae 0),(.val (.slice none 0 0))]⟩)) 4 (some ⟨b4,[(ae x35.1.kind),(.str x35.1.table),(.list 9 (x35.1.names.map aF)),(.list 94 (x35.1.exprs.map ak)),(.list 91 (x35.1.aggregates.map aQ)),(.list 4 (x35.1.descending.map aP)),(ae x35.1.count),(ae x35.1.offset),(.list 33 [[(ae x35.2.kind),(.str x35.2.table),(.list 9 (x35.2.names.map aF)),(.list 94 (x35.2.exprs.map ak)),(.list 91 (x35.2.aggregates.map aQ)),(.list 4 (x35.2.descending.map aP)),(ae x35.2.count),(ae x35.2.offset),(.val (OwnRef.val g35 (x35.2.inputs.map ap).length))]])]⟩),upd (fun _=>none) 35 (some ⟨g35,33,(x35.2.inputs.map ap),true⟩)⟩) H (fun _ H=>?_) (fun t13 g13 H=>?_)
  ·refine aa (af 3 tk rfl ?_)
   refine aL rfl rfl rfl H (fun H=>?_) (fun H=>?_)
   ·cases H
   refine af 10 tk rfl (ab ?_)
   refine aJ _ () (az H) Gh.d
  refine bW rfl (ac ?_)
  refine ci (γ := Unit) (fun t14 g14=>⟨203,upd (upd (upd (upd (upd (upd (upd (upd (fun _=>.any) 104 (au false)) 13 (au false)) 12 (.box 12 b12 0)) 11 (.box 11 b11 0)) 6 (.box 6 b6 0)) 4 (.box 4 b4 0)) 3 (.ptr (aD sA))) 2 (ae rule),upd (upd (upd (upd (fun _=>none) 12 (some ⟨b12,[(ae 0),(.str []),(.val (.slice none 0 0)),(.val (.slice none 0 0)),(.val (.slice none 0 0)),(.val (.slice none 0 0)),(ae 0),(ae 0),(.val (.slice none 0 0))]⟩)) 11 (some ⟨b11,[(ae x35.2.kind),(.str x35.2.table),(.list 9 (x35.2.names.map aF)),(.list 94 (x35.2.exprs.map ak)),(.list 91 (x35.2.aggregates.map aQ)),(.list 4 (x35.2.descending.map aP)),(ae x35.2.count),(ae x35.2.offset),(.own 35 g35 (x35.2.inputs.map ap).length)]⟩)) 6 (some ⟨b6,[(ae 0),(.str []),(.val (.slice none 0 0)),(.val (.slice none 0 0)),(.val (.slice none 0 0)),(.val (.slice none 0 0)),(ae 0),(ae 0),(.val (.slice none 0 0))]⟩)) 4 (some ⟨b4,[(ae x35.1.kind),(.str x35.1.table),(.list 9 (x35.1.names.map aF)),(.list 94 (x35.1.exprs.map ak)),(.list 91 (x35.1.aggregates.map aQ)),(.list 4 (x35.1.descending.map aP)),(ae x35.1.count),(ae x35.1.offset),(.list 33 [[(ae x35.2.kind),(.str x35.2.table),(.list 9 (x35.2.names.map aF)),(.list 94 (x35.2.exprs.map ak)),(.list 91 (x35.2.aggregates.map aQ)),(.list 4 (x35.2.descending.map aP)),(ae x35.2.count),(ae x35.2.offset),(.val (OwnRef.val g35 (x35.2.inputs.map ap).length))]])]⟩),upd (fun _=>none) 35 (some ⟨g35,33,(x35.2.inputs.map ap),true⟩)⟩) H (fun _ H=>?_) (fun t14 g14 H=>?_)
  ·refine aa (af 3 tk rfl ?_)
   refine aL rfl rfl rfl H (fun H=>?_) (fun H=>?_)
   ·cases H
   refine af 10 tk rfl (ab ?_)
   refine aJ _ () (az H) Gh.d
  refine bW rfl (ac ?_)
  refine ci (γ := Unit) (fun t15 g15=>⟨203,upd (upd (upd (upd (upd (upd (upd (upd (fun _=>.any) 120 (au false)) 13 (au false)) 12 (.box 12 b12 0)) 11 (.box 11 b11 0)) 6 (.box 6 b6 0)) 4 (.box 4 b4 0)) 3 (.ptr (aD sA))) 2 (ae rule),upd (upd (upd (upd (fun _=>none) 12 (some ⟨b12,[(ae 0),(.str []),(.val (.slice none 0 0)),(.val (.slice none 0 0)),(.val (.slice none 0 0)),(.val (.slice none 0 0)),(ae 0),(ae 0),(.val (.slice none 0 0))]⟩)) 11 (some ⟨b11,[(ae x35.2.kind),(.str x35.2.table),(.list 9 (x35.2.names.map aF)),(.list 94 (x35.2.exprs.map ak)),(.list 91 (x35.2.aggregates.map aQ)),(.list 4 (x35.2.descending.map aP)),(ae x35.2.count),(ae x35.2.offset),(.own 35 g35 (x35.2.inputs.map ap).length)]⟩)) 6 (some ⟨b6,[(ae 0),(.str []),(.val (.slice none 0 0)),(.val (.slice none 0 0)),(.val (.slice none 0 0)),(.val (.slice none 0 0)),(ae 0),(ae 0),(.val (.slice none 0 0))]⟩)) 4 (some ⟨b4,[(ae x35.1.kind),(.str x35.1.table),(.list 9 (x35.1.names.map aF)),(.list 94 (x35.1.exprs.map ak)),(.list 91 (x35.1.aggregates.map aQ)),(.list 4 (x35.1.descending.map aP)),(ae x35.1.count),(ae x35.1.offset),(.list 33 [[(ae x35.2.kind),(.str x35.2.table),(.list 9 (x35.2.names.map aF)),(.list 94 (x35.2.exprs.map ak)),(.list 91 (x35.2.aggregates.map aQ)),(.list 4 (x35.2.descending.map aP)),(ae x35.2.count),(ae x35.2.offset),(.val (OwnRef.val g35 (x35.2.inputs.map ap).length))]])]⟩),upd (fun _=>none) 35 (some ⟨g35,33,(x35.2.inputs.map ap),true⟩)⟩) H (fun _ H=>?_) (fun t15 g15 H=>?_)
  ·refine aa (af 3 tk rfl ?_)
   refine aL rfl rfl rfl H (fun H=>?_) (fun H=>?_)
   ·cases H
   refine af 10 tk rfl (ab ?_)
   refine aJ _ () (az H) Gh.d
  refine bW rfl (ac ?_)
  refine ci (γ := Unit) (fun t16 g16=>⟨203,upd (upd (upd (upd (upd (upd (upd (upd (fun _=>.any) 150 (au false)) 13 (au false)) 12 (.box 12 b12 0)) 11 (.box 11 b11 0)) 6 (.box 6 b6 0)) 4 (.box 4 b4 0)) 3 (.ptr (aD sA))) 2 (ae rule),upd (upd (upd (upd (fun _=>none) 12 (some ⟨b12,[(ae 0),(.str []),(.val (.slice none 0 0)),(.val (.slice none 0 0)),(.val (.slice none 0 0)),(.val (.slice none 0 0)),(ae 0),(ae 0),(.val (.slice none 0 0))]⟩)) 11 (some ⟨b11,[(ae x35.2.kind),(.str x35.2.table),(.list 9 (x35.2.names.map aF)),(.list 94 (x35.2.exprs.map ak)),(.list 91 (x35.2.aggregates.map aQ)),(.list 4 (x35.2.descending.map aP)),(ae x35.2.count),(ae x35.2.offset),(.own 35 g35 (x35.2.inputs.map ap).length)]⟩)) 6 (some ⟨b6,[(ae 0),(.str []),(.val (.slice none 0 0)),(.val (.slice none 0 0)),(.val (.slice none 0 0)),(.val (.slice none 0 0)),(ae 0),(ae 0),(.val (.slice none 0 0))]⟩)) 4 (some ⟨b4,[(ae x35.1.kind),(.str x35.1.table),(.list 9 (x35.1.names.map aF)),(.list 94 (x35.1.exprs.map ak)),(.list 91 (x35.1.aggregates.map aQ)),(.list 4 (x35.1.descending.map aP)),(ae x35.1.count),(ae x35.1.offset),(.list 33 [[(ae x35.2.kind),(.str x35.2.table),(.list 9 (x35.2.names.map aF)),(.list 94 (x35.2.exprs.map ak)),(.list 91 (x35.2.aggregates.map aQ)),(.list 4 (x35.2.descending.map aP)),(ae x35.2.count),(ae x35.2.offset),(.val (OwnRef.val g35 (x35.2.inputs.map ap).length))]])]⟩),upd (fun _=>none) 35 (some ⟨g35,33,(x35.2.inputs.map ap),true⟩)⟩) H (fun _ H=>?_) (fun t16 g16 H=>?_)
  ·refine aa (af 3 tk rfl ?_)
   refine aL rfl rfl rfl H (fun H=>?_) (fun H=>?_)
   ·cases H
   refine af 10 tk rfl (ab ?_)
   refine aJ _ () (az H) Gh.d
  refine bW rfl (ac ?_)
  refine ci (γ := Unit) (fun t17 g17=>⟨203,upd (upd (upd (upd (upd (upd (upd (fun _=>.any) 169 (au false)) 13 (au false)) 12 (.box 12 b12 0)) 11 (.box 11 b11 0)) 6 (.box 6 b6 0)) 4 (.box 4 b4 0)) 3 (.ptr (aD sA)),upd (upd (upd (upd (fun _=>none) 12 (some ⟨b12,[(ae 0),(.str []),(.val (.slice none 0 0)),(.val (.slice none 0 0)),(.val (.slice none 0 0)),(.val (.slice none 0 0)),(ae 0),(ae 0),(.val (.slice none 0 0))]⟩)) 11 (some ⟨b11,[(ae x35.2.kind),(.str x35.2.table),(.list 9 (x35.2.names.map aF)),(.list 94 (x35.2.exprs.map ak)),(.list 91 (x35.2.aggregates.map aQ)),(.list 4 (x35.2.descending.map aP)),(ae x35.2.count),(ae x35.2.offset),(.own 35 g35 (x35.2.inputs.map ap).length)]⟩)) 6 (some ⟨b6,[(ae 0),(.str []),(.val (.slice none 0 0)),(.val (.slice none 0 0)),(.val (.slice none 0 0)),(.val (.slice none 0 0)),(ae 0),(ae 0),(.val (.slice none 0 0))]⟩)) 4 (some ⟨b4,[(ae x35.1.kind),(.str x35.1.table),(.list 9 (x35.1.names.map aF)),(.list 94 (x35.1.exprs.map ak)),(.list 91 (x35.1.aggregates.map aQ)),(.list 4 (x35.1.descending.map aP)),(ae x35.1.count),(ae x35.1.offset),(.list 33 [[(ae x35.2.kind),(.str x35.2.table),(.list 9 (x35.2.names.map aF)),(.list 94 (x35.2.exprs.map ak)),(.list 91 (x35.2.aggregates.map aQ)),(.list 4 (x35.2.descending.map aP)),(ae x35.2.count),(ae x35.2.offset),(.val (OwnRef.val g35 (x35.2.inputs.map ap).length))]])]⟩),upd (fun _=>none) 35 (some ⟨g35,33,(x35.2.inputs.map ap),true⟩)⟩) H (fun _ H=>?_) (fun t17 g17 H=>?_)
  ·refine aa (af 3 tk rfl ?_)
   refine aL rfl rfl rfl H (fun H=>?_) (fun H=>?_)
   ·cases H
   refine af 10 tk rfl (ab ?_)
   refine aJ _ () (az H) Gh.d
  refine bW rfl (ax ?_)
  refine aJ _ () (az H) (Gh.le (aM (aM (aM (aM bU)))) (aO rfl (eZ.r) (aO rfl (eZ.of2 (gk.cons (lW.of_eq rfl) (gk.cons (lW.of_eq rfl) (gk.cons (lW.nil tk rfl) (gk.cons (lW.nil tk rfl) (gk.cons (lW.nil tk rfl) (gk.cons (lW.nil tk rfl) (gk.cons (lW.of_eq rfl) (gk.cons (lW.of_eq rfl) (gk.cons (lW.nil tk rfl) gk.nil)))))))))) bw)) bA)
 refine aW (ac (aw 2 tk rfl ?_))
 refine aN rfl H (fun H=>?_) (fun H=>?_)
 ·refine ac (aa (ah tk rfl (ao tk ?_)))
  refine ah tk rfl (ab ?_)
  obtain rfl := az H
  refine bd tk rfl (ps := [(.agg [(ae 0),(.str []),(.val (.slice none 0 0)),(.val (.slice none 0 0)),(.val (.slice none 0 0)),(.val (.slice none 0 0)),(ae 0),(ae 0),(.val (.slice none 0 0))]),(au false)]) ⟨_,_,rfl,⟨_,_,_,_,_,rfl,rfl,rfl,rfl⟩,_,_,rfl,rfl,rfl⟩ (PLe.of2 (lW.tup (gk.cons (lW.agg (gk.cons (lW.of_eq rfl) (gk.cons (lW.of_eq rfl) (gk.cons (lW.nil tk rfl) (gk.cons (lW.nil tk rfl) (gk.cons (lW.nil tk rfl) (gk.cons (lW.nil tk rfl) (gk.cons (lW.of_eq rfl) (gk.cons (lW.of_eq rfl) (gk.cons (lW.nil tk rfl) gk.nil)))))))))) (gk.cons (lW.of_eq rfl) gk.nil))))
 refine ax (ac (aa (ah tk rfl (al tk ?_))))
 obtain ⟨x196,h196,H⟩ := av H
 have s196 := dG sA t10.2 _ h196
 refine aq Tryz.call24 (eZ.r) s196 ?_
 refine af 5 tk rfl (ab (ac (aw 2 tk rfl ?_)))
 refine aN rfl H (fun H=>?_) (fun H=>?_)
 ·refine ac (aa (ah tk rfl (ao tk ?_)))
  refine ah tk rfl (ab ?_)
  obtain rfl := az H
  refine bd tk rfl (ps := [(.agg [(ae 0),(.str []),(.val (.slice none 0 0)),(.val (.slice none 0 0)),(.val (.slice none 0 0)),(.val (.slice none 0 0)),(ae 0),(ae 0),(.val (.slice none 0 0))]),(au false)]) ⟨_,_,rfl,⟨_,_,_,_,_,rfl,rfl,rfl,rfl⟩,_,_,rfl,rfl,rfl⟩ (PLe.of2 (lW.tup (gk.cons (lW.agg (gk.cons (lW.of_eq rfl) (gk.cons (lW.of_eq rfl) (gk.cons (lW.nil tk rfl) (gk.cons (lW.nil tk rfl) (gk.cons (lW.nil tk rfl) (gk.cons (lW.nil tk rfl) (gk.cons (lW.of_eq rfl) (gk.cons (lW.of_eq rfl) (gk.cons (lW.nil tk rfl) gk.nil)))))))))) (gk.cons (lW.of_eq rfl) gk.nil))))
 refine ax (ac (aa (al tk ?_)))
 refine ao tk ?_
 refine ah tk rfl (ab ?_)
 obtain rfl := az H
 refine bd tk rfl (ps := [(.agg (am t10.2)),(au true)]) ⟨_,_,rfl,⟨_,_,_,_,_,rfl,rfl,rfl,rfl⟩,_,_,rfl,rfl,rfl⟩ (PLe.q rfl)
def dE (sA : LSchema) (q : LQuery) (rule : Int) : Option (LQuery × Bool) :=
 ag (bI sA q) fun x21 =>
 bs (
  cond (x21.2 != (0 : Int))
   (true)
   ((q.kind == (1 : Int)))) fun (t1 : Bool) =>
 cond t1
  (some ((LQuery.mk 0 [] [] [] [] [] 0 0 []),false))
  (ag (eR q) fun x35 =>
  ag (aR x35.inputs (0 : Int)) fun (_ : LQuery) =>
  bs (
   cond (decide (rule ≥ (1 : Int)))
    (cond (decide (rule ≤ (9 : Int)))
     ((x35.kind == (2 : Int)))
     (false))
    (false)) fun (t2 : Bool) =>
  ag (
   cond t2
    (none)
    (bs (
     cond (rule == (10 : Int))
      ((x35.kind == (4 : Int)))
      (false)) fun (t11 : Bool) =>
    cond t11
     (ag (du x35) fun x70 =>
     some (x70.2,x70.1))
     (ag (
      cond (rule == (11 : Int))
       (none)
       (some ())) fun (_ : Unit) =>
     ag (
      cond (rule == (12 : Int))
       (none)
       (some ())) fun (_ : Unit) =>
     ag (
      cond (rule == (13 : Int))
       (none)
       (some ())) fun (_ : Unit) =>
     ag (
      cond (rule == (14 : Int))
       (none)
       (some ())) fun (_ : Unit) =>
     ag (
      cond (rule == (15 : Int))
       (none)
       (some ())) fun (_ : Unit) =>
     ag (
      cond (rule == (16 : Int))
       (none)
       (some ())) fun (_ : Unit) =>
     some (false,(LQuery.mk 0 [] [] [] [] [] 0 0 []))))) fun (t10 : Bool × LQuery) =>
  cond (!t10.1)
   (some ((LQuery.mk 0 [] [] [] [] [] 0 0 []),false))
   (ag (bI sA t10.2) fun x196 =>
   cond (x196.2 != (0 : Int))
    (some ((LQuery.mk 0 [] [] [] [] [] 0 0 []),false))
    (some (t10.2,true))))
theorem qx (sA : LSchema) (q : LQuery) (rule : Int) (r : LQuery × Bool) (H : dE sA q rule = some r) :
  aU Tryz.prog 15 [(.agg (aD sA)),(.agg (am q)),(ae rule)] (.tup [(.agg (am r.1)),(au r.2)]) := by
 unfold dE at H
 refine PH.ay Tryz.func15 Tryz.ntmps15 ?_
 refine ac (aa (aG ?_))
 refine iR (d := 4) fun b4=>?_
 refine aA tk fun b6=>?_
 refine ah tk rfl (ab (ac (ac (aa (ah tk rfl (al tk ?_))))))
 obtain ⟨x21,h21,H⟩ := av H
 have s21 := dG sA q _ h21
 refine aq Tryz.call24 (eZ.r) s21 ?_
 refine af 5 tk rfl (ab (ac ?_))
 refine cm (γ := Unit) (fun t1 g1=>⟨203,upd (upd (upd (upd (upd (fun _=>.any) 30 (au t1)) 6 (.box 6 b6 0)) 4 (.box 4 b4 0)) 3 (.ptr (aD sA))) 2 (ae rule),upd (upd (fun _=>none) 6 (some ⟨b6,[(ae 0),(.str []),(.val (.slice none 0 0)),(.val (.slice none 0 0)),(.val (.slice none 0 0)),(.val (.slice none 0 0)),(ae 0),(ae 0),(.val (.slice none 0 0))]⟩)) 4 (some ⟨b4,(am q)⟩),fun _=>none⟩) H (fun _ H=>?_) (fun t1 g1 H=>?_)
 ·refine aa (af 3 tk rfl ?_)
  refine aL rfl rfl rfl H (fun H=>?_) (fun H=>?_)
  ·refine af 4 tk rfl (ab ?_)
   refine aJ _ () H Gh.d
  refine ah tk rfl (al tk ?_)
  refine af 2 tk rfl (ab ?_)
  refine aJ _ () H Gh.d
 refine aN rfl H (fun H=>?_) (fun H=>?_)
 ·refine ac (aa (ah tk rfl (ao tk ?_)))
  refine ah tk rfl (ab ?_)
  obtain rfl := az H
  refine bd tk rfl (ps := [(.agg [(ae 0),(.str []),(.val (.slice none 0 0)),(.val (.slice none 0 0)),(.val (.slice none 0 0)),(.val (.slice none 0 0)),(ae 0),(ae 0),(.val (.slice none 0 0))]),(au false)]) ⟨_,_,rfl,⟨_,_,_,_,_,rfl,rfl,rfl,rfl⟩,_,_,rfl,rfl,rfl⟩ (PLe.of2 (lW.tup (gk.cons (lW.agg (gk.cons (lW.of_eq rfl) (gk.cons (lW.of_eq rfl) (gk.cons (lW.nil tk rfl) (gk.cons (lW.nil tk rfl) (gk.cons (lW.nil tk rfl) (gk.cons (lW.nil tk rfl) (gk.cons (lW.of_eq rfl) (gk.cons (lW.of_eq rfl) (gk.cons (lW.nil tk rfl) gk.nil)))))))))) (gk.cons (lW.of_eq rfl) gk.nil))))
 refine ax (ac (aa (af 2 tk rfl ?_)))
 refine aA tk fun b10=>?_
 refine ao tk ?_
 refine ab (ac (aa (al tk ?_)))
 obtain ⟨x35,h35,H⟩ := av H
 have s35 := jr (m := 35) q _ h35
 refine lS (g := 30) rfl rfl rfl Tryz.call30 (eZ.r) rfl rfl s35 (fun g35=>?_)
 refine ao tk ?_
 refine ab (ac (aa (ah tk rfl (al tk ?_))))
 obtain ⟨x38,k38,H⟩ := bB H
 refine ll (tag := 35) rfl (fun ho35=>?_)
 refine lm tk rfl rfl rfl rfl rfl rfl rfl ⟨k38.1,(dZ k38.2)⟩ (ed ho35 k38.2) rfl (oL tk rfl rfl rfl rfl rfl rfl rfl (aV aH k38.2) rfl rfl ?_)
 refine aA tk fun b11=>?_
 refine ao tk ?_
 refine ab (ac (aa ?_))
 refine aA tk fun b12=>?_
 refine ab (aw 1 tk rfl (ac (aE (ac ?_))))
 refine cm (γ := Unit) (fun t2 g2=>⟨203,upd (upd (upd (upd (upd (upd (upd (upd (upd (fun _=>.any) 40 (au t2)) 13 (au false)) 12 (.box 12 b12 0)) 11 (.box 11 b11 0)) 10 (.box 10 b10 0)) 6 (.box 6 b6 0)) 4 (.box 4 b4 0)) 3 (.ptr (aD sA))) 2 (ae rule),upd (upd (upd (upd (upd (fun _=>none) 12 (some ⟨b12,[(ae 0),(.str []),(.val (.slice none 0 0)),(.val (.slice none 0 0)),(.val (.slice none 0 0)),(.val (.slice none 0 0)),(ae 0),(ae 0),(.val (.slice none 0 0))]⟩)) 11 (some ⟨b11,(am x38)⟩)) 10 (some ⟨b10,(aD sA)⟩)) 6 (some ⟨b6,[(ae 0),(.str []),(.val (.slice none 0 0)),(.val (.slice none 0 0)),(.val (.slice none 0 0)),(.val (.slice none 0 0)),(ae 0),(ae 0),(.val (.slice none 0 0))]⟩)) 4 (some ⟨b4,[(ae x35.kind),(.str x35.table),(.list 9 (x35.names.map aF)),(.list 94 (x35.exprs.map ak)),(.list 91 (x35.aggregates.map aQ)),(.list 4 (x35.descending.map aP)),(ae x35.count),(ae x35.offset),(.own 35 g35 (x35.inputs.map ap).length)]⟩),upd (fun _=>none) 35 (some ⟨g35,33,(x35.inputs.map ap),true⟩)⟩) H (fun _ H=>?_) (fun t2 g2 H=>?_)
 ·refine aa (af 3 tk rfl ?_)
  refine aL rfl rfl rfl H (fun H=>?_) (fun H=>?_)
  ·refine af 4 tk rfl ?_
   refine aL rfl rfl rfl H (fun H=>?_) (fun H=>?_)
   ·refine ah tk rfl (al tk ?_)
    refine af 3 tk rfl (ab ?_)
    refine aJ _ () H Gh.d
   refine af 5 tk rfl (ab ?_)
   refine aJ _ () H Gh.d
  refine af 9 tk rfl (ab ?_)
  refine aJ _ () H Gh.d
 refine ci (γ := Unit) (fun t10 g10=>⟨203,upd (upd (upd (upd (fun _=>.any) 13 (au t10.1)) 12 (.box 12 b12 0)) 6 (.box 6 b6 0)) 3 (.ptr (aD sA)),upd (upd (fun _=>none) 12 (some ⟨b12,(am t10.2)⟩)) 6 (some ⟨b6,[(ae 0),(.str []),(.val (.slice none 0 0)),(.val (.slice none 0 0)),(.val (.slice none 0 0)),(.val (.slice none 0 0)),(ae 0),(ae 0),(.val (.slice none 0 0))]⟩),fun _=>none⟩) H (fun _ H=>?_) (fun t10 g10 H=>?_)
 ·refine aN rfl H (fun H=>?_) (fun H=>?_)
  ·refine bD 4 8 rfl rfl rfl rfl rfl (aa (al tk ?_))
   refine al tk ?_
   refine al tk ?_
   refine ah tk rfl ?_
   cases H
  refine ac ?_
  refine cm (γ := Unit) (fun t11 g11=>⟨203,upd (upd (upd (upd (upd (upd (upd (upd (upd (fun _=>.any) 60 (au t11)) 13 (au false)) 12 (.box 12 b12 0)) 11 (.box 11 b11 0)) 10 (.box 10 b10 0)) 6 (.box 6 b6 0)) 4 (.box 4 b4 0)) 3 (.ptr (aD sA))) 2 (ae rule),upd (upd (upd (upd (upd (fun _=>none) 12 (some ⟨b12,[(ae 0),(.str []),(.val (.slice none 0 0)),(.val (.slice none 0 0)),(.val (.slice none 0 0)),(.val (.slice none 0 0)),(ae 0),(ae 0),(.val (.slice none 0 0))]⟩)) 11 (some ⟨b11,(am x38)⟩)) 10 (some ⟨b10,(aD sA)⟩)) 6 (some ⟨b6,[(ae 0),(.str []),(.val (.slice none 0 0)),(.val (.slice none 0 0)),(.val (.slice none 0 0)),(.val (.slice none 0 0)),(ae 0),(ae 0),(.val (.slice none 0 0))]⟩)) 4 (some ⟨b4,[(ae x35.kind),(.str x35.table),(.list 9 (x35.names.map aF)),(.list 94 (x35.exprs.map ak)),(.list 91 (x35.aggregates.map aQ)),(.list 4 (x35.descending.map aP)),(ae x35.count),(ae x35.offset),(.own 35 g35 (x35.inputs.map ap).length)]⟩),upd (fun _=>none) 35 (some ⟨g35,33,(x35.inputs.map ap),true⟩)⟩) H (fun _ H=>?_) (fun t11 g11 H=>?_)
  ·refine aa (af 3 tk rfl ?_)
   refine aL rfl rfl rfl H (fun H=>?_) (fun H=>?_)
   ·refine ah tk rfl (al tk ?_)
    refine af 3 tk rfl (ab ?_)
    refine aJ _ () H Gh.d
   refine af 5 tk rfl (ab ?_)
   refine aJ _ () H Gh.d
  refine aN rfl H (fun H=>?_) (fun H=>?_)
  ·refine aa (al tk ?_)
   obtain ⟨x70,h70,H⟩ := av H
   have s70 := kR g35 x35 _ h70
   refine hM (g := 32) rfl rfl rfl Tryz.call32 [] [(35,3000)] rfl rfl rfl rfl (eZ.cons (PLe.agg (eZ.cons (PLe.refl _ _) <| eZ.cons (PLe.refl _ _) <| eZ.cons (PLe.refl _ _) <| eZ.cons (PLe.refl _ _) <| eZ.cons (PLe.refl _ _) <| eZ.cons (PLe.refl _ _) <| eZ.cons (PLe.refl _ _) <| eZ.cons (PLe.refl _ _) <| eZ.cons (PLe.of2 (lW.own rfl)) <| eZ.nil _)) <| eZ.nil _) (by rw [gD,fI,gC]; rfl) s70 ?_
   rintro u70 H70h ⟨rfl,rfl⟩
   refine ⟨_,rfl,?_⟩
   refine gI (st' := ⟨_,_,upd (upd (upd (upd (upd (fun _=>none) 12 (some ⟨b12,[(ae 0),(.str []),(.val (.slice none 0 0)),(.val (.slice none 0 0)),(.val (.slice none 0 0)),(.val (.slice none 0 0)),(ae 0),(ae 0),(.val (.slice none 0 0))]⟩)) 11 (some ⟨b11,(am x38)⟩)) 10 (some ⟨b10,(aD sA)⟩)) 6 (some ⟨b6,[(ae 0),(.str []),(.val (.slice none 0 0)),(.val (.slice none 0 0)),(.val (.slice none 0 0)),(.val (.slice none 0 0)),(ae 0),(ae 0),(.val (.slice none 0 0))]⟩)) 4 (some ⟨b4,[(ae x35.kind),(.str x35.table),(.list 9 (x35.names.map aF)),(.list 94 (x35.exprs.map ak)),(.list 91 (x35.aggregates.map aQ)),(.list 4 (x35.descending.map aP)),(ae x35.count),(ae x35.offset),(.own 35 g35 (x35.inputs.map ap).length)]⟩),fun _=>none⟩) (Gh.le (fF _ _) (aO rfl (eZ.r) (aO rfl (eZ.r) (aO rfl (eZ.r) (aO rfl (eZ.r) (aO rfl (eZ.r) bw))))) bA) ?_
   refine af 3 tk rfl (ao tk ?_)
   refine ah tk rfl (ab ?_)
   refine aJ _ () (az H) Gh.d
  refine ac ?_
  refine ci (γ := Unit) (fun t12 g12=>⟨203,upd (upd (upd (upd (upd (upd (upd (upd (upd (fun _=>.any) 73 (au false)) 13 (au false)) 12 (.box 12 b12 0)) 11 (.box 11 b11 0)) 10 (.box 10 b10 0)) 6 (.box 6 b6 0)) 4 (.box 4 b4 0)) 3 (.ptr (aD sA))) 2 (ae rule),upd (upd (upd (upd (upd (fun _=>none) 12 (some ⟨b12,[(ae 0),(.str []),(.val (.slice none 0 0)),(.val (.slice none 0 0)),(.val (.slice none 0 0)),(.val (.slice none 0 0)),(ae 0),(ae 0),(.val (.slice none 0 0))]⟩)) 11 (some ⟨b11,(am x38)⟩)) 10 (some ⟨b10,(aD sA)⟩)) 6 (some ⟨b6,[(ae 0),(.str []),(.val (.slice none 0 0)),(.val (.slice none 0 0)),(.val (.slice none 0 0)),(.val (.slice none 0 0)),(ae 0),(ae 0),(.val (.slice none 0 0))]⟩)) 4 (some ⟨b4,[(ae x35.kind),(.str x35.table),(.list 9 (x35.names.map aF)),(.list 94 (x35.exprs.map ak)),(.list 91 (x35.aggregates.map aQ)),(.list 4 (x35.descending.map aP)),(ae x35.count),(ae x35.offset),(.own 35 g35 (x35.inputs.map ap).length)]⟩),upd (fun _=>none) 35 (some ⟨g35,33,(x35.inputs.map ap),true⟩)⟩) H (fun _ H=>?_) (fun t12 g12 H=>?_)
  ·refine aa (af 3 tk rfl ?_)
   refine aL rfl rfl rfl H (fun H=>?_) (fun H=>?_)
   ·cases H
   refine af 5 tk rfl (ab ?_)
   refine aJ _ () (az H) Gh.d
  refine bW rfl (ac ?_)
  refine ci (γ := Unit) (fun t13 g13=>⟨203,upd (upd (upd (upd (upd (upd (upd (upd (upd (fun _=>.any) 84 (au false)) 13 (au false)) 12 (.box 12 b12 0)) 11 (.box 11 b11 0)) 10 (.box 10 b10 0)) 6 (.box 6 b6 0)) 4 (.box 4 b4 0)) 3 (.ptr (aD sA))) 2 (ae rule),upd (upd (upd (upd (upd (fun _=>none) 12 (some ⟨b12,[(ae 0),(.str []),(.val (.slice none 0 0)),(.val (.slice none 0 0)),(.val (.slice none 0 0)),(.val (.slice none 0 0)),(ae 0),(ae 0),(.val (.slice none 0 0))]⟩)) 11 (some ⟨b11,(am x38)⟩)) 10 (some ⟨b10,(aD sA)⟩)) 6 (some ⟨b6,[(ae 0),(.str []),(.val (.slice none 0 0)),(.val (.slice none 0 0)),(.val (.slice none 0 0)),(.val (.slice none 0 0)),(ae 0),(ae 0),(.val (.slice none 0 0))]⟩)) 4 (some ⟨b4,[(ae x35.kind),(.str x35.table),(.list 9 (x35.names.map aF)),(.list 94 (x35.exprs.map ak)),(.list 91 (x35.aggregates.map aQ)),(.list 4 (x35.descending.map aP)),(ae x35.count),(ae x35.offset),(.own 35 g35 (x35.inputs.map ap).length)]⟩),upd (fun _=>none) 35 (some ⟨g35,33,(x35.inputs.map ap),true⟩)⟩) H (fun _ H=>?_) (fun t13 g13 H=>?_)
  ·refine aa (af 3 tk rfl ?_)
   refine aL rfl rfl rfl H (fun H=>?_) (fun H=>?_)
   ·cases H
   refine af 10 tk rfl (ab ?_)
   refine aJ _ () (az H) Gh.d
  refine bW rfl (ac ?_)
  refine ci (γ := Unit) (fun t14 g14=>⟨203,upd (upd (upd (upd (upd (upd (upd (upd (fun _=>.any) 104 (au false)) 13 (au false)) 12 (.box 12 b12 0)) 11 (.box 11 b11 0)) 6 (.box 6 b6 0)) 4 (.box 4 b4 0)) 3 (.ptr (aD sA))) 2 (ae rule),upd (upd (upd (upd (fun _=>none) 12 (some ⟨b12,[(ae 0),(.str []),(.val (.slice none 0 0)),(.val (.slice none 0 0)),(.val (.slice none 0 0)),(.val (.slice none 0 0)),(ae 0),(ae 0),(.val (.slice none 0 0))]⟩)) 11 (some ⟨b11,(am x38)⟩)) 6 (some ⟨b6,[(ae 0),(.str []),(.val (.slice none 0 0)),(.val (.slice none 0 0)),(.val (.slice none 0 0)),(.val (.slice none 0 0)),(ae 0),(ae 0),(.val (.slice none 0 0))]⟩)) 4 (some ⟨b4,[(ae x35.kind),(.str x35.table),(.list 9 (x35.names.map aF)),(.list 94 (x35.exprs.map ak)),(.list 91 (x35.aggregates.map aQ)),(.list 4 (x35.descending.map aP)),(ae x35.count),(ae x35.offset),(.own 35 g35 (x35.inputs.map ap).length)]⟩),upd (fun _=>none) 35 (some ⟨g35,33,(x35.inputs.map ap),true⟩)⟩) H (fun _ H=>?_) (fun t14 g14 H=>?_)
  ·refine aa (af 3 tk rfl ?_)
   refine aL rfl rfl rfl H (fun H=>?_) (fun H=>?_)
   ·cases H
   refine af 10 tk rfl (ab ?_)
   refine aJ _ () (az H) Gh.d
  refine bW rfl (ac ?_)
  refine ci (γ := Unit) (fun t15 g15=>⟨203,upd (upd (upd (upd (upd (upd (upd (upd (fun _=>.any) 120 (au false)) 13 (au false)) 12 (.box 12 b12 0)) 11 (.box 11 b11 0)) 6 (.box 6 b6 0)) 4 (.box 4 b4 0)) 3 (.ptr (aD sA))) 2 (ae rule),upd (upd (upd (upd (fun _=>none) 12 (some ⟨b12,[(ae 0),(.str []),(.val (.slice none 0 0)),(.val (.slice none 0 0)),(.val (.slice none 0 0)),(.val (.slice none 0 0)),(ae 0),(ae 0),(.val (.slice none 0 0))]⟩)) 11 (some ⟨b11,(am x38)⟩)) 6 (some ⟨b6,[(ae 0),(.str []),(.val (.slice none 0 0)),(.val (.slice none 0 0)),(.val (.slice none 0 0)),(.val (.slice none 0 0)),(ae 0),(ae 0),(.val (.slice none 0 0))]⟩)) 4 (some ⟨b4,[(ae x35.kind),(.str x35.table),(.list 9 (x35.names.map aF)),(.list 94 (x35.exprs.map ak)),(.list 91 (x35.aggregates.map aQ)),(.list 4 (x35.descending.map aP)),(ae x35.count),(ae x35.offset),(.own 35 g35 (x35.inputs.map ap).length)]⟩),upd (fun _=>none) 35 (some ⟨g35,33,(x35.inputs.map ap),true⟩)⟩) H (fun _ H=>?_) (fun t15 g15 H=>?_)
  ·refine aa (af 3 tk rfl ?_)
   refine aL rfl rfl rfl H (fun H=>?_) (fun H=>?_)
   ·cases H
   refine af 10 tk rfl (ab ?_)
   refine aJ _ () (az H) Gh.d
  refine bW rfl (ac ?_)
  refine ci (γ := Unit) (fun t16 g16=>⟨203,upd (upd (upd (upd (upd (upd (upd (upd (fun _=>.any) 150 (au false)) 13 (au false)) 12 (.box 12 b12 0)) 11 (.box 11 b11 0)) 6 (.box 6 b6 0)) 4 (.box 4 b4 0)) 3 (.ptr (aD sA))) 2 (ae rule),upd (upd (upd (upd (fun _=>none) 12 (some ⟨b12,[(ae 0),(.str []),(.val (.slice none 0 0)),(.val (.slice none 0 0)),(.val (.slice none 0 0)),(.val (.slice none 0 0)),(ae 0),(ae 0),(.val (.slice none 0 0))]⟩)) 11 (some ⟨b11,(am x38)⟩)) 6 (some ⟨b6,[(ae 0),(.str []),(.val (.slice none 0 0)),(.val (.slice none 0 0)),(.val (.slice none 0 0)),(.val (.slice none 0 0)),(ae 0),(ae 0),(.val (.slice none 0 0))]⟩)) 4 (some ⟨b4,[(ae x35.kind),(.str x35.table),(.list 9 (x35.names.map aF)),(.list 94 (x35.exprs.map ak)),(.list 91 (x35.aggregates.map aQ)),(.list 4 (x35.descending.map aP)),(ae x35.count),(ae x35.offset),(.own 35 g35 (x35.inputs.map ap).length)]⟩),upd (fun _=>none) 35 (some ⟨g35,33,(x35.inputs.map ap),true⟩)⟩) H (fun _ H=>?_) (fun t16 g16 H=>?_)
  ·refine aa (af 3 tk rfl ?_)
   refine aL rfl rfl rfl H (fun H=>?_) (fun H=>?_)
   ·cases H
   refine af 10 tk rfl (ab ?_)
   refine aJ _ () (az H) Gh.d
  refine bW rfl (ac ?_)
  refine ci (γ := Unit) (fun t17 g17=>⟨203,upd (upd (upd (upd (upd (upd (upd (fun _=>.any) 169 (au false)) 13 (au false)) 12 (.box 12 b12 0)) 11 (.box 11 b11 0)) 6 (.box 6 b6 0)) 4 (.box 4 b4 0)) 3 (.ptr (aD sA)),upd (upd (upd (upd (fun _=>none) 12 (some ⟨b12,[(ae 0),(.str []),(.val (.slice none 0 0)),(.val (.slice none 0 0)),(.val (.slice none 0 0)),(.val (.slice none 0 0)),(ae 0),(ae 0),(.val (.slice none 0 0))]⟩)) 11 (some ⟨b11,(am x38)⟩)) 6 (some ⟨b6,[(ae 0),(.str []),(.val (.slice none 0 0)),(.val (.slice none 0 0)),(.val (.slice none 0 0)),(.val (.slice none 0 0)),(ae 0),(ae 0),(.val (.slice none 0 0))]⟩)) 4 (some ⟨b4,[(ae x35.kind),(.str x35.table),(.list 9 (x35.names.map aF)),(.list 94 (x35.exprs.map ak)),(.list 91 (x35.aggregates.map aQ)),(.list 4 (x35.descending.map aP)),(ae x35.count),(ae x35.offset),(.own 35 g35 (x35.inputs.map ap).length)]⟩),upd (fun _=>none) 35 (some ⟨g35,33,(x35.inputs.map ap),true⟩)⟩) H (fun _ H=>?_) (fun t17 g17 H=>?_)
  ·refine aa (af 3 tk rfl ?_)
   refine aL rfl rfl rfl H (fun H=>?_) (fun H=>?_)
   ·cases H
   refine af 10 tk rfl (ab ?_)
   refine aJ _ () (az H) Gh.d
  refine bW rfl (ax ?_)
  refine aJ _ () (az H) (Gh.le (aM (aM (aM (aM bU)))) (aO rfl (eZ.r) (aO rfl (eZ.of2 (gk.cons (lW.of_eq rfl) (gk.cons (lW.of_eq rfl) (gk.cons (lW.nil tk rfl) (gk.cons (lW.nil tk rfl) (gk.cons (lW.nil tk rfl) (gk.cons (lW.nil tk rfl) (gk.cons (lW.of_eq rfl) (gk.cons (lW.of_eq rfl) (gk.cons (lW.nil tk rfl) gk.nil)))))))))) bw)) bA)
 refine aW (ac (aw 2 tk rfl ?_))
 refine aN rfl H (fun H=>?_) (fun H=>?_)
 ·refine ac (aa (ah tk rfl (ao tk ?_)))
  refine ah tk rfl (ab ?_)
  obtain rfl := az H
  refine bd tk rfl (ps := [(.agg [(ae 0),(.str []),(.val (.slice none 0 0)),(.val (.slice none 0 0)),(.val (.slice none 0 0)),(.val (.slice none 0 0)),(ae 0),(ae 0),(.val (.slice none 0 0))]),(au false)]) ⟨_,_,rfl,⟨_,_,_,_,_,rfl,rfl,rfl,rfl⟩,_,_,rfl,rfl,rfl⟩ (PLe.of2 (lW.tup (gk.cons (lW.agg (gk.cons (lW.of_eq rfl) (gk.cons (lW.of_eq rfl) (gk.cons (lW.nil tk rfl) (gk.cons (lW.nil tk rfl) (gk.cons (lW.nil tk rfl) (gk.cons (lW.nil tk rfl) (gk.cons (lW.of_eq rfl) (gk.cons (lW.of_eq rfl) (gk.cons (lW.nil tk rfl) gk.nil)))))))))) (gk.cons (lW.of_eq rfl) gk.nil))))
 refine ax (ac (aa (ah tk rfl (al tk ?_))))
 obtain ⟨x196,h196,H⟩ := av H
 have s196 := dG sA t10.2 _ h196
 refine aq Tryz.call24 (eZ.r) s196 ?_
 refine af 5 tk rfl (ab (ac (aw 2 tk rfl ?_)))
 refine aN rfl H (fun H=>?_) (fun H=>?_)
 ·refine ac (aa (ah tk rfl (ao tk ?_)))
  refine ah tk rfl (ab ?_)
  obtain rfl := az H
  refine bd tk rfl (ps := [(.agg [(ae 0),(.str []),(.val (.slice none 0 0)),(.val (.slice none 0 0)),(.val (.slice none 0 0)),(.val (.slice none 0 0)),(ae 0),(ae 0),(.val (.slice none 0 0))]),(au false)]) ⟨_,_,rfl,⟨_,_,_,_,_,rfl,rfl,rfl,rfl⟩,_,_,rfl,rfl,rfl⟩ (PLe.of2 (lW.tup (gk.cons (lW.agg (gk.cons (lW.of_eq rfl) (gk.cons (lW.of_eq rfl) (gk.cons (lW.nil tk rfl) (gk.cons (lW.nil tk rfl) (gk.cons (lW.nil tk rfl) (gk.cons (lW.nil tk rfl) (gk.cons (lW.of_eq rfl) (gk.cons (lW.of_eq rfl) (gk.cons (lW.nil tk rfl) gk.nil)))))))))) (gk.cons (lW.of_eq rfl) gk.nil))))
 refine ax (ac (aa (al tk ?_)))
 refine ao tk ?_
 refine ah tk rfl (ab ?_)
 obtain rfl := az H
 refine bd tk rfl (ps := [(.agg (am t10.2)),(au true)]) ⟨_,_,rfl,⟨_,_,_,_,_,rfl,rfl,rfl,rfl⟩,_,_,rfl,rfl,rfl⟩ (PLe.q rfl)
def eK (sA : LSchema) (q : LQuery) (rule : Int) : Option (LQuery × Bool) :=
 ag (bI sA q) fun x21 =>
 bs (
  cond (x21.2 != (0 : Int))
   (true)
   ((q.kind == (1 : Int)))) fun (t1 : Bool) =>
 cond t1
  (some ((LQuery.mk 0 [] [] [] [] [] 0 0 []),false))
  (ag (iy q) fun x35 =>
  ag (aR x35.inputs 0) fun (x38 : LQuery) =>
  bs (
   cond (decide (rule ≥ (1 : Int)))
    (cond (decide (rule ≤ (9 : Int)))
     ((x35.kind == (2 : Int)))
     (false))
    (false)) fun (t2 : Bool) =>
  ag (
   cond t2
    (none)
    (ag (
     cond (rule == (10 : Int))
      (none)
      (some ())) fun (_ : Unit) =>
    ag (
     cond (rule == (11 : Int))
      (none)
      (some ())) fun (_ : Unit) =>
    ag (
     cond (rule == (12 : Int))
      (none)
      (some ())) fun (_ : Unit) =>
    bs (
     cond (rule == (13 : Int))
      (cond (x35.kind == (3 : Int))
       ((x38.kind == (3 : Int)))
       (false))
      (false)) fun (t14 : Bool) =>
    cond t14
     (ag (dR x35 x38) fun x119 =>
     some (true,x119))
     (ag (
      cond (rule == (14 : Int))
       (none)
       (some ())) fun (_ : Unit) =>
     ag (
      cond (rule == (15 : Int))
       (none)
       (some ())) fun (_ : Unit) =>
     ag (
      cond (rule == (16 : Int))
       (none)
       (some ())) fun (_ : Unit) =>
     some (false,(LQuery.mk 0 [] [] [] [] [] 0 0 []))))) fun (t10 : Bool × LQuery) =>
  cond (!t10.1)
   (some ((LQuery.mk 0 [] [] [] [] [] 0 0 []),false))
   (ag (bI sA t10.2) fun x196 =>
   cond (x196.2 != (0 : Int))
    (some ((LQuery.mk 0 [] [] [] [] [] 0 0 []),false))
    (some (t10.2,true))))
theorem qE (sA : LSchema) (q : LQuery) (rule : Int) (r : LQuery × Bool) (H : eK sA q rule = some r) :
  aU Tryz.prog 15 [(.agg (aD sA)),(.agg (am q)),(ae rule)] (.tup [(.agg (am r.1)),(au r.2)]) := by
 unfold eK at H
 refine PH.ay Tryz.func15 Tryz.ntmps15 ?_
 refine ac (aa (aG ?_))
 refine iR (d := 4) fun b4=>?_
 refine aA tk fun b6=>?_
 refine ah tk rfl (ab (ac (ac (aa (ah tk rfl (al tk ?_))))))
 obtain ⟨x21,h21,H⟩ := av H
 have s21 := dG sA q _ h21
 refine aq Tryz.call24 (eZ.r) s21 ?_
 refine af 5 tk rfl (ab (ac ?_))
 refine cm (γ := Unit) (fun t1 g1=>⟨203,upd (upd (upd (upd (upd (fun _=>.any) 30 (au t1)) 6 (.box 6 b6 0)) 4 (.box 4 b4 0)) 3 (.ptr (aD sA))) 2 (ae rule),upd (upd (fun _=>none) 6 (some ⟨b6,[(ae 0),(.str []),(.val (.slice none 0 0)),(.val (.slice none 0 0)),(.val (.slice none 0 0)),(.val (.slice none 0 0)),(ae 0),(ae 0),(.val (.slice none 0 0))]⟩)) 4 (some ⟨b4,(am q)⟩),fun _=>none⟩) H (fun _ H=>?_) (fun t1 g1 H=>?_)
 ·refine aa (af 3 tk rfl ?_)
  refine aL rfl rfl rfl H (fun H=>?_) (fun H=>?_)
  ·refine af 4 tk rfl (ab ?_)
   refine aJ _ () H Gh.d
  refine ah tk rfl (al tk ?_)
  refine af 2 tk rfl (ab ?_)
  refine aJ _ () H Gh.d
 refine aN rfl H (fun H=>?_) (fun H=>?_)
 ·refine ac (aa (ah tk rfl (ao tk ?_)))
  refine ah tk rfl (ab ?_)
  obtain rfl := az H
  refine bd tk rfl (ps := [(.agg [(ae 0),(.str []),(.val (.slice none 0 0)),(.val (.slice none 0 0)),(.val (.slice none 0 0)),(.val (.slice none 0 0)),(ae 0),(ae 0),(.val (.slice none 0 0))]),(au false)]) ⟨_,_,rfl,⟨_,_,_,_,_,rfl,rfl,rfl,rfl⟩,_,_,rfl,rfl,rfl⟩ (PLe.of2 (lW.tup (gk.cons (lW.agg (gk.cons (lW.of_eq rfl) (gk.cons (lW.of_eq rfl) (gk.cons (lW.nil tk rfl) (gk.cons (lW.nil tk rfl) (gk.cons (lW.nil tk rfl) (gk.cons (lW.nil tk rfl) (gk.cons (lW.of_eq rfl) (gk.cons (lW.of_eq rfl) (gk.cons (lW.nil tk rfl) gk.nil)))))))))) (gk.cons (lW.of_eq rfl) gk.nil))))
 refine ax (ac (aa (af 2 tk rfl ?_)))
 refine aA tk fun b10=>?_
 refine ao tk ?_
 refine ab (ac (aa (al tk ?_)))
 obtain ⟨x35,h35,H⟩ := av H
 have s35 := rj (m := 35) q _ h35
 refine lS (g := 30) rfl rfl rfl Tryz.call30 (eZ.r) rfl rfl s35 (fun g35=>?_)
 refine ao tk ?_
 refine ab (ac (aa (ah tk rfl (al tk ?_))))
 obtain ⟨x38,k38,H⟩ := bB H
 refine aX tk k38.1 (aV aH k38.2) ?_
 refine ah tk rfl ?_
 refine aA tk fun b11=>?_
 refine ao tk ?_
 refine ab (ac (aa ?_))
 refine aA tk fun b12=>?_
 refine ab (aw 1 tk rfl (ac (aE (ac ?_))))
 refine cm (γ := Unit) (fun t2 g2=>⟨203,upd (upd (upd (upd (upd (upd (upd (upd (upd (fun _=>.any) 40 (au t2)) 13 (au false)) 12 (.box 12 b12 0)) 11 (.box 11 b11 0)) 10 (.box 10 b10 0)) 6 (.box 6 b6 0)) 4 (.box 4 b4 0)) 3 (.ptr (aD sA))) 2 (ae rule),upd (upd (upd (upd (upd (fun _=>none) 12 (some ⟨b12,[(ae 0),(.str []),(.val (.slice none 0 0)),(.val (.slice none 0 0)),(.val (.slice none 0 0)),(.val (.slice none 0 0)),(ae 0),(ae 0),(.val (.slice none 0 0))]⟩)) 11 (some ⟨b11,(am x38)⟩)) 10 (some ⟨b10,(aD sA)⟩)) 6 (some ⟨b6,[(ae 0),(.str []),(.val (.slice none 0 0)),(.val (.slice none 0 0)),(.val (.slice none 0 0)),(.val (.slice none 0 0)),(ae 0),(ae 0),(.val (.slice none 0 0))]⟩)) 4 (some ⟨b4,[(ae x35.kind),(.str x35.table),(.list 9 (x35.names.map aF)),(.own 35 g35 (x35.exprs.map ak).length),(.list 91 (x35.aggregates.map aQ)),(.list 4 (x35.descending.map aP)),(ae x35.count),(ae x35.offset),(.list 33 (x35.inputs.map ap))]⟩),upd (fun _=>none) 35 (some ⟨g35,94,(x35.exprs.map ak),true⟩)⟩) H (fun _ H=>?_) (fun t2 g2 H=>?_)
 ·refine aa (af 3 tk rfl ?_)
  refine aL rfl rfl rfl H (fun H=>?_) (fun H=>?_)
  ·refine af 4 tk rfl ?_
   refine aL rfl rfl rfl H (fun H=>?_) (fun H=>?_)
   ·refine ah tk rfl (al tk ?_)
    refine af 3 tk rfl (ab ?_)
    refine aJ _ () H Gh.d
   refine af 5 tk rfl (ab ?_)
   refine aJ _ () H Gh.d
  refine af 9 tk rfl (ab ?_)
  refine aJ _ () H Gh.d
 refine ci (γ := Unit) (fun t10 g10=>⟨203,upd (upd (upd (upd (fun _=>.any) 13 (au t10.1)) 12 (.box 12 b12 0)) 6 (.box 6 b6 0)) 3 (.ptr (aD sA)),upd (upd (fun _=>none) 12 (some ⟨b12,(am t10.2)⟩)) 6 (some ⟨b6,[(ae 0),(.str []),(.val (.slice none 0 0)),(.val (.slice none 0 0)),(.val (.slice none 0 0)),(.val (.slice none 0 0)),(ae 0),(ae 0),(.val (.slice none 0 0))]⟩),fun _=>none⟩) H (fun _ H=>?_) (fun t10 g10 H=>?_)
 ·refine aN rfl H (fun H=>?_) (fun H=>?_)
  ·refine bD 4 3 rfl rfl rfl rfl rfl (aa (al tk ?_))
   refine al tk ?_
   refine al tk ?_
   refine ah tk rfl ?_
   cases H
  refine ac ?_
  refine ci (γ := Unit) (fun t11 g11=>⟨203,upd (upd (upd (upd (upd (upd (upd (upd (upd (fun _=>.any) 60 (au false)) 13 (au false)) 12 (.box 12 b12 0)) 11 (.box 11 b11 0)) 10 (.box 10 b10 0)) 6 (.box 6 b6 0)) 4 (.box 4 b4 0)) 3 (.ptr (aD sA))) 2 (ae rule),upd (upd (upd (upd (upd (fun _=>none) 12 (some ⟨b12,[(ae 0),(.str []),(.val (.slice none 0 0)),(.val (.slice none 0 0)),(.val (.slice none 0 0)),(.val (.slice none 0 0)),(ae 0),(ae 0),(.val (.slice none 0 0))]⟩)) 11 (some ⟨b11,(am x38)⟩)) 10 (some ⟨b10,(aD sA)⟩)) 6 (some ⟨b6,[(ae 0),(.str []),(.val (.slice none 0 0)),(.val (.slice none 0 0)),(.val (.slice none 0 0)),(.val (.slice none 0 0)),(ae 0),(ae 0),(.val (.slice none 0 0))]⟩)) 4 (some ⟨b4,[(ae x35.kind),(.str x35.table),(.list 9 (x35.names.map aF)),(.own 35 g35 (x35.exprs.map ak).length),(.list 91 (x35.aggregates.map aQ)),(.list 4 (x35.descending.map aP)),(ae x35.count),(ae x35.offset),(.list 33 (x35.inputs.map ap))]⟩),upd (fun _=>none) 35 (some ⟨g35,94,(x35.exprs.map ak),true⟩)⟩) H (fun _ H=>?_) (fun t11 g11 H=>?_)
  ·refine aa (af 3 tk rfl ?_)
   refine aL rfl rfl rfl H (fun H=>?_) (fun H=>?_)
   ·cases H
   refine af 5 tk rfl (ab ?_)
   refine aJ _ () (az H) Gh.d
  refine bW rfl (ac ?_)
  refine ci (γ := Unit) (fun t12 g12=>⟨203,upd (upd (upd (upd (upd (upd (upd (upd (upd (fun _=>.any) 73 (au false)) 13 (au false)) 12 (.box 12 b12 0)) 11 (.box 11 b11 0)) 10 (.box 10 b10 0)) 6 (.box 6 b6 0)) 4 (.box 4 b4 0)) 3 (.ptr (aD sA))) 2 (ae rule),upd (upd (upd (upd (upd (fun _=>none) 12 (some ⟨b12,[(ae 0),(.str []),(.val (.slice none 0 0)),(.val (.slice none 0 0)),(.val (.slice none 0 0)),(.val (.slice none 0 0)),(ae 0),(ae 0),(.val (.slice none 0 0))]⟩)) 11 (some ⟨b11,(am x38)⟩)) 10 (some ⟨b10,(aD sA)⟩)) 6 (some ⟨b6,[(ae 0),(.str []),(.val (.slice none 0 0)),(.val (.slice none 0 0)),(.val (.slice none 0 0)),(.val (.slice none 0 0)),(ae 0),(ae 0),(.val (.slice none 0 0))]⟩)) 4 (some ⟨b4,[(ae x35.kind),(.str x35.table),(.list 9 (x35.names.map aF)),(.own 35 g35 (x35.exprs.map ak).length),(.list 91 (x35.aggregates.map aQ)),(.list 4 (x35.descending.map aP)),(ae x35.count),(ae x35.offset),(.list 33 (x35.inputs.map ap))]⟩),upd (fun _=>none) 35 (some ⟨g35,94,(x35.exprs.map ak),true⟩)⟩) H (fun _ H=>?_) (fun t12 g12 H=>?_)
  ·refine aa (af 3 tk rfl ?_)
   refine aL rfl rfl rfl H (fun H=>?_) (fun H=>?_)
   ·cases H
   refine af 5 tk rfl (ab ?_)
   refine aJ _ () (az H) Gh.d
  refine bW rfl (ac ?_)
  refine ci (γ := Unit) (fun t13 g13=>⟨203,upd (upd (upd (upd (upd (upd (upd (upd (upd (fun _=>.any) 84 (au false)) 13 (au false)) 12 (.box 12 b12 0)) 11 (.box 11 b11 0)) 10 (.box 10 b10 0)) 6 (.box 6 b6 0)) 4 (.box 4 b4 0)) 3 (.ptr (aD sA))) 2 (ae rule),upd (upd (upd (upd (upd (fun _=>none) 12 (some ⟨b12,[(ae 0),(.str []),(.val (.slice none 0 0)),(.val (.slice none 0 0)),(.val (.slice none 0 0)),(.val (.slice none 0 0)),(ae 0),(ae 0),(.val (.slice none 0 0))]⟩)) 11 (some ⟨b11,(am x38)⟩)) 10 (some ⟨b10,(aD sA)⟩)) 6 (some ⟨b6,[(ae 0),(.str []),(.val (.slice none 0 0)),(.val (.slice none 0 0)),(.val (.slice none 0 0)),(.val (.slice none 0 0)),(ae 0),(ae 0),(.val (.slice none 0 0))]⟩)) 4 (some ⟨b4,[(ae x35.kind),(.str x35.table),(.list 9 (x35.names.map aF)),(.own 35 g35 (x35.exprs.map ak).length),(.list 91 (x35.aggregates.map aQ)),(.list 4 (x35.descending.map aP)),(ae x35.count),(ae x35.offset),(.list 33 (x35.inputs.map ap))]⟩),upd (fun _=>none) 35 (some ⟨g35,94,(x35.exprs.map ak),true⟩)⟩) H (fun _ H=>?_) (fun t13 g13 H=>?_)
  ·refine aa (af 3 tk rfl ?_)
   refine aL rfl rfl rfl H (fun H=>?_) (fun H=>?_)
   ·cases H
   refine af 10 tk rfl (ab ?_)
   refine aJ _ () (az H) Gh.d
  refine bW rfl (ac ?_)
  refine cm (γ := Unit) (fun t14 g14=>⟨203,upd (upd (upd (upd (upd (upd (upd (upd (fun _=>.any) 104 (au t14)) 13 (au false)) 12 (.box 12 b12 0)) 11 (.box 11 b11 0)) 6 (.box 6 b6 0)) 4 (.box 4 b4 0)) 3 (.ptr (aD sA))) 2 (ae rule),upd (upd (upd (upd (fun _=>none) 12 (some ⟨b12,[(ae 0),(.str []),(.val (.slice none 0 0)),(.val (.slice none 0 0)),(.val (.slice none 0 0)),(.val (.slice none 0 0)),(ae 0),(ae 0),(.val (.slice none 0 0))]⟩)) 11 (some ⟨b11,(am x38)⟩)) 6 (some ⟨b6,[(ae 0),(.str []),(.val (.slice none 0 0)),(.val (.slice none 0 0)),(.val (.slice none 0 0)),(.val (.slice none 0 0)),(ae 0),(ae 0),(.val (.slice none 0 0))]⟩)) 4 (some ⟨b4,[(ae x35.kind),(.str x35.table),(.list 9 (x35.names.map aF)),(.own 35 g35 (x35.exprs.map ak).length),(.list 91 (x35.aggregates.map aQ)),(.list 4 (x35.descending.map aP)),(ae x35.count),(ae x35.offset),(.list 33 (x35.inputs.map ap))]⟩),upd (fun _=>none) 35 (some ⟨g35,94,(x35.exprs.map ak),true⟩)⟩) H (fun _ H=>?_) (fun t14 g14 H=>?_)
  ·refine aa (af 3 tk rfl ?_)
   refine aL rfl rfl rfl H (fun H=>?_) (fun H=>?_)
   ·refine ah tk rfl (al tk ?_)
    refine af 3 tk rfl ?_
    refine aL rfl rfl rfl H (fun H=>?_) (fun H=>?_)
    ·refine ah tk rfl (al tk ?_)
     refine af 3 tk rfl (ab ?_)
     refine aJ _ () H Gh.d
    refine af 5 tk rfl (ab ?_)
    refine aJ _ () H Gh.d
   refine af 10 tk rfl (ab ?_)
   refine aJ _ () H Gh.d
  refine aN rfl H (fun H=>?_) (fun H=>?_)
  ·refine aa (al tk ?_)
   refine al tk ?_
   obtain ⟨x119,h119,H⟩ := av H
   have s119 := nv g35 x35 x38 _ h119
   refine hM (g := 35) rfl rfl rfl Tryz.call35 [] [(35,3000)] rfl rfl rfl rfl (eZ.cons (PLe.agg (eZ.cons (PLe.refl _ _) <| eZ.cons (PLe.refl _ _) <| eZ.cons (PLe.refl _ _) <| eZ.cons (PLe.of2 (lW.own rfl)) <| eZ.cons (PLe.refl _ _) <| eZ.cons (PLe.refl _ _) <| eZ.cons (PLe.refl _ _) <| eZ.cons (PLe.refl _ _) <| eZ.cons (PLe.refl _ _) <| eZ.nil _)) <| eZ.cons (PLe.refl _ _) <| eZ.nil _) (by rw [gD,fI,gC]; rfl) s119 ?_
   rintro u119 H119h ⟨rfl,rfl⟩
   refine ⟨_,rfl,?_⟩
   refine gI (st' := ⟨_,_,upd (upd (upd (upd (fun _=>none) 12 (some ⟨b12,[(ae 0),(.str []),(.val (.slice none 0 0)),(.val (.slice none 0 0)),(.val (.slice none 0 0)),(.val (.slice none 0 0)),(ae 0),(ae 0),(.val (.slice none 0 0))]⟩)) 11 (some ⟨b11,(am x38)⟩)) 6 (some ⟨b6,[(ae 0),(.str []),(.val (.slice none 0 0)),(.val (.slice none 0 0)),(.val (.slice none 0 0)),(.val (.slice none 0 0)),(ae 0),(ae 0),(.val (.slice none 0 0))]⟩)) 4 (some ⟨b4,[(ae x35.kind),(.str x35.table),(.list 9 (x35.names.map aF)),(.own 35 g35 (x35.exprs.map ak).length),(.list 91 (x35.aggregates.map aQ)),(.list 4 (x35.descending.map aP)),(ae x35.count),(ae x35.offset),(.list 33 (x35.inputs.map ap))]⟩),fun _=>none⟩) (Gh.le (fF _ _) (aO rfl (eZ.r) (aO rfl (eZ.r) (aO rfl (eZ.r) (aO rfl (eZ.r) bw)))) bA) ?_
   refine ao tk ?_
   refine ah tk rfl (ab ?_)
   refine aJ _ () (az H) Gh.d
  refine ac ?_
  refine ci (γ := Unit) (fun t15 g15=>⟨203,upd (upd (upd (upd (upd (upd (upd (upd (fun _=>.any) 120 (au false)) 13 (au false)) 12 (.box 12 b12 0)) 11 (.box 11 b11 0)) 6 (.box 6 b6 0)) 4 (.box 4 b4 0)) 3 (.ptr (aD sA))) 2 (ae rule),upd (upd (upd (upd (fun _=>none) 12 (some ⟨b12,[(ae 0),(.str []),(.val (.slice none 0 0)),(.val (.slice none 0 0)),(.val (.slice none 0 0)),(.val (.slice none 0 0)),(ae 0),(ae 0),(.val (.slice none 0 0))]⟩)) 11 (some ⟨b11,(am x38)⟩)) 6 (some ⟨b6,[(ae 0),(.str []),(.val (.slice none 0 0)),(.val (.slice none 0 0)),(.val (.slice none 0 0)),(.val (.slice none 0 0)),(ae 0),(ae 0),(.val (.slice none 0 0))]⟩)) 4 (some ⟨b4,[(ae x35.kind),(.str x35.table),(.list 9 (x35.names.map aF)),(.own 35 g35 (x35.exprs.map ak).length),(.list 91 (x35.aggregates.map aQ)),(.list 4 (x35.descending.map aP)),(ae x35.count),(ae x35.offset),(.list 33 (x35.inputs.map ap))]⟩),upd (fun _=>none) 35 (some ⟨g35,94,(x35.exprs.map ak),true⟩)⟩) H (fun _ H=>?_) (fun t15 g15 H=>?_)
  ·refine aa (af 3 tk rfl ?_)
   refine aL rfl rfl rfl H (fun H=>?_) (fun H=>?_)
   ·cases H
   refine af 10 tk rfl (ab ?_)
   refine aJ _ () (az H) Gh.d
  refine bW rfl (ac ?_)
  refine ci (γ := Unit) (fun t16 g16=>⟨203,upd (upd (upd (upd (upd (upd (upd (upd (fun _=>.any) 150 (au false)) 13 (au false)) 12 (.box 12 b12 0)) 11 (.box 11 b11 0)) 6 (.box 6 b6 0)) 4 (.box 4 b4 0)) 3 (.ptr (aD sA))) 2 (ae rule),upd (upd (upd (upd (fun _=>none) 12 (some ⟨b12,[(ae 0),(.str []),(.val (.slice none 0 0)),(.val (.slice none 0 0)),(.val (.slice none 0 0)),(.val (.slice none 0 0)),(ae 0),(ae 0),(.val (.slice none 0 0))]⟩)) 11 (some ⟨b11,(am x38)⟩)) 6 (some ⟨b6,[(ae 0),(.str []),(.val (.slice none 0 0)),(.val (.slice none 0 0)),(.val (.slice none 0 0)),(.val (.slice none 0 0)),(ae 0),(ae 0),(.val (.slice none 0 0))]⟩)) 4 (some ⟨b4,[(ae x35.kind),(.str x35.table),(.list 9 (x35.names.map aF)),(.own 35 g35 (x35.exprs.map ak).length),(.list 91 (x35.aggregates.map aQ)),(.list 4 (x35.descending.map aP)),(ae x35.count),(ae x35.offset),(.list 33 (x35.inputs.map ap))]⟩),upd (fun _=>none) 35 (some ⟨g35,94,(x35.exprs.map ak),true⟩)⟩) H (fun _ H=>?_) (fun t16 g16 H=>?_)
  ·refine aa (af 3 tk rfl ?_)
   refine aL rfl rfl rfl H (fun H=>?_) (fun H=>?_)
   ·cases H
   refine af 10 tk rfl (ab ?_)
   refine aJ _ () (az H) Gh.d
  refine bW rfl (ac ?_)
  refine ci (γ := Unit) (fun t17 g17=>⟨203,upd (upd (upd (upd (upd (upd (upd (fun _=>.any) 169 (au false)) 13 (au false)) 12 (.box 12 b12 0)) 11 (.box 11 b11 0)) 6 (.box 6 b6 0)) 4 (.box 4 b4 0)) 3 (.ptr (aD sA)),upd (upd (upd (upd (fun _=>none) 12 (some ⟨b12,[(ae 0),(.str []),(.val (.slice none 0 0)),(.val (.slice none 0 0)),(.val (.slice none 0 0)),(.val (.slice none 0 0)),(ae 0),(ae 0),(.val (.slice none 0 0))]⟩)) 11 (some ⟨b11,(am x38)⟩)) 6 (some ⟨b6,[(ae 0),(.str []),(.val (.slice none 0 0)),(.val (.slice none 0 0)),(.val (.slice none 0 0)),(.val (.slice none 0 0)),(ae 0),(ae 0),(.val (.slice none 0 0))]⟩)) 4 (some ⟨b4,[(ae x35.kind),(.str x35.table),(.list 9 (x35.names.map aF)),(.own 35 g35 (x35.exprs.map ak).length),(.list 91 (x35.aggregates.map aQ)),(.list 4 (x35.descending.map aP)),(ae x35.count),(ae x35.offset),(.list 33 (x35.inputs.map ap))]⟩),upd (fun _=>none) 35 (some ⟨g35,94,(x35.exprs.map ak),true⟩)⟩) H (fun _ H=>?_) (fun t17 g17 H=>?_)
  ·refine aa (af 3 tk rfl ?_)
   refine aL rfl rfl rfl H (fun H=>?_) (fun H=>?_)
   ·cases H
   refine af 10 tk rfl (ab ?_)
   refine aJ _ () (az H) Gh.d
  refine bW rfl (ax ?_)
  refine aJ _ () (az H) (Gh.le (aM (aM (aM (aM bU)))) (aO rfl (eZ.r) (aO rfl (eZ.of2 (gk.cons (lW.of_eq rfl) (gk.cons (lW.of_eq rfl) (gk.cons (lW.nil tk rfl) (gk.cons (lW.nil tk rfl) (gk.cons (lW.nil tk rfl) (gk.cons (lW.nil tk rfl) (gk.cons (lW.of_eq rfl) (gk.cons (lW.of_eq rfl) (gk.cons (lW.nil tk rfl) gk.nil)))))))))) bw)) bA)
 refine aW (ac (aw 2 tk rfl ?_))
 refine aN rfl H (fun H=>?_) (fun H=>?_)
 ·refine ac (aa (ah tk rfl (ao tk ?_)))
  refine ah tk rfl (ab ?_)
  obtain rfl := az H
  refine bd tk rfl (ps := [(.agg [(ae 0),(.str []),(.val (.slice none 0 0)),(.val (.slice none 0 0)),(.val (.slice none 0 0)),(.val (.slice none 0 0)),(ae 0),(ae 0),(.val (.slice none 0 0))]),(au false)]) ⟨_,_,rfl,⟨_,_,_,_,_,rfl,rfl,rfl,rfl⟩,_,_,rfl,rfl,rfl⟩ (PLe.of2 (lW.tup (gk.cons (lW.agg (gk.cons (lW.of_eq rfl) (gk.cons (lW.of_eq rfl) (gk.cons (lW.nil tk rfl) (gk.cons (lW.nil tk rfl) (gk.cons (lW.nil tk rfl) (gk.cons (lW.nil tk rfl) (gk.cons (lW.of_eq rfl) (gk.cons (lW.of_eq rfl) (gk.cons (lW.nil tk rfl) gk.nil)))))))))) (gk.cons (lW.of_eq rfl) gk.nil))))
 refine ax (ac (aa (ah tk rfl (al tk ?_))))
 obtain ⟨x196,h196,H⟩ := av H
 have s196 := dG sA t10.2 _ h196
 refine aq Tryz.call24 (eZ.r) s196 ?_
 refine af 5 tk rfl (ab (ac (aw 2 tk rfl ?_)))
 refine aN rfl H (fun H=>?_) (fun H=>?_)
 ·refine ac (aa (ah tk rfl (ao tk ?_)))
  refine ah tk rfl (ab ?_)
  obtain rfl := az H
  refine bd tk rfl (ps := [(.agg [(ae 0),(.str []),(.val (.slice none 0 0)),(.val (.slice none 0 0)),(.val (.slice none 0 0)),(.val (.slice none 0 0)),(ae 0),(ae 0),(.val (.slice none 0 0))]),(au false)]) ⟨_,_,rfl,⟨_,_,_,_,_,rfl,rfl,rfl,rfl⟩,_,_,rfl,rfl,rfl⟩ (PLe.of2 (lW.tup (gk.cons (lW.agg (gk.cons (lW.of_eq rfl) (gk.cons (lW.of_eq rfl) (gk.cons (lW.nil tk rfl) (gk.cons (lW.nil tk rfl) (gk.cons (lW.nil tk rfl) (gk.cons (lW.nil tk rfl) (gk.cons (lW.of_eq rfl) (gk.cons (lW.of_eq rfl) (gk.cons (lW.nil tk rfl) gk.nil)))))))))) (gk.cons (lW.of_eq rfl) gk.nil))))
 refine ax (ac (aa (al tk ?_)))
 refine ao tk ?_
 refine ah tk rfl (ab ?_)
 obtain rfl := az H
 refine bd tk rfl (ps := [(.agg (am t10.2)),(au true)]) ⟨_,_,rfl,⟨_,_,_,_,_,rfl,rfl,rfl,rfl⟩,_,_,rfl,rfl,rfl⟩ (PLe.q rfl)
def gO (sA : LSchema) (q : LQuery) (rule : Int) : Option (LQuery × Bool) :=
 ag (bI sA q) fun x21 =>
 bs (
  cond (x21.2 != (0 : Int))
   (true)
   ((q.kind == (1 : Int)))) fun (t1 : Bool) =>
 cond t1
  (some ((LQuery.mk 0 [] [] [] [] [] 0 0 []),false))
  (ag (ip q) fun x35 =>
  ag (aR x35.inputs 0) fun (x38 : LQuery) =>
  bs (
   cond (decide (rule ≥ (1 : Int)))
    (cond (decide (rule ≤ (9 : Int)))
     ((x35.kind == (2 : Int)))
     (false))
    (false)) fun (t2 : Bool) =>
  ag (
   cond t2
    (none)
    (bs (
     cond (rule == (10 : Int))
      ((x35.kind == (4 : Int)))
      (false)) fun (t11 : Bool) =>
    cond t11
     (none)
     (bs (
      cond (rule == (11 : Int))
       ((x35.kind == (4 : Int)))
       (false)) fun (t12 : Bool) =>
     cond t12
      (ag (dh (LRewriteRewriter.mk sA) x35) fun x83 =>
      some (true,x83))
      (bs (
       cond (rule == (12 : Int))
        (cond (x35.kind == (4 : Int))
         ((x38.kind == (4 : Int)))
         (false))
        (false)) fun (t13 : Bool) =>
      cond t13
       (ag (cS (LRewriteRewriter.mk sA) x35 x38) fun x101 =>
       some (x101.2,x101.1))
       (bs (
        cond (rule == (13 : Int))
         (cond (x35.kind == (3 : Int))
          ((x38.kind == (3 : Int)))
          (false))
         (false)) fun (t14 : Bool) =>
       cond t14
        (none)
        (bs (
         cond (rule == (14 : Int))
          (cond (x35.kind == (6 : Int))
           ((x38.kind == (6 : Int)))
           (false))
          (false)) fun (t15 : Bool) =>
        cond t15
         (ag (aR x38.inputs 1) fun (x135 : LQuery) =>
         ag (aR x35.inputs 1) fun (x139 : LQuery) =>
         ag (aR x38.inputs 0) fun (x145 : LQuery) =>
         some (true,(LQuery.mk 6 [] [] [] [] [] 0 0 [x145,(LQuery.mk 6 [] [] [] [] [] 0 0 [x135,x139])])))
         (bs (
          cond (rule == (15 : Int))
           (cond (x35.kind == (10 : Int))
            ((x38.kind == (10 : Int)))
            (false))
           (false)) fun (t16 : Bool) =>
         cond t16
          (bs (cJ x35 x38) fun x166 =>
          some (x166.2,x166.1))
          (bs (
           cond (rule == (16 : Int))
            (cond (x35.kind == (10 : Int))
             ((x38.kind == (3 : Int)))
             (false))
            (false)) fun (t17 : Bool) =>
          cond t17
           (some (true,(LQuery.mk x38.kind x38.table x38.names x38.exprs x38.aggregates x38.descending x38.count x38.offset [(LQuery.mk x35.kind x35.table x35.names x35.exprs x35.aggregates x35.descending x35.count x35.offset x38.inputs)])))
           (some (false,(LQuery.mk 0 [] [] [] [] [] 0 0 []))))))))))) fun (t10 : Bool × LQuery) =>
  cond (!t10.1)
   (some ((LQuery.mk 0 [] [] [] [] [] 0 0 []),false))
   (ag (bI sA t10.2) fun x196 =>
   cond (x196.2 != (0 : Int))
    (some ((LQuery.mk 0 [] [] [] [] [] 0 0 []),false))
    (some (t10.2,true))))
theorem qw (sA : LSchema) (q : LQuery) (rule : Int) (r : LQuery × Bool) (H : gO sA q rule = some r) :
  aU Tryz.prog 15 [(.agg (aD sA)),(.agg (am q)),(ae rule)] (.tup [(.agg (am r.1)),(au r.2)]) := by
 unfold gO at H
 refine PH.ay Tryz.func15 Tryz.ntmps15 ?_
 refine ac (aa (aG ?_))
 refine iR (d := 4) fun b4=>?_
 refine aA tk fun b6=>?_
 refine ah tk rfl (ab (ac (ac (aa (ah tk rfl (al tk ?_))))))
 obtain ⟨x21,h21,H⟩ := av H
 have s21 := dG sA q _ h21
 refine aq Tryz.call24 (eZ.r) s21 ?_
 refine af 5 tk rfl (ab (ac ?_))
 refine cm (γ := Unit) (fun t1 g1=>⟨203,upd (upd (upd (upd (upd (fun _=>.any) 30 (au t1)) 6 (.box 6 b6 0)) 4 (.box 4 b4 0)) 3 (.ptr (aD sA))) 2 (ae rule),upd (upd (fun _=>none) 6 (some ⟨b6,[(ae 0),(.str []),(.val (.slice none 0 0)),(.val (.slice none 0 0)),(.val (.slice none 0 0)),(.val (.slice none 0 0)),(ae 0),(ae 0),(.val (.slice none 0 0))]⟩)) 4 (some ⟨b4,(am q)⟩),fun _=>none⟩) H (fun _ H=>?_) (fun t1 g1 H=>?_)
 ·refine aa (af 3 tk rfl ?_)
  refine aL rfl rfl rfl H (fun H=>?_) (fun H=>?_)
  ·refine af 4 tk rfl (ab ?_)
   refine aJ _ () H Gh.d
  refine ah tk rfl (al tk ?_)
  refine af 2 tk rfl (ab ?_)
  refine aJ _ () H Gh.d
 refine aN rfl H (fun H=>?_) (fun H=>?_)
 ·refine ac (aa (ah tk rfl (ao tk ?_)))
  refine ah tk rfl (ab ?_)
  obtain rfl := az H
  refine bd tk rfl (ps := [(.agg [(ae 0),(.str []),(.val (.slice none 0 0)),(.val (.slice none 0 0)),(.val (.slice none 0 0)),(.val (.slice none 0 0)),(ae 0),(ae 0),(.val (.slice none 0 0))]),(au false)]) ⟨_,_,rfl,⟨_,_,_,_,_,rfl,rfl,rfl,rfl⟩,_,_,rfl,rfl,rfl⟩ (PLe.of2 (lW.tup (gk.cons (lW.agg (gk.cons (lW.of_eq rfl) (gk.cons (lW.of_eq rfl) (gk.cons (lW.nil tk rfl) (gk.cons (lW.nil tk rfl) (gk.cons (lW.nil tk rfl) (gk.cons (lW.nil tk rfl) (gk.cons (lW.of_eq rfl) (gk.cons (lW.of_eq rfl) (gk.cons (lW.nil tk rfl) gk.nil)))))))))) (gk.cons (lW.of_eq rfl) gk.nil))))
 refine ax (ac (aa (af 2 tk rfl ?_)))
 refine aA tk fun b10=>?_
 refine ao tk ?_
 refine ab (ac (aa (al tk ?_)))
 obtain ⟨x35,h35,H⟩ := av H
 have s35 := mc q _ h35
 refine aq Tryz.call30 (eZ.r) s35 ?_
 refine ao tk ?_
 refine ab (ac (aa (ah tk rfl (al tk ?_))))
 obtain ⟨x38,k38,H⟩ := bB H
 refine aX tk k38.1 (aV aH k38.2) ?_
 refine ah tk rfl ?_
 refine aA tk fun b11=>?_
 refine ao tk ?_
 refine ab (ac (aa ?_))
 refine aA tk fun b12=>?_
 refine ab (aw 1 tk rfl (ac (aE (ac ?_))))
 refine cm (γ := Unit) (fun t2 g2=>⟨203,upd (upd (upd (upd (upd (upd (upd (upd (upd (fun _=>.any) 40 (au t2)) 13 (au false)) 12 (.box 12 b12 0)) 11 (.box 11 b11 0)) 10 (.box 10 b10 0)) 6 (.box 6 b6 0)) 4 (.box 4 b4 0)) 3 (.ptr (aD sA))) 2 (ae rule),upd (upd (upd (upd (upd (fun _=>none) 12 (some ⟨b12,[(ae 0),(.str []),(.val (.slice none 0 0)),(.val (.slice none 0 0)),(.val (.slice none 0 0)),(.val (.slice none 0 0)),(ae 0),(ae 0),(.val (.slice none 0 0))]⟩)) 11 (some ⟨b11,(am x38)⟩)) 10 (some ⟨b10,(aD sA)⟩)) 6 (some ⟨b6,[(ae 0),(.str []),(.val (.slice none 0 0)),(.val (.slice none 0 0)),(.val (.slice none 0 0)),(.val (.slice none 0 0)),(ae 0),(ae 0),(.val (.slice none 0 0))]⟩)) 4 (some ⟨b4,(am x35)⟩),fun _=>none⟩) H (fun _ H=>?_) (fun t2 g2 H=>?_)
 ·refine aa (af 3 tk rfl ?_)
  refine aL rfl rfl rfl H (fun H=>?_) (fun H=>?_)
  ·refine af 4 tk rfl ?_
   refine aL rfl rfl rfl H (fun H=>?_) (fun H=>?_)
   ·refine ah tk rfl (al tk ?_)
    refine af 3 tk rfl (ab ?_)
    refine aJ _ () H Gh.d
   refine af 5 tk rfl (ab ?_)
   refine aJ _ () H Gh.d
  refine af 9 tk rfl (ab ?_)
  refine aJ _ () H Gh.d
 refine ci (γ := Unit) (fun t10 g10=>⟨203,upd (upd (upd (upd (fun _=>.any) 13 (au t10.1)) 12 (.box 12 b12 0)) 6 (.box 6 b6 0)) 3 (.ptr (aD sA)),upd (upd (fun _=>none) 12 (some ⟨b12,(am t10.2)⟩)) 6 (some ⟨b6,[(ae 0),(.str []),(.val (.slice none 0 0)),(.val (.slice none 0 0)),(.val (.slice none 0 0)),(.val (.slice none 0 0)),(ae 0),(ae 0),(.val (.slice none 0 0))]⟩),fun _=>none⟩) H (fun _ H=>?_) (fun t10 g10 H=>?_)
 ·refine aN rfl H (fun H=>?_) (fun H=>?_)
  ·refine aa (al tk ?_)
   refine al tk ?_
   refine al tk ?_
   refine ah tk rfl ?_
   cases H
  refine ac ?_
  refine cm (γ := Unit) (fun t11 g11=>⟨203,upd (upd (upd (upd (upd (upd (upd (upd (upd (fun _=>.any) 60 (au t11)) 13 (au false)) 12 (.box 12 b12 0)) 11 (.box 11 b11 0)) 10 (.box 10 b10 0)) 6 (.box 6 b6 0)) 4 (.box 4 b4 0)) 3 (.ptr (aD sA))) 2 (ae rule),upd (upd (upd (upd (upd (fun _=>none) 12 (some ⟨b12,[(ae 0),(.str []),(.val (.slice none 0 0)),(.val (.slice none 0 0)),(.val (.slice none 0 0)),(.val (.slice none 0 0)),(ae 0),(ae 0),(.val (.slice none 0 0))]⟩)) 11 (some ⟨b11,(am x38)⟩)) 10 (some ⟨b10,(aD sA)⟩)) 6 (some ⟨b6,[(ae 0),(.str []),(.val (.slice none 0 0)),(.val (.slice none 0 0)),(.val (.slice none 0 0)),(.val (.slice none 0 0)),(ae 0),(ae 0),(.val (.slice none 0 0))]⟩)) 4 (some ⟨b4,(am x35)⟩),fun _=>none⟩) H (fun _ H=>?_) (fun t11 g11 H=>?_)
  ·refine aa (af 3 tk rfl ?_)
   refine aL rfl rfl rfl H (fun H=>?_) (fun H=>?_)
   ·refine ah tk rfl (al tk ?_)
    refine af 3 tk rfl (ab ?_)
    refine aJ _ () H Gh.d
   refine af 5 tk rfl (ab ?_)
   refine aJ _ () H Gh.d
  refine aN rfl H (fun H=>?_) (fun H=>?_)
  ·refine aa (al tk ?_)
   cases H
  refine ac ?_
  refine cm (γ := Unit) (fun t12 g12=>⟨203,upd (upd (upd (upd (upd (upd (upd (upd (upd (fun _=>.any) 73 (au t12)) 13 (au false)) 12 (.box 12 b12 0)) 11 (.box 11 b11 0)) 10 (.box 10 b10 0)) 6 (.box 6 b6 0)) 4 (.box 4 b4 0)) 3 (.ptr (aD sA))) 2 (ae rule),upd (upd (upd (upd (upd (fun _=>none) 12 (some ⟨b12,[(ae 0),(.str []),(.val (.slice none 0 0)),(.val (.slice none 0 0)),(.val (.slice none 0 0)),(.val (.slice none 0 0)),(ae 0),(ae 0),(.val (.slice none 0 0))]⟩)) 11 (some ⟨b11,(am x38)⟩)) 10 (some ⟨b10,(aD sA)⟩)) 6 (some ⟨b6,[(ae 0),(.str []),(.val (.slice none 0 0)),(.val (.slice none 0 0)),(.val (.slice none 0 0)),(.val (.slice none 0 0)),(ae 0),(ae 0),(.val (.slice none 0 0))]⟩)) 4 (some ⟨b4,(am x35)⟩),fun _=>none⟩) H (fun _ H=>?_) (fun t12 g12 H=>?_)
  ·refine aa (af 3 tk rfl ?_)
   refine aL rfl rfl rfl H (fun H=>?_) (fun H=>?_)
   ·refine ah tk rfl (al tk ?_)
    refine af 3 tk rfl (ab ?_)
    refine aJ _ () H Gh.d
   refine af 5 tk rfl (ab ?_)
   refine aJ _ () H Gh.d
  refine aN rfl H (fun H=>?_) (fun H=>?_)
  ·refine aa (al tk ?_)
   refine al tk ?_
   obtain ⟨x83,h83,H⟩ := av H
   have s83 := lV (LRewriteRewriter.mk sA) x35 _ h83
   refine aq Tryz.call33 (eZ.r) s83 ?_
   refine ao tk ?_
   refine ah tk rfl (ab ?_)
   refine aJ _ () (az H) Gh.d
  refine ac ?_
  refine cm (γ := Unit) (fun t13 g13=>⟨203,upd (upd (upd (upd (upd (upd (upd (upd (upd (fun _=>.any) 84 (au t13)) 13 (au false)) 12 (.box 12 b12 0)) 11 (.box 11 b11 0)) 10 (.box 10 b10 0)) 6 (.box 6 b6 0)) 4 (.box 4 b4 0)) 3 (.ptr (aD sA))) 2 (ae rule),upd (upd (upd (upd (upd (fun _=>none) 12 (some ⟨b12,[(ae 0),(.str []),(.val (.slice none 0 0)),(.val (.slice none 0 0)),(.val (.slice none 0 0)),(.val (.slice none 0 0)),(ae 0),(ae 0),(.val (.slice none 0 0))]⟩)) 11 (some ⟨b11,(am x38)⟩)) 10 (some ⟨b10,(aD sA)⟩)) 6 (some ⟨b6,[(ae 0),(.str []),(.val (.slice none 0 0)),(.val (.slice none 0 0)),(.val (.slice none 0 0)),(.val (.slice none 0 0)),(ae 0),(ae 0),(.val (.slice none 0 0))]⟩)) 4 (some ⟨b4,(am x35)⟩),fun _=>none⟩) H (fun _ H=>?_) (fun t13 g13 H=>?_)
  ·refine aa (af 3 tk rfl ?_)
   refine aL rfl rfl rfl H (fun H=>?_) (fun H=>?_)
   ·refine ah tk rfl (al tk ?_)
    refine af 3 tk rfl ?_
    refine aL rfl rfl rfl H (fun H=>?_) (fun H=>?_)
    ·refine ah tk rfl (al tk ?_)
     refine af 3 tk rfl (ab ?_)
     refine aJ _ () H Gh.d
    refine af 5 tk rfl (ab ?_)
    refine aJ _ () H Gh.d
   refine af 10 tk rfl (ab ?_)
   refine aJ _ () H Gh.d
  refine aN rfl H (fun H=>?_) (fun H=>?_)
  ·refine aa (al tk ?_)
   refine al tk ?_
   refine al tk ?_
   obtain ⟨x101,h101,H⟩ := av H
   have s101 := lp (LRewriteRewriter.mk sA) x35 x38 _ h101
   refine aq Tryz.call34 (eZ.r) s101 ?_
   refine af 3 tk rfl (ao tk ?_)
   refine ah tk rfl (ab ?_)
   refine aJ _ () (az H) Gh.d
  refine ac ?_
  refine cm (γ := Unit) (fun t14 g14=>⟨203,upd (upd (upd (upd (upd (upd (upd (upd (fun _=>.any) 104 (au t14)) 13 (au false)) 12 (.box 12 b12 0)) 11 (.box 11 b11 0)) 6 (.box 6 b6 0)) 4 (.box 4 b4 0)) 3 (.ptr (aD sA))) 2 (ae rule),upd (upd (upd (upd (fun _=>none) 12 (some ⟨b12,[(ae 0),(.str []),(.val (.slice none 0 0)),(.val (.slice none 0 0)),(.val (.slice none 0 0)),(.val (.slice none 0 0)),(ae 0),(ae 0),(.val (.slice none 0 0))]⟩)) 11 (some ⟨b11,(am x38)⟩)) 6 (some ⟨b6,[(ae 0),(.str []),(.val (.slice none 0 0)),(.val (.slice none 0 0)),(.val (.slice none 0 0)),(.val (.slice none 0 0)),(ae 0),(ae 0),(.val (.slice none 0 0))]⟩)) 4 (some ⟨b4,(am x35)⟩),fun _=>none⟩) H (fun _ H=>?_) (fun t14 g14 H=>?_)
  ·refine aa (af 3 tk rfl ?_)
   refine aL rfl rfl rfl H (fun H=>?_) (fun H=>?_)
   ·refine ah tk rfl (al tk ?_)
    refine af 3 tk rfl ?_
    refine aL rfl rfl rfl H (fun H=>?_) (fun H=>?_)
    ·refine ah tk rfl (al tk ?_)
     refine af 3 tk rfl (ab ?_)
     refine aJ _ () H Gh.d
    refine af 5 tk rfl (ab ?_)
    refine aJ _ () H Gh.d
   refine af 10 tk rfl (ab ?_)
   refine aJ _ () H Gh.d
  refine aN rfl H (fun H=>?_) (fun H=>?_)
  ·refine aa (al tk ?_)
   refine al tk ?_
   cases H
  refine ac ?_
  refine cm (γ := Unit) (fun t15 g15=>⟨203,upd (upd (upd (upd (upd (upd (upd (upd (fun _=>.any) 120 (au t15)) 13 (au false)) 12 (.box 12 b12 0)) 11 (.box 11 b11 0)) 6 (.box 6 b6 0)) 4 (.box 4 b4 0)) 3 (.ptr (aD sA))) 2 (ae rule),upd (upd (upd (upd (fun _=>none) 12 (some ⟨b12,[(ae 0),(.str []),(.val (.slice none 0 0)),(.val (.slice none 0 0)),(.val (.slice none 0 0)),(.val (.slice none 0 0)),(ae 0),(ae 0),(.val (.slice none 0 0))]⟩)) 11 (some ⟨b11,(am x38)⟩)) 6 (some ⟨b6,[(ae 0),(.str []),(.val (.slice none 0 0)),(.val (.slice none 0 0)),(.val (.slice none 0 0)),(.val (.slice none 0 0)),(ae 0),(ae 0),(.val (.slice none 0 0))]⟩)) 4 (some ⟨b4,(am x35)⟩),fun _=>none⟩) H (fun _ H=>?_) (fun t15 g15 H=>?_)
  ·refine aa (af 3 tk rfl ?_)
   refine aL rfl rfl rfl H (fun H=>?_) (fun H=>?_)
   ·refine ah tk rfl (al tk ?_)
    refine af 3 tk rfl ?_
    refine aL rfl rfl rfl H (fun H=>?_) (fun H=>?_)
    ·refine ah tk rfl (al tk ?_)
     refine af 3 tk rfl (ab ?_)
     refine aJ _ () H Gh.d
    refine af 5 tk rfl (ab ?_)
    refine aJ _ () H Gh.d
   refine af 10 tk rfl (ab ?_)
   refine aJ _ () H Gh.d
  refine aN rfl H (fun H=>?_) (fun H=>?_)
  ·refine ac (cg 4 ?_)
   refine bt tk mok ⟨true,false,[136,138,140]⟩ [0,1,2,3,4,5,6,7,8,9,10,11] rfl (by decide +kernel) rfl (bn rfl (aY ?_))
   obtain ⟨x135,k135,H⟩ := bB H
   refine bF k135.1 (aV aH k135.2) ?_
   refine bf 3 rfl ?_
   obtain ⟨x139,k139,H⟩ := bB H
   refine bF k139.1 (aV aH k139.2) ?_
   refine bf 3 rfl ?_
   refine oJ rfl rfl rfl rfl rfl rfl rfl rfl fun b14=>?_
   refine bm ?_
   refine bp (cg 14 ?_)
   refine bt tk mok ⟨true,false,[146,147]⟩ [0,1,2,3,4,5,6,7,8] rfl (by decide +kernel) rfl (bn rfl (aY ?_))
   obtain ⟨x145,k145,H⟩ := bB H
   refine bF k145.1 (aV aH k145.2) ?_
   refine bf 4 rfl (bm ?_)
   refine bn rfl (bp ?_)
   refine aJ _ () (az H) (Gh.le (aM (aM (aM (aM bU)))) (aO rfl (eZ.r) (aO rfl (eZ.of2 (gk.cons (lW.of_eq rfl) (gk.cons (lW.of_eq rfl) (gk.cons (lW.nil tk rfl) (gk.cons (lW.nil tk rfl) (gk.cons (lW.nil tk rfl) (gk.cons (lW.nil tk rfl) (gk.cons (lW.of_eq rfl) (gk.cons (lW.of_eq rfl) (gk.cons (lW.list (dH.trans (b := List.map am [x145,(LQuery.mk 6 [] [] [] [] [] 0 0 [x135,x139])]) (dH.cons (oG.refl _) (dH.cons (oG.cons (lW.of_eq rfl) (oG.cons (lW.of_eq rfl) (oG.cons (lW.nil tk rfl) (oG.cons (lW.nil tk rfl) (oG.cons (lW.nil tk rfl) (oG.cons (lW.nil tk rfl) (oG.cons (lW.of_eq rfl) (oG.cons (lW.of_eq rfl) (oG.cons (lW.list (dH.trans (b := List.map am [x135,x139]) (dH.refl _) (dH.of_eq (bN aH [x135,x139])))) oG.nil))))))))) dH.nil)) (dH.of_eq (bN aH [x145,(LQuery.mk 6 [] [] [] [] [] 0 0 [x135,x139])])))) gk.nil)))))))))) bw)) bA)
  refine ac ?_
  refine cm (γ := Unit) (fun t16 g16=>⟨203,upd (upd (upd (upd (upd (upd (upd (upd (fun _=>.any) 150 (au t16)) 13 (au false)) 12 (.box 12 b12 0)) 11 (.box 11 b11 0)) 6 (.box 6 b6 0)) 4 (.box 4 b4 0)) 3 (.ptr (aD sA))) 2 (ae rule),upd (upd (upd (upd (fun _=>none) 12 (some ⟨b12,[(ae 0),(.str []),(.val (.slice none 0 0)),(.val (.slice none 0 0)),(.val (.slice none 0 0)),(.val (.slice none 0 0)),(ae 0),(ae 0),(.val (.slice none 0 0))]⟩)) 11 (some ⟨b11,(am x38)⟩)) 6 (some ⟨b6,[(ae 0),(.str []),(.val (.slice none 0 0)),(.val (.slice none 0 0)),(.val (.slice none 0 0)),(.val (.slice none 0 0)),(ae 0),(ae 0),(.val (.slice none 0 0))]⟩)) 4 (some ⟨b4,(am x35)⟩),fun _=>none⟩) H (fun _ H=>?_) (fun t16 g16 H=>?_)
  ·refine aa (af 3 tk rfl ?_)
   refine aL rfl rfl rfl H (fun H=>?_) (fun H=>?_)
   ·refine ah tk rfl (al tk ?_)
    refine af 3 tk rfl ?_
    refine aL rfl rfl rfl H (fun H=>?_) (fun H=>?_)
    ·refine ah tk rfl (al tk ?_)
     refine af 3 tk rfl (ab ?_)
     refine aJ _ () H Gh.d
    refine af 5 tk rfl (ab ?_)
    refine aJ _ () H Gh.d
   refine af 10 tk rfl (ab ?_)
   refine aJ _ () H Gh.d
  refine aN rfl H (fun H=>?_) (fun H=>?_)
  ·refine aa (al tk ?_)
   refine al tk ?_
   obtain ⟨x166,h166,H⟩ := dg H
   have s166 := ol x35 x38
   rw [h166] at s166
   refine aq Tryz.call36 (eZ.r) s166 ?_
   refine af 3 tk rfl (ao tk ?_)
   refine ah tk rfl (ab ?_)
   refine aJ _ () (az H) Gh.d
  refine ac ?_
  refine cm (γ := Unit) (fun t17 g17=>⟨203,upd (upd (upd (upd (upd (upd (upd (fun _=>.any) 169 (au t17)) 13 (au false)) 12 (.box 12 b12 0)) 11 (.box 11 b11 0)) 6 (.box 6 b6 0)) 4 (.box 4 b4 0)) 3 (.ptr (aD sA)),upd (upd (upd (upd (fun _=>none) 12 (some ⟨b12,[(ae 0),(.str []),(.val (.slice none 0 0)),(.val (.slice none 0 0)),(.val (.slice none 0 0)),(.val (.slice none 0 0)),(ae 0),(ae 0),(.val (.slice none 0 0))]⟩)) 11 (some ⟨b11,(am x38)⟩)) 6 (some ⟨b6,[(ae 0),(.str []),(.val (.slice none 0 0)),(.val (.slice none 0 0)),(.val (.slice none 0 0)),(.val (.slice none 0 0)),(ae 0),(ae 0),(.val (.slice none 0 0))]⟩)) 4 (some ⟨b4,(am x35)⟩),fun _=>none⟩) H (fun _ H=>?_) (fun t17 g17 H=>?_)
  ·refine aa (af 3 tk rfl ?_)
   refine aL rfl rfl rfl H (fun H=>?_) (fun H=>?_)
   ·refine ah tk rfl (al tk ?_)
    refine af 3 tk rfl ?_
    refine aL rfl rfl rfl H (fun H=>?_) (fun H=>?_)
    ·refine ah tk rfl (al tk ?_)
     refine af 3 tk rfl (ab ?_)
     refine aJ _ () H Gh.d
    refine af 5 tk rfl (ab ?_)
    refine aJ _ () H Gh.d
   refine af 10 tk rfl (ab ?_)
   refine aJ _ () H Gh.d
  refine aN rfl H (fun H=>?_) (fun H=>?_)
  ·refine ac (aa (al tk ?_))
   refine aA tk fun b15=>?_
   refine ao tk ?_
   refine ab (ac (aa (ah tk rfl (al tk ?_))))
   refine ah tk rfl (ao tk ?_)
   refine ab (ac (aa (al tk ?_)))
   refine cj tk (rows' := List.map ap ([(LQuery.mk x35.kind x35.table x35.names x35.exprs x35.aggregates x35.descending x35.count x35.offset x38.inputs)] : List LQuery)) (dH.trans (b := List.map am [(LQuery.mk x35.kind x35.table x35.names x35.exprs x35.aggregates x35.descending x35.count x35.offset x38.inputs)]) (dH.refl _) (dH.of_eq (bN aH [(LQuery.mk x35.kind x35.table x35.names x35.exprs x35.aggregates x35.descending x35.count x35.offset x38.inputs)]))) ?_
   refine ah tk rfl (ao tk ?_)
   refine ab (aa (al tk ?_))
   refine ao tk ?_
   refine ah tk rfl (ab ?_)
   refine aJ _ () (az H) Gh.d
  refine ax ?_
  refine aJ _ () (az H) (Gh.le (aM (aM (aM (aM bU)))) (aO rfl (eZ.r) (aO rfl (eZ.of2 (gk.cons (lW.of_eq rfl) (gk.cons (lW.of_eq rfl) (gk.cons (lW.nil tk rfl) (gk.cons (lW.nil tk rfl) (gk.cons (lW.nil tk rfl) (gk.cons (lW.nil tk rfl) (gk.cons (lW.of_eq rfl) (gk.cons (lW.of_eq rfl) (gk.cons (lW.nil tk rfl) gk.nil)))))))))) bw)) bA)
 refine aW (ac (aw 2 tk rfl ?_))
 refine aN rfl H (fun H=>?_) (fun H=>?_)
 ·refine ac (aa (ah tk rfl (ao tk ?_)))
  refine ah tk rfl (ab ?_)
  obtain rfl := az H
  refine bd tk rfl (ps := [(.agg [(ae 0),(.str []),(.val (.slice none 0 0)),(.val (.slice none 0 0)),(.val (.slice none 0 0)),(.val (.slice none 0 0)),(ae 0),(ae 0),(.val (.slice none 0 0))]),(au false)]) ⟨_,_,rfl,⟨_,_,_,_,_,rfl,rfl,rfl,rfl⟩,_,_,rfl,rfl,rfl⟩ (PLe.of2 (lW.tup (gk.cons (lW.agg (gk.cons (lW.of_eq rfl) (gk.cons (lW.of_eq rfl) (gk.cons (lW.nil tk rfl) (gk.cons (lW.nil tk rfl) (gk.cons (lW.nil tk rfl) (gk.cons (lW.nil tk rfl) (gk.cons (lW.of_eq rfl) (gk.cons (lW.of_eq rfl) (gk.cons (lW.nil tk rfl) gk.nil)))))))))) (gk.cons (lW.of_eq rfl) gk.nil))))
 refine ax (ac (aa (ah tk rfl (al tk ?_))))
 obtain ⟨x196,h196,H⟩ := av H
 have s196 := dG sA t10.2 _ h196
 refine aq Tryz.call24 (eZ.r) s196 ?_
 refine af 5 tk rfl (ab (ac (aw 2 tk rfl ?_)))
 refine aN rfl H (fun H=>?_) (fun H=>?_)
 ·refine ac (aa (ah tk rfl (ao tk ?_)))
  refine ah tk rfl (ab ?_)
  obtain rfl := az H
  refine bd tk rfl (ps := [(.agg [(ae 0),(.str []),(.val (.slice none 0 0)),(.val (.slice none 0 0)),(.val (.slice none 0 0)),(.val (.slice none 0 0)),(ae 0),(ae 0),(.val (.slice none 0 0))]),(au false)]) ⟨_,_,rfl,⟨_,_,_,_,_,rfl,rfl,rfl,rfl⟩,_,_,rfl,rfl,rfl⟩ (PLe.of2 (lW.tup (gk.cons (lW.agg (gk.cons (lW.of_eq rfl) (gk.cons (lW.of_eq rfl) (gk.cons (lW.nil tk rfl) (gk.cons (lW.nil tk rfl) (gk.cons (lW.nil tk rfl) (gk.cons (lW.nil tk rfl) (gk.cons (lW.of_eq rfl) (gk.cons (lW.of_eq rfl) (gk.cons (lW.nil tk rfl) gk.nil)))))))))) (gk.cons (lW.of_eq rfl) gk.nil))))
 refine ax (ac (aa (al tk ?_)))
 refine ao tk ?_
 refine ah tk rfl (ab ?_)
 obtain rfl := az H
 refine bd tk rfl (ps := [(.agg (am t10.2)),(au true)]) ⟨_,_,rfl,⟨_,_,_,_,_,rfl,rfl,rfl,rfl⟩,_,_,rfl,rfl,rfl⟩ (PLe.q rfl)
def bV (sA : LSchema) (q : LQuery) (rule : Int) : Option (LQuery × Bool) := oz (bR sA q rule) (oz (dE sA q rule) (oz (eK sA q rule) (gO sA q rule)))
theorem ju (sA : LSchema) (q : LQuery) (rule : Int) (r : LQuery × Bool) (H : bV sA q rule = some r) :
  aU Tryz.prog 15 [(.agg (aD sA)),(.agg (am q)),(ae rule)] (.tup [(.agg (am r.1)),(au r.2)]) := by
 unfold bV at H
 rcases nX H with H | H
 ·exact qC sA q rule r H
 rcases nX H with H | H
 ·exact qx sA q rule r H
 rcases nX H with H | H
 ·exact qE sA q rule r H
 exact qw sA q rule r H
def cA (sA : LSchema) (q : LQuery) : Option ((List LRewriteAlternative)) :=
 ag (bI sA q) fun x18 =>
 cond (x18.2 != (0 : Int))
  (some [])
  (ag (iW q false) fun x24 =>
  ag (fU q) fun x26 =>
  ag (aI (σ := List LRewriteAlternative) (ρ := Empty) (fun (j1 : Nat) (x1 : LQuery) (s1 : List LRewriteAlternative) =>
   ag (iF (σ := List LRewriteAlternative × Int) (ρ := Empty) (fun (s10 : List LRewriteAlternative × Int) =>
    cond (decide (s10.2 < (17 : Int)))
     (ag (bV sA x1 s10.2) fun x41 =>
     ag (
      cond (!x41.2)
       (some true)
       (cond (s10.2 == (11 : Int))
        (ag (aR x24 (j1 : Int)) fun (x52 : Bool) =>
        some x52)
        (some false))) fun (t13 : Bool) =>
     cond t13
      (some (.next (s10.1,(IntKind.i64.wrap (s10.2 + (1 : Int))))))
      (ag (ct q (j1 : Int) x41.1) fun x59 =>
      ag (gF sA x59) fun x62 =>
      cond x62
       (ag (bS 176 s10.1 ([(LRewriteAlternative.mk (j1 : Int) s10.2 x59)] : List LRewriteAlternative)) fun (x69 : List LRewriteAlternative) =>
       some (.next (x69,(IntKind.i64.wrap (s10.2 + (1 : Int))))))
       (some (.next (s10.1,(IntKind.i64.wrap (s10.2 + (1 : Int))))))))
     (some (.brk (s10.1,s10.2)))) (s1,1)) fun fl10=>fl10.thenP fun (s10 : List LRewriteAlternative × Int) =>
   some (.next s10.1)) 0 x26 []) fun fl1=>fl1.thenP fun (s1 : List LRewriteAlternative) =>
  some s1)
theorem jY (sA : LSchema) (q : LQuery) (r : (List LRewriteAlternative)) (H : cA sA q = some r) :
  aU Tryz.prog 13 [(.agg (aD sA)),(.agg (am q))] (.list 44 (r.map cd)) := by
 unfold cA at H
 refine PH.ay Tryz.func13 Tryz.ntmps13 ?_
 refine ac (aa (aG ?_))
 refine aG ?_
 refine ah tk rfl (ab (ac (ac (aa (af 2 tk rfl ?_)))))
 obtain ⟨x18,h18,H⟩ := av H
 have s18 := dG sA q _ h18
 refine aq Tryz.call24 (eZ.r) s18 ?_
 refine af 5 tk rfl (ab (aw 2 tk rfl ?_))
 refine aN rfl H (fun H=>?_) (fun H=>?_)
 ·refine aw 1 tk rfl ?_
  obtain rfl := az H
  refine bd tk rfl (ps := [(.val (.slice none 0 0))]) ⟨_,_,rfl,rfl,rfl⟩ (PLe.of2 (lW.nil tk rfl))
 refine ax (aw 1 tk rfl (ac (aa (ah tk rfl ?_))))
 obtain ⟨x24,h24,H⟩ := av H
 have s24 := pn q false _ h24
 refine aq Tryz.call7 (eZ.r) s24 ?_
 refine ah tk rfl (ab (ac (ac (aa (ah tk rfl ?_)))))
 obtain ⟨x26,h26,H⟩ := av H
 have s26 := kh (m := 26) q _ h26
 refine aq Tryz.call8 (eZ.r) (PFun.eE s26) ?_
 refine aB tk (zl _) ?_
 refine ah tk rfl (ab (gQ tk 7 69 (e := 44) rfl rfl ?_))
 refine db (γ := OwnRef) tk 28 27 26 (fun s1 g1=>upd (upd (upd (upd (fun _=>.any) 8 (.list 4 (x24.map aP))) 7 (.own 69 g1 (s1.map cd).length)) 3 (.ptr (am q))) 2 (.ptr (aD sA))) nB (fun s1 g1=>upd (fun _=>none) 69 (some ⟨g1,44,(s1.map cd),true⟩)) (⟨none,0⟩) H (fun fl1 Hp1 j1 s1 g1 hz1 hl1 x1 fb1 hx1 H hg1=>?_) (fun s1 g1 H=>?_)
 ·refine ac (aE (ac (aa (ah tk rfl (aX tk (zn j1) (bj aH hx1) ?_)))))
  refine ah tk rfl ?_
  refine aA tk fun b10=>?_
  refine ah tk rfl (ao tk ?_)
  refine ab (aw 1 tk rfl ?_)
  obtain ⟨fl10,H10,Hp10⟩ := av H
  refine ke (τ := List LRewriteAlternative × Int) (γ := OwnRef) (fun s10 g10=>⟨72,upd (upd (upd (upd (upd (upd (upd (fun _=>.any) 28 (ae (j1 : Int))) 27 (ae (x26.length : Int))) 26 (.list 33 (x26.map ap))) 8 (.list 4 (x24.map aP))) 7 (.own 69 g10 (s10.1.map cd).length)) 3 (.ptr (am q))) 2 (.ptr (aD sA)),fun _=>none,upd (fun _=>none) 69 (some ⟨g10,44,(s10.1.map cd),true⟩)⟩) (fun t=>fl10 = .next t) ?_ (fun s10 g10 hn10=>?_)
  ·refine aE ?_
   refine qW (fun s10 g10=>⟨72,upd (upd (upd (upd (upd (upd (upd (upd (upd (upd (fun _=>.any) 28 (ae (j1 : Int))) 27 (ae (x26.length : Int))) 26 (.list 33 (x26.map ap))) 11 (ae s10.2)) 10 (.box 10 b10 0)) 9 (ae (j1 : Int))) 8 (.list 4 (x24.map aP))) 7 (.own 69 g10 (s10.1.map cd).length)) 3 (.ptr (am q))) 2 (.ptr (aD sA)),upd (fun _=>none) 10 (some ⟨b10,(am x1)⟩),upd (fun _=>none) 69 (some ⟨g10,44,(s10.1.map cd),true⟩)⟩) g1 H10 Gh.d (fun m10 s10 g10 hr10=>?_)
   obtain ⟨fb10,H,hg10⟩ := oV hr10
   refine ac (aw 2 tk rfl ?_)
   refine aN rfl H (fun H=>?_) (fun H=>?_)
   ·refine ax (ac (aE (ac (aa (ah tk rfl (al tk ?_))))))
    refine ah tk rfl ?_
    obtain ⟨x41,h41,H⟩ := av H
    have s41 := ju sA x1 s10.2 _ h41
    refine aq Tryz.call15 (eZ.r) s41 ?_
    refine af 3 tk rfl ?_
    refine aA tk fun b12=>?_
    refine ao tk ?_
    refine ah tk rfl (ab (ac (ac ?_)))
    refine ci (γ := Unit) (fun t13 g13=>⟨72,upd (upd (upd (upd (upd (upd (upd (upd (upd (upd (upd (upd (fun _=>.any) 55 (au t13)) 28 (ae (j1 : Int))) 27 (ae (x26.length : Int))) 26 (.list 33 (x26.map ap))) 12 (.box 12 b12 0)) 11 (ae s10.2)) 10 (.box 10 b10 0)) 9 (ae (j1 : Int))) 8 (.list 4 (x24.map aP))) 7 (.own 69 g10 (s10.1.map cd).length)) 3 (.ptr (am q))) 2 (.ptr (aD sA)),upd (upd (fun _=>none) 12 (some ⟨b12,(am x41.1)⟩)) 10 (some ⟨b10,(am x1)⟩),upd (fun _=>none) 69 (some ⟨g10,44,(s10.1.map cd),true⟩)⟩) H (fun _ H=>?_) (fun t13 g13 H=>?_)
    ·refine aa (af 3 tk rfl ?_)
     refine aL rfl rfl rfl H (fun H=>?_) (fun H=>?_)
     ·refine af 9 tk rfl (ab ?_)
      refine aJ _ () (az H) Gh.d
     refine af 3 tk rfl ?_
     refine aL rfl rfl rfl H (fun H=>?_) (fun H=>?_)
     ·refine af 2 tk rfl ?_
      obtain ⟨x52,k52,H⟩ := bB H
      refine aX tk k52.1 (aV (fun _=>rfl) k52.2) ?_
      refine af 3 tk rfl (ab ?_)
      refine aJ _ () (az H) Gh.d
     refine af 6 tk rfl (ab ?_)
     refine aJ _ () (az H) Gh.d
    refine aN rfl H (fun H=>?_) (fun H=>?_)
    ·refine cW rfl (br 3 tk rfl ?_)
     obtain rfl := az H
     refine kt (s10.1,(IntKind.i64.wrap (s10.2 + (1 : Int)))) g10 hg10 Gh.d
    refine ax (ac (aa (af 2 tk rfl (al tk ?_))))
    obtain ⟨x59,h59,H⟩ := av H
    have s59 := qe q (j1 : Int) x41.1 _ h59
    refine aq Tryz.call28 (eZ.r) s59 ?_
    refine aA tk fun b14=>?_
    refine ao tk ?_
    refine ab (ac (aa (ah tk rfl (al tk ?_))))
    obtain ⟨x62,h62,H⟩ := av H
    have s62 := ri sA x59 _ h62
    refine aq Tryz.call29 (eZ.r) s62 ?_
    refine ab ?_
    refine aN rfl H (fun H=>?_) (fun H=>?_)
    ·refine aa (af 3 tk rfl (al tk ?_))
     refine ah tk rfl (cj tk (rows' := List.map cd ([(LRewriteAlternative.mk (j1 : Int) s10.2 x59)] : List LRewriteAlternative)) (dH.refl _) ?_)
     obtain ⟨x69,h69,H⟩ := av H
     have k69 := bE h69
     refine bO (rows2' := List.map cd ([(LRewriteAlternative.mk (j1 : Int) s10.2 x59)] : List LRewriteAlternative)) (rows' := List.map cd x69) tk rfl rfl rfl rfl rfl rfl rfl rfl rfl rfl rfl rfl rfl (dH.refl _) (ce k69.1) (cb k69.2.1) (ca k69.2.2) fun g69=>?_
     refine ah tk rfl (ab (aW (br 3 tk rfl ?_)))
     obtain rfl := az H
     refine kt (x69,(IntKind.i64.wrap (s10.2 + (1 : Int)))) g69 hg10 Gh.d
    refine ax (aW (br 3 tk rfl ?_))
    obtain rfl := az H
    refine kt (s10.1,(IntKind.i64.wrap (s10.2 + (1 : Int)))) g10 hg10 Gh.d
   refine cW rfl ?_
   obtain rfl := az H
   refine aJ (s10.1,s10.2) g10 hg10 Gh.d
  have H := jM hn10 Hp10
  refine aW (br 2 tk rfl ?_)
  exact bq g10 H hl1 hg1
 refine aw 2 tk rfl (dD 4 rfl rfl rfl ?_)
 exact bi tk H rfl
def cG (sA : LSchema) (q : LQuery) : Option (Bool) :=
 bs (sampleV) fun x16 =>
 cond (!x16)
  (some false)
  (ag (gN sA q) fun x20 =>
  cond (!x20)
   (ag (cA (LSchema.mk [] [] []) (LQuery.mk 0 [] [] [] [] [] 0 0 [])) fun x24 =>
   some ((x24.length : Int) == (0 : Int)))
   (ag (iF (σ := List LQuery × Int) (ρ := Empty) (fun (s1 : List LQuery × Int) =>
    cond (decide (s1.2 < (17 : Int)))
     (ag (bV sA q s1.2) fun x35 =>
     cond x35.2
      (ag (bS 160 s1.1 ([x35.1] : List LQuery)) fun (x42 : List LQuery) =>
      some (.next (x42,(IntKind.i64.wrap (s1.2 + (1 : Int))))))
      (some (.next (s1.1,(IntKind.i64.wrap (s1.2 + (1 : Int)))))))
     (some (.brk (s1.1,s1.2)))) ([],1)) fun fl1=>fl1.thenP fun (s1 : List LQuery × Int) =>
   ag (cA sA q) fun x45 =>
   ag (aI (σ := List LQuery) (ρ := Empty) (fun (_ : Nat) (x2 : LRewriteAlternative) (s2 : List LQuery) =>
    cond (x2.node == (0 : Int))
     (ag (bS 160 s2 ([x2.query] : List LQuery)) fun (x58 : List LQuery) =>
     some (.next x58))
     (some (.next s2))) 0 x45 []) fun fl2=>fl2.thenP fun (s2 : List LQuery) =>
   ag (bV sA q 0) fun x63 =>
   ag (bV sA q 17) fun x69 =>
   ag (aT s2 s1.1 (fun a0 a1=>jk a0 a1)) fun x74 =>
   cond x74
    (cond (!x63.2)
     (some (!x69.2))
     (some false))
    (some false)))
theorem iK (sA : LSchema) (q : LQuery) (r : Bool) (H : cG sA q = some r) :
  aU Tryz.prog 4 [(.agg (aD sA)),(.agg (am q))] (au r) := by
 unfold cG at H
 refine PH.ay Tryz.func4 Tryz.ntmps4 ?_
 refine ac (aa (aG ?_))
 refine aG ?_
 refine ah tk rfl (ab (ac (ac (aa ?_))))
 obtain ⟨x16,h16,H⟩ := dg H
 have s16 := sampleV_spec
 rw [h16] at s16
 refine aq Tryz.call5 (eZ.r) s16 ?_
 refine ah tk rfl (ab ?_)
 refine aN rfl H (fun H=>?_) (fun H=>?_)
 ·refine aw 1 tk rfl ?_
  exact bi tk H rfl
 refine ax (ac (ac (aa (af 2 tk rfl ?_))))
 obtain ⟨x20,h20,H⟩ := av H
 have s20 := qD sA q _ h20
 refine aq Tryz.call6 (eZ.r) s20 ?_
 refine ah tk rfl (ab ?_)
 refine aN rfl H (fun H=>?_) (fun H=>?_)
 ·refine ac (aa (af 2 tk rfl ?_))
  obtain ⟨x24,h24,H⟩ := av H
  have s24 := jY (LSchema.mk [] [] []) (LQuery.mk 0 [] [] [] [] [] 0 0 []) _ h24
  refine aq Tryz.call13 (eZ.of2 (gk.cons (lW.agg (gk.cons (lW.nil tk rfl) (gk.cons (lW.nil tk rfl) (gk.cons (lW.nil tk rfl) gk.nil)))) (gk.cons (lW.agg (gk.cons (lW.of_eq rfl) (gk.cons (lW.of_eq rfl) (gk.cons (lW.nil tk rfl) (gk.cons (lW.nil tk rfl) (gk.cons (lW.nil tk rfl) (gk.cons (lW.nil tk rfl) (gk.cons (lW.of_eq rfl) (gk.cons (lW.of_eq rfl) (gk.cons (lW.nil tk rfl) gk.nil)))))))))) gk.nil))) s24 ?_
  refine aB tk (zl _) ?_
  refine af 2 tk rfl (ab ?_)
  exact bi tk H rfl
 refine ax (aw 1 tk rfl (ac (aw 1 tk rfl ?_)))
 obtain ⟨fl1,H1,Hp1⟩ := av H
 refine ke (τ := List LQuery × Int) (γ := OwnRef) (fun s1 g1=>⟨83,upd (upd (upd (fun _=>.any) 5 (.own 42 g1 (s1.1.map ap).length)) 3 (.ptr (am q))) 2 (.ptr (aD sA)),fun _=>none,upd (fun _=>none) 42 (some ⟨g1,33,(s1.1.map ap),true⟩)⟩) (fun t=>fl1 = .next t) ?_ (fun s1 g1 hn1=>?_)
 ·refine aE (gQ tk 5 42 (e := 33) rfl rfl ?_)
  refine qW (fun s1 g1=>⟨83,upd (upd (upd (upd (fun _=>.any) 6 (ae s1.2)) 5 (.own 42 g1 (s1.1.map ap).length)) 3 (.ptr (am q))) 2 (.ptr (aD sA)),fun _=>none,upd (fun _=>none) 42 (some ⟨g1,33,(s1.1.map ap),true⟩)⟩) (⟨none,0⟩) H1 Gh.d (fun m1 s1 g1 hr1=>?_)
  obtain ⟨fb1,H,hg1⟩ := oV hr1
  refine ac (aw 2 tk rfl ?_)
  refine aN rfl H (fun H=>?_) (fun H=>?_)
  ·refine ax (ac (aE (ac (aa (af 3 tk rfl ?_)))))
   obtain ⟨x35,h35,H⟩ := av H
   have s35 := ju sA q s1.2 _ h35
   refine aq Tryz.call15 (eZ.r) s35 ?_
   refine af 3 tk rfl ?_
   refine aA tk fun b7=>?_
   refine ao tk ?_
   refine ah tk rfl (ab (aw 1 tk rfl ?_))
   refine aN rfl H (fun H=>?_) (fun H=>?_)
   ·refine aa (ah tk rfl (al tk ?_))
    refine cj tk (rows' := List.map ap ([x35.1] : List LQuery)) (dH.trans (b := List.map am [x35.1]) (dH.refl _) (dH.of_eq (bN aH [x35.1]))) ?_
    obtain ⟨x42,h42,H⟩ := av H
    have k42 := bE h42
    refine bO (rows2' := List.map ap ([x35.1] : List LQuery)) (rows' := List.map ap x42) tk rfl rfl rfl rfl rfl rfl rfl rfl rfl rfl rfl rfl rfl (dH.refl _) (ce k42.1) (cb k42.2.1) (ca k42.2.2) fun g42=>?_
    refine ah tk rfl (ab (aW (br 3 tk rfl ?_)))
    obtain rfl := az H
    refine kt (x42,(IntKind.i64.wrap (s1.2 + (1 : Int)))) g42 hg1 Gh.d
   refine ax (aW (br 3 tk rfl ?_))
   obtain rfl := az H
   refine kt (s1.1,(IntKind.i64.wrap (s1.2 + (1 : Int)))) g1 hg1 Gh.d
  refine cW rfl ?_
  obtain rfl := az H
  refine aJ (s1.1,s1.2) g1 hg1 Gh.d
 have H := jM hn1 Hp1
 refine aw 1 tk rfl (ac (ac (aa (af 2 tk rfl ?_))))
 obtain ⟨x45,h45,H⟩ := av H
 have s45 := jY sA q _ h45
 refine aq Tryz.call13 (eZ.r) s45 ?_
 refine aB tk (zl _) ?_
 refine ah tk rfl (ab (gQ tk 9 58 (e := 33) rfl rfl ?_))
 refine db (γ := OwnRef) tk 47 46 45 (fun s2 g2=>upd (upd (upd (upd (fun _=>.any) 9 (.own 58 g2 (s2.map ap).length)) 5 (.own 42 g1 (s1.1.map ap).length)) 3 (.ptr (am q))) 2 (.ptr (aD sA))) nB (fun s2 g2=>upd (upd (fun _=>none) 58 (some ⟨g2,33,(s2.map ap),true⟩)) 42 (some ⟨g1,33,(s1.1.map ap),true⟩)) (⟨none,0⟩) H (fun fl2 Hp2 j2 s2 g2 hz2 hl2 x2 fb2 hx2 H hg2=>?_) (fun s2 g2 H=>?_)
 ·refine ac (aE (ac (aa ?_)))
  refine aX tk (zn j2) (bj (fun _=>rfl) hx2) ?_
  refine ah tk rfl ?_
  refine aA tk fun b11=>?_
  refine ao tk ?_
  refine ab (ac (aa (ah tk rfl (al tk ?_))))
  refine ah tk rfl (ab ?_)
  refine aN rfl H (fun H=>?_) (fun H=>?_)
  ·refine aa (af 2 tk rfl (al tk ?_))
   refine cj tk (rows' := List.map ap ([x2.query] : List LQuery)) (dH.trans (b := List.map am [x2.query]) (dH.refl _) (dH.of_eq (bN aH [x2.query]))) ?_
   obtain ⟨x58,h58,H⟩ := av H
   have k58 := bE h58
   refine bO (rows2' := List.map ap ([x2.query] : List LQuery)) (rows' := List.map ap x58) tk rfl rfl rfl rfl rfl rfl rfl rfl rfl rfl rfl rfl rfl (dH.refl _) (ce k58.1) (cb k58.2.1) (ca k58.2.2) fun g58=>?_
   refine ah tk rfl (ab (aW (br 2 tk rfl ?_)))
   exact bq g58 H hl2 hg2
  refine ax (aW (br 2 tk rfl ?_))
  exact bq g2 H hl2 hg2
 refine ac (aa (af 2 tk rfl ?_))
 obtain ⟨x63,h63,H⟩ := av H
 have s63 := ju sA q 0 _ h63
 refine aq Tryz.call15 (eZ.r) s63 ?_
 refine af 3 tk rfl ?_
 refine aA tk fun b12=>?_
 refine ao tk ?_
 refine ah tk rfl (ab (ac (aa (af 2 tk rfl ?_))))
 obtain ⟨x69,h69,H⟩ := av H
 have s69 := ju sA q 17 _ h69
 refine aq Tryz.call15 (eZ.r) s69 ?_
 refine af 3 tk rfl ?_
 refine aA tk fun b14=>?_
 refine ao tk ?_
 refine ah tk rfl (ab (ac (dD 5 rfl rfl rfl (dD 9 rfl rfl rfl (aa (af 2 tk rfl ?_))))))
 obtain ⟨x74,h74,H⟩ := av H
 have s74 := cM s2 s1.1 (fun a0 a1=>jk a0 a1) Tryz.call17 (fun a0 a1 r h=>W_query_Equal a0 a1 r h) _ h74
 refine aq Tryz.call16 (eZ.r) s74 ?_
 refine ah tk rfl ?_
 refine aL rfl rfl rfl H (fun H=>?_) (fun H=>?_)
 ·refine af 4 tk rfl ?_
  refine aL rfl rfl rfl H (fun H=>?_) (fun H=>?_)
  ·refine af 4 tk rfl (ab ?_)
   exact bi tk H rfl
  refine af 4 tk rfl (ab ?_)
  exact bi tk H rfl
 refine af 8 tk rfl (ab ?_)
 exact bi tk H rfl
end
end Go.Proofs.YtlojdffmcdaheaaGreatDoor

namespace Go.Proofs.YtlojdffmcdaheaaGreatDoor
noncomputable section
open Go Go.Ab
theorem LQuery.inputs_lt {q x : LQuery} (h : x ∈ q.inputs) : SizeOf.sizeOf x < SizeOf.sizeOf q := by
 cases q
 simp only [LQuery.inputs] at h
 have := List.sizeOf_lt_of_mem h
 simp only [LQuery.mk.sizeOf_spec]
 omega
theorem LQuery.ind {p : LQuery → Prop} (h : ∀ q : LQuery,(∀ x ∈ q.inputs,p x) → p q) : ∀ q,p q := by
 intro q
 generalize hn : SizeOf.sizeOf q = n
 induction n using Nat.strongRecOn generalizing q with
 | _ n ih=>exact h q fun x hx=>ih _ (hn ▸ LQuery.inputs_lt hx) x rfl
theorem jE {α : Type} {p : α → Nat → Prop} : ∀ (xs : List α),(∀ x ∈ xs,∃ N,∀ n,N ≤ n → p x n) → ∃ N,∀ n,N ≤ n → ∀ x ∈ xs,p x n
 | [],_=>⟨0,fun _ _ x hx=>by simp at hx⟩
 | y :: xs,h=>by
  obtain ⟨N,hN⟩ := h y (by simp)
  obtain ⟨N',hN'⟩ := jE xs fun x hx=>h x (by simp [hx])
  refine ⟨N + N',fun n hn x hx=>?_⟩
  rcases List.mem_cons.1 hx with rfl | hx
  ·exact hN n (by omega)
  ·exact hN' n (by omega) x hx
theorem ii {α σ ρ : Type} {step step' : Nat → α → σ → Option (Flow σ ρ)} : ∀ (xs : List α) (j : Nat) (s : σ),(∀ k x s,xs[k]? = some x → step (j + k) x s = step' (j + k) x s) → aI step j xs s = aI step' j xs s
 | [],_,_,_=>rfl
 | x :: xs,j,s,h=>by
  have h0 := h 0 x s rfl
  rw [Nat.add_zero] at h0
  rw [aI,aI,h0]
  split
  ·rfl
  ·exact ii xs (j + 1) _ fun k y t hk=>by
    have := h (k + 1) y t (by simpa using hk)
    rwa [show j + (k + 1) = j + 1 + k from by omega] at this
  ·rfl
  ·rfl
theorem cy {α : Type} {xs : List α} {k : Nat} {x : α} (h : xs[k]? = some x) : x ∈ xs := List.mem_of_getElem? h
theorem mw {γ β : Type} {F : Nat → γ → LQuery → Option β} {O : (γ → LQuery → Option β) → γ → LQuery → Option β} (hF : ∀ n,F (n + 1) = O (F n)) (c : γ) (q : LQuery)
  (hc : ∀ r r' : γ → LQuery → Option β,(∀ x ∈ q.inputs,r c x = r' c x) → O r c q = O r' c q) (hx : ∀ x ∈ q.inputs,∃ v,fe (fun n=>F n c x) = some v) {r : β} (h : O (fun c q=>fe fun n=>F n c q) c q = some r) :
  fe (fun n=>F n c q) = some r := by
 obtain ⟨N,hN⟩ := jE (p := fun x n=>F n c x = fe fun n=>F n c x) q.inputs (fun x hm=>by
  obtain ⟨v,hv⟩ := hx x hm
  obtain ⟨N,hN⟩ := limN_ev hv
  exact ⟨N,fun n hn=>by rw [hN n hn,hv]⟩)
 refine gX (N + 1) fun m hm=>?_
 obtain ⟨m,rfl⟩ : ∃ k,m = k + 1 := ⟨m - 1,by omega⟩
 rw [hF,hc _ (fun c q=>fe fun n=>F n c q) (hN m (by omega)),h]
def bP (q : LQuery) : List LQuery := q :: (q.inputs.attach.map fun x=>bP x.1).flatten
termination_by SizeOf.sizeOf q
decreasing_by exact LQuery.inputs_lt x.2
theorem cF (q : LQuery) : bP q = q :: (q.inputs.map bP).flatten := by
 rw [bP,List.attach_map_val (f := bP)]
theorem nodesQ_pos (q : LQuery) : 1 ≤ (bP q).length := by rw [cF]; simp
theorem flat_le {α β : Type} {f : α → List β} {xs : List α} {x : α} (h : x ∈ xs) : (f x).length ≤ ((xs.map f).flatten).length := by
 induction xs with
 | nil=>simp at h
 | cons y xs ih =>
  simp only [List.map_cons,List.flatten_cons,List.length_append]
  rcases List.mem_cons.1 h with rfl | h
  ·omega
  ·have := ih h; omega
theorem iB {q x : LQuery} (h : x ∈ q.inputs) : (bP x).length + 1 ≤ (bP q).length := by
 rw [cF q]
 have := flat_le (f := bP) h
 simp only [List.length_cons]
 omega
theorem bL {α : Type} {bytes : Nat} {xs ys : List α} (hb : bytes ≤ 200) (h : xs.length + ys.length ≤ 10000000) : bS bytes xs ys = some (xs ++ ys) := by
 refine appI_ok ?_ (by unfold maxLen; omega)
 have : (xs.length + ys.length) * bytes ≤ 10000000 * 200 := Nat.mul_le_mul h hb
 omega
theorem take_flat {α β : Type} {f : α → List β} {xs : List α} {k : Nat} : (((xs.take k).map f).flatten).length ≤ ((xs.map f).flatten).length := by
 induction xs generalizing k with
 | nil=>simp
 | cons y xs ih =>
  cases k with
  | zero=>simp
  | succ k=>simp only [List.take_succ_cons,List.map_cons,List.flatten_cons,List.length_append]; have := ih (k := k); omega
theorem pg : ∀ q : LQuery,(bP q).length ≤ 10000000 → fU q = some (bP q) := by
 refine LQuery.ind fun q ih hb=>?_
 refine mw (γ := Unit) (F := fun n _ q=>ir n q) (O := fun r _ q=>iq (fun x=>r () x) q) (fun n=>rfl) () q ?_ (fun x hx=>⟨_,ih x hx (by have := iB hx; omega)⟩) ?_
 ·intro r r' h
  simp only [iq]
  congr 1
  exact ii q.inputs 0 _ fun k x s hk=>by rw [h x (cy hk)]
 ·have hr := rMa (step := fun (_ : Nat) (x1 : LQuery) (s1 : List LQuery)=>ag (fU x1) fun x17=>ag (bS 160 s1 x17) fun (x18 : List LQuery)=>some (Flow.next (ρ := Empty) x18)) (xs := q.inputs) (s := [q])
   (fun k=>q :: ((q.inputs.take k).map bP).flatten) (by simp) (fun k x hk=>by
    have hx := cy hk
    rw [ih x hx (by have := iB hx; omega),bPs,bL (by decide),bPs]
    ·rw [List.take_add_one,hk]; simp
    ·have h1 : (((q.inputs.take (k + 1)).map bP).flatten).length ≤ ((q.inputs.map bP).flatten).length := take_flat
     rw [List.take_add_one,hk] at h1
     rw [cF] at hb
     simp at h1 hb ⊢
     omega)
  simp only [iq]
  have e : ∀ x,(fe fun n=>ir n x) = fU x := fun _=>rfl
  simp only [e]
  rw [hr,bPs,bJ,List.take_length,cF]
def dX (a b : Int) : Int := if b > a then b else a
theorem oF {a b c : Int} (h : a ≤ c) (h' : b ≤ c) : dX a b ≤ c := by unfold dX; split <;> assumption
theorem kK (a b : Int) : a ≤ dX a b := by unfold dX; split <;> omega
theorem maxI_r (a b : Int) : b ≤ dX a b := by unfold dX; split <;> omega
def fG (q : LQuery) : Int := (q.inputs.attach.map fun x=>fG x.1).foldl dX 0 + 1
termination_by SizeOf.sizeOf q
decreasing_by exact LQuery.inputs_lt x.2
theorem nG (q : LQuery) : fG q = (q.inputs.map fG).foldl dX 0 + 1 := by
 rw [fG,List.attach_map_val (f := fG)]
theorem pt : ∀ {l : List Int} {a c : Int},a ≤ c → (∀ x ∈ l,x ≤ c) → l.foldl dX a ≤ c
 | [],_,_,h,_=>h
 | x :: l,a,c,h,hl=>pt (l := l) (oF h (hl x (by simp))) fun y hy=>hl y (by simp [hy])
theorem md : ∀ {l : List Int} {a : Int},a ≤ l.foldl dX a ∧ ∀ x ∈ l,x ≤ l.foldl dX a
 | [],a=>⟨Int.le_refl a,by simp⟩
 | x :: l,a=>by
  obtain ⟨h1,h2⟩ := md (l := l) (a := dX a x)
  simp only [List.foldl_cons]
  refine ⟨Int.le_trans (kK a x) h1,fun y hy=>?_⟩
  rcases List.mem_cons.1 hy with rfl | hy
  ·exact Int.le_trans (maxI_r a y) h1
  ·exact h2 y hy
theorem depthQ_nodes : ∀ q : LQuery,1 ≤ fG q ∧ fG q ≤ (bP q).length := by
 refine LQuery.ind fun q ih=>?_
 rw [nG,cF]
 have h1 : (q.inputs.map fG).foldl dX 0 ≤ (((q.inputs.map bP).flatten).length : Nat) := pt (by omega) fun x hx=>by
  obtain ⟨y,hy,rfl⟩ := List.mem_map.1 hx
  have := (ih y hy).2
  have := flat_le (f := bP) hy
  omega
 have h2 := (md (l := q.inputs.map fG) (a := 0)).1
 simp only [List.length_cons]
 omega
theorem depthQ_sub {q x : LQuery} (h : x ∈ q.inputs) : fG x + 1 ≤ fG q := by
 rw [nG q]
 have := (md (l := q.inputs.map fG) (a := 0)).2 (fG x) (List.mem_map.2 ⟨x,h,rfl⟩)
 omega
theorem depth_ok : ∀ q : LQuery,(bP q).length ≤ 10000000 → jm q = some (fG q) := by
 refine LQuery.ind fun q ih hb=>?_
 refine mw (γ := Unit) (F := fun n _ q=>io n q) (O := fun r _ q=>it (fun x=>r () x) q) (fun n=>rfl) () q ?_ (fun x hx=>⟨_,ih x hx (by have := iB hx; omega)⟩) ?_
 ·intro r r' h
  simp only [it]
  congr 1
  exact ii q.inputs 0 _ fun k x s hk=>by rw [h x (cy hk)]
 ·have hr := rMa (step := fun (_ : Nat) (x1 : LQuery) (s1 : Int)=>ag (jm x1) fun x15=>some (Flow.next (ρ := Empty) (if x15 > s1 then x15 else s1))) (xs := q.inputs) (s := 0)
   (fun k=>((q.inputs.take k).map fG).foldl dX 0) (by simp) (fun k x hk=>by
    have hx := cy hk
    rw [ih x hx (by have := iB hx; omega),bPs,List.take_add_one,hk]
    simp [dX])
  simp only [it]
  have e : ∀ x,(fe fun n=>io n x) = jm x := fun _=>rfl
  simp only [e]
  rw [hr,bPs,bJ,List.take_length,nG]
  have h := depthQ_nodes q
  rw [nG] at h
  rw [fR (by omega) (by omega)]
def capI (n : Int) : Int := if 20001 < n then 20001 else n
def jd (kind : Int) (s : Int × Int) (j : Nat) (x : Int × Int) : Int × Int :=
 (capI (if j = 0 then x.1 else if kind = 6 then s.1 + x.1 else if kind = 4 ∨ kind = 5 then s.1 * dX 1 x.1 else s.1),dX s.2 x.2)
def dz (kind : Int) : Nat → List (Int × Int) → Int × Int → Int × Int
 | _,[],s=>s
 | j,x :: l,s=>dz kind (j + 1) l (jd kind s j x)
def eP (q : LQuery) : Int × Int :=
 let s := dz q.kind 0 (q.inputs.attach.map fun x=>eP x.1) (0,0)
 if q.kind = 1 then (24,dX s.2 24) else (s.1,dX s.2 s.1)
termination_by SizeOf.sizeOf q
decreasing_by exact LQuery.inputs_lt x.2
theorem mostQ_eq (q : LQuery) : eP q = if q.kind = 1 then (24,dX (dz q.kind 0 (q.inputs.map eP) (0,0)).2 24) else ((dz q.kind 0 (q.inputs.map eP) (0,0)).1,dX (dz q.kind 0 (q.inputs.map eP) (0,0)).2 (dz q.kind 0 (q.inputs.map eP) (0,0)).1) := by
 rw [eP,List.attach_map_val (f := eP)]
def lF (s : Int × Int) : Prop := 0 ≤ s.1 ∧ s.1 ≤ 20001 ∧ 0 ≤ s.2 ∧ s.2 ≤ 20001
theorem capI_b {n : Int} (h : 0 ≤ n) : 0 ≤ capI n ∧ capI n ≤ 20001 := by unfold capI; split <;> omega
theorem mostStep_r {kind : Int} {s x : Int × Int} {j : Nat} (hs : lF s) (hx : lF x) : lF (jd kind s j x) := by
 obtain ⟨a1,a2,a3,a4⟩ := hs
 obtain ⟨b1,b2,b3,b4⟩ := hx
 unfold jd
 have h1 : 0 ≤ (if j = 0 then x.1 else if kind = 6 then s.1 + x.1 else if kind = 4 ∨ kind = 5 then s.1 * dX 1 x.1 else s.1) := by
  split
  ·exact b1
  ·split
   ·omega
   ·split
    ·exact Int.mul_nonneg a1 (Int.le_trans (by decide) (kK 1 x.1))
    ·exact a1
 exact ⟨(capI_b h1).1,(capI_b h1).2,Int.le_trans a3 (kK _ _),oF a4 b4⟩
theorem pp {kind : Int} : ∀ {l : List (Int × Int)} {j : Nat} {s : Int × Int},lF s → (∀ x ∈ l,lF x) → lF (dz kind j l s)
 | [],_,_,h,_=>h
 | x :: l,j,s,h,hl=>pp (l := l) (mostStep_r h (hl x (by simp))) fun y hy=>hl y (by simp [hy])
theorem mostQ_r : ∀ q : LQuery,lF (eP q) := by
 refine LQuery.ind fun q ih=>?_
 rw [mostQ_eq]
 have h : lF (dz q.kind 0 (q.inputs.map eP) (0,0)) := pp ⟨by decide,by decide,by decide,by decide⟩ fun x hx=>by
  obtain ⟨y,hy,rfl⟩ := List.mem_map.1 hx
  exact ih y hy
 obtain ⟨a1,a2,a3,a4⟩ := h
 split
 ·exact ⟨show (0 : Int) ≤ 24 by decide,show (24 : Int) ≤ 20001 by decide,Int.le_trans a3 (kK _ _),oF a4 (by decide)⟩
 ·exact ⟨a1,a2,Int.le_trans a3 (kK _ _),oF a4 a2⟩
theorem qa (kind : Int) : ∀ (l : List (Int × Int)) (j : Nat) (s x : Int × Int),dz kind j (l ++ [x]) s = jd kind (dz kind j l s) (j + l.length) x
 | [],j,s,x=>by simp [dz]
 | y :: l,j,s,x=>by
  rw [List.cons_append,dz,qa kind l (j + 1),dz]
  congr 1
  simp
  omega
theorem mostStep_run {kind : Int} {s x : Int × Int} {j : Nat} (hs : lF s) (hx : lF x) :
  (cond ((j : Int) == (0 : Int))
   (some (Flow.next (ρ := Empty) ((if (20001 : Int) < x.1 then (20001 : Int) else x.1),(if x.2 > s.2 then x.2 else s.2))))
   (cond (kind == (6 : Int))
    (some (.next ((if (20001 : Int) < (IntKind.i64.wrap (s.1 + x.1)) then (20001 : Int) else (IntKind.i64.wrap (s.1 + x.1))),(if x.2 > s.2 then x.2 else s.2))))
    (bs (
     cond (kind == (4 : Int))
      (true)
      ((kind == (5 : Int)))) fun (t4 : Bool) =>
    cond t4
     (some (.next ((if (20001 : Int) < (IntKind.i64.wrap (s.1 * (if x.1 > (1 : Int) then x.1 else (1 : Int)))) then (20001 : Int) else (IntKind.i64.wrap (s.1 * (if x.1 > (1 : Int) then x.1 else (1 : Int))))),(if x.2 > s.2 then x.2 else s.2))))
     (some (.next ((if (20001 : Int) < s.1 then (20001 : Int) else s.1),(if x.2 > s.2 then x.2 else s.2))))))) = some (.next (jd kind s j x)) := by
 obtain ⟨a1,a2,a3,a4⟩ := hs
 obtain ⟨b1,b2,b3,b4⟩ := hx
 have hm : 1 ≤ dX 1 x.1 ∧ dX 1 x.1 ≤ 20001 := ⟨kK _ _,oF (by decide) b2⟩
 have hp : 0 ≤ s.1 * dX 1 x.1 ∧ s.1 * dX 1 x.1 ≤ 20001 * 20001 := ⟨Int.mul_nonneg a1 (by omega),Int.mul_le_mul a2 hm.2 (by omega) (by decide)⟩
 have hw1 : IntKind.i64.wrap (s.1 + x.1) = s.1 + x.1 := fR (by omega) (by omega)
 have hw2 : IntKind.i64.wrap (s.1 * (if x.1 > (1 : Int) then x.1 else (1 : Int))) = s.1 * dX 1 x.1 := fR (by show _ ≤ s.1 * dX 1 x.1; omega) (by show s.1 * dX 1 x.1 ≤ _; omega)
 rw [hw1,hw2]
 unfold jd capI dX bs
 by_cases h0 : j = 0
 ·subst h0; simp
 ·have : ((j : Int) == (0 : Int)) = false := by simp; omega
  rw [this]
  by_cases h6 : kind = 6
  ·subst h6; simp [h0]
  ·by_cases h4 : kind = 4
   ·subst h4; simp [h0]
   ·by_cases h5 : kind = 5
    ·subst h5; simp [h0]
    ·have e6 : (kind == (6 : Int)) = false := by simpa using h6
     have e4 : (kind == (4 : Int)) = false := by simpa using h4
     have e5 : (kind == (5 : Int)) = false := by simpa using h5
     simp [h0,h6,h4,h5,e6,e4,e5]
theorem most_ok : ∀ q : LQuery,kU q = some (eP q) := by
 refine LQuery.ind fun q ih=>?_
 refine mw (γ := Unit) (F := fun n _ q=>iP n q) (O := fun r _ q=>iQ (fun x=>r () x) q) (fun n=>rfl) () q ?_ (fun x hx=>⟨_,ih x hx⟩) ?_
 ·intro r r' h
  simp only [iQ]
  congr 1
  exact ii q.inputs 0 _ fun k x s hk=>by rw [h x (cy hk)]
 ·simp only [iQ]
  have e : ∀ x,(fe fun n=>iP n x) = kU x := fun _=>rfl
  simp only [e]
  rw [rMa (xs := q.inputs) (s := (0,0)) (fun k=>dz q.kind 0 ((q.inputs.take k).map eP) (0,0)) (by simp [dz]) (fun k x hk=>by
    have hx := cy hk
    rw [ih x hx,bPs,mostStep_run (pp ⟨by decide,by decide,by decide,by decide⟩ fun y hy=>by
     obtain ⟨z,_,rfl⟩ := List.mem_map.1 hy
     exact mostQ_r z) (mostQ_r x),List.take_add_one,hk]
    have hk' := (zg.1 hk).1
    simp only [Option.toList_some,List.map_append,List.map_cons,List.map_nil]
    rw [qa]
    congr 3
    simp
    omega)]
  rw [bPs,bJ,List.take_length,mostQ_eq]
  by_cases h1 : q.kind = 1
  ·simp [h1,dX]
  ·have : (q.kind == (1 : Int)) = false := by simpa using h1
   simp [h1,this,dX]
def mX : List (Int → Int) → Int → Int
 | [],s=>s
 | f :: l,s=>if s < 0 then -1 else mX l (f (IntKind.i64.wrap (s - 1)))
def sizeHere (q : LQuery) (m : Int) : Int :=
 q.aggregates.foldl (fun s a=>a.args.foldl (fun s e=>hP e (IntKind.i64.wrap (s - 1))) s) (q.exprs.foldl (fun s e=>hP e (IntKind.i64.wrap (s - 1))) m)
def kH (q : LQuery) : Int → Int := fun m=>mX (q.inputs.attach.map fun x=>kH x.1) (sizeHere q m)
termination_by SizeOf.sizeOf q
decreasing_by exact LQuery.inputs_lt x.2
theorem sizeQ_eq (q : LQuery) (m : Int) : kH q m = mX (q.inputs.map kH) (sizeHere q m) := by
 rw [kH,List.attach_map_val (f := kH)]
theorem qf {f : LQuery → Int → Option Int} : ∀ (l : List LQuery) (j : Nat) (s : Int),(∀ x ∈ l,∀ m,f x m = some (kH x m)) →
  ag (aI (σ := Int) (ρ := Int) (fun (_ : Nat) (x6 : LQuery) (s6 : Int)=>cond (decide (s6 < (0 : Int))) (some (.ret (-1))) (ag (f x6 (IntKind.i64.wrap (s6 - (1 : Int)))) fun x57=>some (.next x57))) j l s) (fun fl6=>fl6.thenR fun (s6 : Int)=>some s6) = some (mX (l.map kH) s)
 | [],j,s,_=>rfl
 | x :: l,j,s,h=>by
  rw [aI,List.map_cons,mX]
  by_cases hs : s < 0
  ·simp [hs]
  ·simp only [hs,decide_false,zd,if_false]
   rw [h x (by simp),bPs]
   exact qf l (j + 1) _ fun y hy=>h y (by simp [hy])
theorem size_ok : ∀ (q : LQuery) (m : Int),kq q m = some (kH q m) := by
 have key : ∀ q : LQuery,∃ N,∀ n,N ≤ n → ∀ m,fo n q m = some (kH q m) := by
  refine LQuery.ind fun q ih=>?_
  obtain ⟨N,hN⟩ := jE (p := fun x n=>∀ m,fo n x m = some (kH x m)) q.inputs ih
  refine ⟨N + 1,fun n hn m=>?_⟩
  obtain ⟨n,rfl⟩ : ∃ k,n = k + 1 := ⟨n - 1,by omega⟩
  rw [fo]
  simp only [je,bg]
  rw [nT (xs := q.exprs) (fun s e=>hP e (IntKind.i64.wrap (s - 1))) (fun _ _ _=>rfl),bPs,bJ]
  rw [nT (xs := q.aggregates) (fun s a=>a.args.foldl (fun s e=>hP e (IntKind.i64.wrap (s - 1))) s) (fun k a _=>by
   rw [nT (xs := a.args) (fun s e=>hP e (IntKind.i64.wrap (s - 1))) (fun _ _ _=>rfl),bPs,bJ]),bPs,bJ]
  rw [qf q.inputs 0 _ (hN n (by omega)),sizeQ_eq]
  rfl
 intro q m
 obtain ⟨N,hN⟩ := key q
 exact gX N fun n hn=>hN n hn m
theorem LExpr.args_lt {e x : LExpr} (h : x ∈ e.args) : SizeOf.sizeOf x < SizeOf.sizeOf e := by
 cases e
 simp only [LExpr.args] at h
 have := List.sizeOf_lt_of_mem h
 simp only [LExpr.mk.sizeOf_spec]
 omega
theorem LExpr.ind {p : LExpr → Prop} (h : ∀ e : LExpr,(∀ x ∈ e.args,p x) → p e) : ∀ e,p e := by
 intro e
 generalize hn : SizeOf.sizeOf e = n
 induction n using Nat.strongRecOn generalizing e with
 | _ n ih=>exact h e fun x hx=>ih _ (hn ▸ LExpr.args_lt hx) x rfl
def iv (e : LExpr) : List (Nat × Int) := if e.kind = 3 ∧ 0 ≤ e.index ∧ e.index < 8 then [(e.index.toNat,e.value.kind)] else []
def dl (e : LExpr) : List (Nat × Int) := iv e ++ (e.args.attach.map fun x=>dl x.1).flatten
termination_by SizeOf.sizeOf e
decreasing_by exact LExpr.args_lt x.2
theorem oI (e : LExpr) : dl e = iv e ++ (e.args.map dl).flatten := by
 rw [dl,List.attach_map_val (f := dl)]
abbrev PSt := List Int × Bool × List Bool
def gH (out : List Int) (i : Nat) : List Int := out ++ List.replicate (i + 1 - out.length) 0
def dM (s : PSt) (p : Nat × Int) : PSt :=
 ((gH s.1 p.1).set p.1 p.2,s.2.1 || (s.2.2.getD p.1 false && (gH s.1 p.1).getD p.1 0 != p.2),s.2.2.set p.1 true)
def POk (s : PSt) : Prop := s.1.length ≤ 8 ∧ s.2.2.length = 8
theorem lN (out : List Int) (i : Nat) : (gH out i).length = max out.length (i + 1) := by simp [gH]; omega
theorem pstep_ok {s : PSt} {p : Nat × Int} (h : POk s) (hp : p.1 < 8) : POk (dM s p) := by
 refine ⟨?_,by simp [dM,h.2]⟩
 show ((gH s.1 p.1).set p.1 p.2).length ≤ 8
 rw [List.length_set,lN]
 have := h.1
 omega
theorem kF : ∀ e : LExpr,∀ p ∈ dl e,p.1 < 8 := by
 refine LExpr.ind fun e ih p hp=>?_
 rw [oI,List.mem_append] at hp
 rcases hp with hp | hp
 ·unfold iv at hp
  split at hp
  ·rename_i h; simp at hp; subst hp; simp; omega
  ·simp at hp
 ·obtain ⟨l,hl,hp⟩ := List.mem_flatten.1 hp
  obtain ⟨x,hx,rfl⟩ := List.mem_map.1 hl
  exact ih x hx p hp
theorem ku : ∀ {l : List (Nat × Int)} {s : PSt},POk s → (∀ p ∈ l,p.1 < 8) → POk (l.foldl dM s)
 | [],_,h,_=>h
 | p :: l,s,h,hl=>ku (l := l) (pstep_ok h (hl p (by simp))) fun q hq=>hl q (by simp [hq])
theorem pad_while (i : Nat) (hi : i < 8) : ∀ (n : Nat) (out : List Int),i + 1 - out.length = n → out.length ≤ 8 →
  iF (σ := List Int) (ρ := Empty) (fun (s7 : List Int)=>cond (decide ((s7.length : Int) ≤ (i : Int))) (ag (bS 8 s7 ([0] : List Int)) fun (x28 : List Int)=>some (.next x28)) (some (.brk s7))) out = some (.next (gH out i))
 | 0,out,hn,ho=>by
  refine jU (fl := .brk out) ?_ ?_
  ·have : ¬ ((out.length : Int) ≤ (i : Int)) := by omega
   simp [this]
  ·simp [gH,hn]
 | n + 1,out,hn,ho=>by
  refine jU (fl := .next (out ++ [0])) ?_ ?_
  ·have : (out.length : Int) ≤ (i : Int) := by omega
   simp only [this,decide_true,zc]
   rw [bL (by decide) (by simp; omega)]
   rfl
  ·have := pad_while i hi n (out ++ [0]) (by simp; omega) (by simp; omega)
   simp only
   rw [this]
   simp only [gH,List.length_append,List.length_singleton,List.append_assoc,hn]
   rw [show i + 1 - (out.length + 1) = n from by omega,show (List.replicate (n + 1) (0 : Int)) = [0] ++ List.replicate n 0 from rfl]
theorem arrI_at {xs : List Bool} {i : Nat} (h : xs.length = 8) (hi : i < 8) : arrI 8 xs (i : Int) = some (xs.getD i false) := by
 have : xs[i]? = some (xs.getD i false) := by rw [List.getD_eq_getElem?_getD,ze (by omega)]; rfl
 exact arrI_eq (by omega) (by simpa using this)
theorem getI_at {xs : List Int} {i : Nat} (h : i < xs.length) : aR xs (i : Int) = some (xs.getD i 0) := by
 have : xs[i]? = some (xs.getD i 0) := by rw [List.getD_eq_getElem?_getD,ze h]; rfl
 exact iG this
theorem look_ok : ∀ e : LExpr,∃ N,∀ n,N ≤ n → ∀ s : PSt,POk s → cD n e s.1 s.2.1 s.2.2 = some ((dl e).foldl dM s) := by
 refine LExpr.ind fun e ih=>?_
 obtain ⟨N,hN⟩ := jE (p := fun x n=>∀ s : PSt,POk s → cD n x s.1 s.2.1 s.2.2 = some ((dl x).foldl dM s)) e.args ih
 refine ⟨N + 1,fun n hn s hs=>?_⟩
 obtain ⟨n,rfl⟩ : ∃ k,n = k + 1 := ⟨n - 1,by omega⟩
 rw [cD]
 simp only [fH]
 have h1 : POk ((iv e).foldl dM s) := ku hs fun p hp=>kF e p (by rw [oI]; simp [hp])
 have hloop : ∀ s : PSt,POk s → ag (aI (σ := List Int × Bool × List Bool) (ρ := Empty) (fun (_ : Nat) (x11 : LExpr) (s11 : List Int × Bool × List Bool) =>
   ag (cD n x11 s11.1 s11.2.1 s11.2.2) fun x66=>some (.next (x66.1,x66.2.1,x66.2.2))) 0 e.args (s.1,s.2.1,s.2.2)) (fun fl11=>fl11.thenP fun (s11 : List Int × Bool × List Bool)=>some (s11.1,s11.2.1,s11.2.2)) =
   some (((e.args.map dl).flatten).foldl dM s) := by
  intro s hs
  rw [rMa (xs := e.args) (s := (s.1,s.2.1,s.2.2)) (fun k=>(((e.args.take k).map dl).flatten).foldl dM s) rfl (fun k x hk=>by
   have hx := cy hk
   have hok : POk ((((e.args.take k).map dl).flatten).foldl dM s) := ku hs fun p hp=>by
    obtain ⟨l,hl,hp⟩ := List.mem_flatten.1 hp
    obtain ⟨y,hy,rfl⟩ := List.mem_map.1 hl
    exact kF y p hp
   rw [hN n (by omega) x hx _ hok,bPs,List.take_add_one,hk]
   simp)]
  rw [bPs,bJ,List.take_length]
 have key : (ag (cond (bs (cond (e.kind == (3 : Int)) (cond (decide (e.index ≥ (0 : Int))) ((decide (e.index < (8 : Int)))) (false)) (false)) fun (t1 : Bool)=>t1)
   (ag (iF (σ := List Int) (ρ := Empty) (fun (s7 : List Int)=>cond (decide ((s7.length : Int) ≤ e.index)) (ag (bS 8 s7 ([0] : List Int)) fun (x28 : List Int)=>some (.next x28)) (some (.brk s7))) s.1) fun fl7=>fl7.thenP fun (s7 : List Int) =>
   ag (cond s.2.1 (some true) (ag (arrI 8 s.2.2 e.index) fun (x33 : Bool)=>cond x33 (ag (aR s7 e.index) fun (x39 : Int)=>some (x39 != e.value.kind)) (some false))) fun (t8 : Bool) =>
   ag (aR s7 e.index) fun (_ : Int)=>bs (s7.set e.index.toNat e.value.kind) fun (y9 : List Int)=>ag (arrI 8 s.2.2 e.index) fun (_ : Bool)=>bs (s.2.2.set e.index.toNat true) fun (y10 : List Bool)=>some (y9,t8,y10))
   (some (s.1,s.2.1,s.2.2))) fun t=>some t) = some ((iv e).foldl dM s) := by
  unfold bs
  by_cases hc : e.kind = 3 ∧ 0 ≤ e.index ∧ e.index < 8
  ·obtain ⟨hk,h0,h8⟩ := hc
   obtain ⟨i,hi⟩ : ∃ i : Nat,e.index = i := ⟨e.index.toNat,by omega⟩
   have hi8 : i < 8 := by omega
   have e0 : (e.kind == (3 : Int)) = true := by simpa using hk
   have e1 : decide (e.index ≥ (0 : Int)) = true := zt h0
   have e2 : decide (e.index < (8 : Int)) = true := zt h8
   rw [e0,e1,e2]
   simp only [zc]
   rw [hi,pad_while i hi8 _ s.1 rfl hs.1]
   simp only [bPs,bJ]
   have hl : i < (gH s.1 i).length := by rw [lN]; omega
   rw [arrI_at hs.2 hi8,getI_at hl]
   simp only [bPs,Int.toNat_natCast]
   have hh : iv e = [(i,e.value.kind)] := by unfold iv; rw [zp ⟨hk,h0,h8⟩,hi,Int.toNat_natCast]
   rw [hh]
   simp only [List.foldl_cons,List.foldl_nil,dM]
   cases hb : s.2.1 <;> cases hc : s.2.2.getD i false <;> simp
  ·have hh : iv e = [] := by unfold iv; rw [zy hc]
   rw [hh]
   have e0 : (cond (e.kind == (3 : Int)) (cond (decide (e.index ≥ (0 : Int))) ((decide (e.index < (8 : Int)))) (false)) (false)) = false := by
    by_cases a : e.kind = 3
    ·by_cases b : 0 ≤ e.index
     ·have : ¬ e.index < 8 := fun h=>hc ⟨a,b,h⟩
      simp [this]
     ·have : ¬ e.index ≥ 0 := b
      simp [this]
    ·have : (e.kind == (3 : Int)) = false := by simpa using a
     simp [this]
   rw [e0]
   rfl
 simp only [bg] at key ⊢
 rw [oI,List.foldl_append,← hloop _ h1]
 generalize hg : (cond _ _ _ : Option PSt) = o at key
 cases o with
 | none=>cases key
 | some t =>
  simp only [bPs,zo] at key
  subst key
  rfl
theorem look_eq (e : LExpr) {s : PSt} (h : POk s) : ez e s.1 s.2.1 s.2.2 = some ((dl e).foldl dM s) := by
 obtain ⟨N,hN⟩ := look_ok e
 exact gX N fun n hn=>hN n hn s h
def iS (x : LQuery) : List (Nat × Int) := (x.exprs.map dl).flatten ++ (x.aggregates.map fun a=>(a.args.map dl).flatten).flatten
def jP (q : LQuery) : List (Nat × Int) := ((bP q).map iS).flatten
theorem mn {x : LQuery} : ∀ p ∈ iS x,p.1 < 8 := by
 intro p hp
 rcases List.mem_append.1 hp with hp | hp
 ·obtain ⟨l,hl,hp⟩ := List.mem_flatten.1 hp
  obtain ⟨e,_,rfl⟩ := List.mem_map.1 hl
  exact kF e p hp
 ·obtain ⟨l,hl,hp⟩ := List.mem_flatten.1 hp
  obtain ⟨a,_,rfl⟩ := List.mem_map.1 hl
  obtain ⟨l,hl,hp⟩ := List.mem_flatten.1 hp
  obtain ⟨e,_,rfl⟩ := List.mem_map.1 hl
  exact kF e p hp
theorem paramsQ_lt {q : LQuery} : ∀ p ∈ jP q,p.1 < 8 := by
 intro p hp
 obtain ⟨l,hl,hp⟩ := List.mem_flatten.1 hp
 obtain ⟨x,_,rfl⟩ := List.mem_map.1 hl
 exact mn p hp
theorem lookAll {l : List LExpr} {s : PSt} (h : POk s) : aI (σ := PSt) (ρ := Empty) (fun (_ : Nat) (x12 : LExpr) (s12 : PSt) =>
   ag (ez x12 s12.1 s12.2.1 s12.2.2) fun x33=>some (.next (x33.1,x33.2.1,x33.2.2))) 0 l (s.1,s.2.1,s.2.2) = some (.next (((l.map dl).flatten).foldl dM s)) := by
 rw [rMa (xs := l) (s := (s.1,s.2.1,s.2.2)) (fun k=>(((l.take k).map dl).flatten).foldl dM s) rfl (fun k x hk=>by
  have hok : POk ((((l.take k).map dl).flatten).foldl dM s) := ku h fun p hp=>by
   obtain ⟨m,hm,hp⟩ := List.mem_flatten.1 hp
   obtain ⟨y,hy,rfl⟩ := List.mem_map.1 hm
   exact kF y p hp
  rw [look_eq x hok,bPs,List.take_add_one,hk]
  simp),List.take_length]
def iU (q : LQuery) : PSt := (jP q).foldl dM ([],false,List.replicate 8 false)
theorem kinds_ok {q : LQuery} (hb : (bP q).length ≤ 10000000) : fc q = some (cond (iU q).2.1 ([],13) ((iU q).1,0)) := by
 unfold fc
 rw [pg q hb,bPs]
 rw [rMa (xs := bP q) (s := ([],false,List.replicate 8 false)) (fun k=>((((bP q).take k).map iS).flatten).foldl dM ([],false,List.replicate 8 false)) rfl (fun k x hk=>by
  have hok : POk (((((bP q).take k).map iS).flatten).foldl dM ([],false,List.replicate 8 false)) := ku ⟨by simp,by simp⟩ fun p hp=>by
   obtain ⟨m,hm,hp⟩ := List.mem_flatten.1 hp
   obtain ⟨y,hy,rfl⟩ := List.mem_map.1 hm
   exact mn p hp
  rw [lookAll hok,bPs,bJ]
  rw [show ((((bP q).take (k + 1)).map iS).flatten).foldl dM ([],false,List.replicate 8 false) = (iS x).foldl dM (((((bP q).take k).map iS).flatten).foldl dM ([],false,List.replicate 8 false)) from by
   rw [List.take_add_one,hk]
   simp only [Option.toList_some,List.map_append,List.map_cons,List.map_nil,List.flatten_append,List.flatten_cons,List.flatten_nil,List.append_nil,List.foldl_append]]
  generalize (((((bP q).take k).map iS).flatten).foldl dM ([],false,List.replicate 8 false)) = s at hok ⊢
  have hok2 : POk (((x.exprs.map dl).flatten).foldl dM s) := ku hok fun p hp=>mn (x := x) p (by unfold iS; simp only [List.mem_append]; exact .inl hp)
  rw [rMa (xs := x.aggregates) (s := ((((x.exprs.map dl).flatten).foldl dM s).1,(((x.exprs.map dl).flatten).foldl dM s).2.1,(((x.exprs.map dl).flatten).foldl dM s).2.2))
   (fun k=>((((x.aggregates.take k).map fun a=>(a.args.map dl).flatten).flatten).foldl dM (((x.exprs.map dl).flatten).foldl dM s))) rfl (fun k a ha=>by
    have hok3 : POk ((((x.aggregates.take k).map fun a=>(a.args.map dl).flatten).flatten).foldl dM (((x.exprs.map dl).flatten).foldl dM s)) := ku hok2 fun p hp=>mn (x := x) p (by
     unfold iS
     simp only [List.mem_append]
     obtain ⟨m,hm,hp⟩ := List.mem_flatten.1 hp
     obtain ⟨y,hy,rfl⟩ := List.mem_map.1 hm
     exact .inr (List.mem_flatten.2 ⟨_,List.mem_map.2 ⟨y,List.mem_of_mem_take hy,rfl⟩,hp⟩))
    rw [lookAll hok3,bPs,bJ,List.take_add_one,ha]
    simp)]
  rw [bPs,bJ,List.take_length]
  unfold iS
  rw [List.foldl_append])]
 rw [bPs,bJ,List.take_length]
 show (cond (iU q).2.1 (some ([],13)) (some ((iU q).1,0))) = _
 cases (iU q).2.1 <;> rfl
def qk (l : List (Nat × Int)) : Prop := ∀ i k k',(i,k) ∈ l → (i,k') ∈ l → k = k'
structure PInv (l : List (Nat × Int)) (s : PSt) : Prop where
 ok : POk s
 seen : ∀ i,i < 8 → (s.2.2.getD i false = true ↔ ∃ k,(i,k) ∈ l)
 len : ∀ i k,(i,k) ∈ l → i < s.1.length
 last : s.1.length = 0 ∨ ∃ k,(s.1.length - 1,k) ∈ l
 zero : ∀ i,(∀ k,(i,k) ∉ l) → s.1.getD i 0 = 0
 good : s.2.1 = false → ∀ i k,(i,k) ∈ l → s.1.getD i 0 = k
 bad : qk l → s.2.1 = false
theorem nJ (out : List Int) (i j : Nat) : (gH out i).getD j 0 = out.getD j 0 := by
 simp only [gH,List.getD_eq_getElem?_getD]
 by_cases h : j < out.length
 ·rw [List.getElem?_append_left h]
 ·rw [List.getElem?_append_right (by omega),List.getElem?_eq_none (l := out) (by omega),List.getElem?_replicate]
  split <;> rfl
theorem PInv.init : PInv [] ([],false,List.replicate 8 false) :=
 ⟨⟨by simp,by simp⟩,fun i hi=>by
  have : (List.replicate 8 false).getD i false = false := by rw [List.getD_eq_getElem?_getD,List.getElem?_replicate]; split <;> rfl
  exact ⟨fun h=>(by rw [show (([],false,List.replicate 8 false) : PSt).2.2 = List.replicate 8 false from rfl,this] at h; cases h),fun ⟨k,hk⟩=>(by simp at hk)⟩,fun i k h=>by simp at h,.inl rfl,fun i _=>by simp,fun _ i k h=>by simp at h,fun _=>rfl⟩
theorem PInv.step {l : List (Nat × Int)} {s : PSt} (h : PInv l s) {p : Nat × Int} (hp : p.1 < 8) : PInv (l ++ [p]) (dM s p) := by
 obtain ⟨i,k⟩ := p
 simp only at hp
 have hset : ∀ (xs : List Int) (j : Nat) (v : Int),i < xs.length → (xs.set i v).getD j 0 = if j = i then v else xs.getD j 0 := by
  intro xs j v hl
  rw [List.getD_eq_getElem?_getD,List.getD_eq_getElem?_getD,List.getElem?_set]
  by_cases hji : i = j
  ·subst hji; simp [hl]
  ·have : j ≠ i := fun h=>hji h.symm
   simp [hji,this]
 have hl1 : i < (gH s.1 i).length := by rw [lN]; omega
 refine ⟨pstep_ok h.ok hp,fun j hj=>?_,fun j k' hm=>?_,?_,fun j hno=>?_,fun hb j k' hm=>?_,fun hk=>?_⟩
 ·show (s.2.2.set i true).getD j false = true ↔ _
  rw [List.getD_eq_getElem?_getD,List.getElem?_set]
  by_cases hji : i = j
  ·subst hji
   have : i < s.2.2.length := by rw [h.ok.2]; exact hp
   simp [this]
  ·have h1 := h.seen j hj
   rw [List.getD_eq_getElem?_getD] at h1
   have hji' : j ≠ i := fun h=>hji h.symm
   simp only [hji,if_false,h1,List.mem_append,List.mem_singleton,Prod.mk.injEq,hji',false_and,or_false]
 ·show j < ((gH s.1 i).set i k).length
  rw [List.length_set,lN]
  rcases List.mem_append.1 hm with hm | hm
  ·have := h.len j k' hm; omega
  ·simp at hm; omega
 ·show ((gH s.1 i).set i k).length = 0 ∨ ∃ k',(((gH s.1 i).set i k).length - 1,k') ∈ l ++ [(i,k)]
  rw [List.length_set,lN]
  by_cases hle : s.1.length ≤ i + 1
  ·right
   exact ⟨k,by rw [show max s.1.length (i + 1) - 1 = i from by omega]; simp⟩
  ·rcases h.last with h0 | ⟨k',hk'⟩
   ·omega
   ·right
    exact ⟨k',by rw [show max s.1.length (i + 1) - 1 = s.1.length - 1 from by omega]; simp [hk']⟩
 ·show ((gH s.1 i).set i k).getD j 0 = 0
  have hji : j ≠ i := fun e=>hno k (by simp [e])
  rw [hset _ _ _ hl1,zy hji,nJ]
  exact h.zero j fun k' hm=>hno k' (by simp [hm])
 ·have hb' : s.2.1 = false ∧ (s.2.2.getD i false && (gH s.1 i).getD i 0 != k) = false := by
   have : (s.2.1 || (s.2.2.getD i false && (gH s.1 i).getD i 0 != k)) = false := hb
   simpa using this
  show ((gH s.1 i).set i k).getD j 0 = k'
  rw [hset _ _ _ hl1]
  have hold := h.good hb'.1
  rcases List.mem_append.1 hm with hm1 | hm
  ·by_cases hji : j = i
   ·subst hji
    rw [zp rfl]
    have hs := (h.seen j hp).2 ⟨k',hm1⟩
    have := hb'.2
    rw [hs,nJ,hold j k' hm1] at this
    simp at this
    exact this.symm
   ·rw [zy hji,nJ]
    exact hold j k' hm1
  ·simp at hm
   rw [zp hm.1,hm.2]
 ·have h1 := h.bad fun i k k' a b=>hk i k k' (by simp [a]) (by simp [b])
  show (s.2.1 || (s.2.2.getD i false && (gH s.1 i).getD i 0 != k)) = false
  rw [h1,Bool.false_or,nJ]
  cases hs : s.2.2.getD i false with
  | false=>rfl
  | true =>
   obtain ⟨k',hk'⟩ := (h.seen i hp).1 hs
   rw [h.good h1 i k' hk',hk i k' k (by simp [hk']) (by simp)]
   simp
theorem PInv.fold : ∀ {r l : List (Nat × Int)} {s : PSt},PInv l s → (∀ p ∈ r,p.1 < 8) → PInv (l ++ r) (r.foldl dM s)
 | [],l,s,h,_=>by simpa using h
 | p :: r,l,s,h,hr=>by
  have := PInv.fold (r := r) (h.step (hr p (by simp))) fun q hq=>hr q (by simp [hq])
  simpa using this
theorem kinds_inv (q : LQuery) : PInv (jP q) (iU q) := by
 have := PInv.fold (r := jP q) PInv.init paramsQ_lt
 rw [List.nil_append] at this
 exact this
theorem kinds_bad {q : LQuery} : (iU q).2.1 = false ↔ qk (jP q) := by
 have h := kinds_inv q
 refine ⟨fun hb i k k' a b=>?_,h.bad⟩
 rw [← h.good hb i k a,← h.good hb i k' b]
def Tot {α : Type} (o : Option α) : Prop := ∃ v,o = some v
theorem Tot.mk {α : Type} {v : α} : Tot (Option.some v) := ⟨v,rfl⟩
theorem Tot.bind {α β : Type} {o : Option α} {k : α → Option β} (h : Tot o) (hk : ∀ v,o = some v → Tot (k v)) : Tot (ag o k) := by
 obtain ⟨v,hv⟩ := h
 rw [hv]
 exact hk v hv
theorem Tot.cond {α : Type} {b : Bool} {x y : Option α} (hx : b = true → Tot x) (hy : b = false → Tot y) : Tot (cond b x y) := by
 cases b
 ·exact hy rfl
 ·exact hx rfl
theorem Tot.get {α : Type} {xs : List α} {i : Int} (h0 : 0 ≤ i) (h : i < xs.length) : Tot (aR xs i) := by
 have : i.toNat < xs.length := by omega
 exact ⟨xs[i.toNat],kw h0 (ze this)⟩
theorem Tot.sub {α : Type} {xs : List α} {a b : Int} (h : 0 ≤ a ∧ a ≤ b ∧ b ≤ xs.length) : Tot (kG xs a b) := ⟨_,subI_ok h⟩
theorem Tot.range {α σ ρ : Type} {step : Nat → α → σ → Option (Flow σ ρ)} : ∀ (xs : List α) (j : Nat) (s : σ),(∀ k x s,xs[k]? = some x → Tot (step (j + k) x s)) → Tot (aI step j xs s)
 | [],_,s,_=>⟨.next s,rfl⟩
 | x :: xs,j,s,h=>by
  obtain ⟨fl,hfl⟩ := h 0 x s rfl
  rw [Nat.add_zero] at hfl
  rw [aI,hfl]
  cases fl with
  | next s' =>
   exact Tot.range xs (j + 1) s' fun k y t hk=>by
    have := h (k + 1) y t (by simpa using hk)
    rwa [show j + (k + 1) = j + 1 + k from by omega] at this
  | brk s'=>exact ⟨_,rfl⟩
  | ret r=>exact ⟨_,rfl⟩
theorem Tot.thenR {σ ρ : Type} {fl : Flow σ ρ} {k : σ → Option ρ} (h : ∀ s,(fl = .next s ∨ fl = .brk s) → Tot (k s)) : Tot (fl.thenR k) := by
 cases fl with
 | next s=>exact h s (.inl rfl)
 | brk s=>exact h s (.inr rfl)
 | ret r=>exact ⟨r,rfl⟩
theorem bneT {a b : Int} (h : a ≠ b) : (a != b) = true := by simpa using h
theorem bneF {a b : Int} (h : a = b) : (a != b) = false := by simp [h]
theorem bG {a b : Int} (h : a ≠ b) : (a == b) = false := by simpa using h
theorem ek {a b : Int} (h : a = b) : (a == b) = true := by simp [h]
theorem idxF {α : Type} {l : List α} {f : α → Option Bool} {p : α → Bool} (h : ∀ x ∈ l,f x = some (p x)) :
  ag (aI (σ := Unit) (ρ := Int) (fun (j1 : Nat) (x1 : α) (_ : Unit)=>ag (f x1) fun x16=>cond x16 (some (.ret (j1 : Int))) (some (.next ()))) 0 l ()) (fun fl1=>fl1.thenR fun (_ : Unit)=>some (-1)) = some (bY p l) := by
 rw [qL p (fun j _=>(j : Int)) l 0 (fun k x hk=>by
  rw [h x (cy hk),bPs]
  cases p x <;> simp)]
 unfold bY
 cases hf : l.findIdx? p with
 | none=>rfl
 | some i =>
  have hi := (List.findIdx?_eq_some_iff_getElem.1 hf).1
  simp only [ze hi]
  simp
theorem idxF2 {α : Type} {l : List α} {p : α → Bool} :
  ag (aI (σ := Unit) (ρ := Int) (fun (j1 : Nat) (x1 : α) (_ : Unit)=>cond (p x1) (some (.ret (j1 : Int))) (some (.next ()))) 0 l ()) (fun fl1=>fl1.thenR fun (_ : Unit)=>some (-1)) = some (bY p l) := idxF (f := fun x=>some (p x)) fun _ _=>rfl
theorem qd {α : Type} {p : α → Bool} {l : List α} (h : 0 ≤ bY p l) : ∃ x,l[(bY p l).toNat]? = some x ∧ p x = true := by
 unfold bY at h ⊢
 cases hf : l.findIdx? p with
 | none=>rw [hf] at h; simp at h
 | some i =>
  obtain ⟨hi,hp,_⟩ := List.findIdx?_eq_some_iff_getElem.1 hf
  exact ⟨l[i],by simp [hi],hp⟩
theorem idx_table (l : List LTable) (p : LTable → Bool) : cr l (fun a=>some (p a)) = some (bY p l) := idxF fun _ _=>rfl
theorem idx_column (l : List LCol) (p : LCol → Bool) : cn l (fun a=>some (p a)) = some (bY p l) := idxF fun _ _=>rfl
theorem mM (s : LSchema) (name : List UInt8) : eB s name = some (dX 0 (bY (fun t=>cB t name) s.tables),decide (bY (fun t=>cB t name) s.tables ≥ 0)) := by
 unfold eB
 rw [idx_table,bPs]
 congr 2
 unfold dX
 split <;> split <;> omega
theorem findColumn_eq (t : LTable) (name : List UInt8) : eW t name = some (dX 0 (bY (fun c=>cV c name) t.columns),decide (bY (fun c=>cV c name) t.columns ≥ 0)) := by
 unfold eW
 rw [idx_column,bPs]
 congr 2
 unfold dX
 split <;> split <;> omega
theorem nS {n : Int} (h : 0 ≤ n) : dX 0 n = n := by unfold dX; split <;> omega
theorem pw (s : List UInt8) : Tot (eA s) := by
 unfold eA
 refine Tot.bind ?_ fun b hb=>?_
 ·refine Tot.cond (fun _=>Tot.mk) fun h1=>?_
  refine Tot.cond (fun _=>Tot.mk) fun h2=>?_
  have h1 := of_decide_eq_false h1
  refine Tot.bind (Tot.get (by decide) (by omega)) fun x _=>?_
  refine Tot.cond (fun _=>?_) fun _=>Tot.mk
  exact Tot.bind (Tot.get (by decide) (by omega)) fun x _=>Tot.mk
 ·refine Tot.cond (fun _=>Tot.mk) fun h=>?_
  subst h
  have hl : (s.length : Int) ≤ 12 := by
   by_cases h1 : (s.length : Int) < 1
   ·omega
   ·by_cases h2 : (s.length : Int) > 12
    ·rw [zf h1,zt h2] at hb; simp at hb
    ·omega
  refine Tot.bind ⟨(),oS (by omega)⟩ fun _ _=>?_
  refine Tot.bind (Tot.range _ _ _ fun k x _ _=>?_) fun fl _=>Tot.thenR fun _ _=>Tot.mk
  repeat' first | exact Tot.mk | refine Tot.cond (fun _=>?_) (fun _=>?_)
structure TableOk (t : LTable) : Prop where
 pk : ∀ x ∈ t.primaryKey,0 ≤ x ∧ x < t.columns.length
theorem validTable (t : LTable) (hsm : t.primaryKey.length ≤ 10000000) : ∃ e,eg t = some e ∧ (e = 0 → TableOk t) := by
 unfold eg
 obtain ⟨b,hb⟩ := pw t.name
 rw [hb,bPs]
 cases b with
 | false=>exact ⟨23,rfl,fun h=>by omega⟩
 | true =>
  simp only [Bool.not_true,zd]
  by_cases h0 : (t.columns.length : Int) = 0
  ·exact ⟨3,by simp [h0],fun h=>by omega⟩
  by_cases h6 : (t.columns.length : Int) > 6
  ·have : ((t.columns.length : Int) == 0) = false := by simpa using h0
   exact ⟨2,by rw [this]; simp [h6],fun h=>by omega⟩
  have e0 : ((t.columns.length : Int) == 0) = false := by simpa using h0
  rw [e0,zf h6]
  simp only [zd]
  obtain ⟨fl,hfl,hr⟩ := ix (step := fun (j1 : Nat) (x1 : LCol) (_ : Unit) =>
    ag (eA x1.name) fun x31=>cond (!x31) (some (Flow.ret (σ := Unit) (23 : Int)))
     (ag (eW t x1.name) fun x37=>cond (decide (x37.1 < (j1 : Int))) (some (.ret 5)) (cond (decide (x1.kind < (1 : Int))) (some (.ret 7)) (cond (decide (x1.kind > (3 : Int))) (some (.ret 7)) (some (.next ())))))) (fun _ _=>True) (fun r=>r ≠ 0) t.columns 0 () trivial (fun k x s hk _=>by
    obtain ⟨b,hb⟩ := pw x.name
    rw [hb,bPs,findColumn_eq,bPs]
    cases b with
    | false=>exact ⟨_,rfl,by simp⟩
    | true =>
     simp only [Bool.not_true,zd]
     by_cases a1 : dX 0 (bY (fun c=>cV c x.name) t.columns) < ((0 + k : Nat) : Int)
     ·exact ⟨.ret 5,by rw [zt a1]; rfl,by simp⟩
     ·rw [zf a1]
      by_cases a2 : x.kind < 1
      ·exact ⟨.ret 7,by rw [zt a2]; rfl,by simp⟩
      ·rw [zf a2]
       by_cases a3 : x.kind > 3
       ·exact ⟨.ret 7,by rw [zt a3]; rfl,by simp⟩
       ·exact ⟨.next (),by rw [zf a3]; rfl,trivial⟩)
  rw [hfl,bPs]
  cases fl with
  | brk s=>exact absurd hr (by simp)
  | ret r=>exact ⟨r,rfl,fun h=>absurd h hr⟩
  | next s =>
   rw [jW]
   obtain ⟨fl,hfl,hr⟩ := ix (step := fun (j2 : Nat) (x2 : Int) (_ : Unit) =>
     cond (decide (x2 < (0 : Int))) (some (Flow.ret (σ := Unit) (9 : Int))) (cond (decide (x2 ≥ (t.columns.length : Int))) (some (.ret 9))
      (ag (aR t.columns x2) fun (x73 : LCol)=>cond x73.nullable (some (.ret 9)) (cond (decide ((j2 : Int) > (0 : Int)))
       (ag (aR t.primaryKey (IntKind.i64.wrap ((j2 : Int) - (1 : Int)))) fun (x86 : Int)=>cond (decide (x2 ≤ x86)) (some (.ret 9)) (some (.next ()))) (some (.next ())))))) (fun j _=>∀ k x,k < j → t.primaryKey[k]? = some x → 0 ≤ x ∧ x < t.columns.length) (fun r=>r ≠ 0) t.primaryKey 0 () (fun k x h=>by omega) (fun k x s hk hI=>by
     simp only [Nat.zero_add] at hI ⊢
     by_cases a1 : x < 0
     ·exact ⟨.ret 9,by rw [zt a1]; rfl,by simp⟩
     rw [zf a1]
     by_cases a2 : x ≥ (t.columns.length : Int)
     ·exact ⟨.ret 9,by rw [zt a2]; rfl,by simp⟩
     rw [zf a2]
     simp only [zd]
     obtain ⟨c,hc⟩ := Tot.get (xs := t.columns) (i := x) (by omega) (by omega)
     rw [hc,bPs]
     have next : ∀ k' x',k' < k + 1 → t.primaryKey[k']? = some x' → 0 ≤ x' ∧ x' < t.columns.length := fun k' x' h1 h2=>by
      by_cases he : k' = k
      ·subst he; rw [hk] at h2; cases h2; omega
      ·exact hI k' x' (by omega) h2
     cases c.nullable with
     | true=>exact ⟨_,rfl,by simp⟩
     | false =>
      simp only [zd]
      by_cases a3 : (k : Int) > 0
      ·rw [zt a3]
       have hkl := (zg.1 hk).1
       rw [fR (by omega) (by omega)]
       obtain ⟨y,hy⟩ := Tot.get (xs := t.primaryKey) (i := (k : Int) - 1) (by omega) (by omega)
       rw [zc,hy,bPs]
       by_cases a4 : x ≤ y
       ·exact ⟨.ret 9,by rw [zt a4]; rfl,by simp⟩
       ·exact ⟨.next (),by rw [zf a4]; rfl,next⟩
      ·exact ⟨.next (),by rw [zf a3]; rfl,next⟩)
   rw [hfl,bPs]
   cases fl with
   | brk s=>exact absurd hr (by simp)
   | ret r=>exact ⟨r,rfl,fun h=>absurd h hr⟩
   | next s =>
    rw [jW]
    simp only [Nat.zero_add] at hr
    by_cases hp : (t.primaryKey.length : Int) = 0
    ·exact ⟨9,by simp [hp],fun h=>by omega⟩
    ·have : ((t.primaryKey.length : Int) == 0) = false := by simpa using hp
     refine ⟨0,by rw [this]; rfl,fun _=>⟨fun x hx=>?_⟩⟩
     obtain ⟨k,hk,rfl⟩ := List.mem_iff_getElem.1 hx
     exact hr k _ hk (ze hk)
theorem qn {α : Type} {xs : List α} {k : Nat} (h : k < xs.length) : aR xs (k : Int) = some xs[k] := iG (ze h)
theorem foreignKey_tot {s : LSchema} (hs : ∀ t ∈ s.tables,TableOk t) (fk : LForeignKey) : Tot (dQ s fk) := by
 unfold dQ
 rw [mM,mM]
 simp only [bPs,bg]
 generalize hi : bY (fun t=>cB t fk.table) s.tables = i
 generalize hj : bY (fun t=>cB t fk.refTable) s.tables = j
 by_cases h1 : i ≥ 0
 ·by_cases h2 : j ≥ 0
  ·rw [zt h1,zt h2]
   simp only [Bool.not_true,zd]
   rw [nS h1,nS h2]
   obtain ⟨t,ht,_⟩ := qd (hi ▸ h1)
   obtain ⟨u,hu,_⟩ := qd (hj ▸ h2)
   rw [hi] at ht
   rw [hj] at hu
   rw [kw h1 ht,kw h2 hu]
   simp only [bPs]
   refine Tot.cond (fun _=>Tot.mk) fun hl=>?_
   have hl : fk.columns.length = u.primaryKey.length := by
    by_cases h : (fk.columns.length : Int) = (u.primaryKey.length : Int)
    ·omega
    ·simp [h] at hl
   refine Tot.bind (Tot.range _ _ _ fun k x st hk=>?_) fun fl _=>Tot.thenR fun _ _=>Tot.mk
   have hkl := (zg.1 hk).1
   by_cases a1 : x < 0
   ·rw [zt a1]; exact Tot.mk
   ·rw [zf a1]
    by_cases a2 : x ≥ (t.columns.length : Int)
    ·rw [zt a2]; exact Tot.mk
    ·rw [zf a2]
     simp only [zd]
     obtain ⟨c,hc⟩ := Tot.get (xs := t.columns) (i := x) (by omega) (by omega)
     rw [hc,bPs,Nat.zero_add,qn (by omega),bPs]
     have hp := (hs u (cy hu)).pk u.primaryKey[k] (List.getElem_mem _)
     obtain ⟨d,hd⟩ := Tot.get (xs := u.columns) (i := u.primaryKey[k]) hp.1 hp.2
     rw [hd,bPs]
     exact Tot.cond (fun _=>Tot.mk) fun _=>Tot.mk
  ·rw [zf h2]
   simp only [Bool.not_false]
   cases decide (i ≥ 0) <;> exact Tot.mk
 ·rw [zf h1]
  exact Tot.mk
theorem constraint_tot (s : LSchema) (c : LConstraint) : Tot (dP s c) := by
 unfold dP
 rw [mM]
 simp only [bPs,bg]
 generalize hi : bY (fun t=>cB t c.table) s.tables = i
 by_cases h1 : i ≥ 0
 ·rw [zt h1]
  simp only [Bool.not_true,zd]
  rw [nS h1]
  obtain ⟨t,ht,_⟩ := qd (hi ▸ h1)
  rw [hi] at ht
  rw [kw h1 ht,bPs]
  refine Tot.cond (fun _=>Tot.mk) fun hl=>?_
  by_cases a1 : c.left < 0
  ·rw [zt a1] at hl; cases hl
  rw [zf a1,zd] at hl
  by_cases a2 : c.left ≥ (t.columns.length : Int)
  ·rw [zt a2] at hl; cases hl
  rw [zf a2,zd] at hl
  obtain ⟨x,hx⟩ := Tot.get (xs := t.columns) (i := c.left) (by omega) (by omega)
  rw [hx]
  refine Tot.cond (fun a3=>?_) fun _=>?_
  ·have a3 := of_decide_eq_true a3
   have a4 : c.right < (t.columns.length : Int) := by
    rcases Int.lt_or_le c.right (t.columns.length : Int) with h | h
    ·exact h
    ·have e : decide (c.right ≥ (t.columns.length : Int)) = true := zt h
     rw [e] at hl
     revert hl
     cases ((fS (LVal.mk 0 0 []) c.op (LVal.mk 0 0 [])).2 != 0) <;> cases decide (c.right < -1) <;> simp
   obtain ⟨y,hy⟩ := Tot.get (xs := t.columns) (i := c.right) a3 a4
   rw [hy]
   simp only [bPs]
   exact Tot.cond (fun _=>Tot.mk) fun _=>Tot.mk
  ·rw [bPs]
   exact Tot.cond (fun _=>Tot.mk) fun _=>Tot.mk
 ·rw [zf h1]
  exact Tot.mk
theorem equalInts_tot (a b : List Int) : Tot (eI a b) := by
 unfold eI
 refine Tot.cond (fun _=>Tot.mk) fun h=>?_
 have h : a.length = b.length := by
  by_cases h' : (a.length : Int) = (b.length : Int)
  ·omega
  ·simp [h'] at h
 refine Tot.bind (Tot.range _ _ _ fun k x s hk=>?_) fun fl _=>Tot.thenR fun _ _=>Tot.mk
 have hkl := (zg.1 hk).1
 rw [Nat.zero_add,qn (by omega),bPs]
 exact Tot.cond (fun _=>Tot.mk) fun _=>Tot.mk
theorem fkIn_tot (l : List LForeignKey) (x : LForeignKey) : Tot (bK l (fun a0=>eS a0 x)) := by
 unfold bK co
 refine Tot.bind (Tot.bind (Tot.range _ _ _ fun k y s hk=>?_) fun fl _=>Tot.thenR fun _ _=>Tot.mk) fun _ _=>Tot.mk
 refine Tot.bind ?_ fun _ _=>Tot.cond (fun _=>Tot.mk) fun _=>Tot.mk
 unfold eS
 refine Tot.bind ?_ fun _ _=>Tot.mk
 unfold fB
 refine Tot.cond (fun _=>Tot.bind (equalInts_tot _ _) fun _ _=>Tot.cond (fun _=>Tot.mk) fun _=>Tot.mk) fun _=>Tot.mk
theorem csIn_tot (l : List LConstraint) (x : LConstraint) : Tot (bT l x) := by
 unfold bT cw
 refine Tot.bind (Tot.bind (Tot.range _ _ _ fun k y s hk=>?_) fun fl _=>Tot.thenR fun _ _=>Tot.mk) fun _ _=>Tot.mk
 exact Tot.cond (fun _=>Tot.mk) fun _=>Tot.mk
def SmallS (s : LSchema) : Prop := ∀ t ∈ s.tables,t.primaryKey.length ≤ 10000000
theorem validate_tot {s : LSchema} (hsm : SmallS s) : Tot (gP s) := by
 unfold gP
 rw [bg]
 refine Tot.cond (fun _=>Tot.mk) fun ht=>?_
 have h6 : s.tables.length ≤ 6 := by
  by_cases h : (s.tables.length : Int) > 6
  ·rw [zt h] at ht; cases ht
  ·omega
 obtain ⟨fl,hfl,hr⟩ := ix (step := fun (j2 : Nat) (x2 : LTable) (_ : Unit) =>
   ag (eg x2) fun x37=>cond (x37 != (0 : Int)) (some (Flow.ret (σ := Unit) x37)) (cond (decide ((j2 : Int) > (0 : Int)))
     (ag (aR s.tables (IntKind.i64.wrap ((j2 : Int) - (1 : Int)))) fun (x50 : LTable)=>cond (Op.bytesLess x2.name x50.name || x2.name == x50.name) (some (.ret 6)) (some (.next ()))) (some (.next ())))) (fun j _=>∀ k x,k < j → s.tables[k]? = some x → TableOk x) (fun _=>True) s.tables 0 () (fun k x h=>by omega) (fun k x st hk hI=>by
    simp only [Nat.zero_add] at hI ⊢
    obtain ⟨e,he,hok⟩ := validTable x (hsm x (cy hk))
    rw [he,bPs]
    by_cases h0 : e = 0
    ·have next : ∀ k' x',k' < k + 1 → s.tables[k']? = some x' → TableOk x' := fun k' x' h1 h2=>by
      by_cases heq : k' = k
      ·subst heq; rw [hk] at h2; cases h2; exact hok h0
      ·exact hI k' x' (by omega) h2
     rw [show (e != (0 : Int)) = false from by simp [h0],zd]
     by_cases a3 : (k : Int) > 0
     ·have hkl := (zg.1 hk).1
      rw [zt a3,fR (by omega) (by omega)]
      obtain ⟨y,hy⟩ := Tot.get (xs := s.tables) (i := (k : Int) - 1) (by omega) (by omega)
      rw [zc,hy,bPs]
      cases (Op.bytesLess x.name y.name || x.name == y.name) with
      | true=>exact ⟨.ret 6,rfl,trivial⟩
      | false=>exact ⟨.next (),rfl,next⟩
     ·exact ⟨.next (),by rw [zf a3]; rfl,next⟩
    ·exact ⟨.ret e,by rw [show (e != (0 : Int)) = true from by simp [h0]]; rfl,trivial⟩)
 rw [hfl,bPs]
 cases fl with
 | brk s=>exact absurd hr (by simp)
 | ret r=>exact Tot.mk
 | next u =>
  rw [jW]
  simp only [Nat.zero_add] at hr
  have hok : ∀ t ∈ s.tables,TableOk t := fun t ht=>by
   obtain ⟨k,hk,rfl⟩ := List.mem_iff_getElem.1 ht
   exact hr k _ hk (ze hk)
  refine Tot.bind (Tot.range _ _ _ fun k x st hk=>?_) fun fl _=>Tot.thenR fun _ _=>?_
  ·refine Tot.bind (foreignKey_tot hok x) fun e _=>Tot.cond (fun _=>Tot.mk) fun _=>?_
   have hkl := (zg.1 hk).1
   refine Tot.bind (Tot.sub ⟨by omega,by omega,by omega⟩) fun l _=>?_
   exact Tot.bind (fkIn_tot l x) fun _ _=>Tot.cond (fun _=>Tot.mk) fun _=>Tot.mk
  ·refine Tot.bind (Tot.range _ _ _ fun k x st hk=>?_) fun fl _=>Tot.thenR fun _ _=>Tot.mk
   refine Tot.bind (constraint_tot s x) fun e _=>Tot.cond (fun _=>Tot.mk) fun _=>?_
   have hkl := (zg.1 hk).1
   refine Tot.bind (Tot.sub ⟨by omega,by omega,by omega⟩) fun l _=>?_
   exact Tot.bind (csIn_tot l x) fun _ _=>Tot.cond (fun _=>Tot.mk) fun _=>Tot.mk
theorem containsI (l : List Int) (v : Int) : ec l v = some (l.any fun x=>v == x) := by
 unfold ec fY
 rw [idxF2 (p := fun x=>v == x),bPs,nF]
theorem shape1 (l : List Int) (q : LQuery) : cI l q = some (l.any fun x=>q.kind == x) := by
 unfold cI
 rw [containsI,bPs]
def lR (k : Int) : Nat := if k = 1 then 0 else if k = 4 ∨ k = 5 ∨ k = 6 ∨ k = 7 then 2 else 1
def kd (q : LQuery) : Bool :=
 decide (1 ≤ q.kind) && decide (q.kind ≤ 10) && decide (q.inputs.length = lR q.kind) && (q.kind == 1 || q.table == []) && (q.kind == 3 || q.kind == 8 || decide (q.names.length = 0)) &&
 (q.kind == 8 || decide (q.aggregates.length = 0)) && (q.kind == 9 || decide (q.descending.length = 0)) && (q.kind == 10 || (q.count == 0 && q.offset == 0)) &&
 (if q.kind = 2 ∨ q.kind = 4 ∨ q.kind = 5 then decide (q.exprs.length = 1)
  else if q.kind = 3 ∨ q.kind = 8 then decide (q.exprs.length = q.names.length) && decide (0 < q.exprs.length + q.aggregates.length)
  else if q.kind = 9 then decide (q.exprs.length = q.descending.length) && decide (0 < q.exprs.length)
  else if q.kind = 10 then decide (q.exprs.length = 0) && decide (q.count ≥ 0) && decide (q.offset ≥ 0)
  else decide (q.exprs.length = 0))
theorem natE (a b : Nat) : ((a : Int) == (b : Int)) = decide (a = b) := by
 by_cases h : a = b
 ·simp [h]
 ·rw [zf h]; exact bG (by omega)
theorem natNE (a b : Nat) : ((a : Int) != (b : Int)) = !decide (a = b) := by rw [bne,natE]
theorem natPos (a : Nat) : decide ((a : Int) > 0) = !decide (a = 0) := by
 by_cases h : a = 0
 ·simp [h]
 ·rw [zf h,zt (by omega)]; rfl
theorem condSome {α : Type} (b : Bool) (x y : α) : (cond b (some x) (some y)) = some (cond b x y) := by cases b <;> rfl
theorem shape_eq (q : LQuery) (hs : q.exprs.length ≤ 10000000 ∧ q.aggregates.length ≤ 10000000) : jh q = some (kd q) := by
 unfold jh
 simp only [shape1,bPs]
 by_cases k0 : q.kind < 1
 ·rw [zt k0]
  simp [kd,show ¬ (1 ≤ q.kind) from by omega]
 rw [zf k0]
 by_cases k10 : q.kind > 10
 ·rw [zt k10]
  simp [kd,show ¬ (q.kind ≤ 10) from by omega]
 rw [zf k10]
 have hw : IntKind.i64.wrap ((q.exprs.length : Int) + (q.aggregates.length : Int)) = ((q.exprs.length + q.aggregates.length : Nat) : Int) := by rw [fR (by omega) (by omega)]; simp
 rw [hw]
 have hk : q.kind = 1 ∨ q.kind = 2 ∨ q.kind = 3 ∨ q.kind = 4 ∨ q.kind = 5 ∨ q.kind = 6 ∨ q.kind = 7 ∨ q.kind = 8 ∨ q.kind = 9 ∨ q.kind = 10 := by omega
 unfold kd
 have e0 : ∀ n : Nat,((n : Int) == 0) = decide (n = 0) := fun n=>natE n 0
 have e1 : ∀ n : Nat,((n : Int) == 1) = decide (n = 1) := fun n=>natE n 1
 have n0 : ∀ n : Nat,((n : Int) != 0) = !decide (n = 0) := fun n=>natNE n 0
 have n1 : ∀ n : Nat,((n : Int) != 1) = !decide (n = 1) := fun n=>natNE n 1
 have n2 : ∀ n : Nat,((n : Int) != 2) = !decide (n = 2) := fun n=>natNE n 2
 have c0 : (q.count != 0) = !(q.count == 0) := rfl
 have o0 : (q.offset != 0) = !(q.offset == 0) := rfl
 have p0 : decide (0 < q.exprs.length) = !decide (q.exprs.length = 0) := by rw [← natPos]; simp
 have p1 : decide (0 < q.exprs.length + q.aggregates.length) = !decide (q.exprs.length + q.aggregates.length = 0) := by rw [← natPos]; simp; omega
 simp only [natPos,natE,e0,e1,c0,o0,p0,p1]
 generalize (q.table == []) = b1
 generalize decide (q.names.length = 0) = b2
 generalize decide (q.aggregates.length = 0) = b3
 generalize decide (q.descending.length = 0) = b4
 generalize (q.count == 0) = b5
 generalize (q.offset == 0) = b6
 generalize decide (q.exprs.length = 1) = b7
 generalize decide (q.exprs.length = q.names.length) = b8
 generalize decide (q.exprs.length + q.aggregates.length = 0) = b9
 generalize decide (q.exprs.length = q.descending.length) = b10
 generalize decide (q.exprs.length = 0) = b11
 generalize decide (q.count ≥ 0) = b12
 generalize decide (q.offset ≥ 0) = b13
 generalize hL : q.inputs.length = L
 rcases hk with h | h | h | h | h | h | h | h | h | h <;> rw [h]
 all_goals simp only [lR,aR]
 all_goals simp [n0,n1,n2,condSome,Bool.and_assoc]
def e0Q (q : LQuery) : LExpr := q.exprs.headD (.mk 1 [] 0 .nul [])
def mW (a b : List LCol) (left : Bool) : List LCol := a ++ b.map fun x=>⟨x.name,x.kind,x.nullable || left⟩
def setCols (kind : Int) (a b : List LCol) : List LCol × Int :=
 if a.length = b.length ∧ a.map LCol.kind = b.map LCol.kind then (List.zipWith (fun x y=>⟨x.name,x.kind,x.nullable || (kind == 6 && y.nullable)⟩) a b,0) else ([],7)
def dw (vars cols : List LCol) : List LExpr → List (List UInt8) → List LCol × Int
 | e :: es,n :: ns=>if dy n = false then ([],3) else if (eO cols vars e).2.2 ≠ 0 then ([],(eO cols vars e).2.2) else if (eO cols vars e).1 = 0 then ([],7)
  else if (dw vars cols es ns).2 ≠ 0 then ([],(dw vars cols es ns).2) else (⟨n,(eO cols vars e).1,(eO cols vars e).2.1⟩ :: (dw vars cols es ns).1,0)
 | _,_=>([],0)
abbrev kV : List UInt8 := [99,111,117,110,116]
abbrev sSum : List UInt8 := [115,117,109]
abbrev sMin : List UInt8 := [109,105,110]
abbrev sMax : List UInt8 := [109,97,120]
def aggQ (vars cols : List LCol) (a : LAggregateCall) : Int × Int :=
 if dy a.name = false ∨ ¬ a.function ∈ [kV,sSum,sMin,sMax] ∨ 1 < a.args.length ∨ (a.args.length < 1 ∧ a.function ≠ kV) then (0,3)
 else match a.args with
  | []=>(1,0)
  | e :: _=>if (eO cols vars e).2.2 ≠ 0 then (0,(eO cols vars e).2.2) else if (eO cols vars e).1 = 0 ∨ (a.function = sSum ∧ (eO cols vars e).1 ≠ 1) then (0,7)
   else if a.function = kV then (1,0) else ((eO cols vars e).1,0)
def fT (vars cols : List LCol) : List LAggregateCall → List LCol × Int
 | []=>([],0)
 | a :: l=>if (aggQ vars cols a).2 ≠ 0 then ([],(aggQ vars cols a).2) else if (fT vars cols l).2 ≠ 0 then ([],(fT vars cols l).2)
  else (⟨a.name,(aggQ vars cols a).1,!(a.function == kV)⟩ :: (fT vars cols l).1,0)
def namedQ (vars cols : List LCol) (q : LQuery) : List LCol × Int :=
 if (dw vars cols q.exprs q.names).2 ≠ 0 then ([],(dw vars cols q.exprs q.names).2)
 else if (fT vars cols q.aggregates).2 ≠ 0 then ([],(fT vars cols q.aggregates).2)
 else ((dw vars cols q.exprs q.names).1 ++ (fT vars cols q.aggregates).1,0)
def kB (vars cols : List LCol) : List LExpr → Int
 | []=>0
 | e :: l=>if (eO cols vars e).2.2 ≠ 0 then (eO cols vars e).2.2 else kB vars cols l
def lC (c : LChecker) (q : LQuery) (ins : List (List LCol)) : List LCol × Int :=
 if q.kind = 1 then (match c.s.tables.find? fun t=>t.name == q.table with | some t=>(t.columns,0) | none=>([],4))
 else if q.kind = 2 then (ins.getD 0 [],cO c (ins.getD 0 []) (e0Q q))
 else if q.kind = 4 ∨ q.kind = 5 then (mW (ins.getD 0 []) (ins.getD 1 []) (q.kind == 5),cO c (mW (ins.getD 0 []) (ins.getD 1 []) (q.kind == 5)) (e0Q q))
 else if q.kind = 6 ∨ q.kind = 7 then setCols q.kind (ins.getD 0 []) (ins.getD 1 [])
 else if q.kind = 3 ∨ q.kind = 8 then namedQ c.vars (ins.getD 0 []) q
 else if q.kind = 9 then (if kB c.vars (ins.getD 0 []) q.exprs ≠ 0 then ([],kB c.vars (ins.getD 0 []) q.exprs) else (ins.getD 0 [],0))
 else (ins.getD 0 [],0)
theorem find_idx {α : Type} (p : α → Bool) (l : List α) : (l.find? p = none ∧ bY p l = -1) ∨ ∃ x,l.find? p = some x ∧ 0 ≤ bY p l ∧ l[(bY p l).toNat]? = some x := by
 induction l with
 | nil=>exact .inl ⟨rfl,rfl⟩
 | cons a l ih =>
  by_cases h : p a = true
  ·right
   exact ⟨a,by simp [h],by unfold bY; simp [List.findIdx?_cons,h],by unfold bY; simp [List.findIdx?_cons,h]⟩
  ·have h : p a = false := by simpa using h
   have hi : bY p (a :: l) = if bY p l < 0 then -1 else bY p l + 1 := by
    unfold bY
    simp only [List.findIdx?_cons,h,Bool.false_eq_true,if_false]
    cases l.findIdx? p with
    | none=>rfl
    | some i=>rw [zy (by simp only; omega)]; simp
   rw [List.find?_cons,h,hi]
   rcases ih with ⟨h1,h2⟩ | ⟨x,h1,h2,h3⟩
   ·left; exact ⟨h1,by rw [h2]; rfl⟩
   ·right
    refine ⟨x,h1,by split <;> omega,?_⟩
    rw [zy (by omega),show (bY p l + 1).toNat = (bY p l).toNat + 1 from by omega,List.getElem?_cons_succ,h3]
theorem set_ok (kind : Int) (a b : List LCol) : gE kind a b = some (setCols kind a b) := by
 unfold gE setCols
 by_cases hl : a.length = b.length
 ·rw [natNE,zt hl]
  simp only [Bool.not_true,zd]
  let z : LCol → LCol → LCol := fun x y=>⟨x.name,x.kind,x.nullable || (kind == 6 && y.nullable)⟩
  obtain ⟨fl,hfl,hr⟩ := ix (step := fun (j1 : Nat) (x1 : LCol) (s1 : List LCol) =>
   ag (aR b (j1 : Int)) fun (x29 : LCol)=>cond (x1.kind != x29.kind) (some (Flow.ret (([],7) : List LCol × Int)))
    (cond x1.nullable (ag (aR s1 (j1 : Int)) fun (x51 : LCol)=>bs (s1.set ((j1 : Int).toNat) (LCol.mk x51.name x51.kind true)) fun (y8 : List LCol)=>some (.next y8))
     (cond (kind == (6 : Int)) (ag (aR b (j1 : Int)) fun (x46 : LCol)=>ag (aR s1 (j1 : Int)) fun (x51 : LCol)=>bs (s1.set ((j1 : Int).toNat) (LCol.mk x51.name x51.kind x46.nullable)) fun (y9 : List LCol)=>some (.next y9))
      (ag (aR s1 (j1 : Int)) fun (x51 : LCol)=>bs (s1.set ((j1 : Int).toNat) (LCol.mk x51.name x51.kind false)) fun (y10 : List LCol)=>some (.next y10)))))
   (fun j s=>s = (List.zipWith z a b).take j ++ a.drop j ∧ (a.take j).map LCol.kind = (b.take j).map LCol.kind) (fun r=>r = ([],7) ∧ a.map LCol.kind ≠ b.map LCol.kind) a 0 a ⟨by simp,rfl⟩ (fun k x s hk hI=>by
    simp only [Nat.zero_add] at hI ⊢
    have hka := (zg.1 hk).1
    have hxe := (zg.1 hk).2
    have hkb : k < b.length := by omega
    rw [qn hkb,bPs,bPs]
    by_cases hkk : x.kind = b[k].kind
    ·have hzl : ((List.zipWith z a b).take k).length = k := by simp; omega
     have hs : s[k]? = some x := by
      rw [hI.1,List.getElem?_append_right (by omega),hzl,Nat.sub_self,List.getElem?_drop,Nat.add_zero,hk]
     have hkinds : (a.take (k + 1)).map LCol.kind = (b.take (k + 1)).map LCol.kind := by
      rw [List.take_add_one,List.take_add_one,hk,ze hkb,List.map_append,List.map_append,hI.2]
      congr 1
      show [x.kind] = [b[k].kind]
      rw [hkk]
     have hset : ∀ v : LCol,v = z x b[k] → s.set k v = (List.zipWith z a b).take (k + 1) ++ a.drop (k + 1) := by
      intro v hv
      rw [hI.1,List.set_append_right _ _ (by omega),hzl,Nat.sub_self]
      rw [List.drop_eq_getElem_cons hka,List.set_cons_zero,List.take_add_one,List.append_assoc]
      congr 1
      rw [List.getElem?_zipWith,hk,ze hkb]
      simp [hv]
     rw [bneF hkk,zd,iG hs]
     simp only [bPs,bg,Int.toNat_natCast]
     cases hx : x.nullable with
     | true=>exact ⟨_,rfl,hset _ (by simp [z,hx]),hkinds⟩
     | false =>
      by_cases h6 : kind = 6
      ·exact ⟨.next _,by rw [ek h6]; rfl,hset _ (by simp [z,hx,h6]),hkinds⟩
      ·exact ⟨.next _,by rw [bG h6]; rfl,hset _ (by simp [z,hx,h6]),hkinds⟩
    ·refine ⟨.ret ([],7),by rw [bneT hkk]; rfl,rfl,fun he=>hkk ?_⟩
     have := congrArg (fun l=>l[k]?) he
     simp only [List.getElem?_map,hk,ze hkb,Option.map_some,zo] at this
     exact this)
  rw [hfl,bPs]
  cases fl with
  | brk s=>exact absurd hr (by simp)
  | ret r=>rw [hr.1,zy (fun h=>hr.2 h.2)]; rfl
  | next s =>
   simp only [Nat.zero_add] at hr
   rw [jW,hr.1,zp ⟨hl,by have := hr.2; rwa [List.take_length,hl,List.take_length] at this⟩]
   have : (List.zipWith z a b).take a.length = List.zipWith z a b := List.take_of_length_le (by simp; omega)
   rw [this,List.drop_length,List.append_nil]
 ·rw [natNE,zf hl,zy (fun h=>hl h.1)]
  rfl
theorem mi {α : Type} {l : List α} {d : α} (h : 0 < l.length) : aR l 0 = some (l.getD 0 d) := by
 cases l with
 | nil=>simp at h
 | cons a l=>rfl
theorem getD1 {α : Type} {l : List α} {d : α} (h : 1 < l.length) : aR l 1 = some (l.getD 1 d) := by
 match l with
 | []=>simp at h
 | [_]=>simp at h
 | a :: b :: l=>rfl
theorem e0_get {q : LQuery} (h : 0 < q.exprs.length) : aR q.exprs 0 = some (e0Q q) := by
 unfold e0Q
 cases hq : q.exprs with
 | nil=>rw [hq] at h; simp at h
 | cons a l=>rfl
theorem containsS (l : List (List UInt8)) (v : List UInt8) : cx l v = some (decide (v ∈ l)) := by
 unfold cx bQ
 rw [idxF2 (p := fun x=>v == x),bPs,nF]
 congr 1
 by_cases h : v ∈ l
 ·rw [zt h,List.any_eq_true]; exact ⟨v,h,by simp⟩
 ·rw [zf h,List.any_eq_false]
  intro x hx he
  exact h (by simp at he; rwa [he])
theorem agg_eq (c : LChecker) (cols : List LCol) (a : LAggregateCall) : eV c cols a = some (aggQ c.vars cols a) := by
 unfold eV aggQ
 simp only [bg,containsS,bPs]
 by_cases h1 : dy a.name = false
 ·simp [h1]
 have h1' : dy a.name = true := by simpa using h1
 by_cases h2 : a.function ∈ [kV,sSum,sMin,sMax]
 ·rw [zt (show a.function ∈ ([[99,111,117,110,116],[115,117,109],[109,105,110],[109,97,120]] : List (List UInt8)) from h2)]
  cases ha : a.args with
  | nil =>
   by_cases h3 : a.function = kV
   ·simp [h1',h3]
   ·have h3' : (a.function == ([99,111,117,110,116] : List UInt8)) = false := by simpa using h3
    simp [h1',h3,h2,h3']
  | cons e l =>
   cases l with
   | cons e2 l =>
    have : (1 : Int) < (l.length : Int) + 1 + 1 := by omega
    simp [h1',h2,this]
   | nil =>
    simp only [h1',Bool.not_true,zd,List.length_singleton]
    have hno : ¬ (True = False ∨ ¬ a.function ∈ [kV,sSum,sMin,sMax] ∨ 1 < 1 ∨ (1 < 1 ∧ a.function ≠ kV)) := by simp [h2]
    simp only [aR]
    by_cases h4 : (eO cols c.vars e).2.2 = 0
    ·by_cases h5 : (eO cols c.vars e).1 = 0
     ·simp [h2,h4,h5]
     ·by_cases h6 : a.function = sSum
      ·by_cases h7 : (eO cols c.vars e).1 = 1
       ·simp [h4,h6,h7]
       ·simp [h4,h5,h6,h7,bneT h7]
      ·have h6' : (a.function == ([115,117,109] : List UInt8)) = false := by simpa using h6
       by_cases h8 : a.function = kV
       ·simp [h4,h5,h8,bG h5]
       ·have h8' : (a.function == ([99,111,117,110,116] : List UInt8)) = false := by simpa using h8
        simp [h2,h4,h5,h6,h8,h6',h8',bG h5]
    ·simp [h2,h4,bneT h4]
 ·rw [zf (show ¬ a.function ∈ ([[99,111,117,110,116],[115,117,109],[109,105,110],[109,97,120]] : List (List UInt8)) from h2)]
  simp [h1',h2]
theorem namedE_run (vars cols : List LCol) (names : List (List UInt8)) : ∀ (es : List LExpr) (j : Nat) (s : List LCol),es.length + j = names.length → s.length + es.length ≤ 10000000 →
  ∀ k : List LCol → Option (List LCol × Int),ag (aI (σ := List LCol) (ρ := ((List LCol) × Int)) (fun (j1 : Nat) (x1 : LExpr) (s1 : List LCol) =>
  bs (eO cols vars x1) fun x31 =>
  ag (aR names (j1 : Int)) fun (x39 : List UInt8) =>
  bs (dy x39) fun x41 =>
  cond (!x41)
   (some (.ret ([],3)))
   (cond (x31.2.2 != (0 : Int))
    (some (.ret ([],x31.2.2)))
    (cond (x31.1 == (0 : Int))
     (some (.ret ([],7)))
     (ag (aR names (j1 : Int)) fun (x54 : List UInt8) =>
     ag (bS 32 s1 ([(LCol.mk x54 x31.1 x31.2.1)] : List LCol)) fun (x60 : List LCol) =>
     some (.next x60))))) j es s) (fun fl1=>fl1.thenR k) = if (dw vars cols es (names.drop j)).2 ≠ 0 then some ([],(dw vars cols es (names.drop j)).2) else k (s ++ (dw vars cols es (names.drop j)).1)
 | [],j,s,_,_,k=>by simp [aI,dw]
 | e :: es,j,s,hl,hb,k=>by
  have hj : j < names.length := by simp at hl; omega
  rw [aI,List.drop_eq_getElem_cons hj,dw,bg,qn hj,bPs,bg]
  cases h1 : dy names[j] with
  | false=>simp
  | true =>
   simp only [Bool.not_true,zd,Bool.true_eq_false,if_false]
   by_cases h2 : (eO cols vars e).2.2 = 0
   ·rw [bneF h2,zd]
    simp only [h2,ne_eq,not_true_eq_false,if_false]
    by_cases h3 : (eO cols vars e).1 = 0
    ·rw [ek h3]; simp [h3]
    ·rw [bG h3,zd,bPs,bL (by decide) (by simp at hb ⊢; omega),bPs]
     simp only [h3,if_false]
     rw [namedE_run vars cols names es (j + 1) _ (by simp at hl; omega) (by simp at hb ⊢; omega) k]
     by_cases h4 : (dw vars cols es (names.drop (j + 1))).2 = 0
     ·simp [h4]
     ·simp [h4]
   ·rw [bneT h2]
    simp [h2]
theorem namedA_run (c : LChecker) (cols : List LCol) : ∀ (l : List LAggregateCall) (j : Nat) (s : List LCol),s.length + l.length ≤ 10000000 →
  ag (aI (σ := List LCol) (ρ := ((List LCol) × Int)) (fun (_ : Nat) (x2 : LAggregateCall) (s2 : List LCol) =>
  ag (eV c cols x2) fun x73 =>
  cond (x73.2 != (0 : Int))
   (some (.ret ([],x73.2)))
   (ag (bS 32 s2 ([(LCol.mk x2.name x73.1 (!(x2.function == ([99,111,117,110,116] : List UInt8))))] : List LCol)) fun (x88 : List LCol) =>
   some (.next x88))) j l s) (fun fl2=>fl2.thenR fun (s2 : List LCol)=>some (s2,0)) = some (if (fT c.vars cols l).2 ≠ 0 then ([],(fT c.vars cols l).2) else (s ++ (fT c.vars cols l).1,0))
 | [],j,s,_=>by simp [aI,fT]
 | a :: l,j,s,hb=>by
  rw [aI,fT,agg_eq,bPs]
  by_cases h1 : (aggQ c.vars cols a).2 = 0
  ·rw [bneF h1,zd,bL (by decide) (by simp at hb ⊢; omega),bPs]
   simp only [h1,ne_eq,not_true_eq_false,if_false]
   rw [namedA_run c cols l (j + 1) _ (by simp at hb ⊢; omega)]
   by_cases h4 : (fT c.vars cols l).2 = 0
   ·simp [h4]
   ·simp [h4]
  ·rw [bneT h1]
   simp [h1]
theorem named_eq (c : LChecker) (q : LQuery) (cols : List LCol) (hl : q.exprs.length = q.names.length) (hb : q.exprs.length ≤ 1000000 ∧ q.aggregates.length ≤ 1000000) : dK c q cols = some (namedQ c.vars cols q) := by
 unfold dK namedQ
 rw [namedE_run c.vars cols q.names q.exprs 0 [] (by omega) (by simp; omega),List.drop_zero]
 by_cases h : (dw c.vars cols q.exprs q.names).2 = 0
 ·have hlen : ∀ (es : List LExpr) (ns : List (List UInt8)),(dw c.vars cols es ns).1.length ≤ es.length := by
   intro es
   induction es with
   | nil=>intro ns; simp [dw]
   | cons e es ih =>
    intro ns
    cases ns with
    | nil=>simp [dw]
    | cons n ns =>
     simp only [dw]
     split
     ·simp
     ·split
      ·simp
      ·split
       ·simp
       ·split
        ·simp
        ·have := ih ns; simp; omega
  simp only [h,ne_eq,not_true_eq_false,if_false,List.nil_append]
  rw [namedA_run c cols q.aggregates 0 _ (by have := hlen q.exprs q.names; omega)]
 ·simp [h]
structure SmallQ (q : LQuery) : Prop where
 nodes : (bP q).length ≤ 10000000
 here : ∀ x ∈ bP q,x.exprs.length ≤ 1000000 ∧ x.aggregates.length ≤ 1000000
theorem pZ {q x y : LQuery} (h : x ∈ q.inputs) (hy : y ∈ bP x) : y ∈ bP q := by
 rw [cF]
 exact List.mem_cons_of_mem _ (List.mem_flatten.2 ⟨_,List.mem_map.2 ⟨x,h,rfl⟩,hy⟩)
theorem oU (q : LQuery) : q ∈ bP q := by rw [cF]; exact List.mem_cons_self
theorem SmallQ.sub {q x : LQuery} (h : SmallQ q) (hx : x ∈ q.inputs) : SmallQ x :=
 ⟨by have := iB hx; have := h.nodes; omega,fun y hy=>h.here y (pZ hx hy)⟩
theorem SmallQ.self {q : LQuery} (h : SmallQ q) : q.exprs.length ≤ 1000000 ∧ q.aggregates.length ≤ 1000000 := h.here q (oU q)
structure ShapeOk (q : LQuery) : Prop where
 kind : 1 ≤ q.kind ∧ q.kind ≤ 10
 arity : q.inputs.length = lR q.kind
 one : q.kind = 2 ∨ q.kind = 4 ∨ q.kind = 5 → q.exprs.length = 1
 named : q.kind = 3 ∨ q.kind = 8 → q.exprs.length = q.names.length
 aggs : q.kind ≠ 8 → q.aggregates = []
 sorted : q.kind = 9 → q.exprs.length = q.descending.length
 limit : q.kind = 10 → 0 ≤ q.count ∧ 0 ≤ q.offset
theorem shape_ok {q : LQuery} (h : kd q = true) : ShapeOk q := by
 unfold kd at h
 simp only [Bool.and_eq_true,decide_eq_true_eq] at h
 obtain ⟨⟨⟨⟨⟨⟨⟨⟨h1,h2⟩,h3⟩,h4⟩,h5⟩,h6⟩,h7⟩,h8⟩,h9⟩ := h
 refine ⟨⟨h1,h2⟩,h3,fun hk=>?_,fun hk=>?_,fun hk=>?_,fun hk=>?_,fun hk=>?_⟩
 ·rw [zp hk] at h9; simpa using h9
 ·rw [zy (by omega),zp hk] at h9; simp at h9; exact h9.1
 ·have : (q.kind == 8) = false := bG hk
  rw [this] at h6; simp at h6; exact h6
 ·rw [zy (by omega),zy (by omega),zp hk] at h9; simp at h9; exact h9.1
 ·rw [zy (by omega),zy (by omega),zy (by omega),zp hk] at h9; simp at h9; omega
theorem join_run (left : Bool) : ∀ (b : List LCol) (j : Nat) (a : List LCol),a.length + b.length ≤ 10000000 →
  aI (σ := List LCol) (ρ := Empty) (fun (_ : Nat) (x2 : LCol) (s2 : List LCol)=>cond x2.nullable
          (ag (bS 32 s2 ([(LCol.mk x2.name x2.kind true)] : List LCol)) fun (x76 : List LCol)=>some (.next x76))
          (ag (bS 32 s2 ([(LCol.mk x2.name x2.kind left)] : List LCol)) fun (x76 : List LCol)=>some (.next x76))) j b a = some (.next (mW a b left))
 | [],j,a,_=>by simp [aI,mW]
 | x :: b,j,a,h=>by
  have step : (cond x.nullable (ag (bS 32 a ([(LCol.mk x.name x.kind true)] : List LCol)) fun (x76 : List LCol)=>some (Flow.next (ρ := Empty) x76))
    (ag (bS 32 a ([(LCol.mk x.name x.kind left)] : List LCol)) fun (x76 : List LCol)=>some (.next x76))) = some (.next (a ++ [⟨x.name,x.kind,x.nullable || left⟩])) := by
   rw [bL (by decide) (by simp at h ⊢; omega),bL (by decide) (by simp at h ⊢; omega)]
   cases x.nullable <;> simp
  rw [aI,step]
  simp only
  rw [join_run left b (j + 1) _ (by simp at h ⊢; omega)]
  simp [mW]
theorem sort_run (vars cols : List LCol) (ins : List (List LCol)) (h0 : aR ins 0 = some cols) : ∀ (es : List LExpr) (j : Nat) (k : Unit → Option (List LCol × Int)),
  ag (aI (σ := Unit) (ρ := ((List LCol) × Int)) (fun (_ : Nat) (x5 : LExpr) (_ : Unit)=>ag (aR ins 0) fun (x122 : List LCol)=>bs (eO x122 vars x5) fun x127=>cond (x127.2.2 != (0 : Int)) (some (.ret ([],x127.2.2))) (some (.next ()))) j es ()) (fun fl5=>fl5.thenR k) =
   if kB vars cols es ≠ 0 then some ([],kB vars cols es) else k ()
 | [],j,k=>by simp [aI,kB]
 | e :: es,j,k=>by
  rw [aI,kB,h0,bPs,bg]
  by_cases h : (eO cols vars e).2.2 = 0
  ·rw [bneF h,zd]
   simp only [h,ne_eq,not_true_eq_false,if_false]
   rw [← h0]
   exact sort_run vars cols ins h0 es (j + 1) k
  ·rw [bneT h]; simp [h]
theorem out_eq {c : LChecker} {q : LQuery} {ins : List (List LCol)} (hs : ShapeOk q) (hsm : SmallQ q) (hl : ins.length = q.inputs.length) (hb : ∀ l ∈ ins,l.length ≤ 20) : gc c q ins = some (lC c q ins) := by
 obtain ⟨hk,ha,h1,hn,_,_,_⟩ := hs
 have hself := hsm.self
 have hi : ∀ i,i < ins.length → (ins.getD i []).length ≤ 20 := fun i hi=>by
  rw [List.getD_eq_getElem?_getD,ze hi]
  exact hb _ (List.getElem_mem hi)
 have e0 : q.exprs.length = 1 → aR q.exprs 0 = some (e0Q q) := fun h=>e0_get (by omega)
 unfold gc lC
 have kk : q.kind = 1 ∨ q.kind = 2 ∨ q.kind = 3 ∨ q.kind = 4 ∨ q.kind = 5 ∨ q.kind = 6 ∨ q.kind = 7 ∨ q.kind = 8 ∨ q.kind = 9 ∨ q.kind = 10 := by omega
 rcases kk with h | h | h | h | h | h | h | h | h | h
 ·rw [h,idx_table]
  simp only [bPs]
  rcases find_idx (fun a0=>dI a0 q) c.s.tables with ⟨f1,f2⟩ | ⟨t,f1,f2,f3⟩
  ·have f1' : c.s.tables.find? (fun t=>t.name == q.table) = none := f1
   rw [f2,f1']
   rfl
  ·have f1' : c.s.tables.find? (fun t=>t.name == q.table) = some t := f1
   rw [f1',zf (show ¬ bY (fun a0=>dI a0 q) c.s.tables < 0 from by omega),kw f2 f3]
   rfl
 all_goals rw [h] at ha
 all_goals simp only [lR] at ha
 ·have g0 : aR ins 0 = some (ins.getD 0 []) := mi (by simp at ha; omega)
  rw [h,g0,e0 (h1 (.inl h))]
  simp [bg]
 ·have g0 : aR ins 0 = some (ins.getD 0 []) := mi (by simp at ha; omega)
  rw [h,g0]
  simp only [bPs]
  rw [named_eq c q _ (hn (.inl h)) hself]
  simp [bg]
 ·have g0 : aR ins 0 = some (ins.getD 0 []) := mi (by simp at ha; omega)
  have g1 : aR ins 1 = some (ins.getD 1 []) := getD1 (by simp at ha; omega)
  rw [h,g0,g1,e0 (h1 (.inr (.inl h)))]
  simp only [bPs]
  rw [join_run ((4 : Int) == 5) _ 0 _ (by have := hi 0 (by simp at ha; omega); have := hi 1 (by simp at ha; omega); omega)]
  simp [bg]
 ·have g0 : aR ins 0 = some (ins.getD 0 []) := mi (by simp at ha; omega)
  have g1 : aR ins 1 = some (ins.getD 1 []) := getD1 (by simp at ha; omega)
  rw [h,g0,g1,e0 (h1 (.inr (.inr h)))]
  simp only [bPs]
  rw [join_run ((5 : Int) == 5) _ 0 _ (by have := hi 0 (by simp at ha; omega); have := hi 1 (by simp at ha; omega); omega)]
  simp [bg]
 ·have g0 : aR ins 0 = some (ins.getD 0 []) := mi (by simp at ha; omega)
  have g1 : aR ins 1 = some (ins.getD 1 []) := getD1 (by simp at ha; omega)
  rw [h,g0,g1]
  simp only [bPs,set_ok]
  simp [bg]
 ·have g0 : aR ins 0 = some (ins.getD 0 []) := mi (by simp at ha; omega)
  have g1 : aR ins 1 = some (ins.getD 1 []) := getD1 (by simp at ha; omega)
  rw [h,g0,g1]
  simp only [bPs,set_ok]
  simp [bg]
 ·have g0 : aR ins 0 = some (ins.getD 0 []) := mi (by simp at ha; omega)
  rw [h,g0]
  simp only [bPs]
  rw [named_eq c q _ (hn (.inr h)) hself]
  simp [bg]
 ·have g0 : aR ins 0 = some (ins.getD 0 []) := mi (by simp at ha; omega)
  rw [h,sort_run c.vars _ ins g0,g0]
  simp only [bg,bPs]
  by_cases hse : kB c.vars (ins.getD 0 []) q.exprs = 0
  ·simp only [hse,ne_eq,not_true_eq_false,if_false]; rfl
  ·simp only [hse,ne_eq,not_false_eq_true,if_true]; rfl
 ·have g0 : aR ins 0 = some (ins.getD 0 []) := mi (by simp at ha; omega)
  rw [h,g0]
  simp [bg]
def cT : List (List LCol × Int) → List (List LCol) × Int
 | []=>([],0)
 | r :: l=>if r.2 ≠ 0 then ([],r.2) else if (cT l).2 ≠ 0 then ([],(cT l).2) else (r.1 :: (cT l).1,0)
def mT (c : LChecker) (q : LQuery) (ins : List (List LCol × Int)) : List LCol × Int :=
 if kd q = false then ([],3) else if (cT ins).2 ≠ 0 then ([],(cT ins).2)
 else if (lC c q (cT ins).1).2 ≠ 0 then ([],(lC c q (cT ins).1).2)
 else if 20 < (lC c q (cT ins).1).1.length then ([],2)
 else if ((lC c q (cT ins).1).1.map LCol.name).Nodup then ((lC c q (cT ins).1).1,0) else ([],23)
def el (c : LChecker) (q : LQuery) : List LCol × Int := mT c q (q.inputs.attach.map fun x=>el c x.1)
termination_by SizeOf.sizeOf q
decreasing_by exact LQuery.inputs_lt x.2
theorem colsQ_eq (c : LChecker) (q : LQuery) : el c q = mT c q (q.inputs.map (el c)) := by
 rw [el,List.attach_map_val (f := el c)]
theorem qO (f : LQuery → Option (List LCol × Int)) (g : LQuery → List LCol × Int) : ∀ (l : List LQuery) (j : Nat) (s : List (List LCol)),(∀ x ∈ l,f x = some (g x)) → s.length + l.length ≤ 10000000 → ∀ k : List (List LCol) → Option (List LCol × Int),
  ag (aI (σ := List (List LCol)) (ρ := ((List LCol) × Int)) (fun (_ : Nat) (x1 : LQuery) (s1 : List (List LCol))=>ag (f x1) fun x28=>cond (x28.2 != (0 : Int)) (some (.ret ([],x28.2)))
    (ag (bS 24 s1 ([x28.1] : List (List LCol))) fun (x37 : List (List LCol))=>some (.next x37))) j l s) (fun fl1=>fl1.thenR k) =
   if (cT (l.map g)).2 ≠ 0 then some ([],(cT (l.map g)).2) else k (s ++ (cT (l.map g)).1)
 | [],j,s,_,_,k=>by simp [aI,cT]
 | x :: l,j,s,h,hb,k=>by
  rw [aI,h x (by simp),bPs,List.map_cons,cT]
  by_cases h1 : (g x).2 = 0
  ·rw [bneF h1,zd,bL (by decide) (by simp at hb ⊢; omega),bPs]
   simp only [h1,ne_eq,not_true_eq_false,if_false]
   rw [qO f g l (j + 1) _ (fun y hy=>h y (by simp [hy])) (by simp at hb ⊢; omega) k]
   by_cases h2 : (cT (l.map g)).2 = 0
   ·simp [h2]
   ·simp [h2]
  ·rw [bneT h1]; simp [h1]
theorem oN : ∀ {l : List (List LCol × Int)},(cT l).2 = 0 → (∀ r ∈ l,r.2 = 0) ∧ (cT l).1 = l.map (·.1)
 | [],_=>⟨by simp,rfl⟩
 | r :: l,h=>by
  simp only [cT] at h ⊢
  by_cases h1 : r.2 = 0
  ·by_cases h2 : (cT l).2 = 0
   ·obtain ⟨a,b⟩ := oN h2
    refine ⟨fun x hx=>?_,by simp [h1,h2,b]⟩
    rcases List.mem_cons.1 hx with rfl | hx
    ·exact h1
    ·exact a x hx
   ·simp [h1,h2] at h
  ·simp [h1] at h
theorem dup_run (out : List LCol) : ag (aI (σ := Unit) (ρ := ((List LCol) × Int)) (fun (j2 : Nat) (x2 : LCol) (_ : Unit) =>
     ag (kG out 0 (j2 : Int)) fun (x61 : List LCol) =>
     ag (bM x61 (fun a0=>some (bZ a0 x2))) fun x63 =>
     cond x63 (some (.ret ([],23))) (some (.next ()))) 0 out ()) (fun fl2=>fl2.thenR fun (_ : Unit)=>some (out,0)) = some (if (out.map LCol.name).Nodup then (out,0) else ([],23)) := by
 obtain ⟨fl,hfl,hr⟩ := ix (step := fun (j2 : Nat) (x2 : LCol) (_ : Unit) =>
     ag (kG out 0 (j2 : Int)) fun (x61 : List LCol) =>
     ag (bM x61 (fun a0=>some (bZ a0 x2))) fun x63 =>
     cond x63 (some (Flow.ret (([],23) : List LCol × Int))) (some (.next ())))
  (fun j _=>((out.take j).map LCol.name).Nodup) (fun r=>r = ([],23) ∧ ¬ (out.map LCol.name).Nodup) out 0 () (by simp) (fun k x s hk hI=>by
   simp only [Nat.zero_add] at hI ⊢
   have hkl := (zg.1 hk).1
   rw [subI_ok ⟨by omega,by omega,by omega⟩,bPs]
   unfold bM
   rw [idx_column,bPs,bPs,nF]
   simp only [Int.toNat_natCast,Int.toNat_zero,List.drop_zero]
   cases ha : (out.take k).any fun a0=>bZ a0 x with
   | true =>
    refine ⟨_,rfl,rfl,fun hnd=>?_⟩
    obtain ⟨y,hy,he⟩ := List.any_eq_true.1 ha
    have he : y.name = x.name := by simpa [bZ] using he
    obtain ⟨i,hi,hyi⟩ := List.mem_take_iff_getElem.1 hy
    have hii : i < k := by omega
    rw [List.nodup_iff_pairwise_ne,List.pairwise_iff_getElem] at hnd
    refine hnd i k (by simp; omega) (by simpa using hkl) hii ?_
    simp only [List.getElem_map]
    rw [(zg.1 hk).2,hyi,he]
   | false =>
    refine ⟨_,rfl,?_⟩
    simp only
    rw [List.take_add_one,hk,List.map_append,List.nodup_append]
    refine ⟨hI,by simp,fun a ha' b hb hab=>?_⟩
    simp at hb
    subst hb
    subst hab
    obtain ⟨y,hy,he⟩ := List.mem_map.1 ha'
    have := List.any_eq_false.1 ha y hy
    exact this (by simpa [bZ] using he))
 rw [hfl,bPs]
 cases fl with
 | brk s=>exact absurd hr (by simp)
 | ret r=>rw [thenR_retS,hr.1,zy hr.2]
 | next s =>
  simp only [Nat.zero_add,List.take_length] at hr
  rw [jW,zp hr]
theorem colsQ_len (c : LChecker) (q : LQuery) : (el c q).1.length ≤ 20 := by
 rw [colsQ_eq]
 unfold mT
 repeat' split
 all_goals first | (simp; done) | (simp only; omega)
theorem cols_ok (c : LChecker) : ∀ q : LQuery,SmallQ q → eG c q = some (el c q) := by
 refine LQuery.ind fun q ih hsm=>?_
 refine mw (γ := LChecker) (F := fun n c q=>dS n c q) (O := fun r c q=>dU r c q) (fun n=>rfl) c q ?_ (fun x hx=>⟨_,ih x hx (hsm.sub hx)⟩) ?_
 ·intro r r' h
  simp only [dU]
  congr 1
  funext b
  congr 2
  exact ii q.inputs 0 _ fun k x s hk=>by rw [h x (cy hk)]
 ·have e : ∀ c x,(fe fun n=>dS n c x) = eG c x := fun _ _=>rfl
  simp only [dU,e]
  have hself := hsm.self
  rw [shape_eq q ⟨by omega,by omega⟩,bPs,colsQ_eq]
  unfold mT
  cases hs : kd q with
  | false=>rfl
  | true =>
   have hok := shape_ok hs
   have hin : q.inputs.length ≤ 2 := by rw [hok.arity]; unfold lR; split <;> (try split) <;> omega
   simp only [Bool.not_true,zd,Bool.true_eq_false,if_false]
   rw [qO (eG c) (el c) q.inputs 0 [] (fun x hx=>ih x hx (hsm.sub hx)) (by simp; omega),List.nil_append]
   by_cases h1 : (cT (q.inputs.map (el c))).2 = 0
   ·obtain ⟨a,b⟩ := oN h1
    simp only [h1,ne_eq,not_true_eq_false,if_false]
    rw [out_eq hok hsm (by rw [b]; simp) (fun l hl=>by
     rw [b] at hl
     obtain ⟨r,hr,rfl⟩ := List.mem_map.1 hl
     obtain ⟨x,_,rfl⟩ := List.mem_map.1 hr
     exact colsQ_len c x),bPs]
    generalize lC c q (cT (q.inputs.map (el c))).1 = o
    by_cases h2 : o.2 = 0
    ·rw [bneF h2,zd]
     simp only [h2,not_true_eq_false,if_false]
     by_cases h3 : 20 < o.1.length
     ·rw [zt (show (o.1.length : Int) > 20 from by omega),zp h3]; rfl
     ·rw [zf (show ¬ (o.1.length : Int) > 20 from by omega),zy h3,zd]
      exact dup_run o.1
    ·rw [bneT h2]; simp [h2]
   ·simp [h1]
section
variable {α : Type}
end
section
abbrev Rows := Rz
abbrev Cmp := Rq → Rq → Option Int
variable {cmp : Cmp} {d0 : Rows}
end
theorem cols_inv {c : LChecker} {q : LQuery} (h : (el c q).2 = 0) : kd q = true ∧ (∀ x ∈ q.inputs,(el c x).2 = 0) ∧ (lC c q (q.inputs.map fun x=>(el c x).1)).2 = 0 ∧ (el c q).1 = (lC c q (q.inputs.map fun x=>(el c x).1)).1 ∧ ((el c q).1.map LCol.name).Nodup := by
 rw [colsQ_eq] at h ⊢
 unfold mT at h ⊢
 by_cases h1 : kd q = false
 ·simp [h1] at h
 rw [zy h1] at h ⊢
 by_cases h2 : (cT (q.inputs.map (el c))).2 = 0
 ·obtain ⟨a,b⟩ := oN h2
  have e : (q.inputs.map (el c)).map (·.1) = q.inputs.map fun x=>(el c x).1 := by rw [List.map_map]; rfl
  rw [e] at b
  rw [b] at h ⊢
  rw [zy (by simpa using h2)] at h ⊢
  by_cases h3 : (lC c q (q.inputs.map fun x=>(el c x).1)).2 = 0
  ·rw [zy (by simpa using h3)] at h ⊢
   by_cases h4 : 20 < (lC c q (q.inputs.map fun x=>(el c x).1)).1.length
   ·rw [zp h4] at h; simp at h
   ·rw [zy h4] at h ⊢
    by_cases h5 : ((lC c q (q.inputs.map fun x=>(el c x).1)).1.map LCol.name).Nodup
    ·rw [zp h5] at h ⊢
     exact ⟨by simpa using h1,fun x hx=>a _ (List.mem_map.2 ⟨x,hx,rfl⟩),h3,rfl,h5⟩
    ·rw [zy h5] at h; simp at h
  ·rw [zp h3] at h; exact absurd h h3
 ·rw [zp h2] at h; exact absurd h h2
theorem most_inv {q : LQuery} (h : (eP q).2 ≤ 20000) : (eP q).1 ≤ (eP q).2 ∧ ∀ x ∈ q.inputs,(eP x).2 ≤ 20000 := by
 have key : ∀ (l : List (Int × Int)) (j : Nat) (s : Int × Int),s.2 ≤ (dz q.kind j l s).2 ∧ ∀ x ∈ l,x.2 ≤ (dz q.kind j l s).2 := by
  intro l
  induction l with
  | nil=>intro j s; exact ⟨Int.le_refl _,by simp⟩
  | cons y l ih =>
   intro j s
   obtain ⟨h1,h2⟩ := ih (j + 1) (jd q.kind s j y)
   rw [dz]
   have h3 : s.2 ≤ (jd q.kind s j y).2 := kK _ _
   have h4 : y.2 ≤ (jd q.kind s j y).2 := maxI_r _ _
   refine ⟨by omega,fun x hx=>?_⟩
   rcases List.mem_cons.1 hx with rfl | hx
   ·omega
   ·exact h2 x hx
 have hk := key (q.inputs.map eP) 0 (0,0)
 rw [mostQ_eq] at h ⊢
 by_cases h1 : q.kind = 1
 ·rw [zp h1] at h ⊢
  refine ⟨maxI_r _ _,fun x hx=>?_⟩
  have := hk.2 (eP x) (List.mem_map.2 ⟨x,hx,rfl⟩)
  have := kK (dz q.kind 0 (q.inputs.map eP) (0,0)).2 24
  simp only at h
  omega
 ·rw [zy h1] at h ⊢
  refine ⟨maxI_r _ _,fun x hx=>?_⟩
  have := hk.2 (eP x) (List.mem_map.2 ⟨x,hx,rfl⟩)
  have := kK (dz q.kind 0 (q.inputs.map eP) (0,0)).2 (dz q.kind 0 (q.inputs.map eP) (0,0)).1
  simp only at h
  omega
theorem params_sub {q x : LQuery} (h : x ∈ q.inputs) : ∀ p ∈ jP x,p ∈ jP q := by
 intro p hp
 obtain ⟨l,hl,hp⟩ := List.mem_flatten.1 hp
 obtain ⟨y,hy,rfl⟩ := List.mem_map.1 hl
 exact List.mem_flatten.2 ⟨_,List.mem_map.2 ⟨y,pZ h hy,rfl⟩,hp⟩
theorem e0_mem {q : LQuery} (h : q.exprs.length = 1) : e0Q q ∈ q.exprs := by
 unfold e0Q
 cases hq : q.exprs with
 | nil=>rw [hq] at h; simp at h
 | cons a l=>simp
theorem two {q : LQuery} (h : q.inputs.length = 2) : ∃ x y,q.inputs = [x,y] := by
 match hq : q.inputs,h with
 | [x,y],_=>exact ⟨x,y,rfl⟩
theorem one {q : LQuery} (h : q.inputs.length = 1) : ∃ x,q.inputs = [x] := by
 match hq : q.inputs,h with
 | [x],_=>exact ⟨x,rfl⟩
def SizeOk (q : LQuery) : Prop := (bP q).length ≤ 24 ∧ fG q ≤ 12 ∧ (eP q).2 ≤ 20000
instance (q : LQuery) : Decidable (SizeOk q) := by unfold SizeOk; infer_instance
theorem mO {s : LSchema} {vars : List LCol} {q : LQuery} (h : SmallQ q) : ∃ cs e,eU s vars q = some (cs,e) ∧ (e = 0 ↔ SizeOk q ∧ qk (jP q) ∧ (el ⟨s,vars⟩ q).2 = 0) ∧ (e = 0 → cs = (el ⟨s,vars⟩ q).1) := by
 unfold eU
 rw [pg q h.nodes,bPs]
 by_cases h1 : (bP q).length ≤ 24
 ·rw [zf (show ¬ ((bP q).length : Int) > 24 from by omega),zd,depth_ok q h.nodes,bPs]
  by_cases h2 : fG q ≤ 12
  ·rw [zf (show ¬ fG q > 12 from by omega),zd]
   unfold eN
   rw [most_ok,bPs,bPs]
   by_cases h3 : (eP q).2 ≤ 20000
   ·rw [zf (show ¬ (eP q).2 > 20000 from by omega),bPs,zd,kinds_ok h.nodes,bPs]
    cases hb : (iU q).2.1 with
    | true =>
     refine ⟨[],13,rfl,⟨fun h=>by omega,fun hh=>?_⟩,fun h=>by omega⟩
     rw [kinds_bad.2 hh.2.1] at hb
     cases hb
    | false =>
     have hk := kinds_bad.1 hb
     simp only [zd]
     rw [cols_ok _ q h]
     refine ⟨(el ⟨s,vars⟩ q).1,(el ⟨s,vars⟩ q).2,rfl,⟨fun h0=>⟨⟨h1,h2,h3⟩,hk,h0⟩,fun hh=>hh.2.2⟩,fun _=>rfl⟩
   ·rw [zt (show (eP q).2 > 20000 from by omega)]
    exact ⟨[],2,rfl,⟨fun h=>by omega,fun hh=>absurd hh.1.2.2 h3⟩,fun h=>by omega⟩
  ·rw [zt (show fG q > 12 from by omega)]
   exact ⟨[],2,rfl,⟨fun h=>by omega,fun hh=>absurd hh.1.2.1 h2⟩,fun h=>by omega⟩
 ·rw [zt (show ((bP q).length : Int) > 24 from by omega)]
  exact ⟨[],2,rfl,⟨fun h=>by omega,fun hh=>absurd hh.1.1 h1⟩,fun h=>by omega⟩
structure TinyQ (q : LQuery) : Prop where
 nodes : (bP q).length ≤ 2000000
 here : ∀ x ∈ bP q,x.exprs.length ≤ 1000000 ∧ x.aggregates.length ≤ 1000000
theorem TinyQ.small {q : LQuery} (h : TinyQ q) : SmallQ q := ⟨by have := h.nodes; omega,h.here⟩
end
end Go.Proofs.YtlojdffmcdaheaaGreatDoor
