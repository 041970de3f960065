/- procedureEmitMatchesQueryUpto_holds, part 6: the layer, the plain functions and what they compute; conditions as in the statement. -/
import Derived.Test.YtppmcepdcpmpcaaGreatDoorEme
set_option maxHeartbeats 4000000
namespace Go.Proofs.YtppmcepdcpmpcaaGreatDoor
noncomputable section
open Go Go.Ab
attribute [local irreducible] V Ao Do Gh Eff PH IntKind.wrap
set_option maxRecDepth 4000
def kt (sA : LSchema) (q : LQuery) : Option (Bool) :=
 af (
  af (mt q 400) fun x8 =>
  cond (decide (x8 < (0 : Int)))
   (some true)
   (af (jl sA) fun x12 =>
   some (x12 != (0 : Int)))) fun (t1 : Bool) =>
 cond t1
  (some false)
  (af (mg sA q) fun x18 =>
  some (x18.2 == (0 : Int)))
theorem tQ (sA : LSchema) (q : LQuery) (r : Bool) (H : kt sA q = some r) :
  aK Tryz.prog 7 [(.agg (bR sA)),(.agg (aI q))] (aC r) := by
 unfold kt at H
 refine PH.au Tryz.func7 Tryz.ntmps7 ?_
 refine ab (aa (aE ?_))
 refine aE ?_
 refine ah tk rfl (ac (ab (ab ?_)))
 refine eO (γ := Unit) (fun t1 g1=>⟨23,upd (upd (upd (fun _=>.any) 14 (aC t1)) 3 (.ptr (aI q))) 2 (.ptr (bR sA)),fun _=>none,fun _=>none⟩) H (fun _ H=>?_) (fun t1 g1 H=>?_)
 ·refine aa (ah tk rfl ?_)
  obtain ⟨x8,h8,H⟩ := av H
  have s8 := us q 400 _ h8
  refine ak Tryz.call23 (jn.r) s8 ?_
  refine ag 2 tk rfl ?_
  refine bh rfl rfl rfl H (fun H=>?_) (fun H=>?_)
  ·refine ag 4 tk rfl (ac ?_)
   refine aT _ () (az H) Gh.d
  refine ah tk rfl ?_
  obtain ⟨x12,h12,H⟩ := av H
  have s12 := tT sA _ h12
  refine ak Tryz.call24 (jn.r) s12 ?_
  refine ag 2 tk rfl (ac ?_)
  refine aT _ () (az H) Gh.d
 refine aF rfl H (fun H=>?_) (fun H=>?_)
 ·refine ao 1 tk rfl ?_
  exact aY tk H rfl
 refine ap (ab (aa (ag 2 tk rfl ?_)))
 obtain ⟨x18,h18,H⟩ := av H
 have s18 := W_query_Check sA q _ h18
 refine ak Tryz.call25 (jn.r) s18 ?_
 refine ag 5 tk rfl (ac (ao 3 tk rfl ?_))
 exact aY tk H rfl
def gC (sA : LSchema) (p : LProcedureProcedure) : Option (Int) :=
 af (
  af (bZ p.body) fun x11 =>
  cond (decide ((x11.length : Int) > (40 : Int)))
   (some true)
   (af (dq p.body) fun x17 =>
   cond (decide (x17 > (6 : Int)))
    (some true)
    (some (decide ((p.parameters.length : Int) > (8 : Int)))))) fun (t1 : Bool) =>
 cond t1
  (some 2)
  (af (aH (σ := Unit) (ρ := (Int)) (fun (_ : Nat) (x2 : Int) (_ : Unit) =>
   cond (decide (x2 < (1 : Int)))
    (some (.ret 1))
    (cond (decide (x2 > (3 : Int)))
     (some (.ret 1))
     (some (.next ())))) 0 p.parameters ()) fun fl2=>fl2.thenR fun (_ : Unit) =>
  af (bB (LProcedureChecker.mk sA p.parameters) ([] : List LCol) p.body) fun x47 =>
  some x47.2)
theorem oD (sA : LSchema) (p : LProcedureProcedure) (r : Int) (H : gC sA p = some r) :
  aK Tryz.prog 15 [(.agg (bR sA)),(.agg (hC p))] (al r) := by
 unfold gC at H
 refine PH.au Tryz.func15 Tryz.ntmps15 ?_
 refine ab (aa (aE ?_))
 refine aE ?_
 refine ah tk rfl (ac (ab (ab ?_)))
 refine eO (γ := Unit) (fun t1 g1=>⟨51,upd (upd (upd (fun _=>.any) 25 (aC t1)) 3 (.ptr (hC p))) 2 (.ptr (bR sA)),fun _=>none,fun _=>none⟩) H (fun _ H=>?_) (fun t1 g1 H=>?_)
 ·refine aa (ag 2 tk rfl ?_)
  obtain ⟨x11,h11,H⟩ := av H
  have s11 := qC p.body _ h11
  refine ak Tryz.call47 (jn.r) s11 ?_
  refine aA tk (zl _) ?_
  refine ag 2 tk rfl ?_
  refine bh rfl rfl rfl H (fun H=>?_) (fun H=>?_)
  ·refine ag 11 tk rfl (ac ?_)
   refine aT _ () (az H) Gh.d
  refine ag 2 tk rfl ?_
  obtain ⟨x17,h17,H⟩ := av H
  have s17 := tJ p.body _ h17
  refine ak Tryz.call48 (jn.r) s17 ?_
  refine ag 3 tk rfl ?_
  refine bh rfl rfl rfl H (fun H=>?_) (fun H=>?_)
  ·refine ag 5 tk rfl (ac ?_)
   refine aT _ () (az H) Gh.d
  refine ag 2 tk rfl (aA tk (zl _) ?_)
  refine ag 2 tk rfl (ac ?_)
  refine aT _ () (az H) Gh.d
 refine aF rfl H (fun H=>?_) (fun H=>?_)
 ·refine ao 1 tk rfl ?_
  exact aY tk H rfl
 refine ap (ab (ab (aa (ag 2 tk rfl (aA tk (zl _) ?_)))))
 refine ah tk rfl (ac ?_)
 refine eM tk 29 28 27 (fun s2 g2=>upd (upd (fun _=>.any) 3 (.ptr (hC p))) 2 (.ptr (bR sA))) nB nO () H (fun fl2 Hp2 j2 s2 g2 hz2 hl2 x2 fb2 hx2 H hg2=>?_) (fun s2 g2 H=>?_)
 ·refine ab (aw (ab (aa ?_)))
  refine aU tk (zn j2) (bn (fun _=>rfl) hx2) ?_
  refine ag 2 tk rfl (ac (ab (aa (ag 3 tk rfl ?_))))
  refine bh rfl rfl rfl H (fun H=>?_) (fun H=>?_)
  ·refine ag 3 tk rfl (ac (bP rfl (ao 1 tk rfl ?_)))
   obtain rfl := az H
   have e2 : fl2 = .ret _ := hg2
   subst e2
   obtain rfl := aS Hp2
   refine ba tk rfl (ps := [(al 1)]) ⟨_,_,rfl,rfl,rfl⟩ (PLe.q rfl)
  refine ag 3 tk rfl (ac ?_)
  refine aF rfl H (fun H=>?_) (fun H=>?_)
  ·refine ao 1 tk rfl ?_
   obtain rfl := az H
   have e2 : fl2 = .ret _ := hg2
   subst e2
   obtain rfl := aS Hp2
   refine ba tk rfl (ps := [(al 1)]) ⟨_,_,rfl,rfl,rfl⟩ (PLe.q rfl)
  refine ap (aG (bc 2 tk rfl ?_))
  exact bl () H hl2 hg2
 refine ab (aa (ag 6 tk rfl ?_))
 obtain ⟨x47,h47,H⟩ := av H
 have s47 := px (LProcedureChecker.mk sA p.parameters) ([] : List LCol) p.body _ h47
 refine ak Tryz.call49 (jn.of2 (iZ.cons (oB.of_eq rfl) (iZ.cons (oB.nil tk rfl) (iZ.cons (oB.of_eq rfl) iZ.nil)))) s47 ?_
 refine ag 5 tk rfl (ac (ao 2 tk rfl ?_))
 exact aY tk H rfl
def dV (sA : LSchema) (st : List LRelation) (q : LQuery) (args : Rq) (vars : List LCol) (vals : Rq) : Option (LResult × Int) :=
 af (fP sA vars q) fun x28 =>
 cond (x28.2 != (0 : Int))
  (some ((LResult.mk [] []),x28.2))
  (af (fN q args) fun x37 =>
  cond (x37 != (0 : Int))
   (some ((LResult.mk [] []),x37))
   (af (eP sA st) fun x44 =>
   cond (x44 != (0 : Int))
    (some ((LResult.mk [] []),x44))
    (af (aH (σ := List (List UInt8)) (ρ := Empty) (fun (_ : Nat) (x1 : LCol) (s1 : List (List UInt8)) =>
     af (dg 16 s1 ([x1.name] : List (List UInt8))) fun (x66 : List (List UInt8)) =>
     some (.next x66)) 0 vars []) fun fl1=>fl1.thenP fun (s1 : List (List UInt8)) =>
    af (mr (LRun.mk sA st args vars s1 vals) q) fun x73 =>
    af (aH (σ := Rz) (ρ := Empty) (fun (_ : Nat) (x2 : Rq) (s2 : Rz) =>
     af (dg 24 s2 ([x2] : Rz)) fun (x84 : Rz) =>
     some (.next x84)) 0 x73 []) fun fl2=>fl2.thenP fun (s2 : Rz) =>
    some ((LResult.mk x28.1 s2),0))))
theorem mc (sA : LSchema) (st : List LRelation) (q : LQuery) (args : Rq) (vars : List LCol) (vals : Rq) (r : LResult × Int) (H : dV sA st q args vars vals = some r) :
  aK Tryz.prog 61 [(.agg (bR sA)),(.list 77 (st.map bp)),(.agg (aI q)),(.list 73 (args.map ae)),(.list 68 (vars.map ay)),(.list 73 (vals.map ae))] (.tup [(.agg (bt r.1)),(al r.2)]) := by
 unfold dV at H
 refine PH.au Tryz.func61 Tryz.ntmps61 ?_
 refine ab (aa (aE ?_))
 refine aE ?_
 refine bg tk fun b12=>?_
 refine ah tk rfl (ac (ab (aa (ag 3 tk rfl ?_))))
 obtain ⟨x28,h28,H⟩ := av H
 have s28 := lh sA vars q _ h28
 refine ak Tryz.call70 (jn.r) s28 ?_
 refine ag 5 tk rfl (ac (ab (ao 2 tk rfl ?_)))
 refine aF rfl H (fun H=>?_) (fun H=>?_)
 ·refine ab (aa (ag 2 tk rfl (aq tk ?_)))
  refine ah tk rfl (ac ?_)
  obtain rfl := az H
  refine ba tk rfl (ps := [(.agg [(.val (.slice none 0 0)),(.val (.slice none 0 0))]),(al x28.2)]) ⟨_,_,rfl,⟨_,_,_,_,_,rfl,rfl,rfl,rfl⟩,_,_,rfl,rfl,rfl⟩ (PLe.of2 (oB.tup (iZ.cons (oB.agg (iZ.cons (oB.nil tk rfl) (iZ.cons (oB.nil tk rfl) iZ.nil))) (iZ.cons (oB.of_eq rfl) iZ.nil))))
 refine ap (ab (ab (aa (ag 2 tk rfl ?_))))
 obtain ⟨x37,h37,H⟩ := av H
 have s37 := ma q args _ h37
 refine ak Tryz.call46 (jn.r) s37 ?_
 refine ah tk rfl (ac (ao 2 tk rfl ?_))
 refine aF rfl H (fun H=>?_) (fun H=>?_)
 ·refine ab (aa (ag 2 tk rfl (aq tk ?_)))
  refine ah tk rfl (ac ?_)
  obtain rfl := az H
  refine ba tk rfl (ps := [(.agg [(.val (.slice none 0 0)),(.val (.slice none 0 0))]),(al x37)]) ⟨_,_,rfl,⟨_,_,_,_,_,rfl,rfl,rfl,rfl⟩,_,_,rfl,rfl,rfl⟩ (PLe.of2 (oB.tup (iZ.cons (oB.agg (iZ.cons (oB.nil tk rfl) (iZ.cons (oB.nil tk rfl) iZ.nil))) (iZ.cons (oB.of_eq rfl) iZ.nil))))
 refine ap (ab (ab (aa (ag 2 tk rfl ?_))))
 obtain ⟨x44,h44,H⟩ := av H
 have s44 := lg sA st _ h44
 refine ak Tryz.call45 (jn.r) s44 ?_
 refine ah tk rfl (ac (ao 2 tk rfl ?_))
 refine aF rfl H (fun H=>?_) (fun H=>?_)
 ·refine ab (aa (ag 2 tk rfl (aq tk ?_)))
  refine ah tk rfl (ac ?_)
  obtain rfl := az H
  refine ba tk rfl (ps := [(.agg [(.val (.slice none 0 0)),(.val (.slice none 0 0))]),(al x44)]) ⟨_,_,rfl,⟨_,_,_,_,_,rfl,rfl,rfl,rfl⟩,_,_,rfl,rfl,rfl⟩ (PLe.of2 (oB.tup (iZ.cons (oB.agg (iZ.cons (oB.nil tk rfl) (iZ.cons (oB.nil tk rfl) iZ.nil))) (iZ.cons (oB.of_eq rfl) iZ.nil))))
 refine ap (ab (aa (ag 6 tk rfl ?_)))
 refine bg tk fun b18=>?_
 refine aq tk ?_
 refine ac (ab (ab (aa (ah tk rfl (aA tk (zl _) ?_)))))
 refine ah tk rfl (ac (tB tk 18 6 66 (e := 9) rfl rfl rfl rfl ?_))
 refine hZ (γ := OwnRef) tk 57 56 55 (fun s1 g1=>upd (upd (upd (upd (fun _=>.any) 18 (.box 18 b18 0)) 14 (.list 68 (x28.1.map ay))) 12 (.box 12 b12 0)) 8 (.ptr (aI q))) (fun s1 g1=>upd (upd (fun _=>none) 18 (some ⟨b18,[(.list 71 (sA.tables.map bA)),(.list 135 (sA.foreignKeys.map dC)),(.list 141 (sA.constraints.map ed)),(.list 77 (st.map bp)),(.list 73 (args.map ae)),(.list 68 (vars.map ay)),(.own 66 g1 (s1.map mi).length),(.list 73 (vals.map ae))]⟩)) 12 (some ⟨b12,[(.val (.slice none 0 0)),(.val (.slice none 0 0))]⟩)) (fun s1 g1=>upd (fun _=>none) 66 (some ⟨g1,9,(s1.map mi),true⟩)) (⟨none,0⟩) H (fun fl1 Hp1 j1 s1 g1 hz1 hl1 x1 fb1 hx1 H hg1=>?_) (fun s1 g1 H=>?_)
 ·refine ab (aw (ab (aa ?_)))
  refine aU tk (zn j1) (bn (fun _=>rfl) hx1) ?_
  refine ah tk rfl ?_
  refine bg tk fun b20=>?_
  refine aq tk ?_
  refine ac (aa (ah tk rfl (aD tk ?_)))
  refine ah tk rfl (aD tk ?_)
  refine cn tk (rows' := List.map mi ([x1.name] : List (List UInt8))) (gD.refl _) ?_
  obtain ⟨x66,h66,H⟩ := av H
  have k66 := cu h66
  refine cp (rows2' := List.map mi ([x1.name] : List (List UInt8))) (rows' := List.map mi x66) tk rfl rfl rfl rfl rfl rfl rfl rfl rfl rfl rfl rfl rfl (gD.refl _) (dT k66.1) (dU k66.2.1) (dS k66.2.2) fun g66=>?_
  refine ah tk rfl (aq tk ?_)
  refine ac (aG (bc 2 tk rfl ?_))
  exact bl g66 H hl1 hg1
 refine ab (aa (ag 2 tk rfl ?_))
 refine bg tk fun b21=>?_
 refine aq tk ?_
 refine ac (ab (ab (rd 18 6 rfl rfl rfl rfl rfl (aa (aD tk ?_)))))
 refine ah tk rfl ?_
 obtain ⟨x73,h73,H⟩ := av H
 have s73 := uo (LRun.mk sA st args vars s1 vals) q _ h73
 refine ak Tryz.call100 (jn.r) s73 ?_
 refine aA tk (zl _) ?_
 refine ah tk rfl (ac (tB tk 21 1 84 (e := 75) rfl rfl rfl rfl ?_))
 refine hZ (γ := OwnRef) tk 75 74 73 (fun s2 g2=>upd (upd (fun _=>.any) 21 (.box 21 b21 0)) 12 (.box 12 b12 0)) (fun s2 g2=>upd (upd (fun _=>none) 21 (some ⟨b21,[(.list 68 (x28.1.map ay)),(.own 84 g2 (s2.map (am 73 ae)).length)]⟩)) 12 (some ⟨b12,[(.val (.slice none 0 0)),(.val (.slice none 0 0))]⟩)) (fun s2 g2=>upd (fun _=>none) 84 (some ⟨g2,75,(s2.map (am 73 ae)),true⟩)) (⟨none,0⟩) H (fun fl2 Hp2 j2 s2 g2 hz2 hl2 x2 fb2 hx2 H hg2=>?_) (fun s2 g2 H=>?_)
 ·refine ab (aw (ab (aa ?_)))
  refine aU tk (zn j2) (bn (fun _=>rfl) hx2) ?_
  refine ag 2 tk rfl (ac (bm tk mok ⟨true,false,[]⟩ [0,1,2,3,4,5,6,7] rfl (by decide +kernel) rfl (bV rfl (bO ?_))))
  refine bV rfl ?_
  have s82 := clone_101 (m := 82) x2
  refine aV Tryz.call101 (jn.r) (PFun.ju s82) ?_
  refine bV rfl ?_
  obtain ⟨x84,h84,H⟩ := av H
  have k84 := cu h84
  refine lN (rows2' := List.map (am 73 ae) ([x2] : Rz)) (rows' := List.map (am 73 ae) x84) tk rfl rfl rfl rfl rfl rfl rfl rfl rfl rfl rfl rfl rfl rfl (gD.refl _) (dT k84.1) (dU k84.2.1) (dS k84.2.2) fun g84=>?_
  refine bV rfl (eD ?_)
  refine be (aG (bc 2 tk rfl ?_))
  exact bl g84 H hl2 hg2
 refine ab (aa (aD tk ?_))
 refine aq tk ?_
 refine ah tk rfl (ac ?_)
 obtain rfl := az H
 refine rd 12 1 rfl rfl rfl rfl rfl ?_
 refine ba tk rfl (ps := [(.agg [(.list 68 (x28.1.map ay)),(.list 75 (s2.map (am 73 ae)))]),(al 0)]) ⟨_,_,rfl,⟨_,_,_,_,_,rfl,rfl,rfl,rfl⟩,_,_,rfl,rfl,rfl⟩ (PLe.q rfl)
def iJ (sA : LSchema) (st : List LRelation) (q : LQuery) (args : Rq) : Option (Bool) :=
 af (kt sA q) fun x11 =>
 cond x11
  (cond (decide ((args.length : Int) ≤ (20 : Int)))
   (af (eP sA st) fun x20 =>
   cond (x20 == (0 : Int))
    (af (fN q args) fun x26 =>
    some (x26 == (0 : Int)))
    (some false))
   (some false))
  (some false)
theorem pQ (sA : LSchema) (st : List LRelation) (q : LQuery) (args : Rq) (r : Bool) (H : iJ sA st q args = some r) :
  aK Tryz.prog 14 [(.agg (bR sA)),(.list 77 (st.map bp)),(.agg (aI q)),(.list 73 (args.map ae))] (aC r) := by
 unfold iJ at H
 refine PH.au Tryz.func14 Tryz.ntmps14 ?_
 refine ab (aa (aE ?_))
 refine aE ?_
 refine ah tk rfl (ac (ab (aa (ag 2 tk rfl ?_))))
 obtain ⟨x11,h11,H⟩ := av H
 have s11 := tQ sA q _ h11
 refine ak Tryz.call7 (jn.r) s11 ?_
 refine ah tk rfl ?_
 refine bh rfl rfl rfl H (fun H=>?_) (fun H=>?_)
 ·refine ah tk rfl (aA tk (zl _) ?_)
  refine ag 3 tk rfl ?_
  refine bh rfl rfl rfl H (fun H=>?_) (fun H=>?_)
  ·refine ag 2 tk rfl ?_
   obtain ⟨x20,h20,H⟩ := av H
   have s20 := lg sA st _ h20
   refine ak Tryz.call45 (jn.r) s20 ?_
   refine ag 3 tk rfl ?_
   refine bh rfl rfl rfl H (fun H=>?_) (fun H=>?_)
   ·refine ag 2 tk rfl ?_
    obtain ⟨x26,h26,H⟩ := av H
    have s26 := ma q args _ h26
    refine ak Tryz.call46 (jn.r) s26 ?_
    refine ag 3 tk rfl (ac ?_)
    exact aY tk H rfl
   refine ag 6 tk rfl (ac ?_)
   exact aY tk H rfl
  refine ag 12 tk rfl (ac ?_)
  exact aY tk H rfl
 refine ag 17 tk rfl (ac ?_)
 exact aY tk H rfl
def iD (rA : LProcedureRun) (sA : LProcedureStatement) : Option (Int × LProcedureRun) :=
 af (aJ sA.query 0) fun (x25 : LQuery) =>
 af (dV rA.s rA.st x25 rA.args rA.vars rA.vals) fun x39 =>
 cond (x39.2 != (0 : Int))
  (some (x39.2,rA))
  (cond (sA.kind == (7 : Int))
   (cond ((rA.results.length : Int) == (8 : Int))
    (some (2,rA))
    (af (dg 48 rA.results ([x39.1] : List LResult)) fun (x61 : List LResult) =>
    some (0,(LProcedureRun.mk rA.s rA.st rA.args rA.vars rA.vals rA.changes x61 rA.left rA.stopped))))
   (none))
theorem se (b_rA : Nat) (g_rA_7 : OwnRef) (g_rA_8 : OwnRef) (rA : LProcedureRun) (sA : LProcedureStatement) (r : Int × LProcedureRun) (H : iD rA sA = some r) :
  PH Tryz.prog 137 [(.box 1500 b_rA 0),(.agg (aR sA))] ⟨upd (fun _=>none) 1500 (some ⟨b_rA,[(.list 71 (rA.s.tables.map bA)),(.list 135 (rA.s.foreignKeys.map dC)),(.list 141 (rA.s.constraints.map ed)),(.list 77 (rA.st.map bp)),(.list 73 (rA.args.map ae)),(.list 68 (rA.vars.map ay)),(.list 73 (rA.vals.map ae)),(.own 1607 g_rA_7 (rA.changes.map bH).length),(.own 1608 g_rA_8 (rA.results.map bt).length),(al rA.left),(aC rA.stopped)]⟩),upd (upd (fun _=>none) 1608 (some ⟨g_rA_8,63,(rA.results.map bt),true⟩)) 1607 (some ⟨g_rA_7,213,(rA.changes.map bH),true⟩)⟩ (fun u H=>∃ gz0_7,∃ gz0_8,u = (al r.1) ∧ H = ⟨upd (fun _=>none) 1500 (some ⟨b_rA,[(.list 71 (r.2.s.tables.map bA)),(.list 135 (r.2.s.foreignKeys.map dC)),(.list 141 (r.2.s.constraints.map ed)),(.list 77 (r.2.st.map bp)),(.list 73 (r.2.args.map ae)),(.list 68 (r.2.vars.map ay)),(.list 73 (r.2.vals.map ae)),(.own 1607 gz0_7 (r.2.changes.map bH).length),(.own 1608 gz0_8 (r.2.results.map bt).length),(al r.2.left),(aC r.2.stopped)]⟩),upd (upd (fun _=>none) 1608 (some ⟨gz0_8,63,(r.2.results.map bt),true⟩)) 1607 (some ⟨gz0_7,213,(r.2.changes.map bH),true⟩)⟩) := by
 unfold iD at H
 refine PH.au Tryz.func137 Tryz.ntmps137 ?_
 refine ab (aa (aE ?_))
 refine ah tk rfl (ac (ab (bm tk mok ⟨true,false,[24,26]⟩ [0,1,2,3,4,5,6,7,8,9,10,11,12,13,14,15,16,17,18,19,20,21,22,23,24,25,26,27,28,29,30] rfl (by decide +kernel) rfl (aN 3 rfl (bO ?_)))))
 refine aN 3 rfl (bO ?_)
 refine aN 2 rfl ?_
 obtain ⟨x25,k25,H⟩ := bs H
 refine bE k25.1 (aP ce k25.2) ?_
 refine aN 4 rfl (bO ?_)
 refine aN 3 rfl (bO ?_)
 refine aN 3 rfl (bO ?_)
 obtain ⟨x39,h39,H⟩ := av H
 have s39 := mc rA.s rA.st x25 rA.args rA.vars rA.vals _ h39
 refine aV Tryz.call61 (jn.r) s39 ?_
 refine aN 3 rfl ?_
 refine pC rfl rfl rfl rfl rfl rfl rfl rfl fun b5=>?_
 refine eD ?_
 refine bV rfl (be (ab (ao 2 tk rfl ?_)))
 refine aF rfl H (fun H=>?_) (fun H=>?_)
 ·refine ao 2 tk rfl ?_
  obtain rfl := az H
  refine fI (st' := ⟨123,upd (fun _=>.any) 4 (al x39.2),upd (fun _=>none) 1500 (some ⟨b_rA,[(.list 71 (rA.s.tables.map bA)),(.list 135 (rA.s.foreignKeys.map dC)),(.list 141 (rA.s.constraints.map ed)),(.list 77 (rA.st.map bp)),(.list 73 (rA.args.map ae)),(.list 68 (rA.vars.map ay)),(.list 73 (rA.vals.map ae)),(.own 1607 g_rA_7 (rA.changes.map bH).length),(.own 1608 g_rA_8 (rA.results.map bt).length),(al rA.left),(aC rA.stopped)]⟩),upd (upd (fun _=>none) 1608 (some ⟨g_rA_8,63,(rA.results.map bt),true⟩)) 1607 (some ⟨g_rA_7,213,(rA.changes.map bH),true⟩)⟩) (Gh.le (ax aW) (bi rfl (jn.r) aM) (aZ (aZ aL))) ?_
  refine hJ tk rfl (ps := [(al x39.2)]) ⟨_,_,rfl,rfl,rfl⟩ (PLe.q rfl) ⟨_,_,rfl,rfl⟩
 refine ap (ab (ao 3 tk rfl ?_))
 refine aF rfl H (fun H=>?_) (fun H=>?_)
 ·refine ab (ab (aa (ag 3 tk rfl (aD tk ?_))))
  refine jf tk (zl _) ?_
  refine ah tk rfl (ac ?_)
  refine aF rfl H (fun H=>?_) (fun H=>?_)
  ·refine ao 1 tk rfl ?_
   obtain rfl := az H
   refine fI (st' := ⟨123,upd (fun _=>.any) 4 (al 2),upd (fun _=>none) 1500 (some ⟨b_rA,[(.list 71 (rA.s.tables.map bA)),(.list 135 (rA.s.foreignKeys.map dC)),(.list 141 (rA.s.constraints.map ed)),(.list 77 (rA.st.map bp)),(.list 73 (rA.args.map ae)),(.list 68 (rA.vars.map ay)),(.list 73 (rA.vals.map ae)),(.own 1607 g_rA_7 (rA.changes.map bH).length),(.own 1608 g_rA_8 (rA.results.map bt).length),(al rA.left),(aC rA.stopped)]⟩),upd (upd (fun _=>none) 1608 (some ⟨g_rA_8,63,(rA.results.map bt),true⟩)) 1607 (some ⟨g_rA_7,213,(rA.changes.map bH),true⟩)⟩) (Gh.le (ax aW) (bi rfl (jn.r) aM) (aZ (aZ aL))) ?_
   refine hJ tk rfl (ps := [(al 2)]) ⟨_,_,rfl,rfl,rfl⟩ (PLe.q rfl) ⟨_,_,rfl,rfl⟩
  refine ap (ab (uM 5 rfl rfl rfl rfl (bm tk mok ⟨true,false,[59]⟩ [0,1,2,3,4,5,6,7,8,9,10] rfl (by decide +kernel) rfl (aN 4 rfl (bO ?_)))))
  refine aN 2 rfl ?_
  obtain ⟨x61,h61,H⟩ := av H
  have k61 := cu h61
  refine lN (rows2' := List.map bt ([x39.1] : List LResult)) (rows' := List.map bt x61) tk rfl rfl rfl rfl rfl rfl rfl rfl rfl rfl rfl rfl rfl rfl (gD.refl _) (dT k61.1) (dU k61.2.1) (dS k61.2.2) fun g61=>?_
  refine aN 2 rfl (eD ?_)
  refine be (ao 1 tk rfl ?_)
  obtain rfl := az H
  refine fI (st' := ⟨123,upd (fun _=>.any) 4 (al 0),upd (fun _=>none) 1500 (some ⟨b_rA,[(.list 71 ((((LProcedureRun.mk rA.s rA.st rA.args rA.vars rA.vals rA.changes x61 rA.left rA.stopped).s).tables).map bA)),(.list 135 ((((LProcedureRun.mk rA.s rA.st rA.args rA.vars rA.vals rA.changes x61 rA.left rA.stopped).s).foreignKeys).map dC)),(.list 141 ((((LProcedureRun.mk rA.s rA.st rA.args rA.vars rA.vals rA.changes x61 rA.left rA.stopped).s).constraints).map ed)),(.list 77 (((LProcedureRun.mk rA.s rA.st rA.args rA.vars rA.vals rA.changes x61 rA.left rA.stopped).st).map bp)),(.list 73 (((LProcedureRun.mk rA.s rA.st rA.args rA.vars rA.vals rA.changes x61 rA.left rA.stopped).args).map ae)),(.list 68 (((LProcedureRun.mk rA.s rA.st rA.args rA.vars rA.vals rA.changes x61 rA.left rA.stopped).vars).map ay)),(.list 73 (((LProcedureRun.mk rA.s rA.st rA.args rA.vars rA.vals rA.changes x61 rA.left rA.stopped).vals).map ae)),(.own 1607 g_rA_7 (rA.changes.map bH).length),(.own 1608 g61 (x61.map bt).length),(al ((LProcedureRun.mk rA.s rA.st rA.args rA.vars rA.vals rA.changes x61 rA.left rA.stopped).left)),(aC ((LProcedureRun.mk rA.s rA.st rA.args rA.vars rA.vals rA.changes x61 rA.left rA.stopped).stopped))]⟩),upd (upd (fun _=>none) 1608 (some ⟨g61,63,(x61.map bt),true⟩)) 1607 (some ⟨g_rA_7,213,(rA.changes.map bH),true⟩)⟩) (Gh.le (ax aW) (bi rfl (jn.r) aM) (aZ (aZ aL))) ?_
  refine hJ tk rfl (ps := [(al 0)]) ⟨_,_,rfl,rfl,rfl⟩ (PLe.q rfl) ⟨_,_,rfl,rfl⟩
 cases H
def ii (rA : LProcedureRun) (sA : LProcedureStatement) : Option (Int × LProcedureRun) :=
 cond (sA.kind == (1 : Int))
  (none)
  (cond (sA.kind == (2 : Int))
   (none)
   (bv (
    cond (sA.kind == (3 : Int))
     ((sA.kind == (3 : Int)))
     ((sA.kind == (7 : Int)))) fun (t1 : Bool) =>
   cond t1
    (af (iD rA sA) fun x63 =>
    some (x63.1,x63.2))
    (none)))
theorem rh (b_rA : Nat) (g_rA_7 : OwnRef) (g_rA_8 : OwnRef) (rA : LProcedureRun) (sA : LProcedureStatement) (r : Int × LProcedureRun) (H : ii rA sA = some r) :
  PH Tryz.prog 92 [(.box 1500 b_rA 0),(.agg (aR sA))] ⟨upd (fun _=>none) 1500 (some ⟨b_rA,[(.list 71 (rA.s.tables.map bA)),(.list 135 (rA.s.foreignKeys.map dC)),(.list 141 (rA.s.constraints.map ed)),(.list 77 (rA.st.map bp)),(.list 73 (rA.args.map ae)),(.list 68 (rA.vars.map ay)),(.list 73 (rA.vals.map ae)),(.own 1607 g_rA_7 (rA.changes.map bH).length),(.own 1608 g_rA_8 (rA.results.map bt).length),(al rA.left),(aC rA.stopped)]⟩),upd (upd (fun _=>none) 1608 (some ⟨g_rA_8,63,(rA.results.map bt),true⟩)) 1607 (some ⟨g_rA_7,213,(rA.changes.map bH),true⟩)⟩ (fun u H=>∃ gz0_7,∃ gz0_8,u = (al r.1) ∧ H = ⟨upd (fun _=>none) 1500 (some ⟨b_rA,[(.list 71 (r.2.s.tables.map bA)),(.list 135 (r.2.s.foreignKeys.map dC)),(.list 141 (r.2.s.constraints.map ed)),(.list 77 (r.2.st.map bp)),(.list 73 (r.2.args.map ae)),(.list 68 (r.2.vars.map ay)),(.list 73 (r.2.vals.map ae)),(.own 1607 gz0_7 (r.2.changes.map bH).length),(.own 1608 gz0_8 (r.2.results.map bt).length),(al r.2.left),(aC r.2.stopped)]⟩),upd (upd (fun _=>none) 1608 (some ⟨gz0_8,63,(r.2.results.map bt),true⟩)) 1607 (some ⟨gz0_7,213,(r.2.changes.map bH),true⟩)⟩) := by
 unfold ii at H
 refine PH.au Tryz.func92 Tryz.ntmps92 ?_
 refine ab (aa (aE ?_))
 refine ah tk rfl (ac (ab (ao 2 tk rfl (aw (ao 2 tk rfl ?_)))))
 refine aF rfl H (fun H=>?_) (fun H=>?_)
 ·cases H
 refine ao 2 tk rfl ?_
 refine aF rfl H (fun H=>?_) (fun H=>?_)
 ·cases H
 refine ab (ao 2 tk rfl ?_)
 refine gp (γ := Unit) (fun t1 g1=>⟨102,upd (upd (upd (upd (fun _=>.any) 58 (aC t1)) 12 (al sA.kind)) 3 (.ptr (aR sA))) 0 (.box 1500 b_rA 0),upd (fun _=>none) 1500 (some ⟨b_rA,[(.list 71 (rA.s.tables.map bA)),(.list 135 (rA.s.foreignKeys.map dC)),(.list 141 (rA.s.constraints.map ed)),(.list 77 (rA.st.map bp)),(.list 73 (rA.args.map ae)),(.list 68 (rA.vars.map ay)),(.list 73 (rA.vals.map ae)),(.own 1607 g_rA_7 (rA.changes.map bH).length),(.own 1608 g_rA_8 (rA.results.map bt).length),(al rA.left),(aC rA.stopped)]⟩),upd (upd (fun _=>none) 1608 (some ⟨g_rA_8,63,(rA.results.map bt),true⟩)) 1607 (some ⟨g_rA_7,213,(rA.changes.map bH),true⟩)⟩) H (fun _ H=>?_) (fun t1 g1 H=>?_)
 ·refine aF rfl H (fun H=>?_) (fun H=>?_)
  ·refine ap ?_
   refine aT _ () H Gh.d
  refine bc 2 tk rfl ?_
  refine aT _ () H Gh.d
 refine aF rfl H (fun H=>?_) (fun H=>?_)
 ·refine ab (aa (ag 2 tk rfl ?_))
  obtain ⟨x63,h63,H⟩ := av H
  have s63 := se b_rA g_rA_7 g_rA_8 rA sA _ h63
  refine dN (g := 137) rfl rfl rfl Tryz.call137 [(1500,1500)] [(1607,1607),(1608,1608)] rfl rfl rfl rfl (jn.of2 (iZ.cons oB.boxT (iZ.cons (oB.of_eq rfl) iZ.nil))) (by rw [fA,cW,ci,ci,cV]; rfl) s63 ?_
  rintro u63 H63h ⟨gz63_1607,gz63_1608,rfl,rfl⟩
  refine ⟨_,rfl,?_⟩
  refine dc (st' := ⟨_,_,upd (fun _=>none) 1500 (some ⟨b_rA,[(.list 71 (x63.2.s.tables.map bA)),(.list 135 (x63.2.s.foreignKeys.map dC)),(.list 141 (x63.2.s.constraints.map ed)),(.list 77 (x63.2.st.map bp)),(.list 73 (x63.2.args.map ae)),(.list 68 (x63.2.vars.map ay)),(.list 73 (x63.2.vals.map ae)),(.own 1607 gz63_1607 (x63.2.changes.map bH).length),(.own 1608 gz63_1608 (x63.2.results.map bt).length),(al x63.2.left),(aC x63.2.stopped)]⟩),upd (upd (fun _=>none) 1608 (some ⟨gz63_1608,63,(x63.2.results.map bt),true⟩)) 1607 (some ⟨gz63_1607,213,(x63.2.changes.map bH),true⟩)⟩) (Gh.le (cy _ _) (bi rfl (jn.r) aM) (aZ (aZ aL))) ?_
  refine ah tk rfl (ac ?_)
  obtain rfl := az H
  refine fI (st' := ⟨102,upd (fun _=>.any) 4 (al x63.1),upd (fun _=>none) 1500 (some ⟨b_rA,[(.list 71 (x63.2.s.tables.map bA)),(.list 135 (x63.2.s.foreignKeys.map dC)),(.list 141 (x63.2.s.constraints.map ed)),(.list 77 (x63.2.st.map bp)),(.list 73 (x63.2.args.map ae)),(.list 68 (x63.2.vars.map ay)),(.list 73 (x63.2.vals.map ae)),(.own 1607 gz63_1607 (x63.2.changes.map bH).length),(.own 1608 gz63_1608 (x63.2.results.map bt).length),(al x63.2.left),(aC x63.2.stopped)]⟩),upd (upd (fun _=>none) 1608 (some ⟨gz63_1608,63,(x63.2.results.map bt),true⟩)) 1607 (some ⟨gz63_1607,213,(x63.2.changes.map bH),true⟩)⟩) (Gh.le (ax aW) (bi rfl (jn.r) aM) (aZ (aZ aL))) ?_
  refine hJ tk rfl (ps := [(al x63.1)]) ⟨_,_,rfl,rfl,rfl⟩ (PLe.q rfl) ⟨_,_,rfl,rfl⟩
 cases H
def gr (rA : LProcedureRun) (l : List LProcedureStatement) : Option (Int × LProcedureRun) :=
 af (aH (σ := LProcedureRun) (ρ := (Int × LProcedureRun)) (fun (_ : Nat) (x1 : LProcedureStatement) (s1 : LProcedureRun) =>
  cond s1.stopped
   (some (.ret (0,s1)))
   (cond (decide ((IntKind.i64.wrap (s1.left - (1 : Int))) < (0 : Int)))
    (some (.ret (2,(LProcedureRun.mk s1.s s1.st s1.args s1.vars s1.vals s1.changes s1.results (IntKind.i64.wrap (s1.left - (1 : Int))) s1.stopped))))
    (af (ii (LProcedureRun.mk s1.s s1.st s1.args s1.vars s1.vals s1.changes s1.results (IntKind.i64.wrap (s1.left - (1 : Int))) s1.stopped) x1) fun x32 =>
    cond (x32.1 != (0 : Int))
     (some (.ret (x32.1,x32.2)))
     (some (.next x32.2))))) 0 l rA) fun fl1=>fl1.thenR fun (s1 : LProcedureRun) =>
 some (0,s1)
theorem rn (b_rA : Nat) (g_rA_7 : OwnRef) (g_rA_8 : OwnRef) (rA : LProcedureRun) (l : List LProcedureStatement) (r : Int × LProcedureRun) (H : gr rA l = some r) :
  PH Tryz.prog 52 [(.box 1500 b_rA 0),(.list 51 (l.map aO))] ⟨upd (fun _=>none) 1500 (some ⟨b_rA,[(.list 71 (rA.s.tables.map bA)),(.list 135 (rA.s.foreignKeys.map dC)),(.list 141 (rA.s.constraints.map ed)),(.list 77 (rA.st.map bp)),(.list 73 (rA.args.map ae)),(.list 68 (rA.vars.map ay)),(.list 73 (rA.vals.map ae)),(.own 1607 g_rA_7 (rA.changes.map bH).length),(.own 1608 g_rA_8 (rA.results.map bt).length),(al rA.left),(aC rA.stopped)]⟩),upd (upd (fun _=>none) 1608 (some ⟨g_rA_8,63,(rA.results.map bt),true⟩)) 1607 (some ⟨g_rA_7,213,(rA.changes.map bH),true⟩)⟩ (fun u H=>∃ gz0_7,∃ gz0_8,u = (al r.1) ∧ H = ⟨upd (fun _=>none) 1500 (some ⟨b_rA,[(.list 71 (r.2.s.tables.map bA)),(.list 135 (r.2.s.foreignKeys.map dC)),(.list 141 (r.2.s.constraints.map ed)),(.list 77 (r.2.st.map bp)),(.list 73 (r.2.args.map ae)),(.list 68 (r.2.vars.map ay)),(.list 73 (r.2.vals.map ae)),(.own 1607 gz0_7 (r.2.changes.map bH).length),(.own 1608 gz0_8 (r.2.results.map bt).length),(al r.2.left),(aC r.2.stopped)]⟩),upd (upd (fun _=>none) 1608 (some ⟨gz0_8,63,(r.2.results.map bt),true⟩)) 1607 (some ⟨gz0_7,213,(r.2.changes.map bH),true⟩)⟩) := by
 unfold gr at H
 refine PH.au Tryz.func52 Tryz.ntmps52 ?_
 refine ao 1 tk rfl (ab (ab (aa (ah tk rfl (aA tk (zl _) ?_)))))
 refine ah tk rfl (ac ?_)
 refine eM (γ := OwnRef × OwnRef) tk 10 9 8 (fun s1 g1=>upd (fun _=>.any) 0 (.box 1500 b_rA 0)) (fun s1 g1=>upd (fun _=>none) 1500 (some ⟨b_rA,[(.list 71 (s1.s.tables.map bA)),(.list 135 (s1.s.foreignKeys.map dC)),(.list 141 (s1.s.constraints.map ed)),(.list 77 (s1.st.map bp)),(.list 73 (s1.args.map ae)),(.list 68 (s1.vars.map ay)),(.list 73 (s1.vals.map ae)),(.own 1607 g1.1 (s1.changes.map bH).length),(.own 1608 g1.2 (s1.results.map bt).length),(al s1.left),(aC s1.stopped)]⟩)) (fun s1 g1=>upd (upd (fun _=>none) 1608 (some ⟨g1.2,63,(s1.results.map bt),true⟩)) 1607 (some ⟨g1.1,213,(s1.changes.map bH),true⟩)) (g_rA_7,g_rA_8) H (fun fl1 Hp1 j1 s1 g1 hz1 hl1 x1 fb1 hx1 H hg1=>?_) (fun s1 g1 H=>?_)
 ·refine ab (aw (ab (aa (aU tk (zn j1) (bn fe hx1) ?_))))
  refine ah tk rfl ?_
  refine bg tk fun b6=>?_
  refine aq tk ?_
  refine ac (ab (ab (aa (ag 3 tk rfl (aD tk ?_)))))
  refine ac ?_
  refine aF rfl H (fun H=>?_) (fun H=>?_)
  ·refine ao 1 tk rfl ?_
   obtain rfl := az H
   have e1 : fl1 = .ret _ := hg1
   subst e1
   obtain rfl := aS Hp1
   refine fI (st' := ⟨37,upd (fun _=>.any) 4 (al 0),upd (fun _=>none) 1500 (some ⟨b_rA,[(.list 71 (s1.s.tables.map bA)),(.list 135 (s1.s.foreignKeys.map dC)),(.list 141 (s1.s.constraints.map ed)),(.list 77 (s1.st.map bp)),(.list 73 (s1.args.map ae)),(.list 68 (s1.vars.map ay)),(.list 73 (s1.vals.map ae)),(.own 1607 g1.1 (s1.changes.map bH).length),(.own 1608 g1.2 (s1.results.map bt).length),(al s1.left),(aC s1.stopped)]⟩),upd (upd (fun _=>none) 1608 (some ⟨g1.2,63,(s1.results.map bt),true⟩)) 1607 (some ⟨g1.1,213,(s1.changes.map bH),true⟩)⟩) (Gh.le (ax aW) (bi rfl (jn.r) aM) (aZ (aZ aL))) ?_
   refine hJ tk rfl (ps := [(al 0)]) ⟨_,_,rfl,rfl,rfl⟩ (PLe.q rfl) ⟨_,_,rfl,rfl⟩
  refine ap (ab (ab (aa (ag 3 tk rfl (aD tk ?_)))))
  refine ag 3 tk rfl (aq tk ?_)
  refine ac (ab (aa (ag 3 tk rfl (aD tk ?_))))
  refine ah tk rfl (ac ?_)
  refine aF rfl H (fun H=>?_) (fun H=>?_)
  ·refine ao 1 tk rfl ?_
   obtain rfl := az H
   have e1 : fl1 = .ret _ := hg1
   subst e1
   obtain rfl := aS Hp1
   refine fI (st' := ⟨37,upd (fun _=>.any) 4 (al 2),upd (fun _=>none) 1500 (some ⟨b_rA,[(.list 71 ((((LProcedureRun.mk s1.s s1.st s1.args s1.vars s1.vals s1.changes s1.results (IntKind.i64.wrap (s1.left - (1 : Int))) s1.stopped).s).tables).map bA)),(.list 135 ((((LProcedureRun.mk s1.s s1.st s1.args s1.vars s1.vals s1.changes s1.results (IntKind.i64.wrap (s1.left - (1 : Int))) s1.stopped).s).foreignKeys).map dC)),(.list 141 ((((LProcedureRun.mk s1.s s1.st s1.args s1.vars s1.vals s1.changes s1.results (IntKind.i64.wrap (s1.left - (1 : Int))) s1.stopped).s).constraints).map ed)),(.list 77 (((LProcedureRun.mk s1.s s1.st s1.args s1.vars s1.vals s1.changes s1.results (IntKind.i64.wrap (s1.left - (1 : Int))) s1.stopped).st).map bp)),(.list 73 (((LProcedureRun.mk s1.s s1.st s1.args s1.vars s1.vals s1.changes s1.results (IntKind.i64.wrap (s1.left - (1 : Int))) s1.stopped).args).map ae)),(.list 68 (((LProcedureRun.mk s1.s s1.st s1.args s1.vars s1.vals s1.changes s1.results (IntKind.i64.wrap (s1.left - (1 : Int))) s1.stopped).vars).map ay)),(.list 73 (((LProcedureRun.mk s1.s s1.st s1.args s1.vars s1.vals s1.changes s1.results (IntKind.i64.wrap (s1.left - (1 : Int))) s1.stopped).vals).map ae)),(.own 1607 g1.1 (s1.changes.map bH).length),(.own 1608 g1.2 (s1.results.map bt).length),(al ((LProcedureRun.mk s1.s s1.st s1.args s1.vars s1.vals s1.changes s1.results (IntKind.i64.wrap (s1.left - (1 : Int))) s1.stopped).left)),(aC ((LProcedureRun.mk s1.s s1.st s1.args s1.vars s1.vals s1.changes s1.results (IntKind.i64.wrap (s1.left - (1 : Int))) s1.stopped).stopped))]⟩),upd (upd (fun _=>none) 1608 (some ⟨g1.2,63,(s1.results.map bt),true⟩)) 1607 (some ⟨g1.1,213,(s1.changes.map bH),true⟩)⟩) (Gh.le (ax aW) (bi rfl (jn.r) aM) (aZ (aZ aL))) ?_
   refine hJ tk rfl (ps := [(al 2)]) ⟨_,_,rfl,rfl,rfl⟩ (PLe.q rfl) ⟨_,_,rfl,rfl⟩
  refine ap (ab (aa (ah tk rfl (aD tk ?_))))
  obtain ⟨x32,h32,H⟩ := av H
  have s32 := rh b_rA g1.1 g1.2 (LProcedureRun.mk s1.s s1.st s1.args s1.vars s1.vals s1.changes s1.results (IntKind.i64.wrap (s1.left - (1 : Int))) s1.stopped) x1 _ h32
  refine dN (g := 92) rfl rfl rfl Tryz.call92 [(1500,1500)] [(1607,1607),(1608,1608)] rfl rfl rfl rfl (jn.of2 (iZ.cons oB.boxT (iZ.cons (oB.of_eq rfl) iZ.nil))) (by rw [fA,cW,ci,ci,cV]; rfl) s32 ?_
  rintro u32 H32h ⟨gz32_1607,gz32_1608,rfl,rfl⟩
  refine ⟨_,rfl,?_⟩
  refine dc (st' := ⟨_,_,upd (upd (fun _=>none) 1500 (some ⟨b_rA,[(.list 71 (x32.2.s.tables.map bA)),(.list 135 (x32.2.s.foreignKeys.map dC)),(.list 141 (x32.2.s.constraints.map ed)),(.list 77 (x32.2.st.map bp)),(.list 73 (x32.2.args.map ae)),(.list 68 (x32.2.vars.map ay)),(.list 73 (x32.2.vals.map ae)),(.own 1607 gz32_1607 (x32.2.changes.map bH).length),(.own 1608 gz32_1608 (x32.2.results.map bt).length),(al x32.2.left),(aC x32.2.stopped)]⟩)) 6 (some ⟨b6,(aR x1)⟩),upd (upd (fun _=>none) 1608 (some ⟨gz32_1608,63,(x32.2.results.map bt),true⟩)) 1607 (some ⟨gz32_1607,213,(x32.2.changes.map bH),true⟩)⟩) (Gh.le (cy _ _) (bi rfl (jn.r) (bi rfl (jn.r) aM)) (aZ (aZ aL))) ?_
  refine ah tk rfl (ac (ao 2 tk rfl ?_))
  refine aF rfl H (fun H=>?_) (fun H=>?_)
  ·refine ao 2 tk rfl ?_
   obtain rfl := az H
   have e1 : fl1 = .ret _ := hg1
   subst e1
   obtain rfl := aS Hp1
   refine fI (st' := ⟨37,upd (fun _=>.any) 4 (al x32.1),upd (fun _=>none) 1500 (some ⟨b_rA,[(.list 71 (x32.2.s.tables.map bA)),(.list 135 (x32.2.s.foreignKeys.map dC)),(.list 141 (x32.2.s.constraints.map ed)),(.list 77 (x32.2.st.map bp)),(.list 73 (x32.2.args.map ae)),(.list 68 (x32.2.vars.map ay)),(.list 73 (x32.2.vals.map ae)),(.own 1607 gz32_1607 (x32.2.changes.map bH).length),(.own 1608 gz32_1608 (x32.2.results.map bt).length),(al x32.2.left),(aC x32.2.stopped)]⟩),upd (upd (fun _=>none) 1608 (some ⟨gz32_1608,63,(x32.2.results.map bt),true⟩)) 1607 (some ⟨gz32_1607,213,(x32.2.changes.map bH),true⟩)⟩) (Gh.le (ax aW) (bi rfl (jn.r) aM) (aZ (aZ aL))) ?_
   refine hJ tk rfl (ps := [(al x32.1)]) ⟨_,_,rfl,rfl,rfl⟩ (PLe.q rfl) ⟨_,_,rfl,rfl⟩
  refine ap (aG (bc 2 tk rfl ?_))
  exact bl (gz32_1607,gz32_1608) H hl1 hg1
 refine ao 1 tk rfl ?_
 obtain rfl := az H
 refine fI (st' := ⟨37,upd (fun _=>.any) 4 (al 0),upd (fun _=>none) 1500 (some ⟨b_rA,[(.list 71 (s1.s.tables.map bA)),(.list 135 (s1.s.foreignKeys.map dC)),(.list 141 (s1.s.constraints.map ed)),(.list 77 (s1.st.map bp)),(.list 73 (s1.args.map ae)),(.list 68 (s1.vars.map ay)),(.list 73 (s1.vals.map ae)),(.own 1607 g1.1 (s1.changes.map bH).length),(.own 1608 g1.2 (s1.results.map bt).length),(al s1.left),(aC s1.stopped)]⟩),upd (upd (fun _=>none) 1608 (some ⟨g1.2,63,(s1.results.map bt),true⟩)) 1607 (some ⟨g1.1,213,(s1.changes.map bH),true⟩)⟩) (Gh.le (ax aW) (bi rfl (jn.r) aM) (aZ (aZ aL))) ?_
 refine hJ tk rfl (ps := [(al 0)]) ⟨_,_,rfl,rfl,rfl⟩ (PLe.q rfl) ⟨_,_,rfl,rfl⟩
def kL (sA : LSchema) (st : List LRelation) (q : LQuery) (args : Rq) : Option (LResult × Int) :=
 af (dV sA st q args ([] : List LCol) ([] : Rq)) fun x14 =>
 some (x14.1,x14.2)
theorem uu (sA : LSchema) (st : List LRelation) (q : LQuery) (args : Rq) (r : LResult × Int) (H : kL sA st q args = some r) :
  aK Tryz.prog 22 [(.agg (bR sA)),(.list 77 (st.map bp)),(.agg (aI q)),(.list 73 (args.map ae))] (.tup [(.agg (bt r.1)),(al r.2)]) := by
 unfold kL at H
 refine PH.au Tryz.func22 Tryz.ntmps22 ?_
 refine ab (aa (aE ?_))
 refine aE ?_
 refine bg tk fun b8=>?_
 refine ah tk rfl (ac (ab (aa (ag 4 tk rfl ?_))))
 obtain ⟨x14,h14,H⟩ := av H
 have s14 := mc sA st q args ([] : List LCol) ([] : Rq) _ h14
 refine ak Tryz.call61 (jn.of2 (iZ.cons (oB.of_eq rfl) (iZ.cons (oB.of_eq rfl) (iZ.cons (oB.of_eq rfl) (iZ.cons (oB.of_eq rfl) (iZ.cons (oB.nil tk rfl) (iZ.cons (oB.nil tk rfl) iZ.nil))))))) s14 ?_
 refine ag 2 tk rfl (aq tk ?_)
 refine ah tk rfl (ac ?_)
 obtain rfl := az H
 refine ba tk rfl (ps := [(.agg (bt x14.1)),(al x14.2)]) ⟨_,_,rfl,⟨_,_,_,_,_,rfl,rfl,rfl,rfl⟩,_,_,rfl,rfl,rfl⟩ (PLe.q rfl)
def km (sA : LSchema) (st : List LRelation) (p : LProcedureProcedure) (args : Rq) : Option ((List LChange) × (List LResult) × Int) :=
 af (gC sA p) fun x19 =>
 cond (x19 != (0 : Int))
  (some ([],[],x19))
  (cond (decide ((args.length : Int) < (p.parameters.length : Int)))
   (some ([],[],1))
   (af (aH (σ := Unit) (ρ := ((List LChange) × (List LResult) × Int)) (fun (j1 : Nat) (x1 : Int) (_ : Unit) =>
    af (aJ args (j1 : Int)) fun (x39 : LVal) =>
    bv (eU x39) fun x41 =>
    cond (!x41)
     (some (.ret ([],[],7)))
     (af (aJ args (j1 : Int)) fun (x46 : LVal) =>
     cond (x46.kind != x1)
      (af (aJ args (j1 : Int)) fun (x54 : LVal) =>
      cond (x54.kind != (0 : Int))
       (some (.ret ([],[],7)))
       (some (.next ())))
      (some (.next ())))) 0 p.parameters ()) fun fl1=>fl1.thenR fun (_ : Unit) =>
   af (eP sA st) fun x63 =>
   cond (x63 != (0 : Int))
    (some ([],[],x63))
    (af (nu args 0 (p.parameters.length : Int)) fun (x73 : Rq) =>
    af (gr (LProcedureRun.mk sA st x73 [] [] [] [] 400 false) p.body) fun x80 =>
    cond (x80.1 != (0 : Int))
     (some ([],[],x80.1))
     (some (x80.2.changes,x80.2.results,0)))))
theorem uE (sA : LSchema) (st : List LRelation) (p : LProcedureProcedure) (args : Rq) (r : (List LChange) × (List LResult) × Int) (H : km sA st p args = some r) :
  aK Tryz.prog 16 [(.agg (bR sA)),(.list 77 (st.map bp)),(.agg (hC p)),(.list 73 (args.map ae))] (.tup [(.list 213 (r.1.map bH)),(.list 63 (r.2.1.map bt)),(al r.2.2)]) := by
 unfold km at H
 refine PH.au Tryz.func16 Tryz.ntmps16 ?_
 refine ab (aa (aE ?_))
 refine aE ?_
 refine ag 3 tk rfl (ac (ab (ab (aa (ag 2 tk rfl ?_)))))
 obtain ⟨x19,h19,H⟩ := av H
 have s19 := oD sA p _ h19
 refine ak Tryz.call15 (jn.r) s19 ?_
 refine ah tk rfl (ac (ao 2 tk rfl ?_))
 refine aF rfl H (fun H=>?_) (fun H=>?_)
 ·refine ao 4 tk rfl ?_
  obtain rfl := az H
  refine ba tk rfl (ps := [(.val (.slice none 0 0)),(.val (.slice none 0 0)),(al x19)]) ⟨_,_,rfl,rfl,_,_,rfl,rfl,_,_,rfl,rfl,rfl⟩ (PLe.of2 (oB.tup (iZ.cons (oB.nil tk rfl) (iZ.cons (oB.nil tk rfl) (iZ.cons (oB.of_eq rfl) iZ.nil)))))
 refine ap (ab (ab (aa (ah tk rfl (aA tk (zl _) ?_)))))
 refine ag 2 tk rfl (aA tk (zl _) ?_)
 refine ah tk rfl (ac ?_)
 refine aF rfl H (fun H=>?_) (fun H=>?_)
 ·refine ao 3 tk rfl ?_
  obtain rfl := az H
  refine ba tk rfl (ps := [(.val (.slice none 0 0)),(.val (.slice none 0 0)),(al 1)]) ⟨_,_,rfl,rfl,_,_,rfl,rfl,_,_,rfl,rfl,rfl⟩ (PLe.of2 (oB.tup (iZ.cons (oB.nil tk rfl) (iZ.cons (oB.nil tk rfl) (iZ.cons (oB.of_eq rfl) iZ.nil)))))
 refine ap (ab (ab (aa (ag 2 tk rfl (aA tk (zl _) ?_)))))
 refine ah tk rfl (ac ?_)
 refine eM tk 32 31 30 (fun s1 g1=>upd (upd (upd (upd (fun _=>.any) 6 (.ptr (hC p))) 4 (.ptr (bR sA))) 3 (.list 73 (args.map ae))) 1 (.list 77 (st.map bp))) nB nO () H (fun fl1 Hp1 j1 s1 g1 hz1 hl1 x1 fb1 hx1 H hg1=>?_) (fun s1 g1 H=>?_)
 ·refine ab (aw (ab (aa (ah tk rfl ?_))))
  refine aU tk (zn j1) (bn (fun _=>rfl) hx1) ?_
  refine ag 3 tk rfl (ac (ab (aa (ag 2 tk rfl ?_))))
  obtain ⟨x39,k39,H⟩ := bs H
  refine aU tk k39.1 (aP (fun _=>rfl) k39.2) ?_
  refine ah tk rfl ?_
  obtain ⟨x41,h41,H⟩ := cX H
  have s41 := qt x39
  rw [h41] at s41
  refine ak Tryz.call50 (jn.r) s41 ?_
  refine ag 2 tk rfl ?_
  refine bh rfl rfl rfl H (fun H=>?_) (fun H=>?_)
  ·refine ag 16 tk rfl (ac (bP rfl (ao 3 tk rfl ?_)))
   obtain rfl := az H
   have e1 : fl1 = .ret _ := hg1
   subst e1
   obtain rfl := aS Hp1
   refine ba tk rfl (ps := [(.val (.slice none 0 0)),(.val (.slice none 0 0)),(al 7)]) ⟨_,_,rfl,rfl,_,_,rfl,rfl,_,_,rfl,rfl,rfl⟩ (PLe.of2 (oB.tup (iZ.cons (oB.nil tk rfl) (iZ.cons (oB.nil tk rfl) (iZ.cons (oB.of_eq rfl) iZ.nil)))))
  refine ag 2 tk rfl ?_
  obtain ⟨x46,k46,H⟩ := bs H
  refine aU tk k46.1 (aP (fun _=>rfl) k46.2) ?_
  refine ag 5 tk rfl ?_
  refine bh rfl rfl rfl H (fun H=>?_) (fun H=>?_)
  ·refine ag 2 tk rfl ?_
   obtain ⟨x54,k54,H⟩ := bs H
   refine aU tk k54.1 (aP (fun _=>rfl) k54.2) ?_
   refine ag 5 tk rfl (ac ?_)
   refine aF rfl H (fun H=>?_) (fun H=>?_)
   ·refine ao 3 tk rfl ?_
    obtain rfl := az H
    have e1 : fl1 = .ret _ := hg1
    subst e1
    obtain rfl := aS Hp1
    refine ba tk rfl (ps := [(.val (.slice none 0 0)),(.val (.slice none 0 0)),(al 7)]) ⟨_,_,rfl,rfl,_,_,rfl,rfl,_,_,rfl,rfl,rfl⟩ (PLe.of2 (oB.tup (iZ.cons (oB.nil tk rfl) (iZ.cons (oB.nil tk rfl) (iZ.cons (oB.of_eq rfl) iZ.nil)))))
   refine ap (aG (bc 2 tk rfl ?_))
   exact bl () H hl1 hg1
  refine ag 8 tk rfl (ac (bC rfl (ap (aG (bc 2 tk rfl ?_)))))
  exact bl () H hl1 hg1
 refine ab (ab (aa (ag 2 tk rfl ?_)))
 obtain ⟨x63,h63,H⟩ := av H
 have s63 := lg sA st _ h63
 refine ak Tryz.call45 (jn.r) s63 ?_
 refine ah tk rfl (ac (ao 2 tk rfl ?_))
 refine aF rfl H (fun H=>?_) (fun H=>?_)
 ·refine ao 4 tk rfl ?_
  obtain rfl := az H
  refine ba tk rfl (ps := [(.val (.slice none 0 0)),(.val (.slice none 0 0)),(al x63)]) ⟨_,_,rfl,rfl,_,_,rfl,rfl,_,_,rfl,rfl,rfl⟩ (PLe.of2 (oB.tup (iZ.cons (oB.nil tk rfl) (iZ.cons (oB.nil tk rfl) (iZ.cons (oB.of_eq rfl) iZ.nil)))))
 refine ap (ab (bm tk mok ⟨false,false,[]⟩ [0,1,2,3,4,5,6,7,8,9,10] rfl (by decide +kernel) rfl (aN 5 rfl (kH (zl _) ?_))))
 obtain ⟨x73,h73,H⟩ := av H
 have k73 := oq h73
 refine uX rfl rfl rfl rfl rfl rfl (zl _) rfl rfl k73.1 (pM k73.2) rfl ?_
 have s74 := clone_51 (m := 74) x73
 refine aV Tryz.call51 (jn.r) (PFun.ju s74) ?_
 refine bV rfl ?_
 refine Do.box (d := 76) rfl rfl rfl rfl rfl rfl fun b76=>?_
 refine bV rfl (be (ab (ab (aa (ag 3 tk rfl (dc (Gh.nilOB tk 76 7 1607 (e := 213) rfl rfl rfl rfl) (dc (Gh.nilOB tk 76 8 1608 (e := 63) rfl rfl rfl rfl) ?_)))))))
 obtain ⟨x80,h80,H⟩ := av H
 have s80 := rn b76 (⟨none,0⟩) (⟨none,0⟩) (LProcedureRun.mk sA st x73 [] [] [] [] 400 false) p.body _ h80
 refine dc (st' := ⟨_,_,upd (fun _=>none) 76 (some ⟨b76,[(.list 71 ((((LProcedureRun.mk sA st x73 [] [] [] [] 400 false).s).tables).map bA)),(.list 135 ((((LProcedureRun.mk sA st x73 [] [] [] [] 400 false).s).foreignKeys).map dC)),(.list 141 ((((LProcedureRun.mk sA st x73 [] [] [] [] 400 false).s).constraints).map ed)),(.list 77 (((LProcedureRun.mk sA st x73 [] [] [] [] 400 false).st).map bp)),(.list 73 (((LProcedureRun.mk sA st x73 [] [] [] [] 400 false).args).map ae)),(.list 68 (((LProcedureRun.mk sA st x73 [] [] [] [] 400 false).vars).map ay)),(.list 73 (((LProcedureRun.mk sA st x73 [] [] [] [] 400 false).vals).map ae)),(.own 1607 ⟨none,0⟩ (([] : List LChange).map bH).length),(.own 1608 ⟨none,0⟩ (([] : List LResult).map bt).length),(al ((LProcedureRun.mk sA st x73 [] [] [] [] 400 false).left)),(aC ((LProcedureRun.mk sA st x73 [] [] [] [] 400 false).stopped))]⟩),upd (upd (fun _=>none) 1608 (some ⟨⟨none,0⟩,63,(([] : List LResult).map bt),true⟩)) 1607 (some ⟨⟨none,0⟩,213,(([] : List LChange).map bH),true⟩)⟩) (Gh.le (cy _ _) (bi rfl (jn.of2 (iZ.cons (oB.of_eq rfl) (iZ.cons (oB.of_eq rfl) (iZ.cons (oB.of_eq rfl) (iZ.cons (oB.of_eq rfl) (iZ.cons (oB.of_eq rfl) (iZ.cons (oB.nil tk rfl) (iZ.cons (oB.nil tk rfl) (iZ.cons (oB.of_eq rfl) (iZ.cons (oB.of_eq rfl) (iZ.cons (oB.of_eq rfl) (iZ.cons (oB.of_eq rfl) iZ.nil)))))))))))) aM) (aZ (aZ aL))) ?_
 refine dN (g := 52) rfl rfl rfl Tryz.call52 [(76,1500)] [(1607,1607),(1608,1608)] rfl rfl rfl rfl (jn.of2 (iZ.cons oB.boxT (iZ.cons (oB.of_eq rfl) iZ.nil))) (by rw [fA,cW,ci,ci,cV]; rfl) s80 ?_
 rintro u80 H80h ⟨gz80_1607,gz80_1608,rfl,rfl⟩
 refine ⟨_,rfl,?_⟩
 refine dc (st' := ⟨_,_,upd (fun _=>none) 76 (some ⟨b76,[(.list 71 (x80.2.s.tables.map bA)),(.list 135 (x80.2.s.foreignKeys.map dC)),(.list 141 (x80.2.s.constraints.map ed)),(.list 77 (x80.2.st.map bp)),(.list 73 (x80.2.args.map ae)),(.list 68 (x80.2.vars.map ay)),(.list 73 (x80.2.vals.map ae)),(.own 1607 gz80_1607 (x80.2.changes.map bH).length),(.own 1608 gz80_1608 (x80.2.results.map bt).length),(al x80.2.left),(aC x80.2.stopped)]⟩),upd (upd (fun _=>none) 1608 (some ⟨gz80_1608,63,(x80.2.results.map bt),true⟩)) 1607 (some ⟨gz80_1607,213,(x80.2.changes.map bH),true⟩)⟩) (Gh.le (cy _ _) (bi rfl (jn.r) aM) (aZ (aZ aL))) ?_
 refine ah tk rfl (ac (ao 2 tk rfl ?_))
 refine aF rfl H (fun H=>?_) (fun H=>?_)
 ·refine ao 4 tk rfl ?_
  obtain rfl := az H
  refine ba tk rfl (ps := [(.val (.slice none 0 0)),(.val (.slice none 0 0)),(al x80.1)]) ⟨_,_,rfl,rfl,_,_,rfl,rfl,_,_,rfl,rfl,rfl⟩ (PLe.of2 (oB.tup (iZ.cons (oB.nil tk rfl) (iZ.cons (oB.nil tk rfl) (iZ.cons (oB.of_eq rfl) iZ.nil)))))
 refine ap (ab (bm tk mok ⟨true,false,[]⟩ [0,1,2,3,4,5,6,7,8,9,10] rfl (by decide +kernel) rfl (aN 3 rfl (bO ?_))))
 refine aN 3 rfl (bO ?_)
 refine aN 3 rfl (be (dP 8 rfl rfl rfl (dP 9 rfl rfl rfl ?_)))
 exact aY tk H rfl
def it (sA : LSchema) (st : List LRelation) (q : LQuery) (args : Rq) : Option (LResult × Bool) :=
 af (kL sA st q args) fun x17 =>
 some (x17.1,(x17.2 == (0 : Int)))
theorem rK (sA : LSchema) (st : List LRelation) (q : LQuery) (args : Rq) (r : LResult × Bool) (H : it sA st q args = some r) :
  aK Tryz.prog 17 [(.agg (bR sA)),(.list 77 (st.map bp)),(.agg (aI q)),(.list 73 (args.map ae))] (.tup [(.agg (bt r.1)),(aC r.2)]) := by
 unfold it at H
 refine PH.au Tryz.func17 Tryz.ntmps17 ?_
 refine ab (aa (aE ?_))
 refine aE ?_
 refine bg tk fun b8=>?_
 refine ah tk rfl (ac (ab (aa (ag 4 tk rfl ?_))))
 obtain ⟨x17,h17,H⟩ := av H
 have s17 := uu sA st q args _ h17
 refine ak Tryz.call22 (jn.r) s17 ?_
 refine ag 3 tk rfl ?_
 refine bg tk fun b10=>?_
 refine aq tk ?_
 refine ah tk rfl (ac (ab (aa (aD tk ?_))))
 refine ag 2 tk rfl (aq tk ?_)
 refine ah tk rfl (ac ?_)
 obtain rfl := az H
 refine ba tk rfl (ps := [(.agg (bt x17.1)),(aC (x17.2 == (0 : Int)))]) ⟨_,_,rfl,⟨_,_,_,_,_,rfl,rfl,rfl,rfl⟩,_,_,rfl,rfl,rfl⟩ (PLe.q rfl)
def eu (sA : LSchema) (st : List LRelation) (q : LQuery) (args : Rq) : Option (Bool) :=
 bv (sampleV) fun x16 =>
 cond (!x16)
  (some false)
  (af (dY q) fun x20 =>
  af (
   cond (x20.2 != (0 : Int))
    (some true)
    (af (dL x20.1 0) fun x27 =>
    some x27)) fun (t1 : Bool) =>
  cond t1
   (some true)
   (af (
    af (iJ sA st q args) fun x39 =>
    cond (!x39)
     (some true)
     (af (gC sA (LProcedureProcedure.mk x20.1 [(LProcedureStatement.mk 7 0 [] [] [] [] [] [q] [] [])])) fun x44 =>
     some (x44 != (0 : Int)))) fun (t2 : Bool) =>
   cond t2
    (af (iJ sA st q args) fun x51 =>
    some (!x51))
    (af (km sA st (LProcedureProcedure.mk x20.1 [(LProcedureStatement.mk 7 0 [] [] [] [] [] [q] [] [])]) args) fun x58 =>
    af (it sA st q args) fun x67 =>
    cond x67.2
     (cond (x58.2.2 == (0 : Int))
      (cond ((x58.1.length : Int) == (0 : Int))
       (cond ((x58.2.1.length : Int) == (1 : Int))
        (af (aJ x58.2.1 0) fun (x87 : LResult) =>
        af (dp x87.columns x67.1.columns) fun x92 =>
        cond x92
         (af (aJ x58.2.1 0) fun (x96 : LResult) =>
         af (ip x96.rows x67.1.rows) fun x101 =>
         some x101)
         (some false))
        (some false))
       (some false))
      (some false))
     (some false))))
theorem ln (sA : LSchema) (st : List LRelation) (q : LQuery) (args : Rq) (r : Bool) (H : eu sA st q args = some r) :
  aK Tryz.prog 5 [(.agg (bR sA)),(.list 77 (st.map bp)),(.agg (aI q)),(.list 73 (args.map ae))] (aC r) := by
 unfold eu at H
 refine PH.au Tryz.func5 Tryz.ntmps5 ?_
 refine ab (aa (aE ?_))
 refine aE ?_
 refine ah tk rfl (ac (ab (ab (aa ?_))))
 obtain ⟨x16,h16,H⟩ := cX H
 have s16 := sampleV_spec
 rw [h16] at s16
 refine ak Tryz.call6 (jn.r) s16 ?_
 refine ah tk rfl (ac ?_)
 refine aF rfl H (fun H=>?_) (fun H=>?_)
 ·refine ao 1 tk rfl ?_
  exact aY tk H rfl
 refine ap (ab (aa (ah tk rfl ?_)))
 obtain ⟨x20,h20,H⟩ := av H
 have s20 := iP q _ h20
 refine ak Tryz.call12 (jn.r) s20 ?_
 refine ag 5 tk rfl (ac (ab (ab ?_)))
 refine eO (γ := Unit) (fun t1 g1=>⟨103,upd (upd (upd (upd (upd (upd (fun _=>.any) 28 (aC t1)) 9 (.list 3 (x20.1.map bG))) 6 (.ptr (aI q))) 4 (.ptr (bR sA))) 3 (.list 73 (args.map ae))) 1 (.list 77 (st.map bp)),fun _=>none,fun _=>none⟩) H (fun _ H=>?_) (fun t1 g1 H=>?_)
 ·refine aa (ag 3 tk rfl ?_)
  refine bh rfl rfl rfl H (fun H=>?_) (fun H=>?_)
  ·refine ag 3 tk rfl (ac ?_)
   refine aT _ () (az H) Gh.d
  refine ah tk rfl ?_
  obtain ⟨x27,h27,H⟩ := av H
  have s27 := jh x20.1 0 _ h27
  refine ak Tryz.call13 (jn.r) s27 ?_
  refine ah tk rfl (ac ?_)
  refine aT _ () (az H) Gh.d
 refine aF rfl H (fun H=>?_) (fun H=>?_)
 ·refine ao 1 tk rfl ?_
  exact aY tk H rfl
 refine ap (ab (aa (ag 2 tk rfl (cn tk (rows' := List.map cr ([q] : List LQuery)) (gD.trans (b := List.map aI [q]) (gD.refl _) (gD.of_eq (qM ce [q]))) ?_))))
 refine ah tk rfl (cn tk (rows' := List.map aO ([(LProcedureStatement.mk 7 0 [] [] [] [] [] [q] [] [])] : List LProcedureStatement)) (gD.trans (b := List.map aR [(LProcedureStatement.mk 7 0 [] [] [] [] [] [q] [] [])]) (gD.cons (tf.cons (oB.of_eq rfl) (tf.cons (oB.of_eq rfl) (tf.cons (oB.of_eq rfl) (tf.cons (oB.of_eq rfl) (tf.cons (oB.nil tk rfl) (tf.cons (oB.nil tk rfl) (tf.cons (oB.nil tk rfl) (tf.cons (oB.of_eq rfl) (tf.cons (oB.nil tk rfl) (tf.cons (oB.nil tk rfl) tf.nil)))))))))) gD.nil) (gD.of_eq (qM fe [(LProcedureStatement.mk 7 0 [] [] [] [] [] [q] [] [])]))) ?_)
 refine ah tk rfl ?_
 refine bg tk fun b11=>?_
 refine aq tk ?_
 refine ac (ab (ab ?_))
 refine eO (γ := Unit) (fun t2 g2=>⟨103,upd (upd (upd (upd (upd (upd (fun _=>.any) 46 (aC t2)) 11 (.box 11 b11 0)) 6 (.ptr (aI q))) 4 (.ptr (bR sA))) 3 (.list 73 (args.map ae))) 1 (.list 77 (st.map bp)),upd (fun _=>none) 11 (some ⟨b11,[(.list 3 (x20.1.map bG)),(.list 51 (([(LProcedureStatement.mk 7 0 [] [] [] [] [] [q] [] [])] : List LProcedureStatement).map aO))]⟩),fun _=>none⟩) H (fun _ H=>?_) (fun t2 g2 H=>?_)
 ·refine aa (ag 4 tk rfl ?_)
  obtain ⟨x39,h39,H⟩ := av H
  have s39 := pQ sA st q args _ h39
  refine ak Tryz.call14 (jn.r) s39 ?_
  refine ag 2 tk rfl ?_
  refine bh rfl rfl rfl H (fun H=>?_) (fun H=>?_)
  ·refine ag 5 tk rfl (ac ?_)
   refine aT _ () (az H) Gh.d
  refine ah tk rfl (aD tk ?_)
  obtain ⟨x44,h44,H⟩ := av H
  have s44 := oD sA (LProcedureProcedure.mk x20.1 [(LProcedureStatement.mk 7 0 [] [] [] [] [] [q] [] [])]) _ h44
  refine ak Tryz.call15 (jn.r) s44 ?_
  refine ag 2 tk rfl (ac ?_)
  refine aT _ () (az H) Gh.d
 refine aF rfl H (fun H=>?_) (fun H=>?_)
 ·refine ab (aa (ag 4 tk rfl ?_))
  obtain ⟨x51,h51,H⟩ := av H
  have s51 := pQ sA st q args _ h51
  refine ak Tryz.call14 (jn.r) s51 ?_
  refine ag 2 tk rfl (ac ?_)
  exact aY tk H rfl
 refine ap (ab (aa (ag 2 tk rfl (aD tk ?_))))
 refine ah tk rfl ?_
 obtain ⟨x58,h58,H⟩ := av H
 have s58 := uE sA st (LProcedureProcedure.mk x20.1 [(LProcedureStatement.mk 7 0 [] [] [] [] [] [q] [] [])]) args _ h58
 refine ak Tryz.call16 (jn.r) s58 ?_
 refine ag 7 tk rfl (ac (ab (aa (ag 4 tk rfl ?_))))
 obtain ⟨x67,h67,H⟩ := av H
 have s67 := rK sA st q args _ h67
 refine ak Tryz.call17 (jn.r) s67 ?_
 refine ag 3 tk rfl ?_
 refine bg tk fun b14=>?_
 refine aq tk ?_
 refine ah tk rfl (ac (ab (bm tk mok ⟨true,false,[89,98]⟩ [0,1,2,3,4,5,6,7,8,9,10,11,12,13,14,15,16,17,18,19,20,21,22,23,24,25,26,27,28,29,30,31,32,33] rfl (by decide +kernel) rfl (aN 2 rfl ?_))))
 refine jK H (fun H=>?_) (fun H=>?_)
 ·refine aN 4 rfl ?_
  refine jK H (fun H=>?_) (fun H=>?_)
  ·refine bV rfl (kH (zl _) ?_)
   refine aN 3 rfl ?_
   refine jK H (fun H=>?_) (fun H=>?_)
   ·refine bV rfl (kH (zl _) ?_)
    refine aN 3 rfl ?_
    refine jK H (fun H=>?_) (fun H=>?_)
    ·refine bV rfl ?_
     obtain ⟨x87,k87,H⟩ := bs H
     refine bE k87.1 (aP (fun _=>rfl) k87.2) ?_
     refine aN 3 rfl (bO ?_)
     obtain ⟨x92,h92,H⟩ := av H
     have s92 := lm x87.columns x67.1.columns _ h92
     refine aV Tryz.call18 (jn.r) s92 ?_
     refine aN 2 rfl ?_
     refine jK H (fun H=>?_) (fun H=>?_)
     ·refine bV rfl ?_
      obtain ⟨x96,k96,H⟩ := bs H
      refine bE k96.1 (aP (fun _=>rfl) k96.2) ?_
      refine aN 3 rfl (bO ?_)
      obtain ⟨x101,h101,H⟩ := av H
      have s101 := re x96.rows x67.1.rows _ h101
      refine aV Tryz.call19 (jn.r) s101 ?_
      refine aN 2 rfl (be ?_)
      exact aY tk H rfl
     refine aN 9 rfl (be ?_)
     exact aY tk H rfl
    refine aN 18 rfl (be ?_)
    exact aY tk H rfl
   refine aN 23 rfl (be ?_)
   exact aY tk H rfl
  refine aN 28 rfl (be ?_)
  exact aY tk H rfl
 refine aN 32 rfl (be ?_)
 exact aY tk H rfl
end
end Go.Proofs.YtppmcepdcpmpcaaGreatDoor

namespace Go.Proofs.YtppmcepdcpmpcaaGreatDoor
noncomputable section
open Go Go.Ab
theorem LQuery.inputs_lt {q x : LQuery} (h : x ∈ q.inputs) : SizeOf.sizeOf x < SizeOf.sizeOf q := by
 cases q
 simp only [LQuery.inputs] at h
 have := List.sizeOf_lt_of_mem h
 simp only [LQuery.mk.sizeOf_spec]
 omega
theorem LQuery.ind {p : LQuery → Prop} (h : ∀ q : LQuery,(∀ x ∈ q.inputs,p x) → p q) : ∀ q,p q := by
 intro q
 generalize hn : SizeOf.sizeOf q = n
 induction n using Nat.strongRecOn generalizing q with
 | _ n ih=>exact h q fun x hx=>ih _ (hn ▸ LQuery.inputs_lt hx) x rfl
theorem oi {α : Type} {p : α → Nat → Prop} : ∀ (xs : List α),(∀ x ∈ xs,∃ N,∀ n,N ≤ n → p x n) → ∃ N,∀ n,N ≤ n → ∀ x ∈ xs,p x n
 | [],_=>⟨0,fun _ _ x hx=>by simp at hx⟩
 | y :: xs,h=>by
  obtain ⟨N,hN⟩ := h y (by simp)
  obtain ⟨N',hN'⟩ := oi xs fun x hx=>h x (by simp [hx])
  refine ⟨N + N',fun n hn x hx=>?_⟩
  rcases List.mem_cons.1 hx with rfl | hx
  ·exact hN n (by omega)
  ·exact hN' n (by omega) x hx
theorem ig {α σ ρ : Type} {step step' : Nat → α → σ → Option (Flow σ ρ)} : ∀ (xs : List α) (j : Nat) (s : σ),(∀ k x s,xs[k]? = some x → step (j + k) x s = step' (j + k) x s) → aH step j xs s = aH step' j xs s
 | [],_,_,_=>rfl
 | x :: xs,j,s,h=>by
  have h0 := h 0 x s rfl
  rw [Nat.add_zero] at h0
  rw [aH,aH,h0]
  split
  ·rfl
  ·exact ig xs (j + 1) _ fun k y t hk=>by
    have := h (k + 1) y t (by simpa using hk)
    rwa [show j + (k + 1) = j + 1 + k from by omega] at this
  ·rfl
  ·rfl
theorem eB {α : Type} {xs : List α} {k : Nat} {x : α} (h : xs[k]? = some x) : x ∈ xs := List.mem_of_getElem? h
theorem pi {γ β : Type} {F : Nat → γ → LQuery → Option β} {O : (γ → LQuery → Option β) → γ → LQuery → Option β} (hF : ∀ n,F (n + 1) = O (F n)) (c : γ) (q : LQuery)
  (hc : ∀ r r' : γ → LQuery → Option β,(∀ x ∈ q.inputs,r c x = r' c x) → O r c q = O r' c q) (hx : ∀ x ∈ q.inputs,∃ v,ir (fun n=>F n c x) = some v) {r : β} (h : O (fun c q=>ir fun n=>F n c q) c q = some r) :
  ir (fun n=>F n c q) = some r := by
 obtain ⟨N,hN⟩ := oi (p := fun x n=>F n c x = ir fun n=>F n c x) q.inputs (fun x hm=>by
  obtain ⟨v,hv⟩ := hx x hm
  obtain ⟨N,hN⟩ := limN_ev hv
  exact ⟨N,fun n hn=>by rw [hN n hn,hv]⟩)
 refine pr (N + 1) fun m hm=>?_
 obtain ⟨m,rfl⟩ : ∃ k,m = k + 1 := ⟨m - 1,by omega⟩
 rw [hF,hc _ (fun c q=>ir fun n=>F n c q) (hN m (by omega)),h]
def cE (q : LQuery) : List LQuery := q :: (q.inputs.attach.map fun x=>cE x.1).flatten
termination_by SizeOf.sizeOf q
decreasing_by exact LQuery.inputs_lt x.2
theorem jZ (q : LQuery) : cE q = q :: (q.inputs.map cE).flatten := by
 rw [cE,List.attach_map_val (f := cE)]
theorem flat_le {α β : Type} {f : α → List β} {xs : List α} {x : α} (h : x ∈ xs) : (f x).length ≤ ((xs.map f).flatten).length := by
 induction xs with
 | nil=>simp at h
 | cons y xs ih =>
  simp only [List.map_cons,List.flatten_cons,List.length_append]
  rcases List.mem_cons.1 h with rfl | h
  ·omega
  ·have := ih h; omega
theorem mV {q x : LQuery} (h : x ∈ q.inputs) : (cE x).length + 1 ≤ (cE q).length := by
 rw [jZ q]
 have := flat_le (f := cE) h
 simp only [List.length_cons]
 omega
theorem bS {α : Type} {bytes : Nat} {xs ys : List α} (hb : bytes ≤ 200) (h : xs.length + ys.length ≤ 10000000) : dg bytes xs ys = some (xs ++ ys) := by
 refine appI_ok ?_ (by unfold maxLen; omega)
 have : (xs.length + ys.length) * bytes ≤ 10000000 * 200 := Nat.mul_le_mul h hb
 omega
theorem take_flat {α β : Type} {f : α → List β} {xs : List α} {k : Nat} : (((xs.take k).map f).flatten).length ≤ ((xs.map f).flatten).length := by
 induction xs generalizing k with
 | nil=>simp
 | cons y xs ih =>
  cases k with
  | zero=>simp
  | succ k=>simp only [List.take_succ_cons,List.map_cons,List.flatten_cons,List.length_append]; have := ih (k := k); omega
theorem nodes_ok : ∀ q : LQuery,(cE q).length ≤ 10000000 → jR q = some (cE q) := by
 refine LQuery.ind fun q ih hb=>?_
 refine pi (γ := Unit) (F := fun n _ q=>jU n q) (O := fun r _ q=>jS (fun x=>r () x) q) (fun n=>rfl) () q ?_ (fun x hx=>⟨_,ih x hx (by have := mV hx; omega)⟩) ?_
 ·intro r r' h
  simp only [jS]
  congr 1
  exact ig q.inputs 0 _ fun k x s hk=>by rw [h x (eB hk)]
 ·have hr := rMa (step := fun (_ : Nat) (x1 : LQuery) (s1 : List LQuery)=>af (jR x1) fun x17=>af (dg 160 s1 x17) fun (x18 : List LQuery)=>some (Flow.next (ρ := Empty) x18)) (xs := q.inputs) (s := [q])
   (fun k=>q :: ((q.inputs.take k).map cE).flatten) (by simp) (fun k x hk=>by
    have hx := eB hk
    rw [ih x hx (by have := mV hx; omega),bPs,bS (by decide),bPs]
    ·rw [List.take_add_one,hk]; simp
    ·have h1 : (((q.inputs.take (k + 1)).map cE).flatten).length ≤ ((q.inputs.map cE).flatten).length := take_flat
     rw [List.take_add_one,hk] at h1
     rw [jZ] at hb
     simp at h1 hb ⊢
     omega)
  simp only [jS]
  have e : ∀ x,(ir fun n=>jU n x) = jR x := fun _=>rfl
  simp only [e]
  rw [hr,bPs,cf,List.take_length,jZ]
def dM (a b : Int) : Int := if b > a then b else a
theorem qR {a b c : Int} (h : a ≤ c) (h' : b ≤ c) : dM a b ≤ c := by unfold dM; split <;> assumption
theorem jJ (a b : Int) : a ≤ dM a b := by unfold dM; split <;> omega
theorem nY (a b : Int) : b ≤ dM a b := by unfold dM; split <;> omega
def jM (q : LQuery) : Int := (q.inputs.attach.map fun x=>jM x.1).foldl dM 0 + 1
termination_by SizeOf.sizeOf q
decreasing_by exact LQuery.inputs_lt x.2
theorem sT (q : LQuery) : jM q = (q.inputs.map jM).foldl dM 0 + 1 := by
 rw [jM,List.attach_map_val (f := jM)]
theorem rU : ∀ {l : List Int} {a c : Int},a ≤ c → (∀ x ∈ l,x ≤ c) → l.foldl dM a ≤ c
 | [],_,_,h,_=>h
 | x :: l,a,c,h,hl=>rU (l := l) (qR h (hl x (by simp))) fun y hy=>hl y (by simp [hy])
theorem rY : ∀ {l : List Int} {a : Int},a ≤ l.foldl dM a ∧ ∀ x ∈ l,x ≤ l.foldl dM a
 | [],a=>⟨Int.le_refl a,by simp⟩
 | x :: l,a=>by
  obtain ⟨h1,h2⟩ := rY (l := l) (a := dM a x)
  simp only [List.foldl_cons]
  refine ⟨Int.le_trans (jJ a x) h1,fun y hy=>?_⟩
  rcases List.mem_cons.1 hy with rfl | hy
  ·exact Int.le_trans (nY a y) h1
  ·exact h2 y hy
theorem depthQ_nodes : ∀ q : LQuery,1 ≤ jM q ∧ jM q ≤ (cE q).length := by
 refine LQuery.ind fun q ih=>?_
 rw [sT,jZ]
 have h1 : (q.inputs.map jM).foldl dM 0 ≤ (((q.inputs.map cE).flatten).length : Nat) := rU (by omega) fun x hx=>by
  obtain ⟨y,hy,rfl⟩ := List.mem_map.1 hx
  have := (ih y hy).2
  have := flat_le (f := cE) hy
  omega
 have h2 := (rY (l := q.inputs.map jM) (a := 0)).1
 simp only [List.length_cons]
 omega
theorem depth_ok : ∀ q : LQuery,(cE q).length ≤ 10000000 → kW q = some (jM q) := by
 refine LQuery.ind fun q ih hb=>?_
 refine pi (γ := Unit) (F := fun n _ q=>jQ n q) (O := fun r _ q=>jT (fun x=>r () x) q) (fun n=>rfl) () q ?_ (fun x hx=>⟨_,ih x hx (by have := mV hx; omega)⟩) ?_
 ·intro r r' h
  simp only [jT]
  congr 1
  exact ig q.inputs 0 _ fun k x s hk=>by rw [h x (eB hk)]
 ·have hr := rMa (step := fun (_ : Nat) (x1 : LQuery) (s1 : Int)=>af (kW x1) fun x15=>some (Flow.next (ρ := Empty) (if x15 > s1 then x15 else s1))) (xs := q.inputs) (s := 0)
   (fun k=>((q.inputs.take k).map jM).foldl dM 0) (by simp) (fun k x hk=>by
    have hx := eB hk
    rw [ih x hx (by have := mV hx; omega),bPs,List.take_add_one,hk]
    simp [dM])
  simp only [jT]
  have e : ∀ x,(ir fun n=>jQ n x) = kW x := fun _=>rfl
  simp only [e]
  rw [hr,bPs,cf,List.take_length,sT]
  have h := depthQ_nodes q
  rw [sT] at h
  rw [bw (by omega) (by omega)]
def nr (n : Int) : Int := if 20001 < n then 20001 else n
def jg (kind : Int) (s : Int × Int) (j : Nat) (x : Int × Int) : Int × Int :=
 (nr (if j = 0 then x.1 else if kind = 6 then s.1 + x.1 else if kind = 4 ∨ kind = 5 then s.1 * dM 1 x.1 else s.1),dM s.2 x.2)
def eI (kind : Int) : Nat → List (Int × Int) → Int × Int → Int × Int
 | _,[],s=>s
 | j,x :: l,s=>eI kind (j + 1) l (jg kind s j x)
def bI (q : LQuery) : Int × Int :=
 let s := eI q.kind 0 (q.inputs.attach.map fun x=>bI x.1) (0,0)
 if q.kind = 1 then (24,dM s.2 24) else (s.1,dM s.2 s.1)
termination_by SizeOf.sizeOf q
decreasing_by exact LQuery.inputs_lt x.2
theorem nz (q : LQuery) : bI q = if q.kind = 1 then (24,dM (eI q.kind 0 (q.inputs.map bI) (0,0)).2 24) else ((eI q.kind 0 (q.inputs.map bI) (0,0)).1,dM (eI q.kind 0 (q.inputs.map bI) (0,0)).2 (eI q.kind 0 (q.inputs.map bI) (0,0)).1) := by
 rw [bI,List.attach_map_val (f := bI)]
def nT (s : Int × Int) : Prop := 0 ≤ s.1 ∧ s.1 ≤ 20001 ∧ 0 ≤ s.2 ∧ s.2 ≤ 20001
theorem capI_b {n : Int} (h : 0 ≤ n) : 0 ≤ nr n ∧ nr n ≤ 20001 := by unfold nr; split <;> omega
theorem mostStep_r {kind : Int} {s x : Int × Int} {j : Nat} (hs : nT s) (hx : nT x) : nT (jg kind s j x) := by
 obtain ⟨a1,a2,a3,a4⟩ := hs
 obtain ⟨b1,b2,b3,b4⟩ := hx
 unfold jg
 have h1 : 0 ≤ (if j = 0 then x.1 else if kind = 6 then s.1 + x.1 else if kind = 4 ∨ kind = 5 then s.1 * dM 1 x.1 else s.1) := by
  split
  ·exact b1
  ·split
   ·omega
   ·split
    ·exact Int.mul_nonneg a1 (Int.le_trans (by decide) (jJ 1 x.1))
    ·exact a1
 exact ⟨(capI_b h1).1,(capI_b h1).2,Int.le_trans a3 (jJ _ _),qR a4 b4⟩
theorem ri {kind : Int} : ∀ {l : List (Int × Int)} {j : Nat} {s : Int × Int},nT s → (∀ x ∈ l,nT x) → nT (eI kind j l s)
 | [],_,_,h,_=>h
 | x :: l,j,s,h,hl=>ri (l := l) (mostStep_r h (hl x (by simp))) fun y hy=>hl y (by simp [hy])
theorem mostQ_r : ∀ q : LQuery,nT (bI q) := by
 refine LQuery.ind fun q ih=>?_
 rw [nz]
 have h : nT (eI q.kind 0 (q.inputs.map bI) (0,0)) := ri ⟨by decide,by decide,by decide,by decide⟩ fun x hx=>by
  obtain ⟨y,hy,rfl⟩ := List.mem_map.1 hx
  exact ih y hy
 obtain ⟨a1,a2,a3,a4⟩ := h
 split
 ·exact ⟨show (0 : Int) ≤ 24 by decide,show (24 : Int) ≤ 20001 by decide,Int.le_trans a3 (jJ _ _),qR a4 (by decide)⟩
 ·exact ⟨a1,a2,Int.le_trans a3 (jJ _ _),qR a4 a2⟩
theorem sN (kind : Int) : ∀ (l : List (Int × Int)) (j : Nat) (s x : Int × Int),eI kind j (l ++ [x]) s = jg kind (eI kind j l s) (j + l.length) x
 | [],j,s,x=>by simp [eI]
 | y :: l,j,s,x=>by
  rw [List.cons_append,eI,sN kind l (j + 1),eI]
  congr 1
  simp
  omega
theorem mostStep_run {kind : Int} {s x : Int × Int} {j : Nat} (hs : nT s) (hx : nT x) :
  (cond ((j : Int) == (0 : Int))
   (some (Flow.next (ρ := Empty) ((if (20001 : Int) < x.1 then (20001 : Int) else x.1),(if x.2 > s.2 then x.2 else s.2))))
   (cond (kind == (6 : Int))
    (some (.next ((if (20001 : Int) < (IntKind.i64.wrap (s.1 + x.1)) then (20001 : Int) else (IntKind.i64.wrap (s.1 + x.1))),(if x.2 > s.2 then x.2 else s.2))))
    (bv (
     cond (kind == (4 : Int))
      (true)
      ((kind == (5 : Int)))) fun (t4 : Bool) =>
    cond t4
     (some (.next ((if (20001 : Int) < (IntKind.i64.wrap (s.1 * (if x.1 > (1 : Int) then x.1 else (1 : Int)))) then (20001 : Int) else (IntKind.i64.wrap (s.1 * (if x.1 > (1 : Int) then x.1 else (1 : Int))))),(if x.2 > s.2 then x.2 else s.2))))
     (some (.next ((if (20001 : Int) < s.1 then (20001 : Int) else s.1),(if x.2 > s.2 then x.2 else s.2))))))) = some (.next (jg kind s j x)) := by
 obtain ⟨a1,a2,a3,a4⟩ := hs
 obtain ⟨b1,b2,b3,b4⟩ := hx
 have hm : 1 ≤ dM 1 x.1 ∧ dM 1 x.1 ≤ 20001 := ⟨jJ _ _,qR (by decide) b2⟩
 have hp : 0 ≤ s.1 * dM 1 x.1 ∧ s.1 * dM 1 x.1 ≤ 20001 * 20001 := ⟨Int.mul_nonneg a1 (by omega),Int.mul_le_mul a2 hm.2 (by omega) (by decide)⟩
 have hw1 : IntKind.i64.wrap (s.1 + x.1) = s.1 + x.1 := bw (by omega) (by omega)
 have hw2 : IntKind.i64.wrap (s.1 * (if x.1 > (1 : Int) then x.1 else (1 : Int))) = s.1 * dM 1 x.1 := bw (by show _ ≤ s.1 * dM 1 x.1; omega) (by show s.1 * dM 1 x.1 ≤ _; omega)
 rw [hw1,hw2]
 unfold jg nr dM bv
 by_cases h0 : j = 0
 ·subst h0; simp
 ·have : ((j : Int) == (0 : Int)) = false := by simp; omega
  rw [this]
  by_cases h6 : kind = 6
  ·subst h6; simp [h0]
  ·by_cases h4 : kind = 4
   ·subst h4; simp [h0]
   ·by_cases h5 : kind = 5
    ·subst h5; simp [h0]
    ·have e6 : (kind == (6 : Int)) = false := by simpa using h6
     have e4 : (kind == (4 : Int)) = false := by simpa using h4
     have e5 : (kind == (5 : Int)) = false := by simpa using h5
     simp [h0,h6,h4,h5,e6,e4,e5]
theorem most_ok : ∀ q : LQuery,mF q = some (bI q) := by
 refine LQuery.ind fun q ih=>?_
 refine pi (γ := Unit) (F := fun n _ q=>kC n q) (O := fun r _ q=>kx (fun x=>r () x) q) (fun n=>rfl) () q ?_ (fun x hx=>⟨_,ih x hx⟩) ?_
 ·intro r r' h
  simp only [kx]
  congr 1
  exact ig q.inputs 0 _ fun k x s hk=>by rw [h x (eB hk)]
 ·simp only [kx]
  have e : ∀ x,(ir fun n=>kC n x) = mF x := fun _=>rfl
  simp only [e]
  rw [rMa (xs := q.inputs) (s := (0,0)) (fun k=>eI q.kind 0 ((q.inputs.take k).map bI) (0,0)) (by simp [eI]) (fun k x hk=>by
    have hx := eB hk
    rw [ih x hx,bPs,mostStep_run (ri ⟨by decide,by decide,by decide,by decide⟩ fun y hy=>by
     obtain ⟨z,_,rfl⟩ := List.mem_map.1 hy
     exact mostQ_r z) (mostQ_r x),List.take_add_one,hk]
    have hk' := (zg.1 hk).1
    simp only [Option.toList_some,List.map_append,List.map_cons,List.map_nil]
    rw [sN]
    congr 3
    simp
    omega)]
  rw [bPs,cf,List.take_length,nz]
  by_cases h1 : q.kind = 1
  ·simp [h1,dM]
  ·have : (q.kind == (1 : Int)) = false := by simpa using h1
   simp [h1,this,dM]
def pu : List (Int → Int) → Int → Int
 | [],s=>s
 | f :: l,s=>if s < 0 then -1 else pu l (f (IntKind.i64.wrap (s - 1)))
def sizeHere (q : LQuery) (m : Int) : Int :=
 q.aggregates.foldl (fun s a=>a.args.foldl (fun s e=>jD e (IntKind.i64.wrap (s - 1))) s) (q.exprs.foldl (fun s e=>jD e (IntKind.i64.wrap (s - 1))) m)
def mC (q : LQuery) : Int → Int := fun m=>pu (q.inputs.attach.map fun x=>mC x.1) (sizeHere q m)
termination_by SizeOf.sizeOf q
decreasing_by exact LQuery.inputs_lt x.2
theorem sizeQ_eq (q : LQuery) (m : Int) : mC q m = pu (q.inputs.map mC) (sizeHere q m) := by
 rw [mC,List.attach_map_val (f := mC)]
theorem sn {f : LQuery → Int → Option Int} : ∀ (l : List LQuery) (j : Nat) (s : Int),(∀ x ∈ l,∀ m,f x m = some (mC x m)) →
  af (aH (σ := Int) (ρ := Int) (fun (_ : Nat) (x6 : LQuery) (s6 : Int)=>cond (decide (s6 < (0 : Int))) (some (.ret (-1))) (af (f x6 (IntKind.i64.wrap (s6 - (1 : Int)))) fun x57=>some (.next x57))) j l s) (fun fl6=>fl6.thenR fun (s6 : Int)=>some s6) = some (pu (l.map mC) s)
 | [],j,s,_=>rfl
 | x :: l,j,s,h=>by
  rw [aH,List.map_cons,pu]
  by_cases hs : s < 0
  ·simp [hs]
  ·simp only [hs,decide_false,zd,if_false]
   rw [h x (by simp),bPs]
   exact sn l (j + 1) _ fun y hy=>h y (by simp [hy])
theorem size_ok : ∀ (q : LQuery) (m : Int),mt q m = some (mC q m) := by
 have key : ∀ q : LQuery,∃ N,∀ n,N ≤ n → ∀ m,gS n q m = some (mC q m) := by
  refine LQuery.ind fun q ih=>?_
  obtain ⟨N,hN⟩ := oi (p := fun x n=>∀ m,gS n x m = some (mC x m)) q.inputs ih
  refine ⟨N + 1,fun n hn m=>?_⟩
  obtain ⟨n,rfl⟩ : ∃ k,n = k + 1 := ⟨n - 1,by omega⟩
  rw [gS]
  simp only [kQ,bF]
  rw [nL (xs := q.exprs) (fun s e=>jD e (IntKind.i64.wrap (s - 1))) (fun _ _ _=>rfl),bPs,cf]
  rw [nL (xs := q.aggregates) (fun s a=>a.args.foldl (fun s e=>jD e (IntKind.i64.wrap (s - 1))) s) (fun k a _=>by
   rw [nL (xs := a.args) (fun s e=>jD e (IntKind.i64.wrap (s - 1))) (fun _ _ _=>rfl),bPs,cf]),bPs,cf]
  rw [sn q.inputs 0 _ (hN n (by omega)),sizeQ_eq]
  rfl
 intro q m
 obtain ⟨N,hN⟩ := key q
 exact pr N fun n hn=>hN n hn m
theorem LExpr.args_lt {e x : LExpr} (h : x ∈ e.args) : SizeOf.sizeOf x < SizeOf.sizeOf e := by
 cases e
 simp only [LExpr.args] at h
 have := List.sizeOf_lt_of_mem h
 simp only [LExpr.mk.sizeOf_spec]
 omega
theorem LExpr.ind {p : LExpr → Prop} (h : ∀ e : LExpr,(∀ x ∈ e.args,p x) → p e) : ∀ e,p e := by
 intro e
 generalize hn : SizeOf.sizeOf e = n
 induction n using Nat.strongRecOn generalizing e with
 | _ n ih=>exact h e fun x hx=>ih _ (hn ▸ LExpr.args_lt hx) x rfl
def ix (e : LExpr) : List (Nat × Int) := if e.kind = 3 ∧ 0 ≤ e.index ∧ e.index < 8 then [(e.index.toNat,e.value.kind)] else []
def cB (e : LExpr) : List (Nat × Int) := ix e ++ (e.args.attach.map fun x=>cB x.1).flatten
termination_by SizeOf.sizeOf e
decreasing_by exact LExpr.args_lt x.2
theorem kl (e : LExpr) : cB e = ix e ++ (e.args.map cB).flatten := by
 rw [cB,List.attach_map_val (f := cB)]
abbrev PSt := List Int × Bool × List Bool
def iY (out : List Int) (i : Nat) : List Int := out ++ List.replicate (i + 1 - out.length) 0
def fh (s : PSt) (p : Nat × Int) : PSt :=
 ((iY s.1 p.1).set p.1 p.2,s.2.1 || (s.2.2.getD p.1 false && (iY s.1 p.1).getD p.1 0 != p.2),s.2.2.set p.1 true)
def POk (s : PSt) : Prop := s.1.length ≤ 8 ∧ s.2.2.length = 8
theorem nX (out : List Int) (i : Nat) : (iY out i).length = max out.length (i + 1) := by simp [iY]; omega
theorem pstep_ok {s : PSt} {p : Nat × Int} (h : POk s) (hp : p.1 < 8) : POk (fh s p) := by
 refine ⟨?_,by simp [fh,h.2]⟩
 show ((iY s.1 p.1).set p.1 p.2).length ≤ 8
 rw [List.length_set,nX]
 have := h.1
 omega
theorem mY : ∀ e : LExpr,∀ p ∈ cB e,p.1 < 8 := by
 refine LExpr.ind fun e ih p hp=>?_
 rw [kl,List.mem_append] at hp
 rcases hp with hp | hp
 ·unfold ix at hp
  split at hp
  ·rename_i h; simp at hp; subst hp; simp; omega
  ·simp at hp
 ·obtain ⟨l,hl,hp⟩ := List.mem_flatten.1 hp
  obtain ⟨x,hx,rfl⟩ := List.mem_map.1 hl
  exact ih x hx p hp
theorem mn : ∀ {l : List (Nat × Int)} {s : PSt},POk s → (∀ p ∈ l,p.1 < 8) → POk (l.foldl fh s)
 | [],_,h,_=>h
 | p :: l,s,h,hl=>mn (l := l) (pstep_ok h (hl p (by simp))) fun q hq=>hl q (by simp [hq])
theorem pad_while (i : Nat) (hi : i < 8) : ∀ (n : Nat) (out : List Int),i + 1 - out.length = n → out.length ≤ 8 →
  fU (σ := List Int) (ρ := Empty) (fun (s7 : List Int)=>cond (decide ((s7.length : Int) ≤ (i : Int))) (af (dg 8 s7 ([0] : List Int)) fun (x28 : List Int)=>some (.next x28)) (some (.brk s7))) out = some (.next (iY out i))
 | 0,out,hn,ho=>by
  refine lZ (fl := .brk out) ?_ ?_
  ·have : ¬ ((out.length : Int) ≤ (i : Int)) := by omega
   simp [this]
  ·simp [iY,hn]
 | n + 1,out,hn,ho=>by
  refine lZ (fl := .next (out ++ [0])) ?_ ?_
  ·have : (out.length : Int) ≤ (i : Int) := by omega
   simp only [this,decide_true,zc]
   rw [bS (by decide) (by simp; omega)]
   rfl
  ·have := pad_while i hi n (out ++ [0]) (by simp; omega) (by simp; omega)
   simp only
   rw [this]
   simp only [iY,List.length_append,List.length_singleton,List.append_assoc,hn]
   rw [show i + 1 - (out.length + 1) = n from by omega,show (List.replicate (n + 1) (0 : Int)) = [0] ++ List.replicate n 0 from rfl]
theorem arrI_at {xs : List Bool} {i : Nat} (h : xs.length = 8) (hi : i < 8) : arrI 8 xs (i : Int) = some (xs.getD i false) := by
 have : xs[i]? = some (xs.getD i false) := by rw [List.getD_eq_getElem?_getD,ze (by omega)]; rfl
 exact arrI_eq (by omega) (by simpa using this)
theorem getI_at {xs : List Int} {i : Nat} (h : i < xs.length) : aJ xs (i : Int) = some (xs.getD i 0) := by
 have : xs[i]? = some (xs.getD i 0) := by rw [List.getD_eq_getElem?_getD,ze h]; rfl
 exact kO this
theorem look_ok : ∀ e : LExpr,∃ N,∀ n,N ≤ n → ∀ s : PSt,POk s → dB n e s.1 s.2.1 s.2.2 = some ((cB e).foldl fh s) := by
 refine LExpr.ind fun e ih=>?_
 obtain ⟨N,hN⟩ := oi (p := fun x n=>∀ s : PSt,POk s → dB n x s.1 s.2.1 s.2.2 = some ((cB x).foldl fh s)) e.args ih
 refine ⟨N + 1,fun n hn s hs=>?_⟩
 obtain ⟨n,rfl⟩ : ∃ k,n = k + 1 := ⟨n - 1,by omega⟩
 rw [dB]
 simp only [ij]
 have h1 : POk ((ix e).foldl fh s) := mn hs fun p hp=>mY e p (by rw [kl]; simp [hp])
 have hloop : ∀ s : PSt,POk s → af (aH (σ := List Int × Bool × List Bool) (ρ := Empty) (fun (_ : Nat) (x11 : LExpr) (s11 : List Int × Bool × List Bool) =>
   af (dB n x11 s11.1 s11.2.1 s11.2.2) fun x66=>some (.next (x66.1,x66.2.1,x66.2.2))) 0 e.args (s.1,s.2.1,s.2.2)) (fun fl11=>fl11.thenP fun (s11 : List Int × Bool × List Bool)=>some (s11.1,s11.2.1,s11.2.2)) =
   some (((e.args.map cB).flatten).foldl fh s) := by
  intro s hs
  rw [rMa (xs := e.args) (s := (s.1,s.2.1,s.2.2)) (fun k=>(((e.args.take k).map cB).flatten).foldl fh s) rfl (fun k x hk=>by
   have hx := eB hk
   have hok : POk ((((e.args.take k).map cB).flatten).foldl fh s) := mn hs fun p hp=>by
    obtain ⟨l,hl,hp⟩ := List.mem_flatten.1 hp
    obtain ⟨y,hy,rfl⟩ := List.mem_map.1 hl
    exact mY y p hp
   rw [hN n (by omega) x hx _ hok,bPs,List.take_add_one,hk]
   simp)]
  rw [bPs,cf,List.take_length]
 have key : (af (cond (bv (cond (e.kind == (3 : Int)) (cond (decide (e.index ≥ (0 : Int))) ((decide (e.index < (8 : Int)))) (false)) (false)) fun (t1 : Bool)=>t1)
   (af (fU (σ := List Int) (ρ := Empty) (fun (s7 : List Int)=>cond (decide ((s7.length : Int) ≤ e.index)) (af (dg 8 s7 ([0] : List Int)) fun (x28 : List Int)=>some (.next x28)) (some (.brk s7))) s.1) fun fl7=>fl7.thenP fun (s7 : List Int) =>
   af (cond s.2.1 (some true) (af (arrI 8 s.2.2 e.index) fun (x33 : Bool)=>cond x33 (af (aJ s7 e.index) fun (x39 : Int)=>some (x39 != e.value.kind)) (some false))) fun (t8 : Bool) =>
   af (aJ s7 e.index) fun (_ : Int)=>bv (s7.set e.index.toNat e.value.kind) fun (y9 : List Int)=>af (arrI 8 s.2.2 e.index) fun (_ : Bool)=>bv (s.2.2.set e.index.toNat true) fun (y10 : List Bool)=>some (y9,t8,y10))
   (some (s.1,s.2.1,s.2.2))) fun t=>some t) = some ((ix e).foldl fh s) := by
  unfold bv
  by_cases hc : e.kind = 3 ∧ 0 ≤ e.index ∧ e.index < 8
  ·obtain ⟨hk,h0,h8⟩ := hc
   obtain ⟨i,hi⟩ : ∃ i : Nat,e.index = i := ⟨e.index.toNat,by omega⟩
   have hi8 : i < 8 := by omega
   have e0 : (e.kind == (3 : Int)) = true := by simpa using hk
   have e1 : decide (e.index ≥ (0 : Int)) = true := zt h0
   have e2 : decide (e.index < (8 : Int)) = true := zt h8
   rw [e0,e1,e2]
   simp only [zc]
   rw [hi,pad_while i hi8 _ s.1 rfl hs.1]
   simp only [bPs,cf]
   have hl : i < (iY s.1 i).length := by rw [nX]; omega
   rw [arrI_at hs.2 hi8,getI_at hl]
   simp only [bPs,Int.toNat_natCast]
   have hh : ix e = [(i,e.value.kind)] := by unfold ix; rw [zp ⟨hk,h0,h8⟩,hi,Int.toNat_natCast]
   rw [hh]
   simp only [List.foldl_cons,List.foldl_nil,fh]
   cases hb : s.2.1 <;> cases hc : s.2.2.getD i false <;> simp
  ·have hh : ix e = [] := by unfold ix; rw [zy hc]
   rw [hh]
   have e0 : (cond (e.kind == (3 : Int)) (cond (decide (e.index ≥ (0 : Int))) ((decide (e.index < (8 : Int)))) (false)) (false)) = false := by
    by_cases a : e.kind = 3
    ·by_cases b : 0 ≤ e.index
     ·have : ¬ e.index < 8 := fun h=>hc ⟨a,b,h⟩
      simp [this]
     ·have : ¬ e.index ≥ 0 := b
      simp [this]
    ·have : (e.kind == (3 : Int)) = false := by simpa using a
     simp [this]
   rw [e0]
   rfl
 simp only [bF] at key ⊢
 rw [kl,List.foldl_append,← hloop _ h1]
 generalize hg : (cond _ _ _ : Option PSt) = o at key
 cases o with
 | none=>cases key
 | some t =>
  simp only [bPs,zo] at key
  subst key
  rfl
theorem look_eq (e : LExpr) {s : PSt} (h : POk s) : gm e s.1 s.2.1 s.2.2 = some ((cB e).foldl fh s) := by
 obtain ⟨N,hN⟩ := look_ok e
 exact pr N fun n hn=>hN n hn s h
def gJ (x : LQuery) : List (Nat × Int) := (x.exprs.map cB).flatten ++ (x.aggregates.map fun a=>(a.args.map cB).flatten).flatten
def eV (q : LQuery) : List (Nat × Int) := ((cE q).map gJ).flatten
theorem oN {x : LQuery} : ∀ p ∈ gJ x,p.1 < 8 := by
 intro p hp
 rcases List.mem_append.1 hp with hp | hp
 ·obtain ⟨l,hl,hp⟩ := List.mem_flatten.1 hp
  obtain ⟨e,_,rfl⟩ := List.mem_map.1 hl
  exact mY e p hp
 ·obtain ⟨l,hl,hp⟩ := List.mem_flatten.1 hp
  obtain ⟨a,_,rfl⟩ := List.mem_map.1 hl
  obtain ⟨l,hl,hp⟩ := List.mem_flatten.1 hp
  obtain ⟨e,_,rfl⟩ := List.mem_map.1 hl
  exact mY e p hp
theorem paramsQ_lt {q : LQuery} : ∀ p ∈ eV q,p.1 < 8 := by
 intro p hp
 obtain ⟨l,hl,hp⟩ := List.mem_flatten.1 hp
 obtain ⟨x,_,rfl⟩ := List.mem_map.1 hl
 exact oN p hp
theorem lookAll {l : List LExpr} {s : PSt} (h : POk s) : aH (σ := PSt) (ρ := Empty) (fun (_ : Nat) (x12 : LExpr) (s12 : PSt) =>
   af (gm x12 s12.1 s12.2.1 s12.2.2) fun x33=>some (.next (x33.1,x33.2.1,x33.2.2))) 0 l (s.1,s.2.1,s.2.2) = some (.next (((l.map cB).flatten).foldl fh s)) := by
 rw [rMa (xs := l) (s := (s.1,s.2.1,s.2.2)) (fun k=>(((l.take k).map cB).flatten).foldl fh s) rfl (fun k x hk=>by
  have hok : POk ((((l.take k).map cB).flatten).foldl fh s) := mn h fun p hp=>by
   obtain ⟨m,hm,hp⟩ := List.mem_flatten.1 hp
   obtain ⟨y,hy,rfl⟩ := List.mem_map.1 hm
   exact mY y p hp
  rw [look_eq x hok,bPs,List.take_add_one,hk]
  simp),List.take_length]
def bM (q : LQuery) : PSt := (eV q).foldl fh ([],false,List.replicate 8 false)
theorem rc {q : LQuery} (hb : (cE q).length ≤ 10000000) : dY q = some (cond (bM q).2.1 ([],13) ((bM q).1,0)) := by
 unfold dY
 rw [nodes_ok q hb,bPs]
 rw [rMa (xs := cE q) (s := ([],false,List.replicate 8 false)) (fun k=>((((cE q).take k).map gJ).flatten).foldl fh ([],false,List.replicate 8 false)) rfl (fun k x hk=>by
  have hok : POk (((((cE q).take k).map gJ).flatten).foldl fh ([],false,List.replicate 8 false)) := mn ⟨by simp,by simp⟩ fun p hp=>by
   obtain ⟨m,hm,hp⟩ := List.mem_flatten.1 hp
   obtain ⟨y,hy,rfl⟩ := List.mem_map.1 hm
   exact oN p hp
  rw [lookAll hok,bPs,cf]
  rw [show ((((cE q).take (k + 1)).map gJ).flatten).foldl fh ([],false,List.replicate 8 false) = (gJ x).foldl fh (((((cE q).take k).map gJ).flatten).foldl fh ([],false,List.replicate 8 false)) from by
   rw [List.take_add_one,hk]
   simp only [Option.toList_some,List.map_append,List.map_cons,List.map_nil,List.flatten_append,List.flatten_cons,List.flatten_nil,List.append_nil,List.foldl_append]]
  generalize (((((cE q).take k).map gJ).flatten).foldl fh ([],false,List.replicate 8 false)) = s at hok ⊢
  have hok2 : POk (((x.exprs.map cB).flatten).foldl fh s) := mn hok fun p hp=>oN (x := x) p (by unfold gJ; simp only [List.mem_append]; exact .inl hp)
  rw [rMa (xs := x.aggregates) (s := ((((x.exprs.map cB).flatten).foldl fh s).1,(((x.exprs.map cB).flatten).foldl fh s).2.1,(((x.exprs.map cB).flatten).foldl fh s).2.2))
   (fun k=>((((x.aggregates.take k).map fun a=>(a.args.map cB).flatten).flatten).foldl fh (((x.exprs.map cB).flatten).foldl fh s))) rfl (fun k a ha=>by
    have hok3 : POk ((((x.aggregates.take k).map fun a=>(a.args.map cB).flatten).flatten).foldl fh (((x.exprs.map cB).flatten).foldl fh s)) := mn hok2 fun p hp=>oN (x := x) p (by
     unfold gJ
     simp only [List.mem_append]
     obtain ⟨m,hm,hp⟩ := List.mem_flatten.1 hp
     obtain ⟨y,hy,rfl⟩ := List.mem_map.1 hm
     exact .inr (List.mem_flatten.2 ⟨_,List.mem_map.2 ⟨y,List.mem_of_mem_take hy,rfl⟩,hp⟩))
    rw [lookAll hok3,bPs,cf,List.take_add_one,ha]
    simp)]
  rw [bPs,cf,List.take_length]
  unfold gJ
  rw [List.foldl_append])]
 rw [bPs,cf,List.take_length]
 show (cond (bM q).2.1 (some ([],13)) (some ((bM q).1,0))) = _
 cases (bM q).2.1 <;> rfl
def lM (l : List (Nat × Int)) : Prop := ∀ i k k',(i,k) ∈ l → (i,k') ∈ l → k = k'
structure PInv (l : List (Nat × Int)) (s : PSt) : Prop where
 ok : POk s
 seen : ∀ i,i < 8 → (s.2.2.getD i false = true ↔ ∃ k,(i,k) ∈ l)
 len : ∀ i k,(i,k) ∈ l → i < s.1.length
 last : s.1.length = 0 ∨ ∃ k,(s.1.length - 1,k) ∈ l
 zero : ∀ i,(∀ k,(i,k) ∉ l) → s.1.getD i 0 = 0
 good : s.2.1 = false → ∀ i k,(i,k) ∈ l → s.1.getD i 0 = k
 bad : lM l → s.2.1 = false
theorem qd (out : List Int) (i j : Nat) : (iY out i).getD j 0 = out.getD j 0 := by
 simp only [iY,List.getD_eq_getElem?_getD]
 by_cases h : j < out.length
 ·rw [List.getElem?_append_left h]
 ·rw [List.getElem?_append_right (by omega),List.getElem?_eq_none (l := out) (by omega),List.getElem?_replicate]
  split <;> rfl
theorem PInv.init : PInv [] ([],false,List.replicate 8 false) :=
 ⟨⟨by simp,by simp⟩,fun i hi=>by
  have : (List.replicate 8 false).getD i false = false := by rw [List.getD_eq_getElem?_getD,List.getElem?_replicate]; split <;> rfl
  exact ⟨fun h=>(by rw [show (([],false,List.replicate 8 false) : PSt).2.2 = List.replicate 8 false from rfl,this] at h; cases h),fun ⟨k,hk⟩=>(by simp at hk)⟩,fun i k h=>by simp at h,.inl rfl,fun i _=>by simp,fun _ i k h=>by simp at h,fun _=>rfl⟩
theorem PInv.step {l : List (Nat × Int)} {s : PSt} (h : PInv l s) {p : Nat × Int} (hp : p.1 < 8) : PInv (l ++ [p]) (fh s p) := by
 obtain ⟨i,k⟩ := p
 simp only at hp
 have hset : ∀ (xs : List Int) (j : Nat) (v : Int),i < xs.length → (xs.set i v).getD j 0 = if j = i then v else xs.getD j 0 := by
  intro xs j v hl
  rw [List.getD_eq_getElem?_getD,List.getD_eq_getElem?_getD,List.getElem?_set]
  by_cases hji : i = j
  ·subst hji; simp [hl]
  ·have : j ≠ i := fun h=>hji h.symm
   simp [hji,this]
 have hl1 : i < (iY s.1 i).length := by rw [nX]; omega
 refine ⟨pstep_ok h.ok hp,fun j hj=>?_,fun j k' hm=>?_,?_,fun j hno=>?_,fun hb j k' hm=>?_,fun hk=>?_⟩
 ·show (s.2.2.set i true).getD j false = true ↔ _
  rw [List.getD_eq_getElem?_getD,List.getElem?_set]
  by_cases hji : i = j
  ·subst hji
   have : i < s.2.2.length := by rw [h.ok.2]; exact hp
   simp [this]
  ·have h1 := h.seen j hj
   rw [List.getD_eq_getElem?_getD] at h1
   have hji' : j ≠ i := fun h=>hji h.symm
   simp only [hji,if_false,h1,List.mem_append,List.mem_singleton,Prod.mk.injEq,hji',false_and,or_false]
 ·show j < ((iY s.1 i).set i k).length
  rw [List.length_set,nX]
  rcases List.mem_append.1 hm with hm | hm
  ·have := h.len j k' hm; omega
  ·simp at hm; omega
 ·show ((iY s.1 i).set i k).length = 0 ∨ ∃ k',(((iY s.1 i).set i k).length - 1,k') ∈ l ++ [(i,k)]
  rw [List.length_set,nX]
  by_cases hle : s.1.length ≤ i + 1
  ·right
   exact ⟨k,by rw [show max s.1.length (i + 1) - 1 = i from by omega]; simp⟩
  ·rcases h.last with h0 | ⟨k',hk'⟩
   ·omega
   ·right
    exact ⟨k',by rw [show max s.1.length (i + 1) - 1 = s.1.length - 1 from by omega]; simp [hk']⟩
 ·show ((iY s.1 i).set i k).getD j 0 = 0
  have hji : j ≠ i := fun e=>hno k (by simp [e])
  rw [hset _ _ _ hl1,zy hji,qd]
  exact h.zero j fun k' hm=>hno k' (by simp [hm])
 ·have hb' : s.2.1 = false ∧ (s.2.2.getD i false && (iY s.1 i).getD i 0 != k) = false := by
   have : (s.2.1 || (s.2.2.getD i false && (iY s.1 i).getD i 0 != k)) = false := hb
   simpa using this
  show ((iY s.1 i).set i k).getD j 0 = k'
  rw [hset _ _ _ hl1]
  have hold := h.good hb'.1
  rcases List.mem_append.1 hm with hm1 | hm
  ·by_cases hji : j = i
   ·subst hji
    rw [zp rfl]
    have hs := (h.seen j hp).2 ⟨k',hm1⟩
    have := hb'.2
    rw [hs,qd,hold j k' hm1] at this
    simp at this
    exact this.symm
   ·rw [zy hji,qd]
    exact hold j k' hm1
  ·simp at hm
   rw [zp hm.1,hm.2]
 ·have h1 := h.bad fun i k k' a b=>hk i k k' (by simp [a]) (by simp [b])
  show (s.2.1 || (s.2.2.getD i false && (iY s.1 i).getD i 0 != k)) = false
  rw [h1,Bool.false_or,qd]
  cases hs : s.2.2.getD i false with
  | false=>rfl
  | true =>
   obtain ⟨k',hk'⟩ := (h.seen i hp).1 hs
   rw [h.good h1 i k' hk',hk i k' k (by simp [hk']) (by simp)]
   simp
theorem PInv.fold : ∀ {r l : List (Nat × Int)} {s : PSt},PInv l s → (∀ p ∈ r,p.1 < 8) → PInv (l ++ r) (r.foldl fh s)
 | [],l,s,h,_=>by simpa using h
 | p :: r,l,s,h,hr=>by
  have := PInv.fold (r := r) (h.step (hr p (by simp))) fun q hq=>hr q (by simp [hq])
  simpa using this
theorem qo (q : LQuery) : PInv (eV q) (bM q) := by
 have := PInv.fold (r := eV q) PInv.init paramsQ_lt
 rw [List.nil_append] at this
 exact this
theorem kinds_bad {q : LQuery} : (bM q).2.1 = false ↔ lM (eV q) := by
 have h := qo q
 refine ⟨fun hb i k k' a b=>?_,h.bad⟩
 rw [← h.good hb i k a,← h.good hb i k' b]
structure ArgsOk (l : List (Nat × Int)) (args : Rq) : Prop where
 kinds : lM l
 args : ∀ i k,(i,k) ∈ l → i < args.length ∧ (∀ j x,j ≤ i → args[j]? = some x → eU x = true) ∧ (∀ x,args[i]? = some x → k = 0 ∨ x.kind = k ∨ x.kind = 0)
theorem args_ok {q : LQuery} (hb : (cE q).length ≤ 10000000) (args : Rq) : ∃ e,fN q args = some e ∧ (e = 0 ↔ ArgsOk (eV q) args) := by
 unfold fN
 rw [rc hb,bPs]
 have h := qo q
 cases hbad : (bM q).2.1 with
 | true =>
  refine ⟨13,by simp,?_⟩
  have : ¬ lM (eV q) := fun hk=>by rw [kinds_bad.2 hk] at hbad; cases hbad
  exact ⟨fun h=>by omega,fun h=>absurd h.kinds this⟩
 | false =>
  simp only [zd]
  have hk := kinds_bad.1 hbad
  by_cases hl : args.length < (bM q).1.length
  ·refine ⟨1,by simp [hl],fun h=>by omega,fun ha=>?_⟩
   rcases h.last with h0 | ⟨k,hm⟩
   ·omega
   ·have := (ha.args _ _ hm).1; omega
  ·have hge : (bM q).1.length ≤ args.length := by omega
   have hstep : ∀ k x,(bM q).1[k]? = some x → ∃ y,args[k]? = some y := fun k x hx=>by
    have := (zg.1 hx).1
    exact ⟨args[k],ze (by omega)⟩
   let okAt : Nat → Int → Prop := fun k x=>∀ y,args[k]? = some y → eU y = true ∧ (x = 0 ∨ y.kind = x ∨ y.kind = 0)
   obtain ⟨fl,hfl,hres⟩ := eQ (step := fun (j1 : Nat) (x1 : Int) (_ : Unit)=>af (aJ args (j1 : Int)) fun (x31 : LVal)=>bv (eU x31) fun x33=>cond (!x33) (some (Flow.ret (σ := Unit) (7 : Int)))
     (cond (x1 != (0 : Int)) (af (aJ args (j1 : Int)) fun (x41 : LVal)=>cond (x41.kind != x1) (af (aJ args (j1 : Int)) fun (x50 : LVal)=>cond (x50.kind != (0 : Int)) (some (.ret 7)) (some (.next ()))) (some (.next ()))) (some (.next ()))))
    (fun j _=>∀ k x,k < j → (bM q).1[k]? = some x → okAt k x) (fun r=>r = 7 ∧ ∃ k x,(bM q).1[k]? = some x ∧ ¬ okAt k x) (bM q).1 0 () (fun k x hk=>by omega) (fun k x s hk hI=>by
     obtain ⟨y,hy⟩ := hstep k x hk
     simp only [Nat.zero_add] at hI ⊢
     rw [kO hy]
     simp only [bPs,bF]
     have next : okAt k x → ∀ k' x',k' < k + 1 → (bM q).1[k']? = some x' → okAt k' x' := fun ho k' x' hk' hx'=>by
      by_cases he : k' = k
      ·subst he; rw [hk] at hx'; cases hx'; exact ho
      ·exact hI k' x' (by omega) hx'
     cases hv : eU y with
     | false=>exact ⟨_,rfl,rfl,k,x,hk,fun ho=>by have := (ho y hy).1; rw [hv] at this; cases this⟩
     | true =>
      simp only [Bool.not_true,zd]
      by_cases hx0 : x = 0
      ·refine ⟨.next (),by simp [hx0],next fun z hz=>?_⟩
       rw [hy] at hz; cases hz; exact ⟨hv,.inl hx0⟩
      ·have e0 : (x != (0 : Int)) = true := by simpa using hx0
       rw [e0,zc]
       by_cases hyx : y.kind = x
       ·refine ⟨.next (),by simp [hyx],next fun z hz=>?_⟩
        rw [hy] at hz; cases hz; exact ⟨hv,.inr (.inl hyx)⟩
       ·have e1 : (y.kind != x) = true := by simpa using hyx
        rw [e1,zc]
        by_cases hy0 : y.kind = 0
        ·refine ⟨.next (),by simp [hy0],next fun z hz=>?_⟩
         rw [hy] at hz; cases hz; exact ⟨hv,.inr (.inr hy0)⟩
        ·have e2 : (y.kind != (0 : Int)) = true := by simpa using hy0
         refine ⟨.ret 7,by simp [e2],rfl,k,x,hk,fun ho=>?_⟩
         rcases (ho y hy).2 with a | a | a
         ·exact hx0 a
         ·exact hyx a
         ·exact hy0 a)
   have e0 : decide ((args.length : Int) < ((bM q).1.length : Int)) = false := zf (by omega)
   simp only [bne_self_eq_false,zd,e0]
   rw [hfl,bPs]
   have hget : ∀ k,k < (bM q).1.length → (bM q).1[k]? = some ((bM q).1.getD k 0) := fun k hk=>by
    rw [List.getD_eq_getElem?_getD,ze hk]; rfl
   cases fl with
   | brk s=>exact absurd hres (by simp)
   | next s =>
    refine ⟨0,rfl,fun _=>⟨hk,fun i k hm=>?_⟩,fun _=>rfl⟩
    have hi := h.len i k hm
    simp only [Nat.zero_add] at hres
    refine ⟨by omega,fun j x hj hx=>?_,fun x hx=>?_⟩
    ·exact ((hres j _ (by omega) (hget j (by omega))) x hx).1
    ·have := ((hres i _ (by omega) (hget i (by omega))) x hx).2
     rwa [h.good hbad i k hm] at this
   | ret r =>
    obtain ⟨rfl,k,x,hx,hno⟩ := hres
    refine ⟨7,rfl,fun h=>by omega,fun ha=>absurd ?_ hno⟩
    intro y hy
    have hkl := (zg.1 hx).1
    rcases h.last with h0 | ⟨k',hm⟩
    ·omega
    ·have hv := (ha.args _ _ hm).2.1 k y (by omega) hy
     refine ⟨hv,?_⟩
     by_cases hex : ∃ k2,(k,k2) ∈ eV q
     ·obtain ⟨k2,hm2⟩ := hex
      have hg := h.good hbad k k2 hm2
      have hxx : x = k2 := by
       rw [hget k hkl] at hx
       rw [← hg]
       exact (Option.some.inj hx).symm
      rw [hxx]
      exact (ha.args k k2 hm2).2.2 y hy
     ·left
      have := h.zero k fun k2 hm2=>hex ⟨k2,hm2⟩
      rw [hget k hkl] at hx
      rw [← this]
      exact (Option.some.inj hx).symm
def Tot {α : Type} (o : Option α) : Prop := ∃ v,o = some v
theorem Tot.mk {α : Type} {v : α} : Tot (Option.some v) := ⟨v,rfl⟩
theorem Tot.bind {α β : Type} {o : Option α} {k : α → Option β} (h : Tot o) (hk : ∀ v,o = some v → Tot (k v)) : Tot (af o k) := by
 obtain ⟨v,hv⟩ := h
 rw [hv]
 exact hk v hv
theorem Tot.cond {α : Type} {b : Bool} {x y : Option α} (hx : b = true → Tot x) (hy : b = false → Tot y) : Tot (cond b x y) := by
 cases b
 ·exact hy rfl
 ·exact hx rfl
theorem Tot.get {α : Type} {xs : List α} {i : Int} (h0 : 0 ≤ i) (h : i < xs.length) : Tot (aJ xs i) := by
 have : i.toNat < xs.length := by omega
 exact ⟨xs[i.toNat],mz h0 (ze this)⟩
theorem Tot.sub {α : Type} {xs : List α} {a b : Int} (h : 0 ≤ a ∧ a ≤ b ∧ b ≤ xs.length) : Tot (nu xs a b) := ⟨_,pn h⟩
theorem Tot.range {α σ ρ : Type} {step : Nat → α → σ → Option (Flow σ ρ)} : ∀ (xs : List α) (j : Nat) (s : σ),(∀ k x s,xs[k]? = some x → Tot (step (j + k) x s)) → Tot (aH step j xs s)
 | [],_,s,_=>⟨.next s,rfl⟩
 | x :: xs,j,s,h=>by
  obtain ⟨fl,hfl⟩ := h 0 x s rfl
  rw [Nat.add_zero] at hfl
  rw [aH,hfl]
  cases fl with
  | next s' =>
   exact Tot.range xs (j + 1) s' fun k y t hk=>by
    have := h (k + 1) y t (by simpa using hk)
    rwa [show j + (k + 1) = j + 1 + k from by omega] at this
  | brk s'=>exact ⟨_,rfl⟩
  | ret r=>exact ⟨_,rfl⟩
theorem Tot.thenR {σ ρ : Type} {fl : Flow σ ρ} {k : σ → Option ρ} (h : ∀ s,(fl = .next s ∨ fl = .brk s) → Tot (k s)) : Tot (fl.thenR k) := by
 cases fl with
 | next s=>exact h s (.inl rfl)
 | brk s=>exact h s (.inr rfl)
 | ret r=>exact ⟨r,rfl⟩
theorem lz {a b : Int} (h : a ≠ b) : (a != b) = true := by simpa using h
theorem iT {a b : Int} (h : a = b) : (a != b) = false := by simp [h]
theorem cR {a b : Int} (h : a ≠ b) : (a == b) = false := by simpa using h
theorem ld {a b : Int} (h : a = b) : (a == b) = true := by simp [h]
theorem idxF {α : Type} {l : List α} {f : α → Option Bool} {p : α → Bool} (h : ∀ x ∈ l,f x = some (p x)) :
  af (aH (σ := Unit) (ρ := Int) (fun (j1 : Nat) (x1 : α) (_ : Unit)=>af (f x1) fun x16=>cond x16 (some (.ret (j1 : Int))) (some (.next ()))) 0 l ()) (fun fl1=>fl1.thenR fun (_ : Unit)=>some (-1)) = some (aX p l) := by
 rw [qu p (fun j _=>(j : Int)) l 0 (fun k x hk=>by
  rw [h x (eB hk),bPs]
  cases p x <;> simp)]
 unfold aX
 cases hf : l.findIdx? p with
 | none=>rfl
 | some i =>
  have hi := (List.findIdx?_eq_some_iff_getElem.1 hf).1
  simp only [ze hi]
  simp
theorem idxF2 {α : Type} {l : List α} {p : α → Bool} :
  af (aH (σ := Unit) (ρ := Int) (fun (j1 : Nat) (x1 : α) (_ : Unit)=>cond (p x1) (some (.ret (j1 : Int))) (some (.next ()))) 0 l ()) (fun fl1=>fl1.thenR fun (_ : Unit)=>some (-1)) = some (aX p l) := idxF (f := fun x=>some (p x)) fun _ _=>rfl
theorem idxOf_neg {α : Type} {p : α → Bool} {l : List α} : aX p l = -1 ∨ 0 ≤ aX p l := by
 unfold aX
 cases l.findIdx? p with
 | none=>exact .inl rfl
 | some i=>exact .inr (by simp)
theorem mu {α : Type} {p : α → Bool} {l : List α} (h : 0 ≤ aX p l) : ∃ x,l[(aX p l).toNat]? = some x ∧ p x = true := by
 unfold aX at h ⊢
 cases hf : l.findIdx? p with
 | none=>rw [hf] at h; simp at h
 | some i =>
  obtain ⟨hi,hp,_⟩ := List.findIdx?_eq_some_iff_getElem.1 hf
  exact ⟨l[i],by simp [hi],hp⟩
theorem idx_table (l : List LTable) (p : LTable → Bool) : cU l (fun a=>some (p a)) = some (aX p l) := idxF fun _ _=>rfl
theorem idx_column (l : List LCol) (p : LCol → Bool) : cO l (fun a=>some (p a)) = some (aX p l) := idxF fun _ _=>rfl
theorem pN (s : LSchema) (name : List UInt8) : gk s name = some (dM 0 (aX (fun t=>dr t name) s.tables),decide (aX (fun t=>dr t name) s.tables ≥ 0)) := by
 unfold gk
 rw [idx_table,bPs]
 congr 2
 unfold dM
 split <;> split <;> omega
theorem findColumn_eq (t : LTable) (name : List UInt8) : gI t name = some (dM 0 (aX (fun c=>er c name) t.columns),decide (aX (fun c=>er c name) t.columns ≥ 0)) := by
 unfold gI
 rw [idx_column,bPs]
 congr 2
 unfold dM
 split <;> split <;> omega
theorem qx {n : Int} (h : 0 ≤ n) : dM 0 n = n := by unfold dM; split <;> omega
theorem rQ (s : List UInt8) : Tot (gn s) := by
 unfold gn
 refine Tot.bind ?_ fun b hb=>?_
 ·refine Tot.cond (fun _=>Tot.mk) fun h1=>?_
  refine Tot.cond (fun _=>Tot.mk) fun h2=>?_
  have h1 := of_decide_eq_false h1
  refine Tot.bind (Tot.get (by decide) (by omega)) fun x _=>?_
  refine Tot.cond (fun _=>?_) fun _=>Tot.mk
  exact Tot.bind (Tot.get (by decide) (by omega)) fun x _=>Tot.mk
 ·refine Tot.cond (fun _=>Tot.mk) fun h=>?_
  subst h
  have hl : (s.length : Int) ≤ 12 := by
   by_cases h1 : (s.length : Int) < 1
   ·omega
   ·by_cases h2 : (s.length : Int) > 12
    ·rw [zf h1,zt h2] at hb; simp at hb
    ·omega
  refine Tot.bind ⟨(),eo (by omega)⟩ fun _ _=>?_
  refine Tot.bind (Tot.range _ _ _ fun k x _ _=>?_) fun fl _=>Tot.thenR fun _ _=>Tot.mk
  repeat' first | exact Tot.mk | refine Tot.cond (fun _=>?_) (fun _=>?_)
structure TableOk (t : LTable) : Prop where
 pk : ∀ x ∈ t.primaryKey,0 ≤ x ∧ x < t.columns.length
theorem validTable (t : LTable) (hsm : t.primaryKey.length ≤ 10000000) : ∃ e,fL t = some e ∧ (e = 0 → TableOk t) := by
 unfold fL
 obtain ⟨b,hb⟩ := rQ t.name
 rw [hb,bPs]
 cases b with
 | false=>exact ⟨23,rfl,fun h=>by omega⟩
 | true =>
  simp only [Bool.not_true,zd]
  by_cases h0 : (t.columns.length : Int) = 0
  ·exact ⟨3,by simp [h0],fun h=>by omega⟩
  by_cases h6 : (t.columns.length : Int) > 6
  ·have : ((t.columns.length : Int) == 0) = false := by simpa using h0
   exact ⟨2,by rw [this]; simp [h6],fun h=>by omega⟩
  have e0 : ((t.columns.length : Int) == 0) = false := by simpa using h0
  rw [e0,zf h6]
  simp only [zd]
  obtain ⟨fl,hfl,hr⟩ := eQ (step := fun (j1 : Nat) (x1 : LCol) (_ : Unit) =>
    af (gn x1.name) fun x31=>cond (!x31) (some (Flow.ret (σ := Unit) (23 : Int)))
     (af (gI t x1.name) fun x37=>cond (decide (x37.1 < (j1 : Int))) (some (.ret 5)) (cond (decide (x1.kind < (1 : Int))) (some (.ret 7)) (cond (decide (x1.kind > (3 : Int))) (some (.ret 7)) (some (.next ())))))) (fun _ _=>True) (fun r=>r ≠ 0) t.columns 0 () trivial (fun k x s hk _=>by
    obtain ⟨b,hb⟩ := rQ x.name
    rw [hb,bPs,findColumn_eq,bPs]
    cases b with
    | false=>exact ⟨_,rfl,by simp⟩
    | true =>
     simp only [Bool.not_true,zd]
     by_cases a1 : dM 0 (aX (fun c=>er c x.name) t.columns) < ((0 + k : Nat) : Int)
     ·exact ⟨.ret 5,by rw [zt a1]; rfl,by simp⟩
     ·rw [zf a1]
      by_cases a2 : x.kind < 1
      ·exact ⟨.ret 7,by rw [zt a2]; rfl,by simp⟩
      ·rw [zf a2]
       by_cases a3 : x.kind > 3
       ·exact ⟨.ret 7,by rw [zt a3]; rfl,by simp⟩
       ·exact ⟨.next (),by rw [zf a3]; rfl,trivial⟩)
  rw [hfl,bPs]
  cases fl with
  | brk s=>exact absurd hr (by simp)
  | ret r=>exact ⟨r,rfl,fun h=>absurd h hr⟩
  | next s =>
   rw [gQ]
   obtain ⟨fl,hfl,hr⟩ := eQ (step := fun (j2 : Nat) (x2 : Int) (_ : Unit) =>
     cond (decide (x2 < (0 : Int))) (some (Flow.ret (σ := Unit) (9 : Int))) (cond (decide (x2 ≥ (t.columns.length : Int))) (some (.ret 9))
      (af (aJ t.columns x2) fun (x73 : LCol)=>cond x73.nullable (some (.ret 9)) (cond (decide ((j2 : Int) > (0 : Int)))
       (af (aJ t.primaryKey (IntKind.i64.wrap ((j2 : Int) - (1 : Int)))) fun (x86 : Int)=>cond (decide (x2 ≤ x86)) (some (.ret 9)) (some (.next ()))) (some (.next ())))))) (fun j _=>∀ k x,k < j → t.primaryKey[k]? = some x → 0 ≤ x ∧ x < t.columns.length) (fun r=>r ≠ 0) t.primaryKey 0 () (fun k x h=>by omega) (fun k x s hk hI=>by
     simp only [Nat.zero_add] at hI ⊢
     by_cases a1 : x < 0
     ·exact ⟨.ret 9,by rw [zt a1]; rfl,by simp⟩
     rw [zf a1]
     by_cases a2 : x ≥ (t.columns.length : Int)
     ·exact ⟨.ret 9,by rw [zt a2]; rfl,by simp⟩
     rw [zf a2]
     simp only [zd]
     obtain ⟨c,hc⟩ := Tot.get (xs := t.columns) (i := x) (by omega) (by omega)
     rw [hc,bPs]
     have next : ∀ k' x',k' < k + 1 → t.primaryKey[k']? = some x' → 0 ≤ x' ∧ x' < t.columns.length := fun k' x' h1 h2=>by
      by_cases he : k' = k
      ·subst he; rw [hk] at h2; cases h2; omega
      ·exact hI k' x' (by omega) h2
     cases c.nullable with
     | true=>exact ⟨_,rfl,by simp⟩
     | false =>
      simp only [zd]
      by_cases a3 : (k : Int) > 0
      ·rw [zt a3]
       have hkl := (zg.1 hk).1
       rw [bw (by omega) (by omega)]
       obtain ⟨y,hy⟩ := Tot.get (xs := t.primaryKey) (i := (k : Int) - 1) (by omega) (by omega)
       rw [zc,hy,bPs]
       by_cases a4 : x ≤ y
       ·exact ⟨.ret 9,by rw [zt a4]; rfl,by simp⟩
       ·exact ⟨.next (),by rw [zf a4]; rfl,next⟩
      ·exact ⟨.next (),by rw [zf a3]; rfl,next⟩)
   rw [hfl,bPs]
   cases fl with
   | brk s=>exact absurd hr (by simp)
   | ret r=>exact ⟨r,rfl,fun h=>absurd h hr⟩
   | next s =>
    rw [gQ]
    simp only [Nat.zero_add] at hr
    by_cases hp : (t.primaryKey.length : Int) = 0
    ·exact ⟨9,by simp [hp],fun h=>by omega⟩
    ·have : ((t.primaryKey.length : Int) == 0) = false := by simpa using hp
     refine ⟨0,by rw [this]; rfl,fun _=>⟨fun x hx=>?_⟩⟩
     obtain ⟨k,hk,rfl⟩ := List.mem_iff_getElem.1 hx
     exact hr k _ hk (ze hk)
theorem gw {α : Type} {xs : List α} {k : Nat} (h : k < xs.length) : aJ xs (k : Int) = some xs[k] := kO (ze h)
theorem foreignKey_tot {s : LSchema} (hs : ∀ t ∈ s.tables,TableOk t) (fk : LForeignKey) : Tot (fj s fk) := by
 unfold fj
 rw [pN,pN]
 simp only [bPs,bF]
 generalize hi : aX (fun t=>dr t fk.table) s.tables = i
 generalize hj : aX (fun t=>dr t fk.refTable) s.tables = j
 by_cases h1 : i ≥ 0
 ·by_cases h2 : j ≥ 0
  ·rw [zt h1,zt h2]
   simp only [Bool.not_true,zd]
   rw [qx h1,qx h2]
   obtain ⟨t,ht,_⟩ := mu (hi ▸ h1)
   obtain ⟨u,hu,_⟩ := mu (hj ▸ h2)
   rw [hi] at ht
   rw [hj] at hu
   rw [mz h1 ht,mz h2 hu]
   simp only [bPs]
   refine Tot.cond (fun _=>Tot.mk) fun hl=>?_
   have hl : fk.columns.length = u.primaryKey.length := by
    by_cases h : (fk.columns.length : Int) = (u.primaryKey.length : Int)
    ·omega
    ·simp [h] at hl
   refine Tot.bind (Tot.range _ _ _ fun k x st hk=>?_) fun fl _=>Tot.thenR fun _ _=>Tot.mk
   have hkl := (zg.1 hk).1
   by_cases a1 : x < 0
   ·rw [zt a1]; exact Tot.mk
   ·rw [zf a1]
    by_cases a2 : x ≥ (t.columns.length : Int)
    ·rw [zt a2]; exact Tot.mk
    ·rw [zf a2]
     simp only [zd]
     obtain ⟨c,hc⟩ := Tot.get (xs := t.columns) (i := x) (by omega) (by omega)
     rw [hc,bPs,Nat.zero_add,gw (by omega),bPs]
     have hp := (hs u (eB hu)).pk u.primaryKey[k] (List.getElem_mem _)
     obtain ⟨d,hd⟩ := Tot.get (xs := u.columns) (i := u.primaryKey[k]) hp.1 hp.2
     rw [hd,bPs]
     exact Tot.cond (fun _=>Tot.mk) fun _=>Tot.mk
  ·rw [zf h2]
   simp only [Bool.not_false]
   cases decide (i ≥ 0) <;> exact Tot.mk
 ·rw [zf h1]
  exact Tot.mk
theorem constraint_tot (s : LSchema) (c : LConstraint) : Tot (fm s c) := by
 unfold fm
 rw [pN]
 simp only [bPs,bF]
 generalize hi : aX (fun t=>dr t c.table) s.tables = i
 by_cases h1 : i ≥ 0
 ·rw [zt h1]
  simp only [Bool.not_true,zd]
  rw [qx h1]
  obtain ⟨t,ht,_⟩ := mu (hi ▸ h1)
  rw [hi] at ht
  rw [mz h1 ht,bPs]
  refine Tot.cond (fun _=>Tot.mk) fun hl=>?_
  by_cases a1 : c.left < 0
  ·rw [zt a1] at hl; cases hl
  rw [zf a1,zd] at hl
  by_cases a2 : c.left ≥ (t.columns.length : Int)
  ·rw [zt a2] at hl; cases hl
  rw [zf a2,zd] at hl
  obtain ⟨x,hx⟩ := Tot.get (xs := t.columns) (i := c.left) (by omega) (by omega)
  rw [hx]
  refine Tot.cond (fun a3=>?_) fun _=>?_
  ·have a3 := of_decide_eq_true a3
   have a4 : c.right < (t.columns.length : Int) := by
    rcases Int.lt_or_le c.right (t.columns.length : Int) with h | h
    ·exact h
    ·have e : decide (c.right ≥ (t.columns.length : Int)) = true := zt h
     rw [e] at hl
     revert hl
     cases ((iv (LVal.mk 0 0 []) c.op (LVal.mk 0 0 [])).2 != 0) <;> cases decide (c.right < -1) <;> simp
   obtain ⟨y,hy⟩ := Tot.get (xs := t.columns) (i := c.right) a3 a4
   rw [hy]
   simp only [bPs]
   exact Tot.cond (fun _=>Tot.mk) fun _=>Tot.mk
  ·rw [bPs]
   exact Tot.cond (fun _=>Tot.mk) fun _=>Tot.mk
 ·rw [zf h1]
  exact Tot.mk
theorem equalInts_tot (a b : List Int) : Tot (gz a b) := by
 unfold gz
 refine Tot.cond (fun _=>Tot.mk) fun h=>?_
 have h : a.length = b.length := by
  by_cases h' : (a.length : Int) = (b.length : Int)
  ·omega
  ·simp [h'] at h
 refine Tot.bind (Tot.range _ _ _ fun k x s hk=>?_) fun fl _=>Tot.thenR fun _ _=>Tot.mk
 have hkl := (zg.1 hk).1
 rw [Nat.zero_add,gw (by omega),bPs]
 exact Tot.cond (fun _=>Tot.mk) fun _=>Tot.mk
theorem fkIn_tot (l : List LForeignKey) (x : LForeignKey) : Tot (bX l (fun a0=>gM a0 x)) := by
 unfold bX cQ
 refine Tot.bind (Tot.bind (Tot.range _ _ _ fun k y s hk=>?_) fun fl _=>Tot.thenR fun _ _=>Tot.mk) fun _ _=>Tot.mk
 refine Tot.bind ?_ fun _ _=>Tot.cond (fun _=>Tot.mk) fun _=>Tot.mk
 unfold gM
 refine Tot.bind ?_ fun _ _=>Tot.mk
 unfold hX
 refine Tot.cond (fun _=>Tot.bind (equalInts_tot _ _) fun _ _=>Tot.cond (fun _=>Tot.mk) fun _=>Tot.mk) fun _=>Tot.mk
theorem csIn_tot (l : List LConstraint) (x : LConstraint) : Tot (cj l x) := by
 unfold cj de
 refine Tot.bind (Tot.bind (Tot.range _ _ _ fun k y s hk=>?_) fun fl _=>Tot.thenR fun _ _=>Tot.mk) fun _ _=>Tot.mk
 exact Tot.cond (fun _=>Tot.mk) fun _=>Tot.mk
def nc (s : LSchema) : Prop := ∀ t ∈ s.tables,t.primaryKey.length ≤ 10000000
theorem validate_tot {s : LSchema} (hsm : nc s) : Tot (jl s) := by
 unfold jl
 rw [bF]
 refine Tot.cond (fun _=>Tot.mk) fun ht=>?_
 have h6 : s.tables.length ≤ 6 := by
  by_cases h : (s.tables.length : Int) > 6
  ·rw [zt h] at ht; cases ht
  ·omega
 obtain ⟨fl,hfl,hr⟩ := eQ (step := fun (j2 : Nat) (x2 : LTable) (_ : Unit) =>
   af (fL x2) fun x37=>cond (x37 != (0 : Int)) (some (Flow.ret (σ := Unit) x37)) (cond (decide ((j2 : Int) > (0 : Int)))
     (af (aJ s.tables (IntKind.i64.wrap ((j2 : Int) - (1 : Int)))) fun (x50 : LTable)=>cond (Op.bytesLess x2.name x50.name || x2.name == x50.name) (some (.ret 6)) (some (.next ()))) (some (.next ())))) (fun j _=>∀ k x,k < j → s.tables[k]? = some x → TableOk x) (fun _=>True) s.tables 0 () (fun k x h=>by omega) (fun k x st hk hI=>by
    simp only [Nat.zero_add] at hI ⊢
    obtain ⟨e,he,hok⟩ := validTable x (hsm x (eB hk))
    rw [he,bPs]
    by_cases h0 : e = 0
    ·have next : ∀ k' x',k' < k + 1 → s.tables[k']? = some x' → TableOk x' := fun k' x' h1 h2=>by
      by_cases heq : k' = k
      ·subst heq; rw [hk] at h2; cases h2; exact hok h0
      ·exact hI k' x' (by omega) h2
     rw [show (e != (0 : Int)) = false from by simp [h0],zd]
     by_cases a3 : (k : Int) > 0
     ·have hkl := (zg.1 hk).1
      rw [zt a3,bw (by omega) (by omega)]
      obtain ⟨y,hy⟩ := Tot.get (xs := s.tables) (i := (k : Int) - 1) (by omega) (by omega)
      rw [zc,hy,bPs]
      cases (Op.bytesLess x.name y.name || x.name == y.name) with
      | true=>exact ⟨.ret 6,rfl,trivial⟩
      | false=>exact ⟨.next (),rfl,next⟩
     ·exact ⟨.next (),by rw [zf a3]; rfl,next⟩
    ·exact ⟨.ret e,by rw [show (e != (0 : Int)) = true from by simp [h0]]; rfl,trivial⟩)
 rw [hfl,bPs]
 cases fl with
 | brk s=>exact absurd hr (by simp)
 | ret r=>exact Tot.mk
 | next u =>
  rw [gQ]
  simp only [Nat.zero_add] at hr
  have hok : ∀ t ∈ s.tables,TableOk t := fun t ht=>by
   obtain ⟨k,hk,rfl⟩ := List.mem_iff_getElem.1 ht
   exact hr k _ hk (ze hk)
  refine Tot.bind (Tot.range _ _ _ fun k x st hk=>?_) fun fl _=>Tot.thenR fun _ _=>?_
  ·refine Tot.bind (foreignKey_tot hok x) fun e _=>Tot.cond (fun _=>Tot.mk) fun _=>?_
   have hkl := (zg.1 hk).1
   refine Tot.bind (Tot.sub ⟨by omega,by omega,by omega⟩) fun l _=>?_
   exact Tot.bind (fkIn_tot l x) fun _ _=>Tot.cond (fun _=>Tot.mk) fun _=>Tot.mk
  ·refine Tot.bind (Tot.range _ _ _ fun k x st hk=>?_) fun fl _=>Tot.thenR fun _ _=>Tot.mk
   refine Tot.bind (constraint_tot s x) fun e _=>Tot.cond (fun _=>Tot.mk) fun _=>?_
   have hkl := (zg.1 hk).1
   refine Tot.bind (Tot.sub ⟨by omega,by omega,by omega⟩) fun l _=>?_
   exact Tot.bind (csIn_tot l x) fun _ _=>Tot.cond (fun _=>Tot.mk) fun _=>Tot.mk
def fw (cols : List LCol) (row : Rq) : Prop := row.length = cols.length ∧ ∀ (i : Nat) (c : LCol) (x : LVal),cols[i]? = some c → row[i]? = some x → fZ x c.kind c.nullable
theorem validate_valid {v : LVal} (h : dO v = 0) : eU v = true := by
 obtain ⟨k,n,t⟩ := v
 unfold dO bv at h
 unfold eU
 by_cases k0 : k = 0
 ·subst k0
  by_cases hn : n = 0
  ·subst hn
   cases t with
   | nil=>rfl
   | cons c t=>simp at h
  ·simp [lz hn] at h
 ·have e0 : (k == (0 : Int)) = false := by simpa using k0
  simp only [e0,zd] at h
  by_cases k1 : k = 1
  ·subst k1
   cases t with
   | cons c t=>simp at h
   | nil =>
    by_cases a : n < -1000000000000
    ·simp [a] at h
    ·by_cases b : n > 1000000000000
     ·simp [a,b] at h
     ·simp; omega
  ·by_cases k2 : k = 2
   ·subst k2
    cases t with
    | cons c t=>simp at h
    | nil =>
     by_cases a : n = 0
     ·simp [a]
     ·by_cases b : n = 1
      ·simp [b]
      ·simp [lz a,lz b] at h
   ·by_cases k3 : k = 3
    ·subst k3
     by_cases a : n = 0
     ·subst a
      by_cases b : (t.length : Int) > 24
      ·simp [b] at h
      ·simp; omega
     ·simp [lz a] at h
    ·have e1 : (k == (1 : Int)) = false := by simpa using k1
     have e2 : (k == (2 : Int)) = false := by simpa using k2
     have e3 : (k == (3 : Int)) = false := by simpa using k3
     simp [e1,e2,e3] at h
theorem conformsRow (t : LTable) (row : Rq) : ∃ e,eH t row = some e ∧ (e = 0 → fw t.columns row) := by
 unfold eH
 by_cases hl : (row.length : Int) = (t.columns.length : Int)
 ·have hl' : row.length = t.columns.length := by omega
  rw [show ((row.length : Int) != (t.columns.length : Int)) = false from by simp [hl],zd]
  obtain ⟨fl,hfl,hr⟩ := eQ (step := fun (j1 : Nat) (x1 : LVal) (_ : Unit)=>bv (dO x1) fun x22=>cond (x22 != (0 : Int)) (some (Flow.ret (σ := Unit) x22))
    (af (cond (x1.kind == (0 : Int)) (af (aJ t.columns (j1 : Int)) fun (x33 : LCol)=>some (!x33.nullable)) (some false)) fun (t3 : Bool)=>cond t3 (some (.ret 8))
     (cond (x1.kind != (0 : Int)) (af (aJ t.columns (j1 : Int)) fun (x47 : LCol)=>cond (x1.kind != x47.kind) (some (.ret 7)) (some (.next ()))) (some (.next ())))))
   (fun j _=>∀ (k : Nat) (c : LCol) (x : LVal),k < j → t.columns[k]? = some c → row[k]? = some x → fZ x c.kind c.nullable) (fun r=>r ≠ 0) row 0 () (fun k c x h=>by omega) (fun k x st hk hI=>by
    simp only [Nat.zero_add] at hI ⊢
    have hkl := (zg.1 hk).1
    rw [bF,gw (xs := t.columns) (by omega)]
    by_cases hv : dO x = 0
    ·rw [show (dO x != (0 : Int)) = false from by simp [hv],zd]
     have hvv := validate_valid hv
     have next : fZ x t.columns[k].kind t.columns[k].nullable → ∀ (k' : Nat) (c : LCol) (x' : LVal),k' < k + 1 → t.columns[k']? = some c → row[k']? = some x' → fZ x' c.kind c.nullable := fun hf k' c x' h1 h2 h3=>by
      by_cases heq : k' = k
      ·subst heq
       rw [hk] at h3
       rw [ze (by omega)] at h2
       cases h2
       cases h3
       exact hf
      ·exact hI k' c x' (by omega) h2 h3
     by_cases hx : x.kind = 0
     ·rw [show (x.kind == (0 : Int)) = true from by simp [hx],zc,bPs,bPs]
      cases hn : t.columns[k].nullable with
      | false=>exact ⟨.ret 8,rfl,by simp⟩
      | true=>exact ⟨.next (),by simp [hx],next ⟨hvv,.inr hx,fun _=>hn⟩⟩
     ·rw [show (x.kind == (0 : Int)) = false from by simp [hx],zd,bPs,zd,show (x.kind != (0 : Int)) = true from by simp [hx],zc,bPs]
      by_cases hk' : x.kind = t.columns[k].kind
      ·exact ⟨.next (),by rw [iT hk']; rfl,next ⟨hvv,.inl hk',fun h=>absurd h hx⟩⟩
      ·exact ⟨.ret 7,by rw [lz hk']; rfl,by simp⟩
    ·exact ⟨.ret (dO x),by rw [show (dO x != (0 : Int)) = true from by simp [hv]]; rfl,hv⟩)
  rw [hfl,bPs]
  cases fl with
  | brk s=>exact absurd hr (by simp)
  | ret r=>exact ⟨r,rfl,fun h=>absurd h hr⟩
  | next s =>
   simp only [Nat.zero_add] at hr
   exact ⟨0,rfl,fun _=>⟨hl',fun i c x hc hx=>hr i c x (zg.1 hx).1 hc hx⟩⟩
 ·exact ⟨3,by rw [show ((row.length : Int) != (t.columns.length : Int)) = true from by simp [hl]]; rfl,fun h=>by omega⟩
theorem key_tot (t : LTable) (row : Rq) (hsm : t.primaryKey.length ≤ 10000000) : ∃ k,dI t row = some k ∧ k.length = t.primaryKey.length := by
 unfold dI
 obtain ⟨fl,hfl,hr⟩ := eQ (step := fun (_ : Nat) (x1 : Int) (s1 : Rq) =>
  bv (cond (decide (x1 ≥ (0 : Int))) ((decide (x1 < (row.length : Int)))) (false)) fun (t6 : Bool) =>
  af (cond t6 (af (aJ row x1) fun (x27 : LVal)=>some x27) (some (LVal.mk 0 0 []))) fun (t7 : LVal) =>
  af (dg 32 s1 ([t7] : Rq)) fun (x32 : Rq)=>some (Flow.next (ρ := Empty) x32)) (fun j s=>s.length = j) (fun _=>False) t.primaryKey 0 ([] : Rq) rfl (fun k x s hk hI=>by
   have hI : s.length = k := by simpa using hI
   have hkl := (zg.1 hk).1
   rw [bF]
   have ht : ∃ v,(cond (cond (decide (x ≥ (0 : Int))) ((decide (x < (row.length : Int)))) (false)) (af (aJ row x) fun (x27 : LVal)=>some x27) (some (LVal.mk 0 0 []))) = some v := by
    refine Tot.cond (fun h=>?_) fun _=>Tot.mk
    by_cases h0 : x ≥ 0
    ·rw [zt h0] at h
     exact Tot.bind (Tot.get h0 (of_decide_eq_true h)) fun _ _=>Tot.mk
    ·rw [zf h0] at h; cases h
   obtain ⟨v,hv⟩ := ht
   rw [hv,bPs,bS (by decide) (by simp; omega),bPs]
   exact ⟨_,rfl,by simp [hI]⟩)
 rw [hfl,bPs]
 cases fl with
 | brk s=>exact absurd hr (by simp)
 | ret r=>exact r.elim
 | next s=>exact ⟨s,rfl,by simpa using hr⟩
theorem ux (a b : Rq) (ha : a.length ≤ 10000000) : Tot (ep a b) := by
 unfold ep
 have hm : ∃ n : Nat,(if (b.length : Int) < (a.length : Int) then (b.length : Int) else (a.length : Int)) = (n : Int) ∧ n ≤ a.length ∧ n ≤ b.length := by
  split
  ·exact ⟨b.length,rfl,by omega,by omega⟩
  ·exact ⟨a.length,rfl,by omega,by omega⟩
 obtain ⟨n,hn,h1,h2⟩ := hm
 rw [hn,qh (by omega),bPs]
 refine Tot.bind (Tot.range _ _ _ fun k x s hk=>?_) fun fl _=>Tot.thenR fun _ _=>Tot.mk
 have hkl := (zg.1 hk).1
 simp at hkl
 rw [Nat.zero_add,gw (by omega),gw (by omega)]
 simp only [bPs,bF]
 exact Tot.cond (fun _=>Tot.mk) fun _=>Tot.mk
def KeyOrd (t : LTable) (rows : Rz) : Prop := ∀ (i : Nat) (p row : Rq),rows[i]? = some p → rows[i + 1]? = some row → ∃ k1 k2 z,dI t p = some k1 ∧ dI t row = some k2 ∧ ep k1 k2 = some z ∧ z < 0
structure InstOk (s : LSchema) (st : List LRelation) : Prop where
 len : st.length = s.tables.length
 ord : ∀ (i : Nat) (r : LRelation) (t : LTable),st[i]? = some r → s.tables[i]? = some t → KeyOrd t r.rows
 tab : ∀ (i : Nat) (r : LRelation) (t : LTable),st[i]? = some r → s.tables[i]? = some t → r.table = t.name ∧ r.rows.length ≤ 24 ∧ ∀ row ∈ r.rows,fw t.columns row
theorem conforms {s : LSchema} (hsm : nc s) (st : List LRelation) : ∃ e,eP s st = some e ∧ (e = 0 → InstOk s st) := by
 unfold eP
 by_cases hl : (st.length : Int) = (s.tables.length : Int)
 ·have hl' : st.length = s.tables.length := by omega
  rw [show ((st.length : Int) != (s.tables.length : Int)) = false from by simp [hl],zd]
  let good : LRelation → LTable → Prop := fun r t=>(r.table = t.name ∧ r.rows.length ≤ 24 ∧ ∀ row ∈ r.rows,fw t.columns row) ∧ KeyOrd t r.rows
  obtain ⟨fl,hfl,hr⟩ := eQ (step := fun (j1 : Nat) (x1 : LRelation) (_ : Unit) =>
   af (aJ s.tables (j1 : Int)) fun (x28 : LTable) =>
   cond (!(x1.table == x28.name)) (some (Flow.ret (σ := Unit) (3 : Int))) (cond (decide ((x1.rows.length : Int) > (24 : Int))) (some (.ret 2))
     (af (aH (σ := Unit) (ρ := (Int)) (fun (j3 : Nat) (x3 : Rq) (_ : Unit) =>
      af (eH x28 x3) fun x49=>cond (x49 != (0 : Int)) (some (.ret x49)) (cond ((j3 : Int) == (0 : Int)) (some (.next ()))
        (af (aJ x1.rows (IntKind.i64.wrap ((j3 : Int) - (1 : Int)))) fun (x60 : Rq)=>af (dI x28 x60) fun x62=>af (dI x28 x3) fun x65=>af (ep x62 x65) fun x66 =>
        cond (x66 == (0 : Int)) (some (.ret 9)) (cond (decide (x66 > (0 : Int))) (some (.ret 6)) (some (.next ())))))) 0 x1.rows ()) fun fl3=>fl3.thenF fun (_ : Unit)=>some (.next ()))))
   (fun j _=>∀ (k : Nat) (r : LRelation) (t : LTable),k < j → st[k]? = some r → s.tables[k]? = some t → good r t) (fun r=>r ≠ 0) st 0 () (fun k r t h=>by omega) (fun k r u hk hI=>by
    simp only [Nat.zero_add] at hI ⊢
    have hkl := (zg.1 hk).1
    have hkt : k < s.tables.length := by omega
    rw [gw hkt,bPs]
    by_cases hn : r.table = s.tables[k].name
    ·rw [show (!(r.table == s.tables[k].name)) = false from by simp [hn],zd]
     by_cases h24 : (r.rows.length : Int) > 24
     ·exact ⟨.ret 2,by rw [zt h24]; rfl,by simp⟩
     ·rw [zf h24,zd]
      have hsk := hsm s.tables[k] (List.getElem_mem _)
      obtain ⟨fl,hfl,hr⟩ := eQ (step := fun (j3 : Nat) (x3 : Rq) (_ : Unit) =>
       af (eH s.tables[k] x3) fun x49=>cond (x49 != (0 : Int)) (some (Flow.ret (σ := Unit) x49)) (cond ((j3 : Int) == (0 : Int)) (some (.next ()))
        (af (aJ r.rows (IntKind.i64.wrap ((j3 : Int) - (1 : Int)))) fun (x60 : Rq)=>af (dI s.tables[k] x60) fun x62=>af (dI s.tables[k] x3) fun x65=>af (ep x62 x65) fun x66 =>
        cond (x66 == (0 : Int)) (some (.ret 9)) (cond (decide (x66 > (0 : Int))) (some (.ret 6)) (some (.next ())))))) (fun j _=>(∀ i row,i < j → r.rows[i]? = some row → fw s.tables[k].columns row) ∧ ∀ (i : Nat) (p row : Rq),i + 1 < j → r.rows[i]? = some p → r.rows[i + 1]? = some row → ∃ k1 k2 z,dI s.tables[k] p = some k1 ∧ dI s.tables[k] row = some k2 ∧ ep k1 k2 = some z ∧ z < 0) (fun r=>r ≠ 0) r.rows 0 () ⟨fun i row h=>by omega,fun i p row h=>by omega⟩ (fun i row u hi hI2=>by
        simp only [Nat.zero_add] at hI2 ⊢
        have hil := (zg.1 hi).1
        obtain ⟨e,he,hok⟩ := conformsRow s.tables[k] row
        rw [he,bPs]
        by_cases h0 : e = 0
        ·rw [show (e != (0 : Int)) = false from by simp [h0],zd]
         have next : ∀ i' row',i' < i + 1 → r.rows[i']? = some row' → fw s.tables[k].columns row' := fun i' row' h1 h2=>by
          by_cases heq : i' = i
          ·subst heq; rw [hi] at h2; cases h2; exact hok h0
          ·exact hI2.1 i' row' (by omega) h2
         by_cases hi0 : i = 0
         ·exact ⟨.next (),by simp [hi0],next,fun i' p row' h1=>by omega⟩
         ·rw [show ((i : Int) == (0 : Int)) = false from by simp; omega,zd,bw (by omega) (by omega)]
          obtain ⟨p,hp⟩ := Tot.get (xs := r.rows) (i := (i : Int) - 1) (by omega) (by omega)
          obtain ⟨k1,hk1,hl1⟩ := key_tot s.tables[k] p hsk
          obtain ⟨k2,hk2,_⟩ := key_tot s.tables[k] row hsk
          obtain ⟨z,hz⟩ := ux k1 k2 (by omega)
          rw [hp,bPs,hk1,bPs,hk2,bPs,hz,bPs]
          by_cases z0 : z = 0
          ·exact ⟨.ret 9,by rw [ld z0]; rfl,by simp⟩
          ·by_cases z1 : z > 0
           ·exact ⟨.ret 6,by rw [cR z0,zt z1]; rfl,by simp⟩
           ·refine ⟨.next (),by rw [cR z0,zf z1]; rfl,next,fun i' p' row' h1 h2 h3=>?_⟩
            by_cases heq : i' + 1 = i
            ·subst heq
             rw [hi] at h3
             cases h3
             have hp' := (gIs hp).2
             rw [show (((i' + 1 : Nat) : Int) - 1).toNat = i' from by omega,h2] at hp'
             cases hp'
             exact ⟨k1,k2,z,hk1,hk2,hz,by omega⟩
            ·exact hI2.2 i' p' row' (by omega) h2 h3
        ·exact ⟨.ret e,by rw [show (e != (0 : Int)) = true from by simp [h0]]; rfl,h0⟩)
      rw [hfl,bPs]
      cases fl with
      | brk s=>exact absurd hr (by simp)
      | ret e=>exact ⟨.ret e,rfl,hr⟩
      | next s' =>
       simp only [Nat.zero_add] at hr
       refine ⟨.next (),rfl,fun k' r' t' h1 h2 h3=>?_⟩
       by_cases heq : k' = k
       ·subst heq
        rw [hk] at h2
        rw [ze hkt] at h3
        cases h2
        cases h3
        refine ⟨⟨hn,by omega,fun row hrow=>?_⟩,fun i p row h2 h3=>hr.2 i p row (zg.1 h3).1 h2 h3⟩
        obtain ⟨i,hi,rfl⟩ := List.mem_iff_getElem.1 hrow
        exact hr.1 i _ hi (ze hi)
       ·exact hI k' r' t' (by omega) h2 h3
    ·exact ⟨.ret 3,by rw [show (!(r.table == s.tables[k].name)) = true from by simp [hn]]; rfl,by simp⟩)
  rw [hfl,bPs]
  cases fl with
  | brk s=>exact absurd hr (by simp)
  | ret r=>exact ⟨r,rfl,fun h=>absurd h hr⟩
  | next u =>
   simp only [Nat.zero_add] at hr
   exact ⟨0,rfl,fun _=>⟨hl',fun i r t h1 h2=>(hr i r t (zg.1 h1).1 h1 h2).2,fun i r t h1 h2=>(hr i r t (zg.1 h1).1 h1 h2).1⟩⟩
 ·exact ⟨3,by rw [show ((st.length : Int) != (s.tables.length : Int)) = true from by simp [hl]]; rfl,fun h=>by omega⟩
theorem sV (l : List Int) (v : Int) : dL l v = some (l.any fun x=>v == x) := by
 unfold dL iC
 rw [idxF2 (p := fun x=>v == x),bPs,iU]
theorem shape1 (l : List Int) (q : LQuery) : dH l q = some (l.any fun x=>q.kind == x) := by
 unfold dH
 rw [sV,bPs]
def pJ (k : Int) : Nat := if k = 1 then 0 else if k = 4 ∨ k = 5 ∨ k = 6 ∨ k = 7 then 2 else 1
def kT (q : LQuery) : Bool :=
 decide (1 ≤ q.kind) && decide (q.kind ≤ 10) && decide (q.inputs.length = pJ q.kind) && (q.kind == 1 || q.table == []) && (q.kind == 3 || q.kind == 8 || decide (q.names.length = 0)) &&
 (q.kind == 8 || decide (q.aggregates.length = 0)) && (q.kind == 9 || decide (q.descending.length = 0)) && (q.kind == 10 || (q.count == 0 && q.offset == 0)) &&
 (if q.kind = 2 ∨ q.kind = 4 ∨ q.kind = 5 then decide (q.exprs.length = 1)
  else if q.kind = 3 ∨ q.kind = 8 then decide (q.exprs.length = q.names.length) && decide (0 < q.exprs.length + q.aggregates.length)
  else if q.kind = 9 then decide (q.exprs.length = q.descending.length) && decide (0 < q.exprs.length)
  else if q.kind = 10 then decide (q.exprs.length = 0) && decide (q.count ≥ 0) && decide (q.offset ≥ 0)
  else decide (q.exprs.length = 0))
theorem natE (a b : Nat) : ((a : Int) == (b : Int)) = decide (a = b) := by
 by_cases h : a = b
 ·simp [h]
 ·rw [zf h]; exact cR (by omega)
theorem mT (a b : Nat) : ((a : Int) != (b : Int)) = !decide (a = b) := by rw [bne,natE]
theorem natPos (a : Nat) : decide ((a : Int) > 0) = !decide (a = 0) := by
 by_cases h : a = 0
 ·simp [h]
 ·rw [zf h,zt (by omega)]; rfl
theorem condSome {α : Type} (b : Bool) (x y : α) : (cond b (some x) (some y)) = some (cond b x y) := by cases b <;> rfl
theorem shape_eq (q : LQuery) (hs : q.exprs.length ≤ 10000000 ∧ q.aggregates.length ≤ 10000000) : kV q = some (kT q) := by
 unfold kV
 simp only [shape1,bPs]
 by_cases k0 : q.kind < 1
 ·rw [zt k0]
  simp [kT,show ¬ (1 ≤ q.kind) from by omega]
 rw [zf k0]
 by_cases k10 : q.kind > 10
 ·rw [zt k10]
  simp [kT,show ¬ (q.kind ≤ 10) from by omega]
 rw [zf k10]
 have hw : IntKind.i64.wrap ((q.exprs.length : Int) + (q.aggregates.length : Int)) = ((q.exprs.length + q.aggregates.length : Nat) : Int) := by rw [bw (by omega) (by omega)]; simp
 rw [hw]
 have hk : q.kind = 1 ∨ q.kind = 2 ∨ q.kind = 3 ∨ q.kind = 4 ∨ q.kind = 5 ∨ q.kind = 6 ∨ q.kind = 7 ∨ q.kind = 8 ∨ q.kind = 9 ∨ q.kind = 10 := by omega
 unfold kT
 have e0 : ∀ n : Nat,((n : Int) == 0) = decide (n = 0) := fun n=>natE n 0
 have e1 : ∀ n : Nat,((n : Int) == 1) = decide (n = 1) := fun n=>natE n 1
 have n0 : ∀ n : Nat,((n : Int) != 0) = !decide (n = 0) := fun n=>mT n 0
 have n1 : ∀ n : Nat,((n : Int) != 1) = !decide (n = 1) := fun n=>mT n 1
 have n2 : ∀ n : Nat,((n : Int) != 2) = !decide (n = 2) := fun n=>mT n 2
 have c0 : (q.count != 0) = !(q.count == 0) := rfl
 have o0 : (q.offset != 0) = !(q.offset == 0) := rfl
 have p0 : decide (0 < q.exprs.length) = !decide (q.exprs.length = 0) := by rw [← natPos]; simp
 have p1 : decide (0 < q.exprs.length + q.aggregates.length) = !decide (q.exprs.length + q.aggregates.length = 0) := by rw [← natPos]; simp; omega
 simp only [natPos,natE,e0,e1,c0,o0,p0,p1]
 generalize (q.table == []) = b1
 generalize decide (q.names.length = 0) = b2
 generalize decide (q.aggregates.length = 0) = b3
 generalize decide (q.descending.length = 0) = b4
 generalize (q.count == 0) = b5
 generalize (q.offset == 0) = b6
 generalize decide (q.exprs.length = 1) = b7
 generalize decide (q.exprs.length = q.names.length) = b8
 generalize decide (q.exprs.length + q.aggregates.length = 0) = b9
 generalize decide (q.exprs.length = q.descending.length) = b10
 generalize decide (q.exprs.length = 0) = b11
 generalize decide (q.count ≥ 0) = b12
 generalize decide (q.offset ≥ 0) = b13
 generalize hL : q.inputs.length = L
 rcases hk with h | h | h | h | h | h | h | h | h | h <;> rw [h]
 all_goals simp only [pJ,aJ]
 all_goals simp [n0,n1,n2,condSome,Bool.and_assoc]
def e0Q (q : LQuery) : LExpr := q.exprs.headD (.mk 1 [] 0 .nul [])
def jE (a b : List LCol) (left : Bool) : List LCol := a ++ b.map fun x=>⟨x.name,x.kind,x.nullable || left⟩
def lb (kind : Int) (a b : List LCol) : List LCol × Int :=
 if a.length = b.length ∧ a.map LCol.kind = b.map LCol.kind then (List.zipWith (fun x y=>⟨x.name,x.kind,x.nullable || (kind == 6 && y.nullable)⟩) a b,0) else ([],7)
def ct (vars cols : List LCol) : List LExpr → List (List UInt8) → List LCol × Int
 | e :: es,n :: ns=>if dD n = false then ([],3) else if (cK cols vars e).2.2 ≠ 0 then ([],(cK cols vars e).2.2) else if (cK cols vars e).1 = 0 then ([],7)
  else if (ct vars cols es ns).2 ≠ 0 then ([],(ct vars cols es ns).2) else (⟨n,(cK cols vars e).1,(cK cols vars e).2.1⟩ :: (ct vars cols es ns).1,0)
 | _,_=>([],0)
abbrev iI : List UInt8 := [99,111,117,110,116]
abbrev sSum : List UInt8 := [115,117,109]
abbrev sMin : List UInt8 := [109,105,110]
abbrev sMax : List UInt8 := [109,97,120]
def ny (vars cols : List LCol) (a : LAggregateCall) : Int × Int :=
 if dD a.name = false ∨ ¬ a.function ∈ [iI,sSum,sMin,sMax] ∨ 1 < a.args.length ∨ (a.args.length < 1 ∧ a.function ≠ iI) then (0,3)
 else match a.args with
  | []=>(1,0)
  | e :: _=>if (cK cols vars e).2.2 ≠ 0 then (0,(cK cols vars e).2.2) else if (cK cols vars e).1 = 0 ∨ (a.function = sSum ∧ (cK cols vars e).1 ≠ 1) then (0,7)
   else if a.function = iI then (1,0) else ((cK cols vars e).1,0)
def dX (vars cols : List LCol) : List LAggregateCall → List LCol × Int
 | []=>([],0)
 | a :: l=>if (ny vars cols a).2 ≠ 0 then ([],(ny vars cols a).2) else if (dX vars cols l).2 ≠ 0 then ([],(dX vars cols l).2)
  else (⟨a.name,(ny vars cols a).1,!(a.function == iI)⟩ :: (dX vars cols l).1,0)
def lV (vars cols : List LCol) (q : LQuery) : List LCol × Int :=
 if (ct vars cols q.exprs q.names).2 ≠ 0 then ([],(ct vars cols q.exprs q.names).2)
 else if (dX vars cols q.aggregates).2 ≠ 0 then ([],(dX vars cols q.aggregates).2)
 else ((ct vars cols q.exprs q.names).1 ++ (dX vars cols q.aggregates).1,0)
def iK (vars cols : List LCol) : List LExpr → Int
 | []=>0
 | e :: l=>if (cK cols vars e).2.2 ≠ 0 then (cK cols vars e).2.2 else iK vars cols l
def iS (c : LChecker) (q : LQuery) (ins : List (List LCol)) : List LCol × Int :=
 if q.kind = 1 then (match c.s.tables.find? fun t=>t.name == q.table with | some t=>(t.columns,0) | none=>([],4))
 else if q.kind = 2 then (ins.getD 0 [],cL c (ins.getD 0 []) (e0Q q))
 else if q.kind = 4 ∨ q.kind = 5 then (jE (ins.getD 0 []) (ins.getD 1 []) (q.kind == 5),cL c (jE (ins.getD 0 []) (ins.getD 1 []) (q.kind == 5)) (e0Q q))
 else if q.kind = 6 ∨ q.kind = 7 then lb q.kind (ins.getD 0 []) (ins.getD 1 [])
 else if q.kind = 3 ∨ q.kind = 8 then lV c.vars (ins.getD 0 []) q
 else if q.kind = 9 then (if iK c.vars (ins.getD 0 []) q.exprs ≠ 0 then ([],iK c.vars (ins.getD 0 []) q.exprs) else (ins.getD 0 [],0))
 else (ins.getD 0 [],0)
theorem find_idx {α : Type} (p : α → Bool) (l : List α) : (l.find? p = none ∧ aX p l = -1) ∨ ∃ x,l.find? p = some x ∧ 0 ≤ aX p l ∧ l[(aX p l).toNat]? = some x := by
 induction l with
 | nil=>exact .inl ⟨rfl,rfl⟩
 | cons a l ih =>
  by_cases h : p a = true
  ·right
   exact ⟨a,by simp [h],by unfold aX; simp [List.findIdx?_cons,h],by unfold aX; simp [List.findIdx?_cons,h]⟩
  ·have h : p a = false := by simpa using h
   have hi : aX p (a :: l) = if aX p l < 0 then -1 else aX p l + 1 := by
    unfold aX
    simp only [List.findIdx?_cons,h,Bool.false_eq_true,if_false]
    cases l.findIdx? p with
    | none=>rfl
    | some i=>rw [zy (by simp only; omega)]; simp
   rw [List.find?_cons,h,hi]
   rcases ih with ⟨h1,h2⟩ | ⟨x,h1,h2,h3⟩
   ·left; exact ⟨h1,by rw [h2]; rfl⟩
   ·right
    refine ⟨x,h1,by split <;> omega,?_⟩
    rw [zy (by omega),show (aX p l + 1).toNat = (aX p l).toNat + 1 from by omega,List.getElem?_cons_succ,h3]
theorem set_ok (kind : Int) (a b : List LCol) : iQ kind a b = some (lb kind a b) := by
 unfold iQ lb
 by_cases hl : a.length = b.length
 ·rw [mT,zt hl]
  simp only [Bool.not_true,zd]
  let z : LCol → LCol → LCol := fun x y=>⟨x.name,x.kind,x.nullable || (kind == 6 && y.nullable)⟩
  obtain ⟨fl,hfl,hr⟩ := eQ (step := fun (j1 : Nat) (x1 : LCol) (s1 : List LCol) =>
   af (aJ b (j1 : Int)) fun (x29 : LCol)=>cond (x1.kind != x29.kind) (some (Flow.ret (([],7) : List LCol × Int)))
    (cond x1.nullable (af (aJ s1 (j1 : Int)) fun (x51 : LCol)=>bv (s1.set ((j1 : Int).toNat) (LCol.mk x51.name x51.kind true)) fun (y8 : List LCol)=>some (.next y8))
     (cond (kind == (6 : Int)) (af (aJ b (j1 : Int)) fun (x46 : LCol)=>af (aJ s1 (j1 : Int)) fun (x51 : LCol)=>bv (s1.set ((j1 : Int).toNat) (LCol.mk x51.name x51.kind x46.nullable)) fun (y9 : List LCol)=>some (.next y9))
      (af (aJ s1 (j1 : Int)) fun (x51 : LCol)=>bv (s1.set ((j1 : Int).toNat) (LCol.mk x51.name x51.kind false)) fun (y10 : List LCol)=>some (.next y10)))))
   (fun j s=>s = (List.zipWith z a b).take j ++ a.drop j ∧ (a.take j).map LCol.kind = (b.take j).map LCol.kind) (fun r=>r = ([],7) ∧ a.map LCol.kind ≠ b.map LCol.kind) a 0 a ⟨by simp,rfl⟩ (fun k x s hk hI=>by
    simp only [Nat.zero_add] at hI ⊢
    have hka := (zg.1 hk).1
    have hxe := (zg.1 hk).2
    have hkb : k < b.length := by omega
    rw [gw hkb,bPs,bPs]
    by_cases hkk : x.kind = b[k].kind
    ·have hzl : ((List.zipWith z a b).take k).length = k := by simp; omega
     have hs : s[k]? = some x := by
      rw [hI.1,List.getElem?_append_right (by omega),hzl,Nat.sub_self,List.getElem?_drop,Nat.add_zero,hk]
     have hkinds : (a.take (k + 1)).map LCol.kind = (b.take (k + 1)).map LCol.kind := by
      rw [List.take_add_one,List.take_add_one,hk,ze hkb,List.map_append,List.map_append,hI.2]
      congr 1
      show [x.kind] = [b[k].kind]
      rw [hkk]
     have hset : ∀ v : LCol,v = z x b[k] → s.set k v = (List.zipWith z a b).take (k + 1) ++ a.drop (k + 1) := by
      intro v hv
      rw [hI.1,List.set_append_right _ _ (by omega),hzl,Nat.sub_self]
      rw [List.drop_eq_getElem_cons hka,List.set_cons_zero,List.take_add_one,List.append_assoc]
      congr 1
      rw [List.getElem?_zipWith,hk,ze hkb]
      simp [hv]
     rw [iT hkk,zd,kO hs]
     simp only [bPs,bF,Int.toNat_natCast]
     cases hx : x.nullable with
     | true=>exact ⟨_,rfl,hset _ (by simp [z,hx]),hkinds⟩
     | false =>
      by_cases h6 : kind = 6
      ·exact ⟨.next _,by rw [ld h6]; rfl,hset _ (by simp [z,hx,h6]),hkinds⟩
      ·exact ⟨.next _,by rw [cR h6]; rfl,hset _ (by simp [z,hx,h6]),hkinds⟩
    ·refine ⟨.ret ([],7),by rw [lz hkk]; rfl,rfl,fun he=>hkk ?_⟩
     have := congrArg (fun l=>l[k]?) he
     simp only [List.getElem?_map,hk,ze hkb,Option.map_some,zo] at this
     exact this)
  rw [hfl,bPs]
  cases fl with
  | brk s=>exact absurd hr (by simp)
  | ret r=>rw [hr.1,zy (fun h=>hr.2 h.2)]; rfl
  | next s =>
   simp only [Nat.zero_add] at hr
   rw [gQ,hr.1,zp ⟨hl,by have := hr.2; rwa [List.take_length,hl,List.take_length] at this⟩]
   have : (List.zipWith z a b).take a.length = List.zipWith z a b := List.take_of_length_le (by simp; omega)
   rw [this,List.drop_length,List.append_nil]
 ·rw [mT,zf hl,zy (fun h=>hl h.1)]
  rfl
theorem oF {α : Type} {l : List α} {d : α} (h : 0 < l.length) : aJ l 0 = some (l.getD 0 d) := by
 cases l with
 | nil=>simp at h
 | cons a l=>rfl
theorem getD1 {α : Type} {l : List α} {d : α} (h : 1 < l.length) : aJ l 1 = some (l.getD 1 d) := by
 match l with
 | []=>simp at h
 | [_]=>simp at h
 | a :: b :: l=>rfl
theorem e0_get {q : LQuery} (h : 0 < q.exprs.length) : aJ q.exprs 0 = some (e0Q q) := by
 unfold e0Q
 cases hq : q.exprs with
 | nil=>rw [hq] at h; simp at h
 | cons a l=>rfl
theorem containsS (l : List (List UInt8)) (v : List UInt8) : ef l v = some (decide (v ∈ l)) := by
 unfold ef fX
 rw [idxF2 (p := fun x=>v == x),bPs,iU]
 congr 1
 by_cases h : v ∈ l
 ·rw [zt h,List.any_eq_true]; exact ⟨v,h,by simp⟩
 ·rw [zf h,List.any_eq_false]
  intro x hx he
  exact h (by simp at he; rwa [he])
theorem agg_eq (c : LChecker) (cols : List LCol) (a : LAggregateCall) : gH c cols a = some (ny c.vars cols a) := by
 unfold gH ny
 simp only [bF,containsS,bPs]
 by_cases h1 : dD a.name = false
 ·simp [h1]
 have h1' : dD a.name = true := by simpa using h1
 by_cases h2 : a.function ∈ [iI,sSum,sMin,sMax]
 ·rw [zt (show a.function ∈ ([[99,111,117,110,116],[115,117,109],[109,105,110],[109,97,120]] : List (List UInt8)) from h2)]
  cases ha : a.args with
  | nil =>
   by_cases h3 : a.function = iI
   ·simp [h1',h3]
   ·have h3' : (a.function == ([99,111,117,110,116] : List UInt8)) = false := by simpa using h3
    simp [h1',h3,h2,h3']
  | cons e l =>
   cases l with
   | cons e2 l =>
    have : (1 : Int) < (l.length : Int) + 1 + 1 := by omega
    simp [h1',h2,this]
   | nil =>
    simp only [h1',Bool.not_true,zd,List.length_singleton]
    have hno : ¬ (True = False ∨ ¬ a.function ∈ [iI,sSum,sMin,sMax] ∨ 1 < 1 ∨ (1 < 1 ∧ a.function ≠ iI)) := by simp [h2]
    simp only [aJ]
    by_cases h4 : (cK cols c.vars e).2.2 = 0
    ·by_cases h5 : (cK cols c.vars e).1 = 0
     ·simp [h2,h4,h5]
     ·by_cases h6 : a.function = sSum
      ·by_cases h7 : (cK cols c.vars e).1 = 1
       ·simp [h4,h6,h7]
       ·simp [h4,h5,h6,h7,lz h7]
      ·have h6' : (a.function == ([115,117,109] : List UInt8)) = false := by simpa using h6
       by_cases h8 : a.function = iI
       ·simp [h4,h5,h8,cR h5]
       ·have h8' : (a.function == ([99,111,117,110,116] : List UInt8)) = false := by simpa using h8
        simp [h2,h4,h5,h6,h8,h6',h8',cR h5]
    ·simp [h2,h4,lz h4]
 ·rw [zf (show ¬ a.function ∈ ([[99,111,117,110,116],[115,117,109],[109,105,110],[109,97,120]] : List (List UInt8)) from h2)]
  simp [h1',h2]
theorem namedE_run (vars cols : List LCol) (names : List (List UInt8)) : ∀ (es : List LExpr) (j : Nat) (s : List LCol),es.length + j = names.length → s.length + es.length ≤ 10000000 →
  ∀ k : List LCol → Option (List LCol × Int),af (aH (σ := List LCol) (ρ := ((List LCol) × Int)) (fun (j1 : Nat) (x1 : LExpr) (s1 : List LCol) =>
  bv (cK cols vars x1) fun x31 =>
  af (aJ names (j1 : Int)) fun (x39 : List UInt8) =>
  bv (dD x39) fun x41 =>
  cond (!x41)
   (some (.ret ([],3)))
   (cond (x31.2.2 != (0 : Int))
    (some (.ret ([],x31.2.2)))
    (cond (x31.1 == (0 : Int))
     (some (.ret ([],7)))
     (af (aJ names (j1 : Int)) fun (x54 : List UInt8) =>
     af (dg 32 s1 ([(LCol.mk x54 x31.1 x31.2.1)] : List LCol)) fun (x60 : List LCol) =>
     some (.next x60))))) j es s) (fun fl1=>fl1.thenR k) = if (ct vars cols es (names.drop j)).2 ≠ 0 then some ([],(ct vars cols es (names.drop j)).2) else k (s ++ (ct vars cols es (names.drop j)).1)
 | [],j,s,_,_,k=>by simp [aH,ct]
 | e :: es,j,s,hl,hb,k=>by
  have hj : j < names.length := by simp at hl; omega
  rw [aH,List.drop_eq_getElem_cons hj,ct,bF,gw hj,bPs,bF]
  cases h1 : dD names[j] with
  | false=>simp
  | true =>
   simp only [Bool.not_true,zd,Bool.true_eq_false,if_false]
   by_cases h2 : (cK cols vars e).2.2 = 0
   ·rw [iT h2,zd]
    simp only [h2,ne_eq,not_true_eq_false,if_false]
    by_cases h3 : (cK cols vars e).1 = 0
    ·rw [ld h3]; simp [h3]
    ·rw [cR h3,zd,bPs,bS (by decide) (by simp at hb ⊢; omega),bPs]
     simp only [h3,if_false]
     rw [namedE_run vars cols names es (j + 1) _ (by simp at hl; omega) (by simp at hb ⊢; omega) k]
     by_cases h4 : (ct vars cols es (names.drop (j + 1))).2 = 0
     ·simp [h4]
     ·simp [h4]
   ·rw [lz h2]
    simp [h2]
theorem namedA_run (c : LChecker) (cols : List LCol) : ∀ (l : List LAggregateCall) (j : Nat) (s : List LCol),s.length + l.length ≤ 10000000 →
  af (aH (σ := List LCol) (ρ := ((List LCol) × Int)) (fun (_ : Nat) (x2 : LAggregateCall) (s2 : List LCol) =>
  af (gH c cols x2) fun x73 =>
  cond (x73.2 != (0 : Int))
   (some (.ret ([],x73.2)))
   (af (dg 32 s2 ([(LCol.mk x2.name x73.1 (!(x2.function == ([99,111,117,110,116] : List UInt8))))] : List LCol)) fun (x88 : List LCol) =>
   some (.next x88))) j l s) (fun fl2=>fl2.thenR fun (s2 : List LCol)=>some (s2,0)) = some (if (dX c.vars cols l).2 ≠ 0 then ([],(dX c.vars cols l).2) else (s ++ (dX c.vars cols l).1,0))
 | [],j,s,_=>by simp [aH,dX]
 | a :: l,j,s,hb=>by
  rw [aH,dX,agg_eq,bPs]
  by_cases h1 : (ny c.vars cols a).2 = 0
  ·rw [iT h1,zd,bS (by decide) (by simp at hb ⊢; omega),bPs]
   simp only [h1,ne_eq,not_true_eq_false,if_false]
   rw [namedA_run c cols l (j + 1) _ (by simp at hb ⊢; omega)]
   by_cases h4 : (dX c.vars cols l).2 = 0
   ·simp [h4]
   ·simp [h4]
  ·rw [lz h1]
   simp [h1]
theorem named_eq (c : LChecker) (q : LQuery) (cols : List LCol) (hl : q.exprs.length = q.names.length) (hb : q.exprs.length ≤ 1000000 ∧ q.aggregates.length ≤ 1000000) : eY c q cols = some (lV c.vars cols q) := by
 unfold eY lV
 rw [namedE_run c.vars cols q.names q.exprs 0 [] (by omega) (by simp; omega),List.drop_zero]
 by_cases h : (ct c.vars cols q.exprs q.names).2 = 0
 ·have hlen : ∀ (es : List LExpr) (ns : List (List UInt8)),(ct c.vars cols es ns).1.length ≤ es.length := by
   intro es
   induction es with
   | nil=>intro ns; simp [ct]
   | cons e es ih =>
    intro ns
    cases ns with
    | nil=>simp [ct]
    | cons n ns =>
     simp only [ct]
     split
     ·simp
     ·split
      ·simp
      ·split
       ·simp
       ·split
        ·simp
        ·have := ih ns; simp; omega
  simp only [h,ne_eq,not_true_eq_false,if_false,List.nil_append]
  rw [namedA_run c cols q.aggregates 0 _ (by have := hlen q.exprs q.names; omega)]
 ·simp [h]
structure SmallQ (q : LQuery) : Prop where
 nodes : (cE q).length ≤ 10000000
 here : ∀ x ∈ cE q,x.exprs.length ≤ 1000000 ∧ x.aggregates.length ≤ 1000000
theorem mem_nodes {q x y : LQuery} (h : x ∈ q.inputs) (hy : y ∈ cE x) : y ∈ cE q := by
 rw [jZ]
 exact List.mem_cons_of_mem _ (List.mem_flatten.2 ⟨_,List.mem_map.2 ⟨x,h,rfl⟩,hy⟩)
theorem ph (q : LQuery) : q ∈ cE q := by rw [jZ]; exact List.mem_cons_self
theorem SmallQ.sub {q x : LQuery} (h : SmallQ q) (hx : x ∈ q.inputs) : SmallQ x :=
 ⟨by have := mV hx; have := h.nodes; omega,fun y hy=>h.here y (mem_nodes hx hy)⟩
theorem SmallQ.self {q : LQuery} (h : SmallQ q) : q.exprs.length ≤ 1000000 ∧ q.aggregates.length ≤ 1000000 := h.here q (ph q)
structure ShapeOk (q : LQuery) : Prop where
 kind : 1 ≤ q.kind ∧ q.kind ≤ 10
 arity : q.inputs.length = pJ q.kind
 one : q.kind = 2 ∨ q.kind = 4 ∨ q.kind = 5 → q.exprs.length = 1
 named : q.kind = 3 ∨ q.kind = 8 → q.exprs.length = q.names.length
 aggs : q.kind ≠ 8 → q.aggregates = []
 sorted : q.kind = 9 → q.exprs.length = q.descending.length
 limit : q.kind = 10 → 0 ≤ q.count ∧ 0 ≤ q.offset
theorem pt {q : LQuery} (h : kT q = true) : ShapeOk q := by
 unfold kT at h
 simp only [Bool.and_eq_true,decide_eq_true_eq] at h
 obtain ⟨⟨⟨⟨⟨⟨⟨⟨h1,h2⟩,h3⟩,h4⟩,h5⟩,h6⟩,h7⟩,h8⟩,h9⟩ := h
 refine ⟨⟨h1,h2⟩,h3,fun hk=>?_,fun hk=>?_,fun hk=>?_,fun hk=>?_,fun hk=>?_⟩
 ·rw [zp hk] at h9; simpa using h9
 ·rw [zy (by omega),zp hk] at h9; simp at h9; exact h9.1
 ·have : (q.kind == 8) = false := cR hk
  rw [this] at h6; simp at h6; exact h6
 ·rw [zy (by omega),zy (by omega),zp hk] at h9; simp at h9; exact h9.1
 ·rw [zy (by omega),zy (by omega),zy (by omega),zp hk] at h9; simp at h9; omega
theorem join_run (left : Bool) : ∀ (b : List LCol) (j : Nat) (a : List LCol),a.length + b.length ≤ 10000000 →
  aH (σ := List LCol) (ρ := Empty) (fun (_ : Nat) (x2 : LCol) (s2 : List LCol)=>cond x2.nullable
          (af (dg 32 s2 ([(LCol.mk x2.name x2.kind true)] : List LCol)) fun (x76 : List LCol)=>some (.next x76))
          (af (dg 32 s2 ([(LCol.mk x2.name x2.kind left)] : List LCol)) fun (x76 : List LCol)=>some (.next x76))) j b a = some (.next (jE a b left))
 | [],j,a,_=>by simp [aH,jE]
 | x :: b,j,a,h=>by
  have step : (cond x.nullable (af (dg 32 a ([(LCol.mk x.name x.kind true)] : List LCol)) fun (x76 : List LCol)=>some (Flow.next (ρ := Empty) x76))
    (af (dg 32 a ([(LCol.mk x.name x.kind left)] : List LCol)) fun (x76 : List LCol)=>some (.next x76))) = some (.next (a ++ [⟨x.name,x.kind,x.nullable || left⟩])) := by
   rw [bS (by decide) (by simp at h ⊢; omega),bS (by decide) (by simp at h ⊢; omega)]
   cases x.nullable <;> simp
  rw [aH,step]
  simp only
  rw [join_run left b (j + 1) _ (by simp at h ⊢; omega)]
  simp [jE]
theorem sort_run (vars cols : List LCol) (ins : List (List LCol)) (h0 : aJ ins 0 = some cols) : ∀ (es : List LExpr) (j : Nat) (k : Unit → Option (List LCol × Int)),
  af (aH (σ := Unit) (ρ := ((List LCol) × Int)) (fun (_ : Nat) (x5 : LExpr) (_ : Unit)=>af (aJ ins 0) fun (x122 : List LCol)=>bv (cK x122 vars x5) fun x127=>cond (x127.2.2 != (0 : Int)) (some (.ret ([],x127.2.2))) (some (.next ()))) j es ()) (fun fl5=>fl5.thenR k) =
   if iK vars cols es ≠ 0 then some ([],iK vars cols es) else k ()
 | [],j,k=>by simp [aH,iK]
 | e :: es,j,k=>by
  rw [aH,iK,h0,bPs,bF]
  by_cases h : (cK cols vars e).2.2 = 0
  ·rw [iT h,zd]
   simp only [h,ne_eq,not_true_eq_false,if_false]
   rw [← h0]
   exact sort_run vars cols ins h0 es (j + 1) k
  ·rw [lz h]; simp [h]
theorem out_eq {c : LChecker} {q : LQuery} {ins : List (List LCol)} (hs : ShapeOk q) (hsm : SmallQ q) (hl : ins.length = q.inputs.length) (hb : ∀ l ∈ ins,l.length ≤ 20) : iE c q ins = some (iS c q ins) := by
 obtain ⟨hk,ha,h1,hn,_,_,_⟩ := hs
 have hself := hsm.self
 have hi : ∀ i,i < ins.length → (ins.getD i []).length ≤ 20 := fun i hi=>by
  rw [List.getD_eq_getElem?_getD,ze hi]
  exact hb _ (List.getElem_mem hi)
 have e0 : q.exprs.length = 1 → aJ q.exprs 0 = some (e0Q q) := fun h=>e0_get (by omega)
 unfold iE iS
 have kk : q.kind = 1 ∨ q.kind = 2 ∨ q.kind = 3 ∨ q.kind = 4 ∨ q.kind = 5 ∨ q.kind = 6 ∨ q.kind = 7 ∨ q.kind = 8 ∨ q.kind = 9 ∨ q.kind = 10 := by omega
 rcases kk with h | h | h | h | h | h | h | h | h | h
 ·rw [h,idx_table]
  simp only [bPs]
  rcases find_idx (fun a0=>eZ a0 q) c.s.tables with ⟨f1,f2⟩ | ⟨t,f1,f2,f3⟩
  ·have f1' : c.s.tables.find? (fun t=>t.name == q.table) = none := f1
   rw [f2,f1']
   rfl
  ·have f1' : c.s.tables.find? (fun t=>t.name == q.table) = some t := f1
   rw [f1',zf (show ¬ aX (fun a0=>eZ a0 q) c.s.tables < 0 from by omega),mz f2 f3]
   rfl
 all_goals rw [h] at ha
 all_goals simp only [pJ] at ha
 ·have g0 : aJ ins 0 = some (ins.getD 0 []) := oF (by simp at ha; omega)
  rw [h,g0,e0 (h1 (.inl h))]
  simp [bF]
 ·have g0 : aJ ins 0 = some (ins.getD 0 []) := oF (by simp at ha; omega)
  rw [h,g0]
  simp only [bPs]
  rw [named_eq c q _ (hn (.inl h)) hself]
  simp [bF]
 ·have g0 : aJ ins 0 = some (ins.getD 0 []) := oF (by simp at ha; omega)
  have g1 : aJ ins 1 = some (ins.getD 1 []) := getD1 (by simp at ha; omega)
  rw [h,g0,g1,e0 (h1 (.inr (.inl h)))]
  simp only [bPs]
  rw [join_run ((4 : Int) == 5) _ 0 _ (by have := hi 0 (by simp at ha; omega); have := hi 1 (by simp at ha; omega); omega)]
  simp [bF]
 ·have g0 : aJ ins 0 = some (ins.getD 0 []) := oF (by simp at ha; omega)
  have g1 : aJ ins 1 = some (ins.getD 1 []) := getD1 (by simp at ha; omega)
  rw [h,g0,g1,e0 (h1 (.inr (.inr h)))]
  simp only [bPs]
  rw [join_run ((5 : Int) == 5) _ 0 _ (by have := hi 0 (by simp at ha; omega); have := hi 1 (by simp at ha; omega); omega)]
  simp [bF]
 ·have g0 : aJ ins 0 = some (ins.getD 0 []) := oF (by simp at ha; omega)
  have g1 : aJ ins 1 = some (ins.getD 1 []) := getD1 (by simp at ha; omega)
  rw [h,g0,g1]
  simp only [bPs,set_ok]
  simp [bF]
 ·have g0 : aJ ins 0 = some (ins.getD 0 []) := oF (by simp at ha; omega)
  have g1 : aJ ins 1 = some (ins.getD 1 []) := getD1 (by simp at ha; omega)
  rw [h,g0,g1]
  simp only [bPs,set_ok]
  simp [bF]
 ·have g0 : aJ ins 0 = some (ins.getD 0 []) := oF (by simp at ha; omega)
  rw [h,g0]
  simp only [bPs]
  rw [named_eq c q _ (hn (.inr h)) hself]
  simp [bF]
 ·have g0 : aJ ins 0 = some (ins.getD 0 []) := oF (by simp at ha; omega)
  rw [h,sort_run c.vars _ ins g0,g0]
  simp only [bF,bPs]
  by_cases hse : iK c.vars (ins.getD 0 []) q.exprs = 0
  ·simp only [hse,ne_eq,not_true_eq_false,if_false]; rfl
  ·simp only [hse,ne_eq,not_false_eq_true,if_true]; rfl
 ·have g0 : aJ ins 0 = some (ins.getD 0 []) := oF (by simp at ha; omega)
  rw [h,g0]
  simp [bF]
def ee : List (List LCol × Int) → List (List LCol) × Int
 | []=>([],0)
 | r :: l=>if r.2 ≠ 0 then ([],r.2) else if (ee l).2 ≠ 0 then ([],(ee l).2) else (r.1 :: (ee l).1,0)
def pX (c : LChecker) (q : LQuery) (ins : List (List LCol × Int)) : List LCol × Int :=
 if kT q = false then ([],3) else if (ee ins).2 ≠ 0 then ([],(ee ins).2)
 else if (iS c q (ee ins).1).2 ≠ 0 then ([],(iS c q (ee ins).1).2)
 else if 20 < (iS c q (ee ins).1).1.length then ([],2)
 else if ((iS c q (ee ins).1).1.map LCol.name).Nodup then ((iS c q (ee ins).1).1,0) else ([],23)
def dQ (c : LChecker) (q : LQuery) : List LCol × Int := pX c q (q.inputs.attach.map fun x=>dQ c x.1)
termination_by SizeOf.sizeOf q
decreasing_by exact LQuery.inputs_lt x.2
theorem colsQ_eq (c : LChecker) (q : LQuery) : dQ c q = pX c q (q.inputs.map (dQ c)) := by
 rw [dQ,List.attach_map_val (f := dQ c)]
theorem tZ (f : LQuery → Option (List LCol × Int)) (g : LQuery → List LCol × Int) : ∀ (l : List LQuery) (j : Nat) (s : List (List LCol)),(∀ x ∈ l,f x = some (g x)) → s.length + l.length ≤ 10000000 → ∀ k : List (List LCol) → Option (List LCol × Int),
  af (aH (σ := List (List LCol)) (ρ := ((List LCol) × Int)) (fun (_ : Nat) (x1 : LQuery) (s1 : List (List LCol))=>af (f x1) fun x28=>cond (x28.2 != (0 : Int)) (some (.ret ([],x28.2)))
    (af (dg 24 s1 ([x28.1] : List (List LCol))) fun (x37 : List (List LCol))=>some (.next x37))) j l s) (fun fl1=>fl1.thenR k) =
   if (ee (l.map g)).2 ≠ 0 then some ([],(ee (l.map g)).2) else k (s ++ (ee (l.map g)).1)
 | [],j,s,_,_,k=>by simp [aH,ee]
 | x :: l,j,s,h,hb,k=>by
  rw [aH,h x (by simp),bPs,List.map_cons,ee]
  by_cases h1 : (g x).2 = 0
  ·rw [iT h1,zd,bS (by decide) (by simp at hb ⊢; omega),bPs]
   simp only [h1,ne_eq,not_true_eq_false,if_false]
   rw [tZ f g l (j + 1) _ (fun y hy=>h y (by simp [hy])) (by simp at hb ⊢; omega) k]
   by_cases h2 : (ee (l.map g)).2 = 0
   ·simp [h2]
   ·simp [h2]
  ·rw [lz h1]; simp [h1]
theorem rk : ∀ {l : List (List LCol × Int)},(ee l).2 = 0 → (∀ r ∈ l,r.2 = 0) ∧ (ee l).1 = l.map (·.1)
 | [],_=>⟨by simp,rfl⟩
 | r :: l,h=>by
  simp only [ee] at h ⊢
  by_cases h1 : r.2 = 0
  ·by_cases h2 : (ee l).2 = 0
   ·obtain ⟨a,b⟩ := rk h2
    refine ⟨fun x hx=>?_,by simp [h1,h2,b]⟩
    rcases List.mem_cons.1 hx with rfl | hx
    ·exact h1
    ·exact a x hx
   ·simp [h1,h2] at h
  ·simp [h1] at h
theorem dup_run (out : List LCol) : af (aH (σ := Unit) (ρ := ((List LCol) × Int)) (fun (j2 : Nat) (x2 : LCol) (_ : Unit) =>
     af (nu out 0 (j2 : Int)) fun (x61 : List LCol) =>
     af (cd x61 (fun a0=>some (cq a0 x2))) fun x63 =>
     cond x63 (some (.ret ([],23))) (some (.next ()))) 0 out ()) (fun fl2=>fl2.thenR fun (_ : Unit)=>some (out,0)) = some (if (out.map LCol.name).Nodup then (out,0) else ([],23)) := by
 obtain ⟨fl,hfl,hr⟩ := eQ (step := fun (j2 : Nat) (x2 : LCol) (_ : Unit) =>
     af (nu out 0 (j2 : Int)) fun (x61 : List LCol) =>
     af (cd x61 (fun a0=>some (cq a0 x2))) fun x63 =>
     cond x63 (some (Flow.ret (([],23) : List LCol × Int))) (some (.next ())))
  (fun j _=>((out.take j).map LCol.name).Nodup) (fun r=>r = ([],23) ∧ ¬ (out.map LCol.name).Nodup) out 0 () (by simp) (fun k x s hk hI=>by
   simp only [Nat.zero_add] at hI ⊢
   have hkl := (zg.1 hk).1
   rw [pn ⟨by omega,by omega,by omega⟩,bPs]
   unfold cd
   rw [idx_column,bPs,bPs,iU]
   simp only [Int.toNat_natCast,Int.toNat_zero,List.drop_zero]
   cases ha : (out.take k).any fun a0=>cq a0 x with
   | true =>
    refine ⟨_,rfl,rfl,fun hnd=>?_⟩
    obtain ⟨y,hy,he⟩ := List.any_eq_true.1 ha
    have he : y.name = x.name := by simpa [cq] using he
    obtain ⟨i,hi,hyi⟩ := List.mem_take_iff_getElem.1 hy
    have hii : i < k := by omega
    rw [List.nodup_iff_pairwise_ne,List.pairwise_iff_getElem] at hnd
    refine hnd i k (by simp; omega) (by simpa using hkl) hii ?_
    simp only [List.getElem_map]
    rw [(zg.1 hk).2,hyi,he]
   | false =>
    refine ⟨_,rfl,?_⟩
    simp only
    rw [List.take_add_one,hk,List.map_append,List.nodup_append]
    refine ⟨hI,by simp,fun a ha' b hb hab=>?_⟩
    simp at hb
    subst hb
    subst hab
    obtain ⟨y,hy,he⟩ := List.mem_map.1 ha'
    have := List.any_eq_false.1 ha y hy
    exact this (by simpa [cq] using he))
 rw [hfl,bPs]
 cases fl with
 | brk s=>exact absurd hr (by simp)
 | ret r=>rw [mK,hr.1,zy hr.2]
 | next s =>
  simp only [Nat.zero_add,List.take_length] at hr
  rw [gQ,zp hr]
theorem jV (c : LChecker) (q : LQuery) : (dQ c q).1.length ≤ 20 := by
 rw [colsQ_eq]
 unfold pX
 repeat' split
 all_goals first | (simp; done) | (simp only; omega)
theorem cols_ok (c : LChecker) : ∀ q : LQuery,SmallQ q → ft c q = some (dQ c q) := by
 refine LQuery.ind fun q ih hsm=>?_
 refine pi (γ := LChecker) (F := fun n c q=>fu n c q) (O := fun r c q=>fv r c q) (fun n=>rfl) c q ?_ (fun x hx=>⟨_,ih x hx (hsm.sub hx)⟩) ?_
 ·intro r r' h
  simp only [fv]
  congr 1
  funext b
  congr 2
  exact ig q.inputs 0 _ fun k x s hk=>by rw [h x (eB hk)]
 ·have e : ∀ c x,(ir fun n=>fu n c x) = ft c x := fun _ _=>rfl
  simp only [fv,e]
  have hself := hsm.self
  rw [shape_eq q ⟨by omega,by omega⟩,bPs,colsQ_eq]
  unfold pX
  cases hs : kT q with
  | false=>rfl
  | true =>
   have hok := pt hs
   have hin : q.inputs.length ≤ 2 := by rw [hok.arity]; unfold pJ; split <;> (try split) <;> omega
   simp only [Bool.not_true,zd,Bool.true_eq_false,if_false]
   rw [tZ (ft c) (dQ c) q.inputs 0 [] (fun x hx=>ih x hx (hsm.sub hx)) (by simp; omega),List.nil_append]
   by_cases h1 : (ee (q.inputs.map (dQ c))).2 = 0
   ·obtain ⟨a,b⟩ := rk h1
    simp only [h1,ne_eq,not_true_eq_false,if_false]
    rw [out_eq hok hsm (by rw [b]; simp) (fun l hl=>by
     rw [b] at hl
     obtain ⟨r,hr,rfl⟩ := List.mem_map.1 hl
     obtain ⟨x,_,rfl⟩ := List.mem_map.1 hr
     exact jV c x),bPs]
    generalize iS c q (ee (q.inputs.map (dQ c))).1 = o
    by_cases h2 : o.2 = 0
    ·rw [iT h2,zd]
     simp only [h2,not_true_eq_false,if_false]
     by_cases h3 : 20 < o.1.length
     ·rw [zt (show (o.1.length : Int) > 20 from by omega),zp h3]; rfl
     ·rw [zf (show ¬ (o.1.length : Int) > 20 from by omega),zy h3,zd]
      exact dup_run o.1
    ·rw [lz h2]; simp [h2]
   ·simp [h1]
theorem whileM_by {σ ρ : Type} {step : σ → Option (Flow σ ρ)} (I : σ → Prop) (μ : σ → Nat) (Q : σ → Prop) (R : ρ → Prop) (hs : ∀ s,I s → ∃ fl,step s = some fl ∧ (match fl with | .next s'=>I s' ∧ μ s' < μ s | .brk s'=>Q s' | .ret r=>R r)) :
  ∀ s,I s → ∃ fl,fU step s = some fl ∧ (match fl with | .next s'=>Q s' | .brk _=>False | .ret r=>R r) := by
 intro s
 generalize hn : μ s = n
 induction n using Nat.strongRecOn generalizing s with
 | _ n ih =>
  intro hI
  obtain ⟨fl,h1,h2⟩ := hs s hI
  cases fl with
  | next s' =>
   obtain ⟨fl,h3,h4⟩ := ih (μ s') (hn ▸ h2.2) s' rfl h2.1
   exact ⟨fl,lZ h1 h3,h4⟩
  | brk s'=>exact ⟨.next s',lZ h1 rfl,h2⟩
  | ret r=>exact ⟨.ret r,lZ h1 rfl,h2⟩
theorem gE {σ β : Type} {step : σ → Option (Flow σ Empty)} {k : σ → Option β} {R : β → Prop} {s : σ} (I : σ → Prop) (μ : σ → Nat) (Q : σ → Prop) (h0 : I s)
  (hs : ∀ s,I s → ∃ fl,step s = some fl ∧ (match fl with | .next s'=>I s' ∧ μ s' < μ s | .brk s'=>Q s' | .ret _=>False)) (hk : ∀ s',Q s' → ∃ r,k s' = some r ∧ R r) :
  ∃ r,af (fU step s) (fun fl=>fl.thenP k) = some r ∧ R r := by
 obtain ⟨fl,h1,h2⟩ := whileM_by (step := step) I μ Q (fun _=>False) (fun s hI=>by
  obtain ⟨fl,h1,h2⟩ := hs s hI
  refine ⟨fl,h1,?_⟩
  cases fl with
  | next s'=>exact h2
  | brk s'=>exact h2
  | ret r=>exact r.elim) s h0
 cases fl with
 | next s'=>rw [h1]; exact hk s' h2
 | brk s'=>exact absurd h2 (by simp)
 | ret r=>exact r.elim
theorem mid_eq {n : Int} (h0 : 0 ≤ n) (h1 : n ≤ 4611686018427387904) : IntKind.i64.wrap (Int.fdiv (IntKind.u64.wrap (IntKind.i64.wrap n)) (2 ^ 1)) = n / 2 := by
 have h3 : IntKind.i64.wrap n = n := bw (by omega) (by omega)
 have h2 : IntKind.u64.wrap n = n := by
  simp only [IntKind.wrap,IntKind.bits,IntKind.signed]
  simp
  omega
 rw [h3,h2,show (2 : Int) ^ 1 = 2 from rfl,Int.fdiv_eq_ediv_of_nonneg _ (by decide)]
 exact bw (by omega) (by omega)
section
variable {α : Type}
theorem swap_perm {l : List α} {i j : Nat} {x y : α} (hi : l[i]? = some x) (hj : l[j]? = some y) : ((l.set i y).set j x).Perm l := by
 have hil := (zg.1 hi).1
 have hjl := (zg.1 hj).1
 have hx := (zg.1 hi).2
 have hy := (zg.1 hj).2
 rw [← hx,← hy]
 exact List.set_set_perm hil hjl
end
section
abbrev Rows := Rz
abbrev Cmp := Rq → Rq → Option Int
structure SrtOk (cmp : Cmp) (d0 d : Rows) : Prop where
 perm : d.Perm d0
 small : d0.length ≤ 1000000
 tot : ∀ x ∈ d0,∀ y ∈ d0,Tot (cmp x y)
variable {cmp : Cmp} {d0 : Rows}
theorem SrtOk.len {d : Rows} (h : SrtOk cmp d0 d) : d.length = d0.length := h.perm.length_eq
theorem SrtOk.cm {d : Rows} (h : SrtOk cmp d0 d) {x y : Rq} (hx : x ∈ d) (hy : y ∈ d) : Tot (cmp x y) := h.tot x (h.perm.mem_iff.1 hx) y (h.perm.mem_iff.1 hy)
theorem SrtOk.swap {d : Rows} (h : SrtOk cmp d0 d) {i j : Nat} {x y : Rq} (hi : d[i]? = some x) (hj : d[j]? = some y) : SrtOk cmp d0 ((d.set i y).set j x) := ⟨(swap_perm hi hj).trans h.perm,h.small,h.tot⟩
theorem SrtOk.get {d : Rows} (h : SrtOk cmp d0 d) {i : Int} (h0 : 0 ≤ i) (h1 : i < d0.length) : ∃ x,aJ d i = some x ∧ d[i.toNat]? = some x ∧ x ∈ d := by
 have hl := h.len
 have : i.toNat < d.length := by omega
 exact ⟨d[i.toNat],mz h0 (ze this),ze this,List.getElem_mem _⟩
theorem getI_set {α : Type} {l : List α} {i j : Int} {x y : α} (h0 : 0 ≤ j) (hj : l[j.toNat]? = some y) : ∃ z,aJ (l.set i.toNat x) j = some z := by
 have hl := (zg.1 hj).1
 exact ⟨_,mz h0 (ze (by simpa using hl))⟩
theorem tc {β : Type} {d : Rows} (h : SrtOk cmp d0 d) {i j : Int} (hi0 : 0 ≤ i) (hi1 : i < d0.length) (hj0 : 0 ≤ j) (hj1 : j < d0.length) : ∃ d',SrtOk cmp d0 d' ∧ ∀ k : Rows → Option β,
  (af (aJ d j) fun (x28 : Rq)=>af (aJ d i) fun (x34 : Rq)=>af (aJ d i) fun (_ : Rq)=>bv (d.set i.toNat x28) fun (y6 : Rows)=>af (aJ y6 j) fun (_ : Rq)=>bv (y6.set j.toNat x34) fun (y7 : Rows)=>k y7) = k d' := by
 obtain ⟨y,hy,hy',_⟩ := h.get hj0 hj1
 obtain ⟨x,hx,hx',_⟩ := h.get hi0 hi1
 obtain ⟨z,hz⟩ := getI_set (i := i) (x := y) hj0 hy'
 refine ⟨_,h.swap hx' hy',fun k=>?_⟩
 rw [hy,hx]
 simp only [bPs,bF]
 rw [hz,bPs]
theorem sQ {d : Rows} (h : SrtOk cmp d0 d) {a b : Int} (ha : 0 ≤ a ∧ a ≤ d0.length) (hb : b ≤ d0.length) : ∃ d',cC d a b cmp = some d' ∧ SrtOk cmp d0 d' := by
 have hs := h.small
 unfold cC
 rw [bw (by omega) (by omega)]
 refine gE (fun s=>SrtOk cmp d0 s.1 ∧ a < s.2) (fun s=>(b - s.2).toNat) (fun s=>SrtOk cmp d0 s.1) ⟨h,by show a < a + 1; omega⟩ (fun s hI=>?_) (fun s hq=>⟨_,rfl,hq⟩)
 obtain ⟨h1,h2⟩ := hI
 by_cases hlt : s.2 < b
 ·rw [zt hlt,zc]
  refine gE (fun t=>SrtOk cmp d0 t.1 ∧ a ≤ t.2 ∧ t.2 < b) (fun t=>(t.2 - a).toNat) (fun t=>SrtOk cmp d0 t.1) ⟨h1,by show a ≤ s.2; omega,hlt⟩ (fun t hI=>?_) (fun t hq=>⟨_,rfl,?_⟩)
  ·obtain ⟨g1,g2,g3⟩ := hI
   by_cases hgt : t.2 > a
   ·rw [zt hgt,zc,bw (by omega) (by omega)]
    obtain ⟨x,hx,hx',hxm⟩ := g1.get (i := t.2) (by omega) (by omega)
    obtain ⟨y,hy,hy',hym⟩ := g1.get (i := t.2 - 1) (by omega) (by omega)
    obtain ⟨c,hc⟩ := g1.cm hxm hym
    obtain ⟨d',hd',hsw⟩ := tc (β := Flow (Rows × Int) Empty) g1 (i := t.2) (j := t.2 - 1) (by omega) (by omega) (by omega) (by omega)
    rw [hx,bPs,hy,bPs,hc,bPs,bPs]
    by_cases hneg : c < 0
    ·rw [zt hneg]
     have := hsw (fun y31=>some (.next (y31,t.2 - 1)))
     rw [hx,hy] at this
     refine ⟨.next (d',t.2 - 1),?_,⟨hd',by show a ≤ t.2 - 1; omega,by show t.2 - 1 < b; omega⟩,by show (t.2 - 1 - a).toNat < (t.2 - a).toNat; omega⟩
     rw [zc]
     simp only
     rw [hy,hx]
     exact this
    ·rw [zf hneg]
     exact ⟨_,rfl,g1⟩
   ·rw [zf hgt]
    exact ⟨_,rfl,g1⟩
  ·show (SrtOk cmp d0 t.1 ∧ a < IntKind.i64.wrap (s.2 + 1)) ∧ (b - IntKind.i64.wrap (s.2 + 1)).toNat < (b - s.2).toNat
   rw [bw (by omega) (by omega)]
   exact ⟨⟨hq,by omega⟩,by omega⟩
 ·rw [zf hlt]
  exact ⟨_,rfl,h1⟩
theorem pT {d : Rows} (h : SrtOk cmp d0 d) {a b n : Int} (ha : 0 ≤ a) (hb : 0 ≤ b) (hn : n ≤ d0.length) (ha' : a + n ≤ d0.length) (hb' : b + n ≤ d0.length) : ∃ d',cx d a b n cmp = some d' ∧ SrtOk cmp d0 d' := by
 have hs := h.small
 unfold cx
 refine gE (fun s=>SrtOk cmp d0 s.1 ∧ 0 ≤ s.2) (fun s=>(n - s.2).toNat) (fun s=>SrtOk cmp d0 s.1) ⟨h,by show (0 : Int) ≤ 0; omega⟩ (fun s hI=>?_) (fun s hq=>⟨_,rfl,hq⟩)
 obtain ⟨h1,h2⟩ := hI
 by_cases hlt : s.2 < n
 ·rw [zt hlt,zc,bw (n := b + s.2) (by omega) (by omega),bw (n := a + s.2) (by omega) (by omega),bw (n := s.2 + 1) (by omega) (by omega)]
  obtain ⟨d',hd',hsw⟩ := tc (β := Flow (Rows × Int) Empty) h1 (i := a + s.2) (j := b + s.2) (by omega) (by omega) (by omega) (by omega)
  exact ⟨_,hsw _,⟨hd',by show 0 ≤ s.2 + 1; omega⟩,by show (n - (s.2 + 1)).toNat < (n - s.2).toNat; omega⟩
 ·rw [zf hlt]
  exact ⟨_,rfl,h1⟩
theorem rotate_ok {d : Rows} (h : SrtOk cmp d0 d) {a m b : Int} (ha : 0 ≤ a) (hm : a < m) (hb : m < b) (hb' : b ≤ d0.length) : ∃ d',dE d a m b cmp = some d' ∧ SrtOk cmp d0 d' := by
 have hs := h.small
 unfold dE
 rw [bw (n := m - a) (by omega) (by omega),bw (n := b - m) (by omega) (by omega)]
 refine gE (fun s=>SrtOk cmp d0 s.1 ∧ 0 < s.2.1 ∧ 0 < s.2.2 ∧ s.2.1 ≤ m - a ∧ s.2.2 ≤ b - m) (fun s=>(s.2.1 + s.2.2).toNat) (fun s=>SrtOk cmp d0 s.1 ∧ 0 < s.2.1 ∧ s.2.1 ≤ m - a ∧ s.2.1 ≤ b - m) ⟨h,by show 0 < m - a; omega,by show 0 < b - m; omega,Int.le_refl _,Int.le_refl _⟩ (fun s hI=>?_) (fun s hq=>?_)
 ·obtain ⟨h1,h2,h3,h4,h5⟩ := hI
  by_cases hne : s.2.1 = s.2.2
  ·rw [iT hne]
   exact ⟨_,rfl,h1,h2,h4,by show s.2.1 ≤ b - m; omega⟩
  ·rw [lz hne,zc,bw (n := m - s.2.1) (by omega) (by omega)]
   by_cases hgt : s.2.1 > s.2.2
   ·rw [zt hgt,zc]
    obtain ⟨d',e,hd'⟩ := pT h1 (a := m - s.2.1) (b := m) (n := s.2.2) (by omega) (by omega) (by omega) (by omega) (by omega)
    rw [e,bPs,eo (by rw [hd'.len,h1.len]),bPs,bw (by omega) (by omega)]
    exact ⟨_,rfl,⟨hd',by show 0 < s.2.1 - s.2.2; omega,h3,by show s.2.1 - s.2.2 ≤ m - a; omega,h5⟩,by show (s.2.1 - s.2.2 + s.2.2).toNat < (s.2.1 + s.2.2).toNat; omega⟩
   ·rw [zf hgt,zd,bw (n := m + s.2.2) (by omega) (by omega),bw (n := m + s.2.2 - s.2.1) (by omega) (by omega)]
    obtain ⟨d',e,hd'⟩ := pT h1 (a := m - s.2.1) (b := m + s.2.2 - s.2.1) (n := s.2.1) (by omega) (by omega) (by omega) (by omega) (by omega)
    rw [e,bPs,eo (by rw [hd'.len,h1.len]),bPs,bw (by omega) (by omega)]
    exact ⟨_,rfl,⟨hd',h2,by show 0 < s.2.2 - s.2.1; omega,h4,by show s.2.2 - s.2.1 ≤ b - m; omega⟩,by show (s.2.1 + (s.2.2 - s.2.1)).toNat < (s.2.1 + s.2.2).toNat; omega⟩
 ·obtain ⟨h1,h2,h3,h4⟩ := hq
  rw [bw (n := m - s.2.1) (by omega) (by omega)]
  obtain ⟨d',e,hd'⟩ := pT h1 (a := m - s.2.1) (b := m) (n := s.2.1) (by omega) (by omega) (by omega) (by omega) (by omega)
  rw [e,bPs,eo (by rw [hd'.len,h1.len]),bPs]
  exact ⟨_,rfl,hd'⟩
def LeO {β : Type} (o o' : Option β) : Prop := ∀ r,o = some r → o' = some r
theorem LeO.refl {β : Type} (o : Option β) : LeO o o := fun _ h=>h
theorem LeO.bind {β γ : Type} {o o' : Option β} {k k' : β → Option γ} (h : LeO o o') (hk : ∀ v,LeO (k v) (k' v)) : LeO (af o k) (af o' k') := by
 intro r hr
 cases o with
 | none=>cases hr
 | some v=>rw [h v rfl]; exact hk v r hr
theorem LeO.cond {β : Type} {b : Bool} {x x' y y' : Option β} (hx : LeO x x') (hy : LeO y y') : LeO (cond b x y) (cond b x' y') := by
 cases b
 ·exact hy
 ·exact hx
theorem LeO.thenP {σ β : Type} {fl : Flow σ Empty} {k k' : σ → Option β} (hk : ∀ s,LeO (k s) (k' s)) : LeO (fl.thenP k) (fl.thenP k') := by
 cases fl with
 | next s=>exact hk s
 | brk s=>exact hk s
 | ret r=>exact r.elim
theorem symMerge_mono {r r' : Rows → Int → Int → Int → Option Rows} (h : ∀ d a m b,LeO (r d a m b) (r' d a m b)) (d : Rows) (a m b : Int) : LeO (cF r d a m b cmp) (cF r' d a m b cmp) := by
 unfold cF
 simp only [bF]
 refine LeO.cond (LeO.refl _) (LeO.cond (LeO.refl _) (LeO.bind (LeO.refl _) fun fl=>LeO.thenP fun s=>LeO.bind (LeO.refl _) fun t=>LeO.bind (LeO.cond (LeO.bind (h _ _ _ _) fun _=>LeO.refl _) (LeO.refl _)) fun u=>LeO.cond (LeO.cond (LeO.bind (h _ _ _ _) fun _=>LeO.refl _) (LeO.refl _)) (LeO.refl _)))
theorem rW : ∀ (n : Nat) (d : Rows) (a m b : Int),LeO (bu n d a m b cmp) (bu (n + 1) d a m b cmp)
 | 0,d,a,m,b=>fun r h=>by simp [bu] at h
 | n + 1,d,a,m,b=>by
  rw [bu,bu]
  exact symMerge_mono (fun d a m b=>rW n d a m b) d a m b
theorem sS {n : Nat} {d : Rows} {a m b : Int} {r : Rows} (h : bu n d a m b cmp = some r) : fC d a m b cmp = some r := by
 refine pr n fun k hk=>?_
 obtain ⟨j,rfl⟩ : ∃ j,k = n + j := ⟨k - n,by omega⟩
 clear hk
 induction j with
 | zero=>exact h
 | succ j ih=>exact rW (n + j) d a m b r ih
theorem nS : ∀ (n : Nat) {d : Rows} (_ : SrtOk cmp d0 d) {a m b : Int},0 ≤ a → a < m → m < b → b ≤ d0.length → (b - a).toNat < n → ∃ d',bu n d a m b cmp = some d' ∧ SrtOk cmp d0 d'
 | 0,_,_,_,_,_,_,_,_,_,hn=>by omega
 | n + 1,d,h,a,m,b,ha,hm,hb,hb',hn=>by
  have hs := h.small
  rw [bu]
  unfold cF
  rw [bw (n := m - a) (by omega) (by omega),bw (n := b - m) (by omega) (by omega)]
  by_cases h1 : m - a = 1
  ·rw [ld h1,zc]
   refine gE (fun s=>SrtOk cmp d0 s.1 ∧ m ≤ s.2.1 ∧ s.2.1 ≤ s.2.2 ∧ s.2.2 ≤ b) (fun s=>(s.2.2 - s.2.1).toNat) (fun s=>SrtOk cmp d0 s.1 ∧ m ≤ s.2.1 ∧ s.2.1 ≤ b) ⟨h,Int.le_refl _,by show m ≤ b; omega,Int.le_refl _⟩ (fun s hI=>?_) (fun s hq=>?_)
   ·obtain ⟨g1,g2,g3,g4⟩ := hI
    by_cases hlt : s.2.1 < s.2.2
    ·rw [zt hlt,zc,mid_eq (n := s.2.1 + s.2.2) (by omega) (by omega)]
     obtain ⟨x,hx,_,hxm⟩ := g1.get (i := (s.2.1 + s.2.2) / 2) (by omega) (by omega)
     obtain ⟨y,hy,_,hym⟩ := g1.get (i := a) (by omega) (by omega)
     obtain ⟨c,hc⟩ := g1.cm hxm hym
     rw [hx,bPs,hy,bPs,hc,bPs]
     by_cases hneg : c < 0
     ·rw [zt hneg,zc,bw (by omega) (by omega)]
      exact ⟨_,rfl,⟨g1,by show m ≤ (s.2.1 + s.2.2) / 2 + 1; omega,by show (s.2.1 + s.2.2) / 2 + 1 ≤ s.2.2; omega,g4⟩,by show (s.2.2 - ((s.2.1 + s.2.2) / 2 + 1)).toNat < (s.2.2 - s.2.1).toNat; omega⟩
     ·rw [zf hneg,zd]
      exact ⟨_,rfl,⟨g1,g2,by show s.2.1 ≤ (s.2.1 + s.2.2) / 2; omega,by show (s.2.1 + s.2.2) / 2 ≤ b; omega⟩,by show ((s.2.1 + s.2.2) / 2 - s.2.1).toNat < (s.2.2 - s.2.1).toNat; omega⟩
    ·rw [zf hlt]
     exact ⟨_,rfl,g1,g2,by show s.2.1 ≤ b; omega⟩
   ·obtain ⟨g1,g2,g3⟩ := hq
    rw [bw (n := s.2.1 - 1) (by omega) (by omega)]
    refine gE (fun t=>SrtOk cmp d0 t.1 ∧ a ≤ t.2) (fun t=>(s.2.1 - t.2).toNat) (fun t=>SrtOk cmp d0 t.1) ⟨g1,Int.le_refl _⟩ (fun t hI=>?_) (fun t hq=>⟨_,rfl,hq⟩)
    obtain ⟨k1,k2⟩ := hI
    by_cases hlt : t.2 < s.2.1 - 1
    ·rw [zt hlt,zc,bw (n := t.2 + 1) (by omega) (by omega)]
     obtain ⟨d',hd',hsw⟩ := tc (β := Flow (Rows × Int) Empty) k1 (i := t.2) (j := t.2 + 1) (by omega) (by omega) (by omega) (by omega)
     exact ⟨_,hsw _,⟨hd',by show a ≤ t.2 + 1; omega⟩,by show (s.2.1 - (t.2 + 1)).toNat < (s.2.1 - t.2).toNat; omega⟩
    ·rw [zf hlt]
     exact ⟨_,rfl,k1⟩
  ·rw [cR h1,zd]
   by_cases h2 : b - m = 1
   ·rw [ld h2,zc]
    refine gE (fun s=>SrtOk cmp d0 s.1 ∧ a ≤ s.2.1 ∧ s.2.1 ≤ s.2.2 ∧ s.2.2 ≤ m) (fun s=>(s.2.2 - s.2.1).toNat) (fun s=>SrtOk cmp d0 s.1 ∧ a ≤ s.2.1 ∧ s.2.1 ≤ m) ⟨h,Int.le_refl _,by show a ≤ m; omega,Int.le_refl _⟩ (fun s hI=>?_) (fun s hq=>?_)
    ·obtain ⟨g1,g2,g3,g4⟩ := hI
     by_cases hlt : s.2.1 < s.2.2
     ·rw [zt hlt,zc,mid_eq (n := s.2.1 + s.2.2) (by omega) (by omega)]
      obtain ⟨x,hx,_,hxm⟩ := g1.get (i := m) (by omega) (by omega)
      obtain ⟨y,hy,_,hym⟩ := g1.get (i := (s.2.1 + s.2.2) / 2) (by omega) (by omega)
      obtain ⟨c,hc⟩ := g1.cm hxm hym
      rw [hx,bPs,hy,bPs,hc,bPs]
      by_cases hneg : c < 0
      ·rw [zt hneg]
       exact ⟨_,rfl,⟨g1,g2,by show s.2.1 ≤ (s.2.1 + s.2.2) / 2; omega,by show (s.2.1 + s.2.2) / 2 ≤ m; omega⟩,by show ((s.2.1 + s.2.2) / 2 - s.2.1).toNat < (s.2.2 - s.2.1).toNat; omega⟩
      ·rw [zf hneg,Bool.not_false,zc,bw (by omega) (by omega)]
       exact ⟨_,rfl,⟨g1,by show a ≤ (s.2.1 + s.2.2) / 2 + 1; omega,by show (s.2.1 + s.2.2) / 2 + 1 ≤ s.2.2; omega,g4⟩,by show (s.2.2 - ((s.2.1 + s.2.2) / 2 + 1)).toNat < (s.2.2 - s.2.1).toNat; omega⟩
     ·rw [zf hlt]
      exact ⟨_,rfl,g1,g2,by show s.2.1 ≤ m; omega⟩
    ·obtain ⟨g1,g2,g3⟩ := hq
     refine gE (fun t=>SrtOk cmp d0 t.1 ∧ a ≤ t.2 ∧ t.2 ≤ m) (fun t=>(t.2 - a).toNat) (fun t=>SrtOk cmp d0 t.1) ⟨g1,by show a ≤ m; omega,Int.le_refl _⟩ (fun t hI=>?_) (fun t hq=>⟨_,rfl,hq⟩)
     obtain ⟨k1,k2,k3⟩ := hI
     by_cases hlt : t.2 > s.2.1
     ·rw [zt hlt,zc,bw (n := t.2 - 1) (by omega) (by omega)]
      obtain ⟨d',hd',hsw⟩ := tc (β := Flow (Rows × Int) Empty) k1 (i := t.2) (j := t.2 - 1) (by omega) (by omega) (by omega) (by omega)
      exact ⟨_,hsw _,⟨hd',by show a ≤ t.2 - 1; omega,by show t.2 - 1 ≤ m; omega⟩,by show (t.2 - 1 - a).toNat < (t.2 - a).toNat; omega⟩
     ·rw [zf hlt]
      exact ⟨_,rfl,k1⟩
   ·rw [cR h2,zd]
    simp only [bF]
    rw [mid_eq (n := a + b) (by omega) (by omega)]
    generalize hmid : (a + b) / 2 = mid
    have b1 : 2 * mid ≤ a + b ∧ a + b ≤ 2 * mid + 1 := by omega
    rw [bw (n := mid + m) (by omega) (by omega),bw (n := mid + m - b) (by omega) (by omega),bw (n := mid + m - 1) (by omega) (by omega)]
    obtain ⟨lo,hi,e1,l1,l2,l3,l4,l5,l6⟩ : ∃ lo hi : Int,(cond (decide (m > mid)) ((d,mid + m - b,mid)) ((d,a,m)) : Rows × Int × Int) = (d,lo,hi) ∧ a ≤ lo ∧ lo ≤ hi ∧ hi ≤ m ∧ mid + m - lo ≤ b ∧ m ≤ mid + m - hi ∧ hi ≤ mid := by
     by_cases hgt : m > mid
     ·exact ⟨mid + m - b,mid,by rw [zt hgt]; rfl,by omega,by omega,by omega,by omega,by omega,by omega⟩
     ·exact ⟨a,m,by rw [zf hgt]; rfl,by omega,by omega,by omega,by omega,by omega,by omega⟩
    rw [e1]
    refine gE (fun s=>SrtOk cmp d0 s.1 ∧ lo ≤ s.2.1 ∧ s.2.1 ≤ s.2.2 ∧ s.2.2 ≤ hi) (fun s=>(s.2.2 - s.2.1).toNat) (fun s=>SrtOk cmp d0 s.1 ∧ lo ≤ s.2.1 ∧ s.2.1 ≤ hi) ⟨h,Int.le_refl _,l2,Int.le_refl _⟩ (fun s hI=>?_) (fun s hq=>?_)
    ·obtain ⟨g1,g2,g3,g4⟩ := hI
     by_cases hlt : s.2.1 < s.2.2
     ·rw [zt hlt,zc,mid_eq (n := s.2.1 + s.2.2) (by omega) (by omega)]
      generalize hc : (s.2.1 + s.2.2) / 2 = c
      have c1 : s.2.1 ≤ c ∧ c < s.2.2 := by omega
      rw [bw (n := mid + m - 1 - c) (by omega) (by omega)]
      obtain ⟨x,hx,_,hxm⟩ := g1.get (i := mid + m - 1 - c) (by omega) (by omega)
      obtain ⟨y,hy,_,hym⟩ := g1.get (i := c) (by omega) (by omega)
      obtain ⟨v,hv⟩ := g1.cm hxm hym
      rw [hx,bPs,hy,bPs,hv,bPs]
      by_cases hneg : v < 0
      ·rw [zt hneg]
       exact ⟨_,rfl,⟨g1,g2,by show s.2.1 ≤ c; omega,by show c ≤ hi; omega⟩,by show (c - s.2.1).toNat < (s.2.2 - s.2.1).toNat; omega⟩
      ·rw [zf hneg,Bool.not_false,zc,bw (by omega) (by omega)]
       exact ⟨_,rfl,⟨g1,by show lo ≤ c + 1; omega,by show c + 1 ≤ s.2.2; omega,g4⟩,by show (s.2.2 - (c + 1)).toNat < (s.2.2 - s.2.1).toNat; omega⟩
     ·rw [zf hlt]
      exact ⟨_,rfl,g1,g2,by show s.2.1 ≤ hi; omega⟩
    ·obtain ⟨g1,g2,g3⟩ := hq
     rw [bw (n := mid + m - s.2.1) (by omega) (by omega)]
     -- the rotation
     obtain ⟨t,ht,hto⟩ : ∃ t,(af (cond ((cond (decide (s.2.1 < m)) ((s.1,decide (m < mid + m - s.2.1))) ((s.1,false)) : Rows × Bool)).2
       (af (dE ((cond (decide (s.2.1 < m)) ((s.1,decide (m < mid + m - s.2.1))) ((s.1,false)) : Rows × Bool)).1 s.2.1 m (mid + m - s.2.1) cmp) fun x191=>af (fo (x191.length = ((cond (decide (s.2.1 < m)) ((s.1,decide (m < mid + m - s.2.1))) ((s.1,false)) : Rows × Bool)).1.length) ()) fun (_ : Unit)=>some x191)
       (some ((cond (decide (s.2.1 < m)) ((s.1,decide (m < mid + m - s.2.1))) ((s.1,false)) : Rows × Bool)).1)) some) = some t ∧ SrtOk cmp d0 t := by
      by_cases c1 : s.2.1 < m
      ·by_cases c2 : m < mid + m - s.2.1
       ·rw [zt c1,zt c2]
        simp only [zc]
        obtain ⟨d',e,hd'⟩ := rotate_ok g1 (a := s.2.1) (m := m) (b := mid + m - s.2.1) (by omega) c1 c2 (by omega)
        rw [e,bPs,eo (by rw [hd'.len,g1.len])]
        exact ⟨_,rfl,hd'⟩
       ·rw [zt c1,zf c2]
        exact ⟨_,rfl,g1⟩
      ·rw [zf c1]
       exact ⟨_,rfl,g1⟩
     have ht' := ht
     generalize hcc : (cond ((cond (decide (s.2.1 < m)) ((s.1,decide (m < mid + m - s.2.1))) ((s.1,false)) : Rows × Bool)).2 _ _ : Option Rows) = o at ht ⊢
     cases o with
     | none=>cases ht
     | some t0 =>
      simp only [bPs,zo] at ht
      subst ht
      rw [bPs]
      clear hcc ht'
      obtain ⟨u,hu,huo⟩ : ∃ u,(af (cond ((cond (decide (a < s.2.1)) ((t0,decide (s.2.1 < mid))) ((t0,false)) : Rows × Bool)).2
        (af (bu n ((cond (decide (a < s.2.1)) ((t0,decide (s.2.1 < mid))) ((t0,false)) : Rows × Bool)).1 a s.2.1 mid cmp) fun x205=>af (fo (x205.length = ((cond (decide (a < s.2.1)) ((t0,decide (s.2.1 < mid))) ((t0,false)) : Rows × Bool)).1.length) ()) fun (_ : Unit)=>some x205)
        (some ((cond (decide (a < s.2.1)) ((t0,decide (s.2.1 < mid))) ((t0,false)) : Rows × Bool)).1)) some) = some u ∧ SrtOk cmp d0 u := by
       by_cases c1 : a < s.2.1
       ·by_cases c2 : s.2.1 < mid
        ·rw [zt c1,zt c2]
         simp only [zc]
         obtain ⟨d',e,hd'⟩ := nS n hto (a := a) (m := s.2.1) (b := mid) ha c1 c2 (by omega) (by omega)
         rw [e,bPs,eo (by rw [hd'.len,hto.len])]
         exact ⟨_,rfl,hd'⟩
        ·rw [zt c1,zf c2]
         exact ⟨_,rfl,hto⟩
       ·rw [zf c1]
        exact ⟨_,rfl,hto⟩
      generalize hcc : (cond ((cond (decide (a < s.2.1)) ((t0,decide (s.2.1 < mid))) ((t0,false)) : Rows × Bool)).2 _ _ : Option Rows) = o at hu ⊢
      cases o with
      | none=>cases hu
      | some u0 =>
       simp only [bPs,zo] at hu
       subst hu
       rw [bPs]
       by_cases c1 : mid < mid + m - s.2.1
       ·rw [zt c1,zc]
        by_cases c2 : mid + m - s.2.1 < b
        ·rw [zt c2,zc]
         obtain ⟨d',e,hd'⟩ := nS n huo (a := mid) (m := mid + m - s.2.1) (b := b) (by omega) c1 c2 hb' (by omega)
         rw [e,bPs,eo (by rw [hd'.len,huo.len])]
         exact ⟨_,rfl,hd'⟩
        ·rw [zf c2]
         exact ⟨_,rfl,huo⟩
       ·rw [zf c1]
        exact ⟨_,rfl,huo⟩
theorem stable_ok {d : Rows} (h : SrtOk cmp d0 d) : ∃ d',eC d (d0.length : Int) cmp = some d' ∧ SrtOk cmp d0 d' := by
 have hs := h.small
 unfold eC
 refine gE (fun s=>SrtOk cmp d0 s.1 ∧ 0 ≤ s.2.1 ∧ s.2.1 ≤ s.2.2 ∧ s.2.2 ≤ s.2.1 + 20 ∧ s.2.1 ≤ d0.length) (fun s=>(d0.length + 20 - s.2.2).toNat) (fun s=>SrtOk cmp d0 s.1 ∧ 0 ≤ s.2.1 ∧ s.2.1 ≤ d0.length) ⟨h,by show (0 : Int) ≤ 0; omega,by show (0 : Int) ≤ 20; omega,by show (20 : Int) ≤ 0 + 20; omega,by show (0 : Int) ≤ d0.length; omega⟩ (fun s hI=>?_) (fun s hq=>?_)
 ·obtain ⟨g1,g2,g3,g4,g5⟩ := hI
  by_cases hle : s.2.2 ≤ (d0.length : Int)
  ·rw [zt hle,zc]
   obtain ⟨d',e,hd'⟩ := sQ g1 (a := s.2.1) (b := s.2.2) ⟨g2,by omega⟩ hle
   rw [e,bPs,eo (by rw [hd'.len,g1.len]),bPs,bw (by omega) (by omega)]
   exact ⟨_,rfl,⟨hd',by show 0 ≤ s.2.2; omega,by show s.2.2 ≤ s.2.2 + 20; omega,by show s.2.2 + 20 ≤ s.2.2 + 20; omega,hle⟩,by show ((d0.length : Int) + 20 - (s.2.2 + 20)).toNat < ((d0.length : Int) + 20 - s.2.2).toNat; omega⟩
  ·rw [zf hle]
   exact ⟨_,rfl,g1,g2,g5⟩
 ·obtain ⟨g1,g2,g3⟩ := hq
  obtain ⟨d',e,hd'⟩ := sQ g1 (a := s.2.1) (b := (d0.length : Int)) ⟨g2,by omega⟩ (Int.le_refl _)
  rw [e,bPs,eo (by rw [hd'.len,g1.len]),bPs]
  clear e g1 g2 g3 s h
  refine gE (fun s=>SrtOk cmp d0 s.1 ∧ 20 ≤ s.2) (fun s=>(d0.length - s.2).toNat) (fun s=>SrtOk cmp d0 s.1) ⟨hd',by show (20 : Int) ≤ 20; omega⟩ (fun s hI=>?_) (fun s hq=>⟨_,rfl,hq⟩)
  obtain ⟨g1,g2⟩ := hI
  by_cases hlt : s.2 < (d0.length : Int)
  ·rw [zt hlt,zc,bw (n := 2 * s.2) (by omega) (by omega)]
   refine gE (fun t=>SrtOk cmp d0 t.1 ∧ 0 ≤ t.2.1 ∧ t.2.2 = t.2.1 + 2 * s.2 ∧ t.2.1 ≤ d0.length) (fun t=>(d0.length + 2 * s.2 - t.2.2).toNat) (fun t=>SrtOk cmp d0 t.1 ∧ 0 ≤ t.2.1 ∧ t.2.1 ≤ d0.length) ⟨g1,by show (0 : Int) ≤ 0; omega,by show 2 * s.2 = 0 + 2 * s.2; omega,by show (0 : Int) ≤ d0.length; omega⟩ (fun t hI=>?_) (fun t hq=>?_)
   ·obtain ⟨k1,k2,k3,k4⟩ := hI
    by_cases hle : t.2.2 ≤ (d0.length : Int)
    ·rw [zt hle,zc,bw (n := t.2.1 + s.2) (by omega) (by omega)]
     obtain ⟨d'',e,hd''⟩ := nS ((t.2.2 - t.2.1).toNat + 1) k1 (a := t.2.1) (m := t.2.1 + s.2) (b := t.2.2) k2 (by omega) (by omega) hle (by omega)
     rw [sS e,bPs,eo (by rw [hd''.len,k1.len]),bPs,bw (by omega) (by omega)]
     exact ⟨_,rfl,⟨hd'',by show 0 ≤ t.2.2; omega,by show t.2.2 + 2 * s.2 = t.2.2 + 2 * s.2; omega,hle⟩,by show ((d0.length : Int) + 2 * s.2 - (t.2.2 + 2 * s.2)).toNat < ((d0.length : Int) + 2 * s.2 - t.2.2).toNat; omega⟩
    ·rw [zf hle]
     exact ⟨_,rfl,k1,k2,k4⟩
   ·obtain ⟨k1,k2,k3⟩ := hq
    rw [bw (n := t.2.1 + s.2) (by omega) (by omega),bw (n := s.2 * 2) (by omega) (by omega)]
    by_cases hm : t.2.1 + s.2 < (d0.length : Int)
    ·rw [zt hm,zc]
     obtain ⟨d'',e,hd''⟩ := nS ((d0.length - t.2.1).toNat + 1) k1 (a := t.2.1) (m := t.2.1 + s.2) (b := (d0.length : Int)) k2 (by omega) (by omega) (Int.le_refl _) (by omega)
     rw [sS e,bPs,eo (by rw [hd''.len,k1.len]),bPs]
     exact ⟨_,rfl,⟨hd'',by show 20 ≤ s.2 * 2; omega⟩,by show ((d0.length : Int) - s.2 * 2).toNat < ((d0.length : Int) - s.2).toNat; omega⟩
    ·rw [zf hm,zd]
     exact ⟨_,rfl,⟨k1,by show 20 ≤ s.2 * 2; omega⟩,by show ((d0.length : Int) - s.2 * 2).toNat < ((d0.length : Int) - s.2).toNat; omega⟩
  ·rw [zf hlt]
   exact ⟨_,rfl,g1⟩
theorem sortStable_ok {d : Rows} (hs : d.length ≤ 1000000) (ht : ∀ x ∈ d,∀ y ∈ d,Tot (cmp x y)) : ∃ d',cS d cmp = some d' ∧ d'.Perm d := by
 unfold cS
 obtain ⟨d',e,hd'⟩ := stable_ok (cmp := cmp) (d0 := d) (d := d) ⟨List.Perm.refl _,hs,ht⟩
 rw [e,bPs,eo hd'.len,bPs]
 exact ⟨d',rfl,hd'.perm⟩
end
theorem rg (r : LRun) (cols : List LCol) (x : Rq) (l : List LExpr) (hl : l.length ≤ 10000000) : cI r cols x l = some (l.map fun e=>cg (bf r cols x) e) := by
 unfold cI
 rw [oG (xs := l) (fun e=>cg (bf r cols x) e) (fun k e hk=>by
  have := (zg.1 hk).1
  rw [bF,bF,bS (by decide) (by simp; omega),bPs])]
 rfl
theorem compare_tot (a b : Rq) (ds : List Bool) : Tot (iG a b ds) := by
 unfold iG
 refine Tot.bind (Tot.range _ _ _ fun k x s hk=>?_) fun fl _=>Tot.thenR fun _ _=>Tot.mk
 rw [Nat.zero_add]
 by_cases h1 : (k : Int) ≥ (b.length : Int)
 ·rw [zt h1]; exact Tot.mk
 ·rw [zf h1,zd,gw (by omega)]
  simp only [bPs,bF]
  refine Tot.cond (fun _=>Tot.mk) fun _=>?_
  refine Tot.cond (fun h=>?_) fun _=>Tot.cond (fun _=>Tot.mk) fun _=>Tot.mk
  have h := of_decide_eq_true h
  rw [gw (by omega),bPs]
  exact Tot.cond (fun _=>Tot.cond (fun _=>Tot.mk) fun _=>Tot.mk) fun _=>Tot.cond (fun _=>Tot.mk) fun _=>Tot.mk
theorem sort_ok (r : LRun) (q : LQuery) (cols : List LCol) (l : Rows) (hs : l.length ≤ 1000000) (he : q.exprs.length ≤ 1000000) : ∃ l',fF r q cols l = some l' ∧ l'.Perm l := by
 unfold fF
 obtain ⟨l',e,hp⟩ := sortStable_ok (cmp := fun a0 a1=>ec a0 a1 r cols q) hs (fun x _ y _=>by
  show Tot (ec x y r cols q)
  unfold ec
  rw [rg r cols x q.exprs (by omega),rg r cols y q.exprs (by omega),bPs,bPs]
  exact Tot.bind (compare_tot _ _ _) fun _ _=>Tot.mk)
 rw [e,bPs,eo hp.length_eq,bPs]
 exact ⟨l',rfl,hp⟩
theorem val_eq (x y : LVal) : (x.kind == y.kind && (x.int == y.int && (x.text == y.text && true))) = decide (x = y) := by
 obtain ⟨a,b,c⟩ := x
 obtain ⟨a',b',c'⟩ := y
 by_cases h : (⟨a,b,c⟩ : LVal) = ⟨a',b',c'⟩
 ·rw [zt h]; cases h; simp
 ·rw [zf h]
  by_cases h1 : a = a'
  ·by_cases h2 : b = b'
   ·have h3 : c ≠ c' := fun h3=>h (by rw [h1,h2,h3])
    have : (c == c') = false := by simpa using h3
    simp [this]
   ·simp [cR h2]
  ·simp [cR h1]
theorem equalRow (x y : Rq) : cG x y = some (decide (x = y)) := by
 unfold cG
 by_cases hl : x.length = y.length
 ·rw [mT,zt hl,Bool.not_true,zd]
  obtain ⟨fl,hfl,hr⟩ := eQ (step := fun (j1 : Nat) (x1 : LVal) (_ : Unit)=>af (aJ y (j1 : Int)) fun (x22 : LVal)=>cond (!(x1.kind == x22.kind && (x1.int == x22.int && (x1.text == x22.text && true)))) (some (Flow.ret false)) (some (.next ())))
   (fun j _=>x.take j = y.take j) (fun r=>r = false ∧ x ≠ y) x 0 () (by simp) (fun k v s hk hI=>by
    simp only [Nat.zero_add] at hI ⊢
    have hkl := (zg.1 hk).1
    rw [gw (by omega),bPs,val_eq]
    by_cases hv : v = y[k]
    ·rw [zt hv]
     refine ⟨_,rfl,?_⟩
     simp only
     rw [List.take_add_one,List.take_add_one,hk,ze (by omega),hI,hv]
    ·rw [zf hv]
     refine ⟨_,rfl,rfl,fun he=>hv ?_⟩
     subst he
     exact (zg.1 hk).2.symm)
  rw [hfl,bPs]
  cases fl with
  | brk s=>exact absurd hr (by simp)
  | ret r=>rw [mK,hr.1,zf hr.2]
  | next s =>
   simp only [Nat.zero_add,List.take_length] at hr
   rw [hl,List.take_length] at hr
   rw [gQ,zt hr]
 ·rw [mT,zf hl,zf (fun h=>hl (by rw [h]))]
  rfl
theorem idxO (l : Rows) (p : Rq → Bool) (f : Rq → Option Bool) (hf : ∀ x ∈ l,f x = some (p x)) (hl : l.length ≤ 10000000) : bL l f = some (aX p l,l) := by
 unfold bL
 rw [qh (by omega),bPs,Int.toNat_natCast]
 obtain ⟨fl,hfl,hr⟩ := eQ (step := fun (j1 : Nat) (_ : Nat) (s1 : Rows)=>af (aJ s1 (j1 : Int)) fun (x14 : Rq)=>af (f x14) fun x16=>cond x16 (some (Flow.ret ((j1 : Int),s1))) (some (.next s1)))
  (fun j s=>s = l ∧ ∀ x ∈ l.take j,p x = false) (fun r=>r = (aX p l,l)) (List.range l.length) 0 l ⟨rfl,by simp⟩ (fun k v s hk hI=>by
   simp only [Nat.zero_add] at hI ⊢
   have hkl := (zg.1 hk).1
   simp at hkl
   obtain ⟨rfl,hI⟩ := hI
   rw [gw hkl,bPs,hf _ (List.getElem_mem hkl),bPs]
   cases hp : p s[k] with
   | true=>exact ⟨_,rfl,by simp only; rw [nw hkl hI hp]⟩
   | false =>
    refine ⟨_,rfl,rfl,fun x hx=>?_⟩
    rw [List.take_add_one,ze hkl,List.mem_append] at hx
    rcases hx with hx | hx
    ·exact hI x hx
    ·simp at hx
     rw [hx]
     exact hp)
 rw [hfl,bPs]
 cases fl with
 | brk s=>exact absurd hr (by simp)
 | ret r=>rw [mK,hr]
 | next s =>
  simp only [Nat.zero_add,List.length_range,List.take_length] at hr
  rw [gQ,hr.1,jY hr.2]
theorem deleteFunc_eq (l : Rows) (p : Rq → Bool) (f : Rq → Option Bool) (hf : ∀ x ∈ l,f x = some (p x)) (hl : l.length ≤ 1000000) : dA l f = some (l.filter fun x=>!p x) := by
 unfold dA
 rw [idxO l p f hf (by omega),bPs]
 simp only
 rw [eo trivial,bPs]
 by_cases hneg : aX p l = -1
 ·rw [ld hneg,zc]
  congr 1
  symm
  rw [List.filter_eq_self]
  intro x hx
  have : decide (aX p l ≥ 0) = false := by rw [hneg]; rfl
  rw [iU] at this
  have := List.any_eq_false.1 this x hx
  simpa using this
 ·rw [cR hneg,zd]
  have h0 : 0 ≤ aX p l := by rcases idxOf_neg (p := p) (l := l) with h | h; exact absurd h hneg; exact h
  obtain ⟨i,hi⟩ : ∃ i : Nat,aX p l = i := ⟨(aX p l).toNat,by omega⟩
  have hil : i < l.length := by have := mW h0; omega
  have hpre : (l.take i).filter (fun x=>!p x) = l.take i := by
   rw [List.filter_eq_self]
   intro x hx
   have : l.findIdx? p = some i := by
    unfold aX at hi
    cases hq : l.findIdx? p with
    | none=>rw [hq] at hi; simp at hi
    | some j=>rw [hq] at hi; exact congrArg some (by have hi : (j : Int) = (i : Int) := hi; omega)
   obtain ⟨_,_,hlt⟩ := List.findIdx?_eq_some_iff_getElem.1 this
   obtain ⟨j,hj,rfl⟩ := List.mem_take_iff_getElem.1 hx
   simp [hlt j (by omega)]
  have hpi : p l[i] = true := by
   obtain ⟨x,hx,hp⟩ := mu h0
   rw [hi,Int.toNat_natCast,ze hil] at hx
   cases hx
   exact hp
  rw [hi,bw (n := (i : Int) + 1) (by omega) (by omega)]
  obtain ⟨r,hr,hq⟩ := gE (step := fun (s1 : Rows × Int × Int) =>
   cond (decide (s1.2.2 < (s1.1.length : Int)))
    (af (aJ s1.1 s1.2.2) fun (x24 : Rq)=>af (f x24) fun x28=>cond (!x28) (af (aJ s1.1 s1.2.1) fun (_ : Rq)=>bv (s1.1.set s1.2.1.toNat x24) fun (y4 : Rows)=>some (.next (y4,(IntKind.i64.wrap (s1.2.1 + (1 : Int))),(IntKind.i64.wrap (s1.2.2 + (1 : Int))))))
     (some (.next (s1.1,s1.2.1,(IntKind.i64.wrap (s1.2.2 + (1 : Int)))))))
    (some (.brk (s1.1,s1.2.1,s1.2.2)))) (s := (l,(i : Int),(i : Int) + 1)) (k := fun (s1 : Rows × Int × Int)=>af (oA s1.1 s1.2.1) fun (y5 : Rows)=>af (oA y5 s1.2.1) fun (y6 : Rows)=>some y6) (R := fun r=>r = l.filter fun x=>!p x)
   (fun s=>∃ a j : Nat,s.2.1 = a ∧ s.2.2 = j ∧ a < j ∧ j ≤ l.length ∧ s.1.length = l.length ∧ s.1.take a = (l.take j).filter (fun x=>!p x) ∧ s.1.drop j = l.drop j) (fun s=>(l.length - s.2.2).toNat)
   (fun s=>∃ a : Nat,s.2.1 = a ∧ a ≤ s.1.length ∧ s.1.take a = l.filter fun x=>!p x)
   ⟨i,i + 1,rfl,by show (i : Int) + 1 = ((i + 1 : Nat) : Int); omega,by omega,by omega,rfl,by
    show l.take i = _
    rw [List.take_add_one,ze hil,List.filter_append,hpre]
    simp [hpi],rfl⟩
   (fun s hI=>by
    obtain ⟨a,j,h1,h2,h3,h4,h5,h6,h7⟩ := hI
    obtain ⟨d,s1,s2⟩ := s
    simp only at h1 h2 h5 h6 h7 ⊢
    subst h1
    subst h2
    by_cases hlt : j < l.length
    ·rw [zt (show (j : Int) < (d.length : Int) from by omega),zc,gw (by omega),bPs]
     have hdj : d[j]? = l[j]? := by
      have := congrArg (fun q=>q[0]?) h7
      simpa using this
     have hdje : d[j] = l[j] := by
      rw [ze (by omega),ze hlt] at hdj
      exact Option.some.inj hdj
     have hdrop : ∀ e : Rows,e.drop j = l.drop j → e.drop (j + 1) = l.drop (j + 1) := fun e he=>by
      rw [← List.drop_drop,← List.drop_drop,he]
     rw [hdje,hf _ (List.getElem_mem hlt),bPs,bw (n := (j : Int) + 1) (by omega) (by omega),bw (n := (a : Int) + 1) (by omega) (by omega)]
     cases hp : p l[j] with
     | true =>
      refine ⟨_,rfl,⟨a,j + 1,rfl,by show (j : Int) + 1 = ((j + 1 : Nat) : Int); omega,by omega,by omega,h5,?_,hdrop d h7⟩,by show ((l.length : Int) - ((j : Int) + 1)).toNat < ((l.length : Int) - (j : Int)).toNat; omega⟩
      show d.take a = _
      rw [h6,List.take_add_one,ze hlt,List.filter_append]
      simp [hp]
     | false =>
      simp only [Bool.not_false,zc]
      rw [gw (by omega),bPs,bF,Int.toNat_natCast]
      refine ⟨_,rfl,⟨a + 1,j + 1,by show (a : Int) + 1 = ((a + 1 : Nat) : Int); omega,by show (j : Int) + 1 = ((j + 1 : Nat) : Int); omega,by omega,by omega,by show (d.set a l[j]).length = l.length; simp [h5],?_,?_⟩,by show ((l.length : Int) - ((j : Int) + 1)).toNat < ((l.length : Int) - (j : Int)).toNat; omega⟩
      ·show (d.set a l[j]).take (a + 1) = _
       rw [List.take_add_one,List.getElem?_set_self (by omega),List.take_set_of_le (by omega),h6,List.take_add_one,ze hlt,List.filter_append]
       simp [hp]
      ·show (d.set a l[j]).drop (j + 1) = _
       rw [List.drop_set_of_lt (by omega)]
       exact hdrop d h7
    ·rw [zf (show ¬ (j : Int) < (d.length : Int) from by omega)]
     refine ⟨_,rfl,a,rfl,by show a ≤ d.length; omega,?_⟩
     show d.take a = _
     rw [h6,List.take_of_length_le (by omega)])
   (fun s hq=>by
    obtain ⟨a,h1,h2,h3⟩ := hq
    rw [h1]
    unfold oA
    rw [zp ⟨by omega,by simpa using h2⟩,bPs,Int.toNat_natCast,zp ⟨by omega,by simp; omega⟩,bPs,List.take_take,Nat.min_self]
    exact ⟨_,rfl,h3⟩)
  rw [← hq]
  exact hr
def mf : Rows → Rows → Rows
 | [],_=>[]
 | x :: a,left=>if x ∈ left then mf a (left.erase x) else x :: mf a left
theorem erase_idx {α : Type} [BEq α] [LawfulBEq α] [DecidableEq α] {l : List α} {x : α} {i : Nat} (h : l.findIdx? (fun y=>decide (x = y)) = some i) : l.take i ++ l.drop (i + 1) = l.erase x := by
 induction l generalizing i with
 | nil=>simp at h
 | cons a l ih =>
  rw [List.findIdx?_cons] at h
  by_cases hx : x = a
  ·subst hx; simp at h; subst h; simp
  ·have e : decide (x = a) = false := zf hx
   rw [e] at h
   simp only [Bool.false_eq_true,if_false,Option.map_eq_some_iff] at h
   obtain ⟨j,hj,rfl⟩ := h
   have hne : (a == x) = false := by simp; exact fun h=>hx h.symm
   rw [List.erase_cons,hne]
   simp [ih hj]
theorem less_run : ∀ (a : Rows) (j : Nat) (left out : Rows),left.length ≤ 1000000 → out.length + a.length ≤ 1000000 →
  aH (σ := Rows × Rows) (ρ := Empty) (fun (_ : Nat) (x1 : Rq) (s1 : Rows × Rows) =>
  af (bL s1.1 (fun a0=>jx a0 x1)) fun x20 =>
  af (fo (x20.2.length = s1.1.length) ()) fun (_ : Unit) =>
  cond (decide (x20.1 ≥ (0 : Int)))
   (af (delI x20.2 x20.1 (IntKind.i64.wrap (x20.1 + (1 : Int)))) fun x27 =>
   some (.next (x27,s1.2)))
   (af (dg 24 s1.2 ([x1] : Rz)) fun (x31 : Rz) =>
   some (.next (x20.2,x31)))) j a (left,out) = some (.next ((a.foldl (fun l x=>l.erase x) left),out ++ mf a left))
 | [],j,left,out,_,_=>by simp [aH,mf]
 | x :: a,j,left,out,hl,ho=>by
  rw [aH,idxO left (fun y=>decide (x = y)) _ (fun y _=>by unfold jx; rw [equalRow]; rfl) (by omega),bPs]
  simp only
  rw [eo trivial,bPs,mf,List.foldl_cons]
  by_cases hx : x ∈ left
  ·have hany : decide (aX (fun y=>decide (x = y)) left ≥ 0) = true := by rw [iU,List.any_eq_true]; exact ⟨x,hx,by simp⟩
   rw [hany,zc,zp hx]
   have h0 := of_decide_eq_true hany
   unfold aX at h0 ⊢
   cases hq : left.findIdx? (fun y=>decide (x = y)) with
   | none=>rw [hq] at h0; simp at h0
   | some i =>
    have hil := (List.findIdx?_eq_some_iff_getElem.1 hq).1
    simp only
    rw [bw (by omega) (by omega)]
    have hd : delI left (i : Int) ((i : Int) + 1) = some (left.erase x) := by
     unfold delI
     rw [zp ⟨by omega,by omega,by omega⟩,show ((i : Int)).toNat = i from rfl,show ((i : Int) + 1).toNat = i + 1 from by omega,erase_idx hq]
    rw [hd,bPs]
    exact less_run a (j + 1) (left.erase x) out (by have := List.length_erase_le (a := x) (l := left); omega) (by simp at ho; omega)
  ·have hany : decide (aX (fun y=>decide (x = y)) left ≥ 0) = false := by
    rw [iU,List.any_eq_false]
    intro y hy he
    have : x = y := by simpa using he
    exact hx (this ▸ hy)
   rw [hany,zd,zy hx,bS (by decide) (by simp at ho ⊢; omega),bPs]
   simp only
   rw [less_run a (j + 1) left _ hl (by simp at ho ⊢; omega),List.erase_of_not_mem hx]
   simp
theorem less_eq (a b : Rows) (ha : a.length ≤ 1000000) (hb : b.length ≤ 1000000) : lC a b = some (mf a b) := by
 unfold lC
 rw [less_run a 0 b [] hb (by simpa using ha),bPs,cf]
 rfl
theorem sR : ∀ (a b : Rows),(mf a b).Sublist a
 | [],_=>by simp [mf]
 | x :: a,b=>by
  rw [mf]
  split
  ·exact (sR a _).cons x
  ·exact (sR a b).cons_cons x
theorem concat2 (x y : Rq) (hx : x.length ≤ 1000000) (hy : y.length ≤ 1000000) : bT [x,y] = some (x ++ y) := by
 unfold bT
 simp only [aH,Int.zero_add]
 rw [bw (n := (x.length : Int)) (by omega) (by omega),zf (show ¬ (x.length : Int) < 0 from by omega)]
 simp only [zd]
 rw [bw (n := (x.length : Int) + (y.length : Int)) (by omega) (by omega),zf (show ¬ (x.length : Int) + (y.length : Int) < 0 from by omega)]
 simp only [zd,bPs,cf]
 rw [growI_ok ⟨by omega,by omega,by unfold maxLen; omega⟩,bPs,bS (by decide) (by simp; omega),bPs]
 simp only [List.nil_append]
 rw [bS (by decide) (by omega)]
 rfl
def iF (f : Rq → Bool) (x : Rq) (b : Rows) : Rows := (b.map fun y=>x ++ y).filter f
def padR (f : Rq → Bool) (left : Bool) (pad x : Rq) (b : Rows) : Rows := if left = true ∧ iF f x b = [] then [x ++ pad] else iF f x b
def kI (f : Rq → Bool) (left : Bool) (pad : Rq) (a b : Rows) : Rows := (a.map fun x=>padR f left pad x b).flatten
theorem match_run (f : Rq → Bool) (e : LExpr) (r : LRun) (cols : List LCol) (ex : List LExpr) (he : aJ ex 0 = some e) (hf : ∀ z,lG (cg (bf r cols z) e) = f z) (x : Rq) (hx : x.length ≤ 1000)
  (b : Rows) (out : Rows) (found : Bool) (hb : ∀ y ∈ b,y.length ≤ 1000) (ho : out.length + b.length ≤ 1000000) :
  aH (σ := Rows × Bool) (ρ := Empty) (fun (_ : Nat) (x6 : Rq) (s6 : Rows × Bool) =>
   af (bT ([x,x6] : Rows)) fun x58 =>
   af (aJ ex 0) fun (x65 : LExpr) =>
   bv (bf r cols x58) fun x62 =>
   bv (cg x62 x65) fun x67 =>
   bv (lG x67) fun x68 =>
   cond x68
    (af (dg 24 s6.1 ([x58] : Rows)) fun (x72 : Rows)=>some (.next (x72,true)))
    (some (.next (s6.1,s6.2)))) 0 b (out,found) = some (.next (out ++ iF f x b,found || !(iF f x b).isEmpty)) := by
 rw [rMa (xs := b) (s := (out,found)) (fun k=>(out ++ iF f x (b.take k),found || !(iF f x (b.take k)).isEmpty)) (by simp [iF]) (fun k y hk=>by
  have hkl := (zg.1 hk).1
  have hm : (iF f x (b.take k)).length ≤ k := by unfold iF; exact Nat.le_trans (List.length_filter_le _ _) (by simp; omega)
  have hs : iF f x (b.take (k + 1)) = iF f x (b.take k) ++ if f (x ++ y) then [x ++ y] else [] := by
   unfold iF
   rw [List.take_add_one,hk,List.map_append,List.filter_append]
   cases h : f (x ++ y) <;> simp [h]
  rw [concat2 x y (by omega) (by have := hb y (eB hk); omega),bPs,he,bPs,hs]
  simp only [bF,hf]
  cases hz : f (x ++ y) with
  | true =>
   rw [zc,bS (by decide) (by simp; omega),bPs]
   simp
  | false=>simp),List.take_length]
theorem padR_len (f : Rq → Bool) (left : Bool) (pad x : Rq) (b : Rows) : (padR f left pad x b).length ≤ max 1 b.length := by
 unfold padR
 split
 ·simp; omega
 ·have : (iF f x b).length ≤ b.length := by
   unfold iF
   exact Nat.le_trans (List.length_filter_le _ _) (by simp)
  omega
theorem sD (f : Rq → Bool) (left : Bool) (pad : Rq) (a b : Rows) : (kI f left pad a b).length ≤ a.length * max 1 b.length := by
 unfold kI
 induction a with
 | nil=>simp
 | cons x a ih =>
  have := padR_len f left pad x b
  simp only [List.map_cons,List.flatten_cons,List.length_append,List.length_cons,Nat.add_mul,Nat.one_mul]
  omega
def fB (key : Rq → Rq) : Rows → Rows → Rows
 | ks,[]=>ks
 | ks,x :: l=>fB key (if key x ∈ ks then ks else ks ++ [key x]) l
theorem keysF_app (key : Rq → Rq) : ∀ (l l' ks : Rows),fB key ks (l ++ l') = fB key (fB key ks l) l'
 | [],_,_=>rfl
 | x :: l,l',ks=>by rw [List.cons_append,fB,keysF_app key l l',fB]
theorem ue (key : Rq → Rq) : ∀ (l ks : Rows),ks.Nodup → (fB key ks l).Nodup
 | [],_,h=>h
 | x :: l,ks,h=>by
  rw [fB]
  refine ue key l _ ?_
  split
  ·exact h
  ·rename_i hx
   rw [List.nodup_append]
   exact ⟨h,by simp,fun a ha b hb hab=>by simp at hb; exact hx (hb ▸ hab ▸ ha)⟩
theorem ql (key : Rq → Rq) : ∀ (l ks : Rows) (k : Rq),k ∈ fB key ks l ↔ k ∈ ks ∨ ∃ x ∈ l,key x = k
 | [],ks,k=>by simp [fB]
 | x :: l,ks,k=>by
  rw [fB,ql key l]
  split
  ·rename_i h
   constructor
   ·rintro (h1 | ⟨y,hy,e⟩)
    ·exact .inl h1
    ·exact .inr ⟨y,by simp [hy],e⟩
   ·rintro (h1 | ⟨y,hy,e⟩)
    ·exact .inl h1
    ·rcases List.mem_cons.1 hy with rfl | hy
     ·exact .inl (e ▸ h)
     ·exact .inr ⟨y,hy,e⟩
  ·constructor
   ·rintro (h1 | ⟨y,hy,e⟩)
    ·rcases List.mem_append.1 h1 with h1 | h1
     ·exact .inl h1
     ·exact .inr ⟨x,by simp,by simp at h1; exact h1.symm⟩
    ·exact .inr ⟨y,by simp [hy],e⟩
   ·rintro (h1 | ⟨y,hy,e⟩)
    ·exact .inl (by simp [h1])
    ·rcases List.mem_cons.1 hy with rfl | hy
     ·exact .inl (by simp [e])
     ·exact .inr ⟨y,hy,e⟩
theorem qj (key : Rq → Rq) : ∀ (l ks : Rows),(fB key ks l).length ≤ ks.length + l.length
 | [],_=>by simp [fB]
 | x :: l,ks=>by
  rw [fB]
  have := qj key l (if key x ∈ ks then ks else ks ++ [key x])
  split at this
  ·rename_i h; rw [zp h]; simp; omega
  ·rename_i h; rw [zy h]; simp at this ⊢; omega
def fM (key : Rq → Rq) (l : Rows) (k : Rq) : Rows := l.filter fun x=>decide (key x = k)
theorem group_run (key : Rq → Rq) (q : LQuery) (r : LRun) (cols : List LCol) (hk : ∀ x,cI r cols x q.exprs = some (key x)) (ks0 : Rows) (hn : ks0.Nodup) (l : Rows) (hl : l.length ≤ 1000000) (hks : ks0.length ≤ 1) :
  aH (σ := Rows × List Rows) (ρ := Empty) (fun (_ : Nat) (x2 : Rq) (s2 : Rows × List Rows) =>
  af (cI r cols x2 q.exprs) fun x38 =>
  af (bL s2.1 (fun a0=>gL a0 x38)) fun x41 =>
  af (fo (x41.2.length = s2.1.length) ()) fun (_ : Unit) =>
  af (
   cond (decide (x41.1 < (0 : Int)))
    (af (dg 24 x41.2 ([x38] : Rows)) fun (x49 : Rows) =>
    af (dg 24 s2.2 ([[]] : List Rows)) fun (x52 : List Rows) =>
    some (x49,x52,(x41.2.length : Int)))
    (some (x41.2,s2.2,x41.1))) fun (t7 : Rows × List Rows × Int) =>
  af (aJ t7.2.1 t7.2.2) fun (x57 : Rows) =>
  af (dg 24 x57 ([x2] : Rows)) fun (x61 : Rows) =>
  af (aJ t7.2.1 t7.2.2) fun (_ : Rows) =>
  bv (t7.2.1.set t7.2.2.toNat x61) fun (y8 : List Rows) =>
  some (.next (t7.1,y8))) 0 l (ks0,ks0.map fun _=>[]) = some (.next (fB key ks0 l,(fB key ks0 l).map (fM key l))) := by
 rw [rMa (xs := l) (s := (ks0,ks0.map fun _=>[])) (fun k=>(fB key ks0 (l.take k),(fB key ks0 (l.take k)).map (fM key (l.take k)))) (by
  show (ks0,ks0.map (fM key [])) = _
  congr 1) (fun k x hkx=>by
   have hkl := (zg.1 hkx).1
   have hlen := qj key (l.take k) ks0
   have hlen2 : (fB key ks0 (l.take k)).length ≤ 1 + k := by simp at hlen; omega
   have hnd := ue key (l.take k) ks0 hn
   have hmem : ∀ y ∈ l.take k,key y ∈ fB key ks0 (l.take k) := fun y hy=>(ql key _ _ _).2 (.inr ⟨y,hy,rfl⟩)
   have hsucc : l.take (k + 1) = l.take k ++ [x] := by rw [List.take_add_one,hkx]; rfl
   rw [hsucc,keysF_app]
   generalize hK : fB key ks0 (l.take k) = K at *
   have hgl : ∀ kk,(fM key (l.take k) kk).length ≤ k := fun kk=>by
    unfold fM
    exact Nat.le_trans (List.length_filter_le _ _) (by simp; omega)
   rw [hk x,bPs,idxO K (fun y=>decide (key x = y)) _ (fun y _=>by unfold gL; rw [equalRow]; rfl) (by omega),bPs]
   simp only
   rw [eo trivial,bPs]
   have hg : ∀ kk,fM key (l.take k ++ [x]) kk = fM key (l.take k) kk ++ if key x = kk then [x] else [] := fun kk=>by
    unfold fM
    rw [List.filter_append]
    congr 1
    by_cases h : key x = kk <;> simp [h]
   by_cases hx : key x ∈ K
   ·have hany : decide (aX (fun y=>decide (key x = y)) K < 0) = false := by
     have : decide (aX (fun y=>decide (key x = y)) K ≥ 0) = true := by rw [iU,List.any_eq_true]; exact ⟨_,hx,by simp⟩
     have := of_decide_eq_true this
     exact zf (by omega)
    have h0 : 0 ≤ aX (fun y=>decide (key x = y)) K := by have := of_decide_eq_false hany; omega
    obtain ⟨i,hi⟩ : ∃ i : Nat,aX (fun y=>decide (key x = y)) K = i := ⟨(aX (fun y=>decide (key x = y)) K).toNat,by omega⟩
    obtain ⟨z,hz,hzk⟩ := mu h0
    rw [hi,Int.toNat_natCast] at hz
    have hzk : key x = z := by simpa using hzk
    subst hzk
    have hiK := (zg.1 hz).1
    rw [hany,zd,bPs,hi]
    simp only
    have hgi : (K.map (fM key (l.take k)))[i]? = some (fM key (l.take k) (key x)) := by rw [List.getElem?_map,hz]; rfl
    rw [kO hgi,bPs,bS (by decide) (by have := hgl (key x); simp; omega),bPs,bPs,bF,Int.toNat_natCast]
    congr 3
    ·simp [fB,hx]
    ·have hkk : fB key K [x] = K := by simp [fB,hx]
     rw [hkk]
     apply List.ext_getElem?
     intro j
     rw [List.getElem?_set,List.getElem?_map]
     by_cases hij : i = j
     ·subst hij
      rw [zp rfl,zp (by simpa using hiK),List.getElem?_map,hz,Option.map_some,hg,zp rfl]
     ·rw [zy hij,List.getElem?_map]
      cases hj : K[j]? with
      | none=>rfl
      | some w =>
       simp only [Option.map_some]
       have hne : key x ≠ w := fun he=>by
        subst he
        have hjK := (zg.1 hj).1
        rw [List.nodup_iff_pairwise_ne,List.pairwise_iff_getElem] at hnd
        have e1 := (zg.1 hz).2
        have e2 := (zg.1 hj).2
        rcases Nat.lt_or_gt_of_ne hij with h | h
        ·exact hnd i j hiK hjK h (by rw [e1,e2])
        ·exact hnd j i hjK hiK h (by rw [e1,e2])
       rw [hg,zy hne,List.append_nil]
   ·have hany : decide (aX (fun y=>decide (key x = y)) K < 0) = true := by
     have : decide (aX (fun y=>decide (key x = y)) K ≥ 0) = false := by
      rw [iU,List.any_eq_false]
      intro y hy he
      have : key x = y := by simpa using he
      exact hx (this ▸ hy)
     have := of_decide_eq_false this
     exact zt (by omega)
    rw [hany,zc,bS (by decide) (by simp; omega),bPs,bS (by decide) (by simp; omega),bPs,bPs]
    simp only
    have hgi : (K.map (fM key (l.take k)) ++ [[]])[K.length]? = some [] := by
     rw [List.getElem?_append_right (by simp),zl,Nat.sub_self]; rfl
    rw [kO hgi,bPs,bS (by decide) (by simp),bPs,bPs,bF,Int.toNat_natCast]
    have hkk : fB key K [x] = K ++ [key x] := by simp [fB,hx]
    rw [hkk]
    congr 3
    have hold : fM key (l.take k) (key x) = [] := by
     unfold fM
     rw [List.filter_eq_nil_iff]
     intro y hy he
     have : key y = key x := by simpa using he
     exact hx (this ▸ hmem y hy)
    rw [List.map_append,List.set_append_right _ _ (by simp),zl,Nat.sub_self]
    congr 1
    ·apply List.map_congr_left
     intro w hw
     have hne : key x ≠ w := fun he=>hx (he ▸ hw)
     rw [hg,zy hne,List.append_nil]
    ·simp [hg,hold])]
 rw [List.take_length]
def lI (op : List UInt8) (s : Int × LVal) (v : LVal) : Int × LVal := (IntKind.i64.wrap (s.1 + v.int),if (op = sMin ∧ me v s.2 = true) ∨ (op = sMax ∧ me s.2 v = true) then v else s.2)
def rm (op : List UInt8) (l : Rq) : LVal :=
 if op = iI then gu l.length else match l with
  | []=>.nul
  | v :: _=>if op = sSum then gu (l.foldl (lI op) (0,v)).1 else (l.foldl (lI op) (0,v)).2
theorem compute_eq (op : List UInt8) (l : Rq) : gc op l = some (rm op l) := by
 unfold gc rm
 by_cases h1 : op = iI
 ·subst h1; rfl
 ·have e1 : (op == ([99,111,117,110,116] : List UInt8)) = false := by simpa using h1
  rw [e1,zd,zy h1]
  cases l with
  | nil=>rfl
  | cons v l =>
   have e2 : (((v :: l).length : Int) == 0) = false := cR (by simp; omega)
   rw [e2,zd]
   have e3 : aJ (v :: l) 0 = some v := rfl
   rw [e3,bPs]
   rw [nL (xs := v :: l) (lI op) (fun k x _=>by
    generalize (((v :: l).take k).foldl (lI op) (0,v)) = s
    unfold lI
    by_cases m : op = sMin
    ·subst m
     simp only [bF]
     cases me x s.2 <;> simp
    ·have em : (op == ([109,105,110] : List UInt8)) = false := by simpa using m
     rw [em,zd]
     by_cases n : op = sMax
     ·subst n
      simp only [bF]
      cases me s.2 x <;> simp
     ·have en : (op == ([109,97,120] : List UInt8)) = false := by simpa using n
      rw [en,zd]
      simp [m,n]),bPs,cf]
   by_cases h2 : op = sSum
   ·subst h2; rfl
   ·have e4 : (op == ([115,117,109] : List UInt8)) = false := by simpa using h2
    rw [e4,zd]
    simp only
    rw [zy h2]
def aggR (r : LRun) (cols : List LCol) (a : LAggregateCall) (l : Rows) : LVal := match a.args with
 | []=>gu l.length
 | e :: _=>rm a.function ((l.map fun x=>cg (bf r cols x) e).filter fun v=>v.kind != 0)
theorem aggR_eq (r : LRun) (cols : List LCol) (a : LAggregateCall) (l : Rows) (hl : l.length ≤ 1000000) : kd r a cols l = some (aggR r cols a l) := by
 unfold kd aggR
 cases ha : a.args with
 | nil=>rfl
 | cons e es =>
  have e2 : (((e :: es).length : Int) == 0) = false := cR (by simp; omega)
  rw [e2,zd]
  rw [rMa (xs := l) (s := []) (fun k=>((l.take k).map fun x=>cg (bf r cols x) e).filter fun v=>v.kind != 0) rfl (fun k x hk=>by
   have hkl := (zg.1 hk).1
   have e3 : aJ (e :: es) 0 = some e := rfl
   rw [e3]
   simp only [bPs,bF]
   have hb : (((l.take k).map fun x=>cg (bf r cols x) e).filter fun v=>v.kind != 0).length ≤ k := Nat.le_trans (List.length_filter_le _ _) (by simp; omega)
   rw [List.take_add_one,hk,List.map_append,List.filter_append]
   cases hv : (cg (bf r cols x) e).kind != 0 with
   | true =>
    rw [zc,bS (by decide) (by simp at hb ⊢; omega),bPs]
    simp [hv]
   | false=>simp [hv]),bPs,cf,List.take_length,compute_eq]
  rfl
def mR (r : LRun) (cols : List LCol) (q : LQuery) (l : Rows) : Rows :=
 (fB (fun x=>q.exprs.map fun e=>cg (bf r cols x) e) (if q.exprs = [] then [[]] else []) l).map fun k =>
  k ++ q.aggregates.map fun a=>aggR r cols a (fM (fun x=>q.exprs.map fun e=>cg (bf r cols x) e) l k)
theorem group_eq (r : LRun) (cols : List LCol) (q : LQuery) (l : Rows) (hl : l.length ≤ 999999) (he : q.exprs.length ≤ 1000000) (ha : q.aggregates.length ≤ 1000000) : jj r q cols l = some (mR r cols q l) := by
 unfold jj mR
 generalize hkey : (fun x=>q.exprs.map fun e=>cg (bf r cols x) e) = key
 have hk : ∀ x,cI r cols x q.exprs = some (key x) := fun x=>by rw [rg r cols x q.exprs (by omega),← hkey]
 have hinit : (cond ((q.exprs.length : Int) == (0 : Int)) (([[]],[[]])) (([],[])) : Rows × List Rows) = ((if q.exprs = [] then [[]] else []),((if q.exprs = [] then [[]] else []) : Rows).map fun _=>[]) := by
  cases q.exprs with
  | nil=>rfl
  | cons e es=>rw [show (((e :: es).length : Int) == 0) = false from cR (by simp; omega)]; rfl
 rw [bF,hinit]
 generalize hks : (if q.exprs = [] then [[]] else [] : Rows) = ks0
 have hks1 : ks0.length ≤ 1 := by rw [← hks]; split <;> simp
 have hks2 : ks0.Nodup := by rw [← hks]; split <;> simp
 rw [group_run key q r cols hk ks0 hks2 l (by omega) hks1,bPs,cf]
 generalize hK : fB key ks0 l = K
 have hKl : K.length ≤ 1000000 := by rw [← hK]; have := qj key l ks0; omega
 simp only
 rw [eo (by rw [zl]; omega),bPs,qh (by omega),bPs,Int.toNat_natCast]
 have hgl : ∀ kk,(fM key l kk).length ≤ 1000000 := fun kk=>by
  unfold fM
  exact Nat.le_trans (List.length_filter_le _ _) (by omega)
 have hkl : ∀ k ∈ K,k.length ≤ 1000000 := fun k hkm=>by
  rw [← hK] at hkm
  rcases (ql key l ks0 k).1 hkm with h | ⟨x,_,rfl⟩
  ·rw [← hks] at h
   split at h
   ·simp at h; subst h; simp
   ·simp at h
  ·rw [← hkey]; simpa using he
 rw [rMa (xs := List.range K.length) (s := []) (fun j=>(K.take j).map fun k=>k ++ q.aggregates.map fun a=>aggR r cols a (fM key l k)) rfl (fun j n hj=>by
  obtain ⟨hjl,hjn⟩ := zg.1 hj
  simp at hjl
  rw [gw hjl,bPs]
  have hg : (K.map (fM key l))[j]? = some (fM key l K[j]) := by rw [List.getElem?_map,ze hjl]; rfl
  rw [rMa (xs := q.aggregates) (s := K[j]) (fun i=>K[j] ++ (q.aggregates.take i).map fun a=>aggR r cols a (fM key l K[j])) (by simp) (fun i a hi=>by
   have hil := (zg.1 hi).1
   have hkj := hkl K[j] (List.getElem_mem hjl)
   rw [kO hg,bPs,aggR_eq r cols a _ (hgl _),bPs,bS (by decide) (by simp; omega),bPs,List.take_add_one,hi]
   simp),bPs,cf,bS (by decide) (by simp; omega),bPs,List.take_length]
  congr 2
  rw [List.take_add_one,ze hjl,List.map_append]
  rfl),bPs,cf]
 simp
theorem idxOC (l : (List LCol)) (p : LCol → Bool) (f : LCol → Option Bool) (hf : ∀ x ∈ l,f x = some (p x)) (hl : l.length ≤ 10000000) : cD l f = some (aX p l,l) := by
 unfold cD
 rw [qh (by omega),bPs,Int.toNat_natCast]
 obtain ⟨fl,hfl,hr⟩ := eQ (step := fun (j1 : Nat) (_ : Nat) (s1 : (List LCol))=>af (aJ s1 (j1 : Int)) fun (x14 : LCol)=>af (f x14) fun x16=>cond x16 (some (Flow.ret ((j1 : Int),s1))) (some (.next s1)))
  (fun j s=>s = l ∧ ∀ x ∈ l.take j,p x = false) (fun r=>r = (aX p l,l)) (List.range l.length) 0 l ⟨rfl,by simp⟩ (fun k v s hk hI=>by
   simp only [Nat.zero_add] at hI ⊢
   have hkl := (zg.1 hk).1
   simp at hkl
   obtain ⟨rfl,hI⟩ := hI
   rw [gw hkl,bPs,hf _ (List.getElem_mem hkl),bPs]
   cases hp : p s[k] with
   | true=>exact ⟨_,rfl,by simp only; rw [nw hkl hI hp]⟩
   | false =>
    refine ⟨_,rfl,rfl,fun x hx=>?_⟩
    rw [List.take_add_one,ze hkl,List.mem_append] at hx
    rcases hx with hx | hx
    ·exact hI x hx
    ·simp at hx
     rw [hx]
     exact hp)
 rw [hfl,bPs]
 cases fl with
 | brk s=>exact absurd hr (by simp)
 | ret r=>rw [mK,hr]
 | next s =>
  simp only [Nat.zero_add,List.length_range,List.take_length] at hr
  rw [gQ,hr.1,jY hr.2]
theorem deleteCol_eq (l : (List LCol)) (p : LCol → Bool) (f : LCol → Option Bool) (hf : ∀ x ∈ l,f x = some (p x)) (hl : l.length ≤ 1000000) : cJ l f = some (l.filter fun x=>!p x) := by
 unfold cJ
 rw [idxOC l p f hf (by omega),bPs]
 simp only
 rw [eo trivial,bPs]
 by_cases hneg : aX p l = -1
 ·rw [ld hneg,zc]
  congr 1
  symm
  rw [List.filter_eq_self]
  intro x hx
  have : decide (aX p l ≥ 0) = false := by rw [hneg]; rfl
  rw [iU] at this
  have := List.any_eq_false.1 this x hx
  simpa using this
 ·rw [cR hneg,zd]
  have h0 : 0 ≤ aX p l := by rcases idxOf_neg (p := p) (l := l) with h | h; exact absurd h hneg; exact h
  obtain ⟨i,hi⟩ : ∃ i : Nat,aX p l = i := ⟨(aX p l).toNat,by omega⟩
  have hil : i < l.length := by have := mW h0; omega
  have hpre : (l.take i).filter (fun x=>!p x) = l.take i := by
   rw [List.filter_eq_self]
   intro x hx
   have : l.findIdx? p = some i := by
    unfold aX at hi
    cases hq : l.findIdx? p with
    | none=>rw [hq] at hi; simp at hi
    | some j=>rw [hq] at hi; exact congrArg some (by have hi : (j : Int) = (i : Int) := hi; omega)
   obtain ⟨_,_,hlt⟩ := List.findIdx?_eq_some_iff_getElem.1 this
   obtain ⟨j,hj,rfl⟩ := List.mem_take_iff_getElem.1 hx
   simp [hlt j (by omega)]
  have hpi : p l[i] = true := by
   obtain ⟨x,hx,hp⟩ := mu h0
   rw [hi,Int.toNat_natCast,ze hil] at hx
   cases hx
   exact hp
  rw [hi,bw (n := (i : Int) + 1) (by omega) (by omega)]
  obtain ⟨r,hr,hq⟩ := gE (step := fun (s1 : (List LCol) × Int × Int) =>
   cond (decide (s1.2.2 < (s1.1.length : Int)))
    (af (aJ s1.1 s1.2.2) fun (x24 : LCol)=>af (f x24) fun x28=>cond (!x28) (af (aJ s1.1 s1.2.1) fun (_ : LCol)=>bv (s1.1.set s1.2.1.toNat x24) fun (y4 : (List LCol))=>some (.next (y4,(IntKind.i64.wrap (s1.2.1 + (1 : Int))),(IntKind.i64.wrap (s1.2.2 + (1 : Int))))))
     (some (.next (s1.1,s1.2.1,(IntKind.i64.wrap (s1.2.2 + (1 : Int)))))))
    (some (.brk (s1.1,s1.2.1,s1.2.2)))) (s := (l,(i : Int),(i : Int) + 1)) (k := fun (s1 : (List LCol) × Int × Int)=>af (oA s1.1 s1.2.1) fun (y5 : (List LCol))=>af (oA y5 s1.2.1) fun (y6 : (List LCol))=>some y6) (R := fun r=>r = l.filter fun x=>!p x)
   (fun s=>∃ a j : Nat,s.2.1 = a ∧ s.2.2 = j ∧ a < j ∧ j ≤ l.length ∧ s.1.length = l.length ∧ s.1.take a = (l.take j).filter (fun x=>!p x) ∧ s.1.drop j = l.drop j) (fun s=>(l.length - s.2.2).toNat)
   (fun s=>∃ a : Nat,s.2.1 = a ∧ a ≤ s.1.length ∧ s.1.take a = l.filter fun x=>!p x)
   ⟨i,i + 1,rfl,by show (i : Int) + 1 = ((i + 1 : Nat) : Int); omega,by omega,by omega,rfl,by
    show l.take i = _
    rw [List.take_add_one,ze hil,List.filter_append,hpre]
    simp [hpi],rfl⟩
   (fun s hI=>by
    obtain ⟨a,j,h1,h2,h3,h4,h5,h6,h7⟩ := hI
    obtain ⟨d,s1,s2⟩ := s
    simp only at h1 h2 h5 h6 h7 ⊢
    subst h1
    subst h2
    by_cases hlt : j < l.length
    ·rw [zt (show (j : Int) < (d.length : Int) from by omega),zc,gw (by omega),bPs]
     have hdj : d[j]? = l[j]? := by
      have := congrArg (fun q=>q[0]?) h7
      simpa using this
     have hdje : d[j] = l[j] := by
      rw [ze (by omega),ze hlt] at hdj
      exact Option.some.inj hdj
     have hdrop : ∀ e : (List LCol),e.drop j = l.drop j → e.drop (j + 1) = l.drop (j + 1) := fun e he=>by
      rw [← List.drop_drop,← List.drop_drop,he]
     rw [hdje,hf _ (List.getElem_mem hlt),bPs,bw (n := (j : Int) + 1) (by omega) (by omega),bw (n := (a : Int) + 1) (by omega) (by omega)]
     cases hp : p l[j] with
     | true =>
      refine ⟨_,rfl,⟨a,j + 1,rfl,by show (j : Int) + 1 = ((j + 1 : Nat) : Int); omega,by omega,by omega,h5,?_,hdrop d h7⟩,by show ((l.length : Int) - ((j : Int) + 1)).toNat < ((l.length : Int) - (j : Int)).toNat; omega⟩
      show d.take a = _
      rw [h6,List.take_add_one,ze hlt,List.filter_append]
      simp [hp]
     | false =>
      simp only [Bool.not_false,zc]
      rw [gw (by omega),bPs,bF,Int.toNat_natCast]
      refine ⟨_,rfl,⟨a + 1,j + 1,by show (a : Int) + 1 = ((a + 1 : Nat) : Int); omega,by show (j : Int) + 1 = ((j + 1 : Nat) : Int); omega,by omega,by omega,by show (d.set a l[j]).length = l.length; simp [h5],?_,?_⟩,by show ((l.length : Int) - ((j : Int) + 1)).toNat < ((l.length : Int) - (j : Int)).toNat; omega⟩
      ·show (d.set a l[j]).take (a + 1) = _
       rw [List.take_add_one,List.getElem?_set_self (by omega),List.take_set_of_le (by omega),h6,List.take_add_one,ze hlt,List.filter_append]
       simp [hp]
      ·show (d.set a l[j]).drop (j + 1) = _
       rw [List.drop_set_of_lt (by omega)]
       exact hdrop d h7
    ·rw [zf (show ¬ (j : Int) < (d.length : Int) from by omega)]
     refine ⟨_,rfl,a,rfl,by show a ≤ d.length; omega,?_⟩
     show d.take a = _
     rw [h6,List.take_of_length_le (by omega)])
   (fun s hq=>by
    obtain ⟨a,h1,h2,h3⟩ := hq
    rw [h1]
    unfold oA
    rw [zp ⟨by omega,by simpa using h2⟩,bPs,Int.toNat_natCast,zp ⟨by omega,by simp; omega⟩,bPs,List.take_take,Nat.min_self]
    exact ⟨_,rfl,h3⟩)
  rw [← hq]
  exact hr
def lu (x : LVal) : LVal := if eU x = true then x else .nul
theorem typed_args {cols vars : List LCol} {e : LExpr} (h : (db cols vars e).2.2 = 0) : e.kind = 5 ∧ (∀ a ∈ e.args,(db cols vars a).2.2 = 0) ∨ e.kind ≠ 5 ∧ e.args = [] := by
 rw [rI] at h
 by_cases c0 : e.kind ≠ 5 ∧ 0 < e.args.length
 ·rw [zp c0] at h; simp [fV] at h
 rw [zy c0] at h
 by_cases c5 : e.kind = 5
 ·refine .inl ⟨c5,fun a ha=>?_⟩
  simp only [c5] at h
  have h' : (jy e.name e.index e.value (e.args.map (db cols vars))).2.2 = 0 := by simpa using h
  unfold jy at h'
  split at h'
  ·simp [fV] at h'
  ·split at h'
   ·rename_i r hf
    have := List.find?_some hf
    simp [fV] at h'
    simp [h'] at this
   ·rename_i hf
    have := List.find?_eq_none.1 hf (db cols vars a) (List.mem_map.2 ⟨a,ha,rfl⟩)
    simpa using this
 ·refine .inr ⟨c5,?_⟩
  rw [← List.length_eq_zero_iff]
  omega
theorem eval_clean {cols vars : List LCol} {v : LEnv} : ∀ e : LExpr,(db cols vars e).2.2 = 0 → (∀ i k,(i,k) ∈ cB e → ∀ x,v.params[i]? = some x → eU x = true) → cg v e = cg { v with params := v.params.map lu } e := by
 refine LExpr.ind fun e ih h hp=>?_
 have hsub : ∀ a ∈ e.args,∀ i k,(i,k) ∈ cB a → (i,k) ∈ cB e := fun a ha i k hm=>by
  rw [kl]
  exact List.mem_append_right _ (List.mem_flatten.2 ⟨_,List.mem_map.2 ⟨a,ha,rfl⟩,hm⟩)
 rw [rG,rG { v with params := v.params.map lu }]
 by_cases k1 : (e.kind == 1) = true
 ·simp [k1]
 by_cases k2 : (e.kind == 2) = true
 ·simp [k1,k2]
 by_cases k3 : (e.kind == 3) = true
 ·rw [zy k1,zy k2,zp k3,zy k1,zy k2,zp k3]
  have hk3 : e.kind = 3 := by simpa using k3
  have hta := typed_args h
  have hr : ¬ (e.index < 0 ∨ e.index ≥ 8) := by
   intro hbad
   rw [rI,zy (by intro hc; rcases hta with ⟨a,_⟩ | ⟨_,b⟩; exact hc.1 a; rw [b] at hc; simp at hc),zy k1,zp k3,zp (by rcases hbad with hb | hb; exact .inl hb; exact .inr (.inl hb))] at h
   simp [fV] at h
  have hm : (e.index.toNat,e.value.kind) ∈ cB e := by
   rw [kl]
   refine List.mem_append_left _ ?_
   unfold ix
   rw [zp ⟨hk3,by omega,by omega⟩]
   simp
  have hget : ∀ i : Nat,i < v.params.length → i = e.index.toNat → (v.params.map lu).getD i .nul = v.params.getD i .nul := fun i hi he=>by
   rw [List.getD_eq_getElem?_getD,List.getD_eq_getElem?_getD,List.getElem?_map,ze hi]
   simp only [Option.map_some,Option.getD_some]
   unfold lu
   rw [zp (hp _ _ hm v.params[i] (by rw [← he]; exact ze hi))]
  by_cases hlt : e.index.toNat < v.params.length
  ·show _ = if 0 ≤ e.index ∧ e.index < ((v.params.map lu).length : Nat) ∧ ((v.params.map lu).getD e.index.toNat .nul).kind = e.value.kind then (v.params.map lu).getD e.index.toNat .nul else .nul
   rw [hget _ hlt rfl,zl]
  ·have : ¬ (0 ≤ e.index ∧ e.index < (v.params.length : Int)) := by omega
   show _ = if 0 ≤ e.index ∧ e.index < ((v.params.map lu).length : Nat) ∧ ((v.params.map lu).getD e.index.toNat .nul).kind = e.value.kind then (v.params.map lu).getD e.index.toNat .nul else .nul
   rw [zl,zy (fun hc=>this ⟨hc.1,hc.2.1⟩),zy (fun hc=>this ⟨hc.1,hc.2.1⟩)]
 by_cases k4 : (e.kind == 4) = true
 ·simp [k1,k2,k3,k4]
 by_cases k5 : (e.kind == 5) = true
 ·rw [zy k1,zy k2,zy k3,zy k4,zp k5,zy k1,zy k2,zy k3,zy k4,zp k5]
  rcases typed_args h with ⟨_,ha⟩ | ⟨hn,_⟩
  ·congr 1
   apply List.map_congr_left
   intro a hm
   exact ih a hm (ha a hm) fun i k hik=>hp i k (hsub a hm i k hik)
  ·exact absurd (by simpa using k5) hn
 ·simp [k1,k2,k3,k4,k5]
structure RunOk (r : LRun) : Prop where
 vars : r.vars = []
 names : r.names = []
 vals : r.vals = []
 inst : InstOk r.s r.st
def nC (r : LRun) (l : List (Nat × Int)) : Prop := ∀ i k,(i,k) ∈ l → ∀ x,r.args[i]? = some x → eU x = true
theorem sX {r : LRun} (hr : RunOk r) {cols : List LCol} {row : Rq} (hrow : fw cols row) {e : LExpr} (ht : (cK cols r.vars e).2.2 = 0) (hp : nC r (cB e)) :
  fZ (cg (bf r cols row) e) (cK cols r.vars e).1 (cK cols r.vars e).2.1 := by
 have hk : (db cols r.vars e).2.2 = 0 := by
  unfold cK at ht
  split at ht
  ·simp [fV] at ht
  ·exact ht
 rw [eval_clean (cols := cols) (vars := r.vars) e hk (fun i k hm x hx=>hp i k hm x hx)]
 refine type_sound (cols := cols) (vars := r.vars) ⟨rfl,hrow.1,hrow.2,?_,?_,?_,?_⟩ e ht
 ·intro x hx
  obtain ⟨y,_,rfl⟩ := List.mem_map.1 hx
  unfold lu
  split
  ·assumption
  ·rfl
 ·show r.names = _; rw [hr.names,hr.vars]; rfl
 ·show r.vals.length = _; rw [hr.vals,hr.vars]; rfl
 ·intro i c x hc; rw [hr.vars] at hc; simp at hc
theorem lD {c : LChecker} {q : LQuery} (h : (dQ c q).2 = 0) : kT q = true ∧ (∀ x ∈ q.inputs,(dQ c x).2 = 0) ∧ (iS c q (q.inputs.map fun x=>(dQ c x).1)).2 = 0 ∧ (dQ c q).1 = (iS c q (q.inputs.map fun x=>(dQ c x).1)).1 ∧ ((dQ c q).1.map LCol.name).Nodup := by
 rw [colsQ_eq] at h ⊢
 unfold pX at h ⊢
 by_cases h1 : kT q = false
 ·simp [h1] at h
 rw [zy h1] at h ⊢
 by_cases h2 : (ee (q.inputs.map (dQ c))).2 = 0
 ·obtain ⟨a,b⟩ := rk h2
  have e : (q.inputs.map (dQ c)).map (·.1) = q.inputs.map fun x=>(dQ c x).1 := by rw [List.map_map]; rfl
  rw [e] at b
  rw [b] at h ⊢
  rw [zy (by simpa using h2)] at h ⊢
  by_cases h3 : (iS c q (q.inputs.map fun x=>(dQ c x).1)).2 = 0
  ·rw [zy (by simpa using h3)] at h ⊢
   by_cases h4 : 20 < (iS c q (q.inputs.map fun x=>(dQ c x).1)).1.length
   ·rw [zp h4] at h; simp at h
   ·rw [zy h4] at h ⊢
    by_cases h5 : ((iS c q (q.inputs.map fun x=>(dQ c x).1)).1.map LCol.name).Nodup
    ·rw [zp h5] at h ⊢
     exact ⟨by simpa using h1,fun x hx=>a _ (List.mem_map.2 ⟨x,hx,rfl⟩),h3,rfl,h5⟩
    ·rw [zy h5] at h; simp at h
  ·rw [zp h3] at h; exact absurd h h3
 ·rw [zp h2] at h; exact absurd h h2
theorem lF (vars cols : List LCol) : ∀ (es : List LExpr) (ns : List (List UInt8)),es.length = ns.length → (ct vars cols es ns).2 = 0 →
  (ct vars cols es ns).1.length = es.length ∧ ∀ (i : Nat) (e : LExpr),es[i]? = some e → (cK cols vars e).2.2 = 0 ∧ ∃ c,(ct vars cols es ns).1[i]? = some c ∧ c.kind = (cK cols vars e).1 ∧ c.nullable = (cK cols vars e).2.1
 | [],ns,_,_=>by simp [ct]
 | e :: es,[],h,_=>by simp at h
 | e :: es,n :: ns,hl,h=>by
  simp only [ct] at h ⊢
  by_cases h1 : dD n = false
  ·simp [h1] at h
  rw [zy h1] at h ⊢
  by_cases h2 : (cK cols vars e).2.2 = 0
  ·rw [zy (by simpa using h2)] at h ⊢
   by_cases h3 : (cK cols vars e).1 = 0
   ·rw [zp h3] at h; simp at h
   ·rw [zy h3] at h ⊢
    by_cases h4 : (ct vars cols es ns).2 = 0
    ·rw [zy (by simpa using h4)]
     obtain ⟨a,b⟩ := lF vars cols es ns (by simpa using hl) h4
     refine ⟨by simp [a],fun i e' hi=>?_⟩
     cases i with
     | zero=>simp at hi; subst hi; exact ⟨h2,_,rfl,rfl,rfl⟩
     | succ i=>simpa using b i e' (by simpa using hi)
    ·rw [zp h4] at h; exact absurd h h4
  ·rw [zp h2] at h; exact absurd h h2
theorem ow (vars cols : List LCol) : ∀ l : List LAggregateCall,(dX vars cols l).2 = 0 →
  (dX vars cols l).1.length = l.length ∧ ∀ (i : Nat) (a : LAggregateCall),l[i]? = some a → (ny vars cols a).2 = 0 ∧ ∃ c,(dX vars cols l).1[i]? = some c ∧ c.kind = (ny vars cols a).1 ∧ c.nullable = !(a.function == iI)
 | [],_=>by simp [dX]
 | a :: l,h=>by
  simp only [dX] at h ⊢
  by_cases h1 : (ny vars cols a).2 = 0
  ·rw [zy (by simpa using h1)] at h ⊢
   by_cases h2 : (dX vars cols l).2 = 0
   ·rw [zy (by simpa using h2)]
    obtain ⟨x,y⟩ := ow vars cols l h2
    refine ⟨by simp [x],fun i b hi=>?_⟩
    cases i with
    | zero=>simp at hi; subst hi; exact ⟨h1,_,rfl,rfl,rfl⟩
    | succ i=>simpa using y i b (by simpa using hi)
   ·rw [zp h2] at h; exact absurd h h2
  ·rw [zp h1] at h; exact absurd h h1
theorem fw.append {a b : List LCol} {x y : Rq} (h : fw a x) (h' : fw b y) : fw (a ++ b) (x ++ y) := by
 refine ⟨by simp [h.1,h'.1],fun i c v hc hv=>?_⟩
 by_cases hi : i < a.length
 ·rw [List.getElem?_append_left hi] at hc
  rw [List.getElem?_append_left (by rw [h.1]; exact hi)] at hv
  exact h.2 i c v hc hv
 ·rw [List.getElem?_append_right (by omega)] at hc
  rw [List.getElem?_append_right (by rw [h.1]; omega),h.1] at hv
  exact h'.2 _ c v hc hv
theorem fw.map {cols : List LCol} {es : List LExpr} {f : LExpr → LVal} (hl : cols.length = es.length) (h : ∀ (i : Nat) (e : LExpr) (c : LCol),es[i]? = some e → cols[i]? = some c → fZ (f e) c.kind c.nullable) : fw cols (es.map f) := by
 refine ⟨by simp [hl],fun i c x hc hx=>?_⟩
 rw [List.getElem?_map,Option.map_eq_some_iff] at hx
 obtain ⟨e,he,rfl⟩ := hx
 exact h i e c he hc
theorem fZ.weak {x : LVal} {k : Int} {nl nl' : Bool} (h : fZ x k nl) (hn : nl = true → nl' = true) : fZ x k nl' := ⟨h.1,h.2.1,fun h0=>hn (h.2.2 h0)⟩
theorem int_fits (n : Int) : fZ (gu n) 1 true := by
 unfold gu
 by_cases h1 : n < -1000000000000
 ·rw [zt h1]; exact iN rfl
 ·rw [zf h1]
  by_cases h2 : n > 1000000000000
  ·rw [zt h2]; exact iN rfl
  ·rw [zf h2]
   refine ⟨?_,.inl rfl,fun h=>by simp at h⟩
   unfold eU
   simp
   omega
theorem int_small {n : Int} (h0 : 0 ≤ n) (h1 : n ≤ 1000000000000) (nl : Bool) : fZ (gu n) 1 nl := by
 have h := int_fits n
 refine ⟨h.1,h.2.1,fun hk=>?_⟩
 unfold gu at hk
 rw [zf (show ¬ n < -1000000000000 from by omega),zf (show ¬ n > 1000000000000 from by omega)] at hk
 simp at hk
theorem ud (op : List UInt8) : ∀ (l : Rq) (s : Int × LVal),(l.foldl (lI op) s).2 = s.2 ∨ (l.foldl (lI op) s).2 ∈ l
 | [],s=>.inl rfl
 | v :: l,s=>by
  rw [List.foldl_cons]
  rcases ud op l (lI op s v) with h | h
  ·rw [h]
   unfold lI
   simp only
   split
   ·exact .inr (by simp)
   ·exact .inl rfl
  ·exact .inr (by simp [h])
theorem agg_fits {r : LRun} (hr : RunOk r) {cols : List LCol} {a : LAggregateCall} {l : Rows} (ha : (ny r.vars cols a).2 = 0) (hl : ∀ row ∈ l,fw cols row) (hb : l.length ≤ 1000000) (hp : nC r ((a.args.map cB).flatten)) :
  fZ (aggR r cols a l) (ny r.vars cols a).1 (!(a.function == iI)) := by
 unfold ny at ha ⊢
 unfold aggR
 by_cases h1 : dD a.name = false ∨ ¬ a.function ∈ [iI,sSum,sMin,sMax] ∨ 1 < a.args.length ∨ (a.args.length < 1 ∧ a.function ≠ iI)
 ·rw [zp h1] at ha; simp at ha
 rw [zy h1] at ha ⊢
 have hfn : a.function ∈ [iI,sSum,sMin,sMax] := Decidable.byContradiction fun h=>h1 (.inr (.inl h))
 cases hargs : a.args with
 | nil=>exact int_small (by omega) (by omega) _
 | cons e es =>
  rw [hargs] at ha hp
  simp only at ha ⊢
  have hpe : nC r (cB e) := fun i k hm=>hp i k (by simp [hm])
  by_cases h2 : (cK cols r.vars e).2.2 = 0
  ·rw [zy (by simpa using h2)] at ha ⊢
   by_cases h3 : (cK cols r.vars e).1 = 0 ∨ (a.function = sSum ∧ (cK cols r.vars e).1 ≠ 1)
   ·rw [zp h3] at ha; simp at ha
   rw [zy h3]
   generalize hv : ((l.map fun x=>cg (bf r cols x) e).filter fun v=>v.kind != 0) = vals
   have hvl : vals.length ≤ 1000000 := by rw [← hv]; exact Nat.le_trans (List.length_filter_le _ _) (by simpa using hb)
   have hvf : ∀ v ∈ vals,fZ v (cK cols r.vars e).1 true := fun v hm=>by
    rw [← hv] at hm
    have := (List.mem_filter.1 hm).1
    obtain ⟨x,hx,rfl⟩ := List.mem_map.1 this
    exact (sX hr (hl x hx) h2 hpe).weak fun _=>rfl
   unfold rm
   by_cases h4 : a.function = iI
   ·rw [zp h4,zp h4]
    exact int_small (by omega) (by omega) _
   ·rw [zy h4,zy h4]
    have hc : (a.function == iI) = false := by simpa using h4
    rw [hc]
    cases vals with
    | nil=>exact iN rfl
    | cons v vs =>
     simp only
     by_cases h5 : a.function = sSum
     ·rw [zp h5]
      have : (cK cols r.vars e).1 = 1 := Decidable.byContradiction fun h=>h3 (.inr ⟨h5,h⟩)
      rw [this]
      exact int_fits _
     ·rw [zy h5]
      rcases ud a.function (v :: vs) (0,v) with h | h
      ·rw [h]; exact hvf v (by simp)
      ·exact hvf _ h
  ·rw [zp h2] at ha; exact absurd ha h2
theorem capI_eq {n : Int} (h : nr n ≤ 20000) : nr n = n := by
 unfold nr at h ⊢
 by_cases hc : 20001 < n
 ·rw [zp hc] at h; omega
 ·rw [zy hc]
theorem gW {q : LQuery} (h : (bI q).2 ≤ 20000) : (bI q).1 ≤ (bI q).2 ∧ ∀ x ∈ q.inputs,(bI x).2 ≤ 20000 := by
 have key : ∀ (l : List (Int × Int)) (j : Nat) (s : Int × Int),s.2 ≤ (eI q.kind j l s).2 ∧ ∀ x ∈ l,x.2 ≤ (eI q.kind j l s).2 := by
  intro l
  induction l with
  | nil=>intro j s; exact ⟨Int.le_refl _,by simp⟩
  | cons y l ih =>
   intro j s
   obtain ⟨h1,h2⟩ := ih (j + 1) (jg q.kind s j y)
   rw [eI]
   have h3 : s.2 ≤ (jg q.kind s j y).2 := jJ _ _
   have h4 : y.2 ≤ (jg q.kind s j y).2 := nY _ _
   refine ⟨by omega,fun x hx=>?_⟩
   rcases List.mem_cons.1 hx with rfl | hx
   ·omega
   ·exact h2 x hx
 have hk := key (q.inputs.map bI) 0 (0,0)
 rw [nz] at h ⊢
 by_cases h1 : q.kind = 1
 ·rw [zp h1] at h ⊢
  refine ⟨nY _ _,fun x hx=>?_⟩
  have := hk.2 (bI x) (List.mem_map.2 ⟨x,hx,rfl⟩)
  have := jJ (eI q.kind 0 (q.inputs.map bI) (0,0)).2 24
  simp only at h
  omega
 ·rw [zy h1] at h ⊢
  refine ⟨nY _ _,fun x hx=>?_⟩
  have := hk.2 (bI x) (List.mem_map.2 ⟨x,hx,rfl⟩)
  have := jJ (eI q.kind 0 (q.inputs.map bI) (0,0)).2 (eI q.kind 0 (q.inputs.map bI) (0,0)).1
  simp only at h
  omega
theorem most_scan {q : LQuery} (h : q.kind = 1) : (bI q).1 = 24 := by rw [nz,zp h]
theorem pS {q x : LQuery} (h : (bI q).2 ≤ 20000) (hk : q.kind ≠ 1) (hi : q.inputs = [x]) : (bI q).1 = (bI x).1 := by
 have hm := gW h
 have hx := hm.2 x (by rw [hi]; simp)
 have hx1 := (gW hx).1
 rw [nz,zy hk,hi]
 show nr (bI x).1 = _
 unfold nr
 rw [zy (by omega)]
theorem nG {q x y : LQuery} (h : (bI q).2 ≤ 20000) (hk : q.kind ≠ 1) (hi : q.inputs = [x,y]) : (bI q).1 = (if q.kind = 6 then (bI x).1 + (bI y).1 else if q.kind = 4 ∨ q.kind = 5 then (bI x).1 * dM 1 (bI y).1 else (bI x).1) := by
 have hm := gW h
 have hx := hm.2 x (by rw [hi]; simp)
 have hx1 := (gW hx).1
 have h1 := hm.1
 have hc : nr (bI x).1 = (bI x).1 := by unfold nr; rw [zy (by omega)]
 have e : (bI q).1 = nr (if q.kind = 6 then (bI x).1 + (bI y).1 else if q.kind = 4 ∨ q.kind = 5 then (bI x).1 * dM 1 (bI y).1 else (bI x).1) := by
  rw [nz,zy hk,hi]
  show (jg q.kind (jg q.kind (0,0) 0 (bI x)) 1 (bI y)).1 = _
  unfold jg
  simp [hc]
 rw [e]
 exact capI_eq (by rw [← e]; omega)
def bj (r : LRun) (q : LQuery) : List LCol := (dQ ⟨r.s,r.vars⟩ q).1
theorem lO {r : LRun} {q : LQuery} (h : SmallQ q) : gU r q = some (bj r q) := by
 unfold gU
 rw [cols_ok _ q h]
 rfl
def gR (r : LRun) (cols : List LCol) (q : LQuery) (x : Rq) : Bool := lG (cg (bf r cols x) (e0Q q))
def qD (q : LQuery) (l : Rows) : Rows := (l.take (q.offset.toNat + q.count.toNat)).drop q.offset.toNat
def dK (r : LRun) (q : LQuery) (cs : List (List LCol)) (ins : List Rows) : Rows :=
 if q.kind = 1 then (match r.st.find? fun x=>x.table == q.table with | some x=>x.rows | none=>[])
 else if q.kind = 4 ∨ q.kind = 5 then kI (gR r (cs.getD 0 [] ++ cs.getD 1 []) q) (q.kind == 5) (List.replicate (cs.getD 1 []).length .nul) (ins.getD 0 []) (ins.getD 1 [])
 else if q.kind = 6 then ins.getD 0 [] ++ ins.getD 1 []
 else if q.kind = 7 then mf (ins.getD 0 []) (ins.getD 1 [])
 else if q.kind = 2 then (ins.getD 0 []).filter (gR r (cs.getD 0 []) q)
 else if q.kind = 3 then (ins.getD 0 []).map fun x=>q.exprs.map fun e=>cg (bf r (cs.getD 0 []) x) e
 else if q.kind = 8 then mR r (cs.getD 0 []) q (ins.getD 0 [])
 else if q.kind = 9 then (fF r q (cs.getD 0 []) (ins.getD 0 [])).getD []
 else qD q (ins.getD 0 [])
def bd (r : LRun) (q : LQuery) : Rows := dK r q (q.inputs.map (bj r)) (q.inputs.attach.map fun x=>bd r x.1)
termination_by SizeOf.sizeOf q
decreasing_by exact LQuery.inputs_lt x.2
theorem ew (r : LRun) (q : LQuery) : bd r q = dK r q (q.inputs.map (bj r)) (q.inputs.map (bd r)) := by
 rw [bd,List.attach_map_val (f := bd r)]
theorem find_st {s : LSchema} {st : List LRelation} (h : InstOk s st) (name : List UInt8) : ∀ t,s.tables.find? (fun t=>t.name == name) = some t → ∃ x,st.find? (fun x=>x.table == name) = some x ∧ x.rows.length ≤ 24 ∧ ∀ row ∈ x.rows,fw t.columns row := by
 obtain ⟨hl,ho,ht⟩ := h
 intro t hf
 generalize s.tables = ts at *
 induction ts generalizing st with
 | nil=>simp at hf
 | cons a ts ih =>
  cases st with
  | nil=>simp at hl
  | cons r st =>
   obtain ⟨h1,h2,h3⟩ := ht 0 r a rfl rfl
   rw [List.find?_cons] at hf ⊢
   rw [h1]
   cases hn : a.name == name with
   | true =>
    rw [hn] at hf
    simp at hf
    subst hf
    exact ⟨r,rfl,h2,h3⟩
   | false =>
    rw [hn] at hf
    simp only at hf ⊢
    exact ih (by simpa using hl) (fun i r' t' a b=>ho (i + 1) r' t' (by simpa using a) (by simpa using b)) (fun i r' t' a b=>ht (i + 1) r' t' (by simpa using a) (by simpa using b)) hf
structure RowsOk (r : LRun) (q : LQuery) : Prop where
 pos : 1 ≤ (bI q).1
 len : ((bd r q).length : Int) ≤ (bI q).1
 fits : ∀ row ∈ bd r q,fw (bj r q) row
structure QOk (r : LRun) (q : LQuery) : Prop where
 small : SmallQ q
 cols : (dQ ⟨r.s,r.vars⟩ q).2 = 0
 most : (bI q).2 ≤ 20000
 params : nC r (eV q)
theorem params_sub {q x : LQuery} (h : x ∈ q.inputs) : ∀ p ∈ eV x,p ∈ eV q := by
 intro p hp
 obtain ⟨l,hl,hp⟩ := List.mem_flatten.1 hp
 obtain ⟨y,hy,rfl⟩ := List.mem_map.1 hl
 exact List.mem_flatten.2 ⟨_,List.mem_map.2 ⟨y,mem_nodes h hy,rfl⟩,hp⟩
theorem QOk.sub {r : LRun} {q x : LQuery} (h : QOk r q) (hx : x ∈ q.inputs) : QOk r x :=
 ⟨h.small.sub hx,(lD h.cols).2.1 x hx,(gW h.most).2 x hx,fun i k hm=>h.params i k (params_sub hx _ hm)⟩
theorem QOk.expr {r : LRun} {q : LQuery} (h : QOk r q) {e : LExpr} (he : e ∈ q.exprs) : nC r (cB e) := fun i k hm=>h.params i k (List.mem_flatten.2 ⟨gJ q,List.mem_map.2 ⟨q,ph q,rfl⟩,List.mem_append_left _ (List.mem_flatten.2 ⟨_,List.mem_map.2 ⟨e,he,rfl⟩,hm⟩)⟩)
theorem QOk.agg {r : LRun} {q : LQuery} (h : QOk r q) {a : LAggregateCall} (ha : a ∈ q.aggregates) : nC r ((a.args.map cB).flatten) := fun i k hm=>h.params i k (List.mem_flatten.2 ⟨gJ q,List.mem_map.2 ⟨q,ph q,rfl⟩,List.mem_append_right _ (List.mem_flatten.2 ⟨_,List.mem_map.2 ⟨a,ha,rfl⟩,hm⟩)⟩)
theorem e0_mem {q : LQuery} (h : q.exprs.length = 1) : e0Q q ∈ q.exprs := by
 unfold e0Q
 cases hq : q.exprs with
 | nil=>rw [hq] at h; simp at h
 | cons a l=>simp
theorem joinR_mem {f : Rq → Bool} {left : Bool} {pad row : Rq} {a b : Rows} (h : row ∈ kI f left pad a b) : ∃ x ∈ a,(∃ y ∈ b,row = x ++ y) ∨ (left = true ∧ row = x ++ pad) := by
 unfold kI at h
 obtain ⟨l,hl,hr⟩ := List.mem_flatten.1 h
 obtain ⟨x,hx,rfl⟩ := List.mem_map.1 hl
 refine ⟨x,hx,?_⟩
 unfold padR at hr
 split at hr
 ·rename_i hc; simp at hr; exact .inr ⟨hc.1,hr⟩
 ·unfold iF at hr
  obtain ⟨y,hy,rfl⟩ := List.mem_map.1 (List.mem_filter.1 hr).1
  exact .inl ⟨y,hy,rfl⟩
theorem two {q : LQuery} (h : q.inputs.length = 2) : ∃ x y,q.inputs = [x,y] := by
 match hq : q.inputs,h with
 | [x,y],_=>exact ⟨x,y,rfl⟩
theorem one {q : LQuery} (h : q.inputs.length = 1) : ∃ x,q.inputs = [x] := by
 match hq : q.inputs,h with
 | [x],_=>exact ⟨x,rfl⟩
theorem colsR_out {r : LRun} {q : LQuery} (h : QOk r q) : (iS ⟨r.s,r.vars⟩ q (q.inputs.map (bj r))).2 = 0 ∧ bj r q = (iS ⟨r.s,r.vars⟩ q (q.inputs.map (bj r))).1 := by
 obtain ⟨_,_,h3,h4,_⟩ := lD h.cols
 exact ⟨h3,h4⟩
theorem set_fits {kind : Int} {a b : List LCol} {row : Rq} (h : (lb kind a b).2 = 0) (hr : fw a row ∨ (kind = 6 ∧ fw b row)) : fw (lb kind a b).1 row := by
 unfold lb at h ⊢
 by_cases hc : a.length = b.length ∧ a.map LCol.kind = b.map LCol.kind
 ·rw [zp hc]
  refine ⟨?_,fun i c x hci hx=>?_⟩
  ·rcases hr with hr | ⟨_,hr⟩
   ·simp [hr.1,hc.1]
   ·simp [hr.1,hc.1]
  ·rw [List.getElem?_zipWith] at hci
   cases ha : a[i]? with
   | none=>rw [ha] at hci; simp at hci
   | some u =>
    cases hb : b[i]? with
    | none=>rw [ha,hb] at hci; simp at hci
    | some v =>
     rw [ha,hb] at hci
     simp only [zo] at hci
     subst hci
     have hk : u.kind = v.kind := by
      have := congrArg (fun l=>l[i]?) hc.2
      simpa [ha,hb] using this
     rcases hr with hr | ⟨h6,hr⟩
     ·exact (hr.2 i u x ha hx).weak fun hn=>by simp [hn]
     ·have := hr.2 i v x hb hx
      rw [← hk] at this
      exact this.weak fun hn=>by simp [hn,h6]
 ·rw [zy hc] at h; simp at h
theorem join_fits {a b : List LCol} {left : Bool} {x y : Rq} (hx : fw a x) (hy : fw b y) : fw (jE a b left) (x ++ y) := by
 unfold jE
 refine hx.append ⟨by simp [hy.1],fun i c v hc hv=>?_⟩
 rw [List.getElem?_map,Option.map_eq_some_iff] at hc
 obtain ⟨d,hd,rfl⟩ := hc
 exact (hy.2 i d v hd hv).weak fun hn=>by simp [hn]
theorem pad_fits {a b : List LCol} {x : Rq} (hx : fw a x) : fw (jE a b true) (x ++ List.replicate b.length .nul) := by
 unfold jE
 refine hx.append ⟨by simp,fun i c v hc hv=>?_⟩
 rw [List.getElem?_map,Option.map_eq_some_iff] at hc
 obtain ⟨d,hd,rfl⟩ := hc
 rw [List.getElem?_replicate] at hv
 split at hv
 ·cases hv; exact iN (by simp)
 ·cases hv
theorem rows_fit {r : LRun} (hr : RunOk r) : ∀ q : LQuery,QOk r q → RowsOk r q := by
 refine LQuery.ind fun q ih h=>?_
 have hs := pt (lD h.cols).1
 obtain ⟨ho,hcol⟩ := colsR_out h
 have hself := h.small.self
 have hm := (gW h.most).1
 have kk : q.kind = 1 ∨ q.kind = 2 ∨ q.kind = 3 ∨ q.kind = 4 ∨ q.kind = 5 ∨ q.kind = 6 ∨ q.kind = 7 ∨ q.kind = 8 ∨ q.kind = 9 ∨ q.kind = 10 := by have := hs.kind; omega
 have hall : ∀ x ∈ q.inputs,RowsOk r x := fun x hx=>ih x hx (h.sub hx)
 rcases kk with k | k | k | k | k | k | k | k | k | k
 ·-- scan
  have hmq := most_scan k
  unfold iS at ho hcol
  rw [zp k] at ho hcol
  cases hf : r.s.tables.find? (fun t=>t.name == q.table) with
  | none=>rw [hf] at ho; simp at ho
  | some t =>
   rw [hf] at hcol
   obtain ⟨x,hx,hl,hfit⟩ := find_st hr.inst q.table t hf
   have e : bd r q = x.rows := by rw [ew]; unfold dK; rw [zp k,hx]
   exact ⟨by omega,by rw [e]; omega,by rw [e,hcol]; exact hfit⟩
 all_goals have har := hs.arity
 all_goals rw [k] at har
 all_goals simp only [pJ] at har
 ·-- filter
  obtain ⟨x,hi⟩ := one (q := q) (by simpa using har)
  have hx := hall x (by rw [hi]; simp)
  have hmq := pS h.most (by omega) hi
  rw [hi] at hcol ho
  unfold iS at ho hcol
  rw [zy (by omega),zp k] at ho hcol
  have e : bd r q = (bd r x).filter (gR r (bj r x) q) := by rw [ew,hi]; unfold dK; rw [zy (by omega),zy (by omega),zy (by omega),zy (by omega),zp k]; rfl
  have hcx : bj r q = bj r x := hcol
  have := List.length_filter_le (gR r (bj r x) q) (bd r x)
  refine ⟨by rw [hmq]; exact hx.pos,by rw [hmq,e]; have := hx.len; omega,fun row hrow=>?_⟩
  rw [e] at hrow
  rw [hcx]
  exact hx.fits row (List.mem_filter.1 hrow).1
 ·-- project
  obtain ⟨x,hi⟩ := one (q := q) (by simpa using har)
  have hx := hall x (by rw [hi]; simp)
  have hmq := pS h.most (by omega) hi
  rw [hi] at hcol ho
  unfold iS at ho hcol
  rw [zy (by omega),zy (by omega),zy (by omega),zy (by omega),zp (.inl k)] at ho hcol
  have e : bd r q = (bd r x).map fun y=>q.exprs.map fun e=>cg (bf r (bj r x) y) e := by rw [ew,hi]; unfold dK; rw [zy (by omega),zy (by omega),zy (by omega),zy (by omega),zy (by omega),zp k]; rfl
  have hag : q.aggregates = [] := hs.aggs (by omega)
  change (lV r.vars (bj r x) q).2 = 0 at ho
  change bj r q = (lV r.vars (bj r x) q).1 at hcol
  unfold lV at ho hcol
  by_cases hn : (ct r.vars (bj r x) q.exprs q.names).2 = 0
  ·rw [zy (by simpa using hn),hag] at hcol
   simp only [dX,ne_eq,not_true_eq_false,if_false,List.append_nil] at hcol
   obtain ⟨hl,hinv⟩ := lF r.vars (bj r x) q.exprs q.names (hs.named (.inl k)) hn
   refine ⟨by rw [hmq]; exact hx.pos,by rw [hmq,e]; simpa using hx.len,fun row hrow=>?_⟩
   rw [e] at hrow
   obtain ⟨y,hy,rfl⟩ := List.mem_map.1 hrow
   rw [hcol]
   refine fw.map hl fun i e' c he hc=>?_
   obtain ⟨ht,d,hd,hk,hnl⟩ := hinv i e' he
   rw [hc] at hd
   cases hd
   rw [hk,hnl]
   exact sX hr (hx.fits y hy) ht (h.expr (eB he))
  ·rw [zp hn] at ho; exact absurd ho hn
 ·-- inner join
  obtain ⟨x,y,hi⟩ := two (q := q) (by simpa using har)
  have hx := hall x (by rw [hi]; simp)
  have hy := hall y (by rw [hi]; simp)
  have hmq := nG h.most (by omega) hi
  rw [zy (by omega),zp (.inl k)] at hmq
  rw [hi] at hcol ho
  unfold iS at ho hcol
  rw [zy (by omega),zy (by omega),zp (.inl k)] at ho hcol
  have e : bd r q = kI (gR r (bj r x ++ bj r y) q) (q.kind == 5) (List.replicate (bj r y).length .nul) (bd r x) (bd r y) := by rw [ew,hi]; unfold dK; rw [zy (by omega),zp (.inl k)]; rfl
  have hcx : bj r q = jE (bj r x) (bj r y) (q.kind == 5) := hcol
  have hb := sD (gR r (bj r x ++ bj r y) q) (q.kind == 5) (List.replicate (bj r y).length .nul) (bd r x) (bd r y)
  have hxl := hx.len
  have hyl := hy.len
  have hpos := hx.pos
  have h1m : 1 ≤ dM 1 (bI y).1 ∧ ((max 1 (bd r y).length : Nat) : Int) ≤ dM 1 (bI y).1 := ⟨jJ _ _,by have := jJ 1 (bI y).1; have := nY 1 (bI y).1; omega⟩
  refine ⟨?_,?_,fun row hrow=>?_⟩
  ·rw [hmq]
   exact Int.le_trans hpos (by have := Int.mul_le_mul_of_nonneg_left h1m.1 (show 0 ≤ (bI x).1 by omega); omega)
  ·rw [e,hmq]
   have h2 : (((bd r x).length * max 1 (bd r y).length : Nat) : Int) ≤ (bI x).1 * dM 1 (bI y).1 := by
    rw [Int.natCast_mul]
    exact Int.mul_le_mul hxl h1m.2 (by omega) (by omega)
   omega
  ·rw [e] at hrow
   rw [hcx]
   obtain ⟨u,hu,⟨v,hv,rfl⟩ | ⟨hl,rfl⟩⟩ := joinR_mem hrow
   ·exact join_fits (hx.fits u hu) (hy.fits v hv)
   ·rw [hl]; exact pad_fits (hx.fits u hu)
 ·-- left join
  obtain ⟨x,y,hi⟩ := two (q := q) (by simpa using har)
  have hx := hall x (by rw [hi]; simp)
  have hy := hall y (by rw [hi]; simp)
  have hmq := nG h.most (by omega) hi
  rw [zy (by omega),zp (.inr k)] at hmq
  rw [hi] at hcol ho
  unfold iS at ho hcol
  rw [zy (by omega),zy (by omega),zp (.inr k)] at ho hcol
  have e : bd r q = kI (gR r (bj r x ++ bj r y) q) (q.kind == 5) (List.replicate (bj r y).length .nul) (bd r x) (bd r y) := by rw [ew,hi]; unfold dK; rw [zy (by omega),zp (.inr k)]; rfl
  have hcx : bj r q = jE (bj r x) (bj r y) (q.kind == 5) := hcol
  have hb := sD (gR r (bj r x ++ bj r y) q) (q.kind == 5) (List.replicate (bj r y).length .nul) (bd r x) (bd r y)
  have hxl := hx.len
  have hyl := hy.len
  have hpos := hx.pos
  have h1m : 1 ≤ dM 1 (bI y).1 ∧ ((max 1 (bd r y).length : Nat) : Int) ≤ dM 1 (bI y).1 := ⟨jJ _ _,by have := jJ 1 (bI y).1; have := nY 1 (bI y).1; omega⟩
  refine ⟨?_,?_,fun row hrow=>?_⟩
  ·rw [hmq]
   exact Int.le_trans hpos (by have := Int.mul_le_mul_of_nonneg_left h1m.1 (show 0 ≤ (bI x).1 by omega); omega)
  ·rw [e,hmq]
   have h2 : (((bd r x).length * max 1 (bd r y).length : Nat) : Int) ≤ (bI x).1 * dM 1 (bI y).1 := by
    rw [Int.natCast_mul]
    exact Int.mul_le_mul hxl h1m.2 (by omega) (by omega)
   omega
  ·rw [e] at hrow
   rw [hcx]
   obtain ⟨u,hu,⟨v,hv,rfl⟩ | ⟨hl,rfl⟩⟩ := joinR_mem hrow
   ·exact join_fits (hx.fits u hu) (hy.fits v hv)
   ·rw [hl]; exact pad_fits (hx.fits u hu)
 ·-- union
  obtain ⟨x,y,hi⟩ := two (q := q) (by simpa using har)
  have hx := hall x (by rw [hi]; simp)
  have hy := hall y (by rw [hi]; simp)
  have hmq := nG h.most (by omega) hi
  rw [zp k] at hmq
  rw [hi] at hcol ho
  unfold iS at ho hcol
  rw [zy (by omega),zy (by omega),zy (by omega),zp (.inl k)] at ho hcol
  have e : bd r q = bd r x ++ bd r y := by rw [ew,hi]; unfold dK; rw [zy (by omega),zy (by omega),zp k]; rfl
  change (lb q.kind (bj r x) (bj r y)).2 = 0 at ho
  change bj r q = (lb q.kind (bj r x) (bj r y)).1 at hcol
  have := hx.len
  have := hy.len
  have := hx.pos
  have := hy.pos
  refine ⟨by omega,by rw [e,hmq]; simp; omega,fun row hrow=>?_⟩
  rw [e] at hrow
  rw [hcol]
  rcases List.mem_append.1 hrow with hrow | hrow
  ·exact set_fits ho (.inl (hx.fits row hrow))
  ·exact set_fits ho (.inr ⟨k,hy.fits row hrow⟩)
 ·-- difference
  obtain ⟨x,y,hi⟩ := two (q := q) (by simpa using har)
  have hx := hall x (by rw [hi]; simp)
  have hmq := nG h.most (by omega) hi
  rw [zy (by omega),zy (by omega)] at hmq
  rw [hi] at hcol ho
  unfold iS at ho hcol
  rw [zy (by omega),zy (by omega),zy (by omega),zp (.inr k)] at ho hcol
  have e : bd r q = mf (bd r x) (bd r y) := by rw [ew,hi]; unfold dK; rw [zy (by omega),zy (by omega),zy (by omega),zp k]; rfl
  change (lb q.kind (bj r x) (bj r y)).2 = 0 at ho
  change bj r q = (lb q.kind (bj r x) (bj r y)).1 at hcol
  have hsub := sR (bd r x) (bd r y)
  have := hsub.length_le
  have := hx.len
  have := hx.pos
  refine ⟨by omega,by rw [e,hmq]; omega,fun row hrow=>?_⟩
  rw [e] at hrow
  rw [hcol]
  exact set_fits ho (.inl (hx.fits row (hsub.subset hrow)))
 ·-- aggregation
  obtain ⟨x,hi⟩ := one (q := q) (by simpa using har)
  have hx := hall x (by rw [hi]; simp)
  have hmq := pS h.most (by omega) hi
  rw [hi] at hcol ho
  unfold iS at ho hcol
  rw [zy (by omega),zy (by omega),zy (by omega),zy (by omega),zp (.inr k)] at ho hcol
  have e : bd r q = mR r (bj r x) q (bd r x) := by rw [ew,hi]; unfold dK; rw [zy (by omega),zy (by omega),zy (by omega),zy (by omega),zy (by omega),zy (by omega),zp k]; rfl
  change (lV r.vars (bj r x) q).2 = 0 at ho
  change bj r q = (lV r.vars (bj r x) q).1 at hcol
  have hxl := hx.len
  have hxp := hx.pos
  have hxm := (gW h.most).2 x (by rw [hi]; simp)
  have hxm1 := (gW hxm).1
  unfold lV at ho hcol
  by_cases hn : (ct r.vars (bj r x) q.exprs q.names).2 = 0
  ·rw [zy (by simpa using hn)] at hcol ho
   by_cases hg : (dX r.vars (bj r x) q.aggregates).2 = 0
   ·rw [zy (by simpa using hg)] at hcol
    obtain ⟨hl,hinv⟩ := lF r.vars (bj r x) q.exprs q.names (hs.named (.inr k)) hn
    obtain ⟨hl2,hinv2⟩ := ow r.vars (bj r x) q.aggregates hg
    have hkeys := qj (fun x_1=>q.exprs.map fun e=>cg (bf r (bj r x) x_1) e) (bd r x) (if q.exprs = [] then [[]] else [])
    have hlen : ((mR r (bj r x) q (bd r x)).length : Int) ≤ (bI x).1 := by
     unfold mR
     rw [zl]
     by_cases hee : q.exprs = []
     ·-- without keys there is one group
      have : ∀ (l ks : Rows),ks = [[]] → fB (fun x_1=>q.exprs.map fun e=>cg (bf r (bj r x) x_1) e) ks l = [[]] := by
       intro l
       induction l with
       | nil=>intro ks hk; simpa [fB] using hk
       | cons z l ih2 =>
        intro ks hk
        rw [fB]
        refine ih2 _ ?_
        rw [zp (by rw [hk,hee]; simp),hk]
      rw [this _ _ (by rw [zp hee])]
      simp
      omega
     ·rw [zy hee] at hkeys ⊢
      simp at hkeys
      omega
    refine ⟨by rw [hmq]; exact hxp,by rw [hmq,e]; exact hlen,fun row hrow=>?_⟩
    rw [e] at hrow
    rw [hcol]
    unfold mR at hrow
    obtain ⟨kk,hkk,rfl⟩ := List.mem_map.1 hrow
    refine fw.append ?_ ?_
    ·rcases (ql _ _ _ _).1 hkk with hk0 | ⟨y,hy,rfl⟩
     ·split at hk0
      ·rename_i hee
       simp at hk0
       subst hk0
       rw [hee] at hl ⊢
       exact ⟨by simpa using hl.symm,fun i c v hc hv=>by simp at hv⟩
      ·simp at hk0
     ·refine fw.map hl fun i e' c he hc=>?_
      obtain ⟨ht,d,hd,hk,hnl⟩ := hinv i e' he
      rw [hc] at hd
      cases hd
      rw [hk,hnl]
      exact sX hr (hx.fits y hy) ht (h.expr (eB he))
    ·refine ⟨by simp [hl2],fun i c v hc hv=>?_⟩
     rw [List.getElem?_map,Option.map_eq_some_iff] at hv
     obtain ⟨a,ha,rfl⟩ := hv
     obtain ⟨hq,d,hd,hk,hnl⟩ := hinv2 i a ha
     rw [hc] at hd
     cases hd
     rw [hk,hnl]
     refine agg_fits hr hq (fun row hrow=>hx.fits row (List.mem_filter.1 hrow).1) ?_ (h.agg (eB ha))
     unfold fM
     exact Nat.le_trans (List.length_filter_le _ _) (by omega)
   ·rw [zp hg] at ho; exact absurd ho hg
  ·rw [zp hn] at ho; exact absurd ho hn
 ·-- sort
  obtain ⟨x,hi⟩ := one (q := q) (by simpa using har)
  have hx := hall x (by rw [hi]; simp)
  have hmq := pS h.most (by omega) hi
  rw [hi] at hcol ho
  unfold iS at ho hcol
  rw [zy (by omega),zy (by omega),zy (by omega),zy (by omega),zy (by omega),zp k] at ho hcol
  have hxm := (gW h.most).2 x (by rw [hi]; simp)
  have hxm1 := (gW hxm).1
  have hxl := hx.len
  obtain ⟨l',hsort,hperm⟩ := sort_ok r q (bj r x) (bd r x) (by omega) hself.1
  have e : bd r q = l' := by rw [ew,hi]; unfold dK; rw [zy (by omega),zy (by omega),zy (by omega),zy (by omega),zy (by omega),zy (by omega),zy (by omega),zp k]; show (fF r q (bj r x) (bd r x)).getD [] = l'; rw [hsort]; rfl
  have hcx : bj r q = bj r x := by
   by_cases hse : iK r.vars (bj r x) q.exprs = 0
   ·exact hcol.trans (by show (if iK r.vars (bj r x) q.exprs ≠ 0 then _ else _ : List LCol × Int).1 = _; rw [zy (by simpa using hse)]; rfl)
   ·exact absurd (by
     have : (if iK r.vars (bj r x) q.exprs ≠ 0 then (([],iK r.vars (bj r x) q.exprs) : List LCol × Int) else (bj r x,0)).2 = 0 := ho
     rw [zp hse] at this
     exact this) hse
  refine ⟨by rw [hmq]; exact hx.pos,by rw [hmq,e,hperm.length_eq]; exact hxl,fun row hrow=>?_⟩
  rw [e] at hrow
  rw [hcx]
  exact hx.fits row (hperm.mem_iff.1 hrow)
 ·-- limit
  obtain ⟨x,hi⟩ := one (q := q) (by simpa using har)
  have hx := hall x (by rw [hi]; simp)
  have hmq := pS h.most (by omega) hi
  rw [hi] at hcol ho
  unfold iS at ho hcol
  rw [zy (by omega),zy (by omega),zy (by omega),zy (by omega),zy (by omega),zy (by omega)] at ho hcol
  have hcx : bj r q = bj r x := hcol
  have e : bd r q = qD q (bd r x) := by rw [ew,hi]; unfold dK; rw [zy (by omega),zy (by omega),zy (by omega),zy (by omega),zy (by omega),zy (by omega),zy (by omega),zy (by omega)]; rfl
  have hsub : (qD q (bd r x)).Sublist (bd r x) := (List.drop_sublist _ _).trans (List.take_sublist _ _)
  have := hsub.length_le
  have := hx.len
  refine ⟨by rw [hmq]; exact hx.pos,by rw [hmq,e]; omega,fun row hrow=>?_⟩
  rw [e] at hrow
  rw [hcx]
  exact hx.fits row (hsub.subset hrow)
end
end Go.Proofs.YtppmcepdcpmpcaaGreatDoor
