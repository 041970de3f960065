/- queryParametersAreConstantsUpto_holds, part 5: the layer, the plain functions and what they compute; conditions as in the statement. -/
import Derived.Test.YtlddibnpcmlobaaGreatQpd
set_option maxHeartbeats 4000000
namespace Go.Proofs.YtlddibnpcmlobaaGreat
noncomputable section
open Go Go.Ab
attribute [local irreducible] V Ao Do Gh Eff PH IntKind.wrap
set_option maxRecDepth 4000
def hZ (c : LChecker) (q : LQuery) (inA : List (List LCol)) : Option ((List LCol) × Int) :=
 cond (q.kind == (1 : Int))
  (ah (cO c.s.tables (fun a0=>some (eA a0 q))) fun x25 =>
  cond (decide (x25 < (0 : Int)))
   (some ([],4))
   (ah (aO c.s.tables x25) fun (x32 : LTable) =>
   some (x32.columns,0)))
  (cond (q.kind == (2 : Int))
   (ah (aO inA 0) fun (x39 : List LCol) =>
   ah (aO inA 0) fun (x43 : List LCol) =>
   ah (aO q.exprs 0) fun (x47 : LExpr) =>
   bH (cF c x43 x47) fun x49 =>
   some (x39,x49))
   (bH (
    cond (q.kind == (4 : Int))
     ((q.kind == (4 : Int)))
     ((q.kind == (5 : Int)))) fun (t1 : Bool) =>
   cond t1
    (ah (aO inA 0) fun (x54 : List LCol) =>
    ah (aO inA 1) fun (x58 : List LCol) =>
    ah (aM (σ := List LCol) (ρ := Empty) (fun (_ : Nat) (x2 : LCol) (s2 : List LCol) =>
     cond x2.nullable
      (ah (dL 32 s2 ([(LCol.mk x2.name x2.kind true)] : List LCol)) fun (x76 : List LCol) =>
      some (.next x76))
      (ah (dL 32 s2 ([(LCol.mk x2.name x2.kind (q.kind == (5 : Int)))] : List LCol)) fun (x76 : List LCol) =>
      some (.next x76))) 0 x58 x54) fun fl2=>fl2.thenP fun (s2 : List LCol) =>
    ah (aO q.exprs 0) fun (x83 : LExpr) =>
    bH (cF c s2 x83) fun x85 =>
    some (s2,x85))
    (bH (
     cond (q.kind == (6 : Int))
      ((q.kind == (6 : Int)))
      ((q.kind == (7 : Int)))) fun (t3 : Bool) =>
    cond t3
     (ah (aO inA 0) fun (x92 : List LCol) =>
     ah (aO inA 1) fun (x95 : List LCol) =>
     ah (iw q.kind x92 x95) fun x97 =>
     some (x97.1,x97.2))
     (bH (
      cond (q.kind == (3 : Int))
       ((q.kind == (3 : Int)))
       ((q.kind == (8 : Int)))) fun (t4 : Bool) =>
     cond t4
      (ah (aO inA 0) fun (x106 : List LCol) =>
      ah (ez c q x106) fun x108 =>
      some (x108.1,x108.2))
      (cond (q.kind == (9 : Int))
       (ah (aM (σ := Unit) (ρ := ((List LCol) × Int)) (fun (_ : Nat) (x5 : LExpr) (_ : Unit) =>
        ah (aO inA 0) fun (x122 : List LCol) =>
        bH (cE x122 c.vars x5) fun x127 =>
        cond (x127.2.2 != (0 : Int))
         (some (.ret ([],x127.2.2)))
         (some (.next ()))) 0 q.exprs ()) fun fl5=>fl5.thenR fun (_ : Unit) =>
       ah (aO inA 0) fun (x136 : List LCol) =>
       some (x136,0))
       (ah (aO inA 0) fun (x136 : List LCol) =>
       some (x136,0)))))))
theorem qB (c : LChecker) (q : LQuery) (inA : List (List LCol)) (r : (List LCol) × Int) (H : hZ c q inA = some r) :
  aT Tryz.prog 74 [(.agg (dX c)),(.agg (aK q)),(.list 41 (inA.map (aq 49 aW)))] (.tup [(.list 49 (r.1.map aW)),(al r.2)]) := by
 unfold hZ at H
 refine PH.ax Tryz.func74 Tryz.ntmps74 ?_
 refine ab (aa (au ?_))
 refine au ?_
 refine aj 2 tk rfl (ac (ab (av 2 tk rfl (ap (av 2 tk rfl ?_)))))
 refine aN rfl H (fun H=>?_) (fun H=>?_)
 ·refine ab (aa (aj 4 tk rfl ?_))
  obtain ⟨x25,h25,H⟩ := aE H
  have s25 := gY c.s.tables (fun a0=>some (eA a0 q)) Tryz.call96 (fun a0 r h=>(aI h) ▸ pB a0 q) _ h25
  refine ae Tryz.call91 (fu.r) s25 ?_
  refine ak tk rfl (ac (ab (av 2 tk rfl ?_)))
  refine aN rfl H (fun H=>?_) (fun H=>?_)
  ·refine av 2 tk rfl ?_
   obtain rfl := aI H
   refine bw tk rfl (ps := [(.val (.slice none 0 0)),(al 4)]) ⟨_,_,rfl,rfl,_,_,rfl,rfl,rfl⟩ (PLe.of2 (PLe2.tup (iB.cons (PLe2.nil tk rfl) (iB.cons (PLe2.of_eq rfl) iB.nil))))
  refine ao (ab (aa (aj 4 tk rfl ?_)))
  obtain ⟨x32,k32,H⟩ := bL H
  refine bd tk k32.1 (aX (fun _=>rfl) k32.2) ?_
  refine aj 2 tk rfl ?_
  have s35 := ql (m := 35) x32.columns
  refine ae Tryz.call77 (fu.r) (PFun.jy s35) ?_
  refine aj 2 tk rfl (ac ?_)
  exact bu tk H rfl
 refine av 2 tk rfl ?_
 refine aN rfl H (fun H=>?_) (fun H=>?_)
 ·refine ab (aJ tk mok ⟨false,false,[]⟩ [0,1,2,3,4,5,6,7,8,9,10,11,12,13] rfl (by decide +kernel) rfl (bo rfl ?_))
  obtain ⟨x39,k39,H⟩ := bL H
  refine bT k39.1 (aX (fun _=>rfl) k39.2) ?_
  refine bc 3 rfl ?_
  obtain ⟨x43,k43,H⟩ := bL H
  refine bT k43.1 (aX (fun _=>rfl) k43.2) ?_
  refine bc 3 rfl ?_
  obtain ⟨x47,k47,H⟩ := bL H
  refine bT k47.1 (aX dq k47.2) ?_
  refine bo rfl ?_
  obtain ⟨x49,h49,H⟩ := db H
  have s49 := kr c x43 x47
  rw [h49] at s49
  refine am Tryz.call97 (fu.r) s49 ?_
  refine bc 2 rfl (aP ?_)
  exact bu tk H rfl
 refine ab (av 2 tk rfl ?_)
 refine gw (γ := Unit) (fun t1 g1=>⟨138,upd (upd (upd (upd (upd (fun _=>.any) 50 (aL t1)) 18 (al q.kind)) 4 (.ptr (aK q))) 3 (.ptr (dX c))) 2 (.list 41 (inA.map (aq 49 aW))),fun _=>none,fun _=>none⟩) H (fun _ H=>?_) (fun t1 g1 H=>?_)
 ·refine aN rfl H (fun H=>?_) (fun H=>?_)
  ·refine ao ?_
   refine bp _ () H Gh.d
  refine bm 2 tk rfl ?_
  refine bp _ () H Gh.d
 refine aN rfl H (fun H=>?_) (fun H=>?_)
 ·refine ab (aa (ak tk rfl ?_))
  obtain ⟨x54,k54,H⟩ := bL H
  refine bd tk k54.1 (aX (fun _=>rfl) k54.2) ?_
  refine ak tk rfl ?_
  have s56 := ql (m := 56) x54
  refine ln (g := 77) rfl rfl rfl Tryz.call77 (fu.r) rfl rfl s56 (fun g56=>?_)
  refine ak tk rfl (ac (ab (ab (aa (ak tk rfl ?_)))))
  obtain ⟨x58,k58,H⟩ := bL H
  refine bd tk k58.1 (aX (fun _=>rfl) k58.2) ?_
  refine ak tk rfl (aG tk (zl _) ?_)
  refine ak tk rfl (ac ?_)
  refine iv (γ := OwnRef) tk 61 60 59 (fun s2 g2=>upd (upd (upd (fun _=>.any) 9 (.own 56 g2 (s2.map aW).length)) 4 (.ptr (aK q))) 3 (.ptr (dX c))) nB (fun s2 g2=>upd (fun _=>none) 56 (some ⟨g2,49,(s2.map aW),true⟩)) g56 H (fun fl2 Hp2 j2 s2 g2 hz2 hl2 x2 fb2 hx2 H hg2=>?_) (fun s2 g2 H=>?_)
  ·refine ab (ap (ab (aa ?_)))
   refine bd tk (zn j2) (bD (fun _=>rfl) hx2) ?_
   refine ak tk rfl ?_
   refine aY tk fun b11=>?_
   refine ag tk ?_
   refine ac (ab (aa (ak tk rfl (ai tk ?_))))
   refine ak tk rfl ?_
   refine bF rfl rfl rfl H (fun H=>?_) (fun H=>?_)
   ·refine aj 5 tk rfl (ag tk ?_)
    refine ac (aa (ak tk rfl (ai tk ?_)))
    refine cz tk (rows' := List.map aW ([(LCol.mk x2.name x2.kind true)] : List LCol)) (je.refl _) ?_
    obtain ⟨x76,h76,H⟩ := aE H
    have k76 := cV h76
    refine cy (rows2' := List.map aW ([(LCol.mk x2.name x2.kind true)] : List LCol)) (rows' := List.map aW x76) tk rfl rfl rfl rfl rfl rfl rfl rfl rfl rfl rfl rfl rfl (je.refl _) (eu k76.1) (er k76.2.1) (eB k76.2.2) fun g76=>?_
    refine ak tk rfl (ac (aw (bm 2 tk rfl ?_)))
    exact bG g76 H hl2 hg2
   refine aj 5 tk rfl (ag tk ?_)
   refine ac (aa (ak tk rfl (ai tk ?_)))
   refine cz tk (rows' := List.map aW ([(LCol.mk x2.name x2.kind (q.kind == (5 : Int)))] : List LCol)) (je.refl _) ?_
   obtain ⟨x76,h76,H⟩ := aE H
   have k76 := cV h76
   refine cy (rows2' := List.map aW ([(LCol.mk x2.name x2.kind (q.kind == (5 : Int)))] : List LCol)) (rows' := List.map aW x76) tk rfl rfl rfl rfl rfl rfl rfl rfl rfl rfl rfl rfl rfl (je.refl _) (eu k76.1) (er k76.2.1) (eB k76.2.2) fun g76=>?_
   refine ak tk rfl (ac (aw (bm 2 tk rfl ?_)))
   exact bG g76 H hl2 hg2
  refine ab (eo 9 rfl rfl rfl (aJ tk mok ⟨false,false,[]⟩ [0,1,2,3,4,5,6,7,8,9] rfl (by decide +kernel) rfl (bc 5 rfl ?_)))
  obtain ⟨x83,k83,H⟩ := bL H
  refine bT k83.1 (aX dq k83.2) ?_
  refine bo rfl ?_
  obtain ⟨x85,h85,H⟩ := db H
  have s85 := kr c s2 x83
  rw [h85] at s85
  refine am Tryz.call97 (fu.r) s85 ?_
  refine bc 2 rfl (aP ?_)
  exact bu tk H rfl
 refine ab (av 2 tk rfl ?_)
 refine gw (γ := Unit) (fun t3 g3=>⟨138,upd (upd (upd (upd (upd (fun _=>.any) 86 (aL t3)) 18 (al q.kind)) 4 (.ptr (aK q))) 3 (.ptr (dX c))) 2 (.list 41 (inA.map (aq 49 aW))),fun _=>none,fun _=>none⟩) H (fun _ H=>?_) (fun t3 g3 H=>?_)
 ·refine aN rfl H (fun H=>?_) (fun H=>?_)
  ·refine ao ?_
   refine bp _ () H Gh.d
  refine bm 2 tk rfl ?_
  refine bp _ () H Gh.d
 refine aN rfl H (fun H=>?_) (fun H=>?_)
 ·refine ab (aJ tk mok ⟨false,false,[]⟩ [0,1,2,3,4,5,6,7,8,9,10,11,12] rfl (by decide +kernel) rfl (bc 3 rfl ?_))
  obtain ⟨x92,k92,H⟩ := bL H
  refine bT k92.1 (aX (fun _=>rfl) k92.2) ?_
  refine bc 2 rfl ?_
  obtain ⟨x95,k95,H⟩ := bL H
  refine bT k95.1 (aX (fun _=>rfl) k95.2) ?_
  refine bo rfl ?_
  obtain ⟨x97,h97,H⟩ := aE H
  have s97 := qZ q.kind x92 x95 _ h97
  refine am Tryz.call98 (fu.r) s97 ?_
  refine bc 4 rfl (aP ?_)
  exact bu tk H rfl
 refine ab (av 2 tk rfl ?_)
 refine gw (γ := Unit) (fun t4 g4=>⟨138,upd (upd (upd (upd (upd (fun _=>.any) 100 (aL t4)) 18 (al q.kind)) 4 (.ptr (aK q))) 3 (.ptr (dX c))) 2 (.list 41 (inA.map (aq 49 aW))),fun _=>none,fun _=>none⟩) H (fun _ H=>?_) (fun t4 g4 H=>?_)
 ·refine aN rfl H (fun H=>?_) (fun H=>?_)
  ·refine ao ?_
   refine bp _ () H Gh.d
  refine bm 2 tk rfl ?_
  refine bp _ () H Gh.d
 refine aN rfl H (fun H=>?_) (fun H=>?_)
 ·refine ab (aJ tk mok ⟨false,false,[]⟩ [0,1,2,3,4,5,6,7,8,9] rfl (by decide +kernel) rfl (bc 3 rfl ?_))
  obtain ⟨x106,k106,H⟩ := bL H
  refine bT k106.1 (aX (fun _=>rfl) k106.2) ?_
  refine bo rfl ?_
  obtain ⟨x108,h108,H⟩ := aE H
  have s108 := mq c q x106 _ h108
  refine am Tryz.call99 (fu.r) s108 ?_
  refine bc 4 rfl (aP ?_)
  exact bu tk H rfl
 refine av 2 tk rfl ?_
 refine aN rfl H (fun H=>?_) (fun H=>?_)
 ·refine ab (aa (aj 2 tk rfl (aG tk (zl _) ?_)))
  refine ak tk rfl (ac ?_)
  refine fC tk 116 115 114 (fun s5 g5=>upd (upd (fun _=>.any) 3 (.ptr (dX c))) 2 (.list 41 (inA.map (aq 49 aW)))) nB nO () H (fun fl5 Hp5 j5 s5 g5 hz5 hl5 x5 fb5 hx5 H hg5=>?_) (fun s5 g5 H=>?_)
  ·refine ab (ap (ab (aa (bd tk (zn j5) (bD dq hx5) ?_))))
   refine ak tk rfl ?_
   refine aY tk fun b13=>?_
   refine ag tk ?_
   refine ac (ab (aJ tk mok ⟨true,false,[123,125]⟩ [0,1,2,3,4,5,6,7,8,9,10,11,12,13] rfl (by decide +kernel) rfl (bo rfl ?_)))
   obtain ⟨x122,k122,H⟩ := bL H
   refine bT k122.1 (aX (fun _=>rfl) k122.2) ?_
   refine bc 3 rfl (aH ?_)
   obtain ⟨x127,h127,H⟩ := db H
   have s127 := mG x122 c.vars x5
   rw [h127] at s127
   refine am Tryz.call100 (fu.r) s127 ?_
   refine bc 7 rfl (aP (av 2 tk rfl ?_))
   refine aN rfl H (fun H=>?_) (fun H=>?_)
   ·refine av 3 tk rfl ?_
    obtain rfl := aI H
    have e5 : fl5 = .ret _ := hg5
    subst e5
    obtain rfl := bi Hp5
    refine bw tk rfl (ps := [(.val (.slice none 0 0)),(al x127.2.2)]) ⟨_,_,rfl,rfl,_,_,rfl,rfl,rfl⟩ (PLe.of2 (PLe2.tup (iB.cons (PLe2.nil tk rfl) (iB.cons (PLe2.of_eq rfl) iB.nil))))
   refine ao (aw (bm 2 tk rfl ?_))
   exact bG () H hl5 hg5
  refine aw (ab (aa (ak tk rfl ?_)))
  obtain ⟨x136,k136,H⟩ := bL H
  refine bd tk k136.1 (aX (fun _=>rfl) k136.2) ?_
  refine aj 3 tk rfl (ac ?_)
  exact bu tk H rfl
 refine ao (aw (ab (aa (ak tk rfl ?_))))
 obtain ⟨x136,k136,H⟩ := bL H
 refine bd tk k136.1 (aX (fun _=>rfl) k136.2) ?_
 refine aj 3 tk rfl (ac ?_)
 exact bu tk H rfl
def iK (rA : LRun) (q : LQuery) (cols : List LCol) (inA : Rz) : Option (Rz) :=
 bH (
  cond ((q.exprs.length : Int) == (0 : Int))
   (([[]],[[]]))
   (([],[]))) fun (t1 : Rz × List Rz) =>
 ah (aM (σ := Rz × List Rz) (ρ := Empty) (fun (_ : Nat) (x2 : Rq) (s2 : Rz × List Rz) =>
  ah (dz rA cols x2 q.exprs) fun x38 =>
  ah (bO s2.1 (fun a0=>fW a0 x38)) fun x41 =>
  ah (eW (x41.2.length = s2.1.length) ()) fun (_ : Unit) =>
  ah (
   cond (decide (x41.1 < (0 : Int)))
    (ah (dL 24 x41.2 ([x38] : Rz)) fun (x49 : Rz) =>
    ah (dL 24 s2.2 ([[]] : List Rz)) fun (x52 : List Rz) =>
    some (x49,x52,(x41.2.length : Int)))
    (some (x41.2,s2.2,x41.1))) fun (t7 : Rz × List Rz × Int) =>
  ah (aO t7.2.1 t7.2.2) fun (x57 : Rz) =>
  ah (dL 24 x57 ([x2] : Rz)) fun (x61 : Rz) =>
  ah (aO t7.2.1 t7.2.2) fun (_ : Rz) =>
  bH (t7.2.1.set t7.2.2.toNat x61) fun (y8 : List Rz) =>
  some (.next (t7.1,y8))) 0 inA (t1.1,t1.2)) fun fl2=>fl2.thenP fun (s2 : Rz × List Rz) =>
 ah (eW (s2.2.length * 24 ≤ 2 ^ 47) ()) fun (_ : Unit) =>
 ah (nS (s2.1.length : Int)) fun (n10 : Nat) =>
 ah (aM (σ := Rz) (ρ := Empty) (fun (j10 : Nat) (_ : Nat) (s10 : Rz) =>
  ah (aO s2.1 (j10 : Int)) fun (x69 : Rq) =>
  ah (aM (σ := Rq) (ρ := Empty) (fun (_ : Nat) (x13 : LAggregateCall) (s13 : Rq) =>
   ah (aO s2.2 (j10 : Int)) fun (x86 : Rz) =>
   ah (jx rA x13 cols x86) fun x88 =>
   ah (dL 32 s13 ([x88] : Rq)) fun (x90 : Rq) =>
   some (.next x90)) 0 q.aggregates x69) fun fl13=>fl13.thenP fun (s13 : Rq) =>
  ah (dL 24 s10 ([s13] : Rz)) fun (x95 : Rz) =>
  some (.next x95)) 0 (List.range n10) []) fun fl10=>fl10.thenP fun (s10 : Rz) =>
 some s10
theorem rB (rA : LRun) (q : LQuery) (cols : List LCol) (inA : Rz) (r : Rz) (H : iK rA q cols inA = some r) :
  aT Tryz.prog 62 [(.agg (dJ rA)),(.agg (aK q)),(.list 49 (cols.map aW)),(.list 55 (inA.map (aq 54 af)))] (.list 55 (r.map (aq 54 af))) := by
 unfold iK at H
 refine PH.ax Tryz.func62 Tryz.ntmps62 ?_
 refine ab (aa (au ?_))
 refine au ?_
 refine ak tk rfl (ac (av 1 tk rfl (av 1 tk rfl (ab (ab (aa (aj 2 tk rfl (aG tk (zl _) ?_))))))))
 refine ak tk rfl (ac ?_)
 refine gw (γ := OwnRef × (Nat × Nat × (Nat → OwnRef))) (fun t1 g1=>⟨98,upd (upd (upd (upd (upd (upd (fun _=>.any) 10 (.val (iO g1.2.1 t1.2.length g1.2.2.1))) 9 (.own 25 g1.1 (t1.1.map (aq 54 af)).length)) 5 (.ptr (aK q))) 4 (.ptr (dJ rA))) 3 (.list 55 (inA.map (aq 54 af)))) 2 (.list 49 (cols.map aW)),upd (fun _=>none) 990 (iI g1.2.1 g1.2.2.2 (List.map (List.map (aq 54 af)) t1.2) g1.2.2.1),et 55 g1.2.2.2 (List.map (List.map (aq 54 af)) t1.2) (upd (fun _=>none) 25 (some ⟨g1.1,55,(t1.1.map (aq 54 af)),true⟩))⟩) H (fun _ H=>?_) (fun t1 g1 H=>?_)
 ·refine aN rfl H (fun H=>?_) (fun H=>?_)
  ·refine aa ?_
   refine mu (rows' := List.map (aq 54 af) ([[]] : Rz)) tk rfl rfl rfl rfl rfl rfl rfl rfl rfl (iB.cons (PLe2.nil tk rfl) iB.nil) fun g25=>?_
   refine tq 990 55 tk rfl rfl rfl rfl rfl rfl rfl rfl fun bf26 cf26=>?_
   refine aj 2 tk rfl (ac ?_)
   refine bp _ (g25,(bf26,cf26,(fun _=>⟨none,0⟩))) H (Gh.le (ay (ay (ay (ay (ay (ay br)))))) (kl rfl aV) (jK (fun i rs h=>by first | exact ec h | (simp only [lD,gr,gZ,Nat.reduceLT]; exact ec h)) (bI aU)))
  refine ao (hX tk 9 25 (e := 55) rfl rfl ?_)
  refine bp _ (⟨none,0⟩,(0,0,fun _=>⟨none,0⟩)) H (Gh.le (ay (ay (ay (ay (ay (ay br)))))) (sY aV) (sW (bI aU)))
 refine ab (ab (aa (ak tk rfl (aG tk (zl _) ?_))))
 refine ak tk rfl (ac ?_)
 obtain ⟨fl2,H2,Hp2⟩ := aE H
 refine eV tk 27 rfl rfl (fun hz2 _=>?_)
 rw [zl] at hz2
 refine fA (τ := Rz × List Rz) (γ := OwnRef × (Nat × Nat × (Nat → OwnRef))) (fun s2 g2=>⟨98,upd (upd (upd (upd (upd (fun _=>.any) 10 (.val (iO g2.2.1 s2.2.length g2.2.2.1))) 9 (.own 25 g2.1 (s2.1.map (aq 54 af)).length)) 5 (.ptr (aK q))) 4 (.ptr (dJ rA))) 2 (.list 49 (cols.map aW)),upd (fun _=>none) 990 (iI g2.2.1 g2.2.2.2 (List.map (List.map (aq 54 af)) s2.2) g2.2.2.1),et 55 g2.2.2.2 (List.map (List.map (aq 54 af)) s2.2) (upd (fun _=>none) 25 (some ⟨g2.1,55,(s2.1.map (aq 54 af)),true⟩))⟩) (fun t=>fl2 = .next t) ?_ (fun s2 g2 hn2=>?_)
 ·refine ap ?_
  refine jz (fun j2 s2 g2=>⟨98,upd (upd (upd (upd (upd (upd (upd (upd (fun _=>.any) 29 (al (j2 : Int))) 28 (al (inA.length : Int))) 27 (.list 55 (inA.map (aq 54 af)))) 10 (.val (iO g2.2.1 s2.2.length g2.2.2.1))) 9 (.own 25 g2.1 (s2.1.map (aq 54 af)).length)) 5 (.ptr (aK q))) 4 (.ptr (dJ rA))) 2 (.list 49 (cols.map aW)),upd (fun _=>none) 990 (iI g2.2.1 g2.2.2.2 (List.map (List.map (aq 54 af)) s2.2) g2.2.2.1),et 55 g2.2.2.2 (List.map (List.map (aq 54 af)) s2.2) (upd (fun _=>none) 25 (some ⟨g2.1,55,(s2.1.map (aq 54 af)),true⟩))⟩) (g1.1,(g1.2.1,g1.2.2.1,g1.2.2.2)) H2 (Gh.le (ay (ay (ay (ay (ay (ay (ay (ay br)))))))) (kl rfl aV) (jK (fun i rs h=>by first | exact ec h | (simp only [lD,gr,gZ,Nat.reduceLT]; exact ec h)) (bI aU))) (fun j2 s2 g2 hj2 hr2=>?_)
  refine av 1 tk rfl (ab ?_)
  refine aQ rfl (fun h=>?_) (fun h=>?_)
  ·have hl2 := pI h
   obtain ⟨x2,fb2,hx2,H,hg2⟩ := rMc hl2 hr2
   refine ao (ab (ap (ab (aa ?_))))
   refine bd tk (zn j2) (bD (fun _=>rfl) hx2) ?_
   refine aj 2 tk rfl (ac (ab (aa (aj 5 tk rfl ?_))))
   obtain ⟨x38,h38,H⟩ := aE H
   have s38 := jI rA cols x2 q.exprs _ h38
   refine ae Tryz.call61 (fu.r) s38 ?_
   refine aY tk fun b13=>?_
   refine ag tk ?_
   refine ac (ab (aa (ak tk rfl (dM (Gh.freezeB 13 rfl rfl rfl rfl) (ak tk rfl ?_)))))
   obtain ⟨x41,h41,H⟩ := aE H
   have s41 := fv g2.1 s2.1 (fun a0=>fW a0 x38) Tryz.call85 (fun a0 r h=>qA a0 x38 r h) _ h41
   obtain ⟨_,q41_0,H⟩ := aE H
   have l41_0 := (dE q41_0).1
   have z41_0 : (List.map (aq 54 af) s2.1).length = (List.map (aq 54 af) x41.2).length := by simpa using (l41_0).symm
   refine ew (g := 79) rfl rfl rfl Tryz.call79 [] [(25,0)] rfl rfl rfl rfl (fu.of2 (iB.cons (PLe2.own rfl) (iB.cons (PLe2.of_eq rfl) iB.nil))) (by rw [dS,dr,dQ]; rfl) s41 ?_
   rintro u41 H41h ⟨rfl,rfl⟩
   refine ⟨_,rfl,?_⟩
   refine dM (st' := ⟨_,_,upd (fun _=>none) 990 (iI g2.2.1 g2.2.2.2 (List.map (List.map (aq 54 af)) s2.2) g2.2.2.1),et 55 g2.2.2.2 (List.map (List.map (aq 54 af)) s2.2) (upd (fun _=>none) 25 (some ⟨g2.1,55,(x41.2.map (aq 54 af)),true⟩))⟩) (Gh.le (dj _ _) (kl rfl aV) (jK (fun i rs h=>by first | exact ec h | (simp only [lD,gr,gZ,Nat.reduceLT]; exact ec h)) (bI aU))) ?_
   refine ak tk rfl (ac (ab (av 2 tk rfl ?_)))
   refine gS (γ := OwnRef × (Nat × Nat × (Nat → OwnRef))) (fun t7 g7=>⟨98,upd (upd (upd (upd (upd (upd (upd (upd (upd (upd (fun _=>.any) 29 (al (j2 : Int))) 28 (al (inA.length : Int))) 27 (.list 55 (inA.map (aq 54 af)))) 14 (al t7.2.2)) 12 (.list 54 (x2.map af))) 10 (.val (iO g7.2.1 t7.2.1.length g7.2.2.1))) 9 (.own 25 g7.1 (t7.1.map (aq 54 af)).length)) 5 (.ptr (aK q))) 4 (.ptr (dJ rA))) 2 (.list 49 (cols.map aW)),upd (fun _=>none) 990 (iI g7.2.1 g7.2.2.2 (List.map (List.map (aq 54 af)) t7.2.1) g7.2.2.1),et 55 g7.2.2.2 (List.map (List.map (aq 54 af)) t7.2.1) (upd (fun _=>none) 25 (some ⟨g7.1,55,(t7.1.map (aq 54 af)),true⟩))⟩) H (fun _ H=>?_) (fun t7 g7 H=>?_)
   ·refine aN rfl H (fun H=>?_) (fun H=>?_)
    ·refine ab (aa (ak tk rfl (gO tk (z41_0.trans (zl _)) ?_)))
     refine ak tk rfl (ac (aa (aj 2 tk rfl (cz tk (rows' := List.map (aq 54 af) ([x38] : Rz)) (je.refl _) ?_))))
     obtain ⟨x49,h49,H⟩ := aE H
     have k49 := cV h49
     refine cy (rows2' := List.map (aq 54 af) ([x38] : Rz)) (rows' := List.map (aq 54 af) x49) tk rfl rfl rfl rfl rfl rfl rfl rfl rfl rfl rfl z41_0 rfl (je.refl _) (eu k49.1) (er k49.2.1) (eB k49.2.2) fun g49=>?_
     refine ak tk rfl (aF tk ?_)
     obtain ⟨x52,h52,H⟩ := aE H
     have k52 := cV h52
     refine dM (st' := ⟨_,_,upd (fun _=>none) 990 (iI g2.2.1 g2.2.2.2 (List.map (List.map (aq 54 af)) s2.2) g2.2.2.1),et 55 g2.2.2.2 (List.map (List.map (aq 54 af)) s2.2) (upd (fun _=>none) 25 (some ⟨g49,55,(x49.map (aq 54 af)),true⟩))⟩) (Gh.le (dj _ _) (kl rfl aV) (jK (fun i rs h=>by first | exact ec h | (simp only [lD,gr,gZ,Nat.reduceLT]; exact ec h)) (bI aU))) ?_
     refine tj 990 55 tk rfl rfl rfl rfl rfl rfl rfl rfl rfl rfl rfl (zl _).symm rfl rfl (by rw [zl]; exact k52.1) (by rw [zl]; exact k52.2.1) fun bf52 cf52=>?_
     have hz52 : List.map (List.map (aq 54 af)) x52 = List.map (List.map (aq 54 af)) s2.2 ++ [[]] := by rw [k52.2.2,List.map_append]; rfl
     refine dM (st' := ⟨_,_,upd (fun _=>none) 990 (iI bf52 (upd g2.2.2.2 s2.2.length ⟨none,0⟩) (List.map (List.map (aq 54 af)) x52) cf52),et 55 (upd g2.2.2.2 s2.2.length ⟨none,0⟩) (List.map (List.map (aq 54 af)) x52) (upd (fun _=>none) 25 (some ⟨g49,55,(x49.map (aq 54 af)),true⟩))⟩) (Gh.le (dj _ _) (kl (by rw [hz52]; rfl) aV) (jK (fun i rs h=>by rw [hz52] at h; exact ec h) (bI aU))) ?_
     refine lC 52 (q := (.val (iO bf52 x52.length cf52))) rfl (PLe.q (by rw [k52.2.2,List.length_append]; rfl)) ?_
     refine aj 2 tk rfl (ac ?_)
     refine bp _ (g49,(bf52,cf52,(upd g2.2.2.2 s2.2.length ⟨none,0⟩))) (aI H) (Gh.le (ay (ay (ay (ay (ay (ay (ay (ay (ay (ay br)))))))))) (kl rfl aV) (jK (fun i rs h=>by first | exact ec h | (simp only [lD,gr,gZ,Nat.reduceLT]; exact ec h)) (bI aU)))
    refine ao ?_
    refine bp _ (g2.1,(g2.2.1,g2.2.2.1,g2.2.2.2)) (aI H) (Gh.le (ay (ay (ay (bP (PLe.of2 (PLe2.of_eq (congrArg (PV.own 25 g2.1) z41_0))) (ay (ay (ay (ay (ay (ay br)))))))))) (kl rfl aV) (jK (fun i rs h=>by first | exact ec h | (simp only [lD,gr,gZ,Nat.reduceLT]; exact ec h)) (bI aU)))
   refine aa (aj 4 tk rfl ?_)
   obtain ⟨x57,k57,H⟩ := bL H
   have wk57 : (List.map (List.map (aq 54 af)) t7.2.1)[t7.2.2.toNat]? = some (List.map (aq 54 af) x57) := by rw [List.getElem?_map,k57.2]; rfl
   refine sI 990 tk rfl rfl rfl rfl rfl rfl rfl rfl ⟨k57.1,(zg.1 k57.2).1⟩ rfl ?_
   refine tz (hok := pC _ _ _) tk rfl rfl rfl rfl rfl (rc wk57) (famCells_get wk57) rfl (ak tk rfl (cz tk (rows' := List.map (aq 54 af) ([x2] : Rz)) (je.refl _) ?_))
   obtain ⟨x61,h61,H⟩ := aE H
   have k61 := cV h61
   refine cy (rows2' := List.map (aq 54 af) ([x2] : Rz)) (rows' := List.map (aq 54 af) x61) tk rfl rfl rfl rfl rfl rfl rfl rfl rfl rfl (ec wk57) rfl rfl (je.refl _) (eu k61.1) (er k61.2.1) (eB k61.2.2) fun g61=>?_
   obtain ⟨x62,k62,H⟩ := bL H
   have wk62 : (List.map (List.map (aq 54 af)) t7.2.1)[t7.2.2.toNat]? = some (List.map (aq 54 af) x62) := by rw [List.getElem?_map,k62.2]; rfl
   refine sI 990 tk rfl rfl rfl rfl rfl rfl rfl rfl ⟨k62.1,(zg.1 k62.2).1⟩ rfl ?_
   obtain ⟨y8,hy8,H⟩ := db H
   have hzy8 : List.map (List.map (aq 54 af)) y8 = (List.map (List.map (aq 54 af)) t7.2.1).set t7.2.2.toNat (List.map (aq 54 af) x61) := by rw [← hy8,List.map_set]
   have hly8 : y8.length = t7.2.1.length := by rw [← hy8,List.length_set]
   refine tf (hok := pC _ _ _) tk rfl rfl rfl rfl rfl rfl (rc wk62) rfl rfl (by rw [nV]; exact Nat.lt_of_lt_of_le (zg.1 wk62).1 (jw _ _)) (famCells_set wk62 _) ?_
   refine dM (st' := ⟨_,_,upd (fun _=>none) 990 (iI g7.2.1 (upd g7.2.2.2 t7.2.2.toNat g61) (List.map (List.map (aq 54 af)) y8) g7.2.2.1),et 55 (upd g7.2.2.2 t7.2.2.toNat g61) (List.map (List.map (aq 54 af)) y8) (upd (fun _=>none) 25 (some ⟨g7.1,55,(t7.1.map (aq 54 af)),true⟩))⟩) (Gh.le (dj _ _) (kl (famB_put wk62 hzy8) aV) (jK (famO_put wk62 hzy8) (tv (by rw [eh _ _ (by unfold bK; omega)]; rfl) aU))) ?_
   refine lC 10 (q := (.val (iO g7.2.1 y8.length g7.2.2.1))) rfl (PLe.q (by rw [hly8]; rfl)) ?_
   refine lC 53 (q := (.val (iO g7.2.1 y8.length g7.2.2.1))) rfl (PLe.q (by rw [hly8]; rfl)) ?_
   refine lC 55 (q := (.val (iO g7.2.1 y8.length g7.2.2.1))) rfl (PLe.q (by rw [hly8]; rfl)) ?_
   refine ac (aw (bm 2 tk rfl ?_))
   exact bG (g7.1,(g7.2.1,g7.2.2.1,(upd g7.2.2.2 t7.2.2.toNat g61))) H hl2 hg2 (Gh.le (ay (ay (ay (ay (ay (ay (ay (bP (PLe.q (eF (by omega))) br)))))))) (kl rfl aV) (jK (fun i rs h=>by first | exact ec h | (simp only [lD,gr,gZ,Nat.reduceLT]; exact ec h)) (bI aU)))
  have hn2 := rMd (pw h) hr2
  refine aD rfl ?_
  refine bp s2 g2 hn2 (Gh.le (ay (ay (ay (ay (ay br))))) (kl rfl aV) (jK (fun i rs h=>by first | exact ec h | (simp only [lD,gr,gZ,Nat.reduceLT]; exact ec h)) (bI aU)))
 have H := dC hn2 Hp2
 refine av 1 tk rfl (ab (ab (aa (ak tk rfl (gO tk (zl _) ?_)))))
 refine ak tk rfl (ac ?_)
 obtain ⟨_,hf9,H⟩ := aE H
 have kf9 := (dE hf9).1
 refine sQ 10 990 tk (e := 55) (e' := 42) (rows := List.map (aq 55 (aq 54 af)) s2.2) rfl rfl rfl (zl _).symm rfl (by rw [zl]; exact kf9) (by rw [zl]; unfold maxLen; omega) (by rw [List.map_map]; rfl) ?_
 obtain ⟨n10,hs10,H⟩ := aE H
 have hz10 := oX hs10
 obtain ⟨fl10,H10,Hp10⟩ := aE H
 refine fA (τ := Rz) (γ := OwnRef) (fun s10 g10=>⟨98,upd (fun _=>.any) 15 (.own 95 g10 (s10.map (aq 54 af)).length),fun _=>none,upd (fun _=>none) 95 (some ⟨g10,55,(s10.map (aq 54 af)),true⟩)⟩) (fun t=>fl10 = .next t) ?_ (fun s10 g10 hn10=>?_)
 ·refine ap (hX tk 15 95 (e := 55) rfl rfl ?_)
  refine jz (fun j10 s10 g10=>⟨98,upd (upd (upd (upd (upd (upd (upd (upd (fun _=>.any) 66 (al (j10 : Int))) 65 (al (s2.1.length : Int))) 64 (.own 25 g2.1 (s2.1.map (aq 54 af)).length)) 15 (.own 95 g10 (s10.map (aq 54 af)).length)) 10 (.list 42 (s2.2.map (aq 55 (aq 54 af))))) 5 (.ptr (aK q))) 4 (.ptr (dJ rA))) 2 (.list 49 (cols.map aW)),fun _=>none,upd (upd (fun _=>none) 95 (some ⟨g10,55,(s10.map (aq 54 af)),true⟩)) 25 (some ⟨g2.1,55,(s2.1.map (aq 54 af)),true⟩)⟩) (⟨none,0⟩) H10 Gh.d (fun j10 s10 g10 hj10 hr10=>?_)
  refine av 1 tk rfl (ab ?_)
  refine aQ rfl (fun h=>?_) (fun h=>?_)
  ·have hl10 := natLt hz10 h
   obtain ⟨x10,fb10,hx10,H,hg10⟩ := rMc hl10 hr10
   obtain rfl := natX hx10
   refine ao (ab (ap (ab (aa (ak tk rfl ?_)))))
   obtain ⟨x69,k69,H⟩ := bL H
   refine mj (tag := 25) rfl (fun ho25=>?_)
   refine lp tk ⟨k69.1,(dT k69.2)⟩ (dY ho25 k69.2) ?_
   refine jQ tk (aX (fun _=>rfl) k69.2) ?_
   refine aj 2 tk rfl (ac (ab (aa (ak tk rfl ?_))))
   have s72 := clone_34 (m := 72) x69
   refine ln (g := 34) rfl rfl rfl Tryz.call34 (fu.r) rfl rfl s72 (fun g72=>?_)
   refine ak tk rfl (ac (ab (ab (aa (aj 2 tk rfl (aG tk (zl _) ?_))))))
   refine ak tk rfl (ac ?_)
   refine iv (γ := OwnRef) tk 76 75 74 (fun s13 g13=>upd (upd (upd (upd (upd (upd (upd (upd (upd (upd (fun _=>.any) 66 (al (j10 : Int))) 65 (al (s2.1.length : Int))) 64 (.own 25 g2.1 (s2.1.map (aq 54 af)).length)) 18 (.own 72 g13 (s13.map af).length)) 16 (al (j10 : Int))) 15 (.own 95 g10 (s10.map (aq 54 af)).length)) 10 (.list 42 (s2.2.map (aq 55 (aq 54 af))))) 5 (.ptr (aK q))) 4 (.ptr (dJ rA))) 2 (.list 49 (cols.map aW))) nB (fun s13 g13=>upd (upd (upd (fun _=>none) 95 (some ⟨g10,55,(s10.map (aq 54 af)),true⟩)) 72 (some ⟨g13,54,(s13.map af),true⟩)) 25 (some ⟨g2.1,55,(s2.1.map (aq 54 af)),true⟩)) g72 H (fun fl13 Hp13 j13 s13 g13 hz13 hl13 x13 fb13 hx13 H hg13=>?_) (fun s13 g13 H=>?_)
   ·refine ab (ap (ab (aa ?_)))
    refine bd tk (zn j13) (bD (fun _=>rfl) hx13) ?_
    refine ak tk rfl ?_
    refine aY tk fun b20=>?_
    refine ag tk ?_
    refine ac ?_
    refine gL (tag := 25) rfl (fun ho25=>?_)
    refine gL (tag := 72) rfl (fun ho72=>?_)
    refine gL (tag := 95) rfl (fun ho95=>?_)
    refine aJ tk mok ⟨true,false,[81,87]⟩ [0,1,2,3,4,5,6,7,8,9,10,11] rfl (by decide +kernel) rfl (bc 2 rfl (aH ?_))
    refine bc 3 rfl ?_
    obtain ⟨x86,k86,H⟩ := bL H
    refine bT k86.1 (aX (fun _=>rfl) k86.2) ?_
    refine bo rfl ?_
    obtain ⟨x88,h88,H⟩ := aE H
    have s88 := su rA x13 cols x86 _ h88
    refine am Tryz.call86 (fu.r) s88 ?_
    refine bo rfl ?_
    obtain ⟨x90,h90,H⟩ := aE H
    have k90 := cV h90
    refine kR (rows2' := List.map af ([x88] : Rq)) (rows' := List.map af x90) tk rfl rfl rfl rfl rfl rfl rfl rfl rfl rfl rfl rfl rfl rfl (je.refl _) (eu k90.1) (er k90.2.1) (eB k90.2.2) fun g90=>?_
    refine bo rfl (aP (aw (bm 2 tk rfl ?_)))
    exact bG g90 H hl13 hg13
   refine eo 18 rfl rfl rfl (aa (aj 2 tk rfl (cz tk (rows' := List.map (aq 54 af) ([s13] : Rz)) (je.refl _) ?_)))
   obtain ⟨x95,h95,H⟩ := aE H
   have k95 := cV h95
   refine cy (rows2' := List.map (aq 54 af) ([s13] : Rz)) (rows' := List.map (aq 54 af) x95) tk rfl rfl rfl rfl rfl rfl rfl rfl rfl rfl rfl rfl rfl (je.refl _) (eu k95.1) (er k95.2.1) (eB k95.2.2) fun g95=>?_
   refine ak tk rfl (ac (aw (bm 2 tk rfl ?_)))
   exact bG g95 H hl10 hg10 (Gh.le (ay (ay (ay (ay (ay (ay (ay (bP (PLe.q (qj hz10 hl10)) br)))))))) aV (bI (bI aU)))
  have hn10 := rMd (natGe hz10 h) hr10
  refine aD rfl ?_
  refine bp s10 g10 hn10 Gh.d
 have H := dC hn10 Hp10
 refine av 2 tk rfl (eo 8 rfl rfl rfl ?_)
 exact bu tk H rfl
def dD (a : Rq) (b : Rq) (c0 : LRun) (c1 : List LCol) (c2 : LQuery) : Option (Int) :=
 ah (dz c0 c1 a c2.exprs) fun x13 =>
 ah (dz c0 c1 b c2.exprs) fun x19 =>
 ah (ic x13 x19 c2.descending) fun x22 =>
 some x22
theorem qS (a : Rq) (b : Rq) (c0 : LRun) (c1 : List LCol) (c2 : LQuery) (r : Int) (H : dD a b c0 c1 c2 = some r) :
  aT Tryz.prog 88 [(.list 54 (a.map af)),(.list 54 (b.map af)),(.ptr (dJ c0)),(.ptr [(.list 49 (c1.map aW))]),(.ptr (aK c2))] (al r) := by
 unfold dD at H
 refine PH.ax Tryz.func88 Tryz.ntmps88 ?_
 refine av 1 tk rfl (ab (aJ tk mok ⟨false,false,[]⟩ [0,1,2,3,4,6,7,8,9,10,12,13,5,11,14,15] rfl (by decide +kernel) rfl (bc 12 rfl ?_)))
 obtain ⟨x13,h13,H⟩ := aE H
 have s13 := jI c0 c1 a c2.exprs _ h13
 refine am Tryz.call61 (fu.r) s13 ?_
 obtain ⟨x19,h19,H⟩ := aE H
 have s19 := jI c0 c1 b c2.exprs _ h19
 refine am Tryz.call61 (fu.r) s19 ?_
 obtain ⟨x22,h22,H⟩ := aE H
 have s22 := qC x13 x19 c2.descending _ h22
 refine am Tryz.call89 (fu.r) s22 ?_
 refine bo rfl (aP ?_)
 exact bu tk H rfl
def gV (sA : LSchema) : Option (Int) :=
 bH (
  cond (decide ((sA.tables.length : Int) > (6 : Int)))
   (true)
   (cond (decide ((sA.foreignKeys.length : Int) > (8 : Int)))
    (true)
    ((decide ((sA.constraints.length : Int) > (8 : Int)))))) fun (t1 : Bool) =>
 cond t1
  (some 2)
  (ah (aM (σ := Unit) (ρ := (Int)) (fun (j2 : Nat) (x2 : LTable) (_ : Unit) =>
   ah (fj x2) fun x37 =>
   cond (x37 != (0 : Int))
    (some (.ret x37))
    (cond (decide ((j2 : Int) > (0 : Int)))
     (ah (aO sA.tables (IntKind.i64.wrap ((j2 : Int) - (1 : Int)))) fun (x50 : LTable) =>
     cond (Op.bytesLess x2.name x50.name || x2.name == x50.name)
      (some (.ret 6))
      (some (.next ())))
     (some (.next ())))) 0 sA.tables ()) fun fl2=>fl2.thenR fun (_ : Unit) =>
  ah (aM (σ := Unit) (ρ := (Int)) (fun (j3 : Nat) (x3 : LForeignKey) (_ : Unit) =>
   ah (eE sA x3) fun x66 =>
   cond (x66 != (0 : Int))
    (some (.ret x66))
    (ah (nc sA.foreignKeys 0 (j3 : Int)) fun (x73 : List LForeignKey) =>
    ah (bZ x73 (fun a0=>fV a0 x3)) fun x75 =>
    cond x75
     (some (.ret 5))
     (some (.next ())))) 0 sA.foreignKeys ()) fun fl3=>fl3.thenR fun (_ : Unit) =>
  ah (aM (σ := Unit) (ρ := (Int)) (fun (j4 : Nat) (x4 : LConstraint) (_ : Unit) =>
   ah (eD sA x4) fun x87 =>
   cond (x87 != (0 : Int))
    (some (.ret x87))
    (ah (nc sA.constraints 0 (j4 : Int)) fun (x94 : List LConstraint) =>
    ah (cg x94 x4) fun x96 =>
    cond x96
     (some (.ret 5))
     (some (.next ())))) 0 sA.constraints ()) fun fl4=>fl4.thenR fun (_ : Unit) =>
  some 0)
theorem rG (sA : LSchema) (r : Int) (H : gV sA = some r) :
  aT Tryz.prog 24 [(.agg (cp sA))] (al r) := by
 unfold gV at H
 refine PH.ax Tryz.func24 Tryz.ntmps24 ?_
 refine ab (aa (au ?_))
 refine ak tk rfl (ac (ab (ab ?_)))
 refine gw (γ := Unit) (fun t1 g1=>⟨98,upd (upd (fun _=>.any) 27 (aL t1)) 1 (.ptr (cp sA)),fun _=>none,fun _=>none⟩) H (fun _ H=>?_) (fun t1 g1 H=>?_)
 ·refine aa (aj 2 tk rfl (aG tk (zl _) ?_))
  refine aj 2 tk rfl ?_
  refine bF rfl rfl rfl H (fun H=>?_) (fun H=>?_)
  ·refine aj 11 tk rfl (ac ?_)
   refine bp _ () H Gh.d
  refine aj 2 tk rfl (aG tk (zl _) ?_)
  refine aj 3 tk rfl ?_
  refine bF rfl rfl rfl H (fun H=>?_) (fun H=>?_)
  ·refine aj 5 tk rfl (ac ?_)
   refine bp _ () H Gh.d
  refine aj 2 tk rfl (aG tk (zl _) ?_)
  refine aj 2 tk rfl (ac ?_)
  refine bp _ () H Gh.d
 refine aN rfl H (fun H=>?_) (fun H=>?_)
 ·refine av 1 tk rfl ?_
  exact bu tk H rfl
 refine ao (ab (ab (aa (aj 2 tk rfl (aG tk (zl _) ?_)))))
 refine ak tk rfl (ac ?_)
 refine fC tk 31 30 29 (fun s2 g2=>upd (fun _=>.any) 1 (.ptr (cp sA))) nB nO () H (fun fl2 Hp2 j2 s2 g2 hz2 hl2 x2 fb2 hx2 H hg2=>?_) (fun s2 g2 H=>?_)
 ·refine ab (ap (ab (aa (ak tk rfl ?_))))
  refine bd tk (zn j2) (bD (fun _=>rfl) hx2) ?_
  refine ak tk rfl ?_
  refine aY tk fun b4=>?_
  refine ak tk rfl (ag tk ?_)
  refine ac (ab (ab (aa (ai tk ?_))))
  obtain ⟨x37,h37,H⟩ := aE H
  have s37 := ph x2 _ h37
  refine ae Tryz.call36 (fu.r) s37 ?_
  refine ak tk rfl (ac (av 2 tk rfl ?_))
  refine aN rfl H (fun H=>?_) (fun H=>?_)
  ·refine av 2 tk rfl ?_
   obtain rfl := aI H
   have e2 : fl2 = .ret _ := hg2
   subst e2
   obtain rfl := bi Hp2
   refine bw tk rfl (ps := [(al x37)]) ⟨_,_,rfl,rfl,rfl⟩ (PLe.q rfl)
  refine ao (ab (aJ tk mok ⟨true,false,[47,52]⟩ [0,1,2,3,4,5,6,7,8,9,10,11,12,13] rfl (by decide +kernel) rfl (bc 3 rfl ?_)))
  refine mL H (fun H=>?_) (fun H=>?_)
  ·refine bo rfl (aH ?_)
   refine bc 4 rfl ?_
   obtain ⟨x50,k50,H⟩ := bL H
   refine bT k50.1 (aX (fun _=>rfl) k50.2) ?_
   refine bc 4 rfl (aP ?_)
   refine aN rfl H (fun H=>?_) (fun H=>?_)
   ·refine av 1 tk rfl ?_
    obtain rfl := aI H
    have e2 : fl2 = .ret _ := hg2
    subst e2
    obtain rfl := bi Hp2
    refine bw tk rfl (ps := [(al 6)]) ⟨_,_,rfl,rfl,rfl⟩ (PLe.q rfl)
   refine ao (aw (bm 2 tk rfl ?_))
   exact bG () H hl2 hg2
  refine bc 11 rfl (aP (aB rfl (ao (aw (bm 2 tk rfl ?_)))))
  exact bG () H hl2 hg2
 refine ab (ab (aa (aj 2 tk rfl (aG tk (zl _) ?_))))
 refine ak tk rfl (ac ?_)
 refine fC tk 59 58 57 (fun s3 g3=>upd (fun _=>.any) 1 (.ptr (cp sA))) nB nO () H (fun fl3 Hp3 j3 s3 g3 hz3 hl3 x3 fb3 hx3 H hg3=>?_) (fun s3 g3 H=>?_)
 ·refine ab (ap (ab (aa (ak tk rfl ?_))))
  refine bd tk (zn j3) (bD (fun _=>rfl) hx3) ?_
  refine ak tk rfl ?_
  refine aY tk fun b7=>?_
  refine ak tk rfl (ag tk ?_)
  refine ac (ab (ab (aa (ak tk rfl (ai tk ?_)))))
  obtain ⟨x66,h66,H⟩ := aE H
  have s66 := mN sA x3 _ h66
  refine ae Tryz.call37 (fu.r) s66 ?_
  refine ak tk rfl (ac (av 2 tk rfl ?_))
  refine aN rfl H (fun H=>?_) (fun H=>?_)
  ·refine av 2 tk rfl ?_
   obtain rfl := aI H
   have e3 : fl3 = .ret _ := hg3
   subst e3
   obtain rfl := bi Hp3
   refine bw tk rfl (ps := [(al x66)]) ⟨_,_,rfl,rfl,rfl⟩ (PLe.q rfl)
  refine ao (ab (aa (aj 3 tk rfl ?_)))
  obtain ⟨x73,h73,H⟩ := aE H
  have k73 := oF h73
  refine sC tk rfl rfl rfl rfl rfl (zl _) rfl rfl k73.1 (qb k73.2) rfl (dM (Gh.freezeB 7 rfl rfl rfl rfl) (ak tk rfl ?_))
  obtain ⟨x75,h75,H⟩ := aE H
  have s75 := iD x73 (fun a0=>fV a0 x3) Tryz.call39 (fun a0 r h=>qz a0 x3 r h) _ h75
  refine ae Tryz.call38 (fu.r) s75 ?_
  refine ac ?_
  refine aN rfl H (fun H=>?_) (fun H=>?_)
  ·refine av 1 tk rfl ?_
   obtain rfl := aI H
   have e3 : fl3 = .ret _ := hg3
   subst e3
   obtain rfl := bi Hp3
   refine bw tk rfl (ps := [(al 5)]) ⟨_,_,rfl,rfl,rfl⟩ (PLe.q rfl)
  refine ao (aw (bm 2 tk rfl ?_))
  exact bG () H hl3 hg3
 refine ab (ab (aa (aj 2 tk rfl (aG tk (zl _) ?_))))
 refine ak tk rfl (ac ?_)
 refine fC tk 80 79 78 (fun s4 g4=>upd (fun _=>.any) 1 (.ptr (cp sA))) nB nO () H (fun fl4 Hp4 j4 s4 g4 hz4 hl4 x4 fb4 hx4 H hg4=>?_) (fun s4 g4 H=>?_)
 ·refine ab (ap (ab (aa (ak tk rfl ?_))))
  refine bd tk (zn j4) (bD (fun _=>rfl) hx4) ?_
  refine ak tk rfl ?_
  refine aY tk fun b10=>?_
  refine ak tk rfl (ag tk ?_)
  refine ac (ab (ab (aa (ak tk rfl (ai tk ?_)))))
  obtain ⟨x87,h87,H⟩ := aE H
  have s87 := mK sA x4 _ h87
  refine ae Tryz.call41 (fu.r) s87 ?_
  refine ak tk rfl (ac (av 2 tk rfl ?_))
  refine aN rfl H (fun H=>?_) (fun H=>?_)
  ·refine av 2 tk rfl ?_
   obtain rfl := aI H
   have e4 : fl4 = .ret _ := hg4
   subst e4
   obtain rfl := bi Hp4
   refine bw tk rfl (ps := [(al x87)]) ⟨_,_,rfl,rfl,rfl⟩ (PLe.q rfl)
  refine ao (ab (aJ tk mok ⟨true,false,[92]⟩ [0,1,2,3,4,5] rfl (by decide +kernel) rfl (bc 3 rfl ?_)))
  obtain ⟨x94,h94,H⟩ := aE H
  have k94 := oF h94
  refine Do.subL rfl rfl rfl rfl rfl rfl (zl _) rfl rfl k94.1 (qb k94.2) rfl (aH ?_)
  obtain ⟨x96,h96,H⟩ := aE H
  have s96 := jc x94 x4 _ h96
  refine am Tryz.call42 (fu.r) s96 ?_
  refine aP ?_
  refine aN rfl H (fun H=>?_) (fun H=>?_)
  ·refine av 1 tk rfl ?_
   obtain rfl := aI H
   have e4 : fl4 = .ret _ := hg4
   subst e4
   obtain rfl := bi Hp4
   refine bw tk rfl (ps := [(al 5)]) ⟨_,_,rfl,rfl,rfl⟩ (PLe.q rfl)
  refine ao (aw (bm 2 tk rfl ?_))
  exact bG () H hl4 hg4
 refine av 1 tk rfl ?_
 exact bu tk H rfl
def eI (rec51 : LChecker → LQuery → Option ((List LCol) × Int)) (c : LChecker) (q : LQuery) : Option ((List LCol) × Int) :=
 ah (kf q) fun x16 =>
 cond (!x16)
  (some ([],3))
  (ah (aM (σ := List (List LCol)) (ρ := ((List LCol) × Int)) (fun (_ : Nat) (x1 : LQuery) (s1 : List (List LCol)) =>
   ah (rec51 c x1) fun x28 =>
   cond (x28.2 != (0 : Int))
    (some (.ret ([],x28.2)))
    (ah (dL 24 s1 ([x28.1] : List (List LCol))) fun (x37 : List (List LCol)) =>
    some (.next x37))) 0 q.inputs []) fun fl1=>fl1.thenR fun (s1 : List (List LCol)) =>
  ah (hZ c q s1) fun x43 =>
  cond (x43.2 != (0 : Int))
   (some ([],x43.2))
   (cond (decide ((x43.1.length : Int) > (20 : Int)))
    (some ([],2))
    (ah (aM (σ := Unit) (ρ := ((List LCol) × Int)) (fun (j2 : Nat) (x2 : LCol) (_ : Unit) =>
     ah (nc x43.1 0 (j2 : Int)) fun (x61 : List LCol) =>
     ah (cd x61 (fun a0=>some (cj a0 x2))) fun x63 =>
     cond x63
      (some (.ret ([],23)))
      (some (.next ()))) 0 x43.1 ()) fun fl2=>fl2.thenR fun (_ : Unit) =>
    some (x43.1,0))))
theorem nI (rec51 : LChecker → LQuery → Option ((List LCol) × Int)) (hrec51 : ∀ a0 a1 r,rec51 a0 a1 = some r → aT Tryz.prog 51 [(.agg (dX a0)),(.agg (aK a1))] (.tup [(.list 49 (r.1.map aW)),(al r.2)])) (c : LChecker) (q : LQuery) (r : (List LCol) × Int) (H : eI rec51 c q = some r) :
  aT Tryz.prog 51 [(.agg (dX c)),(.agg (aK q))] (.tup [(.list 49 (r.1.map aW)),(al r.2)]) := by
 unfold eI at H
 refine PH.ax Tryz.func51 Tryz.ntmps51 ?_
 refine ab (aa (au ?_))
 refine au ?_
 refine aj 2 tk rfl (ac (ab (ab (aa (ak tk rfl ?_)))))
 obtain ⟨x16,h16,H⟩ := aE H
 have s16 := W_query_shape q _ h16
 refine ae Tryz.call73 (fu.r) s16 ?_
 refine ak tk rfl (ac ?_)
 refine aN rfl H (fun H=>?_) (fun H=>?_)
 ·refine av 2 tk rfl ?_
  obtain rfl := aI H
  refine bw tk rfl (ps := [(.val (.slice none 0 0)),(al 3)]) ⟨_,_,rfl,rfl,_,_,rfl,rfl,rfl⟩ (PLe.of2 (PLe2.tup (iB.cons (PLe2.nil tk rfl) (iB.cons (PLe2.of_eq rfl) iB.nil))))
 refine ao (av 1 tk rfl (ab (ab (aa (aj 2 tk rfl (aG tk (zl _) ?_))))))
 refine ak tk rfl (ac (hX tk 6 37 (e := 41) rfl rfl ?_))
 refine fC (γ := OwnRef) tk 21 20 19 (fun s1 g1=>upd (upd (upd (fun _=>.any) 6 (.own 37 g1 (s1.map (aq 49 aW)).length)) 3 (.ptr (aK q))) 2 (.ptr (dX c))) nB (fun s1 g1=>upd (fun _=>none) 37 (some ⟨g1,41,(s1.map (aq 49 aW)),true⟩)) (⟨none,0⟩) H (fun fl1 Hp1 j1 s1 g1 hz1 hl1 x1 fb1 hx1 H hg1=>?_) (fun s1 g1 H=>?_)
 ·refine ab (ap (ab (aa (bd tk (zn j1) (bD ci hx1) ?_))))
  refine ak tk rfl ?_
  refine aY tk fun b8=>?_
  refine ag tk ?_
  refine ac (ab (aa (ak tk rfl (ai tk ?_))))
  obtain ⟨x28,h28,H⟩ := aE H
  have s28 := hrec51 c x1 _ h28
  refine ae Tryz.call51 (fu.r) s28 ?_
  refine aj 5 tk rfl (ac (ab (av 2 tk rfl ?_)))
  refine aN rfl H (fun H=>?_) (fun H=>?_)
  ·refine av 3 tk rfl ?_
   obtain rfl := aI H
   have e1 : fl1 = .ret _ := hg1
   subst e1
   obtain rfl := bi Hp1
   refine bw tk rfl (ps := [(.val (.slice none 0 0)),(al x28.2)]) ⟨_,_,rfl,rfl,_,_,rfl,rfl,rfl⟩ (PLe.of2 (PLe2.tup (iB.cons (PLe2.nil tk rfl) (iB.cons (PLe2.of_eq rfl) iB.nil))))
  refine ao (aa (aj 2 tk rfl (cz tk (rows' := List.map (aq 49 aW) ([x28.1] : List (List LCol))) (je.refl _) ?_)))
  obtain ⟨x37,h37,H⟩ := aE H
  have k37 := cV h37
  refine cy (rows2' := List.map (aq 49 aW) ([x28.1] : List (List LCol))) (rows' := List.map (aq 49 aW) x37) tk rfl rfl rfl rfl rfl rfl rfl rfl rfl rfl rfl rfl rfl (je.refl _) (eu k37.1) (er k37.2.1) (eB k37.2.2) fun g37=>?_
  refine ak tk rfl (ac (aw (bm 2 tk rfl ?_)))
  exact bG g37 H hl1 hg1
 refine ab (eo 6 rfl rfl rfl (aa (aj 3 tk rfl ?_)))
 obtain ⟨x43,h43,H⟩ := aE H
 have s43 := qB c q s1 _ h43
 refine ae Tryz.call74 (fu.r) s43 ?_
 refine aj 5 tk rfl (ac (ab (av 2 tk rfl ?_)))
 refine aN rfl H (fun H=>?_) (fun H=>?_)
 ·refine av 3 tk rfl ?_
  obtain rfl := aI H
  refine bw tk rfl (ps := [(.val (.slice none 0 0)),(al x43.2)]) ⟨_,_,rfl,rfl,_,_,rfl,rfl,rfl⟩ (PLe.of2 (PLe2.tup (iB.cons (PLe2.nil tk rfl) (iB.cons (PLe2.of_eq rfl) iB.nil))))
 refine ao (ab (ab (aa (ak tk rfl (aG tk (zl _) ?_)))))
 refine ak tk rfl (ac ?_)
 refine aN rfl H (fun H=>?_) (fun H=>?_)
 ·refine av 2 tk rfl ?_
  obtain rfl := aI H
  refine bw tk rfl (ps := [(.val (.slice none 0 0)),(al 2)]) ⟨_,_,rfl,rfl,_,_,rfl,rfl,rfl⟩ (PLe.of2 (PLe2.tup (iB.cons (PLe2.nil tk rfl) (iB.cons (PLe2.of_eq rfl) iB.nil))))
 refine ao (ab (ab (aa (ak tk rfl (aG tk (zl _) ?_)))))
 refine ak tk rfl (ac ?_)
 refine fC tk 54 53 52 (fun s2 g2=>upd (fun _=>.any) 11 (.list 49 (x43.1.map aW))) nB nO () H (fun fl2 Hp2 j2 s2 g2 hz2 hl2 x2 fb2 hx2 H hg2=>?_) (fun s2 g2 H=>?_)
 ·refine ab (ap (ab (aa (ak tk rfl ?_))))
  refine bd tk (zn j2) (bD (fun _=>rfl) hx2) ?_
  refine ak tk rfl ?_
  refine aY tk fun b14=>?_
  refine ak tk rfl (ag tk ?_)
  refine ac (ab (aa (aj 2 tk rfl ?_)))
  obtain ⟨x61,h61,H⟩ := aE H
  have k61 := oF h61
  refine sC tk rfl rfl rfl rfl rfl (zl _) rfl rfl k61.1 (qb k61.2) rfl (dM (Gh.freezeB 14 rfl rfl rfl rfl) (ak tk rfl ?_))
  obtain ⟨x63,h63,H⟩ := aE H
  have s63 := jB x61 (fun a0=>some (cj a0 x2)) Tryz.call76 (fun a0 r h=>(aI h) ▸ nr a0 x2) _ h63
  refine ae Tryz.call75 (fu.r) s63 ?_
  refine ac ?_
  refine aN rfl H (fun H=>?_) (fun H=>?_)
  ·refine av 2 tk rfl ?_
   obtain rfl := aI H
   have e2 : fl2 = .ret _ := hg2
   subst e2
   obtain rfl := bi Hp2
   refine bw tk rfl (ps := [(.val (.slice none 0 0)),(al 23)]) ⟨_,_,rfl,rfl,_,_,rfl,rfl,rfl⟩ (PLe.of2 (PLe2.tup (iB.cons (PLe2.nil tk rfl) (iB.cons (PLe2.of_eq rfl) iB.nil))))
  refine ao (aw (bm 2 tk rfl ?_))
  exact bG () H hl2 hg2
 refine av 3 tk rfl ?_
 exact bu tk H rfl
def eH : Nat → LChecker → LQuery → Option ((List LCol) × Int)
 | 0,_,_=>none
 | n + 1,v0,v1=>eI (fun b0 b1=>eH n b0 b1) v0 v1
theorem nX  (n : Nat) : (∀ a0 a1 r,eH n a0 a1 = some r → aT Tryz.prog 51 [(.agg (dX a0)),(.agg (aK a1))] (.tup [(.list 49 (r.1.map aW)),(al r.2)])) := by
 induction n with
 | zero=>exact (by intros; rename_i h; exact absurd (show (none : Option _) = some _ from h) (by simp))
 | succ n ih =>
  exact (fun v0 v1 r h=>nI (fun b0 b1=>eH n b0 b1) ih v0 v1  r h)
def eG (c : LChecker) (q : LQuery) : Option ((List LCol) × Int) := ja fun n=>eH n c q
theorem kV (c : LChecker) (q : LQuery) (r : (List LCol) × Int) (H : eG c q = some r) :
  aT Tryz.prog 51 [(.agg (dX c)),(.agg (aK q))] (.tup [(.list 49 (r.1.map aW)),(al r.2)]) := by
 obtain ⟨n,h⟩ := jR H
 exact (nX  n) c q r h
def eK (rA : LRun) (q : LQuery) (cols : List LCol) (inA : Rz) : Option (Rz) :=
 ah (cM inA (fun a0 a1=>dD a0 a1 rA cols q)) fun x14 =>
 ah (eW (x14.length = inA.length) ()) fun (_ : Unit) =>
 some x14
theorem sm (rA : LRun) (q : LQuery) (cols : List LCol) (inA : Rz) (r : Rz) (H : eK rA q cols inA = some r) :
  aT Tryz.prog 63 [(.agg (dJ rA)),(.agg (aK q)),(.list 49 (cols.map aW)),(.list 55 (inA.map (aq 54 af)))] (.list 55 (r.map (aq 54 af))) := by
 unfold eK at H
 refine PH.ax Tryz.func63 Tryz.ntmps63 ?_
 refine ab (aa (au ?_))
 refine au ?_
 refine au ?_
 refine ak tk rfl (ac (ab (aa (ak tk rfl ?_))))
 have s11 := pL (m := 11) inA
 refine ln (g := 53) rfl rfl rfl Tryz.call53 (fu.r) rfl rfl s11 (fun g11=>?_)
 refine ak tk rfl (ac (ab (aa (aj 2 tk rfl ?_))))
 obtain ⟨x14,h14,H⟩ := aE H
 have s14 := jU g11 inA (fun a0 a1=>dD a0 a1 rA cols q) Tryz.call88 (fun a0 a1 r h=>qS a0 a1 rA cols q r h) _ h14
 obtain ⟨_,q14_0,H⟩ := aE H
 have l14_0 := (dE q14_0).1
 have z14_0 : (List.map (aq 54 af) inA).length = (List.map (aq 54 af) x14).length := by simpa using (l14_0).symm
 refine ew (g := 87) rfl rfl rfl Tryz.call87 [] [(11,0)] rfl rfl rfl rfl (fu.of2 (iB.cons (PLe2.own rfl) (iB.cons (PLe2.of_eq rfl) iB.nil))) (by rw [dS,dr,dQ]; rfl) s14 ?_
 rintro u14 H14h ⟨rfl,rfl⟩
 refine ⟨_,rfl,?_⟩
 refine dM (st' := ⟨_,_,fun _=>none,upd (fun _=>none) 11 (some ⟨g11,55,(x14.map (aq 54 af)),true⟩)⟩) (Gh.le (dj _ _) aV (bI aU)) ?_
 refine ac (av 2 tk rfl (eo 8 rfl rfl z14_0 ?_))
 exact bu tk H rfl
def fU (sA : LSchema) (vars : List LCol) (q : LQuery) : Option ((List LCol) × Int) :=
 ah (
  ah (jm q) fun x12 =>
  cond (decide ((x12.length : Int) > (24 : Int)))
   (some true)
   (ah (ke q) fun x17 =>
   cond (decide (x17 > (12 : Int)))
    (some true)
    (ah (fR q) fun x22 =>
    some (decide (x22 > (20000 : Int)))))) fun (t1 : Bool) =>
 cond t1
  (some ([],2))
  (ah (fe q) fun x27 =>
  cond (x27.2 != (0 : Int))
   (some ([],x27.2))
   (ah (eG (LChecker.mk sA vars) q) fun x38 =>
   some (x38.1,x38.2)))
theorem me (sA : LSchema) (vars : List LCol) (q : LQuery) (r : (List LCol) × Int) (H : fU sA vars q = some r) :
  aT Tryz.prog 32 [(.agg (cp sA)),(.list 49 (vars.map aW)),(.agg (aK q))] (.tup [(.list 49 (r.1.map aW)),(al r.2)]) := by
 unfold fU at H
 refine PH.ax Tryz.func32 Tryz.ntmps32 ?_
 refine ab (aa (au ?_))
 refine au ?_
 refine aj 2 tk rfl (ac (ab (ab ?_)))
 refine gS (γ := Unit) (fun t1 g1=>⟨41,upd (upd (upd (upd (fun _=>.any) 24 (aL t1)) 5 (.ptr (aK q))) 3 (.ptr (cp sA))) 1 (.list 49 (vars.map aW)),fun _=>none,fun _=>none⟩) H (fun _ H=>?_) (fun t1 g1 H=>?_)
 ·refine aa (ak tk rfl ?_)
  obtain ⟨x12,h12,H⟩ := aE H
  have s12 := qw (m := 12) q _ h12
  refine ae Tryz.call47 (fu.r) (PFun.jy s12) ?_
  refine aG tk (zl _) ?_
  refine aj 2 tk rfl ?_
  refine bF rfl rfl rfl H (fun H=>?_) (fun H=>?_)
  ·refine aj 9 tk rfl (ac ?_)
   refine bp _ () (aI H) Gh.d
  refine ak tk rfl ?_
  obtain ⟨x17,h17,H⟩ := aE H
  have s17 := W_query_depth q _ h17
  refine ae Tryz.call49 (fu.r) s17 ?_
  refine aj 3 tk rfl ?_
  refine bF rfl rfl rfl H (fun H=>?_) (fun H=>?_)
  ·refine aj 4 tk rfl (ac ?_)
   refine bp _ () (aI H) Gh.d
  refine ak tk rfl ?_
  obtain ⟨x22,h22,H⟩ := aE H
  have s22 := mM q _ h22
  refine ae Tryz.call50 (fu.r) s22 ?_
  refine aj 2 tk rfl (ac ?_)
  refine bp _ () (aI H) Gh.d
 refine aN rfl H (fun H=>?_) (fun H=>?_)
 ·refine av 2 tk rfl ?_
  obtain rfl := aI H
  refine bw tk rfl (ps := [(.val (.slice none 0 0)),(al 2)]) ⟨_,_,rfl,rfl,_,_,rfl,rfl,rfl⟩ (PLe.of2 (PLe2.tup (iB.cons (PLe2.nil tk rfl) (iB.cons (PLe2.of_eq rfl) iB.nil))))
 refine ao (ab (ab (aa (ak tk rfl ?_))))
 obtain ⟨x27,h27,H⟩ := aE H
 have s27 := la q _ h27
 refine ae Tryz.call29 (fu.r) s27 ?_
 refine aj 5 tk rfl (ac (av 2 tk rfl ?_))
 refine aN rfl H (fun H=>?_) (fun H=>?_)
 ·refine av 3 tk rfl ?_
  obtain rfl := aI H
  refine bw tk rfl (ps := [(.val (.slice none 0 0)),(al x27.2)]) ⟨_,_,rfl,rfl,_,_,rfl,rfl,rfl⟩ (PLe.of2 (PLe2.tup (iB.cons (PLe2.nil tk rfl) (iB.cons (PLe2.of_eq rfl) iB.nil))))
 refine ao (ab (aa (aj 3 tk rfl ?_)))
 refine aY tk fun b10=>?_
 refine ag tk ?_
 refine ac (ab (aa (ai tk ?_)))
 refine ak tk rfl ?_
 obtain ⟨x38,h38,H⟩ := aE H
 have s38 := kV (LChecker.mk sA vars) q _ h38
 refine ae Tryz.call51 (fu.r) s38 ?_
 refine aj 4 tk rfl (ac ?_)
 exact bu tk H rfl
def gk (rA : LRun) (q : LQuery) : Option ((List LCol)) :=
 ah (eG (LChecker.mk rA.s rA.vars) q) fun x14 =>
 some x14.1
theorem lz (rA : LRun) (q : LQuery) (r : (List LCol)) (H : gk rA q = some r) :
  aT Tryz.prog 55 [(.agg (dJ rA)),(.agg (aK q))] (.list 49 (r.map aW)) := by
 unfold gk at H
 refine PH.ax Tryz.func55 Tryz.ntmps55 ?_
 refine ab (aa (au ?_))
 refine au ?_
 refine ak tk rfl (ac (ab (aa (aj 6 tk rfl ?_))))
 obtain ⟨x14,h14,H⟩ := aE H
 have s14 := kV (LChecker.mk rA.s rA.vars) q _ h14
 refine ae Tryz.call51 (fu.r) s14 ?_
 refine aj 5 tk rfl (ac (av 2 tk rfl ?_))
 exact bu tk H rfl
def jY (rec33 : LRun → LQuery → Option (Rz)) (rec52 : LRun → LQuery → Option (Rz)) (rA : LRun) (q : LQuery) : Option (Rz) :=
 cond (q.kind == (1 : Int))
  (ah (aM (σ := Unit) (ρ := (Rz)) (fun (_ : Nat) (x1 : LRelation) (_ : Unit) =>
   cond (x1.table == q.table)
    (some (.ret x1.rows))
    (some (.next ()))) 0 rA.st ()) fun fl1=>fl1.thenR fun (_ : Unit) =>
  some [])
  (bH (
   cond (q.kind == (4 : Int))
    ((q.kind == (4 : Int)))
    ((q.kind == (5 : Int)))) fun (t2 : Bool) =>
  cond t2
   (ah (rec52 rA q) fun x37 =>
   some x37)
   (cond (q.kind == (6 : Int))
    (ah (aO q.inputs 0) fun (x43 : LQuery) =>
    ah (aO q.inputs 1) fun (x50 : LQuery) =>
    ah (rec33 rA x43) fun x45 =>
    ah (rec33 rA x50) fun x52 =>
    ah (dL 24 x45 x52) fun (x53 : Rz) =>
    some x53)
    (cond (q.kind == (7 : Int))
     (ah (aO q.inputs 0) fun (x59 : LQuery) =>
     ah (aO q.inputs 1) fun (x65 : LQuery) =>
     ah (rec33 rA x59) fun x61 =>
     ah (rec33 rA x65) fun x67 =>
     ah (kC x61 x67) fun x68 =>
     some x68)
     (ah (aO q.inputs 0) fun (x72 : LQuery) =>
     ah (rec33 rA x72) fun x74 =>
     ah (aO q.inputs 0) fun (x78 : LQuery) =>
     ah (gk rA x78) fun x80 =>
     cond (q.kind == (2 : Int))
      (ah (dh x74 (fun a0=>iz a0 rA x80 q)) fun x88 =>
      some x88)
      (cond (q.kind == (3 : Int))
       (ah (aM (σ := Rz) (ρ := Empty) (fun (_ : Nat) (x3 : Rq) (s3 : Rz) =>
        ah (dz rA x80 x3 q.exprs) fun x103 =>
        ah (dL 24 s3 ([x103] : Rz)) fun (x105 : Rz) =>
        some (.next x105)) 0 x74 []) fun fl3=>fl3.thenP fun (s3 : Rz) =>
       some s3)
       (cond (q.kind == (8 : Int))
        (ah (iK rA q x80 x74) fun x114 =>
        some x114)
        (cond (q.kind == (9 : Int))
         (ah (eK rA q x80 x74) fun x121 =>
         some x121)
         (ah (nc x74 (if (x74.length : Int) < q.offset then (x74.length : Int) else q.offset) (IntKind.i64.wrap ((if (x74.length : Int) < q.offset then (x74.length : Int) else q.offset) + (if (IntKind.i64.wrap ((x74.length : Int) - (if (x74.length : Int) < q.offset then (x74.length : Int) else q.offset))) < q.count then (IntKind.i64.wrap ((x74.length : Int) - (if (x74.length : Int) < q.offset then (x74.length : Int) else q.offset))) else q.count)))) fun (x138 : Rz) =>
         some x138))))))))
theorem rz (rec33 : LRun → LQuery → Option (Rz)) (rec52 : LRun → LQuery → Option (Rz)) (hrec33 : ∀ a0 a1 r,rec33 a0 a1 = some r → aT Tryz.prog 33 [(.agg (dJ a0)),(.agg (aK a1))] (.list 55 (r.map (aq 54 af)))) (hrec52 : ∀ a0 a1 r,rec52 a0 a1 = some r → aT Tryz.prog 52 [(.agg (dJ a0)),(.agg (aK a1))] (.list 55 (r.map (aq 54 af)))) (rA : LRun) (q : LQuery) (r : Rz) (H : jY rec33 rec52 rA q = some r) :
  aT Tryz.prog 33 [(.agg (dJ rA)),(.agg (aK q))] (.list 55 (r.map (aq 54 af))) := by
 unfold jY at H
 refine PH.ax Tryz.func33 Tryz.ntmps33 ?_
 refine ab (aa (au ?_))
 refine au ?_
 refine ak tk rfl (ac (ab (av 2 tk rfl (ap (av 2 tk rfl ?_)))))
 refine aN rfl H (fun H=>?_) (fun H=>?_)
 ·refine ab (ab (aa (aj 2 tk rfl (aG tk (zl _) ?_))))
  refine ak tk rfl (ac ?_)
  refine fC tk 20 19 18 (fun s1 g1=>upd (fun _=>.any) 3 (.ptr (aK q))) nB nO () H (fun fl1 Hp1 j1 s1 g1 hz1 hl1 x1 fb1 hx1 H hg1=>?_) (fun s1 g1 H=>?_)
  ·refine ab (ap (ab (aa ?_)))
   refine bd tk (zn j1) (bD (fun _=>rfl) hx1) ?_
   refine ak tk rfl ?_
   refine aY tk fun b6=>?_
   refine ag tk ?_
   refine ac (ab (aa (ak tk rfl (ai tk ?_))))
   refine aj 3 tk rfl (ac ?_)
   refine aN rfl H (fun H=>?_) (fun H=>?_)
   ·refine ab (aa (ak tk rfl (ai tk ?_)))
    refine ak tk rfl (ac ?_)
    obtain rfl := aI H
    have e1 : fl1 = .ret _ := hg1
    subst e1
    obtain rfl := bi Hp1
    refine bw tk rfl (ps := [(.list 55 (x1.rows.map (aq 54 af)))]) ⟨_,_,rfl,rfl,rfl⟩ (PLe.q rfl)
   refine ao (aw (bm 2 tk rfl ?_))
   exact bG () H hl1 hg1
  refine av 1 tk rfl ?_
  obtain rfl := aI H
  refine bw tk rfl (ps := [(.val (.slice none 0 0))]) ⟨_,_,rfl,rfl,rfl⟩ (PLe.of2 (PLe2.nil tk rfl))
 refine ab (av 2 tk rfl ?_)
 refine gw (γ := Unit) (fun t2 g2=>⟨139,upd (upd (upd (upd (fun _=>.any) 32 (aL t2)) 14 (al q.kind)) 3 (.ptr (aK q))) 2 (.ptr (dJ rA)),fun _=>none,fun _=>none⟩) H (fun _ H=>?_) (fun t2 g2 H=>?_)
 ·refine aN rfl H (fun H=>?_) (fun H=>?_)
  ·refine ao ?_
   refine bp _ () H Gh.d
  refine bm 2 tk rfl ?_
  refine bp _ () H Gh.d
 refine aN rfl H (fun H=>?_) (fun H=>?_)
 ·refine ab (aa (aj 2 tk rfl ?_))
  obtain ⟨x37,h37,H⟩ := aE H
  have s37 := hrec52 rA q _ h37
  refine ae Tryz.call52 (fu.r) s37 ?_
  refine ak tk rfl (ac ?_)
  exact bu tk H rfl
 refine av 2 tk rfl ?_
 refine aN rfl H (fun H=>?_) (fun H=>?_)
 ·refine ab (aJ tk mok ⟨false,false,[]⟩ [0,1,2,3,4,7,8,9,10,11,5,6,12,13,14] rfl (by decide +kernel) rfl (bc 3 rfl ?_))
  obtain ⟨x43,k43,H⟩ := bL H
  refine bT k43.1 (aX ci k43.2) ?_
  refine bc 4 rfl ?_
  obtain ⟨x50,k50,H⟩ := bL H
  refine bT k50.1 (aX ci k50.2) ?_
  refine bo rfl ?_
  obtain ⟨x45,h45,H⟩ := aE H
  have s45 := hrec33 rA x43 _ h45
  refine am Tryz.call33 (fu.r) s45 ?_
  have s46 := pL (m := 46) x45
  refine qc (g := 53) rfl rfl rfl rfl Tryz.call53 (fu.r) rfl rfl s46 (fun g46=>?_)
  obtain ⟨x52,h52,H⟩ := aE H
  have s52 := hrec33 rA x50 _ h52
  refine am Tryz.call33 (fu.r) s52 ?_
  obtain ⟨x53,h53,H⟩ := aE H
  have k53 := cV h53
  refine kR (rows2' := List.map (aq 54 af) x52) (rows' := List.map (aq 54 af) x53) tk rfl rfl rfl rfl rfl rfl rfl rfl rfl rfl rfl rfl rfl rfl (je.refl _) (eu k53.1) (er k53.2.1) (eB k53.2.2) fun g53=>?_
  refine bo rfl (aP (eo 4 rfl rfl rfl ?_))
  exact bu tk H rfl
 refine av 2 tk rfl ?_
 refine aN rfl H (fun H=>?_) (fun H=>?_)
 ·refine ab (aJ tk mok ⟨false,false,[]⟩ [0,1,2,3,4,6,7,8,9,10,5,11,12,13] rfl (by decide +kernel) rfl (bc 3 rfl ?_))
  obtain ⟨x59,k59,H⟩ := bL H
  refine bT k59.1 (aX ci k59.2) ?_
  refine bc 4 rfl ?_
  obtain ⟨x65,k65,H⟩ := bL H
  refine bT k65.1 (aX ci k65.2) ?_
  refine bo rfl ?_
  obtain ⟨x61,h61,H⟩ := aE H
  have s61 := hrec33 rA x59 _ h61
  refine am Tryz.call33 (fu.r) s61 ?_
  obtain ⟨x67,h67,H⟩ := aE H
  have s67 := hrec33 rA x65 _ h67
  refine am Tryz.call33 (fu.r) s67 ?_
  obtain ⟨x68,h68,H⟩ := aE H
  have s68 := W_query_less x61 x67 _ h68
  refine am Tryz.call54 (fu.r) s68 ?_
  refine bo rfl (aP ?_)
  exact bu tk H rfl
 refine ao (aw (ab (aJ tk mok ⟨false,false,[]⟩ [0,1,2,3,4,5,6] rfl (by decide +kernel) rfl (bc 3 rfl ?_))))
 obtain ⟨x72,k72,H⟩ := bL H
 refine bT k72.1 (aX ci k72.2) ?_
 refine bo rfl ?_
 obtain ⟨x74,h74,H⟩ := aE H
 have s74 := hrec33 rA x72 _ h74
 refine am Tryz.call33 (fu.r) s74 ?_
 refine bo rfl (aP (ab (aJ tk mok ⟨false,false,[]⟩ [0,1,2,3,4,5,6,7] rfl (by decide +kernel) rfl (bc 3 rfl ?_))))
 obtain ⟨x78,k78,H⟩ := bL H
 refine bT k78.1 (aX ci k78.2) ?_
 refine bo rfl ?_
 obtain ⟨x80,h80,H⟩ := aE H
 have s80 := lz rA x78 _ h80
 refine am Tryz.call55 (fu.r) s80 ?_
 refine bg fun b8=>?_
 refine bQ rfl rfl rfl rfl rfl rfl rfl rfl rfl rfl rfl rfl (aP (ab (av 2 tk rfl (ap (av 2 tk rfl ?_)))))
 refine aN rfl H (fun H=>?_) (fun H=>?_)
 ·refine ab (aa (ak tk rfl ?_))
  have s86 := pL (m := 86) x74
  refine ln (g := 53) rfl rfl rfl Tryz.call53 (fu.r) rfl rfl s86 (fun g86=>?_)
  refine dM (Gh.freezeB 8 rfl rfl rfl rfl) (ak tk rfl ?_)
  obtain ⟨x88,h88,H⟩ := aE H
  have s88 := kB g86 x74 (fun a0=>iz a0 rA x80 q) Tryz.call57 (fun a0 r h=>qP a0 rA x80 q r h) _ h88
  refine ew (g := 56) rfl rfl rfl Tryz.call56 [] [(86,0)] rfl rfl rfl rfl (fu.of2 (iB.cons (PLe2.own rfl) (iB.cons (PLe2.of_eq rfl) iB.nil))) (by rw [dS,dr,dQ]; rfl) s88 ?_
  rintro u88 H88h ⟨rfl,rfl⟩
  refine ⟨_,rfl,?_⟩
  refine dM (st' := ⟨_,_,fun _=>none,upd (fun _=>none) 86 (some ⟨g86,55,(x88.map (aq 54 af)),true⟩)⟩) (Gh.le (dj _ _) aV (bI aU)) ?_
  refine lC 88 (q := (.own 86 g86 (x88.map (aq 54 af)).length)) rfl (PLe.of2 (PLe2.own rfl)) (ak tk rfl (ac (eo 4 rfl rfl rfl ?_)))
  exact bu tk H rfl
 refine av 2 tk rfl ?_
 refine aN rfl H (fun H=>?_) (fun H=>?_)
 ·refine av 1 tk rfl (ab (ab (aa (ak tk rfl (aG tk (zl _) ?_)))))
  refine ak tk rfl (ac ?_)
  obtain ⟨fl3,H3,Hp3⟩ := aE H
  refine eV tk 91 rfl rfl (fun hz3 _=>?_)
  rw [zl] at hz3
  refine fA (τ := Rz) (γ := OwnRef) (fun s3 g3=>⟨139,upd (upd (upd (fun _=>.any) 9 (.own 105 g3 (s3.map (aq 54 af)).length)) 3 (.ptr (aK q))) 2 (.ptr (dJ rA)),fun _=>none,upd (fun _=>none) 105 (some ⟨g3,55,(s3.map (aq 54 af)),true⟩)⟩) (fun t=>fl3 = .next t) ?_ (fun s3 g3 hn3=>?_)
  ·refine ap (hX tk 9 105 (e := 55) rfl rfl ?_)
   refine jz (fun j3 s3 g3=>⟨139,upd (upd (upd (upd (upd (upd (upd (fun _=>.any) 93 (al (j3 : Int))) 92 (al (x74.length : Int))) 91 (.list 55 (x74.map (aq 54 af)))) 9 (.own 105 g3 (s3.map (aq 54 af)).length)) 8 (.box 8 b8 0)) 3 (.ptr (aK q))) 2 (.ptr (dJ rA)),upd (fun _=>none) 8 (some ⟨b8,[(.list 49 (x80.map aW))]⟩),upd (fun _=>none) 105 (some ⟨g3,55,(s3.map (aq 54 af)),true⟩)⟩) (⟨none,0⟩) H3 Gh.d (fun j3 s3 g3 hj3 hr3=>?_)
   refine av 1 tk rfl (ab ?_)
   refine aQ rfl (fun h=>?_) (fun h=>?_)
   ·have hl3 := pI h
    obtain ⟨x3,fb3,hx3,H,hg3⟩ := rMc hl3 hr3
    refine ao (ab (ap (ab (aa ?_))))
    refine bd tk (zn j3) (bD (fun _=>rfl) hx3) ?_
    refine aj 2 tk rfl (ac (aa (aj 2 tk rfl (ai tk ?_))))
    refine aj 3 tk rfl ?_
    obtain ⟨x103,h103,H⟩ := aE H
    have s103 := jI rA x80 x3 q.exprs _ h103
    refine ae Tryz.call61 (fu.r) s103 ?_
    refine cz tk (rows' := List.map (aq 54 af) ([x103] : Rz)) (je.refl _) ?_
    obtain ⟨x105,h105,H⟩ := aE H
    have k105 := cV h105
    refine cy (rows2' := List.map (aq 54 af) ([x103] : Rz)) (rows' := List.map (aq 54 af) x105) tk rfl rfl rfl rfl rfl rfl rfl rfl rfl rfl rfl rfl rfl (je.refl _) (eu k105.1) (er k105.2.1) (eB k105.2.2) fun g105=>?_
    refine ak tk rfl (ac (aw (bm 2 tk rfl ?_)))
    exact bG g105 H hl3 hg3
   have hn3 := rMd (pw h) hr3
   refine aD rfl ?_
   refine bp s3 g3 hn3 Gh.d
  have H := dC hn3 Hp3
  refine av 2 tk rfl (eo 4 rfl rfl rfl ?_)
  exact bu tk H rfl
 refine av 2 tk rfl ?_
 refine aN rfl H (fun H=>?_) (fun H=>?_)
 ·refine ab (aa (aj 2 tk rfl (ai tk ?_)))
  refine ak tk rfl ?_
  obtain ⟨x114,h114,H⟩ := aE H
  have s114 := rB rA q x80 x74 _ h114
  refine ae Tryz.call62 (fu.r) s114 ?_
  refine ak tk rfl (ac ?_)
  exact bu tk H rfl
 refine av 2 tk rfl ?_
 refine aN rfl H (fun H=>?_) (fun H=>?_)
 ·refine ab (aa (aj 2 tk rfl (ai tk ?_)))
  refine ak tk rfl ?_
  obtain ⟨x121,h121,H⟩ := aE H
  have s121 := sm rA q x80 x74 _ h121
  refine ae Tryz.call63 (fu.r) s121 ?_
  refine ak tk rfl (ac ?_)
  exact bu tk H rfl
 refine ao (aw (ab (aa (aj 3 tk rfl (aG tk (zl _) ?_)))))
 refine aj 2 tk rfl (ac (ab (aa (aj 6 tk rfl (aG tk (zl _) ?_)))))
 refine aj 4 tk rfl ?_
 obtain ⟨x138,h138,H⟩ := aE H
 have k138 := oF h138
 refine sC tk rfl rfl rfl rfl rfl (zl _) rfl rfl k138.1 (qb k138.2) rfl (ak tk rfl (ac ?_))
 exact bu tk H rfl
def jf (rec33 : LRun → LQuery → Option (Rz)) (_rec52 : LRun → LQuery → Option (Rz)) (rA : LRun) (q : LQuery) : Option (Rz) :=
 ah (aO q.inputs 0) fun (x19 : LQuery) =>
 ah (aO q.inputs 1) fun (x25 : LQuery) =>
 ah (rec33 rA x19) fun x21 =>
 ah (rec33 rA x25) fun x27 =>
 ah (aO q.inputs 1) fun (x31 : LQuery) =>
 ah (gk rA x31) fun x33 =>
 ah (aO q.inputs 0) fun (x37 : LQuery) =>
 ah (gk rA x37) fun x39 =>
 ah (dL 32 x39 x33) fun (x42 : List LCol) =>
 ah (aM (σ := List LCol × Rz) (ρ := Empty) (fun (_ : Nat) (x1 : Rq) (s1 : List LCol × Rz) =>
  ah (aM (σ := Rz × Bool) (ρ := Empty) (fun (_ : Nat) (x6 : Rq) (s6 : Rz × Bool) =>
   ah (bW ([x1,x6] : Rz)) fun x58 =>
   ah (aO q.exprs 0) fun (x65 : LExpr) =>
   bH (bn rA s1.1 x58) fun x62 =>
   bH (bY x62 x65) fun x67 =>
   bH (kS x67) fun x68 =>
   cond x68
    (ah (dL 24 s6.1 ([x58] : Rz)) fun (x72 : Rz) =>
    some (.next (x72,true)))
    (some (.next (s6.1,s6.2)))) 0 x27 (s1.2,false)) fun fl6=>fl6.thenP fun (s6 : Rz × Bool) =>
  bH (
   cond (!s6.2)
    ((q.kind == (5 : Int)))
    (false)) fun (t7 : Bool) =>
  cond t7
   (ah (oD 32 (x33.length : Int)) fun (_ : Unit) =>
   ah (bW ([x1,(List.replicate (x33.length : Int).toNat (LVal.mk 0 0 []))] : Rz)) fun x87 =>
   ah (dL 24 s6.1 ([x87] : Rz)) fun (x89 : Rz) =>
   some (.next (s1.1,x89)))
   (some (.next (s1.1,s6.1)))) 0 x21 (x42,[])) fun fl1=>fl1.thenP fun (s1 : List LCol × Rz) =>
 some s1.2
theorem rx (rec33 : LRun → LQuery → Option (Rz)) (rec52 : LRun → LQuery → Option (Rz)) (hrec33 : ∀ a0 a1 r,rec33 a0 a1 = some r → aT Tryz.prog 33 [(.agg (dJ a0)),(.agg (aK a1))] (.list 55 (r.map (aq 54 af)))) (_hrec52 : ∀ a0 a1 r,rec52 a0 a1 = some r → aT Tryz.prog 52 [(.agg (dJ a0)),(.agg (aK a1))] (.list 55 (r.map (aq 54 af)))) (rA : LRun) (q : LQuery) (r : Rz) (H : jf rec33 rec52 rA q = some r) :
  aT Tryz.prog 52 [(.agg (dJ rA)),(.agg (aK q))] (.list 55 (r.map (aq 54 af))) := by
 unfold jf at H
 refine PH.ax Tryz.func52 Tryz.ntmps52 ?_
 refine ab (aa (au ?_))
 refine au ?_
 refine ak tk rfl (ac (ab (aJ tk mok ⟨false,false,[]⟩ [0,1,2,3,4,6,7,8,9,10,5,11,12,13] rfl (by decide +kernel) rfl (bc 3 rfl ?_))))
 obtain ⟨x19,k19,H⟩ := bL H
 refine bT k19.1 (aX ci k19.2) ?_
 refine bc 4 rfl ?_
 obtain ⟨x25,k25,H⟩ := bL H
 refine bT k25.1 (aX ci k25.2) ?_
 refine bo rfl ?_
 obtain ⟨x21,h21,H⟩ := aE H
 have s21 := hrec33 rA x19 _ h21
 refine am Tryz.call33 (fu.r) s21 ?_
 obtain ⟨x27,h27,H⟩ := aE H
 have s27 := hrec33 rA x25 _ h27
 refine am Tryz.call33 (fu.r) s27 ?_
 refine bc 2 rfl (aP (ab (aJ tk mok ⟨false,false,[]⟩ [0,1,2,3,4,5,6] rfl (by decide +kernel) rfl (bc 3 rfl ?_))))
 obtain ⟨x31,k31,H⟩ := bL H
 refine bT k31.1 (aX ci k31.2) ?_
 refine bo rfl ?_
 obtain ⟨x33,h33,H⟩ := aE H
 have s33 := lz rA x31 _ h33
 refine am Tryz.call55 (fu.r) s33 ?_
 refine bo rfl (aP (ab (aJ tk mok ⟨false,false,[]⟩ [0,1,2,3,4,7,5,6,8,9] rfl (by decide +kernel) rfl (bc 3 rfl ?_))))
 obtain ⟨x37,k37,H⟩ := bL H
 refine bT k37.1 (aX ci k37.2) ?_
 refine bc 2 rfl ?_
 obtain ⟨x39,h39,H⟩ := aE H
 have s39 := lz rA x37 _ h39
 refine am Tryz.call55 (fu.r) s39 ?_
 have s40 := ql (m := 40) x39
 refine qc (g := 77) rfl rfl rfl rfl Tryz.call77 (fu.r) rfl rfl s40 (fun g40=>?_)
 obtain ⟨x42,h42,H⟩ := aE H
 have k42 := cV h42
 refine kR (rows2' := List.map aW x33) (rows' := List.map aW x42) tk rfl rfl rfl rfl rfl rfl rfl rfl rfl rfl rfl rfl rfl rfl (je.refl _) (eu k42.1) (er k42.2.1) (eB k42.2.2) fun g42=>?_
 refine bo rfl (aP (av 1 tk rfl (ab (ab (aa (ak tk rfl (aG tk (zl _) ?_)))))))
 refine ak tk rfl (ac (eo 8 rfl rfl rfl (hX tk 9 72 (e := 55) rfl rfl ?_)))
 refine sO (γ := OwnRef) tk 43 rfl rfl (fun s1 g1=>upd (upd (upd (upd (upd (fun _=>.any) 9 (.own 72 g1 (s1.2.map (aq 54 af)).length)) 7 (.list 49 (x33.map aW))) 6 (.list 55 (x27.map (aq 54 af)))) 3 (.ptr (aK q))) 2 (.ptr (dJ rA))) nB (fun s1 g1=>upd (fun _=>none) 72 (some ⟨g1,55,(s1.2.map (aq 54 af)),true⟩)) (fun e j1 s1 g1=>upd (upd (upd (upd e 45 (al (j1 : Int))) 44 (al (x21.length : Int))) 43 (.list 55 (x21.map (aq 54 af)))) 8 (.list 49 (s1.1.map aW))) (⟨none,0⟩) H rfl Gh.d (fun _ _ _=>rfl) (fun _ _ _=>rfl) (fun _ _ _=>Gh.d) (fun fl1 Hp1 j1 s1 g1 hz1 hl1 x1 fb1 hx1 H hg1=>?_) (fun s1 g1 H=>?_)
 ·refine ab (ap (ab (aa ?_)))
  refine bd tk (zn j1) (bD (fun _=>rfl) hx1) ?_
  refine aj 2 tk rfl (ac (av 1 tk rfl (ab (ab (aa (ak tk rfl (aG tk (zl _) ?_)))))))
  refine ak tk rfl (ac ?_)
  refine iv (γ := OwnRef) tk 51 50 49 (fun s6 g6=>upd (upd (upd (upd (upd (upd (upd (upd (upd (upd (upd (fun _=>.any) 45 (al (j1 : Int))) 44 (al (x21.length : Int))) 43 (.list 55 (x21.map (aq 54 af)))) 12 (aL s6.2)) 11 (.list 54 (x1.map af))) 9 (.own 72 g6 (s6.1.map (aq 54 af)).length)) 8 (.list 49 (s1.1.map aW))) 7 (.list 49 (x33.map aW))) 6 (.list 55 (x27.map (aq 54 af)))) 3 (.ptr (aK q))) 2 (.ptr (dJ rA))) nB (fun s6 g6=>upd (fun _=>none) 72 (some ⟨g6,55,(s6.1.map (aq 54 af)),true⟩)) g1 H (fun fl6 Hp6 j6 s6 g6 hz6 hl6 x6 fb6 hx6 H hg6=>?_) (fun s6 g6 H=>?_)
  ·refine ab (ap (ab (aa ?_)))
   refine bd tk (zn j6) (bD (fun _=>rfl) hx6) ?_
   refine aj 2 tk rfl (ac (ab (aa (aj 2 tk rfl (cz tk (rows' := List.map (aq 54 af) ([x1,x6] : Rz)) (je.refl _) ?_)))))
   obtain ⟨x58,h58,H⟩ := aE H
   have s58 := iQ (m := 58) ([x1,x6] : Rz) _ h58
   refine ae Tryz.call78 (fu.r) (PFun.jy s58) ?_
   refine ak tk rfl (ac (ab (aJ tk mok ⟨false,false,[]⟩ [0,1,2,4,5,6,7,3,8,9] rfl (by decide +kernel) rfl (bc 5 rfl ?_))))
   obtain ⟨x65,k65,H⟩ := bL H
   refine bT k65.1 (aX dq k65.2) ?_
   refine bo rfl ?_
   obtain ⟨x62,h62,H⟩ := db H
   have s62 := kp rA s1.1 x58
   rw [h62] at s62
   refine am Tryz.call60 (fu.r) s62 ?_
   obtain ⟨x67,h67,H⟩ := db H
   have s67 := mH x62 x65
   rw [h67] at s67
   refine am Tryz.call59 (fu.r) s67 ?_
   obtain ⟨x68,h68,H⟩ := db H
   have s68 := da x67
   rw [h68] at s68
   refine am Tryz.call58 (fu.r) s68 ?_
   refine aP ?_
   refine aN rfl H (fun H=>?_) (fun H=>?_)
   ·refine ab (aa (aj 2 tk rfl (cz tk (rows' := List.map (aq 54 af) ([x58] : Rz)) (je.refl _) ?_)))
    obtain ⟨x72,h72,H⟩ := aE H
    have k72 := cV h72
    refine cy (rows2' := List.map (aq 54 af) ([x58] : Rz)) (rows' := List.map (aq 54 af) x72) tk rfl rfl rfl rfl rfl rfl rfl rfl rfl rfl rfl rfl rfl (je.refl _) (eu k72.1) (er k72.2.1) (eB k72.2.2) fun g72=>?_
    refine ak tk rfl (ac (bm 1 tk rfl (aw (bm 2 tk rfl ?_))))
    exact bG g72 H hl6 hg6
   refine ao (aw (bm 2 tk rfl ?_))
   exact bG g6 H hl6 hg6
  refine ab ?_
  refine gw (γ := Unit) (fun t7 g7=>⟨92,upd (upd (upd (upd (upd (upd (upd (upd (upd (upd (upd (fun _=>.any) 80 (aL t7)) 45 (al (j1 : Int))) 44 (al (x21.length : Int))) 43 (.list 55 (x21.map (aq 54 af)))) 11 (.list 54 (x1.map af))) 9 (.own 72 g6 (s6.1.map (aq 54 af)).length)) 8 (.list 49 (s1.1.map aW))) 7 (.list 49 (x33.map aW))) 6 (.list 55 (x27.map (aq 54 af)))) 3 (.ptr (aK q))) 2 (.ptr (dJ rA)),fun _=>none,upd (fun _=>none) 72 (some ⟨g6,55,(s6.1.map (aq 54 af)),true⟩)⟩) H (fun _ H=>?_) (fun t7 g7 H=>?_)
  ·refine aa (aj 3 tk rfl ?_)
   refine bF rfl rfl rfl H (fun H=>?_) (fun H=>?_)
   ·refine aj 4 tk rfl (ac ?_)
    refine bp _ () H Gh.d
   refine aj 4 tk rfl (ac ?_)
   refine bp _ () H Gh.d
  refine aN rfl H (fun H=>?_) (fun H=>?_)
  ·refine aa (aj 3 tk rfl (aG tk (zl _) ?_))
   obtain ⟨_,h85,H⟩ := aE H
   have k85 := growI_some h85
   refine tw (rows := List.map af (List.replicate (x33.length : Int).toNat (LVal.mk 0 0 []))) tk rfl rfl rfl rfl rfl rfl rfl rfl rfl rfl k85.1 k85.2.1 k85.2.2 (by rw [List.map_replicate]; rfl) fun g85=>?_
   refine dM (Gh.freezeO 85 rfl rfl rfl) (cz tk (rows' := List.map (aq 54 af) ([x1,(List.replicate (x33.length : Int).toNat (LVal.mk 0 0 []))] : Rz)) (je.refl _) ?_)
   obtain ⟨x87,h87,H⟩ := aE H
   have s87 := iQ (m := 87) ([x1,(List.replicate (x33.length : Int).toNat (LVal.mk 0 0 []))] : Rz) _ h87
   refine ae Tryz.call78 (fu.r) (PFun.jy s87) ?_
   refine cz tk (rows' := List.map (aq 54 af) ([x87] : Rz)) (je.refl _) ?_
   obtain ⟨x89,h89,H⟩ := aE H
   have k89 := cV h89
   refine cy (rows2' := List.map (aq 54 af) ([x87] : Rz)) (rows' := List.map (aq 54 af) x89) tk rfl rfl rfl rfl rfl rfl rfl rfl rfl rfl rfl rfl rfl (je.refl _) (eu k89.1) (er k89.2.1) (eB k89.2.2) fun g89=>?_
   refine ak tk rfl (ac (aw (bm 2 tk rfl ?_)))
   exact bG g89 H hl1 hg1
  refine ao (aw (bm 2 tk rfl ?_))
  exact bG g6 H hl1 hg1
 refine av 2 tk rfl (eo 4 rfl rfl rfl ?_)
 exact bu tk H rfl
mutual
def eP : Nat → LRun → LQuery → Option (Rz)
 | 0,_,_=>none
 | n + 1,v0,v1=>jY (fun b0 b1=>eP n b0 b1) (fun b0 b1=>gq n b0 b1) v0 v1
def gq : Nat → LRun → LQuery → Option (Rz)
 | 0,_,_=>none
 | n + 1,v0,v1=>jf (fun b0 b1=>eP n b0 b1) (fun b0 b1=>gq n b0 b1) v0 v1
end
theorem rF  (n : Nat) : (∀ a0 a1 r,eP n a0 a1 = some r → aT Tryz.prog 33 [(.agg (dJ a0)),(.agg (aK a1))] (.list 55 (r.map (aq 54 af)))) ∧ (∀ a0 a1 r,gq n a0 a1 = some r → aT Tryz.prog 52 [(.agg (dJ a0)),(.agg (aK a1))] (.list 55 (r.map (aq 54 af)))) := by
 induction n with
 | zero=>exact ⟨(by intros; rename_i h; exact absurd (show (none : Option _) = some _ from h) (by simp)),(by intros; rename_i h; exact absurd (show (none : Option _) = some _ from h) (by simp))⟩
 | succ n ih =>
  exact ⟨(fun v0 v1 r h=>rz (fun b0 b1=>eP n b0 b1) (fun b0 b1=>gq n b0 b1) ih.1 ih.2 v0 v1  r h),(fun v0 v1 r h=>rx (fun b0 b1=>eP n b0 b1) (fun b0 b1=>gq n b0 b1) ih.1 ih.2 v0 v1  r h)⟩
def ls (rA : LRun) (q : LQuery) : Option (Rz) := ja fun n=>eP n rA q
theorem se (rA : LRun) (q : LQuery) (r : Rz) (H : ls rA q = some r) :
  aT Tryz.prog 33 [(.agg (dJ rA)),(.agg (aK q))] (.list 55 (r.map (aq 54 af))) := by
 obtain ⟨n,h⟩ := jR H
 exact (rF  n).1 rA q r h
def lk (sA : LSchema) (q : LQuery) : Option ((List LCol) × Int) :=
 ah (fU sA ([] : List LCol) q) fun x8 =>
 some (x8.1,x8.2)
theorem W_query_Check (sA : LSchema) (q : LQuery) (r : (List LCol) × Int) (H : lk sA q = some r) :
  aT Tryz.prog 25 [(.agg (cp sA)),(.agg (aK q))] (.tup [(.list 49 (r.1.map aW)),(al r.2)]) := by
 unfold lk at H
 refine PH.ax Tryz.func25 Tryz.ntmps25 ?_
 refine ab (aa (au ?_))
 refine au ?_
 refine aj 2 tk rfl (ac (ab (aa (aj 2 tk rfl ?_))))
 obtain ⟨x8,h8,H⟩ := aE H
 have s8 := me sA ([] : List LCol) q _ h8
 refine ae Tryz.call32 (fu.of2 (iB.cons (PLe2.of_eq rfl) (iB.cons (PLe2.nil tk rfl) (iB.cons (PLe2.of_eq rfl) iB.nil)))) s8 ?_
 refine aj 4 tk rfl (ac ?_)
 exact bu tk H rfl
def iu (sA : LSchema) (st : List LRelation) (q : LQuery) (args : Rq) (vars : List LCol) (vals : Rq) : Option (LResult × Int) :=
 ah (fU sA vars q) fun x28 =>
 cond (x28.2 != (0 : Int))
  (some ((LResult.mk [] []),x28.2))
  (ah (fg q args) fun x37 =>
  cond (x37 != (0 : Int))
   (some ((LResult.mk [] []),x37))
   (ah (fp sA st) fun x44 =>
   cond (x44 != (0 : Int))
    (some ((LResult.mk [] []),x44))
    (ah (aM (σ := List (List UInt8)) (ρ := Empty) (fun (_ : Nat) (x1 : LCol) (s1 : List (List UInt8)) =>
     ah (dL 16 s1 ([x1.name] : List (List UInt8))) fun (x66 : List (List UInt8)) =>
     some (.next x66)) 0 vars []) fun fl1=>fl1.thenP fun (s1 : List (List UInt8)) =>
    ah (ls (LRun.mk sA st args vars s1 vals) q) fun x73 =>
    ah (aM (σ := Rz) (ρ := Empty) (fun (_ : Nat) (x2 : Rq) (s2 : Rz) =>
     ah (dL 24 s2 ([x2] : Rz)) fun (x84 : Rz) =>
     some (.next x84)) 0 x73 []) fun fl2=>fl2.thenP fun (s2 : Rz) =>
    some ((LResult.mk x28.1 s2),0))))
theorem pf (sA : LSchema) (st : List LRelation) (q : LQuery) (args : Rq) (vars : List LCol) (vals : Rq) (r : LResult × Int) (H : iu sA st q args vars vals = some r) :
  aT Tryz.prog 22 [(.agg (cp sA)),(.list 57 (st.map dF)),(.agg (aK q)),(.list 54 (args.map af)),(.list 49 (vars.map aW)),(.list 54 (vals.map af))] (.tup [(.agg (mI r.1)),(al r.2)]) := by
 unfold iu at H
 refine PH.ax Tryz.func22 Tryz.ntmps22 ?_
 refine ab (aa (au ?_))
 refine au ?_
 refine aY tk fun b12=>?_
 refine ak tk rfl (ac (ab (aa (aj 3 tk rfl ?_))))
 obtain ⟨x28,h28,H⟩ := aE H
 have s28 := me sA vars q _ h28
 refine ae Tryz.call32 (fu.r) s28 ?_
 refine aj 5 tk rfl (ac (ab (av 2 tk rfl ?_)))
 refine aN rfl H (fun H=>?_) (fun H=>?_)
 ·refine ab (aa (aj 2 tk rfl (ag tk ?_)))
  refine ak tk rfl (ac ?_)
  obtain rfl := aI H
  refine bw tk rfl (ps := [(.agg [(.val (.slice none 0 0)),(.val (.slice none 0 0))]),(al x28.2)]) ⟨_,_,rfl,⟨_,_,_,_,_,rfl,rfl,rfl,rfl⟩,_,_,rfl,rfl,rfl⟩ (PLe.of2 (PLe2.tup (iB.cons (PLe2.agg (iB.cons (PLe2.nil tk rfl) (iB.cons (PLe2.nil tk rfl) iB.nil))) (iB.cons (PLe2.of_eq rfl) iB.nil))))
 refine ao (ab (ab (aa (aj 2 tk rfl ?_))))
 obtain ⟨x37,h37,H⟩ := aE H
 have s37 := lf q args _ h37
 refine ae Tryz.call13 (fu.r) s37 ?_
 refine ak tk rfl (ac (av 2 tk rfl ?_))
 refine aN rfl H (fun H=>?_) (fun H=>?_)
 ·refine ab (aa (aj 2 tk rfl (ag tk ?_)))
  refine ak tk rfl (ac ?_)
  obtain rfl := aI H
  refine bw tk rfl (ps := [(.agg [(.val (.slice none 0 0)),(.val (.slice none 0 0))]),(al x37)]) ⟨_,_,rfl,⟨_,_,_,_,_,rfl,rfl,rfl,rfl⟩,_,_,rfl,rfl,rfl⟩ (PLe.of2 (PLe2.tup (iB.cons (PLe2.agg (iB.cons (PLe2.nil tk rfl) (iB.cons (PLe2.nil tk rfl) iB.nil))) (iB.cons (PLe2.of_eq rfl) iB.nil))))
 refine ao (ab (ab (aa (aj 2 tk rfl ?_))))
 obtain ⟨x44,h44,H⟩ := aE H
 have s44 := mf sA st _ h44
 refine ae Tryz.call12 (fu.r) s44 ?_
 refine ak tk rfl (ac (av 2 tk rfl ?_))
 refine aN rfl H (fun H=>?_) (fun H=>?_)
 ·refine ab (aa (aj 2 tk rfl (ag tk ?_)))
  refine ak tk rfl (ac ?_)
  obtain rfl := aI H
  refine bw tk rfl (ps := [(.agg [(.val (.slice none 0 0)),(.val (.slice none 0 0))]),(al x44)]) ⟨_,_,rfl,⟨_,_,_,_,_,rfl,rfl,rfl,rfl⟩,_,_,rfl,rfl,rfl⟩ (PLe.of2 (PLe2.tup (iB.cons (PLe2.agg (iB.cons (PLe2.nil tk rfl) (iB.cons (PLe2.nil tk rfl) iB.nil))) (iB.cons (PLe2.of_eq rfl) iB.nil))))
 refine ao (ab (aa (aj 6 tk rfl ?_)))
 refine aY tk fun b18=>?_
 refine ag tk ?_
 refine ac (ab (ab (aa (ak tk rfl (aG tk (zl _) ?_)))))
 refine ak tk rfl (ac (kK tk 18 6 66 (e := 9) rfl rfl rfl rfl ?_))
 refine iv (γ := OwnRef) tk 57 56 55 (fun s1 g1=>upd (upd (upd (upd (fun _=>.any) 18 (.box 18 b18 0)) 14 (.list 49 (x28.1.map aW))) 12 (.box 12 b12 0)) 8 (.ptr (aK q))) (fun s1 g1=>upd (upd (fun _=>none) 18 (some ⟨b18,[(.list 52 (sA.tables.map cL)),(.list 94 (sA.foreignKeys.map ju)),(.list 100 (sA.constraints.map ku)),(.list 57 (st.map dF)),(.list 54 (args.map af)),(.list 49 (vars.map aW)),(.own 66 g1 (s1.map gn).length),(.list 54 (vals.map af))]⟩)) 12 (some ⟨b12,[(.val (.slice none 0 0)),(.val (.slice none 0 0))]⟩)) (fun s1 g1=>upd (fun _=>none) 66 (some ⟨g1,9,(s1.map gn),true⟩)) (⟨none,0⟩) H (fun fl1 Hp1 j1 s1 g1 hz1 hl1 x1 fb1 hx1 H hg1=>?_) (fun s1 g1 H=>?_)
 ·refine ab (ap (ab (aa ?_)))
  refine bd tk (zn j1) (bD (fun _=>rfl) hx1) ?_
  refine ak tk rfl ?_
  refine aY tk fun b20=>?_
  refine ag tk ?_
  refine ac (aa (ak tk rfl (ai tk ?_)))
  refine ak tk rfl (ai tk ?_)
  refine cz tk (rows' := List.map gn ([x1.name] : List (List UInt8))) (je.refl _) ?_
  obtain ⟨x66,h66,H⟩ := aE H
  have k66 := cV h66
  refine cy (rows2' := List.map gn ([x1.name] : List (List UInt8))) (rows' := List.map gn x66) tk rfl rfl rfl rfl rfl rfl rfl rfl rfl rfl rfl rfl rfl (je.refl _) (eu k66.1) (er k66.2.1) (eB k66.2.2) fun g66=>?_
  refine ak tk rfl (ag tk ?_)
  refine ac (aw (bm 2 tk rfl ?_))
  exact bG g66 H hl1 hg1
 refine ab (aa (aj 2 tk rfl ?_))
 refine aY tk fun b21=>?_
 refine ag tk ?_
 refine ac (ab (ab (lK 18 6 rfl rfl rfl rfl rfl (aa (ai tk ?_)))))
 refine ak tk rfl ?_
 obtain ⟨x73,h73,H⟩ := aE H
 have s73 := se (LRun.mk sA st args vars s1 vals) q _ h73
 refine ae Tryz.call33 (fu.r) s73 ?_
 refine aG tk (zl _) ?_
 refine ak tk rfl (ac (kK tk 21 1 84 (e := 55) rfl rfl rfl rfl ?_))
 refine iv (γ := OwnRef) tk 75 74 73 (fun s2 g2=>upd (upd (fun _=>.any) 21 (.box 21 b21 0)) 12 (.box 12 b12 0)) (fun s2 g2=>upd (upd (fun _=>none) 21 (some ⟨b21,[(.list 49 (x28.1.map aW)),(.own 84 g2 (s2.map (aq 54 af)).length)]⟩)) 12 (some ⟨b12,[(.val (.slice none 0 0)),(.val (.slice none 0 0))]⟩)) (fun s2 g2=>upd (fun _=>none) 84 (some ⟨g2,55,(s2.map (aq 54 af)),true⟩)) (⟨none,0⟩) H (fun fl2 Hp2 j2 s2 g2 hz2 hl2 x2 fb2 hx2 H hg2=>?_) (fun s2 g2 H=>?_)
 ·refine ab (ap (ab (aa ?_)))
  refine bd tk (zn j2) (bD (fun _=>rfl) hx2) ?_
  refine aj 2 tk rfl (ac (aJ tk mok ⟨true,false,[]⟩ [0,1,2,3,4,5,6,7] rfl (by decide +kernel) rfl (bo rfl (aH ?_))))
  refine bo rfl ?_
  have s82 := clone_34 (m := 82) x2
  refine am Tryz.call34 (fu.r) (PFun.jy s82) ?_
  refine bo rfl ?_
  obtain ⟨x84,h84,H⟩ := aE H
  have k84 := cV h84
  refine kR (rows2' := List.map (aq 54 af) ([x2] : Rz)) (rows' := List.map (aq 54 af) x84) tk rfl rfl rfl rfl rfl rfl rfl rfl rfl rfl rfl rfl rfl rfl (je.refl _) (eu k84.1) (er k84.2.1) (eB k84.2.2) fun g84=>?_
  refine bo rfl (bQ rfl rfl rfl rfl rfl rfl rfl rfl rfl rfl rfl rfl (aP (aw (bm 2 tk rfl ?_))))
  exact bG g84 H hl2 hg2
 refine ab (aa (ai tk ?_))
 refine ag tk ?_
 refine ak tk rfl (ac ?_)
 obtain rfl := aI H
 refine lK 12 1 rfl rfl rfl rfl rfl ?_
 refine bw tk rfl (ps := [(.agg [(.list 49 (x28.1.map aW)),(.list 55 (s2.map (aq 54 af)))]),(al 0)]) ⟨_,_,rfl,⟨_,_,_,_,_,rfl,rfl,rfl,rfl⟩,_,_,rfl,rfl,rfl⟩ (PLe.q rfl)
def jF (sA : LSchema) (q : LQuery) : Option (Bool) :=
 ah (
  ah (lr q 400) fun x8 =>
  cond (decide (x8 < (0 : Int)))
   (some true)
   (ah (gV sA) fun x12 =>
   some (x12 != (0 : Int)))) fun (t1 : Bool) =>
 cond t1
  (some false)
  (ah (lk sA q) fun x18 =>
  some (x18.2 == (0 : Int)))
theorem rJ (sA : LSchema) (q : LQuery) (r : Bool) (H : jF sA q = some r) :
  aT Tryz.prog 11 [(.agg (cp sA)),(.agg (aK q))] (aL r) := by
 unfold jF at H
 refine PH.ax Tryz.func11 Tryz.ntmps11 ?_
 refine ab (aa (au ?_))
 refine au ?_
 refine ak tk rfl (ac (ab (ab ?_)))
 refine gS (γ := Unit) (fun t1 g1=>⟨23,upd (upd (upd (fun _=>.any) 14 (aL t1)) 3 (.ptr (aK q))) 2 (.ptr (cp sA)),fun _=>none,fun _=>none⟩) H (fun _ H=>?_) (fun t1 g1 H=>?_)
 ·refine aa (ak tk rfl ?_)
  obtain ⟨x8,h8,H⟩ := aE H
  have s8 := sj q 400 _ h8
  refine ae Tryz.call23 (fu.r) s8 ?_
  refine aj 2 tk rfl ?_
  refine bF rfl rfl rfl H (fun H=>?_) (fun H=>?_)
  ·refine aj 4 tk rfl (ac ?_)
   refine bp _ () (aI H) Gh.d
  refine ak tk rfl ?_
  obtain ⟨x12,h12,H⟩ := aE H
  have s12 := rG sA _ h12
  refine ae Tryz.call24 (fu.r) s12 ?_
  refine aj 2 tk rfl (ac ?_)
  refine bp _ () (aI H) Gh.d
 refine aN rfl H (fun H=>?_) (fun H=>?_)
 ·refine av 1 tk rfl ?_
  exact bu tk H rfl
 refine ao (ab (aa (aj 2 tk rfl ?_)))
 obtain ⟨x18,h18,H⟩ := aE H
 have s18 := W_query_Check sA q _ h18
 refine ae Tryz.call25 (fu.r) s18 ?_
 refine aj 5 tk rfl (ac (av 3 tk rfl ?_))
 exact bu tk H rfl
def ik (sA : LSchema) (st : List LRelation) (q : LQuery) (args : Rq) : Option (LResult × Int) :=
 ah (iu sA st q args ([] : List LCol) ([] : Rq)) fun x14 =>
 some (x14.1,x14.2)
theorem nP (sA : LSchema) (st : List LRelation) (q : LQuery) (args : Rq) (r : LResult × Int) (H : ik sA st q args = some r) :
  aT Tryz.prog 10 [(.agg (cp sA)),(.list 57 (st.map dF)),(.agg (aK q)),(.list 54 (args.map af))] (.tup [(.agg (mI r.1)),(al r.2)]) := by
 unfold ik at H
 refine PH.ax Tryz.func10 Tryz.ntmps10 ?_
 refine ab (aa (au ?_))
 refine au ?_
 refine aY tk fun b8=>?_
 refine ak tk rfl (ac (ab (aa (aj 4 tk rfl ?_))))
 obtain ⟨x14,h14,H⟩ := aE H
 have s14 := pf sA st q args ([] : List LCol) ([] : Rq) _ h14
 refine ae Tryz.call22 (fu.of2 (iB.cons (PLe2.of_eq rfl) (iB.cons (PLe2.of_eq rfl) (iB.cons (PLe2.of_eq rfl) (iB.cons (PLe2.of_eq rfl) (iB.cons (PLe2.nil tk rfl) (iB.cons (PLe2.nil tk rfl) iB.nil))))))) s14 ?_
 refine aj 2 tk rfl (ag tk ?_)
 refine ak tk rfl (ac ?_)
 obtain rfl := aI H
 refine bw tk rfl (ps := [(.agg (mI x14.1)),(al x14.2)]) ⟨_,_,rfl,⟨_,_,_,_,_,rfl,rfl,rfl,rfl⟩,_,_,rfl,rfl,rfl⟩ (PLe.q rfl)
def il (sA : LSchema) (st : List LRelation) (q : LQuery) (args : Rq) : Option (Bool) :=
 ah (jF sA q) fun x11 =>
 cond x11
  (cond (decide ((args.length : Int) ≤ (20 : Int)))
   (ah (fp sA st) fun x20 =>
   cond (x20 == (0 : Int))
    (ah (fg q args) fun x26 =>
    some (x26 == (0 : Int)))
    (some false))
   (some false))
  (some false)
theorem oe (sA : LSchema) (st : List LRelation) (q : LQuery) (args : Rq) (r : Bool) (H : il sA st q args = some r) :
  aT Tryz.prog 5 [(.agg (cp sA)),(.list 57 (st.map dF)),(.agg (aK q)),(.list 54 (args.map af))] (aL r) := by
 unfold il at H
 refine PH.ax Tryz.func5 Tryz.ntmps5 ?_
 refine ab (aa (au ?_))
 refine au ?_
 refine ak tk rfl (ac (ab (aa (aj 2 tk rfl ?_))))
 obtain ⟨x11,h11,H⟩ := aE H
 have s11 := rJ sA q _ h11
 refine ae Tryz.call11 (fu.r) s11 ?_
 refine ak tk rfl ?_
 refine bF rfl rfl rfl H (fun H=>?_) (fun H=>?_)
 ·refine ak tk rfl (aG tk (zl _) ?_)
  refine aj 3 tk rfl ?_
  refine bF rfl rfl rfl H (fun H=>?_) (fun H=>?_)
  ·refine aj 2 tk rfl ?_
   obtain ⟨x20,h20,H⟩ := aE H
   have s20 := mf sA st _ h20
   refine ae Tryz.call12 (fu.r) s20 ?_
   refine aj 3 tk rfl ?_
   refine bF rfl rfl rfl H (fun H=>?_) (fun H=>?_)
   ·refine aj 2 tk rfl ?_
    obtain ⟨x26,h26,H⟩ := aE H
    have s26 := lf q args _ h26
    refine ae Tryz.call13 (fu.r) s26 ?_
    refine aj 3 tk rfl (ac ?_)
    exact bu tk H rfl
   refine aj 6 tk rfl (ac ?_)
   exact bu tk H rfl
  refine aj 12 tk rfl (ac ?_)
  exact bu tk H rfl
 refine aj 17 tk rfl (ac ?_)
 exact bu tk H rfl
def iL : Option (Bool) :=
 ah (ik (LSchema.mk [(LTable.mk [116] [(LCol.mk [97] 1 false)] [0])] [] []) ([(LRelation.mk [116] [[(LVal.mk 1 1 [])],[(LVal.mk 1 2 [])]])] : List LRelation) (LQuery.mk 1 [116] [] [] [] [] 0 0 []) ([] : Rq)) fun x22 =>
 cond (x22.2 == (0 : Int))
  (some ((x22.1.rows.length : Int) == (2 : Int)))
  (some false)
theorem rH (r : Bool) (H : iL = some r) :
  aT Tryz.prog 4 [] (aL r) := by
 unfold iL at H
 refine PH.ax Tryz.func4 Tryz.ntmps4 ?_
 refine av 1 tk rfl (ab (aa (ak tk rfl (cz tk (rows' := List.map aW ([(LCol.mk [97] 1 false)] : List LCol)) (je.refl _) ?_))))
 refine cz tk (rows' := List.map bV ([0] : List Int)) (je.refl _) ?_
 refine ak tk rfl (cz tk (rows' := List.map cL ([(LTable.mk [116] [(LCol.mk [97] 1 false)] [0])] : List LTable)) (je.refl _) ?_)
 refine ak tk rfl ?_
 refine aY tk fun b1=>?_
 refine ag tk ?_
 refine ac (ab (aa (ak tk rfl (cz tk (rows' := List.map af ([(LVal.mk 1 1 [])] : Rq)) (je.refl _) ?_))))
 refine ak tk rfl (cz tk (rows' := List.map af ([(LVal.mk 1 2 [])] : Rq)) (je.refl _) ?_)
 refine cz tk (rows' := List.map (aq 54 af) ([[(LVal.mk 1 1 [])],[(LVal.mk 1 2 [])]] : Rz)) (je.refl _) ?_
 refine ak tk rfl (cz tk (rows' := List.map dF ([(LRelation.mk [116] [[(LVal.mk 1 1 [])],[(LVal.mk 1 2 [])]])] : List LRelation)) (je.refl _) ?_)
 refine ak tk rfl (ac (ab (aa (ai tk ?_))))
 refine aj 2 tk rfl ?_
 obtain ⟨x22,h22,H⟩ := aE H
 have s22 := nP (LSchema.mk [(LTable.mk [116] [(LCol.mk [97] 1 false)] [0])] [] []) ([(LRelation.mk [116] [[(LVal.mk 1 1 [])],[(LVal.mk 1 2 [])]])] : List LRelation) (LQuery.mk 1 [116] [] [] [] [] 0 0 []) ([] : Rq) _ h22
 refine ae Tryz.call10 (fu.of2 (iB.cons (PLe2.agg (iB.cons (PLe2.of_eq rfl) (iB.cons (PLe2.nil tk rfl) (iB.cons (PLe2.nil tk rfl) iB.nil)))) (iB.cons (PLe2.of_eq rfl) (iB.cons (PLe2.agg (iB.cons (PLe2.of_eq rfl) (iB.cons (PLe2.of_eq rfl) (iB.cons (PLe2.nil tk rfl) (iB.cons (PLe2.nil tk rfl) (iB.cons (PLe2.nil tk rfl) (iB.cons (PLe2.nil tk rfl) (iB.cons (PLe2.of_eq rfl) (iB.cons (PLe2.of_eq rfl) (iB.cons (PLe2.nil tk rfl) iB.nil)))))))))) (iB.cons (PLe2.nil tk rfl) iB.nil))))) s22 ?_
 refine aj 3 tk rfl ?_
 refine aY tk fun b3=>?_
 refine ag tk ?_
 refine ak tk rfl (ac (ab (aa (aj 3 tk rfl ?_))))
 refine bF rfl rfl rfl H (fun H=>?_) (fun H=>?_)
 ·refine ak tk rfl (ai tk ?_)
  refine aG tk (zl _) ?_
  refine aj 3 tk rfl (ac ?_)
  exact bu tk H rfl
 refine aj 6 tk rfl (ac ?_)
 exact bu tk H rfl
def eO (sA : LSchema) (st : List LRelation) (q : LQuery) (args : Rq) : Option (LResult × Bool) :=
 ah (ik sA st q args) fun x17 =>
 some (x17.1,(x17.2 == (0 : Int)))
theorem lQ (sA : LSchema) (st : List LRelation) (q : LQuery) (args : Rq) (r : LResult × Bool) (H : eO sA st q args = some r) :
  aT Tryz.prog 8 [(.agg (cp sA)),(.list 57 (st.map dF)),(.agg (aK q)),(.list 54 (args.map af))] (.tup [(.agg (mI r.1)),(aL r.2)]) := by
 unfold eO at H
 refine PH.ax Tryz.func8 Tryz.ntmps8 ?_
 refine ab (aa (au ?_))
 refine au ?_
 refine aY tk fun b8=>?_
 refine ak tk rfl (ac (ab (aa (aj 4 tk rfl ?_))))
 obtain ⟨x17,h17,H⟩ := aE H
 have s17 := nP sA st q args _ h17
 refine ae Tryz.call10 (fu.r) s17 ?_
 refine aj 3 tk rfl ?_
 refine aY tk fun b10=>?_
 refine ag tk ?_
 refine ak tk rfl (ac (ab (aa (ai tk ?_))))
 refine aj 2 tk rfl (ag tk ?_)
 refine ak tk rfl (ac ?_)
 obtain rfl := aI H
 refine bw tk rfl (ps := [(.agg (mI x17.1)),(aL (x17.2 == (0 : Int)))]) ⟨_,_,rfl,⟨_,_,_,_,_,rfl,rfl,rfl,rfl⟩,_,_,rfl,rfl,rfl⟩ (PLe.q rfl)
end
end Go.Proofs.YtlddibnpcmlobaaGreat

namespace Go.Proofs.YtlddibnpcmlobaaGreat
noncomputable section
open Go Go.Ab
theorem LQuery.inputs_lt {q x : LQuery} (h : x ∈ q.inputs) : SizeOf.sizeOf x < SizeOf.sizeOf q := by
 cases q
 simp only [LQuery.inputs] at h
 have := List.sizeOf_lt_of_mem h
 simp only [LQuery.mk.sizeOf_spec]
 omega
theorem LQuery.ind {p : LQuery → Prop} (h : ∀ q : LQuery,(∀ x ∈ q.inputs,p x) → p q) : ∀ q,p q := by
 intro q
 generalize hn : SizeOf.sizeOf q = n
 induction n using Nat.strongRecOn generalizing q with
 | _ n ih=>exact h q fun x hx=>ih _ (hn ▸ LQuery.inputs_lt hx) x rfl
theorem ev_all {α : Type} {p : α → Nat → Prop} : ∀ (xs : List α),(∀ x ∈ xs,∃ N,∀ n,N ≤ n → p x n) → ∃ N,∀ n,N ≤ n → ∀ x ∈ xs,p x n
 | [],_=>⟨0,fun _ _ x hx=>by simp at hx⟩
 | y :: xs,h=>by
  obtain ⟨N,hN⟩ := h y (by simp)
  obtain ⟨N',hN'⟩ := ev_all xs fun x hx=>h x (by simp [hx])
  refine ⟨N + N',fun n hn x hx=>?_⟩
  rcases List.mem_cons.1 hx with rfl | hx
  ·exact hN n (by omega)
  ·exact hN' n (by omega) x hx
theorem kA {α σ ρ : Type} {step step' : Nat → α → σ → Option (Flow σ ρ)} : ∀ (xs : List α) (j : Nat) (s : σ),(∀ k x s,xs[k]? = some x → step (j + k) x s = step' (j + k) x s) → aM step j xs s = aM step' j xs s
 | [],_,_,_=>rfl
 | x :: xs,j,s,h=>by
  have h0 := h 0 x s rfl
  rw [Nat.add_zero] at h0
  rw [aM,aM,h0]
  split
  ·rfl
  ·exact kA xs (j + 1) _ fun k y t hk=>by
    have := h (k + 1) y t (by simpa using hk)
    rwa [show j + (k + 1) = j + 1 + k from by omega] at this
  ·rfl
  ·rfl
theorem gB {α : Type} {xs : List α} {k : Nat} {x : α} (h : xs[k]? = some x) : x ∈ xs := List.mem_of_getElem? h
theorem nx {γ β : Type} {F : Nat → γ → LQuery → Option β} {O : (γ → LQuery → Option β) → γ → LQuery → Option β} (hF : ∀ n,F (n + 1) = O (F n)) (c : γ) (q : LQuery)
  (hc : ∀ r r' : γ → LQuery → Option β,(∀ x ∈ q.inputs,r c x = r' c x) → O r c q = O r' c q) (hx : ∀ x ∈ q.inputs,∃ v,ja (fun n=>F n c x) = some v) {r : β} (h : O (fun c q=>ja fun n=>F n c q) c q = some r) :
  ja (fun n=>F n c q) = some r := by
 obtain ⟨N,hN⟩ := ev_all (p := fun x n=>F n c x = ja fun n=>F n c x) q.inputs (fun x hm=>by
  obtain ⟨v,hv⟩ := hx x hm
  obtain ⟨N,hN⟩ := limN_ev hv
  exact ⟨N,fun n hn=>by rw [hN n hn,hv]⟩)
 refine po (N + 1) fun m hm=>?_
 obtain ⟨m,rfl⟩ : ∃ k,m = k + 1 := ⟨m - 1,by omega⟩
 rw [hF,hc _ (fun c q=>ja fun n=>F n c q) (hN m (by omega)),h]
def cl (q : LQuery) : List LQuery := q :: (q.inputs.attach.map fun x=>cl x.1).flatten
termination_by SizeOf.sizeOf q
decreasing_by exact LQuery.inputs_lt x.2
theorem hC (q : LQuery) : cl q = q :: (q.inputs.map cl).flatten := by
 rw [cl,List.attach_map_val (f := cl)]
theorem flat_le {α β : Type} {f : α → List β} {xs : List α} {x : α} (h : x ∈ xs) : (f x).length ≤ ((xs.map f).flatten).length := by
 induction xs with
 | nil=>simp at h
 | cons y xs ih =>
  simp only [List.map_cons,List.flatten_cons,List.length_append]
  rcases List.mem_cons.1 h with rfl | h
  ·omega
  ·have := ih h; omega
theorem mc {q x : LQuery} (h : x ∈ q.inputs) : (cl x).length + 1 ≤ (cl q).length := by
 rw [hC q]
 have := flat_le (f := cl) h
 simp only [List.length_cons]
 omega
theorem cn {α : Type} {bytes : Nat} {xs ys : List α} (hb : bytes ≤ 200) (h : xs.length + ys.length ≤ 10000000) : dL bytes xs ys = some (xs ++ ys) := by
 refine appI_ok ?_ (by unfold maxLen; omega)
 have : (xs.length + ys.length) * bytes ≤ 10000000 * 200 := Nat.mul_le_mul h hb
 omega
theorem take_flat {α β : Type} {f : α → List β} {xs : List α} {k : Nat} : (((xs.take k).map f).flatten).length ≤ ((xs.map f).flatten).length := by
 induction xs generalizing k with
 | nil=>simp
 | cons y xs ih =>
  cases k with
  | zero=>simp
  | succ k=>simp only [List.take_succ_cons,List.map_cons,List.flatten_cons,List.length_append]; have := ih (k := k); omega
theorem nodes_ok : ∀ q : LQuery,(cl q).length ≤ 10000000 → jm q = some (cl q) := by
 refine LQuery.ind fun q ih hb=>?_
 refine nx (γ := Unit) (F := fun n _ q=>jl n q) (O := fun r _ q=>jp (fun x=>r () x) q) (fun n=>rfl) () q ?_ (fun x hx=>⟨_,ih x hx (by have := mc hx; omega)⟩) ?_
 ·intro r r' h
  simp only [jp]
  congr 1
  exact kA q.inputs 0 _ fun k x s hk=>by rw [h x (gB hk)]
 ·have hr := rMa (step := fun (_ : Nat) (x1 : LQuery) (s1 : List LQuery)=>ah (jm x1) fun x17=>ah (dL 160 s1 x17) fun (x18 : List LQuery)=>some (Flow.next (ρ := Empty) x18)) (xs := q.inputs) (s := [q])
   (fun k=>q :: ((q.inputs.take k).map cl).flatten) (by simp) (fun k x hk=>by
    have hx := gB hk
    rw [ih x hx (by have := mc hx; omega),bPs,cn (by decide),bPs]
    ·rw [List.take_add_one,hk]; simp
    ·have h1 : (((q.inputs.take (k + 1)).map cl).flatten).length ≤ ((q.inputs.map cl).flatten).length := take_flat
     rw [List.take_add_one,hk] at h1
     rw [hC] at hb
     simp at h1 hb ⊢
     omega)
  simp only [jp]
  have e : ∀ x,(ja fun n=>jl n x) = jm x := fun _=>rfl
  simp only [e]
  rw [hr,bPs,ck,List.take_length,hC]
def du (a b : Int) : Int := if b > a then b else a
theorem pA {a b c : Int} (h : a ≤ c) (h' : b ≤ c) : du a b ≤ c := by unfold du; split <;> assumption
theorem jg (a b : Int) : a ≤ du a b := by unfold du; split <;> omega
theorem mQ (a b : Int) : b ≤ du a b := by unfold du; split <;> omega
def ji (q : LQuery) : Int := (q.inputs.attach.map fun x=>ji x.1).foldl du 0 + 1
termination_by SizeOf.sizeOf q
decreasing_by exact LQuery.inputs_lt x.2
theorem oP (q : LQuery) : ji q = (q.inputs.map ji).foldl du 0 + 1 := by
 rw [ji,List.attach_map_val (f := ji)]
theorem qp : ∀ {l : List Int} {a c : Int},a ≤ c → (∀ x ∈ l,x ≤ c) → l.foldl du a ≤ c
 | [],_,_,h,_=>h
 | x :: l,a,c,h,hl=>qp (l := l) (pA h (hl x (by simp))) fun y hy=>hl y (by simp [hy])
theorem qq : ∀ {l : List Int} {a : Int},a ≤ l.foldl du a ∧ ∀ x ∈ l,x ≤ l.foldl du a
 | [],a=>⟨Int.le_refl a,by simp⟩
 | x :: l,a=>by
  obtain ⟨h1,h2⟩ := qq (l := l) (a := du a x)
  simp only [List.foldl_cons]
  refine ⟨Int.le_trans (jg a x) h1,fun y hy=>?_⟩
  rcases List.mem_cons.1 hy with rfl | hy
  ·exact Int.le_trans (mQ a y) h1
  ·exact h2 y hy
theorem depthQ_nodes : ∀ q : LQuery,1 ≤ ji q ∧ ji q ≤ (cl q).length := by
 refine LQuery.ind fun q ih=>?_
 rw [oP,hC]
 have h1 : (q.inputs.map ji).foldl du 0 ≤ (((q.inputs.map cl).flatten).length : Nat) := qp (by omega) fun x hx=>by
  obtain ⟨y,hy,rfl⟩ := List.mem_map.1 hx
  have := (ih y hy).2
  have := flat_le (f := cl) hy
  omega
 have h2 := (qq (l := q.inputs.map ji) (a := 0)).1
 simp only [List.length_cons]
 omega
theorem depth_ok : ∀ q : LQuery,(cl q).length ≤ 10000000 → ke q = some (ji q) := by
 refine LQuery.ind fun q ih hb=>?_
 refine nx (γ := Unit) (F := fun n _ q=>jo n q) (O := fun r _ q=>jn (fun x=>r () x) q) (fun n=>rfl) () q ?_ (fun x hx=>⟨_,ih x hx (by have := mc hx; omega)⟩) ?_
 ·intro r r' h
  simp only [jn]
  congr 1
  exact kA q.inputs 0 _ fun k x s hk=>by rw [h x (gB hk)]
 ·have hr := rMa (step := fun (_ : Nat) (x1 : LQuery) (s1 : Int)=>ah (ke x1) fun x15=>some (Flow.next (ρ := Empty) (if x15 > s1 then x15 else s1))) (xs := q.inputs) (s := 0)
   (fun k=>((q.inputs.take k).map ji).foldl du 0) (by simp) (fun k x hk=>by
    have hx := gB hk
    rw [ih x hx (by have := mc hx; omega),bPs,List.take_add_one,hk]
    simp [du])
  simp only [jn]
  have e : ∀ x,(ja fun n=>jo n x) = ke x := fun _=>rfl
  simp only [e]
  rw [hr,bPs,ck,List.take_length,oP]
  have h := depthQ_nodes q
  rw [oP] at h
  rw [bJ (by omega) (by omega)]
def mg (n : Int) : Int := if 20001 < n then 20001 else n
def iH (kind : Int) (s : Int × Int) (j : Nat) (x : Int × Int) : Int × Int :=
 (mg (if j = 0 then x.1 else if kind = 6 then s.1 + x.1 else if kind = 4 ∨ kind = 5 then s.1 * du 1 x.1 else s.1),du s.2 x.2)
def ed (kind : Int) : Nat → List (Int × Int) → Int × Int → Int × Int
 | _,[],s=>s
 | j,x :: l,s=>ed kind (j + 1) l (iH kind s j x)
def bM (q : LQuery) : Int × Int :=
 let s := ed q.kind 0 (q.inputs.attach.map fun x=>bM x.1) (0,0)
 if q.kind = 1 then (24,du s.2 24) else (s.1,du s.2 s.1)
termination_by SizeOf.sizeOf q
decreasing_by exact LQuery.inputs_lt x.2
theorem lw (q : LQuery) : bM q = if q.kind = 1 then (24,du (ed q.kind 0 (q.inputs.map bM) (0,0)).2 24) else ((ed q.kind 0 (q.inputs.map bM) (0,0)).1,du (ed q.kind 0 (q.inputs.map bM) (0,0)).2 (ed q.kind 0 (q.inputs.map bM) (0,0)).1) := by
 rw [bM,List.attach_map_val (f := bM)]
def mC (s : Int × Int) : Prop := 0 ≤ s.1 ∧ s.1 ≤ 20001 ∧ 0 ≤ s.2 ∧ s.2 ≤ 20001
theorem capI_b {n : Int} (h : 0 ≤ n) : 0 ≤ mg n ∧ mg n ≤ 20001 := by unfold mg; split <;> omega
theorem mostStep_r {kind : Int} {s x : Int × Int} {j : Nat} (hs : mC s) (hx : mC x) : mC (iH kind s j x) := by
 obtain ⟨a1,a2,a3,a4⟩ := hs
 obtain ⟨b1,b2,b3,b4⟩ := hx
 unfold iH
 have h1 : 0 ≤ (if j = 0 then x.1 else if kind = 6 then s.1 + x.1 else if kind = 4 ∨ kind = 5 then s.1 * du 1 x.1 else s.1) := by
  split
  ·exact b1
  ·split
   ·omega
   ·split
    ·exact Int.mul_nonneg a1 (Int.le_trans (by decide) (jg 1 x.1))
    ·exact a1
 exact ⟨(capI_b h1).1,(capI_b h1).2,Int.le_trans a3 (jg _ _),pA a4 b4⟩
theorem pQ {kind : Int} : ∀ {l : List (Int × Int)} {j : Nat} {s : Int × Int},mC s → (∀ x ∈ l,mC x) → mC (ed kind j l s)
 | [],_,_,h,_=>h
 | x :: l,j,s,h,hl=>pQ (l := l) (mostStep_r h (hl x (by simp))) fun y hy=>hl y (by simp [hy])
theorem mostQ_r : ∀ q : LQuery,mC (bM q) := by
 refine LQuery.ind fun q ih=>?_
 rw [lw]
 have h : mC (ed q.kind 0 (q.inputs.map bM) (0,0)) := pQ ⟨by decide,by decide,by decide,by decide⟩ fun x hx=>by
  obtain ⟨y,hy,rfl⟩ := List.mem_map.1 hx
  exact ih y hy
 obtain ⟨a1,a2,a3,a4⟩ := h
 split
 ·exact ⟨show (0 : Int) ≤ 24 by decide,show (24 : Int) ≤ 20001 by decide,Int.le_trans a3 (jg _ _),pA a4 (by decide)⟩
 ·exact ⟨a1,a2,Int.le_trans a3 (jg _ _),pA a4 a2⟩
theorem re (kind : Int) : ∀ (l : List (Int × Int)) (j : Nat) (s x : Int × Int),ed kind j (l ++ [x]) s = iH kind (ed kind j l s) (j + l.length) x
 | [],j,s,x=>by simp [ed]
 | y :: l,j,s,x=>by
  rw [List.cons_append,ed,re kind l (j + 1),ed]
  congr 1
  simp
  omega
theorem mostStep_run {kind : Int} {s x : Int × Int} {j : Nat} (hs : mC s) (hx : mC x) :
  (cond ((j : Int) == (0 : Int))
   (some (Flow.next (ρ := Empty) ((if (20001 : Int) < x.1 then (20001 : Int) else x.1),(if x.2 > s.2 then x.2 else s.2))))
   (cond (kind == (6 : Int))
    (some (.next ((if (20001 : Int) < (IntKind.i64.wrap (s.1 + x.1)) then (20001 : Int) else (IntKind.i64.wrap (s.1 + x.1))),(if x.2 > s.2 then x.2 else s.2))))
    (bH (
     cond (kind == (4 : Int))
      (true)
      ((kind == (5 : Int)))) fun (t4 : Bool) =>
    cond t4
     (some (.next ((if (20001 : Int) < (IntKind.i64.wrap (s.1 * (if x.1 > (1 : Int) then x.1 else (1 : Int)))) then (20001 : Int) else (IntKind.i64.wrap (s.1 * (if x.1 > (1 : Int) then x.1 else (1 : Int))))),(if x.2 > s.2 then x.2 else s.2))))
     (some (.next ((if (20001 : Int) < s.1 then (20001 : Int) else s.1),(if x.2 > s.2 then x.2 else s.2))))))) = some (.next (iH kind s j x)) := by
 obtain ⟨a1,a2,a3,a4⟩ := hs
 obtain ⟨b1,b2,b3,b4⟩ := hx
 have hm : 1 ≤ du 1 x.1 ∧ du 1 x.1 ≤ 20001 := ⟨jg _ _,pA (by decide) b2⟩
 have hp : 0 ≤ s.1 * du 1 x.1 ∧ s.1 * du 1 x.1 ≤ 20001 * 20001 := ⟨Int.mul_nonneg a1 (by omega),Int.mul_le_mul a2 hm.2 (by omega) (by decide)⟩
 have hw1 : IntKind.i64.wrap (s.1 + x.1) = s.1 + x.1 := bJ (by omega) (by omega)
 have hw2 : IntKind.i64.wrap (s.1 * (if x.1 > (1 : Int) then x.1 else (1 : Int))) = s.1 * du 1 x.1 := bJ (by show _ ≤ s.1 * du 1 x.1; omega) (by show s.1 * du 1 x.1 ≤ _; omega)
 rw [hw1,hw2]
 unfold iH mg du bH
 by_cases h0 : j = 0
 ·subst h0; simp
 ·have : ((j : Int) == (0 : Int)) = false := by simp; omega
  rw [this]
  by_cases h6 : kind = 6
  ·subst h6; simp [h0]
  ·by_cases h4 : kind = 4
   ·subst h4; simp [h0]
   ·by_cases h5 : kind = 5
    ·subst h5; simp [h0]
    ·have e6 : (kind == (6 : Int)) = false := by simpa using h6
     have e4 : (kind == (4 : Int)) = false := by simpa using h4
     have e5 : (kind == (5 : Int)) = false := by simpa using h5
     simp [h0,h6,h4,h5,e6,e4,e5]
theorem most_ok : ∀ q : LQuery,lU q = some (bM q) := by
 refine LQuery.ind fun q ih=>?_
 refine nx (γ := Unit) (F := fun n _ q=>jO n q) (O := fun r _ q=>jN (fun x=>r () x) q) (fun n=>rfl) () q ?_ (fun x hx=>⟨_,ih x hx⟩) ?_
 ·intro r r' h
  simp only [jN]
  congr 1
  exact kA q.inputs 0 _ fun k x s hk=>by rw [h x (gB hk)]
 ·simp only [jN]
  have e : ∀ x,(ja fun n=>jO n x) = lU x := fun _=>rfl
  simp only [e]
  rw [rMa (xs := q.inputs) (s := (0,0)) (fun k=>ed q.kind 0 ((q.inputs.take k).map bM) (0,0)) (by simp [ed]) (fun k x hk=>by
    have hx := gB hk
    rw [ih x hx,bPs,mostStep_run (pQ ⟨by decide,by decide,by decide,by decide⟩ fun y hy=>by
     obtain ⟨z,_,rfl⟩ := List.mem_map.1 hy
     exact mostQ_r z) (mostQ_r x),List.take_add_one,hk]
    have hk' := (zg.1 hk).1
    simp only [Option.toList_some,List.map_append,List.map_cons,List.map_nil]
    rw [re]
    congr 3
    simp
    omega)]
  rw [bPs,ck,List.take_length,lw]
  by_cases h1 : q.kind = 1
  ·simp [h1,du]
  ·have : (q.kind == (1 : Int)) = false := by simpa using h1
   simp [h1,this,du]
def oj : List (Int → Int) → Int → Int
 | [],s=>s
 | f :: l,s=>if s < 0 then -1 else oj l (f (IntKind.i64.wrap (s - 1)))
def sizeHere (q : LQuery) (m : Int) : Int :=
 q.aggregates.foldl (fun s a=>a.args.foldl (fun s e=>iY e (IntKind.i64.wrap (s - 1))) s) (q.exprs.foldl (fun s e=>iY e (IntKind.i64.wrap (s - 1))) m)
def lV (q : LQuery) : Int → Int := fun m=>oj (q.inputs.attach.map fun x=>lV x.1) (sizeHere q m)
termination_by SizeOf.sizeOf q
decreasing_by exact LQuery.inputs_lt x.2
theorem sizeQ_eq (q : LQuery) (m : Int) : lV q m = oj (q.inputs.map lV) (sizeHere q m) := by
 rw [lV,List.attach_map_val (f := lV)]
theorem rf {f : LQuery → Int → Option Int} : ∀ (l : List LQuery) (j : Nat) (s : Int),(∀ x ∈ l,∀ m,f x m = some (lV x m)) →
  ah (aM (σ := Int) (ρ := Int) (fun (_ : Nat) (x6 : LQuery) (s6 : Int)=>cond (decide (s6 < (0 : Int))) (some (.ret (-1))) (ah (f x6 (IntKind.i64.wrap (s6 - (1 : Int)))) fun x57=>some (.next x57))) j l s) (fun fl6=>fl6.thenR fun (s6 : Int)=>some s6) = some (oj (l.map lV) s)
 | [],j,s,_=>rfl
 | x :: l,j,s,h=>by
  rw [aM,List.map_cons,oj]
  by_cases hs : s < 0
  ·simp [hs]
  ·simp only [hs,decide_false,zd,if_false]
   rw [h x (by simp),bPs]
   exact rf l (j + 1) _ fun y hy=>h y (by simp [hy])
theorem size_ok : ∀ (q : LQuery) (m : Int),lr q m = some (lV q m) := by
 have key : ∀ q : LQuery,∃ N,∀ n,N ≤ n → ∀ m,gm n q m = some (lV q m) := by
  refine LQuery.ind fun q ih=>?_
  obtain ⟨N,hN⟩ := ev_all (p := fun x n=>∀ m,gm n x m = some (lV x m)) q.inputs ih
  refine ⟨N + 1,fun n hn m=>?_⟩
  obtain ⟨n,rfl⟩ : ∃ k,n = k + 1 := ⟨n - 1,by omega⟩
  rw [gm]
  simp only [jX,bU]
  rw [mE (xs := q.exprs) (fun s e=>iY e (IntKind.i64.wrap (s - 1))) (fun _ _ _=>rfl),bPs,ck]
  rw [mE (xs := q.aggregates) (fun s a=>a.args.foldl (fun s e=>iY e (IntKind.i64.wrap (s - 1))) s) (fun k a _=>by
   rw [mE (xs := a.args) (fun s e=>iY e (IntKind.i64.wrap (s - 1))) (fun _ _ _=>rfl),bPs,ck]),bPs,ck]
  rw [rf q.inputs 0 _ (hN n (by omega)),sizeQ_eq]
  rfl
 intro q m
 obtain ⟨N,hN⟩ := key q
 exact po N fun n hn=>hN n hn m
theorem LExpr.args_lt {e x : LExpr} (h : x ∈ e.args) : SizeOf.sizeOf x < SizeOf.sizeOf e := by
 cases e
 simp only [LExpr.args] at h
 have := List.sizeOf_lt_of_mem h
 simp only [LExpr.mk.sizeOf_spec]
 omega
theorem LExpr.ind {p : LExpr → Prop} (h : ∀ e : LExpr,(∀ x ∈ e.args,p x) → p e) : ∀ e,p e := by
 intro e
 generalize hn : SizeOf.sizeOf e = n
 induction n using Nat.strongRecOn generalizing e with
 | _ n ih=>exact h e fun x hx=>ih _ (hn ▸ LExpr.args_lt hx) x rfl
def gW (e : LExpr) : List (Nat × Int) := if e.kind = 3 ∧ 0 ≤ e.index ∧ e.index < 8 then [(e.index.toNat,e.value.kind)] else []
def cr (e : LExpr) : List (Nat × Int) := gW e ++ (e.args.attach.map fun x=>cr x.1).flatten
termination_by SizeOf.sizeOf e
decreasing_by exact LExpr.args_lt x.2
theorem jq (e : LExpr) : cr e = gW e ++ (e.args.map cr).flatten := by
 rw [cr,List.attach_map_val (f := cr)]
abbrev PSt := List Int × Bool × List Bool
def iC (out : List Int) (i : Nat) : List Int := out ++ List.replicate (i + 1 - out.length) 0
def eC (s : PSt) (p : Nat × Int) : PSt :=
 ((iC s.1 p.1).set p.1 p.2,s.2.1 || (s.2.2.getD p.1 false && (iC s.1 p.1).getD p.1 0 != p.2),s.2.2.set p.1 true)
def POk (s : PSt) : Prop := s.1.length ≤ 8 ∧ s.2.2.length = 8
theorem mV (out : List Int) (i : Nat) : (iC out i).length = max out.length (i + 1) := by simp [iC]; omega
theorem pstep_ok {s : PSt} {p : Nat × Int} (h : POk s) (hp : p.1 < 8) : POk (eC s p) := by
 refine ⟨?_,by simp [eC,h.2]⟩
 show ((iC s.1 p.1).set p.1 p.2).length ≤ 8
 rw [List.length_set,mV]
 have := h.1
 omega
theorem ma : ∀ e : LExpr,∀ p ∈ cr e,p.1 < 8 := by
 refine LExpr.ind fun e ih p hp=>?_
 rw [jq,List.mem_append] at hp
 rcases hp with hp | hp
 ·unfold gW at hp
  split at hp
  ·rename_i h; simp at hp; subst hp; simp; omega
  ·simp at hp
 ·obtain ⟨l,hl,hp⟩ := List.mem_flatten.1 hp
  obtain ⟨x,hx,rfl⟩ := List.mem_map.1 hl
  exact ih x hx p hp
theorem lx : ∀ {l : List (Nat × Int)} {s : PSt},POk s → (∀ p ∈ l,p.1 < 8) → POk (l.foldl eC s)
 | [],_,h,_=>h
 | p :: l,s,h,hl=>lx (l := l) (pstep_ok h (hl p (by simp))) fun q hq=>hl q (by simp [hq])
theorem pad_while (i : Nat) (hi : i < 8) : ∀ (n : Nat) (out : List Int),i + 1 - out.length = n → out.length ≤ 8 →
  fD (σ := List Int) (ρ := Empty) (fun (s7 : List Int)=>cond (decide ((s7.length : Int) ≤ (i : Int))) (ah (dL 8 s7 ([0] : List Int)) fun (x28 : List Int)=>some (.next x28)) (some (.brk s7))) out = some (.next (iC out i))
 | 0,out,hn,ho=>by
  refine kY (fl := .brk out) ?_ ?_
  ·have : ¬ ((out.length : Int) ≤ (i : Int)) := by omega
   simp [this]
  ·simp [iC,hn]
 | n + 1,out,hn,ho=>by
  refine kY (fl := .next (out ++ [0])) ?_ ?_
  ·have : (out.length : Int) ≤ (i : Int) := by omega
   simp only [this,decide_true,zc]
   rw [cn (by decide) (by simp; omega)]
   rfl
  ·have := pad_while i hi n (out ++ [0]) (by simp; omega) (by simp; omega)
   simp only
   rw [this]
   simp only [iC,List.length_append,List.length_singleton,List.append_assoc,hn]
   rw [show i + 1 - (out.length + 1) = n from by omega,show (List.replicate (n + 1) (0 : Int)) = [0] ++ List.replicate n 0 from rfl]
theorem arrI_at {xs : List Bool} {i : Nat} (h : xs.length = 8) (hi : i < 8) : arrI 8 xs (i : Int) = some (xs.getD i false) := by
 have : xs[i]? = some (xs.getD i false) := by rw [List.getD_eq_getElem?_getD,ze (by omega)]; rfl
 exact arrI_eq (by omega) (by simpa using this)
theorem getI_at {xs : List Int} {i : Nat} (h : i < xs.length) : aO xs (i : Int) = some (xs.getD i 0) := by
 have : xs[i]? = some (xs.getD i 0) := by rw [List.getD_eq_getElem?_getD,ze h]; rfl
 exact ll this
theorem look_ok : ∀ e : LExpr,∃ N,∀ n,N ≤ n → ∀ s : PSt,POk s → dk n e s.1 s.2.1 s.2.2 = some ((cr e).foldl eC s) := by
 refine LExpr.ind fun e ih=>?_
 obtain ⟨N,hN⟩ := ev_all (p := fun x n=>∀ s : PSt,POk s → dk n x s.1 s.2.1 s.2.2 = some ((cr x).foldl eC s)) e.args ih
 refine ⟨N + 1,fun n hn s hs=>?_⟩
 obtain ⟨n,rfl⟩ : ∃ k,n = k + 1 := ⟨n - 1,by omega⟩
 rw [dk]
 simp only [gQ]
 have h1 : POk ((gW e).foldl eC s) := lx hs fun p hp=>ma e p (by rw [jq]; simp [hp])
 have hloop : ∀ s : PSt,POk s → ah (aM (σ := List Int × Bool × List Bool) (ρ := Empty) (fun (_ : Nat) (x11 : LExpr) (s11 : List Int × Bool × List Bool) =>
   ah (dk n x11 s11.1 s11.2.1 s11.2.2) fun x66=>some (.next (x66.1,x66.2.1,x66.2.2))) 0 e.args (s.1,s.2.1,s.2.2)) (fun fl11=>fl11.thenP fun (s11 : List Int × Bool × List Bool)=>some (s11.1,s11.2.1,s11.2.2)) =
   some (((e.args.map cr).flatten).foldl eC s) := by
  intro s hs
  rw [rMa (xs := e.args) (s := (s.1,s.2.1,s.2.2)) (fun k=>(((e.args.take k).map cr).flatten).foldl eC s) rfl (fun k x hk=>by
   have hx := gB hk
   have hok : POk ((((e.args.take k).map cr).flatten).foldl eC s) := lx hs fun p hp=>by
    obtain ⟨l,hl,hp⟩ := List.mem_flatten.1 hp
    obtain ⟨y,hy,rfl⟩ := List.mem_map.1 hl
    exact ma y p hp
   rw [hN n (by omega) x hx _ hok,bPs,List.take_add_one,hk]
   simp)]
  rw [bPs,ck,List.take_length]
 have key : (ah (cond (bH (cond (e.kind == (3 : Int)) (cond (decide (e.index ≥ (0 : Int))) ((decide (e.index < (8 : Int)))) (false)) (false)) fun (t1 : Bool)=>t1)
   (ah (fD (σ := List Int) (ρ := Empty) (fun (s7 : List Int)=>cond (decide ((s7.length : Int) ≤ e.index)) (ah (dL 8 s7 ([0] : List Int)) fun (x28 : List Int)=>some (.next x28)) (some (.brk s7))) s.1) fun fl7=>fl7.thenP fun (s7 : List Int) =>
   ah (cond s.2.1 (some true) (ah (arrI 8 s.2.2 e.index) fun (x33 : Bool)=>cond x33 (ah (aO s7 e.index) fun (x39 : Int)=>some (x39 != e.value.kind)) (some false))) fun (t8 : Bool) =>
   ah (aO s7 e.index) fun (_ : Int)=>bH (s7.set e.index.toNat e.value.kind) fun (y9 : List Int)=>ah (arrI 8 s.2.2 e.index) fun (_ : Bool)=>bH (s.2.2.set e.index.toNat true) fun (y10 : List Bool)=>some (y9,t8,y10))
   (some (s.1,s.2.1,s.2.2))) fun t=>some t) = some ((gW e).foldl eC s) := by
  unfold bH
  by_cases hc : e.kind = 3 ∧ 0 ≤ e.index ∧ e.index < 8
  ·obtain ⟨hk,h0,h8⟩ := hc
   obtain ⟨i,hi⟩ : ∃ i : Nat,e.index = i := ⟨e.index.toNat,by omega⟩
   have hi8 : i < 8 := by omega
   have e0 : (e.kind == (3 : Int)) = true := by simpa using hk
   have e1 : decide (e.index ≥ (0 : Int)) = true := zt h0
   have e2 : decide (e.index < (8 : Int)) = true := zt h8
   rw [e0,e1,e2]
   simp only [zc]
   rw [hi,pad_while i hi8 _ s.1 rfl hs.1]
   simp only [bPs,ck]
   have hl : i < (iC s.1 i).length := by rw [mV]; omega
   rw [arrI_at hs.2 hi8,getI_at hl]
   simp only [bPs,Int.toNat_natCast]
   have hh : gW e = [(i,e.value.kind)] := by unfold gW; rw [zp ⟨hk,h0,h8⟩,hi,Int.toNat_natCast]
   rw [hh]
   simp only [List.foldl_cons,List.foldl_nil,eC]
   cases hb : s.2.1 <;> cases hc : s.2.2.getD i false <;> simp
  ·have hh : gW e = [] := by unfold gW; rw [zy hc]
   rw [hh]
   have e0 : (cond (e.kind == (3 : Int)) (cond (decide (e.index ≥ (0 : Int))) ((decide (e.index < (8 : Int)))) (false)) (false)) = false := by
    by_cases a : e.kind = 3
    ·by_cases b : 0 ≤ e.index
     ·have : ¬ e.index < 8 := fun h=>hc ⟨a,b,h⟩
      simp [this]
     ·have : ¬ e.index ≥ 0 := b
      simp [this]
    ·have : (e.kind == (3 : Int)) = false := by simpa using a
     simp [this]
   rw [e0]
   rfl
 simp only [bU] at key ⊢
 rw [jq,List.foldl_append,← hloop _ h1]
 generalize hg : (cond _ _ _ : Option PSt) = o at key
 cases o with
 | none=>cases key
 | some t =>
  simp only [bPs,zo] at key
  subst key
  rfl
theorem look_eq (e : LExpr) {s : PSt} (h : POk s) : fI e s.1 s.2.1 s.2.2 = some ((cr e).foldl eC s) := by
 obtain ⟨N,hN⟩ := look_ok e
 exact po N fun n hn=>hN n hn s h
def gC (x : LQuery) : List (Nat × Int) := (x.exprs.map cr).flatten ++ (x.aggregates.map fun a=>(a.args.map cr).flatten).flatten
def fy (q : LQuery) : List (Nat × Int) := ((cl q).map gC).flatten
theorem nv {x : LQuery} : ∀ p ∈ gC x,p.1 < 8 := by
 intro p hp
 rcases List.mem_append.1 hp with hp | hp
 ·obtain ⟨l,hl,hp⟩ := List.mem_flatten.1 hp
  obtain ⟨e,_,rfl⟩ := List.mem_map.1 hl
  exact ma e p hp
 ·obtain ⟨l,hl,hp⟩ := List.mem_flatten.1 hp
  obtain ⟨a,_,rfl⟩ := List.mem_map.1 hl
  obtain ⟨l,hl,hp⟩ := List.mem_flatten.1 hp
  obtain ⟨e,_,rfl⟩ := List.mem_map.1 hl
  exact ma e p hp
theorem paramsQ_lt {q : LQuery} : ∀ p ∈ fy q,p.1 < 8 := by
 intro p hp
 obtain ⟨l,hl,hp⟩ := List.mem_flatten.1 hp
 obtain ⟨x,_,rfl⟩ := List.mem_map.1 hl
 exact nv p hp
theorem lookAll {l : List LExpr} {s : PSt} (h : POk s) : aM (σ := PSt) (ρ := Empty) (fun (_ : Nat) (x12 : LExpr) (s12 : PSt) =>
   ah (fI x12 s12.1 s12.2.1 s12.2.2) fun x33=>some (.next (x33.1,x33.2.1,x33.2.2))) 0 l (s.1,s.2.1,s.2.2) = some (.next (((l.map cr).flatten).foldl eC s)) := by
 rw [rMa (xs := l) (s := (s.1,s.2.1,s.2.2)) (fun k=>(((l.take k).map cr).flatten).foldl eC s) rfl (fun k x hk=>by
  have hok : POk ((((l.take k).map cr).flatten).foldl eC s) := lx h fun p hp=>by
   obtain ⟨m,hm,hp⟩ := List.mem_flatten.1 hp
   obtain ⟨y,hy,rfl⟩ := List.mem_map.1 hm
   exact ma y p hp
  rw [look_eq x hok,bPs,List.take_add_one,hk]
  simp),List.take_length]
def dO (q : LQuery) : PSt := (fy q).foldl eC ([],false,List.replicate 8 false)
theorem kinds_ok {q : LQuery} (hb : (cl q).length ≤ 10000000) : fe q = some (cond (dO q).2.1 ([],13) ((dO q).1,0)) := by
 unfold fe
 rw [nodes_ok q hb,bPs]
 rw [rMa (xs := cl q) (s := ([],false,List.replicate 8 false)) (fun k=>((((cl q).take k).map gC).flatten).foldl eC ([],false,List.replicate 8 false)) rfl (fun k x hk=>by
  have hok : POk (((((cl q).take k).map gC).flatten).foldl eC ([],false,List.replicate 8 false)) := lx ⟨by simp,by simp⟩ fun p hp=>by
   obtain ⟨m,hm,hp⟩ := List.mem_flatten.1 hp
   obtain ⟨y,hy,rfl⟩ := List.mem_map.1 hm
   exact nv p hp
  rw [lookAll hok,bPs,ck]
  rw [show ((((cl q).take (k + 1)).map gC).flatten).foldl eC ([],false,List.replicate 8 false) = (gC x).foldl eC (((((cl q).take k).map gC).flatten).foldl eC ([],false,List.replicate 8 false)) from by
   rw [List.take_add_one,hk]
   simp only [Option.toList_some,List.map_append,List.map_cons,List.map_nil,List.flatten_append,List.flatten_cons,List.flatten_nil,List.append_nil,List.foldl_append]]
  generalize (((((cl q).take k).map gC).flatten).foldl eC ([],false,List.replicate 8 false)) = s at hok ⊢
  have hok2 : POk (((x.exprs.map cr).flatten).foldl eC s) := lx hok fun p hp=>nv (x := x) p (by unfold gC; simp only [List.mem_append]; exact .inl hp)
  rw [rMa (xs := x.aggregates) (s := ((((x.exprs.map cr).flatten).foldl eC s).1,(((x.exprs.map cr).flatten).foldl eC s).2.1,(((x.exprs.map cr).flatten).foldl eC s).2.2))
   (fun k=>((((x.aggregates.take k).map fun a=>(a.args.map cr).flatten).flatten).foldl eC (((x.exprs.map cr).flatten).foldl eC s))) rfl (fun k a ha=>by
    have hok3 : POk ((((x.aggregates.take k).map fun a=>(a.args.map cr).flatten).flatten).foldl eC (((x.exprs.map cr).flatten).foldl eC s)) := lx hok2 fun p hp=>nv (x := x) p (by
     unfold gC
     simp only [List.mem_append]
     obtain ⟨m,hm,hp⟩ := List.mem_flatten.1 hp
     obtain ⟨y,hy,rfl⟩ := List.mem_map.1 hm
     exact .inr (List.mem_flatten.2 ⟨_,List.mem_map.2 ⟨y,List.mem_of_mem_take hy,rfl⟩,hp⟩))
    rw [lookAll hok3,bPs,ck,List.take_add_one,ha]
    simp)]
  rw [bPs,ck,List.take_length]
  unfold gC
  rw [List.foldl_append])]
 rw [bPs,ck,List.take_length]
 show (cond (dO q).2.1 (some ([],13)) (some ((dO q).1,0))) = _
 cases (dO q).2.1 <;> rfl
def nF (l : List (Nat × Int)) : Prop := ∀ i k k',(i,k) ∈ l → (i,k') ∈ l → k = k'
structure PInv (l : List (Nat × Int)) (s : PSt) : Prop where
 ok : POk s
 seen : ∀ i,i < 8 → (s.2.2.getD i false = true ↔ ∃ k,(i,k) ∈ l)
 len : ∀ i k,(i,k) ∈ l → i < s.1.length
 last : s.1.length = 0 ∨ ∃ k,(s.1.length - 1,k) ∈ l
 zero : ∀ i,(∀ k,(i,k) ∉ l) → s.1.getD i 0 = 0
 good : s.2.1 = false → ∀ i k,(i,k) ∈ l → s.1.getD i 0 = k
 bad : nF l → s.2.1 = false
theorem oR (out : List Int) (i j : Nat) : (iC out i).getD j 0 = out.getD j 0 := by
 simp only [iC,List.getD_eq_getElem?_getD]
 by_cases h : j < out.length
 ·rw [List.getElem?_append_left h]
 ·rw [List.getElem?_append_right (by omega),List.getElem?_eq_none (l := out) (by omega),List.getElem?_replicate]
  split <;> rfl
theorem PInv.init : PInv [] ([],false,List.replicate 8 false) :=
 ⟨⟨by simp,by simp⟩,fun i hi=>by
  have : (List.replicate 8 false).getD i false = false := by rw [List.getD_eq_getElem?_getD,List.getElem?_replicate]; split <;> rfl
  exact ⟨fun h=>(by rw [show (([],false,List.replicate 8 false) : PSt).2.2 = List.replicate 8 false from rfl,this] at h; cases h),fun ⟨k,hk⟩=>(by simp at hk)⟩,fun i k h=>by simp at h,.inl rfl,fun i _=>by simp,fun _ i k h=>by simp at h,fun _=>rfl⟩
theorem PInv.step {l : List (Nat × Int)} {s : PSt} (h : PInv l s) {p : Nat × Int} (hp : p.1 < 8) : PInv (l ++ [p]) (eC s p) := by
 obtain ⟨i,k⟩ := p
 simp only at hp
 have hset : ∀ (xs : List Int) (j : Nat) (v : Int),i < xs.length → (xs.set i v).getD j 0 = if j = i then v else xs.getD j 0 := by
  intro xs j v hl
  rw [List.getD_eq_getElem?_getD,List.getD_eq_getElem?_getD,List.getElem?_set]
  by_cases hji : i = j
  ·subst hji; simp [hl]
  ·have : j ≠ i := fun h=>hji h.symm
   simp [hji,this]
 have hl1 : i < (iC s.1 i).length := by rw [mV]; omega
 refine ⟨pstep_ok h.ok hp,fun j hj=>?_,fun j k' hm=>?_,?_,fun j hno=>?_,fun hb j k' hm=>?_,fun hk=>?_⟩
 ·show (s.2.2.set i true).getD j false = true ↔ _
  rw [List.getD_eq_getElem?_getD,List.getElem?_set]
  by_cases hji : i = j
  ·subst hji
   have : i < s.2.2.length := by rw [h.ok.2]; exact hp
   simp [this]
  ·have h1 := h.seen j hj
   rw [List.getD_eq_getElem?_getD] at h1
   have hji' : j ≠ i := fun h=>hji h.symm
   simp only [hji,if_false,h1,List.mem_append,List.mem_singleton,Prod.mk.injEq,hji',false_and,or_false]
 ·show j < ((iC s.1 i).set i k).length
  rw [List.length_set,mV]
  rcases List.mem_append.1 hm with hm | hm
  ·have := h.len j k' hm; omega
  ·simp at hm; omega
 ·show ((iC s.1 i).set i k).length = 0 ∨ ∃ k',(((iC s.1 i).set i k).length - 1,k') ∈ l ++ [(i,k)]
  rw [List.length_set,mV]
  by_cases hle : s.1.length ≤ i + 1
  ·right
   exact ⟨k,by rw [show max s.1.length (i + 1) - 1 = i from by omega]; simp⟩
  ·rcases h.last with h0 | ⟨k',hk'⟩
   ·omega
   ·right
    exact ⟨k',by rw [show max s.1.length (i + 1) - 1 = s.1.length - 1 from by omega]; simp [hk']⟩
 ·show ((iC s.1 i).set i k).getD j 0 = 0
  have hji : j ≠ i := fun e=>hno k (by simp [e])
  rw [hset _ _ _ hl1,zy hji,oR]
  exact h.zero j fun k' hm=>hno k' (by simp [hm])
 ·have hb' : s.2.1 = false ∧ (s.2.2.getD i false && (iC s.1 i).getD i 0 != k) = false := by
   have : (s.2.1 || (s.2.2.getD i false && (iC s.1 i).getD i 0 != k)) = false := hb
   simpa using this
  show ((iC s.1 i).set i k).getD j 0 = k'
  rw [hset _ _ _ hl1]
  have hold := h.good hb'.1
  rcases List.mem_append.1 hm with hm1 | hm
  ·by_cases hji : j = i
   ·subst hji
    rw [zp rfl]
    have hs := (h.seen j hp).2 ⟨k',hm1⟩
    have := hb'.2
    rw [hs,oR,hold j k' hm1] at this
    simp at this
    exact this.symm
   ·rw [zy hji,oR]
    exact hold j k' hm1
  ·simp at hm
   rw [zp hm.1,hm.2]
 ·have h1 := h.bad fun i k k' a b=>hk i k k' (by simp [a]) (by simp [b])
  show (s.2.1 || (s.2.2.getD i false && (iC s.1 i).getD i 0 != k)) = false
  rw [h1,Bool.false_or,oR]
  cases hs : s.2.2.getD i false with
  | false=>rfl
  | true =>
   obtain ⟨k',hk'⟩ := (h.seen i hp).1 hs
   rw [h.good h1 i k' hk',hk i k' k (by simp [hk']) (by simp)]
   simp
theorem PInv.fold : ∀ {r l : List (Nat × Int)} {s : PSt},PInv l s → (∀ p ∈ r,p.1 < 8) → PInv (l ++ r) (r.foldl eC s)
 | [],l,s,h,_=>by simpa using h
 | p :: r,l,s,h,hr=>by
  have := PInv.fold (r := r) (h.step (hr p (by simp))) fun q hq=>hr q (by simp [hq])
  simpa using this
theorem kinds_inv (q : LQuery) : PInv (fy q) (dO q) := by
 have := PInv.fold (r := fy q) PInv.init paramsQ_lt
 rw [List.nil_append] at this
 exact this
theorem kinds_bad {q : LQuery} : (dO q).2.1 = false ↔ nF (fy q) := by
 have h := kinds_inv q
 refine ⟨fun hb i k k' a b=>?_,h.bad⟩
 rw [← h.good hb i k a,← h.good hb i k' b]
structure ArgsOk (l : List (Nat × Int)) (args : Rq) : Prop where
 kinds : nF l
 args : ∀ i k,(i,k) ∈ l → i < args.length ∧ (∀ j x,j ≤ i → args[j]? = some x → dW x = true) ∧ (∀ x,args[i]? = some x → k = 0 ∨ x.kind = k ∨ x.kind = 0)
theorem args_ok {q : LQuery} (hb : (cl q).length ≤ 10000000) (args : Rq) : ∃ e,fg q args = some e ∧ (e = 0 ↔ ArgsOk (fy q) args) := by
 unfold fg
 rw [kinds_ok hb,bPs]
 have h := kinds_inv q
 cases hbad : (dO q).2.1 with
 | true =>
  refine ⟨13,by simp,?_⟩
  have : ¬ nF (fy q) := fun hk=>by rw [kinds_bad.2 hk] at hbad; cases hbad
  exact ⟨fun h=>by omega,fun h=>absurd h.kinds this⟩
 | false =>
  simp only [zd]
  have hk := kinds_bad.1 hbad
  by_cases hl : args.length < (dO q).1.length
  ·refine ⟨1,by simp [hl],fun h=>by omega,fun ha=>?_⟩
   rcases h.last with h0 | ⟨k,hm⟩
   ·omega
   ·have := (ha.args _ _ hm).1; omega
  ·have hge : (dO q).1.length ≤ args.length := by omega
   have hstep : ∀ k x,(dO q).1[k]? = some x → ∃ y,args[k]? = some y := fun k x hx=>by
    have := (zg.1 hx).1
    exact ⟨args[k],ze (by omega)⟩
   let okAt : Nat → Int → Prop := fun k x=>∀ y,args[k]? = some y → dW y = true ∧ (x = 0 ∨ y.kind = x ∨ y.kind = 0)
   obtain ⟨fl,hfl,hres⟩ := fH (step := fun (j1 : Nat) (x1 : Int) (_ : Unit)=>ah (aO args (j1 : Int)) fun (x31 : LVal)=>bH (dW x31) fun x33=>cond (!x33) (some (Flow.ret (σ := Unit) (7 : Int)))
     (cond (x1 != (0 : Int)) (ah (aO args (j1 : Int)) fun (x41 : LVal)=>cond (x41.kind != x1) (ah (aO args (j1 : Int)) fun (x50 : LVal)=>cond (x50.kind != (0 : Int)) (some (.ret 7)) (some (.next ()))) (some (.next ()))) (some (.next ()))))
    (fun j _=>∀ k x,k < j → (dO q).1[k]? = some x → okAt k x) (fun r=>r = 7 ∧ ∃ k x,(dO q).1[k]? = some x ∧ ¬ okAt k x) (dO q).1 0 () (fun k x hk=>by omega) (fun k x s hk hI=>by
     obtain ⟨y,hy⟩ := hstep k x hk
     simp only [Nat.zero_add] at hI ⊢
     rw [ll hy]
     simp only [bPs,bU]
     have next : okAt k x → ∀ k' x',k' < k + 1 → (dO q).1[k']? = some x' → okAt k' x' := fun ho k' x' hk' hx'=>by
      by_cases he : k' = k
      ·subst he; rw [hk] at hx'; cases hx'; exact ho
      ·exact hI k' x' (by omega) hx'
     cases hv : dW y with
     | false=>exact ⟨_,rfl,rfl,k,x,hk,fun ho=>by have := (ho y hy).1; rw [hv] at this; cases this⟩
     | true =>
      simp only [Bool.not_true,zd]
      by_cases hx0 : x = 0
      ·refine ⟨.next (),by simp [hx0],next fun z hz=>?_⟩
       rw [hy] at hz; cases hz; exact ⟨hv,.inl hx0⟩
      ·have e0 : (x != (0 : Int)) = true := by simpa using hx0
       rw [e0,zc]
       by_cases hyx : y.kind = x
       ·refine ⟨.next (),by simp [hyx],next fun z hz=>?_⟩
        rw [hy] at hz; cases hz; exact ⟨hv,.inr (.inl hyx)⟩
       ·have e1 : (y.kind != x) = true := by simpa using hyx
        rw [e1,zc]
        by_cases hy0 : y.kind = 0
        ·refine ⟨.next (),by simp [hy0],next fun z hz=>?_⟩
         rw [hy] at hz; cases hz; exact ⟨hv,.inr (.inr hy0)⟩
        ·have e2 : (y.kind != (0 : Int)) = true := by simpa using hy0
         refine ⟨.ret 7,by simp [e2],rfl,k,x,hk,fun ho=>?_⟩
         rcases (ho y hy).2 with a | a | a
         ·exact hx0 a
         ·exact hyx a
         ·exact hy0 a)
   have e0 : decide ((args.length : Int) < ((dO q).1.length : Int)) = false := zf (by omega)
   simp only [bne_self_eq_false,zd,e0]
   rw [hfl,bPs]
   have hget : ∀ k,k < (dO q).1.length → (dO q).1[k]? = some ((dO q).1.getD k 0) := fun k hk=>by
    rw [List.getD_eq_getElem?_getD,ze hk]; rfl
   cases fl with
   | brk s=>exact absurd hres (by simp)
   | next s =>
    refine ⟨0,rfl,fun _=>⟨hk,fun i k hm=>?_⟩,fun _=>rfl⟩
    have hi := h.len i k hm
    simp only [Nat.zero_add] at hres
    refine ⟨by omega,fun j x hj hx=>?_,fun x hx=>?_⟩
    ·exact ((hres j _ (by omega) (hget j (by omega))) x hx).1
    ·have := ((hres i _ (by omega) (hget i (by omega))) x hx).2
     rwa [h.good hbad i k hm] at this
   | ret r =>
    obtain ⟨rfl,k,x,hx,hno⟩ := hres
    refine ⟨7,rfl,fun h=>by omega,fun ha=>absurd ?_ hno⟩
    intro y hy
    have hkl := (zg.1 hx).1
    rcases h.last with h0 | ⟨k',hm⟩
    ·omega
    ·have hv := (ha.args _ _ hm).2.1 k y (by omega) hy
     refine ⟨hv,?_⟩
     by_cases hex : ∃ k2,(k,k2) ∈ fy q
     ·obtain ⟨k2,hm2⟩ := hex
      have hg := h.good hbad k k2 hm2
      have hxx : x = k2 := by
       rw [hget k hkl] at hx
       rw [← hg]
       exact (Option.some.inj hx).symm
      rw [hxx]
      exact (ha.args k k2 hm2).2.2 y hy
     ·left
      have := h.zero k fun k2 hm2=>hex ⟨k2,hm2⟩
      rw [hget k hkl] at hx
      rw [← this]
      exact (Option.some.inj hx).symm
def Tot {α : Type} (o : Option α) : Prop := ∃ v,o = some v
theorem Tot.mk {α : Type} {v : α} : Tot (Option.some v) := ⟨v,rfl⟩
theorem Tot.bind {α β : Type} {o : Option α} {k : α → Option β} (h : Tot o) (hk : ∀ v,o = some v → Tot (k v)) : Tot (ah o k) := by
 obtain ⟨v,hv⟩ := h
 rw [hv]
 exact hk v hv
theorem Tot.cond {α : Type} {b : Bool} {x y : Option α} (hx : b = true → Tot x) (hy : b = false → Tot y) : Tot (cond b x y) := by
 cases b
 ·exact hy rfl
 ·exact hx rfl
theorem Tot.get {α : Type} {xs : List α} {i : Int} (h0 : 0 ≤ i) (h : i < xs.length) : Tot (aO xs i) := by
 have : i.toNat < xs.length := by omega
 exact ⟨xs[i.toNat],lF h0 (ze this)⟩
theorem Tot.sub {α : Type} {xs : List α} {a b : Int} (h : 0 ≤ a ∧ a ≤ b ∧ b ≤ xs.length) : Tot (nc xs a b) := ⟨_,px h⟩
theorem Tot.range {α σ ρ : Type} {step : Nat → α → σ → Option (Flow σ ρ)} : ∀ (xs : List α) (j : Nat) (s : σ),(∀ k x s,xs[k]? = some x → Tot (step (j + k) x s)) → Tot (aM step j xs s)
 | [],_,s,_=>⟨.next s,rfl⟩
 | x :: xs,j,s,h=>by
  obtain ⟨fl,hfl⟩ := h 0 x s rfl
  rw [Nat.add_zero] at hfl
  rw [aM,hfl]
  cases fl with
  | next s' =>
   exact Tot.range xs (j + 1) s' fun k y t hk=>by
    have := h (k + 1) y t (by simpa using hk)
    rwa [show j + (k + 1) = j + 1 + k from by omega] at this
  | brk s'=>exact ⟨_,rfl⟩
  | ret r=>exact ⟨_,rfl⟩
theorem Tot.thenR {σ ρ : Type} {fl : Flow σ ρ} {k : σ → Option ρ} (h : ∀ s,(fl = .next s ∨ fl = .brk s) → Tot (k s)) : Tot (fl.thenR k) := by
 cases fl with
 | next s=>exact h s (.inl rfl)
 | brk s=>exact h s (.inr rfl)
 | ret r=>exact ⟨r,rfl⟩
theorem lq {a b : Int} (h : a ≠ b) : (a != b) = true := by simpa using h
theorem bneF {a b : Int} (h : a = b) : (a != b) = false := by simp [h]
theorem cP {a b : Int} (h : a ≠ b) : (a == b) = false := by simpa using h
theorem kw {a b : Int} (h : a = b) : (a == b) = true := by simp [h]
theorem idxF {α : Type} {l : List α} {f : α → Option Bool} {p : α → Bool} (h : ∀ x ∈ l,f x = some (p x)) :
  ah (aM (σ := Unit) (ρ := Int) (fun (j1 : Nat) (x1 : α) (_ : Unit)=>ah (f x1) fun x16=>cond x16 (some (.ret (j1 : Int))) (some (.next ()))) 0 l ()) (fun fl1=>fl1.thenR fun (_ : Unit)=>some (-1)) = some (bh p l) := by
 rw [oW p (fun j _=>(j : Int)) l 0 (fun k x hk=>by
  rw [h x (gB hk),bPs]
  cases p x <;> simp)]
 unfold bh
 cases hf : l.findIdx? p with
 | none=>rfl
 | some i =>
  have hi := (List.findIdx?_eq_some_iff_getElem.1 hf).1
  simp only [ze hi]
  simp
theorem idxF2 {α : Type} {l : List α} {p : α → Bool} :
  ah (aM (σ := Unit) (ρ := Int) (fun (j1 : Nat) (x1 : α) (_ : Unit)=>cond (p x1) (some (.ret (j1 : Int))) (some (.next ()))) 0 l ()) (fun fl1=>fl1.thenR fun (_ : Unit)=>some (-1)) = some (bh p l) := idxF (f := fun x=>some (p x)) fun _ _=>rfl
theorem idxOf_neg {α : Type} {p : α → Bool} {l : List α} : bh p l = -1 ∨ 0 ≤ bh p l := by
 unfold bh
 cases l.findIdx? p with
 | none=>exact .inl rfl
 | some i=>exact .inr (by simp)
theorem mW {α : Type} {p : α → Bool} {l : List α} (h : 0 ≤ bh p l) : ∃ x,l[(bh p l).toNat]? = some x ∧ p x = true := by
 unfold bh at h ⊢
 cases hf : l.findIdx? p with
 | none=>rw [hf] at h; simp at h
 | some i =>
  obtain ⟨hi,hp,_⟩ := List.findIdx?_eq_some_iff_getElem.1 hf
  exact ⟨l[i],by simp [hi],hp⟩
theorem idx_table (l : List LTable) (p : LTable → Bool) : cO l (fun a=>some (p a)) = some (bh p l) := idxF fun _ _=>rfl
theorem idx_column (l : List LCol) (p : LCol → Bool) : cG l (fun a=>some (p a)) = some (bh p l) := idxF fun _ _=>rfl
theorem oz (s : LSchema) (name : List UInt8) : fK s name = some (du 0 (bh (fun t=>cZ t name) s.tables),decide (bh (fun t=>cZ t name) s.tables ≥ 0)) := by
 unfold fK
 rw [idx_table,bPs]
 congr 2
 unfold du
 split <;> split <;> omega
theorem findColumn_eq (t : LTable) (name : List UInt8) : fX t name = some (du 0 (bh (fun c=>dR c name) t.columns),decide (bh (fun c=>dR c name) t.columns ≥ 0)) := by
 unfold fX
 rw [idx_column,bPs]
 congr 2
 unfold du
 split <;> split <;> omega
theorem oY {n : Int} (h : 0 ≤ n) : du 0 n = n := by unfold du; split <;> omega
theorem qu (s : List UInt8) : Tot (fJ s) := by
 unfold fJ
 refine Tot.bind ?_ fun b hb=>?_
 ·refine Tot.cond (fun _=>Tot.mk) fun h1=>?_
  refine Tot.cond (fun _=>Tot.mk) fun h2=>?_
  have h1 := of_decide_eq_false h1
  refine Tot.bind (Tot.get (by decide) (by omega)) fun x _=>?_
  refine Tot.cond (fun _=>?_) fun _=>Tot.mk
  exact Tot.bind (Tot.get (by decide) (by omega)) fun x _=>Tot.mk
 ·refine Tot.cond (fun _=>Tot.mk) fun h=>?_
  subst h
  have hl : (s.length : Int) ≤ 12 := by
   by_cases h1 : (s.length : Int) < 1
   ·omega
   ·by_cases h2 : (s.length : Int) > 12
    ·rw [zf h1,zt h2] at hb; simp at hb
    ·omega
  refine Tot.bind ⟨(),dV (by omega)⟩ fun _ _=>?_
  refine Tot.bind (Tot.range _ _ _ fun k x _ _=>?_) fun fl _=>Tot.thenR fun _ _=>Tot.mk
  repeat' first | exact Tot.mk | refine Tot.cond (fun _=>?_) (fun _=>?_)
structure TableOk (t : LTable) : Prop where
 pk : ∀ x ∈ t.primaryKey,0 ≤ x ∧ x < t.columns.length
 six : t.columns.length ≤ 6
 nn : ∀ (k : Nat) (x : Int),t.primaryKey[k]? = some x → (k : Int) ≤ x ∧ ∀ c,t.columns[x.toNat]? = some c → c.nullable = false
theorem validTable (t : LTable) (hsm : t.primaryKey.length ≤ 2 ^ 60) : ∃ e,fj t = some e ∧ (e = 0 → TableOk t) := by
 unfold fj
 obtain ⟨b,hb⟩ := qu t.name
 rw [hb,bPs]
 cases b with
 | false=>exact ⟨23,rfl,fun h=>by omega⟩
 | true =>
  simp only [Bool.not_true,zd]
  by_cases h0 : (t.columns.length : Int) = 0
  ·exact ⟨3,by simp [h0],fun h=>by omega⟩
  by_cases h6 : (t.columns.length : Int) > 6
  ·have : ((t.columns.length : Int) == 0) = false := by simpa using h0
   exact ⟨2,by rw [this]; simp [h6],fun h=>by omega⟩
  have e0 : ((t.columns.length : Int) == 0) = false := by simpa using h0
  rw [e0,zf h6]
  simp only [zd]
  obtain ⟨fl,hfl,hr⟩ := fH (step := fun (j1 : Nat) (x1 : LCol) (_ : Unit) =>
    ah (fJ x1.name) fun x31=>cond (!x31) (some (Flow.ret (σ := Unit) (23 : Int)))
     (ah (fX t x1.name) fun x37=>cond (decide (x37.1 < (j1 : Int))) (some (.ret 5)) (cond (decide (x1.kind < (1 : Int))) (some (.ret 7)) (cond (decide (x1.kind > (3 : Int))) (some (.ret 7)) (some (.next ())))))) (fun _ _=>True) (fun r=>r ≠ 0) t.columns 0 () trivial (fun k x s hk _=>by
    obtain ⟨b,hb⟩ := qu x.name
    rw [hb,bPs,findColumn_eq,bPs]
    cases b with
    | false=>exact ⟨_,rfl,by simp⟩
    | true =>
     simp only [Bool.not_true,zd]
     by_cases a1 : du 0 (bh (fun c=>dR c x.name) t.columns) < ((0 + k : Nat) : Int)
     ·exact ⟨.ret 5,by rw [zt a1]; rfl,by simp⟩
     ·rw [zf a1]
      by_cases a2 : x.kind < 1
      ·exact ⟨.ret 7,by rw [zt a2]; rfl,by simp⟩
      ·rw [zf a2]
       by_cases a3 : x.kind > 3
       ·exact ⟨.ret 7,by rw [zt a3]; rfl,by simp⟩
       ·exact ⟨.next (),by rw [zf a3]; rfl,trivial⟩)
  rw [hfl,bPs]
  cases fl with
  | brk s=>exact absurd hr (by simp)
  | ret r=>exact ⟨r,rfl,fun h=>absurd h hr⟩
  | next s =>
   rw [iP]
   obtain ⟨fl,hfl,hr⟩ := fH (step := fun (j2 : Nat) (x2 : Int) (_ : Unit) =>
     cond (decide (x2 < (0 : Int))) (some (Flow.ret (σ := Unit) (9 : Int))) (cond (decide (x2 ≥ (t.columns.length : Int))) (some (.ret 9))
      (ah (aO t.columns x2) fun (x73 : LCol)=>cond x73.nullable (some (.ret 9)) (cond (decide ((j2 : Int) > (0 : Int)))
       (ah (aO t.primaryKey (IntKind.i64.wrap ((j2 : Int) - (1 : Int)))) fun (x86 : Int)=>cond (decide (x2 ≤ x86)) (some (.ret 9)) (some (.next ()))) (some (.next ())))))) (fun j _=>∀ (k : Nat) (x : Int),k < j → t.primaryKey[k]? = some x → (0 ≤ x ∧ x < t.columns.length) ∧ (k : Int) ≤ x ∧ ∀ c,t.columns[x.toNat]? = some c → c.nullable = false) (fun r=>r ≠ 0) t.primaryKey 0 () (fun k x h=>by omega) (fun k x s hk hI=>by
     simp only [Nat.zero_add] at hI ⊢
     by_cases a1 : x < 0
     ·exact ⟨.ret 9,by rw [zt a1]; rfl,by simp⟩
     rw [zf a1]
     by_cases a2 : x ≥ (t.columns.length : Int)
     ·exact ⟨.ret 9,by rw [zt a2]; rfl,by simp⟩
     rw [zf a2]
     simp only [zd]
     obtain ⟨c,hc⟩ := Tot.get (xs := t.columns) (i := x) (by omega) (by omega)
     rw [hc,bPs]
     have next : c.nullable = false → (k : Int) ≤ x → ∀ (k' : Nat) (x' : Int),k' < k + 1 → t.primaryKey[k']? = some x' → (0 ≤ x' ∧ x' < t.columns.length) ∧ (k' : Int) ≤ x' ∧ ∀ c,t.columns[x'.toNat]? = some c → c.nullable = false := fun hn hkx k' x' h1 h2=>by
      by_cases he : k' = k
      ·subst he; rw [hk] at h2; cases h2; exact ⟨by omega,hkx,fun c' hc'=>by rw [(gIs hc).2] at hc'; cases hc'; exact hn⟩
      ·exact hI k' x' (by omega) h2
     cases hn : c.nullable with
     | true=>exact ⟨_,rfl,by simp⟩
     | false =>
      simp only [zd]
      by_cases a3 : (k : Int) > 0
      ·rw [zt a3]
       have hkl := (zg.1 hk).1
       rw [bJ (by omega) (by omega)]
       obtain ⟨y,hy⟩ := Tot.get (xs := t.primaryKey) (i := (k : Int) - 1) (by omega) (by omega)
       rw [zc,hy,bPs]
       by_cases a4 : x ≤ y
       ·exact ⟨.ret 9,by rw [zt a4]; rfl,by simp⟩
       ·refine ⟨.next (),by rw [zf a4]; rfl,next hn ?_⟩
        have hy2 := (gIs hy).2
        rw [show ((k : Int) - 1).toNat = k - 1 from by omega] at hy2
        have := (hI (k - 1) y (by omega) hy2).2.1
        omega
      ·exact ⟨.next (),by rw [zf a3]; rfl,next hn (by omega)⟩)
   rw [hfl,bPs]
   cases fl with
   | brk s=>exact absurd hr (by simp)
   | ret r=>exact ⟨r,rfl,fun h=>absurd h hr⟩
   | next s =>
    rw [iP]
    simp only [Nat.zero_add] at hr
    by_cases hp : (t.primaryKey.length : Int) = 0
    ·exact ⟨9,by simp [hp],fun h=>by omega⟩
    ·have : ((t.primaryKey.length : Int) == 0) = false := by simpa using hp
     refine ⟨0,by rw [this]; rfl,fun _=>⟨fun x hx=>?_,by omega,fun k x hk=>(hr k x (zg.1 hk).1 hk).2⟩⟩
     obtain ⟨k,hk,rfl⟩ := List.mem_iff_getElem.1 hx
     exact (hr k _ hk (ze hk)).1
theorem gT {α : Type} {xs : List α} {k : Nat} (h : k < xs.length) : aO xs (k : Int) = some xs[k] := ll (ze h)
theorem foreignKey_tot {s : LSchema} (hs : ∀ t ∈ s.tables,TableOk t) (fk : LForeignKey) : Tot (eE s fk) := by
 unfold eE
 rw [oz,oz]
 simp only [bPs,bU]
 generalize hi : bh (fun t=>cZ t fk.table) s.tables = i
 generalize hj : bh (fun t=>cZ t fk.refTable) s.tables = j
 by_cases h1 : i ≥ 0
 ·by_cases h2 : j ≥ 0
  ·rw [zt h1,zt h2]
   simp only [Bool.not_true,zd]
   rw [oY h1,oY h2]
   obtain ⟨t,ht,_⟩ := mW (hi ▸ h1)
   obtain ⟨u,hu,_⟩ := mW (hj ▸ h2)
   rw [hi] at ht
   rw [hj] at hu
   rw [lF h1 ht,lF h2 hu]
   simp only [bPs]
   refine Tot.cond (fun _=>Tot.mk) fun hl=>?_
   have hl : fk.columns.length = u.primaryKey.length := by
    by_cases h : (fk.columns.length : Int) = (u.primaryKey.length : Int)
    ·omega
    ·simp [h] at hl
   refine Tot.bind (Tot.range _ _ _ fun k x st hk=>?_) fun fl _=>Tot.thenR fun _ _=>Tot.mk
   have hkl := (zg.1 hk).1
   by_cases a1 : x < 0
   ·rw [zt a1]; exact Tot.mk
   ·rw [zf a1]
    by_cases a2 : x ≥ (t.columns.length : Int)
    ·rw [zt a2]; exact Tot.mk
    ·rw [zf a2]
     simp only [zd]
     obtain ⟨c,hc⟩ := Tot.get (xs := t.columns) (i := x) (by omega) (by omega)
     rw [hc,bPs,Nat.zero_add,gT (by omega),bPs]
     have hp := (hs u (gB hu)).pk u.primaryKey[k] (List.getElem_mem _)
     obtain ⟨d,hd⟩ := Tot.get (xs := u.columns) (i := u.primaryKey[k]) hp.1 hp.2
     rw [hd,bPs]
     exact Tot.cond (fun _=>Tot.mk) fun _=>Tot.mk
  ·rw [zf h2]
   simp only [Bool.not_false]
   cases decide (i ≥ 0) <;> exact Tot.mk
 ·rw [zf h1]
  exact Tot.mk
theorem constraint_tot (s : LSchema) (c : LConstraint) : Tot (eD s c) := by
 unfold eD
 rw [oz]
 simp only [bPs,bU]
 generalize hi : bh (fun t=>cZ t c.table) s.tables = i
 by_cases h1 : i ≥ 0
 ·rw [zt h1]
  simp only [Bool.not_true,zd]
  rw [oY h1]
  obtain ⟨t,ht,_⟩ := mW (hi ▸ h1)
  rw [hi] at ht
  rw [lF h1 ht,bPs]
  refine Tot.cond (fun _=>Tot.mk) fun hl=>?_
  by_cases a1 : c.left < 0
  ·rw [zt a1] at hl; cases hl
  rw [zf a1,zd] at hl
  by_cases a2 : c.left ≥ (t.columns.length : Int)
  ·rw [zt a2] at hl; cases hl
  rw [zf a2,zd] at hl
  obtain ⟨x,hx⟩ := Tot.get (xs := t.columns) (i := c.left) (by omega) (by omega)
  rw [hx]
  refine Tot.cond (fun a3=>?_) fun _=>?_
  ·have a3 := of_decide_eq_true a3
   have a4 : c.right < (t.columns.length : Int) := by
    rcases Int.lt_or_le c.right (t.columns.length : Int) with h | h
    ·exact h
    ·have e : decide (c.right ≥ (t.columns.length : Int)) = true := zt h
     rw [e] at hl
     revert hl
     cases ((gU (LVal.mk 0 0 []) c.op (LVal.mk 0 0 [])).2 != 0) <;> cases decide (c.right < -1) <;> simp
   obtain ⟨y,hy⟩ := Tot.get (xs := t.columns) (i := c.right) a3 a4
   rw [hy]
   simp only [bPs]
   exact Tot.cond (fun _=>Tot.mk) fun _=>Tot.mk
  ·rw [bPs]
   exact Tot.cond (fun _=>Tot.mk) fun _=>Tot.mk
 ·rw [zf h1]
  exact Tot.mk
theorem equalInts_tot (a b : List Int) : Tot (fO a b) := by
 unfold fO
 refine Tot.cond (fun _=>Tot.mk) fun h=>?_
 have h : a.length = b.length := by
  by_cases h' : (a.length : Int) = (b.length : Int)
  ·omega
  ·simp [h'] at h
 refine Tot.bind (Tot.range _ _ _ fun k x s hk=>?_) fun fl _=>Tot.thenR fun _ _=>Tot.mk
 have hkl := (zg.1 hk).1
 rw [Nat.zero_add,gT (by omega),bPs]
 exact Tot.cond (fun _=>Tot.mk) fun _=>Tot.mk
theorem fkIn_tot (l : List LForeignKey) (x : LForeignKey) : Tot (bZ l (fun a0=>fV a0 x)) := by
 unfold bZ cJ
 refine Tot.bind (Tot.bind (Tot.range _ _ _ fun k y s hk=>?_) fun fl _=>Tot.thenR fun _ _=>Tot.mk) fun _ _=>Tot.mk
 refine Tot.bind ?_ fun _ _=>Tot.cond (fun _=>Tot.mk) fun _=>Tot.mk
 unfold fV
 refine Tot.bind ?_ fun _ _=>Tot.mk
 unfold gG
 refine Tot.cond (fun _=>Tot.bind (equalInts_tot _ _) fun _ _=>Tot.cond (fun _=>Tot.mk) fun _=>Tot.mk) fun _=>Tot.mk
theorem csIn_tot (l : List LConstraint) (x : LConstraint) : Tot (cg l x) := by
 unfold cg cW
 refine Tot.bind (Tot.bind (Tot.range _ _ _ fun k y s hk=>?_) fun fl _=>Tot.thenR fun _ _=>Tot.mk) fun _ _=>Tot.mk
 exact Tot.cond (fun _=>Tot.mk) fun _=>Tot.mk
def lT (s : LSchema) : Prop := ∀ t ∈ s.tables,t.primaryKey.length ≤ 10000000
theorem validate_inv {s : LSchema} (hsm : ∀ t ∈ s.tables,t.primaryKey.length ≤ 2 ^ 60) : ∃ e,gV s = some e ∧ (e = 0 → s.tables.length ≤ 6 ∧ ∀ t ∈ s.tables,TableOk t) := by
 unfold gV
 rw [bU]
 cases ht : (cond (decide ((s.tables.length : Int) > (6 : Int))) true (cond (decide ((s.foreignKeys.length : Int) > (8 : Int))) true (decide ((s.constraints.length : Int) > (8 : Int))))) with
 | true=>exact ⟨2,rfl,fun h=>by omega⟩
 | false =>
 rw [zd]
 have h6 : s.tables.length ≤ 6 := by
  by_cases h : (s.tables.length : Int) > 6
  ·rw [zt h] at ht; cases ht
  ·omega
 obtain ⟨fl,hfl,hr⟩ := fH (step := fun (j2 : Nat) (x2 : LTable) (_ : Unit) =>
   ah (fj x2) fun x37=>cond (x37 != (0 : Int)) (some (Flow.ret (σ := Unit) x37)) (cond (decide ((j2 : Int) > (0 : Int)))
     (ah (aO s.tables (IntKind.i64.wrap ((j2 : Int) - (1 : Int)))) fun (x50 : LTable)=>cond (Op.bytesLess x2.name x50.name || x2.name == x50.name) (some (.ret 6)) (some (.next ()))) (some (.next ())))) (fun j _=>∀ k x,k < j → s.tables[k]? = some x → TableOk x) (fun r=>r ≠ 0) s.tables 0 () (fun k x h=>by omega) (fun k x st hk hI=>by
    simp only [Nat.zero_add] at hI ⊢
    obtain ⟨e,he,hok⟩ := validTable x (hsm x (gB hk))
    rw [he,bPs]
    by_cases h0 : e = 0
    ·have next : ∀ k' x',k' < k + 1 → s.tables[k']? = some x' → TableOk x' := fun k' x' h1 h2=>by
      by_cases heq : k' = k
      ·subst heq; rw [hk] at h2; cases h2; exact hok h0
      ·exact hI k' x' (by omega) h2
     rw [show (e != (0 : Int)) = false from by simp [h0],zd]
     by_cases a3 : (k : Int) > 0
     ·have hkl := (zg.1 hk).1
      rw [zt a3,bJ (by omega) (by omega)]
      obtain ⟨y,hy⟩ := Tot.get (xs := s.tables) (i := (k : Int) - 1) (by omega) (by omega)
      rw [zc,hy,bPs]
      cases (Op.bytesLess x.name y.name || x.name == y.name) with
      | true=>exact ⟨.ret 6,rfl,by simp⟩
      | false=>exact ⟨.next (),rfl,next⟩
     ·exact ⟨.next (),by rw [zf a3]; rfl,next⟩
    ·exact ⟨.ret e,by rw [show (e != (0 : Int)) = true from by simp [h0]]; rfl,h0⟩)
 rw [hfl,bPs]
 cases fl with
 | brk s=>exact absurd hr (by simp)
 | ret r=>exact ⟨r,rfl,fun h=>absurd h hr⟩
 | next u =>
  rw [iP]
  simp only [Nat.zero_add] at hr
  have hok : ∀ t ∈ s.tables,TableOk t := fun t ht=>by
   obtain ⟨k,hk,rfl⟩ := List.mem_iff_getElem.1 ht
   exact hr k _ hk (ze hk)
  refine (show ∀ {o : Option Int},Tot o → ∃ e,o = some e ∧ (e = 0 → s.tables.length ≤ 6 ∧ ∀ t ∈ s.tables,TableOk t) from fun ⟨e,h⟩=>⟨e,h,fun _=>⟨h6,hok⟩⟩) ?_
  refine Tot.bind (Tot.range _ _ _ fun k x st hk=>?_) fun fl _=>Tot.thenR fun _ _=>?_
  ·refine Tot.bind (foreignKey_tot hok x) fun e _=>Tot.cond (fun _=>Tot.mk) fun _=>?_
   have hkl := (zg.1 hk).1
   refine Tot.bind (Tot.sub ⟨by omega,by omega,by omega⟩) fun l _=>?_
   exact Tot.bind (fkIn_tot l x) fun _ _=>Tot.cond (fun _=>Tot.mk) fun _=>Tot.mk
  ·refine Tot.bind (Tot.range _ _ _ fun k x st hk=>?_) fun fl _=>Tot.thenR fun _ _=>Tot.mk
   refine Tot.bind (constraint_tot s x) fun e _=>Tot.cond (fun _=>Tot.mk) fun _=>?_
   have hkl := (zg.1 hk).1
   refine Tot.bind (Tot.sub ⟨by omega,by omega,by omega⟩) fun l _=>?_
   exact Tot.bind (csIn_tot l x) fun _ _=>Tot.cond (fun _=>Tot.mk) fun _=>Tot.mk
theorem validate_tot {s : LSchema} (hsm : lT s) : Tot (gV s) := by
 obtain ⟨e,h,_⟩ := validate_inv (s := s) fun t ht=>by have := hsm t ht; omega
 exact ⟨e,h⟩
def eJ (cols : List LCol) (row : Rq) : Prop := row.length = cols.length ∧ ∀ (i : Nat) (c : LCol) (x : LVal),cols[i]? = some c → row[i]? = some x → fB x c.kind c.nullable
theorem validate_valid {v : LVal} (h : dv v = 0) : dW v = true := by
 obtain ⟨k,n,t⟩ := v
 unfold dv bH at h
 unfold dW
 by_cases k0 : k = 0
 ·subst k0
  by_cases hn : n = 0
  ·subst hn
   cases t with
   | nil=>rfl
   | cons c t=>simp at h
  ·simp [lq hn] at h
 ·have e0 : (k == (0 : Int)) = false := by simpa using k0
  simp only [e0,zd] at h
  by_cases k1 : k = 1
  ·subst k1
   cases t with
   | cons c t=>simp at h
   | nil =>
    by_cases a : n < -1000000000000
    ·simp [a] at h
    ·by_cases b : n > 1000000000000
     ·simp [a,b] at h
     ·simp; omega
  ·by_cases k2 : k = 2
   ·subst k2
    cases t with
    | cons c t=>simp at h
    | nil =>
     by_cases a : n = 0
     ·simp [a]
     ·by_cases b : n = 1
      ·simp [b]
      ·simp [lq a,lq b] at h
   ·by_cases k3 : k = 3
    ·subst k3
     by_cases a : n = 0
     ·subst a
      by_cases b : (t.length : Int) > 24
      ·simp [b] at h
      ·simp; omega
     ·simp [lq a] at h
    ·have e1 : (k == (1 : Int)) = false := by simpa using k1
     have e2 : (k == (2 : Int)) = false := by simpa using k2
     have e3 : (k == (3 : Int)) = false := by simpa using k3
     simp [e1,e2,e3] at h
theorem conformsRow (t : LTable) (row : Rq) : ∃ e,ef t row = some e ∧ (e = 0 → eJ t.columns row) := by
 unfold ef
 by_cases hl : (row.length : Int) = (t.columns.length : Int)
 ·have hl' : row.length = t.columns.length := by omega
  rw [show ((row.length : Int) != (t.columns.length : Int)) = false from by simp [hl],zd]
  obtain ⟨fl,hfl,hr⟩ := fH (step := fun (j1 : Nat) (x1 : LVal) (_ : Unit)=>bH (dv x1) fun x22=>cond (x22 != (0 : Int)) (some (Flow.ret (σ := Unit) x22))
    (ah (cond (x1.kind == (0 : Int)) (ah (aO t.columns (j1 : Int)) fun (x33 : LCol)=>some (!x33.nullable)) (some false)) fun (t3 : Bool)=>cond t3 (some (.ret 8))
     (cond (x1.kind != (0 : Int)) (ah (aO t.columns (j1 : Int)) fun (x47 : LCol)=>cond (x1.kind != x47.kind) (some (.ret 7)) (some (.next ()))) (some (.next ())))))
   (fun j _=>∀ (k : Nat) (c : LCol) (x : LVal),k < j → t.columns[k]? = some c → row[k]? = some x → fB x c.kind c.nullable) (fun r=>r ≠ 0) row 0 () (fun k c x h=>by omega) (fun k x st hk hI=>by
    simp only [Nat.zero_add] at hI ⊢
    have hkl := (zg.1 hk).1
    rw [bU,gT (xs := t.columns) (by omega)]
    by_cases hv : dv x = 0
    ·rw [show (dv x != (0 : Int)) = false from by simp [hv],zd]
     have hvv := validate_valid hv
     have next : fB x t.columns[k].kind t.columns[k].nullable → ∀ (k' : Nat) (c : LCol) (x' : LVal),k' < k + 1 → t.columns[k']? = some c → row[k']? = some x' → fB x' c.kind c.nullable := fun hf k' c x' h1 h2 h3=>by
      by_cases heq : k' = k
      ·subst heq
       rw [hk] at h3
       rw [ze (by omega)] at h2
       cases h2
       cases h3
       exact hf
      ·exact hI k' c x' (by omega) h2 h3
     by_cases hx : x.kind = 0
     ·rw [show (x.kind == (0 : Int)) = true from by simp [hx],zc,bPs,bPs]
      cases hn : t.columns[k].nullable with
      | false=>exact ⟨.ret 8,rfl,by simp⟩
      | true=>exact ⟨.next (),by simp [hx],next ⟨hvv,.inr hx,fun _=>hn⟩⟩
     ·rw [show (x.kind == (0 : Int)) = false from by simp [hx],zd,bPs,zd,show (x.kind != (0 : Int)) = true from by simp [hx],zc,bPs]
      by_cases hk' : x.kind = t.columns[k].kind
      ·exact ⟨.next (),by rw [bneF hk']; rfl,next ⟨hvv,.inl hk',fun h=>absurd h hx⟩⟩
      ·exact ⟨.ret 7,by rw [lq hk']; rfl,by simp⟩
    ·exact ⟨.ret (dv x),by rw [show (dv x != (0 : Int)) = true from by simp [hv]]; rfl,hv⟩)
  rw [hfl,bPs]
  cases fl with
  | brk s=>exact absurd hr (by simp)
  | ret r=>exact ⟨r,rfl,fun h=>absurd h hr⟩
  | next s =>
   simp only [Nat.zero_add] at hr
   exact ⟨0,rfl,fun _=>⟨hl',fun i c x hc hx=>hr i c x (zg.1 hx).1 hc hx⟩⟩
 ·exact ⟨3,by rw [show ((row.length : Int) != (t.columns.length : Int)) = true from by simp [hl]]; rfl,fun h=>by omega⟩
theorem key_tot (t : LTable) (row : Rq) (hsm : t.primaryKey.length ≤ 10000000) : ∃ k,dp t row = some k ∧ k.length = t.primaryKey.length := by
 unfold dp
 obtain ⟨fl,hfl,hr⟩ := fH (step := fun (_ : Nat) (x1 : Int) (s1 : Rq) =>
  bH (cond (decide (x1 ≥ (0 : Int))) ((decide (x1 < (row.length : Int)))) (false)) fun (t6 : Bool) =>
  ah (cond t6 (ah (aO row x1) fun (x27 : LVal)=>some x27) (some (LVal.mk 0 0 []))) fun (t7 : LVal) =>
  ah (dL 32 s1 ([t7] : Rq)) fun (x32 : Rq)=>some (Flow.next (ρ := Empty) x32)) (fun j s=>s.length = j) (fun _=>False) t.primaryKey 0 ([] : Rq) rfl (fun k x s hk hI=>by
   have hI : s.length = k := by simpa using hI
   have hkl := (zg.1 hk).1
   rw [bU]
   have ht : ∃ v,(cond (cond (decide (x ≥ (0 : Int))) ((decide (x < (row.length : Int)))) (false)) (ah (aO row x) fun (x27 : LVal)=>some x27) (some (LVal.mk 0 0 []))) = some v := by
    refine Tot.cond (fun h=>?_) fun _=>Tot.mk
    by_cases h0 : x ≥ 0
    ·rw [zt h0] at h
     exact Tot.bind (Tot.get h0 (of_decide_eq_true h)) fun _ _=>Tot.mk
    ·rw [zf h0] at h; cases h
   obtain ⟨v,hv⟩ := ht
   rw [hv,bPs,cn (by decide) (by simp; omega),bPs]
   exact ⟨_,rfl,by simp [hI]⟩)
 rw [hfl,bPs]
 cases fl with
 | brk s=>exact absurd hr (by simp)
 | ret r=>exact r.elim
 | next s=>exact ⟨s,rfl,by simpa using hr⟩
theorem sw (a b : Rq) (ha : a.length ≤ 10000000) : Tot (dN a b) := by
 unfold dN
 have hm : ∃ n : Nat,(if (b.length : Int) < (a.length : Int) then (b.length : Int) else (a.length : Int)) = (n : Int) ∧ n ≤ a.length ∧ n ≤ b.length := by
  split
  ·exact ⟨b.length,rfl,by omega,by omega⟩
  ·exact ⟨a.length,rfl,by omega,by omega⟩
 obtain ⟨n,hn,h1,h2⟩ := hm
 rw [hn,qY (by omega),bPs]
 refine Tot.bind (Tot.range _ _ _ fun k x s hk=>?_) fun fl _=>Tot.thenR fun _ _=>Tot.mk
 have hkl := (zg.1 hk).1
 simp at hkl
 rw [Nat.zero_add,gT (by omega),gT (by omega)]
 simp only [bPs,bU]
 exact Tot.cond (fun _=>Tot.mk) fun _=>Tot.mk
def KeyOrd (t : LTable) (rows : Rz) : Prop := ∀ (i : Nat) (p row : Rq),rows[i]? = some p → rows[i + 1]? = some row → ∃ k1 k2 z,dp t p = some k1 ∧ dp t row = some k2 ∧ dN k1 k2 = some z ∧ z < 0
structure InstOk (s : LSchema) (st : List LRelation) : Prop where
 len : st.length = s.tables.length
 ord : ∀ (i : Nat) (r : LRelation) (t : LTable),st[i]? = some r → s.tables[i]? = some t → KeyOrd t r.rows
 tab : ∀ (i : Nat) (r : LRelation) (t : LTable),st[i]? = some r → s.tables[i]? = some t → r.table = t.name ∧ r.rows.length ≤ 24 ∧ ∀ row ∈ r.rows,eJ t.columns row
theorem conforms {s : LSchema} (hsm : lT s) (st : List LRelation) : ∃ e,fp s st = some e ∧ (e = 0 → InstOk s st) := by
 unfold fp
 by_cases hl : (st.length : Int) = (s.tables.length : Int)
 ·have hl' : st.length = s.tables.length := by omega
  rw [show ((st.length : Int) != (s.tables.length : Int)) = false from by simp [hl],zd]
  let good : LRelation → LTable → Prop := fun r t=>(r.table = t.name ∧ r.rows.length ≤ 24 ∧ ∀ row ∈ r.rows,eJ t.columns row) ∧ KeyOrd t r.rows
  obtain ⟨fl,hfl,hr⟩ := fH (step := fun (j1 : Nat) (x1 : LRelation) (_ : Unit) =>
   ah (aO s.tables (j1 : Int)) fun (x28 : LTable) =>
   cond (!(x1.table == x28.name)) (some (Flow.ret (σ := Unit) (3 : Int))) (cond (decide ((x1.rows.length : Int) > (24 : Int))) (some (.ret 2))
     (ah (aM (σ := Unit) (ρ := (Int)) (fun (j3 : Nat) (x3 : Rq) (_ : Unit) =>
      ah (ef x28 x3) fun x49=>cond (x49 != (0 : Int)) (some (.ret x49)) (cond ((j3 : Int) == (0 : Int)) (some (.next ()))
        (ah (aO x1.rows (IntKind.i64.wrap ((j3 : Int) - (1 : Int)))) fun (x60 : Rq)=>ah (dp x28 x60) fun x62=>ah (dp x28 x3) fun x65=>ah (dN x62 x65) fun x66 =>
        cond (x66 == (0 : Int)) (some (.ret 9)) (cond (decide (x66 > (0 : Int))) (some (.ret 6)) (some (.next ())))))) 0 x1.rows ()) fun fl3=>fl3.thenF fun (_ : Unit)=>some (.next ()))))
   (fun j _=>∀ (k : Nat) (r : LRelation) (t : LTable),k < j → st[k]? = some r → s.tables[k]? = some t → good r t) (fun r=>r ≠ 0) st 0 () (fun k r t h=>by omega) (fun k r u hk hI=>by
    simp only [Nat.zero_add] at hI ⊢
    have hkl := (zg.1 hk).1
    have hkt : k < s.tables.length := by omega
    rw [gT hkt,bPs]
    by_cases hn : r.table = s.tables[k].name
    ·rw [show (!(r.table == s.tables[k].name)) = false from by simp [hn],zd]
     by_cases h24 : (r.rows.length : Int) > 24
     ·exact ⟨.ret 2,by rw [zt h24]; rfl,by simp⟩
     ·rw [zf h24,zd]
      have hsk := hsm s.tables[k] (List.getElem_mem _)
      obtain ⟨fl,hfl,hr⟩ := fH (step := fun (j3 : Nat) (x3 : Rq) (_ : Unit) =>
       ah (ef s.tables[k] x3) fun x49=>cond (x49 != (0 : Int)) (some (Flow.ret (σ := Unit) x49)) (cond ((j3 : Int) == (0 : Int)) (some (.next ()))
        (ah (aO r.rows (IntKind.i64.wrap ((j3 : Int) - (1 : Int)))) fun (x60 : Rq)=>ah (dp s.tables[k] x60) fun x62=>ah (dp s.tables[k] x3) fun x65=>ah (dN x62 x65) fun x66 =>
        cond (x66 == (0 : Int)) (some (.ret 9)) (cond (decide (x66 > (0 : Int))) (some (.ret 6)) (some (.next ())))))) (fun j _=>(∀ i row,i < j → r.rows[i]? = some row → eJ s.tables[k].columns row) ∧ ∀ (i : Nat) (p row : Rq),i + 1 < j → r.rows[i]? = some p → r.rows[i + 1]? = some row → ∃ k1 k2 z,dp s.tables[k] p = some k1 ∧ dp s.tables[k] row = some k2 ∧ dN k1 k2 = some z ∧ z < 0) (fun r=>r ≠ 0) r.rows 0 () ⟨fun i row h=>by omega,fun i p row h=>by omega⟩ (fun i row u hi hI2=>by
        simp only [Nat.zero_add] at hI2 ⊢
        have hil := (zg.1 hi).1
        obtain ⟨e,he,hok⟩ := conformsRow s.tables[k] row
        rw [he,bPs]
        by_cases h0 : e = 0
        ·rw [show (e != (0 : Int)) = false from by simp [h0],zd]
         have next : ∀ i' row',i' < i + 1 → r.rows[i']? = some row' → eJ s.tables[k].columns row' := fun i' row' h1 h2=>by
          by_cases heq : i' = i
          ·subst heq; rw [hi] at h2; cases h2; exact hok h0
          ·exact hI2.1 i' row' (by omega) h2
         by_cases hi0 : i = 0
         ·exact ⟨.next (),by simp [hi0],next,fun i' p row' h1=>by omega⟩
         ·rw [show ((i : Int) == (0 : Int)) = false from by simp; omega,zd,bJ (by omega) (by omega)]
          obtain ⟨p,hp⟩ := Tot.get (xs := r.rows) (i := (i : Int) - 1) (by omega) (by omega)
          obtain ⟨k1,hk1,hl1⟩ := key_tot s.tables[k] p hsk
          obtain ⟨k2,hk2,_⟩ := key_tot s.tables[k] row hsk
          obtain ⟨z,hz⟩ := sw k1 k2 (by omega)
          rw [hp,bPs,hk1,bPs,hk2,bPs,hz,bPs]
          by_cases z0 : z = 0
          ·exact ⟨.ret 9,by rw [kw z0]; rfl,by simp⟩
          ·by_cases z1 : z > 0
           ·exact ⟨.ret 6,by rw [cP z0,zt z1]; rfl,by simp⟩
           ·refine ⟨.next (),by rw [cP z0,zf z1]; rfl,next,fun i' p' row' h1 h2 h3=>?_⟩
            by_cases heq : i' + 1 = i
            ·subst heq
             rw [hi] at h3
             cases h3
             have hp' := (gIs hp).2
             rw [show (((i' + 1 : Nat) : Int) - 1).toNat = i' from by omega,h2] at hp'
             cases hp'
             exact ⟨k1,k2,z,hk1,hk2,hz,by omega⟩
            ·exact hI2.2 i' p' row' (by omega) h2 h3
        ·exact ⟨.ret e,by rw [show (e != (0 : Int)) = true from by simp [h0]]; rfl,h0⟩)
      rw [hfl,bPs]
      cases fl with
      | brk s=>exact absurd hr (by simp)
      | ret e=>exact ⟨.ret e,rfl,hr⟩
      | next s' =>
       simp only [Nat.zero_add] at hr
       refine ⟨.next (),rfl,fun k' r' t' h1 h2 h3=>?_⟩
       by_cases heq : k' = k
       ·subst heq
        rw [hk] at h2
        rw [ze hkt] at h3
        cases h2
        cases h3
        refine ⟨⟨hn,by omega,fun row hrow=>?_⟩,fun i p row h2 h3=>hr.2 i p row (zg.1 h3).1 h2 h3⟩
        obtain ⟨i,hi,rfl⟩ := List.mem_iff_getElem.1 hrow
        exact hr.1 i _ hi (ze hi)
       ·exact hI k' r' t' (by omega) h2 h3
    ·exact ⟨.ret 3,by rw [show (!(r.table == s.tables[k].name)) = true from by simp [hn]]; rfl,by simp⟩)
  rw [hfl,bPs]
  cases fl with
  | brk s=>exact absurd hr (by simp)
  | ret r=>exact ⟨r,rfl,fun h=>absurd h hr⟩
  | next u =>
   simp only [Nat.zero_add] at hr
   exact ⟨0,rfl,fun _=>⟨hl',fun i r t h1 h2=>(hr i r t (zg.1 h1).1 h1 h2).2,fun i r t h1 h2=>(hr i r t (zg.1 h1).1 h1 h2).1⟩⟩
 ·exact ⟨3,by rw [show ((st.length : Int) != (s.tables.length : Int)) = true from by simp [hl]]; rfl,fun h=>by omega⟩
theorem containsI (l : List Int) (v : Int) : eY l v = some (l.any fun x=>v == x) := by
 unfold eY hO
 rw [idxF2 (p := fun x=>v == x),bPs,iR]
theorem shape1 (l : List Int) (q : LQuery) : dl l q = some (l.any fun x=>q.kind == x) := by
 unfold dl
 rw [containsI,bPs]
def og (k : Int) : Nat := if k = 1 then 0 else if k = 4 ∨ k = 5 ∨ k = 6 ∨ k = 7 then 2 else 1
def kd (q : LQuery) : Bool :=
 decide (1 ≤ q.kind) && decide (q.kind ≤ 10) && decide (q.inputs.length = og q.kind) && (q.kind == 1 || q.table == []) && (q.kind == 3 || q.kind == 8 || decide (q.names.length = 0)) &&
 (q.kind == 8 || decide (q.aggregates.length = 0)) && (q.kind == 9 || decide (q.descending.length = 0)) && (q.kind == 10 || (q.count == 0 && q.offset == 0)) &&
 (if q.kind = 2 ∨ q.kind = 4 ∨ q.kind = 5 then decide (q.exprs.length = 1)
  else if q.kind = 3 ∨ q.kind = 8 then decide (q.exprs.length = q.names.length) && decide (0 < q.exprs.length + q.aggregates.length)
  else if q.kind = 9 then decide (q.exprs.length = q.descending.length) && decide (0 < q.exprs.length)
  else if q.kind = 10 then decide (q.exprs.length = 0) && decide (q.count ≥ 0) && decide (q.offset ≥ 0)
  else decide (q.exprs.length = 0))
theorem natE (a b : Nat) : ((a : Int) == (b : Int)) = decide (a = b) := by
 by_cases h : a = b
 ·simp [h]
 ·rw [zf h]; exact cP (by omega)
theorem nh (a b : Nat) : ((a : Int) != (b : Int)) = !decide (a = b) := by rw [bne,natE]
theorem natPos (a : Nat) : decide ((a : Int) > 0) = !decide (a = 0) := by
 by_cases h : a = 0
 ·simp [h]
 ·rw [zf h,zt (by omega)]; rfl
theorem condSome {α : Type} (b : Bool) (x y : α) : (cond b (some x) (some y)) = some (cond b x y) := by cases b <;> rfl
theorem shape_eq (q : LQuery) (hs : q.exprs.length ≤ 10000000 ∧ q.aggregates.length ≤ 10000000) : kf q = some (kd q) := by
 unfold kf
 simp only [shape1,bPs]
 by_cases k0 : q.kind < 1
 ·rw [zt k0]
  simp [kd,show ¬ (1 ≤ q.kind) from by omega]
 rw [zf k0]
 by_cases k10 : q.kind > 10
 ·rw [zt k10]
  simp [kd,show ¬ (q.kind ≤ 10) from by omega]
 rw [zf k10]
 have hw : IntKind.i64.wrap ((q.exprs.length : Int) + (q.aggregates.length : Int)) = ((q.exprs.length + q.aggregates.length : Nat) : Int) := by rw [bJ (by omega) (by omega)]; simp
 rw [hw]
 have hk : q.kind = 1 ∨ q.kind = 2 ∨ q.kind = 3 ∨ q.kind = 4 ∨ q.kind = 5 ∨ q.kind = 6 ∨ q.kind = 7 ∨ q.kind = 8 ∨ q.kind = 9 ∨ q.kind = 10 := by omega
 unfold kd
 have e0 : ∀ n : Nat,((n : Int) == 0) = decide (n = 0) := fun n=>natE n 0
 have e1 : ∀ n : Nat,((n : Int) == 1) = decide (n = 1) := fun n=>natE n 1
 have n0 : ∀ n : Nat,((n : Int) != 0) = !decide (n = 0) := fun n=>nh n 0
 have n1 : ∀ n : Nat,((n : Int) != 1) = !decide (n = 1) := fun n=>nh n 1
 have n2 : ∀ n : Nat,((n : Int) != 2) = !decide (n = 2) := fun n=>nh n 2
 have c0 : (q.count != 0) = !(q.count == 0) := rfl
 have o0 : (q.offset != 0) = !(q.offset == 0) := rfl
 have p0 : decide (0 < q.exprs.length) = !decide (q.exprs.length = 0) := by rw [← natPos]; simp
 have p1 : decide (0 < q.exprs.length + q.aggregates.length) = !decide (q.exprs.length + q.aggregates.length = 0) := by rw [← natPos]; simp; omega
 simp only [natPos,natE,e0,e1,c0,o0,p0,p1]
 generalize (q.table == []) = b1
 generalize decide (q.names.length = 0) = b2
 generalize decide (q.aggregates.length = 0) = b3
 generalize decide (q.descending.length = 0) = b4
 generalize (q.count == 0) = b5
 generalize (q.offset == 0) = b6
 generalize decide (q.exprs.length = 1) = b7
 generalize decide (q.exprs.length = q.names.length) = b8
 generalize decide (q.exprs.length + q.aggregates.length = 0) = b9
 generalize decide (q.exprs.length = q.descending.length) = b10
 generalize decide (q.exprs.length = 0) = b11
 generalize decide (q.count ≥ 0) = b12
 generalize decide (q.offset ≥ 0) = b13
 generalize hL : q.inputs.length = L
 rcases hk with h | h | h | h | h | h | h | h | h | h <;> rw [h]
 all_goals simp only [og,aO,n0,n1,n2]
 all_goals simp [n0,n1,n2,condSome,Bool.and_assoc]
def e0Q (q : LQuery) : LExpr := q.exprs.headD (.mk 1 [] 0 .nul [])
def iq (a b : List LCol) (left : Bool) : List LCol := a ++ b.map fun x=>⟨x.name,x.kind,x.nullable || left⟩
def iW (kind : Int) (a b : List LCol) : List LCol × Int :=
 if a.length = b.length ∧ a.map LCol.kind = b.map LCol.kind then (List.zipWith (fun x y=>⟨x.name,x.kind,x.nullable || (kind == 6 && y.nullable)⟩) a b,0) else ([],7)
def bR (vars cols : List LCol) : List LExpr → List (List UInt8) → List LCol × Int
 | e :: es,n :: ns=>if cY n = false then ([],3) else if (cE cols vars e).2.2 ≠ 0 then ([],(cE cols vars e).2.2) else if (cE cols vars e).1 = 0 then ([],7)
  else if (bR vars cols es ns).2 ≠ 0 then ([],(bR vars cols es ns).2) else (⟨n,(cE cols vars e).1,(cE cols vars e).2.1⟩ :: (bR vars cols es ns).1,0)
 | _,_=>([],0)
abbrev ie : List UInt8 := [99,111,117,110,116]
abbrev sSum : List UInt8 := [115,117,109]
abbrev sMin : List UInt8 := [109,105,110]
abbrev sMax : List UInt8 := [109,97,120]
def mr (vars cols : List LCol) (a : LAggregateCall) : Int × Int :=
 if cY a.name = false ∨ ¬ a.function ∈ [ie,sSum,sMin,sMax] ∨ 1 < a.args.length ∨ (a.args.length < 1 ∧ a.function ≠ ie) then (0,3)
 else match a.args with
  | []=>(1,0)
  | e :: _=>if (cE cols vars e).2.2 ≠ 0 then (0,(cE cols vars e).2.2) else if (cE cols vars e).1 = 0 ∨ (a.function = sSum ∧ (cE cols vars e).1 ≠ 1) then (0,7)
   else if a.function = ie then (1,0) else ((cE cols vars e).1,0)
def cw (vars cols : List LCol) : List LAggregateCall → List LCol × Int
 | []=>([],0)
 | a :: l=>if (mr vars cols a).2 ≠ 0 then ([],(mr vars cols a).2) else if (cw vars cols l).2 ≠ 0 then ([],(cw vars cols l).2)
  else (⟨a.name,(mr vars cols a).1,!(a.function == ie)⟩ :: (cw vars cols l).1,0)
def kF (vars cols : List LCol) (q : LQuery) : List LCol × Int :=
 if (bR vars cols q.exprs q.names).2 ≠ 0 then ([],(bR vars cols q.exprs q.names).2)
 else if (cw vars cols q.aggregates).2 ≠ 0 then ([],(cw vars cols q.aggregates).2)
 else ((bR vars cols q.exprs q.names).1 ++ (cw vars cols q.aggregates).1,0)
def io (vars cols : List LCol) : List LExpr → Int
 | []=>0
 | e :: l=>if (cE cols vars e).2.2 ≠ 0 then (cE cols vars e).2.2 else io vars cols l
def ij (c : LChecker) (q : LQuery) (ins : List (List LCol)) : List LCol × Int :=
 if q.kind = 1 then (match c.s.tables.find? fun t=>t.name == q.table with | some t=>(t.columns,0) | none=>([],4))
 else if q.kind = 2 then (ins.getD 0 [],cF c (ins.getD 0 []) (e0Q q))
 else if q.kind = 4 ∨ q.kind = 5 then (iq (ins.getD 0 []) (ins.getD 1 []) (q.kind == 5),cF c (iq (ins.getD 0 []) (ins.getD 1 []) (q.kind == 5)) (e0Q q))
 else if q.kind = 6 ∨ q.kind = 7 then iW q.kind (ins.getD 0 []) (ins.getD 1 [])
 else if q.kind = 3 ∨ q.kind = 8 then kF c.vars (ins.getD 0 []) q
 else if q.kind = 9 then (if io c.vars (ins.getD 0 []) q.exprs ≠ 0 then ([],io c.vars (ins.getD 0 []) q.exprs) else (ins.getD 0 [],0))
 else (ins.getD 0 [],0)
theorem find_idx {α : Type} (p : α → Bool) (l : List α) : (l.find? p = none ∧ bh p l = -1) ∨ ∃ x,l.find? p = some x ∧ 0 ≤ bh p l ∧ l[(bh p l).toNat]? = some x := by
 induction l with
 | nil=>exact .inl ⟨rfl,rfl⟩
 | cons a l ih =>
  by_cases h : p a = true
  ·right
   exact ⟨a,by simp [List.find?_cons,h],by unfold bh; simp [List.findIdx?_cons,h],by unfold bh; simp [List.findIdx?_cons,h]⟩
  ·have h : p a = false := by simpa using h
   have hi : bh p (a :: l) = if bh p l < 0 then -1 else bh p l + 1 := by
    unfold bh
    simp only [List.findIdx?_cons,h,Bool.false_eq_true,if_false]
    cases l.findIdx? p with
    | none=>rfl
    | some i=>rw [zy (by simp only; omega)]; simp
   rw [List.find?_cons,h,hi]
   rcases ih with ⟨h1,h2⟩ | ⟨x,h1,h2,h3⟩
   ·left; exact ⟨h1,by rw [h2]; rfl⟩
   ·right
    refine ⟨x,h1,by split <;> omega,?_⟩
    rw [zy (by omega),show (bh p l + 1).toNat = (bh p l).toNat + 1 from by omega,List.getElem?_cons_succ,h3]
theorem set_ok (kind : Int) (a b : List LCol) : iw kind a b = some (iW kind a b) := by
 unfold iw iW
 by_cases hl : a.length = b.length
 ·rw [nh,zt hl]
  simp only [Bool.not_true,zd]
  let z : LCol → LCol → LCol := fun x y=>⟨x.name,x.kind,x.nullable || (kind == 6 && y.nullable)⟩
  obtain ⟨fl,hfl,hr⟩ := fH (step := fun (j1 : Nat) (x1 : LCol) (s1 : List LCol) =>
   ah (aO b (j1 : Int)) fun (x29 : LCol)=>cond (x1.kind != x29.kind) (some (Flow.ret (([],7) : List LCol × Int)))
    (cond x1.nullable (ah (aO s1 (j1 : Int)) fun (x51 : LCol)=>bH (s1.set ((j1 : Int).toNat) (LCol.mk x51.name x51.kind true)) fun (y8 : List LCol)=>some (.next y8))
     (cond (kind == (6 : Int)) (ah (aO b (j1 : Int)) fun (x46 : LCol)=>ah (aO s1 (j1 : Int)) fun (x51 : LCol)=>bH (s1.set ((j1 : Int).toNat) (LCol.mk x51.name x51.kind x46.nullable)) fun (y9 : List LCol)=>some (.next y9))
      (ah (aO s1 (j1 : Int)) fun (x51 : LCol)=>bH (s1.set ((j1 : Int).toNat) (LCol.mk x51.name x51.kind false)) fun (y10 : List LCol)=>some (.next y10)))))
   (fun j s=>s = (List.zipWith z a b).take j ++ a.drop j ∧ (a.take j).map LCol.kind = (b.take j).map LCol.kind) (fun r=>r = ([],7) ∧ a.map LCol.kind ≠ b.map LCol.kind) a 0 a ⟨by simp,rfl⟩ (fun k x s hk hI=>by
    simp only [Nat.zero_add] at hI ⊢
    have hka := (zg.1 hk).1
    have hxe := (zg.1 hk).2
    have hkb : k < b.length := by omega
    rw [gT hkb,bPs,bPs]
    by_cases hkk : x.kind = b[k].kind
    ·have hzl : ((List.zipWith z a b).take k).length = k := by simp; omega
     have hs : s[k]? = some x := by
      rw [hI.1,List.getElem?_append_right (by omega),hzl,Nat.sub_self,List.getElem?_drop,Nat.add_zero,hk]
     have hkinds : (a.take (k + 1)).map LCol.kind = (b.take (k + 1)).map LCol.kind := by
      rw [List.take_add_one,List.take_add_one,hk,ze hkb,List.map_append,List.map_append,hI.2]
      congr 1
      show [x.kind] = [b[k].kind]
      rw [hkk]
     have hset : ∀ v : LCol,v = z x b[k] → s.set k v = (List.zipWith z a b).take (k + 1) ++ a.drop (k + 1) := by
      intro v hv
      rw [hI.1,List.set_append_right _ _ (by omega),hzl,Nat.sub_self]
      rw [List.drop_eq_getElem_cons hka,List.set_cons_zero,List.take_add_one,List.append_assoc]
      congr 1
      rw [List.getElem?_zipWith,hk,ze hkb]
      simp [hv]
     rw [bneF hkk,zd,ll hs]
     simp only [bPs,bU,Int.toNat_natCast]
     cases hx : x.nullable with
     | true=>exact ⟨_,rfl,hset _ (by simp [z,hx]),hkinds⟩
     | false =>
      by_cases h6 : kind = 6
      ·exact ⟨.next _,by rw [kw h6]; rfl,hset _ (by simp [z,hx,h6]),hkinds⟩
      ·exact ⟨.next _,by rw [cP h6]; rfl,hset _ (by simp [z,hx,h6]),hkinds⟩
    ·refine ⟨.ret ([],7),by rw [lq hkk]; rfl,rfl,fun he=>hkk ?_⟩
     have := congrArg (fun l=>l[k]?) he
     simp only [List.getElem?_map,hk,ze hkb,Option.map_some,zo] at this
     exact this)
  rw [hfl,bPs]
  cases fl with
  | brk s=>exact absurd hr (by simp)
  | ret r=>rw [hr.1,zy (fun h=>hr.2 h.2)]; rfl
  | next s =>
   simp only [Nat.zero_add] at hr
   rw [iP,hr.1,zp ⟨hl,by have := hr.2; rwa [List.take_length,hl,List.take_length] at this⟩]
   have : (List.zipWith z a b).take a.length = List.zipWith z a b := List.take_of_length_le (by simp; omega)
   rw [this,List.drop_length,List.append_nil]
 ·rw [nh,zf hl,zy (fun h=>hl h.1)]
  rfl
theorem nd {α : Type} {l : List α} {d : α} (h : 0 < l.length) : aO l 0 = some (l.getD 0 d) := by
 cases l with
 | nil=>simp at h
 | cons a l=>rfl
theorem getD1 {α : Type} {l : List α} {d : α} (h : 1 < l.length) : aO l 1 = some (l.getD 1 d) := by
 match l with
 | []=>simp at h
 | [_]=>simp at h
 | a :: b :: l=>rfl
theorem e0_get {q : LQuery} (h : 0 < q.exprs.length) : aO q.exprs 0 = some (e0Q q) := by
 unfold e0Q
 cases hq : q.exprs with
 | nil=>rw [hq] at h; simp at h
 | cons a l=>rfl
theorem containsS (l : List (List UInt8)) (v : List UInt8) : dI l v = some (decide (v ∈ l)) := by
 unfold dI dA
 rw [idxF2 (p := fun x=>v == x),bPs,iR]
 congr 1
 by_cases h : v ∈ l
 ·rw [zt h,List.any_eq_true]; exact ⟨v,h,by simp⟩
 ·rw [zf h,List.any_eq_false]
  intro x hx he
  exact h (by simp at he; rwa [he])
theorem agg_eq (c : LChecker) (cols : List LCol) (a : LAggregateCall) : fS c cols a = some (mr c.vars cols a) := by
 unfold fS mr
 simp only [bU,containsS,bPs]
 by_cases h1 : cY a.name = false
 ·simp [h1]
 have h1' : cY a.name = true := by simpa using h1
 by_cases h2 : a.function ∈ [ie,sSum,sMin,sMax]
 ·rw [zt (show a.function ∈ ([[99,111,117,110,116],[115,117,109],[109,105,110],[109,97,120]] : List (List UInt8)) from h2)]
  cases ha : a.args with
  | nil =>
   by_cases h3 : a.function = ie
   ·simp [h1',h3]
   ·have h3' : (a.function == ([99,111,117,110,116] : List UInt8)) = false := by simpa using h3
    simp [h1',h3,h2,h3']
  | cons e l =>
   cases l with
   | cons e2 l =>
    have : (1 : Int) < (l.length : Int) + 1 + 1 := by omega
    simp [h1',h2,this]
   | nil =>
    simp only [h1',Bool.not_true,zd,List.length_singleton]
    have hno : ¬ (True = False ∨ ¬ a.function ∈ [ie,sSum,sMin,sMax] ∨ 1 < 1 ∨ (1 < 1 ∧ a.function ≠ ie)) := by simp [h2]
    simp only [aO]
    by_cases h4 : (cE cols c.vars e).2.2 = 0
    ·by_cases h5 : (cE cols c.vars e).1 = 0
     ·simp [h2,h4,h5]
     ·by_cases h6 : a.function = sSum
      ·by_cases h7 : (cE cols c.vars e).1 = 1
       ·simp [h2,h4,h6,h7]
       ·simp [h2,h4,h5,h6,h7,lq h7]
      ·have h6' : (a.function == ([115,117,109] : List UInt8)) = false := by simpa using h6
       by_cases h8 : a.function = ie
       ·simp [h2,h4,h5,h8,cP h5]
       ·have h8' : (a.function == ([99,111,117,110,116] : List UInt8)) = false := by simpa using h8
        simp [h2,h4,h5,h6,h8,h6',h8',cP h5]
    ·simp [h2,h4,lq h4]
 ·rw [zf (show ¬ a.function ∈ ([[99,111,117,110,116],[115,117,109],[109,105,110],[109,97,120]] : List (List UInt8)) from h2)]
  simp [h1',h2]
theorem namedE_run (vars cols : List LCol) (names : List (List UInt8)) : ∀ (es : List LExpr) (j : Nat) (s : List LCol),es.length + j = names.length → s.length + es.length ≤ 10000000 →
  ∀ k : List LCol → Option (List LCol × Int),ah (aM (σ := List LCol) (ρ := ((List LCol) × Int)) (fun (j1 : Nat) (x1 : LExpr) (s1 : List LCol) =>
  bH (cE cols vars x1) fun x31 =>
  ah (aO names (j1 : Int)) fun (x39 : List UInt8) =>
  bH (cY x39) fun x41 =>
  cond (!x41)
   (some (.ret ([],3)))
   (cond (x31.2.2 != (0 : Int))
    (some (.ret ([],x31.2.2)))
    (cond (x31.1 == (0 : Int))
     (some (.ret ([],7)))
     (ah (aO names (j1 : Int)) fun (x54 : List UInt8) =>
     ah (dL 32 s1 ([(LCol.mk x54 x31.1 x31.2.1)] : List LCol)) fun (x60 : List LCol) =>
     some (.next x60))))) j es s) (fun fl1=>fl1.thenR k) = if (bR vars cols es (names.drop j)).2 ≠ 0 then some ([],(bR vars cols es (names.drop j)).2) else k (s ++ (bR vars cols es (names.drop j)).1)
 | [],j,s,_,_,k=>by simp [aM,bR]
 | e :: es,j,s,hl,hb,k=>by
  have hj : j < names.length := by simp at hl; omega
  rw [aM,List.drop_eq_getElem_cons hj,bR,bU,gT hj,bPs,bU]
  cases h1 : cY names[j] with
  | false=>simp
  | true =>
   simp only [Bool.not_true,zd,Bool.true_eq_false,if_false]
   by_cases h2 : (cE cols vars e).2.2 = 0
   ·rw [bneF h2,zd]
    simp only [h2,ne_eq,not_true_eq_false,if_false]
    by_cases h3 : (cE cols vars e).1 = 0
    ·rw [kw h3]; simp [h3]
    ·rw [cP h3,zd,bPs,cn (by decide) (by simp at hb ⊢; omega),bPs]
     simp only [h3,if_false]
     rw [namedE_run vars cols names es (j + 1) _ (by simp at hl; omega) (by simp at hb ⊢; omega) k]
     by_cases h4 : (bR vars cols es (names.drop (j + 1))).2 = 0
     ·simp [h4]
     ·simp [h4]
   ·rw [lq h2]
    simp [h2]
theorem namedA_run (c : LChecker) (cols : List LCol) : ∀ (l : List LAggregateCall) (j : Nat) (s : List LCol),s.length + l.length ≤ 10000000 →
  ah (aM (σ := List LCol) (ρ := ((List LCol) × Int)) (fun (_ : Nat) (x2 : LAggregateCall) (s2 : List LCol) =>
  ah (fS c cols x2) fun x73 =>
  cond (x73.2 != (0 : Int))
   (some (.ret ([],x73.2)))
   (ah (dL 32 s2 ([(LCol.mk x2.name x73.1 (!(x2.function == ([99,111,117,110,116] : List UInt8))))] : List LCol)) fun (x88 : List LCol) =>
   some (.next x88))) j l s) (fun fl2=>fl2.thenR fun (s2 : List LCol)=>some (s2,0)) = some (if (cw c.vars cols l).2 ≠ 0 then ([],(cw c.vars cols l).2) else (s ++ (cw c.vars cols l).1,0))
 | [],j,s,_=>by simp [aM,cw]
 | a :: l,j,s,hb=>by
  rw [aM,cw,agg_eq,bPs]
  by_cases h1 : (mr c.vars cols a).2 = 0
  ·rw [bneF h1,zd,cn (by decide) (by simp at hb ⊢; omega),bPs]
   simp only [h1,ne_eq,not_true_eq_false,if_false]
   rw [namedA_run c cols l (j + 1) _ (by simp at hb ⊢; omega)]
   by_cases h4 : (cw c.vars cols l).2 = 0
   ·simp [h4]
   ·simp [h4]
  ·rw [lq h1]
   simp [h1]
theorem named_eq (c : LChecker) (q : LQuery) (cols : List LCol) (hl : q.exprs.length = q.names.length) (hb : q.exprs.length ≤ 1000000 ∧ q.aggregates.length ≤ 1000000) : ez c q cols = some (kF c.vars cols q) := by
 unfold ez kF
 rw [namedE_run c.vars cols q.names q.exprs 0 [] (by omega) (by simp; omega),List.drop_zero]
 by_cases h : (bR c.vars cols q.exprs q.names).2 = 0
 ·have hlen : ∀ (es : List LExpr) (ns : List (List UInt8)),(bR c.vars cols es ns).1.length ≤ es.length := by
   intro es
   induction es with
   | nil=>intro ns; simp [bR]
   | cons e es ih =>
    intro ns
    cases ns with
    | nil=>simp [bR]
    | cons n ns =>
     simp only [bR]
     split
     ·simp
     ·split
      ·simp
      ·split
       ·simp
       ·split
        ·simp
        ·have := ih ns; simp; omega
  simp only [h,ne_eq,not_true_eq_false,if_false,List.nil_append]
  rw [namedA_run c cols q.aggregates 0 _ (by have := hlen q.exprs q.names; omega)]
 ·simp [h]
structure SmallQ (q : LQuery) : Prop where
 nodes : (cl q).length ≤ 10000000
 here : ∀ x ∈ cl q,x.exprs.length ≤ 1000000 ∧ x.aggregates.length ≤ 1000000
theorem mem_nodes {q x y : LQuery} (h : x ∈ q.inputs) (hy : y ∈ cl x) : y ∈ cl q := by
 rw [hC]
 exact List.mem_cons_of_mem _ (List.mem_flatten.2 ⟨_,List.mem_map.2 ⟨x,h,rfl⟩,hy⟩)
theorem nm (q : LQuery) : q ∈ cl q := by rw [hC]; exact List.mem_cons_self
theorem SmallQ.sub {q x : LQuery} (h : SmallQ q) (hx : x ∈ q.inputs) : SmallQ x :=
 ⟨by have := mc hx; have := h.nodes; omega,fun y hy=>h.here y (mem_nodes hx hy)⟩
theorem SmallQ.self {q : LQuery} (h : SmallQ q) : q.exprs.length ≤ 1000000 ∧ q.aggregates.length ≤ 1000000 := h.here q (nm q)
structure ShapeOk (q : LQuery) : Prop where
 kind : 1 ≤ q.kind ∧ q.kind ≤ 10
 arity : q.inputs.length = og q.kind
 one : q.kind = 2 ∨ q.kind = 4 ∨ q.kind = 5 → q.exprs.length = 1
 named : q.kind = 3 ∨ q.kind = 8 → q.exprs.length = q.names.length
 aggs : q.kind ≠ 8 → q.aggregates = []
 sorted : q.kind = 9 → q.exprs.length = q.descending.length
 limit : q.kind = 10 → 0 ≤ q.count ∧ 0 ≤ q.offset
theorem nZ {q : LQuery} (h : kd q = true) : ShapeOk q := by
 unfold kd at h
 simp only [Bool.and_eq_true,decide_eq_true_eq] at h
 obtain ⟨⟨⟨⟨⟨⟨⟨⟨h1,h2⟩,h3⟩,h4⟩,h5⟩,h6⟩,h7⟩,h8⟩,h9⟩ := h
 refine ⟨⟨h1,h2⟩,h3,fun hk=>?_,fun hk=>?_,fun hk=>?_,fun hk=>?_,fun hk=>?_⟩
 ·rw [zp hk] at h9; simpa using h9
 ·rw [zy (by omega),zp hk] at h9; simp at h9; exact h9.1
 ·have : (q.kind == 8) = false := cP hk
  rw [this] at h6; simp at h6; exact h6
 ·rw [zy (by omega),zy (by omega),zp hk] at h9; simp at h9; exact h9.1
 ·rw [zy (by omega),zy (by omega),zy (by omega),zp hk] at h9; simp at h9; omega
theorem join_run (left : Bool) : ∀ (b : List LCol) (j : Nat) (a : List LCol),a.length + b.length ≤ 10000000 →
  aM (σ := List LCol) (ρ := Empty) (fun (_ : Nat) (x2 : LCol) (s2 : List LCol)=>cond x2.nullable
          (ah (dL 32 s2 ([(LCol.mk x2.name x2.kind true)] : List LCol)) fun (x76 : List LCol)=>some (.next x76))
          (ah (dL 32 s2 ([(LCol.mk x2.name x2.kind left)] : List LCol)) fun (x76 : List LCol)=>some (.next x76))) j b a = some (.next (iq a b left))
 | [],j,a,_=>by simp [aM,iq]
 | x :: b,j,a,h=>by
  have step : (cond x.nullable (ah (dL 32 a ([(LCol.mk x.name x.kind true)] : List LCol)) fun (x76 : List LCol)=>some (Flow.next (ρ := Empty) x76))
    (ah (dL 32 a ([(LCol.mk x.name x.kind left)] : List LCol)) fun (x76 : List LCol)=>some (.next x76))) = some (.next (a ++ [⟨x.name,x.kind,x.nullable || left⟩])) := by
   rw [cn (by decide) (by simp at h ⊢; omega),cn (by decide) (by simp at h ⊢; omega)]
   cases x.nullable <;> simp
  rw [aM,step]
  simp only
  rw [join_run left b (j + 1) _ (by simp at h ⊢; omega)]
  simp [iq]
theorem sort_run (vars cols : List LCol) (ins : List (List LCol)) (h0 : aO ins 0 = some cols) : ∀ (es : List LExpr) (j : Nat) (k : Unit → Option (List LCol × Int)),
  ah (aM (σ := Unit) (ρ := ((List LCol) × Int)) (fun (_ : Nat) (x5 : LExpr) (_ : Unit)=>ah (aO ins 0) fun (x122 : List LCol)=>bH (cE x122 vars x5) fun x127=>cond (x127.2.2 != (0 : Int)) (some (.ret ([],x127.2.2))) (some (.next ()))) j es ()) (fun fl5=>fl5.thenR k) =
   if io vars cols es ≠ 0 then some ([],io vars cols es) else k ()
 | [],j,k=>by simp [aM,io]
 | e :: es,j,k=>by
  rw [aM,io,h0,bPs,bU]
  by_cases h : (cE cols vars e).2.2 = 0
  ·rw [bneF h,zd]
   simp only [h,ne_eq,not_true_eq_false,if_false]
   rw [← h0]
   exact sort_run vars cols ins h0 es (j + 1) k
  ·rw [lq h]; simp [h]
theorem out_eq {c : LChecker} {q : LQuery} {ins : List (List LCol)} (hs : ShapeOk q) (hsm : SmallQ q) (hl : ins.length = q.inputs.length) (hb : ∀ l ∈ ins,l.length ≤ 20) : hZ c q ins = some (ij c q ins) := by
 obtain ⟨hk,ha,h1,hn,_,_,_⟩ := hs
 have hself := hsm.self
 have hi : ∀ i,i < ins.length → (ins.getD i []).length ≤ 20 := fun i hi=>by
  rw [List.getD_eq_getElem?_getD,ze hi]
  exact hb _ (List.getElem_mem hi)
 have e0 : q.exprs.length = 1 → aO q.exprs 0 = some (e0Q q) := fun h=>e0_get (by omega)
 unfold hZ ij
 have kk : q.kind = 1 ∨ q.kind = 2 ∨ q.kind = 3 ∨ q.kind = 4 ∨ q.kind = 5 ∨ q.kind = 6 ∨ q.kind = 7 ∨ q.kind = 8 ∨ q.kind = 9 ∨ q.kind = 10 := by omega
 rcases kk with h | h | h | h | h | h | h | h | h | h
 ·rw [h,idx_table]
  simp only [bPs]
  rcases find_idx (fun a0=>eA a0 q) c.s.tables with ⟨f1,f2⟩ | ⟨t,f1,f2,f3⟩
  ·have f1' : c.s.tables.find? (fun t=>t.name == q.table) = none := f1
   rw [f2,f1']
   rfl
  ·have f1' : c.s.tables.find? (fun t=>t.name == q.table) = some t := f1
   rw [f1',zf (show ¬ bh (fun a0=>eA a0 q) c.s.tables < 0 from by omega),lF f2 f3]
   rfl
 all_goals rw [h] at ha
 all_goals simp only [og] at ha
 ·have g0 : aO ins 0 = some (ins.getD 0 []) := nd (by simp at ha; omega)
  rw [h,g0,e0 (h1 (.inl h))]
  simp [bU]
 ·have g0 : aO ins 0 = some (ins.getD 0 []) := nd (by simp at ha; omega)
  rw [h,g0]
  simp only [bPs]
  rw [named_eq c q _ (hn (.inl h)) hself]
  simp [bU]
 ·have g0 : aO ins 0 = some (ins.getD 0 []) := nd (by simp at ha; omega)
  have g1 : aO ins 1 = some (ins.getD 1 []) := getD1 (by simp at ha; omega)
  rw [h,g0,g1,e0 (h1 (.inr (.inl h)))]
  simp only [bPs]
  rw [join_run ((4 : Int) == 5) _ 0 _ (by have := hi 0 (by simp at ha; omega); have := hi 1 (by simp at ha; omega); omega)]
  simp [bU]
 ·have g0 : aO ins 0 = some (ins.getD 0 []) := nd (by simp at ha; omega)
  have g1 : aO ins 1 = some (ins.getD 1 []) := getD1 (by simp at ha; omega)
  rw [h,g0,g1,e0 (h1 (.inr (.inr h)))]
  simp only [bPs]
  rw [join_run ((5 : Int) == 5) _ 0 _ (by have := hi 0 (by simp at ha; omega); have := hi 1 (by simp at ha; omega); omega)]
  simp [bU]
 ·have g0 : aO ins 0 = some (ins.getD 0 []) := nd (by simp at ha; omega)
  have g1 : aO ins 1 = some (ins.getD 1 []) := getD1 (by simp at ha; omega)
  rw [h,g0,g1]
  simp only [bPs,set_ok]
  simp [bU]
 ·have g0 : aO ins 0 = some (ins.getD 0 []) := nd (by simp at ha; omega)
  have g1 : aO ins 1 = some (ins.getD 1 []) := getD1 (by simp at ha; omega)
  rw [h,g0,g1]
  simp only [bPs,set_ok]
  simp [bU]
 ·have g0 : aO ins 0 = some (ins.getD 0 []) := nd (by simp at ha; omega)
  rw [h,g0]
  simp only [bPs]
  rw [named_eq c q _ (hn (.inr h)) hself]
  simp [bU]
 ·have g0 : aO ins 0 = some (ins.getD 0 []) := nd (by simp at ha; omega)
  rw [h,sort_run c.vars _ ins g0,g0]
  simp only [bU,bPs]
  by_cases hse : io c.vars (ins.getD 0 []) q.exprs = 0
  ·simp only [hse,ne_eq,not_true_eq_false,if_false]; rfl
  ·simp only [hse,ne_eq,not_false_eq_true,if_true]; rfl
 ·have g0 : aO ins 0 = some (ins.getD 0 []) := nd (by simp at ha; omega)
  rw [h,g0]
  simp [bU]
def dH : List (List LCol × Int) → List (List LCol) × Int
 | []=>([],0)
 | r :: l=>if r.2 ≠ 0 then ([],r.2) else if (dH l).2 ≠ 0 then ([],(dH l).2) else (r.1 :: (dH l).1,0)
def oi (c : LChecker) (q : LQuery) (ins : List (List LCol × Int)) : List LCol × Int :=
 if kd q = false then ([],3) else if (dH ins).2 ≠ 0 then ([],(dH ins).2)
 else if (ij c q (dH ins).1).2 ≠ 0 then ([],(ij c q (dH ins).1).2)
 else if 20 < (ij c q (dH ins).1).1.length then ([],2)
 else if ((ij c q (dH ins).1).1.map LCol.name).Nodup then ((ij c q (dH ins).1).1,0) else ([],23)
def cK (c : LChecker) (q : LQuery) : List LCol × Int := oi c q (q.inputs.attach.map fun x=>cK c x.1)
termination_by SizeOf.sizeOf q
decreasing_by exact LQuery.inputs_lt x.2
theorem pT (c : LChecker) (q : LQuery) : cK c q = oi c q (q.inputs.map (cK c)) := by
 rw [cK,List.attach_map_val (f := cK c)]
theorem rX (f : LQuery → Option (List LCol × Int)) (g : LQuery → List LCol × Int) : ∀ (l : List LQuery) (j : Nat) (s : List (List LCol)),(∀ x ∈ l,f x = some (g x)) → s.length + l.length ≤ 10000000 → ∀ k : List (List LCol) → Option (List LCol × Int),
  ah (aM (σ := List (List LCol)) (ρ := ((List LCol) × Int)) (fun (_ : Nat) (x1 : LQuery) (s1 : List (List LCol))=>ah (f x1) fun x28=>cond (x28.2 != (0 : Int)) (some (.ret ([],x28.2)))
    (ah (dL 24 s1 ([x28.1] : List (List LCol))) fun (x37 : List (List LCol))=>some (.next x37))) j l s) (fun fl1=>fl1.thenR k) =
   if (dH (l.map g)).2 ≠ 0 then some ([],(dH (l.map g)).2) else k (s ++ (dH (l.map g)).1)
 | [],j,s,_,_,k=>by simp [aM,dH]
 | x :: l,j,s,h,hb,k=>by
  rw [aM,h x (by simp),bPs,List.map_cons,dH]
  by_cases h1 : (g x).2 = 0
  ·rw [bneF h1,zd,cn (by decide) (by simp at hb ⊢; omega),bPs]
   simp only [h1,ne_eq,not_true_eq_false,if_false]
   rw [rX f g l (j + 1) _ (fun y hy=>h y (by simp [hy])) (by simp at hb ⊢; omega) k]
   by_cases h2 : (dH (l.map g)).2 = 0
   ·simp [h2]
   ·simp [h2]
  ·rw [lq h1]; simp [h1]
theorem qh : ∀ {l : List (List LCol × Int)},(dH l).2 = 0 → (∀ r ∈ l,r.2 = 0) ∧ (dH l).1 = l.map (·.1)
 | [],_=>⟨by simp,rfl⟩
 | r :: l,h=>by
  simp only [dH] at h ⊢
  by_cases h1 : r.2 = 0
  ·by_cases h2 : (dH l).2 = 0
   ·obtain ⟨a,b⟩ := qh h2
    refine ⟨fun x hx=>?_,by simp [h1,h2,b]⟩
    rcases List.mem_cons.1 hx with rfl | hx
    ·exact h1
    ·exact a x hx
   ·simp [h1,h2] at h
  ·simp [h1] at h
theorem dup_run (out : List LCol) : ah (aM (σ := Unit) (ρ := ((List LCol) × Int)) (fun (j2 : Nat) (x2 : LCol) (_ : Unit) =>
     ah (nc out 0 (j2 : Int)) fun (x61 : List LCol) =>
     ah (cd x61 (fun a0=>some (cj a0 x2))) fun x63 =>
     cond x63 (some (.ret ([],23))) (some (.next ()))) 0 out ()) (fun fl2=>fl2.thenR fun (_ : Unit)=>some (out,0)) = some (if (out.map LCol.name).Nodup then (out,0) else ([],23)) := by
 obtain ⟨fl,hfl,hr⟩ := fH (step := fun (j2 : Nat) (x2 : LCol) (_ : Unit) =>
     ah (nc out 0 (j2 : Int)) fun (x61 : List LCol) =>
     ah (cd x61 (fun a0=>some (cj a0 x2))) fun x63 =>
     cond x63 (some (Flow.ret (([],23) : List LCol × Int))) (some (.next ())))
  (fun j _=>((out.take j).map LCol.name).Nodup) (fun r=>r = ([],23) ∧ ¬ (out.map LCol.name).Nodup) out 0 () (by simp) (fun k x s hk hI=>by
   simp only [Nat.zero_add] at hI ⊢
   have hkl := (zg.1 hk).1
   rw [px ⟨by omega,by omega,by omega⟩,bPs]
   unfold cd
   rw [idx_column,bPs,bPs,iR]
   simp only [Int.toNat_natCast,Int.toNat_zero,List.drop_zero]
   cases ha : (out.take k).any fun a0=>cj a0 x with
   | true =>
    refine ⟨_,rfl,rfl,fun hnd=>?_⟩
    obtain ⟨y,hy,he⟩ := List.any_eq_true.1 ha
    have he : y.name = x.name := by simpa [cj] using he
    obtain ⟨i,hi,hyi⟩ := List.mem_take_iff_getElem.1 hy
    have hii : i < k := by omega
    rw [List.nodup_iff_pairwise_ne,List.pairwise_iff_getElem] at hnd
    refine hnd i k (by simp; omega) (by simpa using hkl) hii ?_
    simp only [List.getElem_map]
    rw [(zg.1 hk).2,hyi,he]
   | false =>
    refine ⟨_,rfl,?_⟩
    simp only
    rw [List.take_add_one,hk,List.map_append,List.nodup_append]
    refine ⟨hI,by simp,fun a ha' b hb hab=>?_⟩
    simp at hb
    subst hb
    subst hab
    obtain ⟨y,hy,he⟩ := List.mem_map.1 ha'
    have := List.any_eq_false.1 ha y hy
    exact this (by simpa [cj] using he))
 rw [hfl,bPs]
 cases fl with
 | brk s=>exact absurd hr (by simp)
 | ret r=>rw [nk,hr.1,zy hr.2]
 | next s =>
  simp only [Nat.zero_add,List.take_length] at hr
  rw [iP,zp hr]
theorem jS (c : LChecker) (q : LQuery) : (cK c q).1.length ≤ 20 := by
 rw [pT]
 unfold oi
 repeat' split
 all_goals first | (simp; done) | (simp only; omega)
theorem cols_ok (c : LChecker) : ∀ q : LQuery,SmallQ q → eG c q = some (cK c q) := by
 refine LQuery.ind fun q ih hsm=>?_
 refine nx (γ := LChecker) (F := fun n c q=>eH n c q) (O := fun r c q=>eI r c q) (fun n=>rfl) c q ?_ (fun x hx=>⟨_,ih x hx (hsm.sub hx)⟩) ?_
 ·intro r r' h
  simp only [eI]
  congr 1
  funext b
  congr 2
  exact kA q.inputs 0 _ fun k x s hk=>by rw [h x (gB hk)]
 ·have e : ∀ c x,(ja fun n=>eH n c x) = eG c x := fun _ _=>rfl
  simp only [eI,e]
  have hself := hsm.self
  rw [shape_eq q ⟨by omega,by omega⟩,bPs,pT]
  unfold oi
  cases hs : kd q with
  | false=>rfl
  | true =>
   have hok := nZ hs
   have hin : q.inputs.length ≤ 2 := by rw [hok.arity]; unfold og; split <;> (try split) <;> omega
   simp only [Bool.not_true,zd,Bool.true_eq_false,if_false]
   rw [rX (eG c) (cK c) q.inputs 0 [] (fun x hx=>ih x hx (hsm.sub hx)) (by simp; omega),List.nil_append]
   by_cases h1 : (dH (q.inputs.map (cK c))).2 = 0
   ·obtain ⟨a,b⟩ := qh h1
    simp only [h1,ne_eq,not_true_eq_false,if_false]
    rw [out_eq hok hsm (by rw [b]; simp) (fun l hl=>by
     rw [b] at hl
     obtain ⟨r,hr,rfl⟩ := List.mem_map.1 hl
     obtain ⟨x,_,rfl⟩ := List.mem_map.1 hr
     exact jS c x),bPs]
    generalize ij c q (dH (q.inputs.map (cK c))).1 = o
    by_cases h2 : o.2 = 0
    ·rw [bneF h2,zd]
     simp only [h2,not_true_eq_false,if_false]
     by_cases h3 : 20 < o.1.length
     ·rw [zt (show (o.1.length : Int) > 20 from by omega),zp h3]; rfl
     ·rw [zf (show ¬ (o.1.length : Int) > 20 from by omega),zy h3,zd]
      exact dup_run o.1
    ·rw [lq h2]; simp [h2]
   ·simp [h1]
theorem whileM_by {σ ρ : Type} {step : σ → Option (Flow σ ρ)} (I : σ → Prop) (μ : σ → Nat) (Q : σ → Prop) (R : ρ → Prop) (hs : ∀ s,I s → ∃ fl,step s = some fl ∧ (match fl with | .next s'=>I s' ∧ μ s' < μ s | .brk s'=>Q s' | .ret r=>R r)) :
  ∀ s,I s → ∃ fl,fD step s = some fl ∧ (match fl with | .next s'=>Q s' | .brk _=>False | .ret r=>R r) := by
 intro s
 generalize hn : μ s = n
 induction n using Nat.strongRecOn generalizing s with
 | _ n ih =>
  intro hI
  obtain ⟨fl,h1,h2⟩ := hs s hI
  cases fl with
  | next s' =>
   obtain ⟨fl,h3,h4⟩ := ih (μ s') (hn ▸ h2.2) s' rfl h2.1
   exact ⟨fl,kY h1 h3,h4⟩
  | brk s'=>exact ⟨.next s',kY h1 rfl,h2⟩
  | ret r=>exact ⟨.ret r,kY h1 rfl,h2⟩
theorem gv {σ β : Type} {step : σ → Option (Flow σ Empty)} {k : σ → Option β} {R : β → Prop} {s : σ} (I : σ → Prop) (μ : σ → Nat) (Q : σ → Prop) (h0 : I s)
  (hs : ∀ s,I s → ∃ fl,step s = some fl ∧ (match fl with | .next s'=>I s' ∧ μ s' < μ s | .brk s'=>Q s' | .ret _=>False)) (hk : ∀ s',Q s' → ∃ r,k s' = some r ∧ R r) :
  ∃ r,ah (fD step s) (fun fl=>fl.thenP k) = some r ∧ R r := by
 obtain ⟨fl,h1,h2⟩ := whileM_by (step := step) I μ Q (fun _=>False) (fun s hI=>by
  obtain ⟨fl,h1,h2⟩ := hs s hI
  refine ⟨fl,h1,?_⟩
  cases fl with
  | next s'=>exact h2
  | brk s'=>exact h2
  | ret r=>exact r.elim) s h0
 cases fl with
 | next s'=>rw [h1]; exact hk s' h2
 | brk s'=>exact absurd h2 (by simp)
 | ret r=>exact r.elim
theorem mid_eq {n : Int} (h0 : 0 ≤ n) (h1 : n ≤ 4611686018427387904) : IntKind.i64.wrap (Int.fdiv (IntKind.u64.wrap (IntKind.i64.wrap n)) (2 ^ 1)) = n / 2 := by
 have h3 : IntKind.i64.wrap n = n := bJ (by omega) (by omega)
 have h2 : IntKind.u64.wrap n = n := by
  simp only [IntKind.wrap,IntKind.bits,IntKind.signed]
  simp
  omega
 rw [h3,h2,show (2 : Int) ^ 1 = 2 from rfl,Int.fdiv_eq_ediv_of_nonneg _ (by decide)]
 exact bJ (by omega) (by omega)
section
variable {α : Type}
theorem swap_perm {l : List α} {i j : Nat} {x y : α} (hi : l[i]? = some x) (hj : l[j]? = some y) : ((l.set i y).set j x).Perm l := by
 have hil := (zg.1 hi).1
 have hjl := (zg.1 hj).1
 have hx := (zg.1 hi).2
 have hy := (zg.1 hj).2
 rw [← hx,← hy]
 exact List.set_set_perm hil hjl
end
section
abbrev Rows := Rz
abbrev Cmp := Rq → Rq → Option Int
structure SrtOk (cmp : Cmp) (d0 d : Rows) : Prop where
 perm : d.Perm d0
 small : d0.length ≤ 1000000
 tot : ∀ x ∈ d0,∀ y ∈ d0,Tot (cmp x y)
variable {cmp : Cmp} {d0 : Rows}
theorem SrtOk.len {d : Rows} (h : SrtOk cmp d0 d) : d.length = d0.length := h.perm.length_eq
theorem SrtOk.cm {d : Rows} (h : SrtOk cmp d0 d) {x y : Rq} (hx : x ∈ d) (hy : y ∈ d) : Tot (cmp x y) := h.tot x (h.perm.mem_iff.1 hx) y (h.perm.mem_iff.1 hy)
theorem SrtOk.swap {d : Rows} (h : SrtOk cmp d0 d) {i j : Nat} {x y : Rq} (hi : d[i]? = some x) (hj : d[j]? = some y) : SrtOk cmp d0 ((d.set i y).set j x) := ⟨(swap_perm hi hj).trans h.perm,h.small,h.tot⟩
theorem SrtOk.get {d : Rows} (h : SrtOk cmp d0 d) {i : Int} (h0 : 0 ≤ i) (h1 : i < d0.length) : ∃ x,aO d i = some x ∧ d[i.toNat]? = some x ∧ x ∈ d := by
 have hl := h.len
 have : i.toNat < d.length := by omega
 exact ⟨d[i.toNat],lF h0 (ze this),ze this,List.getElem_mem _⟩
theorem getI_set {α : Type} {l : List α} {i j : Int} {x y : α} (h0 : 0 ≤ j) (hj : l[j.toNat]? = some y) : ∃ z,aO (l.set i.toNat x) j = some z := by
 have hl := (zg.1 hj).1
 exact ⟨_,lF h0 (ze (by simpa using hl))⟩
theorem rm {β : Type} {d : Rows} (h : SrtOk cmp d0 d) {i j : Int} (hi0 : 0 ≤ i) (hi1 : i < d0.length) (hj0 : 0 ≤ j) (hj1 : j < d0.length) : ∃ d',SrtOk cmp d0 d' ∧ ∀ k : Rows → Option β,
  (ah (aO d j) fun (x28 : Rq)=>ah (aO d i) fun (x34 : Rq)=>ah (aO d i) fun (_ : Rq)=>bH (d.set i.toNat x28) fun (y6 : Rows)=>ah (aO y6 j) fun (_ : Rq)=>bH (y6.set j.toNat x34) fun (y7 : Rows)=>k y7) = k d' := by
 obtain ⟨y,hy,hy',_⟩ := h.get hj0 hj1
 obtain ⟨x,hx,hx',_⟩ := h.get hi0 hi1
 obtain ⟨z,hz⟩ := getI_set (i := i) (x := y) hj0 hy'
 refine ⟨_,h.swap hx' hy',fun k=>?_⟩
 rw [hy,hx]
 simp only [bPs,bU]
 rw [hz,bPs]
theorem rd {d : Rows} (h : SrtOk cmp d0 d) {a b : Int} (ha : 0 ≤ a ∧ a ≤ d0.length) (hb : b ≤ d0.length) : ∃ d',cA d a b cmp = some d' ∧ SrtOk cmp d0 d' := by
 have hs := h.small
 unfold cA
 rw [bJ (by omega) (by omega)]
 refine gv (fun s=>SrtOk cmp d0 s.1 ∧ a < s.2) (fun s=>(b - s.2).toNat) (fun s=>SrtOk cmp d0 s.1) ⟨h,by show a < a + 1; omega⟩ (fun s hI=>?_) (fun s hq=>⟨_,rfl,hq⟩)
 obtain ⟨h1,h2⟩ := hI
 by_cases hlt : s.2 < b
 ·rw [zt hlt,zc]
  refine gv (fun t=>SrtOk cmp d0 t.1 ∧ a ≤ t.2 ∧ t.2 < b) (fun t=>(t.2 - a).toNat) (fun t=>SrtOk cmp d0 t.1) ⟨h1,by show a ≤ s.2; omega,hlt⟩ (fun t hI=>?_) (fun t hq=>⟨_,rfl,?_⟩)
  ·obtain ⟨g1,g2,g3⟩ := hI
   by_cases hgt : t.2 > a
   ·rw [zt hgt,zc,bJ (by omega) (by omega)]
    obtain ⟨x,hx,hx',hxm⟩ := g1.get (i := t.2) (by omega) (by omega)
    obtain ⟨y,hy,hy',hym⟩ := g1.get (i := t.2 - 1) (by omega) (by omega)
    obtain ⟨c,hc⟩ := g1.cm hxm hym
    obtain ⟨d',hd',hsw⟩ := rm (β := Flow (Rows × Int) Empty) g1 (i := t.2) (j := t.2 - 1) (by omega) (by omega) (by omega) (by omega)
    rw [hx,bPs,hy,bPs,hc,bPs,bPs]
    by_cases hneg : c < 0
    ·rw [zt hneg]
     have := hsw (fun y31=>some (.next (y31,t.2 - 1)))
     rw [hx,hy] at this
     refine ⟨.next (d',t.2 - 1),?_,⟨hd',by show a ≤ t.2 - 1; omega,by show t.2 - 1 < b; omega⟩,by show (t.2 - 1 - a).toNat < (t.2 - a).toNat; omega⟩
     rw [zc]
     simp only
     rw [hy,hx]
     exact this
    ·rw [zf hneg]
     exact ⟨_,rfl,g1⟩
   ·rw [zf hgt]
    exact ⟨_,rfl,g1⟩
  ·show (SrtOk cmp d0 t.1 ∧ a < IntKind.i64.wrap (s.2 + 1)) ∧ (b - IntKind.i64.wrap (s.2 + 1)).toNat < (b - s.2).toNat
   rw [bJ (by omega) (by omega)]
   exact ⟨⟨hq,by omega⟩,by omega⟩
 ·rw [zf hlt]
  exact ⟨_,rfl,h1⟩
theorem om {d : Rows} (h : SrtOk cmp d0 d) {a b n : Int} (ha : 0 ≤ a) (hb : 0 ≤ b) (hn : n ≤ d0.length) (ha' : a + n ≤ d0.length) (hb' : b + n ≤ d0.length) : ∃ d',cv d a b n cmp = some d' ∧ SrtOk cmp d0 d' := by
 have hs := h.small
 unfold cv
 refine gv (fun s=>SrtOk cmp d0 s.1 ∧ 0 ≤ s.2) (fun s=>(n - s.2).toNat) (fun s=>SrtOk cmp d0 s.1) ⟨h,by show (0 : Int) ≤ 0; omega⟩ (fun s hI=>?_) (fun s hq=>⟨_,rfl,hq⟩)
 obtain ⟨h1,h2⟩ := hI
 by_cases hlt : s.2 < n
 ·rw [zt hlt,zc,bJ (n := b + s.2) (by omega) (by omega),bJ (n := a + s.2) (by omega) (by omega),bJ (n := s.2 + 1) (by omega) (by omega)]
  obtain ⟨d',hd',hsw⟩ := rm (β := Flow (Rows × Int) Empty) h1 (i := a + s.2) (j := b + s.2) (by omega) (by omega) (by omega) (by omega)
  exact ⟨_,hsw _,⟨hd',by show 0 ≤ s.2 + 1; omega⟩,by show (n - (s.2 + 1)).toNat < (n - s.2).toNat; omega⟩
 ·rw [zf hlt]
  exact ⟨_,rfl,h1⟩
theorem rotate_ok {d : Rows} (h : SrtOk cmp d0 d) {a m b : Int} (ha : 0 ≤ a) (hm : a < m) (hb : m < b) (hb' : b ≤ d0.length) : ∃ d',dn d a m b cmp = some d' ∧ SrtOk cmp d0 d' := by
 have hs := h.small
 unfold dn
 rw [bJ (n := m - a) (by omega) (by omega),bJ (n := b - m) (by omega) (by omega)]
 refine gv (fun s=>SrtOk cmp d0 s.1 ∧ 0 < s.2.1 ∧ 0 < s.2.2 ∧ s.2.1 ≤ m - a ∧ s.2.2 ≤ b - m) (fun s=>(s.2.1 + s.2.2).toNat) (fun s=>SrtOk cmp d0 s.1 ∧ 0 < s.2.1 ∧ s.2.1 ≤ m - a ∧ s.2.1 ≤ b - m) ⟨h,by show 0 < m - a; omega,by show 0 < b - m; omega,Int.le_refl _,Int.le_refl _⟩ (fun s hI=>?_) (fun s hq=>?_)
 ·obtain ⟨h1,h2,h3,h4,h5⟩ := hI
  by_cases hne : s.2.1 = s.2.2
  ·rw [bneF hne]
   exact ⟨_,rfl,h1,h2,h4,by show s.2.1 ≤ b - m; omega⟩
  ·rw [lq hne,zc,bJ (n := m - s.2.1) (by omega) (by omega)]
   by_cases hgt : s.2.1 > s.2.2
   ·rw [zt hgt,zc]
    obtain ⟨d',e,hd'⟩ := om h1 (a := m - s.2.1) (b := m) (n := s.2.2) (by omega) (by omega) (by omega) (by omega) (by omega)
    rw [e,bPs,dV (by rw [hd'.len,h1.len]),bPs,bJ (by omega) (by omega)]
    exact ⟨_,rfl,⟨hd',by show 0 < s.2.1 - s.2.2; omega,h3,by show s.2.1 - s.2.2 ≤ m - a; omega,h5⟩,by show (s.2.1 - s.2.2 + s.2.2).toNat < (s.2.1 + s.2.2).toNat; omega⟩
   ·rw [zf hgt,zd,bJ (n := m + s.2.2) (by omega) (by omega),bJ (n := m + s.2.2 - s.2.1) (by omega) (by omega)]
    obtain ⟨d',e,hd'⟩ := om h1 (a := m - s.2.1) (b := m + s.2.2 - s.2.1) (n := s.2.1) (by omega) (by omega) (by omega) (by omega) (by omega)
    rw [e,bPs,dV (by rw [hd'.len,h1.len]),bPs,bJ (by omega) (by omega)]
    exact ⟨_,rfl,⟨hd',h2,by show 0 < s.2.2 - s.2.1; omega,h4,by show s.2.2 - s.2.1 ≤ b - m; omega⟩,by show (s.2.1 + (s.2.2 - s.2.1)).toNat < (s.2.1 + s.2.2).toNat; omega⟩
 ·obtain ⟨h1,h2,h3,h4⟩ := hq
  rw [bJ (n := m - s.2.1) (by omega) (by omega)]
  obtain ⟨d',e,hd'⟩ := om h1 (a := m - s.2.1) (b := m) (n := s.2.1) (by omega) (by omega) (by omega) (by omega) (by omega)
  rw [e,bPs,dV (by rw [hd'.len,h1.len]),bPs]
  exact ⟨_,rfl,hd'⟩
def LeO {β : Type} (o o' : Option β) : Prop := ∀ r,o = some r → o' = some r
theorem LeO.refl {β : Type} (o : Option β) : LeO o o := fun _ h=>h
theorem LeO.bind {β γ : Type} {o o' : Option β} {k k' : β → Option γ} (h : LeO o o') (hk : ∀ v,LeO (k v) (k' v)) : LeO (ah o k) (ah o' k') := by
 intro r hr
 cases o with
 | none=>cases hr
 | some v=>rw [h v rfl]; exact hk v r hr
theorem LeO.cond {β : Type} {b : Bool} {x x' y y' : Option β} (hx : LeO x x') (hy : LeO y y') : LeO (cond b x y) (cond b x' y') := by
 cases b
 ·exact hy
 ·exact hx
theorem LeO.thenP {σ β : Type} {fl : Flow σ Empty} {k k' : σ → Option β} (hk : ∀ s,LeO (k s) (k' s)) : LeO (fl.thenP k) (fl.thenP k') := by
 cases fl with
 | next s=>exact hk s
 | brk s=>exact hk s
 | ret r=>exact r.elim
theorem symMerge_mono {r r' : Rows → Int → Int → Int → Option Rows} (h : ∀ d a m b,LeO (r d a m b) (r' d a m b)) (d : Rows) (a m b : Int) : LeO (cC r d a m b cmp) (cC r' d a m b cmp) := by
 unfold cC
 simp only [bU]
 refine LeO.cond (LeO.refl _) (LeO.cond (LeO.refl _) (LeO.bind (LeO.refl _) fun fl=>LeO.thenP fun s=>LeO.bind (LeO.refl _) fun t=>LeO.bind (LeO.cond (LeO.bind (h _ _ _ _) fun _=>LeO.refl _) (LeO.refl _)) fun u=>LeO.cond (LeO.cond (LeO.bind (h _ _ _ _) fun _=>LeO.refl _) (LeO.refl _)) (LeO.refl _)))
theorem qo : ∀ (n : Nat) (d : Rows) (a m b : Int),LeO (bB n d a m b cmp) (bB (n + 1) d a m b cmp)
 | 0,d,a,m,b=>fun r h=>by simp [bB] at h
 | n + 1,d,a,m,b=>by
  rw [bB,bB]
  exact symMerge_mono (fun d a m b=>qo n d a m b) d a m b
theorem qV {n : Nat} {d : Rows} {a m b : Int} {r : Rows} (h : bB n d a m b cmp = some r) : eT d a m b cmp = some r := by
 refine po n fun k hk=>?_
 obtain ⟨j,rfl⟩ : ∃ j,k = n + j := ⟨k - n,by omega⟩
 clear hk
 induction j with
 | zero=>exact h
 | succ j ih=>exact qo (n + j) d a m b r ih
theorem mD : ∀ (n : Nat) {d : Rows} (_ : SrtOk cmp d0 d) {a m b : Int},0 ≤ a → a < m → m < b → b ≤ d0.length → (b - a).toNat < n → ∃ d',bB n d a m b cmp = some d' ∧ SrtOk cmp d0 d'
 | 0,_,_,_,_,_,_,_,_,_,hn=>by omega
 | n + 1,d,h,a,m,b,ha,hm,hb,hb',hn=>by
  have hs := h.small
  rw [bB]
  unfold cC
  rw [bJ (n := m - a) (by omega) (by omega),bJ (n := b - m) (by omega) (by omega)]
  by_cases h1 : m - a = 1
  ·rw [kw h1,zc]
   refine gv (fun s=>SrtOk cmp d0 s.1 ∧ m ≤ s.2.1 ∧ s.2.1 ≤ s.2.2 ∧ s.2.2 ≤ b) (fun s=>(s.2.2 - s.2.1).toNat) (fun s=>SrtOk cmp d0 s.1 ∧ m ≤ s.2.1 ∧ s.2.1 ≤ b) ⟨h,Int.le_refl _,by show m ≤ b; omega,Int.le_refl _⟩ (fun s hI=>?_) (fun s hq=>?_)
   ·obtain ⟨g1,g2,g3,g4⟩ := hI
    by_cases hlt : s.2.1 < s.2.2
    ·rw [zt hlt,zc,mid_eq (n := s.2.1 + s.2.2) (by omega) (by omega)]
     obtain ⟨x,hx,_,hxm⟩ := g1.get (i := (s.2.1 + s.2.2) / 2) (by omega) (by omega)
     obtain ⟨y,hy,_,hym⟩ := g1.get (i := a) (by omega) (by omega)
     obtain ⟨c,hc⟩ := g1.cm hxm hym
     rw [hx,bPs,hy,bPs,hc,bPs]
     by_cases hneg : c < 0
     ·rw [zt hneg,zc,bJ (by omega) (by omega)]
      exact ⟨_,rfl,⟨g1,by show m ≤ (s.2.1 + s.2.2) / 2 + 1; omega,by show (s.2.1 + s.2.2) / 2 + 1 ≤ s.2.2; omega,g4⟩,by show (s.2.2 - ((s.2.1 + s.2.2) / 2 + 1)).toNat < (s.2.2 - s.2.1).toNat; omega⟩
     ·rw [zf hneg,zd]
      exact ⟨_,rfl,⟨g1,g2,by show s.2.1 ≤ (s.2.1 + s.2.2) / 2; omega,by show (s.2.1 + s.2.2) / 2 ≤ b; omega⟩,by show ((s.2.1 + s.2.2) / 2 - s.2.1).toNat < (s.2.2 - s.2.1).toNat; omega⟩
    ·rw [zf hlt]
     exact ⟨_,rfl,g1,g2,by show s.2.1 ≤ b; omega⟩
   ·obtain ⟨g1,g2,g3⟩ := hq
    rw [bJ (n := s.2.1 - 1) (by omega) (by omega)]
    refine gv (fun t=>SrtOk cmp d0 t.1 ∧ a ≤ t.2) (fun t=>(s.2.1 - t.2).toNat) (fun t=>SrtOk cmp d0 t.1) ⟨g1,Int.le_refl _⟩ (fun t hI=>?_) (fun t hq=>⟨_,rfl,hq⟩)
    obtain ⟨k1,k2⟩ := hI
    by_cases hlt : t.2 < s.2.1 - 1
    ·rw [zt hlt,zc,bJ (n := t.2 + 1) (by omega) (by omega)]
     obtain ⟨d',hd',hsw⟩ := rm (β := Flow (Rows × Int) Empty) k1 (i := t.2) (j := t.2 + 1) (by omega) (by omega) (by omega) (by omega)
     exact ⟨_,hsw _,⟨hd',by show a ≤ t.2 + 1; omega⟩,by show (s.2.1 - (t.2 + 1)).toNat < (s.2.1 - t.2).toNat; omega⟩
    ·rw [zf hlt]
     exact ⟨_,rfl,k1⟩
  ·rw [cP h1,zd]
   by_cases h2 : b - m = 1
   ·rw [kw h2,zc]
    refine gv (fun s=>SrtOk cmp d0 s.1 ∧ a ≤ s.2.1 ∧ s.2.1 ≤ s.2.2 ∧ s.2.2 ≤ m) (fun s=>(s.2.2 - s.2.1).toNat) (fun s=>SrtOk cmp d0 s.1 ∧ a ≤ s.2.1 ∧ s.2.1 ≤ m) ⟨h,Int.le_refl _,by show a ≤ m; omega,Int.le_refl _⟩ (fun s hI=>?_) (fun s hq=>?_)
    ·obtain ⟨g1,g2,g3,g4⟩ := hI
     by_cases hlt : s.2.1 < s.2.2
     ·rw [zt hlt,zc,mid_eq (n := s.2.1 + s.2.2) (by omega) (by omega)]
      obtain ⟨x,hx,_,hxm⟩ := g1.get (i := m) (by omega) (by omega)
      obtain ⟨y,hy,_,hym⟩ := g1.get (i := (s.2.1 + s.2.2) / 2) (by omega) (by omega)
      obtain ⟨c,hc⟩ := g1.cm hxm hym
      rw [hx,bPs,hy,bPs,hc,bPs]
      by_cases hneg : c < 0
      ·rw [zt hneg]
       exact ⟨_,rfl,⟨g1,g2,by show s.2.1 ≤ (s.2.1 + s.2.2) / 2; omega,by show (s.2.1 + s.2.2) / 2 ≤ m; omega⟩,by show ((s.2.1 + s.2.2) / 2 - s.2.1).toNat < (s.2.2 - s.2.1).toNat; omega⟩
      ·rw [zf hneg,Bool.not_false,zc,bJ (by omega) (by omega)]
       exact ⟨_,rfl,⟨g1,by show a ≤ (s.2.1 + s.2.2) / 2 + 1; omega,by show (s.2.1 + s.2.2) / 2 + 1 ≤ s.2.2; omega,g4⟩,by show (s.2.2 - ((s.2.1 + s.2.2) / 2 + 1)).toNat < (s.2.2 - s.2.1).toNat; omega⟩
     ·rw [zf hlt]
      exact ⟨_,rfl,g1,g2,by show s.2.1 ≤ m; omega⟩
    ·obtain ⟨g1,g2,g3⟩ := hq
     refine gv (fun t=>SrtOk cmp d0 t.1 ∧ a ≤ t.2 ∧ t.2 ≤ m) (fun t=>(t.2 - a).toNat) (fun t=>SrtOk cmp d0 t.1) ⟨g1,by show a ≤ m; omega,Int.le_refl _⟩ (fun t hI=>?_) (fun t hq=>⟨_,rfl,hq⟩)
     obtain ⟨k1,k2,k3⟩ := hI
     by_cases hlt : t.2 > s.2.1
     ·rw [zt hlt,zc,bJ (n := t.2 - 1) (by omega) (by omega)]
      obtain ⟨d',hd',hsw⟩ := rm (β := Flow (Rows × Int) Empty) k1 (i := t.2) (j := t.2 - 1) (by omega) (by omega) (by omega) (by omega)
      exact ⟨_,hsw _,⟨hd',by show a ≤ t.2 - 1; omega,by show t.2 - 1 ≤ m; omega⟩,by show (t.2 - 1 - a).toNat < (t.2 - a).toNat; omega⟩
     ·rw [zf hlt]
      exact ⟨_,rfl,k1⟩
   ·rw [cP h2,zd]
    simp only [bU]
    rw [mid_eq (n := a + b) (by omega) (by omega)]
    generalize hmid : (a + b) / 2 = mid
    have b1 : 2 * mid ≤ a + b ∧ a + b ≤ 2 * mid + 1 := by omega
    rw [bJ (n := mid + m) (by omega) (by omega),bJ (n := mid + m - b) (by omega) (by omega),bJ (n := mid + m - 1) (by omega) (by omega)]
    obtain ⟨lo,hi,e1,l1,l2,l3,l4,l5,l6⟩ : ∃ lo hi : Int,(cond (decide (m > mid)) ((d,mid + m - b,mid)) ((d,a,m)) : Rows × Int × Int) = (d,lo,hi) ∧ a ≤ lo ∧ lo ≤ hi ∧ hi ≤ m ∧ mid + m - lo ≤ b ∧ m ≤ mid + m - hi ∧ hi ≤ mid := by
     by_cases hgt : m > mid
     ·exact ⟨mid + m - b,mid,by rw [zt hgt]; rfl,by omega,by omega,by omega,by omega,by omega,by omega⟩
     ·exact ⟨a,m,by rw [zf hgt]; rfl,by omega,by omega,by omega,by omega,by omega,by omega⟩
    rw [e1]
    refine gv (fun s=>SrtOk cmp d0 s.1 ∧ lo ≤ s.2.1 ∧ s.2.1 ≤ s.2.2 ∧ s.2.2 ≤ hi) (fun s=>(s.2.2 - s.2.1).toNat) (fun s=>SrtOk cmp d0 s.1 ∧ lo ≤ s.2.1 ∧ s.2.1 ≤ hi) ⟨h,Int.le_refl _,l2,Int.le_refl _⟩ (fun s hI=>?_) (fun s hq=>?_)
    ·obtain ⟨g1,g2,g3,g4⟩ := hI
     by_cases hlt : s.2.1 < s.2.2
     ·rw [zt hlt,zc,mid_eq (n := s.2.1 + s.2.2) (by omega) (by omega)]
      generalize hc : (s.2.1 + s.2.2) / 2 = c
      have c1 : s.2.1 ≤ c ∧ c < s.2.2 := by omega
      rw [bJ (n := mid + m - 1 - c) (by omega) (by omega)]
      obtain ⟨x,hx,_,hxm⟩ := g1.get (i := mid + m - 1 - c) (by omega) (by omega)
      obtain ⟨y,hy,_,hym⟩ := g1.get (i := c) (by omega) (by omega)
      obtain ⟨v,hv⟩ := g1.cm hxm hym
      rw [hx,bPs,hy,bPs,hv,bPs]
      by_cases hneg : v < 0
      ·rw [zt hneg]
       exact ⟨_,rfl,⟨g1,g2,by show s.2.1 ≤ c; omega,by show c ≤ hi; omega⟩,by show (c - s.2.1).toNat < (s.2.2 - s.2.1).toNat; omega⟩
      ·rw [zf hneg,Bool.not_false,zc,bJ (by omega) (by omega)]
       exact ⟨_,rfl,⟨g1,by show lo ≤ c + 1; omega,by show c + 1 ≤ s.2.2; omega,g4⟩,by show (s.2.2 - (c + 1)).toNat < (s.2.2 - s.2.1).toNat; omega⟩
     ·rw [zf hlt]
      exact ⟨_,rfl,g1,g2,by show s.2.1 ≤ hi; omega⟩
    ·obtain ⟨g1,g2,g3⟩ := hq
     rw [bJ (n := mid + m - s.2.1) (by omega) (by omega)]
     -- the rotation
     obtain ⟨t,ht,hto⟩ : ∃ t,(ah (cond ((cond (decide (s.2.1 < m)) ((s.1,decide (m < mid + m - s.2.1))) ((s.1,false)) : Rows × Bool)).2
       (ah (dn ((cond (decide (s.2.1 < m)) ((s.1,decide (m < mid + m - s.2.1))) ((s.1,false)) : Rows × Bool)).1 s.2.1 m (mid + m - s.2.1) cmp) fun x191=>ah (eW (x191.length = ((cond (decide (s.2.1 < m)) ((s.1,decide (m < mid + m - s.2.1))) ((s.1,false)) : Rows × Bool)).1.length) ()) fun (_ : Unit)=>some x191)
       (some ((cond (decide (s.2.1 < m)) ((s.1,decide (m < mid + m - s.2.1))) ((s.1,false)) : Rows × Bool)).1)) some) = some t ∧ SrtOk cmp d0 t := by
      by_cases c1 : s.2.1 < m
      ·by_cases c2 : m < mid + m - s.2.1
       ·rw [zt c1,zt c2]
        simp only [zc]
        obtain ⟨d',e,hd'⟩ := rotate_ok g1 (a := s.2.1) (m := m) (b := mid + m - s.2.1) (by omega) c1 c2 (by omega)
        rw [e,bPs,dV (by rw [hd'.len,g1.len])]
        exact ⟨_,rfl,hd'⟩
       ·rw [zt c1,zf c2]
        exact ⟨_,rfl,g1⟩
      ·rw [zf c1]
       exact ⟨_,rfl,g1⟩
     have ht' := ht
     generalize hcc : (cond ((cond (decide (s.2.1 < m)) ((s.1,decide (m < mid + m - s.2.1))) ((s.1,false)) : Rows × Bool)).2 _ _ : Option Rows) = o at ht ⊢
     cases o with
     | none=>cases ht
     | some t0 =>
      simp only [bPs,zo] at ht
      subst ht
      rw [bPs]
      clear hcc ht'
      obtain ⟨u,hu,huo⟩ : ∃ u,(ah (cond ((cond (decide (a < s.2.1)) ((t0,decide (s.2.1 < mid))) ((t0,false)) : Rows × Bool)).2
        (ah (bB n ((cond (decide (a < s.2.1)) ((t0,decide (s.2.1 < mid))) ((t0,false)) : Rows × Bool)).1 a s.2.1 mid cmp) fun x205=>ah (eW (x205.length = ((cond (decide (a < s.2.1)) ((t0,decide (s.2.1 < mid))) ((t0,false)) : Rows × Bool)).1.length) ()) fun (_ : Unit)=>some x205)
        (some ((cond (decide (a < s.2.1)) ((t0,decide (s.2.1 < mid))) ((t0,false)) : Rows × Bool)).1)) some) = some u ∧ SrtOk cmp d0 u := by
       by_cases c1 : a < s.2.1
       ·by_cases c2 : s.2.1 < mid
        ·rw [zt c1,zt c2]
         simp only [zc]
         obtain ⟨d',e,hd'⟩ := mD n hto (a := a) (m := s.2.1) (b := mid) ha c1 c2 (by omega) (by omega)
         rw [e,bPs,dV (by rw [hd'.len,hto.len])]
         exact ⟨_,rfl,hd'⟩
        ·rw [zt c1,zf c2]
         exact ⟨_,rfl,hto⟩
       ·rw [zf c1]
        exact ⟨_,rfl,hto⟩
      generalize hcc : (cond ((cond (decide (a < s.2.1)) ((t0,decide (s.2.1 < mid))) ((t0,false)) : Rows × Bool)).2 _ _ : Option Rows) = o at hu ⊢
      cases o with
      | none=>cases hu
      | some u0 =>
       simp only [bPs,zo] at hu
       subst hu
       rw [bPs]
       by_cases c1 : mid < mid + m - s.2.1
       ·rw [zt c1,zc]
        by_cases c2 : mid + m - s.2.1 < b
        ·rw [zt c2,zc]
         obtain ⟨d',e,hd'⟩ := mD n huo (a := mid) (m := mid + m - s.2.1) (b := b) (by omega) c1 c2 hb' (by omega)
         rw [e,bPs,dV (by rw [hd'.len,huo.len])]
         exact ⟨_,rfl,hd'⟩
        ·rw [zf c2]
         exact ⟨_,rfl,huo⟩
       ·rw [zf c1]
        exact ⟨_,rfl,huo⟩
theorem stable_ok {d : Rows} (h : SrtOk cmp d0 d) : ∃ d',dZ d (d0.length : Int) cmp = some d' ∧ SrtOk cmp d0 d' := by
 have hs := h.small
 unfold dZ
 refine gv (fun s=>SrtOk cmp d0 s.1 ∧ 0 ≤ s.2.1 ∧ s.2.1 ≤ s.2.2 ∧ s.2.2 ≤ s.2.1 + 20 ∧ s.2.1 ≤ d0.length) (fun s=>(d0.length + 20 - s.2.2).toNat) (fun s=>SrtOk cmp d0 s.1 ∧ 0 ≤ s.2.1 ∧ s.2.1 ≤ d0.length) ⟨h,by show (0 : Int) ≤ 0; omega,by show (0 : Int) ≤ 20; omega,by show (20 : Int) ≤ 0 + 20; omega,by show (0 : Int) ≤ d0.length; omega⟩ (fun s hI=>?_) (fun s hq=>?_)
 ·obtain ⟨g1,g2,g3,g4,g5⟩ := hI
  by_cases hle : s.2.2 ≤ (d0.length : Int)
  ·rw [zt hle,zc]
   obtain ⟨d',e,hd'⟩ := rd g1 (a := s.2.1) (b := s.2.2) ⟨g2,by omega⟩ hle
   rw [e,bPs,dV (by rw [hd'.len,g1.len]),bPs,bJ (by omega) (by omega)]
   exact ⟨_,rfl,⟨hd',by show 0 ≤ s.2.2; omega,by show s.2.2 ≤ s.2.2 + 20; omega,by show s.2.2 + 20 ≤ s.2.2 + 20; omega,hle⟩,by show ((d0.length : Int) + 20 - (s.2.2 + 20)).toNat < ((d0.length : Int) + 20 - s.2.2).toNat; omega⟩
  ·rw [zf hle]
   exact ⟨_,rfl,g1,g2,g5⟩
 ·obtain ⟨g1,g2,g3⟩ := hq
  obtain ⟨d',e,hd'⟩ := rd g1 (a := s.2.1) (b := (d0.length : Int)) ⟨g2,by omega⟩ (Int.le_refl _)
  rw [e,bPs,dV (by rw [hd'.len,g1.len]),bPs]
  clear e g1 g2 g3 s h
  refine gv (fun s=>SrtOk cmp d0 s.1 ∧ 20 ≤ s.2) (fun s=>(d0.length - s.2).toNat) (fun s=>SrtOk cmp d0 s.1) ⟨hd',by show (20 : Int) ≤ 20; omega⟩ (fun s hI=>?_) (fun s hq=>⟨_,rfl,hq⟩)
  obtain ⟨g1,g2⟩ := hI
  by_cases hlt : s.2 < (d0.length : Int)
  ·rw [zt hlt,zc,bJ (n := 2 * s.2) (by omega) (by omega)]
   refine gv (fun t=>SrtOk cmp d0 t.1 ∧ 0 ≤ t.2.1 ∧ t.2.2 = t.2.1 + 2 * s.2 ∧ t.2.1 ≤ d0.length) (fun t=>(d0.length + 2 * s.2 - t.2.2).toNat) (fun t=>SrtOk cmp d0 t.1 ∧ 0 ≤ t.2.1 ∧ t.2.1 ≤ d0.length) ⟨g1,by show (0 : Int) ≤ 0; omega,by show 2 * s.2 = 0 + 2 * s.2; omega,by show (0 : Int) ≤ d0.length; omega⟩ (fun t hI=>?_) (fun t hq=>?_)
   ·obtain ⟨k1,k2,k3,k4⟩ := hI
    by_cases hle : t.2.2 ≤ (d0.length : Int)
    ·rw [zt hle,zc,bJ (n := t.2.1 + s.2) (by omega) (by omega)]
     obtain ⟨d'',e,hd''⟩ := mD ((t.2.2 - t.2.1).toNat + 1) k1 (a := t.2.1) (m := t.2.1 + s.2) (b := t.2.2) k2 (by omega) (by omega) hle (by omega)
     rw [qV e,bPs,dV (by rw [hd''.len,k1.len]),bPs,bJ (by omega) (by omega)]
     exact ⟨_,rfl,⟨hd'',by show 0 ≤ t.2.2; omega,by show t.2.2 + 2 * s.2 = t.2.2 + 2 * s.2; omega,hle⟩,by show ((d0.length : Int) + 2 * s.2 - (t.2.2 + 2 * s.2)).toNat < ((d0.length : Int) + 2 * s.2 - t.2.2).toNat; omega⟩
    ·rw [zf hle]
     exact ⟨_,rfl,k1,k2,k4⟩
   ·obtain ⟨k1,k2,k3⟩ := hq
    rw [bJ (n := t.2.1 + s.2) (by omega) (by omega),bJ (n := s.2 * 2) (by omega) (by omega)]
    by_cases hm : t.2.1 + s.2 < (d0.length : Int)
    ·rw [zt hm,zc]
     obtain ⟨d'',e,hd''⟩ := mD ((d0.length - t.2.1).toNat + 1) k1 (a := t.2.1) (m := t.2.1 + s.2) (b := (d0.length : Int)) k2 (by omega) (by omega) (Int.le_refl _) (by omega)
     rw [qV e,bPs,dV (by rw [hd''.len,k1.len]),bPs]
     exact ⟨_,rfl,⟨hd'',by show 20 ≤ s.2 * 2; omega⟩,by show ((d0.length : Int) - s.2 * 2).toNat < ((d0.length : Int) - s.2).toNat; omega⟩
    ·rw [zf hm,zd]
     exact ⟨_,rfl,⟨k1,by show 20 ≤ s.2 * 2; omega⟩,by show ((d0.length : Int) - s.2 * 2).toNat < ((d0.length : Int) - s.2).toNat; omega⟩
  ·rw [zf hlt]
   exact ⟨_,rfl,g1⟩
theorem sortStable_ok {d : Rows} (hs : d.length ≤ 1000000) (ht : ∀ x ∈ d,∀ y ∈ d,Tot (cmp x y)) : ∃ d',cM d cmp = some d' ∧ d'.Perm d := by
 unfold cM
 obtain ⟨d',e,hd'⟩ := stable_ok (cmp := cmp) (d0 := d) (d := d) ⟨List.Perm.refl _,hs,ht⟩
 rw [e,bPs,dV hd'.len,bPs]
 exact ⟨d',rfl,hd'.perm⟩
end
theorem kx (r : LRun) (cols : List LCol) (x : Rq) (l : List LExpr) (hl : l.length ≤ 10000000) : dz r cols x l = some (l.map fun e=>bY (bn r cols x) e) := by
 unfold dz
 rw [pV (xs := l) (fun e=>bY (bn r cols x) e) (fun k e hk=>by
  have := (zg.1 hk).1
  rw [bU,bU,cn (by decide) (by simp; omega),bPs])]
 rfl
theorem compare_tot (a b : Rq) (ds : List Bool) : Tot (ic a b ds) := by
 unfold ic
 refine Tot.bind (Tot.range _ _ _ fun k x s hk=>?_) fun fl _=>Tot.thenR fun _ _=>Tot.mk
 rw [Nat.zero_add]
 by_cases h1 : (k : Int) ≥ (b.length : Int)
 ·rw [zt h1]; exact Tot.mk
 ·rw [zf h1,zd,gT (by omega)]
  simp only [bPs,bU]
  refine Tot.cond (fun _=>Tot.mk) fun _=>?_
  refine Tot.cond (fun h=>?_) fun _=>Tot.cond (fun _=>Tot.mk) fun _=>Tot.mk
  have h := of_decide_eq_true h
  rw [gT (by omega),bPs]
  exact Tot.cond (fun _=>Tot.cond (fun _=>Tot.mk) fun _=>Tot.mk) fun _=>Tot.cond (fun _=>Tot.mk) fun _=>Tot.mk
theorem sort_ok (r : LRun) (q : LQuery) (cols : List LCol) (l : Rows) (hs : l.length ≤ 1000000) (he : q.exprs.length ≤ 1000000) : ∃ l',eK r q cols l = some l' ∧ l'.Perm l := by
 unfold eK
 obtain ⟨l',e,hp⟩ := sortStable_ok (cmp := fun a0 a1=>dD a0 a1 r cols q) hs (fun x _ y _=>by
  show Tot (dD x y r cols q)
  unfold dD
  rw [kx r cols x q.exprs (by omega),kx r cols y q.exprs (by omega),bPs,bPs]
  exact Tot.bind (compare_tot _ _ _) fun _ _=>Tot.mk)
 rw [e,bPs,dV hp.length_eq,bPs]
 exact ⟨l',rfl,hp⟩
theorem val_eq (x y : LVal) : (x.kind == y.kind && (x.int == y.int && (x.text == y.text && true))) = decide (x = y) := by
 obtain ⟨a,b,c⟩ := x
 obtain ⟨a',b',c'⟩ := y
 by_cases h : (⟨a,b,c⟩ : LVal) = ⟨a',b',c'⟩
 ·rw [zt h]; cases h; simp
 ·rw [zf h]
  by_cases h1 : a = a'
  ·by_cases h2 : b = b'
   ·have h3 : c ≠ c' := fun h3=>h (by rw [h1,h2,h3])
    have : (c == c') = false := by simpa using h3
    simp [this]
   ·simp [cP h2]
  ·simp [cP h1]
theorem equalRow (x y : Rq) : cB x y = some (decide (x = y)) := by
 unfold cB
 by_cases hl : x.length = y.length
 ·rw [nh,zt hl,Bool.not_true,zd]
  obtain ⟨fl,hfl,hr⟩ := fH (step := fun (j1 : Nat) (x1 : LVal) (_ : Unit)=>ah (aO y (j1 : Int)) fun (x22 : LVal)=>cond (!(x1.kind == x22.kind && (x1.int == x22.int && (x1.text == x22.text && true)))) (some (Flow.ret false)) (some (.next ())))
   (fun j _=>x.take j = y.take j) (fun r=>r = false ∧ x ≠ y) x 0 () (by simp) (fun k v s hk hI=>by
    simp only [Nat.zero_add] at hI ⊢
    have hkl := (zg.1 hk).1
    rw [gT (by omega),bPs,val_eq]
    by_cases hv : v = y[k]
    ·rw [zt hv]
     refine ⟨_,rfl,?_⟩
     simp only
     rw [List.take_add_one,List.take_add_one,hk,ze (by omega),hI,hv]
    ·rw [zf hv]
     refine ⟨_,rfl,rfl,fun he=>hv ?_⟩
     subst he
     exact (zg.1 hk).2.symm)
  rw [hfl,bPs]
  cases fl with
  | brk s=>exact absurd hr (by simp)
  | ret r=>rw [nk,hr.1,zf hr.2]
  | next s =>
   simp only [Nat.zero_add,List.take_length] at hr
   rw [hl,List.take_length] at hr
   rw [iP,zt hr]
 ·rw [nh,zf hl,zf (fun h=>hl (by rw [h]))]
  rfl
theorem idxO (l : Rows) (p : Rq → Bool) (f : Rq → Option Bool) (hf : ∀ x ∈ l,f x = some (p x)) (hl : l.length ≤ 10000000) : bO l f = some (bh p l,l) := by
 unfold bO
 rw [qY (by omega),bPs,Int.toNat_natCast]
 obtain ⟨fl,hfl,hr⟩ := fH (step := fun (j1 : Nat) (_ : Nat) (s1 : Rows)=>ah (aO s1 (j1 : Int)) fun (x14 : Rq)=>ah (f x14) fun x16=>cond x16 (some (Flow.ret ((j1 : Int),s1))) (some (.next s1)))
  (fun j s=>s = l ∧ ∀ x ∈ l.take j,p x = false) (fun r=>r = (bh p l,l)) (List.range l.length) 0 l ⟨rfl,by simp⟩ (fun k v s hk hI=>by
   simp only [Nat.zero_add] at hI ⊢
   have hkl := (zg.1 hk).1
   simp at hkl
   obtain ⟨rfl,hI⟩ := hI
   rw [gT hkl,bPs,hf _ (List.getElem_mem hkl),bPs]
   cases hp : p s[k] with
   | true=>exact ⟨_,rfl,by simp only; rw [nR hkl hI hp]⟩
   | false =>
    refine ⟨_,rfl,rfl,fun x hx=>?_⟩
    rw [List.take_add_one,ze hkl,List.mem_append] at hx
    rcases hx with hx | hx
    ·exact hI x hx
    ·simp at hx
     rw [hx]
     exact hp)
 rw [hfl,bPs]
 cases fl with
 | brk s=>exact absurd hr (by simp)
 | ret r=>rw [nk,hr]
 | next s =>
  simp only [Nat.zero_add,List.length_range,List.take_length] at hr
  rw [iP,hr.1,jT hr.2]
theorem deleteFunc_eq (l : Rows) (p : Rq → Bool) (f : Rq → Option Bool) (hf : ∀ x ∈ l,f x = some (p x)) (hl : l.length ≤ 1000000) : dh l f = some (l.filter fun x=>!p x) := by
 unfold dh
 rw [idxO l p f hf (by omega),bPs]
 simp only
 rw [dV trivial,bPs]
 by_cases hneg : bh p l = -1
 ·rw [kw hneg,zc]
  congr 1
  symm
  rw [List.filter_eq_self]
  intro x hx
  have : decide (bh p l ≥ 0) = false := by rw [hneg]; rfl
  rw [iR] at this
  have := List.any_eq_false.1 this x hx
  simpa using this
 ·rw [cP hneg,zd]
  have h0 : 0 ≤ bh p l := by rcases idxOf_neg (p := p) (l := l) with h | h; exact absurd h hneg; exact h
  obtain ⟨i,hi⟩ : ∃ i : Nat,bh p l = i := ⟨(bh p l).toNat,by omega⟩
  have hil : i < l.length := by have := ou h0; omega
  have hpre : (l.take i).filter (fun x=>!p x) = l.take i := by
   rw [List.filter_eq_self]
   intro x hx
   have : l.findIdx? p = some i := by
    unfold bh at hi
    cases hq : l.findIdx? p with
    | none=>rw [hq] at hi; simp at hi
    | some j=>rw [hq] at hi; exact congrArg some (by have hi : (j : Int) = (i : Int) := hi; omega)
   obtain ⟨_,_,hlt⟩ := List.findIdx?_eq_some_iff_getElem.1 this
   obtain ⟨j,hj,rfl⟩ := List.mem_take_iff_getElem.1 hx
   simp [hlt j (by omega)]
  have hpi : p l[i] = true := by
   obtain ⟨x,hx,hp⟩ := mW h0
   rw [hi,Int.toNat_natCast,ze hil] at hx
   cases hx
   exact hp
  rw [hi,bJ (n := (i : Int) + 1) (by omega) (by omega)]
  obtain ⟨r,hr,hq⟩ := gv (step := fun (s1 : Rows × Int × Int) =>
   cond (decide (s1.2.2 < (s1.1.length : Int)))
    (ah (aO s1.1 s1.2.2) fun (x24 : Rq)=>ah (f x24) fun x28=>cond (!x28) (ah (aO s1.1 s1.2.1) fun (_ : Rq)=>bH (s1.1.set s1.2.1.toNat x24) fun (y4 : Rows)=>some (.next (y4,(IntKind.i64.wrap (s1.2.1 + (1 : Int))),(IntKind.i64.wrap (s1.2.2 + (1 : Int))))))
     (some (.next (s1.1,s1.2.1,(IntKind.i64.wrap (s1.2.2 + (1 : Int)))))))
    (some (.brk (s1.1,s1.2.1,s1.2.2)))) (s := (l,(i : Int),(i : Int) + 1)) (k := fun (s1 : Rows × Int × Int)=>ah (cutI s1.1 s1.2.1) fun (y5 : Rows)=>ah (cutI y5 s1.2.1) fun (y6 : Rows)=>some y6) (R := fun r=>r = l.filter fun x=>!p x)
   (fun s=>∃ a j : Nat,s.2.1 = a ∧ s.2.2 = j ∧ a < j ∧ j ≤ l.length ∧ s.1.length = l.length ∧ s.1.take a = (l.take j).filter (fun x=>!p x) ∧ s.1.drop j = l.drop j) (fun s=>(l.length - s.2.2).toNat)
   (fun s=>∃ a : Nat,s.2.1 = a ∧ a ≤ s.1.length ∧ s.1.take a = l.filter fun x=>!p x)
   ⟨i,i + 1,rfl,by show (i : Int) + 1 = ((i + 1 : Nat) : Int); omega,by omega,by omega,rfl,by
    show l.take i = _
    rw [List.take_add_one,ze hil,List.filter_append,hpre]
    simp [hpi],rfl⟩
   (fun s hI=>by
    obtain ⟨a,j,h1,h2,h3,h4,h5,h6,h7⟩ := hI
    obtain ⟨d,s1,s2⟩ := s
    simp only at h1 h2 h5 h6 h7 ⊢
    subst h1
    subst h2
    by_cases hlt : j < l.length
    ·rw [zt (show (j : Int) < (d.length : Int) from by omega),zc,gT (by omega),bPs]
     have hdj : d[j]? = l[j]? := by
      have := congrArg (fun q=>q[0]?) h7
      simpa using this
     have hdje : d[j] = l[j] := by
      rw [ze (by omega),ze hlt] at hdj
      exact Option.some.inj hdj
     have hdrop : ∀ e : Rows,e.drop j = l.drop j → e.drop (j + 1) = l.drop (j + 1) := fun e he=>by
      rw [← List.drop_drop,← List.drop_drop,he]
     rw [hdje,hf _ (List.getElem_mem hlt),bPs,bJ (n := (j : Int) + 1) (by omega) (by omega),bJ (n := (a : Int) + 1) (by omega) (by omega)]
     cases hp : p l[j] with
     | true =>
      refine ⟨_,rfl,⟨a,j + 1,rfl,by show (j : Int) + 1 = ((j + 1 : Nat) : Int); omega,by omega,by omega,h5,?_,hdrop d h7⟩,by show ((l.length : Int) - ((j : Int) + 1)).toNat < ((l.length : Int) - (j : Int)).toNat; omega⟩
      show d.take a = _
      rw [h6,List.take_add_one,ze hlt,List.filter_append]
      simp [hp]
     | false =>
      simp only [Bool.not_false,zc]
      rw [gT (by omega),bPs,bU,Int.toNat_natCast]
      refine ⟨_,rfl,⟨a + 1,j + 1,by show (a : Int) + 1 = ((a + 1 : Nat) : Int); omega,by show (j : Int) + 1 = ((j + 1 : Nat) : Int); omega,by omega,by omega,by show (d.set a l[j]).length = l.length; simp [h5],?_,?_⟩,by show ((l.length : Int) - ((j : Int) + 1)).toNat < ((l.length : Int) - (j : Int)).toNat; omega⟩
      ·show (d.set a l[j]).take (a + 1) = _
       rw [List.take_add_one,List.getElem?_set_self (by omega),List.take_set_of_le (by omega),h6,List.take_add_one,ze hlt,List.filter_append]
       simp [hp]
      ·show (d.set a l[j]).drop (j + 1) = _
       rw [List.drop_set_of_lt (by omega)]
       exact hdrop d h7
    ·rw [zf (show ¬ (j : Int) < (d.length : Int) from by omega)]
     refine ⟨_,rfl,a,rfl,by show a ≤ d.length; omega,?_⟩
     show d.take a = _
     rw [h6,List.take_of_length_le (by omega)])
   (fun s hq=>by
    obtain ⟨a,h1,h2,h3⟩ := hq
    rw [h1]
    unfold cutI
    rw [zp ⟨by omega,by simpa using h2⟩,bPs,Int.toNat_natCast,zp ⟨by omega,by simp; omega⟩,bPs,List.take_take,Nat.min_self]
    exact ⟨_,rfl,h3⟩)
  rw [← hq]
  exact hr
def lj : Rows → Rows → Rows
 | [],_=>[]
 | x :: a,left=>if x ∈ left then lj a (left.erase x) else x :: lj a left
theorem erase_idx {α : Type} [BEq α] [LawfulBEq α] [DecidableEq α] {l : List α} {x : α} {i : Nat} (h : l.findIdx? (fun y=>decide (x = y)) = some i) : l.take i ++ l.drop (i + 1) = l.erase x := by
 induction l generalizing i with
 | nil=>simp at h
 | cons a l ih =>
  rw [List.findIdx?_cons] at h
  by_cases hx : x = a
  ·subst hx; simp at h; subst h; simp
  ·have e : decide (x = a) = false := zf hx
   rw [e] at h
   simp only [Bool.false_eq_true,if_false,Option.map_eq_some_iff] at h
   obtain ⟨j,hj,rfl⟩ := h
   have hne : (a == x) = false := by simp; exact fun h=>hx h.symm
   rw [List.erase_cons,hne]
   simp [ih hj]
theorem less_run : ∀ (a : Rows) (j : Nat) (left out : Rows),left.length ≤ 1000000 → out.length + a.length ≤ 1000000 →
  aM (σ := Rows × Rows) (ρ := Empty) (fun (_ : Nat) (x1 : Rq) (s1 : Rows × Rows) =>
  ah (bO s1.1 (fun a0=>iT a0 x1)) fun x20 =>
  ah (eW (x20.2.length = s1.1.length) ()) fun (_ : Unit) =>
  cond (decide (x20.1 ≥ (0 : Int)))
   (ah (delI x20.2 x20.1 (IntKind.i64.wrap (x20.1 + (1 : Int)))) fun x27 =>
   some (.next (x27,s1.2)))
   (ah (dL 24 s1.2 ([x1] : Rz)) fun (x31 : Rz) =>
   some (.next (x20.2,x31)))) j a (left,out) = some (.next ((a.foldl (fun l x=>l.erase x) left),out ++ lj a left))
 | [],j,left,out,_,_=>by simp [aM,lj]
 | x :: a,j,left,out,hl,ho=>by
  rw [aM,idxO left (fun y=>decide (x = y)) _ (fun y _=>by unfold iT; rw [equalRow]; rfl) (by omega),bPs]
  simp only
  rw [dV trivial,bPs,lj,List.foldl_cons]
  by_cases hx : x ∈ left
  ·have hany : decide (bh (fun y=>decide (x = y)) left ≥ 0) = true := by rw [iR,List.any_eq_true]; exact ⟨x,hx,by simp⟩
   rw [hany,zc,zp hx]
   have h0 := of_decide_eq_true hany
   unfold bh at h0 ⊢
   cases hq : left.findIdx? (fun y=>decide (x = y)) with
   | none=>rw [hq] at h0; simp at h0
   | some i =>
    have hil := (List.findIdx?_eq_some_iff_getElem.1 hq).1
    simp only
    rw [bJ (by omega) (by omega)]
    have hd : delI left (i : Int) ((i : Int) + 1) = some (left.erase x) := by
     unfold delI
     rw [zp ⟨by omega,by omega,by omega⟩,show ((i : Int)).toNat = i from rfl,show ((i : Int) + 1).toNat = i + 1 from by omega,erase_idx hq]
    rw [hd,bPs]
    exact less_run a (j + 1) (left.erase x) out (by have := List.length_erase_le (a := x) (l := left); omega) (by simp at ho; omega)
  ·have hany : decide (bh (fun y=>decide (x = y)) left ≥ 0) = false := by
    rw [iR,List.any_eq_false]
    intro y hy he
    have : x = y := by simpa using he
    exact hx (this ▸ hy)
   rw [hany,zd,zy hx,cn (by decide) (by simp at ho ⊢; omega),bPs]
   simp only
   rw [less_run a (j + 1) left _ hl (by simp at ho ⊢; omega),List.erase_of_not_mem hx]
   simp
theorem less_eq (a b : Rows) (ha : a.length ≤ 1000000) (hb : b.length ≤ 1000000) : kC a b = some (lj a b) := by
 unfold kC
 rw [less_run a 0 b [] hb (by simpa using ha),bPs,ck]
 rfl
theorem qR : ∀ (a b : Rows),(lj a b).Sublist a
 | [],_=>by simp [lj]
 | x :: a,b=>by
  rw [lj]
  split
  ·exact (qR a _).cons x
  ·exact (qR a b).cons_cons x
theorem concat2 (x y : Rq) (hx : x.length ≤ 1000000) (hy : y.length ≤ 1000000) : bW [x,y] = some (x ++ y) := by
 unfold bW
 simp only [aM,Int.zero_add]
 rw [bJ (n := (x.length : Int)) (by omega) (by omega),zf (show ¬ (x.length : Int) < 0 from by omega)]
 simp only [zd]
 rw [bJ (n := (x.length : Int) + (y.length : Int)) (by omega) (by omega),zf (show ¬ (x.length : Int) + (y.length : Int) < 0 from by omega)]
 simp only [zd,bPs,ck]
 rw [growI_ok ⟨by omega,by omega,by unfold maxLen; omega⟩,bPs,cn (by decide) (by simp; omega),bPs]
 simp only [List.nil_append]
 rw [cn (by decide) (by omega)]
 rfl
def ig (f : Rq → Bool) (x : Rq) (b : Rows) : Rows := (b.map fun y=>x ++ y).filter f
def padR (f : Rq → Bool) (left : Bool) (pad x : Rq) (b : Rows) : Rows := if left = true ∧ ig f x b = [] then [x ++ pad] else ig f x b
def jV (f : Rq → Bool) (left : Bool) (pad : Rq) (a b : Rows) : Rows := (a.map fun x=>padR f left pad x b).flatten
theorem match_run (f : Rq → Bool) (e : LExpr) (r : LRun) (cols : List LCol) (ex : List LExpr) (he : aO ex 0 = some e) (hf : ∀ z,kS (bY (bn r cols z) e) = f z) (x : Rq) (hx : x.length ≤ 1000)
  (b : Rows) (out : Rows) (found : Bool) (hb : ∀ y ∈ b,y.length ≤ 1000) (ho : out.length + b.length ≤ 1000000) :
  aM (σ := Rows × Bool) (ρ := Empty) (fun (_ : Nat) (x6 : Rq) (s6 : Rows × Bool) =>
   ah (bW ([x,x6] : Rows)) fun x58 =>
   ah (aO ex 0) fun (x65 : LExpr) =>
   bH (bn r cols x58) fun x62 =>
   bH (bY x62 x65) fun x67 =>
   bH (kS x67) fun x68 =>
   cond x68
    (ah (dL 24 s6.1 ([x58] : Rows)) fun (x72 : Rows)=>some (.next (x72,true)))
    (some (.next (s6.1,s6.2)))) 0 b (out,found) = some (.next (out ++ ig f x b,found || !(ig f x b).isEmpty)) := by
 rw [rMa (xs := b) (s := (out,found)) (fun k=>(out ++ ig f x (b.take k),found || !(ig f x (b.take k)).isEmpty)) (by simp [ig]) (fun k y hk=>by
  have hkl := (zg.1 hk).1
  have hm : (ig f x (b.take k)).length ≤ k := by unfold ig; exact Nat.le_trans (List.length_filter_le _ _) (by simp; omega)
  have hs : ig f x (b.take (k + 1)) = ig f x (b.take k) ++ if f (x ++ y) then [x ++ y] else [] := by
   unfold ig
   rw [List.take_add_one,hk,List.map_append,List.filter_append]
   cases h : f (x ++ y) <;> simp [h]
  rw [concat2 x y (by omega) (by have := hb y (gB hk); omega),bPs,he,bPs,hs]
  simp only [bU,hf]
  cases hz : f (x ++ y) with
  | true =>
   rw [zc,cn (by decide) (by simp; omega),bPs]
   simp
  | false=>simp),List.take_length]
theorem padR_len (f : Rq → Bool) (left : Bool) (pad x : Rq) (b : Rows) : (padR f left pad x b).length ≤ max 1 b.length := by
 unfold padR
 split
 ·simp; omega
 ·have : (ig f x b).length ≤ b.length := by
   unfold ig
   exact Nat.le_trans (List.length_filter_le _ _) (by simp)
  omega
theorem qF (f : Rq → Bool) (left : Bool) (pad : Rq) (a b : Rows) : (jV f left pad a b).length ≤ a.length * max 1 b.length := by
 unfold jV
 induction a with
 | nil=>simp
 | cons x a ih =>
  have := padR_len f left pad x b
  simp only [List.map_cons,List.flatten_cons,List.length_append,List.length_cons,Nat.add_mul,Nat.one_mul]
  omega
def eM (key : Rq → Rq) : Rows → Rows → Rows
 | ks,[]=>ks
 | ks,x :: l=>eM key (if key x ∈ ks then ks else ks ++ [key x]) l
theorem keysF_app (key : Rq → Rq) : ∀ (l l' ks : Rows),eM key ks (l ++ l') = eM key (eM key ks l) l'
 | [],_,_=>rfl
 | x :: l,l',ks=>by rw [List.cons_append,eM,keysF_app key l l',eM]
theorem rL (key : Rq → Rq) : ∀ (l ks : Rows),ks.Nodup → (eM key ks l).Nodup
 | [],_,h=>h
 | x :: l,ks,h=>by
  rw [eM]
  refine rL key l _ ?_
  split
  ·exact h
  ·rename_i hx
   rw [List.nodup_append]
   exact ⟨h,by simp,fun a ha b hb hab=>by simp at hb; exact hx (hb ▸ hab ▸ ha)⟩
theorem oT (key : Rq → Rq) : ∀ (l ks : Rows) (k : Rq),k ∈ eM key ks l ↔ k ∈ ks ∨ ∃ x ∈ l,key x = k
 | [],ks,k=>by simp [eM]
 | x :: l,ks,k=>by
  rw [eM,oT key l]
  split
  ·rename_i h
   constructor
   ·rintro (h1 | ⟨y,hy,e⟩)
    ·exact .inl h1
    ·exact .inr ⟨y,by simp [hy],e⟩
   ·rintro (h1 | ⟨y,hy,e⟩)
    ·exact .inl h1
    ·rcases List.mem_cons.1 hy with rfl | hy
     ·exact .inl (e ▸ h)
     ·exact .inr ⟨y,hy,e⟩
  ·constructor
   ·rintro (h1 | ⟨y,hy,e⟩)
    ·rcases List.mem_append.1 h1 with h1 | h1
     ·exact .inl h1
     ·exact .inr ⟨x,by simp,by simp at h1; exact h1.symm⟩
    ·exact .inr ⟨y,by simp [hy],e⟩
   ·rintro (h1 | ⟨y,hy,e⟩)
    ·exact .inl (by simp [h1])
    ·rcases List.mem_cons.1 hy with rfl | hy
     ·exact .inl (by simp [e])
     ·exact .inr ⟨y,hy,e⟩
theorem oN (key : Rq → Rq) : ∀ (l ks : Rows),(eM key ks l).length ≤ ks.length + l.length
 | [],_=>by simp [eM]
 | x :: l,ks=>by
  rw [eM]
  have := oN key l (if key x ∈ ks then ks else ks ++ [key x])
  split at this
  ·rename_i h; rw [zp h]; simp; omega
  ·rename_i h; rw [zy h]; simp at this ⊢; omega
def eZ (key : Rq → Rq) (l : Rows) (k : Rq) : Rows := l.filter fun x=>decide (key x = k)
theorem group_run (key : Rq → Rq) (q : LQuery) (r : LRun) (cols : List LCol) (hk : ∀ x,dz r cols x q.exprs = some (key x)) (ks0 : Rows) (hn : ks0.Nodup) (l : Rows) (hl : l.length ≤ 1000000) (hks : ks0.length ≤ 1) :
  aM (σ := Rows × List Rows) (ρ := Empty) (fun (_ : Nat) (x2 : Rq) (s2 : Rows × List Rows) =>
  ah (dz r cols x2 q.exprs) fun x38 =>
  ah (bO s2.1 (fun a0=>fW a0 x38)) fun x41 =>
  ah (eW (x41.2.length = s2.1.length) ()) fun (_ : Unit) =>
  ah (
   cond (decide (x41.1 < (0 : Int)))
    (ah (dL 24 x41.2 ([x38] : Rows)) fun (x49 : Rows) =>
    ah (dL 24 s2.2 ([[]] : List Rows)) fun (x52 : List Rows) =>
    some (x49,x52,(x41.2.length : Int)))
    (some (x41.2,s2.2,x41.1))) fun (t7 : Rows × List Rows × Int) =>
  ah (aO t7.2.1 t7.2.2) fun (x57 : Rows) =>
  ah (dL 24 x57 ([x2] : Rows)) fun (x61 : Rows) =>
  ah (aO t7.2.1 t7.2.2) fun (_ : Rows) =>
  bH (t7.2.1.set t7.2.2.toNat x61) fun (y8 : List Rows) =>
  some (.next (t7.1,y8))) 0 l (ks0,ks0.map fun _=>[]) = some (.next (eM key ks0 l,(eM key ks0 l).map (eZ key l))) := by
 rw [rMa (xs := l) (s := (ks0,ks0.map fun _=>[])) (fun k=>(eM key ks0 (l.take k),(eM key ks0 (l.take k)).map (eZ key (l.take k)))) (by
  show (ks0,ks0.map (eZ key [])) = _
  congr 1) (fun k x hkx=>by
   have hkl := (zg.1 hkx).1
   have hlen := oN key (l.take k) ks0
   have hlen2 : (eM key ks0 (l.take k)).length ≤ 1 + k := by simp at hlen; omega
   have hnd := rL key (l.take k) ks0 hn
   have hmem : ∀ y ∈ l.take k,key y ∈ eM key ks0 (l.take k) := fun y hy=>(oT key _ _ _).2 (.inr ⟨y,hy,rfl⟩)
   have hsucc : l.take (k + 1) = l.take k ++ [x] := by rw [List.take_add_one,hkx]; rfl
   rw [hsucc,keysF_app]
   generalize hK : eM key ks0 (l.take k) = K at *
   have hgl : ∀ kk,(eZ key (l.take k) kk).length ≤ k := fun kk=>by
    unfold eZ
    exact Nat.le_trans (List.length_filter_le _ _) (by simp; omega)
   rw [hk x,bPs,idxO K (fun y=>decide (key x = y)) _ (fun y _=>by unfold fW; rw [equalRow]; rfl) (by omega),bPs]
   simp only
   rw [dV trivial,bPs]
   have hg : ∀ kk,eZ key (l.take k ++ [x]) kk = eZ key (l.take k) kk ++ if key x = kk then [x] else [] := fun kk=>by
    unfold eZ
    rw [List.filter_append]
    congr 1
    by_cases h : key x = kk <;> simp [h]
   by_cases hx : key x ∈ K
   ·have hany : decide (bh (fun y=>decide (key x = y)) K < 0) = false := by
     have : decide (bh (fun y=>decide (key x = y)) K ≥ 0) = true := by rw [iR,List.any_eq_true]; exact ⟨_,hx,by simp⟩
     have := of_decide_eq_true this
     exact zf (by omega)
    have h0 : 0 ≤ bh (fun y=>decide (key x = y)) K := by have := of_decide_eq_false hany; omega
    obtain ⟨i,hi⟩ : ∃ i : Nat,bh (fun y=>decide (key x = y)) K = i := ⟨(bh (fun y=>decide (key x = y)) K).toNat,by omega⟩
    obtain ⟨z,hz,hzk⟩ := mW h0
    rw [hi,Int.toNat_natCast] at hz
    have hzk : key x = z := by simpa using hzk
    subst hzk
    have hiK := (zg.1 hz).1
    rw [hany,zd,bPs,hi]
    simp only
    have hgi : (K.map (eZ key (l.take k)))[i]? = some (eZ key (l.take k) (key x)) := by rw [List.getElem?_map,hz]; rfl
    rw [ll hgi,bPs,cn (by decide) (by have := hgl (key x); simp; omega),bPs,bPs,bU,Int.toNat_natCast]
    congr 3
    ·simp [eM,hx]
    ·have hkk : eM key K [x] = K := by simp [eM,hx]
     rw [hkk]
     apply List.ext_getElem?
     intro j
     rw [List.getElem?_set,List.getElem?_map]
     by_cases hij : i = j
     ·subst hij
      rw [zp rfl,zp (by simpa using hiK),List.getElem?_map,hz,Option.map_some,hg,zp rfl]
     ·rw [zy hij,List.getElem?_map]
      cases hj : K[j]? with
      | none=>rfl
      | some w =>
       simp only [Option.map_some]
       have hne : key x ≠ w := fun he=>by
        subst he
        have hjK := (zg.1 hj).1
        rw [List.nodup_iff_pairwise_ne,List.pairwise_iff_getElem] at hnd
        have e1 := (zg.1 hz).2
        have e2 := (zg.1 hj).2
        rcases Nat.lt_or_gt_of_ne hij with h | h
        ·exact hnd i j hiK hjK h (by rw [e1,e2])
        ·exact hnd j i hjK hiK h (by rw [e1,e2])
       rw [hg,zy hne,List.append_nil]
   ·have hany : decide (bh (fun y=>decide (key x = y)) K < 0) = true := by
     have : decide (bh (fun y=>decide (key x = y)) K ≥ 0) = false := by
      rw [iR,List.any_eq_false]
      intro y hy he
      have : key x = y := by simpa using he
      exact hx (this ▸ hy)
     have := of_decide_eq_false this
     exact zt (by omega)
    rw [hany,zc,cn (by decide) (by simp; omega),bPs,cn (by decide) (by simp; omega),bPs,bPs]
    simp only
    have hgi : (K.map (eZ key (l.take k)) ++ [[]])[K.length]? = some [] := by
     rw [List.getElem?_append_right (by simp),zl,Nat.sub_self]; rfl
    rw [ll hgi,bPs,cn (by decide) (by simp),bPs,bPs,bU,Int.toNat_natCast]
    have hkk : eM key K [x] = K ++ [key x] := by simp [eM,hx]
    rw [hkk]
    congr 3
    have hold : eZ key (l.take k) (key x) = [] := by
     unfold eZ
     rw [List.filter_eq_nil_iff]
     intro y hy he
     have : key y = key x := by simpa using he
     exact hx (this ▸ hmem y hy)
    rw [List.map_append,List.set_append_right _ _ (by simp),zl,Nat.sub_self]
    congr 1
    ·apply List.map_congr_left
     intro w hw
     have hne : key x ≠ w := fun he=>hx (he ▸ hw)
     rw [hg,zy hne,List.append_nil]
    ·simp [hg,hold])]
 rw [List.take_length]
def kQ (op : List UInt8) (s : Int × LVal) (v : LVal) : Int × LVal := (IntKind.i64.wrap (s.1 + v.int),if (op = sMin ∧ lh v s.2 = true) ∨ (op = sMax ∧ lh s.2 v = true) then v else s.2)
def pK (op : List UInt8) (l : Rq) : LVal :=
 if op = ie then fN l.length else match l with
  | []=>.nul
  | v :: _=>if op = sSum then fN (l.foldl (kQ op) (0,v)).1 else (l.foldl (kQ op) (0,v)).2
theorem compute_eq (op : List UInt8) (l : Rq) : fF op l = some (pK op l) := by
 unfold fF pK
 by_cases h1 : op = ie
 ·subst h1; rfl
 ·have e1 : (op == ([99,111,117,110,116] : List UInt8)) = false := by simpa using h1
  rw [e1,zd,zy h1]
  cases l with
  | nil=>rfl
  | cons v l =>
   have e2 : (((v :: l).length : Int) == 0) = false := cP (by simp; omega)
   rw [e2,zd]
   have e3 : aO (v :: l) 0 = some v := rfl
   rw [e3,bPs]
   rw [mE (xs := v :: l) (kQ op) (fun k x _=>by
    generalize (((v :: l).take k).foldl (kQ op) (0,v)) = s
    unfold kQ
    by_cases m : op = sMin
    ·subst m
     simp only [bU]
     cases lh x s.2 <;> simp
    ·have em : (op == ([109,105,110] : List UInt8)) = false := by simpa using m
     rw [em,zd]
     by_cases n : op = sMax
     ·subst n
      simp only [bU]
      cases lh s.2 x <;> simp
     ·have en : (op == ([109,97,120] : List UInt8)) = false := by simpa using n
      rw [en,zd]
      simp [m,n]),bPs,ck]
   by_cases h2 : op = sSum
   ·subst h2; rfl
   ·have e4 : (op == ([115,117,109] : List UInt8)) = false := by simpa using h2
    rw [e4,zd]
    simp only
    rw [zy h2]
def aggR (r : LRun) (cols : List LCol) (a : LAggregateCall) (l : Rows) : LVal := match a.args with
 | []=>fN l.length
 | e :: _=>pK a.function ((l.map fun x=>bY (bn r cols x) e).filter fun v=>v.kind != 0)
theorem aggR_eq (r : LRun) (cols : List LCol) (a : LAggregateCall) (l : Rows) (hl : l.length ≤ 1000000) : jx r a cols l = some (aggR r cols a l) := by
 unfold jx aggR
 cases ha : a.args with
 | nil=>rfl
 | cons e es =>
  have e2 : (((e :: es).length : Int) == 0) = false := cP (by simp; omega)
  rw [e2,zd]
  rw [rMa (xs := l) (s := []) (fun k=>((l.take k).map fun x=>bY (bn r cols x) e).filter fun v=>v.kind != 0) rfl (fun k x hk=>by
   have hkl := (zg.1 hk).1
   have e3 : aO (e :: es) 0 = some e := rfl
   rw [e3]
   simp only [bPs,bU]
   have hb : (((l.take k).map fun x=>bY (bn r cols x) e).filter fun v=>v.kind != 0).length ≤ k := Nat.le_trans (List.length_filter_le _ _) (by simp; omega)
   rw [List.take_add_one,hk,List.map_append,List.filter_append]
   cases hv : (bY (bn r cols x) e).kind != 0 with
   | true =>
    rw [zc,cn (by decide) (by simp at hb ⊢; omega),bPs]
    simp [hv]
   | false=>simp [hv]),bPs,ck,List.take_length,compute_eq]
  rfl
def lO (r : LRun) (cols : List LCol) (q : LQuery) (l : Rows) : Rows :=
 (eM (fun x=>q.exprs.map fun e=>bY (bn r cols x) e) (if q.exprs = [] then [[]] else []) l).map fun k =>
  k ++ q.aggregates.map fun a=>aggR r cols a (eZ (fun x=>q.exprs.map fun e=>bY (bn r cols x) e) l k)
theorem group_eq (r : LRun) (cols : List LCol) (q : LQuery) (l : Rows) (hl : l.length ≤ 999999) (he : q.exprs.length ≤ 1000000) (ha : q.aggregates.length ≤ 1000000) : iK r q cols l = some (lO r cols q l) := by
 unfold iK lO
 generalize hkey : (fun x=>q.exprs.map fun e=>bY (bn r cols x) e) = key
 have hk : ∀ x,dz r cols x q.exprs = some (key x) := fun x=>by rw [kx r cols x q.exprs (by omega),← hkey]
 have hinit : (cond ((q.exprs.length : Int) == (0 : Int)) (([[]],[[]])) (([],[])) : Rows × List Rows) = ((if q.exprs = [] then [[]] else []),((if q.exprs = [] then [[]] else []) : Rows).map fun _=>[]) := by
  cases q.exprs with
  | nil=>rfl
  | cons e es=>rw [show (((e :: es).length : Int) == 0) = false from cP (by simp; omega)]; rfl
 rw [bU,hinit]
 generalize hks : (if q.exprs = [] then [[]] else [] : Rows) = ks0
 have hks1 : ks0.length ≤ 1 := by rw [← hks]; split <;> simp
 have hks2 : ks0.Nodup := by rw [← hks]; split <;> simp
 rw [group_run key q r cols hk ks0 hks2 l (by omega) hks1,bPs,ck]
 generalize hK : eM key ks0 l = K
 have hKl : K.length ≤ 1000000 := by rw [← hK]; have := oN key l ks0; omega
 simp only
 rw [dV (by rw [zl]; omega),bPs,qY (by omega),bPs,Int.toNat_natCast]
 have hgl : ∀ kk,(eZ key l kk).length ≤ 1000000 := fun kk=>by
  unfold eZ
  exact Nat.le_trans (List.length_filter_le _ _) (by omega)
 have hkl : ∀ k ∈ K,k.length ≤ 1000000 := fun k hkm=>by
  rw [← hK] at hkm
  rcases (oT key l ks0 k).1 hkm with h | ⟨x,_,rfl⟩
  ·rw [← hks] at h
   split at h
   ·simp at h; subst h; simp
   ·simp at h
  ·rw [← hkey]; simpa using he
 rw [rMa (xs := List.range K.length) (s := []) (fun j=>(K.take j).map fun k=>k ++ q.aggregates.map fun a=>aggR r cols a (eZ key l k)) rfl (fun j n hj=>by
  obtain ⟨hjl,hjn⟩ := zg.1 hj
  simp at hjl
  rw [gT hjl,bPs]
  have hg : (K.map (eZ key l))[j]? = some (eZ key l K[j]) := by rw [List.getElem?_map,ze hjl]; rfl
  rw [rMa (xs := q.aggregates) (s := K[j]) (fun i=>K[j] ++ (q.aggregates.take i).map fun a=>aggR r cols a (eZ key l K[j])) (by simp) (fun i a hi=>by
   have hil := (zg.1 hi).1
   have hkj := hkl K[j] (List.getElem_mem hjl)
   rw [ll hg,bPs,aggR_eq r cols a _ (hgl _),bPs,cn (by decide) (by simp; omega),bPs,List.take_add_one,hi]
   simp),bPs,ck,cn (by decide) (by simp; omega),bPs,List.take_length]
  congr 2
  rw [List.take_add_one,ze hjl,List.map_append]
  rfl),bPs,ck]
 simp
end
end Go.Proofs.YtlddibnpcmlobaaGreat
